/- Parts of memory, found by what they are about: the frame is looked through by instances. -/
import Derived.Test.YtonajgmamdeohaaGreatDoorAgg
import Derived.Test.YtonajgmamdeohaaGreatDoorMaps
import Derived.Test.YtonajgmamdeohaaGreatDoorSl3
namespace Go.Proofs.YtonajgmamdeohaaGreatDoor
open Go
set_option linter.unusedVariables false

/-- What a part is about. -/
inductive Key where
  | blk (b : Nat)
  | row (v : Value)
  | map (b : Nat)
  | obj (b : Nat)

class Face (k : Key) (X : HP) : Prop
instance (b : Nat) (o : Obj) : Face (.blk b) (Blk b o) := ⟨⟩
instance (T s : Nat) (v : Value) (n : Nat) (xs : List Value) : Face (.row v) (RowO T s v n xs) := ⟨⟩
instance (T s : Nat) (v : Value) (n : Nat) (xs : List Value) : Face (.row v) (Row T s v n xs) := ⟨⟩
instance {κ : Type} (enc : κ → Value) (b : Nat) (l : List (κ × Value)) : Face (.map b) (MapP enc b l) := ⟨⟩

/-- A has the part X, about k; with Y in X's place it is C Y. -/
class Hole (k : Key) (A : HP) (X : outParam HP) (C : outParam (HP → HP)) : Prop where
  eq : A = C X
  fr : ∃ R, ∀ Y, C Y = Y * R

section holes
variable {k : Key} {A B X F : HP} {C : HP → HP}
instance (priority := 1300) Hole.l [Face k X] : Hole k (X * F) X (fun Y => Y * F) := ⟨rfl, F, fun _ => rfl⟩
instance (priority := 1200) Hole.r [Face k X] : Hole k (F * X) X (fun Y => F * Y) := ⟨rfl, F, fun Y => sep_comm F Y⟩
instance (priority := 1100) Hole.dr [i : Hole k B X C] : Hole k (A * B) X (fun Y => A * C Y) :=
  ⟨congrArg (A * ·) i.eq, by obtain ⟨R, h⟩ := i.fr; exact ⟨A * R, fun Y => by rw [h]; ac_rfl⟩⟩
instance Hole.dl [i : Hole k A X C] : Hole k (A * B) X (fun Y => C Y * B) :=
  ⟨congrArg (· * B) i.eq, by obtain ⟨R, h⟩ := i.fr; exact ⟨R * B, fun Y => by rw [h]; ac_rfl⟩⟩
end holes

/-- The part about k, taken out of A; the rest. -/
class Take (k : Key) (A : HP) (X R : outParam HP) : Prop where
  eq : A = X * R
section take
variable {k : Key} {A B X F R : HP}
instance (priority := 1300) Take.l [Face k X] : Take k (X * F) X F := ⟨rfl⟩
instance (priority := 1200) Take.r [Face k X] : Take k (F * X) X F := ⟨sep_comm F X⟩
instance (priority := 1100) Take.dr [i : Take k B X R] : Take k (A * B) X (A * R) := ⟨by rw [i.eq]; ac_rfl⟩
instance Take.dl [i : Take k A X R] : Take k (A * B) X (R * B) := ⟨by rw [i.eq]; ac_rfl⟩
end take

/-- What is true of A's memory is true of a part that B tells of. -/
class Gives (A B : HP) : Prop where
  ent : Ent A B
section gives
variable {A B X : HP}
instance (priority := 1300) Gives.rfl' : Gives A A := ⟨Ent.rfl' A⟩
instance (priority := 1200) Gives.l [i : Gives A X] : Gives (A * B) X := ⟨(Ent.left A B).trans i.ent⟩
instance (priority := 1100) Gives.r [i : Gives B X] : Gives (A * B) X := ⟨(Ent.right A B).trans i.ent⟩
instance (T s : Nat) (v : Value) (n : Nat) (xs : List Value) : Gives (RowO T s v n xs) (Reads s v n xs) := ⟨RowO.reads T s v n xs⟩
instance (T s : Nat) (v : Value) (n : Nat) (xs : List Value) : Gives (Row T s v n xs) (Reads s v n xs) := ⟨Row.reads T s v n xs⟩
end gives

/-- X is taken out of A; the rest. -/
class Pull (A X : HP) (R : outParam HP) : Prop where
  eq : A = X * R
section pull
variable {A B X F R : HP}
instance (priority := 1300) Pull.l : Pull (X * F) X F := ⟨rfl⟩
instance (priority := 1200) Pull.r : Pull (F * X) X F := ⟨sep_comm F X⟩
instance (priority := 1100) Pull.dr [i : Pull B X R] : Pull (A * B) X (A * R) := ⟨by rw [i.eq]; ac_rfl⟩
instance Pull.dl [i : Pull A X R] : Pull (A * B) X (R * B) := ⟨by rw [i.eq]; ac_rfl⟩
end pull

/-- B is a part of A, as the parts stand there. -/
class Sub (A B : HP) : Prop where
  ent : Ent A B
section sub
variable {A B X R : HP}
instance (priority := 1300) Sub.rfl' : Sub A A := ⟨Ent.rfl' A⟩
instance (priority := 1200) Sub.star [i : Pull A X R] [j : Sub R B] : Sub A (X * B) := ⟨by rw [i.eq]; exact Ent.sep (Ent.rfl' X) j.ent⟩
instance (priority := 1100) Sub.base [i : Pull A X R] : Sub A X := ⟨by rw [i.eq]; exact Ent.left X R⟩
end sub

section ops
variable {P : Program} {w0 w : World} {A F X : HP} {C : HP → HP}

theorem St.sub {B : HP} (h : St w0 A w) [i : Sub A B] : St w0 B w := h.ent i.ent
theorem St.gives {B : HP} (h : St w0 A w) [i : Gives A B] : St w0 B w := h.ent i.ent

/-- The part about k to the front. -/
theorem St.take {R : HP} (h : St w0 A w) (k : Key) [i : Take k A X R] : St w0 (X * R) w := h.ac i.eq

/-- The part about k, taken out; whatever comes back goes into its place. -/
theorem St.out (h : St w0 A w) (k : Key) [i : Hole k A X C] : ∃ R, (∀ Y, C Y = Y * R) ∧ St w0 (X * R) w := by
  obtain ⟨R, hR⟩ := i.fr
  exact ⟨R, hR, h.ac (by rw [i.eq, hR])⟩

/-- The part about k becomes something that it entails. -/
theorem St.turnTo {Y : HP} (h : St w0 A w) (k : Key) [i : Hole k A X C] (e : Ent X Y) : St w0 (C Y) w := by
  obtain ⟨R, hR, h'⟩ := h.out k
  rw [hR]
  exact h'.ent (Ent.sep e (Ent.rfl' R))

theorem St.outEx {α : Type} {Y : α → HP} (h : St w0 A w) (k : Key) [i : Hole k A (HP.ex Y) C] : ∃ x, St w0 (C (Y x)) w := by
  obtain ⟨R, hR, h'⟩ := h.out k
  obtain ⟨x, hx⟩ := h'.exF
  exact ⟨x, by rw [hR]; exact hx⟩

theorem St.cl (h : St w0 A w) : ∀ (b : Nat) {arr : Array Value} {T : TypeId} {fr : Nat × Nat} {C : HP → HP} [Hole (.blk b) A (Blk b (.cells arr T fr)) C] (i : Nat), w.cell? ⟨b, i, none⟩ = arr[i]? := by
  intro b arr T fr C _ i
  obtain ⟨R, hR, h'⟩ := h.out (.blk b)
  exact h'.cells i

theorem St.rowH (h : St w0 A w) (b n : Nat) {arr : Array Value} {T : TypeId} {fr : Nat × Nat} {C : HP → HP} [Hole (.blk b) A (Blk b (.cells arr T fr)) C] (hn : arr.size = n) : rowV w ⟨b, 0, none⟩ n = some (.agg arr) := by
  obtain ⟨R, hR, h'⟩ := h.out (.blk b)
  exact h'.row hn

theorem St.rowAtH (h : St w0 A w) (b o n : Nat) {arr : Array Value} {T : TypeId} {fr : Nat × Nat} {C : HP → HP} [Hole (.blk b) A (Blk b (.cells arr T fr)) C] (hn : o + n ≤ arr.size) : rowV w ⟨b, o, none⟩ n = some (.agg ((arr.toList.drop o).take n).toArray) := by
  obtain ⟨R, hR, h'⟩ := h.out (.blk b)
  exact h'.rowAt hn

theorem St.sto {b off : Nat} {arr : Array Value} {T : TypeId} {v : Value} {K : World → Prop} {θ : Tag K} (h : St w0 A w) [i : Hole (.blk b) A (Blk b (.cells arr T (0, 0))) C] (hi : off < arr.size) (hv : isCell v = true)
    (hK : ∀ w', St w0 (C (Blk b (.cells (arr.setIfInBounds off v) T (0, 0)))) w' → K w') : storeD (some 1) (.pointer (some ⟨b, off, none⟩)) v w K θ := by
  obtain ⟨R, hR, h'⟩ := h.out (.blk b)
  exact h'.store rfl hi hv fun w' hw => hK w' (by rw [hR]; exact hw)

theorem St.stoRow {b off n : Nat} {arr : Array Value} {cs : List Value} {T : TypeId} {K : World → Prop} {θ : Tag K} (h : St w0 A w) [i : Hole (.blk b) A (Blk b (.cells arr T (0, 0))) C] (hn : cs.length = n) (hs : off + n ≤ arr.size) (hc : ∀ v ∈ cs, isCell v = true)
    (hK : ∀ w', St w0 (C (Blk b (.cells (setRowL arr.toList off cs).toArray T (0, 0)))) w' → K w') : storeD (some n) (.pointer (some ⟨b, off, none⟩)) (.agg cs.toArray) w K θ := by
  obtain ⟨R, hR, h'⟩ := h.out (.blk b)
  exact h'.storeRow hn hs hc fun w' hw => hK w' (by rw [hR]; exact hw)

theorem St.stoAll {b n : Nat} {arr : Array Value} {cs : List Value} {T : TypeId} {K : World → Prop} {θ : Tag K} (h : St w0 A w) [i : Hole (.blk b) A (Blk b (.cells arr T (0, 0))) C] (hn : cs.length = n) (hs : arr.size = n) (hc : ∀ v ∈ cs, isCell v = true)
    (hK : ∀ w', St w0 (C (Blk b (.cells cs.toArray T (0, 0)))) w' → K w') : storeD (some n) (.pointer (some ⟨b, 0, none⟩)) (.agg cs.toArray) w K θ := by
  obtain ⟨R, hR, h'⟩ := h.out (.blk b)
  exact h'.storeAll hn hs hc fun w' hw => hK w' (by rw [hR]; exact hw)

theorem St.nilR (h : St w0 A w) (T s : Nat) : St w0 (RowO T s (.slice none 0 0) 0 [] * A) w := h.ent (Ent.nilRowO T s A)

theorem St.rowForm (h : St w0 A w) (v : Value) {T s n : Nat} {xs : List Value} [i : Hole (.row v) A (RowO T s v n xs) C] : ∃ a c, v = .slice a n c ∧ xs.length = n * s ∧ n ≤ c ∧ c ≤ maxLen := by
  obtain ⟨R, hR, h'⟩ := h.out (.row v)
  exact RowO.form h'

theorem St.lit {t e s bs n : Nat} {zs cells : List Value} {parts : List (Nat × Value)} {K : Value → World → Prop} {θ : Tag K}
    (h : St w0 F w) (ht : rowTy P t = some (e, s, bs, zs)) (hf : fillL (fun i => some (i * s, s)) (mkZeros zs (n * s)) parts = some cells) (hsz : 0 < n * s) (hsz2 : n * s ≤ 16777216)
    (hK : ∀ v w', St w0 (RowO e s v n cells * F) w' → K v w') : semD P (kBuildSlice t n parts.toArray) w K θ :=
  h.buildSlice ht hf hsz hsz2 fun v w' h' => hK v w' (h'.ent (Ent.sep (Row.rowO e s v n cells) (Ent.rfl' F)))

/-- append to a row of one's own, from whatever reads as a row. -/
theorem St.app {t tx ty e e' s bs : Nat} {zs : List Value} {v x : Value} {n m : Nat} {xs news : List Value} {K : Value → World → Prop} {θ : Tag K}
    (h : St w0 A w) [i : Hole (.row v) A (RowO e s v n xs) C] (ht : rowTy P t = some (e, s, bs, zs)) (hx : Ent A (Reads s x m news)) (hu : P.underlying tx = some (.slice e')) (hc : ∀ u ∈ news, isCell u = true) (h0 : news = [] → m = 0)
    (h63 : n + m ≤ maxLen) (hb : (n + m) * bs ≤ 140737488355328)
    (hK : ∀ v' w', St w0 (C (RowO e s v' (n + m) (xs ++ news))) w' → K v' w') : semD P (kAppend #[t, tx] ty #[v, x]) w K θ := by
  have hs : Src P s tx x m news w := ((h.ent hx).rd).src hu hc h0
  obtain ⟨R, hR, h'⟩ := h.out (.row v)
  exact h'.appendO ht hs h63 hb fun v' w' hw => hK v' w' (by rw [hR]; exact hw)

/-- append of another row of one's own, which is let go in the end by whoever asks. -/
theorem St.appR {t tx ty e e' s bs T' : Nat} {C' : HP → HP} {zs : List Value} {v x : Value} {n m : Nat} {xs news : List Value} {K : Value → World → Prop} {θ : Tag K}
    (h : St w0 A w) [i : Hole (.row v) A (RowO e s v n xs) C] [j : Hole (.row x) A (RowO T' s x m news) C'] (ht : rowTy P t = some (e, s, bs, zs)) (hu : P.underlying tx = some (.slice e')) (hc : ∀ u ∈ news, isCell u = true) (h0 : news = [] → m = 0)
    (h63 : n + m ≤ maxLen) (hb : (n + m) * bs ≤ 140737488355328)
    (hK : ∀ v' w', St w0 (C (RowO e s v' (n + m) (xs ++ news))) w' → K v' w') : semD P (kAppend #[t, tx] ty #[v, x]) w K θ := by
  refine h.app ht ?_ hu hc h0 h63 hb hK
  obtain ⟨R, hR⟩ := j.fr
  rw [j.eq, hR]
  exact (Ent.left _ _).trans (RowO.reads T' s x m news)

end ops

section maps
variable {κ : Type} {P : Program} {w0 w : World} {A F X : HP} {C : HP → HP}
theorem St.lkH [DecidableEq κ] {enc : κ → Value} {b : Nat} {l : List (κ × Value)} {T kt et : TypeId} {z : Value} {ok : Bool} {x : κ} {K : Value → Prop} {θ : Tag K} (h : St w0 A w) [i : Hole (.map b) A (MapP enc b l) C] (hu : P.underlying T = some (.map kt et)) (law : KeyLaw P kt enc) (hz : zeroV P et = some z)
    (hK : K (lkV z ok (lk x l))) : readR P (kLookup T (.map (some b)) (enc x) ok) w K θ := by
  obtain ⟨R, hR, h'⟩ := h.out (.map b)
  exact h'.lookup hu law hz hK
theorem St.updH [DecidableEq κ] {enc : κ → Value} {b : Nat} {l : List (κ × Value)} {T kt et : TypeId} {x : κ} {v : Value} {K : World → Prop} {θ : Tag K} (h : St w0 A w) [i : Hole (.map b) A (MapP enc b l) C] (hu : P.underlying T = some (.map kt et)) (law : KeyLaw P kt enc)
    (hK : ∀ w', St w0 (C (MapP enc b (upd x v l))) w' → K w') : semU P (kMapUpdate T (.map (some b)) (enc x) v) w K θ := by
  obtain ⟨R, hR, h'⟩ := h.out (.map b)
  exact h'.update hu law fun w' hw => hK w' (by rw [hR]; exact hw)
theorem St.delH [DecidableEq κ] {enc : κ → Value} {b : Nat} {l : List (κ × Value)} {T kt et ty kt' : TypeId} {x : κ} {K : Value → World → Prop} {θ : Tag K} (h : St w0 A w) [i : Hole (.map b) A (MapP enc b l) C] (hu : P.underlying T = some (.map kt et)) (law : KeyLaw P kt enc)
    (hK : ∀ w', St w0 (C (MapP enc b (del x l))) w' → K (.tuple #[]) w') : semD P (kDelete #[T, kt'] ty #[.map (some b), enc x]) w K θ := by
  obtain ⟨R, hR, h'⟩ := h.out (.map b)
  exact h'.delete hu law fun w' hw => hK w' (by rw [hR]; exact hw)
theorem St.clearH {enc : κ → Value} {b : Nat} {l : List (κ × Value)} {T kt et ty : TypeId} {K : Value → World → Prop} {θ : Tag K} (h : St w0 A w) [i : Hole (.map b) A (MapP enc b l) C] (hu : P.underlying T = some (.map kt et))
    (hK : ∀ w', St w0 (C (MapP enc b [])) w' → K (.tuple #[]) w') : semD P (kClear #[T] ty #[.map (some b)]) w K θ := by
  obtain ⟨R, hR, h'⟩ := h.out (.map b)
  exact h'.clearMap hu fun w' hw => hK w' (by rw [hR]; exact hw)
theorem St.lenH {enc : κ → Value} {b : Nat} {l : List (κ × Value)} {T kt et ty : TypeId} {K : Value → Prop} {θ : Tag K} (h : St w0 A w) [i : Hole (.map b) A (MapP enc b l) C] (hu : P.underlying T = some (.map kt et))
    (hK : K (.int .i64 l.length)) : readR P (kLen #[T] ty #[.map (some b)]) w K θ := by
  obtain ⟨R, hR, h'⟩ := h.out (.map b)
  exact h'.lenMap hu hK
end maps

/-! ### Rows of structs are read -/
theorem cellsFrom_of (w : World) (a : Addr) : ∀ (n i : Nat) (xs : List Value), xs.length = n → (∀ j, j < n → w.cell? (a.add (i + j)) = xs[j]?) → cellsFrom w a i n = some xs
  | 0, i, [], _, _ => rfl
  | n + 1, i, x :: xs, hl, h => by
    have h0 := h 0 (by omega)
    simp only [Nat.add_zero, List.getElem?_cons_zero] at h0
    have ih := cellsFrom_of w a n (i + 1) xs (by simpa using hl) fun j hj => by
      have := h (j + 1) (by omega)
      rw [List.getElem?_cons_succ] at this
      rw [← this]; congr 2; omega
    simp only [cellsFrom, h0, ih]
theorem flatMap_length {α : Type} {enc : α → List Value} {k : Nat} (hk : ∀ x, (enc x).length = k) : ∀ l : List α, (l.flatMap enc).length = l.length * k
  | [] => by simp
  | x :: l => by rw [List.flatMap_cons, List.length_append, hk, flatMap_length hk l, List.length_cons, Nat.add_mul]; omega
theorem flatMap_at {α : Type} {enc : α → List Value} {k : Nat} (hk : ∀ x, (enc x).length = k) : ∀ (l : List α) (i j : Nat) (hi : i < l.length), j < k → (l.flatMap enc)[i * k + j]? = (enc l[i])[j]?
  | x :: l, 0, j, _, hj => by rw [List.flatMap_cons, Nat.zero_mul, Nat.zero_add, List.getElem?_append_left (by rw [hk]; exact hj)]; rfl
  | x :: l, i + 1, j, hi, hj => by
    rw [List.flatMap_cons, List.getElem?_append_right (by rw [hk, Nat.add_mul]; omega), hk, show (i + 1) * k + j - k = i * k + j by rw [Nat.add_mul]; omega, flatMap_at hk l i j (by simpa using hi) hj]
    rfl
theorem St.rowsAt {α : Type} {enc : α → List Value} {k : Nat} (hk : ∀ x, (enc x).length = k) (k0 : 0 < k) {w0 w : World} {v : Value} {n : Nat} {l : List α} (h : St w0 (Reads k v n (l.flatMap enc)) w) :
    n = l.length ∧ ∃ a c, v = .slice a n c ∧ n ≤ c ∧ ∀ i (hi : i < l.length), ∃ b o, a = some ⟨b, o, none⟩ ∧ rowV w ⟨b, o + i * k, none⟩ k = some (.agg (enc l[i]).toArray) ∧ ∀ j, j < k → w.cell? ⟨b, o + i * k + j, none⟩ = (enc l[i])[j]? := by
  have r := h.rd
  have hlen := r.length
  rw [flatMap_length hk] at hlen
  have hn : n = l.length := (Nat.eq_of_mul_eq_mul_right k0 hlen).symm
  obtain ⟨a, c, rfl, hnc, hr⟩ := r.form
  refine ⟨hn, a, c, rfl, hnc, fun i hi => ?_⟩
  have hik : i * k + k ≤ l.length * k := by
    have := Nat.mul_le_mul_right k (show i + 1 ≤ l.length from hi)
    rwa [Nat.add_mul, Nat.one_mul] at this
  rcases hr with hr | ⟨b, o, rfl, hr⟩
  · have := congrArg List.length hr
    rw [flatMap_length hk, List.length_nil] at this
    omega
  · have hc : ∀ j, j < k → w.cell? ⟨b, o + i * k + j, none⟩ = (enc l[i])[j]? := fun j hj => by
      have := hr (i * k + j) (by rw [flatMap_length hk]; omega)
      rwa [flatMap_at hk l i j hi hj, ← Nat.add_assoc] at this
    refine ⟨b, o, rfl, ?_, hc⟩
    unfold rowV
    rw [cellsFrom_of w _ k 0 (enc l[i]) (hk _) fun j hj => by rw [Nat.zero_add, add_lit]; exact hc j hj]
    rfl

/-! ### Rows of one's own are written into -/
theorem setRowL_part {cur cs : List Value} {o k N : Nat} (h1 : k + cs.length ≤ N) (h2 : o + N ≤ cur.length) : ((setRowL cur (o + k) cs).drop o).take N = setRowL ((cur.drop o).take N) k cs := by
  have hl : ((cur.drop o).take N).length = N := by rw [List.length_take, List.length_drop]; omega
  apply List.ext_getElem?
  intro j
  by_cases hj : j < N
  · rw [List.getElem?_take_of_lt hj, List.getElem?_drop]
    rcases Nat.lt_or_ge j k with h | h
    · rw [getElem?_setRowL_lt _ _ _ _ h, getElem?_setRowL_lt _ _ _ _ (by omega), List.getElem?_take_of_lt hj, List.getElem?_drop]
    · rcases Nat.lt_or_ge j (k + cs.length) with h' | h'
      · obtain ⟨i, rfl⟩ : ∃ i, j = k + i := ⟨j - k, by omega⟩
        rw [getElem?_setRowL_in _ _ _ _ (by omega) (by omega), ← Nat.add_assoc, getElem?_setRowL_in _ _ _ _ (by omega) (by omega)]
      · rw [getElem?_setRowL_ge _ _ _ _ h', getElem?_setRowL_ge _ _ _ _ (by omega), List.getElem?_take_of_lt hj, List.getElem?_drop]
  · rw [List.getElem?_take_eq_none (by omega), List.getElem?_eq_none (by rw [length_setRowL, hl]; omega)]

theorem RowO.openE (T s g o n c : Nat) (xs : List Value) : Ent (RowO T s (.slice (some ⟨g, o, none⟩) n c) n xs)
    (HP.ex fun cur : Array Value => HP.fact (n ≤ c ∧ c ≤ maxLen ∧ o + c * s ≤ cur.size ∧ (cur.toList.drop o).take (n * s) = xs ∧ xs.length = n * s) (Blk g (.cells cur T (0, 0)))) := by
  refine Ent.of fun h a => ?_
  rcases a with ⟨hv, _⟩ | ⟨g', o', cap, cur, e1, e2, e3, e4, e5, e6, e7⟩
  · cases hv
  · simp only [Value.slice.injEq, Option.some.injEq, Addr.mk.injEq, and_true, true_and] at e1
    obtain ⟨⟨rfl, rfl⟩, rfl⟩ := e1
    exact ⟨cur, ⟨e3, e4, e5, e6, e7⟩, e2⟩
theorem RowO.shutE {T s g o n c : Nat} {xs : List Value} {cur : Array Value} (h : n ≤ c ∧ c ≤ maxLen ∧ o + c * s ≤ cur.size ∧ (cur.toList.drop o).take (n * s) = xs ∧ xs.length = n * s) : Ent (Blk g (.cells cur T (0, 0))) (RowO T s (.slice (some ⟨g, o, none⟩) n c) n xs) :=
  Ent.of fun _ a => .inr ⟨g, o, c, cur, rfl, a, h.1, h.2.1, h.2.2.1, h.2.2.2.1, h.2.2.2.2⟩

theorem St.rowSet {w0 w : World} {A : HP} {C : HP → HP} {T s g o n c k m : Nat} {xs cs : List Value} {K : World → Prop} {θ : Tag K} (h : St w0 A w) [i : Hole (.row (.slice (some ⟨g, o, none⟩) n c)) A (RowO T s (.slice (some ⟨g, o, none⟩) n c) n xs) C]
    (hn : cs.length = m) (hk : k + m ≤ xs.length) (hc : ∀ v ∈ cs, isCell v = true)
    (hK : ∀ w', St w0 (C (RowO T s (.slice (some ⟨g, o, none⟩) n c) n (setRowL xs k cs))) w' → K w') : storeD (some m) (.pointer (some ⟨g, o + k, none⟩)) (.agg cs.toArray) w K θ := by
  obtain ⟨R, hR, h'⟩ := h.out (.row (.slice (some ⟨g, o, none⟩) n c))
  obtain ⟨cur, h'⟩ := (h'.ent (Ent.sep (RowO.openE T s g o n c xs) (Ent.rfl' R))).exF
  obtain ⟨⟨a1, a2, a3, a4, a5⟩, h'⟩ := h'.factF
  have hcs : n * s ≤ c * s := Nat.mul_le_mul_right s a1
  refine h'.storeRow hn (by omega) hc fun w' hw => hK w' ?_
  rw [hR]
  refine hw.ent (Ent.sep (RowO.shutE ⟨a1, a2, ?_, ?_, ?_⟩) (Ent.rfl' R))
  · simpa [length_setRowL] using a3
  · rw [List.toList_toArray, setRowL_part (by omega) (by simp only [Array.length_toList]; omega), a4]
  · rw [length_setRowL, a5]

theorem St.rowSet1 {w0 w : World} {A : HP} {C : HP → HP} {T s g o n c k : Nat} {v : Value} {xs : List Value} {K : World → Prop} {θ : Tag K} (h : St w0 A w) [i : Hole (.row (.slice (some ⟨g, o, none⟩) n c)) A (RowO T s (.slice (some ⟨g, o, none⟩) n c) n xs) C]
    (hk : k < xs.length) (hc : isCell v = true)
    (hK : ∀ w', St w0 (C (RowO T s (.slice (some ⟨g, o, none⟩) n c) n (xs.set k v))) w' → K w') : storeD (some 1) (.pointer (some ⟨g, o + k, none⟩)) v w K θ := by
  obtain ⟨R, hR, h'⟩ := h.out (.row (.slice (some ⟨g, o, none⟩) n c))
  obtain ⟨cur, h'⟩ := (h'.ent (Ent.sep (RowO.openE T s g o n c xs) (Ent.rfl' R))).exF
  obtain ⟨⟨a1, a2, a3, a4, a5⟩, h'⟩ := h'.factF
  have hcs : n * s ≤ c * s := Nat.mul_le_mul_right s a1
  refine h'.store rfl (by omega) hc fun w' hw => hK w' ?_
  rw [hR]
  refine hw.ent (Ent.sep (RowO.shutE ⟨a1, a2, by simpa using a3, ?_, by rw [List.length_set, a5]⟩) (Ent.rfl' R))
  rw [Array.toList_setIfInBounds, List.drop_set, if_neg (by omega), show o + k - o = k by omega, List.take_set, a4]

theorem flatMap_at_all {α : Type} {enc : α → List Value} {k : Nat} (hk : ∀ x, (enc x).length = k) (l : List α) (t : Nat) (ht : t < l.length * k) : ∃ (i j : Nat) (hi : i < l.length), j < k ∧ t = i * k + j ∧ (l.flatMap enc)[t]? = (enc l[i])[j]? := by
  have k0 : 0 < k := by rcases Nat.eq_zero_or_pos k with h | h; · subst h; simp at ht
                        · exact h
  have hi : t / k < l.length := Nat.div_lt_of_lt_mul (by rw [Nat.mul_comm]; exact ht)
  have e : t = t / k * k + t % k := by rw [Nat.mul_comm]; exact (Nat.div_add_mod t k).symm
  refine ⟨t / k, t % k, hi, Nat.mod_lt _ k0, e, ?_⟩
  have := flatMap_at hk l (t / k) (t % k) hi (Nat.mod_lt _ k0)
  rwa [← e] at this

/-- A look-up that may fail, as one value. -/
theorem lkV_get {α : Type} {f : α → Value} {d : α} (o : Option α) : lkV (f d) true (o.map f) = .tuple #[f (o.getD d), .bool o.isSome] := by cases o <;> rfl
theorem lkV_get1 {α : Type} {f : α → Value} {d : α} (o : Option α) : lkV (f d) false (o.map f) = f (o.getD d) := by cases o <;> rfl

/-- The raw number that speaks of one of n things. -/
def pickI (c n : Int) : Int := (if c < 0 then -(c + 1) else c).tmod n
theorem pickI_range {c n : Int} (h : 0 < n) : 0 ≤ pickI c n ∧ pickI c n < n := by
  unfold pickI
  have : 0 ≤ (if c < 0 then -(c + 1) else c) := by split <;> omega
  exact ⟨Int.tmod_nonneg _ this, Int.tmod_lt_of_pos _ h⟩
end Go.Proofs.YtonajgmamdeohaaGreatDoor
