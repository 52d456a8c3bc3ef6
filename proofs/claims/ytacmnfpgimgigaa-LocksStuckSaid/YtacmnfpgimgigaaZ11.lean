/- Parts of memory, found by what they are about: the frame is looked through by instances. · Maps of one's own gone through, in whatever order. · Maps gone through, the frame looked through by instances. · The library's sorts, over rows of one's own. · The library's sorts and their like, laid at this program (by the kit's own command, in plain words). · The table of locks: Waits, Held; the law's small functions. · The table of locks: Held. · The table of locks: Held's walk. · The table of locks: Leave. · The table of locks: Leave. · The table of locks: Leave's walk. · Holders; the laws' 'holds' and 'move'. · The table of locks: what stays true of it. Plain law. · The laws' 'told'. · The law LocksSound: a lock's holders, counted. · The law LocksSound: a lock's queue; the whole table. · Arguments, read out of memory as they came: readers by the type's shape. · Arguments that are rows of plain structs, as rows that are read. -/
import Derived.Test.YtacmnfpgimgigaaZ1
import Derived.Test.YtacmnfpgimgigaaZ2
import Derived.Test.YtacmnfpgimgigaaZ3
import Derived.Test.YtacmnfpgimgigaaZ4
import Derived.Test.YtacmnfpgimgigaaZ5
import Derived.Test.YtacmnfpgimgigaaZ6
import Derived.Test.YtacmnfpgimgigaaZ7
import Derived.Test.YtacmnfpgimgigaaZ8
import Derived.Test.YtacmnfpgimgigaaZ9
import Derived.Test.YtacmnfpgimgigaaZ10
import Derived.Shelf.SlSortCmp.NoneTotal
import Derived.Shelf.SortM.Plain
import Derived.Shelf.SortM.SortNone
import Derived.Test.YtacmnfpgimgigaaProg
import Derived.KernelRfl
import Derived.ChangeArms
import Derived.SizedLaws
import Derived.Laws.MakeOwn
namespace Go.Proofs.Ytacmnfpgimgigaa
open Go
set_option linter.unusedVariables false

/-- What a part is about. -/
inductive Key where
  | blk (b : Nat)
  | row (v : Value)
  | map (b : Nat)
  | obj (b : Nat)

class Face (k : Key) (X : HP) : Prop
instance (b : Nat) (o : Obj) : Face (.blk b) (Blk b o) := ⟨⟩
instance (T s : Nat) (v : Value) (n : Nat) (xs : List Value) : Face (.row v) (RowO T s v n xs) := ⟨⟩
instance (T s : Nat) (v : Value) (n : Nat) (xs : List Value) : Face (.row v) (Row T s v n xs) := ⟨⟩
instance {κ : Type} (enc : κ → Value) (b : Nat) (l : List (κ × Value)) : Face (.map b) (MapP enc b l) := ⟨⟩

/-- A has the part X, about k; with Y in X's place it is C Y. -/
class Hole (k : Key) (A : HP) (X : outParam HP) (C : outParam (HP → HP)) : Prop where
  eq : A = C X
  fr : ∃ R, ∀ Y, C Y = Y * R

section holes
variable {k : Key} {A B X F : HP} {C : HP → HP}
instance (priority := 1300) Hole.l [Face k X] : Hole k (X * F) X (fun Y => Y * F) := ⟨rfl, F, fun _ => rfl⟩
instance (priority := 1200) Hole.r [Face k X] : Hole k (F * X) X (fun Y => F * Y) := ⟨rfl, F, fun Y => sep_comm F Y⟩
instance (priority := 1100) Hole.dr [i : Hole k B X C] : Hole k (A * B) X (fun Y => A * C Y) :=
  ⟨congrArg (A * ·) i.eq, by obtain ⟨R, h⟩ := i.fr; exact ⟨A * R, fun Y => by rw [h]; ac_rfl⟩⟩
instance Hole.dl [i : Hole k A X C] : Hole k (A * B) X (fun Y => C Y * B) :=
  ⟨congrArg (· * B) i.eq, by obtain ⟨R, h⟩ := i.fr; exact ⟨R * B, fun Y => by rw [h]; ac_rfl⟩⟩
end holes

/-- The part about k, taken out of A; the rest. -/
class Take (k : Key) (A : HP) (X R : outParam HP) : Prop where
  eq : A = X * R
section take
variable {k : Key} {A B X F R : HP}
instance (priority := 1300) Take.l [Face k X] : Take k (X * F) X F := ⟨rfl⟩
instance (priority := 1200) Take.r [Face k X] : Take k (F * X) X F := ⟨sep_comm F X⟩
instance (priority := 1100) Take.dr [i : Take k B X R] : Take k (A * B) X (A * R) := ⟨by rw [i.eq]; ac_rfl⟩
instance Take.dl [i : Take k A X R] : Take k (A * B) X (R * B) := ⟨by rw [i.eq]; ac_rfl⟩
end take

/-- What is true of A's memory is true of a part that B tells of. -/
class Gives (A B : HP) : Prop where
  ent : Ent A B
section gives
variable {A B X : HP}
instance (priority := 1300) Gives.rfl' : Gives A A := ⟨Ent.rfl' A⟩
instance (priority := 1200) Gives.l [i : Gives A X] : Gives (A * B) X := ⟨(Ent.left A B).trans i.ent⟩
instance (priority := 1100) Gives.r [i : Gives B X] : Gives (A * B) X := ⟨(Ent.right A B).trans i.ent⟩
instance (T s : Nat) (v : Value) (n : Nat) (xs : List Value) : Gives (RowO T s v n xs) (Reads s v n xs) := ⟨RowO.reads T s v n xs⟩
instance (T s : Nat) (v : Value) (n : Nat) (xs : List Value) : Gives (Row T s v n xs) (Reads s v n xs) := ⟨Row.reads T s v n xs⟩
end gives

/-- X is taken out of A; the rest. -/
class Pull (A X : HP) (R : outParam HP) : Prop where
  eq : A = X * R
section pull
variable {A B X F R : HP}
instance (priority := 1300) Pull.l : Pull (X * F) X F := ⟨rfl⟩
instance (priority := 1200) Pull.r : Pull (F * X) X F := ⟨sep_comm F X⟩
instance (priority := 1100) Pull.dr [i : Pull B X R] : Pull (A * B) X (A * R) := ⟨by rw [i.eq]; ac_rfl⟩
instance Pull.dl [i : Pull A X R] : Pull (A * B) X (R * B) := ⟨by rw [i.eq]; ac_rfl⟩
end pull

/-- B is a part of A, as the parts stand there. -/
class Sub (A B : HP) : Prop where
  ent : Ent A B
section sub
variable {A B X R : HP}
instance (priority := 1300) Sub.rfl' : Sub A A := ⟨Ent.rfl' A⟩
instance (priority := 1200) Sub.star [i : Pull A X R] [j : Sub R B] : Sub A (X * B) := ⟨by rw [i.eq]; exact Ent.sep (Ent.rfl' X) j.ent⟩
instance (priority := 1100) Sub.base [i : Pull A X R] : Sub A X := ⟨by rw [i.eq]; exact Ent.left X R⟩
end sub

section ops
variable {P : Program} {w0 w : World} {A F X : HP} {C : HP → HP}

theorem St.sub {B : HP} (h : St w0 A w) [i : Sub A B] : St w0 B w := h.ent i.ent
theorem St.gives {B : HP} (h : St w0 A w) [i : Gives A B] : St w0 B w := h.ent i.ent

/-- The part about k to the front. -/
theorem St.take {R : HP} (h : St w0 A w) (k : Key) [i : Take k A X R] : St w0 (X * R) w := h.ac i.eq

/-- The part about k, taken out; whatever comes back goes into its place. -/
theorem St.out (h : St w0 A w) (k : Key) [i : Hole k A X C] : ∃ R, (∀ Y, C Y = Y * R) ∧ St w0 (X * R) w := by
  obtain ⟨R, hR⟩ := i.fr
  exact ⟨R, hR, h.ac (by rw [i.eq, hR])⟩

/-- The part about k becomes something that it entails. -/
theorem St.turnTo {Y : HP} (h : St w0 A w) (k : Key) [i : Hole k A X C] (e : Ent X Y) : St w0 (C Y) w := by
  obtain ⟨R, hR, h'⟩ := h.out k
  rw [hR]
  exact h'.ent (Ent.sep e (Ent.rfl' R))

theorem St.outEx {α : Type} {Y : α → HP} (h : St w0 A w) (k : Key) [i : Hole k A (HP.ex Y) C] : ∃ x, St w0 (C (Y x)) w := by
  obtain ⟨R, hR, h'⟩ := h.out k
  obtain ⟨x, hx⟩ := h'.exF
  exact ⟨x, by rw [hR]; exact hx⟩

theorem St.cl (h : St w0 A w) : ∀ (b : Nat) {arr : Array Value} {T : TypeId} {fr : Nat × Nat} {C : HP → HP} [Hole (.blk b) A (Blk b (.cells arr T fr)) C] (i : Nat), w.cell? ⟨b, i, none⟩ = arr[i]? := by
  intro b arr T fr C _ i
  obtain ⟨R, hR, h'⟩ := h.out (.blk b)
  exact h'.cells i

theorem St.rowH (h : St w0 A w) (b n : Nat) {arr : Array Value} {T : TypeId} {fr : Nat × Nat} {C : HP → HP} [Hole (.blk b) A (Blk b (.cells arr T fr)) C] (hn : arr.size = n) : rowV w ⟨b, 0, none⟩ n = some (.agg arr) := by
  obtain ⟨R, hR, h'⟩ := h.out (.blk b)
  exact h'.row hn

theorem St.rowAtH (h : St w0 A w) (b o n : Nat) {arr : Array Value} {T : TypeId} {fr : Nat × Nat} {C : HP → HP} [Hole (.blk b) A (Blk b (.cells arr T fr)) C] (hn : o + n ≤ arr.size) : rowV w ⟨b, o, none⟩ n = some (.agg ((arr.toList.drop o).take n).toArray) := by
  obtain ⟨R, hR, h'⟩ := h.out (.blk b)
  exact h'.rowAt hn

theorem St.sto {b off : Nat} {arr : Array Value} {T : TypeId} {v : Value} {K : World → Prop} {θ : Tag K} (h : St w0 A w) [i : Hole (.blk b) A (Blk b (.cells arr T (0, 0))) C] (hi : off < arr.size) (hv : isCell v = true)
    (hK : ∀ w', St w0 (C (Blk b (.cells (arr.setIfInBounds off v) T (0, 0)))) w' → K w') : storeD (some 1) (.pointer (some ⟨b, off, none⟩)) v w K θ := by
  obtain ⟨R, hR, h'⟩ := h.out (.blk b)
  exact h'.store rfl hi hv fun w' hw => hK w' (by rw [hR]; exact hw)

theorem St.stoRow {b off n : Nat} {arr : Array Value} {cs : List Value} {T : TypeId} {K : World → Prop} {θ : Tag K} (h : St w0 A w) [i : Hole (.blk b) A (Blk b (.cells arr T (0, 0))) C] (hn : cs.length = n) (hs : off + n ≤ arr.size) (hc : ∀ v ∈ cs, isCell v = true)
    (hK : ∀ w', St w0 (C (Blk b (.cells (setRowL arr.toList off cs).toArray T (0, 0)))) w' → K w') : storeD (some n) (.pointer (some ⟨b, off, none⟩)) (.agg cs.toArray) w K θ := by
  obtain ⟨R, hR, h'⟩ := h.out (.blk b)
  exact h'.storeRow hn hs hc fun w' hw => hK w' (by rw [hR]; exact hw)

theorem St.stoAll {b n : Nat} {arr : Array Value} {cs : List Value} {T : TypeId} {K : World → Prop} {θ : Tag K} (h : St w0 A w) [i : Hole (.blk b) A (Blk b (.cells arr T (0, 0))) C] (hn : cs.length = n) (hs : arr.size = n) (hc : ∀ v ∈ cs, isCell v = true)
    (hK : ∀ w', St w0 (C (Blk b (.cells cs.toArray T (0, 0)))) w' → K w') : storeD (some n) (.pointer (some ⟨b, 0, none⟩)) (.agg cs.toArray) w K θ := by
  obtain ⟨R, hR, h'⟩ := h.out (.blk b)
  exact h'.storeAll hn hs hc fun w' hw => hK w' (by rw [hR]; exact hw)

theorem St.nilR (h : St w0 A w) (T s : Nat) : St w0 (RowO T s (.slice none 0 0) 0 [] * A) w := h.ent (Ent.nilRowO T s A)

theorem St.rowForm (h : St w0 A w) (v : Value) {T s n : Nat} {xs : List Value} [i : Hole (.row v) A (RowO T s v n xs) C] : ∃ a c, v = .slice a n c ∧ xs.length = n * s ∧ n ≤ c ∧ c ≤ maxLen := by
  obtain ⟨R, hR, h'⟩ := h.out (.row v)
  exact RowO.form h'

theorem St.lit {t e s bs n : Nat} {zs cells : List Value} {parts : List (Nat × Value)} {K : Value → World → Prop} {θ : Tag K}
    (h : St w0 F w) (ht : rowTy P t = some (e, s, bs, zs)) (hf : fillL (fun i => some (i * s, s)) (mkZeros zs (n * s)) parts = some cells) (hsz : 0 < n * s) (hsz2 : n * s ≤ 16777216)
    (hK : ∀ v w', St w0 (RowO e s v n cells * F) w' → K v w') : semD P (kBuildSlice t n parts.toArray) w K θ :=
  h.buildSlice ht hf hsz hsz2 fun v w' h' => hK v w' (h'.ent (Ent.sep (Row.rowO e s v n cells) (Ent.rfl' F)))

/-- append to a row of one's own, from whatever reads as a row. -/
theorem St.app {t tx ty e e' s bs : Nat} {zs : List Value} {v x : Value} {n m : Nat} {xs news : List Value} {K : Value → World → Prop} {θ : Tag K}
    (h : St w0 A w) [i : Hole (.row v) A (RowO e s v n xs) C] (ht : rowTy P t = some (e, s, bs, zs)) (hx : Ent A (Reads s x m news)) (hu : P.underlying tx = some (.slice e')) (hc : ∀ u ∈ news, isCell u = true) (h0 : news = [] → m = 0)
    (h63 : n + m ≤ maxLen) (hb : (n + m) * bs ≤ 140737488355328)
    (hK : ∀ v' w', St w0 (C (RowO e s v' (n + m) (xs ++ news))) w' → K v' w') : semD P (kAppend #[t, tx] ty #[v, x]) w K θ := by
  have hs : Src P s tx x m news w := ((h.ent hx).rd).src hu hc h0
  obtain ⟨R, hR, h'⟩ := h.out (.row v)
  exact h'.appendO ht hs h63 hb fun v' w' hw => hK v' w' (by rw [hR]; exact hw)

/-- append of another row of one's own, which is let go in the end by whoever asks. -/
theorem St.appR {t tx ty e e' s bs T' : Nat} {C' : HP → HP} {zs : List Value} {v x : Value} {n m : Nat} {xs news : List Value} {K : Value → World → Prop} {θ : Tag K}
    (h : St w0 A w) [i : Hole (.row v) A (RowO e s v n xs) C] [j : Hole (.row x) A (RowO T' s x m news) C'] (ht : rowTy P t = some (e, s, bs, zs)) (hu : P.underlying tx = some (.slice e')) (hc : ∀ u ∈ news, isCell u = true) (h0 : news = [] → m = 0)
    (h63 : n + m ≤ maxLen) (hb : (n + m) * bs ≤ 140737488355328)
    (hK : ∀ v' w', St w0 (C (RowO e s v' (n + m) (xs ++ news))) w' → K v' w') : semD P (kAppend #[t, tx] ty #[v, x]) w K θ := by
  refine h.app ht ?_ hu hc h0 h63 hb hK
  obtain ⟨R, hR⟩ := j.fr
  rw [j.eq, hR]
  exact (Ent.left _ _).trans (RowO.reads T' s x m news)

end ops

section maps
variable {κ : Type} {P : Program} {w0 w : World} {A F X : HP} {C : HP → HP}
theorem St.lkH [DecidableEq κ] {enc : κ → Value} {b : Nat} {l : List (κ × Value)} {T kt et : TypeId} {z : Value} {ok : Bool} {x : κ} {K : Value → Prop} {θ : Tag K} (h : St w0 A w) [i : Hole (.map b) A (MapP enc b l) C] (hu : P.underlying T = some (.map kt et)) (law : KeyLaw P kt enc) (hz : zeroV P et = some z)
    (hK : K (lkV z ok (lk x l))) : readR P (kLookup T (.map (some b)) (enc x) ok) w K θ := by
  obtain ⟨R, hR, h'⟩ := h.out (.map b)
  exact h'.lookup hu law hz hK
theorem St.updH [DecidableEq κ] {enc : κ → Value} {b : Nat} {l : List (κ × Value)} {T kt et : TypeId} {x : κ} {v : Value} {K : World → Prop} {θ : Tag K} (h : St w0 A w) [i : Hole (.map b) A (MapP enc b l) C] (hu : P.underlying T = some (.map kt et)) (law : KeyLaw P kt enc)
    (hK : ∀ w', St w0 (C (MapP enc b (upd x v l))) w' → K w') : semU P (kMapUpdate T (.map (some b)) (enc x) v) w K θ := by
  obtain ⟨R, hR, h'⟩ := h.out (.map b)
  exact h'.update hu law fun w' hw => hK w' (by rw [hR]; exact hw)
theorem St.delH [DecidableEq κ] {enc : κ → Value} {b : Nat} {l : List (κ × Value)} {T kt et ty kt' : TypeId} {x : κ} {K : Value → World → Prop} {θ : Tag K} (h : St w0 A w) [i : Hole (.map b) A (MapP enc b l) C] (hu : P.underlying T = some (.map kt et)) (law : KeyLaw P kt enc)
    (hK : ∀ w', St w0 (C (MapP enc b (del x l))) w' → K (.tuple #[]) w') : semD P (kDelete #[T, kt'] ty #[.map (some b), enc x]) w K θ := by
  obtain ⟨R, hR, h'⟩ := h.out (.map b)
  exact h'.delete hu law fun w' hw => hK w' (by rw [hR]; exact hw)
theorem St.clearH {enc : κ → Value} {b : Nat} {l : List (κ × Value)} {T kt et ty : TypeId} {K : Value → World → Prop} {θ : Tag K} (h : St w0 A w) [i : Hole (.map b) A (MapP enc b l) C] (hu : P.underlying T = some (.map kt et))
    (hK : ∀ w', St w0 (C (MapP enc b [])) w' → K (.tuple #[]) w') : semD P (kClear #[T] ty #[.map (some b)]) w K θ := by
  obtain ⟨R, hR, h'⟩ := h.out (.map b)
  exact h'.clearMap hu fun w' hw => hK w' (by rw [hR]; exact hw)
theorem St.lenH {enc : κ → Value} {b : Nat} {l : List (κ × Value)} {T kt et ty : TypeId} {K : Value → Prop} {θ : Tag K} (h : St w0 A w) [i : Hole (.map b) A (MapP enc b l) C] (hu : P.underlying T = some (.map kt et))
    (hK : K (.int .i64 l.length)) : readR P (kLen #[T] ty #[.map (some b)]) w K θ := by
  obtain ⟨R, hR, h'⟩ := h.out (.map b)
  exact h'.lenMap hu hK
end maps

/-! ### Rows of structs are read -/
theorem cellsFrom_of (w : World) (a : Addr) : ∀ (n i : Nat) (xs : List Value), xs.length = n → (∀ j, j < n → w.cell? (a.add (i + j)) = xs[j]?) → cellsFrom w a i n = some xs
  | 0, i, [], _, _ => rfl
  | n + 1, i, x :: xs, hl, h => by
    have h0 := h 0 (by omega)
    simp only [Nat.add_zero, List.getElem?_cons_zero] at h0
    have ih := cellsFrom_of w a n (i + 1) xs (by simpa using hl) fun j hj => by
      have := h (j + 1) (by omega)
      rw [List.getElem?_cons_succ] at this
      rw [← this]; congr 2; omega
    simp only [cellsFrom, h0, ih]
theorem flatMap_length {α : Type} {enc : α → List Value} {k : Nat} (hk : ∀ x, (enc x).length = k) : ∀ l : List α, (l.flatMap enc).length = l.length * k
  | [] => by simp
  | x :: l => by rw [List.flatMap_cons, List.length_append, hk, flatMap_length hk l, List.length_cons, Nat.add_mul]; omega
theorem flatMap_at {α : Type} {enc : α → List Value} {k : Nat} (hk : ∀ x, (enc x).length = k) : ∀ (l : List α) (i j : Nat) (hi : i < l.length), j < k → (l.flatMap enc)[i * k + j]? = (enc l[i])[j]?
  | x :: l, 0, j, _, hj => by rw [List.flatMap_cons, Nat.zero_mul, Nat.zero_add, List.getElem?_append_left (by rw [hk]; exact hj)]; rfl
  | x :: l, i + 1, j, hi, hj => by
    rw [List.flatMap_cons, List.getElem?_append_right (by rw [hk, Nat.add_mul]; omega), hk, show (i + 1) * k + j - k = i * k + j by rw [Nat.add_mul]; omega, flatMap_at hk l i j (by simpa using hi) hj]
    rfl
theorem St.rowsAt {α : Type} {enc : α → List Value} {k : Nat} (hk : ∀ x, (enc x).length = k) (k0 : 0 < k) {w0 w : World} {v : Value} {n : Nat} {l : List α} (h : St w0 (Reads k v n (l.flatMap enc)) w) :
    n = l.length ∧ ∃ a c, v = .slice a n c ∧ n ≤ c ∧ ∀ i (hi : i < l.length), ∃ b o, a = some ⟨b, o, none⟩ ∧ rowV w ⟨b, o + i * k, none⟩ k = some (.agg (enc l[i]).toArray) ∧ ∀ j, j < k → w.cell? ⟨b, o + i * k + j, none⟩ = (enc l[i])[j]? := by
  have r := h.rd
  have hlen := r.length
  rw [flatMap_length hk] at hlen
  have hn : n = l.length := (Nat.eq_of_mul_eq_mul_right k0 hlen).symm
  obtain ⟨a, c, rfl, hnc, hr⟩ := r.form
  refine ⟨hn, a, c, rfl, hnc, fun i hi => ?_⟩
  have hik : i * k + k ≤ l.length * k := by
    have := Nat.mul_le_mul_right k (show i + 1 ≤ l.length from hi)
    rwa [Nat.add_mul, Nat.one_mul] at this
  rcases hr with hr | ⟨b, o, rfl, hr⟩
  · have := congrArg List.length hr
    rw [flatMap_length hk, List.length_nil] at this
    omega
  · have hc : ∀ j, j < k → w.cell? ⟨b, o + i * k + j, none⟩ = (enc l[i])[j]? := fun j hj => by
      have := hr (i * k + j) (by rw [flatMap_length hk]; omega)
      rwa [flatMap_at hk l i j hi hj, ← Nat.add_assoc] at this
    refine ⟨b, o, rfl, ?_, hc⟩
    unfold rowV
    rw [cellsFrom_of w _ k 0 (enc l[i]) (hk _) fun j hj => by rw [Nat.zero_add, add_lit]; exact hc j hj]
    rfl

/-! ### Rows of one's own are written into -/
theorem setRowL_part {cur cs : List Value} {o k N : Nat} (h1 : k + cs.length ≤ N) (h2 : o + N ≤ cur.length) : ((setRowL cur (o + k) cs).drop o).take N = setRowL ((cur.drop o).take N) k cs := by
  have hl : ((cur.drop o).take N).length = N := by rw [List.length_take, List.length_drop]; omega
  apply List.ext_getElem?
  intro j
  by_cases hj : j < N
  · rw [List.getElem?_take_of_lt hj, List.getElem?_drop]
    rcases Nat.lt_or_ge j k with h | h
    · rw [getElem?_setRowL_lt _ _ _ _ h, getElem?_setRowL_lt _ _ _ _ (by omega), List.getElem?_take_of_lt hj, List.getElem?_drop]
    · rcases Nat.lt_or_ge j (k + cs.length) with h' | h'
      · obtain ⟨i, rfl⟩ : ∃ i, j = k + i := ⟨j - k, by omega⟩
        rw [getElem?_setRowL_in _ _ _ _ (by omega) (by omega), ← Nat.add_assoc, getElem?_setRowL_in _ _ _ _ (by omega) (by omega)]
      · rw [getElem?_setRowL_ge _ _ _ _ h', getElem?_setRowL_ge _ _ _ _ (by omega), List.getElem?_take_of_lt hj, List.getElem?_drop]
  · rw [List.getElem?_take_eq_none (by omega), List.getElem?_eq_none (by rw [length_setRowL, hl]; omega)]

theorem RowO.openE (T s g o n c : Nat) (xs : List Value) : Ent (RowO T s (.slice (some ⟨g, o, none⟩) n c) n xs)
    (HP.ex fun cur : Array Value => HP.fact (n ≤ c ∧ c ≤ maxLen ∧ o + c * s ≤ cur.size ∧ (cur.toList.drop o).take (n * s) = xs ∧ xs.length = n * s) (Blk g (.cells cur T (0, 0)))) := by
  refine Ent.of fun h a => ?_
  rcases a with ⟨hv, _⟩ | ⟨g', o', cap, cur, e1, e2, e3, e4, e5, e6, e7⟩
  · cases hv
  · simp only [Value.slice.injEq, Option.some.injEq, Addr.mk.injEq, and_true, true_and] at e1
    obtain ⟨⟨rfl, rfl⟩, rfl⟩ := e1
    exact ⟨cur, ⟨e3, e4, e5, e6, e7⟩, e2⟩
theorem RowO.shutE {T s g o n c : Nat} {xs : List Value} {cur : Array Value} (h : n ≤ c ∧ c ≤ maxLen ∧ o + c * s ≤ cur.size ∧ (cur.toList.drop o).take (n * s) = xs ∧ xs.length = n * s) : Ent (Blk g (.cells cur T (0, 0))) (RowO T s (.slice (some ⟨g, o, none⟩) n c) n xs) :=
  Ent.of fun _ a => .inr ⟨g, o, c, cur, rfl, a, h.1, h.2.1, h.2.2.1, h.2.2.2.1, h.2.2.2.2⟩

theorem St.rowSet {w0 w : World} {A : HP} {C : HP → HP} {T s g o n c k m : Nat} {xs cs : List Value} {K : World → Prop} {θ : Tag K} (h : St w0 A w) [i : Hole (.row (.slice (some ⟨g, o, none⟩) n c)) A (RowO T s (.slice (some ⟨g, o, none⟩) n c) n xs) C]
    (hn : cs.length = m) (hk : k + m ≤ xs.length) (hc : ∀ v ∈ cs, isCell v = true)
    (hK : ∀ w', St w0 (C (RowO T s (.slice (some ⟨g, o, none⟩) n c) n (setRowL xs k cs))) w' → K w') : storeD (some m) (.pointer (some ⟨g, o + k, none⟩)) (.agg cs.toArray) w K θ := by
  obtain ⟨R, hR, h'⟩ := h.out (.row (.slice (some ⟨g, o, none⟩) n c))
  obtain ⟨cur, h'⟩ := (h'.ent (Ent.sep (RowO.openE T s g o n c xs) (Ent.rfl' R))).exF
  obtain ⟨⟨a1, a2, a3, a4, a5⟩, h'⟩ := h'.factF
  have hcs : n * s ≤ c * s := Nat.mul_le_mul_right s a1
  refine h'.storeRow hn (by omega) hc fun w' hw => hK w' ?_
  rw [hR]
  refine hw.ent (Ent.sep (RowO.shutE ⟨a1, a2, ?_, ?_, ?_⟩) (Ent.rfl' R))
  · simpa [length_setRowL] using a3
  · rw [List.toList_toArray, setRowL_part (by omega) (by simp only [Array.length_toList]; omega), a4]
  · rw [length_setRowL, a5]

theorem St.rowSet1 {w0 w : World} {A : HP} {C : HP → HP} {T s g o n c k : Nat} {v : Value} {xs : List Value} {K : World → Prop} {θ : Tag K} (h : St w0 A w) [i : Hole (.row (.slice (some ⟨g, o, none⟩) n c)) A (RowO T s (.slice (some ⟨g, o, none⟩) n c) n xs) C]
    (hk : k < xs.length) (hc : isCell v = true)
    (hK : ∀ w', St w0 (C (RowO T s (.slice (some ⟨g, o, none⟩) n c) n (xs.set k v))) w' → K w') : storeD (some 1) (.pointer (some ⟨g, o + k, none⟩)) v w K θ := by
  obtain ⟨R, hR, h'⟩ := h.out (.row (.slice (some ⟨g, o, none⟩) n c))
  obtain ⟨cur, h'⟩ := (h'.ent (Ent.sep (RowO.openE T s g o n c xs) (Ent.rfl' R))).exF
  obtain ⟨⟨a1, a2, a3, a4, a5⟩, h'⟩ := h'.factF
  have hcs : n * s ≤ c * s := Nat.mul_le_mul_right s a1
  refine h'.store rfl (by omega) hc fun w' hw => hK w' ?_
  rw [hR]
  refine hw.ent (Ent.sep (RowO.shutE ⟨a1, a2, by simpa using a3, ?_, by rw [List.length_set, a5]⟩) (Ent.rfl' R))
  rw [Array.toList_setIfInBounds, List.drop_set, if_neg (by omega), show o + k - o = k by omega, List.take_set, a4]

theorem flatMap_at_all {α : Type} {enc : α → List Value} {k : Nat} (hk : ∀ x, (enc x).length = k) (l : List α) (t : Nat) (ht : t < l.length * k) : ∃ (i j : Nat) (hi : i < l.length), j < k ∧ t = i * k + j ∧ (l.flatMap enc)[t]? = (enc l[i])[j]? := by
  have k0 : 0 < k := by rcases Nat.eq_zero_or_pos k with h | h; · subst h; simp at ht
                        · exact h
  have hi : t / k < l.length := Nat.div_lt_of_lt_mul (by rw [Nat.mul_comm]; exact ht)
  have e : t = t / k * k + t % k := by rw [Nat.mul_comm]; exact (Nat.div_add_mod t k).symm
  refine ⟨t / k, t % k, hi, Nat.mod_lt _ k0, e, ?_⟩
  have := flatMap_at hk l (t / k) (t % k) hi (Nat.mod_lt _ k0)
  rwa [← e] at this

/-- A look-up that may fail, as one value. -/
theorem lkV_get {α : Type} {f : α → Value} {d : α} (o : Option α) : lkV (f d) true (o.map f) = .tuple #[f (o.getD d), .bool o.isSome] := by cases o <;> rfl
theorem lkV_get1 {α : Type} {f : α → Value} {d : α} (o : Option α) : lkV (f d) false (o.map f) = f (o.getD d) := by cases o <;> rfl

/-- The raw number that speaks of one of n things. -/
def pickI (c n : Int) : Int := (if c < 0 then -(c + 1) else c).tmod n
theorem pickI_range {c n : Int} (h : 0 < n) : 0 ≤ pickI c n ∧ pickI c n < n := by
  unfold pickI
  have : 0 ≤ (if c < 0 then -(c + 1) else c) := by split <;> omega
  exact ⟨Int.tmod_nonneg _ this, Int.tmod_lt_of_pos _ h⟩
end Go.Proofs.Ytacmnfpgimgigaa

namespace Go.Proofs.Ytacmnfpgimgigaa
open Go
open Go.ChangeMaps (setBlock)

section
variable {κ : Type} {P : Program}

/-- The map b is gone through by the iterator r: what is left. -/
def IterP (enc : κ → Value) (b r : Nat) (l left : List (κ × Value)) : HP :=
  HP.ex fun x : Array MapEntry × Nat × Array Nat => HP.fact ((leftOf x.1 x.2.2).toList.map (fun e => (e.key, e.val)) = left.map (fun p => (enc p.1, p.2))) (MapE enc b x.1 x.2.1 l * Blk r (.mapIter (some b) x.2.1 x.2.2 x.2.1))

/-- The same behind a step that handed out k and v. -/
def IterAt (enc : κ → Value) (b r : Nat) (l left : List (κ × Value)) (k : κ) (v : Value) : HP :=
  HP.ex fun x : Array MapEntry × Nat × Array Nat × MapEntry => HP.fact ((leftOf x.1 (x.2.2.1.push x.2.2.2.born)).toList.map (fun e => (e.key, e.val)) = left.map (fun p => (enc p.1, p.2)) ∧ x.2.2.2 ∈ x.1.toList ∧ x.2.2.2.key = enc k ∧ x.2.2.2.val = v)
    (MapE enc b x.1 x.2.1 l * Blk r (.mapIter (some b) x.2.1 (x.2.2.1.push x.2.2.2.born) x.2.1))

theorem HP.ex_intro {α : Type} {A : α → HP} {B : HP} (x : α) (h : Ent B (A x)) : Ent B (HP.ex A) := h.trans (Ent.ex A x)
theorem HP.ex_elim {α : Type} {A : α → HP} {B : HP} (h : ∀ x, Ent (A x) B) : Ent (HP.ex A) B := fun hp ⟨x, a⟩ => h x hp a
theorem HP.fact_elim {p : Prop} {A B : HP} (h : p → Ent A B) : Ent (HP.fact p A) B := fun hp ⟨q, a⟩ => h q hp a

theorem IterAt.iter (enc : κ → Value) (b r : Nat) (l left : List (κ × Value)) (k : κ) (v : Value) : Ent (IterAt enc b r l left k v) (IterP enc b r l left) :=
  HP.ex_elim fun x => HP.fact_elim fun h => HP.ex_intro (x.1, x.2.1, x.2.2.1.push x.2.2.2.born) (Ent.fact h.1 _)
theorem IterP.map (enc : κ → Value) (b r : Nat) (l left : List (κ × Value)) : Ent (IterP enc b r l left) (MapP enc b l) :=
  HP.ex_elim fun x => HP.fact_elim fun _ => (Ent.left _ _).trans (MapE.shut enc b x.1 x.2.1 l)

/-- How much is left, in the world. -/
def iterLeft (b r : Nat) (w : World) : Nat :=
  match w.heap[b]?, w.heap[r]? with
  | some (.map es _), some (.mapIter _ _ seen _) => (leftOf es seen).size
  | _, _ => 0

theorem IterP.left {enc : κ → Value} {b r : Nat} {l left : List (κ × Value)} {w0 w : World} {F : HP} (h : St w0 (IterP enc b r l left * F) w) : iterLeft b r w = left.length := by
  obtain ⟨⟨es, clock, seen⟩, h⟩ := h.exF
  obtain ⟨hl, h⟩ := h.factF
  simp only at hl h
  have h' := h.ac (show _ = MapE enc b es clock l * (Blk r (.mapIter (some b) clock seen clock) * F) by ac_rfl)
  have hb := (MapE.heap h').1
  have hr := h'.sw2.blk
  simp only [iterLeft, hb, hr]
  have := congrArg List.length hl
  simpa using this

theorem St.range {enc : κ → Value} {b : Nat} {l : List (κ × Value)} {T kt et : TypeId} {w0 w : World} {F : HP} {K : Value → World → Prop} {θ : Tag K} (h : St w0 (MapP enc b l * F) w) (hu : P.underlying T = some (.map kt et))
    (hK : ∀ r w', St w0 (IterP enc b r l l * F) w' → K (.pointer (some ⟨r, 0, none⟩)) w') : semD P (kRange T (.map (some b))) w K θ := by
  show semD P (Instr.range T (.map (some b))) w K θ
  obtain ⟨es, clock, h1⟩ := MapP.open h
  obtain ⟨hb, hm⟩ := MapE.heap h1
  refine ⟨.pointer (some ⟨w.heap.size, 0, none⟩), w.alloc (.mapIter (some b) clock #[] clock), ?_, hK _ _ ?_⟩
  · simp only [Instr.range, Sem.run_bind, run_underlying' hu, Result.andThen_ok, MapKept.run_getObj_map hb, Sem.run_pure]
    rfl
  · have h2 := h1.alloc (.mapIter (some b) clock #[] clock)
    refine (h2.ac (show _ = (MapE enc b es clock l * Blk w.heap.size (.mapIter (some b) clock #[] clock)) * F by ac_rfl)).ent (Ent.sep (HP.ex_intro (es, clock, #[]) (Ent.fact ?_ _)) (Ent.rfl' F))
    simp only [leftOf]
    rw [← hm.list]
    simp only [Array.toList_filter]
    rw [List.filter_eq_self.2 (by simp)]

theorem leftOf_push {es : Array MapEntry} {seen : Array Nat} {j : Nat} (hn : (es.toList.map (·.born)).Nodup) (hj : j < (leftOf es seen).size) :
    (leftOf es (seen.push (leftOf es seen)[j].born)).toList = (leftOf es seen).toList.eraseIdx j := by
  have e1 : (leftOf es (seen.push (leftOf es seen)[j].born)).toList = (leftOf es seen).toList.filter (fun e => e.born != (leftOf es seen)[j].born) := by
    simp only [leftOf, Array.toList_filter, List.filter_filter]
    apply List.filter_congr
    intro x _
    simp only [Array.contains_push, Bool.not_or]
    rw [Bool.and_comm]
    first
      | rfl
      | (congr 1; done)
      | (congr 1; rw [Bool.eq_iff_iff]; simp)
  rw [e1]
  have hn2 : ((leftOf es seen).toList.map (·.born)).Nodup := by
    refine List.Nodup.sublist ?_ hn
    simp only [leftOf, Array.toList_filter]
    exact List.Sublist.map _ (List.filter_sublist)
  have hj' : j < (leftOf es seen).toList.length := by simpa using hj
  have hx : (leftOf es seen)[j].born = ((leftOf es seen).toList[j]).born := by simp
  rw [hx]
  clear hx e1 hj hn
  generalize (leftOf es seen).toList = L at hn2 hj'
  induction L generalizing j with
  | nil => simp at hj'
  | cons a L ih =>
    simp only [List.map_cons, List.nodup_cons] at hn2
    cases j with
    | zero =>
      simp only [List.getElem_cons_zero, List.filter_cons, bne_self_eq_false, Bool.false_eq_true, if_false, List.eraseIdx_cons_zero]
      rw [List.filter_eq_self]
      intro x hx
      simp only [bne_iff_ne, ne_eq]
      intro he
      exact hn2.1 (List.mem_map.2 ⟨x, hx, he⟩)
    | succ j =>
      simp only [List.length_cons, Nat.succ_lt_succ_iff] at hj'
      have hne : (a.born != (L[j]).born) = true := by
        simp only [bne_iff_ne, ne_eq]
        intro he
        exact hn2.1 (he ▸ List.mem_map.2 ⟨L[j], List.getElem_mem _, rfl⟩)
      simp only [List.getElem_cons_succ, List.filter_cons, hne, if_true, List.eraseIdx_cons_succ]
      rw [ih hn2.2 hj']

theorem St.next {enc : κ → Value} {b r : Nat} {l left : List (κ × Value)} {ty : TypeId} {w0 w : World} {F : HP} {K : Value → World → Prop} {θ : Tag K} (h : St w0 (IterP enc b r l left * F) w)
    (h0 : left = [] → K (.tuple #[.bool false]) w)
    (h1 : ∀ j (hj : j < left.length) w', St w0 (IterAt enc b r l (left.eraseIdx j) (left[j]).1 (left[j]).2 * F) w' → K (.tuple #[.bool true, enc (left[j]).1, (left[j]).2]) w') : semD P (kNext (.pointer (some ⟨r, 0, none⟩)) false ty) w K θ := by
  show semD P (Instr.next (.pointer (some ⟨r, 0, none⟩)) false ty) w K θ
  obtain ⟨⟨es, clock, seen⟩, h⟩ := h.exF
  obtain ⟨hl, h⟩ := h.factF
  simp only at hl h
  have h2 := h.ac (show _ = MapE enc b es clock l * (Blk r (.mapIter (some b) clock seen clock) * F) by ac_rfl)
  obtain ⟨hb, hm⟩ := MapE.heap h2
  have hr := h2.sw2.blk
  have hlen : (leftOf es seen).size = left.length := by simpa using congrArg List.length hl
  rcases run_next_at (P := P) w ty r b clock clock seen es clock hr hb hm.born (Nat.le_refl _) with ⟨hz, hrun⟩ | ⟨e, he, w1, hw1, hrun⟩
  · exact ⟨_, _, hrun, h0 (List.eq_nil_of_length_eq_zero (by omega))⟩
  · obtain ⟨j, hj, rfl⟩ := List.getElem_of_mem he
    have hj' : j < (leftOf es seen).size := by simpa using hj
    have hjl : j < left.length := by omega
    have hkv : ((leftOf es seen)[j].key, (leftOf es seen)[j].val) = (enc (left[j]).1, (left[j]).2) := by
      have := congrArg (fun l => l[j]?) hl
      simpa [hj', hjl] using this
    simp only [Prod.mk.injEq] at hkv
    refine ⟨_, _, hrun, ?_⟩
    simp only [Array.getElem_toList]
    rw [hkv.1, hkv.2]
    refine h1 j hjl _ ?_
    have h3 : St w0 (Blk r (.mapIter (some b) clock seen clock) * (MapE enc b es clock l * F)) w1 := by
      rcases hw1 with rfl | rfl
      · exact h2.sw2
      · exact h2.sw2.drew
    have h4 := h3.putObj (.mapIter (some b) clock (seen.push (leftOf es seen)[j].born) clock)
    refine (h4.ac (show _ = (MapE enc b es clock l * Blk r (.mapIter (some b) clock (seen.push (leftOf es seen)[j].born) clock)) * F by ac_rfl)).ent (Ent.sep (HP.ex_intro (es, clock, seen, (leftOf es seen)[j]) (Ent.fact ⟨?_, ?_, hkv.1, hkv.2⟩ _)) (Ent.rfl' F))
    · simp only [leftOf_push hm.nodup hj', ChangeMaps.map_eraseIdx, hl]
    · have : (leftOf es seen)[j] ∈ leftOf es seen := Array.getElem_mem _
      simp only [leftOf, Array.mem_filter] at this
      exact Array.mem_toList_iff.2 this.1

theorem St.entry {enc : κ → Value} {b r : Nat} {l left : List (κ × Value)} {k : κ} {v : Value} {w0 w : World} {F : HP} {K : Value → Prop} {θ : Tag K} (h : St w0 (IterAt enc b r l left k v * F) w)
    (hK : K (.tuple #[enc k, v])) : readR P (kEntry (.pointer (some ⟨r, 0, none⟩))) w K θ := by
  show readR P (Instr.entry (.pointer (some ⟨r, 0, none⟩))) w K θ
  obtain ⟨⟨es, clock, seen, e⟩, h⟩ := h.exF
  obtain ⟨⟨_, he, hk, hv⟩, h⟩ := h.factF
  simp only at he hk hv h
  have h2 := h.ac (show _ = MapE enc b es clock l * (Blk r (.mapIter (some b) clock (seen.push e.born) clock) * F) by ac_rfl)
  obtain ⟨hb, hm⟩ := MapE.heap h2
  have hr := h2.sw2.blk
  refine ⟨_, run_entry_at w r b clock seen es clock e hr hb he hm.nodup, ?_⟩
  rw [hk, hv]
  exact hK

end

end Go.Proofs.Ytacmnfpgimgigaa

namespace Go.Proofs.Ytacmnfpgimgigaa
open Go
set_option linter.unusedVariables false
instance {κ : Type} (enc : κ → Value) (b r : Nat) (l left : List (κ × Value)) : Face (.map b) (IterP enc b r l left) := ⟨⟩
instance {κ : Type} (enc : κ → Value) (b r : Nat) (l left : List (κ × Value)) (k : κ) (v : Value) : Face (.map b) (IterAt enc b r l left k v) := ⟨⟩

theorem perm_eraseIdx {α : Type} : ∀ (l : List α) (j : Nat) (hj : j < l.length), (l[j] :: l.eraseIdx j).Perm l
  | a :: l, 0, _ => .refl _
  | a :: l, j + 1, hj => by
    simp only [List.getElem_cons_succ, List.eraseIdx_cons_succ]
    exact (List.Perm.swap _ _ _).trans ((perm_eraseIdx l j (by simpa using hj)).cons a)

section
variable {κ : Type} {P : Program} {w0 w : World} {A F X : HP} {C : HP → HP} {enc : κ → Value} {b r : Nat} {l left : List (κ × Value)}

theorem St.mapNodup (h : St w0 A w) (b : Nat) [i : Hole (.map b) A (MapP enc b l) C] : (l.map (·.1)).Nodup := by
  obtain ⟨R, hR, h'⟩ := h.out (.map b)
  obtain ⟨es, clock, h2⟩ := MapP.open h'
  exact (MapE.heap h2).2.keys
theorem St.iterLeft (h : St w0 A w) (b : Nat) [i : Hole (.map b) A (IterP enc b r l left) C] : Go.Proofs.Ytacmnfpgimgigaa.iterLeft b r w = left.length := by
  obtain ⟨R, hR, h'⟩ := h.out (.map b)
  exact IterP.left h'
theorem St.rangeH {T kt et : TypeId} {K : Value → World → Prop} {θ : Tag K} (h : St w0 A w) [i : Hole (.map b) A (MapP enc b l) C] (hu : P.underlying T = some (.map kt et))
    (hK : ∀ r w', St w0 (C (IterP enc b r l l)) w' → K (.pointer (some ⟨r, 0, none⟩)) w') : semD P (kRange T (.map (some b))) w K θ := by
  obtain ⟨R, hR, h'⟩ := h.out (.map b)
  exact h'.range hu fun r w' hw => hK r w' (by rw [hR]; exact hw)
theorem St.nextH {ty : TypeId} {K : Value → World → Prop} {θ : Tag K} (h : St w0 A w) (b : Nat) [i : Hole (.map b) A (IterP enc b r l left) C]
    (h0 : left = [] → K (.tuple #[.bool false]) w)
    (h1 : ∀ j (hj : j < left.length) w', St w0 (C (IterAt enc b r l (left.eraseIdx j) (left[j]).1 (left[j]).2)) w' → K (.tuple #[.bool true, enc (left[j]).1, (left[j]).2]) w') : semD P (kNext (.pointer (some ⟨r, 0, none⟩)) false ty) w K θ := by
  obtain ⟨R, hR, h'⟩ := h.out (.map b)
  exact h'.next h0 fun j hj w' hw => h1 j hj w' (by rw [hR]; exact hw)
theorem St.entryH {k : κ} {v : Value} {K : Value → Prop} {θ : Tag K} (h : St w0 A w) (b : Nat) [i : Hole (.map b) A (IterAt enc b r l left k v) C] (hK : K (.tuple #[enc k, v])) : readR P (kEntry (.pointer (some ⟨r, 0, none⟩))) w K θ := by
  obtain ⟨R, hR, h'⟩ := h.out (.map b)
  exact h'.entry hK
theorem St.iterDone {k : κ} {v : Value} (h : St w0 A w) (b : Nat) [i : Hole (.map b) A (IterAt enc b r l left k v) C] : St w0 (C (IterP enc b r l left)) w := h.turnTo (.map b) (IterAt.iter enc b r l left k v)
theorem St.iterEnd (h : St w0 A w) (b : Nat) [i : Hole (.map b) A (IterP enc b r l left) C] : St w0 (C (MapP enc b l)) w := h.turnTo (.map b) (IterP.map enc b r l left)

/-- A step, the entries being those of a list of one's own. -/
theorem St.nextP {α : Type} {f : α → Value} {lf : List (κ × α)} {ty : TypeId} {K : Value → World → Prop} {θ : Tag K} (h : St w0 A w) (b : Nat) [i : Hole (.map b) A (IterP enc b r l (amap f lf)) C]
    (h0 : lf = [] → K (.tuple #[.bool false]) w)
    (h1 : ∀ (x : κ × α) (rest : List (κ × α)) w', (x :: rest).Perm lf → St w0 (C (IterAt enc b r l (amap f rest) x.1 (f x.2))) w' → K (.tuple #[.bool true, enc x.1, f x.2]) w') : semD P (kNext (.pointer (some ⟨r, 0, none⟩)) false ty) w K θ := by
  refine h.nextH b (fun e => h0 (by simpa [amap] using e)) fun j hj w' hw => ?_
  have hj' : j < lf.length := by simpa [amap] using hj
  have e1 : (amap f lf)[j] = ((lf[j]).1, f (lf[j]).2) := by simp [amap]
  have e2 : (amap f lf).eraseIdx j = amap f (lf.eraseIdx j) := by simp only [amap, ChangeMaps.map_eraseIdx]
  rw [e1] at hw ⊢
  rw [e2] at hw
  exact h1 lf[j] (lf.eraseIdx j) w' (perm_eraseIdx lf j hj') hw
end
end Go.Proofs.Ytacmnfpgimgigaa

namespace Go.Proofs.Ytacmnfpgimgigaa
open Go Go.Sort Go.RowKit Go.Shelf
set_option linter.unusedVariables false

/-- A world in which all of W lies as it lay: W with draws and new blocks. -/
theorem St.exact {W W' : World} (h : St W (Old W) W') : ∃ q os, W' = grow (W.drewN q) os := by
  obtain ⟨x, l, hx⟩ := h.sat
  have ho := h.os
  have ht := h.tape
  have hu := h.output
  have hd := h.drawn
  have hs := h.size
  refine ⟨W'.drawn - W.drawn, W'.heap.extract W.heap.size W'.heap.size, ?_⟩
  have hh : W'.heap = W.heap ++ W'.heap.extract W.heap.size W'.heap.size := by
    apply Array.ext_getElem?
    intro i
    by_cases hi : i < W.heap.size
    · rw [Array.getElem?_append_left hi, Array.getElem?_eq_getElem hi]
      exact l i _ (hx i _ (Array.getElem?_eq_getElem hi))
    · rw [Array.getElem?_append_right (by omega), Array.getElem?_extract]
      by_cases hj : i < W'.heap.size
      · rw [if_pos (by omega), show W.heap.size + (i - W.heap.size) = i by omega]
      · rw [if_neg (by omega), Array.getElem?_eq_none (by omega)]
  cases W'
  cases W
  simp only [grow, World.drewN] at *
  subst ho ht hu
  simp only [World.mk.injEq, true_and, and_true]
  exact ⟨hh, by omega⟩

section
variable {β : Type} [Inhabited β] {enc : β → Value}

theorem putCells_row {o : Nat} {d : Array β} {c : Array Value} (h : o + d.size ≤ c.size) : ((putCells enc o d c).toList.drop o).take d.size = d.toList.map enc := by
  apply List.ext_getElem?
  intro i
  by_cases hi : i < d.size
  · rw [List.getElem?_take_of_lt hi, List.getElem?_drop, Array.getElem?_toList, putCells, Array.getElem?_mapIdx, Array.getElem?_eq_getElem (by omega : o + i < c.size), Option.map_some, if_pos (by omega), List.getElem?_map, Array.getElem?_toList, Array.getElem?_eq_getElem hi, Option.map_some,
      show o + i - o = i by omega, getElem!_pos d i hi]
  · rw [List.getElem?_take_eq_none (by omega), List.getElem?_map, Array.getElem?_toList, Array.getElem?_eq_none (by omega)]; rfl

theorem RowO.place {T s : Nat} {v : Value} {n : Nat} {xs : List Value} {F : HP} {w0 w : World} (h : St w0 (RowO T s v n xs * F) w) : (v = .slice none 0 0 ∧ n = 0 ∧ xs = []) ∨ ∃ g o cap cur, v = .slice (some ⟨g, o, none⟩) n cap ∧ w.heap[g]? = some (.cells cur T (0, 0)) ∧ o + cap * s ≤ cur.size ∧ n ≤ cap ∧ (cur.toList.drop o).take (n * s) = xs ∧ xs.length = n * s := by
  obtain ⟨x, l, h1, _, _, l1, _, a, _⟩ := h.sat
  rcases a with a | ⟨g, o, cap, cur, e1, e2, e3, e4, e5, e6, e7⟩
  · exact .inl a
  · exact .inr ⟨g, o, cap, cur, e1, l _ _ (l1 _ _ e2), e5, e3, e6, e7⟩

/-- A row written over, draws, new blocks. -/
theorem St.putRow {T s g o cap n m : Nat} {xs : List Value} {F : HP} {w0 w : World} {d' : Array β} {os : Array Obj} (h : St w0 (RowO T s (.slice (some ⟨g, o, none⟩) n cap) n xs * F) w) (hs : d'.size = xs.length) :
    St w0 (RowO T s (.slice (some ⟨g, o, none⟩) n cap) n (d'.toList.map enc) * F) (grow (Sort.putRow enc (Sort.ahead w m) g o d') os) := by
  have hlen : xs.length = n * s := by
    rcases RowO.place h with ⟨hv, _⟩ | ⟨_, _, _, _, _, _, _, _, _, e⟩
    · cases hv
    · exact e
  have hsz : (grow (Sort.putRow enc (Sort.ahead w m) g o d') os).heap.size = w.heap.size + os.size := by simp [grow, Sort.putRow, mapBlock, Sort.ahead]
  obtain ⟨x, l, h1, h2, dj, l1, l2, a, f⟩ := h.sat
  rcases a with ⟨hv, _⟩ | ⟨g', o', cap', cur, e1, e2, e3, e4, e5, e6, e7⟩
  · cases hv
  simp only [Value.slice.injEq, Option.some.injEq, Addr.mk.injEq, and_true, true_and] at e1
  obtain ⟨⟨rfl, rfl⟩, rfl⟩ := e1
  have hg : w.heap[g]? = some (.cells cur T (0, 0)) := l _ _ (l1 _ _ e2)
  have hgl := (Array.getElem?_eq_some_iff.1 hg).1
  have hk : ∀ k, k < w.heap.size → (grow (Sort.putRow enc (Sort.ahead w m) g o d') os).heap[k]? = if k = g then some (.cells (putCells enc o d' cur) T (0, 0)) else w.heap[k]? := by
    intro k hk
    have hm : (w.heap.modify g (onCells (putCells enc o d'))).size = w.heap.size := by simp
    show (w.heap.modify g (onCells (putCells enc o d')) ++ os)[k]? = _
    rw [Array.getElem?_append_left (by omega), Array.getElem?_modify]
    by_cases hkg : g = k
    · subst hkg
      rw [if_pos rfl, if_pos rfl, hg]
      rfl
    · rw [if_neg hkg, if_neg (fun e => hkg e.symm)]
  have hcs : n * s ≤ cap * s := Nat.mul_le_mul_right s e3
  have hG : Go.Proofs.Ytacmnfpgimgigaa.RowO T s (.slice (some ⟨g, o, none⟩) n cap) n (d'.toList.map enc) = Go.Proofs.Ytacmnfpgimgigaa.RowO T s (.slice (some ⟨g, o, none⟩) n cap) n (d'.toList.map enc) := rfl
  -- the row of old, its block alone
  have hself : St w0 (Blk g (.cells cur T (0, 0)) * F) w := by
    refine ⟨h.os, h.tape, h.output, h.drawn, h.size, x, l, fun k => if k = g then some (.cells cur T (0, 0)) else none, h2, fun k => ?_, fun k o' e => ?_, l2, by simp [Blk], f⟩
    · by_cases hkg : k = g
      · subst hkg; exact .inr ((dj k).resolve_left (by rw [e2]; simp))
      · left; simp [hkg]
    · by_cases hkg : k = g
      · subst hkg; simp only [if_true] at e; cases e; exact l1 _ _ e2
      · simp [hkg] at e
  have hnew : St w0 (Blk g (.cells (putCells enc o d' cur) T (0, 0)) * F) (grow (Sort.putRow enc (Sort.ahead w m) g o d') os) := by
    refine hself.blk_turn rfl rfl rfl (by rw [hsz]; omega) (by rw [hk g hgl, if_pos rfl]) (fun k hkg hlt => by rw [hk k hlt, if_neg hkg]) (hdr := ?_)
    simp [grow, Sort.putRow, mapBlock, Sort.ahead]
  refine hnew.ent (Ent.sep (Ent.of fun h hb => ?_) (Ent.rfl' F))
  refine .inr ⟨g, o, cap, putCells enc o d' cur, rfl, hb, e3, e4, by simpa [putCells] using e5, ?_, by rw [List.length_map, Array.length_toList, hs, hlen]⟩
  have := putCells_row (enc := enc) (o := o) (d := d') (c := cur) (by omega)
  rw [hs, hlen] at this
  exact this

theorem RowO.holds {T s g o cap n : Nat} {xs : List Value} {F : HP} {w0 w : World} {d : Array β} (h : St w0 (RowO T s (.slice (some ⟨g, o, none⟩) n cap) n xs * F) w) (hx : d.toList.map enc = xs) : Holds enc w g o d ∧ g < w.heap.size := by
  rcases RowO.place h with ⟨hv, _⟩ | ⟨g', o', cap', cur, e1, e2, e3, e4, e5, e6⟩
  · cases hv
  simp only [Value.slice.injEq, Option.some.injEq, Addr.mk.injEq, and_true, true_and] at e1
  obtain ⟨⟨rfl, rfl⟩, rfl⟩ := e1
  refine ⟨fun j hj => ?_, (Array.getElem?_eq_some_iff.1 e2).1⟩
  have hl : d.size = n * s := by rw [← e6, ← hx]; simp
  refine ⟨?_, frozen_of_heap e2 _⟩
  rw [cell_of_heap e2]
  have h1 : (xs)[j]? = some (enc d[j]!) := by rw [← hx, List.getElem?_map, Array.getElem?_toList, Array.getElem?_eq_getElem hj, getElem!_pos d j hj]; rfl
  rw [← e5, List.getElem?_take_of_lt (by omega), List.getElem?_drop, Array.getElem?_toList] at h1
  exact h1

/-- From a sort's contract over its own words to rows of one's own. -/
theorem sort_bridge {P : Program} {fn : Nat} {args : Value → Array Value} {T s n : Nat} {v : Value} {xs : List Value} {F : HP} {w0 w : World} {d d' : Array β} (h : St w0 (RowO T s v n xs * F) w) (hx : d.toList.map enc = xs) (hs : d'.size = d.size)
    (hnone : ∀ p cap, Calls P fn (args (.slice p 0 cap)) w fun e w' => e = .returned (.tuple #[]) ∧ w' = w)
    (hsome : ∀ g o cap, v = .slice (some ⟨g, o, none⟩) n cap → Holds enc w g o d → g < w.heap.size → Calls P fn (args (.slice (some ⟨g, o, none⟩) n cap)) w fun e w' => e = .returned (.tuple #[]) ∧ ∃ m os, w' = grow (Sort.putRow enc (Sort.ahead w m) g o d') os) :
    Calls P fn (args v) w fun e w' => St w0 (RowO T s v n (d'.toList.map enc) * F) w' ∧ e = .returned (.tuple #[]) := by
  have hlx : d.size = xs.length := by rw [← hx]; simp
  rcases RowO.place h with ⟨rfl, rfl, rfl⟩ | ⟨g, o, cap, cur, rfl, _⟩
  · have : d' = #[] := Array.eq_empty_of_size_eq_zero (by rw [hs, hlx]; rfl)
    subst this
    exact (hnone none 0).mono fun e w' ⟨he, hw⟩ => ⟨by rw [hw]; exact h, he⟩
  · obtain ⟨hH, hg⟩ := RowO.holds (enc := enc) h hx
    refine (hsome g o cap rfl hH hg).mono ?_
    rintro e w' ⟨he, m, os, rfl⟩
    exact ⟨h.putRow (by rw [hs, hlx]), he⟩

theorem flatK_flat {α : Type} [Inhabited α] {enc : α → List Value} {k : Nat} (hk : ∀ x, (enc x).length = k) (d : Array α) : (Sort.flatK enc k d).toList.map id = d.toList.flatMap enc := by
  rw [List.map_id]
  have hl : ∀ l : List α, (l.flatMap enc).length = l.length * k := fun l => by
    induction l with
    | nil => simp
    | cons x l ih => rw [List.flatMap_cons, List.length_append, hk, ih, List.length_cons, Nat.add_mul]; omega
  have hg : ∀ (l : List α) (t : Nat), t < l.length * k → (l.flatMap enc)[t]? = some ((enc l[t / k]!)[t % k]!) := fun l => by
    induction l with
    | nil => intro t h; simp at h
    | cons x l ih =>
      intro t ht
      rw [List.length_cons, Nat.add_mul] at ht
      have k0 : 0 < k := by rcases Nat.eq_zero_or_pos k with h | h; · subst h; simp at ht
                            · exact h
      rw [List.flatMap_cons]
      by_cases h1 : t < k
      · rw [List.getElem?_append_left (by rw [hk]; exact h1), Nat.div_eq_of_lt h1, Nat.mod_eq_of_lt h1]
        have : t < (enc x).length := by rw [hk]; exact h1
        rw [List.getElem?_eq_getElem this]
        simp [this]
      · rw [List.getElem?_append_right (by rw [hk]; omega), hk, ih (t - k) (by omega)]
        have e1 : t / k = (t - k) / k + 1 := by rw [← Nat.add_div_right _ k0, Nat.sub_add_cancel (by omega)]
        have e2 : t % k = (t - k) % k := by rw [Nat.mod_eq_sub_mod (by omega)]
        rw [e1, e2]
        simp
  apply List.ext_getElem?
  intro t
  by_cases ht : t < d.size * k
  · rw [hg d.toList t (by simpa using ht), Array.getElem?_toList, Array.getElem?_eq_getElem (by simpa using ht)]
    have := Sort.get_flatK enc k d t ht
    rw [getElem!_pos _ t (by simpa using ht)] at this
    have hdk : t / k < d.size := Nat.div_lt_of_lt_mul (by rw [Nat.mul_comm]; exact ht)
    rw [this, getElem!_pos d _ hdk, getElem!_pos d.toList _ (by simpa using hdk)]
    simp
  · rw [Array.getElem?_toList, Array.getElem?_eq_none (by simpa using ht), List.getElem?_eq_none (by rw [hl]; simpa using ht)]
end

/-- slices.SortFunc, of structs. -/
theorem St.sortFuncK {P : Program} {ρ : Ren} {α : Type} [Inhabited α] (L : SlLaysF0.n6 P ρ) {k : Nat} (aE : ∀ w, (isAgg (ρ.t 24)).run P w = .ok true w) (zE : ∀ w, (Go.sizeOf (ρ.t 24)).run P w = .ok k w) {enc : α → List Value} (hk : ∀ x, (enc x).length = k) (h1 : ∀ x, ∀ v ∈ enc x, v.oneCell' = true) {cf : α → α → Int} (hO : SWO (ltOf cf))
    {g : Nat} (eg : ∀ args w, (callFunc g args).run P w = .ok (.enter g args) w) (hcmp : ∀ (W : World) (x y : α), Calls P g #[.agg (enc x).toArray, .agg (enc y).toArray] W fun e w' => St W (Old W) w' ∧ e = .returned (.int .i64 (cf x y)))
    (hT : ∀ x y, (ltOf cf) x y = false → (ltOf cf) y x = false → x = y) {T : TypeId} {v : Value} {l : List α} {F : HP} {w0 w : World} (h : St w0 (RowO T k v l.length (l.flatMap enc) * F) w) (hsz : l.length < 4611686018427387904) :
    Calls P (ρ.f 6) #[v, .func (.func g) #[] #[]] w fun e w' => St w0 (RowO T k v l.length ((l.mergeSort fun x y => !(ltOf cf) y x).flatMap enc) * F) w' ∧ e = .returned (.tuple #[]) := by
  have hx := flatK_flat hk l.toArray
  have hx' := flatK_flat hk (l.mergeSort fun x y => !(ltOf cf) y x).toArray
  rw [List.toList_toArray] at hx hx'
  have key := sort_bridge (enc := id) (fn := ρ.f 6) (args := fun v => #[v, .func (.func g) #[] #[]]) (d' := Sort.flatK enc k (l.mergeSort fun x y => !(ltOf cf) y x).toArray) (P := P) h hx (by simp)
    (fun p cap => AnyF.slices_SortFunc_none { L with } p cap _ w) (fun b o cap hv hH hb => by
      have hc : CmpLays P g #[] enc k cf b o l.toArray.size w := fun m os dk _ x y => (hcmp _ x y).mono fun e w' ⟨hst, he⟩ => ⟨he, hst.exact⟩
      have := AnyQ.slices_SortFunc_total L k aE zE enc hk h1 cf hO g #[] b o cap l.toArray w eg hc hH hb (by simpa using hsz) hT
      simpa [sortWorldK, putRowK] using this)
  rw [hx'] at key
  exact key

/-- slices.SortFunc, of structs of which some may be alike to it. -/
theorem St.sortFuncP {P : Program} {ρ : Ren} {α : Type} [Inhabited α] (L : SlLaysF0.n6 P ρ) {k : Nat} (aE : ∀ w, (isAgg (ρ.t 24)).run P w = .ok true w) (zE : ∀ w, (Go.sizeOf (ρ.t 24)).run P w = .ok k w) {enc : α → List Value} (hk : ∀ x, (enc x).length = k) (h1 : ∀ x, ∀ v ∈ enc x, v.oneCell' = true) {cf : α → α → Int} (hO : SWO (ltOf cf))
    {g : Nat} (eg : ∀ args w, (callFunc g args).run P w = .ok (.enter g args) w) (hcmp : ∀ (W : World) (x y : α), Calls P g #[.agg (enc x).toArray, .agg (enc y).toArray] W fun e w' => St W (Old W) w' ∧ e = .returned (.int .i64 (cf x y)))
    {T : TypeId} {v : Value} {l : List α} {F : HP} {w0 w : World} (h : St w0 (RowO T k v l.length (l.flatMap enc) * F) w) (hsz : l.length < 4611686018427387904) :
    Calls P (ρ.f 6) #[v, .func (.func g) #[] #[]] w fun e w' => ∃ l' : List α, l'.Perm l ∧ l'.Pairwise (fun x y => ltOf cf y x = false) ∧ St w0 (RowO T k v l.length (l'.flatMap enc) * F) w' ∧ e = .returned (.tuple #[]) := by
  have hx := flatK_flat hk l.toArray
  rw [List.toList_toArray] at hx
  have hx := flatK_flat hk l.toArray
  rw [List.toList_toArray] at hx
  rcases RowO.place h with ⟨rfl, hl, _⟩ | ⟨b, o, cap, cur, rfl, _⟩
  · obtain rfl : l = [] := List.eq_nil_of_length_eq_zero hl
    exact (AnyF.slices_SortFunc_none { L with } none 0 _ w).mono fun e w' ⟨he, hw⟩ => ⟨[], .refl _, .nil, by rw [hw]; exact h, he⟩
  · obtain ⟨hH, hb⟩ := RowO.holds (enc := id) h hx
    have hc : CmpLays P g #[] enc k cf b o l.toArray.size w := fun m os dk _ x y => (hcmp _ x y).mono fun e w' ⟨hst, he⟩ => ⟨he, hst.exact⟩
    refine (AnyQ.slices_SortFunc L k aE zE enc hk h1 cf hO g #[] b o cap l.toArray w eg hc hH hb (by simpa using hsz)).mono ?_
    rintro e w' ⟨he, d', m, os, hp, hs, rfl⟩
    have hd : d'.size = l.length := by simpa using hp.1
    have hpm : d'.toList.Perm l := by
      have := hp.2.2
      simp only [List.size_toArray, ← hd, Array.extract_size] at this
      rw [hd] at this
      simpa using this
    refine ⟨d'.toList, hpm, ?_, ?_, he⟩
    · rw [List.pairwise_iff_getElem]
      intro i j hi hj hij
      have := hs i j (Nat.zero_le _) hij (by simpa [hd] using hj)
      rw [getElem!_pos d' j (by simpa using hj), getElem!_pos d' i (by simpa using hi)] at this
      simpa using this
    · have hx' := flatK_flat hk d'
      rw [← hx']
      exact h.putRow (enc := id) (d' := Sort.flatK enc k d') (by rw [← hx, List.length_map, Array.length_toList, Sort.size_flatK, Sort.size_flatK, hd]; simp)

/-- Of two sorted lists of the same things the one is the other. -/
theorem perm_sorted_unique {α : Type} {r : α → α → Prop} : ∀ {l l' : List α}, (∀ x ∈ l, ∀ y ∈ l, r x y → r y x → x = y) → l.Perm l' → l.Pairwise r → l'.Pairwise r → (∀ x ∈ l, r x x) → l = l'
  | [], l', _, hp, _, _, _ => (List.nil_perm.1 hp).symm
  | a :: l, [], _, hp, _, _, _ => by have := hp.length_eq; simp at this
  | a :: l, b :: l', ha, hp, h1, h2, hr => by
    have hab : a = b := by
      have hbl : b ∈ a :: l := hp.mem_iff.2 (by simp)
      have hal : a ∈ b :: l' := hp.mem_iff.1 (by simp)
      refine ha a (by simp) b hbl ?_ ?_
      · rcases List.mem_cons.1 hbl with rfl | hb
        · exact hr _ (by simp)
        · exact List.rel_of_pairwise_cons h1 hb
      · rcases List.mem_cons.1 hal with rfl | hb
        · exact hr _ (by simp)
        · exact List.rel_of_pairwise_cons h2 hb
    subst hab
    rw [perm_sorted_unique (fun x hx y hy => ha x (by simp [hx]) y (by simp [hy])) (List.Perm.cons_inv hp) (List.Pairwise.of_cons h1) (List.Pairwise.of_cons h2) (fun x hx => hr x (by simp [hx]))]

/-- slices.Sort, of ints. -/
theorem St.sortInts {P : Program} {ρ : Ren} (L : SlLaysM.n5 P ρ) {T : TypeId} {v : Value} {l : List Int} {F : HP} {w0 w : World} (h : St w0 (RowO T 1 v l.length (l.map (Value.int .i64)) * F) w) (hsz : l.length < 4611686018427387904) :
    Calls P (ρ.f 5) #[v] w fun e w' => St w0 (RowO T 1 v l.length ((l.mergeSort fun x y => decide (x ≤ y)).map (Value.int .i64)) * F) w' ∧ e = .returned (.tuple #[]) :=
  sort_bridge (enc := Value.int .i64) (fn := ρ.f 5) (args := fun v => #[v]) (d := l.toArray) (d' := (l.mergeSort fun x y => decide (x ≤ y)).toArray) h (by simp) (by simp)
    (fun p cap => AnyM.slices_Sort_int_none L p cap w) (fun b o cap _ hH hb => AnyM.slices_Sort_int L b o cap l w hH hb hsz)

end Go.Proofs.Ytacmnfpgimgigaa

namespace Go.Proofs.Ytacmnfpgimgigaa
open Go.Shelf
set_option maxRecDepth 100000

def sortNeedL_ren : Go.Shelf.Ren := ⟨fun | 6 => 36 | 15 => 54 | 14 => 53 | 28 => 68 | 29 => 69 | 20 => 60 | 21 => 61 | 22 => 62 | 23 => 63 | 24 => 64 | 25 => 65 | 26 => 66 | 27 => 67 | 46 => 81 | 47 => 82 | 48 => 83 | 49 => 84 | 50 => 85 | 57 => 89 | n => n, fun | 22 => 33 | 24 => 38 | 25 => 76 | 3 => 3 | 39 => 94 | 0 => 0 | 53 => 106 | 55 => 24 | 4 => 4 | 46 => 100 | 45 => 99 | 50 => 77 | 5 => 5 | 9 => 9 | 66 => 115 | 70 => 119 | 76 => 123 | 77 => 124 | n => n, fun | n => n⟩

theorem sortNeedL : Go.Proofs.SlLaysF0.n6 Try.prog sortNeedL_ren := {
  mixed := by kernel_rfl,
  f6 := ⟨Try.f36.name, by decide, Try.func36.trans (congrArg some (by kernel_rfl))⟩,
  f14 := ⟨Try.f53.name, by decide, Try.func53.trans (congrArg some (by kernel_rfl))⟩,
  f15 := Try.func54.trans (congrArg some (by kernel_rfl)),
  f20 := ⟨Try.f60.name, by decide, Try.func60.trans (congrArg some (by kernel_rfl))⟩,
  f21 := ⟨Try.f61.name, by decide, Try.func61.trans (congrArg some (by kernel_rfl))⟩,
  f22 := ⟨Try.f62.name, by decide, Try.func62.trans (congrArg some (by kernel_rfl))⟩,
  f23 := ⟨Try.f63.name, by decide, Try.func63.trans (congrArg some (by kernel_rfl))⟩,
  f24 := ⟨Try.f64.name, by decide, Try.func64.trans (congrArg some (by kernel_rfl))⟩,
  f25 := ⟨Try.f65.name, by decide, Try.func65.trans (congrArg some (by kernel_rfl))⟩,
  f26 := ⟨Try.f66.name, by decide, Try.func66.trans (congrArg some (by kernel_rfl))⟩,
  f27 := ⟨Try.f67.name, by decide, Try.func67.trans (congrArg some (by kernel_rfl))⟩,
  f28 := Try.func68.trans (congrArg some (by kernel_rfl)),
  f29 := Try.func69.trans (congrArg some (by kernel_rfl)),
  f46 := ⟨Try.f81.name, by decide, Try.func81.trans (congrArg some (by kernel_rfl))⟩,
  f47 := Try.func82.trans (congrArg some (by kernel_rfl)),
  f48 := Try.func83.trans (congrArg some (by kernel_rfl)),
  f49 := ⟨Try.f84.name, by decide, Try.func84.trans (congrArg some (by kernel_rfl))⟩,
  f50 := ⟨Try.f85.name, by decide, Try.func85.trans (congrArg some (by kernel_rfl))⟩,
  f57 := ⟨Try.f89.name, by decide, Try.func89.trans (congrArg some (by kernel_rfl))⟩,
  t0 := Try.underlying0,
  a0 := Try.isAgg0,
  z0 := Try.sizeOf0,
  v0 := Try.zeroValue0,
  t3 := Try.underlying3,
  a3 := Try.isAgg3,
  z3 := Try.sizeOf3,
  v3 := Try.zeroValue3,
  t4 := Try.underlying4,
  a4 := Try.isAgg4,
  z4 := Try.sizeOf4,
  v4 := Try.zeroValue4,
  t5 := Try.underlying5,
  a5 := Try.isAgg5,
  z5 := Try.sizeOf5,
  v5 := Try.zeroValue5,
  t9 := Try.underlying9,
  a9 := Try.isAgg9,
  z9 := Try.sizeOf9,
  v9 := Try.zeroValue9,
  t22 := Try.underlying33,
  a22 := Try.isAgg33,
  z22 := Try.sizeOf33,
  v22 := Try.zeroValue33,
  t25 := Try.underlying76,
  a25 := Try.isAgg76,
  z25 := Try.sizeOf76,
  v25 := Try.zeroValue76,
  t39 := Try.underlying94,
  a39 := Try.isAgg94,
  z39 := Try.sizeOf94,
  v39 := Try.zeroValue94,
  t45 := Try.underlying99,
  a45 := Try.isAgg99,
  z45 := Try.sizeOf99,
  v45 := Try.zeroValue99,
  t46 := Try.underlying100,
  a46 := Try.isAgg100,
  z46 := Try.sizeOf100,
  v46 := Try.zeroValue100,
  t50 := Try.underlying77,
  a50 := Try.isAgg77,
  z50 := Try.sizeOf77,
  v50 := Try.zeroValue77,
  t53 := Try.underlying106,
  a53 := Try.isAgg106,
  z53 := Try.sizeOf106,
  v53 := Try.zeroValue106,
  t55 := Try.underlying24,
  a55 := Try.isAgg24,
  z55 := Try.sizeOf24,
  v55 := Try.zeroValue24,
  t66 := Try.underlying115,
  a66 := Try.isAgg115,
  z66 := Try.sizeOf115,
  v66 := Try.zeroValue115,
  t70 := Try.underlying119,
  a70 := Try.isAgg119,
  z70 := Try.sizeOf119,
  v70 := Try.zeroValue119,
  t76 := Try.underlying123,
  a76 := Try.isAgg123,
  z76 := Try.sizeOf123,
  v76 := Try.zeroValue123,
  t77 := Try.underlying124,
  a77 := Try.isAgg124,
  z77 := Try.sizeOf124,
  v77 := Try.zeroValue124 }

def sortIntL_ren : Go.Shelf.Ren := ⟨fun | 5 => 50 | 8 => 54 | 7 => 59 | 19 => 68 | 20 => 69 | 10 => 72 | 11 => 73 | 12 => 74 | 13 => 75 | 14 => 76 | 15 => 77 | 16 => 78 | 17 => 79 | 18 => 80 | 30 => 86 | 31 => 82 | 32 => 83 | 33 => 87 | 34 => 88 | 35 => 48 | 40 => 90 | n => n, fun | 23 => 34 | 25 => 3 | 3 => 3 | 32 => 94 | 22 => 34 | 0 => 0 | 44 => 106 | 46 => 24 | 4 => 4 | 36 => 100 | 35 => 99 | 41 => 77 | 5 => 5 | 9 => 9 | 53 => 115 | 57 => 119 | 63 => 123 | 64 => 124 | n => n, fun | n => n⟩

theorem sortIntL : Go.Proofs.SlLaysM.n5 Try.prog sortIntL_ren := {
  mixed := by kernel_rfl,
  f5 := ⟨Try.f50.name, by decide, Try.func50.trans (congrArg some (by kernel_rfl))⟩,
  f7 := ⟨Try.f59.name, by decide, Try.func59.trans (congrArg some (by kernel_rfl))⟩,
  f8 := Try.func54.trans (congrArg some (by kernel_rfl)),
  f10 := ⟨Try.f72.name, by decide, Try.func72.trans (congrArg some (by kernel_rfl))⟩,
  f11 := ⟨Try.f73.name, by decide, Try.func73.trans (congrArg some (by kernel_rfl))⟩,
  f12 := ⟨Try.f74.name, by decide, Try.func74.trans (congrArg some (by kernel_rfl))⟩,
  f13 := ⟨Try.f75.name, by decide, Try.func75.trans (congrArg some (by kernel_rfl))⟩,
  f14 := ⟨Try.f76.name, by decide, Try.func76.trans (congrArg some (by kernel_rfl))⟩,
  f15 := ⟨Try.f77.name, by decide, Try.func77.trans (congrArg some (by kernel_rfl))⟩,
  f16 := ⟨Try.f78.name, by decide, Try.func78.trans (congrArg some (by kernel_rfl))⟩,
  f17 := ⟨Try.f79.name, by decide, Try.func79.trans (congrArg some (by kernel_rfl))⟩,
  f18 := ⟨Try.f80.name, by decide, Try.func80.trans (congrArg some (by kernel_rfl))⟩,
  f19 := Try.func68.trans (congrArg some (by kernel_rfl)),
  f20 := Try.func69.trans (congrArg some (by kernel_rfl)),
  f30 := ⟨Try.f86.name, by decide, Try.func86.trans (congrArg some (by kernel_rfl))⟩,
  f31 := Try.func82.trans (congrArg some (by kernel_rfl)),
  f32 := Try.func83.trans (congrArg some (by kernel_rfl)),
  f33 := ⟨Try.f87.name, by decide, Try.func87.trans (congrArg some (by kernel_rfl))⟩,
  f34 := ⟨Try.f88.name, by decide, Try.func88.trans (congrArg some (by kernel_rfl))⟩,
  f35 := ⟨Try.f48.name, by decide, Try.func48.trans (congrArg some (by kernel_rfl))⟩,
  f40 := ⟨Try.f90.name, by decide, Try.func90.trans (congrArg some (by kernel_rfl))⟩,
  t0 := Try.underlying0,
  a0 := Try.isAgg0,
  z0 := Try.sizeOf0,
  v0 := Try.zeroValue0,
  t3 := Try.underlying3,
  a3 := Try.isAgg3,
  z3 := Try.sizeOf3,
  v3 := Try.zeroValue3,
  t4 := Try.underlying4,
  a4 := Try.isAgg4,
  z4 := Try.sizeOf4,
  v4 := Try.zeroValue4,
  t5 := Try.underlying5,
  a5 := Try.isAgg5,
  z5 := Try.sizeOf5,
  v5 := Try.zeroValue5,
  t9 := Try.underlying9,
  a9 := Try.isAgg9,
  z9 := Try.sizeOf9,
  v9 := Try.zeroValue9,
  t22 := Try.underlying34,
  a22 := Try.isAgg34,
  z22 := Try.sizeOf34,
  v22 := Try.zeroValue34,
  t23 := Try.underlying34,
  a23 := Try.isAgg34,
  z23 := Try.sizeOf34,
  v23 := Try.zeroValue34,
  t25 := Try.underlying3,
  a25 := Try.isAgg3,
  z25 := Try.sizeOf3,
  v25 := Try.zeroValue3,
  t32 := Try.underlying94,
  a32 := Try.isAgg94,
  z32 := Try.sizeOf94,
  v32 := Try.zeroValue94,
  t35 := Try.underlying99,
  a35 := Try.isAgg99,
  z35 := Try.sizeOf99,
  v35 := Try.zeroValue99,
  t36 := Try.underlying100,
  a36 := Try.isAgg100,
  z36 := Try.sizeOf100,
  v36 := Try.zeroValue100,
  t41 := Try.underlying77,
  a41 := Try.isAgg77,
  z41 := Try.sizeOf77,
  v41 := Try.zeroValue77,
  t44 := Try.underlying106,
  a44 := Try.isAgg106,
  z44 := Try.sizeOf106,
  v44 := Try.zeroValue106,
  t46 := Try.underlying24,
  a46 := Try.isAgg24,
  z46 := Try.sizeOf24,
  v46 := Try.zeroValue24,
  t53 := Try.underlying115,
  a53 := Try.isAgg115,
  z53 := Try.sizeOf115,
  v53 := Try.zeroValue115,
  t57 := Try.underlying119,
  a57 := Try.isAgg119,
  z57 := Try.sizeOf119,
  v57 := Try.zeroValue119,
  t63 := Try.underlying123,
  a63 := Try.isAgg123,
  z63 := Try.sizeOf123,
  v63 := Try.zeroValue123,
  t64 := Try.underlying124,
  a64 := Try.isAgg124,
  z64 := Try.sizeOf124,
  v64 := Try.zeroValue124 }

end Go.Proofs.Ytacmnfpgimgigaa

namespace Go.Proofs.Ytacmnfpgimgigaa
open Go
set_option linter.unusedSimpArgs false
set_option linter.unusedVariables false
set_option maxRecDepth 100000


theorem oneN_any {w0 w : World} {F : HP} {n : Int} (h : St w0 F w) (h0 : 0 ≤ n) (h1 : n < 9223372036854775808) : Calls Try.prog 14 #[.int .i64 n] w fun e w' => St w0 F w' ∧ e = .returned (namV (3, 0, n)) := by
  refine F14.calls (by simp) ?_
  unfold F14.code
  simp -dsimp -implicitDefEqProofs (disch := omega) only [go_sem, reqD_of, dec_t, dec_f, wrap_i64, wrap_u32, wrap_u64, wrap_u8]
  refine h.new fun B w1 h1 => ?_
  simp -dsimp -implicitDefEqProofs (disch := omega) only [go_sem, reqD_of, dec_t, dec_f, wrap_i64, wrap_u32, wrap_u64, wrap_u8]
  refine onV_of (v := namV (3, 0, n)) rfl ?_
  simp -dsimp -implicitDefEqProofs (disch := omega) only [go_sem, reqD_of, dec_t, dec_f, wrap_i64, wrap_u32, wrap_u64, wrap_u8]
  refine h1.stoAll (cs := namC (3, 0, n)) rfl rfl (namC_cells _) fun w2 h2 => ?_
  have hrow := h2.rowH B 3 rfl
  simp -dsimp -implicitDefEqProofs (disch := omega) only [go_sem, reqD_of, dec_t, dec_f, wrap_i64, wrap_u32, wrap_u64, wrap_u8]
  refine resC_1 (a := ⟨B, 0, none⟩) (v := namV (3, 0, n)) (by simp -dsimp -implicitDefEqProofs only [go_sem]) (run_loadVar_row fact_aggSz_26 (by rw [hrow])) ?_
  exact ⟨h2.right, rfl⟩

section
attribute [local go_sem] F17.t3_eq
theorem pick_any {w0 w : World} {F : HP} {c n : Int} (h : St w0 F w) (hc : -9223372036854775808 ≤ c ∧ c < 9223372036854775808) (hn : 0 < n) : Calls Try.prog 17 #[.int .i64 c, .int .i64 n] w fun e w' => St w0 F w' ∧ e = .returned (.int .i64 (pickI c n)) := by
  refine F17.calls (by simp) ?_
  unfold F17.code
  have hn0 : n ≠ 0 := by omega
  by_cases hneg : c < 0
  · simp -dsimp -implicitDefEqProofs (disch := omega) only [go_sem, reqD_of, dec_t, dec_f, wrap_i64, wrap_u32, wrap_u64, wrap_u8, hneg, hn0]
    exact ⟨h, by simp [pickI, hneg]⟩
  · simp -dsimp -implicitDefEqProofs (disch := omega) only [go_sem, reqD_of, dec_t, dec_f, wrap_i64, wrap_u32, wrap_u64, wrap_u8, hneg, hn0]
    exact ⟨h, by simp [pickI, hneg]⟩

def noNeed : Nee := ((0, 0, 0), false)

end

theorem waits_any {w0 w : World} {F : HP} {B : Nat} {ls : List (Nam × LkS)} {ws : List (Int × Nee)} {who : Int} (h : St w0 (TabP B ls ws * F) w) :
    Calls Try.prog 15 #[.pointer (some ⟨B, 0, none⟩), .int .i64 who] w fun e w' => St w0 (TabP B ls ws * F) w' ∧ e = .returned (.tuple #[needV ((agt who ws).getD noNeed), .bool (agt who ws).isSome]) := by
  obtain ⟨m1, m2, ps, hps, h1⟩ := TabP.open h
  have hT := h1
  unfold TabQ at h1
  refine F15.calls (by simp) ?_
  unfold F15.code
  simp -dsimp -implicitDefEqProofs (disch := omega) only [go_sem, reqD_of, dec_t, dec_f, wrap_i64, wrap_u32, wrap_u64, wrap_u8]
  refine h1.new fun R w1 h2 => ?_
  simp -dsimp -implicitDefEqProofs (disch := omega) only [go_sem, reqD_of, dec_t, dec_f, wrap_i64, wrap_u32, wrap_u64, wrap_u8, h2.cl]
  refine h2.lkH (b := m2) Try.underlying64 lawI zeroV38 ?_
  rw [lk_amap, lkV_get]
  simp -dsimp -implicitDefEqProofs (disch := omega) only [go_sem, reqD_of, dec_t, dec_f, wrap_i64, wrap_u32, wrap_u64, wrap_u8]
  refine h2.new fun N w2 h3 => ?_
  simp -dsimp -implicitDefEqProofs (disch := omega) only [go_sem, reqD_of, dec_t, dec_f, wrap_i64, wrap_u32, wrap_u64, wrap_u8]
  refine h3.stoAll (cs := needC ((agt who ws).getD noNeed)) rfl rfl (needC_cells _) fun w3 h4 => ?_
  have hN := h4.rowH N 4 rfl
  simp -dsimp -implicitDefEqProofs (disch := omega) only [go_sem, reqD_of, dec_t, dec_f, wrap_i64, wrap_u32, wrap_u64, wrap_u8, hN]
  refine h4.stoAll (b := R) (cs := needC ((agt who ws).getD noNeed)) rfl rfl (needC_cells _) fun w4 h5 => ?_
  have hR := h5.rowH R 4 rfl
  simp -dsimp -implicitDefEqProofs (disch := omega) only [go_sem, reqD_of, dec_t, dec_f, wrap_i64, wrap_u32, wrap_u64, wrap_u8]
  refine resC_2 (a := ⟨R, 0, none⟩) (v := needV ((agt who ws).getD noNeed)) (by simp -dsimp -implicitDefEqProofs only [go_sem]) (run_loadVar_row fact_aggSz_38 (by rw [hR])) ?_
  refine ⟨?_, by simp -dsimp -implicitDefEqProofs only [go_sem]⟩
  refine St.ent (A := TabQ B m1 m2 ps ws * F) ?_ (Ent.sep (TabQ.shut B m1 m2 ps ws hps) (Ent.rfl' F))
  unfold TabQ
  exact h5.right.right

end Go.Proofs.Ytacmnfpgimgigaa

namespace Go.Proofs.Ytacmnfpgimgigaa
open Go Go.Sort
set_option linter.unusedSimpArgs false
set_option linter.unusedVariables false
set_option maxRecDepth 100000

instance (b : Nat) (s : LkS) : Face (.obj b) (LkP b s) := ⟨⟩
instance (b : Nat) (v1 v2 : Value) (hs q : List Claim) : Face (.obj b) (LkQ b v1 v2 hs q) := ⟨⟩
theorem LkP.openH {w0 w : World} {A : HP} {C : HP → HP} {b : Nat} {s : LkS} (h : St w0 A w) [i : Hole (.obj b) A (LkP b s) C] : ∃ v1 v2, St w0 (C (LkQ b v1 v2 s.1 s.2)) w := by
  obtain ⟨R, hR, h'⟩ := h.out (.obj b)
  unfold LkP at h'
  obtain ⟨⟨v1, v2⟩, h''⟩ := h'.exF
  exact ⟨v1, v2, by rw [hR]; exact h''⟩
theorem LkQ.shutH {w0 w : World} {A : HP} {C : HP → HP} {v1 v2 : Value} {hs q : List Claim} (h : St w0 A w) (b : Nat) [i : Hole (.obj b) A (LkQ b v1 v2 hs q) C] : St w0 (C (LkP b (hs, q))) w := h.turnTo (.obj b) (LkQ.shut b v1 v2 hs q)
theorem LkQ.clH {w0 w : World} {A : HP} {C : HP → HP} {v1 v2 : Value} {hs q : List Claim} (h : St w0 A w) (b : Nat) [i : Hole (.obj b) A (LkQ b v1 v2 hs q) C] (i : Nat) : w.cell? ⟨b, i, none⟩ = (#[v1, v2] : Array Value)[i]? := by
  obtain ⟨R, hR, h'⟩ := h.out (.obj b)
  exact LkQ.blk h' i
instance (b : Nat) (v1 v2 : Value) (hs q : List Claim) : Gives (LkQ b v1 v2 hs q) (Reads 2 v1 hs.length (clR hs)) :=
  ⟨by unfold LkQ; exact (Ent.right _ _).trans ((Ent.left _ _).trans (RowO.reads _ _ _ _ _))⟩
instance (b : Nat) (v1 v2 : Value) (hs q : List Claim) : Gives (LkQ b v1 v2 hs q) (Reads 2 v2 q.length (clR q)) :=
  ⟨by unfold LkQ; exact (Ent.right _ _).trans ((Ent.right _ _).trans (RowO.reads _ _ _ _ _))⟩

def lksP (ps : Ptrs) : HP := stars (fun p : Nam × (Nat × LkS) => LkP p.2.1 p.2.2) ps
theorem TabQ_eq (B m1 m2 : Nat) (ps : Ptrs) (ws : List (Int × Nee)) : TabQ B m1 m2 ps ws = Blk B (.cells #[.map (some m1), .map (some m2)] 66 (0, 0)) * (MapP namV m1 (amap ptrV ps) * (MapP encI m2 (amap needV ws) * lksP ps)) := rfl
theorem lks_open {ps : Ptrs} {x : Nam} {b : Nat} {s : LkS} (hk : agt x ps = some (b, s)) : lksP ps = LkP b s * lksP (adel x ps) := stars_open _ x (b, s) ps hk

section agt
variable {κ α : Type} [DecidableEq κ]
theorem agt_of_mem {x : κ} {v : α} : ∀ {l : List (κ × α)}, (l.map (·.1)).Nodup → (x, v) ∈ l → agt x l = some v
  | (y, u) :: l, hn, hm => by
    simp only [List.map_cons, List.nodup_cons] at hn
    rcases List.mem_cons.1 hm with h | h
    · simp only [Prod.mk.injEq] at h
      simp [agt, h.1, h.2]
    · have : x ≠ y := fun e => hn.1 (e ▸ List.mem_map.2 ⟨(x, v), h, rfl⟩)
      simp only [agt, if_neg this]
      exact agt_of_mem hn.2 h
theorem mem_of_agt {x : κ} {v : α} : ∀ {l : List (κ × α)}, agt x l = some v → (x, v) ∈ l
  | (y, u) :: l, h => by
    simp only [agt] at h
    split at h
    · rename_i e
      simp only [Option.some.injEq] at h
      subst e h
      simp
    · exact List.mem_cons_of_mem _ (mem_of_agt h)
end agt

/-- A claim that somebody has on a lock, as a need. -/
def heldOf (who : Int) (p : Nam × LkS) : Option Nee := if 0 ≤ posC who p.2.1 0 then some (p.1, ((p.2.1[(posC who p.2.1 0).toNat]?).getD (0, false)).2) else none
def heldL (who : Int) (ls : List (Nam × LkS)) : List Nee := ls.filterMap (heldOf who)
def leN (x y : Nee) : Bool := !decide (cmpN y.1 x.1 < 0)
def heldS (who : Int) (ls : List (Nam × LkS)) : List Nee := (heldL who ls).mergeSort leN

theorem needR_cells (l : List Nee) : ∀ v ∈ l.flatMap needC, isCell v = true := by
  intro v hv
  obtain ⟨n, _, h⟩ := List.mem_flatMap.1 hv
  exact needC_cells n v h


theorem cmpNeed_any {w0 w : World} {F : HP} {a b : Nee} (h : St w0 F w) : Calls Try.prog 37 #[needV a, needV b] w fun e w' => St w0 F w' ∧ e = .returned (.int .i64 (cmpN a.1 b.1)) := by
  refine F37.calls (by simp) ?_
  unfold F37.code
  simp -dsimp -implicitDefEqProofs (disch := omega) only [go_sem, reqD_of, dec_t, dec_f, wrap_i64, wrap_u32, wrap_u64, wrap_u8]
  refine h.new fun X w1 h1 => ?_
  simp -dsimp -implicitDefEqProofs (disch := omega) only [go_sem, reqD_of, dec_t, dec_f, wrap_i64, wrap_u32, wrap_u64, wrap_u8]
  refine h1.new fun Y w2 h2 => ?_
  have hX : rowV w2 ⟨X, 0, none⟩ 3 = some (namV a.1) := h2.rowAtH X 0 3 (by simp [needC])
  have hY : rowV w2 ⟨Y, 0, none⟩ 3 = some (namV b.1) := h2.rowAtH Y 0 3 (by simp [needC])
  simp -dsimp -implicitDefEqProofs (disch := omega) only [go_sem, reqD_of, dec_t, dec_f, wrap_i64, wrap_u32, wrap_u64, wrap_u8, hX, hY]
  refine (compare_any (a := a.1) (b := b.1) h2).mono ?_
  rintro e w3 ⟨h3, rfl⟩
  simp -dsimp -implicitDefEqProofs (disch := omega) only [go_sem, reqD_of, dec_t, dec_f, wrap_i64, wrap_u32, wrap_u64, wrap_u8]
  exact h3.right.right

theorem cmp3_neg (a b : Int) : cmp3 a b < 0 ↔ a < b := by
  unfold cmp3
  split
  · simp; omega
  · split <;> simp <;> omega
theorem cmpN_neg (a b : Nam) : cmpN a b < 0 ↔ a.1 < b.1 ∨ a.1 = b.1 ∧ (a.2.1 < b.2.1 ∨ a.2.1 = b.2.1 ∧ a.2.2 < b.2.2) := by
  unfold cmpN
  rcases Int.lt_trichotomy a.1 b.1 with h | h | h
  · simp [orL, cmp3_lt h, h]
  · rcases Int.lt_trichotomy a.2.1 b.2.1 with k | k | k
    · simp [orL, h, cmp3_eq, cmp3_lt k, k]
    · rcases Int.lt_trichotomy a.2.2 b.2.2 with m | m | m
      · simp [orL, h, cmp3_eq, k, cmp3_lt m, m]
      · simp [orL, h, cmp3_eq, k, m]
      · simp [orL, h, cmp3_eq, k, cmp3_gt m]; omega
    · simp [orL, h, cmp3_eq, cmp3_gt k]; omega
  · simp [orL, cmp3_gt h]; omega
theorem ltN_iff (a b : Nee) : ltOf (fun x y : Nee => cmpN x.1 y.1) a b = decide (cmpN a.1 b.1 < 0) := rfl
theorem swoN : SWO (ltOf fun x y : Nee => cmpN x.1 y.1) where
  irrefl x := by rw [ltN_iff, decide_eq_false_iff_not, cmpN_neg]; omega
  trans x y z h1 h2 := by rw [ltN_iff, decide_eq_true_iff, cmpN_neg] at *; omega
  ntrans x y z h1 h2 := by rw [ltN_iff, decide_eq_false_iff_not, cmpN_neg] at *; omega

theorem leN_refl (x : Nee) : leN x x = true := by
  simp only [leN, Bool.not_eq_true', decide_eq_false_iff_not, cmpN_neg]
  omega
theorem leN_sorted (l : List Nee) : (l.mergeSort leN).Pairwise fun x y => leN x y = true := by
  refine List.pairwise_mergeSort ?_ ?_ l
  · intro a b c h1 h2
    simp only [leN, Bool.not_eq_true', decide_eq_false_iff_not, cmpN_neg] at h1 h2 ⊢
    omega
  · intro a b
    simp only [leN, Bool.or_eq_true, Bool.not_eq_true', decide_eq_false_iff_not, cmpN_neg]
    omega
theorem leN_anti {l : List Nee} (hn : (l.map (·.1)).Nodup) {x y : Nee} (hx : x ∈ l) (hy : y ∈ l) (h1 : leN x y = true) (h2 : leN y x = true) : x = y := by
  have hxy : x.1 = y.1 := by
    simp only [leN, Bool.not_eq_true', decide_eq_false_iff_not, cmpN_neg] at h1 h2
    obtain ⟨⟨a1, a2, a3⟩, a4⟩ := x
    obtain ⟨⟨b1, b2, b3⟩, b4⟩ := y
    simp only [Prod.mk.injEq] at *
    omega
  obtain ⟨i, hi, rfl⟩ := List.getElem_of_mem hx
  obtain ⟨j, hj, rfl⟩ := List.getElem_of_mem hy
  have := (List.getElem_inj (h₀ := by simpa using hi) (h₁ := by simpa using hj) hn).1 (by simpa using hxy)
  subst this; rfl

theorem sortNeeds_any {w0 w : World} {F : HP} {v : Value} {l : List Nee} (h : St w0 (RowO 38 4 v l.length (l.flatMap needC) * F) w) (hsz : l.length < 4611686018427387904) (hn : (l.map (·.1)).Nodup) :
    Calls Try.prog 36 #[v, .func (.func 37) #[] #[]] w fun e w' => St w0 (RowO 38 4 v l.length ((l.mergeSort leN).flatMap needC) * F) w' ∧ e = .returned (.tuple #[]) := by
  refine (St.sortFuncP (P := Try.prog) sortNeedL (k := 4) (enc := needC) (cf := fun x y : Nee => cmpN x.1 y.1) (g := 37) Try.isAgg38 Try.sizeOf38 (fun _ => rfl) (fun x v hv => by
    have := needC_cells x v hv
    rwa [isCell_eq] at this) swoN (fun args w => fnOk0_run (by kernel_rfl) args w) (fun W x y => ?_) h hsz).mono ?_
  · exact (cmpNeed_any (St.start W)).mono fun e w' h => h
  · rintro e w' ⟨l', hp, hs, h', he⟩
    have hu : l' = l.mergeSort leN := by
      refine perm_sorted_unique (r := fun x y => leN x y = true) (fun x hx y hy h1 h2 => leN_anti hn (hp.mem_iff.1 hx) (hp.mem_iff.1 hy) h1 h2) (hp.trans (List.mergeSort_perm l leN).symm) ?_ (leN_sorted l) fun x _ => leN_refl x
      exact hs.imp fun {a b} h => by simpa [leN, ltOf] using h
    rw [hu] at h'
    exact ⟨h', he⟩

end Go.Proofs.Ytacmnfpgimgigaa

namespace Go.Proofs.Ytacmnfpgimgigaa
open Go
set_option linter.unusedSimpArgs false
set_option linter.unusedVariables false
set_option maxRecDepth 100000

theorem heldL_app (who : Int) (a b : List (Nam × LkS)) : heldL who (a ++ b) = heldL who a ++ heldL who b := List.filterMap_append
theorem amap_app {κ α β : Type} (f : α → β) (a b : List (κ × α)) : amap f (a ++ b) = amap f a ++ amap f b := List.map_append
theorem heldL_names (who : Int) : ∀ ls : List (Nam × LkS), ((heldL who ls).map (·.1)).Sublist (ls.map (·.1))
  | [] => .slnil
  | p :: ls => by
    have ih := heldL_names who ls
    simp only [heldL, List.filterMap_cons, List.map_cons] at ih ⊢
    cases h : heldOf who p with
    | none => exact ih.cons _
    | some n =>
      have : n.1 = p.1 := by
        simp only [heldOf] at h
        split at h
        · simp only [Option.some.injEq] at h; rw [← h]
        · cases h
      simp only [List.map_cons, this]
      exact ih.cons_cons _

section
attribute [local go_sem] F22.t4_eq F22.t8_eq
theorem held_any {w0 w : World} {F : HP} {B : Nat} {ls : List (Nam × LkS)} {ws : List (Int × Nee)} {who : Int} (h : St w0 (TabP B ls ws * F) w) (hb : ∀ p ∈ ls, p.2.1.length < 1099511627776) (hn : ls.length < 1099511627776) :
    Calls Try.prog 22 #[.pointer (some ⟨B, 0, none⟩), .int .i64 who] w fun e w' => ∃ v, St w0 (RowO 38 4 v (heldS who ls).length ((heldS who ls).flatMap needC) * (TabP B ls ws * F)) w' ∧ e = .returned v := by
  obtain ⟨m1, m2, ps, hps, h1⟩ := TabP.open h
  rw [TabQ_eq] at h1
  refine F22.calls (by simp) ?_
  unfold F22.code
  simp -dsimp -implicitDefEqProofs (disch := omega) only [go_sem, reqD_of, dec_t, dec_f, wrap_i64, wrap_u32, wrap_u64, wrap_u8, h1.cl]
  have hkeys : (ps.map (·.1)).Nodup := by
    have := h1.mapNodup m1
    rwa [amap_keys] at this
  refine h1.rangeH (b := m1) Try.underlying63 fun r w1 h2 => ?_
  simp -dsimp -implicitDefEqProofs (disch := omega) only [go_sem, reqD_of, dec_t, dec_f, wrap_i64, wrap_u32, wrap_u64, wrap_u8]
  refine loop_intro (fun e w' => e.ds = [] ∧ e.ρ 0 = .pointer (some ⟨B, 0, none⟩) ∧ e.ρ 1 = .int .i64 who ∧ e.ρ 13 = .pointer (some ⟨r, 0, none⟩) ∧ ∃ (v : Value) (done left : Ptrs), e.ρ 5 = v ∧ (done ++ left).Perm ps ∧
      St w0 (RowO 38 4 v (heldL who (amap (·.2) done)).length ((heldL who (amap (·.2) done)).flatMap needC) * (Blk B (.cells #[.map (some m1), .map (some m2)] 66 (0, 0)) * (IterP namV m1 r (amap ptrV ps) (amap ptrV left) * (MapP encI m2 (amap needV ws) * (lksP ps * F))))) w')
    (fun _ w => iterLeft m1 r w) ?_ ?_
  · refine ⟨rfl, by simp -dsimp -implicitDefEqProofs only [go_sem], by simp -dsimp -implicitDefEqProofs only [go_sem], by simp -dsimp -implicitDefEqProofs only [go_sem], .slice none 0 0, [], ps, by simp -dsimp -implicitDefEqProofs only [go_sem], .refl _, ?_⟩
    show St w0 (RowO 38 4 (.slice none 0 0) 0 [] * _) _
    exact (h2.nilR 38 4).sub
  rintro e w2 ⟨hd, e0, e1, e13, v, done, left, e5, hperm, h3⟩
  have hlen : done.length ≤ ls.length := by
    have := hperm.length_eq
    rw [← hps]; simp only [amap, List.length_map]; simp at this; omega
  have hll : (heldL who (amap (·.2) done)).length ≤ done.length := by
    have := List.length_filterMap_le (heldOf who) (amap (·.2) done)
    simpa [heldL, amap] using this
  simp -dsimp -implicitDefEqProofs (disch := omega) only [go_sem, reqD_of, dec_t, dec_f, wrap_i64, wrap_u32, wrap_u64, wrap_u8, hd, e13]
  refine h3.nextP m1 (fun hl => ?_) (fun x rest w3 hx h4 => ?_)
  · -- the end: what was found is sorted
    subst hl
    rw [List.append_nil] at hperm
    have hpl : (heldL who (amap (·.2) done)).Perm (heldL who ls) := by
      rw [← hps]
      exact (hperm.map _).filterMap _
    have hnd : ((heldL who (amap (·.2) done)).map (·.1)).Nodup := by
      refine (heldL_names who _).nodup ?_
      have : (amap (·.2) done).map (·.1) = done.map (·.1) := by simp [amap]
      rw [this]
      exact (hperm.map _).nodup_iff.2 hkeys
    simp -dsimp -implicitDefEqProofs (disch := omega) only [go_sem, reqD_of, dec_t, dec_f, wrap_i64, wrap_u32, wrap_u64, wrap_u8, hd, e5]
    refine (sortNeeds_any h3 (by omega) hnd).mono ?_
    rintro e' w4 ⟨h4, rfl⟩
    simp -dsimp -implicitDefEqProofs (disch := omega) only [go_sem, reqD_of, dec_t, dec_f, wrap_i64, wrap_u32, wrap_u64, wrap_u8, hd, e5]
    refine ⟨v, ?_, rfl⟩
    have hs : (heldL who (amap (·.2) done)).mergeSort leN = heldS who ls := by
      unfold heldS
      refine perm_sorted_unique (r := fun x y => leN x y = true) ?_ ((List.mergeSort_perm _ _).trans (hpl.trans (List.mergeSort_perm _ _).symm)) (leN_sorted _) (leN_sorted _) fun x _ => leN_refl x
      intro x hx y hy h1 h2
      exact leN_anti hnd (List.mem_mergeSort.1 hx) (List.mem_mergeSort.1 hy) h1 h2
    have hlen2 : (heldL who (amap (·.2) done)).length = (heldS who ls).length := by rw [← hs, List.length_mergeSort]
    rw [hs, hlen2] at h4
    have h5 := h4.iterEnd m1
    refine St.ent (A := RowO 38 4 v (heldS who ls).length ((heldS who ls).flatMap needC) * (TabQ B m1 m2 ps ws * F)) ?_ (Ent.sep (Ent.rfl' _) (Ent.sep (TabQ.shut B m1 m2 ps ws hps) (Ent.rfl' F)))
    rw [TabQ_eq]
    exact h5.ac (by ac_rfl)
  · obtain ⟨nm, b, s⟩ := x
    simp -dsimp -implicitDefEqProofs (disch := omega) only [go_sem, reqD_of, dec_t, dec_f, wrap_i64, wrap_u32, wrap_u64, wrap_u8, hd, e13]
    refine h4.entryH m1 ?_
    have h5 := h4.iterDone m1
    simp -dsimp -implicitDefEqProofs (disch := omega) only [go_sem, reqD_of, dec_t, dec_f, wrap_i64, wrap_u32, wrap_u64, wrap_u8, hd]
    refine h5.new fun X w4 h6 => ?_
    simp -dsimp -implicitDefEqProofs (disch := omega) only [go_sem, reqD_of, dec_t, dec_f, wrap_i64, wrap_u32, wrap_u64, wrap_u8, hd]
    refine h6.stoAll (cs := namC nm) rfl rfl (namC_cells _) fun w5 h7 => ?_
    have hmem : (nm, (b, s)) ∈ ps := hperm.mem_iff.1 (List.mem_append_right _ (hx.mem_iff.1 (by simp)))
    have hk := agt_of_mem hkeys hmem
    rw [lks_open hk] at h7
    obtain ⟨v1, v2, h8⟩ := LkP.openH (b := b) h7
    have hsl : s.1.length < 1099511627776 := hb (nm, s) (by rw [← hps]; exact List.mem_map.2 ⟨(nm, (b, s)), hmem, rfl⟩)
    obtain ⟨R, hR, h9⟩ := h8.out (.obj b)
    simp -dsimp -implicitDefEqProofs (disch := omega) only [go_sem, reqD_of, dec_t, dec_f, wrap_i64, wrap_u32, wrap_u64, wrap_u8, hd, e1, ptrV]
    refine (holds_any h9 hsl).mono ?_
    rintro e' w6 ⟨h10, rfl⟩
    rw [← hR] at h10
    have hpm : ((done ++ [(nm, (b, s))]) ++ rest).Perm ps := by
      rw [List.append_assoc]
      exact (List.Perm.append_left done hx).trans hperm
    have hone : heldL who (amap (·.2) (done ++ [(nm, (b, s))])) = heldL who (amap (·.2) done) ++ (heldOf who (nm, s)).toList := by
      rw [amap_app, heldL_app]
      congr 1
    have hmeas : ∀ {A : HP} {C : HP → HP} {w' : World} [Hole (.map m1) A (IterP namV m1 r (amap ptrV ps) (amap ptrV rest)) C], St w0 A w' → iterLeft m1 r w' < iterLeft m1 r w2 := by
      intro A C w' _ hw'
      rw [hw'.iterLeft m1, h3.iterLeft m1]
      have := hx.length_eq
      simp only [amap, List.length_map]
      simp at this
      omega
    by_cases hp : 0 ≤ posC who s.1 0
    · rcases posC_spec who s.1 0 with hpi | ⟨i, hi, hpi⟩
      · omega
      rw [Nat.zero_add] at hpi
      have hsome : heldOf who (nm, s) = some (nm, (s.1[i]).2) := by simp [heldOf, hpi, hi]
      have h11 := h10.drew
      obtain ⟨_, a1, c1, rfl, hc1, hcl⟩ := claimAt (h11.gives (B := Reads 2 v1 s.1.length (clR s.1)))
      obtain ⟨g, o, rfl, hrow, hx0, hx1⟩ := hcl i hi
      have hbk := LkQ.clH h11 b
      have hX := h11.rowH X 3 rfl
      simp -dsimp -implicitDefEqProofs (disch := omega) only [go_sem, reqD_of, dec_t, dec_f, wrap_i64, wrap_u32, wrap_u64, wrap_u8, hd, e0, e1, e13, e5, hpi, hX, hbk, hx1]
      refine onV_of (v := needV (nm, (s.1[i]).2)) rfl ?_
      simp -dsimp -implicitDefEqProofs (disch := omega) only [go_sem, reqD_of, dec_t, dec_f, wrap_i64, wrap_u32, wrap_u64, wrap_u8]
      refine h11.lit fact_rowTy_33 (cells := needC (nm, (s.1[i]).2)) rfl (by decide) (by decide) fun v3 w7 h12 => ?_
      simp -dsimp -implicitDefEqProofs (disch := omega) only [go_sem, reqD_of, dec_t, dec_f, wrap_i64, wrap_u32, wrap_u64, wrap_u8, e5]
      refine h12.appR (v := v) fact_rowTy_33 Try.underlying33 (needC_cells _) (by simp [needC]) (by simp only [maxLen]; omega) (by omega) fun v4 w8 h13 => ?_
      simp -dsimp -implicitDefEqProofs (disch := omega) only [go_sem, reqD_of, dec_t, dec_f, wrap_i64, wrap_u32, wrap_u64, wrap_u8, hd, e0, e1, e13, e5]
      have h14 := LkQ.shutH h13 b
      refine ⟨⟨v4, done ++ [(nm, (b, s))], rest, rfl, hpm, ?_⟩, ?_⟩
      · rw [hone, hsome, lks_open hk]
        simp only [Option.toList_some, List.length_append, List.length_cons, List.length_nil, Nat.zero_add, List.flatMap_append, List.flatMap_cons, List.flatMap_nil, List.append_nil]
        exact h14.sub
      · exact hmeas h14
    · have hno : heldOf who (nm, s) = none := by simp [heldOf, hp]
      simp -dsimp -implicitDefEqProofs (disch := omega) only [go_sem, reqD_of, dec_t, dec_f, wrap_i64, wrap_u32, wrap_u64, wrap_u8, hd, e0, e1, e13, e5, hp]
      have h11 := LkQ.shutH h10 b
      have h12 : St w0 _ w6 := h11
      refine ⟨⟨v, done ++ [(nm, (b, s))], rest, rfl, hpm, ?_⟩, ?_⟩
      · rw [hone, hno, lks_open hk]
        simp only [Option.toList_none, List.append_nil]
        exact h11.sub
      · exact hmeas h11

end
end Go.Proofs.Ytacmnfpgimgigaa

namespace Go.Proofs.Ytacmnfpgimgigaa
open Go
set_option linter.unusedSimpArgs false
set_option linter.unusedVariables false
set_option maxRecDepth 100000


theorem isWho43_any {w0 w : World} {F : HP} {p : Nat} {T : TypeId} {who x : Int} {y : Bool} (h : St w0 F w) (hp : Ent F (Blk p (.cells #[.int .i64 who] T (0, 0)))) :
    Calls Try.prog 43 #[.agg #[.int .i64 x, .bool y], .pointer (some ⟨p, 0, none⟩)] w fun e w' => St w0 F w' ∧ e = .returned (.bool (decide (x = who))) := by
  refine F43.calls (by simp) ?_
  unfold F43.code
  simp -dsimp -implicitDefEqProofs (disch := omega) only [go_sem, reqD_of, dec_t, dec_f, wrap_i64, wrap_u32, wrap_u64, wrap_u8]
  refine h.new fun B w1 h1 => ?_
  have hc := h1.cl B
  have hq := (((h1.right.ent (Ent.trans hp (Ent.rfl' _))).ent (Ent.blkE _ _))).blk
  have hq0 := cell_of_heap hq 0
  simp -dsimp -implicitDefEqProofs (disch := omega) only [go_sem, reqD_of, dec_t, dec_f, wrap_i64, wrap_u32, wrap_u64, wrap_u8, hc, hq0]
  exact h1.right

theorem clR_set : ∀ (i : Nat) (m : List Claim) (x : Claim), i < m.length → setRowL (clR m) (i * 2) (clC x) = clR (m.set i x)
  | 0, c :: m, x, _ => rfl
  | i + 1, c :: m, x, h => by
    have ih := clR_set i m x (by simpa using h)
    simp only [clC, setRowL] at ih ⊢
    rw [show (i + 1) * 2 = i * 2 + 1 + 1 by omega]
    simp only [clR, List.set_cons_succ]
    rw [ih]

def notWho (who : Int) (l : List Claim) : List Claim := l.filter fun c => !decide (c.1 = who)
theorem notWho_none {who : Int} : ∀ {l : List Claim} {k : Nat}, posC who l k = -1 → notWho who l = l
  | [], _, _ => rfl
  | c :: l, k, h => by
    simp only [posC] at h
    split at h
    · omega
    · rename_i hc
      have := notWho_none h
      simp only [notWho] at this
      simp [notWho, hc, this]
theorem notWho_pos {who : Int} : ∀ {l : List Claim} {k i : Nat}, posC who l k = ((k + i : Nat) : Int) → i < l.length → notWho who (l.take (i + 1)) = l.take i
  | [], _, _, _, hi => by simp at hi
  | c :: l, k, i, h, hi => by
    simp only [posC] at h
    split at h
    · rename_i hc
      have : i = 0 := by omega
      subst this
      simp [notWho, hc]
    · rename_i hc
      cases i with
      | zero =>
        rcases posC_spec who l (k + 1) with h' | ⟨m, _, h'⟩ <;> omega
      | succ i =>
        have := notWho_pos (l := l) (k := k + 1) (i := i) (by rw [h]; omega) (by simpa using hi)
        simp only [notWho] at this
        simp [notWho, hc, this]

section
attribute [local go_sem] F42.t6_eq F42.t7_eq F42.t11_eq F42.t4_eq
theorem deleteFunc_any {w0 w : World} {F : HP} {p : Nat} {T : TypeId} {who : Int} {v : Value} {l : List Claim} (h : St w0 (RowO 74 2 v l.length (clR l) * F) w) (hp : Ent F (Blk p (.cells #[.int .i64 who] T (0, 0)))) (hl : l.length < 1099511627776) :
    Calls Try.prog 42 #[v, .func (.func 43) #[] #[.pointer (some ⟨p, 0, none⟩)]] w fun e w' => ∃ v', St w0 (RowO 74 2 v' (notWho who l).length (clR (notWho who l)) * F) w' ∧ e = .returned v' := by
  refine F42.calls (by simp) ?_
  unfold F42.code
  simp -dsimp -implicitDefEqProofs (disch := omega) only [go_sem, reqD_of, dec_t, dec_f, wrap_i64, wrap_u32, wrap_u64, wrap_u8]
  refine (index_gen (p := p) (who := who) fact_fnOk_43 (fun h => isWho43_any h ((Ent.right _ _).trans hp)) h (Gives.ent (B := Reads 2 v l.length (clR l))) hl).mono ?_
  rintro e w1 ⟨h1, rfl⟩
  rcases posC_spec who l 0 with hp1 | ⟨i0, hi0, hp1⟩
  · simp -dsimp -implicitDefEqProofs (disch := omega) only [go_sem, reqD_of, dec_t, dec_f, wrap_i64, wrap_u32, wrap_u64, wrap_u8, hp1]
    refine ⟨v, ?_, rfl⟩
    rw [notWho_none hp1]
    exact h1
  rw [Nat.zero_add] at hp1
  obtain ⟨a, c, rfl, _, hnc, hcm⟩ := RowO.form h
  obtain ⟨_, a', c', hv, _, hcl⟩ := claimAt (h1.gives (B := Reads 2 (.slice a l.length c) l.length (clR l)))
  simp only [Value.slice.injEq, true_and] at hv
  obtain ⟨rfl, rfl⟩ := hv
  obtain ⟨g, o, rfl, _⟩ := hcl i0 hi0
  have hne : ¬ (i0 : Int) = -1 := by omega
  simp -dsimp -implicitDefEqProofs (disch := omega) only [go_sem, reqD_of, dec_t, dec_f, wrap_i64, wrap_u32, wrap_u64, wrap_u8, hp1, hne]
  refine loop_intro (fun e w' => e.ds = [] ∧ e.ρ 0 = .slice (some ⟨g, o, none⟩) l.length c ∧ e.ρ 1 = .func (.func 43) #[] #[.pointer (some ⟨p, 0, none⟩)] ∧ ∃ (i j : Nat) (m : List Claim), i < j ∧ j ≤ l.length ∧ e.ρ 5 = .int .i64 i ∧ e.ρ 6 = .int .i64 j ∧ m.length = l.length ∧ m.take i = notWho who (l.take j) ∧ m.drop j = l.drop j ∧
      St w0 (RowO 74 2 (.slice (some ⟨g, o, none⟩) l.length c) l.length (clR m) * F) w')
    (fun e _ => match e.ρ 6 with | .int _ n => (l.length - n).toNat | _ => 0) ?_ ?_
  · exact ⟨rfl, by simp -dsimp -implicitDefEqProofs only [go_sem], by simp -dsimp -implicitDefEqProofs only [go_sem], i0, i0 + 1, l, by omega, by omega, by simp -dsimp -implicitDefEqProofs only [go_sem], (by simp -dsimp -implicitDefEqProofs (disch := omega) only [go_sem, reqD_of, dec_t, dec_f, wrap_i64, wrap_u32, wrap_u64, wrap_u8]; omega), rfl, (notWho_pos (k := 0) (by simpa using hp1) hi0).symm, rfl, h1⟩
  rintro e w2 ⟨hd, e0, e1, i, j, m, hij, hj, e5, e6, hml, htk, hdr, h2⟩
  by_cases hlt : (j : Int) < l.length
  case neg =>
    have hjl : j = l.length := by omega
    subst hjl
    rw [List.take_length] at htk
    have hil : i = (notWho who l).length := by rw [← htk, List.length_take]; omega
    have hne2 : ¬ c = i := by omega
    have hcut := h2.ent (Ent.sep (RowO.cut (lo := 0) (k := i) (m := c) (by omega) (by omega) (Nat.le_refl _)) (Ent.rfl' _))
    simp only [Nat.zero_mul, Option.map_some, add_lit, Nat.add_zero, ite_self, Nat.sub_zero, List.drop_zero, clR_take] at hcut
    simp -dsimp -implicitDefEqProofs (disch := omega) only [go_sem, reqD_of, dec_t, dec_f, wrap_i64, wrap_u32, wrap_u64, wrap_u8, hd, e0, e1, e5, e6, hlt]
    rw [if_neg hne2]
    refine hcut.clearTail fact_rowTy_69 (by intro v hv; simp only [List.mem_cons, List.not_mem_nil, or_false] at hv; rcases hv with rfl | rfl <;> rfl) (Nat.le_refl _) (by omega) (by omega) fun w3 h3 => ?_
    simp -dsimp -implicitDefEqProofs (disch := omega) only [go_sem, reqD_of, dec_t, dec_f, wrap_i64, wrap_u32, wrap_u64, wrap_u8, hd, e0, e1, e5, e6]
    refine ⟨_, ?_, rfl⟩
    rw [htk] at h3
    rw [← hil]
    simpa using h3
  have hjl : j < l.length := by omega
  have hjm : j < m.length := by omega
  have hmj : m[j] = l[j] := by
    have e1 := List.drop_eq_getElem_cons hjm
    have e2 := List.drop_eq_getElem_cons hjl
    rw [hdr, e2] at e1
    exact (List.cons.inj e1).1.symm
  obtain ⟨_, a', c', hv, _, hcl⟩ := claimAt (h2.gives (B := Reads 2 (.slice (some ⟨g, o, none⟩) l.length c) l.length (clR m)))
  simp only [Value.slice.injEq, true_and] at hv
  obtain ⟨rfl, rfl⟩ := hv
  obtain ⟨g', o', hv, hrow, _, _⟩ := hcl j hjm
  simp only [Option.some.injEq, Addr.mk.injEq, and_true] at hv
  obtain ⟨rfl, rfl⟩ := hv
  rw [hmj] at hrow
  have hfil : notWho who (l.take (j + 1)) = notWho who (l.take j) ++ notWho who [l[j]] := by
    unfold notWho; rw [List.take_succ_eq_append_getElem hjl, List.filter_append]
  simp -dsimp -implicitDefEqProofs (disch := omega) only [go_sem, reqD_of, dec_t, dec_f, wrap_i64, wrap_u32, wrap_u64, wrap_u8, hd, e0, e1, e5, e6, hlt, hrow]
  refine h2.new fun X w3 h3 => ?_
  simp -dsimp -implicitDefEqProofs (disch := omega) only [go_sem, reqD_of, dec_t, dec_f, wrap_i64, wrap_u32, wrap_u64, wrap_u8]
  refine h3.stoAll (cs := clC l[j]) rfl rfl (by intro v hv; simp only [clC, List.mem_cons, List.not_mem_nil, or_false] at hv; rcases hv with rfl | rfl <;> rfl) fun w4 h4 => ?_
  have hX := h4.rowH X 2 rfl
  unfold clC at hX
  simp -dsimp -implicitDefEqProofs (disch := omega) only [go_sem, reqD_of, dec_t, dec_f, wrap_i64, wrap_u32, wrap_u64, wrap_u8, hd, e0, e1, e5, e6, hX, callY_clos]
  refine (isWho43_any h4 ((Ent.right _ _).trans ((Ent.right _ _).trans hp))).mono ?_
  rintro e' w5 ⟨h5, rfl⟩
  by_cases hw : (l[j]).1 = who
  · simp -dsimp -implicitDefEqProofs (disch := omega) only [go_sem, reqD_of, dec_t, dec_f, wrap_i64, wrap_u32, wrap_u64, wrap_u8, hd, e0, e1, e5, e6, hw]
    refine ⟨⟨i, j + 1, m, by omega, by omega, rfl, by omega, hml, ?_, ?_, ?_⟩, by omega⟩
    · rw [hfil, ← htk]; simp [notWho, hw]
    · rw [← List.drop_drop, hdr, List.drop_drop]
    · exact h5.right
  · have hX5 := h5.rowH X 2 rfl
    unfold clC at hX5
    simp -dsimp -implicitDefEqProofs (disch := omega) only [go_sem, reqD_of, dec_t, dec_f, wrap_i64, wrap_u32, wrap_u64, wrap_u8, hd, e0, e1, e5, e6, hw, hX5]
    refine h5.rowSet (n := l.length) (c := c) (xs := clR m) (k := i * 2) (cs := clC l[j]) rfl (by rw [clR_length]; omega) (by intro v hv; simp only [clC, List.mem_cons, List.not_mem_nil, or_false] at hv; rcases hv with rfl | rfl <;> rfl) fun w6 h6 => ?_
    rw [clR_set i m _ (by omega)] at h6
    simp -dsimp -implicitDefEqProofs (disch := omega) only [go_sem, reqD_of, dec_t, dec_f, wrap_i64, wrap_u32, wrap_u64, wrap_u8, hd, e0, e1, e5, e6]
    have hil : i < (m.set i l[j]).length := by simp; omega
    have htk2 : (m.set i l[j]).take (i + 1) = m.take i ++ [l[j]] := by
      rw [List.take_succ_eq_append_getElem hil, List.take_set_of_le (Nat.le_refl i)]
      simp
    refine ⟨⟨i + 1, j + 1, m.set i l[j], by omega, by omega, by omega, by omega, by simpa using hml, ?_, ?_, ?_⟩, by omega⟩
    · rw [htk2, hfil, htk]
      simp [notWho, hw]
    · rw [List.drop_set_of_lt (by omega), ← List.drop_drop, hdr, List.drop_drop]
    · exact h6.right

end
end Go.Proofs.Ytacmnfpgimgigaa

namespace Go.Proofs.Ytacmnfpgimgigaa
open Go
set_option linter.unusedSimpArgs false
set_option linter.unusedVariables false
set_option maxRecDepth 100000

/-! ### How many claims there are -/
def tot (ls : List (Nam × LkS)) : Nat := (ls.map fun p => p.2.1.length + p.2.2.length).sum
def totQ (ls : List (Nam × LkS)) : Nat := (ls.map fun p => p.2.2.length).sum
theorem tot_mem {p : Nam × LkS} : ∀ {ls : List (Nam × LkS)}, p ∈ ls → p.2.1.length + p.2.2.length ≤ tot ls
  | q :: ls, h => by
    rcases List.mem_cons.1 h with rfl | h
    · simp [tot]
    · have := tot_mem h
      simp only [tot, List.map_cons, List.sum_cons] at this ⊢
      omega
theorem tot_agt {x : Nam} {ls : List (Nam × LkS)} : ((agt x ls).getD ([], [])).1.length + ((agt x ls).getD ([], [])).2.length ≤ tot ls := by
  cases h : agt x ls with
  | none => simp
  | some s => exact tot_mem (mem_of_agt h)
theorem tot_aset {x : Nam} {s s' : LkS} : ∀ {ls : List (Nam × LkS)}, agt x ls = some s → tot (aset x s' ls) + (s.1.length + s.2.length) = tot ls + (s'.1.length + s'.2.length) ∧ totQ (aset x s' ls) + s.2.length = totQ ls + s'.2.length ∧ (aset x s' ls).length = ls.length
  | (y, u) :: ls, h => by
    simp only [agt] at h
    simp only [aset]
    split at h
    · rename_i e
      simp only [Option.some.injEq] at h
      subst h
      rw [if_pos e]
      simp only [tot, totQ, List.map_cons, List.sum_cons, List.length_cons]
      refine ⟨?_, ?_, ?_⟩ <;> first | trivial | omega
    · rename_i e
      rw [if_neg e]
      have := tot_aset (s' := s') h
      simp only [tot, totQ, List.map_cons, List.sum_cons, List.length_cons] at this ⊢
      omega
theorem tot_adel {x : Nam} {s : LkS} : ∀ {ls : List (Nam × LkS)}, agt x ls = some s → tot (adel x ls) + (s.1.length + s.2.length) = tot ls ∧ totQ (adel x ls) + s.2.length = totQ ls ∧ (adel x ls).length + 1 = ls.length
  | (y, u) :: ls, h => by
    simp only [agt] at h
    simp only [adel]
    split at h
    · rename_i e
      simp only [Option.some.injEq] at h
      subst h
      rw [if_pos e]
      simp only [tot, totQ, List.map_cons, List.sum_cons, List.length_cons]
      refine ⟨?_, ?_, ?_⟩ <;> first | trivial | omega
    · rename_i e
      rw [if_neg e]
      have := tot_adel h
      simp only [tot, totQ, List.map_cons, List.sum_cons, List.length_cons] at this ⊢
      omega

theorem adm_spec : ∀ (hs q : List Claim), (adm hs q).1 = hs ++ (adm hs q).2.2 ∧ q = (adm hs q).2.2 ++ (adm hs q).2.1
  | hs, [] => by simp [adm]
  | hs, c :: q => by
    by_cases h : letsB hs c.2 = true
    · obtain ⟨h1, h2⟩ := adm_spec (hs ++ [c]) q
      rw [adm_go h]
      refine ⟨by rw [h1]; simp, ?_⟩
      simp only [List.cons_append]
      rw [← h2]
    · rw [adm_stop (by simpa using h)]
      simp

/-- A lock is turned and then lets in. -/
def turnS (x : Nam) (s : LkS) (ls : List (Nam × LkS)) (ws : List (Int × Nee)) : List Claim × List (Nam × LkS) × List (Int × Nee) :=
  ((adm s.1 s.2).2.2, if (adm s.1 s.2).1 = [] then adel x (aset x s ls) else aset x ((adm s.1 s.2).1, (adm s.1 s.2).2.1) (aset x s ls), delAll (adm s.1 s.2).2.2 ws)
theorem freeS_turn {who : Int} {x : Nam} {ls : List (Nam × LkS)} {ws : List (Int × Nee)} {s : LkS} (h : agt x ls = some s) {i : Nat} (hi : posC who s.1 0 = i) :
    freeS who x ls ws = (((turnS x (s.1.eraseIdx i, s.2) ls ws).1, 0), (turnS x (s.1.eraseIdx i, s.2) ls ws).2) := by
  have : ¬ ((i : Int) < 0) := by omega
  simp [freeS, h, hi, this, turnS]
theorem freeS_no {who : Int} {x : Nam} {ls : List (Nam × LkS)} {ws : List (Int × Nee)} (h : ∀ s, agt x ls = some s → posC who s.1 0 < 0) : freeS who x ls ws = (([], 1), ls, ws) := by
  cases hx : agt x ls with
  | none => simp [freeS, hx]
  | some s => simp [freeS, hx, h s hx]

theorem turnS_tot {x : Nam} {s s0 : LkS} {ls : List (Nam × LkS)} {ws : List (Int × Nee)} (h : agt x ls = some s0) (h1 : s.1.length ≤ s0.1.length) (h2 : s.2.length ≤ s0.2.length) :
    tot (turnS x s ls ws).2.1 ≤ tot ls ∧ (turnS x s ls ws).1.length + totQ (turnS x s ls ws).2.1 ≤ totQ ls ∧ (turnS x s ls ws).2.1.length ≤ ls.length := by
  obtain ⟨a1, a2⟩ := adm_spec s.1 s.2
  obtain ⟨b1, b2, b3⟩ := tot_aset (s' := s) h
  have hs : agt x (aset x s ls) = some s := agt_aset _ _ _
  have e1 := congrArg List.length a1
  have e2 := congrArg List.length a2
  simp only [List.length_append] at e1 e2
  simp only [turnS]
  split
  · rename_i hn
    obtain ⟨c1, c2, c3⟩ := tot_adel hs
    rw [hn] at e1
    simp only [List.length_nil] at e1
    omega
  · obtain ⟨c1, c2, c3⟩ := tot_aset (s' := ((adm s.1 s.2).1, (adm s.1 s.2).2.1)) hs
    simp only at c1 c2
    omega

theorem freeS_tot (who : Int) (x : Nam) (ls : List (Nam × LkS)) (ws : List (Int × Nee)) :
    tot (freeS who x ls ws).2.1 ≤ tot ls ∧ (freeS who x ls ws).1.1.length + totQ (freeS who x ls ws).2.1 ≤ totQ ls ∧ (freeS who x ls ws).2.1.length ≤ ls.length := by
  cases h : agt x ls with
  | none => rw [freeS_no (by simp [h])]; simp
  | some s =>
    rcases posC_spec who s.1 0 with hp | ⟨i, hi, hp⟩
    · rw [freeS_no (by intro s' hs'; rw [h] at hs'; cases hs'; omega)]; simp
    · rw [Nat.zero_add] at hp
      rw [freeS_turn h hp]
      exact turnS_tot h (by simp only [List.length_eraseIdx]; split <;> omega) (Nat.le_refl _)

/-- Somebody waits no more. -/
def leave1 (who : Int) (ls : List (Nam × LkS)) (ws : List (Int × Nee)) : List Claim × List (Nam × LkS) × List (Int × Nee) :=
  match agt who ws with
  | none => ([], ls, ws)
  | some n => match agt n.1 ls with
    | none => ([], ls, ws)
    | some s => turnS n.1 (s.1, notWho who s.2) ls (adel who ws)
/-- Somebody lets go of these. -/
def leaveL (who : Int) : List Nee → List (Nam × LkS) → List (Int × Nee) → List Claim × List (Nam × LkS) × List (Int × Nee)
  | [], ls, ws => ([], ls, ws)
  | n :: L, ls, ws => ((freeS who n.1 ls ws).1.1 ++ (leaveL who L (freeS who n.1 ls ws).2.1 (freeS who n.1 ls ws).2.2).1, (leaveL who L (freeS who n.1 ls ws).2.1 (freeS who n.1 ls ws).2.2).2)
def leaveS (who : Int) (ls : List (Nam × LkS)) (ws : List (Int × Nee)) : List Claim × List (Nam × LkS) × List (Int × Nee) :=
  ((leave1 who ls ws).1 ++ (leaveL who (heldS who (leave1 who ls ws).2.1) (leave1 who ls ws).2.1 (leave1 who ls ws).2.2).1, (leaveL who (heldS who (leave1 who ls ws).2.1) (leave1 who ls ws).2.1 (leave1 who ls ws).2.2).2)

theorem leave1_tot (who : Int) (ls : List (Nam × LkS)) (ws : List (Int × Nee)) :
    tot (leave1 who ls ws).2.1 ≤ tot ls ∧ (leave1 who ls ws).1.length + totQ (leave1 who ls ws).2.1 ≤ totQ ls ∧ (leave1 who ls ws).2.1.length ≤ ls.length := by
  unfold leave1
  split
  · simp
  · split
    · simp
    · rename_i s hs
      exact turnS_tot hs (Nat.le_refl _) (List.length_filter_le _ _)
theorem leaveL_tot (who : Int) : ∀ (L : List Nee) (ls : List (Nam × LkS)) (ws : List (Int × Nee)),
    tot (leaveL who L ls ws).2.1 ≤ tot ls ∧ (leaveL who L ls ws).1.length + totQ (leaveL who L ls ws).2.1 ≤ totQ ls ∧ (leaveL who L ls ws).2.1.length ≤ ls.length
  | [], ls, ws => by simp [leaveL]
  | n :: L, ls, ws => by
    obtain ⟨a1, a2, a3⟩ := freeS_tot who n.1 ls ws
    obtain ⟨b1, b2, b3⟩ := leaveL_tot who L (freeS who n.1 ls ws).2.1 (freeS who n.1 ls ws).2.2
    simp only [leaveL, List.length_append]
    omega
theorem leaveS_tot (who : Int) (ls : List (Nam × LkS)) (ws : List (Int × Nee)) :
    tot (leaveS who ls ws).2.1 ≤ tot ls ∧ (leaveS who ls ws).1.length + totQ (leaveS who ls ws).2.1 ≤ totQ ls ∧ (leaveS who ls ws).2.1.length ≤ ls.length := by
  obtain ⟨a1, a2, a3⟩ := leave1_tot who ls ws
  obtain ⟨b1, b2, b3⟩ := leaveL_tot who (heldS who (leave1 who ls ws).2.1) (leave1 who ls ws).2.1 (leave1 who ls ws).2.2
  simp only [leaveS, List.length_append]
  omega
theorem totQ_le_tot (ls : List (Nam × LkS)) : totQ ls ≤ tot ls := by
  induction ls with
  | nil => simp [tot, totQ]
  | cons p ls ih => simp only [tot, totQ, List.map_cons, List.sum_cons] at ih ⊢; omega

end Go.Proofs.Ytacmnfpgimgigaa

namespace Go.Proofs.Ytacmnfpgimgigaa
open Go
set_option linter.unusedSimpArgs false
set_option linter.unusedVariables false
set_option maxRecDepth 100000

theorem needC_length (n : Nee) : (needC n).length = 4 := rfl

theorem lkQ_q (b : Nat) (v1 v2 : Value) (hs q : List Claim) : LkQ b v1 v2 hs q = RowO 74 2 v2 q.length (clR q) * (Blk b (.cells #[v1, v2] 71 (0, 0)) * RowO 74 2 v1 hs.length (clR hs)) := by unfold LkQ; ac_rfl

instance (B : Nat) (ls : List (Nam × LkS)) (ws : List (Int × Nee)) : Face (.obj B) (TabP B ls ws) := ⟨⟩

section
attribute [local go_sem] F24.t13_eq F24.t10_eq F24.t14_eq
theorem leave_tail {w0 w : World} {F : HP} {B W : Nat} {ls : List (Nam × LkS)} {ws : List (Int × Nee)} {who : Int} {l : List Claim} {v : Value} {e : FA}
    (h : St w0 (RowO 3 1 v l.length (intR (l.map (·.1))) * (TabP B ls ws * (Blk W (.cells #[.int .i64 who] 3 (0, 0)) * F))) w) (hd : e.ds = []) (e0 : e.ρ 0 = .pointer (some ⟨B, 0, none⟩)) (e3 : e.ρ 3 = .pointer (some ⟨W, 0, none⟩)) (e5 : e.ρ 5 = v)
    (hT : tot ls < 1099511627776) (hL : ls.length < 1099511627776) (hQ : l.length + totQ ls < 1099511627776) :
    cwE Try.prog F24.t8 (fnP Try.prog #[.tmp 4] fun e w' => ∃ v', St w0 (RowO 3 1 v' (l ++ (leaveL who (heldS who ls) ls ws).1).length (intR ((l ++ (leaveL who (heldS who ls) ls ws).1).map (·.1))) * (TabP B (leaveL who (heldS who ls) ls ws).2.1 (leaveL who (heldS who ls) ls ws).2.2 * F)) w' ∧ e = .returned v') e w := by
  rw [F24.t8_eq]
  have hHl : (heldS who ls).length ≤ ls.length := by unfold heldS heldL; rw [List.length_mergeSort]; exact List.length_filterMap_le _ _
  have hW := h.cl W
  simp -dsimp -implicitDefEqProofs (disch := omega) only [go_sem, reqD_of, dec_t, dec_f, wrap_i64, wrap_u32, wrap_u64, wrap_u8, hd, e0, e3, e5, hW]
  refine (held_any h.sw2 (fun p hp => by have := tot_mem hp; omega) hL).mono ?_
  rintro e' w1 ⟨vL, h1, rfl⟩
  obtain ⟨_, aL, cL, hv, _, _⟩ := St.rowsAt (k := 4) needC_length (by decide) (h1.gives (B := Reads 4 vL (heldS who ls).length ((heldS who ls).flatMap needC)))
  subst hv
  simp -dsimp -implicitDefEqProofs (disch := omega) only [go_sem, reqD_of, dec_t, dec_f, wrap_i64, wrap_u32, wrap_u64, wrap_u8, hd, e0, e3, e5]
  refine loop_intro (fun e w' => e.ds = [] ∧ e.ρ 0 = .pointer (some ⟨B, 0, none⟩) ∧ e.ρ 3 = .pointer (some ⟨W, 0, none⟩) ∧ e.ρ 50 = .slice aL (heldS who ls).length cL ∧ e.ρ 51 = .int .i64 (heldS who ls).length ∧
      ∃ (k : Nat) (v : Value) (lk : List Claim) (lsk : List (Nam × LkS)) (wsk : List (Int × Nee)), k ≤ (heldS who ls).length ∧ e.ρ 52 = .int .i64 k ∧ e.ρ 5 = v ∧ l ++ (leaveL who (heldS who ls) ls ws).1 = lk ++ (leaveL who ((heldS who ls).drop k) lsk wsk).1 ∧ (leaveL who (heldS who ls) ls ws).2 = (leaveL who ((heldS who ls).drop k) lsk wsk).2 ∧
      tot lsk < 1099511627776 ∧ lsk.length < 1099511627776 ∧ lk.length + totQ lsk < 1099511627776 ∧
      St w0 (RowO 3 1 v lk.length (intR (lk.map (·.1))) * (TabP B lsk wsk * (RowO 38 4 (.slice aL (heldS who ls).length cL) (heldS who ls).length ((heldS who ls).flatMap needC) * (Blk W (.cells #[.int .i64 who] 3 (0, 0)) * F)))) w')
    (fun e _ => match e.ρ 52 with | .int _ n => ((heldS who ls).length - n).toNat | _ => 0) ?_ ?_
  · refine ⟨by simp -dsimp -implicitDefEqProofs only [go_sem, hd], by simp -dsimp -implicitDefEqProofs only [go_sem, e0], by simp -dsimp -implicitDefEqProofs only [go_sem, e3], by simp -dsimp -implicitDefEqProofs only [go_sem], by simp -dsimp -implicitDefEqProofs only [go_sem], 0, v, l, ls, ws, by omega, by simp -dsimp -implicitDefEqProofs only [go_sem], by simp -dsimp -implicitDefEqProofs only [go_sem, e5], rfl, rfl, hT, hL, hQ, ?_⟩
    exact h1.sub
  rintro e w2 ⟨hd, e0, e3, e50, e51, k, v, lk, lsk, wsk, hk, e52, e5, hr1, hr2, hTk, hLk, hQk, h2⟩
  by_cases hlt : (k : Int) < (heldS who ls).length
  case neg =>
    have : k = (heldS who ls).length := by omega
    subst this
    simp -dsimp -implicitDefEqProofs (disch := omega) only [go_sem, reqD_of, dec_t, dec_f, wrap_i64, wrap_u32, wrap_u64, wrap_u8, hd, e0, e3, e5, e50, e51, e52, hlt]
    rw [List.drop_length] at hr1 hr2
    simp only [leaveL, List.append_nil] at hr1 hr2
    refine ⟨v, ?_, rfl⟩
    rw [hr1, hr2]
    exact h2.sub
  have hkl : k < (heldS who ls).length := by omega
  obtain ⟨_, _, _, hv, _, hcl⟩ := St.rowsAt (k := 4) needC_length (by decide) (h2.gives (B := Reads 4 (.slice aL (heldS who ls).length cL) (heldS who ls).length ((heldS who ls).flatMap needC)))
  simp only [Value.slice.injEq, true_and] at hv
  obtain ⟨rfl, rfl⟩ := hv
  obtain ⟨g, o, rfl, hrow, _⟩ := hcl k hkl
  generalize hn : (heldS who ls)[k] = n at hrow
  simp -dsimp -implicitDefEqProofs (disch := omega) only [go_sem, reqD_of, dec_t, dec_f, wrap_i64, wrap_u32, wrap_u64, wrap_u8, hd, e0, e3, e5, e50, e51, e52, hlt, hrow]
  refine h2.new fun X w3 h3 => ?_
  simp -dsimp -implicitDefEqProofs (disch := omega) only [go_sem, reqD_of, dec_t, dec_f, wrap_i64, wrap_u32, wrap_u64, wrap_u8]
  refine h3.stoAll (cs := needC n) rfl rfl (needC_cells _) fun w4 h4 => ?_
  have hX : rowV w4 ⟨X, 0, none⟩ 3 = some (namV n.1) := h4.rowAtH X 0 3 (by simp [needC])
  have hW4 := h4.cl W
  simp -dsimp -implicitDefEqProofs (disch := omega) only [go_sem, reqD_of, dec_t, dec_f, wrap_i64, wrap_u32, wrap_u64, wrap_u8, hd, e0, e3, e5, e50, e51, e52, hX, hW4]
  have hft := freeS_tot who n.1 lsk wsk
  generalize hF : freeS who n.1 lsk wsk = R0 at hft
  obtain ⟨⟨l1, er⟩, ls1, ws1⟩ := R0
  simp only at hft
  have hlock := tot_agt (x := n.1) (ls := lsk)
  obtain ⟨R, hR, h5⟩ := h4.out (.obj B)
  refine (free_any h5 hF (by omega)).mono ?_
  rintro e' w5 ⟨v1, h6, rfl⟩
  rw [← hR] at h6
  simp -dsimp -implicitDefEqProofs (disch := omega) only [go_sem, reqD_of, dec_t, dec_f, wrap_i64, wrap_u32, wrap_u64, wrap_u8, hd, e0, e3, e5, e50, e51, e52]
  refine h6.appR (v := v) (x := v1) fact_rowTy_34 Try.underlying34 (intR_cells _) (by simp [intR]) (by simp only [maxLen]; omega) (by omega) fun v2 w6 h7 => ?_
  simp -dsimp -implicitDefEqProofs (disch := omega) only [go_sem, reqD_of, dec_t, dec_f, wrap_i64, wrap_u32, wrap_u64, wrap_u8, hd, e0, e3, e5, e50, e51, e52]
  rw [List.drop_eq_getElem_cons hkl, hn] at hr1 hr2
  simp only [leaveL, hF] at hr1 hr2
  refine ⟨⟨k + 1, v2, lk ++ l1, ls1, ws1, by omega, by omega, rfl, by rw [hr1, List.append_assoc], hr2, by omega, by omega, by rw [List.length_append]; omega, ?_⟩, by omega⟩
  have hin : intR (lk.map (·.1)) ++ intR (l1.map (·.1)) = intR ((lk ++ l1).map (·.1)) := by simp [intR]
  rw [hin, ← List.length_append] at h7
  exact h7.sub

theorem TabP.col {w0 w : World} {A R1 R2 R3 R4 : HP} {B m1 m2 : Nat} {ps : Ptrs} {ls : List (Nam × LkS)} {ws : List (Int × Nee)} (h : St w0 A w) (hps : amap (·.2) ps = ls) [i1 : Pull A (Blk B (.cells #[.map (some m1), .map (some m2)] 66 (0, 0))) R1] [i2 : Pull R1 (MapP namV m1 (amap ptrV ps)) R2] [i3 : Pull R2 (MapP encI m2 (amap needV ws)) R3] [i4 : Pull R3 (lksP ps) R4] :
    St w0 (TabP B ls ws * R4) w := by
  have h1 : St w0 (TabQ B m1 m2 ps ws * R4) w := h.ac (by rw [i1.eq, i2.eq, i3.eq, i4.eq, TabQ_eq]; ac_rfl)
  exact h1.ent (Ent.sep (TabQ.shut B m1 m2 ps ws hps) (Ent.rfl' R4))
theorem lks_shut {ps : Ptrs} {x : Nam} {b : Nat} {s s' : LkS} (hk : agt x ps = some (b, s)) : LkP b s' * lksP (adel x ps) = lksP (aset x (b, s') ps) := (stars_aset (fun p : Nam × (Nat × LkS) => LkP p.2.1 p.2.2) x (b, s) (b, s') ps hk).symm
theorem ptr_aset {ps : Ptrs} {x : Nam} {b : Nat} {s s' : LkS} (hk : agt x ps = some (b, s)) : amap ptrV ps = amap ptrV (aset x (b, s') ps) := (amap_aset_same ptrV x (b, s) (b, s') rfl ps hk).symm

end
section
attribute [local go_sem] F24.t13_eq F24.t10_eq F24.t14_eq
theorem leave_any {w0 w : World} {F : HP} {B : Nat} {ls : List (Nam × LkS)} {ws : List (Int × Nee)} {who : Int} (h : St w0 (TabP B ls ws * F) w) (hw : ∀ n, agt who ws = some n → ∃ s, agt n.1 ls = some s) (hT : tot ls < 1099511627776) (hL : ls.length < 1099511627776) :
    Calls Try.prog 24 #[.pointer (some ⟨B, 0, none⟩), .int .i64 who] w fun e w' => ∃ v', St w0 (RowO 3 1 v' (leaveS who ls ws).1.length (intR ((leaveS who ls ws).1.map (·.1))) * (TabP B (leaveS who ls ws).2.1 (leaveS who ls ws).2.2 * F)) w' ∧ e = .returned v' := by
  refine F24.calls (by simp) ?_
  unfold F24.code
  have hQ := totQ_le_tot ls
  have hlt1 := leave1_tot who ls ws
  simp -dsimp -implicitDefEqProofs (disch := omega) only [go_sem, reqD_of, dec_t, dec_f, wrap_i64, wrap_u32, wrap_u64, wrap_u8]
  refine h.new fun W w1 h1 => ?_
  obtain ⟨m1, m2, ps, hps, h2⟩ := TabP.open h1.drew.sw2
  rw [TabQ_eq] at h2
  have h2c := h2.cl
  simp -dsimp -implicitDefEqProofs (disch := omega) only [go_sem, reqD_of, dec_t, dec_f, wrap_i64, wrap_u32, wrap_u64, wrap_u8, h2.cl]
  refine h2.lkH (b := m2) Try.underlying64 lawI zeroV38 ?_
  have hlkv : lkV (needV ((0, 0, 0), false)) true (lk who (amap needV ws)) = .tuple #[needV ((agt who ws).getD ((0, 0, 0), false)), .bool (agt who ws).isSome] := by rw [lk_amap, lkV_get]
  generalize hnn : (agt who ws).getD ((0, 0, 0), false) = n at hlkv
  simp -dsimp -implicitDefEqProofs (disch := omega) only [go_sem, reqD_of, dec_t, dec_f, wrap_i64, wrap_u32, wrap_u64, wrap_u8, hlkv]
  refine h2.new fun N w2 h3 => ?_
  simp -dsimp -implicitDefEqProofs (disch := omega) only [go_sem, reqD_of, dec_t, dec_f, wrap_i64, wrap_u32, wrap_u64, wrap_u8, h3.cl]
  refine ⟨h3.lkH (b := m2) Try.underlying64 lawI zeroV38 hlkv, ?_⟩
  refine h3.stoAll (cs := needC n) rfl rfl (needC_cells _) fun w3 h4 => ?_
  cases hag : agt who ws with
  | none =>
    have hl1 : leave1 who ls ws = ([], ls, ws) := by simp [leave1, hag]
    simp -dsimp -implicitDefEqProofs (disch := omega) only [go_sem, reqD_of, dec_t, dec_f, wrap_i64, wrap_u32, wrap_u64, wrap_u8, Option.isSome_none]
    have h5 := (TabP.col (B := B) (m1 := m1) (m2 := m2) (ws := ws) h4 hps).nilR 3 1
    rw [show leaveS who ls ws = leaveL who (heldS who ls) ls ws by simp [leaveS, hl1]]
    exact leave_tail (W := W) (l := []) (v := .slice none 0 0) (show St w0 (RowO 3 1 (.slice none 0 0) 0 [] * (TabP B ls ws * (Blk W (.cells #[.int .i64 who] 3 (0, 0)) * F))) w3 from h5.sub) (by simp -dsimp -implicitDefEqProofs only [go_sem]) (by simp -dsimp -implicitDefEqProofs only [go_sem]) (by simp -dsimp -implicitDefEqProofs only [go_sem]) (by simp -dsimp -implicitDefEqProofs only [go_sem]) hT hL (by simp; omega)
  | some n' =>
    rw [hag] at hnn
    simp only [Option.getD_some] at hnn
    subst hnn
    have h4c := h4.drew
    have hN : rowV w3.drew ⟨N, 0, none⟩ 3 = some (namV n'.1) := h4c.rowAtH N 0 3 (by simp [needC])
    obtain ⟨s, hs⟩ := hw n' hag
    obtain ⟨b, hk⟩ : ∃ b, agt n'.1 ps = some (b, s) := by
      rw [← hps, agt_amap] at hs
      cases hk : agt n'.1 ps with
      | none => rw [hk] at hs; cases hs
      | some x => rw [hk] at hs; simp only [Option.map_some, Option.some.injEq] at hs; exact ⟨x.1, by rw [← hs]⟩
    have hsl := tot_mem (mem_of_agt hs)
    simp only at hsl
    simp -dsimp -implicitDefEqProofs (disch := omega) only [go_sem, reqD_of, dec_t, dec_f, wrap_i64, wrap_u32, wrap_u64, wrap_u8, Option.isSome_some, h4c.cl, hN]
    refine h4c.lkH (b := m1) Try.underlying63 lawN zeroV67 ?_
    rw [show lk n'.1 (amap ptrV ps) = some (ptrV (b, s)) by rw [lk_amap, hk]; rfl]
    rw [lks_open hk] at h4c
    obtain ⟨v1, v2, h5⟩ := LkP.openH (b := b) h4c
    unfold LkQ at h5
    simp -dsimp -implicitDefEqProofs (disch := omega) only [go_sem, reqD_of, dec_t, dec_f, wrap_i64, wrap_u32, wrap_u64, wrap_u8, lkV_some, ptrV, h5.cl]
    refine (deleteFunc_any (p := W) (T := 3) (who := who) (h5.take (.row v2)) Gives.ent (by omega)).mono ?_
    rintro e' w5 ⟨v2', h7, rfl⟩
    obtain ⟨a2, c2, rfl, _⟩ := h7.rowForm v2'
    simp -dsimp -implicitDefEqProofs (disch := omega) only [go_sem, reqD_of, dec_t, dec_f, wrap_i64, wrap_u32, wrap_u64, wrap_u8]
    refine h7.sto (by simp) rfl fun w6 h8 => ?_
    simp only [List.setIfInBounds_toArray, List.set_cons_succ, List.set_cons_zero] at h8
    have h9 := h8.drew
    simp -dsimp -implicitDefEqProofs (disch := omega) only [go_sem, reqD_of, dec_t, dec_f, wrap_i64, wrap_u32, wrap_u64, wrap_u8, h9.cl]
    refine h9.delH (b := m2) Try.underlying64 lawI fun w7 h10 => ?_
    rw [del_amap] at h10
    have hN7 : rowV w7 ⟨N, 0, none⟩ 3 = some (namV n'.1) := h10.rowAtH N 0 3 (by simp [needC])
    simp -dsimp -implicitDefEqProofs (disch := omega) only [go_sem, reqD_of, dec_t, dec_f, wrap_i64, wrap_u32, wrap_u64, wrap_u8, hN7]
    have h11 : St w0 (LkP b (s.1, notWho who s.2) * (lksP (adel n'.1 ps) * (Blk B (.cells #[.map (some m1), .map (some m2)] 66 (0, 0)) * (MapP namV m1 (amap ptrV ps) * (MapP encI m2 (amap needV (adel who ws)) * (Blk W (.cells #[.int .i64 who] 3 (0, 0)) * F)))))) w7 := by
      refine St.ent (A := LkQ b v1 (.slice a2 (notWho who s.2).length c2) s.1 (notWho who s.2) * (lksP (adel n'.1 ps) * (Blk B (.cells #[.map (some m1), .map (some m2)] 66 (0, 0)) * (MapP namV m1 (amap ptrV ps) * (MapP encI m2 (amap needV (adel who ws)) * (Blk W (.cells #[.int .i64 who] 3 (0, 0)) * F)))))) ?_ (Ent.sep (LkQ.shut _ _ _ _ _) (Ent.rfl' _))
      unfold LkQ
      have h12 : St w0 (Blk b (.cells #[v1, .slice a2 (notWho who s.2).length c2] 71 (0, 0)) * (RowO 74 2 v1 s.1.length (clR s.1) * (RowO 74 2 (.slice a2 (notWho who s.2).length c2) (notWho who s.2).length (clR (notWho who s.2)) * (lksP (adel n'.1 ps) * (Blk B (.cells #[.map (some m1), .map (some m2)] 66 (0, 0)) * (MapP namV m1 (amap ptrV ps) * (MapP encI m2 (amap needV (adel who ws)) * (Blk W (.cells #[.int .i64 who] 3 (0, 0)) * F)))))))) w7 := h10.sub
      exact h12.ac (by ac_rfl)
    rw [ptr_aset (s' := (s.1, notWho who s.2)) hk] at h11
    have h12 := h11.ac (show _ = (LkP b (s.1, notWho who s.2) * lksP (adel n'.1 ps)) * (Blk B (.cells #[.map (some m1), .map (some m2)] 66 (0, 0)) * (MapP namV m1 (amap ptrV (aset n'.1 (b, (s.1, notWho who s.2)) ps)) * (MapP encI m2 (amap needV (adel who ws)) * (Blk W (.cells #[.int .i64 who] 3 (0, 0)) * F)))) by ac_rfl)
    rw [lks_shut hk] at h12
    have h13 := TabP.col (B := B) (m1 := m1) (m2 := m2) (ws := adel who ws) (ls := aset n'.1 (s.1, notWho who s.2) ls) h12 (by have := aset_amap (fun q : Nat × LkS => q.2) n'.1 (b, (s.1, notWho who s.2)) ps; rw [hps] at this; exact this.symm)
    obtain ⟨⟨hs', q', l'⟩, hA⟩ : ∃ y, adm s.1 (notWho who s.2) = y := ⟨_, rfl⟩
    have hnl : (notWho who s.2).length ≤ s.2.length := List.length_filter_le _ _
    refine (admit_any h13 (agt_aset _ _ _) hA (show s.1.length + (notWho who s.2).length < _ by omega)).mono ?_
    rintro e' w8 ⟨v3, h14, rfl⟩
    have hl1 : leave1 who ls ws = (l', (if hs' = [] then adel n'.1 (aset n'.1 (s.1, notWho who s.2) ls) else aset n'.1 (hs', q') (aset n'.1 (s.1, notWho who s.2) ls)), delAll l' (adel who ws)) := by
      simp [leave1, hag, hs, turnS, hA]
    rw [hl1] at hlt1
    simp only at hlt1
    rw [show leaveS who ls ws = (l' ++ (leaveL who (heldS who (leave1 who ls ws).2.1) (leave1 who ls ws).2.1 (leave1 who ls ws).2.2).1, (leaveL who (heldS who (leave1 who ls ws).2.1) (leave1 who ls ws).2.1 (leave1 who ls ws).2.2).2) by unfold leaveS; rw [hl1], hl1]
    simp -dsimp -implicitDefEqProofs (disch := omega) only [go_sem, reqD_of, dec_t, dec_f, wrap_i64, wrap_u32, wrap_u64, wrap_u8]
    exact leave_tail (W := W) (l := l') (v := v3) h14.sub (by simp -dsimp -implicitDefEqProofs only [go_sem]) (by simp -dsimp -implicitDefEqProofs only [go_sem]) (by simp -dsimp -implicitDefEqProofs only [go_sem]) (by simp -dsimp -implicitDefEqProofs only [go_sem]) (by dsimp only; omega) (by dsimp only; omega) (by dsimp only; omega)

end
end Go.Proofs.Ytacmnfpgimgigaa

namespace Go.Proofs.Ytacmnfpgimgigaa
open Go
set_option linter.unusedSimpArgs false
set_option linter.unusedVariables false
set_option maxRecDepth 100000

def holdersS (x : Nam) (ls : List (Nam × LkS)) : List Int := (((agt x ls).getD ([], [])).1.map (·.1)).mergeSort fun a b => decide (a ≤ b)

section
attribute [local go_sem] F34.t4_eq
theorem holders_any {w0 w : World} {F : HP} {B : Nat} {ls : List (Nam × LkS)} {ws : List (Int × Nee)} {x : Nam} (h : St w0 (TabP B ls ws * F) w) (hl : ((agt x ls).getD ([], [])).1.length < 1099511627776) :
    Calls Try.prog 34 #[.pointer (some ⟨B, 0, none⟩), namV x] w fun e w' => ∃ v, St w0 (RowO 3 1 v (holdersS x ls).length (intR (holdersS x ls)) * (TabP B ls ws * F)) w' ∧ e = .returned v := by
  refine F34.calls (by simp) ?_
  unfold F34.code
  simp -dsimp -implicitDefEqProofs (disch := omega) only [go_sem, reqD_of, dec_t, dec_f, wrap_i64, wrap_u32, wrap_u64, wrap_u8]
  refine h.new fun N w1 h1 => ?_
  obtain ⟨m1, m2, ps, hps, h2⟩ := TabP.open h1.drew.sw2
  rw [TabQ_eq] at h2
  have hN : rowV w1.drew ⟨N, 0, none⟩ 3 = some (namV x) := h2.rowH N 3 rfl
  simp -dsimp -implicitDefEqProofs (disch := omega) only [go_sem, reqD_of, dec_t, dec_f, wrap_i64, wrap_u32, wrap_u64, wrap_u8, h2.cl, hN]
  refine h2.lkH (b := m1) Try.underlying63 lawN zeroV67 ?_
  rw [lk_amap]
  cases hk : agt x ps with
  | none =>
    have hls : agt x ls = none := by rw [← hps, agt_amap, hk]; rfl
    have e0 : holdersS x ls = [] := by simp [holdersS, hls]
    rw [Option.map_none]
    simp -dsimp -implicitDefEqProofs (disch := omega) only [go_sem, reqD_of, dec_t, dec_f, wrap_i64, wrap_u32, wrap_u64, wrap_u8, lkV_none]
    refine ⟨_, ?_, rfl⟩
    rw [e0]
    exact ((TabP.col (B := B) (m1 := m1) (m2 := m2) (ws := ws) h2 hps).nilR 3 1).sub (B := RowO 3 1 (.slice none 0 0) 0 [] * (TabP B ls ws * F))
  | some bs =>
    obtain ⟨b, s⟩ := bs
    have hls : agt x ls = some s := by rw [← hps, agt_amap, hk]; rfl
    rw [hls] at hl
    simp only [Option.getD_some] at hl
    have e0 : holdersS x ls = (s.1.map (·.1)).mergeSort fun a b => decide (a ≤ b) := by simp [holdersS, hls]
    rw [Option.map_some]
    have h3 := h2
    rw [lks_open hk] at h3
    obtain ⟨v1, v2, h4⟩ := LkP.openH (b := b) h3
    have hb := LkQ.clH h4 b
    simp -dsimp -implicitDefEqProofs (disch := omega) only [go_sem, reqD_of, dec_t, dec_f, wrap_i64, wrap_u32, wrap_u64, wrap_u8, lkV_some, ptrV, hb]
    refine (whose_any (n := s.1.length) (l := s.1) h4 Gives.ent hl).mono ?_
    rintro e w2 ⟨v, h5, rfl⟩
    simp -dsimp -implicitDefEqProofs (disch := omega) only [go_sem, reqD_of, dec_t, dec_f, wrap_i64, wrap_u32, wrap_u64, wrap_u8]
    have h6 := LkQ.shutH h5 b
    rw [show LkP b (s.1, s.2) = LkP b s from rfl, ← lks_open hk] at h6
    have h7 := (TabP.col (B := B) (m1 := m1) (m2 := m2) (ws := ws) h6 hps).take (.row v)
    refine (St.sortInts (P := Try.prog) sortIntL (T := 3) (l := s.1.map (·.1)) (v := v) (by simpa [intR] using h7) (by simp; omega)).mono ?_
    rintro e w3 ⟨h8, rfl⟩
    simp -dsimp -implicitDefEqProofs (disch := omega) only [go_sem, reqD_of, dec_t, dec_f, wrap_i64, wrap_u32, wrap_u64, wrap_u8]
    refine ⟨v, ?_, rfl⟩
    rw [e0]
    change St w0 (RowO 3 1 v _ (intR _) * _) _ at h8
    rw [show (s.1.map (·.1)).length = ((s.1.map (·.1)).mergeSort fun a b => decide (a ≤ b)).length by rw [List.length_mergeSort]] at h8
    exact h8.sub

theorem needEq (x n : Nee) : (decide (x.1.1 = n.1.1) && (decide (x.1.2.1 = n.1.2.1) && (decide (x.1.2.2 = n.1.2.2) && x.2 == n.2))) = decide (x = n) := by
  obtain ⟨⟨a1, a2, a3⟩, a4⟩ := x
  obtain ⟨⟨b1, b2, b3⟩, b4⟩ := n
  rw [Bool.eq_iff_iff]
  simp
  exact ⟨fun ⟨h1, h2, h3, h4⟩ => ⟨⟨h1, h2, h3⟩, h4⟩, fun ⟨⟨h1, h2, h3⟩, h4⟩ => ⟨h1, h2, h3, h4⟩⟩

end
section
attribute [local go_sem] F18.t4_eq F18.t5_eq F18.t7_eq
theorem holdsLaw_any {w0 w : World} {F : HP} {B : Nat} {ls : List (Nam × LkS)} {ws : List (Int × Nee)} {who : Int} {n : Nee} (h : St w0 (TabP B ls ws * F) w) (hT : tot ls < 1099511627776) (hL : ls.length < 1099511627776) :
    Calls Try.prog 18 #[.pointer (some ⟨B, 0, none⟩), .int .i64 who, needV n] w fun e w' => St w0 (TabP B ls ws * F) w' ∧ e = .returned (.bool (decide (n ∈ heldS who ls))) := by
  have hHl : (heldS who ls).length ≤ ls.length := by unfold heldS heldL; rw [List.length_mergeSort]; exact List.length_filterMap_le _ _
  refine F18.calls (by simp) ?_
  unfold F18.code
  simp -dsimp -implicitDefEqProofs (disch := omega) only [go_sem, reqD_of, dec_t, dec_f, wrap_i64, wrap_u32, wrap_u64, wrap_u8]
  refine h.new fun N w1 h1 => ?_
  simp -dsimp -implicitDefEqProofs (disch := omega) only [go_sem, reqD_of, dec_t, dec_f, wrap_i64, wrap_u32, wrap_u64, wrap_u8]
  refine (held_any h1.sw2 (fun p hp => by have := tot_mem hp; omega) hL).mono ?_
  rintro e w2 ⟨v, h2, rfl⟩
  obtain ⟨_, a, c, rfl, hnc, _⟩ := St.rowsAt (k := 4) needC_length (by decide) (h2.gives (B := Reads 4 v (heldS who ls).length ((heldS who ls).flatMap needC)))
  simp -dsimp -implicitDefEqProofs (disch := omega) only [go_sem, reqD_of, dec_t, dec_f, wrap_i64, wrap_u32, wrap_u64, wrap_u8]
  refine loop_intro (fun e w' => e.ds = [] ∧ e.ρ 5 = .pointer (some ⟨N, 0, none⟩) ∧ e.ρ 7 = .slice a (heldS who ls).length c ∧ ∃ k : Nat, k ≤ (heldS who ls).length ∧ e.ρ 8 = .int .i64 k ∧ n ∉ (heldS who ls).take k ∧
      St w0 (RowO 38 4 (.slice a (heldS who ls).length c) (heldS who ls).length ((heldS who ls).flatMap needC) * (TabP B ls ws * (Blk N (.cells (needC n).toArray 38 (0, 0)) * F))) w')
    (fun e _ => match e.ρ 8 with | .int _ n => ((heldS who ls).length - n).toNat | _ => 0) ?_ ?_
  · exact ⟨rfl, by simp -dsimp -implicitDefEqProofs only [go_sem], by simp -dsimp -implicitDefEqProofs only [go_sem], 0, by omega, by simp -dsimp -implicitDefEqProofs only [go_sem], by simp, h2⟩
  rintro e w3 ⟨hd, e5, e7, k, hk, e8, hno, h3⟩
  by_cases hlt : (k : Int) < (heldS who ls).length
  case neg =>
    have : k = (heldS who ls).length := by omega
    subst this
    rw [List.take_length] at hno
    simp -dsimp -implicitDefEqProofs (disch := omega) only [go_sem, reqD_of, dec_t, dec_f, wrap_i64, wrap_u32, wrap_u64, wrap_u8, hd, e5, e7, e8, hlt]
    exact h3.sub
  have hkl : k < (heldS who ls).length := by omega
  have h3' := h3.drew
  obtain ⟨_, _, _, hv, _, hcl⟩ := St.rowsAt (k := 4) needC_length (by decide) (h3'.gives (B := Reads 4 (.slice a (heldS who ls).length c) (heldS who ls).length ((heldS who ls).flatMap needC)))
  simp only [Value.slice.injEq, true_and] at hv
  obtain ⟨rfl, rfl⟩ := hv
  obtain ⟨g, o, rfl, hrow, _⟩ := hcl k hkl
  have hN := h3'.rowH N 4 rfl
  generalize hx : (heldS who ls)[k] = x at hrow
  simp -dsimp -implicitDefEqProofs (disch := omega) only [go_sem, reqD_of, dec_t, dec_f, wrap_i64, wrap_u32, wrap_u64, wrap_u8, hd, e5, e7, e8, hlt, hrow, hN, needC]
  rw [needEq]
  by_cases hxn : x = n
  · have hin : n ∈ heldS who ls := hxn ▸ hx ▸ List.getElem_mem hkl
    simp -dsimp -implicitDefEqProofs (disch := omega) only [go_sem, reqD_of, dec_t, dec_f, wrap_i64, wrap_u32, wrap_u64, wrap_u8, hd, e5, e7, e8, hxn]
    exact h3'.sub
  · simp -dsimp -implicitDefEqProofs (disch := omega) only [go_sem, reqD_of, dec_t, dec_f, wrap_i64, wrap_u32, wrap_u64, wrap_u8, hd, e5, e7, e8, hxn]
    refine ⟨⟨k + 1, by omega, by omega, ?_, h3'⟩, by omega⟩
    rw [List.take_succ_eq_append_getElem hkl, hx]
    simp only [List.mem_append, List.mem_singleton]
    rintro (h | h)
    · exact hno h
    · exact hxn h.symm

/-- A step by raw numbers. -/
abbrev Mv := Int × Int × Int × Bool
def mvC (m : Mv) : List Value := [.int .i64 m.1, .int .i64 m.2.1, .int .i64 m.2.2.1, .bool m.2.2.2]
theorem mvC_length (m : Mv) : (mvC m).length = 4 := rfl
def mvWho (m : Mv) : Int := 1 + pickI m.2.1 8
def mvLock (m : Mv) : Nam := (3, 0, pickI m.2.2.1 6)
def moveS (m : Mv) (ls : List (Nam × LkS)) (ws : List (Int × Nee)) : (List Claim × Bool) × List (Nam × LkS) × List (Int × Nee) :=
  if pickI m.1 4 < 2 then (([], decide ((askS (mvWho m) (mvLock m, m.2.2.2) ls ws).1.2 = 0)), (askS (mvWho m) (mvLock m, m.2.2.2) ls ws).2)
  else if pickI m.1 4 = 2 then (((freeS (mvWho m) (mvLock m) ls ws).1.1, decide ((freeS (mvWho m) (mvLock m) ls ws).1.2 = 0)), (freeS (mvWho m) (mvLock m) ls ws).2)
  else (((leaveS (mvWho m) ls ws).1, true), (leaveS (mvWho m) ls ws).2)
def I64 (n : Int) : Prop := -9223372036854775808 ≤ n ∧ n < 9223372036854775808
def MvOk (m : Mv) : Prop := I64 m.1 ∧ I64 m.2.1 ∧ I64 m.2.2.1

end
section
attribute [local go_sem] F16.t6_eq F16.t11_eq F16.t3_eq
theorem move_tail {w0 w : World} {F : HP} {B M N : Nat} {ls : List (Nam × LkS)} {ws : List (Int × Nee)} {m : Mv} {l : List Claim} {ok : Bool} {ls' : List (Nam × LkS)} {ws' : List (Int × Nee)} {e : FA} (hR : moveS m ls ws = ((l, ok), ls', ws')) (hm : MvOk m)
    (h : St w0 (TabP B ls ws * (Blk M (.cells (mvC m).toArray 44 (0, 0)) * (Blk N (.cells (needC (mvLock m, m.2.2.2)).toArray 38 (0, 0)) * F))) w) (hd : e.ds = []) (e0 : e.ρ 0 = .pointer (some ⟨B, 0, none⟩)) (e3 : e.ρ 3 = .pointer (some ⟨M, 0, none⟩)) (e6 : e.ρ 6 = .int .i64 (mvWho m)) (e7 : e.ρ 7 = .pointer (some ⟨N, 0, none⟩))
    (hw : ∀ n, agt (mvWho m) ws = some n → ∃ s, agt n.1 ls = some s) (hT : tot ls < 1099511627776) (hL : ls.length < 1099511627776) :
    cwE Try.prog F16.t3 (fnP Try.prog #[.tmp 4, .tmp 5] fun e w' => ∃ v, St w0 (RowO 3 1 v l.length (intR (l.map (·.1))) * (TabP B ls' ws' * F)) w' ∧ e = .returned (.tuple #[v, .bool ok])) e w := by
  rw [F16.t3_eq]
  have hta := tot_agt (x := mvLock m) (ls := ls)
  have hM := h.cl M
  unfold mvC at hM
  simp -dsimp -implicitDefEqProofs (disch := omega) only [go_sem, reqD_of, dec_t, dec_f, wrap_i64, wrap_u32, wrap_u64, wrap_u8, hd, e0, e3, e6, e7, hM]
  refine (pick_any (c := m.1) (n := 4) h hm.1 (by decide)).mono ?_
  rintro e' w1 ⟨h1, rfl⟩
  have hp := pickI_range (c := m.1) (n := 4) (by decide)
  have hN := h1.rowH N 4 rfl
  by_cases q : pickI m.1 4 < 2
  · have hq : pickI m.1 4 = 0 ∨ ¬ pickI m.1 4 = 0 ∧ pickI m.1 4 = 1 := by omega
    obtain ⟨⟨⟨r1, r2⟩, ls1, ws1⟩, hA⟩ : ∃ y, askS (mvWho m) (mvLock m, m.2.2.2) ls ws = y := ⟨_, rfl⟩
    obtain ⟨⟨rfl, rfl⟩, rfl, rfl⟩ : (l = [] ∧ ok = decide (r2 = 0)) ∧ ls' = ls1 ∧ ws' = ws1 := by have := hR.symm; simpa [moveS, q, hA] using this
    have fin : ∀ {w : World} {e : FA}, St w0 (TabP B ls' ws' * (Blk M (.cells (mvC m).toArray 44 (0, 0)) * (Blk N (.cells (needC (mvLock m, m.2.2.2)).toArray 38 (0, 0)) * F))) w → St w0 (RowO 3 1 (.slice none 0 0) 0 [] * (TabP B ls' ws' * F)) w := fun h => (h.nilR 3 1).sub
    rcases hq with q0 | ⟨q0, q1⟩
    · simp -dsimp -implicitDefEqProofs (disch := omega) only [go_sem, reqD_of, dec_t, dec_f, wrap_i64, wrap_u32, wrap_u64, wrap_u8, hd, e0, e3, e6, e7, q0, hN]
      refine (ask_any (n := (mvLock m, m.2.2.2)) h1 hA (by dsimp only; omega) (by dsimp only; omega)).mono ?_
      rintro e' w2 ⟨h2, rfl⟩
      simp -dsimp -implicitDefEqProofs (disch := omega) only [go_sem, reqD_of, dec_t, dec_f, wrap_i64, wrap_u32, wrap_u64, wrap_u8, hd, e0, e3, e6, e7]
      exact ⟨_, fin h2 (e := e), rfl⟩
    · simp -dsimp -implicitDefEqProofs (disch := omega) only [go_sem, reqD_of, dec_t, dec_f, wrap_i64, wrap_u32, wrap_u64, wrap_u8, hd, e0, e3, e6, e7, q0, q1, hN]
      refine (ask_any (n := (mvLock m, m.2.2.2)) h1 hA (by dsimp only; omega) (by dsimp only; omega)).mono ?_
      rintro e' w2 ⟨h2, rfl⟩
      simp -dsimp -implicitDefEqProofs (disch := omega) only [go_sem, reqD_of, dec_t, dec_f, wrap_i64, wrap_u32, wrap_u64, wrap_u8, hd, e0, e3, e6, e7]
      exact ⟨_, fin h2 (e := e), rfl⟩
  · have q0 : ¬ pickI m.1 4 = 0 := by omega
    have q1 : ¬ pickI m.1 4 = 1 := by omega
    by_cases q2 : pickI m.1 4 = 2
    · obtain ⟨⟨⟨l1, r2⟩, ls1, ws1⟩, hA⟩ : ∃ y, freeS (mvWho m) (mvLock m) ls ws = y := ⟨_, rfl⟩
      obtain ⟨⟨rfl, rfl⟩, rfl, rfl⟩ : (l = l1 ∧ ok = decide (r2 = 0)) ∧ ls' = ls1 ∧ ws' = ws1 := by have := hR.symm; simpa [moveS, q, q2, hA] using this
      have hN3 : rowV w1 ⟨N, 0, none⟩ 3 = some (namV (mvLock m)) := h1.rowAtH N 0 3 (by simp [needC])
      simp -dsimp -implicitDefEqProofs (disch := omega) only [go_sem, reqD_of, dec_t, dec_f, wrap_i64, wrap_u32, wrap_u64, wrap_u8, hd, e0, e3, e6, e7, q0, q1, q2, hN3]
      refine (free_any (x := mvLock m) h1 hA (by omega)).mono ?_
      rintro e' w2 ⟨v, h2, rfl⟩
      simp -dsimp -implicitDefEqProofs (disch := omega) only [go_sem, reqD_of, dec_t, dec_f, wrap_i64, wrap_u32, wrap_u64, wrap_u8, hd, e0, e3, e6, e7]
      exact ⟨v, h2.sub, rfl⟩
    · obtain ⟨⟨l1, ls1, ws1⟩, hA⟩ : ∃ y, leaveS (mvWho m) ls ws = y := ⟨_, rfl⟩
      obtain ⟨⟨rfl, rfl⟩, rfl, rfl⟩ : (l = l1 ∧ ok = true) ∧ ls' = ls1 ∧ ws' = ws1 := by have := hR.symm; simpa [moveS, q, q2, hA] using this
      simp -dsimp -implicitDefEqProofs (disch := omega) only [go_sem, reqD_of, dec_t, dec_f, wrap_i64, wrap_u32, wrap_u64, wrap_u8, hd, e0, e3, e6, e7, q0, q1, q2]
      refine (leave_any h1 hw hT hL).mono ?_
      rintro e' w2 ⟨v, h2, rfl⟩
      rw [hA] at h2
      simp -dsimp -implicitDefEqProofs (disch := omega) only [go_sem, reqD_of, dec_t, dec_f, wrap_i64, wrap_u32, wrap_u64, wrap_u8, hd, e0, e3, e6, e7]
      exact ⟨v, h2.sub, rfl⟩

end
section
attribute [local go_sem] F16.t6_eq F16.t11_eq
theorem move_any {w0 w : World} {F : HP} {B : Nat} {ls : List (Nam × LkS)} {ws : List (Int × Nee)} {m : Mv} {l : List Claim} {ok : Bool} {ls' : List (Nam × LkS)} {ws' : List (Int × Nee)} (hR : moveS m ls ws = ((l, ok), ls', ws')) (hm : MvOk m) (h : St w0 (TabP B ls ws * F) w)
    (hw : ∀ n, agt (mvWho m) ws = some n → ∃ s, agt n.1 ls = some s) (hT : tot ls < 1099511627776) (hL : ls.length < 1099511627776) :
    Calls Try.prog 16 #[.pointer (some ⟨B, 0, none⟩), .agg (mvC m).toArray] w fun e w' => ∃ v, St w0 (RowO 3 1 v l.length (intR (l.map (·.1))) * (TabP B ls' ws' * F)) w' ∧ e = .returned (.tuple #[v, .bool ok]) := by
  have hp8 := pickI_range (c := m.2.1) (n := 8) (by decide)
  have hp6 := pickI_range (c := m.2.2.1) (n := 6) (by decide)
  refine F16.calls (by simp) ?_
  unfold F16.code
  simp -dsimp -implicitDefEqProofs (disch := omega) only [go_sem, reqD_of, dec_t, dec_f, wrap_i64, wrap_u32, wrap_u64, wrap_u8]
  refine h.new fun M w1 h1 => ?_
  have hM := h1.cl M
  have hMd := h1.drew.cl M
  unfold mvC at hM hMd
  simp -dsimp -implicitDefEqProofs (disch := omega) only [go_sem, reqD_of, dec_t, dec_f, wrap_i64, wrap_u32, wrap_u64, wrap_u8, hM]
  refine (pick_any (c := m.2.1) (n := 8) h1 hm.2.1 (by decide)).mono ?_
  rintro e' w2 ⟨h2, rfl⟩
  have hM2 := h2.drew.cl M
  unfold mvC at hM2
  simp -dsimp -implicitDefEqProofs (disch := omega) only [go_sem, reqD_of, dec_t, dec_f, wrap_i64, wrap_u32, wrap_u64, wrap_u8, hM2]
  refine ⟨?_, ?_⟩
  · refine (pick_any (c := m.2.2.1) (n := 6) h2.drew hm.2.2 (by decide)).mono ?_
    rintro e' w3 ⟨h3, rfl⟩
    have hM3 := h3.cl M
    unfold mvC at hM3
    simp -dsimp -implicitDefEqProofs (disch := omega) only [go_sem, reqD_of, dec_t, dec_f, wrap_i64, wrap_u32, wrap_u64, wrap_u8, hM3]
    refine ⟨?_, ?_⟩
    · refine (oneN_any h3 hp6.1 (by omega)).mono ?_
      rintro e' w4 ⟨h4, rfl⟩
      have hM4 := h4.cl M
      unfold mvC at hM4
      simp -dsimp -implicitDefEqProofs (disch := omega) only [go_sem, reqD_of, dec_t, dec_f, wrap_i64, wrap_u32, wrap_u64, wrap_u8, hM4]
      refine onV_of (v := needV (mvLock m, m.2.2.2)) rfl ?_
      simp -dsimp -implicitDefEqProofs (disch := omega) only [go_sem, reqD_of, dec_t, dec_f, wrap_i64, wrap_u32, wrap_u64, wrap_u8]
      refine h4.new fun N w5 h5 => ?_
      have hM5 := h5.cl M
      unfold mvC at hM5
      simp -dsimp -implicitDefEqProofs (disch := omega) only [go_sem, reqD_of, dec_t, dec_f, wrap_i64, wrap_u32, wrap_u64, wrap_u8, hM5]
      refine h5.stoAll (cs := needC (mvLock m, m.2.2.2)) rfl rfl (needC_cells _) fun w6 h6 => ?_
      have hM6 := h6.cl M
      unfold mvC at hM6
      simp -dsimp -implicitDefEqProofs (disch := omega) only [go_sem, reqD_of, dec_t, dec_f, wrap_i64, wrap_u32, wrap_u64, wrap_u8, hM6]
      exact move_tail (M := M) (N := N) hR hm h6.sub (by simp -dsimp -implicitDefEqProofs only [go_sem]) (by simp -dsimp -implicitDefEqProofs only [go_sem]) (by simp -dsimp -implicitDefEqProofs only [go_sem]) (by simp -dsimp -implicitDefEqProofs only [go_sem, mvWho]) (by simp -dsimp -implicitDefEqProofs only [go_sem]) hw hT hL
    · refine h3.new fun N w4 h4 => ?_
      have hM4 := h4.cl M
      unfold mvC at hM4
      simp -dsimp -implicitDefEqProofs (disch := omega) only [go_sem, reqD_of, dec_t, dec_f, wrap_i64, wrap_u32, wrap_u64, wrap_u8, hM4]
      refine (oneN_any h4 hp6.1 (by omega)).mono ?_
      rintro e' w5 ⟨h5, rfl⟩
      have hM5 := h5.cl M
      unfold mvC at hM5
      simp -dsimp -implicitDefEqProofs (disch := omega) only [go_sem, reqD_of, dec_t, dec_f, wrap_i64, wrap_u32, wrap_u64, wrap_u8, hM5]
      refine onV_of (v := needV (mvLock m, m.2.2.2)) rfl ?_
      simp -dsimp -implicitDefEqProofs (disch := omega) only [go_sem, reqD_of, dec_t, dec_f, wrap_i64, wrap_u32, wrap_u64, wrap_u8]
      refine h5.stoAll (cs := needC (mvLock m, m.2.2.2)) rfl rfl (needC_cells _) fun w6 h6 => ?_
      have hM6 := h6.cl M
      unfold mvC at hM6
      simp -dsimp -implicitDefEqProofs (disch := omega) only [go_sem, reqD_of, dec_t, dec_f, wrap_i64, wrap_u32, wrap_u64, wrap_u8, hM6]
      exact move_tail (M := M) (N := N) hR hm h6.sub (by simp -dsimp -implicitDefEqProofs only [go_sem]) (by simp -dsimp -implicitDefEqProofs only [go_sem]) (by simp -dsimp -implicitDefEqProofs only [go_sem]) (by simp -dsimp -implicitDefEqProofs only [go_sem, mvWho]) (by simp -dsimp -implicitDefEqProofs only [go_sem]) hw hT hL
  · refine h2.drew.new fun N w3 h3 => ?_
    have hM3 := h3.cl M
    unfold mvC at hM3
    simp -dsimp -implicitDefEqProofs (disch := omega) only [go_sem, reqD_of, dec_t, dec_f, wrap_i64, wrap_u32, wrap_u64, wrap_u8, hM3]
    refine (pick_any (c := m.2.2.1) (n := 6) h3 hm.2.2 (by decide)).mono ?_
    rintro e' w4 ⟨h4, rfl⟩
    have hM4 := h4.cl M
    unfold mvC at hM4
    simp -dsimp -implicitDefEqProofs (disch := omega) only [go_sem, reqD_of, dec_t, dec_f, wrap_i64, wrap_u32, wrap_u64, wrap_u8, hM4]
    refine (oneN_any h4 hp6.1 (by omega)).mono ?_
    rintro e' w5 ⟨h5, rfl⟩
    have hM5 := h5.cl M
    unfold mvC at hM5
    simp -dsimp -implicitDefEqProofs (disch := omega) only [go_sem, reqD_of, dec_t, dec_f, wrap_i64, wrap_u32, wrap_u64, wrap_u8, hM5]
    refine onV_of (v := needV (mvLock m, m.2.2.2)) rfl ?_
    simp -dsimp -implicitDefEqProofs (disch := omega) only [go_sem, reqD_of, dec_t, dec_f, wrap_i64, wrap_u32, wrap_u64, wrap_u8]
    refine h5.stoAll (cs := needC (mvLock m, m.2.2.2)) rfl rfl (needC_cells _) fun w6 h6 => ?_
    have hM6 := h6.cl M
    unfold mvC at hM6
    simp -dsimp -implicitDefEqProofs (disch := omega) only [go_sem, reqD_of, dec_t, dec_f, wrap_i64, wrap_u32, wrap_u64, wrap_u8, hM6]
    exact move_tail (M := M) (N := N) hR hm h6.sub (by simp -dsimp -implicitDefEqProofs only [go_sem]) (by simp -dsimp -implicitDefEqProofs only [go_sem]) (by simp -dsimp -implicitDefEqProofs only [go_sem]) (by simp -dsimp -implicitDefEqProofs only [go_sem, mvWho]) (by simp -dsimp -implicitDefEqProofs only [go_sem]) hw hT hL

end
end Go.Proofs.Ytacmnfpgimgigaa

namespace Go.Proofs.Ytacmnfpgimgigaa
open Go
set_option linter.unusedSimpArgs false
set_option linter.unusedVariables false
set_option maxRecDepth 100000

section assoc
variable {κ α : Type} [DecidableEq κ]
theorem agt_aset_if (x y : κ) (v : α) : ∀ l : List (κ × α), agt y (aset x v l) = if y = x then some v else agt y l
  | [] => by simp only [aset, agt]
  | (z, u) :: l => by
    have ih := agt_aset_if x y v l
    by_cases h : x = z
    · subst h
      by_cases hy : y = x <;> simp [aset, agt, hy]
    · by_cases hy : y = x
      · subst hy
        simp [aset, agt, h, ih]
      · by_cases hz : y = z
        · subst hz
          simp [aset, agt, h, hy]
        · simp [aset, agt, h, hy, hz, ih]
theorem agt_none_of_notin {x : κ} : ∀ {l : List (κ × α)}, x ∉ l.map (·.1) → agt x l = none
  | [], _ => rfl
  | (z, u) :: l, h => by
    simp only [List.map_cons, List.mem_cons, not_or] at h
    simp [agt, h.1, agt_none_of_notin h.2]
theorem agt_adel_if {x y : κ} : ∀ {l : List (κ × α)}, (l.map (·.1)).Nodup → agt y (adel x l) = if y = x then none else agt y l
  | [], _ => by simp [adel, agt]
  | (z, u) :: l, hn => by
    simp only [List.map_cons, List.nodup_cons] at hn
    have ih := agt_adel_if (x := x) (y := y) hn.2
    by_cases h : x = z
    · subst h
      by_cases hy : y = x
      · subst hy
        simp [adel, agt_none_of_notin hn.1]
      · simp [adel, agt, hy]
    · by_cases hy : y = x
      · subst hy
        simp [adel, agt, h, ih]
      · by_cases hz : y = z
        · subst hz
          simp [adel, agt, h, hy]
        · simp [adel, agt, h, hy, hz, ih]
theorem adel_keys (x : κ) : ∀ l : List (κ × α), ((adel x l).map (·.1)).Sublist (l.map (·.1))
  | [] => .slnil
  | (z, u) :: l => by
    simp only [adel]
    split
    · exact List.sublist_cons_self _ _
    · exact (adel_keys x l).cons_cons _
theorem adel_nodup {x : κ} {l : List (κ × α)} (h : (l.map (·.1)).Nodup) : ((adel x l).map (·.1)).Nodup := (adel_keys x l).nodup h
theorem aset_keys (x : κ) (v : α) : ∀ l : List (κ × α), ∀ y ∈ (aset x v l).map (·.1), y = x ∨ y ∈ l.map (·.1)
  | [], y, h => by simpa [aset] using h
  | (z, u) :: l, y, h => by
    simp only [aset] at h
    split at h
    · rename_i e
      simp only [List.map_cons, List.mem_cons] at h ⊢
      rcases h with h | h
      · exact .inl h
      · exact .inr (.inr h)
    · simp only [List.map_cons, List.mem_cons] at h ⊢
      rcases h with h | h
      · exact .inr (.inl h)
      · rcases aset_keys x v l y h with h | h
        · exact .inl h
        · exact .inr (.inr h)
theorem aset_nodup {x : κ} {v : α} : ∀ {l : List (κ × α)}, (l.map (·.1)).Nodup → ((aset x v l).map (·.1)).Nodup
  | [], _ => by simp [aset]
  | (z, u) :: l, hn => by
    simp only [List.map_cons, List.nodup_cons] at hn
    simp only [aset]
    split
    · rename_i e
      subst e
      simpa using hn
    · rename_i e
      simp only [List.map_cons, List.nodup_cons]
      refine ⟨fun h => ?_, aset_nodup hn.2⟩
      rcases aset_keys x v l z h with h | h
      · exact e h.symm
      · exact hn.1 h
theorem agt_isSome_iff {x : κ} : ∀ {l : List (κ × α)}, (agt x l).isSome = true ↔ x ∈ l.map (·.1)
  | [] => by simp [agt]
  | (z, u) :: l => by
    have ih := agt_isSome_iff (x := x) (l := l)
    simp only [agt, List.map_cons, List.mem_cons]
    split
    · rename_i h; simp [h]
    · rename_i h; rw [ih]; simp [h]
end assoc

theorem delAll_agt : ∀ (l : List Claim) {ws : List (Int × Nee)} (w : Int), (ws.map (·.1)).Nodup → agt w (delAll l ws) = (if w ∈ l.map (·.1) then none else agt w ws) ∧ ((delAll l ws).map (·.1)).Nodup
  | [], ws, w, hn => by simp [delAll, hn]
  | c :: l, ws, w, hn => by
    have ih := delAll_agt l (ws := adel c.1 ws) w (adel_nodup hn)
    simp only [delAll, List.foldl_cons] at ih ⊢
    refine ⟨?_, ih.2⟩
    rw [ih.1, agt_adel_if hn]
    by_cases h1 : w ∈ l.map (·.1)
    · simp [h1]
    · by_cases h2 : w = c.1
      · simp [h2]
      · simp [h1, h2]

/-! ### Letting in -/
def Alone1 (hs : List Claim) : Prop := ∀ c ∈ hs, c.2 = true → hs = [c]
theorem letsB_iff {hs : List Claim} (ha : Alone1 hs) {a : Bool} : letsB hs a = true ↔ hs = [] ∨ (a = false ∧ ∀ c ∈ hs, c.2 = false) := by
  cases hs with
  | nil => simp [letsB]
  | cons c l =>
    simp only [letsB, reduceCtorEq, false_or, Bool.and_eq_true, Bool.not_eq_true']
    refine ⟨fun ⟨h1, h2⟩ => ⟨h1, fun d hd => ?_⟩, fun ⟨h1, h2⟩ => ⟨h1, h2 c (by simp)⟩⟩
    cases hd2 : d.2 with
    | false => rfl
    | true =>
      have := ha d hd hd2
      simp only [List.cons.injEq] at this
      rw [this.1, hd2] at h2
      cases h2
theorem adm_al : ∀ (hs q : List Claim), Alone1 hs → Alone1 (adm hs q).1
  | hs, [], h => h
  | hs, c :: q, h => by
    by_cases hl : letsB hs c.2 = true
    · rw [adm_go hl]
      refine adm_al (hs ++ [c]) q ?_
      rcases (letsB_iff h).1 hl with h0 | ⟨h0, h1⟩
      · subst h0
        intro d hd _
        simp only [List.nil_append, List.mem_singleton] at hd
        simp [hd]
      · intro d hd hd2
        rcases List.mem_append.1 hd with hd | hd
        · rw [h1 d hd] at hd2; cases hd2
        · simp only [List.mem_singleton] at hd
          rw [hd, h0] at hd2; cases hd2
    · rw [adm_stop (by simpa using hl)]; exact h
theorem adm_hd : ∀ (hs q : List Claim) (c : Claim) (q' : List Claim), (adm hs q).2.1 = c :: q' → letsB (adm hs q).1 c.2 = false
  | hs, [], c, q', h => by simp [adm] at h
  | hs, d :: q, c, q', h => by
    by_cases hl : letsB hs d.2 = true
    · rw [adm_go hl] at h ⊢
      exact adm_hd (hs ++ [d]) q c q' h
    · rw [adm_stop (by simpa using hl)] at h ⊢
      simp only [List.cons.injEq] at h
      rw [← h.1]
      simpa using hl
theorem adm_ne {hs q : List Claim} (h : (adm hs q).1 = []) : (adm hs q).2.1 = [] := by
  cases hq : (adm hs q).2.1 with
  | nil => rfl
  | cons c q' =>
    have := adm_hd hs q c q' hq
    rw [h] at this
    simp [letsB] at this

/-! ### What stays true -/
/-- One lock by itself. -/
structure LkOk (s : LkS) : Prop where
  al : Alone1 s.1
  hn : (s.1.map (·.1)).Nodup
  qn : (s.2.map (·.1)).Nodup
  dj : ∀ c ∈ s.2, c.1 ∉ s.1.map (·.1)

structure Inv (ls : List (Nam × LkS)) (ws : List (Int × Nee)) : Prop where
  kn : (ls.map (·.1)).Nodup
  wn : (ws.map (·.1)).Nodup
  ok : ∀ x s, agt x ls = some s → LkOk s
  ne : ∀ x s, agt x ls = some s → s.1 ≠ []
  hd : ∀ x s c q, agt x ls = some s → s.2 = c :: q → letsB s.1 c.2 = false
  qw : ∀ x s w a, agt x ls = some s → (w, a) ∈ s.2 → agt w ws = some (x, a)
  wq : ∀ w x a, agt w ws = some (x, a) → ∃ s, agt x ls = some s ∧ (w, a) ∈ s.2

/-- A state of which the lock x is to let in yet. -/
structure Pre (x : Nam) (s : LkS) (ls : List (Nam × LkS)) (ws : List (Int × Nee)) : Prop where
  kn : (ls.map (·.1)).Nodup
  wn : (ws.map (·.1)).Nodup
  okx : LkOk s
  ok : ∀ y t, y ≠ x → agt y ls = some t → LkOk t
  ne : ∀ y t, y ≠ x → agt y ls = some t → t.1 ≠ []
  hd : ∀ y t c q, y ≠ x → agt y ls = some t → t.2 = c :: q → letsB t.1 c.2 = false
  qwx : ∀ w a, (w, a) ∈ s.2 → agt w ws = some (x, a)
  qw : ∀ y t w a, y ≠ x → agt y ls = some t → (w, a) ∈ t.2 → agt w ws = some (y, a)
  wq : ∀ w y a, agt w ws = some (y, a) → (y = x ∧ (w, a) ∈ s.2) ∨ (y ≠ x ∧ ∃ t, agt y ls = some t ∧ (w, a) ∈ t.2)

theorem turn_L {x : Nam} {s : LkS} {ls : List (Nam × LkS)} {ws : List (Int × Nee)} (hn : (ls.map (·.1)).Nodup) (y : Nam) :
    agt y (turnS x s ls ws).2.1 = if y = x then (if (adm s.1 s.2).1 = [] then none else some ((adm s.1 s.2).1, (adm s.1 s.2).2.1)) else agt y ls := by
  simp only [turnS]
  by_cases h : (adm s.1 s.2).1 = []
  · rw [if_pos h, agt_adel_if (aset_nodup hn), agt_aset_if, if_pos h]
    by_cases hy : y = x <;> simp [hy]
  · rw [if_neg h, agt_aset_if, agt_aset_if, if_neg h]
    by_cases hy : y = x <;> simp [hy]
theorem turn_Lnodup {x : Nam} {s : LkS} {ls : List (Nam × LkS)} {ws : List (Int × Nee)} (hn : (ls.map (·.1)).Nodup) : ((turnS x s ls ws).2.1.map (·.1)).Nodup := by
  simp only [turnS]
  split
  · exact adel_nodup (aset_nodup hn)
  · exact aset_nodup (aset_nodup hn)

theorem Pre.inv {x : Nam} {s : LkS} {ls : List (Nam × LkS)} {ws : List (Int × Nee)} (p : Pre x s ls ws) : Inv (turnS x s ls ws).2.1 (turnS x s ls ws).2.2 := by
  obtain ⟨e1, e2⟩ := adm_spec s.1 s.2
  have hL := turn_L (x := x) (s := s) (ws := ws) p.kn
  have hW : ∀ w, agt w (turnS x s ls ws).2.2 = if w ∈ (adm s.1 s.2).2.2.map (·.1) then none else agt w ws := fun w => (delAll_agt _ w p.wn).1
  have hqn := p.okx.qn
  have hdj := p.okx.dj
  rw [e2] at hqn hdj
  rw [List.map_append, List.nodup_append] at hqn
  have hok : LkOk ((adm s.1 s.2).1, (adm s.1 s.2).2.1) := by
    refine ⟨adm_al _ _ p.okx.al, ?_, hqn.2.1, ?_⟩
    · simp only
      rw [e1, List.map_append, List.nodup_append]
      refine ⟨p.okx.hn, hqn.1, ?_⟩
      rintro a ha b hb rfl
      obtain ⟨c, hc, rfl⟩ := List.mem_map.1 hb
      exact hdj c (List.mem_append_left _ hc) ha
    · intro c hc
      simp only at hc ⊢
      rw [e1, List.map_append, List.mem_append, not_or]
      refine ⟨hdj c (List.mem_append_right _ hc), fun h => ?_⟩
      exact hqn.2.2 _ h _ (List.mem_map.2 ⟨c, hc, rfl⟩) rfl
  refine ⟨turn_Lnodup p.kn, (delAll_agt _ 0 p.wn).2, ?_, ?_, ?_, ?_, ?_⟩
  · intro y t ht
    rw [hL] at ht
    by_cases hy : y = x
    · rw [if_pos hy] at ht
      split at ht
      · cases ht
      · simp only [Option.some.injEq] at ht; rw [← ht]; exact hok
    · rw [if_neg hy] at ht; exact p.ok y t hy ht
  · intro y t ht
    rw [hL] at ht
    by_cases hy : y = x
    · rw [if_pos hy] at ht
      split at ht
      · cases ht
      · rename_i hne; simp only [Option.some.injEq] at ht; rw [← ht]; exact hne
    · rw [if_neg hy] at ht; exact p.ne y t hy ht
  · intro y t c q ht hq
    rw [hL] at ht
    by_cases hy : y = x
    · rw [if_pos hy] at ht
      split at ht
      · cases ht
      · simp only [Option.some.injEq] at ht
        rw [← ht] at hq ⊢
        exact adm_hd _ _ _ _ hq
    · rw [if_neg hy] at ht; exact p.hd y t c q hy ht hq
  · intro y t w a ht hw
    rw [hL] at ht
    rw [hW]
    by_cases hy : y = x
    · rw [if_pos hy] at ht
      split at ht
      · cases ht
      · simp only [Option.some.injEq] at ht
        rw [← ht] at hw
        simp only at hw
        rw [if_neg (fun h => hqn.2.2 _ h _ (List.mem_map.2 ⟨(w, a), hw, rfl⟩) rfl), hy]
        exact p.qwx w a (by rw [e2]; exact List.mem_append_right _ hw)
    · rw [if_neg hy] at ht
      have h1 := p.qw y t w a hy ht hw
      rw [if_neg]
      · exact h1
      · intro h
        obtain ⟨c, hc, rfl⟩ := List.mem_map.1 h
        have h2 := p.qwx c.1 c.2 (by rw [e2]; exact List.mem_append_left _ hc)
        rw [h1] at h2
        simp only [Option.some.injEq, Prod.mk.injEq] at h2
        exact hy h2.1
  · intro w y a hw
    rw [hW] at hw
    split at hw
    · cases hw
    rename_i hnl
    rcases p.wq w y a hw with ⟨rfl, h⟩ | ⟨hy, t, ht, h⟩
    · rw [e2] at h
      rcases List.mem_append.1 h with h | h
      · exact absurd (List.mem_map.2 ⟨(w, a), h, rfl⟩) hnl
      · have hne : (adm s.1 s.2).1 ≠ [] := fun h0 => by rw [adm_ne h0] at h; cases h
        exact ⟨_, by rw [hL, if_pos rfl, if_neg hne], h⟩
    · exact ⟨t, by rw [hL, if_neg hy]; exact ht, h⟩

theorem Inv.start : Inv [] [] := ⟨.nil, .nil, fun _ _ h => (by cases h), fun _ _ h => (by cases h), fun _ _ _ _ h => (by cases h), fun _ _ _ _ h => (by cases h), fun _ _ _ h => (by cases h)⟩

theorem posC_mem {who : Int} : ∀ {l : List Claim} {k : Nat}, 0 ≤ posC who l k ↔ who ∈ l.map (·.1)
  | [], k => by simp [posC]
  | c :: l, k => by
    have ih := posC_mem (who := who) (l := l) (k := k + 1)
    simp only [posC, List.map_cons, List.mem_cons]
    split
    · rename_i h; simp [h]
    · rename_i h
      rw [ih]
      simp [Ne.symm h]
theorem posC_at {who : Int} : ∀ {l : List Claim} {k i : Nat}, posC who l k = ((k + i : Nat) : Int) → ∃ a, l[i]? = some (who, a)
  | [], k, i, h => by simp [posC] at h; omega
  | c :: l, k, i, h => by
    simp only [posC] at h
    split at h
    · rename_i hc
      have : i = 0 := by omega
      subst this
      exact ⟨c.2, by simp [← hc]⟩
    · cases i with
      | zero => rcases posC_spec who l (k + 1) with h' | ⟨m, _, h'⟩ <;> omega
      | succ i =>
        obtain ⟨a, ha⟩ := posC_at (l := l) (k := k + 1) (i := i) (by rw [h]; omega)
        exact ⟨a, by simpa using ha⟩

theorem Inv.free {ls : List (Nam × LkS)} {ws : List (Int × Nee)} (v : Inv ls ws) (who : Int) (x : Nam) : Inv (freeS who x ls ws).2.1 (freeS who x ls ws).2.2 := by
  cases hx : agt x ls with
  | none => rw [freeS_no (by simp [hx])]; exact v
  | some s =>
    rcases posC_spec who s.1 0 with hp | ⟨i, hi, hp⟩
    · rw [freeS_no (by intro s' hs'; rw [hx] at hs'; cases hs'; omega)]; exact v
    · rw [Nat.zero_add] at hp
      rw [freeS_turn hx hp]
      have ho := v.ok x s hx
      have hsub : (s.1.eraseIdx i).Sublist s.1 := List.eraseIdx_sublist _ _
      refine Pre.inv ⟨v.kn, v.wn, ⟨?_, (hsub.map _).nodup ho.hn, ho.qn, fun c hc h => ho.dj c hc ((hsub.map _).subset h)⟩, fun y t _ h => v.ok y t h, fun y t _ h => v.ne y t h, fun y t c q _ h => v.hd y t c q h, fun w a h => v.qw x s w a hx h, fun y t w a _ h => v.qw y t w a h, ?_⟩
      · intro c hc h2
        have := ho.al c (hsub.subset hc) h2
        simp only at hc
        rw [this] at hc hi
        simp only [List.length_singleton, Nat.lt_one_iff] at hi
        subst hi
        simp at hc
      · intro w y a h
        obtain ⟨t, ht, hm⟩ := v.wq w y a h
        by_cases hy : y = x
        · subst hy
          rw [hx] at ht
          simp only [Option.some.injEq] at ht
          subst ht
          exact .inl ⟨rfl, hm⟩
        · exact .inr ⟨hy, t, ht, hm⟩

theorem Inv.leave1 {ls : List (Nam × LkS)} {ws : List (Int × Nee)} (v : Inv ls ws) (who : Int) : Inv (leave1 who ls ws).2.1 (leave1 who ls ws).2.2 := by
  unfold Go.Proofs.Ytacmnfpgimgigaa.leave1
  split
  · exact v
  rename_i n hn
  split
  · exact v
  rename_i s hs
  have ho := v.ok n.1 s hs
  have hsub : (notWho who s.2).Sublist s.2 := List.filter_sublist
  have hW : ∀ w, agt w (adel who ws) = if w = who then none else agt w ws := fun w => agt_adel_if v.wn
  refine Pre.inv ⟨v.kn, adel_nodup v.wn, ⟨ho.al, ho.hn, (hsub.map _).nodup ho.qn, fun c hc => ho.dj c (hsub.subset hc)⟩, fun y t _ h => v.ok y t h, fun y t _ h => v.ne y t h, fun y t c q _ h => v.hd y t c q h, ?_, ?_, ?_⟩
  · intro w a h
    have h' := List.mem_filter.1 h
    rw [hW, if_neg (by simpa using h'.2)]
    exact v.qw n.1 s w a hs h'.1
  · intro y t w a hy ht hm
    have h1 := v.qw y t w a ht hm
    rw [hW, if_neg]
    · exact h1
    · rintro rfl
      rw [hn] at h1
      simp only [Option.some.injEq] at h1
      exact hy (by rw [h1])
  · intro w y a h
    rw [hW] at h
    split at h
    · cases h
    rename_i hne
    obtain ⟨t, ht, hm⟩ := v.wq w y a h
    by_cases hy : y = n.1
    · subst hy
      rw [hs] at ht
      simp only [Option.some.injEq] at ht
      subst ht
      exact .inl ⟨rfl, List.mem_filter.2 ⟨hm, by simpa using hne⟩⟩
    · exact .inr ⟨hy, t, ht, hm⟩
theorem Inv.leaveL (who : Int) : ∀ (L : List Nee) {ls : List (Nam × LkS)} {ws : List (Int × Nee)}, Inv ls ws → Inv (leaveL who L ls ws).2.1 (leaveL who L ls ws).2.2
  | [], _, _, v => v
  | n :: L, _, _, v => Inv.leaveL who L (v.free who n.1)
theorem Inv.leave {ls : List (Nam × LkS)} {ws : List (Int × Nee)} (v : Inv ls ws) (who : Int) : Inv (leaveS who ls ws).2.1 (leaveS who ls ws).2.2 := Inv.leaveL who _ (v.leave1 who)

theorem Inv.ask {ls : List (Nam × LkS)} {ws : List (Int × Nee)} (v : Inv ls ws) (who : Int) (n : Nee) : Inv (askS who n ls ws).2.1 (askS who n ls ws).2.2 := by
  unfold askS
  split
  · exact v
  rename_i hw
  have hL : ∀ (s' : LkS) (y : Nam), agt y (aset n.1 s' ls) = if y = n.1 then some s' else agt y ls := fun s' y => agt_aset_if _ _ _ _
  -- what stands of the lock
  have hs0 : LkOk ((agt n.1 ls).getD ([], [])) ∧ (∀ w a, (w, a) ∈ ((agt n.1 ls).getD ([], [])).2 → agt w ws = some (n.1, a)) ∧ (((agt n.1 ls).getD ([], [])).1 = [] → ((agt n.1 ls).getD ([], [])).2 = []) ∧
      (∀ c q, ((agt n.1 ls).getD ([], [])).2 = c :: q → letsB ((agt n.1 ls).getD ([], [])).1 c.2 = false) := by
    cases h : agt n.1 ls with
    | none => exact ⟨⟨(fun c hc => (by cases hc)), .nil, .nil, fun c hc => (by cases hc)⟩, fun w a h => (by cases h), fun _ => rfl, fun c q h => (by cases h)⟩
    | some s => exact ⟨v.ok _ _ h, fun w a hm => v.qw _ _ w a h hm, fun h0 => absurd h0 (v.ne _ _ h), fun c q hq => v.hd _ _ c q h hq⟩
  have hsome : ∀ {s'}, agt n.1 ls = some s' → (agt n.1 ls).getD ([], []) = s' := fun h => by rw [h]; rfl
  generalize hs : (agt n.1 ls).getD ([], []) = s at hs0 hsome
  obtain ⟨ho, hq, h0, hh⟩ := hs0
  by_cases hp : 0 ≤ posC who s.1 0
  · have hT : askT who n.2 s = ((false, 130), s, false) := by simp [askT, hp]
    rw [hT]
    simp only [Bool.false_eq_true, if_false]
    cases hx : agt n.1 ls with
    | none => rw [hx] at hs; subst hs; simp [posC] at hp
    | some s' =>
      have : s' = s := (hsome hx).symm
      subst this
      rw [aset_same _ _ _ hx]
      exact v
  have hwho : who ∉ s.1.map (·.1) := fun h => hp (posC_mem.2 h)
  have hwq : who ∉ s.2.map (·.1) := fun h => by
    obtain ⟨c, hc, rfl⟩ := List.mem_map.1 h
    have := hq c.1 c.2 hc
    rw [hw] at this; cases this
  by_cases hl : s.2 = [] ∧ letsB s.1 n.2 = true
  · have hT : askT who n.2 s = ((true, 0), (s.1 ++ [(who, n.2)], s.2), false) := by simp [askT, hp, hl]
    rw [hT]
    simp only [Bool.false_eq_true, if_false]
    have hal : Alone1 (s.1 ++ [(who, n.2)]) := by
      rcases (letsB_iff ho.al).1 hl.2 with h1 | ⟨h1, h2⟩
      · rw [h1]; intro d hd _; simp only [List.nil_append, List.mem_singleton] at hd; simp [hd]
      · intro d hd hd2
        rcases List.mem_append.1 hd with hd | hd
        · rw [h2 d hd] at hd2; cases hd2
        · simp only [List.mem_singleton] at hd; rw [hd] at hd2; simp only at hd2; rw [h1] at hd2; cases hd2
    refine ⟨aset_nodup v.kn, v.wn, fun y t ht => ?_, fun y t ht => ?_, fun y t c q ht hqq => ?_, fun y t w a ht hm => ?_, fun w y a h => ?_⟩
    · rw [hL] at ht
      split at ht
      · simp only [Option.some.injEq] at ht; subst ht
        refine ⟨hal, ?_, ho.qn, fun c hc => ?_⟩
        · simp only [List.map_append, List.map_cons, List.map_nil]
          rw [List.nodup_append]
          exact ⟨ho.hn, by simp, fun a ha b hb => by simp only [List.mem_singleton] at hb; subst hb; rintro rfl; exact hwho ha⟩
        · simp only at hc; rw [hl.1] at hc; cases hc
      · exact v.ok y t ht
    · rw [hL] at ht
      split at ht
      · simp only [Option.some.injEq] at ht; subst ht; simp
      · exact v.ne y t ht
    · rw [hL] at ht
      split at ht
      · simp only [Option.some.injEq] at ht; subst ht; simp only at hqq; rw [hl.1] at hqq; cases hqq
      · exact v.hd y t c q ht hqq
    · rw [hL] at ht
      split at ht
      · simp only [Option.some.injEq] at ht; subst ht; simp only at hm; rw [hl.1] at hm; cases hm
      · exact v.qw y t w a ht hm
    · obtain ⟨t, ht, hm⟩ := v.wq w y a h
      by_cases hy : y = n.1
      · subst hy
        have : t = s := (hsome ht).symm
        subst this
        rw [hl.1] at hm; cases hm
      · exact ⟨t, by rw [hL, if_neg hy]; exact ht, hm⟩
  · have hT : askT who n.2 s = ((false, 0), (s.1, s.2 ++ [(who, n.2)]), true) := by simp only [askT, hp, hl, if_false]
    rw [hT]
    simp only [if_true]
    have hW : ∀ w, agt w (aset who n ws) = if w = who then some n else agt w ws := fun w => agt_aset_if _ _ _ _
    have hne : s.1 ≠ [] := fun h1 => hl ⟨h0 h1, by rw [h1]; rfl⟩
    refine ⟨aset_nodup v.kn, aset_nodup v.wn, fun y t ht => ?_, fun y t ht => ?_, fun y t c q ht hqq => ?_, fun y t w a ht hm => ?_, fun w y a h => ?_⟩
    · rw [hL] at ht
      split at ht
      · simp only [Option.some.injEq] at ht; subst ht
        refine ⟨ho.al, ho.hn, ?_, fun c hc => ?_⟩
        · simp only [List.map_append, List.map_cons, List.map_nil]
          rw [List.nodup_append]
          exact ⟨ho.qn, by simp, fun a ha b hb => by simp only [List.mem_singleton] at hb; subst hb; rintro rfl; exact hwq ha⟩
        · rcases List.mem_append.1 hc with hc | hc
          · exact ho.dj c hc
          · simp only [List.mem_singleton] at hc; subst hc; exact hwho
      · exact v.ok y t ht
    · rw [hL] at ht
      split at ht
      · simp only [Option.some.injEq] at ht; subst ht; exact hne
      · exact v.ne y t ht
    · rw [hL] at ht
      split at ht
      · simp only [Option.some.injEq] at ht; subst ht
        simp only at hqq ⊢
        cases hs2 : s.2 with
        | nil =>
          rw [hs2] at hqq
          simp only [List.nil_append, List.cons.injEq] at hqq
          rw [← hqq.1]
          simpa [hs2] using hl
        | cons d q' =>
          rw [hs2] at hqq
          simp only [List.cons_append, List.cons.injEq] at hqq
          rw [← hqq.1]
          exact hh d q' hs2
      · exact v.hd y t c q ht hqq
    · rw [hW]
      rw [hL] at ht
      split at ht
      · rename_i hy
        subst hy
        simp only [Option.some.injEq] at ht; subst ht
        rcases List.mem_append.1 hm with hm | hm
        · have h1 := hq w a hm
          rw [if_neg]
          · exact h1
          · rintro rfl; rw [hw] at h1; cases h1
        · simp only [List.mem_singleton, Prod.mk.injEq] at hm
          rw [if_pos hm.1, hm.2]
      · have h1 := v.qw y t w a ht hm
        rw [if_neg]
        · exact h1
        · rintro rfl; rw [hw] at h1; cases h1
    · rw [hW] at h
      split at h
      · rename_i hww
        simp only [Option.some.injEq] at h
        subst h hww
        exact ⟨_, by rw [hL, if_pos rfl], by simp⟩
      · obtain ⟨t, ht, hm⟩ := v.wq w y a h
        by_cases hy : y = n.1
        · subst hy
          have : t = s := (hsome ht).symm
          subst this
          exact ⟨_, by rw [hL, if_pos rfl], List.mem_append_left _ hm⟩
        · exact ⟨t, by rw [hL, if_neg hy]; exact ht, hm⟩

theorem Inv.move {ls : List (Nam × LkS)} {ws : List (Int × Nee)} (v : Inv ls ws) (m : Mv) : Inv (moveS m ls ws).2.1 (moveS m ls ws).2.2 := by
  unfold moveS
  split
  · exact v.ask _ _
  · split
    · exact v.free _ _
    · exact v.leave _

/-! ### What is refused changes nothing; one claim at most comes in -/
theorem ask_tot (who : Int) (n : Nee) (ls : List (Nam × LkS)) (ws : List (Int × Nee)) : tot (askS who n ls ws).2.1 ≤ tot ls + 1 ∧ (askS who n ls ws).2.1.length ≤ ls.length + 1 := by
  have key : ∀ (s' : LkS), s'.1.length + s'.2.length ≤ ((agt n.1 ls).getD ([], [])).1.length + ((agt n.1 ls).getD ([], [])).2.length + 1 → tot (aset n.1 s' ls) ≤ tot ls + 1 ∧ (aset n.1 s' ls).length ≤ ls.length + 1 := by
    intro s' h
    cases hx : agt n.1 ls with
    | some s =>
      rw [hx] at h
      simp only [Option.getD_some] at h
      obtain ⟨a1, _, a3⟩ := tot_aset (s' := s') hx
      omega
    | none =>
      rw [hx] at h
      simp only [Option.getD_none, List.length_nil] at h
      have : ∀ {l : List (Nam × LkS)}, agt n.1 l = none → tot (aset n.1 s' l) = tot l + (s'.1.length + s'.2.length) ∧ (aset n.1 s' l).length = l.length + 1 := by
        intro l hl
        induction l with
        | nil => simp [aset, tot]
        | cons p l ih =>
          obtain ⟨y, u⟩ := p
          simp only [agt] at hl
          split at hl
          · cases hl
          · rename_i e
            have := ih hl
            simp only [aset, if_neg e, tot, List.map_cons, List.sum_cons, List.length_cons] at this ⊢
            omega
      have := this hx
      omega
  unfold askS
  split
  · dsimp only; omega
  · refine key _ ?_
    unfold askT
    split
    · dsimp only; omega
    · split
      · dsimp only; rw [List.length_append, List.length_singleton]; omega
      · dsimp only; rw [List.length_append, List.length_singleton]; omega
theorem move_tot (m : Mv) (ls : List (Nam × LkS)) (ws : List (Int × Nee)) : tot (moveS m ls ws).2.1 ≤ tot ls + 1 ∧ (moveS m ls ws).2.1.length ≤ ls.length + 1 := by
  unfold moveS
  split
  · exact ask_tot _ _ _ _
  · split
    · have := freeS_tot (mvWho m) (mvLock m) ls ws
      simp only; omega
    · have := leaveS_tot (mvWho m) ls ws
      simp only; omega

theorem move_refused {m : Mv} {ls : List (Nam × LkS)} {ws : List (Int × Nee)} (h : (moveS m ls ws).1.2 = false) : (moveS m ls ws).2 = (ls, ws) := by
  unfold moveS at h ⊢
  split
  · rename_i hq
    rw [if_pos hq] at h
    simp only [decide_eq_false_iff_not] at h ⊢
    unfold askS at h ⊢
    split
    · rfl
    · rename_i hw
      simp only [hw] at h
      unfold askT at h ⊢
      split
      · rename_i hp
        cases hx : agt (mvLock m) ls with
        | none => rw [hx] at hp; simp [posC] at hp
        | some s =>
          simp only [Option.getD_some, Bool.false_eq_true, if_false]
          rw [aset_same _ _ _ hx]
      · rename_i hp
        rw [if_neg hp] at h
        split at h <;> simp at h
  · rename_i hq
    rw [if_neg hq] at h
    split
    · rename_i hq2
      rw [if_pos hq2] at h
      simp only [decide_eq_false_iff_not] at h ⊢
      cases hx : agt (mvLock m) ls with
      | none => rw [freeS_no (by simp [hx])]
      | some s =>
        rcases posC_spec (mvWho m) s.1 0 with hp | ⟨i, hi, hp⟩
        · rw [freeS_no (by intro s' hs'; rw [hx] at hs'; cases hs'; omega)]
        · rw [Nat.zero_add] at hp
          rw [freeS_turn hx hp] at h
          simp at h
    · rename_i hq2
      rw [if_neg hq2] at h
      simp at h

end Go.Proofs.Ytacmnfpgimgigaa

namespace Go.Proofs.Ytacmnfpgimgigaa
open Go
set_option linter.unusedSimpArgs false
set_option linter.unusedVariables false
set_option maxRecDepth 100000

def kN (k : Nat) : Nam := (3, 0, k)
def queueS (x : Nam) (ls : List (Nam × LkS)) : List Int := ((agt x ls).getD ([], [])).2.map (·.1)
def toldK (ls : List (Nam × LkS)) (k : Nat) : List Int := -1 :: (holdersS (kN k) ls ++ -2 :: queueS (kN k) ls)
def toldN (n : Nee) : List Int := IntKind.i64.wrap n.1.2.2 :: (if n.2 = true then [-3] else [])
def toldW (ls : List (Nam × LkS)) (i : Nat) : List Int := (heldS (1 + i) ls).flatMap toldN ++ [-4]
def toldA (ls : List (Nam × LkS)) (k : Nat) : List Int := (List.range k).flatMap (toldK ls)
def toldB (ls : List (Nam × LkS)) (k : Nat) : List Int := (List.range k).flatMap (toldW ls)
def toldS (ls : List (Nam × LkS)) : List Int := toldA ls 6 ++ toldB ls 8
theorem toldA_succ (ls : List (Nam × LkS)) (k : Nat) : toldA ls (k + 1) = toldA ls k ++ toldK ls k := by unfold toldA; rw [List.range_succ, List.flatMap_append]; simp
theorem toldB_succ (ls : List (Nam × LkS)) (k : Nat) : toldB ls (k + 1) = toldB ls k ++ toldW ls k := by unfold toldB; rw [List.range_succ, List.flatMap_append]; simp

theorem intR_app (a b : List Int) : intR (a ++ b) = intR a ++ intR b := by simp [intR]
theorem intR_nil0 {l : List Int} (h : intR l = []) : l.length = 0 := by simpa [intR] using h
theorem range_flat {α : Type} (f : Nat → List α) (k : Nat) : (List.range (k + 1)).flatMap f = (List.range k).flatMap f ++ f k := by rw [List.range_succ, List.flatMap_append]; simp
theorem flat_bound {α : Type} (f : Nat → List α) {N : Nat} (h : ∀ k, (f k).length ≤ N) : ∀ k, ((List.range k).flatMap f).length ≤ k * N
  | 0 => by simp
  | k + 1 => by rw [range_flat, List.length_append, Nat.add_mul]; have := flat_bound f h k; have := h k; omega

theorem holdersS_length (x : Nam) (ls : List (Nam × LkS)) : (holdersS x ls).length = ((agt x ls).getD ([], [])).1.length := by unfold holdersS; rw [List.length_mergeSort, List.length_map]
theorem queueS_length (x : Nam) (ls : List (Nam × LkS)) : (queueS x ls).length = ((agt x ls).getD ([], [])).2.length := by unfold queueS; rw [List.length_map]
theorem heldS_length (who : Int) (ls : List (Nam × LkS)) : (heldS who ls).length ≤ ls.length := by unfold heldS heldL; rw [List.length_mergeSort]; exact List.length_filterMap_le _ _
theorem toldK_length (ls : List (Nam × LkS)) (k : Nat) : (toldK ls k).length ≤ tot ls + 2 := by
  have := tot_agt (x := kN k) (ls := ls)
  have h1 := holdersS_length (kN k) ls
  have h2 := queueS_length (kN k) ls
  simp only [toldK, List.length_cons, List.length_append]
  omega
theorem toldN_length : ∀ l : List Nee, (l.flatMap toldN).length ≤ 2 * l.length
  | [] => by simp
  | n :: l => by
    have := toldN_length l
    rw [List.flatMap_cons, List.length_append, List.length_cons]
    have : (toldN n).length ≤ 2 := by unfold toldN; split <;> simp
    omega

/-- A queue, told with its numbers. -/
theorem queueN_any {w0 w : World} {F : HP} {B : Nat} {ls : List (Nam × LkS)} {ws : List (Int × Nee)} {x : Nam} (h : St w0 (TabP B ls ws * F) w) (hT : tot ls < 1073741824) :
    Calls Try.prog 13 #[.pointer (some ⟨B, 0, none⟩), namV x] w fun e w' => ∃ v, St w0 (RowO 3 1 v (queueS x ls).length (intR (queueS x ls)) * (TabP B ls ws * F)) w' ∧ e = .returned v := by
  have := tot_agt (x := x) (ls := ls)
  refine (queue_any h rfl (by omega)).mono ?_
  rintro e w' ⟨v, h1, rfl⟩
  refine ⟨v, ?_, rfl⟩
  rw [queueS_length]
  exact h1

section
attribute [local go_sem] F19.t4_eq F19.t5_eq F19.t15_eq F19.t16_eq F19.t19_eq F19.t11_eq F19.t12_eq F19.t20_eq
theorem told_tail {w0 w : World} {F : HP} {B : Nat} {ls : List (Nam × LkS)} {ws : List (Int × Nee)} {v0 : Value} {e : FA} (hT : tot ls < 1073741824) (hL : ls.length < 1073741824)
    (h : St w0 (RowO 3 1 v0 (toldA ls 6).length (intR (toldA ls 6)) * (TabP B ls ws * F)) w) (hd : e.ds = []) (e0 : e.ρ 0 = .pointer (some ⟨B, 0, none⟩)) (e3 : e.ρ 3 = v0) :
    cwE Try.prog F19.t9 (fnP Try.prog #[.tmp 2] fun e w' => ∃ v, St w0 (RowO 3 1 v (toldS ls).length (intR (toldS ls)) * (TabP B ls ws * F)) w' ∧ e = .returned v) e w := by
  have hb1 : (toldA ls 6).length ≤ 6 * (tot ls + 2) := flat_bound (toldK ls) (toldK_length ls) 6
  have hbW : ∀ i, (toldW ls i).length ≤ 2 * ls.length + 1 := fun i => by
    have := toldN_length (heldS (1 + i) ls)
    have := heldS_length (1 + i) ls
    simp only [toldW, List.length_append, List.length_cons, List.length_nil]
    omega
  have hb2 : ∀ k, (toldB ls k).length ≤ k * (2 * ls.length + 1) := flat_bound (toldW ls) hbW
  rw [F19.t9_eq]
  simp -dsimp -implicitDefEqProofs (disch := omega) only [go_sem, reqD_of, dec_t, dec_f, wrap_i64, wrap_u32, wrap_u64, wrap_u8, hd, e0, e3]
  refine loop_intro (fun e w' => e.ds = [] ∧ e.ρ 0 = .pointer (some ⟨B, 0, none⟩) ∧ ∃ (k : Nat) (v : Value), k ≤ 8 ∧ e.ρ 5 = .int .i64 (1 + k) ∧ e.ρ 3 = v ∧
      St w0 (RowO 3 1 v (toldA ls 6 ++ toldB ls k).length (intR (toldA ls 6 ++ toldB ls k)) * (TabP B ls ws * F)) w')
    (fun e _ => match e.ρ 5 with | .int _ n => (9 - n).toNat | _ => 0) ?_ ?_
  · refine ⟨by simp -dsimp -implicitDefEqProofs only [go_sem, hd], by simp -dsimp -implicitDefEqProofs only [go_sem, e0], 0, v0, by omega, by simp -dsimp -implicitDefEqProofs only [go_sem], by simp -dsimp -implicitDefEqProofs only [go_sem, e3], ?_⟩
    simpa [toldB] using h
  rintro eo w1 ⟨hdo, e0o, k, v, hk, e5o, e3o, h1⟩
  by_cases hlt : 1 + (k : Int) ≤ 8
  case neg =>
    have : k = 8 := by omega
    subst this
    simp -dsimp -implicitDefEqProofs (disch := omega) only [go_sem, reqD_of, dec_t, dec_f, wrap_i64, wrap_u32, wrap_u64, wrap_u8, hdo, e0o, e3o, e5o, hlt]
    exact ⟨v, h1, rfl⟩
  have hbk := hb2 k
  have hkN : k * (2 * ls.length + 1) ≤ 8 * (2 * ls.length + 1) := Nat.mul_le_mul_right _ hk
  simp -dsimp -implicitDefEqProofs (disch := omega) only [go_sem, reqD_of, dec_t, dec_f, wrap_i64, wrap_u32, wrap_u64, wrap_u8, hdo, e0o, e3o, e5o, hlt]
  refine (held_any h1.sw2 (fun p hp => by have := tot_mem hp; omega) (by omega)).mono ?_
  rintro e' w2 ⟨vL, h2, rfl⟩
  obtain ⟨_, aL, cL, hv, _, _⟩ := St.rowsAt (k := 4) needC_length (by decide) (h2.gives (B := Reads 4 vL (heldS (1 + (k : Int)) ls).length ((heldS (1 + (k : Int)) ls).flatMap needC)))
  subst hv
  have hHl := heldS_length (1 + (k : Int)) ls
  generalize hH : heldS (1 + (k : Int)) ls = H at h2 hHl
  generalize hout : toldA ls 6 ++ toldB ls k = out at h1 h2
  have houtl : out.length ≤ 6 * (tot ls + 2) + 8 * (2 * ls.length + 1) := by rw [← hout, List.length_append]; omega
  simp -dsimp -implicitDefEqProofs (disch := omega) only [go_sem, reqD_of, dec_t, dec_f, wrap_i64, wrap_u32, wrap_u64, wrap_u8, hdo, e0o, e3o, e5o]
  refine loop_intro (fun e w' => e.ds = [] ∧ e.ρ 0 = .pointer (some ⟨B, 0, none⟩) ∧ e.ρ 5 = .int .i64 (1 + k) ∧ e.ρ 6 = .slice aL H.length cL ∧ ∃ (i : Nat) (v : Value), i ≤ H.length ∧ e.ρ 7 = .int .i64 i ∧ e.ρ 3 = v ∧
      St w0 (RowO 3 1 v (out ++ (H.take i).flatMap toldN).length (intR (out ++ (H.take i).flatMap toldN)) * (TabP B ls ws * (RowO 38 4 (.slice aL H.length cL) H.length (H.flatMap needC) * F))) w')
    (fun e _ => match e.ρ 7 with | .int _ n => (H.length - n).toNat | _ => 0) ?_ ?_
  · refine ⟨by simp -dsimp -implicitDefEqProofs only [go_sem, hdo], by simp -dsimp -implicitDefEqProofs only [go_sem, e0o], by simp -dsimp -implicitDefEqProofs only [go_sem, e5o], by simp -dsimp -implicitDefEqProofs only [go_sem], 0, v, by omega, by simp -dsimp -implicitDefEqProofs only [go_sem], by simp -dsimp -implicitDefEqProofs only [go_sem, e3o], ?_⟩
    rw [List.take_zero, List.flatMap_nil, List.append_nil]
    exact h2.sub
  rintro e w3 ⟨hd, e0, e5, e6, i, v, hi, e7, e3, h3⟩
  have htl := toldN_length (H.take i)
  have hti : (H.take i).length ≤ H.length := by rw [List.length_take]; exact Nat.min_le_right _ _
  by_cases hlt2 : (i : Int) < H.length
  case neg =>
    have : i = H.length := by omega
    subst this
    rw [List.take_length] at h3 htl
    have hlen : (out ++ H.flatMap toldN).length ≤ 100000000000 := by rw [List.length_append]; omega
    simp -dsimp -implicitDefEqProofs (disch := omega) only [go_sem, reqD_of, dec_t, dec_f, wrap_i64, wrap_u32, wrap_u64, wrap_u8, hd, e0, e3, e5, e6, e7, hlt2]
    refine h3.lit fact_rowTy_34 (cells := intR [-4]) rfl (by decide) (by decide) fun v3 w4 h4 => ?_
    simp -dsimp -implicitDefEqProofs (disch := omega) only [go_sem, reqD_of, dec_t, dec_f, wrap_i64, wrap_u32, wrap_u64, wrap_u8, e3]
    refine h4.appR (v := v) (x := v3) fact_rowTy_34 Try.underlying34 (intR_cells [-4]) (by simp [intR]) (by simp only [maxLen]; omega) (by omega) fun v4 w5 h5 => ?_
    simp -dsimp -implicitDefEqProofs (disch := omega) only [go_sem, reqD_of, dec_t, dec_f, wrap_i64, wrap_u32, wrap_u64, wrap_u8, hd, e0, e3, e5, e6, e7, e5o]
    refine ⟨⟨k + 1, v4, by omega, by omega, rfl, ?_⟩, by omega⟩
    have e1 : toldA ls 6 ++ toldB ls (k + 1) = out ++ H.flatMap toldN ++ [-4] := by
      rw [toldB_succ, ← List.append_assoc, hout, toldW, hH, List.append_assoc]
    have e2 : (out ++ H.flatMap toldN ++ [-4]).length = (out ++ H.flatMap toldN).length + 1 := List.length_append
    rw [e1, intR_app (out ++ H.flatMap toldN), e2]
    exact h5.sub
  have hil : i < H.length := by omega
  obtain ⟨_, _, _, hv, _, hcl⟩ := St.rowsAt (k := 4) needC_length (by decide) (h3.gives (B := Reads 4 (.slice aL H.length cL) H.length (H.flatMap needC)))
  simp only [Value.slice.injEq, true_and] at hv
  obtain ⟨rfl, rfl⟩ := hv
  obtain ⟨g, o, rfl, _, hcell⟩ := hcl i hil
  have c2 := hcell 2 (by decide)
  have c3 := hcell 3 (by decide)
  have hts : (H.take (i + 1)).flatMap toldN = (H.take i).flatMap toldN ++ toldN H[i] := by rw [List.take_succ_eq_append_getElem hil, List.flatMap_append]; simp
  generalize hn : H[i] = n at c2 c3 hts
  simp only [needC, List.getElem?_cons_succ, List.getElem?_cons_zero] at c2 c3
  simp -dsimp -implicitDefEqProofs (disch := omega) only [go_sem, reqD_of, dec_t, dec_f, wrap_i64, wrap_u32, wrap_u64, wrap_u8, hd, e0, e3, e5, e6, e7, hlt2, c2]
  refine h3.lit fact_rowTy_34 (cells := intR [IntKind.i64.wrap n.1.2.2]) rfl (by decide) (by decide) fun v3 w4 h4 => ?_
  simp -dsimp -implicitDefEqProofs (disch := omega) only [go_sem, reqD_of, dec_t, dec_f, wrap_i64, wrap_u32, wrap_u64, wrap_u8, e3]
  refine h4.appR (v := v) (x := v3) fact_rowTy_34 Try.underlying34 (intR_cells [IntKind.i64.wrap n.1.2.2]) (by simp [intR]) (by simp only [maxLen, List.length_append]; omega) (by simp only [List.length_append]; omega) fun v4 w5 h5 => ?_
  obtain ⟨_, _, _, hv5, _, hcl5⟩ := St.rowsAt (k := 4) needC_length (by decide) (h5.gives (B := Reads 4 (.slice (some ⟨g, o, none⟩) H.length cL) H.length (H.flatMap needC)))
  simp only [Value.slice.injEq, true_and] at hv5
  obtain ⟨rfl, rfl⟩ := hv5
  obtain ⟨g', o', hgo, _, hcell5⟩ := hcl5 i hil
  simp only [Option.some.injEq, Addr.mk.injEq, and_true] at hgo
  obtain ⟨rfl, rfl⟩ := hgo
  have c35 := hcell5 3 (by decide)
  rw [hn] at c35
  simp only [needC, List.getElem?_cons_succ, List.getElem?_cons_zero] at c35
  have e2 : ∀ x : Int, (out ++ (H.take i).flatMap toldN ++ [x]).length = (out ++ (H.take i).flatMap toldN).length + 1 := fun x => List.length_append
  cases hal : n.2
  · rw [hal] at c35
    simp -dsimp -implicitDefEqProofs (disch := omega) only [go_sem, reqD_of, dec_t, dec_f, wrap_i64, wrap_u32, wrap_u64, wrap_u8, hd, e0, e3, e5, e6, e7, hlt2, c35]
    refine ⟨⟨i + 1, v4, by omega, by omega, rfl, ?_⟩, by omega⟩
    have e1 : out ++ (H.take (i + 1)).flatMap toldN = out ++ (H.take i).flatMap toldN ++ [IntKind.i64.wrap n.1.2.2] := by rw [hts]; simp [toldN, hal]
    rw [e1, intR_app (out ++ (H.take i).flatMap toldN), e2]
    exact h5.sub
  · rw [hal] at c35
    simp -dsimp -implicitDefEqProofs (disch := omega) only [go_sem, reqD_of, dec_t, dec_f, wrap_i64, wrap_u32, wrap_u64, wrap_u8, hd, e0, e3, e5, e6, e7, hlt2, c35]
    refine h5.lit fact_rowTy_34 (cells := intR [-3]) rfl (by decide) (by decide) fun v5 w6 h6 => ?_
    simp -dsimp -implicitDefEqProofs (disch := omega) only [go_sem, reqD_of, dec_t, dec_f, wrap_i64, wrap_u32, wrap_u64, wrap_u8, e3]
    refine h6.appR (v := v4) (x := v5) fact_rowTy_34 Try.underlying34 (intR_cells [-3]) (by simp [intR]) (by simp only [maxLen, List.length_append]; omega) (by simp only [List.length_append]; omega) fun v6 w7 h7 => ?_
    simp -dsimp -implicitDefEqProofs (disch := omega) only [go_sem, reqD_of, dec_t, dec_f, wrap_i64, wrap_u32, wrap_u64, wrap_u8, hd, e0, e3, e5, e6, e7]
    refine ⟨⟨i + 1, v6, by omega, by omega, rfl, ?_⟩, by omega⟩
    have e1 : out ++ (H.take (i + 1)).flatMap toldN = out ++ (H.take i).flatMap toldN ++ [IntKind.i64.wrap n.1.2.2] ++ [-3] := by rw [hts]; simp [toldN, hal]
    rw [e1, intR_app (out ++ (H.take i).flatMap toldN ++ _), intR_app (out ++ (H.take i).flatMap toldN), List.length_append, e2]
    exact h7.sub

end
section
attribute [local go_sem] F19.t4_eq F19.t5_eq F19.t15_eq F19.t16_eq F19.t19_eq F19.t11_eq F19.t12_eq F19.t20_eq
theorem told_any {w0 w : World} {F : HP} {B : Nat} {ls : List (Nam × LkS)} {ws : List (Int × Nee)} (h : St w0 (TabP B ls ws * F) w) (hT : tot ls < 1073741824) (hL : ls.length < 1073741824) :
    Calls Try.prog 19 #[.pointer (some ⟨B, 0, none⟩)] w fun e w' => ∃ v, St w0 (RowO 3 1 v (toldS ls).length (intR (toldS ls)) * (TabP B ls ws * F)) w' ∧ e = .returned v := by
  have hb1 : ∀ k, (toldA ls k).length ≤ k * (tot ls + 2) := flat_bound (toldK ls) (toldK_length ls)
  refine F19.calls (by simp) ?_
  unfold F19.code
  simp -dsimp -implicitDefEqProofs (disch := omega) only [go_sem, reqD_of, dec_t, dec_f, wrap_i64, wrap_u32, wrap_u64, wrap_u8]
  refine loop_intro (fun e w' => e.ds = [] ∧ e.ρ 0 = .pointer (some ⟨B, 0, none⟩) ∧ ∃ (k : Nat) (v : Value), k ≤ 6 ∧ e.ρ 4 = .int .i64 k ∧ e.ρ 3 = v ∧
      St w0 (RowO 3 1 v (toldA ls k).length (intR (toldA ls k)) * (TabP B ls ws * F)) w')
    (fun e _ => match e.ρ 4 with | .int _ n => (6 - n).toNat | _ => 0) ?_ ?_
  · exact ⟨rfl, by simp -dsimp -implicitDefEqProofs only [go_sem], 0, _, by omega, by simp -dsimp -implicitDefEqProofs only [go_sem], rfl, h.nilR 3 1⟩
  rintro e w1 ⟨hd, e0, k, v, hk, e4, e3, h1⟩
  by_cases hlt : (k : Int) < 6
  case neg =>
    have : k = 6 := by omega
    subst this
    simp -dsimp -implicitDefEqProofs (disch := omega) only [go_sem, reqD_of, dec_t, dec_f, wrap_i64, wrap_u32, wrap_u64, wrap_u8, hd, e0, e3, e4, hlt]
    exact told_tail hT hL h1 hd e0 e3
  have hbk := hb1 k
  have hkN : k * (tot ls + 2) ≤ 6 * (tot ls + 2) := Nat.mul_le_mul_right _ hk
  have hq := queueS_length (kN k) ls
  have hh := holdersS_length (kN k) ls
  have hta := tot_agt (x := kN k) (ls := ls)
  have hsucc := toldA_succ ls k
  generalize toldA ls k = out at h1 hbk hsucc
  simp -dsimp -implicitDefEqProofs (disch := omega) only [go_sem, reqD_of, dec_t, dec_f, wrap_i64, wrap_u32, wrap_u64, wrap_u8, hd, e0, e3, e4, hlt]
  refine h1.lit fact_rowTy_34 (cells := intR [-1]) rfl (by decide) (by decide) fun v1 w2 h2 => ?_
  simp -dsimp -implicitDefEqProofs (disch := omega) only [go_sem, reqD_of, dec_t, dec_f, wrap_i64, wrap_u32, wrap_u64, wrap_u8, e3]
  refine h2.appR (v := v) (x := v1) fact_rowTy_34 Try.underlying34 (intR_cells [-1]) (by simp [intR]) (by simp only [maxLen]; omega) (by omega) fun v2 w3 h3 => ?_
  simp -dsimp -implicitDefEqProofs (disch := omega) only [go_sem, reqD_of, dec_t, dec_f, wrap_i64, wrap_u32, wrap_u64, wrap_u8, hd, e0, e3, e4]
  refine (oneN_any h3 (by omega) (by omega)).mono ?_
  rintro e' w4 ⟨h4, rfl⟩
  simp -dsimp -implicitDefEqProofs (disch := omega) only [go_sem, reqD_of, dec_t, dec_f, wrap_i64, wrap_u32, wrap_u64, wrap_u8, hd, e0, e3, e4]
  refine (holders_any (x := kN k) (h4.take (.obj B)) (by omega)).mono ?_
  rintro e' w5 ⟨v3, h5, rfl⟩
  simp -dsimp -implicitDefEqProofs (disch := omega) only [go_sem, reqD_of, dec_t, dec_f, wrap_i64, wrap_u32, wrap_u64, wrap_u8, hd, e0, e3, e4]
  refine h5.appR (v := v2) (x := v3) fact_rowTy_34 Try.underlying34 (intR_cells _) intR_nil0 (by simp only [maxLen]; omega) (by omega) fun v4 w6 h6 => ?_
  simp -dsimp -implicitDefEqProofs (disch := omega) only [go_sem, reqD_of, dec_t, dec_f, wrap_i64, wrap_u32, wrap_u64, wrap_u8, hd, e0, e3, e4]
  refine h6.lit fact_rowTy_34 (cells := intR [-2]) rfl (by decide) (by decide) fun v5 w7 h7 => ?_
  simp -dsimp -implicitDefEqProofs (disch := omega) only [go_sem, reqD_of, dec_t, dec_f, wrap_i64, wrap_u32, wrap_u64, wrap_u8, e3]
  refine h7.appR (v := v4) (x := v5) fact_rowTy_34 Try.underlying34 (intR_cells [-2]) (by simp [intR]) (by simp only [maxLen]; omega) (by omega) fun v6 w8 h8 => ?_
  simp -dsimp -implicitDefEqProofs (disch := omega) only [go_sem, reqD_of, dec_t, dec_f, wrap_i64, wrap_u32, wrap_u64, wrap_u8, hd, e0, e3, e4]
  refine (oneN_any h8 (by omega) (by omega)).mono ?_
  rintro e' w9 ⟨h9, rfl⟩
  simp -dsimp -implicitDefEqProofs (disch := omega) only [go_sem, reqD_of, dec_t, dec_f, wrap_i64, wrap_u32, wrap_u64, wrap_u8, hd, e0, e3, e4]
  refine (queueN_any (x := kN k) (h9.take (.obj B)) hT).mono ?_
  rintro e' w10 ⟨v7, h10, rfl⟩
  simp -dsimp -implicitDefEqProofs (disch := omega) only [go_sem, reqD_of, dec_t, dec_f, wrap_i64, wrap_u32, wrap_u64, wrap_u8, hd, e0, e3, e4]
  refine h10.appR (v := v6) (x := v7) fact_rowTy_34 Try.underlying34 (intR_cells _) intR_nil0 (by simp only [maxLen]; omega) (by omega) fun v8 w11 h11 => ?_
  simp -dsimp -implicitDefEqProofs (disch := omega) only [go_sem, reqD_of, dec_t, dec_f, wrap_i64, wrap_u32, wrap_u64, wrap_u8, hd, e0, e3, e4]
  refine ⟨⟨k + 1, v8, by omega, by omega, rfl, ?_⟩, by omega⟩
  have e1 : intR (toldA ls (k + 1)) = intR out ++ intR [-1] ++ intR (holdersS (kN k) ls) ++ intR [-2] ++ intR (queueS (kN k) ls) := by
    rw [hsucc]; simp [toldK, intR]
  have e2 : (toldA ls (k + 1)).length = out.length + 1 + (holdersS (kN k) ls).length + 1 + (queueS (kN k) ls).length := by
    rw [hsucc]; simp only [toldK, List.length_append, List.length_cons]; omega
  rw [e1, e2]
  exact h11.sub

end
end Go.Proofs.Ytacmnfpgimgigaa

namespace Go.Proofs.Ytacmnfpgimgigaa
open Go
set_option linter.unusedSimpArgs false
set_option linter.unusedVariables false
set_option maxRecDepth 100000

theorem heldOf_iff {who : Int} {p : Nam × LkS} {n : Nee} (hn : (p.2.1.map (·.1)).Nodup) : heldOf who p = some n ↔ n.1 = p.1 ∧ (who, n.2) ∈ p.2.1 := by
  unfold heldOf
  by_cases h : 0 ≤ posC who p.2.1 0
  · rw [if_pos h]
    rcases posC_spec who p.2.1 0 with hp | ⟨i, hi, hp⟩
    · omega
    · rw [Nat.zero_add] at hp
      obtain ⟨a, ha⟩ := posC_at (k := 0) (i := i) (by simpa using hp)
      rw [hp, Int.toNat_natCast, ha, Option.getD_some]
      have hm : (who, a) ∈ p.2.1 := List.mem_of_getElem? ha
      simp only [Option.some.injEq]
      constructor
      · rintro rfl; exact ⟨rfl, hm⟩
      · rintro ⟨h1, h2⟩
        obtain ⟨n1, n2⟩ := n
        simp only at h1 h2
        subst h1
        obtain ⟨j, hj, hje⟩ := List.getElem_of_mem h2
        obtain ⟨j', hj', hje'⟩ := List.getElem_of_mem hm
        have : j = j' := (List.getElem_inj (h₀ := by simpa using hj) (h₁ := by simpa using hj') hn).1 (by simp [hje, hje'])
        subst this
        rw [hje] at hje'
        simp only [Prod.mk.injEq, true_and] at hje'
        rw [hje']
  · rw [if_neg h]
    simp only [reduceCtorEq, false_iff, not_and]
    rintro - hm
    exact h (posC_mem.2 (List.mem_map.2 ⟨_, hm, rfl⟩))
theorem mem_heldS {ls : List (Nam × LkS)} {ws : List (Int × Nee)} (v : Inv ls ws) {who : Int} {n : Nee} : n ∈ heldS who ls ↔ ∃ s, agt n.1 ls = some s ∧ (who, n.2) ∈ s.1 := by
  unfold heldS heldL
  rw [List.mem_mergeSort, List.mem_filterMap]
  constructor
  · rintro ⟨p, hp, h⟩
    have hk := agt_of_mem v.kn (show (p.1, p.2) ∈ ls from hp)
    have := (heldOf_iff (v.ok _ _ hk).hn).1 h
    exact ⟨p.2, by rw [this.1]; exact hk, this.2⟩
  · rintro ⟨s, hs, hm⟩
    exact ⟨(n.1, s), mem_of_agt hs, (heldOf_iff (p := (n.1, s)) (v.ok _ _ hs).hn).2 ⟨rfl, hm⟩⟩

def hsK (ls : List (Nam × LkS)) (x : Nam) : List Claim := ((agt x ls).getD ([], [])).1
theorem hsK_ok {ls : List (Nam × LkS)} {ws : List (Int × Nee)} (v : Inv ls ws) (x : Nam) : Alone1 (hsK ls x) ∧ ((hsK ls x).map (·.1)).Nodup := by
  unfold hsK
  cases h : agt x ls with
  | none => exact ⟨fun c hc => (by cases hc), .nil⟩
  | some s => exact ⟨(v.ok _ _ h).al, (v.ok _ _ h).hn⟩
theorem mem_held {ls : List (Nam × LkS)} {ws : List (Int × Nee)} (v : Inv ls ws) {who : Int} {x : Nam} {a : Bool} : (x, a) ∈ heldS who ls ↔ (who, a) ∈ hsK ls x := by
  rw [mem_heldS v]
  unfold hsK
  cases h : agt x ls with
  | none => simp
  | some s => simp

theorem holdersS_mem (ls : List (Nam × LkS)) (x : Nam) (a : Int) : a ∈ holdersS x ls ↔ a ∈ (hsK ls x).map (·.1) := by unfold holdersS hsK; rw [List.mem_mergeSort]
theorem holdersS_sorted {ls : List (Nam × LkS)} {ws : List (Int × Nee)} (v : Inv ls ws) (x : Nam) : (holdersS x ls).Pairwise (· < ·) := by
  have h1 : (holdersS x ls).Pairwise fun a b => decide (a ≤ b) = true := List.pairwise_mergeSort (fun a b c => by simp; omega) (fun a b => by simp; omega) _
  have h2 : (holdersS x ls).Nodup := by unfold holdersS; exact (List.mergeSort_perm _ _).nodup_iff.2 (hsK_ok v x).2
  have h3 := h1.and h2
  exact h3.imp fun {a b} h => by have := h.1; simp at this; have := h.2; omega

theorem below_none {l : List Int} {x : Int} (h : ∀ a ∈ l, x ≤ a) : l.filter (fun a => decide (a < x)) = [] := by
  rw [List.filter_eq_nil_iff]
  intro a ha
  have := h a ha
  simp; omega
/-- Of a row that rises: where a number is. -/
theorem rise_at : ∀ {l : List Int} {x : Int}, l.Pairwise (· < ·) → x ∈ l → l[(l.filter (fun a => decide (a < x))).length]? = some x ∧ (l.filter (fun a => decide (a < x + 1))).length = (l.filter (fun a => decide (a < x))).length + 1
  | a :: l, x, hp, hx => by
    have hp' := List.pairwise_cons.1 hp
    by_cases hax : a = x
    · subst hax
      have e1 : l.filter (fun b => decide (b < a)) = [] := below_none fun b hb => by have := hp'.1 b hb; omega
      have e2 : l.filter (fun b => decide (b < a + 1)) = [] := below_none fun b hb => by have := hp'.1 b hb; omega
      rw [List.filter_cons, List.filter_cons, e1, e2]
      simp [show a < a + 1 by omega]
    · have hxl : x ∈ l := by
        rcases List.mem_cons.1 hx with h | h
        · exact absurd h.symm hax
        · exact h
      have hlt := hp'.1 x hxl
      obtain ⟨i1, i2⟩ := rise_at hp'.2 hxl
      have d1 : decide (a < x) = true := by simpa using hlt
      have d2 : decide (a < x + 1) = true := by simp; omega
      rw [List.filter_cons, List.filter_cons, if_pos d1, if_pos d2]
      simp only [List.length_cons, List.getElem?_cons_succ]
      exact ⟨i1, by omega⟩
theorem rise_not {l : List Int} {x : Int} (h : x ∉ l) : l.filter (fun a => decide (a < x + 1)) = l.filter (fun a => decide (a < x)) := by
  apply List.filter_congr
  intro a ha
  have : a ≠ x := fun e => h (e ▸ ha)
  rw [decide_eq_decide]
  omega
theorem rise_all {l : List Int} {x : Int} (h : ∀ a ∈ l, a < x) : l.filter (fun a => decide (a < x)) = l := by
  rw [List.filter_eq_self]
  intro a ha
  simpa using h a ha

structure C21 (ls : List (Nam × LkS)) (k : Nat) (w : Int) (any : Bool) (al n : Nat) : Prop where
  n_eq : n = ((holdersS (kN k) ls).filter (fun a => decide (a < w))).length
  al_iff : al = 0 ↔ ∀ c ∈ hsK ls (kN k), c.1 < w → c.2 = false
  al_le : (al : Int) ≤ w
  any_iff : any = true ↔ (∃ j, j < k ∧ hsK ls (kN j) ≠ []) ∨ ∃ c ∈ hsK ls (kN k), c.1 < w

section step
variable {ls : List (Nam × LkS)} {ws : List (Int × Nee)} {k : Nat} {w : Int} {any : Bool} {al n : Nat}
theorem C21.at (v : Inv ls ws) (c : C21 ls k w any al n) {a : Bool} (h : (w, a) ∈ hsK ls (kN k)) : (holdersS (kN k) ls)[n]? = some w := by
  have hm : w ∈ holdersS (kN k) ls := (holdersS_mem _ _ _).2 (List.mem_map.2 ⟨_, h, rfl⟩)
  rw [c.n_eq]
  exact (rise_at (holdersS_sorted v _) hm).1
theorem C21.held (v : Inv ls ws) (c : C21 ls k w any al n) {a : Bool} (h : (w, a) ∈ hsK ls (kN k)) : C21 ls k (w + 1) true (if a = true then al + 1 else al) (n + 1) := by
  have hm : w ∈ holdersS (kN k) ls := (holdersS_mem _ _ _).2 (List.mem_map.2 ⟨_, h, rfl⟩)
  refine ⟨?_, ?_, ?_, ?_⟩
  · rw [c.n_eq]
    exact (rise_at (holdersS_sorted v _) hm).2.symm
  · cases a with
    | true =>
      simp only [if_true, Nat.add_eq_zero_iff, Nat.one_ne_zero, and_false, false_iff]
      intro h2
      have := h2 _ h (by simp only; omega)
      cases this
    | false =>
      simp only [Bool.false_eq_true, if_false]
      rw [c.al_iff]
      constructor
      · intro h2 d hd hlt
        by_cases hdw : d.1 = w
        · have hn := (hsK_ok v (kN k)).2
          obtain ⟨i, hi, hie⟩ := List.getElem_of_mem hd
          obtain ⟨j, hj, hje⟩ := List.getElem_of_mem h
          have : i = j := (List.getElem_inj (h₀ := by simpa using hi) (h₁ := by simpa using hj) hn).1 (by simp [hie, hje, hdw])
          subst this
          rw [hie] at hje
          rw [hje]
        · exact h2 d hd (by omega)
      · intro h2 d hd hlt
        exact h2 d hd (by omega)
  · have := c.al_le
    split <;> omega
  · simp only [true_iff]
    exact .inr ⟨_, h, by simp only; omega⟩
theorem C21.not (c : C21 ls k w any al n) (h : ∀ a, (w, a) ∉ hsK ls (kN k)) : C21 ls k (w + 1) any al n := by
  have hm : w ∉ holdersS (kN k) ls := fun hm => by
    obtain ⟨d, hd, rfl⟩ := List.mem_map.1 ((holdersS_mem _ _ _).1 hm)
    exact h d.2 hd
  have hne : ∀ d ∈ hsK ls (kN k), d.1 < w + 1 ↔ d.1 < w := fun d hd => by
    have : d.1 ≠ w := fun e => h d.2 (by rw [← e]; exact hd)
    omega
  refine ⟨?_, ?_, ?_, ?_⟩
  · rw [rise_not hm]; exact c.n_eq
  · rw [c.al_iff]
    exact ⟨fun h2 d hd hlt => h2 d hd ((hne d hd).1 hlt), fun h2 d hd hlt => h2 d hd ((hne d hd).2 hlt)⟩
  · have := c.al_le; omega
  · rw [c.any_iff]
    constructor
    · rintro (h1 | ⟨d, hd, hlt⟩)
      · exact .inl h1
      · exact .inr ⟨d, hd, (hne d hd).2 hlt⟩
    · rintro (h1 | ⟨d, hd, hlt⟩)
      · exact .inl h1
      · exact .inr ⟨d, hd, (hne d hd).1 hlt⟩
end step

/-- The slots that count. -/
def S21 (e : FA) (B : Nat) (any : Bool) (k : Nat) (vl : Value) (al n : Nat) : Prop :=
  e.ds = [] ∧ e.ρ 0 = .pointer (some ⟨B, 0, none⟩) ∧ e.ρ 3 = .bool any ∧ e.ρ 4 = .int .i64 k ∧ e.ρ 5 = vl ∧ e.ρ 6 = .int .i64 al ∧ e.ρ 7 = .int .i64 n

section
attribute [local go_sem] F21.t21_eq F21.t17_eq F21.t15_eq F21.t10_eq F21.t11_eq F21.t31_eq F21.t27_eq F21.t28_eq F21.t24_eq F21.t22_eq F21.t4_eq F21.t5_eq F21.t33_eq
theorem sound_11 {w0 w : World} {F : HP} {B : Nat} {ls : List (Nam × LkS)} {ws : List (Int × Nee)} {k : Nat} {vl : Value} {any : Bool} {al n : Nat} {who : Int} {Q : Post} {e : FA} {θ : Tag (F21.t11, Q, e, w)} (v : Inv ls ws) (hT : tot ls < 1073741824) (hL : ls.length < 1073741824) (hk : k < 6) (h1w : 1 ≤ who) (hw8 : who ≤ 8)
    (hs : S21 e B any k vl al n) (e8 : e.ρ 8 = .int .i64 who) (c : C21 ls k who any al n) (h : St w0 (RowO 3 1 vl (holdersS (kN k) ls).length (intR (holdersS (kN k) ls)) * (TabP B ls ws * F)) w)
    (hQ : ∀ (any' : Bool) (al' n' : Nat) (e' : FA) (w' : World), S21 e' B any' k vl al' n' → e'.ρ 8 = .int .i64 (who + 1) → C21 ls k (who + 1) any' al' n' → St w0 (RowO 3 1 vl (holdersS (kN k) ls).length (intR (holdersS (kN k) ls)) * (TabP B ls ws * F)) w' → Q .normal e' w') :
    cwE Try.prog F21.t11 Q e w θ := by
  obtain ⟨hd, e0, e3, e4, e5, e6, e7⟩ := hs
  have hle := c.al_le
  have hnl : n ≤ (holdersS (kN k) ls).length := by rw [c.n_eq]; exact List.length_filter_le _ _
  have hll := holdersS_length (kN k) ls
  have hta := tot_agt (x := kN k) (ls := ls)
  rw [F21.t11_eq]
  simp -dsimp -implicitDefEqProofs (disch := omega) only [go_sem, reqD_of, dec_t, dec_f, wrap_i64, wrap_u32, wrap_u64, wrap_u8, hd, e0, e3, e4, e5, e6, e7, e8]
  refine (oneN_any h (by omega) (by omega)).mono ?_
  rintro e' w1 ⟨h1, rfl⟩
  simp -dsimp -implicitDefEqProofs (disch := omega) only [go_sem, reqD_of, dec_t, dec_f, wrap_i64, wrap_u32, wrap_u64, wrap_u8, hd, e0, e3, e4, e5, e6, e7, e8]
  refine onV_of (v := needV (kN k, true)) rfl ?_
  simp -dsimp -implicitDefEqProofs (disch := omega) only [go_sem, reqD_of, dec_t, dec_f, wrap_i64, wrap_u32, wrap_u64, wrap_u8, hd, e0, e3, e4, e5, e6, e7, e8]
  refine (holdsLaw_any (n := (kN k, true)) (h1.take (.obj B)) (by omega) (by omega)).mono ?_
  rintro e' w2 ⟨h2, rfl⟩
  simp -dsimp -implicitDefEqProofs (disch := omega) only [go_sem, reqD_of, dec_t, dec_f, wrap_i64, wrap_u32, wrap_u64, wrap_u8, hd, e0, e3, e4, e5, e6, e7, e8]
  refine (oneN_any h2 (by omega) (by omega)).mono ?_
  rintro e' w3 ⟨h3, rfl⟩
  simp -dsimp -implicitDefEqProofs (disch := omega) only [go_sem, reqD_of, dec_t, dec_f, wrap_i64, wrap_u32, wrap_u64, wrap_u8, hd, e0, e3, e4, e5, e6, e7, e8]
  refine onV_of (v := needV (kN k, false)) rfl ?_
  simp -dsimp -implicitDefEqProofs (disch := omega) only [go_sem, reqD_of, dec_t, dec_f, wrap_i64, wrap_u32, wrap_u64, wrap_u8, hd, e0, e3, e4, e5, e6, e7, e8]
  refine (holdsLaw_any (n := (kN k, false)) h3 (by omega) (by omega)).mono ?_
  rintro e' w4 ⟨h4, rfl⟩
  have h5 : St w0 (RowO 3 1 vl (holdersS (kN k) ls).length (intR (holdersS (kN k) ls)) * (TabP B ls ws * F)) w4 := h4.sub
  obtain ⟨_, a, cc, rfl, hnc, hcl⟩ := intAt (h5.gives (B := Reads 1 vl (holdersS (kN k) ls).length (intR (holdersS (kN k) ls))))
  have hnd := (hsK_ok v (kN k)).2
  by_cases ha : (who, true) ∈ hsK ls (kN k)
  · have hb : (who, false) ∉ hsK ls (kN k) := fun hb => by
      obtain ⟨i, hi, hie⟩ := List.getElem_of_mem ha
      obtain ⟨j, hj, hje⟩ := List.getElem_of_mem hb
      have : i = j := (List.getElem_inj (h₀ := by simpa using hi) (h₁ := by simpa using hj) hnd).1 (by simp [hie, hje])
      subst this
      rw [hie] at hje
      cases hje
    have hat := c.at v ha
    obtain ⟨hn, hat⟩ := List.getElem?_eq_some_iff.1 hat
    obtain ⟨b, o, rfl, hx⟩ := hcl n hn
    rw [hat] at hx
    rw [dec_t ((mem_held v).2 ha), dec_f fun h => hb ((mem_held v).1 h)]
    have hn1 : ¬ ((holdersS (kN k) ls).length : Int) ≤ n := by omega
    simp -dsimp -implicitDefEqProofs (disch := omega) only [go_sem, reqD_of, dec_t, dec_f, wrap_i64, wrap_u32, wrap_u64, wrap_u8, hd, e0, e3, e4, e5, e6, e7, e8, hn1, hx]
    refine hQ true (al + 1) (n + 1) _ _ ⟨by simp -dsimp -implicitDefEqProofs only [go_sem, hd], by simp -dsimp -implicitDefEqProofs only [go_sem, e0], by simp -dsimp -implicitDefEqProofs only [go_sem], by simp -dsimp -implicitDefEqProofs only [go_sem, e4], by simp -dsimp -implicitDefEqProofs only [go_sem, e5], by simp -dsimp -implicitDefEqProofs only [go_sem]; simp, by simp -dsimp -implicitDefEqProofs only [go_sem]; simp⟩ (by simp -dsimp -implicitDefEqProofs only [go_sem]) (by simpa using c.held v ha) h5
  · by_cases hb : (who, false) ∈ hsK ls (kN k)
    · have hat := c.at v hb
      obtain ⟨hn, hat⟩ := List.getElem?_eq_some_iff.1 hat
      obtain ⟨b, o, rfl, hx⟩ := hcl n hn
      rw [hat] at hx
      rw [dec_f fun h => ha ((mem_held v).1 h), dec_t ((mem_held v).2 hb)]
      have hn1 : ¬ ((holdersS (kN k) ls).length : Int) ≤ n := by omega
      simp -dsimp -implicitDefEqProofs (disch := omega) only [go_sem, reqD_of, dec_t, dec_f, wrap_i64, wrap_u32, wrap_u64, wrap_u8, hd, e0, e3, e4, e5, e6, e7, e8, hn1, hx]
      refine hQ true al (n + 1) _ _ ⟨by simp -dsimp -implicitDefEqProofs only [go_sem, hd], by simp -dsimp -implicitDefEqProofs only [go_sem, e0], by simp -dsimp -implicitDefEqProofs only [go_sem], by simp -dsimp -implicitDefEqProofs only [go_sem, e4], by simp -dsimp -implicitDefEqProofs only [go_sem, e5], by simp -dsimp -implicitDefEqProofs only [go_sem, e6], by simp -dsimp -implicitDefEqProofs only [go_sem]; simp⟩ (by simp -dsimp -implicitDefEqProofs only [go_sem]) (by simpa using c.held v hb) h5
    · rw [dec_f fun h => ha ((mem_held v).1 h), dec_f fun h => hb ((mem_held v).1 h)]
      simp -dsimp -implicitDefEqProofs (disch := omega) only [go_sem, reqD_of, dec_t, dec_f, wrap_i64, wrap_u32, wrap_u64, wrap_u8, hd, e0, e3, e4, e5, e6, e7, e8]
      refine hQ any al n _ _ ⟨by simp -dsimp -implicitDefEqProofs only [go_sem, hd], by simp -dsimp -implicitDefEqProofs only [go_sem, e0], by simp -dsimp -implicitDefEqProofs only [go_sem, e3], by simp -dsimp -implicitDefEqProofs only [go_sem, e4], by simp -dsimp -implicitDefEqProofs only [go_sem, e5], by simp -dsimp -implicitDefEqProofs only [go_sem, e6], by simp -dsimp -implicitDefEqProofs only [go_sem, e7]⟩ (by simp -dsimp -implicitDefEqProofs only [go_sem]) (c.not fun a => by cases a; exact hb; exact ha) h5

end
end Go.Proofs.Ytacmnfpgimgigaa

namespace Go.Proofs.Ytacmnfpgimgigaa
open Go
set_option linter.unusedSimpArgs false
set_option linter.unusedVariables false
set_option maxRecDepth 100000

/-- Only the law's people, and its locks. -/
def Few (ls : List (Nam × LkS)) : Prop := ∀ x s, agt x ls = some s → (∃ k : Nat, k < 6 ∧ x = kN k) ∧ (∀ c ∈ s.1, 1 ≤ c.1 ∧ c.1 ≤ 8) ∧ ∀ c ∈ s.2, 1 ≤ c.1 ∧ c.1 ≤ 8
theorem Few.holders {ls : List (Nam × LkS)} (f : Few ls) (x : Nam) : ∀ c ∈ hsK ls x, 1 ≤ c.1 ∧ c.1 ≤ 8 := by
  unfold hsK
  cases h : agt x ls with
  | none => intro c hc; cases hc
  | some s => exact (f x s h).2.1

section
attribute [local go_sem] F21.t21_eq F21.t17_eq F21.t15_eq F21.t10_eq F21.t11_eq F21.t31_eq F21.t27_eq F21.t28_eq F21.t24_eq F21.t22_eq F21.t4_eq F21.t5_eq F21.t33_eq
theorem sound_q {w0 w : World} {F : HP} {B : Nat} {ls : List (Nam × LkS)} {ws : List (Int × Nee)} {k : Nat} {vl : Value} {any : Bool} {al n : Nat} {Q : Post} {e : FA} {θ : Tag (F21.t24, Q, e, w)} (v : Inv ls ws) (f : Few ls) (hT : tot ls < 1073741824) (hL : ls.length < 1073741824) (hk : k < 6)
    (hs : S21 e B any k vl al n) (c : C21 ls k 9 any al n) (hal : al < 1000) (h : St w0 (TabP B ls ws * F) w)
    (hQ : ∀ (e' : FA) (w' : World), e'.ds = [] → e'.ρ 0 = .pointer (some ⟨B, 0, none⟩) → e'.ρ 3 = .bool any → e'.ρ 4 = .int .i64 k → St w0 (TabP B ls ws * F) w' → Q .normal e' w') :
    cwE Try.prog F21.t24 Q e w θ := by
  obtain ⟨hd, e0, e3, e4, e5, e6, e7⟩ := hs
  have hql := queueS_length (kN k) ls
  have hta := tot_agt (x := kN k) (ls := ls)
  rw [F21.t24_eq]
  simp -dsimp -implicitDefEqProofs (disch := omega) only [go_sem, reqD_of, dec_t, dec_f, wrap_i64, wrap_u32, wrap_u64, wrap_u8, hd, e0, e3, e4, e5, e6, e7]
  refine (oneN_any h (by omega) (by omega)).mono ?_
  rintro e' w1 ⟨h1, rfl⟩
  simp -dsimp -implicitDefEqProofs (disch := omega) only [go_sem, reqD_of, dec_t, dec_f, wrap_i64, wrap_u32, wrap_u64, wrap_u8, hd, e0, e3, e4, e5, e6, e7]
  refine (queueN_any (x := kN k) h1 hT).mono ?_
  rintro e' w2 ⟨vq, h2, rfl⟩
  obtain ⟨_, a, cq, rfl, hnc, _⟩ := intAt (h2.gives (B := Reads 1 vq (queueS (kN k) ls).length (intR (queueS (kN k) ls))))
  simp -dsimp -implicitDefEqProofs (disch := omega) only [go_sem, reqD_of, dec_t, dec_f, wrap_i64, wrap_u32, wrap_u64, wrap_u8, hd, e0, e3, e4, e5, e6, e7]
  refine loop_intro (fun e w' => e.ds = [] ∧ e.ρ 0 = .pointer (some ⟨B, 0, none⟩) ∧ e.ρ 3 = .bool any ∧ e.ρ 4 = .int .i64 k ∧ e.ρ 6 = .int .i64 al ∧ e.ρ 7 = .int .i64 n ∧ e.ρ 11 = .slice a (queueS (kN k) ls).length cq ∧ ∃ i : Nat, i ≤ (queueS (kN k) ls).length ∧ e.ρ 12 = .int .i64 i ∧
      St w0 (RowO 3 1 (.slice a (queueS (kN k) ls).length cq) (queueS (kN k) ls).length (intR (queueS (kN k) ls)) * (TabP B ls ws * F)) w')
    (fun e _ => match e.ρ 12 with | .int _ n => ((queueS (kN k) ls).length - n).toNat | _ => 0) ?_ ?_
  · exact ⟨by simp -dsimp -implicitDefEqProofs only [go_sem, hd], by simp -dsimp -implicitDefEqProofs only [go_sem, e0], by simp -dsimp -implicitDefEqProofs only [go_sem, e3], by simp -dsimp -implicitDefEqProofs only [go_sem, e4], by simp -dsimp -implicitDefEqProofs only [go_sem, e6], by simp -dsimp -implicitDefEqProofs only [go_sem, e7], by simp -dsimp -implicitDefEqProofs only [go_sem], 0, by omega, by simp -dsimp -implicitDefEqProofs only [go_sem], h2⟩
  rintro e w3 ⟨hd, e0, e3, e4, e6, e7, e11, i, hi, e12, h3⟩
  by_cases hlt : (i : Int) < (queueS (kN k) ls).length
  case neg =>
    have : i = (queueS (kN k) ls).length := by omega
    subst this
    simp -dsimp -implicitDefEqProofs (disch := omega) only [go_sem, reqD_of, dec_t, dec_f, wrap_i64, wrap_u32, wrap_u64, wrap_u8, hd, e0, e3, e4, e6, e7, e11, e12, hlt]
    exact hQ _ _ hd e0 e3 e4 h3.sub
  have hil : i < (queueS (kN k) ls).length := by omega
  obtain ⟨s, hs, hsi⟩ : ∃ s, agt (kN k) ls = some s ∧ ∃ a, s.2[i]? = some ((queueS (kN k) ls)[i], a) := by
    cases hx : agt (kN k) ls with
    | none => simp [queueS, hx] at hil
    | some s =>
      refine ⟨s, rfl, ?_⟩
      have hil' : i < s.2.length := by simpa [queueS, hx] using hil
      refine ⟨(s.2[i]).2, ?_⟩
      rw [List.getElem?_eq_getElem hil']
      simp [queueS, hx]
  obtain ⟨al2, hsi⟩ := hsi
  have hwt := v.qw _ _ _ _ hs (List.mem_of_getElem? hsi)
  obtain ⟨_, _, _, hv, _, hcl⟩ := intAt (h3.gives (B := Reads 1 (.slice a (queueS (kN k) ls).length cq) (queueS (kN k) ls).length (intR (queueS (kN k) ls))))
  simp only [Value.slice.injEq, true_and] at hv
  obtain ⟨rfl, rfl⟩ := hv
  obtain ⟨b, o, rfl, hx⟩ := hcl i hil
  generalize (queueS (kN k) ls)[i] = wq at hx hwt hsi
  simp -dsimp -implicitDefEqProofs (disch := omega) only [go_sem, reqD_of, dec_t, dec_f, wrap_i64, wrap_u32, wrap_u64, wrap_u8, hd, e0, e3, e4, e6, e7, e11, e12, hlt, hx]
  refine (waits_any (who := wq) (h3.take (.obj B))).mono ?_
  rintro e' w4 ⟨h4, rfl⟩
  rw [hwt]
  simp -dsimp -implicitDefEqProofs (disch := omega) only [go_sem, reqD_of, dec_t, dec_f, wrap_i64, wrap_u32, wrap_u64, wrap_u8, hd, e0, e3, e4, e6, e7, e11, e12, Option.isSome_some, Option.getD_some]
  refine h4.new fun N w5 h5 => ?_
  simp -dsimp -implicitDefEqProofs (disch := omega) only [go_sem, reqD_of, dec_t, dec_f, wrap_i64, wrap_u32, wrap_u64, wrap_u8]
  refine h5.stoAll (cs := needC (kN k, al2)) rfl rfl (needC_cells _) fun w6 h6 => ?_
  have h7 := h6.drew
  have hN : rowV w6.drew ⟨N, 0, none⟩ 3 = some (namV (kN k)) := h7.rowAtH N 0 3 (by simp [needC])
  simp -dsimp -implicitDefEqProofs (disch := omega) only [go_sem, reqD_of, dec_t, dec_f, wrap_i64, wrap_u32, wrap_u64, wrap_u8, hd, e0, e3, e4, e6, e7, e11, e12, hN]
  refine (oneN_any h7 (by omega) (by omega)).mono ?_
  rintro e' w7 ⟨h8, rfl⟩
  have hN8 : rowV w7 ⟨N, 0, none⟩ 3 = some (namV (kN k)) := h8.rowAtH N 0 3 (by simp [needC])
  have hNc := h8.cl N
  simp only [needC] at hNc
  simp -dsimp -implicitDefEqProofs (disch := omega) only [go_sem, reqD_of, dec_t, dec_f, wrap_i64, wrap_u32, wrap_u64, wrap_u8, hd, e0, e3, e4, e6, e7, e11, e12, hN8, hNc, namC, kN]
  have hne : hsK ls (kN k) ≠ [] := by unfold hsK; rw [hs]; exact v.ne _ _ hs
  have hn0 : ¬ (n : Int) = 0 := by
    obtain ⟨d, l, hdl⟩ := List.exists_cons_of_ne_nil hne
    have hm : d.1 ∈ holdersS (kN k) ls := (holdersS_mem _ _ _).2 (by rw [hdl]; simp)
    have hr := (f.holders (kN k) d (by rw [hdl]; simp)).2
    have : 0 < n := by
      rw [c.n_eq]
      exact List.length_pos_of_mem (List.mem_filter.2 ⟨hm, by simp; omega⟩)
    omega
  have hfin : St w0 (RowO 3 1 (.slice (some ⟨b, o, none⟩) (queueS (kN k) ls).length cq) (queueS (kN k) ls).length (intR (queueS (kN k) ls)) * (TabP B ls ws * F)) w7 := h8.sub
  by_cases hi0 : (i : Int) = 0
  · have hi0' : i = 0 := by omega
    have hqq : ∃ q, s.2 = (wq, al2) :: q := by
      subst hi0'
      cases hq : s.2 with
      | nil => rw [hq] at hsi; simp at hsi
      | cons d q => rw [hq] at hsi; simp only [List.getElem?_cons_zero, Option.some.injEq] at hsi; exact ⟨q, by rw [hsi]⟩
    obtain ⟨q, hqq⟩ := hqq
    have hlet := v.hd _ _ _ _ hs hqq
    cases hal2 : al2
    · have hal0 : ¬ (al : Int) = 0 := by
        intro h0
        have h0' : al = 0 := by omega
        have hall := c.al_iff.1 h0'
        have hlt2 : letsB s.1 al2 = true := by
          refine (letsB_iff (v.ok _ _ hs).al).2 (.inr ⟨hal2, fun d hdm => ?_⟩)
          have hdk : d ∈ hsK ls (kN k) := by unfold hsK; rw [hs]; exact hdm
          exact hall d hdk (by have := (f.holders (kN k) d hdk).2; omega)
        simp only at hlet
        rw [hlet] at hlt2
        cases hlt2
      subst hal2
      simp -dsimp -implicitDefEqProofs (disch := omega) only [go_sem, reqD_of, dec_t, dec_f, wrap_i64, wrap_u32, wrap_u64, wrap_u8, hd, e0, e3, e4, e6, e7, e11, e12, hi0, hn0, hal0, hNc]
      exact ⟨rfl, ⟨i + 1, by omega, by omega, hfin⟩, by omega⟩
    · subst hal2
      simp -dsimp -implicitDefEqProofs (disch := omega) only [go_sem, reqD_of, dec_t, dec_f, wrap_i64, wrap_u32, wrap_u64, wrap_u8, hd, e0, e3, e4, e6, e7, e11, e12, hi0, hn0, hNc]
      exact ⟨rfl, ⟨i + 1, by omega, by omega, hfin⟩, by omega⟩
  · simp -dsimp -implicitDefEqProofs (disch := omega) only [go_sem, reqD_of, dec_t, dec_f, wrap_i64, wrap_u32, wrap_u64, wrap_u8, hd, e0, e3, e4, e6, e7, e11, e12, hi0, hn0]
    exact ⟨rfl, ⟨i + 1, by omega, by omega, hfin⟩, by omega⟩

theorem C21.done {ls : List (Nam × LkS)} {ws : List (Int × Nee)} {k : Nat} {any : Bool} {al n : Nat} (v : Inv ls ws) (f : Few ls) (c : C21 ls k 9 any al n) : n = (holdersS (kN k) ls).length ∧ (al ≠ 0 → n = 1) ∧ al < 1000 ∧ (any = true ↔ ∃ j, j < k + 1 ∧ hsK ls (kN j) ≠ []) := by
  have hall : ∀ a ∈ holdersS (kN k) ls, a < 9 := fun a ha => by
    obtain ⟨d, hd, rfl⟩ := List.mem_map.1 ((holdersS_mem _ _ _).1 ha)
    have := (f.holders _ d hd).2
    omega
  have hn : n = (holdersS (kN k) ls).length := by rw [c.n_eq, rise_all hall]
  refine ⟨hn, fun h0 => ?_, by have := c.al_le; omega, ?_⟩
  · have hex : ∃ d ∈ hsK ls (kN k), d.2 = true := by
      apply Classical.byContradiction
      intro hno
      refine h0 (c.al_iff.2 fun d hd _ => ?_)
      cases hd2 : d.2 with
      | false => rfl
      | true => exact absurd ⟨d, hd, hd2⟩ hno
    obtain ⟨d, hd, hd2⟩ := hex
    have := (hsK_ok v (kN k)).1 d hd hd2
    rw [hn, holdersS_length]
    show (hsK ls (kN k)).length = 1
    rw [this]; rfl
  · rw [c.any_iff]
    constructor
    · rintro (⟨j, hj, h⟩ | ⟨d, hd, _⟩)
      · exact ⟨j, by omega, h⟩
      · exact ⟨k, by omega, fun h => by rw [h] at hd; cases hd⟩
    · rintro ⟨j, hj, h⟩
      by_cases hjk : j = k
      · subst hjk
        obtain ⟨d, l, hdl⟩ := List.exists_cons_of_ne_nil h
        have hd : d ∈ hsK ls (kN j) := by rw [hdl]; simp
        exact .inr ⟨d, hd, by have := (f.holders _ d hd).2; omega⟩
      · exact .inl ⟨j, by omega, h⟩

theorem Few.any {ls : List (Nam × LkS)} {ws : List (Int × Nee)} (v : Inv ls ws) (f : Few ls) : (∃ j, j < 6 ∧ hsK ls (kN j) ≠ []) ↔ ls ≠ [] := by
  constructor
  · rintro ⟨j, _, h⟩ rfl
    exact h rfl
  · intro h
    obtain ⟨p, l, hp⟩ := List.exists_cons_of_ne_nil h
    have hk := agt_of_mem v.kn (show (p.1, p.2) ∈ ls by rw [hp]; simp)
    obtain ⟨⟨k, hk6, hpk⟩, _⟩ := f _ _ hk
    refine ⟨k, hk6, ?_⟩
    unfold hsK
    rw [← hpk, hk]
    exact v.ne _ _ hk

end
section
attribute [local go_sem] F21.t21_eq F21.t17_eq F21.t15_eq F21.t10_eq F21.t31_eq F21.t27_eq F21.t28_eq F21.t22_eq F21.t4_eq F21.t5_eq F21.t33_eq
theorem sound_any {w0 w : World} {F : HP} {B : Nat} {ls : List (Nam × LkS)} {ws : List (Int × Nee)} (v : Inv ls ws) (f : Few ls) (hT : tot ls < 1073741824) (hL : ls.length < 1073741824) (h : St w0 (TabP B ls ws * F) w) :
    Calls Try.prog 21 #[.pointer (some ⟨B, 0, none⟩)] w fun e w' => St w0 (TabP B ls ws * F) w' ∧ e = .returned (.bool true) := by
  refine F21.calls (by simp) ?_
  unfold F21.code
  simp -dsimp -implicitDefEqProofs (disch := omega) only [go_sem, reqD_of, dec_t, dec_f, wrap_i64, wrap_u32, wrap_u64, wrap_u8]
  refine loop_intro (fun e w' => e.ds = [] ∧ e.ρ 0 = .pointer (some ⟨B, 0, none⟩) ∧ ∃ (k : Nat) (any : Bool), k ≤ 6 ∧ e.ρ 4 = .int .i64 k ∧ e.ρ 3 = .bool any ∧ (any = true ↔ ∃ j, j < k ∧ hsK ls (kN j) ≠ []) ∧ St w0 (TabP B ls ws * F) w')
    (fun e _ => match e.ρ 4 with | .int _ n => (6 - n).toNat | _ => 0) ?_ ?_
  · exact ⟨rfl, by simp -dsimp -implicitDefEqProofs only [go_sem], 0, false, by omega, by simp -dsimp -implicitDefEqProofs only [go_sem], by simp -dsimp -implicitDefEqProofs only [go_sem], by simp, h⟩
  rintro eo w1 ⟨hdo, e0o, k, any, hk, e4o, e3o, hany, h1⟩
  by_cases hlt : (k : Int) < 6
  case neg =>
    have : k = 6 := by omega
    subst this
    simp -dsimp -implicitDefEqProofs (disch := omega) only [go_sem, reqD_of, dec_t, dec_f, wrap_i64, wrap_u32, wrap_u64, wrap_u8, hdo, e0o, e3o, e4o, hlt]
    refine (idle_any h1).mono ?_
    rintro e' w2 ⟨h2, rfl⟩
    rw [Few.any v f] at hany
    by_cases hls : ls = []
    · have ha : any = false := by cases any; rfl; exact absurd hls (hany.1 rfl)
      simp -dsimp -implicitDefEqProofs (disch := omega) only [go_sem, reqD_of, dec_t, dec_f, wrap_i64, wrap_u32, wrap_u64, wrap_u8, hdo, e0o, e3o, e4o, hls, ha]
      rw [hls] at h2
      exact ⟨h2, rfl⟩
    · have ha : any = true := hany.2 hls
      rw [dec_f hls]
      simp -dsimp -implicitDefEqProofs (disch := omega) only [go_sem, reqD_of, dec_t, dec_f, wrap_i64, wrap_u32, wrap_u64, wrap_u8, hdo, e0o, e3o, e4o, ha]
      exact ⟨h2, rfl⟩
  simp -dsimp -implicitDefEqProofs (disch := omega) only [go_sem, reqD_of, dec_t, dec_f, wrap_i64, wrap_u32, wrap_u64, wrap_u8, hdo, e0o, e3o, e4o, hlt]
  refine (oneN_any h1 (by omega) (by omega)).mono ?_
  rintro e' w2 ⟨h2, rfl⟩
  have hta := tot_agt (x := kN k) (ls := ls)
  simp -dsimp -implicitDefEqProofs (disch := omega) only [go_sem, reqD_of, dec_t, dec_f, wrap_i64, wrap_u32, wrap_u64, wrap_u8, hdo, e0o, e3o, e4o]
  refine (holders_any (x := kN k) h2 (by omega)).mono ?_
  rintro e' w3 ⟨vl, h3, rfl⟩
  simp -dsimp -implicitDefEqProofs (disch := omega) only [go_sem, reqD_of, dec_t, dec_f, wrap_i64, wrap_u32, wrap_u64, wrap_u8, hdo, e0o, e3o, e4o]
  refine loop_intro (fun e w' => ∃ (who : Int) (any' : Bool) (al n : Nat), 1 ≤ who ∧ who ≤ 9 ∧ S21 e B any' k vl al n ∧ e.ρ 8 = .int .i64 who ∧ C21 ls k who any' al n ∧
      St w0 (RowO 3 1 vl (holdersS (kN k) ls).length (intR (holdersS (kN k) ls)) * (TabP B ls ws * F)) w')
    (fun e _ => match e.ρ 8 with | .int _ n => (9 - n).toNat | _ => 0) ?_ ?_
  · refine ⟨1, any, 0, 0, by omega, by omega, ⟨by simp -dsimp -implicitDefEqProofs only [go_sem, hdo], by simp -dsimp -implicitDefEqProofs only [go_sem, e0o], by simp -dsimp -implicitDefEqProofs only [go_sem, e3o], by simp -dsimp -implicitDefEqProofs only [go_sem, e4o], by simp -dsimp -implicitDefEqProofs only [go_sem], by simp -dsimp -implicitDefEqProofs only [go_sem], by simp -dsimp -implicitDefEqProofs only [go_sem]⟩, by simp -dsimp -implicitDefEqProofs only [go_sem], ?_, h3⟩
    have hone : ∀ c ∈ hsK ls (kN k), ¬ c.1 < 1 := fun c hc => by have := (f.holders _ c hc).1; omega
    refine ⟨?_, ?_, by omega, ?_⟩
    · rw [below_none]; rfl
      intro a ha
      obtain ⟨d, hd, rfl⟩ := List.mem_map.1 ((holdersS_mem _ _ _).1 ha)
      exact (f.holders _ d hd).1
    · simp only [true_iff]
      exact fun c hc hlt => absurd hlt (hone c hc)
    · rw [hany]
      constructor
      · exact fun h => .inl h
      · rintro (h | ⟨c, hc, hlt⟩)
        · exact h
        · exact absurd hlt (hone c hc)
  rintro e w4 ⟨who, any', al, n, h1w, hw9, hs, e8, c, h4⟩
  by_cases hlt2 : who ≤ 8
  case neg =>
    have : who = 9 := by omega
    subst this
    obtain ⟨hn, hal, hal9, hany'⟩ := c.done v f
    obtain ⟨_, a, cl, rfl, hnc, _⟩ := intAt (h4.gives (B := Reads 1 vl (holdersS (kN k) ls).length (intR (holdersS (kN k) ls))))
    have hs' := hs
    obtain ⟨hd, e0, e3, e4, e5, e6, e7⟩ := hs
    have hnn : ((holdersS (kN k) ls).length : Int) = n := by omega
    have fin : ∀ {Q : Post} {e : FA} {w : World} {θ : Tag (F21.t24, Q, e, w)}, S21 e B any' k (.slice a (holdersS (kN k) ls).length cl) al n → St w0 (RowO 3 1 (.slice a (holdersS (kN k) ls).length cl) (holdersS (kN k) ls).length (intR (holdersS (kN k) ls)) * (TabP B ls ws * F)) w →
        (∀ (e' : FA) (w' : World), e'.ds = [] → e'.ρ 0 = .pointer (some ⟨B, 0, none⟩) → e'.ρ 3 = .bool any' → e'.ρ 4 = .int .i64 k → St w0 (TabP B ls ws * F) w' → Q .normal e' w') → cwE Try.prog F21.t24 Q e w θ :=
      fun hs h hQ => sound_q v f hT hL (by omega) hs c hal9 h.right hQ
    have end' : ∀ (e' : FA) (w' : World), e'.ds = [] → e'.ρ 0 = .pointer (some ⟨B, 0, none⟩) → e'.ρ 3 = .bool any' → e'.ρ 4 = .int .i64 k → St w0 (TabP B ls ws * F) w' → True := fun _ _ _ _ _ _ _ => trivial
    by_cases ha0 : (al : Int) = 0
    · simp -dsimp -implicitDefEqProofs (disch := omega) only [go_sem, reqD_of, dec_t, dec_f, wrap_i64, wrap_u32, wrap_u64, wrap_u8, hd, e0, e3, e4, e5, e6, e7, e8, hnn, ha0]
      refine fin ⟨by simp -dsimp -implicitDefEqProofs only [go_sem, hd], by simp -dsimp -implicitDefEqProofs only [go_sem, e0], by simp -dsimp -implicitDefEqProofs only [go_sem, e3], by simp -dsimp -implicitDefEqProofs only [go_sem, e4], by simp -dsimp -implicitDefEqProofs only [go_sem, e5], by simp -dsimp -implicitDefEqProofs only [go_sem, e6], by simp -dsimp -implicitDefEqProofs only [go_sem, e7]⟩ h4 ?_
      intro e' w' hd' e0' e3' e4' h'
      simp -dsimp -implicitDefEqProofs (disch := omega) only [go_sem, reqD_of, dec_t, dec_f, wrap_i64, wrap_u32, wrap_u64, wrap_u8, hd', e0', e3', e4', e4o]
      exact ⟨⟨k + 1, any', by omega, by omega, rfl, hany', h'⟩, by omega⟩
    · have hn1 : (n : Int) = 1 := by have := hal (by omega); omega
      have hal2 : (0 : Int) < al := by omega
      simp -dsimp -implicitDefEqProofs (disch := omega) only [go_sem, reqD_of, dec_t, dec_f, wrap_i64, wrap_u32, wrap_u64, wrap_u8, hd, e0, e3, e4, e5, e6, e7, e8, hnn, ha0, hal2, hn1]
      refine fin ⟨by simp -dsimp -implicitDefEqProofs only [go_sem, hd], by simp -dsimp -implicitDefEqProofs only [go_sem, e0], by simp -dsimp -implicitDefEqProofs only [go_sem, e3], by simp -dsimp -implicitDefEqProofs only [go_sem, e4], by simp -dsimp -implicitDefEqProofs only [go_sem, e5], by simp -dsimp -implicitDefEqProofs only [go_sem, e6], by simp -dsimp -implicitDefEqProofs only [go_sem, e7]⟩ h4 ?_
      intro e' w' hd' e0' e3' e4' h'
      simp -dsimp -implicitDefEqProofs (disch := omega) only [go_sem, reqD_of, dec_t, dec_f, wrap_i64, wrap_u32, wrap_u64, wrap_u8, hd', e0', e3', e4', e4o]
      exact ⟨⟨k + 1, any', by omega, by omega, rfl, hany', h'⟩, by omega⟩
  have hs' := hs
  obtain ⟨hd, e0, e3, e4, e5, e6, e7⟩ := hs
  simp -dsimp -implicitDefEqProofs (disch := omega) only [go_sem, reqD_of, dec_t, dec_f, wrap_i64, wrap_u32, wrap_u64, wrap_u8, e8, hlt2]
  refine sound_11 v hT hL (by omega) h1w hlt2 ⟨by simp -dsimp -implicitDefEqProofs only [go_sem, hd], by simp -dsimp -implicitDefEqProofs only [go_sem, e0], by simp -dsimp -implicitDefEqProofs only [go_sem, e3], by simp -dsimp -implicitDefEqProofs only [go_sem, e4], by simp -dsimp -implicitDefEqProofs only [go_sem, e5], by simp -dsimp -implicitDefEqProofs only [go_sem, e6], by simp -dsimp -implicitDefEqProofs only [go_sem, e7]⟩ (by simp -dsimp -implicitDefEqProofs only [go_sem, e8]) c h4 ?_
  intro any2 al2 n2 e' w' hs2 e8' c2 h5
  simp -dsimp -implicitDefEqProofs (disch := omega) only [go_sem, reqD_of, dec_t, dec_f, wrap_i64, wrap_u32, wrap_u64, wrap_u8, e8, e8']
  exact ⟨⟨who + 1, any2, al2, n2, by omega, by omega, hs2, rfl, c2, h5⟩, by omega⟩

end
end Go.Proofs.Ytacmnfpgimgigaa

namespace Go.Proofs.Ytacmnfpgimgigaa
open Go

/-- A way to read a row of cells, in a memory, as something; it stays in a greater memory. -/
structure Rdr (α : Type) where
  rel : α → List Value → Heap → Prop
  mono : ∀ {x cs h h'}, hle h h' → rel x cs h → rel x cs h'

def rInt (k : IntKind) : Rdr Int := ⟨fun n cs _ => cs = [.int k n] ∧ (Lit.int k n).wf = true, fun _ h => h⟩
def rBool : Rdr Bool := ⟨fun b cs _ => cs = [.bool b], fun _ h => h⟩
def rStr : Rdr ByteArray := ⟨fun s cs _ => cs = [.string s] ∧ s.size ≤ reachBytes, fun _ h => h⟩
def rEnd : Rdr Unit := ⟨fun _ cs _ => cs = [], fun _ h => h⟩
def rCons {α β : Type} (n : Nat) (R : Rdr α) (S : Rdr β) : Rdr (α × β) :=
  ⟨fun x cs h => ∃ c1 c2, cs = c1 ++ c2 ∧ c1.length = n ∧ R.rel x.1 c1 h ∧ S.rel x.2 c2 h, fun hl ⟨c1, c2, e, l, a, b⟩ => ⟨c1, c2, e, l, R.mono hl a, S.mono hl b⟩⟩
def rSlice {α : Type} (s b : Nat) (R : Rdr α) : Rdr (List α) :=
  ⟨fun xs cs h => ∃ a cap, cs = [.slice a xs.length cap] ∧ xs.length ≤ cap ∧ cap ≤ maxLen ∧ xs.length * b ≤ reachBytes ∧
    (xs = [] ∨ ∃ g o cur T fr, a = some ⟨g, o, none⟩ ∧ h g = some (.cells cur T fr) ∧ ∀ j (hj : j < xs.length), ((cur.toList.drop (o + j * s)).take s).length = s ∧ R.rel xs[j] ((cur.toList.drop (o + j * s)).take s) h),
   by
    rintro xs cs h h' hl ⟨a, cap, e, l, m, r, k⟩
    refine ⟨a, cap, e, l, m, r, ?_⟩
    rcases k with k | ⟨g, o, cur, T, fr, ea, hg, hj⟩
    · exact .inl k
    · exact .inr ⟨g, o, cur, T, fr, ea, hl _ _ hg, fun j hj' => ⟨(hj j hj').1, R.mono hl (hj j hj').2⟩⟩⟩
theorem Reads.mono {s n : Nat} {v : Value} {xs : List Value} {h h' : Heap} (hl : hle h h') (k : Reads s v n xs h) : Reads s v n xs h' := by
  obtain ⟨l, a, c, hv, hnc, hr⟩ := k
  exact ⟨l, a, c, hv, hnc, hr.imp id fun ⟨b, o, cur, T, fr, ha, hg, hj⟩ => ⟨b, o, cur, T, fr, ha, hl _ _ hg, hj⟩⟩
def rBytes : Rdr (List UInt8) :=
  ⟨fun bs cs h => ∃ v, cs = [v] ∧ RdB v bs h ∧ bs.length ≤ reachBytes, fun hl ⟨v, e, k, hb⟩ => ⟨v, e, Reads.mono hl k, hb⟩⟩

/-- What the reader says of these cells, as a part of memory. -/
def Rdr.at {α : Type} (R : Rdr α) (x : α) (cs : List Value) : HP := fun h => R.rel x cs h

theorem Rdr.old {α : Type} {R : Rdr α} {x : α} {cs : List Value} {w0 : World} (h : R.rel x cs (heapOf w0)) : Ent (Old w0) (R.at x cs) :=
  Ent.of fun _ ho => R.mono (fun b o e => ho b o e) h

theorem St.sat' {w0 w : World} {A : HP} (h : St w0 A w) : ∃ x, hle x (heapOf w) ∧ A x := h.sat

/-- What a reader says, said of the world at hand. -/
theorem St.reader {α : Type} {R : Rdr α} {x : α} {cs : List Value} {w0 w : World} {F : HP} (h : St w0 F w) (k : Ent F (R.at x cs)) : R.rel x cs (heapOf w) := by
  obtain ⟨y, l, hy⟩ := (h.ent k).sat
  exact R.mono l hy

/-- A slice that came in: its form, and its elements' cells. -/
theorem Rdr.slice {α : Type} {s b : Nat} {R : Rdr α} {xs : List α} {v : Value} {h : Heap} (k : (rSlice s b R).rel xs [v] h) :
    ∃ a cap, v = .slice a xs.length cap ∧ xs.length ≤ cap ∧ cap ≤ maxLen ∧ xs.length * b ≤ reachBytes := by
  obtain ⟨a, cap, e, l, m, r, _⟩ := k
  simp only [List.cons.injEq, and_true] at e
  exact ⟨a, cap, e, l, m, r⟩

/-- An element of a slice that came in: where its cells lie, and that they read so, whatever turned since. -/
theorem Rdr.elem {α : Type} {s b : Nat} {R : Rdr α} {xs : List α} {a : Option Addr} {n cap j : Nat} {F : HP} (k : Ent F ((rSlice s b R).at xs [.slice a n cap])) {w0 w : World} (hw : St w0 F w) (hj : j < xs.length) :
    ∃ g o cs, a = some ⟨g, o, none⟩ ∧ cs.length = s ∧ (∀ i, i < s → w.cell? ⟨g, o + j * s + i, none⟩ = cs[i]?) ∧ R.rel xs[j] cs (heapOf w) := by
  obtain ⟨a', cap', e, _, _, _, hr⟩ := hw.reader k
  simp only [List.cons.injEq, Value.slice.injEq, and_true] at e
  obtain ⟨rfl, rfl, rfl⟩ := e
  rcases hr with rfl | ⟨g, o, cur, T, fr, rfl, hg, hr⟩
  · simp at hj
  · obtain ⟨hl, hx⟩ := hr j hj
    refine ⟨g, o, _, rfl, hl, fun i hi => ?_, hx⟩
    rw [cell_of_heap hg, List.getElem?_take, if_pos hi, List.getElem?_drop]
    simp

/-- An element read as a part of memory that stays. -/
theorem Rdr.elemEnt {α : Type} {s b : Nat} {R : Rdr α} {xs : List α} {a : Option Addr} {n cap j : Nat} {w0 : World} (k : Ent (Old w0) ((rSlice s b R).at xs [.slice a n cap])) (hj : j < xs.length) :
    ∃ g o cs, a = some ⟨g, o, none⟩ ∧ cs.length = s ∧ Ent (Old w0) (R.at xs[j] cs) ∧ ∀ (F : HP) (u : World), St w0 (Old w0 * F) u → ∀ i, i < s → u.cell? ⟨g, o + j * s + i, none⟩ = cs[i]? := by
  obtain ⟨a', cap', e, _, _, _, hr⟩ := (St.start w0).reader k
  simp only [List.cons.injEq, Value.slice.injEq, and_true] at e
  obtain ⟨rfl, rfl, rfl⟩ := e
  rcases hr with rfl | ⟨g, o, cur, T, fr, rfl, hg, hr⟩
  · simp at hj
  · obtain ⟨hl, hx⟩ := hr j hj
    refine ⟨g, o, _, rfl, hl, Rdr.old hx, fun F w hw i hi => ?_⟩
    obtain ⟨y, l, h1, h2, hd, l1, l2, ho, _⟩ := hw.sat
    have hgw : w.heap[g]? = some (.cells cur T fr) := l _ _ (l1 _ _ (ho _ _ hg))
    rw [cell_of_heap hgw, List.getElem?_take, if_pos hi, List.getElem?_drop]
    simp

/-! ### From what the row says of an argument to its reader -/

def Opens {α : Type} (P : Program) (t : TypeId) (R : Rdr α) : Prop :=
  ∀ {H : Type} (enc : TypeId × Value → H) (W : World) (sp : Nat → Bool) (fuel : Nat) (cs : List Value) (y : DataW H × List MemPlace),
    DataW.trod enc P W 0 sp true fuel t cs = some y → (∀ n ∈ y.1.weights P t, n ≤ reachBytes) → ∃ x, R.rel x cs (heapOf W)

theorem opens_int {P : Program} {t : TypeId} {k : IntKind} (hu : P.underlying t = some (.int k)) : Opens P t (rInt k) := by
  intro H enc W sp fuel cs y h _
  obtain ⟨n, hc, _, hw⟩ := DataW.trod_int hu h
  exact ⟨n, hc, hw⟩

theorem opens_bool {P : Program} {t : TypeId} (hu : P.underlying t = some .bool) : Opens P t rBool := by
  intro H enc W sp fuel cs y h _
  obtain ⟨b, hc, _⟩ := DataW.trod_bool hu h
  exact ⟨b, hc⟩

theorem opens_str {P : Program} {t : TypeId} (hu : P.underlying t = some .string) : Opens P t rStr := by
  intro H enc W sp fuel cs y h hz
  obtain ⟨s, hc, rfl, _⟩ := DataW.trod_string hu h
  refine ⟨s, hc, ?_⟩
  have := hz s.data.toList.length (by simp [DataW.weights])
  simpa using this

theorem weightsAll_mem {H : Type} {P : Program} {e : TypeId} {d : DataW H} {n : Nat} (hn : n ∈ d.weights P e) : ∀ {l : List (DataW H)}, d ∈ l → n ∈ DataW.weightsAll P e l
  | x :: l, hd => by
    simp only [DataW.weightsAll, List.mem_append]
    rcases List.mem_cons.1 hd with rfl | hd
    · exact .inl hn
    · exact .inr (weightsAll_mem hn hd)

theorem cellsAt {W : World} {a : Addr} {n : Nat} {cs : List Value} (h : W.cells? 0 a n = some cs) (hn : 0 < n) :
    ∃ g o cur T fr, a = ⟨g, o, none⟩ ∧ W.heap[g]? = some (.cells cur T fr) ∧ cs = (cur.toList.drop o).take n ∧ cs.length = n := by
  unfold World.cells? at h
  rw [if_pos (Nat.zero_le _)] at h
  have hl := mapM_some_length h
  have hg := fun i (hi : i < n) => mapM_some_get h i i (by simp [hi])
  simp only [List.length_range] at hl
  obtain ⟨g, o, sp⟩ := a
  have h0 := hg 0 hn
  have hsome : cs[0]? = some cs[0] := List.getElem?_eq_getElem (by omega)
  rw [hsome] at h0
  have hsp : sp = none := by simpa [Addr.add] using World.cell?_spot h0
  subst hsp
  rw [add_lit] at h0
  have hb : ∃ cur T fr, W.heap[g]? = some (.cells cur T fr) := by
    unfold World.cell? at h0
    simp only at h0
    split at h0
    · rename_i cur T fr hx; exact ⟨cur, T, fr, hx⟩
    · cases h0
  obtain ⟨cur, T, fr, hx⟩ := hb
  refine ⟨g, o, cur, T, fr, rfl, hx, ?_, hl⟩
  apply List.ext_getElem?
  intro i
  rw [List.getElem?_take]
  split
  · rename_i hi
    have := hg i hi
    rw [add_lit, cell_of_heap hx] at this
    rw [← this, List.getElem?_drop]
    simp
  · rw [List.getElem?_eq_none]; omega

/-- What each of a row may be, as a row. -/
theorem choose_list {α : Type} {n : Nat} {p : Nat → α → Prop} (h : ∀ i, i < n → ∃ x, p i x) : ∃ xs : List α, xs.length = n ∧ ∀ i (hi : i < xs.length), p i xs[i] := by
  induction n with
  | zero => exact ⟨[], rfl, fun i hi => by simp at hi⟩
  | succ n ih =>
    obtain ⟨xs, hl, hx⟩ := ih fun i hi => h i (by omega)
    obtain ⟨x, hp⟩ := h n (by omega)
    refine ⟨xs ++ [x], by simp [hl], fun i hi => ?_⟩
    rw [List.getElem_append]
    split
    · rename_i h'; exact hx i h'
    · rename_i h'
      have : i = n := by simp at hi; omega
      subst this
      simpa using hp

theorem opens_slice {α : Type} {P : Program} {t e : TypeId} {s b : Nat} {R : Rdr α} (hu : P.underlying t = some (.slice e)) (hs : P.cellsOf e = s) (hb : P.bytesOf e = b) (h0 : 0 < s) (hR : Opens P e R) : Opens P t (rSlice s b R) := by
  intro H enc W sp fuel cs y h hz
  subst hs hb
  rcases DataW.trod_slice hu h with ⟨rfl, rfl⟩ | ⟨a, len, cap, elems, rest, n, rfl, rfl, rfl, _, hlc, hcm, hel, hel2, _, _⟩
  · exact ⟨[], none, 0, rfl, Nat.le_refl _, by simp, by simp, .inl rfl⟩
  · simp only [DataW.weights, hu, List.mem_cons, List.mem_append, List.length_map] at hz
    have hsz : len * P.bytesOf e ≤ reachBytes := by
      have := hz _ (.inl rfl)
      rw [hel] at this
      exact Nat.le_trans (Nat.mul_le_mul_right _ (Nat.le_add_right _ _)) this
    have hel3 : ∀ i, i < len → ∃ x, ∃ cs, W.cells? 0 (a.add (i * P.cellsOf e)) (P.cellsOf e) = some cs ∧ R.rel x cs (heapOf W) := by
      intro i hi
      have h1 := hel2 i hi
      have hi' : i < elems.length := by omega
      rw [List.getElem?_eq_getElem hi'] at h1
      obtain ⟨cs, hcs, htr⟩ := Option.bind_eq_some_iff.1 h1
      obtain ⟨x, hx⟩ := hR enc W sp n cs _ htr fun m hm => hz m (.inr (.inl (weightsAll_mem hm (List.mem_map.2 ⟨_, List.getElem_mem hi', rfl⟩))))
      exact ⟨x, cs, hcs, hx⟩
    obtain ⟨xs, hxl, hxs⟩ := choose_list hel3
    subst hxl
    refine ⟨xs, some a, cap, rfl, hlc, hcm, hsz, ?_⟩
    by_cases hx : xs = []
    · exact .inl hx
    · right
      obtain ⟨cs0, hc0, _⟩ := hxs 0 (List.length_pos_iff.2 hx)
      obtain ⟨g, o, cur, T, fr, ha, hg, _, _⟩ := cellsAt hc0 h0
      have ha : a = ⟨g, o, none⟩ := by
        obtain ⟨g', o', sp'⟩ := a
        simp only [Nat.zero_mul] at ha
        have : (⟨g', o', sp'⟩ : Addr).add 0 = ⟨g', o', sp'⟩ := rfl
        rw [this] at ha; exact ha
      subst ha
      refine ⟨g, o, cur, T, fr, rfl, hg, fun j hj => ?_⟩
      obtain ⟨csj, hcj, hrj⟩ := hxs j hj
      rw [add_lit] at hcj
      obtain ⟨g', o', cur', T', fr', ha', hg', hcs', hl'⟩ := cellsAt hcj h0
      simp only [Addr.mk.injEq, and_true] at ha'
      obtain ⟨rfl, rfl⟩ := ha'
      rw [hg] at hg'
      simp only [Option.some.injEq, Obj.cells.injEq] at hg'
      obtain ⟨rfl, _, _⟩ := hg'
      rw [← hcs']
      exact ⟨hl', hrj⟩

theorem opens_bytes {P : Program} {t e : TypeId} (hu : P.underlying t = some (.slice e)) (he : P.underlying e = some (.int .u8)) (hs : P.cellsOf e = 1) (hb : P.bytesOf e = 1) : Opens P t rBytes := by
  intro H enc W sp fuel cs y h hz
  obtain ⟨xs, a, cap, rfl, hlc, hcm, hsz, hr⟩ := opens_slice hu hs hb (by omega) (opens_int he) enc W sp fuel cs y h hz
  have hbs : ∃ bs : List UInt8, bs.length = xs.length ∧ ((xs = [] ∨ ∃ g o cur T fr, a = some ⟨g, o, none⟩ ∧ heapOf W g = some (.cells cur T fr) ∧ ∀ j, j < xs.length → cur[o + j]? = (bs.map bv)[j]?)) := by
    rcases hr with rfl | ⟨g, o, cur, T, fr, rfl, hg, hr⟩
    · exact ⟨[], rfl, .inl rfl⟩
    · refine ⟨xs.map fun n => UInt8.ofNat n.toNat, by simp, .inr ⟨g, o, cur, T, fr, rfl, hg, fun j hj => ?_⟩⟩
      obtain ⟨_, hc, hw⟩ := hr j hj
      have h1 : cur[o + j]? = some (.int .u8 xs[j]) := by
        have := congrArg (fun l => l[0]?) hc
        simpa [List.getElem?_take, List.getElem?_drop] using this
      rw [h1]
      simp only [List.map_map, List.getElem?_map, List.getElem?_eq_getElem hj, Option.map_some, Function.comp, bv]
      have hb2 : 0 ≤ xs[j] ∧ xs[j] < 256 := by
        have h1 : IntKind.u8.min = 0 := rfl
        have h2 : IntKind.u8.max = 255 := rfl
        simp [Lit.wf] at hw
        omega
      congr 2
      have : (UInt8.ofNat (xs[j]).toNat).toNat = (xs[j]).toNat % 256 := by simp
      omega
  obtain ⟨bs, hbl, hr⟩ := hbs
  refine ⟨bs, _, rfl, ⟨by simp, a, cap, by rw [hbl], by omega, ?_⟩, by omega⟩
  rcases hr with rfl | ⟨g, o, cur, T, fr, ha, hg, hr⟩
  · left; simpa using hbl
  · exact .inr ⟨g, o, cur, T, fr, ha, hg, fun j hj => hr j (by simp at hj; omega)⟩

/-- The fields from one on, of a struct of N cells. -/
def OpensF {α : Type} (P : Program) (N : Nat) (fs : List Field) (off : Nat) (R : Rdr α) : Prop :=
  ∀ {H : Type} (enc : TypeId × Value → H) (W : World) (sp : Nat → Bool) (fuel : Nat) (cs : List Value) (xs : List (DataW H × List MemPlace)), cs.length = N → xs.length = fs.length →
    (∀ (i : Nat) (f : Field), fs[i]? = some f → DataW.trod enc P W 0 sp true fuel f.type ((cs.drop f.offset).take (P.cellsOf f.type)) = xs[i]?) →
    (∀ n ∈ DataW.weightsEach P (fs.map (·.type)) (xs.map (·.1)), n ≤ reachBytes) → ∃ x, R.rel x (cs.drop off) (heapOf W)

theorem opensF_nil {P : Program} {N : Nat} : OpensF P N [] N rEnd := by
  intro H enc W sp fuel cs xs hl _ _ _
  exact ⟨(), by show cs.drop N = []; simp; omega⟩

theorem opensF_cons {α β : Type} {P : Program} {N off s : Nat} {f : Field} {fs : List Field} {R : Rdr α} {S : Rdr β} (hoff : f.offset = off) (hs : P.cellsOf f.type = s) (hN : off + s ≤ N) (hR : Opens P f.type R) (hS : OpensF P N fs (off + s) S) : OpensF P N (f :: fs) off (rCons s R S) := by
  intro H enc W sp fuel cs xs hl hxl hx hz
  cases xs with
  | nil => simp at hxl
  | cons x0 xs =>
    have h0 := hx 0 f rfl
    rw [hoff, hs] at h0
    simp only [List.map_cons, DataW.weightsEach, List.mem_append] at hz
    obtain ⟨a, ha⟩ := hR enc W sp fuel _ _ h0 fun n hn => hz n (.inl hn)
    obtain ⟨b, hb⟩ := hS enc W sp fuel cs xs hl (by simpa using hxl) (fun i g hg => hx (i + 1) g (by simpa using hg)) fun n hn => hz n (.inr hn)
    refine ⟨(a, b), (cs.drop off).take s, cs.drop (off + s), ?_, by simp; omega, ha, hb⟩
    rw [← List.drop_drop, List.take_append_drop]

theorem opens_struct {α : Type} {P : Program} {t : TypeId} {fs : Array Field} {N : Nat} {R : Rdr α} (hu : P.underlying t = some (.struct fs)) (hN : P.cellsOf t = N) (hF : OpensF P N fs.toList 0 R) : Opens P t R := by
  intro H enc W sp fuel cs y h hz
  obtain ⟨xs, n, rfl, rfl, hl, hxl, hx⟩ := DataW.trod_struct hu h
  have := hF enc W sp n cs xs (by rw [hl, hN]) (by simpa using hxl) (fun i f hf => hx i f (by simpa using hf)) (by simpa [DataW.weights, hu] using hz)
  simpa using this

/-- An argument, opened. -/
theorem Opens.arg {α : Type} {P : Program} {t : TypeId} {R : Rdr α} (hR : Opens P t R) {H : Type} {enc : TypeId × Value → H} {W : World} {sp : Nat → Bool} {v : Value} {d : DataW H} {p : List MemPlace} (h : DataW.Trod enc P W 0 sp true t v d p)
    {ts : List TypeId} {ds : List (DataW H)} (hz : (DataW.weightsEach P ts ds).all (· ≤ reachBytes) = true) (j : Nat) (hj : ts[j]? = some t) (hd : ds[j]? = some d) : ∃ x, R.rel x v.cells.toList (heapOf W) := by
  obtain ⟨fuel, hf⟩ := h
  refine hR enc W sp fuel _ _ hf fun n hn => ?_
  have := List.all_eq_true.1 hz _ (DataW.weights_mem_each hj hd n hn)
  simpa using this

theorem u32_nonneg {n : Int} (h : (Lit.int .u32 n).wf = true) : 0 ≤ n := by
  have h1 : IntKind.u32.min = 0 := rfl
  have h2 : IntKind.u32.max = 4294967295 := rfl
  simp [Lit.wf, h1, h2] at h
  omega
theorem u32_lt {n : Int} (h : (Lit.int .u32 n).wf = true) : n < 4294967296 := by
  have h1 : IntKind.u32.min = 0 := rfl
  have h2 : IntKind.u32.max = 4294967295 := rfl
  simp [Lit.wf, h1, h2] at h
  omega
theorem i64_bounds {n : Int} (h : (Lit.int .i64 n).wf = true) : -9223372036854775808 ≤ n ∧ n < 9223372036854775808 := by
  have h1 : IntKind.i64.min = -9223372036854775808 := rfl
  have h2 : IntKind.i64.max = 9223372036854775807 := rfl
  simp [Lit.wf, h1, h2] at h
  omega

end Go.Proofs.Ytacmnfpgimgigaa

namespace Go.Proofs.Ytacmnfpgimgigaa
open Go
set_option linter.unusedVariables false

theorem rSlice_reads {α : Type} {s b : Nat} {R : Rdr α} {enc : α → List Value} (he : ∀ x cs h, R.rel x cs h → cs = enc x) (hk : ∀ x, (enc x).length = s) {xs : List α} {v : Value} :
    Ent ((rSlice s b R).at xs [v]) (Reads s v xs.length (xs.flatMap enc)) := by
  refine Ent.of fun h hr => ?_
  obtain ⟨a, cap, e, l, m, r, k⟩ := hr
  simp only [List.cons.injEq, and_true] at e
  subst e
  refine ⟨flatMap_length hk xs, a, cap, rfl, l, ?_⟩
  rcases k with k | ⟨g, o, cur, T, fr, ea, hg, hj⟩
  · left; subst k; rfl
  · right
    refine ⟨g, o, cur, T, fr, ea, hg, fun t ht => ?_⟩
    rw [flatMap_length hk] at ht
    obtain ⟨i, j, hi, hjs, e, hf⟩ := flatMap_at_all hk xs t ht
    obtain ⟨h1, h2⟩ := hj i hi
    have h3 := he _ _ _ h2
    rw [hf, ← h3, e, List.getElem?_take_of_lt hjs, List.getElem?_drop, Array.getElem?_toList]
    congr 1
    omega

/-- make, of elements of one cell. -/
theorem St.make1 {P : Program} {w0 w : World} {F : HP} {t e bs n c : Nat} {z : Value} {K : Value → World → Prop} {θ : Tag K} (h : St w0 F w) (ht : rowTy P t = some (e, 1, bs, [z])) (hn : n ≤ c) (hc : c ≤ 16777216) (hb : bs * c ≤ 281474976710656)
    (hK : ∀ b w', St w0 (RowO e 1 (.slice (some ⟨b, 0, none⟩) n c) n (List.replicate n z) * F) w' → K (.slice (some ⟨b, 0, none⟩) n c) w') : semD P (kMakeSlice t (.int .i64 n) (.int .i64 c)) w K θ := by
  show semD P (Instr.makeSlice t (.int .i64 n) (.int .i64 c)) w K θ
  obtain ⟨hu, i, zv, hi, hz, hsz, hbs, hzs, hzc⟩ := rowTy_some ht
  have hb2 : (bs : Int) * c ≤ 281474976710656 := by
    have : ((bs * c : Nat) : Int) ≤ 281474976710656 := by omega
    rwa [Int.natCast_mul] at this
  have hr := run_makeSlice (P := P) (w := w) t e i zv hu hi hz .i64 .i64 n c (by omega) (by omega) (by rw [hsz]; simp; omega) (by rw [hbs]; exact hb2) (by omega)
  simp only [Int.toNat_natCast, hsz, Nat.mul_one] at hr
  have hcells : madeCells zv.cells c = (List.replicate c z).toArray := by
    have hz1 : zv.cells = #[z] := Array.ext' (by rw [hzc])
    rw [hz1]
    apply Array.ext'
    simp only [madeCells]
    apply List.ext_getElem
    · simp
    · intro j h1 h2
      simp [Nat.mod_one]
  rw [hcells] at hr
  refine ⟨_, _, hr, hK _ _ ((h.alloc _).ent (Ent.sep (Ent.of fun k hk => .inr ⟨w.heap.size, 0, c, (List.replicate c z).toArray, rfl, hk, hn, by simp only [maxLen]; omega, by simp, ?_, by simp⟩) (Ent.rfl' F)))⟩
  simp only [List.drop_zero, Nat.mul_one, List.take_replicate, Nat.min_eq_left hn]

/-- The first k elements, as the evaluator spells 'x[:k]'. -/
theorem Reads.takeK {s n c k : Nat} {a : Option Addr} {xs : List Value} (hk : k ≤ n) : Ent (Reads s (.slice a n c) n xs) (Reads s (.slice (if c = 0 then a else Option.map (fun x => x) a) k (c - 0)) k (xs.take (k * s))) := by
  have h := Reads.sub (s := s) (n := n) (lo := 0) (k := k) (c := c) (a := a) (xs := xs) (by omega)
  rw [Nat.zero_mul, List.drop_zero] at h
  exact h
theorem flatMap_take {α : Type} {enc : α → List Value} {k : Nat} (hk : ∀ x, (enc x).length = k) : ∀ (l : List α) (n : Nat), (l.flatMap enc).take (n * k) = (l.take n).flatMap enc
  | [], n => by simp
  | x :: l, 0 => by simp
  | x :: l, n + 1 => by
    rw [List.flatMap_cons, List.take_succ_cons, List.flatMap_cons, Nat.add_mul, Nat.one_mul, Nat.add_comm, List.take_append, hk, List.take_of_length_le (by rw [hk]; omega), show k + n * k - k = n * k by omega, flatMap_take hk l n]

/-- A slice of no elements that is not nil. -/
theorem St.lit0 {P : Program} {t e s bs : Nat} {zs : List Value} {w0 w : World} {F : HP} {parts : Array (Nat × Value)} {K : Value → World → Prop} {θ : Tag K}
    (h : St w0 F w) (ht : rowTy P t = some (e, s, bs, zs)) (hp : parts = #[]) (hK : ∀ v w', St w0 (RowO e s v 0 [] * F) w' → K v w') : semD P (kBuildSlice t 0 parts) w K θ := by
  show semD P (Instr.buildSlice t 0 parts) w K θ
  subst hp
  obtain ⟨hu, i, z, hi, hz, rfl, rfl, hzs, rfl⟩ := rowTy_some ht
  refine ⟨.slice (some ⟨w.heap.size, 0, none⟩) 0 0, w.alloc (.cells #[] e), ?_, hK _ _ ((h.alloc _).ent (Ent.sep (Ent.of fun k hk => .inr ⟨w.heap.size, 0, 0, #[], rfl, hk, Nat.le_refl _, by simp [maxLen], by simp, by simp, by simp⟩) (Ent.rfl' F)))⟩
  unfold Instr.buildSlice
  simp only [Sem.run_bind, run_underlying' hu, Result.andThen_ok, run_sizeOf' hi, Nat.zero_mul, if_neg (show ¬ (0 > 2 ^ 24) by omega), if_true, Sem.run_pure]
  have hf : Instr.fill (fun i_1 => some (i_1 * i.size, i.size)) (Array.map (fun x => (#[] : Array Value)[x % (#[] : Array Value).size]!) (Array.range 0)) ([] : List (Nat × Value)) = some #[] := by simp [Instr.fill]
  rw [hf]
  rfl

/-- A map's copy. -/
theorem St.copyMap {κ : Type} {enc : κ → Value} {b : Nat} {l : List (κ × Value)} {w0 w : World} {A : HP} {C : HP → HP} (h : St w0 A w) [i : Hole (.map b) A (MapP enc b l) C] :
    ∃ es clock, w.heap[b]? = some (.map es clock) ∧ St w0 (MapP enc w.heap.size l * A) (w.alloc (.map es clock)) := by
  obtain ⟨R, hR, h'⟩ := h.out (.map b)
  obtain ⟨es, clock, h1⟩ := MapP.open h'
  obtain ⟨hb, hm⟩ := MapE.heap h1
  exact ⟨es, clock, hb, (h.alloc _).ent (Ent.sep (Ent.of fun k hk => ⟨es, clock, hk, hm⟩) (Ent.rfl' A))⟩

/-! ### Loops by a rank that is not read off the world -/
theorem least_nat {p : Nat → Prop} (h : ∃ n, p n) : ∃ n, p n ∧ ∀ m, p m → n ≤ m := by
  obtain ⟨n, hn⟩ := h
  induction n using Nat.strongRecOn with
  | _ n ih =>
    by_cases hx : ∃ m, m < n ∧ p m
    · obtain ⟨m, hm, hp⟩ := hx
      exact ih m hm hp
    · refine ⟨n, hn, fun m hm => ?_⟩
      have : ¬ m < n := fun hlt => hx ⟨m, hlt, hm⟩
      omega
open Classical in
noncomputable def rankOf (I : Nat → FA → World → Prop) (e : FA) (w : World) : Nat := if h : ∃ n, I n e w then Classical.choose (least_nat h) else 0
theorem rank_min {I : Nat → FA → World → Prop} {e : FA} {w : World} (h : ∃ n, I n e w) : I (rankOf I e w) e w ∧ ∀ m, I m e w → rankOf I e w ≤ m := by
  unfold rankOf
  rw [dif_pos h]
  exact Classical.choose_spec (least_nat h)
theorem rank_down {I : Nat → FA → World → Prop} {e e' : FA} {w w' : World} {m : Nat} (h : I m e' w') (hm : m < rankOf I e w) : (∃ n, I n e' w') ∧ rankOf I e' w' < rankOf I e w :=
  ⟨⟨m, h⟩, Nat.lt_of_le_of_lt ((rank_min ⟨m, h⟩).2 m h) hm⟩
theorem loop_rank {P : Program} {c : Cd} {Q : Post} {e : FA} {w : World} {θ : Tag ((.loop c : Cd), Q, e, w)} (I : Nat → FA → World → Prop) (n : Nat) (h0 : I n e w)
    (h1 : ∀ e w, I (rankOf I e w) e w → cwE P c (loopP (fun e w => ∃ n, I n e w) (rankOf I) e w Q) e w) : cwE P (.loop c) Q e w θ :=
  loop_intro (fun e w => ∃ n, I n e w) (rankOf I) ⟨n, h0⟩ fun e w h => h1 e w (rank_min h).1

end Go.Proofs.Ytacmnfpgimgigaa
