/- Arguments that are rows of plain structs, as rows that are read. -/
import Derived.Test.YtkijkoakloacoaaGreatDoorFx
import Derived.Test.YtkijkoakloacoaaGreatDoorArgs
import Derived.Laws.MakeOwn
namespace Go.Proofs.YtkijkoakloacoaaGreatDoor
open Go
set_option linter.unusedVariables false

theorem rSlice_reads {α : Type} {s b : Nat} {R : Rdr α} {enc : α → List Value} (he : ∀ x cs h, R.rel x cs h → cs = enc x) (hk : ∀ x, (enc x).length = s) {xs : List α} {v : Value} :
    Ent ((rSlice s b R).at xs [v]) (Reads s v xs.length (xs.flatMap enc)) := by
  refine Ent.of fun h hr => ?_
  obtain ⟨a, cap, e, l, m, r, k⟩ := hr
  simp only [List.cons.injEq, and_true] at e
  subst e
  refine ⟨flatMap_length hk xs, a, cap, rfl, l, ?_⟩
  rcases k with k | ⟨g, o, cur, T, fr, ea, hg, hj⟩
  · left; subst k; rfl
  · right
    refine ⟨g, o, cur, T, fr, ea, hg, fun t ht => ?_⟩
    rw [flatMap_length hk] at ht
    obtain ⟨i, j, hi, hjs, e, hf⟩ := flatMap_at_all hk xs t ht
    obtain ⟨h1, h2⟩ := hj i hi
    have h3 := he _ _ _ h2
    rw [hf, ← h3, e, List.getElem?_take_of_lt hjs, List.getElem?_drop, Array.getElem?_toList]
    congr 1
    omega

/-- make, of elements of one cell. -/
theorem St.make1 {P : Program} {w0 w : World} {F : HP} {t e bs n c : Nat} {z : Value} {K : Value → World → Prop} {θ : Tag K} (h : St w0 F w) (ht : rowTy P t = some (e, 1, bs, [z])) (hn : n ≤ c) (hc : c ≤ 16777216) (hb : bs * c ≤ 281474976710656)
    (hK : ∀ b w', St w0 (RowO e 1 (.slice (some ⟨b, 0, none⟩) n c) n (List.replicate n z) * F) w' → K (.slice (some ⟨b, 0, none⟩) n c) w') : semD P (kMakeSlice t (.int .i64 n) (.int .i64 c)) w K θ := by
  show semD P (Instr.makeSlice t (.int .i64 n) (.int .i64 c)) w K θ
  obtain ⟨hu, i, zv, hi, hz, hsz, hbs, hzs, hzc⟩ := rowTy_some ht
  have hb2 : (bs : Int) * c ≤ 281474976710656 := by
    have : ((bs * c : Nat) : Int) ≤ 281474976710656 := by omega
    rwa [Int.natCast_mul] at this
  have hr := run_makeSlice (P := P) (w := w) t e i zv hu hi hz .i64 .i64 n c (by omega) (by omega) (by rw [hsz]; simp; omega) (by rw [hbs]; exact hb2) (by omega)
  simp only [Int.toNat_natCast, hsz, Nat.mul_one] at hr
  have hcells : madeCells zv.cells c = (List.replicate c z).toArray := by
    have hz1 : zv.cells = #[z] := Array.ext' (by rw [hzc])
    rw [hz1]
    apply Array.ext'
    simp only [madeCells]
    apply List.ext_getElem
    · simp
    · intro j h1 h2
      simp [Nat.mod_one]
  rw [hcells] at hr
  refine ⟨_, _, hr, hK _ _ ((h.alloc _).ent (Ent.sep (Ent.of fun k hk => .inr ⟨w.heap.size, 0, c, (List.replicate c z).toArray, rfl, hk, hn, by simp only [maxLen]; omega, by simp, ?_, by simp⟩) (Ent.rfl' F)))⟩
  simp only [List.drop_zero, Nat.mul_one, List.take_replicate, Nat.min_eq_left hn]

/-- The first k elements, as the evaluator spells 'x[:k]'. -/
theorem Reads.takeK {s n c k : Nat} {a : Option Addr} {xs : List Value} (hk : k ≤ n) : Ent (Reads s (.slice a n c) n xs) (Reads s (.slice (if c = 0 then a else Option.map (fun x => x) a) k (c - 0)) k (xs.take (k * s))) := by
  have h := Reads.sub (s := s) (n := n) (lo := 0) (k := k) (c := c) (a := a) (xs := xs) (by omega)
  rw [Nat.zero_mul, List.drop_zero] at h
  exact h
theorem flatMap_take {α : Type} {enc : α → List Value} {k : Nat} (hk : ∀ x, (enc x).length = k) : ∀ (l : List α) (n : Nat), (l.flatMap enc).take (n * k) = (l.take n).flatMap enc
  | [], n => by simp
  | x :: l, 0 => by simp
  | x :: l, n + 1 => by
    rw [List.flatMap_cons, List.take_succ_cons, List.flatMap_cons, Nat.add_mul, Nat.one_mul, Nat.add_comm, List.take_append, hk, List.take_of_length_le (by rw [hk]; omega), show k + n * k - k = n * k by omega, flatMap_take hk l n]

/-- A slice of no elements that is not nil. -/
theorem St.lit0 {P : Program} {t e s bs : Nat} {zs : List Value} {w0 w : World} {F : HP} {parts : Array (Nat × Value)} {K : Value → World → Prop} {θ : Tag K}
    (h : St w0 F w) (ht : rowTy P t = some (e, s, bs, zs)) (hp : parts = #[]) (hK : ∀ v w', St w0 (RowO e s v 0 [] * F) w' → K v w') : semD P (kBuildSlice t 0 parts) w K θ := by
  show semD P (Instr.buildSlice t 0 parts) w K θ
  subst hp
  obtain ⟨hu, i, z, hi, hz, rfl, rfl, hzs, rfl⟩ := rowTy_some ht
  refine ⟨.slice (some ⟨w.heap.size, 0, none⟩) 0 0, w.alloc (.cells #[] e), ?_, hK _ _ ((h.alloc _).ent (Ent.sep (Ent.of fun k hk => .inr ⟨w.heap.size, 0, 0, #[], rfl, hk, Nat.le_refl _, by simp [maxLen], by simp, by simp, by simp⟩) (Ent.rfl' F)))⟩
  unfold Instr.buildSlice
  simp only [Sem.run_bind, run_underlying' hu, Result.andThen_ok, run_sizeOf' hi, Nat.zero_mul, if_neg (show ¬ (0 > 2 ^ 24) by omega), if_true, Sem.run_pure]
  have hf : Instr.fill (fun i_1 => some (i_1 * i.size, i.size)) (Array.map (fun x => (#[] : Array Value)[x % (#[] : Array Value).size]!) (Array.range 0)) ([] : List (Nat × Value)) = some #[] := by simp [Instr.fill]
  rw [hf]
  rfl

/-- A map's copy. -/
theorem St.copyMap {κ : Type} {enc : κ → Value} {b : Nat} {l : List (κ × Value)} {w0 w : World} {A : HP} {C : HP → HP} (h : St w0 A w) [i : Hole (.map b) A (MapP enc b l) C] :
    ∃ es clock, w.heap[b]? = some (.map es clock) ∧ St w0 (MapP enc w.heap.size l * A) (w.alloc (.map es clock)) := by
  obtain ⟨R, hR, h'⟩ := h.out (.map b)
  obtain ⟨es, clock, h1⟩ := MapP.open h'
  obtain ⟨hb, hm⟩ := MapE.heap h1
  exact ⟨es, clock, hb, (h.alloc _).ent (Ent.sep (Ent.of fun k hk => ⟨es, clock, hk, hm⟩) (Ent.rfl' A))⟩

/-! ### Loops by a rank that is not read off the world -/
theorem least_nat {p : Nat → Prop} (h : ∃ n, p n) : ∃ n, p n ∧ ∀ m, p m → n ≤ m := by
  obtain ⟨n, hn⟩ := h
  induction n using Nat.strongRecOn with
  | _ n ih =>
    by_cases hx : ∃ m, m < n ∧ p m
    · obtain ⟨m, hm, hp⟩ := hx
      exact ih m hm hp
    · refine ⟨n, hn, fun m hm => ?_⟩
      have : ¬ m < n := fun hlt => hx ⟨m, hlt, hm⟩
      omega
open Classical in
noncomputable def rankOf (I : Nat → FA → World → Prop) (e : FA) (w : World) : Nat := if h : ∃ n, I n e w then Classical.choose (least_nat h) else 0
theorem rank_min {I : Nat → FA → World → Prop} {e : FA} {w : World} (h : ∃ n, I n e w) : I (rankOf I e w) e w ∧ ∀ m, I m e w → rankOf I e w ≤ m := by
  unfold rankOf
  rw [dif_pos h]
  exact Classical.choose_spec (least_nat h)
theorem rank_down {I : Nat → FA → World → Prop} {e e' : FA} {w w' : World} {m : Nat} (h : I m e' w') (hm : m < rankOf I e w) : (∃ n, I n e' w') ∧ rankOf I e' w' < rankOf I e w :=
  ⟨⟨m, h⟩, Nat.lt_of_le_of_lt ((rank_min ⟨m, h⟩).2 m h) hm⟩
theorem loop_rank {P : Program} {c : Cd} {Q : Post} {e : FA} {w : World} {θ : Tag ((.loop c : Cd), Q, e, w)} (I : Nat → FA → World → Prop) (n : Nat) (h0 : I n e w)
    (h1 : ∀ e w, I (rankOf I e w) e w → cwE P c (loopP (fun e w => ∃ n, I n e w) (rankOf I) e w Q) e w) : cwE P (.loop c) Q e w θ :=
  loop_intro (fun e w => ∃ n, I n e w) (rankOf I) ⟨n, h0⟩ fun e w h => h1 e w (rank_min h).1

/-- make, of no elements, with room. -/
theorem St.make0 {P : Program} {w0 w : World} {F : HP} {t e s bs c : Nat} {zs : List Value} {K : Value → World → Prop} {θ : Tag K} (h : St w0 F w) (ht : rowTy P t = some (e, s, bs, zs)) (hc : c * s ≤ 16777216) (hcm : c ≤ 16777216) (hb : bs * c ≤ 281474976710656)
    (hK : ∀ v w', St w0 (RowO e s v 0 [] * F) w' → K v w') : semD P (kMakeSlice t (.int .i64 0) (.int .i64 c)) w K θ := by
  show semD P (Instr.makeSlice t (.int .i64 0) (.int .i64 c)) w K θ
  obtain ⟨hu, i, zv, hi, hz, hsz, hbs, hzs, hzc⟩ := rowTy_some ht
  have hb2 : (bs : Int) * c ≤ 281474976710656 := by
    have : ((bs * c : Nat) : Int) ≤ 281474976710656 := by omega
    rwa [Int.natCast_mul] at this
  have hr := run_makeSlice (P := P) (w := w) t e i zv hu hi hz .i64 .i64 0 c (by omega) (by omega) (by rw [hsz]; simp; omega) (by rw [hbs]; exact hb2) (by omega)
  simp only [Int.toNat_natCast, Int.toNat_zero, hsz] at hr
  refine ⟨_, _, hr, hK _ _ ((h.alloc _).ent (Ent.sep (Ent.of fun k hk => .inr ⟨w.heap.size, 0, c, madeCells zv.cells (c * s), rfl, hk, Nat.zero_le _, by simp only [maxLen]; omega, by simp [madeCells], by simp, by simp⟩) (Ent.rfl' F)))⟩

end Go.Proofs.YtkijkoakloacoaaGreatDoor
