/- The tags package: the law of each act. -/
import Derived.Test.YteefkhfmpcaccaaTgQ
import Derived.Test.YteefkhfmpcaccaaSrt0
namespace Go.Proofs.Yteefkhfmpcaccaa
open Go
set_option linter.unusedSimpArgs false
set_option linter.unusedVariables false

structure RunP (t : TbD) (l : List Thing) (h : List Int) (sd : Int) (n : Nat) (f : Nat → Ab) (B : List Nat) : Prop where
  ai : AI n f B
  rl : Rl t n f B
  lr : Lr l h n f
  sd : sd = (t.row.filter fun r => !r.fr).length
  n1 : 1 ≤ n
  few : t.tags.length ≤ 8

def takenN (h : List Int) : Nat := h.countP fun v => decide (0 ≤ v)

section
variable {t : TbD} {l : List Thing} {h : List Int} {sd : Int} {n : Nat} {f : Nat → Ab} {B : List Nat}

theorem RunP.holder (r : RunP t l h sd n f B) {g : Nat} (hg : g < 16) : (h[g]? = some (-1) ∧ agt (g : Int) t.tags = none ∧ ∀ k, k < n → (f k).ph.inT = true → (f k).tag ≠ g) ∨ ∃ k, k < n ∧ h[g]? = some (k : Int) ∧ (f k).ph.inT = true ∧ (f k).tag = g ∧ agt (g : Int) t.tags = some ((k : Int) + 1) := by
  rcases r.lr.ho g hg with ⟨a, b⟩ | ⟨k, a, b, c, d⟩
  · exact .inl ⟨a, r.rl.noTag b, b⟩
  · exact .inr ⟨k, a, b, c, d, (r.rl.tgs _ _).2 ⟨k, a, c, d, rfl⟩⟩

theorem countP_range (h : List Int) : h.countP (fun v => decide (0 ≤ v)) = ((List.range h.length).filter fun g => decide (0 ≤ (h[g]?).getD (-1))).length := by
  rw [← List.countP_eq_length_filter]
  have : h = (List.range h.length).map fun g => (h[g]?).getD (-1) := by
    apply List.ext_getElem?
    intro i
    by_cases hi : i < h.length
    · simp [hi]
    · rw [List.getElem?_eq_none (by omega), List.getElem?_eq_none (by simp; omega)]
  conv => lhs; rw [this]
  rw [List.countP_map]
  rfl
theorem RunP.taken (r : RunP t l h sd n f B) : takenN h = t.tags.length := by
  unfold takenN
  rw [countP_range, r.lr.hl]
  have p : (List.map (fun g : Nat => (g : Int)) ((List.range 16).filter fun g => decide (0 ≤ (h[g]?).getD (-1)))).Perm (t.tags.map (·.1)) := by
    refine (List.perm_ext_iff_of_nodup ?_ r.rl.ndT).2 fun a => ?_
    · refine List.Pairwise.map _ (fun a b h => by omega) (List.nodup_range.filter _)
    · rw [← agt_isSome_iff]
      simp only [List.mem_map, List.mem_filter, List.mem_range, decide_eq_true_eq]
      constructor
      · rintro ⟨g, ⟨hg, h0⟩, rfl⟩
        rcases r.holder hg with ⟨a, _, _⟩ | ⟨k, _, _, _, _, e⟩
        · rw [a] at h0; simp at h0
        · rw [e]; rfl
      · intro hs
        obtain ⟨v, hv⟩ := Option.isSome_iff_exists.1 hs
        obtain ⟨k, hk, hi, ht, _⟩ := (r.rl.tgs a v).1 hv
        have hb := r.ai.tg k hk
        rw [ht] at hb
        refine ⟨a.toNat, ⟨by omega, ?_⟩, by omega⟩
        rcases r.lr.ho a.toNat (by omega) with ⟨_, b⟩ | ⟨j, _, b, _, _⟩
        · exact absurd (by rw [ht]; omega) (b k hk hi)
        · rw [b]; exact Int.natCast_nonneg _
  have := p.length_eq
  simpa using this

/-- A tag that is taken, or eight are: refused. -/
theorem RunP.used (r : RunP t l h sd n f B) {g : Nat} (hg : g < 12) {k : Int} (hk : h[g]? = some k) (h0 : 0 ≤ k) : begE t g ((n : Int) + 1) = 140 := by
  have hl := r.rl.last
  rcases r.holder (g := g) (by omega) with ⟨a, _, _⟩ | ⟨j, _, _, _, _, e⟩
  · rw [a, Option.some.injEq] at hk; omega
  · unfold begE
    rw [if_neg (by omega), if_neg (by omega), e]
    rfl
theorem RunP.free_ (r : RunP t l h sd n f B) {g : Nat} (hg : g < 16) (hk : h[g]? = some (-1)) : agt (g : Int) t.tags = none ∧ ∀ k, k < n → (f k).ph.inT = true → (f k).tag ≠ g := by
  rcases r.holder hg with ⟨_, b, c⟩ | ⟨j, _, a, _⟩
  · exact ⟨b, c⟩
  · rw [a, Option.some.injEq] at hk; omega
theorem RunP.begE_free (r : RunP t l h sd n f B) {g : Nat} (hg : g < 12) (hk : h[g]? = some (-1)) : begE t g ((n : Int) + 1) = if takenN h = 8 then 141 else 0 := by
  have hl := r.rl.last
  obtain ⟨a, _⟩ := r.free_ (by omega) hk
  unfold begE
  rw [if_neg (by omega), if_neg (by omega), a, if_neg (by simp), r.taken]
  have := r.few
  by_cases e : t.tags.length = 8
  · rw [if_pos (by omega), if_pos e]
  · rw [if_neg (by omega), if_neg e]

theorem getElem?_set_int {α : Type} (l : List α) (i j : Nat) (v : α) (hi : i < l.length) : (l.set i v)[j]? = if j = i then some v else l[j]? := by
  rw [List.getElem?_set]
  by_cases e : j = i
  · subst e; simp [hi]
  · rw [if_neg (fun h => e h.symm), if_neg e]

/-- A thing more. -/
theorem Lr.add {f' : Nat → Ab} (r : Lr l h n f) {g : Nat} (hg : g < 16) {a : Ab} (hf : ∀ k, k < n → (f k).ph.inT = true → (f k).tag ≠ g) (ha : a.tag = g) (hi : a.ph.inT = true) (e : f' = setF f n a) : Lr (l ++ [thOf a]) (h.set g (n : Int)) (n + 1) f' := by
  subst e
  have old : ∀ k, k < n → setF f n a k = f k := fun k hk => setF_ne (by omega)
  have new : setF f n a n = a := setF_self _ _ _
  refine ⟨by rw [List.length_append, r.len]; rfl, ?_, by rw [List.length_set, r.hl], ?_⟩
  · intro k hk
    by_cases q : k < n
    · rw [List.getElem?_append_left (by rw [r.len]; exact q), old k q, r.at_ k q]
    · have : k = n := by omega
      subst this
      rw [List.getElem?_append_right (by rw [r.len]; exact Nat.le_refl _), r.len, new]
      simp
  · intro g' hg'
    rw [getElem?_set_int _ _ _ _ (by rw [r.hl]; exact hg)]
    by_cases q : g' = g
    · rw [if_pos q]
      exact .inr ⟨n, by omega, rfl, by rw [new]; exact hi, by rw [new, ha, q]⟩
    · rw [if_neg q]
      rcases r.ho g' hg' with ⟨b, c⟩ | ⟨k, b, c, d, i⟩
      · refine .inl ⟨b, fun k hk hi' => ?_⟩
        by_cases z : k < n
        · rw [old k z] at hi' ⊢; exact c k z hi'
        · have : k = n := by omega
          subst this
          rw [new, ha]
          omega
      · exact .inr ⟨k, by omega, c, by rw [old k b]; exact d, by rw [old k b]; exact i⟩
/-- A thing is another one now. -/
theorem Lr.set_ {f' : Nat → Ab} (r : Lr l h n f) {k : Nat} (hk : k < n) (hs : ∀ j, j ≠ k → f' j = f j) (ht : (f' k).tag = (f k).tag) (hi : (f' k).ph.inT = (f k).ph.inT) : Lr (l.set k (thOf (f' k))) h n f' := by
  refine ⟨by rw [List.length_set, r.len], ?_, r.hl, ?_⟩
  · intro j hj
    rw [getElem?_set_int _ _ _ _ (by rw [r.len]; exact hk)]
    by_cases q : j = k
    · rw [if_pos q, q]
    · rw [if_neg q, hs j q, r.at_ j hj]
  · intro g hg
    have e : ∀ j, (f' j).ph.inT = (f j).ph.inT ∧ (f' j).tag = (f j).tag := by
      intro j
      by_cases q : j = k
      · subst q; exact ⟨hi, ht⟩
      · rw [hs j q]; exact ⟨rfl, rfl⟩
    rcases r.ho g hg with ⟨b, c⟩ | ⟨j, b, c, d, i⟩
    · exact .inl ⟨b, fun j hj h => by rw [(e j).1] at h; rw [(e j).2]; exact c j hj h⟩
    · exact .inr ⟨j, b, c, by rw [(e j).1]; exact d, by rw [(e j).2]; exact i⟩
/-- Things that look alike. -/
theorem Lr.alike {f' : Nat → Ab} (r : Lr l h n f) (hs : ∀ j, j < n → thOf (f' j) = thOf (f j) ∧ (f' j).ph.inT = (f j).ph.inT) : Lr l h n f' := by
  refine ⟨r.len, fun j hj => by rw [r.at_ j hj, (hs j hj).1], r.hl, ?_⟩
  have tg : ∀ j, j < n → (f' j).tag = (f j).tag := fun j hj => congrArg Thing.tag (hs j hj).1
  intro g hg
  rcases r.ho g hg with ⟨b, c⟩ | ⟨j, b, c, d, i⟩
  · exact .inl ⟨b, fun j hj h => by rw [(hs j hj).2] at h; rw [tg j hj]; exact c j hj h⟩
  · exact .inr ⟨j, b, c, by rw [(hs j b).2]; exact d, by rw [tg j b]; exact i⟩
/-- A thing leaves its tag. -/
theorem Lr.leave {f' : Nat → Ab} (r : Lr l h n f) (u : ∀ j k, j < n → k < n → (f j).ph.inT = true → (f k).ph.inT = true → (f j).tag = (f k).tag → j = k) {k : Nat} {g : Nat} (hk : k < n) (hg : g < 16) (hs : ∀ j, j ≠ k → f' j = f j) (hkt : (f k).tag = g) (hi : (f k).ph.inT = true) (hi' : (f' k).ph.inT = false) :
    Lr (l.set k (thOf (f' k))) (h.set g (-1)) n f' := by
  refine ⟨by rw [List.length_set, r.len], ?_, by rw [List.length_set, r.hl], ?_⟩
  · intro j hj
    rw [getElem?_set_int _ _ _ _ (by rw [r.len]; exact hk)]
    by_cases q : j = k
    · rw [if_pos q, q]
    · rw [if_neg q, hs j q, r.at_ j hj]
  · intro g' hg'
    rw [getElem?_set_int _ _ _ _ (by rw [r.hl]; exact hg)]
    by_cases q : g' = g
    · rw [if_pos q]
      refine .inl ⟨rfl, fun j hj h e => ?_⟩
      have hjk : j ≠ k := fun q => by rw [q, hi'] at h; cases h
      rw [hs j hjk] at h e
      exact hjk (u j k hj hk h hi (by rw [e, hkt, q]))
    · rw [if_neg q]
      rcases r.ho g' hg' with ⟨b, c⟩ | ⟨j, b, c, d, i⟩
      · refine .inl ⟨b, fun j hj h => ?_⟩
        have hjk : j ≠ k := fun q => by rw [q, hi'] at h; cases h
        rw [hs j hjk] at h ⊢
        exact c j hj h
      · have hjk : j ≠ k := fun z => q (by rw [z, hkt] at i; omega)
        exact .inr ⟨j, b, c, by rw [hs j hjk]; exact d, by rw [hs j hjk]; exact i⟩
theorem Lr.holds (r : Lr l h n f) (u : ∀ j k, j < n → k < n → (f j).ph.inT = true → (f k).ph.inT = true → (f j).tag = (f k).tag → j = k) {k g : Nat} (hk : k < n) (hg : g < 16) (hkt : (f k).tag = g) : h[g]? = some (k : Int) ↔ (f k).ph.inT = true := by
  rcases r.ho g hg with ⟨b, c⟩ | ⟨j, b, c, d, i⟩
  · rw [b]
    constructor
    · intro e; rw [Option.some.injEq] at e; omega
    · intro e; exact absurd hkt (c k hk e)
  · rw [c]
    constructor
    · intro e; have : j = k := by rw [Option.some.injEq] at e; omega
      subst this; exact d
    · intro e; rw [u j k b hk d e (i.trans hkt.symm)]

theorem aset_new_length {α : Type} {x : Int} {v : α} : ∀ {l : List (Int × α)}, agt x l = none → (aset x v l).length = l.length + 1
  | [], _ => rfl
  | (y, u) :: l, q => by
    simp only [agt] at q
    split at q
    · cases q
    · rename_i z
      simp only [aset, if_neg z, List.length_cons, aset_new_length q]
theorem RunP.fewer (r : RunP t l h sd n f B) {g v : Int} (ha : agt g t.tags = none) (h8 : takenN h ≠ 8) : (aset g v t.tags).length ≤ 8 := by
  have := r.few
  have := r.taken
  rw [aset_new_length ha]
  omega

/-- A request is begun. -/
theorem RunP.begin (r : RunP t l h sd n f B) {g : Nat} (hg : g < 12) (hk : h[g]? = some (-1)) (h8 : takenN h ≠ 8) : RunP (begS t ((n : Int) + 1) ⟨g, 1, false, 0, 0⟩) (l ++ [⟨g, false, -1, false, false, false, false⟩]) (h.set g (n : Int)) sd (n + 1) (setF f n ⟨g, none, .op⟩) B := by
  obtain ⟨ha, hf⟩ := r.free_ (by omega) hk
  have e1 : ((n + 1 : Nat) : Int) = (n : Int) + 1 := by omega
  have hb := Rl.beg (a := ⟨g, none, .op⟩) (o := ⟨g, 1, false, 0, 0⟩) (fun k y hk h => (r.ai.nm k y hk h).1) r.rl hf rfl rfl rfl ⟨by rw [setF_self], by rw [setF_self]; rfl, by rw [setF_self]; intro h; (cases h), by unfold frOf; rw [setF_self]⟩
  rw [e1] at hb
  refine ⟨r.ai.begin ⟨by omega, by omega⟩ hf, hb, Lr.add (a := ⟨g, none, .op⟩) r.lr (by omega) hf rfl rfl rfl, r.sd, by omega, ?_⟩
  exact r.fewer ha h8
end

end Go.Proofs.Yteefkhfmpcaccaa
