/- The law of Under. -/
import Derived.Test.YtlnlomjdooobdaaDoorNlA
namespace Go.Proofs.YtlnlomjdooobdaaDoor
open Go
set_option linter.unusedVariables false
set_option linter.unusedSimpArgs false

/-! ### What lies below -/

theorem pcs_append : ∀ (a b : List UInt8), pcs (a ++ 47 :: b) = pcs a ++ pcs b
  | [], b => by simp [pcs]
  | c :: a, b => by
    rw [List.cons_append, pcs, pcs_append a b]
    by_cases e : c = 47
    · rw [if_pos e, pcs, if_pos e]; rfl
    · rw [if_neg e, pcs, if_neg e]
      cases h : pcs a with
      | nil => exact absurd h (pcs_ne a)
      | cons p ps => rfl
theorem partsF_append : ∀ (a b : List (List UInt8)) {x y : List (List UInt8)}, partsF a = some x → partsF b = some y → partsF (a ++ b) = some (x ++ y)
  | [], b, x, y, ha, hb => by cases ha; exact hb
  | p :: a, b, x, y, ha, hb => by
    rw [List.cons_append]
    by_cases h0 : p = [] ∨ p = [46]
    · rw [partsF_skip h0] at ha ⊢; exact partsF_append a b ha hb
    · by_cases h1 : p = [46, 46] ∨ okName p = true
      · rw [partsF_take h0 h1] at ha ⊢
        obtain ⟨x', hx, rfl⟩ := Option.map_eq_some_iff.1 ha
        rw [partsF_append a b hx hb]; rfl
      · rw [partsF_bad h0 h1] at ha; cases ha
theorem joinP_ne (r : Bool) {q : List (List UInt8)} (h : ∀ p ∈ q, Part p) : joinP r q ≠ [] := by
  unfold joinP
  cases r with
  | true => simp
  | false =>
    rw [if_neg (by simp)]
    cases q with
    | nil => simp
    | cons p q =>
      rw [if_neg (by simp), joinL, Lib.join_cons]
      have := (h p (by simp)).facts.1
      simp [this]
theorem rooted_append {a : List UInt8} (b : List UInt8) (h : a ≠ []) : rooted (a ++ b) = rooted a := by
  cases a with
  | nil => exact absurd rfl h
  | cons c a => simp [rooted, List.isPrefixOf]
theorem okC_names : ∀ {q b : List (List UInt8)} {r : Bool}, okC r q → (∀ p ∈ b, okName p = true) → okC r (q ++ b)
  | [], [], r, _, _ => trivial
  | [], p :: b, r, _, hb => ⟨.inr (hb p (by simp)), fun h => (okName_facts (hb p (by simp))).2.2.1 h.1, by
      exact okC_names (q := []) trivial fun x hx => hb x (by simp [hx])⟩
  | p :: q, b, r, h, hb => ⟨h.1, h.2.1, okC_names h.2.2 hb⟩
theorem clean_of {r : Bool} {q : List (List UInt8)} (h : okC r q) : cleanF (joinP r q) = some (joinP r q) ∧ splitF (joinP r q) = some q ∧ rooted (joinP r q) = r := by
  have h1 := split_join r q (okC_parts h)
  have h2 := rooted_join r q (okC_parts h)
  exact ⟨by rw [cleanF, h1, h2, Option.map_some, red_self h], h1, h2⟩
theorem under_below {r : Bool} {q b : List (List UInt8)} (h : okC r q) (hb : ∀ p ∈ b, okName p = true) : underF (joinP r q) (joinP r (q ++ b)) = some (joinP false b) := by
  obtain ⟨h1, h2, h3⟩ := clean_of h
  obtain ⟨k1, k2, k3⟩ := clean_of (okC_names h hb)
  rw [underF, if_pos ⟨h1, k1⟩, h2, k2, h3, k3]
  simp only [Option.getD_some, restF]
  rw [if_pos]
  · simp
  · refine ⟨trivial, by simp, by simp, ?_⟩
    cases b with
    | nil => simp
    | cons p b =>
      have := (okName_facts (hb p (by simp))).2.2.1
      simpa using this
theorem joinL_drop : ∀ (n : Nat) (po : List (List UInt8)), (joinL (po.drop n)).length ≤ (joinL po).length
  | 0, po => by simp
  | n + 1, [] => by simp
  | n + 1, p :: po => by
    rw [List.drop_succ_cons]
    refine Nat.le_trans (joinL_drop n po) ?_
    cases po with
    | nil => simp [joinL, Lib.join_nil]
    | cons p' po => rw [joinL_two]; simp; omega
theorem under_back {r : Bool} {q : List (List UInt8)} {other t : List UInt8} (h : okC r q) (ht : underF (joinP r q) other = some t) : cleanF (joinP r q ++ 47 :: t) = some other ∧ t.length ≤ other.length + 1 := by
  obtain ⟨h1, h2, h3⟩ := clean_of h
  rw [underF] at ht
  by_cases ho : cleanF other = some other
  · rw [if_pos ⟨h1, ho⟩, h2, h3] at ht
    obtain ⟨ps, po, k1, k2, k3, k4, k5, k6, k7⟩ := clean_law ho
    rw [k5] at ht
    simp only [Option.getD_some, restF] at ht
    split at ht
    · rename_i c
      obtain ⟨c1, c2, c3, c4⟩ := c
      obtain rfl := Option.some.inj ht
      have hpo : q ++ po.drop q.length = po := by
        have := List.take_append_drop q.length po
        rwa [← c3] at this
      have hp := okC_parts k4
      have hd : ∀ p ∈ po.drop q.length, Part p := fun p hp' => hp p (List.mem_of_mem_drop hp')
      have hs := split_join false _ hd
      constructor
      · have e : splitF (joinP r q ++ 47 :: joinP false (po.drop q.length)) = some po := by
          rw [splitF, pcs_append, partsF_append _ _ h2 hs, hpo]
        rw [cleanF, e, rooted_append _ (joinP_ne r (okC_parts h)), h3, Option.map_some, c1, red_self k4, ← k3]
      · rw [k3]
        have key := joinL_drop q.length po
        unfold joinP
        rw [if_neg (by simp)]
        split
        · simp
        · split
          · simp; omega
          · split
            · rename_i a b c; exact absurd (by rw [c]; simp) a
            · omega
    · cases ht
  · rw [if_neg (fun c => ho c.2)] at ht; cases ht
end Go.Proofs.YtlnlomjdooobdaaDoor
