/- The law of walks in a tree: a clean list of parts leads where the list itself leads. -/
import Derived.Test.YtlnlomjdooobdaaDoorNlA
namespace Go.Proofs.YtlnlomjdooobdaaDoor
open Go
set_option linter.unusedVariables false
set_option linter.unusedSimpArgs false

/-! ### Where parts lead in a tree -/

def leadF (up : Nat → Nat) (child : Nat → List UInt8 → Option Nat) : Nat → List (List UInt8) → Option Nat
  | n, [] => some n
  | n, p :: ps => if p = [46, 46] then leadF up child (up n) ps else (child n p).bind fun y => leadF up child y ps
section
variable {up : Nat → Nat} {child : Nat → List UInt8 → Option Nat}
theorem leadF_append : ∀ (a b : List (List UInt8)) (n : Nat), leadF up child n (a ++ b) = (leadF up child n a).bind fun y => leadF up child y b
  | [], b, n => rfl
  | p :: a, b, n => by
    rw [List.cons_append, leadF, leadF]
    by_cases e : p = [46, 46]
    · rw [if_pos e, if_pos e, leadF_append a b]
    · rw [if_neg e, if_neg e]
      cases child n p with
      | none => rfl
      | some y => exact leadF_append a b y
theorem leadF_step {r : Bool} {n y z : Nat} {acc : List (List UInt8)} {p : List UInt8} (hr : r = true → n = 0) (h0 : up 0 = 0) (hc : ∀ m q k, child m q = some k → up k = m)
    (hk : okC r acc) (h : leadF up child n acc = some y) (hz : leadF up child y [p] = some z) : leadF up child n (stepF r acc p) = some z := by
  by_cases e : p = [46, 46]
  · subst e
    have hz : up y = z := by simpa [leadF] using hz
    by_cases e1 : acc ≠ [] ∧ acc.getLast? ≠ some [46, 46]
    · rw [stepF_back rfl e1.1 e1.2]
      have hd := List.dropLast_concat_getLast e1.1
      have hl : acc.getLast e1.1 ≠ [46, 46] := by
        intro e'
        exact e1.2 (by rw [List.getLast?_eq_some_getLast e1.1, e'])
      rw [← hd, leadF_append] at h
      obtain ⟨m, hm, h2⟩ := Option.bind_eq_some_iff.1 h
      rw [leadF, if_neg hl] at h2
      obtain ⟨k, hk1, hk2⟩ := Option.bind_eq_some_iff.1 h2
      have : k = y := by simpa [leadF] using hk2
      subst this
      rw [hm, ← hz, hc _ _ _ hk1]
    · rw [stepF_up rfl e1]
      cases r with
      | true =>
        rcases last_of e1 with rfl | ⟨a, rfl⟩
        · have : n = y := by simpa [leadF] using h
          subst this
          rw [if_pos rfl, leadF, ← hz, hr rfl, h0]
        · exact absurd rfl (okC_true hk [46, 46] (by simp))
      | false =>
        rw [if_neg (by simp), leadF_append, h]
        simpa [leadF] using hz
  · rw [stepF_new e, leadF_append, h]
    exact hz
theorem leadF_fold {r : Bool} {n x : Nat} (hr : r = true → n = 0) (h0 : up 0 = 0) (hc : ∀ m q k, child m q = some k → up k = m) : ∀ (ps : List (List UInt8)) {acc : List (List UInt8)} {y : Nat}, okC r acc → (∀ p ∈ ps, Part p) →
    leadF up child n acc = some y → leadF up child y ps = some x → leadF up child n (ps.foldl (stepF r) acc) = some x
  | [], acc, y, _, _, h, hx => by rw [leadF] at hx; obtain rfl := Option.some.inj hx; exact h
  | p :: ps, acc, y, hk, hp, h, hx => by
    rw [← List.singleton_append, leadF_append] at hx
    obtain ⟨z, hz, hx⟩ := Option.bind_eq_some_iff.1 hx
    exact leadF_fold hr h0 hc ps (okC_step hk (hp p (by simp))) (fun q hq => hp q (by simp [hq])) (leadF_step hr h0 hc hk h hz) hx
theorem lead_law {r : Bool} {n x : Nat} {ps : List (List UInt8)} (hr : r = true → n = 0) (h0 : up 0 = 0) (hc : ∀ m q k, child m q = some k → up k = m) (hp : ∀ p ∈ ps, Part p) (h : leadF up child n ps = some x) : leadF up child n (redF r ps) = some x :=
  leadF_fold hr h0 hc ps (acc := []) trivial hp rfl h
end
end Go.Proofs.YtlnlomjdooobdaaDoor
