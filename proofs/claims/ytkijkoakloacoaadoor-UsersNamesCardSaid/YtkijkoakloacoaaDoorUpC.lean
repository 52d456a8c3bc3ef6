/- Maps whose keys are texts, or pairs of texts. -/
import Derived.Test.YtkijkoakloacoaaDoorUs
import Derived.Test.YtkijkoakloacoaaDoorMaps
import Derived.Test.YtkijkoakloacoaaDoorFx
namespace Go.Proofs.YtkijkoakloacoaaDoor
open Go
set_option linter.unusedVariables false
set_option linter.unusedSimpArgs false

theorem ixOf_sv (x : List UInt8) : ∀ (ks : List (List UInt8 × Value)) (i : Nat), ixOf (strOf x) (ks.map fun p => (strOf p.1, p.2)) i = ixOf x ks i
  | [], _ => rfl
  | (y, v) :: ks, i => by
    simp only [List.map_cons, ixOf]
    by_cases e : x = y
    · rw [if_pos e, if_pos (by rw [e])]
    · rw [if_neg e, if_neg (fun h => e (strOf_inj.1 h)), ixOf_sv x ks]
theorem KeyLaw.txt {P : Program} {kt : TypeId} (hu : P.underlying kt = some .string) : KeyLaw P kt sv := by
  have h := KeyLaw.str hu
  refine ⟨fun b w x => h.check b w (strOf x), fun w x l ks hl => ?_, fun x => h.same (strOf x)⟩
  have := h.find w (strOf x) l (ks.map fun p => (strOf p.1, p.2)) (by rw [hl, List.map_map]; rfl)
  rw [ixOf_sv] at this
  exact this
abbrev Pr := List UInt8 × List UInt8
def encPr (x : Pr) : Value := .agg #[sv x.1, sv x.2]
theorem KeyLaw.pair {P : Program} {kt : TypeId} (hk : flatE P kt = some [.str, .str]) : KeyLaw P kt encPr := by
  refine KeyLaw.agg (enc := fun x : Pr => [sv x.1, sv x.2]) hk fun x y => ?_
  simp only [leafEq]
  simp only [leafEq, Option.map_some, strOf_toList]
  obtain ⟨a, b⟩ := x
  obtain ⟨c, d⟩ := y
  simp only [Bool.and_true, Option.some.injEq, Prod.mk.injEq, strEq_beq, Bool.decide_and]

/-! ### Looked up behind a row of writings -/
section
variable {κ : Type} [DecidableEq κ]
theorem lk_upd (x y : κ) (v : Value) : ∀ l : List (κ × Value), lk x (upd y v l) = if x = y then some v else lk x l
  | [] => by simp [upd, lk]
  | (z, u) :: l => by
    by_cases h : y = z
    · subst h
      simp only [upd, if_true, lk]
      split <;> rfl
    · simp only [upd, h, if_false, lk, lk_upd x y v l]
      by_cases hx : x = z
      · have : ¬ x = y := fun e => h (by rw [← e, hx])
        simp [hx, Ne.symm h]
      · simp [hx]
theorem lk_isSome {x : κ} {l : List (κ × Value)} : (lk x l).isSome = true ↔ x ∈ l.map (·.1) := by
  induction l with
  | nil => simp [lk]
  | cons p l ih =>
    obtain ⟨y, v⟩ := p
    by_cases h : x = y
    · simp [lk, h]
    · simp only [lk, h, if_false, ih, List.map_cons, List.mem_cons, false_or]
end
end Go.Proofs.YtkijkoakloacoaaDoor
