/- part 13 -/
import Derived.Test.YtljndiligbaljaaZ1
import Derived.Test.YtljndiligbaljaaZ2
import Derived.Test.YtljndiligbaljaaZ3
import Derived.Test.YtljndiligbaljaaZ4
import Derived.Test.YtljndiligbaljaaZ5
import Derived.Test.YtljndiligbaljaaZ6
import Derived.Test.YtljndiligbaljaaZ7
import Derived.Test.YtljndiligbaljaaZ8
import Derived.Test.YtljndiligbaljaaZ9
import Derived.Test.YtljndiligbaljaaZ10
import Derived.Test.YtljndiligbaljaaZ11
import Derived.Test.YtljndiligbaljaaZ12
import Derived.Laws.IdiomStrings
import Derived.Below
import Derived.WalkKit
namespace Go.Proofs.Ytljndiligbaljaa
open Go
set_option linter.unusedSimpArgs false
set_option linter.unusedVariables false
set_option maxRecDepth 100000
def gF (n : Int) (l : TL) : FidD := (agt n l).getD zFid
def gE (n : Int) (l : TL) : Int := if (agt n l).isSome = true then 0 else 100
theorem zF_ok : Okf (zF, zFid) := ⟨rfl, by decide⟩
section
variable {w0 w : World} {F : HP} {B P K tB rB N : Nat} {most n : Int} {l : TL} {v : Value} {o : OpD}
theorem get_u (h : St w0 (TabP B most l * F) w) :
    Calls Try.prog 30 #[.pointer (some ⟨B, 0, none⟩), .int .u32 n] w fun e w' => ∃ v', Okf (v', gF n l) ∧ St w0 (HeardP (v', gF n l) * (TabP B most l * F)) w' ∧ e = .returned (.tuple #[fdV (v', gF n l), .int .i64 (gE n l)]) := by
  unfold gF gE
  cases hg : agt n l with
  | none =>
    refine (get_none h hg).mono ?_
    rintro e w1 ⟨h1, rfl⟩
    exact ⟨zF, zF_ok, h1.ent (Ent.nilRowO _ _ _), rfl⟩
  | some f =>
    refine (get_some h hg).mono ?_
    rintro e w1 ⟨v', h0, h1, rfl⟩
    exact ⟨v', h0, h1, rfl⟩
theorem rget_u (h : St w0 (RefT B most l * F) w) :
    Calls Try.prog 42 #[.pointer (some ⟨B, 0, none⟩), .int .u32 n] w fun e w' => ∃ v', Okf (v', gF n l) ∧ St w0 (HeardP (v', gF n l) * (RefT B most l * F)) w' ∧ e = .returned (.tuple #[fdV (v', gF n l), .int .i64 (gE n l)]) := by
  unfold gF gE
  cases hg : agt n l with
  | none =>
    refine (rget_none h hg).mono ?_
    rintro e w1 ⟨h1, rfl⟩
    exact ⟨zF, zF_ok, h1.ent (Ent.nilRowO _ _ _), rfl⟩
  | some f =>
    refine (rget_some h hg).mono ?_
    rintro e w1 ⟨v', h0, h1, rfl⟩
    exact ⟨v', h0, h1, rfl⟩
theorem take_u (h : St w0 (TabP B most l * F) w) :
    Calls Try.prog 33 #[.pointer (some ⟨B, 0, none⟩), .int .u32 n] w fun e w' => ∃ v', Okf (v', gF n l) ∧ St w0 (HeardP (v', gF n l) * (TabP B most (adel n l) * F)) w' ∧ e = .returned (.tuple #[fdV (v', gF n l), .int .i64 (gE n l)]) := by
  unfold gF gE
  cases hg : agt n l with
  | none =>
    refine (take_none h hg).mono ?_
    rintro e w1 ⟨h1, rfl⟩
    rw [adel_none hg]
    exact ⟨zF, zF_ok, h1.ent (Ent.nilRowO _ _ _), rfl⟩
  | some f =>
    refine (take_some h hg).mono ?_
    rintro e w1 ⟨v', h0, h1, rfl⟩
    exact ⟨v', h0, h1, rfl⟩
theorem rtake_u (h : St w0 (RefT B most l * F) w) :
    Calls Try.prog 45 #[.pointer (some ⟨B, 0, none⟩), .int .u32 n] w fun e w' => ∃ v', Okf (v', gF n l) ∧ St w0 (HeardP (v', gF n l) * (RefT B most (adel n l) * F)) w' ∧ e = .returned (.tuple #[fdV (v', gF n l), .int .i64 (gE n l)]) := by
  unfold gF gE
  cases hg : agt n l with
  | none =>
    refine (rtake_none h hg).mono ?_
    rintro e w1 ⟨h1, rfl⟩
    rw [adel_none hg]
    exact ⟨zF, zF_ok, h1.ent (Ent.nilRowO _ _ _), rfl⟩
  | some f =>
    refine (rtake_some h hg).mono ?_
    rintro e w1 ⟨v', h0, h1, rfl⟩
    exact ⟨v', h0, h1, rfl⟩
theorem gF_sort (h : (l.map (·.1)).Nodup) : gF n (sortK l) = gF n l := by unfold gF; rw [agt_sortK h]
theorem gE_sort (h : (l.map (·.1)).Nodup) : gE n (sortK l) = gE n l := by unfold gE; rw [agt_sortK h]
section
attribute [local go_sem] F24.t7_eq F24.t5_eq F24.t4_eq F24.t15_eq F24.t14_eq F24.t11_eq F24.t22_eq
theorem step_r3 {X : Nat} {G : HP} {e : FA} {Q : Post} (e0 : e.ρ 0 = .pointer (some ⟨P, 0, none⟩)) (e4 : e.ρ 4 = .pointer (some ⟨X, 0, none⟩))
    (h : St w0 (TabP tB most l * (Blk X (opB (v, o)) * (Blk P (pairB tB rB) * G))) w)
    (hQ : ∀ T v1 e' w', Okf (v1, gF o.n l) → (e'.ds = e.ds ∧ e'.ρ 0 = e.ρ 0 ∧ e'.ρ 2 = e.ρ 2 ∧ e'.ρ 4 = e.ρ 4 ∧ e'.ρ 6 = e.ρ 6) → e'.ρ 7 = .pointer (some ⟨T, 0, none⟩) → e'.ρ 8 = .int .i64 (gE o.n l) →
      St w0 (Blk T (fidB v1 (gF o.n l)) * (HeardP (v1, gF o.n l) * (TabP tB most l * (Blk X (opB (v, o)) * (Blk P (pairB tB rB) * G))))) w' → Q .normal e' w') :
    cwE Try.prog (.tree F24.r3) Q e w := by
  have h2 := h.drew
  have x1 : w.cell? ⟨X, 1, none⟩ = some (.int .u32 o.n) := h.cl X 1
  have y1 : w.drew.cell? ⟨X, 1, none⟩ = some (.int .u32 o.n) := h2.cl X 1
  simp -dsimp -implicitDefEqProofs (disch := omega) only [go_sem, e0, e4, x1, y1, h.cl P, h2.cl P]
  refine ⟨?_, ?_⟩
  · refine (get_u (n := o.n) h2).mono ?_
    rintro e' w2 ⟨v1, ok1, h4, rfl⟩
    have z1 : w2.cell? ⟨X, 1, none⟩ = some (.int .u32 o.n) := h4.cl X 1
    simp -dsimp -implicitDefEqProofs (disch := omega) only [go_sem, e0, e4, z1, h4.cl P]
    refine h4.new fun T w3 h5 => ?_
    have z1 : w3.cell? ⟨X, 1, none⟩ = some (.int .u32 o.n) := h5.cl X 1
    simp -dsimp -implicitDefEqProofs (disch := omega) only [go_sem, e0, e4, z1, h5.cl P]
    refine h5.stoAll (b := T) (cs := fdC v1 (gF o.n l)) rfl rfl (fdC_cells ok1.1) fun w4 h6 => ?_
    have z1 : w4.cell? ⟨X, 1, none⟩ = some (.int .u32 o.n) := h6.cl X 1
    simp -dsimp -implicitDefEqProofs (disch := omega) only [go_sem, e0, e4, z1, h6.cl P]
    exact hQ T v1 _ _ ok1 ⟨by simp -dsimp -implicitDefEqProofs only [go_sem], by simp -dsimp -implicitDefEqProofs only [go_sem], by simp -dsimp -implicitDefEqProofs only [go_sem], by simp -dsimp -implicitDefEqProofs only [go_sem], by simp -dsimp -implicitDefEqProofs only [go_sem]⟩ (by simp -dsimp -implicitDefEqProofs only [go_sem]) (by simp -dsimp -implicitDefEqProofs only [go_sem]) h6
  · refine h2.new fun T w2 h3 => ?_
    have z1 : w2.cell? ⟨X, 1, none⟩ = some (.int .u32 o.n) := h3.cl X 1
    simp -dsimp -implicitDefEqProofs (disch := omega) only [go_sem, e0, e4, z1, h3.cl P]
    refine (get_u (n := o.n) (h3.ac (show _ = TabP tB most l * (Blk T (fidB zF zFid) * (Blk X (opB (v, o)) * (Blk P (pairB tB rB) * G))) by show Blk T (fidB zF zFid) * _ = _; ac_rfl))).mono ?_
    rintro e' w3 ⟨v1, ok1, h4, rfl⟩
    have z1 : w3.cell? ⟨X, 1, none⟩ = some (.int .u32 o.n) := h4.cl X 1
    simp -dsimp -implicitDefEqProofs (disch := omega) only [go_sem, e0, e4, z1, h4.cl P]
    refine h4.stoAll (b := T) (cs := fdC v1 (gF o.n l)) rfl rfl (fdC_cells ok1.1) fun w4 h6 => ?_
    have z1 : w4.cell? ⟨X, 1, none⟩ = some (.int .u32 o.n) := h6.cl X 1
    simp -dsimp -implicitDefEqProofs (disch := omega) only [go_sem, e0, e4, z1, h6.cl P]
    exact hQ T v1 _ _ ok1 ⟨by simp -dsimp -implicitDefEqProofs only [go_sem], by simp -dsimp -implicitDefEqProofs only [go_sem], by simp -dsimp -implicitDefEqProofs only [go_sem], by simp -dsimp -implicitDefEqProofs only [go_sem], by simp -dsimp -implicitDefEqProofs only [go_sem]⟩ (by simp -dsimp -implicitDefEqProofs only [go_sem]) (by simp -dsimp -implicitDefEqProofs only [go_sem]) (h6.ac (by show _ = Blk T (.cells (fdC v1 (gF o.n l)).toArray 43 (0, 0)) * _; ac_rfl))
end
section
attribute [local go_sem] F24.t7_eq F24.t5_eq F24.t4_eq F24.t15_eq F24.t14_eq F24.t11_eq F24.t22_eq
theorem step_r4 {X : Nat} {G : HP} {e : FA} {Q : Post} (hnd : (l.map (·.1)).Nodup) (e0 : e.ρ 0 = .pointer (some ⟨P, 0, none⟩)) (e4 : e.ρ 4 = .pointer (some ⟨X, 0, none⟩))
    (h : St w0 (RefT rB most (sortK l) * (Blk X (opB (v, o)) * (Blk P (pairB tB rB) * G))) w)
    (hQ : ∀ T v1 e' w', Okf (v1, gF o.n l) → (e'.ds = e.ds ∧ e'.ρ 0 = e.ρ 0 ∧ e'.ρ 2 = e.ρ 2 ∧ e'.ρ 4 = e.ρ 4 ∧ e'.ρ 6 = e.ρ 6 ∧ e'.ρ 7 = e.ρ 7 ∧ e'.ρ 8 = e.ρ 8) → e'.ρ 9 = .pointer (some ⟨T, 0, none⟩) → e'.ρ 10 = .int .i64 (gE o.n l) →
      St w0 (Blk T (fidB v1 (gF o.n l)) * (HeardP (v1, gF o.n l) * (RefT rB most (sortK l) * (Blk X (opB (v, o)) * (Blk P (pairB tB rB) * G))))) w' → Q .normal e' w') :
    cwE Try.prog (.tree F24.r4) Q e w := by
  have h2 := h.drew
  have x1 : w.cell? ⟨X, 1, none⟩ = some (.int .u32 o.n) := h.cl X 1
  have y1 : w.drew.cell? ⟨X, 1, none⟩ = some (.int .u32 o.n) := h2.cl X 1
  simp -dsimp -implicitDefEqProofs (disch := omega) only [go_sem, e0, e4, x1, y1, h.cl P, h2.cl P]
  refine ⟨?_, ?_⟩
  · refine (rget_u (n := o.n) h2).mono ?_
    rw [gF_sort hnd, gE_sort hnd]
    rintro e' w2 ⟨v1, ok1, h4, rfl⟩
    have z1 : w2.cell? ⟨X, 1, none⟩ = some (.int .u32 o.n) := h4.cl X 1
    simp -dsimp -implicitDefEqProofs (disch := omega) only [go_sem, e0, e4, z1, h4.cl P]
    refine h4.new fun T w3 h5 => ?_
    have z1 : w3.cell? ⟨X, 1, none⟩ = some (.int .u32 o.n) := h5.cl X 1
    simp -dsimp -implicitDefEqProofs (disch := omega) only [go_sem, e0, e4, z1, h5.cl P]
    refine h5.stoAll (b := T) (cs := fdC v1 (gF o.n l)) rfl rfl (fdC_cells ok1.1) fun w4 h6 => ?_
    have z1 : w4.cell? ⟨X, 1, none⟩ = some (.int .u32 o.n) := h6.cl X 1
    simp -dsimp -implicitDefEqProofs (disch := omega) only [go_sem, e0, e4, z1, h6.cl P]
    exact hQ T v1 _ _ ok1 ⟨by simp -dsimp -implicitDefEqProofs only [go_sem], by simp -dsimp -implicitDefEqProofs only [go_sem], by simp -dsimp -implicitDefEqProofs only [go_sem], by simp -dsimp -implicitDefEqProofs only [go_sem], by simp -dsimp -implicitDefEqProofs only [go_sem], by simp -dsimp -implicitDefEqProofs only [go_sem], by simp -dsimp -implicitDefEqProofs only [go_sem]⟩ (by simp -dsimp -implicitDefEqProofs only [go_sem]) (by simp -dsimp -implicitDefEqProofs only [go_sem]) h6
  · refine h2.new fun T w2 h3 => ?_
    have z1 : w2.cell? ⟨X, 1, none⟩ = some (.int .u32 o.n) := h3.cl X 1
    simp -dsimp -implicitDefEqProofs (disch := omega) only [go_sem, e0, e4, z1, h3.cl P]
    refine (rget_u (n := o.n) (h3.ac (show _ = RefT rB most (sortK l) * (Blk T (fidB zF zFid) * (Blk X (opB (v, o)) * (Blk P (pairB tB rB) * G))) by show Blk T (fidB zF zFid) * _ = _; ac_rfl))).mono ?_
    rw [gF_sort hnd, gE_sort hnd]
    rintro e' w3 ⟨v1, ok1, h4, rfl⟩
    have z1 : w3.cell? ⟨X, 1, none⟩ = some (.int .u32 o.n) := h4.cl X 1
    simp -dsimp -implicitDefEqProofs (disch := omega) only [go_sem, e0, e4, z1, h4.cl P]
    refine h4.stoAll (b := T) (cs := fdC v1 (gF o.n l)) rfl rfl (fdC_cells ok1.1) fun w4 h6 => ?_
    have z1 : w4.cell? ⟨X, 1, none⟩ = some (.int .u32 o.n) := h6.cl X 1
    simp -dsimp -implicitDefEqProofs (disch := omega) only [go_sem, e0, e4, z1, h6.cl P]
    exact hQ T v1 _ _ ok1 ⟨by simp -dsimp -implicitDefEqProofs only [go_sem], by simp -dsimp -implicitDefEqProofs only [go_sem], by simp -dsimp -implicitDefEqProofs only [go_sem], by simp -dsimp -implicitDefEqProofs only [go_sem], by simp -dsimp -implicitDefEqProofs only [go_sem], by simp -dsimp -implicitDefEqProofs only [go_sem], by simp -dsimp -implicitDefEqProofs only [go_sem]⟩ (by simp -dsimp -implicitDefEqProofs only [go_sem]) (by simp -dsimp -implicitDefEqProofs only [go_sem]) (h6.ac (by show _ = Blk T (.cells (fdC v1 (gF o.n l)).toArray 43 (0, 0)) * _; ac_rfl))
end
section
attribute [local go_sem] F24.t7_eq F24.t5_eq F24.t4_eq F24.t15_eq F24.t14_eq F24.t11_eq F24.t22_eq
theorem step_r6 {X : Nat} {G : HP} {e : FA} {Q : Post} (e0 : e.ρ 0 = .pointer (some ⟨P, 0, none⟩)) (e4 : e.ρ 4 = .pointer (some ⟨X, 0, none⟩))
    (h : St w0 (TabP tB most l * (Blk X (opB (v, o)) * (Blk P (pairB tB rB) * G))) w)
    (hQ : ∀ T v1 e' w', Okf (v1, gF o.n l) → (e'.ds = e.ds ∧ e'.ρ 0 = e.ρ 0 ∧ e'.ρ 2 = e.ρ 2 ∧ e'.ρ 4 = e.ρ 4 ∧ e'.ρ 6 = e.ρ 6 ∧ e'.ρ 7 = e.ρ 7 ∧ e'.ρ 8 = e.ρ 8 ∧ e'.ρ 9 = e.ρ 9 ∧ e'.ρ 10 = e.ρ 10 ∧ e'.ρ 11 = e.ρ 11) → e'.ρ 12 = .pointer (some ⟨T, 0, none⟩) → e'.ρ 13 = .int .i64 (gE o.n l) →
      St w0 (Blk T (fidB v1 (gF o.n l)) * (HeardP (v1, gF o.n l) * (TabP tB most l * (Blk X (opB (v, o)) * (Blk P (pairB tB rB) * G))))) w' → Q .normal e' w') :
    cwE Try.prog (.tree F24.r6) Q e w := by
  have h2 := h.drew
  have x1 : w.cell? ⟨X, 1, none⟩ = some (.int .u32 o.n) := h.cl X 1
  have y1 : w.drew.cell? ⟨X, 1, none⟩ = some (.int .u32 o.n) := h2.cl X 1
  simp -dsimp -implicitDefEqProofs (disch := omega) only [go_sem, e0, e4, x1, y1, h.cl P, h2.cl P]
  refine ⟨?_, ?_⟩
  · refine (get_u (n := o.n) h2).mono ?_
    rintro e' w2 ⟨v1, ok1, h4, rfl⟩
    have z1 : w2.cell? ⟨X, 1, none⟩ = some (.int .u32 o.n) := h4.cl X 1
    simp -dsimp -implicitDefEqProofs (disch := omega) only [go_sem, e0, e4, z1, h4.cl P]
    refine h4.new fun T w3 h5 => ?_
    have z1 : w3.cell? ⟨X, 1, none⟩ = some (.int .u32 o.n) := h5.cl X 1
    simp -dsimp -implicitDefEqProofs (disch := omega) only [go_sem, e0, e4, z1, h5.cl P]
    refine h5.stoAll (b := T) (cs := fdC v1 (gF o.n l)) rfl rfl (fdC_cells ok1.1) fun w4 h6 => ?_
    have z1 : w4.cell? ⟨X, 1, none⟩ = some (.int .u32 o.n) := h6.cl X 1
    simp -dsimp -implicitDefEqProofs (disch := omega) only [go_sem, e0, e4, z1, h6.cl P]
    exact hQ T v1 _ _ ok1 ⟨by simp -dsimp -implicitDefEqProofs only [go_sem], by simp -dsimp -implicitDefEqProofs only [go_sem], by simp -dsimp -implicitDefEqProofs only [go_sem], by simp -dsimp -implicitDefEqProofs only [go_sem], by simp -dsimp -implicitDefEqProofs only [go_sem], by simp -dsimp -implicitDefEqProofs only [go_sem], by simp -dsimp -implicitDefEqProofs only [go_sem], by simp -dsimp -implicitDefEqProofs only [go_sem], by simp -dsimp -implicitDefEqProofs only [go_sem], by simp -dsimp -implicitDefEqProofs only [go_sem]⟩ (by simp -dsimp -implicitDefEqProofs only [go_sem]) (by simp -dsimp -implicitDefEqProofs only [go_sem]) h6
  · refine h2.new fun T w2 h3 => ?_
    have z1 : w2.cell? ⟨X, 1, none⟩ = some (.int .u32 o.n) := h3.cl X 1
    simp -dsimp -implicitDefEqProofs (disch := omega) only [go_sem, e0, e4, z1, h3.cl P]
    refine (get_u (n := o.n) (h3.ac (show _ = TabP tB most l * (Blk T (fidB zF zFid) * (Blk X (opB (v, o)) * (Blk P (pairB tB rB) * G))) by show Blk T (fidB zF zFid) * _ = _; ac_rfl))).mono ?_
    rintro e' w3 ⟨v1, ok1, h4, rfl⟩
    have z1 : w3.cell? ⟨X, 1, none⟩ = some (.int .u32 o.n) := h4.cl X 1
    simp -dsimp -implicitDefEqProofs (disch := omega) only [go_sem, e0, e4, z1, h4.cl P]
    refine h4.stoAll (b := T) (cs := fdC v1 (gF o.n l)) rfl rfl (fdC_cells ok1.1) fun w4 h6 => ?_
    have z1 : w4.cell? ⟨X, 1, none⟩ = some (.int .u32 o.n) := h6.cl X 1
    simp -dsimp -implicitDefEqProofs (disch := omega) only [go_sem, e0, e4, z1, h6.cl P]
    exact hQ T v1 _ _ ok1 ⟨by simp -dsimp -implicitDefEqProofs only [go_sem], by simp -dsimp -implicitDefEqProofs only [go_sem], by simp -dsimp -implicitDefEqProofs only [go_sem], by simp -dsimp -implicitDefEqProofs only [go_sem], by simp -dsimp -implicitDefEqProofs only [go_sem], by simp -dsimp -implicitDefEqProofs only [go_sem], by simp -dsimp -implicitDefEqProofs only [go_sem], by simp -dsimp -implicitDefEqProofs only [go_sem], by simp -dsimp -implicitDefEqProofs only [go_sem], by simp -dsimp -implicitDefEqProofs only [go_sem]⟩ (by simp -dsimp -implicitDefEqProofs only [go_sem]) (by simp -dsimp -implicitDefEqProofs only [go_sem]) (h6.ac (by show _ = Blk T (.cells (fdC v1 (gF o.n l)).toArray 43 (0, 0)) * _; ac_rfl))
end
section
attribute [local go_sem] F24.t7_eq F24.t5_eq F24.t4_eq F24.t15_eq F24.t14_eq F24.t11_eq F24.t22_eq
theorem step_r13 {X : Nat} {G : HP} {e : FA} {Q : Post} (e0 : e.ρ 0 = .pointer (some ⟨P, 0, none⟩)) (e4 : e.ρ 4 = .pointer (some ⟨X, 0, none⟩))
    (h : St w0 (TabP tB most l * (Blk X (opB (v, o)) * (Blk P (pairB tB rB) * G))) w)
    (hQ : ∀ T v1 e' w', Okf (v1, gF o.n l) → (e'.ds = e.ds ∧ e'.ρ 0 = e.ρ 0 ∧ e'.ρ 2 = e.ρ 2 ∧ e'.ρ 4 = e.ρ 4 ∧ e'.ρ 6 = e.ρ 6) → e'.ρ 15 = .pointer (some ⟨T, 0, none⟩) → e'.ρ 16 = .int .i64 (gE o.n l) →
      St w0 (Blk T (fidB v1 (gF o.n l)) * (HeardP (v1, gF o.n l) * (TabP tB most (adel o.n l) * (Blk X (opB (v, o)) * (Blk P (pairB tB rB) * G))))) w' → Q .normal e' w') :
    cwE Try.prog (.tree F24.r13) Q e w := by
  have h2 := h.drew
  have x1 : w.cell? ⟨X, 1, none⟩ = some (.int .u32 o.n) := h.cl X 1
  have y1 : w.drew.cell? ⟨X, 1, none⟩ = some (.int .u32 o.n) := h2.cl X 1
  simp -dsimp -implicitDefEqProofs (disch := omega) only [go_sem, e0, e4, x1, y1, h.cl P, h2.cl P]
  refine ⟨?_, ?_⟩
  · refine (take_u (n := o.n) h2).mono ?_
    rintro e' w2 ⟨v1, ok1, h4, rfl⟩
    have z1 : w2.cell? ⟨X, 1, none⟩ = some (.int .u32 o.n) := h4.cl X 1
    simp -dsimp -implicitDefEqProofs (disch := omega) only [go_sem, e0, e4, z1, h4.cl P]
    refine h4.new fun T w3 h5 => ?_
    have z1 : w3.cell? ⟨X, 1, none⟩ = some (.int .u32 o.n) := h5.cl X 1
    simp -dsimp -implicitDefEqProofs (disch := omega) only [go_sem, e0, e4, z1, h5.cl P]
    refine h5.stoAll (b := T) (cs := fdC v1 (gF o.n l)) rfl rfl (fdC_cells ok1.1) fun w4 h6 => ?_
    have z1 : w4.cell? ⟨X, 1, none⟩ = some (.int .u32 o.n) := h6.cl X 1
    simp -dsimp -implicitDefEqProofs (disch := omega) only [go_sem, e0, e4, z1, h6.cl P]
    exact hQ T v1 _ _ ok1 ⟨by simp -dsimp -implicitDefEqProofs only [go_sem], by simp -dsimp -implicitDefEqProofs only [go_sem], by simp -dsimp -implicitDefEqProofs only [go_sem], by simp -dsimp -implicitDefEqProofs only [go_sem], by simp -dsimp -implicitDefEqProofs only [go_sem]⟩ (by simp -dsimp -implicitDefEqProofs only [go_sem]) (by simp -dsimp -implicitDefEqProofs only [go_sem]) h6
  · refine h2.new fun T w2 h3 => ?_
    have z1 : w2.cell? ⟨X, 1, none⟩ = some (.int .u32 o.n) := h3.cl X 1
    simp -dsimp -implicitDefEqProofs (disch := omega) only [go_sem, e0, e4, z1, h3.cl P]
    refine (take_u (n := o.n) (h3.ac (show _ = TabP tB most l * (Blk T (fidB zF zFid) * (Blk X (opB (v, o)) * (Blk P (pairB tB rB) * G))) by show Blk T (fidB zF zFid) * _ = _; ac_rfl))).mono ?_
    rintro e' w3 ⟨v1, ok1, h4, rfl⟩
    have z1 : w3.cell? ⟨X, 1, none⟩ = some (.int .u32 o.n) := h4.cl X 1
    simp -dsimp -implicitDefEqProofs (disch := omega) only [go_sem, e0, e4, z1, h4.cl P]
    refine h4.stoAll (b := T) (cs := fdC v1 (gF o.n l)) rfl rfl (fdC_cells ok1.1) fun w4 h6 => ?_
    have z1 : w4.cell? ⟨X, 1, none⟩ = some (.int .u32 o.n) := h6.cl X 1
    simp -dsimp -implicitDefEqProofs (disch := omega) only [go_sem, e0, e4, z1, h6.cl P]
    exact hQ T v1 _ _ ok1 ⟨by simp -dsimp -implicitDefEqProofs only [go_sem], by simp -dsimp -implicitDefEqProofs only [go_sem], by simp -dsimp -implicitDefEqProofs only [go_sem], by simp -dsimp -implicitDefEqProofs only [go_sem], by simp -dsimp -implicitDefEqProofs only [go_sem]⟩ (by simp -dsimp -implicitDefEqProofs only [go_sem]) (by simp -dsimp -implicitDefEqProofs only [go_sem]) (h6.ac (by show _ = Blk T (.cells (fdC v1 (gF o.n l)).toArray 43 (0, 0)) * _; ac_rfl))
end
section
attribute [local go_sem] F24.t7_eq F24.t5_eq F24.t4_eq F24.t15_eq F24.t14_eq F24.t11_eq F24.t22_eq
theorem step_r14 {X : Nat} {G : HP} {e : FA} {Q : Post} (hnd : (l.map (·.1)).Nodup) (e0 : e.ρ 0 = .pointer (some ⟨P, 0, none⟩)) (e4 : e.ρ 4 = .pointer (some ⟨X, 0, none⟩))
    (h : St w0 (RefT rB most (sortK l) * (Blk X (opB (v, o)) * (Blk P (pairB tB rB) * G))) w)
    (hQ : ∀ T v1 e' w', Okf (v1, gF o.n l) → (e'.ds = e.ds ∧ e'.ρ 0 = e.ρ 0 ∧ e'.ρ 2 = e.ρ 2 ∧ e'.ρ 4 = e.ρ 4 ∧ e'.ρ 6 = e.ρ 6 ∧ e'.ρ 15 = e.ρ 15 ∧ e'.ρ 16 = e.ρ 16) → e'.ρ 17 = .pointer (some ⟨T, 0, none⟩) → e'.ρ 18 = .int .i64 (gE o.n l) →
      St w0 (Blk T (fidB v1 (gF o.n l)) * (HeardP (v1, gF o.n l) * (RefT rB most (adel o.n (sortK l)) * (Blk X (opB (v, o)) * (Blk P (pairB tB rB) * G))))) w' → Q .normal e' w') :
    cwE Try.prog (.tree F24.r14) Q e w := by
  have h2 := h.drew
  have x1 : w.cell? ⟨X, 1, none⟩ = some (.int .u32 o.n) := h.cl X 1
  have y1 : w.drew.cell? ⟨X, 1, none⟩ = some (.int .u32 o.n) := h2.cl X 1
  simp -dsimp -implicitDefEqProofs (disch := omega) only [go_sem, e0, e4, x1, y1, h.cl P, h2.cl P]
  refine ⟨?_, ?_⟩
  · refine (rtake_u (n := o.n) h2).mono ?_
    rw [gF_sort hnd, gE_sort hnd]
    rintro e' w2 ⟨v1, ok1, h4, rfl⟩
    have z1 : w2.cell? ⟨X, 1, none⟩ = some (.int .u32 o.n) := h4.cl X 1
    simp -dsimp -implicitDefEqProofs (disch := omega) only [go_sem, e0, e4, z1, h4.cl P]
    refine h4.new fun T w3 h5 => ?_
    have z1 : w3.cell? ⟨X, 1, none⟩ = some (.int .u32 o.n) := h5.cl X 1
    simp -dsimp -implicitDefEqProofs (disch := omega) only [go_sem, e0, e4, z1, h5.cl P]
    refine h5.stoAll (b := T) (cs := fdC v1 (gF o.n l)) rfl rfl (fdC_cells ok1.1) fun w4 h6 => ?_
    have z1 : w4.cell? ⟨X, 1, none⟩ = some (.int .u32 o.n) := h6.cl X 1
    simp -dsimp -implicitDefEqProofs (disch := omega) only [go_sem, e0, e4, z1, h6.cl P]
    exact hQ T v1 _ _ ok1 ⟨by simp -dsimp -implicitDefEqProofs only [go_sem], by simp -dsimp -implicitDefEqProofs only [go_sem], by simp -dsimp -implicitDefEqProofs only [go_sem], by simp -dsimp -implicitDefEqProofs only [go_sem], by simp -dsimp -implicitDefEqProofs only [go_sem], by simp -dsimp -implicitDefEqProofs only [go_sem], by simp -dsimp -implicitDefEqProofs only [go_sem]⟩ (by simp -dsimp -implicitDefEqProofs only [go_sem]) (by simp -dsimp -implicitDefEqProofs only [go_sem]) h6
  · refine h2.new fun T w2 h3 => ?_
    have z1 : w2.cell? ⟨X, 1, none⟩ = some (.int .u32 o.n) := h3.cl X 1
    simp -dsimp -implicitDefEqProofs (disch := omega) only [go_sem, e0, e4, z1, h3.cl P]
    refine (rtake_u (n := o.n) (h3.ac (show _ = RefT rB most (sortK l) * (Blk T (fidB zF zFid) * (Blk X (opB (v, o)) * (Blk P (pairB tB rB) * G))) by show Blk T (fidB zF zFid) * _ = _; ac_rfl))).mono ?_
    rw [gF_sort hnd, gE_sort hnd]
    rintro e' w3 ⟨v1, ok1, h4, rfl⟩
    have z1 : w3.cell? ⟨X, 1, none⟩ = some (.int .u32 o.n) := h4.cl X 1
    simp -dsimp -implicitDefEqProofs (disch := omega) only [go_sem, e0, e4, z1, h4.cl P]
    refine h4.stoAll (b := T) (cs := fdC v1 (gF o.n l)) rfl rfl (fdC_cells ok1.1) fun w4 h6 => ?_
    have z1 : w4.cell? ⟨X, 1, none⟩ = some (.int .u32 o.n) := h6.cl X 1
    simp -dsimp -implicitDefEqProofs (disch := omega) only [go_sem, e0, e4, z1, h6.cl P]
    exact hQ T v1 _ _ ok1 ⟨by simp -dsimp -implicitDefEqProofs only [go_sem], by simp -dsimp -implicitDefEqProofs only [go_sem], by simp -dsimp -implicitDefEqProofs only [go_sem], by simp -dsimp -implicitDefEqProofs only [go_sem], by simp -dsimp -implicitDefEqProofs only [go_sem], by simp -dsimp -implicitDefEqProofs only [go_sem], by simp -dsimp -implicitDefEqProofs only [go_sem]⟩ (by simp -dsimp -implicitDefEqProofs only [go_sem]) (by simp -dsimp -implicitDefEqProofs only [go_sem]) (h6.ac (by show _ = Blk T (.cells (fdC v1 (gF o.n l)).toArray 43 (0, 0)) * _; ac_rfl))
end
end
def s3 : Cd := .seq (.tree F24.r3) F24.t4
def s6 : Cd := .seq (.tree F24.r6) F24.t7
def s13 : Cd := .seq (.tree F24.r13) F24.t14
def s11 : Cd := (.cond (.tmp 72) (.seq (.region 11 F24.r11.toArray false) .ret) (.seq (.region 12 F24.r12.toArray false) (.cond (.tmp 78) s13 (.seq (.region 17 F24.r17.toArray false) (.cond (.tmp 110) (.seq (.region 18 F24.r18.toArray false) .ret) (.seq (.region 19 F24.r19.toArray false) (.cond (.tmp 120) (.seq (.region 20 F24.r20.toArray false) (.seq (.region 21 F24.r21.toArray false) .ret)) .skip)))))))
theorem s5_eq : F24.t5 = .seq (.region 5 F24.r5.toArray false) s6 := rfl
theorem c24_eq : F24.code = (.seq (.region 0 F24.r0.toArray false) (.seq (.seq (.region 1 F24.r1.toArray false) (.block 0 (.seq (.region 2 F24.r2.toArray false) (.cond (.tmp 23) s3 (.seq (.seq (.region 9 F24.r9.toArray false) (.cond (.tmp 72) .skip (.region 10 F24.r10.toArray false))) s11))))) F24.t22)) := rfl
section
variable {w0 w : World} {F : HP} {B P K tB rB N : Nat} {most : Int} {l : TL} {v : Value} {o : OpD}
section
attribute [local go_sem] F24.t22_eq
theorem step_1 (hT : Tab most l) (hN : N ≤ 999999900000) (h : St w0 (PairP P tB rB most l (BookP K N * F)) w) (k1 : o.kind = 1) :
    Calls Try.prog 24 #[.pointer (some ⟨P, 0, none⟩), opV (v, o), .pointer (some ⟨K, 0, none⟩)] w fun e w' => St w0 (PairP P tB rB most l (BookP K (N + 2) * F)) w' ∧ e = .returned (.bool true) := by
  refine F24.calls (by simp) ?_
  rw [c24_eq]
  simp -dsimp -implicitDefEqProofs (disch := omega) only [go_sem]
  refine h.new fun X w1 h1 => ?_
  have x0 : w1.cell? ⟨X, 0, none⟩ = some (.int .i64 o.kind) := h1.cl X 0
  rw [k1] at x0
  simp -dsimp -implicitDefEqProofs (disch := omega) only [go_sem, x0]
  unfold s3
  rw [cwE_seq]
  refine step_r3 (by simp -dsimp -implicitDefEqProofs only [go_sem]) (by simp -dsimp -implicitDefEqProofs only [go_sem]) (h1.ac (show _ = TabP tB most l * (Blk X (opB (v, o)) * (Blk P (pairB tB rB) * (RefT rB most (sortK l) * (BookP K N * F)))) by show Blk X (opB (v, o)) * _ = _; unfold PairP; ac_rfl)) ?_
  rintro T7 v1 e1 w2 ok1 ⟨d1, a10, a12, a14, a16⟩ a17 a18 h2
  show cwE Try.prog F24.t4 _ e1 w2
  rw [F24.t4_eq, cwE_seq]
  refine step_r4 hT.nd (a10.trans (by simp -dsimp -implicitDefEqProofs only [go_sem])) (a14.trans (by simp -dsimp -implicitDefEqProofs only [go_sem])) (h2.ac (show _ = RefT rB most (sortK l) * (Blk X (opB (v, o)) * (Blk P (pairB tB rB) * (Blk T7 (fidB v1 (gF o.n l)) * (HeardP (v1, gF o.n l) * (TabP tB most l * (BookP K N * F)))))) by ac_rfl)) ?_
  rintro T9 v2 e2 w3 ok2 ⟨d2, b10, b12, b14, b16, b17, b18⟩ b19 b110 h3
  show cwE Try.prog F24.t5 _ e2 w3
  rw [s5_eq]
  have f2 : e2.ρ 2 = .pointer (some ⟨K, 0, none⟩) := b12.trans (a12.trans (by simp -dsimp -implicitDefEqProofs only [go_sem]))
  have f7 : e2.ρ 7 = .pointer (some ⟨T7, 0, none⟩) := b17.trans a17
  simp -dsimp -implicitDefEqProofs (disch := omega) only [go_sem, f2, f7, b19, h3.rowH T7 14 rfl, h3.rowH T9 14 rfl]
  refine (keeps_any (p := (v1, gF o.n l)) (q := (v2, gF o.n l)) (N := N) (by omega) ok1 ok2.1 ((Ent.left _ _).trans (RowO.reads _ _ _ _ _)) (h3.ac (show _ = HeardP (v1, gF o.n l) * (BookP K N * (HeardP (v2, gF o.n l) * (Blk T9 (fidB v2 (gF o.n l)) * (RefT rB most (sortK l) * (Blk T7 (fidB v1 (gF o.n l)) * (TabP tB most l * (Blk X (opB (v, o)) * (Blk P (pairB tB rB) * F)))))))) by ac_rfl))).mono ?_
  rintro e' w4 ⟨h4, rfl⟩
  have h4 : St w0 (BookP K (N + 1) * (HeardP (v2, gF o.n l) * (Blk T9 (fidB v2 (gF o.n l)) * (RefT rB most (sortK l) * (Blk T7 (fidB v1 (gF o.n l)) * (TabP tB most l * (Blk X (opB (v, o)) * (Blk P (pairB tB rB) * F)))))))) w4 := h4
  rw [sameB_self]
  simp -dsimp -implicitDefEqProofs (disch := omega) only [go_sem]
  unfold s6
  rw [cwE_seq]
  refine step_r6 (e := _) (by simp -dsimp -implicitDefEqProofs only [go_sem, b10, a10]) (by simp -dsimp -implicitDefEqProofs only [go_sem, b14, a14]) (h4.ac (show _ = TabP tB most l * (Blk X (opB (v, o)) * (Blk P (pairB tB rB) * (BookP K (N + 1) * (HeardP (v2, gF o.n l) * (Blk T9 (fidB v2 (gF o.n l)) * (RefT rB most (sortK l) * (Blk T7 (fidB v1 (gF o.n l)) * F))))))) by ac_rfl)) ?_
  rintro T12 v3 e3 w5 ok3 ⟨d3, c10, c12, c14, c16, c17, c18, c19, c110, c111⟩ c112 c113 h5
  show cwE Try.prog F24.t7 _ e3 w5
  rw [F24.t7_eq]
  have g2 : e3.ρ 2 = .pointer (some ⟨K, 0, none⟩) := c12.trans (by simp -dsimp -implicitDefEqProofs only [go_sem, f2])
  have g9 : e3.ρ 9 = .pointer (some ⟨T9, 0, none⟩) := c19.trans (by simp -dsimp -implicitDefEqProofs only [go_sem, b19])
  have g8 : e3.ρ 8 = .int .i64 (gE o.n l) := c18.trans (by simp -dsimp -implicitDefEqProofs only [go_sem, b18, a18])
  have g10 : e3.ρ 10 = .int .i64 (gE o.n l) := c110.trans (by simp -dsimp -implicitDefEqProofs only [go_sem, b110])
  have g11 : e3.ρ 11 = .bool true := c111.trans (by simp -dsimp -implicitDefEqProofs only [go_sem])
  have gd : e3.ds = [] := d3.trans (by simp -dsimp -implicitDefEqProofs only [go_sem, d2, d1])
  simp -dsimp -implicitDefEqProofs (disch := omega) only [go_sem, g2, g9, g8, g10, g11, gd, c112, h5.rowH T12 14 rfl, h5.rowH T9 14 rfl]
  refine (keeps_any (p := (v3, gF o.n l)) (q := (v2, gF o.n l)) (N := N + 1) (by omega) ok3 ok2.1 ((Ent.left _ _).trans (RowO.reads _ _ _ _ _)) (h5.ac (show _ = HeardP (v3, gF o.n l) * (BookP K (N + 1) * (HeardP (v2, gF o.n l) * (Blk T12 (fidB v3 (gF o.n l)) * (Blk T9 (fidB v2 (gF o.n l)) * (RefT rB most (sortK l) * (Blk T7 (fidB v1 (gF o.n l)) * (TabP tB most l * (Blk X (opB (v, o)) * (Blk P (pairB tB rB) * F))))))))) by ac_rfl))).mono ?_
  rintro e' w6 ⟨h6, rfl⟩
  have h6 : St w0 (BookP K (N + 2) * (HeardP (v2, gF o.n l) * (Blk T12 (fidB v3 (gF o.n l)) * (Blk T9 (fidB v2 (gF o.n l)) * (RefT rB most (sortK l) * (Blk T7 (fidB v1 (gF o.n l)) * (TabP tB most l * (Blk X (opB (v, o)) * (Blk P (pairB tB rB) * F))))))))) w6 := h6
  rw [sameB_self]
  simp -dsimp -implicitDefEqProofs (disch := omega) only [go_sem, g2, g9, g8, g10, g11, gd]
  exact (h6.ac (show _ = PairP P tB rB most l (BookP K (N + 2) * F) * (HeardP (v2, gF o.n l) * (Blk T12 (fidB v3 (gF o.n l)) * (Blk T9 (fidB v2 (gF o.n l)) * (Blk T7 (fidB v1 (gF o.n l)) * Blk X (opB (v, o)))))) by unfold PairP; ac_rfl)).left
theorem step_4 (hT : Tab most l) (hN : N ≤ 999999900000) (h : St w0 (PairP P tB rB most l (BookP K N * F)) w) (k4 : o.kind = 4) :
    Calls Try.prog 24 #[.pointer (some ⟨P, 0, none⟩), opV (v, o), .pointer (some ⟨K, 0, none⟩)] w fun e w' => St w0 (PairP P tB rB most (adel o.n l) (BookP K (N + 1) * F)) w' ∧ e = .returned (.bool true) := by
  refine F24.calls (by simp) ?_
  rw [c24_eq]
  simp -dsimp -implicitDefEqProofs (disch := omega) only [go_sem]
  refine h.new fun X w1 h1 => ?_
  have x0 : w1.cell? ⟨X, 0, none⟩ = some (.int .i64 o.kind) := h1.cl X 0
  rw [k4] at x0
  simp -dsimp -implicitDefEqProofs (disch := omega) only [go_sem, x0]
  unfold s11
  simp -dsimp -implicitDefEqProofs (disch := omega) only [go_sem]
  unfold s13
  rw [cwE_seq]
  refine step_r13 (by simp -dsimp -implicitDefEqProofs only [go_sem]) (by simp -dsimp -implicitDefEqProofs only [go_sem]) (h1.ac (show _ = TabP tB most l * (Blk X (opB (v, o)) * (Blk P (pairB tB rB) * (RefT rB most (sortK l) * (BookP K N * F)))) by show Blk X (opB (v, o)) * _ = _; unfold PairP; ac_rfl)) ?_
  rintro T15 v1 e1 w2 ok1 ⟨d1, a10, a12, a14, a16⟩ a17 a18 h2
  show cwE Try.prog F24.t14 _ e1 w2
  rw [F24.t14_eq, cwE_seq]
  refine step_r14 hT.nd (a10.trans (by simp -dsimp -implicitDefEqProofs only [go_sem])) (a14.trans (by simp -dsimp -implicitDefEqProofs only [go_sem])) (h2.ac (show _ = RefT rB most (sortK l) * (Blk X (opB (v, o)) * (Blk P (pairB tB rB) * (Blk T15 (fidB v1 (gF o.n l)) * (HeardP (v1, gF o.n l) * (TabP tB most (adel o.n l) * (BookP K N * F)))))) by ac_rfl)) ?_
  rintro T17 v2 e2 w3 ok2 ⟨d2, b10, b12, b14, b16, b17, b18⟩ b19 b110 h3
  show cwE Try.prog F24.t15 _ e2 w3
  rw [F24.t15_eq]
  have f2 : e2.ρ 2 = .pointer (some ⟨K, 0, none⟩) := b12.trans (a12.trans (by simp -dsimp -implicitDefEqProofs only [go_sem]))
  have f15 : e2.ρ 15 = .pointer (some ⟨T15, 0, none⟩) := b17.trans a17
  have f16 : e2.ρ 16 = .int .i64 (gE o.n l) := b18.trans a18
  have fd : e2.ds = [] := d2.trans (by simp -dsimp -implicitDefEqProofs only [go_sem, d1])
  simp -dsimp -implicitDefEqProofs (disch := omega) only [go_sem, fd, f2, f15, f16, b19, b110, h3.rowH T15 14 rfl, h3.rowH T17 14 rfl]
  refine (keeps_any (p := (v1, gF o.n l)) (q := (v2, gF o.n l)) (N := N) (by omega) ok1 ok2.1 ((Ent.left _ _).trans (RowO.reads _ _ _ _ _)) (h3.ac (show _ = HeardP (v1, gF o.n l) * (BookP K N * (HeardP (v2, gF o.n l) * (Blk T17 (fidB v2 (gF o.n l)) * (RefT rB most (adel o.n (sortK l)) * (Blk T15 (fidB v1 (gF o.n l)) * (TabP tB most (adel o.n l) * (Blk X (opB (v, o)) * (Blk P (pairB tB rB) * F)))))))) by ac_rfl))).mono ?_
  rintro e' w4 ⟨h4, rfl⟩
  rw [sameB_self]
  simp -dsimp -implicitDefEqProofs (disch := omega) only [go_sem, fd, f2, f15, f16, b19, b110]
  have h4 : St w0 (BookP K (N + 1) * (HeardP (v2, gF o.n l) * (Blk T17 (fidB v2 (gF o.n l)) * (RefT rB most (adel o.n (sortK l)) * (Blk T15 (fidB v1 (gF o.n l)) * (TabP tB most (adel o.n l) * (Blk X (opB (v, o)) * (Blk P (pairB tB rB) * F)))))))) w4 := h4
  rw [← sort_del hT.nd] at h4
  exact (h4.ac (show _ = PairP P tB rB most (adel o.n l) (BookP K (N + 1) * F) * (HeardP (v2, gF o.n l) * (Blk T17 (fidB v2 (gF o.n l)) * (Blk T15 (fidB v1 (gF o.n l)) * Blk X (opB (v, o))))) by unfold PairP; ac_rfl)).left
end
end
def stepS (o : OpD) (most : Int) (l : TL) : TL :=
  if o.kind = 1 then l else if o.kind = 2 ∨ o.kind = 3 then putS o most l else if o.kind = 4 then adel o.n l else if o.kind = 9 then adel o.m l else if o.kind = 10 then [] else callS o most l
theorem sortK_nil : sortK ([] : TL) = [] := List.length_eq_zero_iff.mp (by rw [sortK_length]; rfl)
section
variable {w0 w : World} {F : HP} {B P K tB rB N : Nat} {most : Int} {l : TL} {v : Value} {o : OpD}
section
attribute [local go_sem] F24.t22_eq
theorem step_put (hT : Tab most l) (hm : most ≤ 256) (hx : Okf (v, o.f)) (hr : Ent F (HeardR (v, o.f))) (h : St w0 (PairP P tB rB most l (BookP K N * F)) w) (k2 : o.kind = 2 ∨ o.kind = 3) :
    Calls Try.prog 24 #[.pointer (some ⟨P, 0, none⟩), opV (v, o), .pointer (some ⟨K, 0, none⟩)] w fun e w' => St w0 (PairP P tB rB most (putS o most l) (BookP K N * F)) w' ∧ e = .returned (.bool true) := by
  refine F24.calls (by simp) ?_
  rw [c24_eq]
  simp -dsimp -implicitDefEqProofs (disch := omega) only [go_sem]
  refine h.new fun X w1 h1 => ?_
  have h1 : St w0 (Blk X (opB (v, o)) * PairP P tB rB most l (BookP K N * F)) w1 := h1
  have x0 : w1.cell? ⟨X, 0, none⟩ = some (.int .i64 o.kind) := h1.cl X 0
  have hX : rowV w1 ⟨X, 0, none⟩ 21 = some (opV (v, o)) := h1.rowH X 21 rfl
  have h2 : St w0 (PairP P tB rB most l (BookP K N * F * Blk X (opB (v, o)))) w1 := h1.ac (by unfold PairP; ac_rfl)
  have fin : ∀ {w'}, St w0 (PairP P tB rB most (putS o most l) (BookP K N * F * Blk X (opB (v, o)))) w' → St w0 (PairP P tB rB most (putS o most l) (BookP K N * F)) w' := fun h => (h.ac (show _ = PairP P tB rB most (putS o most l) (BookP K N * F) * Blk X (opB (v, o)) by unfold PairP; ac_rfl)).left
  have hr2 : Ent (BookP K N * F * Blk X (opB (v, o))) (HeardR (v, o.f)) := (Ent.left _ _).trans ((Ent.right _ _).trans hr)
  rcases k2 with k2 | k2
  · rw [k2] at x0
    simp -dsimp -implicitDefEqProofs (disch := omega) only [go_sem, x0]
    unfold s11
    simp -dsimp -implicitDefEqProofs (disch := omega) only [go_sem, x0, hX]
    refine (put_any hT hm h2 hx hr2).mono ?_
    rintro e w2 ⟨h3, rfl⟩
    simp -dsimp -implicitDefEqProofs (disch := omega) only [go_sem]
    exact fin h3
  · rw [k2] at x0
    simp -dsimp -implicitDefEqProofs (disch := omega) only [go_sem, x0]
    unfold s11
    simp -dsimp -implicitDefEqProofs (disch := omega) only [go_sem, x0, hX]
    refine (put_any hT hm h2 hx hr2).mono ?_
    rintro e w2 ⟨h3, rfl⟩
    simp -dsimp -implicitDefEqProofs (disch := omega) only [go_sem]
    exact fin h3
theorem step_9 (hT : Tab most l) (hm : most ≤ 256) (hN : N ≤ 999999900000) (h : St w0 (PairP P tB rB most l (BookP K N * F)) w) (k9 : o.kind = 9) :
    Calls Try.prog 24 #[.pointer (some ⟨P, 0, none⟩), opV (v, o), .pointer (some ⟨K, 0, none⟩)] w fun e w' => St w0 (PairP P tB rB most (adel o.m l) (BookP K (N + 768) * F)) w' ∧ e = .returned (.bool true) := by
  have hl := hT.len
  refine F24.calls (by simp) ?_
  rw [c24_eq]
  simp -dsimp -implicitDefEqProofs (disch := omega) only [go_sem]
  refine h.new fun X w1 h1 => ?_
  have h1 : St w0 (Blk X (opB (v, o)) * PairP P tB rB most l (BookP K N * F)) w1 := h1
  have x0 : w1.cell? ⟨X, 0, none⟩ = some (.int .i64 o.kind) := h1.cl X 0
  have x2 : w1.cell? ⟨X, 2, none⟩ = some (.int .u32 o.m) := h1.cl X 2
  have x19 : w1.cell? ⟨X, 19, none⟩ = some (.int .u8 o.mode) := h1.cl X 19
  rw [k9] at x0
  simp -dsimp -implicitDefEqProofs (disch := omega) only [go_sem, x0]
  unfold s11
  simp -dsimp -implicitDefEqProofs (disch := omega) only [go_sem, x0, x2, x19]
  refine (pall_any (N := N) (by omega) hT.nd (by omega) (h1.ac (show _ = PairP P tB rB most l (BookP K N * (F * Blk X (opB (v, o)))) by unfold PairP; ac_rfl))).mono ?_
  rintro e w2 ⟨h2, rfl⟩
  simp -dsimp -implicitDefEqProofs (disch := omega) only [go_sem]
  exact (h2.ac (show _ = PairP P tB rB most (adel o.m l) (BookP K (N + 768) * F) * Blk X (opB (v, o)) by unfold PairP; ac_rfl)).left
theorem step_10 (hT : Tab most l) (hm : most ≤ 256) (hN : N ≤ 999999900000) (h : St w0 (PairP P tB rB most l (BookP K N * F)) w) (k10 : o.kind = 10) :
    Calls Try.prog 24 #[.pointer (some ⟨P, 0, none⟩), opV (v, o), .pointer (some ⟨K, 0, none⟩)] w fun e w' => St w0 (PairP P tB rB most [] (BookP K (N + 257) * F)) w' ∧ e = .returned (.bool true) := by
  have hl := hT.len
  refine F24.calls (by simp) ?_
  rw [c24_eq]
  simp -dsimp -implicitDefEqProofs (disch := omega) only [go_sem]
  refine h.new fun X w1 h1 => ?_
  have h1 : St w0 (Blk X (opB (v, o)) * PairP P tB rB most l (BookP K N * F)) w1 := h1
  have x0 : w1.cell? ⟨X, 0, none⟩ = some (.int .i64 o.kind) := h1.cl X 0
  rw [k10] at x0
  simp -dsimp -implicitDefEqProofs (disch := omega) only [go_sem, x0]
  unfold s11
  simp -dsimp -implicitDefEqProofs (disch := omega) only [go_sem, x0, h1.cl P]
  refine (clear_any (h1.ac (show _ = TabP tB most l * (Blk X (opB (v, o)) * (Blk P (pairB tB rB) * (RefT rB most (sortK l) * (BookP K N * F)))) by unfold PairP; ac_rfl)) (by omega)).mono ?_
  rintro e w2 ⟨v1, qs, hqs, h2, rfl⟩
  simp -dsimp -implicitDefEqProofs (disch := omega) only [go_sem, h2.cl P]
  refine (rclear_any (h2.ac (show _ = RefT rB most (sortK l) * (AtP v1 qs * (TabP tB most [] * (Blk X (opB (v, o)) * (Blk P (pairB tB rB) * (BookP K N * F))))) by ac_rfl))).mono ?_
  rintro e w3 ⟨v2, qs', hqs', h3, rfl⟩
  have hq1 := amap_len hqs
  have hq2 := amap_len hqs'
  rw [sortK_length] at hq1 hq2
  have hok := AtP.ok h3
  simp -dsimp -implicitDefEqProofs (disch := omega) only [go_sem]
  refine (blist_any (K := K) (N := N) (v := v1) (u := v2) (qs := qs) (qw := qs') (F := AtP v2 qs' * (RefT rB most [] * (TabP tB most [] * (Blk X (opB (v, o)) * (Blk P (pairB tB rB) * F))))) (by omega) (by omega) (by rw [hqs, hqs']) ((Ent.left _ _).trans AtP.rows) (fun x hx => ⟨(hok x hx).1, (Ent.left _ _).trans (AtP.heard hx)⟩) (h3.ac (by ac_rfl))).mono ?_
  rintro e w4 ⟨h4, rfl⟩
  simp -dsimp -implicitDefEqProofs (disch := omega) only [go_sem]
  have h5 : St w0 (PairP P tB rB most [] (BookP K (N + 257) * F) * (AtP v2 qs' * Blk X (opB (v, o)))) w4 := h4.ac (by unfold PairP; rw [sortK_nil]; ac_rfl)
  exact h5.left
theorem step_rest (hT : Tab most l) (hm : most ≤ 256) (hmd : 0 ≤ o.mode ∧ o.mode < 256) (h : St w0 (PairP P tB rB most l (BookP K N * F)) w) (k1 : ¬ o.kind = 1) (k2 : ¬ o.kind = 2) (k3 : ¬ o.kind = 3) (k4 : ¬ o.kind = 4) (k9 : ¬ o.kind = 9) (k10 : ¬ o.kind = 10) :
    Calls Try.prog 24 #[.pointer (some ⟨P, 0, none⟩), opV (v, o), .pointer (some ⟨K, 0, none⟩)] w fun e w' => St w0 (PairP P tB rB most (callS o most l) (BookP K N * F)) w' ∧ e = .returned (.bool true) := by
  refine F24.calls (by simp) ?_
  rw [c24_eq]
  simp -dsimp -implicitDefEqProofs (disch := omega) only [go_sem]
  refine h.new fun X w1 h1 => ?_
  have h1 : St w0 (Blk X (opB (v, o)) * PairP P tB rB most l (BookP K N * F)) w1 := h1
  have x0 : w1.cell? ⟨X, 0, none⟩ = some (.int .i64 o.kind) := h1.cl X 0
  have hX : rowV w1 ⟨X, 0, none⟩ 21 = some (opV (v, o)) := h1.rowH X 21 rfl
  simp -dsimp -implicitDefEqProofs (disch := omega) only [go_sem, x0, k1, k2, k3]
  unfold s11
  simp -dsimp -implicitDefEqProofs (disch := omega) only [go_sem, x0, k1, k2, k3, k4, k9, k10, hX]
  refine (calls_any hT hm hmd (h1.ac (show _ = PairP P tB rB most l (BookP K N * F * Blk X (opB (v, o))) by unfold PairP; ac_rfl))).mono ?_
  rintro e w2 ⟨h2, rfl⟩
  simp -dsimp -implicitDefEqProofs (disch := omega) only [go_sem]
  exact (h2.ac (show _ = PairP P tB rB most (callS o most l) (BookP K N * F) * Blk X (opB (v, o)) by unfold PairP; ac_rfl)).left
theorem PairP.up {M : Nat} (hm : N ≤ M) (h : St w0 (PairP P tB rB most l (BookP K N * F)) w) : St w0 (PairP P tB rB most l (BookP K M * F)) w :=
  (BookP.up hm (h.ac (show _ = BookP K N * (PairP P tB rB most l F) by unfold PairP; ac_rfl))).ac (by unfold PairP; ac_rfl)
theorem step_any (hT : Tab most l) (hm : most ≤ 256) (hN : N ≤ 999999900000) (hmd : 0 ≤ o.mode ∧ o.mode < 256) (hx : Okf (v, o.f)) (hr : Ent F (HeardR (v, o.f))) (h : St w0 (PairP P tB rB most l (BookP K N * F)) w) :
    Calls Try.prog 24 #[.pointer (some ⟨P, 0, none⟩), opV (v, o), .pointer (some ⟨K, 0, none⟩)] w fun e w' => St w0 (PairP P tB rB most (stepS o most l) (BookP K (N + 768) * F)) w' ∧ e = .returned (.bool true) := by
  unfold stepS
  by_cases k1 : o.kind = 1
  · rw [if_pos k1]
    exact (step_1 hT hN h k1).mono fun e w' h => ⟨PairP.up (by omega) h.1, h.2⟩
  rw [if_neg k1]
  by_cases k2 : o.kind = 2 ∨ o.kind = 3
  · rw [if_pos k2]
    exact (step_put hT hm hx hr h k2).mono fun e w' h => ⟨PairP.up (by omega) h.1, h.2⟩
  rw [if_neg k2]
  by_cases k4 : o.kind = 4
  · rw [if_pos k4]
    exact (step_4 hT hN h k4).mono fun e w' h => ⟨PairP.up (by omega) h.1, h.2⟩
  rw [if_neg k4]
  by_cases k9 : o.kind = 9
  · rw [if_pos k9]
    exact (step_9 hT hm hN h k9).mono fun e w' h => ⟨PairP.up (by omega) h.1, h.2⟩
  rw [if_neg k9]
  by_cases k10 : o.kind = 10
  · rw [if_pos k10]
    exact (step_10 hT hm hN h k10).mono fun e w' h => ⟨PairP.up (by omega) h.1, h.2⟩
  rw [if_neg k10]
  exact (step_rest hT hm hmd h k1 (fun h => k2 (.inl h)) (fun h => k2 (.inr h)) k4 k9 k10).mono fun e w' h => ⟨PairP.up (by omega) h.1, h.2⟩
end
end
def SmallOp (x : HOp) : Prop := isCell x.1 = true ∧ x.2.f.user.size ≤ 140737488351232 ∧ x.2.f.tu.size ≤ 140737488351232 ∧ x.2.f.tt.size ≤ 140737488351232 ∧ x.2.f.heard.length ≤ 140737488351232
structure ScriptP (F : HP) (v : Value) (ops : List HOp) : Prop where
  few : ops.length ≤ 140737488351232
  rd : Ent F (Reads 21 v ops.length (ops.flatMap opC))
  el : ∀ x ∈ ops, SmallOp x ∧ Ent F (HeardR (x.1, x.2.f))
theorem ScriptP.under {F A : HP} {v : Value} {ops : List HOp} (s : ScriptP F v ops) (k : Ent A F) : ScriptP A v ops := ⟨s.few, k.trans s.rd, fun x hx => ⟨(s.el x hx).1, k.trans (s.el x hx).2⟩⟩
abbrev XTalk := ByteArray × ByteArray × Int × Int × Int × Int × List UInt8 × Unit
abbrev XFid := Int × Int × ByteArray × Int × Bool × Int × Int × XTalk × Unit
abbrev XOp := Int × Int × Int × XFid × Int × Int × Int × Bool × Unit
def rTalk : Rdr XTalk := rCons 1 rStr (rCons 1 rStr (rCons 1 (rInt .u64) (rCons 1 (rInt .u64) (rCons 1 (rInt .u8) (rCons 1 (rInt .i64) (rCons 1 rBytes rEnd))))))
def rFid : Rdr XFid := rCons 1 (rInt .u8) (rCons 1 (rInt .u64) (rCons 1 rStr (rCons 1 (rInt .u8) (rCons 1 rBool (rCons 1 (rInt .u64) (rCons 1 (rInt .u64) (rCons 7 rTalk rEnd)))))))
def rOp : Rdr XOp := rCons 1 (rInt .i64) (rCons 1 (rInt .u32) (rCons 1 (rInt .u32) (rCons 14 rFid (rCons 1 (rInt .u64) (rCons 1 (rInt .u64) (rCons 1 (rInt .u8) (rCons 1 rBool rEnd)))))))
def fidOf (x : XFid) : FidD := ⟨x.1, x.2.1, x.2.2.1, x.2.2.2.1, x.2.2.2.2.1, x.2.2.2.2.2.1, x.2.2.2.2.2.2.1, x.2.2.2.2.2.2.2.1.1, x.2.2.2.2.2.2.2.1.2.1, x.2.2.2.2.2.2.2.1.2.2.1, x.2.2.2.2.2.2.2.1.2.2.2.1, x.2.2.2.2.2.2.2.1.2.2.2.2.1, x.2.2.2.2.2.2.2.1.2.2.2.2.2.1, x.2.2.2.2.2.2.2.1.2.2.2.2.2.2.1⟩
def opOf (x : XOp) : OpD := ⟨x.1, x.2.1, x.2.2.1, fidOf x.2.2.2.1, x.2.2.2.2.1, x.2.2.2.2.2.1, x.2.2.2.2.2.2.1, x.2.2.2.2.2.2.2.1⟩
theorem rTalk_cells {x : XTalk} {cs : List Value} {h : Heap} (r : rTalk.rel x cs h) : ∃ v, cs = [.string x.1, .string x.2.1, .int .u64 x.2.2.1, .int .u64 x.2.2.2.1, .int .u8 x.2.2.2.2.1, .int .i64 x.2.2.2.2.2.1, v] ∧ isCell v = true ∧
    x.1.size ≤ 140737488351232 ∧ x.2.1.size ≤ 140737488351232 ∧ x.2.2.2.2.2.2.1.length ≤ 140737488351232 ∧ RdB v x.2.2.2.2.2.2.1 h := by
  obtain ⟨_, _, rfl, _, ⟨rfl, s1⟩, _, _, rfl, _, ⟨rfl, s2⟩, _, _, rfl, _, ⟨rfl, w3⟩, _, _, rfl, _, ⟨rfl, w4⟩, _, _, rfl, _, ⟨rfl, w5⟩, _, _, rfl, _, ⟨rfl, w6⟩, _, _, rfl, _, ⟨v, rfl, k, hb⟩, rfl⟩ := r
  refine ⟨v, rfl, ?_, s1, s2, hb, k⟩
  obtain ⟨_, a, c, rfl, _⟩ := k
  rfl
section
attribute [local go_sem] F11.t4_eq F11.t5_eq F11.t7_eq
end
theorem step_tab {o : OpD} {most : Int} {l : TL} (h : Tab most l) : Tab most (stepS o most l) := by
  have hd : ∀ {l'}, l' = doesS o most l → Tab most l' := fun e => by rw [e]; exact Chg.tab h (does_chg h o)
  unfold stepS
  by_cases k1 : o.kind = 1
  · rw [if_pos k1]; exact h
  rw [if_neg k1]
  by_cases k2 : o.kind = 2 ∨ o.kind = 3
  · rw [if_pos k2]
    refine hd ?_
    unfold putS doesS
    rcases k2 with k2 | k2 <;> simp [k2]
  rw [if_neg k2]
  have k2' : ¬ o.kind = 2 := fun h => k2 (.inl h)
  have k3' : ¬ o.kind = 3 := fun h => k2 (.inr h)
  by_cases k4 : o.kind = 4
  · rw [if_pos k4]
    exact Chg.tab h (.rem o.n)
  rw [if_neg k4]
  by_cases k9 : o.kind = 9
  · rw [if_pos k9]
    exact Chg.tab h (.rem o.m)
  rw [if_neg k9]
  by_cases k10 : o.kind = 10
  · rw [if_pos k10]
    refine ⟨by simp, ?_, by simp [agt], by simp [agt]⟩
    have := h.len
    simp only [List.length_nil]
    omega
  rw [if_neg k10]
  refine hd ?_
  unfold callS doesS
  rw [if_neg k2', if_neg k3', if_neg k4]
def ModeOk (x : HOp) : Prop := 0 ≤ x.2.mode ∧ x.2.mode < 256
theorem u8_rng {n : Int} (h : (Lit.int .u8 n).wf = true) : 0 ≤ n ∧ n < 256 := by
  have h1 : IntKind.u8.min = 0 := rfl
  have h2 : IntKind.u8.max = 255 := rfl
  simp [Lit.wf, h1, h2] at h
  omega
theorem rOp_cells2 {x : XOp} {cs : List Value} {h : Heap} (r : rOp.rel x cs h) : ∃ y : HOp, cs = opC y ∧ (SmallOp y ∧ ModeOk y) ∧ HeardR (y.1, y.2.f) h := by
  obtain ⟨_, _, rfl, _, ⟨rfl, w1⟩, _, _, rfl, _, ⟨rfl, w2⟩, _, _, rfl, _, ⟨rfl, w3⟩, _, _, rfl, _, rf, _, _, rfl, _, ⟨rfl, w4⟩, _, _, rfl, _, ⟨rfl, w5⟩, _, _, rfl, _, ⟨rfl, w6⟩, _, _, rfl, _, rfl, rfl⟩ := r
  obtain ⟨_, _, rfl, _, ⟨rfl, v1⟩, _, _, rfl, _, ⟨rfl, v2⟩, _, _, rfl, _, ⟨rfl, s3⟩, _, _, rfl, _, ⟨rfl, v4⟩, _, _, rfl, _, rfl, _, _, rfl, _, ⟨rfl, v5⟩, _, _, rfl, _, ⟨rfl, v6⟩, _, _, rfl, _, rt, rfl⟩ := rf
  obtain ⟨v, rfl, hv, s1, s2, hb, k⟩ := rTalk_cells rt
  exact ⟨(v, opOf x), rfl, ⟨⟨hv, s3, s1, s2, hb⟩, u8_rng w6⟩, k⟩
theorem script_arg2 {xs : List XOp} {v : Value} {W : World} (c : (rSlice 21 184 rOp).rel xs [v] (heapOf W)) : ∃ ops : List HOp, ScriptP (Old W) v ops ∧ ∀ x ∈ ops, ModeOk x := by
  obtain ⟨ops, hl, h1, h2⟩ := rSlice_choose (β := HOp) (enc := opC) (p := fun y h => (SmallOp y ∧ ModeOk y) ∧ HeardR (y.1, y.2.f) h) (fun x cs h r => rOp_cells2 r) opC_length c
  have old : ∀ {s n : Nat} {u : Value} {zs : List Value}, Reads s u n zs (heapOf W) → Ent (Old W) (Reads s u n zs) := fun k => Ent.of fun _ ho => Reads.mono (fun b o e => ho b o e) k
  have hb : xs.length * 184 ≤ reachBytes := by
    obtain ⟨a, cap, e, l, m, r, _⟩ := c
    exact r
  have hq : reachBytes = 140737488351232 := rfl
  exact ⟨ops, ⟨by omega, old h2, fun x hx => ⟨(h1 x hx).1.1, old (h1 x hx).2⟩⟩, fun x hx => (h1 x hx).1.2⟩
section
attribute [local go_sem] F11.t4_eq F11.t5_eq F11.t7_eq
theorem beyond_cnt {w0 w : World} {F : HP} {v : Value} {ops : List HOp} (h : St w0 F w) (s : ScriptP F v ops) :
    Calls Try.prog 11 #[v] w fun e w' => ∃ b : Bool, St w0 F w' ∧ e = .returned (.bool b) ∧ (b = false → ops.length ≤ 1342178 ∧ ∀ x ∈ ops, Okf (x.1, x.2.f)) := by
  have hfew := s.few
  refine F11.calls (by simp) ?_
  unfold F11.code
  obtain ⟨_, a, c, rfl, _, _⟩ := St.rowsAt (k := 21) opC_length (by decide) (h.ent s.rd)
  simp -dsimp -implicitDefEqProofs (disch := omega) only [go_sem]
  refine loop_intro (fun e w' => e.ds = [] ∧ e.ρ 0 = .slice a ops.length c ∧ ∃ (i : Nat) (n : Int), i ≤ ops.length ∧ e.ρ 4 = .int .i64 i ∧ e.ρ 3 = .int .i64 n ∧ 200 * (i : Int) ≤ n ∧ n ≤ 5629499534000000 ∧ (∀ x ∈ ops.take i, (x.2.f.heard.length : Int) ≤ n) ∧ St w0 F w')
    (fun e _ => match e.ρ 4 with | .int _ n => (ops.length - n).toNat | _ => 0) ?_ ?_
  · exact ⟨rfl, by simp -dsimp -implicitDefEqProofs only [go_sem], 0, 0, by omega, by simp -dsimp -implicitDefEqProofs only [go_sem], by simp -dsimp -implicitDefEqProofs only [go_sem], by omega, by omega, by simp, h⟩
  rintro e w2 ⟨hd, e0, i, n, hi, e4, e3, hn0, hn, hal, h2⟩
  by_cases hlt : (i : Int) < ops.length
  case neg =>
    have : i = ops.length := by omega
    subst this
    rw [List.take_length] at hal
    simp -dsimp -implicitDefEqProofs (disch := omega) only [go_sem, hd, e0, e4, e3, hlt]
    refine ⟨_, h2, rfl, fun hb => ?_⟩
    simp only [decide_eq_false_iff_not] at hb
    refine ⟨by omega, fun x hx => ⟨((s.el x hx).1).1, ?_⟩⟩
    have := hal x hx
    show x.2.f.heard.length < _
    omega
  by_cases hle : n ≤ 268435456
  case neg =>
    simp -dsimp -implicitDefEqProofs (disch := omega) only [go_sem, hd, e0, e4, e3, hlt, hle]
    refine ⟨_, h2, rfl, fun hb => ?_⟩
    exact absurd hb (by decide)
  have hil : i < ops.length := by omega
  obtain ⟨_, a', c', hv, _, hcl⟩ := St.rowsAt (k := 21) opC_length (by decide) (h2.ent s.rd)
  simp only [Value.slice.injEq, true_and] at hv
  obtain ⟨rfl, rfl⟩ := hv
  obtain ⟨b, o, rfl, _, hcell⟩ := hcl i hil
  obtain ⟨x, hx⟩ : ∃ x, x = ops[i] := ⟨_, rfl⟩
  have hmem : x ∈ ops := by rw [hx]; exact List.getElem_mem hil
  rw [← hx] at hcell
  obtain ⟨⟨hvc, z1, z2, z3, z4⟩, hr⟩ := s.el x hmem
  obtain ⟨vv, oo⟩ := x
  simp only at hvc z1 z2 z3 z4 hr
  obtain ⟨ah, ch, hv2, _⟩ := ((h2.ent hr).rd).form
  simp only at hv2
  subst hv2
  have hrow : rowV w2 ⟨b, o + i * 21 + 3, none⟩ 14 = some (.agg ((opC (.slice ah oo.f.heard.length ch, oo)).drop 3 |>.take 14).toArray) := rowV_part (opC_length _) hcell (by decide)
  simp only [opC, fdC, List.cons_append, List.nil_append, List.drop_succ_cons, List.drop_zero, List.take_succ_cons, List.take_zero] at hrow
  simp -dsimp -implicitDefEqProofs (disch := omega) only [go_sem, hd, e0, e4, e3, hlt, hle, hrow]
  refine h2.new fun X w3 h3 => ?_
  simp -dsimp -implicitDefEqProofs (disch := omega) only [go_sem]
  refine h3.stoAll (b := X) (cs := fdC (.slice ah oo.f.heard.length ch) oo.f) rfl rfl (fdC_cells rfl) fun w4 h4 => ?_
  have c4 := h4.cl X
  simp only [fdC] at c4
  simp -dsimp -implicitDefEqProofs (disch := omega) only [go_sem, hd, e0, e4, e3, hlt, hle, c4]
  refine ⟨⟨i + 1, _, by omega, by omega, rfl, by omega, by omega, ?_, h4.right⟩, by omega⟩
  rw [List.take_succ_eq_append_getElem hil, ← hx]
  intro y hy
  rcases List.mem_append.1 hy with hy | hy
  · have := hal y hy
    omega
  · simp only [List.mem_singleton] at hy
    subst hy
    show (oo.f.heard.length : Int) ≤ _
    omega
end
def fidK (bs : List UInt8) : FidD := { zFid with st := 3, user := ⟨#[97]⟩, tu := ⟨#[97]⟩, heard := bs }
theorem St.toBytes {P : Program} {w0 w : World} {F : HP} {src dst e : TypeId} {bs : List UInt8} {K : Value → World → Prop} {θ : Tag K} (h : St w0 F w) (hs : P.underlying src = some .string) (hd : P.underlying dst = some (.slice e)) (he : P.underlying e = some (.int .u8))
    (hK : ∀ a c w' Z, Ent Z (Reads 1 (.slice a bs.length c) bs.length (byR bs)) → St w0 (Z * F) w' → K (.slice a bs.length c) w') : semD P (kConvert src dst (.string ⟨bs.toArray⟩)) w K θ := by
  have hz : (⟨bs.toArray⟩ : ByteArray).size = bs.length := by simp [ByteArray.size]
  refine ⟨_, _, run_bytes_of_string w src dst e _ hs hd he, ?_⟩
  rw [hz]
  refine hK _ _ _ (Blk w.heap.size (.cells (bytesRow ⟨bs.toArray⟩ (grownCap w bs.length 0 e)) e ((bytesRow ⟨bs.toArray⟩ (grownCap w bs.length 0 e)).size, (bytesRow ⟨bs.toArray⟩ (grownCap w bs.length 0 e)).size + 1))) (Ent.of fun h hb => ?_) (h.drew.alloc _)
  refine ⟨by simp, _, _, rfl, ?_, .inr ⟨_, 0, _, _, _, rfl, hb, fun j hj => ?_⟩⟩
  · exact grownCap_ge w bs.length 0 e
  · simp only [List.length_map] at hj
    rw [Nat.zero_add, bytesRow_at _ _ _ (by simpa using hj)]
    simp [bv, hj]
section
variable {w0 w : World} {F : HP} {B P K tB rB N : Nat} {most : Int} {l : TL} {v : Value} {o : OpD}
theorem known_any {bs : List UInt8} (hl : bs.length ≤ 100) (h : St w0 F w) :
    Calls Try.prog 52 #[.string ⟨bs.toArray⟩] w fun e w' => ∃ v' Z, Okf (v', fidK bs) ∧ Ent Z (HeardR (v', fidK bs)) ∧ St w0 (Z * F) w' ∧ e = .returned (fdV (v', fidK bs)) := by
  refine F52.calls (by simp) ?_
  unfold F52.code
  simp -dsimp -implicitDefEqProofs (disch := omega) only [go_sem]
  refine h.new fun X w1 h1 => ?_
  simp -dsimp -implicitDefEqProofs (disch := omega) only [go_sem]
  refine h1.toBytes Try.underlying9 Try.underlying39 Try.underlying5 fun a c w2 Z hZ h2 => ?_
  simp -dsimp -implicitDefEqProofs (disch := omega) only [go_sem]
  refine onV_of (v := .agg #[.string ⟨#[97]⟩, .string ⟨#[]⟩, .int .u64 0, .int .u64 0, .int .u8 0, .int .i64 0, .slice a bs.length c]) (by kernel_rfl) ?_
  simp -dsimp -implicitDefEqProofs (disch := omega) only [go_sem]
  refine onV_of (v := fdV (.slice a bs.length c, fidK bs)) (by kernel_rfl) ?_
  simp -dsimp -implicitDefEqProofs (disch := omega) only [go_sem]
  refine h2.stoAll (b := X) (cs := fdC (.slice a bs.length c) (fidK bs)) rfl rfl (fdC_cells rfl) fun w3 h3 => ?_
  simp -dsimp -implicitDefEqProofs (disch := omega) only [go_sem]
  refine resC_1 (a := ⟨X, 0, none⟩) (v := fdV (.slice a bs.length c, fidK bs)) (by simp -dsimp -implicitDefEqProofs only [go_sem]) (run_loadVar_row fact_aggSz_43 (h3.rowH X 14 rfl)) ?_
  have h3 : St w0 (Z * (Blk X (fidB (.slice a bs.length c) (fidK bs)) * F)) w3 := h3
  exact ⟨_, Z, ⟨rfl, by show bs.length < _; omega⟩, hZ, (h3.ac (show _ = (Z * F) * Blk X (fidB (.slice a bs.length c) (fidK bs)) by ac_rfl)).left, rfl⟩
def opK (k n : Int) (f : FidD) : OpD := ⟨k, n, 0, f, 0, 0, 0, false⟩
def opsL (v1 v2 : Value) : List HOp := [(zF, opK 10 0 zFid), (v1, opK 2 9 (fidK [97, 98, 99])), (zF, opK 1 9 zFid), (v2, opK 3 9 (fidK [100, 101, 102, 103])), (zF, opK 1 9 zFid)]
section
attribute [local go_sem] F28.t4_eq F28.t5_eq F28.t8_eq
theorem last_any (hT : Tab most l) (hm : most ≤ 256) (hN : N ≤ 999999800000) (h : St w0 (PairP P tB rB most l (BookP K N * F)) w) :
    Calls Try.prog 28 #[.pointer (some ⟨P, 0, none⟩), .pointer (some ⟨K, 0, none⟩)] w fun e w' => ∃ l', Tab most l' ∧ St w0 (PairP P tB rB most l' (BookP K (N + 4200) * F)) w' ∧ e = .returned (.bool true) := by
  refine F28.calls (by simp) ?_
  unfold F28.code
  simp -dsimp -implicitDefEqProofs (disch := omega) only [go_sem]
  refine onV_of (v := opV (zF, opK 10 0 zFid)) (by kernel_rfl) ?_
  simp -dsimp -implicitDefEqProofs (disch := omega) only [go_sem]
  refine (known_any (bs := [97, 98, 99]) (by decide) h).mono ?_
  rintro e w1 ⟨v1, Z1, k1, hz1, h1, rfl⟩
  simp -dsimp -implicitDefEqProofs (disch := omega) only [go_sem]
  refine onV_of (v := opV (v1, opK 2 9 (fidK [97, 98, 99]))) (by kernel_rfl) ?_
  simp -dsimp -implicitDefEqProofs (disch := omega) only [go_sem]
  refine onV_of (v := opV (zF, opK 1 9 zFid)) (by kernel_rfl) ?_
  simp -dsimp -implicitDefEqProofs (disch := omega) only [go_sem]
  refine (known_any (bs := [100, 101, 102, 103]) (by decide) h1).mono ?_
  rintro e w2 ⟨v2, Z2, k2, hz2, h2, rfl⟩
  simp -dsimp -implicitDefEqProofs (disch := omega) only [go_sem]
  refine onV_of (v := opV (v2, opK 3 9 (fidK [100, 101, 102, 103]))) (by kernel_rfl) ?_
  simp -dsimp -implicitDefEqProofs (disch := omega) only [go_sem]
  refine onV_of (v := opV (zF, opK 1 9 zFid)) (by kernel_rfl) ?_
  simp -dsimp -implicitDefEqProofs (disch := omega) only [go_sem]
  refine h2.lit (n := 5) (cells := (opsL v1 v2).flatMap opC) fact_rowTy_25 (by kernel_rfl) (by decide) (by decide) fun v w3 h3 => ?_
  obtain ⟨a, c, rfl, _⟩ := h3.rowForm v
  obtain ⟨G, hG⟩ : ∃ G, G = RowO 45 21 (.slice a 5 c) 5 ((opsL v1 v2).flatMap opC) * (Z2 * (Z1 * F)) := ⟨_, rfl⟩
  have hR : Ent G (Reads 21 (.slice a 5 c) 5 ((opsL v1 v2).flatMap opC)) := by rw [hG]; exact (Ent.left _ _).trans (RowO.reads _ _ _ _ _)
  have hel : ∀ x ∈ opsL v1 v2, Okf (x.1, x.2.f) ∧ (0 ≤ x.2.mode ∧ x.2.mode < 256) ∧ Ent G (HeardR (x.1, x.2.f)) := by
    intro x hx
    have m0 : (0 : Int) ≤ 0 ∧ (0 : Int) < 256 := by decide
    have g1 : Ent G Z1 := by rw [hG]; exact (Ent.right _ _).trans ((Ent.right _ _).trans (Ent.left _ _))
    have g2 : Ent G Z2 := by rw [hG]; exact (Ent.right _ _).trans (Ent.left _ _)
    simp only [opsL, List.mem_cons, List.not_mem_nil, or_false] at hx
    rcases hx with rfl | rfl | rfl | rfl | rfl
    · exact ⟨zF_ok, m0, Ent.nilHeard _ _ rfl⟩
    · exact ⟨k1, m0, g1.trans hz1⟩
    · exact ⟨zF_ok, m0, Ent.nilHeard _ _ rfl⟩
    · exact ⟨k2, m0, g2.trans hz2⟩
    · exact ⟨zF_ok, m0, Ent.nilHeard _ _ rfl⟩
  have h4 : St w0 (PairP P tB rB most l (BookP K N * G)) w3 := by
    rw [hG]
    exact h3.ac (by unfold PairP; ac_rfl)
  have h5f : ∀ {M l' w'}, St w0 (PairP P tB rB most l' (BookP K M * G)) w' → St w0 (PairP P tB rB most l' (BookP K M * F)) w' := fun h => by
    rw [hG] at h
    exact (h.ac (show _ = PairP P tB rB most _ (BookP K _ * F) * (RowO 45 21 (.slice a 5 c) 5 ((opsL v1 v2).flatMap opC) * (Z2 * Z1)) by unfold PairP; ac_rfl)).left
  have hlen : (opsL v1 v2).length = 5 := rfl
  simp -dsimp -implicitDefEqProofs (disch := omega) only [go_sem]
  refine loop_intro (fun e w' => e.ds = [] ∧ e.ρ 0 = .pointer (some ⟨P, 0, none⟩) ∧ e.ρ 1 = .pointer (some ⟨K, 0, none⟩) ∧ e.ρ 5 = .slice a 5 c ∧ ∃ (i : Nat) (l' : TL), i ≤ 5 ∧ e.ρ 6 = .int .i64 i ∧ Tab most l' ∧ St w0 (PairP P tB rB most l' (BookP K (N + 768 * i) * G)) w')
    (fun e _ => match e.ρ 6 with | .int _ n => (5 - n).toNat | _ => 0) ?_ ?_
  · exact ⟨rfl, by simp -dsimp -implicitDefEqProofs only [go_sem], by simp -dsimp -implicitDefEqProofs only [go_sem], by simp -dsimp -implicitDefEqProofs only [go_sem], 0, l, by omega, by simp -dsimp -implicitDefEqProofs only [go_sem], hT, h4⟩
  clear h h1 h2 h3 h4 hT
  rintro e w ⟨hd, e0, e1, e5, i, l', hi, e6, hT, h⟩
  by_cases hlt : (i : Int) < 5
  · have hil : i < (opsL v1 v2).length := by rw [hlen]; omega
    obtain ⟨_, a', c', hv, _, hcl⟩ := St.rowsAt (k := 21) (l := opsL v1 v2) opC_length (by decide) (h.ent ((Ent.right _ _).trans ((Ent.right _ _).trans ((Ent.right _ _).trans ((Ent.right _ _).trans hR)))))
    simp only [Value.slice.injEq, hlen, true_and] at hv
    obtain ⟨rfl, rfl⟩ := hv
    obtain ⟨b, of, rfl, hrow, _⟩ := hcl i hil
    obtain ⟨x, hx⟩ : ∃ x, x = (opsL v1 v2)[i] := ⟨_, rfl⟩
    obtain ⟨k3, k4, k5⟩ := hel x (by rw [hx]; exact List.getElem_mem hil)
    rw [← hx] at hrow
    obtain ⟨xv, xo⟩ := x
    have hrow : rowV w ⟨b, of + i * 21, none⟩ 21 = some (opV (xv, xo)) := hrow
    simp -dsimp -implicitDefEqProofs (disch := omega) only [go_sem, hd, e0, e1, e5, e6, hlt, hrow]
    refine (step_any (v := xv) (o := xo) (N := N + 768 * i) hT hm (by omega) k4 k3 k5 h).mono ?_
    rintro e' w1 ⟨h1, rfl⟩
    simp -dsimp -implicitDefEqProofs (disch := omega) only [go_sem, hd, e0, e1, e5, e6]
    refine ⟨⟨i + 1, stepS xo most l', by omega, by omega, step_tab hT, ?_⟩, by omega⟩
    rw [show N + 768 * (i + 1) = N + 768 * i + 768 by omega]
    exact h1
  · obtain rfl : i = 5 := by omega
    simp -dsimp -implicitDefEqProofs (disch := omega) only [go_sem, hd, e0, e1, e5, e6, hlt]
    refine (whole_any hT hm (by omega) h).mono ?_
    rintro e w1 ⟨h1, rfl⟩
    simp -dsimp -implicitDefEqProofs (disch := omega) only [go_sem, hd]
    exact ⟨l', hT, h5f (PairP.up (by omega) h1)⟩
end
end
def PrH (P tB rB : Nat) (most : Int) (l : TL) : HP := Blk P (pairB tB rB) * (TabP tB most l * RefT rB most (sortK l))
section
variable {w0 w : World} {F G : HP} {P Q tP rP tQ rQ K N : Nat} {mp mq : Int} {lp lq : TL}
theorem PrH.into (h : St w0 (PrH P tP rP mp lp * G) w) : St w0 (PairP P tP rP mp lp G) w := h.ac (by unfold PrH PairP; ac_rfl)
theorem PrH.out (h : St w0 (PairP P tP rP mp lp G) w) : St w0 (PrH P tP rP mp lp * G) w := h.ac (by unfold PrH PairP; ac_rfl)
def Two (P tP rP : Nat) (mp : Int) (lp : TL) (Q tQ rQ : Nat) (mq : Int) (lq : TL) (K N : Nat) (F : HP) : HP := PrH P tP rP mp lp * (PrH Q tQ rQ mq lq * (BookP K N * F))
theorem Two.swap (h : St w0 (Two P tP rP mp lp Q tQ rQ mq lq K N F) w) : St w0 (Two Q tQ rQ mq lq P tP rP mp lp K N F) w := h.ac (by unfold Two; ac_rfl)
theorem Two.p (h : St w0 (Two P tP rP mp lp Q tQ rQ mq lq K N F) w) : St w0 (PairP P tP rP mp lp (BookP K N * (PrH Q tQ rQ mq lq * F))) w := PrH.into (h.ac (by unfold Two; ac_rfl))
theorem Two.of (h : St w0 (PairP P tP rP mp lp (BookP K N * (PrH Q tQ rQ mq lq * F))) w) : St w0 (Two P tP rP mp lp Q tQ rQ mq lq K N F) w := (PrH.out h).ac (by unfold Two; ac_rfl)
theorem Two.whole (hT : Tab mp lp) (hm : mp ≤ 256) (hN : N ≤ 999999990000) (h : St w0 (Two P tP rP mp lp Q tQ rQ mq lq K N F) w) :
    Calls Try.prog 27 #[.pointer (some ⟨P, 0, none⟩), .pointer (some ⟨K, 0, none⟩)] w fun e w' => St w0 (Two P tP rP mp lp Q tQ rQ mq lq K (N + 257) F) w' ∧ e = .returned (.bool true) :=
  (whole_any hT hm hN (Two.p h)).mono fun e w' h => ⟨Two.of h.1, h.2⟩
theorem Two.last (hT : Tab mp lp) (hm : mp ≤ 256) (hN : N ≤ 999999800000) (h : St w0 (Two P tP rP mp lp Q tQ rQ mq lq K N F) w) :
    Calls Try.prog 28 #[.pointer (some ⟨P, 0, none⟩), .pointer (some ⟨K, 0, none⟩)] w fun e w' => ∃ l', Tab mp l' ∧ St w0 (Two P tP rP mp l' Q tQ rQ mq lq K (N + 4200) F) w' ∧ e = .returned (.bool true) :=
  (last_any hT hm hN (Two.p h)).mono fun e w' h => ⟨h.choose, h.choose_spec.1, Two.of h.choose_spec.2.1, h.choose_spec.2.2⟩
theorem Two.own (hN : N ≤ 700000000000) (h : St w0 (Two P tP rP mp lp Q tQ rQ mq lq K N F) w) :
    Calls Try.prog 29 #[.pointer (some ⟨K, 0, none⟩)] w fun e w' => St w0 (Two P tP rP mp lp Q tQ rQ mq lq K (N + 40) F) w' ∧ e = .returned (.bool true) :=
  (bown_any hN (h.ac (show _ = BookP K N * (PrH P tP rP mp lp * (PrH Q tQ rQ mq lq * F)) by unfold Two; ac_rfl))).mono fun e w' h => ⟨h.1.ac (by unfold Two; ac_rfl), h.2⟩
theorem Two.step {v : Value} {o : OpD} (hT : Tab mp lp) (hm : mp ≤ 256) (hN : N ≤ 999999900000) (hmd : 0 ≤ o.mode ∧ o.mode < 256) (hx : Okf (v, o.f)) (hr : Ent F (HeardR (v, o.f))) (h : St w0 (Two P tP rP mp lp Q tQ rQ mq lq K N F) w) :
    Calls Try.prog 24 #[.pointer (some ⟨P, 0, none⟩), opV (v, o), .pointer (some ⟨K, 0, none⟩)] w fun e w' => St w0 (Two P tP rP mp (stepS o mp lp) Q tQ rQ mq lq K (N + 768) F) w' ∧ e = .returned (.bool true) :=
  (step_any hT hm hN hmd hx ((Ent.right _ _).trans hr) (Two.p h)).mono fun e w' h => ⟨Two.of h.1, h.2⟩
section
attribute [local go_sem] F7.t34_eq F7.t23_eq F7.t24_eq F7.t37_eq F7.t21_eq F7.t17_eq F7.t10_eq F7.t4_eq
theorem does_37 {e : FA} (hTp : Tab mp lp) (hmp : mp ≤ 256) (hTq : Tab mq lq) (hmq : mq ≤ 256) (hN : N ≤ 600000000000)
    (hd : e.ds = []) (e14 : e.ρ 14 = .pointer (some ⟨K, 0, none⟩)) (e15 : e.ρ 15 = .pointer (some ⟨P, 0, none⟩)) (e16 : e.ρ 16 = .pointer (some ⟨Q, 0, none⟩))
    (h : St w0 (Two P tP rP mp lp Q tQ rQ mq lq K N F) w) :
    cwE Try.prog F7.t37 (fnP Try.prog #[.tmp 4] fun e w' => St w0 F w' ∧ e = .returned (.bool true)) e w := by
  rw [F7.t37_eq]
  simp -dsimp -implicitDefEqProofs (disch := omega) only [go_sem, e14, e15, e16]
  refine (Two.whole hTp hmp (by omega) h).mono ?_
  rintro e' w1 ⟨h1, rfl⟩
  simp -dsimp -implicitDefEqProofs (disch := omega) only [go_sem, e14, e15, e16]
  refine (Two.whole hTq hmq (by omega) (Two.swap h1)).mono ?_
  rintro e' w2 ⟨h2, rfl⟩
  simp -dsimp -implicitDefEqProofs (disch := omega) only [go_sem, e14, e15, e16]
  refine (Two.last hTp hmp (by omega) (Two.swap h2)).mono ?_
  rintro e' w3 ⟨l1, hT1, h3, rfl⟩
  simp -dsimp -implicitDefEqProofs (disch := omega) only [go_sem, e14, e15, e16]
  refine (Two.last hTq hmq (by omega) (Two.swap h3)).mono ?_
  rintro e' w4 ⟨l2, hT2, h4, rfl⟩
  simp -dsimp -implicitDefEqProofs (disch := omega) only [go_sem, e14, e15, e16]
  refine (Two.own (by omega) h4).mono ?_
  rintro e' w5 ⟨h5, rfl⟩
  simp -dsimp -implicitDefEqProofs (disch := omega) only [go_sem, e14, e15, e16]
  refine (Two.whole hT1 hmp (by omega) (Two.swap h5)).mono ?_
  rintro e' w6 ⟨h6, rfl⟩
  simp -dsimp -implicitDefEqProofs (disch := omega) only [go_sem, e14, e15, e16]
  refine (Two.whole hT2 hmq (by omega) (Two.swap h6)).mono ?_
  rintro e' w7 ⟨h7, rfl⟩
  simp -dsimp -implicitDefEqProofs (disch := omega) only [go_sem, hd, e14, e15, e16]
  unfold Two at h7
  exact h7.right.right.right
end
end
structure DF (e : FA) (v : Value) (K P Q i : Nat) : Prop where
  ds : e.ds = []
  e1 : e.ρ 1 = v
  e14 : e.ρ 14 = .pointer (some ⟨K, 0, none⟩)
  e15 : e.ρ 15 = .pointer (some ⟨P, 0, none⟩)
  e16 : e.ρ 16 = .pointer (some ⟨Q, 0, none⟩)
  e19 : e.ρ 19 = .int .i64 i
theorem opC_cells {vo : Value} {op : OpD} (h : isCell vo = true) : ∀ y ∈ opC (vo, op), isCell y = true := by
  intro y hy
  simp only [opC, fdC, List.cons_append, List.nil_append, List.mem_cons, List.not_mem_nil, or_false] at hy
  rcases hy with rfl | rfl | rfl | rfl | rfl | rfl | rfl | rfl | rfl | rfl | rfl | rfl | rfl | rfl | rfl | rfl | rfl | rfl | rfl | rfl | rfl
  all_goals first | rfl | exact h
section
variable {w0 w : World} {F G : HP} {P Q tP rP tQ rQ K N i : Nat} {mp mq : Int} {lp lq : TL} {sv : Value}
section
attribute [local go_sem] F7.t34_eq F7.t23_eq F7.t24_eq F7.t37_eq F7.t21_eq F7.t17_eq F7.t10_eq F7.t4_eq
theorem does_34 {e : FA} {Q' : Post} {X : Nat} {v : Value} {o : OpD} (hTp : Tab mp lp) (hmp : mp ≤ 256) (hN : N ≤ 999999900000) (hmd : 0 ≤ o.mode ∧ o.mode < 256) (hx : Okf (v, o.f)) (hr : Ent F (HeardR (v, o.f)))
    (f : DF e sv K P Q i) (e20 : e.ρ 20 = .pointer (some ⟨X, 0, none⟩))
    (h : St w0 (Blk X (opB (v, o)) * Two P tP rP mp lp Q tQ rQ mq lq K N F) w)
    (hQ : ∀ e' w', DF e' sv K P Q i → St w0 (Two P tP rP mp (stepS o mp lp) Q tQ rQ mq lq K (N + 768) F) w' → Q' .normal e' w') :
    cwE Try.prog F7.t34 Q' e w := by
  rw [F7.t34_eq]
  obtain ⟨hd, e1, e14, e15, e16, e19⟩ := f
  have hX : rowV w ⟨X, 0, none⟩ 21 = some (opV (v, o)) := h.rowH X 21 rfl
  simp -dsimp -implicitDefEqProofs (disch := omega) only [go_sem, e14, e15, e20, hX]
  have h1 : St w0 (Two P tP rP mp lp Q tQ rQ mq lq K N (F * Blk X (opB (v, o)))) w := h.ac (by unfold Two; ac_rfl)
  refine (Two.step hTp hmp hN hmd hx ((Ent.left _ _).trans hr) h1).mono ?_
  rintro e' w1 ⟨h2, rfl⟩
  simp -dsimp -implicitDefEqProofs (disch := omega) only [go_sem, e14, e15, e20]
  exact hQ _ _ ⟨by simp -dsimp -implicitDefEqProofs only [go_sem, hd], by simp -dsimp -implicitDefEqProofs only [go_sem, e1], by simp -dsimp -implicitDefEqProofs only [go_sem, e14], by simp -dsimp -implicitDefEqProofs only [go_sem, e15], by simp -dsimp -implicitDefEqProofs only [go_sem, e16], by simp -dsimp -implicitDefEqProofs only [go_sem, e19]⟩ (h2.ac (show _ = Two P tP rP mp (stepS o mp lp) Q tQ rQ mq lq K (N + 768) F * Blk X (opB (v, o)) by unfold Two; ac_rfl)).left
end
section
attribute [local go_sem] F7.t24_eq F7.t37_eq F7.t21_eq F7.t17_eq F7.t10_eq F7.t4_eq
theorem does_24 {e : FA} {Q' : Post} {ops : List HOp} (hF : ScriptP F sv ops) (hok : ∀ x ∈ ops, Okf (x.1, x.2.f)) (hmo : ∀ x ∈ ops, ModeOk x) (hil : i < ops.length)
    (hTp : Tab mp lp) (hmp : mp ≤ 256) (hTq : Tab mq lq) (hmq : mq ≤ 256) (hN : N ≤ 999999900000) (f : DF e sv K P Q i)
    (h : St w0 (Two P tP rP mp lp Q tQ rQ mq lq K N F) w)
    (hQ : ∀ P tP rP mp lp Q tQ rQ mq lq e' w', Tab mp lp → mp ≤ 256 → Tab mq lq → mq ≤ 256 → DF e' sv K P Q (i + 1) → St w0 (Two P tP rP mp lp Q tQ rQ mq lq K (N + 768) F) w' → Q' .normal e' w') :
    cwE Try.prog F7.t24 Q' e w := by
  rw [F7.t24_eq]
  have f' := f
  obtain ⟨hd, e1, e14, e15, e16, e19⟩ := f'
  have hfew := hF.few
  have hF2 : Ent (Two P tP rP mp lp Q tQ rQ mq lq K N F) F := (Ent.right _ _).trans ((Ent.right _ _).trans (Ent.right _ _))
  obtain ⟨_, a, c, rfl, _, hcl⟩ := St.rowsAt (k := 21) (l := ops) opC_length (by decide) (h.ent (hF2.trans hF.rd))
  obtain ⟨b, of, rfl, hrow, _⟩ := hcl i hil
  obtain ⟨x, hx⟩ : ∃ x, x = ops[i] := ⟨_, rfl⟩
  have hmem : x ∈ ops := by rw [hx]; exact List.getElem_mem hil
  have k1 := hok x hmem
  have k2 := hmo x hmem
  have k3 := (hF.el x hmem).2
  rw [← hx] at hrow
  obtain ⟨xv, xo⟩ := x
  have hrow : rowV w ⟨b, of + i * 21, none⟩ 21 = some (opV (xv, xo)) := hrow
  have hlt : (i : Int) < ops.length := by omega
  simp -dsimp -implicitDefEqProofs (disch := omega) only [go_sem, hd, e1, e19, hrow, hlt]
  refine h.new fun X w1 h1 => ?_
  simp -dsimp -implicitDefEqProofs (disch := omega) only [go_sem]
  refine h1.stoAll (b := X) (cs := opC (xv, xo)) rfl rfl (opC_cells k1.1) fun w2 h2 => ?_
  have h2 : St w0 (Blk X (opB (xv, xo)) * Two P tP rP mp lp Q tQ rQ mq lq K N F) w2 := h2
  have x0 : w2.cell? ⟨X, 0, none⟩ = some (.int .i64 xo.kind) := h2.cl X 0
  have fin : ∀ {P tP rP mp lp Q tQ rQ mq lq e' w'}, Tab mp lp → mp ≤ 256 → Tab mq lq → mq ≤ 256 → DF e' (.slice (some ⟨b, of, none⟩) ops.length c) K P Q i → e'.ρ 20 = .pointer (some ⟨X, 0, none⟩) → St w0 (Blk X (opB (xv, xo)) * Two P tP rP mp lp Q tQ rQ mq lq K N F) w' → cwE Try.prog F7.t34 (blockP 1 (thenP (cwD Try.prog none F7.t23 Q') Q')) e' w' := by
    intro P tP rP mp lp Q tQ rQ mq lq e' w' hTp hmp hTq hmq f' e20 h'
    refine does_34 hTp hmp hN k2 k1 k3 f' e20 h' ?_
    intro e2 w3 f2 h3
    show cwE Try.prog F7.t23 Q' e2 w3
    rw [F7.t23_eq]
    obtain ⟨d1, d2, d3, d4, d5, d6⟩ := f2
    simp -dsimp -implicitDefEqProofs (disch := omega) only [go_sem, d6]
    exact hQ _ _ _ _ _ _ _ _ _ _ _ _ (step_tab hTp) hmp hTq hmq ⟨by simp -dsimp -implicitDefEqProofs only [go_sem, d1], by simp -dsimp -implicitDefEqProofs only [go_sem, d2], by simp -dsimp -implicitDefEqProofs only [go_sem, d3], by simp -dsimp -implicitDefEqProofs only [go_sem, d4], by simp -dsimp -implicitDefEqProofs only [go_sem, d5], by (simp -dsimp -implicitDefEqProofs only [go_sem, d6]; omega)⟩ h3
  by_cases q13 : xo.kind = 13
  · rw [q13] at x0
    simp -dsimp -implicitDefEqProofs (disch := omega) only [go_sem, x0, e15, e16]
    exact fin (P := Q) (tP := tQ) (rP := rQ) (Q := P) (tQ := tP) (rQ := rP) hTq hmq hTp hmp ⟨by simp -dsimp -implicitDefEqProofs only [go_sem, hd], by simp -dsimp -implicitDefEqProofs only [go_sem, e1], by simp -dsimp -implicitDefEqProofs only [go_sem, e14], by simp -dsimp -implicitDefEqProofs only [go_sem, e16], by simp -dsimp -implicitDefEqProofs only [go_sem, e15], by simp -dsimp -implicitDefEqProofs only [go_sem, e19]⟩ (by simp -dsimp -implicitDefEqProofs only [go_sem]) (h2.ent (Ent.sep (Ent.rfl' _) (Ent.of_eq (by unfold Two; ac_rfl))))
  by_cases q12 : xo.kind = 12
  · rw [q12] at x0
    have h3 : St w0 (Blk P (pairB tP rP) * (TabP tP mp lp * (RefT rP mp (sortK lp) * (Blk X (opB (xv, xo)) * (PrH Q tQ rQ mq lq * (BookP K N * F)))))) w2 := h2.ac (by unfold Two PrH; ac_rfl)
    have h4 := h3.drew
    simp -dsimp -implicitDefEqProofs (disch := omega) only [go_sem, x0, e15, e16, h3.cl P, h4.cl P]
    have h5 : St w0 (TabP tP mp lp * (Blk P (pairB tP rP) * (RefT rP mp (sortK lp) * (Blk X (opB (xv, xo)) * (PrH Q tQ rQ mq lq * (BookP K N * F)))))) w2.drew := h4.ac (by ac_rfl)
    refine (clone_any h5).mono ?_
    rintro e' w3 ⟨C, l', hp, h6, rfl⟩
    simp -dsimp -implicitDefEqProofs (disch := omega) only [go_sem, e15, e16, h6.cl P]
    refine (rclone_any (h6.ac (show _ = RefT rP mp (sortK lp) * (TabP C mp l' * (TabP tP mp lp * (Blk P (pairB tP rP) * (Blk X (opB (xv, xo)) * (PrH Q tQ rQ mq lq * (BookP K N * F)))))) by ac_rfl))).mono ?_
    rintro e' w4 ⟨C2, h7, rfl⟩
    simp -dsimp -implicitDefEqProofs (disch := omega) only [go_sem, e15, e16, h7.cl P]
    refine onV_of (v := .agg #[.pointer (some ⟨C, 0, none⟩), .pointer (some ⟨C2, 0, none⟩)]) rfl ?_
    simp -dsimp -implicitDefEqProofs (disch := omega) only [go_sem, e15, e16, h7.cl P]
    refine h7.new fun R w5 h8 => ?_
    simp -dsimp -implicitDefEqProofs (disch := omega) only [go_sem, e15, e16, h8.cl P, h8.cl R]
    have hsk : sortK l' = sortK lp := sortK_of_perm hp hTp.nd
    refine fin (P := P) (tP := tP) (rP := rP) (Q := R) (tQ := C) (rQ := C2) (lq := l') (mq := mp) hTp hmp (hTp.perm hp) hmp ⟨by simp -dsimp -implicitDefEqProofs only [go_sem, hd], by simp -dsimp -implicitDefEqProofs only [go_sem, e1], by simp -dsimp -implicitDefEqProofs only [go_sem, e14], by simp -dsimp -implicitDefEqProofs only [go_sem, e15], by simp -dsimp -implicitDefEqProofs only [go_sem], by simp -dsimp -implicitDefEqProofs only [go_sem, e19]⟩ (by simp -dsimp -implicitDefEqProofs only [go_sem]) ?_
    have h9 : St w0 (Blk R (pairB C C2) * (RefT C2 mp (sortK l') * (RefT rP mp (sortK lp) * (TabP C mp l' * (TabP tP mp lp * (Blk P (pairB tP rP) * (Blk X (opB (xv, xo)) * (PrH Q tQ rQ mq lq * (BookP K N * F))))))))) w5 := by
      rw [hsk]
      exact h8
    exact (h9.ac (show _ = Blk X (opB (xv, xo)) * Two P tP rP mp lp R C C2 mp l' K N F * PrH Q tQ rQ mq lq by unfold Two PrH; ac_rfl)).left
  · simp -dsimp -implicitDefEqProofs (disch := omega) only [go_sem, x0, q13, q12]
    exact fin hTp hmp hTq hmq ⟨by simp -dsimp -implicitDefEqProofs only [go_sem, hd], by simp -dsimp -implicitDefEqProofs only [go_sem, e1], by simp -dsimp -implicitDefEqProofs only [go_sem, e14], by simp -dsimp -implicitDefEqProofs only [go_sem, e15], by simp -dsimp -implicitDefEqProofs only [go_sem, e16], by simp -dsimp -implicitDefEqProofs only [go_sem, e19]⟩ (by simp -dsimp -implicitDefEqProofs only [go_sem]) h2
end
end
theorem St.markRow {P : Program} {w0 w : World} {F : HP} {t e g o n c : Nat} {xs : List Value} {K : Value → World → Prop} {θ : Tag K} (h : St w0 (RowO e 1 (.slice (some ⟨g, o, none⟩) n c) n xs * F) w) (ht : P.underlying t = some (.slice e)) (he : P.underlying e = some (.int .u8))
    (hK : ∀ Z w', Ent Z (Reads 1 (.slice (some ⟨g, o, none⟩) n c) n xs) → St w0 (Z * F) w' → K (.slice (some ⟨g, o, none⟩) n c) w') : semD P (kConvert t t (.slice (some ⟨g, o, none⟩) n c)) w K θ := by
  obtain ⟨cur, h1⟩ := (h.ent (Ent.sep (RowO.openE e 1 g o n c xs) (Ent.rfl' F))).exF
  obtain ⟨⟨q1, q2, q3, q4, q5⟩, h2⟩ := h1.factF
  have hb := h2.blk
  have hlt := (Array.getElem?_eq_some_iff.1 hb).1
  have hsh : w.shape? g = some (e, cur.size) := by unfold World.shape?; rw [hb]
  refine ⟨.slice (some ⟨g, o, none⟩) n c, w.freeze ⟨g, cur.size, none⟩ 1, ?_, ?_⟩
  · show (convert t t (.slice (some ⟨g, o, none⟩) n c)).run P w = _
    simp [convert, run_underlying ht, run_underlying he, markStringish, hsh]
  · refine hK (Blk g (.cells cur e (cur.size, cur.size + 1))) _ (Ent.of fun hp hr => ?_) (h2.blk_turn rfl rfl rfl (by simp [World.freeze]) ?_ ?_)
    · refine ⟨q5, _, _, rfl, q1, .inr ⟨g, o, cur, e, _, rfl, hr, fun j hj => ?_⟩⟩
      rw [← q4, List.getElem?_take, if_pos (by omega)]
      simp
    · simp only [World.freeze, Nat.one_ne_zero, if_false, Array.getElem?_modify, hb, if_true, Option.map_some]
      rfl
    · intro k hk _
      simp only [World.freeze, Nat.one_ne_zero, if_false, Array.getElem?_modify]
      rw [if_neg (fun h => hk h.symm)]
theorem St.rowSome {w0 w : World} {F : HP} {e n : Nat} {v : Value} {xs : List Value} (h : St w0 (RowO e 1 v n xs * F) w) (hn : 0 < n) : ∃ g o c, v = .slice (some ⟨g, o, none⟩) n c := by
  obtain ⟨_, _, h1, _, _, _, _, hr, _⟩ := h.sat
  rcases hr with ⟨_, rfl, _⟩ | ⟨g, o, cap, cur, rfl, _⟩
  · omega
  · exact ⟨g, o, cap, rfl⟩
section
variable {w0 w : World} {F G : HP} {P Q tP rP tQ rQ K N i : Nat} {mp mq : Int} {lp lq : TL} {sv : Value} {ops : List HOp}
section
attribute [local go_sem] F7.t34_eq F7.t23_eq F7.t21_eq F7.t17_eq F7.t10_eq F7.t4_eq
theorem does_21 {e : FA} (hF : ScriptP F sv ops) (hok : ∀ x ∈ ops, Okf (x.1, x.2.f)) (hmo : ∀ x ∈ ops, ModeOk x) (hcnt : ops.length ≤ 1342178)
    (hTp : Tab mp lp) (hmp : mp ≤ 256) (hTq : Tab mq lq) (hmq : mq ≤ 256) (hN : N ≤ 100000)
    (hd : e.ds = []) (e1 : e.ρ 1 = sv) (e14 : e.ρ 14 = .pointer (some ⟨K, 0, none⟩)) (e15 : e.ρ 15 = .pointer (some ⟨P, 0, none⟩)) (e16 : e.ρ 16 = .pointer (some ⟨Q, 0, none⟩))
    (h : St w0 (Two P tP rP mp lp Q tQ rQ mq lq K N F) w) :
    cwE Try.prog F7.t21 (fnP Try.prog #[.tmp 4] fun e w' => St w0 F w' ∧ e = .returned (.bool true)) e w := by
  rw [F7.t21_eq]
  have hF2 : Ent (Two P tP rP mp lp Q tQ rQ mq lq K N F) F := (Ent.right _ _).trans ((Ent.right _ _).trans (Ent.right _ _))
  obtain ⟨_, a, c, rfl, _, _⟩ := St.rowsAt (k := 21) (l := ops) opC_length (by decide) (h.ent (hF2.trans hF.rd))
  simp -dsimp -implicitDefEqProofs (disch := omega) only [go_sem]
  refine loop_intro (fun e w' => ∃ (i P tP rP : Nat) (mp : Int) (lp : TL) (Q tQ rQ : Nat) (mq : Int) (lq : TL), i ≤ ops.length ∧ Tab mp lp ∧ mp ≤ 256 ∧ Tab mq lq ∧ mq ≤ 256 ∧ DF e (.slice a ops.length c) K P Q i ∧ St w0 (Two P tP rP mp lp Q tQ rQ mq lq K (N + 768 * i) F) w')
    (fun e _ => match e.ρ 19 with | .int _ n => (ops.length - n).toNat | _ => 0) ?_ ?_
  · exact ⟨0, P, tP, rP, mp, lp, Q, tQ, rQ, mq, lq, by omega, hTp, hmp, hTq, hmq, ⟨by simp -dsimp -implicitDefEqProofs only [go_sem, hd], by simp -dsimp -implicitDefEqProofs only [go_sem, e1], by simp -dsimp -implicitDefEqProofs only [go_sem, e14], by simp -dsimp -implicitDefEqProofs only [go_sem, e15], by simp -dsimp -implicitDefEqProofs only [go_sem, e16], by simp -dsimp -implicitDefEqProofs only [go_sem]⟩, h⟩
  clear h hd e1 e14 e15 e16 hTp hmp hTq hmq hF2
  rintro e w ⟨i, P, tP, rP, mp, lp, Q, tQ, rQ, mq, lq, hi, hTp, hmp, hTq, hmq, f, h⟩
  have f' := f
  obtain ⟨hd, e1, e14, e15, e16, e19⟩ := f'
  by_cases hlt : (i : Int) < ops.length
  · simp -dsimp -implicitDefEqProofs (disch := omega) only [go_sem, hd, e1, e14, e15, e16, e19, hlt]
    refine does_24 (i := i) hF hok hmo (by omega) hTp hmp hTq hmq (by omega) ⟨by simp -dsimp -implicitDefEqProofs only [go_sem, hd], by simp -dsimp -implicitDefEqProofs only [go_sem, e1], by simp -dsimp -implicitDefEqProofs only [go_sem, e14], by simp -dsimp -implicitDefEqProofs only [go_sem, e15], by simp -dsimp -implicitDefEqProofs only [go_sem, e16], by simp -dsimp -implicitDefEqProofs only [go_sem, e19]⟩ h ?_
    intro P tP rP mp lp Q tQ rQ mq lq e2 w2 hTp hmp hTq hmq f2 h2
    simp -dsimp -implicitDefEqProofs (disch := omega) only [go_sem, f2.e19, e19]
    refine ⟨⟨i + 1, P, tP, rP, mp, lp, Q, tQ, rQ, mq, lq, by omega, hTp, hmp, hTq, hmq, f2, ?_⟩, by omega⟩
    rw [show N + 768 * (i + 1) = N + 768 * i + 768 by omega]
    exact h2
  · simp -dsimp -implicitDefEqProofs (disch := omega) only [go_sem, hd, e1, e14, e15, e16, e19, hlt]
    exact does_37 hTp hmp hTq hmq (by omega) (by simp -dsimp -implicitDefEqProofs only [go_sem, hd]) (by simp -dsimp -implicitDefEqProofs only [go_sem, e14]) (by simp -dsimp -implicitDefEqProofs only [go_sem, e15]) (by simp -dsimp -implicitDefEqProofs only [go_sem, e16]) h
theorem book_new (h : St w0 (Blk K (bookB (.slice none 0 0) (.slice none 0 0) (.slice none 0 0) (.slice none 0 0)) * F) w) : St w0 (BookP K 0 * F) w := by
  refine BookP.mk (vb := .slice none 0 0) (vc := .slice none 0 0) (vl := .slice none 0 0) (vn := .slice none 0 0) (xs := []) (ls := []) (ns := []) ⟨by simp, by simp, by simp, by simp⟩ (by simp) ?_
  have e1 := fun (T : Nat) {A : HP} {w : World} (h : St w0 A w) => (h.ent (Ent.nilRowO T 1 A) : St w0 (RowO T 1 (.slice none 0 0) 0 [] * A) w)
  have h1 := e1 39 (e1 39 (e1 28 (e1 3 (EmpH.of (EmpH.of h)))))
  exact h1.ac (by show RowO _ _ _ _ _ * (RowO _ _ _ _ _ * (RowO _ _ _ _ _ * (RowO _ _ _ _ _ * (EmpH * (EmpH * _))))) = Blk K _ * (RowO _ _ _ _ _ * (RowO _ _ _ _ _ * (RowO _ _ _ _ _ * (RowO _ _ _ _ _ * (EmpH * (EmpH * F)))))); ac_rfl)
abbrev pvB (a b : Value) : Obj := .cells #[a, b] 72 (0, 0)
end
section
attribute [local go_sem] F7.t34_eq F7.t23_eq F7.t24_eq F7.t37_eq F7.t21_eq F7.t10_eq F7.t4_eq
theorem does_10 {e : FA} {pv rv : Option Addr} {Qd : Post} (hF : Ent G F) (hd : e.ds = []) (e1 : e.ρ 1 = sv) (e6 : e.ρ 6 = .pointer pv) (e8 : e.ρ 8 = .pointer rv) (e10 : e.ρ 10 = .pointer (some ⟨tQ, 0, none⟩)) (e12 : e.ρ 12 = .pointer (some ⟨rQ, 0, none⟩))
    (h : St w0 (TabP tQ 3 [] * (RefT rQ 3 [] * G)) w)
    (hQ : ∀ K P Q l1 e' w', Tab 3 l1 → e'.ds = [] → e'.ρ 1 = sv → e'.ρ 6 = .pointer pv → e'.ρ 10 = .pointer (some ⟨tQ, 0, none⟩) → e'.ρ 12 = .pointer (some ⟨rQ, 0, none⟩) → e'.ρ 14 = .pointer (some ⟨K, 0, none⟩) → e'.ρ 15 = .pointer (some ⟨P, 0, none⟩) → e'.ρ 16 = .pointer (some ⟨Q, 0, none⟩) →
      St w0 (Blk P (pvB (.pointer pv) (.pointer rv)) * (PrH Q tQ rQ 3 l1 * (BookP K 1536 * G))) w' → cwE Try.prog F7.t17 Qd e' w') :
    cwE Try.prog F7.t10 Qd e w := by
  rw [F7.t10_eq]
  simp -dsimp -implicitDefEqProofs (disch := omega) only [go_sem]
  refine onV_of (v := .agg #[.slice none 0 0, .slice none 0 0, .slice none 0 0, .slice none 0 0]) (by kernel_rfl) ?_
  simp -dsimp -implicitDefEqProofs (disch := omega) only [go_sem]
  refine h.new fun K w1 h1 => ?_
  simp -dsimp -implicitDefEqProofs (disch := omega) only [go_sem, e6, e8]
  refine onV_of (v := .agg #[.pointer pv, .pointer rv]) (by kernel_rfl) ?_
  simp -dsimp -implicitDefEqProofs (disch := omega) only [go_sem]
  refine h1.new fun P w2 h2 => ?_
  simp -dsimp -implicitDefEqProofs (disch := omega) only [go_sem, e10, e12]
  refine onV_of (v := .agg #[.pointer (some ⟨tQ, 0, none⟩), .pointer (some ⟨rQ, 0, none⟩)]) (by kernel_rfl) ?_
  simp -dsimp -implicitDefEqProofs (disch := omega) only [go_sem]
  refine h2.new fun Q w3 h3 => ?_
  simp -dsimp -implicitDefEqProofs (disch := omega) only [go_sem]
  refine h3.lit (n := 3) (cells := byR [120, 121, 122]) fact_rowTy_39 rfl (by decide) (by decide) fun v w4 h4 => ?_
  obtain ⟨g, of, c, rfl⟩ := h4.rowSome (by decide)
  simp -dsimp -implicitDefEqProofs (disch := omega) only [go_sem]
  refine h4.markRow Try.underlying39 Try.underlying5 fun Z w5 hZ h5 => ?_
  simp -dsimp -implicitDefEqProofs (disch := omega) only [go_sem]
  refine onV_of (v := .agg #[.string ⟨#[]⟩, .string ⟨#[]⟩, .int .u64 0, .int .u64 0, .int .u8 0, .int .i64 0, .slice (some ⟨g, of, none⟩) 3 c]) (by kernel_rfl) ?_
  simp -dsimp -implicitDefEqProofs (disch := omega) only [go_sem]
  refine onV_of (v := fdV (.slice (some ⟨g, of, none⟩) 3 c, { zFid with st := 3, user := ⟨#[97]⟩, heard := [120, 121, 122] })) (by kernel_rfl) ?_
  simp -dsimp -implicitDefEqProofs (disch := omega) only [go_sem]
  obtain ⟨f1, hf1⟩ : ∃ f1 : FidD, f1 = { zFid with st := 3, user := ⟨#[97]⟩, heard := [120, 121, 122] } := ⟨_, rfl⟩
  rw [← hf1]
  have hhl : f1.heard = [120, 121, 122] := by rw [hf1]
  refine onV_of (v := opV (.slice (some ⟨g, of, none⟩) 3 c, opK 2 7 f1)) (by subst hf1; kernel_rfl) ?_
  simp -dsimp -implicitDefEqProofs (disch := omega) only [go_sem]
  have hT0 : Tab 3 [] := Tab.nil (by decide)
  have k1 : Okf (Value.slice (some ⟨g, of, none⟩) 3 c, f1) := ⟨rfl, by show f1.heard.length < _; rw [hhl]; decide⟩
  have k2 : Ent Z (HeardR (Value.slice (some ⟨g, of, none⟩) 3 c, f1)) := by
    show Ent Z (Reads 1 (Value.slice (some ⟨g, of, none⟩) 3 c) f1.heard.length (byR f1.heard))
    rw [hhl]
    exact hZ
  have h6 : St w0 (BookP K 0 * (Z * (Blk Q (pairB tQ rQ) * (Blk P (pvB (.pointer pv) (.pointer rv)) * (TabP tQ 3 [] * (RefT rQ 3 [] * G)))))) w5 := book_new (h5.ac (by show _ = Blk K (.cells #[.slice none 0 0, .slice none 0 0, .slice none 0 0, .slice none 0 0] 69 (0, 0)) * (Z * (Blk Q (.cells #[.pointer (some ⟨tQ, 0, none⟩), .pointer (some ⟨rQ, 0, none⟩)] 72 (0, 0)) * (Blk P (.cells #[.pointer pv, .pointer rv] 72 (0, 0)) * _))); ac_rfl))
  have h7 : St w0 (PairP Q tQ rQ 3 [] (BookP K 0 * (Z * (Blk P (pvB (.pointer pv) (.pointer rv)) * G)))) w5 := h6.ac (by unfold PairP; rw [sortK_nil]; ac_rfl)
  refine (step_any (o := opK 2 7 f1) hT0 (by decide) (by decide) (show (0 : Int) ≤ 0 ∧ (0 : Int) < 256 by decide) k1 ((Ent.left _ _).trans k2) h7).mono ?_
  rintro e' w6 ⟨h8, rfl⟩
  simp -dsimp -implicitDefEqProofs (disch := omega) only [go_sem]
  refine onV_of (v := opV (zF, opK 1 7 zFid)) (by kernel_rfl) ?_
  simp -dsimp -implicitDefEqProofs (disch := omega) only [go_sem]
  have hT1 := step_tab (o := opK 2 7 f1) hT0
  refine (step_any (o := opK 1 7 zFid) hT1 (by decide) (by decide) (by decide) zF_ok (Ent.nilHeard _ _ rfl) h8).mono ?_
  rintro e' w7 ⟨h9, rfl⟩
  have hT2 := step_tab (o := opK 1 7 zFid) hT1
  simp -dsimp -implicitDefEqProofs (disch := omega) only [go_sem]
  have h10 := PrH.out h9
  refine hQ K P Q _ _ _ hT2 (by simp -dsimp -implicitDefEqProofs only [go_sem, hd]) (by simp -dsimp -implicitDefEqProofs only [go_sem, e1]) (by simp -dsimp -implicitDefEqProofs only [go_sem, e6]) (by simp -dsimp -implicitDefEqProofs only [go_sem, e10]) (by simp -dsimp -implicitDefEqProofs only [go_sem, e12]) (by simp -dsimp -implicitDefEqProofs only [go_sem]) (by simp -dsimp -implicitDefEqProofs only [go_sem]) (by simp -dsimp -implicitDefEqProofs only [go_sem]) ?_
  exact (h10.ac (show _ = (Blk P (pvB (.pointer pv) (.pointer rv)) * (PrH Q tQ rQ 3 _ * (BookP K 1536 * G))) * Z by ac_rfl)).left
end
section
attribute [local go_sem] F7.t34_eq F7.t23_eq F7.t24_eq F7.t37_eq F7.t17_eq F7.t10_eq F7.t4_eq
theorem does_17_ok {e : FA} {most : Int} {l1 : TL} (hF : ScriptP F sv ops) (hok : ∀ x ∈ ops, Okf (x.1, x.2.f)) (hmo : ∀ x ∈ ops, ModeOk x) (hcnt : ops.length ≤ 1342178) (hm : 1 ≤ most ∧ most ≤ 256)
    (hT : Tab 3 l1) (hd : e.ds = []) (e1 : e.ρ 1 = sv) (e6 : e.ρ 6 = .pointer (some ⟨tP, 0, none⟩)) (e14 : e.ρ 14 = .pointer (some ⟨K, 0, none⟩)) (e15 : e.ρ 15 = .pointer (some ⟨P, 0, none⟩)) (e16 : e.ρ 16 = .pointer (some ⟨Q, 0, none⟩))
    (h : St w0 (Blk P (pvB (.pointer (some ⟨tP, 0, none⟩)) (.pointer (some ⟨rP, 0, none⟩))) * (PrH Q tQ rQ 3 l1 * (BookP K 1536 * (TabP tP most [] * (RefT rP most [] * F))))) w) :
    cwE Try.prog F7.t17 (fnP Try.prog #[.tmp 4] fun e w' => St w0 F w' ∧ e = .returned (.bool true)) e w := by
  rw [F7.t17_eq]
  simp -dsimp -implicitDefEqProofs (disch := omega) only [go_sem, e6]
  refine does_21 (K := K) (P := P) (Q := Q) (tP := tP) (rP := rP) (tQ := tQ) (rQ := rQ) (N := 1536) hF hok hmo hcnt (Tab.nil hm.1) hm.2 hT (by decide) (by decide) (by simp -dsimp -implicitDefEqProofs only [go_sem, hd]) (by simp -dsimp -implicitDefEqProofs only [go_sem, e1]) (by simp -dsimp -implicitDefEqProofs only [go_sem, e14]) (by simp -dsimp -implicitDefEqProofs only [go_sem, e15]) (by simp -dsimp -implicitDefEqProofs only [go_sem, e16]) ?_
  exact h.ac (by unfold Two; show _ = (Blk P _ * (TabP tP most [] * RefT rP most (sortK []))) * _; rw [sortK_nil]; ac_rfl)
theorem does_17_no {e : FA} {l1 : TL} {v8 : Value} (hF : ScriptP F sv ops) (hok : ∀ x ∈ ops, Okf (x.1, x.2.f)) (hmo : ∀ x ∈ ops, ModeOk x) (hcnt : ops.length ≤ 1342178)
    (hT : Tab 3 l1) (hd : e.ds = []) (e1 : e.ρ 1 = sv) (e6 : e.ρ 6 = .pointer none) (e10 : e.ρ 10 = .pointer (some ⟨tQ, 0, none⟩)) (e12 : e.ρ 12 = .pointer (some ⟨rQ, 0, none⟩)) (e14 : e.ρ 14 = .pointer (some ⟨K, 0, none⟩)) (e16 : e.ρ 16 = .pointer (some ⟨Q, 0, none⟩))
    (h : St w0 (PrH Q tQ rQ 3 l1 * (BookP K 1536 * F)) w) :
    cwE Try.prog F7.t17 (fnP Try.prog #[.tmp 4] fun e w' => St w0 F w' ∧ e = .returned (.bool true)) e w := by
  rw [F7.t17_eq]
  have h1 : St w0 (TabP tQ 3 l1 * (Blk Q (pairB tQ rQ) * (RefT rQ 3 (sortK l1) * (BookP K 1536 * F)))) w := h.ac (by unfold PrH; ac_rfl)
  simp -dsimp -implicitDefEqProofs (disch := omega) only [go_sem, e6, e10, e12]
  refine (clone_any h1).mono ?_
  rintro e' w3 ⟨C, l', hp, h6, rfl⟩
  simp -dsimp -implicitDefEqProofs (disch := omega) only [go_sem, e6, e10, e12]
  refine (rclone_any (h6.ac (show _ = RefT rQ 3 (sortK l1) * (TabP C 3 l' * (TabP tQ 3 l1 * (Blk Q (pairB tQ rQ) * (BookP K 1536 * F)))) by ac_rfl))).mono ?_
  rintro e' w4 ⟨C2, h7, rfl⟩
  simp -dsimp -implicitDefEqProofs (disch := omega) only [go_sem]
  refine onV_of (v := .agg #[.pointer (some ⟨C, 0, none⟩), .pointer (some ⟨C2, 0, none⟩)]) rfl ?_
  simp -dsimp -implicitDefEqProofs (disch := omega) only [go_sem]
  refine h7.new fun R w5 h8 => ?_
  simp -dsimp -implicitDefEqProofs (disch := omega) only [go_sem, h8.cl R]
  have hsk : sortK l' = sortK l1 := sortK_of_perm hp hT.nd
  refine does_21 (K := K) (P := R) (Q := Q) (tP := C) (rP := C2) (tQ := tQ) (rQ := rQ) (lp := l') (lq := l1) (N := 1536) hF hok hmo hcnt (hT.perm hp) (by decide) hT (by decide) (by decide) (by simp -dsimp -implicitDefEqProofs only [go_sem, hd]) (by simp -dsimp -implicitDefEqProofs only [go_sem, e1]) (by simp -dsimp -implicitDefEqProofs only [go_sem, e14]) (by simp -dsimp -implicitDefEqProofs only [go_sem]) (by simp -dsimp -implicitDefEqProofs only [go_sem, e16]) ?_
  have h9 : St w0 (Blk R (pairB C C2) * (RefT C2 3 (sortK l') * (RefT rQ 3 (sortK l1) * (TabP C 3 l' * (TabP tQ 3 l1 * (Blk Q (pairB tQ rQ) * (BookP K 1536 * F))))))) w5 := by
    rw [hsk]
    exact h8
  exact h9.ac (by unfold Two PrH; ac_rfl)
end
section
attribute [local go_sem] F7.t34_eq F7.t23_eq F7.t24_eq F7.t37_eq F7.t21_eq F7.t4_eq
theorem doesF_any {most : Int} (h : St w0 F w) (hF : ScriptP F sv ops) (hmo : ∀ x ∈ ops, ModeOk x) :
    Calls Try.prog 7 #[.int .i64 most, sv] w fun e w' => St w0 F w' ∧ e = .returned (.bool true) := by
  refine F7.calls (by simp) ?_
  unfold F7.code
  simp -dsimp -implicitDefEqProofs (disch := omega) only [go_sem]
  refine (beyond_cnt h hF).mono ?_
  rintro e w1 ⟨b, h1, rfl, hb⟩
  cases b with
  | true =>
    simp -dsimp -implicitDefEqProofs (disch := omega) only [go_sem]
    exact h1
  | false =>
  obtain ⟨hcnt, hok⟩ := hb rfl
  simp -dsimp -implicitDefEqProofs (disch := omega) only [go_sem]
  by_cases hm : 1 ≤ most ∧ most ≤ 256
  · skip
    refine (new_ok h1 hm).mono ?_
    rintro e w2 ⟨tP, h2, rfl⟩
    simp -dsimp -implicitDefEqProofs (disch := omega) only [go_sem]
    refine (rnew_any (most := most) h2).mono ?_
    rintro e w3 h3
    rw [if_neg (by omega)] at h3
    obtain ⟨rP, h3, rfl⟩ := h3
    simp -dsimp -implicitDefEqProofs (disch := omega) only [go_sem]
    refine (new_ok h3 (n := 3) (by decide)).mono ?_
    rintro e w4 ⟨tQ, h4, rfl⟩
    simp -dsimp -implicitDefEqProofs (disch := omega) only [go_sem]
    refine (rnew_any (most := 3) h4).mono ?_
    rintro e w5 h5
    rw [if_neg (by decide)] at h5
    obtain ⟨rQ, h5, rfl⟩ := h5
    simp -dsimp -implicitDefEqProofs (disch := omega) only [go_sem, Bool.not_false, Bool.not_true, beq_self_eq_true]
    refine does_10 (sv := sv) (F := F) (G := TabP tP most [] * (RefT rP most [] * F)) (tQ := tQ) (rQ := rQ) (pv := some ⟨tP, 0, none⟩) (rv := some ⟨rP, 0, none⟩) ((Ent.right _ _).trans (Ent.right _ _)) (by simp -dsimp -implicitDefEqProofs only [go_sem]) (by simp -dsimp -implicitDefEqProofs only [go_sem]) (by simp -dsimp -implicitDefEqProofs only [go_sem]) (by simp -dsimp -implicitDefEqProofs only [go_sem]) (by simp -dsimp -implicitDefEqProofs only [go_sem]) (by simp -dsimp -implicitDefEqProofs only [go_sem]) (h5.ac (by ac_rfl)) ?_
    intro K P Q l1 e' w' hT d1 d2 d3 d4 d5 d6 d7 d8 h6
    exact does_17_ok hF hok hmo hcnt hm hT d1 d2 d3 d6 d7 d8 h6
  · skip
    refine (new_no h1 (n := most) (by omega)).mono ?_
    rintro e w2 ⟨h2, rfl⟩
    simp -dsimp -implicitDefEqProofs (disch := omega) only [go_sem]
    refine (rnew_any (most := most) h2).mono ?_
    rintro e w3 h3
    rw [if_pos (by omega)] at h3
    obtain ⟨h3, rfl⟩ := h3
    simp -dsimp -implicitDefEqProofs (disch := omega) only [go_sem]
    refine (new_ok h3 (n := 3) (by decide)).mono ?_
    rintro e w4 ⟨tQ, h4, rfl⟩
    simp -dsimp -implicitDefEqProofs (disch := omega) only [go_sem]
    refine (rnew_any (most := 3) h4).mono ?_
    rintro e w5 h5
    rw [if_neg (by decide)] at h5
    obtain ⟨rQ, h5, rfl⟩ := h5
    simp -dsimp -implicitDefEqProofs (disch := omega) only [go_sem, Bool.not_false, Bool.not_true, beq_self_eq_true]
    refine does_10 (sv := sv) (F := F) (G := F) (tQ := tQ) (rQ := rQ) (pv := none) (rv := none) (Ent.rfl' _) (by simp -dsimp -implicitDefEqProofs only [go_sem]) (by simp -dsimp -implicitDefEqProofs only [go_sem]) (by simp -dsimp -implicitDefEqProofs only [go_sem]) (by simp -dsimp -implicitDefEqProofs only [go_sem]) (by simp -dsimp -implicitDefEqProofs only [go_sem]) (by simp -dsimp -implicitDefEqProofs only [go_sem]) (h5.ac (by ac_rfl)) ?_
    intro K P Q l1 e' w' hT d1 d2 d3 d4 d5 d6 d7 d8 h6
    exact does_17_no (v8 := .pointer none) hF hok hmo hcnt hT d1 d2 d3 d4 d5 d6 d8 h6.right
end
end
theorem St.below0 {w0 w : World} (h : St w0 (Old w0) w) : RowKit.Below w0.heap.size w0 w := by
  refine ⟨h.os, h.tape, h.output, h.size, fun k hk => ?_⟩
  obtain ⟨x, l, a⟩ := h.sat
  have := l k _ (a k _ (Array.getElem?_eq_getElem hk))
  rw [Array.getElem?_eq_getElem hk]
  exact this
end Go.Proofs.Ytljndiligbaljaa
