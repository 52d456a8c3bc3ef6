/- users: guard. -/
import Derived.Test.YtkijkoakloacoaaDoorUzI
import Derived.Test.YtkijkoakloacoaaDoorPn2
namespace Go.Proofs.YtkijkoakloacoaaDoor
open Go
set_option linter.unusedVariables false
set_option linter.unusedSimpArgs false
set_option maxRecDepth 100000

theorem endM_ret {P : Program} {rs : Array ResultVar} {e : FA} {R : Ending → World → Prop} {w : World} : endM P rs e R .returning w = resC P rs e R w := rfl
def F59c : Cd := (.seq (.region 1 F59.r1.toArray false) (.cond (.tmp 6) (.seq (.region 2 F59.r2.toArray false) (.seq (.seq (.region 3 F59.r3.toArray false) (.cond (.tmp 13) (.region 4 F59.r4.toArray false) .skip)) F59.t5)) .skip))

section
attribute [local go_sem] F59.t5_eq
theorem guardD {P2 : Nat} {u : FrameMode} {w : World} {R : Ending → FrameMode → World → Prop}
    (h : cwE Tryd.prog F59c (fnR Tryd.prog #[] (recM u).2 R) (((entry #[.pointer (some ⟨P2, 0, none⟩)]).put (some 4) (recM u).1).put (some 1) (recM u).1) w) :
    CallsDIn (Fr none) 0 Tryd.prog 59 #[.pointer (some ⟨P2, 0, none⟩)] u w R :=
  callsD_recover2 (types := Tryd.prog.types) (x := .region 0 F59.r0.toArray false) (c' := F59c) follows Tryd.func59 rfl rfl rfl rfl rfl rfl (by decide) rfl rfl rfl rfl (by decide) (by kernel_rfl) (by show 1 ≤ 17; decide) h

theorem guardD_ret {P2 : Nat} {w : World} : CallsDIn (Fr none) 0 Tryd.prog 59 #[.pointer (some ⟨P2, 0, none⟩)] .returning w fun e u' w' => e = .returned (.tuple #[]) ∧ u' = .returning ∧ w' = w := by
  refine guardD ?_
  have e1 : recM .returning = (.nilIface, .returning) := rfl
  rw [e1]
  unfold F59c
  simp -dsimp -implicitDefEqProofs (disch := omega) only [go_sem, reqD_of, dec_t, dec_f, wrap_i64, wrap_u32, wrap_u64, wrap_u8]
  exact ⟨_, fin0, rfl, rfl⟩

theorem guardD_pan {w0 w : World} {A : HP} {P2 : Nat} {u : Value} {x : Int} (h : St w0 (Blk P2 (.cells #[u] 25 (0, 0)) * A) w) :
    CallsDIn (Fr none) 0 Tryd.prog 59 #[.pointer (some ⟨P2, 0, none⟩)] (.panicking (trouble x)) w fun e u' w' =>
      e = .returned (.tuple #[]) ∧ u' = .panicking [{ v := .iface 100 (.agg #[.int .i64 x]), recovered := true }] ∧ St w0 (Blk P2 (.cells #[.int .i64 x] 25 (0, 0)) * A) w' := by
  refine guardD ?_
  have e1 : recM (.panicking (trouble x)) = (.iface 100 (.agg #[.int .i64 x]), .panicking [{ v := .iface 100 (.agg #[.int .i64 x]), recovered := true }]) := rfl
  rw [e1]
  unfold F59c
  simp -dsimp -implicitDefEqProofs (disch := omega) only [go_sem, reqD_of, dec_t, dec_f, wrap_i64, wrap_u32, wrap_u64, wrap_u8]
  refine assert_of Tryd.underlying100 (by intro m; simp) ?_
  simp -dsimp -implicitDefEqProofs (disch := omega) only [go_sem, reqD_of, dec_t, dec_f, wrap_i64, wrap_u32, wrap_u64, wrap_u8]
  refine h.new fun P4 w1 h1 => ?_
  simp -dsimp -implicitDefEqProofs (disch := omega) only [go_sem, reqD_of, dec_t, dec_f, wrap_i64, wrap_u32, wrap_u64, wrap_u8]
  refine h1.stoAll (b := P4) (n := 1) (cs := [.int .i64 x]) rfl rfl (fun v hv => by simp at hv; subst hv; rfl) fun w2 h2 => ?_
  simp -dsimp -implicitDefEqProofs (disch := omega) only [go_sem, reqD_of, dec_t, dec_f, wrap_i64, wrap_u32, wrap_u64, wrap_u8, h2.cl P4]
  refine h2.sto (b := P2) (off := 0) (by simp) rfl fun w3 h3 => ?_
  simp only [List.setIfInBounds_toArray, List.set_cons_zero] at h3
  simp -dsimp -implicitDefEqProofs (disch := omega) only [go_sem, reqD_of, dec_t, dec_f, wrap_i64, wrap_u32, wrap_u64, wrap_u8]
  exact ⟨_, fin0, rfl, h3.right⟩

abbrev grdD (P2 : Nat) : Deferred := { target := .fn (.func 59) #[.pointer (some ⟨P2, 0, none⟩)], args := #[] }
abbrev errB (P2 : Nat) (x : Int) : HP := Blk P2 (.cells #[.int .i64 x] 25 (0, 0))

end

/-- A function is run under guard: it ends well, or it is given up, and it is told why. -/
theorem guard_any {α : Type} {w0 w : World} {A : HP} {f : Nat} {cap : Array Value} {B : α → HP} {p : α → Prop} {C : Int → HP} {q : Int → Prop} (h : St w0 A w) (hf : fnOk Tryd.prog f = true)
    (hc : ∀ P2 w1, St w0 (errB P2 0 * A) w1 → Calls Tryd.prog f cap w1 fun e w' => (e = .returned (.tuple #[]) ∧ ∃ x, p x ∧ St w0 (errB P2 0 * B x) w') ∨ (∃ x, e = .panicked (trouble x) ∧ q x ∧ St w0 (errB P2 0 * C x) w')) :
    Calls Tryd.prog 35 #[.func (.func f) #[] cap] w fun e w' => (e = .returned (.int .i64 0) ∧ ∃ x, p x ∧ St w0 (B x) w') ∨ (∃ x, e = .returned (.int .i64 x) ∧ q x ∧ St w0 (C x) w') := by
  refine calls_of_cwM (types := Tryd.prog.types) follows Tryd.func35 F35.code rfl (by kernel_rfl) (by show 1 ≤ 6; decide) ?_
  show cwE _ _ (fnM _ #[.cell 2 25] _) _ _
  unfold F35.code
  simp -dsimp -implicitDefEqProofs (disch := omega) only [go_sem, reqD_of, dec_t, dec_f, wrap_i64, wrap_u32, wrap_u64, wrap_u8]
  refine h.new fun P2 w1 h1 => ?_
  simp -dsimp -implicitDefEqProofs (disch := omega) only [go_sem, reqD_of, dec_t, dec_f, wrap_i64, wrap_u32, wrap_u64, wrap_u8]
  refine defer_of (f := 59) (cap := #[.pointer (some ⟨P2, 0, none⟩)]) (by simp -dsimp -implicitDefEqProofs only [go_sem]) ?_
  simp -dsimp -implicitDefEqProofs (disch := omega) only [go_sem, reqD_of, dec_t, dec_f, wrap_i64, wrap_u32, wrap_u64, wrap_u8, callY_clos, hf, Array.append_empty, Array.empty_append]
  refine (hc P2 w1 h1).mono ?_
  rintro e w2 (⟨rfl, x, hx, h2⟩ | ⟨x, rfl, hx, h2⟩)
  · simp -dsimp -implicitDefEqProofs (disch := omega) only [go_sem, reqD_of, dec_t, dec_f, wrap_i64, wrap_u32, wrap_u64, wrap_u8]
    refine h2.sto (b := P2) (off := 0) (by simp) rfl fun w3 h3 => ?_
    simp only [List.setIfInBounds_toArray, List.set_cons_zero] at h3
    simp -dsimp -implicitDefEqProofs (disch := omega) only [go_sem, reqD_of, dec_t, dec_f, wrap_i64, wrap_u32, wrap_u64, wrap_u8]
    refine leave1 (by simp) (by kernel_rfl) (CallsDIn.mono' guardD_ret ?_)
    rintro e'' u' w'' ⟨rfl, rfl, rfl⟩
    show endM _ _ _ _ .returning _
    rw [endM_ret]
    refine resC_1 (a := ⟨P2, 0, none⟩) (v := .int .i64 0) (by simp -dsimp -implicitDefEqProofs only [go_sem]) (run_loadVar_cell fact_aggSz_25 (by rw [h3.cl P2]; rfl)) ?_
    exact .inl ⟨rfl, x, hx, h3.right⟩
  · simp -dsimp -implicitDefEqProofs (disch := omega) only [go_sem, reqD_of, dec_t, dec_f, wrap_i64, wrap_u32, wrap_u64, wrap_u8]
    refine leave1 (by simp) (by kernel_rfl) (CallsDIn.mono' (guardD_pan h2) ?_)
    rintro e' u' w' ⟨rfl, rfl, h'⟩
    show endM _ _ _ _ .returning _
    rw [endM_ret]
    refine resC_1 (a := ⟨P2, 0, none⟩) (v := .int .i64 x) (by simp -dsimp -implicitDefEqProofs only [go_sem]) (run_loadVar_cell fact_aggSz_25 (by rw [h'.cl P2]; rfl)) ?_
    exact .inr ⟨x, rfl, hx, h'.right⟩
end Go.Proofs.YtkijkoakloacoaaDoor
