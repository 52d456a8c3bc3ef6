/- The fids package: All, Clear, Clone; a table told one by one. -/
import Derived.Test.YtljndiligbaljaaFiP
namespace Go.Proofs.Ytljndiligbaljaa
open Go
set_option linter.unusedSimpArgs false
set_option linter.unusedVariables false
set_option maxRecDepth 100000

/-- A fid and its number, handed to a yield. -/
def PassA (x : Int × FidD) (args : Array Value) : HP := HP.ex fun v : Value => HP.fact (args = #[encU x.1, fdV (v, x.2)] ∧ Okf (v, x.2)) (HeardP (v, x.2))
def AllB (K B : Nat) (most : Int) (l : TL) : HP := Blk K (.cells #[.pointer (some ⟨B, 0, none⟩)] 22 (0, 0)) * TabP B most l


theorem all_any {w0 w : World} {F : HP} {B : Nat} (h : St w0 F w) :
    Calls Try.prog 31 #[.pointer (some ⟨B, 0, none⟩)] w fun e w' => ∃ K, St w0 (Blk K (.cells #[.pointer (some ⟨B, 0, none⟩)] 22 (0, 0)) * F) w' ∧ e = .returned (.func (.func 54) #[] #[.pointer (some ⟨K, 0, none⟩)]) := by
  refine F31.calls (by simp) ?_
  unfold F31.code
  simp -dsimp -implicitDefEqProofs (disch := omega) only [go_sem, reqD_of, dec_t, dec_f, wrap_i64, wrap_u32, wrap_u64, wrap_u8]
  refine h.new fun K w1 h1 => ?_
  simp -dsimp -implicitDefEqProofs (disch := omega) only [go_sem, reqD_of, dec_t, dec_f, wrap_i64, wrap_u32, wrap_u64, wrap_u8]
  exact ⟨K, h1, rfl⟩

section
attribute [local go_sem] F54.t4_eq F54.t2_eq
theorem allIter {w0 : World} {K B : Nat} {most : Int} {l : TL} {R : HP} (hl : l.length ≤ 1048576) :
    IterOk Try.prog w0 54 #[.pointer (some ⟨K, 0, none⟩)] PassA (fun pre => ∃ post, pre ++ post = sortK l) (fun xs => xs = sortK l) (AllB K B most l * R) (AllB K B most l * R) := by
  intro q w1 J X hy h
  show Calls _ 54 #[.func (.yield q) #[] #[], .pointer (some ⟨K, 0, none⟩)] w1 _
  have h1 : St w0 (TabP B most l * (Blk K (.cells #[.pointer (some ⟨B, 0, none⟩)] 22 (0, 0)) * (J [] * R))) w1 := h.ac (by unfold AllB; ac_rfl)
  refine F54.calls (by simp) ?_
  unfold F54.code
  simp -dsimp -implicitDefEqProofs (disch := omega) only [go_sem, reqD_of, dec_t, dec_f, wrap_i64, wrap_u32, wrap_u64, wrap_u8, h1.cl K]
  refine (list_any h1 hl).mono ?_
  rintro e w2 ⟨v, qs, hqs, h2, rfl⟩
  have h3 : St w0 (RowO 48 15 v qs.length (qs.flatMap atC) * (hearts qs * (TabP B most l * (Blk K (.cells #[.pointer (some ⟨B, 0, none⟩)] 22 (0, 0)) * (J [] * R))))) w2 := h2.ac (by unfold AtP; ac_rfl)
  obtain ⟨a, c, rfl, _⟩ := h3.rowForm v
  simp -dsimp -implicitDefEqProofs (disch := omega) only [go_sem, reqD_of, dec_t, dec_f, wrap_i64, wrap_u32, wrap_u64, wrap_u8]
  refine loop_intro (fun e w' => e.ds = [] ∧ e.ρ 0 = .func (.yield q) #[] #[] ∧ e.ρ 6 = .slice a qs.length c ∧ e.ρ 7 = .int .i64 qs.length ∧ ∃ (done left : FPs), done ++ left = qs ∧ e.ρ 8 = .int .i64 done.length ∧
      St w0 (RowO 48 15 (.slice a qs.length c) qs.length (qs.flatMap atC) * (hearts left * (TabP B most l * (Blk K (.cells #[.pointer (some ⟨B, 0, none⟩)] 22 (0, 0)) * (J (amap (·.2) done) * R))))) w')
    (fun e _ => match e.ρ 8 with | .int _ n => (qs.length - n).toNat | _ => 0) ?_ ?_
  · exact ⟨rfl, by simp -dsimp -implicitDefEqProofs only [go_sem], by simp -dsimp -implicitDefEqProofs only [go_sem], by simp -dsimp -implicitDefEqProofs only [go_sem], [], qs, rfl, by (simp -dsimp -implicitDefEqProofs only [go_sem]); rfl, h3⟩
  rintro e w4 ⟨hd, e0, e6, e7, done, left, hdl, e8, h4⟩
  cases left with
  | nil =>
    have hlt : ¬ (done.length : Int) < qs.length := by rw [← hdl]; simp
    simp -dsimp -implicitDefEqProofs (disch := omega) only [go_sem, reqD_of, dec_t, dec_f, wrap_i64, wrap_u32, wrap_u64, wrap_u8, hd, e0, e6, e7, e8, hlt]
    refine ⟨⟨_, rfl⟩, .inl ⟨amap (·.2) done, ?_, h4.right.right.ac (by unfold AllB; ac_rfl)⟩⟩
    rw [← hqs, ← hdl, List.append_nil]
  | cons x left =>
    have hil : done.length < qs.length := by rw [← hdl]; simp
    have hlt : (done.length : Int) < qs.length := by omega
    have hx : qs[done.length] = x := by
      have : qs[done.length]? = some x := by rw [← hdl]; simp
      rw [List.getElem?_eq_getElem hil] at this
      simpa using this
    obtain ⟨_, a', c', hv, _, hcl⟩ := St.rowsAt (k := 15) atC_length (by decide) (h4.gives (B := Reads 15 (.slice a qs.length c) qs.length (qs.flatMap atC)))
    simp only [Value.slice.injEq, true_and] at hv
    obtain ⟨rfl, rfl⟩ := hv
    obtain ⟨b, o, rfl, hrow, _⟩ := hcl done.length hil
    rw [hx] at hrow
    have hbound : qs.length ≤ 1048576 := by
      have := congrArg List.length hqs
      rw [sortK_length] at this
      simp only [amap, List.length_map] at this
      omega
    obtain ⟨hok, h5⟩ := hearts_cons (h4.ac (by ac_rfl : _ = hearts (x :: left) * (RowO 48 15 (.slice (some ⟨b, o, none⟩) qs.length c) qs.length (qs.flatMap atC) * (TabP B most l * (Blk K (.cells #[.pointer (some ⟨B, 0, none⟩)] 22 (0, 0)) * (J (amap (·.2) done) * R))))))
    obtain ⟨n, v, f⟩ := x
    simp -dsimp -implicitDefEqProofs (disch := omega) only [go_sem, reqD_of, dec_t, dec_f, wrap_i64, wrap_u32, wrap_u64, wrap_u8, hd, e0, e6, e7, e8, hlt, hrow]
    refine h5.new fun X1 w5 h6 => ?_
    simp -dsimp -implicitDefEqProofs (disch := omega) only [go_sem, reqD_of, dec_t, dec_f, wrap_i64, wrap_u32, wrap_u64, wrap_u8]
    refine h6.stoAll (b := X1) (cs := atC (n, (v, f))) rfl rfl (atC_cells hok.1) fun w6 h7 => ?_
    have hc7 := h7.cl X1
    have hr7 := h7.rowAtH X1 1 14 (by simp [atC, fdC])
    simp only [atC, fdC, List.drop_succ_cons, List.drop_zero, List.take_succ_cons, List.take_zero] at hc7 hr7
    simp -dsimp -implicitDefEqProofs (disch := omega) only [go_sem, reqD_of, dec_t, dec_f, wrap_i64, wrap_u32, wrap_u64, wrap_u8, hd, e0, e6, e7, e8, hc7, hr7]
    have h8 : St w0 (HeardP (v, f) * (hearts left * (RowO 48 15 (.slice (some ⟨b, o, none⟩) qs.length c) qs.length (qs.flatMap atC) * (TabP B most l * (Blk K (.cells #[.pointer (some ⟨B, 0, none⟩)] 22 (0, 0)) * (J (amap (·.2) done) * R)))))) w6 := h7.right
    have h9 := h8.ent (Ent.sep ((Ent.fact (p := (#[encU n, fdV (v, f)] : Array Value) = #[encU n, fdV (v, f)] ∧ Okf (v, f)) ⟨rfl, hok⟩ (HeardP (v, f))).trans (Ent.ex (fun v' : Value => HP.fact ((#[encU n, fdV (v, f)] : Array Value) = #[encU n, fdV (v', f)] ∧ Okf (v', f)) (HeardP (v', f))) v)) (Ent.rfl' _))
    have h10 : St w0 (J (amap (·.2) done) * (PassA (n, f) #[encU n, fdV (v, f)] * (hearts left * (RowO 48 15 (.slice (some ⟨b, o, none⟩) qs.length c) qs.length (qs.flatMap atC) * (TabP B most l * (Blk K (.cells #[.pointer (some ⟨B, 0, none⟩)] 22 (0, 0)) * R)))))) w6 := h9.ac (by show PassA (n, f) #[encU n, fdV (v, f)] * _ = _; ac_rfl)
    have hpre : amap (fun x : HF => x.2) done ++ [(n, f)] = amap (fun x : HF => x.2) (done ++ [(n, (v, f))]) := by simp [amap]
    refine (hy _ _ (n, f) _ _ ⟨amap (·.2) left, by rw [← hqs, ← hdl]; simp [amap]⟩ h10).mono ?_
    rintro e' w7 (⟨rfl, h11⟩ | ⟨rfl, h11⟩)
    · simp -dsimp -implicitDefEqProofs (disch := omega) only [go_sem, reqD_of, dec_t, dec_f, wrap_i64, wrap_u32, wrap_u64, wrap_u8, hd, e0, e6, e7, e8]
      refine ⟨⟨done ++ [(n, (v, f))], left, by rw [← hdl]; simp, by simp, ?_⟩, by omega⟩
      rw [← hpre]
      exact h11.ac (by ac_rfl)
    · simp -dsimp -implicitDefEqProofs (disch := omega) only [go_sem, reqD_of, dec_t, dec_f, wrap_i64, wrap_u32, wrap_u64, wrap_u8, hd, e0, e6, e7, e8]
      refine ⟨⟨_, rfl⟩, .inr ⟨_, (h11.ac (by unfold AllB; ac_rfl : _ = hearts left * (RowO 48 15 (.slice (some ⟨b, o, none⟩) qs.length c) qs.length (qs.flatMap atC) * (X (amap (fun x : HF => x.2) done ++ [(n, f)]) * (AllB K B most l * R))))).right.right⟩⟩

end
end Go.Proofs.Ytljndiligbaljaa
