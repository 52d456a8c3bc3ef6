/- Lists of byte lists: appending, comparing; which of n things. -/
import Derived.Test.YtfamclpajjnfbaaFrJ
namespace Go.Proofs.Ytfamclpajjnfbaa
open Go
set_option linter.unusedSimpArgs false
set_option linter.unusedVariables false
set_option maxRecDepth 100000

/-- One more. -/
theorem ListP.append {w0 w : World} {vw v3 u : Value} {f : List UInt8} {fs : List (List UInt8)} {F : HP} {ty : TypeId} {K : Value → World → Prop} {θ : Tag K}
    (h : St w0 (ListP vw fs * (Row 35 1 v3 1 [u] * (Row 5 1 u f.length (f.map bv) * F))) w) (hu : isCell u = true) (hl : fs.length < 1000000000000)
    (hK : ∀ a c w', St w0 (ListP (.slice a (fs.length + 1) c) (fs ++ [f]) * F) w' → K (.slice a (fs.length + 1) c) w') : semD Try.prog (kAppend #[34, 34] ty #[vw, v3]) w K θ := by
  obtain ⟨vals, aw, cw, rfl, hvl, hvc, h7⟩ := ListP.open h
  refine h7.append fact_rowTy_34 ((((h7.right.right.left).ent (Row.reads _ _ _ _ _)).rd).src Try.underlying34 (by simpa using hu) (by simp)) (show _ ≤ 9223372036854775807 by omega) (by omega) fun v4 w4 h8 => ?_
  obtain ⟨a4, c4, rfl, _⟩ := Row.form h8
  have h9 := h8.ac (show _ = (Row 35 1 (.slice a4 (fs.length + 1) c4) (fs.length + 1) (vals ++ [u]) * (Row 5 1 u f.length (f.map bv) * Rows vals fs)) * (Row 35 1 v3 1 [u] * F) by ac_rfl)
  have hvl' : (vals ++ [u]).length = (fs ++ [f]).length := by simp [hvl]
  have hsn : Ent (Row 35 1 (.slice a4 (fs.length + 1) c4) (fs.length + 1) (vals ++ [u]) * (Row 5 1 u f.length (f.map bv) * Rows vals fs)) (ListP (.slice a4 (fs.length + 1) c4) (fs ++ [f])) := by
    have := ListP.shut (v := .slice a4 (fs.length + 1) c4) hvl' (by intro z hz; rcases List.mem_append.1 hz with hz | hz; exact hvc z hz; simp at hz; subst hz; exact hu)
    refine Ent.trans (Ent.sep ?_ (Rows.snoc vals fs _ _ hvl)) this
    exact Ent.of_eq (by simp)
  exact hK _ _ _ (h9.ent (Ent.sep hsn (Ent.right _ _)))

/-- What a slice of byte slices reads as. -/
def LR (v : Value) (fs : List (List UInt8)) : HP := fun h => ∃ vals, vals.length = fs.length ∧ Reads 1 v fs.length vals h ∧ ∀ i (hv : i < vals.length) (hf : i < fs.length), RdB vals[i] fs[i] h

theorem ListP.lr (v : Value) (fs : List (List UInt8)) : Ent (ListP v fs) (LR v fs) := by
  rintro h ⟨vals, ⟨hl, hc⟩, h1, h2, hd, l1, l2, a, b⟩
  obtain ⟨y, ly, hy⟩ := Row.reads _ _ _ _ _ h1 a
  refine ⟨h, hle.rfl' h, vals, hl, Reads.mono (ly.trans l1) hy, fun i hv hf => ?_⟩
  obtain ⟨z, lz, hz⟩ := Rows.get vals fs i hv hf h2 b
  exact Reads.mono (lz.trans l2) hz

theorem LR.take {a : Option Addr} {n c k : Nat} {fs : List (List UInt8)} (hn : n = fs.length) (hk : k ≤ fs.length) : Ent (LR (.slice a n c) fs) (LR (.slice a k c) (fs.take k)) := by
  subst hn
  rintro h ⟨vals, hl, ⟨h1, a', c', hv, hnc, hr⟩, hx⟩
  simp only [Value.slice.injEq, true_and] at hv
  obtain ⟨rfl, rfl⟩ := hv
  refine ⟨h, hle.rfl' h, vals.take k, by simp; omega, ⟨by simp; omega, a, c, by simp; omega, by simp; omega, ?_⟩, fun i hv hf => ?_⟩
  · rcases hr with hr | ⟨b, o, cur, T, fr, ha, hb, hj⟩
    · left; rw [hr]; simp
    · refine .inr ⟨b, o, cur, T, fr, ha, hb, fun j hj' => ?_⟩
      have hjk : j < k := by simp at hj'; omega
      rw [List.getElem?_take, if_pos hjk]
      exact hj j (by simp at hj'; omega)
  · have hik : i < k := by simp at hv; omega
    simp only [List.getElem_take]
    exact hx i (by omega) (by simp at hf; omega)

section
attribute [local go_sem] F29.t5_eq F29.t6_eq F29.t9_eq F29.t3_eq
theorem alike_any {w0 w : World} {F : HP} {va vb : Value} {fs : List (List UInt8)} (h : St w0 F w) (ha : Ent F (LR va fs)) (hb : Ent F (LR vb fs)) (hl : fs.length < 1000000000000) (hl2 : ∀ f ∈ fs, f.length < 9223372036854775807) :
    Calls Try.prog 29 #[va, vb] w fun e w' => St w0 F w' ∧ e = .returned (.bool true) := by
  have form : ∀ v, Ent F (LR v fs) → ∃ a c, v = .slice a fs.length c := fun v k => by
    obtain ⟨x, l, vals, hl, ⟨h1, a, c, hv, _⟩, _⟩ := (h.ent k).sat
    exact ⟨a, c, hv⟩
  obtain ⟨pa, ca, rfl⟩ := form va ha
  obtain ⟨pb, cb, rfl⟩ := form vb hb
  refine F29.calls (by simp) ?_
  unfold F29.code
  simp -dsimp -implicitDefEqProofs (disch := omega) only [go_sem, reqD_of, dec_t, dec_f, wrap_i64, wrap_u32, wrap_u64, wrap_u8]
  refine loop_intro (fun e w' => St w0 F w' ∧ e.ds = [] ∧ e.ρ 0 = .slice pa fs.length ca ∧ e.ρ 1 = .slice pb fs.length cb ∧ ∃ k : Nat, k ≤ fs.length ∧ e.ρ 5 = .int .i64 k)
    (fun e _ => match e.ρ 5 with | .int _ n => (fs.length - n).toNat | _ => 0) ?_ ?_
  · exact ⟨h, rfl, by simp -dsimp -implicitDefEqProofs only [go_sem], by simp -dsimp -implicitDefEqProofs only [go_sem], 0, by omega, rfl⟩
  clear h form
  rintro e w ⟨h, hd, e0, e1, k, hk, e5⟩
  by_cases hlt : (k : Int) < fs.length
  case neg =>
    simp -dsimp -implicitDefEqProofs (disch := omega) only [go_sem, reqD_of, dec_t, dec_f, wrap_i64, wrap_u32, wrap_u64, wrap_u8, hlt, e0, e1, e5, hd]
    exact h
  have hkl : k < fs.length := by omega
  have hD := h.drew
  -- each list's element, in this very memory
  obtain ⟨x, lx, hF⟩ := hD.sat
  obtain ⟨xa, la, vals, hvl, ⟨_, a1, c1, hv1, _, hr1⟩, hxa⟩ := ha x hF
  obtain ⟨xb, lb, ubls, hul, ⟨_, a2, c2, hv2, _, hr2⟩, hxb⟩ := hb x hF
  simp only [Value.slice.injEq, true_and] at hv1 hv2
  obtain ⟨rfl, rfl⟩ := hv1
  obtain ⟨rfl, rfl⟩ := hv2
  rcases hr1 with hr1 | ⟨b1, o1, cur1, T1, fr1, rfl, hb1, hj1⟩
  · rw [hr1] at hvl; simp at hvl; omega
  rcases hr2 with hr2 | ⟨b2, o2, cur2, T2, fr2, rfl, hb2, hj2⟩
  · rw [hr2] at hul; simp at hul; omega
  have hc1 : w.drew.cell? ⟨b1, o1 + k, none⟩ = some (vals[k]'(by omega)) := by
    rw [cell_of_heap (w := w.drew) (lx _ _ (la _ _ hb1)), hj1 k (by omega), List.getElem?_eq_getElem (by omega)]
  have hc2 : w.drew.cell? ⟨b2, o2 + k, none⟩ = some (ubls[k]'(by omega)) := by
    rw [cell_of_heap (w := w.drew) (lx _ _ (lb _ _ hb2)), hj2 k (by omega), List.getElem?_eq_getElem (by omega)]
  -- the memory at hand, and nothing else
  have hX : St w0 (fun hp => F hp ∧ RdB (vals[k]'(by omega)) (fs[k]) hp ∧ RdB (ubls[k]'(by omega)) (fs[k]) hp ∧ hp b1 = some (.cells cur1 T1 fr1) ∧ hp b2 = some (.cells cur2 T2 fr2)) w.drew :=
    ⟨hD.os, hD.tape, hD.output, hD.drawn, hD.size, x, lx, hF, Reads.mono la (hxa k (by omega) hkl), Reads.mono lb (hxb k (by omega) hkl), la _ _ hb1, lb _ _ hb2⟩
  simp -dsimp -implicitDefEqProofs (disch := omega) only [go_sem, reqD_of, dec_t, dec_f, wrap_i64, wrap_u32, wrap_u64, wrap_u8, hlt, e0, e1, e5, hd, hc1, hc2]
  refine (same_any hX (xs := fs[k]) (ys := fs[k]) (Ent.of fun hp q => q.2.1) (Ent.of fun hp q => q.2.2.1) (hl2 _ (List.getElem_mem hkl))).mono ?_
  rintro e' w1 ⟨h1, rfl⟩
  have k1 : w1.cell? ⟨b1, o1 + k, none⟩ = some (vals[k]'(by omega)) := by
    obtain ⟨y, ly, _, _, _, q, _⟩ := h1.sat
    rw [cell_of_heap (ly _ _ q), hj1 k (by omega), List.getElem?_eq_getElem (by omega)]
  have k2 : w1.cell? ⟨b2, o2 + k, none⟩ = some (ubls[k]'(by omega)) := by
    obtain ⟨y, ly, _, _, _, _, q⟩ := h1.sat
    rw [cell_of_heap (ly _ _ q), hj2 k (by omega), List.getElem?_eq_getElem (by omega)]
  simp -dsimp -implicitDefEqProofs (disch := omega) only [go_sem, reqD_of, dec_t, dec_f, wrap_i64, wrap_u32, wrap_u64, wrap_u8, hlt, e0, e1, e5, hd, k1, k2]
  exact ⟨⟨h1.ent (Ent.of fun hp q => q.1), k + 1, by omega, by omega⟩, by omega⟩

/-- pick: which of n things. -/
def pickN (c : Int) (n : Nat) : Nat := ((if c < 0 then -(c + 1) else c).toNat) % n

end
section
attribute [local go_sem] F13.t3_eq
theorem pick_any {w : World} {c : Int} {n : Nat} (hc : -9223372036854775808 ≤ c ∧ c < 9223372036854775808) (hn : 0 < n) (hn2 : n < 9223372036854775808) :
    Calls Try.prog 13 #[.int .i64 c, .int .i64 n] w fun e w' => w' = w ∧ e = .returned (.int .i64 (pickN c n)) := by
  refine F13.calls (by simp) ?_
  unfold F13.code
  have fin : ∀ k : Nat, ((k : Int)).tmod (n : Int) = ((k % n : Nat) : Int) := fun k => tmod_nat k n
  by_cases hneg : c < 0
  · obtain ⟨k, hk⟩ := Int.eq_ofNat_of_zero_le (show 0 ≤ -(c + 1) by omega)
    have hk2 : 0 - (c + 1) = (k : Int) := by omega
    simp -dsimp -implicitDefEqProofs (disch := omega) only [go_sem, reqD_of, dec_t, dec_f, wrap_i64, wrap_u32, wrap_u64, wrap_u8, hneg, hk2, fin]
    unfold pickN
    rw [if_pos hneg, hk]
    simp
  · obtain ⟨k, hk⟩ := Int.eq_ofNat_of_zero_le (show 0 ≤ c by omega)
    subst hk
    simp -dsimp -implicitDefEqProofs (disch := omega) only [go_sem, reqD_of, dec_t, dec_f, wrap_i64, wrap_u32, wrap_u64, wrap_u8, hneg, fin]
    unfold pickN
    rw [if_neg hneg]
    simp

theorem pickN_lt (c : Int) {n : Nat} (hn : 0 < n) : pickN c n < n := Nat.mod_lt _ hn

end
end Go.Proofs.Ytfamclpajjnfbaa
