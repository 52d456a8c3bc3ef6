/- TopRecords: the weight, two lists, msg.Size. -/
import Derived.Test.YtonajgmamdeohaaGreatDoorTrJ
namespace Go.Proofs.YtonajgmamdeohaaGreatDoor
open Go
set_option linter.unusedVariables false
set_option linter.unusedSimpArgs false
set_option maxRecDepth 100000

section
variable {w0 w : World} {F A : HP} {d : StatD} {M : Nat}
def weightN (d : StatD) : Nat := 1 + (d.name.length + d.uid.length + d.gid.length + d.muid.length)
section
attribute [local go_sem] F4.t5_eq F4.t6_eq F4.t7_eq
theorem weight_any (b1 : d.name.length ≤ 140737488351232) (b2 : d.uid.length ≤ 140737488351232) (b3 : d.gid.length ≤ 140737488351232) (b4 : d.muid.length ≤ 140737488351232) (h : St w0 F w) :
    Calls Tryz.prog 4 #[.agg (msgC 0 0 d).toArray] w fun e w' => St w0 F w' ∧ e = .returned (.int .i64 (weightN d : Nat)) := by
  refine F4.calls (by simp) ?_
  unfold F4.code
  simp -dsimp -implicitDefEqProofs (disch := omega) only [go_sem, reqD_of, dec_t, dec_f, wrap_i64, wrap_u32, wrap_u64, wrap_u8]
  refine h.new fun M w1 h1 => ?_
  have h1 : St w0 (Blk M (msgB 0 0 d) * F) w1 := h1
  simp -dsimp -implicitDefEqProofs (disch := omega) only [go_sem, reqD_of, dec_t, dec_f, wrap_i64, wrap_u32, wrap_u64, wrap_u8, h1.cl M, strOf_size, List.length_nil]
  refine loop_intro (fun e w' => e.ds = [] ∧ e.ρ 1 = .pointer (some ⟨M, 0, none⟩) ∧ e.ρ 3 = .int .i64 (weightN d : Nat) ∧ e.ρ 4 = .int .i64 0 ∧ St w0 (Blk M (msgB 0 0 d) * F) w') (fun _ _ => 0) ?_ ?_
  · exact ⟨rfl, by simp -dsimp -implicitDefEqProofs only [go_sem], by (simp -dsimp -implicitDefEqProofs only [go_sem]; simp only [weightN]; omega), by simp -dsimp -implicitDefEqProofs only [go_sem], h1⟩
  clear h h1
  rintro e w ⟨hds, e1, e3, e4, h⟩
  simp -dsimp -implicitDefEqProofs (disch := omega) only [go_sem, reqD_of, dec_t, dec_f, wrap_i64, wrap_u32, wrap_u64, wrap_u8, hds, e1, e3, e4, h.cl M]
  exact h.right
end
section
attribute [local go_sem] F9.t5_eq F9.t6_eq F9.t8_eq F9.t3_eq
theorem sameB_any {va vb : Value} {l : List UInt8} (hl : l.length ≤ 16777216) (h1 : Ent A (RdB va l)) (h2 : Ent A (RdB vb l)) (h : St w0 A w) :
    Calls Tryz.prog 9 #[va, vb] w fun e w' => St w0 A w' ∧ e = .returned (.bool true) := by
  obtain ⟨a1, c1, rfl, _⟩ := (h.ent h1).bytes
  obtain ⟨a2, c2, rfl, _⟩ := (h.ent h2).bytes
  refine F9.calls (by simp) ?_
  unfold F9.code
  simp -dsimp -implicitDefEqProofs (disch := omega) only [go_sem, reqD_of, dec_t, dec_f, wrap_i64, wrap_u32, wrap_u64, wrap_u8]
  refine loop_intro (fun e w' => e.ds = [] ∧ e.ρ 0 = .slice a1 l.length c1 ∧ e.ρ 1 = .slice a2 l.length c2 ∧ ∃ i : Nat, i ≤ l.length ∧ e.ρ 5 = .int .i64 i ∧ St w0 A w')
    (fun e _ => match e.ρ 5 with | .int _ i => (l.length - i).toNat | _ => 0) ?_ ?_
  · exact ⟨rfl, by simp -dsimp -implicitDefEqProofs only [go_sem], by simp -dsimp -implicitDefEqProofs only [go_sem], 0, by omega, by simp -dsimp -implicitDefEqProofs only [go_sem], h⟩
  clear h
  rintro e w ⟨hds, e0, e1, i, hi, e5, h⟩
  by_cases hlt : (i : Int) < l.length
  · have hD := h.drew
    obtain ⟨a1', c1', hv1, _, hc1⟩ := (hD.ent h1).bytes
    obtain ⟨a2', c2', hv2, _, hc2⟩ := (hD.ent h2).bytes
    simp only [Value.slice.injEq, true_and] at hv1 hv2
    obtain ⟨rfl, rfl⟩ := hv1
    obtain ⟨rfl, rfl⟩ := hv2
    rcases hc1 with rfl | ⟨g1, o1, rfl, hc1⟩
    · simp at hlt; omega
    rcases hc2 with rfl | ⟨g2, o2, rfl, hc2⟩
    · simp at hlt; omega
    have x1 := hc1 i (by omega)
    have x2 := hc2 i (by omega)
    simp only [bv] at x1 x2
    simp -dsimp -implicitDefEqProofs (disch := omega) only [go_sem, reqD_of, dec_t, dec_f, wrap_i64, wrap_u32, wrap_u64, wrap_u8, hds, e0, e1, e5, hlt, x1, x2]
    exact ⟨⟨i + 1, by omega, by omega, hD⟩, by omega⟩
  · simp -dsimp -implicitDefEqProofs (disch := omega) only [go_sem, reqD_of, dec_t, dec_f, wrap_i64, wrap_u32, wrap_u64, wrap_u8, hds, e0, e1, e5, hlt]
    exact h
end

theorem msgSize_any [Gives F Tabs] (hd : StatOk d) (h : St w0 F w) :
    Calls Tryz.prog 8 #[.agg (msgC 125 7 d).toArray] w fun e w' => St w0 F w' ∧ e = .returned (.int .i64 (if d.ok = true ∧ d.size + 9 ≤ 65536 then d.size + 9 else 0 : Nat)) := by
  refine F8.calls (by simp) ?_
  unfold F8.code
  simp -dsimp -implicitDefEqProofs (disch := omega) only [go_sem, reqD_of, dec_t, dec_f, wrap_i64, wrap_u32, wrap_u64, wrap_u8]
  refine h.new fun M w1 h1 => ?_
  have h1 : St w0 (Blk M (msgB 125 7 d) * F) w1 := h1
  have hM : rowV w1 ⟨M, 0, none⟩ 36 = some (.agg (msgC 125 7 d).toArray) := h1.rowH M 36 rfl
  simp -dsimp -implicitDefEqProofs (disch := omega) only [go_sem, reqD_of, dec_t, dec_f, wrap_i64, wrap_u32, wrap_u64, wrap_u8, hM]
  refine (msgEncode_any hd h1).mono ?_
  intro e w2 h2
  unfold MsgR at h2
  by_cases hc : d.ok = true ∧ d.size + 9 ≤ 65536
  · rw [if_pos hc] at h2 ⊢
    obtain ⟨v, h2, rfl⟩ := h2
    obtain ⟨a, c, rfl, _⟩ := h2.rowForm v
    simp -dsimp -implicitDefEqProofs (disch := omega) only [go_sem, reqD_of, dec_t, dec_f, wrap_i64, wrap_u32, wrap_u64, wrap_u8]
    exact h2.right.right
  · rw [if_neg hc] at h2 ⊢
    obtain ⟨k, hk, h2, rfl⟩ := h2
    simp -dsimp -implicitDefEqProofs (disch := omega) only [go_sem, reqD_of, dec_t, dec_f, wrap_i64, wrap_u32, wrap_u64, wrap_u8]
    exact h2.right
end
end Go.Proofs.YtonajgmamdeohaaGreatDoor
