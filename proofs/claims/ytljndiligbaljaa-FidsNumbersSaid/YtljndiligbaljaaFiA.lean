/- Walks of the fids package: New, Add, Get, as far as the closed sentence needs them. -/
import Derived.Test.YtljndiligbaljaaIr
import Derived.Test.YtljndiligbaljaaMaps
import Derived.Test.YtljndiligbaljaaAgg
namespace Go.Proofs.Ytljndiligbaljaa
open Go
set_option linter.unusedSimpArgs false
set_option linter.unusedVariables false
set_option maxRecDepth 100000

abbrev encU : Int → Value := fun n => .int .u32 n
theorem lawU : KeyLaw Try.prog 35 encU := KeyLaw.int Try.underlying35

/-- A fid's cells. -/
def fidC (state node : Int) (user : ByteArray) (mode : Int) (rm : Bool) (last told : Int) (tu tt : ByteArray) (ours theirs step said : Int) (heard : Value) : List Value :=
  [.int .u8 state, .int .u64 node, .string user, .int .u8 mode, .bool rm, .int .u64 last, .int .u64 told, .string tu, .string tt, .int .u64 ours, .int .u64 theirs, .int .u8 step, .int .i64 said, heard]

def fid1 : List Value := fidC 1 4 ⟨#[117]⟩ 0 false 0 0 ⟨#[]⟩ ⟨#[]⟩ 0 0 0 0 (.slice none 0 0)

def zfid : List Value := fidC 0 0 ⟨#[]⟩ 0 false 0 0 ⟨#[]⟩ ⟨#[]⟩ 0 0 0 0 (.slice none 0 0)
theorem fidC_cells {state node mode last told ours theirs step said : Int} {user tu tt : ByteArray} {rm : Bool} {heard : Value} (hh : isCell heard = true) : ∀ v ∈ fidC state node user mode rm last told tu tt ours theirs step said heard, isCell v = true := by
  intro v hv
  simp only [fidC, List.mem_cons, List.not_mem_nil, or_false] at hv
  rcases hv with rfl | rfl | rfl | rfl | rfl | rfl | rfl | rfl | rfl | rfl | rfl | rfl | rfl | rfl <;> first | rfl | exact hh
theorem fid1_cells : ∀ v ∈ fid1, isCell v = true := fidC_cells rfl
theorem zfid_cells : ∀ v ∈ zfid, isCell v = true := fidC_cells rfl

section
attribute [local go_sem] F57.t3_eq
theorem clone_nil (w : World) : Calls Try.prog 57 #[.slice none 0 0] w fun e w' => w' = w ∧ e = .returned (.slice none 0 0) := by
  refine F57.calls (by simp) ?_
  unfold F57.code
  simp -dsimp -implicitDefEqProofs (disch := omega) only [go_sem, reqD_of, dec_t, dec_f, wrap_i64, wrap_u32, wrap_u64, wrap_u8]

end
section
attribute [local go_sem] F39.t5_eq F39.t6_eq
theorem may_fid1 {w0 w : World} {F : HP} (h : St w0 F w) : Calls Try.prog 39 #[.agg fid1.toArray] w fun e w' => St w0 F w' ∧ e = .returned (.bool true) := by
  refine F39.calls (by simp) ?_
  unfold F39.code
  unfold fid1 fidC
  simp -dsimp -implicitDefEqProofs (disch := omega) only [go_sem, reqD_of, dec_t, dec_f, wrap_i64, wrap_u32, wrap_u64, wrap_u8]
  refine h.new fun B w1 h1 => ?_
  have hc := h1.cells
  simp -dsimp -implicitDefEqProofs (disch := omega) only [go_sem, reqD_of, dec_t, dec_f, wrap_i64, wrap_u32, wrap_u64, wrap_u8, hc]
  exact h1.right

end

theorem own_fid1 {w0 w : World} {F : HP} (h : St w0 F w) : Calls Try.prog 41 #[.agg fid1.toArray] w fun e w' => St w0 F w' ∧ e = .returned (.agg fid1.toArray) := by
  refine F41.calls (by simp) ?_
  unfold F41.code
  unfold fid1 fidC
  simp -dsimp -implicitDefEqProofs (disch := omega) only [go_sem, reqD_of, dec_t, dec_f, wrap_i64, wrap_u32, wrap_u64, wrap_u8]
  refine h.new fun B1 w1 h1 => ?_
  simp -dsimp -implicitDefEqProofs (disch := omega) only [go_sem, reqD_of, dec_t, dec_f, wrap_i64, wrap_u32, wrap_u64, wrap_u8]
  refine h1.new fun B2 w2 h2 => ?_
  have hc := h2.sw2.cells
  simp -dsimp -implicitDefEqProofs (disch := omega) only [go_sem, reqD_of, dec_t, dec_f, wrap_i64, wrap_u32, wrap_u64, wrap_u8, hc]
  refine (clone_nil w2).mono ?_
  rintro e w3 ⟨rfl, rfl⟩
  simp -dsimp -implicitDefEqProofs (disch := omega) only [go_sem, reqD_of, dec_t, dec_f, wrap_i64, wrap_u32, wrap_u64, wrap_u8, hc]
  refine (h2.sw2).store (arr' := fid1.toArray) (by simp [fid1, fidC]) (by simp) rfl fun w4 h3 => ?_
  have hrow := h3.row (n := 14) rfl
  simp -dsimp -implicitDefEqProofs (disch := omega) only [go_sem, reqD_of, dec_t, dec_f, wrap_i64, wrap_u32, wrap_u64, wrap_u8, hrow]
  refine (h3.sw2).storeAll (cs := fid1) rfl rfl fid1_cells fun w5 h4 => ?_
  have hrow2 := h4.row (n := 14) rfl
  simp -dsimp -implicitDefEqProofs (disch := omega) only [go_sem, reqD_of, dec_t, dec_f, wrap_i64, wrap_u32, wrap_u64, wrap_u8]
  refine resC_1 (a := ⟨B2, 0, none⟩) (v := .agg fid1.toArray) (by simp -dsimp -implicitDefEqProofs only [go_sem]) (run_loadVar_row fact_aggSz_43 (by rw [hrow2])) ?_
  exact ⟨h4.right.right, rfl⟩

/-- A table: how many it may have, and its map. -/
def TabP (B : Nat) (most : Int) (l : List (Int × Value)) : HP := HP.ex fun b => Blk B (.cells #[.int .i64 most, .map (some b)] 88 (0, 0)) * MapP encU b l

section
attribute [local go_sem] F20.t3_eq
theorem new_fids {w0 w : World} {F : HP} {n : Int} (h : St w0 F w) (h1 : 1 ≤ n) (h2 : n ≤ 256) : Calls Try.prog 20 #[.int .i64 n] w fun e w' => ∃ B, St w0 (TabP B n [] * F) w' ∧ e = .returned (.tuple #[.pointer (some ⟨B, 0, none⟩), .int .i64 0]) := by
  refine F20.calls (by simp) ?_
  unfold F20.code
  simp -dsimp -implicitDefEqProofs (disch := omega) only [go_sem, reqD_of, dec_t, dec_f, wrap_i64, wrap_u32, wrap_u64, wrap_u8]
  refine St.makeMap (enc := encU) h fun b w1 h3 => ?_
  simp -dsimp -implicitDefEqProofs (disch := omega) only [go_sem, reqD_of, dec_t, dec_f, wrap_i64, wrap_u32, wrap_u64, wrap_u8]
  refine onV_of (v := .agg #[.int .i64 n, .map (some b)]) rfl ?_
  simp -dsimp -implicitDefEqProofs (disch := omega) only [go_sem, reqD_of, dec_t, dec_f, wrap_i64, wrap_u32, wrap_u64, wrap_u8]
  refine h3.new fun B w2 h4 => ?_
  simp -dsimp -implicitDefEqProofs (disch := omega) only [go_sem, reqD_of, dec_t, dec_f, wrap_i64, wrap_u32, wrap_u64, wrap_u8]
  refine ⟨B, ?_, rfl⟩
  exact (h4.ac (sep_assoc _ _ _).symm).ent (Ent.sep (Ent.ex (fun b => Blk B (.cells #[.int .i64 n, .map (some b)] 88 (0, 0)) * MapP encU b []) b) (Ent.rfl' _))

end
section
attribute [local go_sem] F40.t8_eq F40.t6_eq F40.t3_eq
theorem free_fids {w0 w : World} {F : HP} {B : Nat} {most x : Int} {l : List (Int × Value)} (h : St w0 (TabP B most l * F) w) (hx : ¬ x = 4294967295) (hl : lk x l = none) (hm : (l.length : Int) < most) :
    Calls Try.prog 40 #[.pointer (some ⟨B, 0, none⟩), .int .u32 x] w fun e w' => St w0 (TabP B most l * F) w' ∧ e = .returned (.int .i64 0) := by
  obtain ⟨b, h0⟩ := h.exF
  have h1 : St w0 (MapP encU b l * (Blk B (.cells #[.int .i64 most, .map (some b)] 88 (0, 0)) * F)) w := h0.ac (by ac_rfl)
  have hc := h1.sw2.cells
  refine F40.calls (by simp) ?_
  unfold F40.code
  simp -dsimp -implicitDefEqProofs (disch := omega) only [go_sem, reqD_of, dec_t, dec_f, wrap_i64, wrap_u32, wrap_u64, wrap_u8, hx, hc]
  refine h1.lookup Try.underlying86 lawU fact_zeroV_43 ?_
  rw [hl]
  simp -dsimp -implicitDefEqProofs (disch := omega) only [go_sem, reqD_of, dec_t, dec_f, wrap_i64, wrap_u32, wrap_u64, wrap_u8, lkV_noneOk]
  refine h1.new fun B5 w2 h2 => ?_
  simp -dsimp -implicitDefEqProofs (disch := omega) only [go_sem, reqD_of, dec_t, dec_f, wrap_i64, wrap_u32, wrap_u64, wrap_u8]
  refine h2.storeAll (cs := zfid) rfl rfl zfid_cells fun w3 h3 => ?_
  have h4 := h3.drew
  have hcd := (h4.ac (show _ = Blk B (.cells #[.int .i64 most, .map (some b)] 88 (0, 0)) * (Blk B5 (.cells zfid.toArray 43 (0, 0)) * (MapP encU b l * F)) by ac_rfl)).cells
  simp -dsimp -implicitDefEqProofs (disch := omega) only [go_sem, reqD_of, dec_t, dec_f, wrap_i64, wrap_u32, wrap_u64, wrap_u8, hcd]
  refine (h4.ac (show _ = MapP encU b l * (Blk B5 (.cells zfid.toArray 43 (0, 0)) * (Blk B (.cells #[.int .i64 most, .map (some b)] 88 (0, 0)) * F)) by ac_rfl)).lenMap Try.underlying86 ?_
  simp -dsimp -implicitDefEqProofs (disch := omega) only [go_sem, reqD_of, dec_t, dec_f, wrap_i64, wrap_u32, wrap_u64, wrap_u8, hcd]
  refine (h4.right).ent ?_
  exact (Ent.of_eq (sep_assoc _ _ _).symm).trans (Ent.sep ((Ent.of_eq (sep_comm _ _)).trans (Ent.ex (fun b => Blk B (.cells #[.int .i64 most, .map (some b)] 88 (0, 0)) * MapP encU b l) b)) (Ent.rfl' _))

end
section
attribute [local go_sem] F22.t6_eq F22.t3_eq
theorem add_fid1 {w0 w : World} {F : HP} {B : Nat} {most x : Int} {l : List (Int × Value)} (h : St w0 (TabP B most l * F) w) (hx : ¬ x = 4294967295) (hl : lk x l = none) (hm : (l.length : Int) < most) :
    Calls Try.prog 22 #[.pointer (some ⟨B, 0, none⟩), .int .u32 x, .agg fid1.toArray] w fun e w' => St w0 (TabP B most (upd x (.agg fid1.toArray) l) * F) w' ∧ e = .returned (.int .i64 0) := by
  refine F22.calls (by simp) ?_
  unfold F22.code
  simp -dsimp -implicitDefEqProofs (disch := omega) only [go_sem, reqD_of, dec_t, dec_f, wrap_i64, wrap_u32, wrap_u64, wrap_u8]
  refine h.new fun B5 w1 h1 => ?_
  have hr1 : rowV w1 ⟨B5, 0, none⟩ 14 = some (.agg fid1.toArray) := h1.row (n := 14) rfl
  simp -dsimp -implicitDefEqProofs (disch := omega) only [go_sem, reqD_of, dec_t, dec_f, wrap_i64, wrap_u32, wrap_u64, wrap_u8, hr1]
  refine (may_fid1 h1).mono ?_
  rintro e w2 ⟨h2, rfl⟩
  simp -dsimp -implicitDefEqProofs (disch := omega) only [go_sem, reqD_of, dec_t, dec_f, wrap_i64, wrap_u32, wrap_u64, wrap_u8]
  refine (free_fids h2.sw2 hx hl hm).mono ?_
  rintro e w3 ⟨h3, rfl⟩
  have h4 := h3.drew
  obtain ⟨b, h5⟩ := h4.exF
  have h6 : St w0 (Blk B5 (.cells (Value.agg fid1.toArray).cells 43 (0, 0)) * (Blk B (.cells #[.int .i64 most, .map (some b)] 88 (0, 0)) * (MapP encU b l * F))) w3.drew := h5.ac (by ac_rfl)
  have hr2 : rowV w3.drew ⟨B5, 0, none⟩ 14 = some (.agg fid1.toArray) := h6.row (n := 14) rfl
  have hc2 := h6.sw2.cells
  simp -dsimp -implicitDefEqProofs (disch := omega) only [go_sem, reqD_of, dec_t, dec_f, wrap_i64, wrap_u32, wrap_u64, wrap_u8, hr2, hc2]
  refine (own_fid1 h6).mono ?_
  rintro e w4 ⟨h7, rfl⟩
  have hr3 : rowV w4 ⟨B5, 0, none⟩ 14 = some (.agg fid1.toArray) := h7.row (n := 14) rfl
  have hc3 := h7.sw2.cells
  simp -dsimp -implicitDefEqProofs (disch := omega) only [go_sem, reqD_of, dec_t, dec_f, wrap_i64, wrap_u32, wrap_u64, wrap_u8, hr3, hc3]
  refine St.update (h7.ac (show _ = MapP encU b l * (Blk B5 (.cells (Value.agg fid1.toArray).cells 43 (0, 0)) * (Blk B (.cells #[.int .i64 most, .map (some b)] 88 (0, 0)) * F)) by ac_rfl)) Try.underlying86 lawU fun w5 h8 => ?_
  simp -dsimp -implicitDefEqProofs (disch := omega) only [go_sem, reqD_of, dec_t, dec_f, wrap_i64, wrap_u32, wrap_u64, wrap_u8]
  refine (h8.ac (show _ = Blk B5 (.cells (Value.agg fid1.toArray).cells 43 (0, 0)) * ((Blk B (.cells #[.int .i64 most, .map (some b)] 88 (0, 0)) * MapP encU b (upd x (.agg fid1.toArray) l)) * F) by ac_rfl)).right.ent (Ent.sep (Ent.ex (fun b => Blk B (.cells #[.int .i64 most, .map (some b)] 88 (0, 0)) * MapP encU b (upd x (.agg fid1.toArray) l)) b) (Ent.rfl' _))

end
section
attribute [local go_sem] F30.t4_eq
theorem get_fid1 {w0 w : World} {F : HP} {B : Nat} {most x : Int} {l : List (Int × Value)} (h : St w0 (TabP B most l * F) w) (hl : lk x l = some (.agg fid1.toArray)) :
    Calls Try.prog 30 #[.pointer (some ⟨B, 0, none⟩), .int .u32 x] w fun e w' => St w0 (TabP B most l * F) w' ∧ e = .returned (.tuple #[.agg fid1.toArray, .int .i64 0]) := by
  refine F30.calls (by simp) ?_
  unfold F30.code
  simp -dsimp -implicitDefEqProofs (disch := omega) only [go_sem, reqD_of, dec_t, dec_f, wrap_i64, wrap_u32, wrap_u64, wrap_u8]
  obtain ⟨b, h0⟩ := h.exF
  refine h0.new fun B4 w1 h1 => ?_
  have hc := (h1.ac (show _ = Blk B (.cells #[.int .i64 most, .map (some b)] 88 (0, 0)) * (Blk B4 (.cells zfid.toArray 43 (0, 0)) * (MapP encU b l * F)) by unfold zfid fidC; ac_rfl)).cells
  simp -dsimp -implicitDefEqProofs (disch := omega) only [go_sem, reqD_of, dec_t, dec_f, wrap_i64, wrap_u32, wrap_u64, wrap_u8, hc]
  refine (h1.ac (show _ = MapP encU b l * (Blk B4 (.cells zfid.toArray 43 (0, 0)) * (Blk B (.cells #[.int .i64 most, .map (some b)] 88 (0, 0)) * F)) by unfold zfid fidC; ac_rfl)).lookup Try.underlying86 lawU fact_zeroV_43 ?_
  rw [hl]
  simp -dsimp -implicitDefEqProofs (disch := omega) only [go_sem, reqD_of, dec_t, dec_f, wrap_i64, wrap_u32, wrap_u64, wrap_u8, lkV_someOk]
  refine h1.new fun B6 w2 h2 => ?_
  simp -dsimp -implicitDefEqProofs (disch := omega) only [go_sem, reqD_of, dec_t, dec_f, wrap_i64, wrap_u32, wrap_u64, wrap_u8]
  refine h2.storeAll (cs := fid1) rfl rfl fid1_cells fun w3 h3 => ?_
  have hr1 := h3.row (n := 14) rfl
  simp -dsimp -implicitDefEqProofs (disch := omega) only [go_sem, reqD_of, dec_t, dec_f, wrap_i64, wrap_u32, wrap_u64, wrap_u8, hr1]
  refine (own_fid1 h3).mono ?_
  rintro e w4 ⟨h4, rfl⟩
  simp -dsimp -implicitDefEqProofs (disch := omega) only [go_sem, reqD_of, dec_t, dec_f, wrap_i64, wrap_u32, wrap_u64, wrap_u8]
  refine (h4.sw2).storeAll (cs := fid1) rfl rfl fid1_cells fun w5 h5 => ?_
  have hr2 := h5.row (n := 14) rfl
  simp -dsimp -implicitDefEqProofs (disch := omega) only [go_sem, reqD_of, dec_t, dec_f, wrap_i64, wrap_u32, wrap_u64, wrap_u8]
  refine resC_2 (a := ⟨B4, 0, none⟩) (v := .agg fid1.toArray) (by simp -dsimp -implicitDefEqProofs only [go_sem]) (run_loadVar_row fact_aggSz_43 (by rw [hr2])) ?_
  simp -dsimp -implicitDefEqProofs only [go_sem]
  exact (h5.right.right).ent (Ent.sep (Ent.ex (fun b => Blk B (.cells #[.int .i64 most, .map (some b)] 88 (0, 0)) * MapP encU b l) b) (Ent.rfl' _))

end
section
attribute [local go_sem] F9.t8_eq F9.t4_eq
theorem made3_any {w0 w : World} {F : HP} (h : St w0 F w) : Calls Try.prog 9 #[.int .i64 3] w fun e w' => ∃ B, St w0 F w' ∧ e = .returned (.pointer (some ⟨B, 0, none⟩)) := by
  refine F9.calls (by simp) ?_
  unfold F9.code
  simp -dsimp -implicitDefEqProofs (disch := omega) only [go_sem, reqD_of, dec_t, dec_f, wrap_i64, wrap_u32, wrap_u64, wrap_u8]
  refine (new_fids h (n := 3) (by decide) (by decide)).mono ?_
  rintro e w1 ⟨B, h1, rfl⟩
  simp -dsimp -implicitDefEqProofs (disch := omega) only [go_sem, reqD_of, dec_t, dec_f, wrap_i64, wrap_u32, wrap_u64, wrap_u8]
  refine onV_of (v := .agg fid1.toArray) rfl ?_
  simp -dsimp -implicitDefEqProofs (disch := omega) only [go_sem, reqD_of, dec_t, dec_f, wrap_i64, wrap_u32, wrap_u64, wrap_u8]
  refine (add_fid1 h1 (x := 9) (by decide) rfl (by decide)).mono ?_
  rintro e w2 ⟨h2, rfl⟩
  simp -dsimp -implicitDefEqProofs (disch := omega) only [go_sem, reqD_of, dec_t, dec_f, wrap_i64, wrap_u32, wrap_u64, wrap_u8]
  refine (get_fid1 h2 (x := 9) rfl).mono ?_
  rintro e w3 ⟨h3, rfl⟩
  simp -dsimp -implicitDefEqProofs (disch := omega) only [go_sem, reqD_of, dec_t, dec_f, wrap_i64, wrap_u32, wrap_u64, wrap_u8]
  refine h3.new fun B6 w4 h4 => ?_
  simp -dsimp -implicitDefEqProofs (disch := omega) only [go_sem, reqD_of, dec_t, dec_f, wrap_i64, wrap_u32, wrap_u64, wrap_u8]
  refine h4.storeAll (cs := fid1) rfl rfl fid1_cells fun w5 h5 => ?_
  have hc := h5.cells
  unfold fid1 fidC at hc
  simp -dsimp -implicitDefEqProofs (disch := omega) only [go_sem, reqD_of, dec_t, dec_f, wrap_i64, wrap_u32, wrap_u64, wrap_u8, hc, beq_self_eq_true]
  exact ⟨B, h5.right.right, rfl⟩

end

theorem fidsNumbers_any {w0 w : World} {F : HP} (h : St w0 F w) : Calls Try.prog 3 #[] w fun e w' => St w0 F w' ∧ e = .returned (.bool true) := by
  refine F3.calls (by simp) ?_
  unfold F3.code
  simp -dsimp -implicitDefEqProofs (disch := omega) only [go_sem, reqD_of, dec_t, dec_f, wrap_i64, wrap_u32, wrap_u64, wrap_u8]
  refine (made3_any h).mono ?_
  rintro e w1 ⟨B, h1, rfl⟩
  simp -dsimp -implicitDefEqProofs (disch := omega) only [go_sem, reqD_of, dec_t, dec_f, wrap_i64, wrap_u32, wrap_u64, wrap_u8]
  exact h1

theorem St.below0 {w0 w : World} (h : St w0 (Old w0) w) : RowKit.Below w0.heap.size w0 w := by
  refine ⟨h.os, h.tape, h.output, h.size, fun k hk => ?_⟩
  obtain ⟨x, l, a⟩ := h.sat
  have := l k _ (a k _ (Array.getElem?_eq_getElem hk))
  rw [Array.getElem?_eq_getElem hk]
  exact this

end Go.Proofs.Ytljndiligbaljaa
