/- A record is put into a writer. -/
import Derived.Test.YtonajgmamdeohaaGreatDoorTrC
namespace Go.Proofs.YtonajgmamdeohaaGreatDoor
open Go
set_option linter.unusedVariables false
set_option linter.unusedSimpArgs false
set_option maxRecDepth 100000

abbrev statC (d : StatD) : List Value := [.int .u16 d.ty, .int .u32 d.dev, .int .u8 d.qk, .int .u32 d.qv, .int .u64 d.qp, .int .u32 d.mode, .int .u32 d.at', .int .u32 d.mt, .int .u64 d.len, sv d.name, sv d.uid, sv d.gid, sv d.muid]
structure StatOk (d : StatD) : Prop where
  ty : d.ty < 65536
  dev : d.dev < 4294967296
  qk : d.qk < 256
  qv : d.qv < 4294967296
  qp : d.qp < 18446744073709551616
  mode : d.mode < 4294967296
  at' : d.at' < 4294967296
  mt : d.mt < 4294967296
  len : d.len < 18446744073709551616
  name : d.name.length ≤ 2147483648
  uid : d.uid.length ≤ 2147483648
  gid : d.gid.length ≤ 2147483648
  muid : d.muid.length ≤ 2147483648
theorem WOk.open {s : WS} (h : WOk s) (hop : s.op.length ≤ 10) : WOk (openS s) := by
  unfold openS
  split
  · rename_i k
    simp only [hasRoom, decide_eq_true_eq] at k
    exact ⟨h.lim, by simp only [List.length_append, List.length_cons, List.length_nil]; exact k.2, by simp only [List.length_append, List.length_cons, List.length_nil]; omega⟩
  · exact h.room
theorem WOk.shut {s : WS} {p : Nat} (h : WOk s) : WOk (shutS p s) := by
  unfold shutS
  split
  · exact h
  split
  · exact h.err
  · exact ⟨h.lim, by simp only [setB, List.length_set]; exact h.b, by simp only [List.length_dropLast]; have := h.op; omega⟩
theorem WOk.pc {s : WS} {p : Pc} (h : WOk s) : WOk (pcS p s) := by
  cases p with
  | raw l => exact h.raw
  | txt l => exact h.text
theorem WOk.pcs {ps : List Pc} : ∀ {s : WS}, WOk s → WOk (pcsS ps s) := by
  induction ps with
  | nil => exact fun h => h
  | cons p ps ih => exact fun h => ih h.pc
theorem WOk.stat {s : WS} {d : StatD} (h : WOk s) (hop : s.op.length ≤ 10) : WOk (statS d s) := (h.open hop).pcs.shut
theorem statS_pre {d : StatD} {s : WS} (h : WOk s) (he : (pcsS d.pcs (openS s)).err = 0) : (pcsS d.pcs (openS s)).op = s.op ++ [placeS s] ∧ placeS s + 2 ≤ (pcsS d.pcs (openS s)).b.length := by
  by_cases hr : hasRoom 2 s = true
  · have e1 : openS s = { s with b := s.b ++ [0, 0], op := s.op ++ [s.b.length] } := by unfold openS; rw [if_pos hr]
    have e2 : placeS s = s.b.length := by unfold placeS; rw [if_pos hr]
    simp only [hasRoom, decide_eq_true_eq] at hr
    rw [e1] at he ⊢
    rw [e2]
    rcases pcsS_law (ps := d.pcs) (s := { s with b := s.b ++ [0, 0], op := s.op ++ [s.b.length] }) hr.1 (by simpa using hr.2) with ⟨k1, k2, k3⟩ | ⟨k1, k2⟩
    · rw [k3]
      exact ⟨rfl, by simp only [List.length_append, List.length_cons, List.length_nil]; omega⟩
    · exact absurd he k2
  · have hx : (openS s).err ≠ 0 := by
      unfold openS roomS
      rw [if_neg hr]
      by_cases h0 : s.err = 0
      · have hr2 : s.lim < s.b.length + 2 := by
          simp only [hasRoom, decide_eq_true_eq, h0, true_and] at hr
          omega
        rw [if_pos ⟨h0, hr2⟩]
        exact (show (11 : Int) ≠ 0 by decide)
      · rw [if_neg (fun k => h0 k.1)]
        exact h0
    rw [pcsS_err hx] at he
    exact absurd he hx
theorem placeS_le {s : WS} (h : WOk s) : placeS s ≤ 16777216 := by
  unfold placeS
  have := h.b
  have := h.lim
  split <;> omega
section
variable {w0 w : World} {F : HP} {W : Nat} {s : WS} {v u : Value}
section
attribute [local go_sem] F35.t2_eq
theorem putQid_any {qk qv qp : Nat} (ok : WOk s) (h1 : qk < 256) (h2 : qv < 4294967296) (h3 : qp < 18446744073709551616) (h : St w0 (WP W s * F) w) :
    Calls Tryz.prog 35 #[.pointer (some ⟨W, 0, none⟩), .agg #[.int .u8 qk, .int .u32 qv, .int .u64 qp]] w fun e w' => St w0 (WP W (rawS (leN 8 qp) (rawS (leN 4 qv) (rawS (leN 1 qk) s))) * F) w' ∧ e = .returned (.tuple #[]) := by
  refine F35.calls (by simp) ?_
  unfold F35.code
  simp -dsimp -implicitDefEqProofs (disch := omega) only [go_sem, reqD_of, dec_t, dec_f, wrap_i64, wrap_u32, wrap_u64, wrap_u8]
  refine h.new fun X w1 k1 => ?_
  simp -dsimp -implicitDefEqProofs (disch := omega) only [go_sem, reqD_of, dec_t, dec_f, wrap_i64, wrap_u32, wrap_u64, wrap_u8, k1.cl X]
  refine (U8_any ok h1 (k1.ac (show _ = WP W s * (Blk X (.cells #[.int .u8 qk, .int .u32 qv, .int .u64 qp] 26 (0, 0)) * F) by ac_rfl))).mono ?_
  rintro e w2 ⟨k2, rfl⟩
  simp -dsimp -implicitDefEqProofs (disch := omega) only [go_sem, reqD_of, dec_t, dec_f, wrap_i64, wrap_u32, wrap_u64, wrap_u8, k2.cl X]
  refine (U32_any ok.raw h2 k2).mono ?_
  rintro e w3 ⟨k3, rfl⟩
  simp -dsimp -implicitDefEqProofs (disch := omega) only [go_sem, reqD_of, dec_t, dec_f, wrap_i64, wrap_u32, wrap_u64, wrap_u8, k3.cl X]
  refine (U64_any ok.raw.raw h3 k3).mono ?_
  rintro e w4 ⟨k4, rfl⟩
  simp -dsimp -implicitDefEqProofs (disch := omega) only [go_sem, reqD_of, dec_t, dec_f, wrap_i64, wrap_u32, wrap_u64, wrap_u8]
  exact k4.ent (Ent.sep (Ent.rfl' _) (Ent.right _ _))
end
section
attribute [local go_sem] F20.t14_eq F20.t12_eq F20.t15_eq F20.t2_eq
theorem putStat_any {d : StatD} [Gives F Tabs] (ok : WOk s) (hop : s.op.length ≤ 10) (hd : StatOk d) (h : St w0 (WP W s * F) w) :
    Calls Tryz.prog 20 #[.pointer (some ⟨W, 0, none⟩), .agg (statC d).toArray] w fun e w' => St w0 (WP W (statS d s) * F) w' ∧ e = .returned (.tuple #[]) := by
  refine F20.calls (by simp) ?_
  unfold F20.code
  simp -dsimp -implicitDefEqProofs (disch := omega) only [go_sem, reqD_of, dec_t, dec_f, wrap_i64, wrap_u32, wrap_u64, wrap_u8]
  refine h.new fun X w1 k1 => ?_
  have k1 : St w0 (Blk X (.cells (statC d).toArray 28 (0, 0)) * (WP W s * F)) w1 := k1
  simp -dsimp -implicitDefEqProofs (disch := omega) only [go_sem, reqD_of, dec_t, dec_f, wrap_i64, wrap_u32, wrap_u64, wrap_u8]
  refine (open_any ok hop (k1.ac (show _ = WP W s * (Blk X (.cells (statC d).toArray 28 (0, 0)) * F) by ac_rfl))).mono ?_
  rintro e w2 ⟨k2, rfl⟩
  have o1 := ok.open hop
  simp -dsimp -implicitDefEqProofs (disch := omega) only [go_sem, reqD_of, dec_t, dec_f, wrap_i64, wrap_u32, wrap_u64, wrap_u8, k2.cl X]
  refine (U16_any (n := d.ty) o1 hd.ty k2).mono ?_
  rintro e w3 ⟨k3, rfl⟩
  have o2 := o1.raw (l := leN 2 d.ty)
  simp -dsimp -implicitDefEqProofs (disch := omega) only [go_sem, reqD_of, dec_t, dec_f, wrap_i64, wrap_u32, wrap_u64, wrap_u8, k3.cl X]
  refine (U32_any (n := d.dev) o2 hd.dev k3).mono ?_
  rintro e w4 ⟨k4, rfl⟩
  have o3 := o2.raw (l := leN 4 d.dev)
  simp -dsimp -implicitDefEqProofs (disch := omega) only [go_sem, reqD_of, dec_t, dec_f, wrap_i64, wrap_u32, wrap_u64, wrap_u8, k4.cl X]
  refine (putQid_any o3 hd.qk hd.qv hd.qp k4).mono ?_
  rintro e w5 ⟨k5, rfl⟩
  have o4 := ((o3.raw (l := leN 1 d.qk)).raw (l := leN 4 d.qv)).raw (l := leN 8 d.qp)
  simp -dsimp -implicitDefEqProofs (disch := omega) only [go_sem, reqD_of, dec_t, dec_f, wrap_i64, wrap_u32, wrap_u64, wrap_u8, k5.cl X]
  refine (U32_any (n := d.mode) o4 hd.mode k5).mono ?_
  rintro e w6 ⟨k6, rfl⟩
  have o5 := o4.raw (l := leN 4 d.mode)
  simp -dsimp -implicitDefEqProofs (disch := omega) only [go_sem, reqD_of, dec_t, dec_f, wrap_i64, wrap_u32, wrap_u64, wrap_u8, k6.cl X]
  refine (U32_any (n := d.at') o5 hd.at' k6).mono ?_
  rintro e w7 ⟨k7, rfl⟩
  have o6 := o5.raw (l := leN 4 d.at')
  simp -dsimp -implicitDefEqProofs (disch := omega) only [go_sem, reqD_of, dec_t, dec_f, wrap_i64, wrap_u32, wrap_u64, wrap_u8, k7.cl X]
  refine (U32_any (n := d.mt) o6 hd.mt k7).mono ?_
  rintro e w8 ⟨k8, rfl⟩
  have o7 := o6.raw (l := leN 4 d.mt)
  simp -dsimp -implicitDefEqProofs (disch := omega) only [go_sem, reqD_of, dec_t, dec_f, wrap_i64, wrap_u32, wrap_u64, wrap_u8, k8.cl X]
  refine (U64_any (n := d.len) o7 hd.len k8).mono ?_
  rintro e w9 ⟨k9, rfl⟩
  have o8 := o7.raw (l := leN 8 d.len)
  simp -dsimp -implicitDefEqProofs (disch := omega) only [go_sem, reqD_of, dec_t, dec_f, wrap_i64, wrap_u32, wrap_u64, wrap_u8, k9.cl X]
  refine k9.lit (n := 4) (cells := [sv d.name, sv d.uid, sv d.gid, sv d.muid]) fact_rowTy_31 rfl (by decide) (by decide) fun v2 w10 k10 => ?_
  obtain ⟨a2, c2, rfl, _⟩ := k10.rowForm v2
  simp -dsimp -implicitDefEqProofs (disch := omega) only [go_sem, reqD_of, dec_t, dec_f, wrap_i64, wrap_u32, wrap_u64, wrap_u8]
  obtain ⟨s9, hs9⟩ : ∃ s9, s9 = rawS (leN 8 d.len) (rawS (leN 4 d.mt) (rawS (leN 4 d.at') (rawS (leN 4 d.mode) (rawS (leN 8 d.qp) (rawS (leN 4 d.qv) (rawS (leN 1 d.qk) (rawS (leN 4 d.dev) (rawS (leN 2 d.ty) (openS s))))))))) := ⟨_, rfl⟩
  rw [← hs9] at k10 o8
  have hfin : pcsS ([d.name, d.uid, d.gid, d.muid].map Pc.txt) s9 = pcsS d.pcs (openS s) := by rw [hs9]; rfl
  obtain ⟨ts, hts⟩ : ∃ ts, ts = [d.name, d.uid, d.gid, d.muid] := ⟨_, rfl⟩
  have htl : ts.length = 4 := by rw [hts]; rfl
  have htb : ∀ l ∈ ts, l.length ≤ 2147483648 := by
    intro l hl
    rw [hts] at hl
    simp only [List.mem_cons, List.not_mem_nil, or_false] at hl
    rcases hl with rfl | rfl | rfl | rfl
    · exact hd.name
    · exact hd.uid
    · exact hd.gid
    · exact hd.muid
  have hcells : [sv d.name, sv d.uid, sv d.gid, sv d.muid] = ts.flatMap fun l => [sv l] := by rw [hts]; rfl
  rw [hcells] at k10
  rw [← hts] at hfin
  have k11 : St w0 (WP W (pcsS ((ts.take 0).map Pc.txt) s9) * (RowO 9 1 (.slice a2 4 c2) 4 (ts.flatMap fun l => [sv l]) * F)) w10 := (k10.ac (show _ = Blk X (.cells (statC d).toArray 28 (0, 0)) * (WP W s9 * (RowO 9 1 (.slice a2 4 c2) 4 (ts.flatMap fun l => [sv l]) * F)) by ac_rfl)).right
  have hop10 : placeS s ≤ 16777216 := placeS_le ok
  refine loop_intro (fun e w' => e.ds = [] ∧ e.ρ 0 = .pointer (some ⟨W, 0, none⟩) ∧ e.ρ 4 = .int .i64 (placeS s : Nat) ∧ e.ρ 47 = .slice a2 4 c2 ∧ e.ρ 48 = .int .i64 4 ∧ ∃ i : Nat, i ≤ 4 ∧ e.ρ 49 = .int .i64 i ∧
      St w0 (WP W (pcsS ((ts.take i).map Pc.txt) s9) * (RowO 9 1 (.slice a2 4 c2) 4 (ts.flatMap fun l => [sv l]) * F)) w')
    (fun e _ => match e.ρ 49 with | .int _ i => (4 - i).toNat | _ => 0) ?_ ?_
  · exact ⟨rfl, by simp -dsimp -implicitDefEqProofs only [go_sem], by simp -dsimp -implicitDefEqProofs only [go_sem], by simp -dsimp -implicitDefEqProofs only [go_sem], by simp -dsimp -implicitDefEqProofs only [go_sem], 0, by omega, by simp -dsimp -implicitDefEqProofs only [go_sem], k11⟩
  clear h k1 k2 k3 k4 k5 k6 k7 k8 k9 k10 k11
  rintro e w ⟨hd, e0, e4, e47, e48, i, hi, e49, h⟩
  have o9 : WOk (pcsS ((ts.take i).map Pc.txt) s9) := o8.pcs
  by_cases hlt : (i : Int) < 4
  · have hil : i < ts.length := by omega
    obtain ⟨_, a', c', hv, _, hcl⟩ := St.rowsAt (k := 1) (l := ts) (fun _ => rfl) (by decide) ((h.ent (Ent.right _ _)).ent ((Ent.left _ _).trans (RowO.reads _ _ _ _ _)))
    simp only [Value.slice.injEq, true_and] at hv
    obtain ⟨rfl, rfl⟩ := hv
    obtain ⟨g, o, rfl, _, hc⟩ := hcl i hil
    have hc := hc 0 (by decide)
    simp only [Nat.mul_one, Nat.add_zero, List.getElem?_cons_zero] at hc
    simp -dsimp -implicitDefEqProofs (disch := omega) only [go_sem, reqD_of, dec_t, dec_f, wrap_i64, wrap_u32, wrap_u64, wrap_u8, hd, e0, e4, e47, e48, e49, hlt, hc]
    refine (text_any (l := ts[i]) o9 (by have := htb _ (List.getElem_mem hil); omega) h).mono ?_
    rintro e' w1 ⟨h1, rfl⟩
    simp -dsimp -implicitDefEqProofs (disch := omega) only [go_sem, reqD_of, dec_t, dec_f, wrap_i64, wrap_u32, wrap_u64, wrap_u8, hd, e0, e4, e47, e48, e49]
    refine ⟨⟨i + 1, by omega, by omega, ?_⟩, by omega⟩
    have e1 : pcsS ((ts.take (i + 1)).map Pc.txt) s9 = textS ts[i] (pcsS ((ts.take i).map Pc.txt) s9) := by
      rw [List.take_succ_eq_append_getElem hil]
      simp only [List.map_append, List.map_cons, List.map_nil, pcsS, List.foldl_append, List.foldl_cons, List.foldl_nil, pcS]
    rw [e1]
    exact h1
  · obtain rfl : i = 4 := by omega
    rw [List.take_of_length_le (by omega), hfin] at h o9
    simp -dsimp -implicitDefEqProofs (disch := omega) only [go_sem, reqD_of, dec_t, dec_f, wrap_i64, wrap_u32, wrap_u64, wrap_u8, hd, e0, e4, e47, e48, e49, hlt]
    have hpre := statS_pre (d := d) ok
    refine (shut_any (p := placeS s) (op' := s.op) o9 hpre h hop10).mono ?_
    rintro e' w1 ⟨h1, rfl⟩
    simp -dsimp -implicitDefEqProofs (disch := omega) only [go_sem, reqD_of, dec_t, dec_f, wrap_i64, wrap_u32, wrap_u64, wrap_u8, hd]
    exact h1.ent (Ent.sep (Ent.rfl' _) (Ent.right _ _))
end
end
end Go.Proofs.YtonajgmamdeohaaGreatDoor
