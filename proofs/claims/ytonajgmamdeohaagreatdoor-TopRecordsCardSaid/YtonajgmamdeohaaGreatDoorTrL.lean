/- TopRecords: whole. -/
import Derived.Test.YtonajgmamdeohaaGreatDoorTrK
namespace Go.Proofs.YtonajgmamdeohaaGreatDoor
open Go
set_option linter.unusedVariables false
set_option linter.unusedSimpArgs false
set_option maxRecDepth 100000

/-- A record's numbers, in their ranges. -/
structure NumOk (d : StatD) : Prop where
  ty : d.ty < 65536
  dev : d.dev < 4294967296
  qk : d.qk < 256
  qv : d.qv < 4294967296
  qp : d.qp < 18446744073709551616
  mode : d.mode < 4294967296
  at' : d.at' < 4294967296
  mt : d.mt < 4294967296
  len : d.len < 18446744073709551616
theorem nextB {b pre p rest : List UInt8} (h : b = pre ++ (p ++ rest)) : b = (pre ++ p) ++ rest := by rw [h, List.append_assoc]
theorem bytes0 (d : StatD) : d.bytes = [] ++ (leN 2 (d.size - 2) ++ (leN 2 d.ty ++ (leN 4 d.dev ++ (leN 1 d.qk ++ (leN 4 d.qv ++ (leN 8 d.qp ++ (leN 4 d.mode ++ (leN 4 d.at' ++ (leN 4 d.mt ++ (leN 8 d.len ++ (leN 2 d.name.length ++ (d.name ++ (leN 2 d.uid.length ++ (d.uid ++ (leN 2 d.gid.length ++ (d.gid ++ (leN 2 d.muid.length ++ (d.muid ++ [])))))))))))))))))) := by
  simp [StatD.bytes, StatD.body, bytesL, StatD.pcs, Pc.bytes]
theorem seq_dec (a b : ByteArray) : (a.toList == b.toList) = decide (a = b) := by
  rw [ByteArray.toList_eq, ByteArray.toList_eq]
  by_cases h : a = b
  · subst h; simp
  · have h2 : ¬ a.data = b.data := fun e => h (by cases a; cases b; simp only at e; rw [e])
    simp [h, h2]

theorem bft : (false == true) = false := rfl
theorem nil_stat : (⟨0, 0, 0, 0, 0, 0, 0, 0, 0, [], [], [], []⟩ : StatD).size = 49 := rfl
section
variable {w0 w : World} {F : HP} {d : StatD}
section
attribute [local go_sem] F3.t16_eq F3.t14_eq F3.t11_eq F3.t9_eq F3.t5_eq F3.t3_eq
theorem rec_16 {e : FA} {R at' : Nat} {b : List UInt8} {G : HP} (hG : Ent G F) (hds : e.ds = []) (e7 : e.ρ 7 = .pointer (some ⟨R, 0, none⟩)) (hat : at' = b.length) (hb : b.length ≤ 16777216) (h : St w0 (RdP R b at' * G) w) :
    cwE Tryz.prog F3.t16 (fnP Tryz.prog #[.tmp 2] fun e w' => St w0 F w' ∧ e = .returned (.bool true)) e w := by
  rw [F3.t16_eq]
  simp -dsimp -implicitDefEqProofs (disch := omega) only [go_sem, reqD_of, dec_t, dec_f, wrap_i64, wrap_u32, wrap_u64, wrap_u8, e7]
  refine (end_any hat hb h).mono ?_
  rintro e' w1 ⟨h1, rfl⟩
  simp -dsimp -implicitDefEqProofs (disch := omega) only [go_sem, reqD_of, dec_t, dec_f, wrap_i64, wrap_u32, wrap_u64, wrap_u8, e7]
  refine (err_any h1).mono ?_
  rintro e' w2 ⟨h2, rfl⟩
  simp -dsimp -implicitDefEqProofs (disch := omega) only [go_sem, reqD_of, dec_t, dec_f, wrap_i64, wrap_u32, wrap_u64, wrap_u8, hds]
  exact h2.right.ent hG
end
section
attribute [local go_sem] F3.t14_eq F3.t11_eq F3.t9_eq F3.t5_eq F3.t3_eq
theorem rec_14 {e : FA} {X R : Nat} {G : HP} [Gives G Tabs] (hG : Ent G F) (hn : NumOk d) (hc : d.ok = true ∧ d.size + 9 ≤ 65536) (hds : e.ds = []) (e1 : e.ρ 1 = .pointer (some ⟨X, 0, none⟩)) (e7 : e.ρ 7 = .pointer (some ⟨R, 0, none⟩))
    (h : St w0 (RdP R d.bytes (0 + 2 + 2 + 4 + 1 + 4 + 8) * (Blk X (.cells (statC d).toArray 28 (0, 0)) * G)) w) :
    cwE Tryz.prog F3.t14 (fnP Tryz.prog #[.tmp 2] fun e w' => St w0 F w' ∧ e = .returned (.bool true)) e w := by
  rw [F3.t14_eq]
  have hok' := hc.1
  rw [StatD.ok_eq] at hok'
  simp only [StatD.texts, List.all_cons, List.all_nil, okT, Bool.and_true, Bool.and_eq_true, decide_eq_true_eq] at hok'
  obtain ⟨⟨hl0', hg0⟩, ⟨hl1', hg1⟩, ⟨hl2', hg2⟩, ⟨hl3', hg3⟩⟩ := hok'
  have hl0 : d.name.length < 65536 := by omega
  have hl1 : d.uid.length < 65536 := by omega
  have hl2 : d.gid.length < 65536 := by omega
  have hl3 : d.muid.length < 65536 := by omega
  have hbl := d.bytes_len
  have hbs : d.bytes.length ≤ 16777216 := by omega
  have H6 := nextB (nextB (nextB (nextB (nextB (nextB (bytes0 d))))))
  have k6 := h.drew
  simp -dsimp -implicitDefEqProofs (disch := omega) only [go_sem, reqD_of, dec_t, dec_f, wrap_i64, wrap_u32, wrap_u64, wrap_u8, e1, e7, k6.cl X]
  refine (R32_any (n := d.mode) hn.mode H6 (by simp [leN_length]) hbs k6).mono ?_
  rintro e' x6 ⟨k7, rfl⟩
  have H7 := nextB H6
  simp -dsimp -implicitDefEqProofs (disch := omega) only [go_sem, reqD_of, dec_t, dec_f, wrap_i64, wrap_u32, wrap_u64, wrap_u8, e1, e7, k7.cl X]
  refine (R32_any (n := d.at') hn.at' H7 (by simp [leN_length]) hbs k7).mono ?_
  rintro e' x7 ⟨k8, rfl⟩
  have H8 := nextB H7
  simp -dsimp -implicitDefEqProofs (disch := omega) only [go_sem, reqD_of, dec_t, dec_f, wrap_i64, wrap_u32, wrap_u64, wrap_u8, e1, e7, k8.cl X]
  refine (R32_any (n := d.mt) hn.mt H8 (by simp [leN_length]) hbs k8).mono ?_
  rintro e' x8 ⟨k9, rfl⟩
  have H9 := nextB H8
  simp -dsimp -implicitDefEqProofs (disch := omega) only [go_sem, reqD_of, dec_t, dec_f, wrap_i64, wrap_u32, wrap_u64, wrap_u8, e1, e7, k9.cl X]
  refine (R64_any (n := d.len) hn.len H9 (by simp [leN_length]) hbs k9).mono ?_
  rintro e' x9 ⟨k10, rfl⟩
  have H10 := nextB H9
  simp -dsimp -implicitDefEqProofs (disch := omega) only [go_sem, reqD_of, dec_t, dec_f, wrap_i64, wrap_u32, wrap_u64, wrap_u8, e1, e7, k10.cl X, seq_dec]
  refine (rtext_any (l := d.name) hl0 hg0 H10 (by simp [leN_length]) hbs k10).mono ?_
  rintro e' x10 ⟨k11, rfl⟩
  have H11 := nextB (nextB H10)
  simp -dsimp -implicitDefEqProofs (disch := omega) only [go_sem, reqD_of, dec_t, dec_f, wrap_i64, wrap_u32, wrap_u64, wrap_u8, e1, e7, k11.cl X, seq_dec]
  refine (rtext_any (l := d.uid) hl1 hg1 H11 (by simp [leN_length]; omega) hbs k11).mono ?_
  rintro e' x11 ⟨k12, rfl⟩
  have H12 := nextB (nextB H11)
  simp -dsimp -implicitDefEqProofs (disch := omega) only [go_sem, reqD_of, dec_t, dec_f, wrap_i64, wrap_u32, wrap_u64, wrap_u8, e1, e7, k12.cl X, seq_dec]
  refine (rtext_any (l := d.gid) hl2 hg2 H12 (by simp [leN_length]; omega) hbs k12).mono ?_
  rintro e' x12 ⟨k13, rfl⟩
  have H13 := nextB (nextB H12)
  simp -dsimp -implicitDefEqProofs (disch := omega) only [go_sem, reqD_of, dec_t, dec_f, wrap_i64, wrap_u32, wrap_u64, wrap_u8, e1, e7, k13.cl X, seq_dec]
  refine (rtext_any (l := d.muid) hl3 hg3 H13 (by simp [leN_length]; omega) hbs k13).mono ?_
  rintro e' x13 ⟨k14, rfl⟩
  simp -dsimp -implicitDefEqProofs (disch := omega) only [go_sem, reqD_of, dec_t, dec_f, wrap_i64, wrap_u32, wrap_u64, wrap_u8, e1, e7, k14.cl X, seq_dec]
  refine rec_16 (R := R) (G := Blk X (.cells (statC d).toArray 28 (0, 0)) * G) ((Ent.right _ _).trans hG) (by simp -dsimp -implicitDefEqProofs only [go_sem, hds]) (by simp -dsimp -implicitDefEqProofs only [go_sem, e7]) ?_ hbs k14
  rw [hbl]
  unfold StatD.size
  omega
end
section
attribute [local go_sem] F3.t16_eq F3.t11_eq F3.t9_eq F3.t5_eq F3.t3_eq
theorem rec_11 {e : FA} {X : Nat} {G : HP} {a : Option Addr} {c : Nat} [Gives G Tabs] (hG : Ent G F) (hn : NumOk d) (hc : d.ok = true ∧ d.size + 9 ≤ 65536) (hds : e.ds = []) (e1 : e.ρ 1 = .pointer (some ⟨X, 0, none⟩)) (e3 : e.ρ 3 = .slice a d.size c)
    (h : St w0 (RowO 5 1 (.slice a d.size c) d.size (byR d.bytes) * (Blk X (.cells (statC d).toArray 28 (0, 0)) * G)) w) :
    cwE Tryz.prog F3.t11 (fnP Tryz.prog #[.tmp 2] fun e w' => St w0 F w' ∧ e = .returned (.bool true)) e w := by
  rw [F3.t11_eq]
  have hok' := hc.1
  rw [StatD.ok_eq] at hok'
  simp only [StatD.texts, List.all_cons, List.all_nil, okT, Bool.and_true, Bool.and_eq_true, decide_eq_true_eq] at hok'
  obtain ⟨⟨hl0', hg0⟩, ⟨hl1', hg1⟩, ⟨hl2', hg2⟩, ⟨hl3', hg3⟩⟩ := hok'
  have hl0 : d.name.length < 65536 := by omega
  have hl1 : d.uid.length < 65536 := by omega
  have hl2 : d.gid.length < 65536 := by omega
  have hl3 : d.muid.length < 65536 := by omega
  have hbl := d.bytes_len
  have hbs : d.bytes.length ≤ 16777216 := by omega
  have h49 : 49 ≤ d.size := by unfold StatD.size; omega
  have nr := newReader_any (w0 := w0) (F := Blk X (.cells (statC d).toArray 28 (0, 0)) * G) (w := w) (b := d.bytes) (a := a) (c := c) hbs (by rw [hbl]; exact h)
  rw [hbl] at nr
  simp -dsimp -implicitDefEqProofs (disch := omega) only [go_sem, reqD_of, dec_t, dec_f, wrap_i64, wrap_u32, wrap_u64, wrap_u8, e3]
  refine nr.mono ?_
  rintro e' w7 ⟨R, h7, rfl⟩
  have H0 := bytes0 d
  have q6 : IntKind.u16.wrap ((d.size : Int) - 2) = ((d.size - 2 : Nat) : Int) := by rw [show (d.size : Int) - 2 = ((d.size - 2 : Nat) : Int) by omega, w16 (by omega)]
  have k0 := h7.drew
  simp -dsimp -implicitDefEqProofs (disch := omega) only [go_sem, reqD_of, dec_t, dec_f, wrap_i64, wrap_u32, wrap_u64, wrap_u8, e1, e3, q6, k0.cl X]
  refine (R16_any (n := d.size - 2) (by omega) H0 rfl hbs k0).mono ?_
  rintro e' x0 ⟨k1, rfl⟩
  have H1 := nextB H0
  simp -dsimp -implicitDefEqProofs (disch := omega) only [go_sem, reqD_of, dec_t, dec_f, wrap_i64, wrap_u32, wrap_u64, wrap_u8, e1, e3, q6, k1.cl X]
  refine (R16_any (n := d.ty) hn.ty H1 (by simp [leN_length]) hbs k1).mono ?_
  rintro e' x1 ⟨k2, rfl⟩
  have H2 := nextB H1
  simp -dsimp -implicitDefEqProofs (disch := omega) only [go_sem, reqD_of, dec_t, dec_f, wrap_i64, wrap_u32, wrap_u64, wrap_u8, e1, e3, q6, k2.cl X]
  refine (R32_any (n := d.dev) hn.dev H2 (by simp [leN_length]) hbs k2).mono ?_
  rintro e' x2 ⟨k3, rfl⟩
  have H3 := nextB H2
  simp -dsimp -implicitDefEqProofs (disch := omega) only [go_sem, reqD_of, dec_t, dec_f, wrap_i64, wrap_u32, wrap_u64, wrap_u8, e1, e3, q6, k3.cl X]
  refine (R8_any (n := d.qk) hn.qk H3 (by simp [leN_length]) hbs k3).mono ?_
  rintro e' x3 ⟨k4, rfl⟩
  have H4 := nextB H3
  simp -dsimp -implicitDefEqProofs (disch := omega) only [go_sem, reqD_of, dec_t, dec_f, wrap_i64, wrap_u32, wrap_u64, wrap_u8, e1, e3, q6, k4.cl X]
  refine (R32_any (n := d.qv) hn.qv H4 (by simp [leN_length]) hbs k4).mono ?_
  rintro e' x4 ⟨k5, rfl⟩
  have H5 := nextB H4
  simp -dsimp -implicitDefEqProofs (disch := omega) only [go_sem, reqD_of, dec_t, dec_f, wrap_i64, wrap_u32, wrap_u64, wrap_u8, e1, e3, q6, k5.cl X]
  refine (R64_any (n := d.qp) hn.qp H5 (by simp [leN_length]) hbs k5).mono ?_
  rintro e' x5 ⟨k6, rfl⟩
  simp -dsimp -implicitDefEqProofs (disch := omega) only [go_sem, reqD_of, dec_t, dec_f, wrap_i64, wrap_u32, wrap_u64, wrap_u8, e1, e3, q6, k6.cl X]
  refine rec_14 (X := X) (R := R) (G := RowO 5 1 (.slice a d.size c) d.size (byR d.bytes) * G) ((Ent.right _ _).trans hG) hn hc (by simp -dsimp -implicitDefEqProofs only [go_sem, hds]) (by simp -dsimp -implicitDefEqProofs only [go_sem, e1]) (by simp -dsimp -implicitDefEqProofs only [go_sem]) ?_
  exact k6.ac (by ac_rfl)
end
section
attribute [local go_sem] F3.t16_eq F3.t14_eq F3.t9_eq F3.t5_eq F3.t3_eq
theorem rec_9 {e : FA} {X : Nat} {a af : Option Addr} {c cf : Nat} [Gives F Tabs] (hn : NumOk d) (hc2 : d.ok = true ∧ d.size + 9 ≤ 65536) (hac : d.size ≤ c) (hfc : d.size + 9 ≤ cf) (hds : e.ds = []) (e1 : e.ρ 1 = .pointer (some ⟨X, 0, none⟩)) (e3 : e.ρ 3 = .slice a d.size c) (e5 : e.ρ 5 = .slice af (d.size + 9) cf)
    (h5 : St w0 (RowO 5 1 (.slice af (d.size + 9) cf) (d.size + 9) (byR (frameB d)) * (RowO 5 1 (.slice a d.size c) d.size (byR d.bytes) * (Blk X (.cells (statC d).toArray 28 (0, 0)) * F))) w) :
    cwE Tryz.prog F3.t9 (fnP Tryz.prog #[.tmp 2] fun e w' => St w0 F w' ∧ e = .returned (.bool true)) e w := by
  rw [F3.t9_eq]
  have hbl := d.bytes_len
  have hfl : (frameB d).length = d.size + 9 := by simp only [frameB, List.length_append, leN_length, List.length_cons, List.length_nil, hbl]; omega
  have hD := h5.drew
  have h5f : St w0 (RowO 5 1 (.slice af (frameB d).length cf) (frameB d).length (byR (frameB d)) * (RowO 5 1 (.slice a d.size c) d.size (byR d.bytes) * (Blk X (.cells (statC d).toArray 28 (0, 0)) * F))) w.drew := by rw [hfl]; exact hD
  obtain ⟨gf, of, rfl, _⟩ := byR_reads h5f (Ent.left _ _) (i := 7) (by omega)
  have e2 : ((byR (frameB d)).drop (9 * 1)).take (d.size * 1) = byR d.bytes := by
    rw [Nat.mul_one, Nat.mul_one, byR, ← List.map_drop, ← List.map_take]
    congr 1
    have : frameB d = (leN 4 (d.size + 9) ++ [125, 7, 0] ++ leN 2 d.size) ++ d.bytes := by simp [frameB]
    rw [this, List.drop_append_of_le_length (by simp [leN_length]), List.drop_of_length_le (by simp [leN_length]), List.nil_append, List.take_of_length_le (by omega)]
  have hsub : Ent (RowO 5 1 (.slice (some ⟨gf, of, none⟩) (d.size + 9) cf) (d.size + 9) (byR (frameB d)) * (RowO 5 1 (.slice a d.size c) d.size (byR d.bytes) * (Blk X (.cells (statC d).toArray 28 (0, 0)) * F))) (RdB (.slice (if cf = 9 then some ⟨gf, of, none⟩ else some ⟨gf, of + 9, none⟩) d.size (cf - 9)) d.bytes) := by
    have k := (Ent.left (RowO 5 1 (.slice (some ⟨gf, of, none⟩) (d.size + 9) cf) (d.size + 9) (byR (frameB d))) (RowO 5 1 (.slice a d.size c) d.size (byR d.bytes) * (Blk X (.cells (statC d).toArray 28 (0, 0)) * F))).trans ((RowO.reads _ _ _ _ _).trans (Reads.sub (lo := 9) (k := d.size) (by omega)))
    rw [e2] at k
    show Ent _ (Reads 1 _ d.bytes.length _)
    rw [hbl]
    simpa [Addr.add] using k
  have hsub2 : Ent (RowO 5 1 (.slice (some ⟨gf, of, none⟩) (d.size + 9) cf) (d.size + 9) (byR (frameB d)) * (RowO 5 1 (.slice a d.size c) d.size (byR d.bytes) * (Blk X (.cells (statC d).toArray 28 (0, 0)) * F))) (RdB (.slice a d.size c) d.bytes) := by
    show Ent _ (Reads 1 _ d.bytes.length _)
    rw [hbl]
    exact (Ent.right _ _).trans ((Ent.left _ _).trans (RowO.reads _ _ _ _ _))
  have q7 : (9 + (d.size : Int)).toNat - 9 = d.size := by omega
  have q1 : (9 : Int) ≤ ((d.size + 9 : Nat) : Int) := by omega
  have q2 : ((d.size + 9 : Nat) : Int) = 9 + (d.size : Int) := by omega
  simp -dsimp -implicitDefEqProofs (disch := omega) only [go_sem, reqD_of, dec_t, dec_f, wrap_i64, wrap_u32, wrap_u64, wrap_u8, e3, e5, q1, q2, q7]
  refine (sameB_any (by omega) hsub hsub2 hD).mono ?_
  rintro e w6 ⟨h6, rfl⟩
  have h6f : St w0 (RowO 5 1 (.slice (some ⟨gf, of, none⟩) (frameB d).length cf) (frameB d).length (byR (frameB d)) * (RowO 5 1 (.slice a d.size c) d.size (byR d.bytes) * (Blk X (.cells (statC d).toArray 28 (0, 0)) * F))) w6 := by rw [hfl]; exact h6
  obtain ⟨gf1, of1, hq1, c7⟩ := byR_reads h6f (Ent.left _ _) (i := 7) (by omega)
  obtain ⟨gf2, of2, hq2, c8⟩ := byR_reads h6f (Ent.left _ _) (i := 8) (by omega)
  simp only [Option.some.injEq, Addr.mk.injEq, and_true] at hq1 hq2
  obtain ⟨rfl, rfl⟩ := hq1
  obtain ⟨rfl, rfl⟩ := hq2
  have f7 : (frameB d)[7]? = some (UInt8.ofNat (d.size % 256)) := by simp [frameB, leN]
  have f8 : (frameB d)[8]? = some (UInt8.ofNat (d.size / 256 % 256)) := by simp [frameB, leN]
  rw [List.getElem?_eq_getElem (by omega), Option.some.injEq] at f7 f8
  rw [f7, ofNat_toNat (by omega)] at c7
  rw [f8, ofNat_toNat (by omega), show d.size / 256 % 256 = d.size / 256 by omega] at c8
  have q3 : (7 : Int) < 9 + (d.size : Int) := by omega
  have q4 : (8 : Int) < 9 + (d.size : Int) := by omega
  have q5 : IntKind.i64.wrap ((BitVec.ofInt IntKind.i64.bits ((d.size % 256 : Nat) : Int) ||| BitVec.ofInt IntKind.i64.bits (((d.size / 256 : Nat) : Int) * 256)).toNat : Int) = (d.size : Int) := by
    rw [orI (by omega) (by omega)]
    omega
  simp -dsimp -implicitDefEqProofs (disch := omega) only [go_sem, reqD_of, dec_t, dec_f, wrap_i64, wrap_u32, wrap_u64, wrap_u8, e3, e5, q1, q2, q3, q4, c7, c8, q5]
  refine rec_11 (X := X) (a := a) (c := c) (G := RowO 5 1 (.slice (some ⟨gf, of, none⟩) (d.size + 9) cf) (d.size + 9) (byR (frameB d)) * F) (Ent.right _ _) hn hc2 (by simp -dsimp -implicitDefEqProofs only [go_sem, hds]) (by simp -dsimp -implicitDefEqProofs only [go_sem, e1]) (by simp -dsimp -implicitDefEqProofs only [go_sem, e3]) ?_
  exact h6.ac (by ac_rfl)
end
section
attribute [local go_sem] F3.t16_eq F3.t14_eq F3.t11_eq F3.t5_eq F3.t3_eq
theorem records_any [Gives F Tabs] (hn : NumOk d) (b1 : d.name.length ≤ 140737488351232) (b2 : d.uid.length ≤ 140737488351232) (b3 : d.gid.length ≤ 140737488351232) (b4 : d.muid.length ≤ 140737488351232) (h : St w0 F w) :
    Calls Tryz.prog 3 #[.agg (statC d).toArray] w fun e w' => St w0 F w' ∧ e = .returned (.bool true) := by
  refine F3.calls (by simp) ?_
  unfold F3.code
  simp -dsimp -implicitDefEqProofs (disch := omega) only [go_sem, reqD_of, dec_t, dec_f, wrap_i64, wrap_u32, wrap_u64, wrap_u8]
  refine h.new fun X w1 h1 => ?_
  have h1 : St w0 (Blk X (.cells (statC d).toArray 28 (0, 0)) * F) w1 := h1
  have hX : rowV w1 ⟨X, 0, none⟩ 13 = some (.agg (statC d).toArray) := h1.rowH X 13 rfl
  simp -dsimp -implicitDefEqProofs (disch := omega) only [go_sem, reqD_of, dec_t, dec_f, wrap_i64, wrap_u32, wrap_u64, wrap_u8, hX]
  refine onV_of (v := .agg (msgC 0 0 d).toArray) (by kernel_rfl) ?_
  simp -dsimp -implicitDefEqProofs (disch := omega) only [go_sem, reqD_of, dec_t, dec_f, wrap_i64, wrap_u32, wrap_u64, wrap_u8]
  refine (weight_any b1 b2 b3 b4 h1).mono ?_
  rintro e w2 ⟨h2, rfl⟩
  by_cases hw : 2147483647 < ((weightN d : Nat) : Int)
  · simp -dsimp -implicitDefEqProofs (disch := omega) only [go_sem, reqD_of, dec_t, dec_f, wrap_i64, wrap_u32, wrap_u64, wrap_u8, hw]
    exact h2.right
  have hwd : weightN d = 1 + (d.name.length + d.uid.length + d.gid.length + d.muid.length) := rfl
  have hd : StatOk d := ⟨hn.ty, hn.dev, hn.qk, hn.qv, hn.qp, hn.mode, hn.at', hn.mt, hn.len, by omega, by omega, by omega, by omega⟩
  simp -dsimp -implicitDefEqProofs (disch := omega) only [go_sem, reqD_of, dec_t, dec_f, wrap_i64, wrap_u32, wrap_u64, wrap_u8, hw]
  refine onV_of (v := .agg (statC ⟨0, 0, 0, 0, 0, 0, 0, 0, 0, [], [], [], []⟩).toArray) (by kernel_rfl) ?_
  simp -dsimp -implicitDefEqProofs (disch := omega) only [go_sem, reqD_of, dec_t, dec_f, wrap_i64, wrap_u32, wrap_u64, wrap_u8]
  refine (size_any (d := ⟨0, 0, 0, 0, 0, 0, 0, 0, 0, [], [], [], []⟩) ⟨by decide, by decide, by decide, by decide, by decide, by decide, by decide, by decide, by decide, by simp, by simp, by simp, by simp⟩ h2).mono ?_
  rintro e w3 ⟨h3, rfl⟩
  rw [nil_stat]
  have hX : rowV w3 ⟨X, 0, none⟩ 13 = some (.agg (statC d).toArray) := h3.rowH X 13 rfl
  simp -dsimp -implicitDefEqProofs (disch := omega) only [go_sem, reqD_of, dec_t, dec_f, wrap_i64, wrap_u32, wrap_u64, wrap_u8, hX]
  refine (encode_any hd h3).mono ?_
  intro e w4 h4
  by_cases hc : d.ok = true ∧ d.size ≤ 65537
  case neg =>
    rw [if_neg hc] at h4
    obtain ⟨k, hk, h4, rfl⟩ := h4
    have hX : rowV w4 ⟨X, 0, none⟩ 13 = some (.agg (statC d).toArray) := h4.rowH X 13 rfl
    simp -dsimp -implicitDefEqProofs (disch := omega) only [go_sem, reqD_of, dec_t, dec_f, wrap_i64, wrap_u32, wrap_u64, wrap_u8, hX]
    refine onV_of (v := .agg (msgC 125 7 d).toArray) (by kernel_rfl) ?_
    simp -dsimp -implicitDefEqProofs (disch := omega) only [go_sem, reqD_of, dec_t, dec_f, wrap_i64, wrap_u32, wrap_u64, wrap_u8]
    refine (msgEncode_any hd h4).mono ?_
    intro e w5 h5
    unfold MsgR at h5
    rw [if_neg (fun k => hc ⟨k.1, by omega⟩)] at h5
    obtain ⟨k2, hk2, h5, rfl⟩ := h5
    have hX : rowV w5 ⟨X, 0, none⟩ 13 = some (.agg (statC d).toArray) := h5.rowH X 13 rfl
    simp -dsimp -implicitDefEqProofs (disch := omega) only [go_sem, reqD_of, dec_t, dec_f, wrap_i64, wrap_u32, wrap_u64, wrap_u8, hk, hX]
    refine onV_of (v := .agg (msgC 125 7 d).toArray) (by kernel_rfl) ?_
    simp -dsimp -implicitDefEqProofs (disch := omega) only [go_sem, reqD_of, dec_t, dec_f, wrap_i64, wrap_u32, wrap_u64, wrap_u8]
    refine (msgSize_any hd h5).mono ?_
    rintro e w6 ⟨h6, rfl⟩
    rw [if_neg (fun k => hc ⟨k.1, by omega⟩)]
    simp -dsimp -implicitDefEqProofs (disch := omega) only [go_sem, reqD_of, dec_t, dec_f, wrap_i64, wrap_u32, wrap_u64, wrap_u8, hk, Bool.not_false, Bool.not_true, beq_self_eq_true]
    exact h6.right
  rw [if_pos hc] at h4
  obtain ⟨v, h4, rfl⟩ := h4
  obtain ⟨a, c, rfl, _, hac, _⟩ := h4.rowForm v
  have hX : rowV w4 ⟨X, 0, none⟩ 13 = some (.agg (statC d).toArray) := h4.rowH X 13 rfl
  simp -dsimp -implicitDefEqProofs (disch := omega) only [go_sem, reqD_of, dec_t, dec_f, wrap_i64, wrap_u32, wrap_u64, wrap_u8, hX]
  refine onV_of (v := .agg (msgC 125 7 d).toArray) (by kernel_rfl) ?_
  simp -dsimp -implicitDefEqProofs (disch := omega) only [go_sem, reqD_of, dec_t, dec_f, wrap_i64, wrap_u32, wrap_u64, wrap_u8]
  refine (msgEncode_any hd h4).mono ?_
  intro e w5 h5
  unfold MsgR at h5
  by_cases hc2 : d.ok = true ∧ d.size + 9 ≤ 65536
  case neg =>
    rw [if_neg hc2] at h5
    obtain ⟨k2, hk2, h5, rfl⟩ := h5
    have hX : rowV w5 ⟨X, 0, none⟩ 13 = some (.agg (statC d).toArray) := h5.rowH X 13 rfl
    simp -dsimp -implicitDefEqProofs (disch := omega) only [go_sem, reqD_of, dec_t, dec_f, wrap_i64, wrap_u32, wrap_u64, wrap_u8, hk2, hX]
    refine onV_of (v := .agg (msgC 125 7 d).toArray) (by kernel_rfl) ?_
    simp -dsimp -implicitDefEqProofs (disch := omega) only [go_sem, reqD_of, dec_t, dec_f, wrap_i64, wrap_u32, wrap_u64, wrap_u8]
    refine (msgSize_any hd h5).mono ?_
    rintro e w6 ⟨h6, rfl⟩
    rw [if_neg hc2]
    have hbig : 65527 < (d.size : Int) := by
      have : ¬ d.size + 9 ≤ 65536 := fun k => hc2 ⟨hc.1, k⟩
      omega
    simp -dsimp -implicitDefEqProofs (disch := omega) only [go_sem, reqD_of, dec_t, dec_f, wrap_i64, wrap_u32, wrap_u64, wrap_u8, Bool.not_false, Bool.not_true, beq_self_eq_true, bft, hbig]
    exact h6.right.right
  rw [if_pos hc2] at h5
  obtain ⟨vf, h5, rfl⟩ := h5
  obtain ⟨af, cf, rfl, _, hfc, _⟩ := h5.rowForm vf
  simp -dsimp -implicitDefEqProofs (disch := omega) only [go_sem, reqD_of, dec_t, dec_f, wrap_i64, wrap_u32, wrap_u64, wrap_u8]
  exact rec_9 (X := X) (a := a) (c := c) hn hc2 hac hfc (by simp -dsimp -implicitDefEqProofs only [go_sem]) (by simp -dsimp -implicitDefEqProofs only [go_sem]) (by simp -dsimp -implicitDefEqProofs only [go_sem]) (by simp -dsimp -implicitDefEqProofs only [go_sem]) h5
end
end
end Go.Proofs.YtonajgmamdeohaaGreatDoor
