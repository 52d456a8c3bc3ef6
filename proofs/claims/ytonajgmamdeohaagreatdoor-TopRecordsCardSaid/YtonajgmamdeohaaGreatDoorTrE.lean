/- stat.Size, stat.Encode. -/
import Derived.Test.YtonajgmamdeohaaGreatDoorTrD
namespace Go.Proofs.YtonajgmamdeohaaGreatDoor
open Go
set_option linter.unusedVariables false
set_option linter.unusedSimpArgs false
set_option maxRecDepth 100000

def StatD.texts (d : StatD) : List (List UInt8) := [d.name, d.uid, d.gid, d.muid]
def okT (l : List UInt8) : Bool := decide (l.length ≤ 65535) && good l
theorem StatD.ok_eq (d : StatD) : d.ok = d.texts.all okT := by
  simp only [StatD.ok, StatD.pcs, StatD.texts, List.all_cons, List.all_nil, Pc.ok, okT, Bool.true_and]
theorem StatD.texts_le {d : StatD} (hd : StatOk d) : ∀ l ∈ d.texts, l.length ≤ 2147483648 := by
  intro l hl
  simp only [StatD.texts, List.mem_cons, List.not_mem_nil, or_false] at hl
  rcases hl with rfl | rfl | rfl | rfl
  · exact hd.name
  · exact hd.uid
  · exact hd.gid
  · exact hd.muid
section
variable {w0 w : World} {F : HP} {d : StatD}

theorem size_any (hd : StatOk d) (h : St w0 F w) :
    Calls Tryz.prog 5 #[.agg (statC d).toArray] w fun e w' => St w0 F w' ∧ e = .returned (.int .i64 (d.size : Nat)) := by
  have h1 := hd.name
  have h2 := hd.uid
  have h3 := hd.gid
  have h4 := hd.muid
  refine F5.calls (by simp) ?_
  unfold F5.code
  simp -dsimp -implicitDefEqProofs (disch := omega) only [go_sem, reqD_of, dec_t, dec_f, wrap_i64, wrap_u32, wrap_u64, wrap_u8]
  refine h.new fun X w1 k1 => ?_
  have k1 : St w0 (Blk X (.cells (statC d).toArray 28 (0, 0)) * F) w1 := k1
  simp -dsimp -implicitDefEqProofs (disch := omega) only [go_sem, reqD_of, dec_t, dec_f, wrap_i64, wrap_u32, wrap_u64, wrap_u8, k1.cl X, strOf_size]
  refine ⟨k1.right, ?_⟩
  simp only [StatD.size]
  omega
section
attribute [local go_sem] F6.t6_eq F6.t8_eq F6.t3_eq F6.t14_eq F6.t11_eq F6.t9_eq
theorem encode_any [Gives F Tabs] (hd : StatOk d) (h : St w0 F w) :
    Calls Tryz.prog 6 #[.agg (statC d).toArray] w fun e w' => if d.ok = true ∧ d.size ≤ 65537 then ∃ v, St w0 (RowO 5 1 v d.size (byR d.bytes) * F) w' ∧ e = .returned (.tuple #[v, .int .i64 0]) else ∃ k : Int, k ≠ 0 ∧ St w0 F w' ∧ e = .returned (.tuple #[.slice none 0 0, .int .i64 k]) := by
  refine F6.calls (by simp) ?_
  unfold F6.code
  simp -dsimp -implicitDefEqProofs (disch := omega) only [go_sem, reqD_of, dec_t, dec_f, wrap_i64, wrap_u32, wrap_u64, wrap_u8]
  refine h.new fun X w1 k1 => ?_
  have k1 : St w0 (Blk X (.cells (statC d).toArray 28 (0, 0)) * F) w1 := k1
  simp -dsimp -implicitDefEqProofs (disch := omega) only [go_sem, reqD_of, dec_t, dec_f, wrap_i64, wrap_u32, wrap_u64, wrap_u8, k1.cl X]
  refine k1.lit (n := 4) (cells := d.texts.flatMap fun l => [sv l]) fact_rowTy_31 rfl (by decide) (by decide) fun v2 w2 k2 => ?_
  obtain ⟨a2, c2, rfl, _⟩ := k2.rowForm v2
  have htl : d.texts.length = 4 := rfl
  have htb := StatD.texts_le hd
  have hok := StatD.ok_eq d
  simp -dsimp -implicitDefEqProofs (disch := omega) only [go_sem, reqD_of, dec_t, dec_f, wrap_i64, wrap_u32, wrap_u64, wrap_u8]
  refine loop_intro (fun e w' => e.ds = [] ∧ e.ρ 1 = .pointer (some ⟨X, 0, none⟩) ∧ e.ρ 16 = .slice a2 4 c2 ∧ e.ρ 17 = .int .i64 4 ∧ ∃ i : Nat, i ≤ 4 ∧ e.ρ 18 = .int .i64 i ∧ (d.texts.take i).all okT = true ∧
      St w0 (RowO 9 1 (.slice a2 4 c2) 4 (d.texts.flatMap fun l => [sv l]) * (Blk X (.cells (statC d).toArray 28 (0, 0)) * F)) w')
    (fun e _ => match e.ρ 18 with | .int _ i => (4 - i).toNat | _ => 0) ?_ ?_
  · exact ⟨rfl, by simp -dsimp -implicitDefEqProofs only [go_sem], by simp -dsimp -implicitDefEqProofs only [go_sem], by simp -dsimp -implicitDefEqProofs only [go_sem], 0, by omega, by simp -dsimp -implicitDefEqProofs only [go_sem], rfl, k2⟩
  clear h k1 k2
  rintro e w ⟨hds, e1, e16, e17, i, hi, e18, hall, h⟩
  by_cases hlt : (i : Int) < 4
  · have hil : i < d.texts.length := by omega
    obtain ⟨_, a', c', hv, _, hcl⟩ := St.rowsAt (k := 1) (l := d.texts) (fun _ => rfl) (by decide) (h.ent ((Ent.left _ _).trans (RowO.reads _ _ _ _ _)))
    simp only [Value.slice.injEq, true_and] at hv
    obtain ⟨rfl, rfl⟩ := hv
    obtain ⟨g, o, rfl, _, hc⟩ := hcl i hil
    have hc := hc 0 (by decide)
    simp only [Nat.mul_one, Nat.add_zero, List.getElem?_cons_zero] at hc
    obtain ⟨l, hl⟩ : ∃ l, l = d.texts[i] := ⟨_, rfl⟩
    have hlb := htb l (by rw [hl]; exact List.getElem_mem hil)
    rw [← hl] at hc
    have hno : okT l = false → ¬ (d.ok = true ∧ d.size ≤ 65537) := fun hf hk => by
      have := hk.1
      rw [hok, List.all_eq_true] at this
      have := this l (by rw [hl]; exact List.getElem_mem hil)
      rw [hf] at this
      cases this
    by_cases hbig : 65535 < (l.length : Int)
    · simp -dsimp -implicitDefEqProofs (disch := omega) only [go_sem, reqD_of, dec_t, dec_f, wrap_i64, wrap_u32, wrap_u64, wrap_u8, hds, e1, e16, e17, e18, hlt, hc, strOf_size, hbig]
      rw [if_neg (hno (by simp only [okT]; rw [decide_eq_false (by omega)]; rfl))]
      exact ⟨13, by decide, h.right.right, rfl⟩
    simp -dsimp -implicitDefEqProofs (disch := omega) only [go_sem, reqD_of, dec_t, dec_f, wrap_i64, wrap_u32, wrap_u64, wrap_u8, hds, e1, e16, e17, e18, hlt, hc, strOf_size, hbig]
    refine (good_any (l := l) h (by omega)).mono ?_
    rintro e' w1 ⟨h1, rfl⟩
    cases hg : good l with
    | false =>
      simp -dsimp -implicitDefEqProofs (disch := omega) only [go_sem, reqD_of, dec_t, dec_f, wrap_i64, wrap_u32, wrap_u64, wrap_u8, hds, e1, e16, e17, e18]
      rw [if_neg (hno (by simp only [okT, hg, Bool.and_false]))]
      exact ⟨12, by decide, h1.right.right, rfl⟩
    | true =>
      simp -dsimp -implicitDefEqProofs (disch := omega) only [go_sem, reqD_of, dec_t, dec_f, wrap_i64, wrap_u32, wrap_u64, wrap_u8, hds, e1, e16, e17, e18]
      refine ⟨⟨i + 1, by omega, by omega, ?_, h1⟩, by omega⟩
      rw [List.take_succ_eq_append_getElem hil, List.all_append, hall, ← hl]
      simp only [List.all_cons, List.all_nil, okT, hg, Bool.and_true, Bool.true_and, decide_eq_true_eq]
      omega
  · obtain rfl : i = 4 := by omega
    rw [List.take_of_length_le (by omega), ← hok] at hall
    have hX : rowV w ⟨X, 0, none⟩ 13 = some (.agg (statC d).toArray) := h.rowH X 13 rfl
    simp -dsimp -implicitDefEqProofs (disch := omega) only [go_sem, reqD_of, dec_t, dec_f, wrap_i64, wrap_u32, wrap_u64, wrap_u8, hds, e1, e16, e17, e18, hlt, hX]
    refine (size_any hd h).mono ?_
    rintro e' w1 ⟨h1, rfl⟩
    have hsz : d.size ≤ 9000000000 := by
      have := hd.name
      have := hd.uid
      have := hd.gid
      have := hd.muid
      unfold StatD.size
      omega
    by_cases hbig : 65535 < (d.size : Int) - 2
    · simp -dsimp -implicitDefEqProofs (disch := omega) only [go_sem, reqD_of, dec_t, dec_f, wrap_i64, wrap_u32, wrap_u64, wrap_u8, hds, hbig]
      rw [if_neg (by omega)]
      exact ⟨13, by decide, h1.right.right, rfl⟩
    have hX : rowV w1 ⟨X, 0, none⟩ 13 = some (.agg (statC d).toArray) := h1.rowH X 13 rfl
    simp -dsimp -implicitDefEqProofs (disch := omega) only [go_sem, reqD_of, dec_t, dec_f, wrap_i64, wrap_u32, wrap_u64, wrap_u8, hds, e1, hbig, hX]
    refine (size_any hd h1).mono ?_
    rintro e' w2 ⟨h2, rfl⟩
    simp -dsimp -implicitDefEqProofs (disch := omega) only [go_sem, reqD_of, dec_t, dec_f, wrap_i64, wrap_u32, wrap_u64, wrap_u8]
    refine (newWriter_any (n := d.size) (by omega) h2).mono ?_
    rintro e' w3 ⟨W, h3, rfl⟩
    have hX : rowV w3 ⟨X, 0, none⟩ 13 = some (.agg (statC d).toArray) := h3.rowH X 13 rfl
    have o1 : WOk ⟨d.size, [], [], 0⟩ := ⟨by show d.size ≤ _; omega, by simp, by simp⟩
    simp -dsimp -implicitDefEqProofs (disch := omega) only [go_sem, reqD_of, dec_t, dec_f, wrap_i64, wrap_u32, wrap_u64, wrap_u8, e1, hX]
    refine (putStat_any o1 (by simp) hd h3).mono ?_
    rintro e' w4 ⟨h4, rfl⟩
    have hlaw := statS_law (d := d) (s := ⟨d.size, [], [], 0⟩) rfl (by simp)
    rcases hlaw with ⟨_, _, _, hl⟩ | ⟨hl, _⟩
    case inr => exact absurd ⟨hall, by simp, by omega⟩ hl
    have o2 := WOk.stat (d := d) o1 (by simp)
    rw [hl] at h4 o2
    simp -dsimp -implicitDefEqProofs (disch := omega) only [go_sem, reqD_of, dec_t, dec_f, wrap_i64, wrap_u32, wrap_u64, wrap_u8]
    refine (done_ok o2 rfl rfl h4).mono ?_
    rintro e' w5 ⟨v, h5, rfl⟩
    simp -dsimp -implicitDefEqProofs (disch := omega) only [go_sem, reqD_of, dec_t, dec_f, wrap_i64, wrap_u32, wrap_u64, wrap_u8, hds]
    rw [if_pos ⟨hall, by omega⟩]
    refine ⟨v, ?_, rfl⟩
    have h6 : St w0 (RowO 5 1 v d.bytes.length (byR d.bytes) * F) w5 := h5.ent (Ent.sep (Ent.rfl' _) ((Ent.right _ _).trans (Ent.right _ _)))
    rw [StatD.bytes_len] at h6
    exact h6
end
end
end Go.Proofs.YtonajgmamdeohaaGreatDoor
