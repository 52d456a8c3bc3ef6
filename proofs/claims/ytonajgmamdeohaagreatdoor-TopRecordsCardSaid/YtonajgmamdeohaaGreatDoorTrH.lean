/- msg.Encode of an Rstat. -/
import Derived.Test.YtonajgmamdeohaaGreatDoorTrG
namespace Go.Proofs.YtonajgmamdeohaaGreatDoor
open Go
set_option linter.unusedVariables false
set_option linter.unusedSimpArgs false
set_option maxRecDepth 100000

theorem statS2_law {d : StatD} {s : WS} (ok : WOk s) (h : s.err = 0) :
    (d.ok = true ∧ s.b.length + 2 + d.size ≤ s.lim ∧ d.size ≤ 65535 ∧ statS2 d s = { s with b := s.b ++ (leN 2 d.size ++ d.bytes) }) ∨ (¬ (d.ok = true ∧ s.b.length + 2 + d.size ≤ s.lim ∧ d.size ≤ 65535) ∧ (statS2 d s).err ≠ 0) := by
  have hbl := d.bytes_len
  by_cases h2 : s.b.length + 2 ≤ s.lim
  · have e1 : openS s = { s with b := s.b ++ [0, 0], op := s.op ++ [s.b.length] } := by unfold openS hasRoom; rw [if_pos (by simp [h, h2])]
    have e2 : placeS s = s.b.length := by unfold placeS hasRoom; rw [if_pos (by simp [h, h2])]
    unfold statS2
    rw [e1, e2]
    rcases statS_law (d := d) (s := { s with b := s.b ++ [0, 0], op := s.op ++ [s.b.length] }) h (by simpa using h2) with ⟨k1, k2, k4, k3⟩ | ⟨k1, k2⟩
    · rw [k3]
      have k2' : s.b.length + 2 + d.size ≤ s.lim := by simpa using k2
      have hn : (s.b ++ [0, 0] ++ d.bytes).length - s.b.length - 2 = d.size := by
        simp only [List.length_append, List.length_cons, List.length_nil]
        omega
      unfold shutS
      simp only [hn, h]
      rw [if_neg (by simp)]
      by_cases h3 : 65535 < d.size
      · rw [if_pos h3]
        exact .inr ⟨fun k => by omega, (show (13 : Int) ≠ 0 by decide)⟩
      · rw [if_neg h3]
        refine .inl ⟨k1, k2', by omega, ?_⟩
        have e3 : s.b ++ [0, 0] ++ d.bytes = s.b ++ (0 : UInt8) :: 0 :: d.bytes := by simp
        rw [e3, setB_at]
        simp [h]
    · refine .inr ⟨fun k => k1 ⟨k.1, ?_, by omega⟩, ?_⟩
      · simp only [List.length_append, List.length_cons, List.length_nil]
        omega
      · unfold shutS
        rw [if_pos k2]
        exact k2
  · have e1 : (openS s).err ≠ 0 := by
      unfold openS hasRoom roomS
      rw [if_neg (by simp; omega), if_pos ⟨h, by omega⟩]
      exact (show (11 : Int) ≠ 0 by decide)
    refine .inr ⟨fun k => by omega, ?_⟩
    have e2 := statS_err (d := d) e1
    unfold statS2 shutS
    rw [if_pos e2]
    exact e2
theorem shr16 {m : Nat} : (m : Int).fdiv 65536 = ((m / 256 / 256 : Nat) : Int) := by
  rw [Int.fdiv_eq_ediv_of_nonneg _ (by decide)]
  omega
theorem shr24 {m : Nat} : (m : Int).fdiv 16777216 = ((m / 256 / 256 / 256 : Nat) : Int) := by
  rw [Int.fdiv_eq_ediv_of_nonneg _ (by decide)]
  omega
def sM : WS := ⟨65536, [0, 0, 0, 0, 125, 7, 0], [], 0⟩
theorem sM_eq : rawS (leN 2 7) (rawS (leN 1 125) (rawS (leN 4 0) ⟨65536, [], [], 0⟩)) = sM := by
  have e1 : rawS (leN 4 0) ⟨65536, [], [], 0⟩ = ⟨65536, [0, 0, 0, 0], [], 0⟩ := by rw [rawS_ok rfl (by simp [leN])]; rfl
  have e2 : rawS (leN 1 125) ⟨65536, [0, 0, 0, 0], [], 0⟩ = ⟨65536, [0, 0, 0, 0, 125], [], 0⟩ := by rw [rawS_ok rfl (by simp [leN])]; rfl
  have e3 : rawS (leN 2 7) ⟨65536, [0, 0, 0, 0, 125], [], 0⟩ = sM := by rw [rawS_ok rfl (by simp [leN])]; rfl
  rw [e1, e2, e3]
theorem sM_ok : WOk sM := ⟨by decide, by decide, by decide⟩
/-- An Rstat's frame. -/
def frameB (d : StatD) : List UInt8 := leN 4 (d.size + 9) ++ ([125, 7, 0] ++ (leN 2 d.size ++ d.bytes))
/-- The frame's count, byte by byte. -/
def cntL (n : Nat) (r : List UInt8) : Nat → List UInt8
  | 0 => 0 :: 0 :: 0 :: 0 :: r
  | 1 => UInt8.ofNat (n % 256) :: 0 :: 0 :: 0 :: r
  | 2 => UInt8.ofNat (n % 256) :: UInt8.ofNat (n / 256 % 256) :: 0 :: 0 :: r
  | 3 => UInt8.ofNat (n % 256) :: UInt8.ofNat (n / 256 % 256) :: UInt8.ofNat (n / 256 / 256 % 256) :: 0 :: r
  | _ => leN 4 n ++ r
section
variable {w0 w : World} {F : HP} {d : StatD} {W M : Nat} {s : WS}
theorem f152 : fnOk Tryz.prog 152 = true := by kernel_rfl
theorem f153 : fnOk Tryz.prog 153 = true := by kernel_rfl
abbrev MsgR (d : StatD) (F : HP) (w0 : World) (e : Ending) (w' : World) : Prop :=
  if d.ok = true ∧ d.size + 9 ≤ 65536 then ∃ v, St w0 (RowO 5 1 v (d.size + 9) (byR (frameB d)) * F) w' ∧ e = .returned (.tuple #[v, .int .i64 0]) else ∃ k : Int, k ≠ 0 ∧ St w0 F w' ∧ e = .returned (.tuple #[.slice none 0 0, .int .i64 k])
theorem ok_good {d : StatD} (h : d.ok = true) : d.texts.all good = true := by
  rw [StatD.ok_eq, List.all_eq_true] at h
  rw [List.all_eq_true]
  intro l hl
  have := h l hl
  simp only [okT, Bool.and_eq_true] at this
  exact this.2
section
attribute [local go_sem] F7.t9_eq F7.t6_eq F7.t20_eq F7.t18_eq F7.t28_eq F7.t26_eq F7.t29_eq F7.t24_eq F7.t21_eq F7.t13_eq F7.t10_eq F7.t4_eq
theorem msg_24 {e : FA} {a : Option Addr} {c n : Nat} {r : List UInt8} {A : HP} {R : Ending → World → Prop} (hn : n = r.length + 4) (hn2 : n ≤ 65536) (hds : e.ds = []) (e12 : e.ρ 12 = .slice a n c)
    (h : St w0 (RowO 5 1 (.slice a n c) n (byR (cntL n r 0)) * A) w)
    (hR : ∀ w', St w0 (RowO 5 1 (.slice a n c) n (byR (leN 4 n ++ r)) * A) w' → R (.returned (.tuple #[.slice a n c, .int .i64 0])) w') :
    cwE Tryz.prog F7.t24 (fnP Tryz.prog #[.tmp 2, .tmp 3] R) e w := by
  rw [F7.t24_eq]
  obtain ⟨g, o, c', hv⟩ := h.rowSome (by omega)
  simp only [Value.slice.injEq, true_and] at hv
  obtain ⟨rfl, rfl⟩ := hv
  simp -dsimp -implicitDefEqProofs (disch := omega) only [go_sem, reqD_of, dec_t, dec_f, wrap_i64, wrap_u32, wrap_u64, wrap_u8]
  refine loop_intro (fun e w' => e.ds = [] ∧ e.ρ 12 = .slice (some ⟨g, o, none⟩) n c ∧ ∃ i : Nat, i ≤ 4 ∧ e.ρ 72 = .int .i64 i ∧ St w0 (RowO 5 1 (.slice (some ⟨g, o, none⟩) n c) n (byR (cntL n r i)) * A) w')
    (fun e _ => match e.ρ 72 with | .int _ i => (4 - i).toNat | _ => 0) ?_ ?_
  · exact ⟨by simp -dsimp -implicitDefEqProofs only [go_sem, hds], by simp -dsimp -implicitDefEqProofs only [go_sem, e12], 0, by omega, by simp -dsimp -implicitDefEqProofs only [go_sem], h⟩
  clear h hds e12
  rintro e w ⟨hds, e12, i, hi, e72, h⟩
  by_cases hlt : (i : Int) < 4
  · have hin : (i : Int) < n := by omega
    have key : ∀ {x : UInt8} {w1 : World}, St w0 (RowO 5 1 (.slice (some ⟨g, o, none⟩) n c) n ((byR (cntL n r i)).set i (bv x)) * A) w1 → (cntL n r i).set i x = cntL n r (i + 1) → St w0 (RowO 5 1 (.slice (some ⟨g, o, none⟩) n c) n (byR (cntL n r (i + 1))) * A) w1 := fun h e => by
      rw [← e]
      simp only [byR, List.map_set] at h ⊢
      exact h
    have hcl : i < (byR (cntL n r i)).length := by
      have : i = 0 ∨ i = 1 ∨ i = 2 ∨ i = 3 := by omega
      rcases this with rfl | rfl | rfl | rfl <;> simp [cntL]
    obtain rfl | rfl | rfl | rfl : i = 0 ∨ i = 1 ∨ i = 2 ∨ i = 3 := by omega
    · simp -dsimp -implicitDefEqProofs (disch := omega) only [go_sem, reqD_of, dec_t, dec_f, wrap_i64, wrap_u32, wrap_u64, wrap_u8, hds, e12, e72, hlt, hin]
      rw [Int.fdiv_one, byte_of]
      refine h.rowSet1 (n := n) (c := c) (k := 0) hcl rfl fun w1 h1 => ?_
      simp -dsimp -implicitDefEqProofs (disch := omega) only [go_sem, reqD_of, dec_t, dec_f, wrap_i64, wrap_u32, wrap_u64, wrap_u8, hds, e12, e72]
      exact ⟨1, by decide, rfl, key h1 rfl⟩
    · simp -dsimp -implicitDefEqProofs (disch := omega) only [go_sem, reqD_of, dec_t, dec_f, wrap_i64, wrap_u32, wrap_u64, wrap_u8, hds, e12, e72, hlt, hin]
      rw [shr8, byte_of]
      refine h.rowSet1 (n := n) (c := c) (k := 1) hcl rfl fun w1 h1 => ?_
      simp -dsimp -implicitDefEqProofs (disch := omega) only [go_sem, reqD_of, dec_t, dec_f, wrap_i64, wrap_u32, wrap_u64, wrap_u8, hds, e12, e72]
      exact ⟨2, by decide, rfl, key h1 rfl⟩
    · simp -dsimp -implicitDefEqProofs (disch := omega) only [go_sem, reqD_of, dec_t, dec_f, wrap_i64, wrap_u32, wrap_u64, wrap_u8, hds, e12, e72, hlt, hin]
      rw [shr16, byte_of]
      refine h.rowSet1 (n := n) (c := c) (k := 2) hcl rfl fun w1 h1 => ?_
      simp -dsimp -implicitDefEqProofs (disch := omega) only [go_sem, reqD_of, dec_t, dec_f, wrap_i64, wrap_u32, wrap_u64, wrap_u8, hds, e12, e72]
      exact ⟨3, by decide, rfl, key h1 rfl⟩
    · simp -dsimp -implicitDefEqProofs (disch := omega) only [go_sem, reqD_of, dec_t, dec_f, wrap_i64, wrap_u32, wrap_u64, wrap_u8, hds, e12, e72, hlt, hin]
      rw [shr24, byte_of]
      refine h.rowSet1 (n := n) (c := c) (k := 3) hcl rfl fun w1 h1 => ?_
      simp -dsimp -implicitDefEqProofs (disch := omega) only [go_sem, reqD_of, dec_t, dec_f, wrap_i64, wrap_u32, wrap_u64, wrap_u8, hds, e12, e72]
      exact ⟨4, by decide, rfl, key h1 rfl⟩
  · obtain rfl : i = 4 := by omega
    simp -dsimp -implicitDefEqProofs (disch := omega) only [go_sem, reqD_of, dec_t, dec_f, wrap_i64, wrap_u32, wrap_u64, wrap_u8, hds, e12, e72, hlt]
    exact hR _ h
end
section
attribute [local go_sem] F7.t9_eq F7.t6_eq F7.t20_eq F7.t18_eq F7.t28_eq F7.t26_eq F7.t29_eq F7.t21_eq F7.t13_eq F7.t10_eq F7.t4_eq
theorem msg_21 {e : FA} {s : WS} {A : HP} (hA : Ent A F) (ok : WOk s) (hs : s = statS2 d sM) (hds : e.ds = []) (e8 : e.ρ 8 = .pointer (some ⟨W, 0, none⟩)) (h : St w0 (WP W s * A) w) :
    cwE Tryz.prog F7.t21 (fnP Tryz.prog #[.tmp 2, .tmp 3] (MsgR d F w0)) e w := by
  rw [F7.t21_eq]
  have hbl := d.bytes_len
  have hsl : sM.b.length = 7 := rfl
  simp -dsimp -implicitDefEqProofs (disch := omega) only [go_sem, reqD_of, dec_t, dec_f, wrap_i64, wrap_u32, wrap_u64, wrap_u8, e8]
  rcases statS2_law (d := d) sM_ok rfl with ⟨k1, k2, k3, k4⟩ | ⟨k1, k2⟩
  · rw [hs, k4] at h ok
    refine (done_ok ok rfl rfl h).mono ?_
    rintro e' w1 ⟨v, h1, rfl⟩
    obtain ⟨a, c, rfl, _⟩ := h1.rowForm v
    have k2' : 9 + d.size ≤ 65536 := by have : sM.lim = 65536 := rfl; omega
    simp -dsimp -implicitDefEqProofs (disch := omega) only [go_sem, reqD_of, dec_t, dec_f, wrap_i64, wrap_u32, wrap_u64, wrap_u8, hds]
    have hlen : (sM.b ++ (leN 2 d.size ++ d.bytes)).length = d.size + 9 := by
      simp only [List.length_append, leN_length, hbl, hsl]
      omega
    refine msg_24 (w0 := w0) (a := a) (c := c) (n := d.size + 9) (r := [125, 7, 0] ++ (leN 2 d.size ++ d.bytes)) (A := A) (by simp only [List.length_append, List.length_cons, List.length_nil, leN_length, hbl]; omega) (by omega) (by simp -dsimp -implicitDefEqProofs only [go_sem, hds]) (by (simp -dsimp -implicitDefEqProofs only [go_sem]; exact hlen)) ?_ ?_
    · have h2 : St w0 (RowO 5 1 (.slice a (sM.b ++ (leN 2 d.size ++ d.bytes)).length c) (sM.b ++ (leN 2 d.size ++ d.bytes)).length (byR (sM.b ++ (leN 2 d.size ++ d.bytes))) * A) w1 := h1
      rw [hlen] at h2
      exact h2
    · intro w' h3
      show MsgR d F w0 _ w'
      unfold MsgR
      rw [if_pos ⟨k1, by omega⟩]
      exact ⟨_, h3.ent (Ent.sep (Ent.rfl' _) hA), rfl⟩
  · rw [← hs] at k2
    refine (done_err k2 h).mono ?_
    rintro e' w1 ⟨h1, rfl⟩
    simp -dsimp -implicitDefEqProofs (disch := omega) only [go_sem, reqD_of, dec_t, dec_f, wrap_i64, wrap_u32, wrap_u64, wrap_u8, hds, k2]
    unfold MsgR
    rw [if_neg (fun k => k1 ⟨k.1, by have : sM.lim = 65536 := rfl; omega, by omega⟩)]
    exact ⟨31, by decide, h1.ent hA, rfl⟩
end
section
attribute [local go_sem] F7.t9_eq F7.t6_eq F7.t20_eq F7.t18_eq F7.t28_eq F7.t26_eq F7.t29_eq F7.t24_eq F7.t13_eq F7.t10_eq F7.t4_eq
theorem msg_10 [Gives F Tabs] {e : FA} {a : Option Addr} {c T4 : Nat} (hd : StatOk d) (hds : e.ds = []) (e1 : e.ρ 1 = .pointer (some ⟨M, 0, none⟩)) (e4 : e.ρ 4 = .pointer (some ⟨T4, 0, none⟩))
    (h : St w0 (Blk T4 (.cells #[.int .u8 125, .string (strOf [82, 115, 116, 97, 116]), .slice a 1 c] 61 (0, 0)) * (RowO 64 1 (.slice a 1 c) 1 [.int .u8 19] * (Blk M (msgB 125 7 d) * F))) w) :
    cwE Tryz.prog F7.t10 (fnP Tryz.prog #[.tmp 2, .tmp 3] (MsgR d F w0)) e w := by
  rw [F7.t10_eq]
  simp -dsimp -implicitDefEqProofs (disch := omega) only [go_sem, reqD_of, dec_t, dec_f, wrap_i64, wrap_u32, wrap_u64, wrap_u8]
  refine (newWriter_any (n := 65536) (by decide) h).mono ?_
  rintro e' w1 ⟨W, h1, rfl⟩
  have o0 : WOk ⟨65536, [], [], 0⟩ := ⟨by decide, by decide, by decide⟩
  simp -dsimp -implicitDefEqProofs (disch := omega) only [go_sem, reqD_of, dec_t, dec_f, wrap_i64, wrap_u32, wrap_u64, wrap_u8]
  refine (U32_any (n := 0) o0 (by decide) h1).mono ?_
  rintro e' w2 ⟨h2, rfl⟩
  simp -dsimp -implicitDefEqProofs (disch := omega) only [go_sem, reqD_of, dec_t, dec_f, wrap_i64, wrap_u32, wrap_u64, wrap_u8, e1, h2.cl M]
  refine (U8_any (n := 125) o0.raw (by decide) h2).mono ?_
  rintro e' w3 ⟨h3, rfl⟩
  simp -dsimp -implicitDefEqProofs (disch := omega) only [go_sem, reqD_of, dec_t, dec_f, wrap_i64, wrap_u32, wrap_u64, wrap_u8, e1, h3.cl M]
  refine (U16_any (n := 7) o0.raw.raw (by decide) h3).mono ?_
  rintro e' w4 ⟨h4, rfl⟩
  rw [sM_eq] at h4
  simp -dsimp -implicitDefEqProofs (disch := omega) only [go_sem, reqD_of, dec_t, dec_f, wrap_i64, wrap_u32, wrap_u64, wrap_u8, e4, h4.cl T4]
  have h5 : St w0 (WP W (if (0 : Nat) = 0 then sM else statS2 d sM) * (Blk M (msgB 125 7 d) * (Blk T4 (.cells #[.int .u8 125, .string (strOf [82, 115, 116, 97, 116]), .slice a 1 c] 61 (0, 0)) * (RowO 64 1 (.slice a 1 c) 1 [.int .u8 19] * F)))) w4 := h4.ac (by rw [if_pos rfl]; ac_rfl)
  refine loop_intro (fun e w' => e.ds = [] ∧ e.ρ 1 = .pointer (some ⟨M, 0, none⟩) ∧ e.ρ 8 = .pointer (some ⟨W, 0, none⟩) ∧ e.ρ 53 = .slice a 1 c ∧ e.ρ 54 = .int .i64 1 ∧ ∃ i : Nat, i ≤ 1 ∧ e.ρ 55 = .int .i64 i ∧
      St w0 (WP W (if i = 0 then sM else statS2 d sM) * (Blk M (msgB 125 7 d) * (Blk T4 (.cells #[.int .u8 125, .string (strOf [82, 115, 116, 97, 116]), .slice a 1 c] 61 (0, 0)) * (RowO 64 1 (.slice a 1 c) 1 [.int .u8 19] * F)))) w')
    (fun e _ => match e.ρ 55 with | .int _ i => (1 - i).toNat | _ => 0) ?_ ?_
  · exact ⟨by simp -dsimp -implicitDefEqProofs only [go_sem, hds], by simp -dsimp -implicitDefEqProofs only [go_sem, e1], by simp -dsimp -implicitDefEqProofs only [go_sem], by simp -dsimp -implicitDefEqProofs only [go_sem], by simp -dsimp -implicitDefEqProofs only [go_sem], 0, by omega, by simp -dsimp -implicitDefEqProofs only [go_sem], h5⟩
  clear h h1 h2 h3 h4 h5 hds e1 e4
  rintro e w ⟨hds, e1, e8, e53, e54, i, hi, e55, h⟩
  by_cases hlt : (i : Int) < 1
  · obtain rfl : i = 0 := by omega
    rw [if_pos rfl] at h
    obtain ⟨_, a', c', hv, _, hcl⟩ := St.rowsAt (k := 1) (l := [19]) (enc := fun n : Nat => [Value.int .u8 n]) (fun _ => rfl) (by decide) (h.ent ((Ent.right _ _).trans ((Ent.right _ _).trans ((Ent.right _ _).trans ((Ent.left _ _).trans (RowO.reads _ _ _ _ _))))))
    simp only [Value.slice.injEq, true_and] at hv
    obtain ⟨rfl, rfl⟩ := hv
    obtain ⟨g, o, rfl, _, hc⟩ := hcl 0 (by decide)
    have hc : w.cell? ⟨g, o, none⟩ = some (.int .u8 19) := hc 0 (by decide)
    simp -dsimp -implicitDefEqProofs (disch := omega) only [go_sem, reqD_of, dec_t, dec_f, wrap_i64, wrap_u32, wrap_u64, wrap_u8, hds, e1, e8, e53, e54, e55, hlt, hc]
    refine (field19_any h).mono ?_
    rintro e' w1 ⟨h1, rfl⟩
    simp -dsimp -implicitDefEqProofs (disch := omega) only [go_sem, reqD_of, dec_t, dec_f, wrap_i64, wrap_u32, wrap_u64, wrap_u8, hds, e1, e8, e53, e54, e55, f153]
    refine (put19_any (k := 125) (t := 7) sM_ok (by decide) hd h1).mono ?_
    rintro e' w2 ⟨h2, rfl⟩
    simp -dsimp -implicitDefEqProofs (disch := omega) only [go_sem, reqD_of, dec_t, dec_f, wrap_i64, wrap_u32, wrap_u64, wrap_u8, hds, e1, e8, e53, e54, e55]
    refine ⟨1, by omega, rfl, ?_⟩
    rw [if_neg (by decide)]
    exact h2
  · obtain rfl : i = 1 := by omega
    rw [if_neg (by decide)] at h
    simp -dsimp -implicitDefEqProofs (disch := omega) only [go_sem, reqD_of, dec_t, dec_f, wrap_i64, wrap_u32, wrap_u64, wrap_u8, hds, e1, e8, e53, e54, e55, hlt]
    exact msg_21 (s := statS2 d sM) (A := Blk M (msgB 125 7 d) * (Blk T4 (.cells #[.int .u8 125, .string (strOf [82, 115, 116, 97, 116]), .slice a 1 c] 61 (0, 0)) * (RowO 64 1 (.slice a 1 c) 1 [.int .u8 19] * F))) ((Ent.right _ _).trans ((Ent.right _ _).trans (Ent.right _ _))) (sM_ok.stat2 (by decide)) rfl (by simp -dsimp -implicitDefEqProofs only [go_sem, hds]) (by simp -dsimp -implicitDefEqProofs only [go_sem, e8]) h
end
section
attribute [local go_sem] F7.t9_eq F7.t6_eq F7.t20_eq F7.t18_eq F7.t28_eq F7.t26_eq F7.t29_eq F7.t24_eq F7.t21_eq F7.t13_eq F7.t4_eq
theorem msgEncode_any [Gives F Tabs] (hd : StatOk d) (h : St w0 F w) :
    Calls Tryz.prog 7 #[.agg (msgC 125 7 d).toArray] w fun e w' => MsgR d F w0 e w' := by
  refine F7.calls (by simp) ?_
  unfold F7.code
  simp -dsimp -implicitDefEqProofs (disch := omega) only [go_sem, reqD_of, dec_t, dec_f, wrap_i64, wrap_u32, wrap_u64, wrap_u8]
  refine h.new fun M w1 h1 => ?_
  have h1 : St w0 (Blk M (msgB 125 7 d) * F) w1 := h1
  simp -dsimp -implicitDefEqProofs (disch := omega) only [go_sem, reqD_of, dec_t, dec_f, wrap_i64, wrap_u32, wrap_u64, wrap_u8, h1.cl M]
  refine (rowOf_any h1).mono ?_
  rintro e w2 ⟨vr, hvr, h2, rfl⟩
  obtain ⟨a, c, rfl, _⟩ := h2.rowForm vr
  simp -dsimp -implicitDefEqProofs (disch := omega) only [go_sem, reqD_of, dec_t, dec_f, wrap_i64, wrap_u32, wrap_u64, wrap_u8]
  refine h2.new fun T4 w3 h3 => ?_
  simp -dsimp -implicitDefEqProofs (disch := omega) only [go_sem, reqD_of, dec_t, dec_f, wrap_i64, wrap_u32, wrap_u64, wrap_u8]
  refine h3.stoAll (b := T4) (n := 3) (cs := [.int .u8 125, .string (strOf [82, 115, 116, 97, 116]), .slice a 1 c]) rfl rfl (fun y hy => by simp only [List.mem_cons, List.not_mem_nil, or_false] at hy; rcases hy with rfl | rfl | rfl <;> rfl) fun w4 h4 => ?_
  have h4 : St w0 (Blk T4 (.cells #[.int .u8 125, .string (strOf [82, 115, 116, 97, 116]), .slice a 1 c] 61 (0, 0)) * (RowO 64 1 (.slice a 1 c) 1 [.int .u8 19] * (Blk M (msgB 125 7 d) * F))) w4 := h4
  simp -dsimp -implicitDefEqProofs (disch := omega) only [go_sem, reqD_of, dec_t, dec_f, wrap_i64, wrap_u32, wrap_u64, wrap_u8, h4.cl T4]
  refine loop_intro (fun e w' => e.ds = [] ∧ e.ρ 1 = .pointer (some ⟨M, 0, none⟩) ∧ e.ρ 4 = .pointer (some ⟨T4, 0, none⟩) ∧ e.ρ 23 = .slice a 1 c ∧ e.ρ 24 = .int .i64 1 ∧ ∃ i : Nat, i ≤ 1 ∧ e.ρ 25 = .int .i64 i ∧
      St w0 (Blk T4 (.cells #[.int .u8 125, .string (strOf [82, 115, 116, 97, 116]), .slice a 1 c] 61 (0, 0)) * (RowO 64 1 (.slice a 1 c) 1 [.int .u8 19] * (Blk M (msgB 125 7 d) * F))) w')
    (fun e _ => match e.ρ 25 with | .int _ i => (1 - i).toNat | _ => 0) ?_ ?_
  · exact ⟨rfl, by simp -dsimp -implicitDefEqProofs only [go_sem], by simp -dsimp -implicitDefEqProofs only [go_sem], by simp -dsimp -implicitDefEqProofs only [go_sem], by simp -dsimp -implicitDefEqProofs only [go_sem], 0, by omega, by simp -dsimp -implicitDefEqProofs only [go_sem], h4⟩
  clear h h1 h2 h3 h4
  rintro e w ⟨hds, e1, e4, e23, e24, i, hi, e25, h⟩
  by_cases hlt : (i : Int) < 1
  · obtain rfl : i = 0 := by omega
    obtain ⟨_, a', c', hv, _, hcl⟩ := St.rowsAt (k := 1) (l := [19]) (enc := fun n : Nat => [Value.int .u8 n]) (fun _ => rfl) (by decide) (h.ent ((Ent.right _ _).trans ((Ent.left _ _).trans (RowO.reads _ _ _ _ _))))
    simp only [Value.slice.injEq, true_and] at hv
    obtain ⟨rfl, rfl⟩ := hv
    obtain ⟨g, o, rfl, _, hc⟩ := hcl 0 (by decide)
    have hc : w.cell? ⟨g, o, none⟩ = some (.int .u8 19) := hc 0 (by decide)
    simp -dsimp -implicitDefEqProofs (disch := omega) only [go_sem, reqD_of, dec_t, dec_f, wrap_i64, wrap_u32, wrap_u64, wrap_u8, hds, e1, e4, e23, e24, e25, hlt, hc]
    refine (field19_any h).mono ?_
    rintro e' w1 ⟨h1, rfl⟩
    simp -dsimp -implicitDefEqProofs (disch := omega) only [go_sem, reqD_of, dec_t, dec_f, wrap_i64, wrap_u32, wrap_u64, wrap_u8, hds, e1, e4, e23, e24, e25, f152]
    refine (goodStat_any (k := 125) (t := 7) hd (h1.ac (show _ = Blk M (msgB 125 7 d) * (Blk T4 (.cells #[.int .u8 125, .string (strOf [82, 115, 116, 97, 116]), .slice (some ⟨g, o, none⟩) 1 c] 61 (0, 0)) * (RowO 64 1 (.slice (some ⟨g, o, none⟩) 1 c) 1 [.int .u8 19] * F)) by ac_rfl))).mono ?_
    rintro e' w2 ⟨h2, rfl⟩
    cases hg : d.texts.all good with
    | false =>
      simp -dsimp -implicitDefEqProofs (disch := omega) only [go_sem, reqD_of, dec_t, dec_f, wrap_i64, wrap_u32, wrap_u64, wrap_u8, hds, e1, e4, e23, e24, e25]
      unfold MsgR
      rw [if_neg (fun k => by rw [ok_good k.1] at hg; cases hg)]
      exact ⟨30, by decide, h2.right.right.right, rfl⟩
    | true =>
      simp -dsimp -implicitDefEqProofs (disch := omega) only [go_sem, reqD_of, dec_t, dec_f, wrap_i64, wrap_u32, wrap_u64, wrap_u8, hds, e1, e4, e23, e24, e25]
      exact ⟨1, by omega, rfl, h2.ac (by ac_rfl)⟩
  · obtain rfl : i = 1 := by omega
    simp -dsimp -implicitDefEqProofs (disch := omega) only [go_sem, reqD_of, dec_t, dec_f, wrap_i64, wrap_u32, wrap_u64, wrap_u8, hds, e1, e4, e23, e24, e25, hlt]
    exact msg_10 hd (by simp -dsimp -implicitDefEqProofs only [go_sem, hds]) (by simp -dsimp -implicitDefEqProofs only [go_sem, e1]) (by simp -dsimp -implicitDefEqProofs only [go_sem, e4]) h
end
end
end Go.Proofs.YtonajgmamdeohaaGreatDoor
