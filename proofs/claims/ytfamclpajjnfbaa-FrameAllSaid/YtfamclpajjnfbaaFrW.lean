/- The reference's cutter, walked: it is the document's. -/
import Derived.Test.YtfamclpajjnfbaaFrM
import Derived.Test.YtfamclpajjnfbaaFrU
namespace Go.Proofs.Ytfamclpajjnfbaa
open Go
set_option linter.unusedSimpArgs false
set_option linter.unusedVariables false
set_option maxRecDepth 100000

abbrev refB (r : RC) (v : Value) : Obj := .cells #[.int .u32 r.most, v, .int .i64 r.bytes, .int .i64 r.given, .bool r.over, .int .i64 r.place] 74 (0, 0)
def RefQ (c : Nat) (r : RC) (v : Value) : HP := Blk c (refB r v) * RowO 5 1 v r.hand.length (r.hand.map bv)
def RefP (c : Nat) (r : RC) : HP := HP.ex fun v => RefQ c r v
instance (c : Nat) (r : RC) : Face (.obj c) (RefP c r) := ⟨⟩
theorem RefP.open {w0 w : World} {c : Nat} {r : RC} {F : HP} (h : St w0 (RefP c r * F) w) :
    ∃ a cap, r.hand.length ≤ cap ∧ cap ≤ maxLen ∧ St w0 (Blk c (refB r (.slice a r.hand.length cap)) * (RowO 5 1 (.slice a r.hand.length cap) r.hand.length (r.hand.map bv) * F)) w := by
  obtain ⟨v, h⟩ := h.exF
  have h' : St w0 (Blk c (refB r v) * (RowO 5 1 v r.hand.length (r.hand.map bv) * F)) w := h.ac (by unfold RefQ; ac_rfl)
  obtain ⟨a, cap, rfl, _, hc, hm⟩ := h'.rowForm v
  exact ⟨a, cap, hc, hm, h'⟩
theorem RefP.col {w0 w : World} {A R1 R2 : HP} {c : Nat} (r : RC) (v : Value) (h : St w0 A w) [i1 : Pull A (Blk c (refB r v)) R1] [i2 : Pull R1 (RowO 5 1 v r.hand.length (r.hand.map bv)) R2] : St w0 (RefP c r * R2) w := by
  have h1 : St w0 (RefQ c r v * R2) w := h.ac (by rw [i1.eq, i2.eq]; unfold RefQ; ac_rfl)
  exact h1.ent (Ent.sep (Ent.ex (fun v => RefQ c r v) v) (Ent.rfl' R2))


theorem right_any {w0 w : World} {F : HP} (h : St w0 F w) (n : Int) : Calls Try.prog 33 #[.int .u32 n] w fun e w' => St w0 F w' ∧ e = .returned (.bool (okLimit n)) := by
  refine F33.calls (by simp) ?_
  unfold F33.code
  by_cases h1 : 7 ≤ n
  · by_cases h2 : n ≤ 65536
    · simp -dsimp -implicitDefEqProofs (disch := omega) only [go_sem, reqD_of, dec_t, dec_f, wrap_i64, wrap_u32, wrap_u64, wrap_u8]
      exact ⟨h, by simp [okLimit, h1, h2]⟩
    · simp -dsimp -implicitDefEqProofs (disch := omega) only [go_sem, reqD_of, dec_t, dec_f, wrap_i64, wrap_u32, wrap_u64, wrap_u8]
      exact ⟨h, by simp [okLimit, h1, h2]⟩
  · simp -dsimp -implicitDefEqProofs (disch := omega) only [go_sem, reqD_of, dec_t, dec_f, wrap_i64, wrap_u32, wrap_u64, wrap_u8]
    exact ⟨h, by simp [okLimit, h1]⟩

theorem size_wrap (a b c d : Int) (ha : 0 ≤ a ∧ a < 256) (hb : 0 ≤ b ∧ b < 256) (hc : 0 ≤ c ∧ c < 256) (hd : 0 ≤ d ∧ d < 256) : IntKind.u64.wrap (IntKind.u64.wrap (IntKind.u64.wrap (IntKind.u64.wrap a + IntKind.u64.wrap (IntKind.u64.wrap b * 256)) + IntKind.u64.wrap (IntKind.u64.wrap c * 65536)) + IntKind.u64.wrap (IntKind.u64.wrap d * 16777216)) = a + b * 256 + c * 65536 + d * 16777216 := by
  rw [wrap_u64 ha.1 (by omega), wrap_u64 hb.1 (by omega), wrap_u64 hc.1 (by omega), wrap_u64 hd.1 (by omega)]
  rw [wrap_u64 (n := b * 256) (by omega) (by omega), wrap_u64 (n := c * 65536) (by omega) (by omega), wrap_u64 (n := d * 16777216) (by omega) (by omega)]
  rw [wrap_u64 (n := a + b * 256) (by omega) (by omega)]
  rw [wrap_u64 (n := a + b * 256 + c * 65536) (by omega) (by omega)]
  exact wrap_u64 (by omega) (by omega)


theorem sizeRef_any {w0 w : World} {F : HP} {v : Value} {bs : List UInt8} (h : St w0 F w) (hr : Ent F (RdB v bs)) (h4 : 4 ≤ bs.length) :
    Calls Try.prog 43 #[v] w fun e w' => St w0 F w' ∧ e = .returned (.int .u64 (sizeL bs)) := by
  obtain ⟨_, a, c, rfl, hc, hx⟩ := (h.ent hr).cell1
  have hlen : (bs.map bv).length = bs.length := by simp
  obtain ⟨b, o, rfl, x0⟩ := hx 0 (by omega)
  have hxx : ∀ i (hi : i < bs.length), w.cell? ⟨b, o + i, none⟩ = some (bv bs[i]) := fun i hi => by
    obtain ⟨_, _, hq, hx⟩ := hx i (by omega)
    simp only [Option.some.injEq, Addr.mk.injEq] at hq
    obtain ⟨rfl, rfl, _⟩ := hq
    simpa using hx
  have x0 := hxx 0 (by omega)
  rw [Nat.add_zero] at x0
  have x1 := hxx 1 (by omega)
  have x2 := hxx 2 (by omega)
  have x3 := hxx 3 (by omega)
  have y0 : w.drew.cell? _ = _ := x0
  have y1 : w.drew.cell? _ = _ := x1
  have y2 : w.drew.cell? _ = _ := x2
  have y3 : w.drew.cell? _ = _ := x3
  refine F43.calls (by simp) ?_
  unfold F43.code
  simp -dsimp -implicitDefEqProofs (disch := omega) only [go_sem, reqD_of, dec_t, dec_f, wrap_i64, wrap_u32, wrap_u64, wrap_u8, x0, x1, x2, x3, y0, y1, y2, y3, bv]
  have u : ∀ b : UInt8, (0 : Int) ≤ b.toNat ∧ (b.toNat : Int) < 256 := fun b => by have := b.toNat_lt; omega
  have u0 := u bs[0]
  have u1 := u bs[1]
  have u2 := u bs[2]
  have u3 := u bs[3]
  refine ⟨h.drew, ?_⟩
  have e0 : sizeL bs = bs[0].toNat + bs[1].toNat * 256 + bs[2].toNat * 65536 + bs[3].toNat * 16777216 := by
    unfold sizeL
    simp only [List.getD_eq_getElem?_getD, List.getElem?_eq_getElem (show 0 < bs.length by omega), List.getElem?_eq_getElem (show 1 < bs.length by omega), List.getElem?_eq_getElem (show 2 < bs.length by omega), List.getElem?_eq_getElem (show 3 < bs.length by omega), Option.getD_some]
    rfl
  rw [e0]
  rw [size_wrap _ _ _ _ u0 u1 u2 u3]
  omega

section
attribute [local go_sem] F12.t3_eq
theorem newRef_no {w0 w : World} {F : HP} (h : St w0 F w) {n : Int} (hn : okLimit n = false) : Calls Try.prog 12 #[.int .u32 n] w fun e w' => St w0 F w' ∧ e = .returned (.pointer none) := by
  refine F12.calls (by simp) ?_
  unfold F12.code
  simp -dsimp -implicitDefEqProofs only [go_sem]
  refine (right_any h n).mono ?_
  rintro e w' ⟨h1, rfl⟩
  simp -dsimp -implicitDefEqProofs only [go_sem, hn]
  exact h1

theorem newRef_yes {w0 w : World} {F : HP} (h : St w0 F w) {n : Nat} (hn : okLimit n = true) : Calls Try.prog 12 #[.int .u32 n] w fun e w' => ∃ c, St w0 (RefP c (RC.new n) * F) w' ∧ e = .returned (.pointer (some ⟨c, 0, none⟩)) := by
  refine F12.calls (by simp) ?_
  unfold F12.code
  simp -dsimp -implicitDefEqProofs only [go_sem]
  refine (right_any h n).mono ?_
  rintro e w' ⟨h1, rfl⟩
  simp -dsimp -implicitDefEqProofs only [go_sem, hn]
  refine onV_of (v := .agg #[.int .u32 n, .slice none 0 0, .int .i64 0, .int .i64 0, .bool false, .int .i64 0]) (by kernel_rfl) ?_
  simp -dsimp -implicitDefEqProofs only [go_sem]
  refine h1.new fun c w2 h2 => ?_
  simp -dsimp -implicitDefEqProofs only [go_sem]
  refine ⟨c, ?_, rfl⟩
  have h3 : St w0 (RowO 5 1 (.slice none 0 0) (RC.new n).hand.length ((RC.new n).hand.map bv) * (Blk c (refB (RC.new n) (.slice none 0 0)) * F)) w2 := h2.nilR 5 1
  exact RefP.col (c := c) (RC.new n) (.slice none 0 0) h3

theorem take4_rd (v : Value) (l : List UInt8) (h4 : 4 ≤ l.length) : Reads 1 v 4 ((l.map bv).take (4 * 1)) = RdB v (l.take 4) := by
  have : (l.take 4).length = 4 := by simp; omega
  simp only [RdB, this, List.map_take, Nat.mul_one]
theorem sizeL_take (l : List UInt8) (h4 : 4 ≤ l.length) : sizeL (l.take 4) = sizeL l := by
  have := sizeL_app (l.take 4) (by simp; omega) (l.drop 4)
  rw [List.take_append_drop] at this
  exact this.symm

end

theorem wholeRef_any {w0 w : World} {F : HP} {c : Nat} {r : RC} (h : St w0 (RefP c r * F) w) (hl : r.hand.length < 1152921504606846976) :
    Calls Try.prog 39 #[.pointer (some ⟨c, 0, none⟩)] w fun e w' => St w0 (RefP c r * F) w' ∧ e = .returned (.bool r.whole) := by
  obtain ⟨a, cap, hcap, hcm, h1⟩ := RefP.open h
  have hfin : ∀ w', St w0 (Blk c (refB r (.slice a r.hand.length cap)) * (RowO 5 1 (.slice a r.hand.length cap) r.hand.length (r.hand.map bv) * F)) w' → St w0 (RefP c r * F) w' := fun w' h' => RefP.col r (.slice a r.hand.length cap) h'
  have cB := h1.cl c
  have h2 := h1.drew
  have cB' : ∀ i, w.drew.cell? ⟨c, i, none⟩ = _ := cB
  refine F39.calls (by simp) ?_
  unfold F39.code
  cases ho : r.over with
  | true =>
    rw [ho] at cB cB'
    simp -dsimp -implicitDefEqProofs (disch := omega) only [go_sem, reqD_of, dec_t, dec_f, wrap_i64, wrap_u32, wrap_u64, wrap_u8, cB, cB']
    exact ⟨hfin _ h2, by simp [RC.whole, ho]⟩
  | false =>
    rw [ho] at cB cB'
    by_cases h4 : (4 : Int) ≤ r.hand.length
    · have hcap4 : (4 : Int) ≤ cap := by omega
      simp -dsimp -implicitDefEqProofs (disch := omega) only [go_sem, reqD_of, dec_t, dec_f, wrap_i64, wrap_u32, wrap_u64, wrap_u8, cB, cB', h4, hcap4]
      refine (sizeRef_any (bs := r.hand.take 4) h2 ((Ent.right _ _).trans ((Ent.left _ _).trans ((RowO.reads _ _ _ _ _).trans ((Reads.takeK (k := 4) (by omega)).trans (by rw [take4_rd _ _ (by omega)]; exact Ent.rfl' _))))) (by simp; omega)).mono ?_
      rintro e' w3 ⟨h3, rfl⟩
      rw [sizeL_take _ (by omega)]
      have cB3 := h3.cl c
      rw [ho] at cB3
      have hw1 : IntKind.u64.wrap (r.hand.length : Int) = r.hand.length := wrap_u64 (by omega) (by omega)
      simp -dsimp -implicitDefEqProofs (disch := omega) only [go_sem, reqD_of, dec_t, dec_f, wrap_i64, wrap_u32, wrap_u64, wrap_u8, cB3, hw1]
      refine ⟨hfin _ h3, ?_⟩
      unfold RC.whole
      rw [ho, decide_eq_true (show 4 ≤ r.hand.length by omega)]
      simp only [Bool.not_false, Bool.true_and, Int.natCast_inj]
    · simp -dsimp -implicitDefEqProofs (disch := omega) only [go_sem, reqD_of, dec_t, dec_f, wrap_i64, wrap_u32, wrap_u64, wrap_u8, cB, cB', h4]
      exact ⟨hfin _ h2, by simp [RC.whole, ho, show ¬ 4 ≤ r.hand.length by omega]⟩


theorem takenRef_any {w0 w : World} {F : HP} {c : Nat} {r : RC} (h : St w0 (RefP c r * F) w) :
    Calls Try.prog 41 #[.pointer (some ⟨c, 0, none⟩)] w fun e w' => St w0 (RefP c r * F) w' ∧ e = .returned (.int .i64 r.given) := by
  obtain ⟨a, cap, hcap, hcm, h1⟩ := RefP.open h
  have cB := h1.cl c
  refine F41.calls (by simp) ?_
  unfold F41.code
  simp -dsimp -implicitDefEqProofs (disch := omega) only [go_sem, reqD_of, dec_t, dec_f, wrap_i64, wrap_u32, wrap_u64, wrap_u8, cB]
  exact h

section
attribute [local go_sem] F38.t3_eq
theorem deadRef_any {w0 w : World} {F : HP} {c : Nat} {r : RC} (h : St w0 (RefP c r * F) w) :
    Calls Try.prog 38 #[.pointer (some ⟨c, 0, none⟩)] w fun e w' => St w0 (RefP c r * F) w' ∧
      e = .returned (.tuple #[.int .i64 (if r.over = true then 40 else 0), .int .i64 (if r.over = true then r.place else 0)]) := by
  obtain ⟨a, cap, hcap, hcm, h1⟩ := RefP.open h
  have cB := h1.cl c
  have cB' : ∀ i, w.drew.cell? ⟨c, i, none⟩ = _ := cB
  refine F38.calls (by simp) ?_
  unfold F38.code
  cases ho : r.over with
  | true =>
    rw [ho] at cB cB'
    simp -dsimp -implicitDefEqProofs (disch := omega) only [go_sem, reqD_of, dec_t, dec_f, wrap_i64, wrap_u32, wrap_u64, wrap_u8, cB, cB']
    exact h.drew
  | false =>
    rw [ho] at cB cB'
    simp -dsimp -implicitDefEqProofs (disch := omega) only [go_sem, reqD_of, dec_t, dec_f, wrap_i64, wrap_u32, wrap_u64, wrap_u8, cB, cB']
    exact h

end
section
attribute [local go_sem] F36.t3_eq
theorem limitRef_any {w0 w : World} {F : HP} {c : Nat} {r : RC} (h : St w0 (RefP c r * F) w) (n : Nat) :
    Calls Try.prog 36 #[.pointer (some ⟨c, 0, none⟩), .int .u32 n] w fun e w' => St w0 (RefP c (if okLimit n = true then { r with most := n } else r) * F) w' ∧ e = .returned (.int .i64 (if okLimit n = true then 0 else 1)) := by
  refine F36.calls (by simp) ?_
  unfold F36.code
  simp -dsimp -implicitDefEqProofs (disch := omega) only [go_sem, reqD_of, dec_t, dec_f, wrap_i64, wrap_u32, wrap_u64, wrap_u8]
  refine (right_any h n).mono ?_
  rintro e w1 ⟨h1, rfl⟩
  cases hn : okLimit n with
  | false =>
    simp -dsimp -implicitDefEqProofs (disch := omega) only [go_sem, reqD_of, dec_t, dec_f, wrap_i64, wrap_u32, wrap_u64, wrap_u8, hn]
    exact h1
  | true =>
    obtain ⟨a, cap, hcap, hcm, h2⟩ := RefP.open h1
    simp -dsimp -implicitDefEqProofs (disch := omega) only [go_sem, reqD_of, dec_t, dec_f, wrap_i64, wrap_u32, wrap_u64, wrap_u8, hn]
    refine h2.sto (b := c) (off := 0) (by simp) rfl fun w3 h3 => ?_
    simp only [List.setIfInBounds_toArray, List.set_cons_succ, List.set_cons_zero] at h3
    simp -dsimp -implicitDefEqProofs (disch := omega) only [go_sem, reqD_of, dec_t, dec_f, wrap_i64, wrap_u32, wrap_u64, wrap_u8]
    exact RefP.col { r with most := n } (.slice a r.hand.length cap) h3

theorem RC.hand_le {r : RC} (ok : r.ok) : r.hand.length ≤ 65536 := by
  by_cases h4 : 4 ≤ r.hand.length
  · cases ho : r.over with
    | true => have := ok.over ho; omega
    | false => have := ok.good h4 ho; omega
  · omega

end
section
attribute [local go_sem] F49.t3_eq
theorem nextRef_no {w0 w : World} {F : HP} {c : Nat} {r : RC} (h : St w0 (RefP c r * F) w) (ok : r.ok) (hw : r.whole = false) :
    Calls Try.prog 49 #[.pointer (some ⟨c, 0, none⟩)] w fun e w' => St w0 (RefP c r * F) w' ∧ e = .returned (.tuple #[.slice none 0 0, .bool false]) := by
  have hl := RC.hand_le ok
  refine F49.calls (by simp) ?_
  unfold F49.code
  simp -dsimp -implicitDefEqProofs (disch := omega) only [go_sem, reqD_of, dec_t, dec_f, wrap_i64, wrap_u32, wrap_u64, wrap_u8]
  refine (wholeRef_any h (by omega)).mono ?_
  rintro e w1 ⟨h1, rfl⟩
  simp -dsimp -implicitDefEqProofs (disch := omega) only [go_sem, reqD_of, dec_t, dec_f, wrap_i64, wrap_u32, wrap_u64, wrap_u8, hw]
  exact h1

theorem nextRef_yes {w0 w : World} {F : HP} {c : Nat} {r : RC} (h : St w0 (RefP c r * F) w) (ok : r.ok) (hw : r.whole = true) :
    Calls Try.prog 49 #[.pointer (some ⟨c, 0, none⟩)] w fun e w' => ∃ v, St w0 (RefP c r.next * (RowO 5 1 v r.hand.length (r.hand.map bv) * F)) w' ∧ e = .returned (.tuple #[v, .bool true]) := by
  have hl := RC.hand_le ok
  have hcnt := ok.cnt
  have hby := ok.bytes
  refine F49.calls (by simp) ?_
  unfold F49.code
  simp -dsimp -implicitDefEqProofs (disch := omega) only [go_sem, reqD_of, dec_t, dec_f, wrap_i64, wrap_u32, wrap_u64, wrap_u8]
  refine (wholeRef_any h (by omega)).mono ?_
  rintro e w1 ⟨h1, rfl⟩
  obtain ⟨a, cap, hcap, hcm, h2⟩ := RefP.open h1
  have cB := h2.cl c
  simp -dsimp -implicitDefEqProofs (disch := omega) only [go_sem, reqD_of, dec_t, dec_f, wrap_i64, wrap_u32, wrap_u64, wrap_u8, hw, cB]
  have h3 := h2.nilR 5 1
  refine h3.app (v := .slice none 0 0) (x := .slice a r.hand.length cap) (m := r.hand.length) (news := r.hand.map bv) fact_rowTy_35 (Gives.ent) Try.underlying35 (bytes_cells _) (fun h => by simpa using h) (by simp only [maxLen]; omega) (by omega) fun v2 w3 h3 => ?_
  obtain ⟨a2, c2, rfl, _⟩ := h3.rowForm v2
  simp -dsimp -implicitDefEqProofs (disch := omega) only [go_sem, reqD_of, dec_t, dec_f, wrap_i64, wrap_u32, wrap_u64, wrap_u8]
  refine h3.sto (b := c) (off := 1) (by simp) rfl fun w4 h4 => ?_
  simp only [List.setIfInBounds_toArray, List.set_cons_succ, List.set_cons_zero] at h4
  have cB := h4.cl c
  simp -dsimp -implicitDefEqProofs (disch := omega) only [go_sem, reqD_of, dec_t, dec_f, wrap_i64, wrap_u32, wrap_u64, wrap_u8, cB]
  refine h4.sto (b := c) (off := 3) (by simp) rfl fun w5 h5 => ?_
  simp only [List.setIfInBounds_toArray, List.set_cons_succ, List.set_cons_zero, Nat.zero_add, List.nil_append] at h5
  simp -dsimp -implicitDefEqProofs (disch := omega) only [go_sem, reqD_of, dec_t, dec_f, wrap_i64, wrap_u32, wrap_u64, wrap_u8]
  have h6 : St w0 (RowO 5 1 (.slice none 0 0) r.next.hand.length (r.next.hand.map bv) * (RowO 5 1 (.slice a2 r.hand.length c2) r.hand.length (r.hand.map bv) * (Blk c (refB r.next (.slice none 0 0)) * (RowO 5 1 (.slice a r.hand.length cap) r.hand.length (r.hand.map bv) * F)))) w5 := h5.nilR 5 1
  exact ⟨.slice a2 r.hand.length c2, (RefP.col (c := c) r.next (.slice none 0 0) h6).sub, by simp⟩

end
section
attribute [local go_sem] F48.t3_eq F48.t11_eq
theorem feedRef_any {w0 w : World} {F : HP} {c : Nat} {r : RC} {v : Value} {bs : List UInt8} (h : St w0 (RefP c r * F) w) (hr : Ent F (RdB v bs)) (ok : r.ok) (hl : r.bytes + bs.length < 1152921504606846976) :
    Calls Try.prog 48 #[.pointer (some ⟨c, 0, none⟩), v] w fun e w' => St w0 (RefP c (r.feed bs).2 * F) w' ∧ e = .returned (.int .i64 (r.feed bs).1) := by
  obtain ⟨a, cap, rfl, hcv, _⟩ := (h.ent ((Ent.right _ _).trans hr)).bytes
  refine F48.calls (by simp) ?_
  unfold F48.code
  simp -dsimp -implicitDefEqProofs (disch := omega) only [go_sem, reqD_of, dec_t, dec_f, wrap_i64, wrap_u32, wrap_u64, wrap_u8]
  refine loop_intro (fun e w' => e.ds = [] ∧ e.ρ 0 = .pointer (some ⟨c, 0, none⟩) ∧ e.ρ 1 = .slice a bs.length cap ∧ ∃ (n : Nat) (q : RC), n ≤ bs.length ∧ e.ρ 5 = .int .i64 n ∧ q.ok ∧ q.bytes + (bs.length - n) < 1152921504606846976 ∧ r.feed bs = (n + (q.feed (bs.drop n)).1, (q.feed (bs.drop n)).2) ∧ St w0 (RefP c q * F) w')
    (fun e _ => match e.ρ 5 with | .int _ n => (bs.length - n).toNat | _ => 0) ?_ ?_
  · exact ⟨rfl, by simp -dsimp -implicitDefEqProofs only [go_sem], by simp -dsimp -implicitDefEqProofs only [go_sem], 0, r, by omega, rfl, ok, by omega, by simp, h⟩
  · clear h ok
    rintro e w1 ⟨hd, e0, e1, n, q, hn, e5, okq, hb, hfeed, h1⟩
    have hhl := RC.hand_le okq
    have stop : q.feed (bs.drop n) = (0, q) → St w0 (RefP c (r.feed bs).2 * F) w1 ∧ (r.feed bs).1 = n := fun hs => by
      rw [hfeed, hs]
      exact ⟨h1, rfl⟩
    by_cases hlt : (n : Int) < bs.length
    · have hnb : n < bs.length := by omega
      have hdr : bs.drop n = bs[n] :: bs.drop (n + 1) := List.drop_eq_getElem_cons hnb
      obtain ⟨a1, cap1, hcap1, hcm1, h2⟩ := RefP.open h1
      have cB := h2.cl c
      cases ho : q.over with
      | true =>
        have hs : q.feed (bs.drop n) = (0, q) := by rw [hdr]; simp [RC.feed, ho]
        obtain ⟨s1, s2⟩ := stop hs
        rw [ho] at cB
        simp -dsimp -implicitDefEqProofs (disch := omega) only [go_sem, reqD_of, dec_t, dec_f, wrap_i64, wrap_u32, wrap_u64, wrap_u8, hd, e0, e1, e5, hlt, cB]
        exact ⟨s1, by rw [s2]⟩
      | false =>
        rw [ho] at cB
        simp -dsimp -implicitDefEqProofs (disch := omega) only [go_sem, reqD_of, dec_t, dec_f, wrap_i64, wrap_u32, wrap_u64, wrap_u8, hd, e0, e1, e5, hlt, cB]
        refine (wholeRef_any h1 (by omega)).mono ?_
        rintro e' w2 ⟨h3, rfl⟩
        cases hw : q.whole with
        | true =>
          have hs : q.feed (bs.drop n) = (0, q) := by rw [hdr]; simp [RC.feed, hw]
          simp -dsimp -implicitDefEqProofs (disch := omega) only [go_sem, reqD_of, dec_t, dec_f, wrap_i64, wrap_u32, wrap_u64, wrap_u8, hd, e0, e1, e5]
          rw [hfeed, hs]
          exact ⟨h3, rfl⟩
        | false =>
          clear h2 cB h1
          obtain ⟨a1, cap1, hcap1, hcm1, h2⟩ := RefP.open h3
          obtain ⟨_, a', cap', hv, _, hxA⟩ := (h3.ent ((Ent.right _ _).trans hr)).cell1
          simp only [Value.slice.injEq, true_and] at hv
          obtain ⟨rfl, rfl⟩ := hv
          obtain ⟨b, o, rfl, hx⟩ := hxA n (by simp only [List.length_map]; omega)
          simp only [List.getElem_map] at hx
          have hx' : w2.drew.cell? _ = _ := hx
          have cB := h2.cl c
          rw [ho] at cB
          have cB' : ∀ i, w2.drew.cell? ⟨c, i, none⟩ = _ := cB
          simp -dsimp -implicitDefEqProofs (disch := omega) only [go_sem, reqD_of, dec_t, dec_f, wrap_i64, wrap_u32, wrap_u64, wrap_u8, hd, e0, e1, e5, hlt, cB, cB', hx, hx']
          refine h2.drew.lit (n := 1) (cells := [bv bs[n]]) fact_rowTy_35 rfl (by decide) (by decide) fun v5 w5 h5 => ?_
          have cB := h5.cl c
          have hx5 : w5.cell? ⟨b, o + n, none⟩ = some (bv bs[n]) := by
            obtain ⟨_, _, _, hv, _, hx⟩ := (h5.ent ((Ent.right _ _).trans ((Ent.right _ _).trans ((Ent.right _ _).trans hr)))).cell1
            simp only [Value.slice.injEq, true_and] at hv
            obtain ⟨rfl, rfl⟩ := hv
            obtain ⟨_, _, hq, hx⟩ := hx n (by simp only [List.length_map]; omega)
            simp only [Option.some.injEq, Addr.mk.injEq] at hq
            obtain ⟨rfl, rfl, _⟩ := hq
            simpa only [List.getElem_map] using hx
          simp -dsimp -implicitDefEqProofs (disch := omega) only [go_sem, reqD_of, dec_t, dec_f, wrap_i64, wrap_u32, wrap_u64, wrap_u8, hd, e0, e1, e5, hlt, cB, hx5]
          refine h5.app (v := .slice a1 q.hand.length cap1) fact_rowTy_35 ((Ent.left _ _).trans (RowO.reads _ _ _ _ _)) Try.underlying35 (by intro u hu; simp only [List.mem_singleton] at hu; subst hu; rfl) (fun h => by simp at h) (by simp only [maxLen]; omega) (by omega) fun v6 w6 h6 => ?_
          obtain ⟨a6, c6, rfl, _, hc6, _⟩ := h6.rowForm v6
          have cB := h6.cl c
          have hx6 : w6.cell? ⟨b, o + n, none⟩ = some (bv bs[n]) := by
            obtain ⟨_, _, _, hv, _, hx⟩ := (h6.ent ((Ent.right _ _).trans ((Ent.right _ _).trans ((Ent.right _ _).trans hr)))).cell1
            simp only [Value.slice.injEq, true_and] at hv
            obtain ⟨rfl, rfl⟩ := hv
            obtain ⟨_, _, hq, hx⟩ := hx n (by simp only [List.length_map]; omega)
            simp only [Option.some.injEq, Addr.mk.injEq] at hq
            obtain ⟨rfl, rfl, _⟩ := hq
            simpa only [List.getElem_map] using hx
          simp -dsimp -implicitDefEqProofs (disch := omega) only [go_sem, reqD_of, dec_t, dec_f, wrap_i64, wrap_u32, wrap_u64, wrap_u8, hd, e0, e1, e5, hlt, cB, hx6]
          refine h6.sto (b := c) (off := 1) (by simp) rfl fun w7 h7 => ?_
          simp only [List.setIfInBounds_toArray, List.set_cons_succ, List.set_cons_zero] at h7
          have cB := h7.cl c
          simp -dsimp -implicitDefEqProofs (disch := omega) only [go_sem, reqD_of, dec_t, dec_f, wrap_i64, wrap_u32, wrap_u64, wrap_u8, hd, e0, e1, e5, cB]
          refine h7.sto (b := c) (off := 2) (by simp) rfl fun w8 h8 => ?_
          simp only [List.setIfInBounds_toArray, List.set_cons_succ, List.set_cons_zero] at h8
          have cB := h8.cl c
          have e1' : RowO 5 1 (.slice a6 (q.hand.length + 1) c6) (q.hand.length + 1) (q.hand.map bv ++ [bv bs[n]]) = RowO 5 1 (.slice a6 (q.hand.length + 1) c6) (q.hand ++ [bs[n]]).length ((q.hand ++ [bs[n]]).map bv) := by simp
          rw [e1'] at h8
          have okp := RC.ok_put okq ho hw bs[n] (by omega)
          have hfd : r.feed bs = (n + 1 + ((q.put bs[n]).feed (bs.drop (n + 1))).1, ((q.put bs[n]).feed (bs.drop (n + 1))).2) := by
            rw [hfeed, hdr, RC.feed, if_pos ⟨ho, hw⟩]
            simp only [Prod.mk.injEq, and_true]
            omega
          have hpb : (q.put bs[n]).bytes = q.bytes + 1 := by unfold RC.put; split <;> rfl
          have fin : ∀ w9, St w0 (RefP c (q.put bs[n]) * F) w9 → ∃ (n_1 : Nat) (q : RC), n_1 ≤ bs.length ∧ (n : Int) + 1 = n_1 ∧ q.ok ∧ q.bytes + (bs.length - n_1) < 1152921504606846976 ∧ r.feed bs = (n_1 + (q.feed (bs.drop n_1)).1, (q.feed (bs.drop n_1)).2) ∧ St w0 (RefP c q * F) w9 := fun w9 h9 => ⟨n + 1, q.put bs[n], by omega, by omega, okp, by rw [hpb]; omega, hfd, h9⟩
          have hmost := okq.most
          by_cases hh4 : (q.hand.length : Int) + 1 = 4
          · simp -dsimp -implicitDefEqProofs (disch := omega) only [go_sem, reqD_of, dec_t, dec_f, wrap_i64, wrap_u32, wrap_u64, wrap_u8, hd, e0, e1, e5, cB, hh4]
            refine (sizeRef_any (bs := q.hand ++ [bs[n]]) h8 ((Ent.right _ _).trans ((Ent.right _ _).trans ((Ent.left _ _).trans (by
              have := RowO.reads 5 1 (.slice a6 (q.hand.length + 1) c6) (q.hand ++ [bs[n]]).length ((q.hand ++ [bs[n]]).map bv)
              exact this)))) (by simp only [List.length_append, List.length_cons, List.length_nil]; omega)).mono ?_
            rintro e' w9 ⟨h9, rfl⟩
            have cB := h9.cl c
            by_cases hsz : sizeL (q.hand ++ [bs[n]]) < 7 ∨ q.most < sizeL (q.hand ++ [bs[n]])
            · have hput : q.put bs[n] = { q with hand := q.hand ++ [bs[n]], bytes := q.bytes + 1, over := true, place := q.bytes + 1 - 4 } := by unfold RC.put; rw [if_pos ⟨by omega, hsz⟩]
              have hcnt := okq.cnt
              have hs3 : IntKind.u64.wrap (q.most : Int) = q.most := wrap_u64 (by omega) (by omega)
              have key : ∀ w10, St w0 (RowO 5 1 v5 1 [bv bs[n]] * (Blk c (refB (RC.mk q.most (q.hand ++ [bs[n]]) (q.bytes + 1) q.given true (q.bytes + 1 - 4)) (.slice a6 (q.hand.length + 1) c6)) * (RowO 5 1 (.slice a6 (q.hand.length + 1) c6) (RC.mk q.most (q.hand ++ [bs[n]]) (q.bytes + 1) q.given true (q.bytes + 1 - 4)).hand.length ((RC.mk q.most (q.hand ++ [bs[n]]) (q.bytes + 1) q.given true (q.bytes + 1 - 4)).hand.map bv) * F))) w10 → _ := fun w10 h10 => fin w10 (by rw [hput]; exact (RefP.col (c := c) (RC.mk q.most (q.hand ++ [bs[n]]) (q.bytes + 1) q.given true (q.bytes + 1 - 4)) (.slice a6 (q.hand.length + 1) c6) h10).sub)
              by_cases h7 : ((sizeL (q.hand ++ [bs[n]]) : Nat) : Int) < 7
              case' neg => have h7' : (q.most : Int) < ((sizeL (q.hand ++ [bs[n]]) : Nat) : Int) := by omega
              case' pos => have h7' : True := trivial
              all_goals
                simp -dsimp -implicitDefEqProofs (disch := omega) only [go_sem, reqD_of, dec_t, dec_f, wrap_i64, wrap_u32, wrap_u64, wrap_u8, hd, e0, e1, e5, cB, h7, h7', hs3]
                refine h9.sto (b := c) (off := 4) (by simp) rfl fun w10 h10 => ?_
                simp only [List.setIfInBounds_toArray, List.set_cons_succ, List.set_cons_zero] at h10
                have cB := h10.cl c
                simp -dsimp -implicitDefEqProofs (disch := omega) only [go_sem, reqD_of, dec_t, dec_f, wrap_i64, wrap_u32, wrap_u64, wrap_u8, hd, e0, e1, e5, cB]
                refine h10.sto (b := c) (off := 5) (by simp) rfl fun w11 h11 => ?_
                simp only [List.setIfInBounds_toArray, List.set_cons_succ, List.set_cons_zero] at h11
                simp -dsimp -implicitDefEqProofs (disch := omega) only [go_sem, reqD_of, dec_t, dec_f, wrap_i64, wrap_u32, wrap_u64, wrap_u8, hd, e0, e1, e5]
                have hp4 : (q.bytes : Int) + 1 - 4 = ((q.bytes + 1 - 4 : Nat) : Int) := by omega
                rw [hp4] at h11
                exact ⟨key w11 h11, by omega⟩
            · have hput : q.put bs[n] = { q with hand := q.hand ++ [bs[n]], bytes := q.bytes + 1 } := by unfold RC.put; rw [if_neg (fun h => hsz h.2)]
              have hs1 : ¬ ((sizeL (q.hand ++ [bs[n]]) : Nat) : Int) < 7 := by omega
              have hs2 : ¬ (q.most : Int) < ((sizeL (q.hand ++ [bs[n]]) : Nat) : Int) := by omega
              have hs3 : IntKind.u64.wrap (q.most : Int) = q.most := wrap_u64 (by omega) (by omega)
              simp -dsimp -implicitDefEqProofs (disch := omega) only [go_sem, reqD_of, dec_t, dec_f, wrap_i64, wrap_u32, wrap_u64, wrap_u8, hd, e0, e1, e5, cB, hs1, hs2, hs3]
              rw [hput] at fin
              have h10 : St w0 (RowO 5 1 v5 1 [bv bs[n]] * (Blk c (refB { q with hand := q.hand ++ [bs[n]], bytes := q.bytes + 1 } (.slice a6 (q.hand.length + 1) c6)) * (RowO 5 1 (.slice a6 (q.hand.length + 1) c6) (RC.mk q.most (q.hand ++ [bs[n]]) (q.bytes + 1) q.given q.over q.place).hand.length ((RC.mk q.most (q.hand ++ [bs[n]]) (q.bytes + 1) q.given q.over q.place).hand.map bv) * F))) w9 := h9
              exact ⟨fin w9 (RefP.col (c := c) (RC.mk q.most (q.hand ++ [bs[n]]) (q.bytes + 1) q.given q.over q.place) (.slice a6 (q.hand.length + 1) c6) h10).sub, by omega⟩
          · have hput : q.put bs[n] = { q with hand := q.hand ++ [bs[n]], bytes := q.bytes + 1 } := by unfold RC.put; rw [if_neg (fun h => hh4 (by omega))]
            simp -dsimp -implicitDefEqProofs (disch := omega) only [go_sem, reqD_of, dec_t, dec_f, wrap_i64, wrap_u32, wrap_u64, wrap_u8, hd, e0, e1, e5, cB, hh4]
            rw [hput] at fin
            have h10 : St w0 (RowO 5 1 v5 1 [bv bs[n]] * (Blk c (refB { q with hand := q.hand ++ [bs[n]], bytes := q.bytes + 1 } (.slice a6 (q.hand.length + 1) c6)) * (RowO 5 1 (.slice a6 (q.hand.length + 1) c6) (RC.mk q.most (q.hand ++ [bs[n]]) (q.bytes + 1) q.given q.over q.place).hand.length ((RC.mk q.most (q.hand ++ [bs[n]]) (q.bytes + 1) q.given q.over q.place).hand.map bv) * F))) w8 := h8
            exact ⟨fin w8 (RefP.col (c := c) (RC.mk q.most (q.hand ++ [bs[n]]) (q.bytes + 1) q.given q.over q.place) (.slice a6 (q.hand.length + 1) c6) h10).sub, by omega⟩
    · have : n = bs.length := by omega
      subst this
      have hs : q.feed (bs.drop bs.length) = (0, q) := by rw [List.drop_length]; rfl
      obtain ⟨s1, s2⟩ := stop hs
      simp -dsimp -implicitDefEqProofs (disch := omega) only [go_sem, reqD_of, dec_t, dec_f, wrap_i64, wrap_u32, wrap_u64, wrap_u8, hd, e0, e1, e5, hlt]
      exact ⟨s1, by rw [s2]⟩

end
section
attribute [local go_sem] F40.t5_eq F40.t3_eq
theorem wantRef_any {w0 w : World} {F : HP} {c : Nat} {r : RC} (h : St w0 (RefP c r * F) w) (ok : r.ok) :
    Calls Try.prog 40 #[.pointer (some ⟨c, 0, none⟩)] w fun e w' => St w0 (RefP c r * F) w' ∧ e = .returned (.int .i64 r.want) := by
  have hl := RC.hand_le ok
  refine F40.calls (by simp) ?_
  unfold F40.code
  obtain ⟨a, cap, hcap, hcm, h1⟩ := RefP.open h
  have cB := h1.cl c
  cases ho : r.over with
  | true =>
    rw [ho] at cB
    simp -dsimp -implicitDefEqProofs (disch := omega) only [go_sem, reqD_of, dec_t, dec_f, wrap_i64, wrap_u32, wrap_u64, wrap_u8, cB]
    exact ⟨h, by simp [RC.want, ho]⟩
  | false =>
    rw [ho] at cB
    simp -dsimp -implicitDefEqProofs (disch := omega) only [go_sem, reqD_of, dec_t, dec_f, wrap_i64, wrap_u32, wrap_u64, wrap_u8, cB]
    refine (wholeRef_any h (by omega)).mono ?_
    rintro e w1 ⟨h2, rfl⟩
    clear h1 cB
    obtain ⟨a, cap, hcap, hcm, h1⟩ := RefP.open h2
    have cB := h1.cl c
    have cB' : ∀ i, w1.drew.cell? ⟨c, i, none⟩ = _ := cB
    cases hw : r.whole with
    | true =>
      simp -dsimp -implicitDefEqProofs (disch := omega) only [go_sem, reqD_of, dec_t, dec_f, wrap_i64, wrap_u32, wrap_u64, wrap_u8, cB]
      refine ⟨h2, ?_⟩
      have hw2 := hw
      simp only [RC.whole, Bool.and_eq_true, decide_eq_true_eq] at hw2
      obtain ⟨⟨_, h4⟩, hs⟩ := hw2
      unfold RC.want
      rw [ho, if_neg (by simp), if_neg (by omega), hs, Nat.sub_self]
      rfl
    | false =>
      by_cases h4 : (r.hand.length : Int) < 4
      · simp -dsimp -implicitDefEqProofs (disch := omega) only [go_sem, reqD_of, dec_t, dec_f, wrap_i64, wrap_u32, wrap_u64, wrap_u8, cB, h4]
        refine ⟨h2, ?_⟩
        unfold RC.want
        rw [ho, if_neg (by simp), if_pos (by omega)]
        congr 1
        omega
      · have hcap4 : (4 : Int) ≤ cap := by omega
        simp -dsimp -implicitDefEqProofs (disch := omega) only [go_sem, reqD_of, dec_t, dec_f, wrap_i64, wrap_u32, wrap_u64, wrap_u8, cB, cB', h4, hcap4]
        refine (sizeRef_any (bs := r.hand.take 4) h1.drew ((Ent.right _ _).trans ((Ent.left _ _).trans ((RowO.reads _ _ _ _ _).trans ((Reads.takeK (k := 4) (by omega)).trans (by rw [take4_rd _ _ (by omega)]; exact Ent.rfl' _))))) (by simp; omega)).mono ?_
        rintro e' w3 ⟨h3, rfl⟩
        rw [sizeL_take _ (by omega)]
        have cB3 := h3.cl c
        have hg := ok.good (by omega) ho
        have hw1 : IntKind.i64.wrap (sizeL r.hand : Int) = sizeL r.hand := wrap_i64 (by omega) (by omega)
        simp -dsimp -implicitDefEqProofs (disch := omega) only [go_sem, reqD_of, dec_t, dec_f, wrap_i64, wrap_u32, wrap_u64, wrap_u8, cB3, hw1]
        refine ⟨RefP.col (c := c) r (.slice a r.hand.length cap) h3, ?_⟩
        unfold RC.want
        rw [ho, if_neg (by simp), if_neg (by omega)]
        omega

end
end Go.Proofs.Ytfamclpajjnfbaa
