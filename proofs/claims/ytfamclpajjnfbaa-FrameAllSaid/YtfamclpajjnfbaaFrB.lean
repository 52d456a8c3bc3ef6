/- Walks of the frame package: comparing, making, asking. -/
import Derived.Test.YtfamclpajjnfbaaFrA
namespace Go.Proofs.Ytfamclpajjnfbaa
open Go
set_option linter.unusedSimpArgs false
set_option linter.unusedVariables false
set_option maxRecDepth 100000

theorem bv_inj {a b : UInt8} : ((a.toNat : Int) = (b.toNat : Int)) ↔ a = b := by
  constructor
  · intro h; exact UInt8.toNat_inj.1 (by omega)
  · rintro rfl; rfl

section
attribute [local go_sem] F31.t5_eq F31.t6_eq F31.t8_eq F31.t3_eq
theorem same_any {w0 w : World} {F : HP} {va vb : Value} {xs ys : List UInt8} (h : St w0 F w) (ha : Ent F (RdB va xs)) (hb : Ent F (RdB vb ys)) (hl : xs.length < 9223372036854775807) :
    Calls Try.prog 31 #[va, vb] w fun e w' => St w0 F w' ∧ e = .returned (.bool (decide (xs = ys))) := by
  obtain ⟨pa, ca, rfl, _, hra⟩ := (h.ent ha).bytes
  obtain ⟨pb, cb, rfl, _, hrb⟩ := (h.ent hb).bytes
  refine F31.calls (by simp) ?_
  unfold F31.code
  by_cases hlen : (xs.length : Int) = ys.length
  case neg =>
    simp -dsimp -implicitDefEqProofs only [go_sem, hlen]
    exact ⟨h, by rw [dec_f]; intro hx; exact hlen (by rw [hx])⟩
  simp -dsimp -implicitDefEqProofs only [go_sem, hlen]
  refine loop_intro (fun e w' => St w0 F w' ∧ e.ds = [] ∧ e.ρ 0 = .slice pa xs.length ca ∧ e.ρ 1 = .slice pb ys.length cb ∧ ∃ k : Nat, k ≤ xs.length ∧ e.ρ 5 = .int .i64 k ∧ xs.take k = ys.take k)
    (fun e _ => match e.ρ 5 with | .int _ n => (xs.length - n).toNat | _ => 0) ?_ ?_
  · exact ⟨h, rfl, by simp -dsimp -implicitDefEqProofs only [go_sem, hlen], by simp -dsimp -implicitDefEqProofs only [go_sem, hlen], 0, by omega, rfl, rfl⟩
  · rintro e w1 ⟨h1, hd, e0, e1, k, hk, e5, hpre⟩
    have hlen' : xs.length = ys.length := by omega
    by_cases hlt : (k : Int) < xs.length
    · have hka : k < xs.length := by omega
      have hkb : k < ys.length := by omega
      have h1' := h1.drew
      obtain ⟨qa, _, hv, _, hra1⟩ := (h1'.ent ha).bytes
      obtain ⟨qb, _, hv', _, hrb1⟩ := (h1'.ent hb).bytes
      simp only [Value.slice.injEq] at hv hv'
      obtain ⟨rfl, _, rfl⟩ := hv
      obtain ⟨rfl, _, rfl⟩ := hv'
      rcases hra1 with rfl | ⟨ba, oa, rfl, hra1⟩
      · simp at hka
      rcases hrb1 with rfl | ⟨bb, ob, rfl, hrb1⟩
      · simp at hkb
      by_cases hab : ((xs.getD k 0).toNat : Int) = ((ys.getD k 0).toNat : Int)
      · simp -dsimp -implicitDefEqProofs (disch := omega) only [go_sem, reqD_of, dec_t, dec_f, wrap_i64, wrap_u32, wrap_u64, wrap_u8, hlt, e0, e1, e5, hd, hra1 k hka, hrb1 k hkb, bv, hab]
        refine ⟨⟨h1', ⟨k + 1, by omega, by omega, ?_⟩⟩, by omega⟩
        rw [List.take_succ_eq_append_getElem hka, List.take_succ_eq_append_getElem hkb, hpre]
        have := bv_inj.1 hab
        rw [show xs[k] = ys[k] by simpa [List.getElem?_eq_getElem hka, List.getElem?_eq_getElem hkb] using this]
      · simp -dsimp -implicitDefEqProofs (disch := omega) only [go_sem, reqD_of, dec_t, dec_f, wrap_i64, wrap_u32, wrap_u64, wrap_u8, hlt, e0, e1, e5, hd, hra1 k hka, hrb1 k hkb, bv, hab]
        refine ⟨h1', ?_⟩
        rw [dec_f]
        rintro rfl
        exact hab rfl
    · have : k = xs.length := by omega
      subst this
      simp -dsimp -implicitDefEqProofs only [go_sem, hlt, e0, e1, e5, hd]
      rw [List.take_length, hlen', List.take_length] at hpre
      exact ⟨h1, by rw [dec_t hpre]⟩
/-! ### Cutters -/

/-- A cutter, as its cells and its body's bytes tell it. -/
structure Cut where
  limit : Nat
  b0 : UInt8
  b1 : UInt8
  b2 : UInt8
  b3 : UInt8
  heads : Nat
  body : List UInt8
  ever : Nat
  taken : Nat
  dead : Bool
  ahead : Nat

def Cut.size (m : Cut) : Nat := m.b0.toNat + m.b1.toNat * 256 + m.b2.toNat * 65536 + m.b3.toNat * 16777216

theorem Cut.size_lt (m : Cut) : m.size < 4294967296 := by
  have := m.b0.toNat_lt; have := m.b1.toNat_lt; have := m.b2.toNat_lt; have := m.b3.toNat_lt
  unfold Cut.size
  omega

def Cut.cells (m : Cut) (bv : Value) : Array Value := cutCells m.limit m.b0.toNat m.b1.toNat m.b2.toNat m.b3.toNat m.heads bv m.ever m.taken m.dead m.ahead

/-- The cutter's own memory. -/
def CutP (c : Nat) (m : Cut) : HP := HP.ex fun v => Blk c (.cells (m.cells v) 72 (0, 0)) * Row 5 1 v m.body.length (m.body.map bv)

theorem CutP.open {w0 w : World} {c : Nat} {m : Cut} {F : HP} (h : St w0 (CutP c m * F) w) :
    ∃ a cap, St w0 (Blk c (.cells (m.cells (.slice a m.body.length cap)) 72 (0, 0)) * (Row 5 1 (.slice a m.body.length cap) m.body.length (m.body.map bv) * F)) w := by
  obtain ⟨v, h⟩ := h.exF
  have h' := h.ac (show _ = Row 5 1 v m.body.length (m.body.map bv) * (Blk c (.cells (m.cells v) 72 (0, 0)) * F) by ac_rfl)
  obtain ⟨a, cap, rfl, _⟩ := Row.form h'
  exact ⟨a, cap, h.ac (by ac_rfl)⟩

theorem CutP.shut {w0 w : World} {c : Nat} {m : Cut} {F : HP} {v : Value} (h : St w0 (Blk c (.cells (m.cells v) 72 (0, 0)) * (Row 5 1 v m.body.length (m.body.map bv) * F)) w) : St w0 (CutP c m * F) w :=
  (h.ac (show _ = (Blk c (.cells (m.cells v) 72 (0, 0)) * Row 5 1 v m.body.length (m.body.map bv)) * F by ac_rfl)).ent (Ent.sep (Ent.ex (fun v => Blk c (.cells (m.cells v) 72 (0, 0)) * Row 5 1 v m.body.length (m.body.map bv)) v) (Ent.rfl' F))

def Cut.whole (m : Cut) : Bool := !m.dead && decide (m.heads = 4) && decide (4 + m.body.length = m.size)

theorem size_cut {w0 w : World} {F : HP} {c : Nat} {m : Cut} {v : Value} (h : St w0 (Blk c (.cells (m.cells v) 72 (0, 0)) * F) w) :
    Calls Try.prog 42 #[.pointer (some ⟨c, 0, none⟩)] w fun e w' => w = w' ∧ e = .returned (.int .u32 (m.size : Int)) := by
  have u : ∀ b : UInt8, (0 : Int) ≤ b.toNat ∧ (b.toNat : Int) < 256 := fun b => by have := b.toNat_lt; omega
  refine (size_any (u _) (u _) (u _) (u _) h).mono ?_
  rintro e w' ⟨rfl, rfl⟩
  refine ⟨rfl, ?_⟩
  simp only [sizeOf4, Cut.size, Int.natCast_add, Int.natCast_mul]
  rfl

end

theorem whole_any {w0 w : World} {F : HP} {c : Nat} {m : Cut} (h : St w0 (CutP c m * F) w) (hb : m.body.length < 4611686018427387904) :
    Calls Try.prog 24 #[.pointer (some ⟨c, 0, none⟩)] w fun e w' => St w0 (CutP c m * F) w' ∧ e = .returned (.bool m.whole) := by
  obtain ⟨a, cap, h1⟩ := CutP.open h
  have h2 := h1.drew
  have hc := h2.cells
  unfold Cut.cells cutCells at hc
  have hs := m.size
  refine F24.calls (by simp) ?_
  unfold F24.code
  by_cases hd : m.dead = true
  · simp -dsimp -implicitDefEqProofs (disch := omega) only [go_sem, reqD_of, dec_t, dec_f, wrap_i64, wrap_u32, wrap_u64, wrap_u8, hc, hd]
    exact ⟨CutP.shut h2, by simp [Cut.whole, hd]⟩
  · have hd' : m.dead = false := by simpa using hd
    by_cases hh : (m.heads : Int) = 4
    · have hz := m.size_lt
      simp -dsimp -implicitDefEqProofs (disch := omega) only [go_sem, reqD_of, dec_t, dec_f, wrap_i64, wrap_u32, wrap_u64, wrap_u8, hc, hd', hh]
      refine (size_cut h2).mono ?_
      rintro e w' ⟨rfl, rfl⟩
      by_cases he : (4 + (m.body.length : Int)) = (m.size : Int)
      · simp -dsimp -implicitDefEqProofs (disch := omega) only [go_sem, reqD_of, dec_t, dec_f, wrap_i64, wrap_u32, wrap_u64, wrap_u8, hc, hd', hh, alive_nil]
        exact ⟨CutP.shut h2, by simp [Cut.whole, hd', show m.heads = 4 by omega, show 4 + m.body.length = m.size by omega]⟩
      · simp -dsimp -implicitDefEqProofs (disch := omega) only [go_sem, reqD_of, dec_t, dec_f, wrap_i64, wrap_u32, wrap_u64, wrap_u8, hc, hd', hh]
        exact ⟨CutP.shut h2, by simp [Cut.whole, hd', show ¬ 4 + m.body.length = m.size by omega]⟩
    · simp -dsimp -implicitDefEqProofs (disch := omega) only [go_sem, reqD_of, dec_t, dec_f, wrap_i64, wrap_u32, wrap_u64, wrap_u8, hc, hd', hh]
      exact ⟨CutP.shut h2, by simp [Cut.whole, show m.heads ≠ 4 by omega]⟩


def okLimit (n : Int) : Bool := decide (7 ≤ n) && decide (n ≤ 65536)
theorem limit_any {w0 w : World} {F : HP} (h : St w0 F w) (n : Int) : Calls Try.prog 32 #[.int .u32 n] w fun e w' => St w0 F w' ∧ e = .returned (.bool (okLimit n)) := by
  refine F32.calls (by simp) ?_
  unfold F32.code
  by_cases h1 : 7 ≤ n
  · by_cases h2 : n ≤ 65536
    · simp -dsimp -implicitDefEqProofs (disch := omega) only [go_sem, reqD_of, dec_t, dec_f, wrap_i64, wrap_u32, wrap_u64, wrap_u8]
      exact ⟨h, by simp [okLimit, h1, h2]⟩
    · simp -dsimp -implicitDefEqProofs (disch := omega) only [go_sem, reqD_of, dec_t, dec_f, wrap_i64, wrap_u32, wrap_u64, wrap_u8]
      exact ⟨h, by simp [okLimit, h1, h2]⟩
  · simp -dsimp -implicitDefEqProofs (disch := omega) only [go_sem, reqD_of, dec_t, dec_f, wrap_i64, wrap_u32, wrap_u64, wrap_u8]
    exact ⟨h, by simp [okLimit, h1]⟩

def Cut.new (n : Nat) : Cut := { limit := n, b0 := 0, b1 := 0, b2 := 0, b3 := 0, heads := 0, body := [], ever := 0, taken := 0, dead := false, ahead := 0 }

section
attribute [local go_sem] F11.t3_eq
theorem new_no {w0 w : World} {F : HP} (h : St w0 F w) {n : Int} (hn : okLimit n = false) : Calls Try.prog 11 #[.int .u32 n] w fun e w' => St w0 F w' ∧ e = .returned (.pointer none) := by
  refine F11.calls (by simp) ?_
  unfold F11.code
  simp -dsimp -implicitDefEqProofs only [go_sem]
  refine (limit_any h n).mono ?_
  rintro e w' ⟨h1, rfl⟩
  simp -dsimp -implicitDefEqProofs only [go_sem, hn]
  exact h1

theorem new_yes {w0 w : World} {F : HP} (h : St w0 F w) {n : Nat} (hn : okLimit n = true) : Calls Try.prog 11 #[.int .u32 n] w fun e w' => ∃ c, St w0 (CutP c (Cut.new n) * F) w' ∧ e = .returned (.pointer (some ⟨c, 0, none⟩)) := by
  refine F11.calls (by simp) ?_
  unfold F11.code
  simp -dsimp -implicitDefEqProofs only [go_sem]
  refine (limit_any h n).mono ?_
  rintro e w' ⟨h1, rfl⟩
  simp -dsimp -implicitDefEqProofs only [go_sem, hn]
  refine onV_of (v := .agg ((Cut.new n).cells (.slice none 0 0))) rfl ?_
  simp -dsimp -implicitDefEqProofs only [go_sem]
  refine h1.new fun c w2 h2 => ?_
  simp -dsimp -implicitDefEqProofs only [go_sem]
  refine ⟨c, ?_, rfl⟩
  exact CutP.shut (v := .slice none 0 0) (h2.ent (Ent.sep (Ent.rfl' _) (Ent.nilRow _ _ _)))

end
section
attribute [local go_sem] F25.t5_eq
theorem want_any {w0 w : World} {F : HP} {c : Nat} {m : Cut} (h : St w0 (CutP c m * F) w) (hb : m.body.length < 4611686018427387904) :
    Calls Try.prog 25 #[.pointer (some ⟨c, 0, none⟩)] w fun e w' => St w0 (CutP c m * F) w' ∧
      e = .returned (.int .i64 (if m.dead = true then 0 else if m.heads < 4 then 4 - m.heads else (m.size : Int) - 4 - m.body.length)) := by
  obtain ⟨a, cap, h1⟩ := CutP.open h
  have hc := h1.cells
  unfold Cut.cells cutCells at hc
  have hz := m.size_lt
  refine F25.calls (by simp) ?_
  unfold F25.code
  by_cases hd : m.dead = true
  · simp -dsimp -implicitDefEqProofs (disch := omega) only [go_sem, reqD_of, dec_t, dec_f, wrap_i64, wrap_u32, wrap_u64, wrap_u8, hc, hd]
    exact CutP.shut h1
  · have hd' : m.dead = false := by simpa using hd
    by_cases hh : (m.heads : Int) < 4
    · simp -dsimp -implicitDefEqProofs (disch := omega) only [go_sem, reqD_of, dec_t, dec_f, wrap_i64, wrap_u32, wrap_u64, wrap_u8, hc, hd']
      exact ⟨CutP.shut h1, by rw [if_pos (show m.heads < 4 by omega)]⟩
    · have h2 := h1.drew
      have hc2 := h2.cells
      unfold Cut.cells cutCells at hc2
      simp -dsimp -implicitDefEqProofs (disch := omega) only [go_sem, reqD_of, dec_t, dec_f, wrap_i64, wrap_u32, wrap_u64, wrap_u8, hc, hd', hc2]
      refine (size_cut h2).mono ?_
      rintro e w' ⟨rfl, rfl⟩
      simp -dsimp -implicitDefEqProofs (disch := omega) only [go_sem, reqD_of, dec_t, dec_f, wrap_i64, wrap_u32, wrap_u64, wrap_u8, hc2]
      exact ⟨CutP.shut h2, by simp [hd', show ¬ m.heads < 4 by omega]⟩

end
section
attribute [local go_sem] F22.t3_eq
theorem setLimit_any {w0 w : World} {F : HP} {c : Nat} {m : Cut} (h : St w0 (CutP c m * F) w) (n : Nat) :
    Calls Try.prog 22 #[.pointer (some ⟨c, 0, none⟩), .int .u32 n] w fun e w' =>
      (okLimit n = false ∧ St w0 (CutP c m * F) w' ∧ e = .returned (.int .i64 1)) ∨ (okLimit n = true ∧ St w0 (CutP c { m with limit := n } * F) w' ∧ e = .returned (.int .i64 0)) := by
  refine F22.calls (by simp) ?_
  unfold F22.code
  simp -dsimp -implicitDefEqProofs only [go_sem]
  refine (limit_any h n).mono ?_
  rintro e w' ⟨h1, rfl⟩
  cases hn : okLimit n with
  | false =>
    simp -dsimp -implicitDefEqProofs only [go_sem]
    exact h1
  | true =>
    obtain ⟨a, cap, h2⟩ := CutP.open h1
    simp -dsimp -implicitDefEqProofs only [go_sem]
    refine h2.store (arr' := Cut.cells { m with limit := n } (.slice a m.body.length cap)) rfl (by simp [Cut.cells, cutCells]) rfl fun w3 h3 => ?_
    simp -dsimp -implicitDefEqProofs only [go_sem]
    exact CutP.shut (m := { m with limit := n }) h3

end
section
attribute [local go_sem] F23.t3_eq
theorem dead_any {w0 w : World} {F : HP} {c : Nat} {m : Cut} (h : St w0 (CutP c m * F) w) :
    Calls Try.prog 23 #[.pointer (some ⟨c, 0, none⟩)] w fun e w' => St w0 (CutP c m * F) w' ∧
      e = .returned (.tuple #[.int .i64 (if m.dead = true then 40 else 0), .int .i64 (if m.dead = true then m.ahead else 0)]) := by
  obtain ⟨a, cap, h1⟩ := CutP.open h
  have hc := h1.cells
  have h2 := h1.drew
  have hc2 := h2.cells
  unfold Cut.cells cutCells at hc hc2
  refine F23.calls (by simp) ?_
  unfold F23.code
  by_cases hd : m.dead = true
  · simp -dsimp -implicitDefEqProofs (disch := omega) only [go_sem, reqD_of, dec_t, dec_f, wrap_i64, wrap_u32, wrap_u64, wrap_u8, hc, hc2, hd]
    exact CutP.shut h2
  · have hd' : m.dead = false := by simpa using hd
    simp -dsimp -implicitDefEqProofs (disch := omega) only [go_sem, reqD_of, dec_t, dec_f, wrap_i64, wrap_u32, wrap_u64, wrap_u8, hc, hc2, hd']
    exact CutP.shut h1

end

theorem taken_any {w0 w : World} {F : HP} {c : Nat} {m : Cut} (h : St w0 (CutP c m * F) w) :
    Calls Try.prog 26 #[.pointer (some ⟨c, 0, none⟩)] w fun e w' => St w0 (CutP c m * F) w' ∧ e = .returned (.int .i64 m.taken) := by
  obtain ⟨a, cap, h1⟩ := CutP.open h
  have hc := h1.cells
  unfold Cut.cells cutCells at hc
  refine F26.calls (by simp) ?_
  unfold F26.code
  simp -dsimp -implicitDefEqProofs only [go_sem, hc]
  exact CutP.shut h1

end Go.Proofs.Ytfamclpajjnfbaa
