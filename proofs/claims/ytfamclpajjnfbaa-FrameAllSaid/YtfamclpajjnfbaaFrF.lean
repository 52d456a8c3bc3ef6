/- Frames that are made, and fed. -/
import Derived.Test.YtfamclpajjnfbaaFrE
namespace Go.Proofs.Ytfamclpajjnfbaa
open Go
set_option linter.unusedSimpArgs false
set_option linter.unusedVariables false
set_option maxRecDepth 100000

/-! ### The plain law -/

def padded (b : List UInt8) : List UInt8 := b ++ List.replicate (3 - b.length) 9
def bodyOf (b : List UInt8) (limit : Nat) : List UInt8 := (padded b).take (limit - 4)
def headOf (n : Nat) : List UInt8 := [UInt8.ofNat n, UInt8.ofNat (n / 256), UInt8.ofNat (n / 65536), 0]
def mkFrame (b : List UInt8) (limit : Nat) : List UInt8 := headOf ((bodyOf b limit).length + 4) ++ bodyOf b limit

theorem padded_length (b : List UInt8) : (padded b).length = max b.length 3 := by simp [padded]; omega
theorem bodyOf_length (b : List UInt8) {limit : Nat} : (bodyOf b limit).length = min (limit - 4) (max b.length 3) := by simp [bodyOf, padded_length]
theorem mkFrame_length (b : List UInt8) (limit : Nat) : (mkFrame b limit).length = (bodyOf b limit).length + 4 := by simp [mkFrame, headOf]

theorem u8wrap (n : Nat) : IntKind.u8.wrap (n : Int) = ((UInt8.ofNat n).toNat : Int) := by
  have : IntKind.u8.bits = 8 := rfl
  have hs : IntKind.u8.signed = false := rfl
  simp only [IntKind.wrap, this, hs]
  simp only [Bool.false_and, Bool.false_eq_true, if_false]
  simp
theorem tdiv_nat (n k : Nat) : ((n : Int)).tdiv (k : Int) = ((n / k : Nat) : Int) := (Int.ofNat_tdiv n k).symm
theorem tdiv256 (n : Nat) : ((n : Int)).tdiv 256 = ((n / 256 : Nat) : Int) := tdiv_nat n 256
theorem tdiv65536 (n : Nat) : ((n : Int)).tdiv 65536 = ((n / 65536 : Nat) : Int) := tdiv_nat n 65536
theorem tdiv16777216 (n : Nat) : ((n : Int)).tdiv 16777216 = ((n / 16777216 : Nat) : Int) := tdiv_nat n 16777216

/-! ### A row's beginning -/

theorem Row.take {T s : Nat} {a : Option Addr} {n c k : Nat} {xs : List Value} (hk : k ≤ n) : Ent (Row T s (.slice a n c) n xs) (Row T s (.slice a k c) k (xs.take (k * s))) := by
  refine Ent.of fun h hr => ?_
  rcases hr with ⟨hv, rfl, rfl⟩ | ⟨g, cap, cur, hv, hg, hn, hc, hs, ht, hl⟩
  · simp only [Value.slice.injEq] at hv
    obtain ⟨rfl, _, rfl⟩ := hv
    have : k = 0 := by omega
    subst this
    exact .inl ⟨rfl, rfl, by simp⟩
  · simp only [Value.slice.injEq] at hv
    obtain ⟨rfl, _, rfl⟩ := hv
    have hle : k * s ≤ n * s := Nat.mul_le_mul_right _ hk
    refine .inr ⟨g, c, cur, rfl, hg, by omega, hc, hs, ?_, by simp; omega⟩
    rw [← ht, List.take_take, Nat.min_eq_left hle]

/-- A row that is not empty: where it lies. -/
theorem Row.pos {T s : Nat} {a : Option Addr} {n c : Nat} {xs : List Value} {F : HP} {w0 w : World} (h : St w0 (Row T s (.slice a n c) n xs * F) w) (hpos : 0 < n) : (∃ g, a = some ⟨g, 0, none⟩) ∧ n ≤ c := by
  obtain ⟨_, _, h1, _, _, _, _, hr, _⟩ := h.sat
  rcases hr with ⟨hv, rfl, rfl⟩ | ⟨g, cap, cur, hv, hg, hn, hc, hs, ht, hl⟩
  · omega
  · simp only [Value.slice.injEq] at hv
    obtain ⟨rfl, _, rfl⟩ := hv
    exact ⟨⟨g, rfl⟩, hn⟩

section
attribute [local go_sem] F19.t4_eq F19.t5_eq
theorem made_any {w0 w : World} {F : HP} {v : Value} {b : List UInt8} {limit : Nat} (h : St w0 F w) (ha : Ent F (RdB v b)) (hb : b.length ≤ 140737488351232) (h7 : 7 ≤ limit) (hl : limit ≤ 65536) :
    Calls Try.prog 19 #[v, .int .i64 limit] w fun e w' => ∃ v', St w0 (Row 5 1 v' (mkFrame b limit).length ((mkFrame b limit).map bv) * F) w' ∧ e = .returned v' := by
  obtain ⟨pa, ca, rfl, hca, hra⟩ := (h.ent ha).bytes
  refine F19.calls (by simp) ?_
  unfold F19.code
  simp -dsimp -implicitDefEqProofs (disch := omega) only [go_sem, reqD_of, dec_t, dec_f, wrap_i64, wrap_u32, wrap_u64, wrap_u8]
  have h1 := h.ent (Ent.nilRow 5 1 _)
  refine h1.append fact_rowTy_35 ((h1.right.ent ha).rd.src Try.underlying35 (bv_isCell _) (fun h => by simpa using h)) (by simp [maxLen]; omega) (by omega) fun v1 w1 h2 => ?_
  simp -dsimp -implicitDefEqProofs (disch := omega) only [go_sem, reqD_of, dec_t, dec_f, wrap_i64, wrap_u32, wrap_u64, wrap_u8]
  refine loop_intro (fun e w' => e.ds = [] ∧ e.ρ 1 = .int .i64 limit ∧ ∃ (k : Nat) (v : Value), k ≤ 3 - b.length ∧ St w0 (Row 5 1 v (b.length + k) ((b ++ List.replicate k 9).map bv) * F) w' ∧ e.ρ 5 = v)
    (fun e _ => match e.ρ 5 with | .slice _ n _ => 3 - n | _ => 0) ?_ ?_
  · refine ⟨rfl, by simp -dsimp -implicitDefEqProofs only [go_sem], 0, v1, by omega, ?_, by simp -dsimp -implicitDefEqProofs only [go_sem]⟩
    simpa using h2
  rintro e w2 ⟨hd, e1, k, v2, hk, h3, e5⟩
  obtain ⟨a2, c2, rfl, hl2⟩ := Row.form h3
  by_cases hlt : ((b.length + k : Nat) : Int) < 3
  · simp -dsimp -implicitDefEqProofs (disch := omega) only [go_sem, reqD_of, dec_t, dec_f, wrap_i64, wrap_u32, wrap_u64, wrap_u8, hlt, hd, e1, e5]
    refine h3.buildSlice (s := 1) fact_rowTy_35 (cells := [bv 9]) rfl (by decide) (by decide) fun v3 w3 h4 => ?_
    simp -dsimp -implicitDefEqProofs (disch := omega) only [go_sem, reqD_of, dec_t, dec_f, wrap_i64, wrap_u32, wrap_u64, wrap_u8, hlt, hd, e1, e5]
    refine (h4.sw2).append fact_rowTy_35 (((h4.left.ent (Row.reads _ _ _ _ _)).rd).src Try.underlying35 (bv_isCell [9]) (by simp)) (by simp [maxLen]; omega) (by omega) fun v4 w4 h5 => ?_
    obtain ⟨a4, c4, rfl, hl4⟩ := Row.form h5
    simp -dsimp -implicitDefEqProofs (disch := omega) only [go_sem, reqD_of, dec_t, dec_f, wrap_i64, wrap_u32, wrap_u64, wrap_u8, hd, e1, e5]
    have e : (b ++ List.replicate k 9).map bv ++ [bv 9] = (b ++ List.replicate (k + 1) 9).map bv := by
      rw [List.replicate_succ']; simp
    rw [e] at h5
    exact ⟨⟨k + 1, _, by omega, h5.drop2, rfl⟩, by omega⟩
  · have hk3 : k = 3 - b.length := by omega
    subst hk3
    have hpl : b.length + (3 - b.length) = (padded b).length := by simp [padded]
    have h3 : St w0 (Row 5 1 (.slice a2 (padded b).length c2) (padded b).length ((padded b).map bv) * F) w2 := by
      rw [← hpl]; exact h3
    rw [hpl] at e5 hlt
    have hp := padded_length b
    have hbl := bodyOf_length b (limit := limit)
    -- what is left of it
    have fin : ∀ (e : FA) (w3 : World) (a3 : Option Addr) (c3 : Nat), e.ds = [] → e.ρ 1 = .int .i64 limit → e.ρ 5 = .slice a3 (bodyOf b limit).length c3 →
        St w0 (Row 5 1 (.slice a3 (bodyOf b limit).length c3) (bodyOf b limit).length ((bodyOf b limit).map bv) * F) w3 →
        cwE Try.prog F19.t7 (fnP Try.prog #[.tmp 4] fun e w' => ∃ v', St w0 (Row 5 1 v' (mkFrame b limit).length ((mkFrame b limit).map bv) * F) w' ∧ e = .returned v') e w3 := by
      intro e w3 a3 c3 hd e1 e5 h6
      rw [F19.t7_eq]
      simp -dsimp -implicitDefEqProofs (disch := omega) only [go_sem, reqD_of, dec_t, dec_f, wrap_i64, wrap_u32, wrap_u64, wrap_u8, hd, e1, e5]
      have hn4 : ((bodyOf b limit).length : Int) + 4 = (((bodyOf b limit).length + 4 : Nat) : Int) := by omega
      rw [hn4]
      simp -dsimp -implicitDefEqProofs (disch := omega) only [go_sem, reqD_of, dec_t, dec_f, wrap_i64, wrap_u32, wrap_u64, wrap_u8, hd, e1, e5, tdiv256, tdiv65536, u8wrap]
      have h65 : ((((bodyOf b limit).length + 4) / 65536 : Nat) : Int) = ((UInt8.ofNat (((bodyOf b limit).length + 4) / 65536)).toNat : Int) := by simp; omega
      rw [h65]
      refine h6.buildSlice (s := 1) fact_rowTy_35 (cells := (headOf ((bodyOf b limit).length + 4)).map bv) rfl (by decide) (by decide) fun v3 w3 h7 => ?_
      simp -dsimp -implicitDefEqProofs (disch := omega) only [go_sem, reqD_of, dec_t, dec_f, wrap_i64, wrap_u32, wrap_u64, wrap_u8, hd, e1, e5]
      refine h7.append fact_rowTy_35 (((h7.right.left.ent (Row.reads _ _ _ _ _)).rd).src Try.underlying35 (bv_isCell _) (fun h => by simpa using h)) (by simp [maxLen]; omega) (by omega) fun v4 w4 h8 => ?_
      simp -dsimp -implicitDefEqProofs (disch := omega) only [go_sem, reqD_of, dec_t, dec_f, wrap_i64, wrap_u32, wrap_u64, wrap_u8, hd, e1, e5]
      have hm : (mkFrame b limit).length = 4 + (bodyOf b limit).length := by rw [mkFrame_length]; omega
      refine ⟨v4, h8.drop2.ac ?_, rfl⟩
      rw [hm, mkFrame, List.map_append]
    obtain ⟨⟨g, rfl⟩, hc2⟩ := Row.pos h3 (by omega)
    have hc0 : ¬ c2 = 0 := by omega
    by_cases hcut : ((limit : Int) - 4) < ((padded b).length : Int)
    · simp -dsimp -implicitDefEqProofs (disch := omega) only [go_sem, reqD_of, dec_t, dec_f, wrap_i64, wrap_u32, wrap_u64, wrap_u8, hlt, hd, e1, e5, hcut, hc0]
      have hk : ((limit : Int) - 4).toNat - 0 = (bodyOf b limit).length := by omega
      refine fin _ _ (some ⟨g, 0, none⟩) c2 (by simp -dsimp -implicitDefEqProofs only [go_sem, hd]) (by simp -dsimp -implicitDefEqProofs only [go_sem, e1]) ?_ ?_
      · simp -dsimp -implicitDefEqProofs only [go_sem, hc0, Option.map_some, add_lit, Nat.sub_zero]
        omega
      · have := h3.ent (Ent.sep (Row.take (k := (bodyOf b limit).length) (by omega)) (Ent.rfl' F))
        rw [Nat.mul_one, ← List.map_take] at this
        have e : (padded b).take (bodyOf b limit).length = bodyOf b limit := by
          rw [hbl, bodyOf, ← hp, ← List.take_take]
          simp
        rwa [e] at this
    · simp -dsimp -implicitDefEqProofs (disch := omega) only [go_sem, reqD_of, dec_t, dec_f, wrap_i64, wrap_u32, wrap_u64, wrap_u8, hlt, hd, e1, e5, hcut]
      have e : bodyOf b limit = padded b := List.take_of_length_le (by omega)
      refine fin _ _ (some ⟨g, 0, none⟩) c2 (by simp -dsimp -implicitDefEqProofs only [go_sem, hd]) (by simp -dsimp -implicitDefEqProofs only [go_sem, e1]) (by rw [e]; simp -dsimp -implicitDefEqProofs only [go_sem, e5]) ?_
      rw [e]; exact h3

/-! ### What feeding makes of it -/

def size4 (x0 x1 x2 x3 : UInt8) : Nat := x0.toNat + x1.toNat * 256 + x2.toNat * 65536 + x3.toNat * 16777216

theorem feed_good {m : Cut} {x0 x1 x2 x3 : UInt8} {b : List UInt8} (hh : m.heads = 0) (hb : m.body = []) (hd : m.dead = false) (hs : size4 x0 x1 x2 x3 = 4 + b.length) (h7 : 7 ≤ 4 + b.length) (hl : 4 + b.length ≤ m.limit) :
    m.feed (x0 :: x1 :: x2 :: x3 :: b) = (4 + b.length, { m with b0 := x0, b1 := x1, b2 := x2, b3 := x3, heads := 4, body := b, ever := m.ever + (4 + b.length) }) := by
  obtain ⟨limit, b0, b1, b2, b3, heads, body, ever, taken, dead, ahead⟩ := m
  simp only at hh hb hd hl
  subst hh hb hd
  have hs' := hs
  unfold size4 at hs'
  have hfill : Cut.fill ⟨limit, b0, b1, b2, b3, 0, [], ever, taken, false, ahead⟩ 0 (x0 :: x1 :: x2 :: x3 :: b) = (4, ⟨limit, x0, x1, x2, x3, 4, [], ever, taken, false, ahead⟩) := by
    have hn : ¬ (4 + b.length < 7 ∨ limit < 4 + b.length) := by omega
    have hx : ¬ (0 + 1 + 1 + 1 + 1 = 4 ∧ (Cut.size ⟨limit, x0, x1, x2, x3, 3, [], ever, taken, false, ahead⟩ < 7 ∨ limit < Cut.size ⟨limit, x0, x1, x2, x3, 3, [], ever, taken, false, ahead⟩)) := by
      unfold Cut.size; simp only; rw [hs']; omega
    simp [Cut.fill, Cut.put, Cut.setB]
    rw [if_neg (by simpa using hx)]
    cases b <;> simp [Cut.fill]
  have hsz : Cut.size ⟨limit, x0, x1, x2, x3, 4, [], ever, taken, false, ahead⟩ = 4 + b.length := by unfold Cut.size; exact hs'
  simp only [Cut.feed, hfill, Cut.finish, hsz]
  have e : min (b.length + 1 + 1 + 1 + 1 - 4) (4 + b.length - 4 - 0) = b.length := by omega
  simp only [List.length_cons, List.length_nil, e]
  simp

theorem feed_bad {m : Cut} {x0 x1 x2 x3 : UInt8} {b : List UInt8} (hh : m.heads = 0) (hb : m.body = []) (hd : m.dead = false) (hs : size4 x0 x1 x2 x3 < 7 ∨ m.limit < size4 x0 x1 x2 x3) :
    m.feed (x0 :: x1 :: x2 :: x3 :: b) = (4, { m with b0 := x0, b1 := x1, b2 := x2, b3 := x3, heads := 4, dead := true, ahead := m.ever, ever := m.ever + 4 }) := by
  obtain ⟨limit, b0, b1, b2, b3, heads, body, ever, taken, dead, ahead⟩ := m
  simp only at hh hb hd hs
  subst hh hb hd
  unfold size4 at hs
  have hfill : Cut.fill ⟨limit, b0, b1, b2, b3, 0, [], ever, taken, false, ahead⟩ 0 (x0 :: x1 :: x2 :: x3 :: b) = (4, ⟨limit, x0, x1, x2, x3, 4, [], ever, taken, true, ever⟩) := by
    simp [Cut.fill, Cut.put, Cut.setB]
    rw [if_pos (by unfold Cut.size; simpa using hs)]
    cases b <;> simp [Cut.fill]
  simp only [Cut.feed, hfill, Cut.finish]
  simp

theorem feed_dead {m : Cut} (hh : m.heads = 4) (hd : m.dead = true) (b : List UInt8) : m.feed b = (0, m) := by
  obtain ⟨limit, b0, b1, b2, b3, heads, body, ever, taken, dead, ahead⟩ := m
  simp only at hh hd
  subst hh hd
  cases b <;> simp [Cut.feed, Cut.fill, Cut.finish]

theorem size_head {n : Nat} (hn : n ≤ 65536) : size4 (UInt8.ofNat n) (UInt8.ofNat (n / 256)) (UInt8.ofNat (n / 65536)) 0 = n := by
  simp [size4]
  omega

end
end Go.Proofs.Ytfamclpajjnfbaa
