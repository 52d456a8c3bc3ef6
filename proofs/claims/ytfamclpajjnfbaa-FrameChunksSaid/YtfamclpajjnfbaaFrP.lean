/- The walk of FrameChunks. -/
import Derived.Test.YtfamclpajjnfbaaFrO
import Derived.Test.YtfamclpajjnfbaaFrK
namespace Go.Proofs.Ytfamclpajjnfbaa
open Go
set_option linter.unusedSimpArgs false
set_option linter.unusedVariables false
set_option maxRecDepth 100000

abbrev rInts := rSlice 1 8 (rInt .i64)

theorem intElem {w0 : World} {xs : List Int} {a : Option Addr} {n cap j : Nat} (k : Ent (Old w0) (rInts.at xs [.slice a n cap])) (hj : j < xs.length) :
    ∃ g o, a = some ⟨g, o, none⟩ ∧ (-9223372036854775808 ≤ xs[j] ∧ xs[j] < 9223372036854775808) ∧ ∀ (F : HP) (u : World), St w0 (Old w0 * F) u → u.cell? ⟨g, o + j, none⟩ = some (.int .i64 xs[j]) := by
  obtain ⟨g, o, cs, rfl, hcs, hel, hc⟩ := Rdr.elemEnt k hj
  obtain ⟨rfl, hw⟩ := (St.start w0).reader hel
  refine ⟨g, o, rfl, i64_bounds hw, fun F u hu => ?_⟩
  have := hc F u hu 0 (by omega)
  simpa using this

/-- What stands in FrameChunks' slots throughout its first loop. -/
structure ChF (e : FA) (pb : Option Addr) (nb cb : Nat) (pc : Option Addr) (nc cc c : Nat) (fv : Value) (i : Nat) : Prop where
  ds : e.ds = []
  e0 : e.ρ 0 = .slice pb nb cb
  e2 : e.ρ 2 = .slice pc nc cc
  e8 : e.ρ 8 = .pointer (some ⟨c, 0, none⟩)
  e9 : e.ρ 9 = fv
  e12 : e.ρ 12 = .int .i64 i

section
attribute [local go_sem] F8.t27_eq F8.t22_eq F8.t19_eq F8.t13_eq F8.t14_eq F8.t39_eq F8.t40_eq F8.t47_eq F8.t44_eq F8.t41_eq F8.t35_eq F8.t31_eq F8.t28_eq F8.t9_eq F8.t3_eq
theorem chunk_step {w0 w : World} {Q : Post} {e : FA} {pb pc : Option Addr} {b : List UInt8} {cb nc cc c i n at_ L : Nat} {late : Bool} {fv vg : Value} {got : List (List UInt8)} {r : RC} {M : HP} (hbb : b.length ≤ 33554432) (hb : Ent M (RdB (.slice pb b.length cb) b)) (hcap : b.length ≤ cb)
    (hf : ChF e pb b.length cb pc nc cc c fv i) (e10 : e.ρ 10 = vg) (e11 : e.ρ 11 = .int .i64 at_) (e13 : e.ρ 13 = .int .i64 n) (e14 : e.ρ 14 = .bool late) (hn : at_ + n ≤ b.length)
    (h : St w0 (CutR c r * (ListP vg got * M)) w) (hi : CInv L b got at_ r)
    (hnext : ∀ (e' : FA) (w' : World) (got' : List (List UInt8)) (r' : RC) (at' : Nat) (vg' : Value), ChF e' pb b.length cb pc nc cc c fv i → e'.ρ 10 = vg' → e'.ρ 11 = .int .i64 at' → St w0 (CutR c r' * (ListP vg' got' * M)) w' → CInv L b got' at' r' → at_ ≤ at' → got.length ≤ got'.length → (0 < n → at_ < at' ∨ got.length < got'.length) →
      Q .normal e' w' ∧ Q (.exit 1) e' w')
    (hbreak : ∀ (e' : FA) (w' : World) (r' : RC) (at' : Nat), ChF e' pb b.length cb pc nc cc c fv i → e'.ρ 10 = vg → e'.ρ 11 = .int .i64 at' → St w0 (CutR c r' * (ListP vg got * M)) w' → CInv L b got at' r' → r'.over = true → Q (.exit 0) e' w') :
    cwE Try.prog F8.t19 Q e w := by
  rw [F8.t19_eq]
  obtain ⟨hd, e0, e2, e8, e9, e12⟩ := hf
  have hle := hi.le
  obtain ⟨k, hk⟩ : ∃ k, k = (r.feed ((b.drop at_).take n)).1 := ⟨_, rfl⟩
  obtain ⟨r1, hr1⟩ : ∃ r1, r1 = (r.feed ((b.drop at_).take n)).2 := ⟨_, rfl⟩
  obtain ⟨q1, q2, q3⟩ := hi.feed hn (by omega)
  rw [← hk, ← hr1] at q2 q3
  rw [← hk] at q1
  have hsub := hb.trans (RdB.sub (lo := at_) (k := n) (by omega))
  have hm1 : ((at_ : Int) + (n : Int)).toNat - at_ = n := by omega
  have hcl : ((b.drop at_).take n).length = n := by simp; omega
  simp -dsimp -implicitDefEqProofs (disch := omega) only [go_sem, reqD_of, dec_t, dec_f, wrap_i64, wrap_u32, wrap_u64, wrap_u8, hd, e0, e2, e8, e9, e10, e11, e12, e13, e14]
  rw [hm1]
  refine (feedR (bs := (b.drop at_).take n) h ((Ent.right _ _).trans hsub) hi.ok (by omega)).mono ?_
  rintro e' w1 ⟨h1, rfl⟩
  rw [← hk]
  rw [← hr1] at h1
  have hat : (at_ : Int) + (k : Int) = ((at_ + k : Nat) : Int) := by omega
  by_cases hlk : late = true ∧ (0 : Int) < (k : Int)
  · obtain ⟨rfl, hk0⟩ := hlk
    simp -dsimp -implicitDefEqProofs (disch := omega) only [go_sem, reqD_of, dec_t, dec_f, wrap_i64, wrap_u32, wrap_u64, wrap_u8, hd, e0, e2, e8, e9, e10, e11, e12, e13, e14, hat, hk0]
    exact (hnext _ _ got r1 (at_ + k) vg ⟨by simp -dsimp -implicitDefEqProofs only [go_sem, hd], by simp -dsimp -implicitDefEqProofs only [go_sem, e0], by simp -dsimp -implicitDefEqProofs only [go_sem, e2], by simp -dsimp -implicitDefEqProofs only [go_sem, e8], by simp -dsimp -implicitDefEqProofs only [go_sem, e9], by simp -dsimp -implicitDefEqProofs only [go_sem, e12]⟩ (by simp -dsimp -implicitDefEqProofs only [go_sem, e10]) (by simp -dsimp -implicitDefEqProofs only [go_sem]) h1 q2 (by omega) (Nat.le_refl _) (fun _ => .inl (by omega))).2
  -- the next frame is asked for
  have go : ∀ (e : FA), ChF e pb b.length cb pc nc cc c fv i → e.ρ 10 = vg → e.ρ 11 = .int .i64 (at_ + k : Nat) → e.ρ 13 = .int .i64 n → e.ρ 15 = .int .i64 k →
      cwE Try.prog F8.t24 Q e w1 := by
    clear hd e0 e2 e8 e9 e10 e11 e12 e13 e14
    intro e hf e10 e11 e13 e15
    obtain ⟨hd, e0, e2, e8, e9, e12⟩ := hf
    rw [F8.t24_eq]
    by_cases hw : r1.whole = true
    · simp -dsimp -implicitDefEqProofs (disch := omega) only [go_sem, reqD_of, dec_t, dec_f, wrap_i64, wrap_u32, wrap_u64, wrap_u8, hd, e0, e2, e8, e9, e10, e11, e12, e13, e15]
      refine (nextR_yes h1 q2.ok hw).mono ?_
      rintro e' w2 ⟨v2, h2, rfl⟩
      have hgl : got.length < 1000000000000 := by
        have := frames_count got hi.frames
        have := hi.len
        omega
      obtain ⟨a2, c2, rfl, _⟩ := Row.form (h2.sw2)
      simp -dsimp -implicitDefEqProofs (disch := omega) only [go_sem, reqD_of, dec_t, dec_f, wrap_i64, wrap_u32, wrap_u64, wrap_u8, hd, e0, e2, e8, e9, e10, e11, e12, e13, e15]
      refine h2.buildSlice (s := 1) fact_rowTy_34 (cells := [.slice a2 r1.hand.length c2]) rfl (by decide) (by decide) fun v3 w3 h3 => ?_
      simp -dsimp -implicitDefEqProofs (disch := omega) only [go_sem, reqD_of, dec_t, dec_f, wrap_i64, wrap_u32, wrap_u64, wrap_u8, hd, e0, e2, e8, e9, e10, e11, e12, e13, e15]
      refine ListP.append (u := .slice a2 r1.hand.length c2) (v3 := v3) (f := r1.hand) (fs := got) (F := CutR c r1.next * M) (h3.ac (by ac_rfl)) rfl hgl fun a4 c4 w4 h4 => ?_
      simp -dsimp -implicitDefEqProofs (disch := omega) only [go_sem, reqD_of, dec_t, dec_f, wrap_i64, wrap_u32, wrap_u64, wrap_u8, hd, e0, e2, e8, e9, e10, e11, e12, e13, e15]
      exact (hnext _ _ (got ++ [r1.hand]) r1.next (at_ + k) (.slice a4 (got.length + 1) c4) ⟨by simp -dsimp -implicitDefEqProofs only [go_sem, hd], by simp -dsimp -implicitDefEqProofs only [go_sem, e0], by simp -dsimp -implicitDefEqProofs only [go_sem, e2], by simp -dsimp -implicitDefEqProofs only [go_sem, e8], by simp -dsimp -implicitDefEqProofs only [go_sem, e9], by simp -dsimp -implicitDefEqProofs only [go_sem, e12]⟩ (by simp -dsimp -implicitDefEqProofs only [go_sem]) (by simp -dsimp -implicitDefEqProofs only [go_sem, e11]) (h4.ac (by ac_rfl)) (q2.next hw) (by omega) (by simp) (fun _ => .inr (by simp))).1
    · have hw : r1.whole = false := by simpa using hw
      simp -dsimp -implicitDefEqProofs (disch := omega) only [go_sem, reqD_of, dec_t, dec_f, wrap_i64, wrap_u32, wrap_u64, wrap_u8, hd, e0, e2, e8, e9, e10, e11, e12, e13, e15]
      refine (nextR_no h1 q2.ok hw).mono ?_
      rintro e' w2 ⟨h2, rfl⟩
      by_cases hkn : (k : Int) < (n : Int)
      · simp -dsimp -implicitDefEqProofs (disch := omega) only [go_sem, reqD_of, dec_t, dec_f, wrap_i64, wrap_u32, wrap_u64, wrap_u8, hd, e0, e2, e8, e9, e10, e11, e12, e13, e15, hkn]
        exact hbreak _ _ r1 (at_ + k) ⟨by simp -dsimp -implicitDefEqProofs only [go_sem, hd], by simp -dsimp -implicitDefEqProofs only [go_sem, e0], by simp -dsimp -implicitDefEqProofs only [go_sem, e2], by simp -dsimp -implicitDefEqProofs only [go_sem, e8], by simp -dsimp -implicitDefEqProofs only [go_sem, e9], by simp -dsimp -implicitDefEqProofs only [go_sem, e12]⟩ (by simp -dsimp -implicitDefEqProofs only [go_sem, e10]) (by simp -dsimp -implicitDefEqProofs only [go_sem, e11]) h2 q2 (q3 (by omega) hw)
      · simp -dsimp -implicitDefEqProofs (disch := omega) only [go_sem, reqD_of, dec_t, dec_f, wrap_i64, wrap_u32, wrap_u64, wrap_u8, hd, e0, e2, e8, e9, e10, e11, e12, e13, e15, hkn]
        exact (hnext _ _ got r1 (at_ + k) vg ⟨by simp -dsimp -implicitDefEqProofs only [go_sem, hd], by simp -dsimp -implicitDefEqProofs only [go_sem, e0], by simp -dsimp -implicitDefEqProofs only [go_sem, e2], by simp -dsimp -implicitDefEqProofs only [go_sem, e8], by simp -dsimp -implicitDefEqProofs only [go_sem, e9], by simp -dsimp -implicitDefEqProofs only [go_sem, e12]⟩ (by simp -dsimp -implicitDefEqProofs only [go_sem, e10]) (by simp -dsimp -implicitDefEqProofs only [go_sem, e11]) h2 q2 (by omega) (Nat.le_refl _) (fun _ => .inl (by omega))).1
  cases late with
  | false =>
    simp -dsimp -implicitDefEqProofs (disch := omega) only [go_sem, reqD_of, dec_t, dec_f, wrap_i64, wrap_u32, wrap_u64, wrap_u8, hd, e0, e2, e8, e9, e10, e11, e12, e13, e14, hat]
    exact go _ ⟨by simp -dsimp -implicitDefEqProofs only [go_sem, hd], by simp -dsimp -implicitDefEqProofs only [go_sem, e0], by simp -dsimp -implicitDefEqProofs only [go_sem, e2], by simp -dsimp -implicitDefEqProofs only [go_sem, e8], by simp -dsimp -implicitDefEqProofs only [go_sem, e9], by simp -dsimp -implicitDefEqProofs only [go_sem, e12]⟩ (by simp -dsimp -implicitDefEqProofs only [go_sem, e10]) (by simp -dsimp -implicitDefEqProofs only [go_sem]) (by simp -dsimp -implicitDefEqProofs only [go_sem, e13]) (by simp -dsimp -implicitDefEqProofs only [go_sem])
  | true =>
    have hk0 : ¬ (0 : Int) < (k : Int) := fun h => hlk ⟨rfl, h⟩
    simp -dsimp -implicitDefEqProofs (disch := omega) only [go_sem, reqD_of, dec_t, dec_f, wrap_i64, wrap_u32, wrap_u64, wrap_u8, hd, e0, e2, e8, e9, e10, e11, e12, e13, e14, hat, hk0]
    exact go _ ⟨by simp -dsimp -implicitDefEqProofs only [go_sem, hd], by simp -dsimp -implicitDefEqProofs only [go_sem, e0], by simp -dsimp -implicitDefEqProofs only [go_sem, e2], by simp -dsimp -implicitDefEqProofs only [go_sem, e8], by simp -dsimp -implicitDefEqProofs only [go_sem, e9], by simp -dsimp -implicitDefEqProofs only [go_sem, e12]⟩ (by simp -dsimp -implicitDefEqProofs only [go_sem, e10]) (by simp -dsimp -implicitDefEqProofs only [go_sem]) (by simp -dsimp -implicitDefEqProofs only [go_sem, e13]) (by simp -dsimp -implicitDefEqProofs only [go_sem])

end
end Go.Proofs.Ytfamclpajjnfbaa
