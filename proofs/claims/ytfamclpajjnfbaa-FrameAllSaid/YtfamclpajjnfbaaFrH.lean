/- The walk of FrameStays. -/
import Derived.Test.YtfamclpajjnfbaaFrG
namespace Go.Proofs.Ytfamclpajjnfbaa
open Go
set_option linter.unusedSimpArgs false
set_option linter.unusedVariables false
set_option maxRecDepth 100000

def deathC (l : Nat) (va : Value) (sz : Nat) (vs : Value) : Array Value := #[.int .u32 l, va, .int .u32 sz, vs]

abbrev StaysP (w0 : World) (B c : Nat) (m : Cut) (lim : Nat) (va : Value) (sz : Nat) (vs : Value) : HP := CutP c m * (Old w0 * (Blk B (.cells (deathC lim va sz vs) 45 (0, 0)) * Emp))

theorem StaysP.cells {w0 w : World} {B c lim sz : Nat} {m : Cut} {va vs : Value} (h : St w0 (StaysP w0 B c m lim va sz vs) w) (i : Nat) : w.cell? ⟨B, i, none⟩ = (deathC lim va sz vs)[i]? := (h.sw3).cells i

section
attribute [local go_sem] F5.t19_eq F5.t13_eq F5.t14_eq F5.t27_eq F5.t28_eq F5.t33_eq F5.t25_eq F5.t22_eq F5.t20_eq F5.t10_eq F5.t3_eq
theorem stays_end {w0 w : World} {B c lim sz n : Nat} {m : Cut} {va vs : Value} {e : FA} {pa : Option Addr} {ca la : Nat} (h : St w0 (StaysP w0 B c m lim va sz vs) w) (hm : m.died n la)
    (hd : e.ds = []) (e1 : e.ρ 1 = .pointer (some ⟨B, 0, none⟩)) (e5 : e.ρ 5 = .slice pa la ca) (e7 : e.ρ 7 = .pointer (some ⟨c, 0, none⟩)) (e8 : e.ρ 8 = .int .i64 n) :
    cwE Try.prog F5.t33 (fnP Try.prog #[.tmp 2] fun e w' => St w0 (Old w0) w' ∧ e = .returned (.bool true)) e w := by
  rw [F5.t33_eq]
  have hb : m.body.length = 0 := by rw [hm.body]; rfl
  simp -dsimp -implicitDefEqProofs (disch := omega) only [go_sem, reqD_of, dec_t, dec_f, wrap_i64, wrap_u32, wrap_u64, wrap_u8, hd, e1, e5, e7, e8]
  refine (dead_any h).mono ?_
  rintro e' w1 ⟨h1, rfl⟩
  simp -dsimp -implicitDefEqProofs (disch := omega) only [go_sem, reqD_of, dec_t, dec_f, wrap_i64, wrap_u32, wrap_u64, wrap_u8, hd, e1, e5, e7, e8, hm.dead, hm.ahead]
  refine (whole_any h1 (by omega)).mono ?_
  rintro e' w2 ⟨h2, rfl⟩
  simp -dsimp -implicitDefEqProofs (disch := omega) only [go_sem, reqD_of, dec_t, dec_f, wrap_i64, wrap_u32, wrap_u64, wrap_u8, hd, e1, e5, e7, e8, hm.whole]
  refine (want_any h2 (by omega)).mono ?_
  rintro e' w3 ⟨h3, rfl⟩
  simp -dsimp -implicitDefEqProofs (disch := omega) only [go_sem, reqD_of, dec_t, dec_f, wrap_i64, wrap_u32, wrap_u64, wrap_u8, hd, e1, e5, e7, e8, hm.dead]
  refine (taken_any h3).mono ?_
  rintro e' w4 ⟨h4, rfl⟩
  simp -dsimp -implicitDefEqProofs (disch := omega) only [go_sem, reqD_of, dec_t, dec_f, wrap_i64, wrap_u32, wrap_u64, wrap_u8, hd, e1, e5, e7, e8, hm.taken]
  exact h4.right.left

end
section
attribute [local go_sem] F5.t19_eq F5.t13_eq F5.t14_eq F5.t27_eq F5.t28_eq F5.t25_eq F5.t22_eq F5.t20_eq F5.t10_eq F5.t3_eq
theorem stays_loop {w0 w : World} {B c lim sz n : Nat} {m : Cut} {va : Value} {e : FA} {pa ps : Option Addr} {ca la cs : Nat} {script : List (Int × Int × List UInt8 × Int × Unit)} (hs : Ent (Old w0) (rOps.at script [.slice ps script.length cs])) (hlb : script.length * 48 ≤ 140737488351232)
    (hbs : ∀ o ∈ script, o.2.2.1.length ≤ 33554432) (h : St w0 (StaysP w0 B c m lim va sz (.slice ps script.length cs)) w) (hm : m.died n la)
    (hd : e.ds = []) (e1 : e.ρ 1 = .pointer (some ⟨B, 0, none⟩)) (e5 : e.ρ 5 = .slice pa la ca) (e7 : e.ρ 7 = .pointer (some ⟨c, 0, none⟩)) (e8 : e.ρ 8 = .int .i64 n) :
    cwE Try.prog F5.t25 (fnP Try.prog #[.tmp 2] fun e w' => St w0 (Old w0) w' ∧ e = .returned (.bool true)) e w := by
  rw [F5.t25_eq]
  simp -dsimp -implicitDefEqProofs (disch := omega) only [go_sem, reqD_of, dec_t, dec_f, wrap_i64, wrap_u32, wrap_u64, wrap_u8, hd, e1, e5, e7, e8]
  refine loop_intro (fun e w' => e.ds = [] ∧ e.ρ 1 = .pointer (some ⟨B, 0, none⟩) ∧ e.ρ 5 = .slice pa la ca ∧ e.ρ 7 = .pointer (some ⟨c, 0, none⟩) ∧ e.ρ 8 = .int .i64 n ∧
      ∃ (i : Nat) (m : Cut), i ≤ script.length ∧ e.ρ 15 = .int .i64 i ∧ St w0 (StaysP w0 B c m lim va sz (.slice ps script.length cs)) w' ∧ m.died n la)
    (fun e _ => match e.ρ 15 with | .int _ k => (script.length - k).toNat | _ => 0) ?_ ?_
  · exact ⟨by simp -dsimp -implicitDefEqProofs only [go_sem, hd], by simp -dsimp -implicitDefEqProofs only [go_sem, e1], by simp -dsimp -implicitDefEqProofs only [go_sem, e5], by simp -dsimp -implicitDefEqProofs only [go_sem, e7], by simp -dsimp -implicitDefEqProofs only [go_sem, e8], 0, m, by omega, by simp -dsimp -implicitDefEqProofs only [go_sem], h, hm⟩
  clear h hm hd e1 e5 e7 e8 m e w
  rintro e w ⟨hd, e1, e5, e7, e8, i, m, hi, e15, h, hm⟩
  have hc := StaysP.cells h
  unfold deathC at hc
  by_cases hlt : (i : Int) < script.length
  case neg =>
    simp -dsimp -implicitDefEqProofs (disch := omega) only [go_sem, reqD_of, dec_t, dec_f, wrap_i64, wrap_u32, wrap_u64, wrap_u8, hd, e1, e5, e7, e8, e15, hc, hlt]
    exact stays_end (pa := pa) (ca := ca) h hm (by simp -dsimp -implicitDefEqProofs only [go_sem, hd]) (by simp -dsimp -implicitDefEqProofs only [go_sem, e1]) (by simp -dsimp -implicitDefEqProofs only [go_sem, e5]) (by simp -dsimp -implicitDefEqProofs only [go_sem, e7]) (by simp -dsimp -implicitDefEqProofs only [go_sem, e8])
  have hil : i < script.length := by omega
  obtain ⟨g, o, a', cap', rfl, hrb, hbl, ⟨hn1, hn2⟩, hcell⟩ := opElem hs hil
  obtain ⟨N, hN⟩ := Int.eq_ofNat_of_zero_le hn1
  have hb1 := hbs _ (List.getElem_mem hil)
  obtain ⟨_, _, _, k3⟩ := hcell _ w h.sw2
  rw [hN] at k3
  have hb : m.body.length = 0 := by rw [hm.body]; rfl
  simp -dsimp -implicitDefEqProofs (disch := omega) only [go_sem, reqD_of, dec_t, dec_f, wrap_i64, wrap_u32, wrap_u64, wrap_u8, hd, e1, e5, e7, e8, e15, hc, hlt, k3]
  refine (setLimit_any h N).mono ?_
  rintro e' w1 hx
  have hx : ∃ m1, St w0 (StaysP w0 B c m1 lim va sz (.slice (some ⟨g, o, none⟩) script.length cs)) w1 ∧ m1.died n la ∧ ∃ v, e' = .returned v := by
    rcases hx with ⟨_, hx, rfl⟩ | ⟨_, hx, rfl⟩
    · exact ⟨m, hx, hm, _, rfl⟩
    · exact ⟨_, hx, ⟨hm.heads, hm.body, hm.dead, hm.ahead, hm.taken, hm.ever, hm.cnt⟩, _, rfl⟩
  obtain ⟨m1, h1, hm1, v, rfl⟩ := hx
  have hb1' : m1.body.length = 0 := by rw [hm1.body]; rfl
  simp -dsimp -implicitDefEqProofs (disch := omega) only [go_sem, reqD_of, dec_t, dec_f, wrap_i64, wrap_u32, wrap_u64, wrap_u8, hd, e1, e5, e7, e8, e15]
  refine (next_no h1 (by omega) hm1.whole).mono ?_
  rintro e' w2 ⟨h2, rfl⟩
  simp -dsimp -implicitDefEqProofs (disch := omega) only [go_sem, reqD_of, dec_t, dec_f, wrap_i64, wrap_u32, wrap_u64, wrap_u8, hd, e1, e5, e7, e8, e15]
  refine (dead_any h2).mono ?_
  rintro e' w3 ⟨h3, rfl⟩
  have hc3 := StaysP.cells h3
  unfold deathC at hc3
  obtain ⟨_, _, k2, _⟩ := hcell _ w3 h3.sw2
  simp -dsimp -implicitDefEqProofs (disch := omega) only [go_sem, reqD_of, dec_t, dec_f, wrap_i64, wrap_u32, wrap_u64, wrap_u8, hd, e1, e5, e7, e8, e15, hc3, k2, hm1.dead, hm1.ahead]
  refine (feed_any h3 ((Ent.left _ _).trans hrb) hm1.ok (by omega) (by omega)).mono ?_
  rintro e' w4 ⟨h4, rfl⟩
  rw [feed_dead hm1.heads hm1.dead] at h4 ⊢
  simp -dsimp -implicitDefEqProofs (disch := omega) only [go_sem, reqD_of, dec_t, dec_f, wrap_i64, wrap_u32, wrap_u64, wrap_u8, hd, e1, e5, e7, e8, e15]
  exact ⟨⟨i + 1, m1, by omega, by omega, h4, hm1⟩, by omega⟩

end
section
attribute [local go_sem] F5.t19_eq F5.t13_eq F5.t14_eq F5.t27_eq F5.t28_eq F5.t33_eq F5.t20_eq F5.t10_eq F5.t3_eq
theorem stays_bad {w0 w : World} {B c lim sz n L : Nat} {m : Cut} {va : Value} {e : FA} {pa ps : Option Addr} {ca la cs : Nat} {script : List (Int × Int × List UInt8 × Int × Unit)} (hs : Ent (Old w0) (rOps.at script [.slice ps script.length cs])) (hlb : script.length * 48 ≤ 140737488351232)
    (hbs : ∀ o ∈ script, o.2.2.1.length ≤ 33554432) (h : St w0 (StaysP w0 B c m lim va sz (.slice ps script.length cs)) w) (hm : m.idle L) (hL7 : 7 ≤ L) (hL : L ≤ 65536) (hev : m.ever = n) (hn : n ≤ 33554432) (htk : m.taken = la) (hsz : sz < 4294967296)
    (hd : e.ds = []) (e1 : e.ρ 1 = .pointer (some ⟨B, 0, none⟩)) (e4 : e.ρ 4 = .int .i64 L) (e5 : e.ρ 5 = .slice pa la ca) (e6 : e.ρ 6 = .int .u32 sz) (e7 : e.ρ 7 = .pointer (some ⟨c, 0, none⟩)) (e8 : e.ρ 8 = .int .i64 n) :
    cwE Try.prog F5.t20 (fnP Try.prog #[.tmp 2] fun e w' => St w0 (Old w0) w' ∧ e = .returned (.bool true)) e w := by
  have fin : ∀ (e : FA) (s : Nat), s < 4294967296 → (s < 7 ∨ L < s) → e.ds = [] → e.ρ 1 = .pointer (some ⟨B, 0, none⟩) → e.ρ 5 = .slice pa la ca → e.ρ 6 = .int .u32 s → e.ρ 7 = .pointer (some ⟨c, 0, none⟩) → e.ρ 8 = .int .i64 n →
      cwE Try.prog F5.t22 (fnP Try.prog #[.tmp 2] fun e w' => St w0 (Old w0) w' ∧ e = .returned (.bool true)) e w := by
    intro e s hs4 hbad hd e1 e5 e6 e7 e8
    rw [F5.t22_eq]
    simp -dsimp -implicitDefEqProofs (disch := omega) only [go_sem, reqD_of, dec_t, dec_f, wrap_i64, wrap_u32, wrap_u64, wrap_u8, hd, e1, e5, e6, e7, e8, tdiv256, tdiv65536, tdiv16777216, u8wrap]
    have h24 : ((s / 16777216 : Nat) : Int) = ((UInt8.ofNat (s / 16777216)).toNat : Int) := by simp; omega
    rw [h24]
    refine h.buildSlice (s := 1) fact_rowTy_35 (cells := [UInt8.ofNat s, UInt8.ofNat (s / 256), UInt8.ofNat (s / 65536), UInt8.ofNat (s / 16777216), 1, 2, 3].map bv) rfl (by decide) (by decide) fun v1 w1 h1 => ?_
    simp -dsimp -implicitDefEqProofs (disch := omega) only [go_sem, reqD_of, dec_t, dec_f, wrap_i64, wrap_u32, wrap_u64, wrap_u8, hd, e1, e5, e6, e7, e8]
    refine (feed_any h1.sw2 (Row.rdB (bs := [UInt8.ofNat s, UInt8.ofNat (s / 256), UInt8.ofNat (s / 65536), UInt8.ofNat (s / 16777216), 1, 2, 3]) rfl) (hm.ok (by omega)) (by rw [hm.body]; decide) (by simp)).mono ?_
    rintro e' w2 ⟨h2, rfl⟩
    rw [feed_bad (x0 := UInt8.ofNat s) (x1 := UInt8.ofNat (s / 256)) (x2 := UInt8.ofNat (s / 65536)) (x3 := UInt8.ofNat (s / 16777216)) (b := [1, 2, 3]) hm.heads hm.body hm.dead (by rw [size_parts hs4, hm.limit]; exact hbad)] at h2 ⊢
    simp -dsimp -implicitDefEqProofs (disch := omega) only [go_sem, reqD_of, dec_t, dec_f, wrap_i64, wrap_u32, wrap_u64, wrap_u8, hd, e1, e5, e6, e7, e8]
    exact stays_loop (pa := pa) (ca := ca) (n := n) (la := la) hs hlb hbs (h2.drop2) ⟨rfl, hm.body, rfl, hev, htk, by simp only; omega, by simp only; omega⟩ (by simp -dsimp -implicitDefEqProofs only [go_sem, hd]) (by simp -dsimp -implicitDefEqProofs only [go_sem, e1]) (by simp -dsimp -implicitDefEqProofs only [go_sem, e5]) (by simp -dsimp -implicitDefEqProofs only [go_sem, e7]) (by simp -dsimp -implicitDefEqProofs only [go_sem, e8])
  by_cases h7 : (7 : Int) ≤ (sz : Int)
  · by_cases hLs : (sz : Int) ≤ L
    · rw [F5.t20_eq]
      simp -dsimp -implicitDefEqProofs (disch := omega) only [go_sem, reqD_of, dec_t, dec_f, wrap_i64, wrap_u32, wrap_u64, wrap_u8, hd, e1, e4, e5, e6, e7, e8, h7, hLs, tmod7]
      exact fin _ (sz % 7) (by omega) (by omega) (by simp -dsimp -implicitDefEqProofs only [go_sem, hd]) (by simp -dsimp -implicitDefEqProofs only [go_sem, e1]) (by simp -dsimp -implicitDefEqProofs only [go_sem, e5]) (by simp -dsimp -implicitDefEqProofs only [go_sem]) (by simp -dsimp -implicitDefEqProofs only [go_sem, e7]) (by simp -dsimp -implicitDefEqProofs only [go_sem, e8])
    · rw [F5.t20_eq]
      simp -dsimp -implicitDefEqProofs (disch := omega) only [go_sem, reqD_of, dec_t, dec_f, wrap_i64, wrap_u32, wrap_u64, wrap_u8, hd, e1, e4, e5, e6, e7, e8, h7, hLs]
      exact fin _ sz (by omega) (by omega) (by simp -dsimp -implicitDefEqProofs only [go_sem, hd]) (by simp -dsimp -implicitDefEqProofs only [go_sem, e1]) (by simp -dsimp -implicitDefEqProofs only [go_sem, e5]) (by simp -dsimp -implicitDefEqProofs only [go_sem, e6]) (by simp -dsimp -implicitDefEqProofs only [go_sem, e7]) (by simp -dsimp -implicitDefEqProofs only [go_sem, e8])
  · rw [F5.t20_eq]
    simp -dsimp -implicitDefEqProofs (disch := omega) only [go_sem, reqD_of, dec_t, dec_f, wrap_i64, wrap_u32, wrap_u64, wrap_u8, hd, e1, e4, e5, e6, e7, e8, h7]
    exact fin _ sz (by omega) (by omega) (by simp -dsimp -implicitDefEqProofs only [go_sem, hd]) (by simp -dsimp -implicitDefEqProofs only [go_sem, e1]) (by simp -dsimp -implicitDefEqProofs only [go_sem, e5]) (by simp -dsimp -implicitDefEqProofs only [go_sem, e6]) (by simp -dsimp -implicitDefEqProofs only [go_sem, e7]) (by simp -dsimp -implicitDefEqProofs only [go_sem, e8])

end
section
attribute [local go_sem] F5.t19_eq F5.t13_eq F5.t14_eq F5.t27_eq F5.t28_eq F5.t33_eq F5.t25_eq F5.t22_eq F5.t10_eq F5.t3_eq
theorem stays_any {w0 w : World} (h : St w0 (Old w0) w) {lim sz : Nat} {va vs : Value} {ahead : List (List UInt8)} {script : List (Int × Int × List UInt8 × Int × Unit)} (hlim : lim < 4294967296) (hsz : sz < 4294967296)
    (ha : Ent (Old w0) (rFrames.at ahead [va])) (hs : Ent (Old w0) (rOps.at script [vs])) :
    Calls Try.prog 5 #[.agg (deathC lim va sz vs)] w fun e w' => St w0 (Old w0) w' ∧ e = .returned (.bool true) := by
  obtain ⟨pa, ca, rfl, hlc, hcm, hlb⟩ := Rdr.slice ((St.start w0).reader ha)
  have hlb : ahead.length * 24 ≤ 140737488351232 := hlb
  obtain ⟨ps, cs, rfl, hlc', hcm', hlb'⟩ := Rdr.slice ((St.start w0).reader hs)
  have hlb' : script.length * 48 ≤ 140737488351232 := hlb'
  refine F5.calls (by simp) ?_
  unfold F5.code
  unfold deathC
  simp -dsimp -implicitDefEqProofs (disch := omega) only [go_sem, reqD_of, dec_t, dec_f, wrap_i64, wrap_u32, wrap_u64, wrap_u8]
  refine (h.ent (Ent.emp _)).new fun B w1 h1 => ?_
  have h2 := h1.sw2.drew
  have hc := h2.sw2.cells
  simp -dsimp -implicitDefEqProofs (disch := omega) only [go_sem, reqD_of, dec_t, dec_f, wrap_i64, wrap_u32, wrap_u64, wrap_u8, hc]
  refine (many_any h2 ha).mono ?_
  rintro e w2 ⟨h3, k1, rfl, hk1, ht1⟩
  have hc3 := h3.sw2.cells
  simp -dsimp -implicitDefEqProofs (disch := omega) only [go_sem, reqD_of, dec_t, dec_f, wrap_i64, wrap_u32, wrap_u64, wrap_u8, hc3]
  refine (much_any h3 hs).mono ?_
  rintro e w3 ⟨h4, k2, rfl, hk2, ht2⟩
  have hc4 := h4.sw2.cells
  by_cases hbig : (33554432 : Int) < (k1 : Int) + k2
  · simp -dsimp -implicitDefEqProofs (disch := omega) only [go_sem, reqD_of, dec_t, dec_f, wrap_i64, wrap_u32, wrap_u64, wrap_u8, hc4, hbig]
    exact h4.left
  have ht1 := ht1 (by omega)
  have ht2 := ht2 (by omega)
  simp -dsimp -implicitDefEqProofs (disch := omega) only [go_sem, reqD_of, dec_t, dec_f, wrap_i64, wrap_u32, wrap_u64, wrap_u8, hc4, hbig]
  refine (known_any h4).mono ?_
  rintro e w4 ⟨h5, rfl⟩
  have hc5 := h5.sw2.cells
  obtain ⟨L, hL⟩ : ∃ L, L = 7 + lim % 65530 := ⟨_, rfl⟩
  have hLi : (7 : Int) + ((lim % 65530 : Nat) : Int) = (L : Int) := by omega
  simp -dsimp -implicitDefEqProofs (disch := omega) only [go_sem, reqD_of, dec_t, dec_f, wrap_i64, wrap_u32, wrap_u64, wrap_u8, hc5, tmod65530, hLi]
  refine (new_yes h5 (n := L) (by simp [okLimit]; omega)).mono ?_
  rintro e w5 ⟨c, h6, rfl⟩
  have hto : total costB ahead ≤ 33554432 := by omega
  have hso : total costO script ≤ 33554432 := by omega
  simp -dsimp -implicitDefEqProofs (disch := omega) only [go_sem, reqD_of, dec_t, dec_f, wrap_i64, wrap_u32, wrap_u64, wrap_u8, hc5]
  refine loop_intro (fun e w' => e.ds = [] ∧ e.ρ 1 = .pointer (some ⟨B, 0, none⟩) ∧ e.ρ 4 = .int .i64 L ∧ e.ρ 5 = .slice pa ahead.length ca ∧ e.ρ 6 = .int .u32 sz ∧ e.ρ 7 = .pointer (some ⟨c, 0, none⟩) ∧
      ∃ (i : Nat) (m : Cut), i ≤ ahead.length ∧ e.ρ 9 = .int .i64 i ∧ e.ρ 8 = .int .i64 m.ever ∧ St w0 (StaysP w0 B c m lim (.slice pa ahead.length ca) sz (.slice ps script.length cs)) w' ∧ m.idle L ∧ m.taken = i ∧ m.ever = total (lenF L) (ahead.take i))
    (fun e _ => match e.ρ 9 with | .int _ k => (ahead.length - k).toNat | _ => 0) ?_ ?_
  · exact ⟨rfl, rfl, rfl, rfl, rfl, rfl, 0, Cut.new L, by omega, rfl, rfl, h6, ⟨rfl, rfl, rfl, rfl⟩, rfl, rfl⟩
  rintro e w ⟨hd, e1, e4, e5, e6, e7, i, m, hi, e9, e8, h, hm, htk, hev⟩
  have hle : m.ever ≤ 33554432 := by
    have q1 := total_take_le (lenF L) ahead i
    have q2 := total_mono (lenF_le L) ahead
    omega
  by_cases hlt : (i : Int) < ahead.length
  case neg =>
    simp -dsimp -implicitDefEqProofs (disch := omega) only [go_sem, reqD_of, dec_t, dec_f, wrap_i64, wrap_u32, wrap_u64, wrap_u8, hd, e1, e4, e5, e6, e7, e8, e9, hlt]
    have : i = ahead.length := by omega
    subst this
    refine stays_bad (pa := pa) (ca := ca) (n := m.ever) (la := ahead.length) (L := L) (sz := sz) (lim := lim) hs hlb' (fun o ho => ?_) h hm (by omega) (by omega) rfl hle htk hsz (by simp -dsimp -implicitDefEqProofs only [go_sem, hd]) (by simp -dsimp -implicitDefEqProofs only [go_sem, e1]) (by simp -dsimp -implicitDefEqProofs only [go_sem, e4]) (by simp -dsimp -implicitDefEqProofs only [go_sem, e5]) (by simp -dsimp -implicitDefEqProofs only [go_sem, e6]) (by simp -dsimp -implicitDefEqProofs only [go_sem, e7]) (by simp -dsimp -implicitDefEqProofs only [go_sem, e8])
    obtain ⟨j, hj, rfl⟩ := List.getElem_of_mem ho
    have := total_mem costO script j hj
    simp only [costO] at this
    omega
  have hil : i < ahead.length := by omega
  obtain ⟨g, o, a', cap', rfl, hrb, hbl, hcell⟩ := bytesElem ha hil
  have k0 := hcell _ w h.sw2
  have hb0 : m.body.length = 0 := by rw [hm.body]; rfl
  simp -dsimp -implicitDefEqProofs (disch := omega) only [go_sem, reqD_of, dec_t, dec_f, wrap_i64, wrap_u32, wrap_u64, wrap_u8, hd, e1, e4, e5, e6, e7, e8, e9, hlt, k0]
  refine (made_any h ((Ent.right _ _).trans ((Ent.left _ _).trans hrb)) (by omega) (by omega) (by omega)).mono ?_
  rintro e' w1 ⟨v1, h1, rfl⟩
  obtain ⟨a1, c1, rfl, _⟩ := Row.form h1
  simp -dsimp -implicitDefEqProofs (disch := omega) only [go_sem, reqD_of, dec_t, dec_f, wrap_i64, wrap_u32, wrap_u64, wrap_u8, hd, e1, e4, e5, e6, e7, e8, e9]
  obtain ⟨m1, hf, hw1, hb1, ht1, hfr, hid, hev1, htk1⟩ := hm.frame (by omega) (by omega) ahead[i]
  have hfl : (mkFrame ahead[i] L).length ≤ 33554432 := by
    have := total_mem costB ahead i hil
    have := lenF_le L ahead[i]
    unfold lenF at this
    omega
  refine (feed_any h1.sw2 (Row.rdB rfl) (hm.ok (by omega)) (by omega) (by omega)).mono ?_
  rintro e' w2 ⟨h2, rfl⟩
  rw [hf] at h2 ⊢
  have h2 := h2.drop2
  simp -dsimp -implicitDefEqProofs (disch := omega) only [go_sem, reqD_of, dec_t, dec_f, wrap_i64, wrap_u32, wrap_u64, wrap_u8, hd, e1, e4, e5, e6, e7, e8, e9]
  refine (next_yes (m := m1) h2 (by omega) (by omega) hw1).mono ?_
  rintro e' w3 ⟨v3, h3, rfl⟩
  have h3 := h3.drop2
  have hn8 : (m.ever : Int) + ((mkFrame ahead[i] L).length : Int) = (m1.next.ever : Int) := by omega
  simp -dsimp -implicitDefEqProofs (disch := omega) only [go_sem, reqD_of, dec_t, dec_f, wrap_i64, wrap_u32, wrap_u64, wrap_u8, hd, e1, e4, e5, e6, e7, e8, e9, hn8]
  refine ⟨⟨i + 1, m1.next, by omega, by omega, rfl, h3, hid, by omega, ?_⟩, by omega⟩
  rw [hev1, hev, total_take _ _ hil]
  rfl

end
end Go.Proofs.Ytfamclpajjnfbaa
