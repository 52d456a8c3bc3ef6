/- TagsReset. -/
import Derived.Test.YteefkhfmpcaccaaTgK
namespace Go.Proofs.Yteefkhfmpcaccaa
open Go
set_option linter.unusedSimpArgs false
set_option linter.unusedVariables false
set_option maxRecDepth 100000

/-- The things that are neither flushes nor decided nor cancelled: their numbers. -/
def openL (l : List Thing) : List Int := ((List.range l.length).filter fun k => match l[k]? with | some X => !X.fl && !X.dc && !X.cn | none => false).map fun k : Nat => (k : Int) + 1

theorem RunP.openIds {t : TbD} {l : List Thing} {h : List Int} {sd : Int} {n : Nat} {f : Nat → Ab} {B' : List Nat} {ks : List Int} (r : RunP t l h sd n f B') (hp : ks.Perm (t.ids.map (·.1))) (hs : ks.Pairwise (· ≤ ·)) : ks.filter (opB t) = openL l := by
  have hk := r.rl.keys hp hs
  rw [hk, List.filter_map, List.filter_filter]
  unfold openL
  rw [r.lr.len, List.range_eq_range']
  congr 1
  refine List.filter_congr fun k hk => ?_
  rw [List.mem_range'_1] at hk
  have hkn : k < n := by omega
  rw [r.lr.at_ k hkn]
  simp only [Function.comp]
  by_cases hi : (f k).ph.inT = true
  · obtain ⟨o, ho, hok⟩ := r.rl.ido k hkn hi
    have : opB t ((k : Int) + 1) = decide ((f k).ph.stN = 1) := by unfold opB; rw [ho]; simp only [hok.st]
    rw [this, hi]
    rcases ph_inT hi with z | z | z | z | z | z <;> simp [thOf, z, Ph.stN, Ph.fl, Ph.dc, Ph.cn]
  · have hi : (f k).ph.inT = false := by simpa using hi
    rw [hi]
    cases hq : (f k).ph <;> rw [hq] at hi <;> first | (cases hi; done) | simp [thOf, hq, Ph.fl, Ph.dc, Ph.cn]

/-- One more is looked at. -/
def openTo (l : List Thing) (k : Nat) : List Int := openL (l.take k)
theorem openTo_succ {l : List Thing} {k : Nat} (hk : k < l.length) : openTo l (k + 1) = openTo l k ++ if (!(l[k]).fl && !(l[k]).dc && !(l[k]).cn) = true then [(k : Int) + 1] else [] := by
  unfold openTo openL
  have hl : (l.take (k + 1)).length = k + 1 := by rw [List.length_take]; omega
  have hl2 : (l.take k).length = k := by rw [List.length_take]; omega
  rw [hl, hl2, List.range_succ, List.filter_append, List.map_append]
  congr 1
  · congr 1
    refine List.filter_congr fun j hj => ?_
    rw [List.mem_range] at hj
    rw [List.getElem?_take_of_lt (by omega), List.getElem?_take_of_lt hj]
  · have : (l.take (k + 1))[k]? = some l[k] := by rw [List.getElem?_take_of_lt (by omega), List.getElem?_eq_getElem hk]
    rw [List.filter_cons]
    simp only [this, List.filter_nil]
    split <;> rfl
theorem openTo_pre {l : List Thing} : ∀ (d k : Nat), k + d = l.length → ∃ r, openTo l l.length = openTo l k ++ r
  | 0, k, h => ⟨[], by rw [show k = l.length by omega, List.append_nil]⟩
  | d + 1, k, h => by
    obtain ⟨r, hr⟩ := openTo_pre (l := l) d (k + 1) (by omega)
    rw [hr, openTo_succ (by omega), List.append_assoc]
    exact ⟨_, rfl⟩

def emp (n : Nat) : TbD := ⟨n, [], [], []⟩

section
attribute [local go_sem] F6.t6_eq F6.t7_eq F6.t19_eq F6.t17_eq F6.t14_eq F6.t15_eq F6.t27_eq F6.t28_eq F6.t32_eq F6.t25_eq F6.t20_eq F6.t10_eq F6.t4_eq
theorem reset_32 {w0 w : World} {F : HP} {W B n : Nat} {l : List Thing} {h : List Int} {sd : Int} {e : FA} {R : Ending → World → Prop} {θ : Tag (F6.t32, fnP Try.prog #[.tmp 2] R, e, w)}
    (hl : l.length = n) (hn : 1 ≤ n) (hlt : n < 900) (hd : e.ds = []) (e3 : e.ρ 3 = .pointer (some ⟨W, 0, none⟩)) (z : St w0 (RnP W B (emp n) l h sd * F) w) (hQ : ∀ w', St w0 F w' → R (.returned (.bool true)) w') :
    cwE Try.prog F6.t32 (fnP Try.prog #[.tmp 2] R) e w θ := by
  obtain ⟨a1, c1, a2, c2, z1⟩ := RnP.open z
  have cW := z1.cl W
  rw [hl] at cW
  rw [F6.t32_eq]
  simp -dsimp -implicitDefEqProofs (disch := omega) only [go_sem, reqD_of, dec_t, dec_f, wrap_i64, wrap_u32, wrap_u64, wrap_u8, hd, e3, cW]
  have E1 : begE (emp n) 3 n = 1 := by unfold begE emp; rw [if_pos (.inr (by simp))]
  refine (Begin_any (g := 3) (id := n) (fun h => by rw [E1] at h; cases h) (z1.take (.obj B))).mono ?_
  rintro e' w2 ⟨z2, rfl⟩
  rw [E1, if_neg (by decide)] at z2
  have cW := z2.cl W
  rw [hl] at cW
  simp -dsimp -implicitDefEqProofs (disch := omega) only [go_sem, reqD_of, dec_t, dec_f, wrap_i64, wrap_u32, wrap_u64, wrap_u8, hd, e3, cW, E1]
  have E2 : begE (emp n) 3 ((n : Int) + 1) = 0 := by
    unfold begE emp
    simp only [agt, List.length_nil]
    rw [if_neg (by omega)]
    simp
  refine (Begin_any (g := 3) (id := (n : Int) + 1) (fun _ => rfl) z2).mono ?_
  rintro e' w3 ⟨z3, rfl⟩
  rw [if_pos E2] at z3
  have cW := z3.cl W
  rw [hl] at cW
  have E3 : begE (begS (emp n) ((n : Int) + 1) ⟨3, 1, false, 0, 0⟩) 4 ((n : Int) + 1) = 1 := by unfold begE begS; rw [if_pos (.inr (by simp))]
  simp -dsimp -implicitDefEqProofs (disch := omega) only [go_sem, reqD_of, dec_t, dec_f, wrap_i64, wrap_u32, wrap_u64, wrap_u8, hd, e3, cW, E1, E2]
  refine (Begin_any (g := 4) (id := (n : Int) + 1) (fun h => by rw [E3] at h; cases h) z3).mono ?_
  rintro e' w4 ⟨z4, rfl⟩
  simp -dsimp -implicitDefEqProofs (disch := omega) only [go_sem, reqD_of, dec_t, dec_f, wrap_i64, wrap_u32, wrap_u64, wrap_u8, hd, e3, E1, E2, E3]
  exact hQ _ z4.sub

end
section
attribute [local go_sem] F6.t6_eq F6.t7_eq F6.t19_eq F6.t17_eq F6.t14_eq F6.t15_eq F6.t27_eq F6.t28_eq F6.t25_eq F6.t20_eq F6.t10_eq F6.t4_eq
theorem reset_20 {w0 w : World} {F : HP} {W B n q : Nat} {l : List Thing} {h : List Int} {sd : Int} {a : Option Addr} {c : Nat} {e : FA} {R : Ending → World → Prop} {θ : Tag (F6.t20, fnP Try.prog #[.tmp 2] R, e, w)}
    (hl : l.length = n) (hn : 1 ≤ n) (hlt : n < 900) (hd : e.ds = []) (e3 : e.ρ 3 = .pointer (some ⟨W, 0, none⟩)) (e6 : e.ρ 6 = .slice a q c) (e7 : e.ρ 7 = .int .i64 q) (z : St w0 (RnP W B (emp n) l h sd * F) w) (hQ : ∀ w', St w0 F w' → R (.returned (.bool true)) w') :
    cwE Try.prog F6.t20 (fnP Try.prog #[.tmp 2] R) e w θ := by
  obtain ⟨a1, c1, a2, c2, z1⟩ := RnP.open z
  have cW := z1.cl W
  rw [F6.t20_eq]
  simp -dsimp -implicitDefEqProofs (disch := omega) only [go_sem, reqD_of, dec_t, dec_f, wrap_i64, wrap_u32, wrap_u64, wrap_u8, hd, e3, e6, e7, cW]
  refine (rows_none rfl (z1.take (.obj B))).mono ?_
  rintro e' w2 ⟨z2, rfl⟩
  have cW := z2.cl W
  simp -dsimp -implicitDefEqProofs (disch := omega) only [go_sem, reqD_of, dec_t, dec_f, wrap_i64, wrap_u32, wrap_u64, wrap_u8, hd, e3, e6, e7, cW]
  refine (waiting_none rfl z2).mono ?_
  rintro e' w3 ⟨z3, rfl⟩
  have cW := z3.cl W
  simp -dsimp -implicitDefEqProofs (disch := omega) only [go_sem, reqD_of, dec_t, dec_f, wrap_i64, wrap_u32, wrap_u64, wrap_u8, hd, e3, e6, e7, cW]
  refine (next_none rfl z3).mono ?_
  rintro e' w4 ⟨z4, rfl⟩
  simp -dsimp -implicitDefEqProofs (disch := omega) only [go_sem, reqD_of, dec_t, dec_f, wrap_i64, wrap_u32, wrap_u64, wrap_u8, hd, e3, e6, e7]
  refine z4.new fun X w5 z5 => ?_
  simp -dsimp -implicitDefEqProofs (disch := omega) only [go_sem, reqD_of, dec_t, dec_f, wrap_i64, wrap_u32, wrap_u64, wrap_u8]
  refine z5.stoAll (b := X) (cs := msgC ⟨0, 0, noS⟩) rfl rfl (msgC_cells _) fun w6 z6 => ?_
  simp -dsimp -implicitDefEqProofs (disch := omega) only [go_sem, reqD_of, dec_t, dec_f, wrap_i64, wrap_u32, wrap_u64, wrap_u8, hd, e3, e6, e7]
  have z7 := RnP.col (W := W) (B := B) (l := l) (h := h) (sd := sd) (t := emp n) (n1 := l.length) (n2 := h.length) (v1 := .slice a1 l.length c1) (v2 := .slice a2 h.length c2) z6 rfl rfl
  refine loop_intro (fun e w' => e.ds = [] ∧ e.ρ 3 = .pointer (some ⟨W, 0, none⟩) ∧ ∃ k : Nat, k ≤ n ∧ e.ρ 15 = .int .i64 k ∧ St w0 (RnP W B (emp n) l h sd * F) w') (fun e _ => match e.ρ 15 with | .int _ m => (n - m).toNat | _ => 0) ?_ ?_
  · exact ⟨by simp -dsimp -implicitDefEqProofs only [go_sem, hd], by simp -dsimp -implicitDefEqProofs only [go_sem, e3], 0, by omega, by simp -dsimp -implicitDefEqProofs only [go_sem], z7.sub⟩
  rintro e w8 ⟨hd, e3, k, hk, e15, z8⟩
  obtain ⟨a1, c1, a2, c2, z9⟩ := RnP.open z8
  have cW := z9.cl W
  rw [hl] at cW
  by_cases hlt2 : (k : Int) < n
  case neg =>
    simp -dsimp -implicitDefEqProofs (disch := omega) only [go_sem, reqD_of, dec_t, dec_f, wrap_i64, wrap_u32, wrap_u64, wrap_u8, hd, e3, e15, cW, hlt2]
    exact reset_32 hl hn hlt (by simp -dsimp -implicitDefEqProofs only [go_sem, hd]) (by simp -dsimp -implicitDefEqProofs only [go_sem, e3]) z8 hQ
  simp -dsimp -implicitDefEqProofs (disch := omega) only [go_sem, reqD_of, dec_t, dec_f, wrap_i64, wrap_u32, wrap_u64, wrap_u8, hd, e3, e15, cW, hlt2]
  have D : decB (emp n) ((k : Int) + 1) = false := rfl
  have D2 : decS (emp n) ((k : Int) + 1) = emp n := rfl
  refine (decide_any (id := (k : Int) + 1) (z9.take (.obj B))).mono ?_
  rintro e' w10 ⟨z10, rfl⟩
  rw [D2] at z10
  have cW := z10.cl W
  simp -dsimp -implicitDefEqProofs (disch := omega) only [go_sem, reqD_of, dec_t, dec_f, wrap_i64, wrap_u32, wrap_u64, wrap_u8, hd, e3, e15, cW, D]
  refine onV_of (v := msgV ⟨121, 0, noS⟩) rfl ?_
  simp -dsimp -implicitDefEqProofs (disch := omega) only [go_sem, reqD_of, dec_t, dec_f, wrap_i64, wrap_u32, wrap_u64, wrap_u8]
  refine (reply_any (m := ⟨121, 0, noS⟩) (by simp [emp]) (by simp [emp]) z10).mono ?_
  rintro e' w11 ⟨ks, hp, _, z11, rfl⟩
  have R1 : repB (emp n) ((k : Int) + 1) = false := rfl
  have R2 : repS (emp n) ((k : Int) + 1) ⟨121, 0, noS⟩ ks = emp n := rfl
  rw [R2] at z11
  simp -dsimp -implicitDefEqProofs (disch := omega) only [go_sem, reqD_of, dec_t, dec_f, wrap_i64, wrap_u32, wrap_u64, wrap_u8, hd, e3, e15, D, R1, Bool.false_eq_true]
  have z12 := RnP.col (W := W) (B := B) (l := l) (h := h) (sd := sd) (t := emp n) (n1 := l.length) (n2 := h.length) (v1 := .slice a1 l.length c1) (v2 := .slice a2 h.length c2) z11 rfl rfl
  exact ⟨⟨k + 1, by omega, rfl, z12⟩, by omega⟩

end
section
attribute [local go_sem] F6.t6_eq F6.t7_eq F6.t19_eq F6.t17_eq F6.t14_eq F6.t15_eq F6.t27_eq F6.t28_eq F6.t32_eq F6.t25_eq F6.t10_eq F6.t4_eq
theorem reset_10 {w0 w : World} {F : HP} {W B n : Nat} {e : FA} {R : Ending → World → Prop} {θ : Tag (F6.t10, fnP Try.prog #[.tmp 2] R, e, w)}
    (g : Good w0 F W B n w) (hlt : n < 800) (hd : e.ds = []) (e3 : e.ρ 3 = .pointer (some ⟨W, 0, none⟩)) (hQ : ∀ w', St w0 F w' → R (.returned (.bool true)) w') :
    cwE Try.prog F6.t10 (fnP Try.prog #[.tmp 2] R) e w θ := by
  obtain ⟨t, l, h, sd, m, f, B', r, hm, hs0, hs1, z⟩ := g
  obtain ⟨hl, hh, hlast⟩ := r.bounds
  have hid := r.ids_len
  have hn1 := r.n1
  obtain ⟨a1, c1, a2, c2, z1⟩ := RnP.open z
  have cW := z1.cl W
  rw [F6.t10_eq]
  simp -dsimp -implicitDefEqProofs (disch := omega) only [go_sem, reqD_of, dec_t, dec_f, wrap_i64, wrap_u32, wrap_u64, wrap_u8, hd, e3, cW]
  refine (reset_any (by omega) (z1.take (.obj B))).mono ?_
  rintro e' w2 ⟨v, ks, hp, hs, z2, rfl⟩
  rw [r.openIds hp hs, hlast] at z2
  obtain ⟨a3, c3, rfl, _⟩ := z2.rowForm v
  have z3 : St w0 (RowO 3 1 (.slice a3 (openL l).length c3) (openL l).length (intR (openL l)) * (TbP B (emp m) * (Blk W (rnB B (.slice a1 l.length c1) (.slice a2 h.length c2) sd) * (RowO 39 7 (.slice a1 l.length c1) l.length (l.flatMap thC) * (RowO 3 1 (.slice a2 h.length c2) h.length (intR h) * F))))) w2 := z2
  have z4 := RnP.col (W := W) (B := B) (l := l) (h := h) (sd := sd) (t := emp m) (n1 := l.length) (n2 := h.length) (v1 := .slice a1 l.length c1) (v2 := .slice a2 h.length c2) z3 rfl rfl
  simp -dsimp -implicitDefEqProofs (disch := omega) only [go_sem, reqD_of, dec_t, dec_f, wrap_i64, wrap_u32, wrap_u64, wrap_u8, hd, e3]
  have hfull : openTo l l.length = openL l := by unfold openTo; rw [List.take_length]
  refine loop_intro (fun e w' => e.ds = [] ∧ e.ρ 3 = .pointer (some ⟨W, 0, none⟩) ∧ e.ρ 6 = .slice a3 (openL l).length c3 ∧ ∃ k : Nat, k ≤ l.length ∧ e.ρ 8 = .int .i64 k ∧ e.ρ 7 = .int .i64 (openTo l k).length ∧ St w0 (RnP W B (emp m) l h sd * (RowO 3 1 (.slice a3 (openL l).length c3) (openL l).length (intR (openL l)) * F)) w') (fun e _ => match e.ρ 8 with | .int _ n => (l.length - n).toNat | _ => 0) ?_ ?_
  · exact ⟨by simp -dsimp -implicitDefEqProofs only [go_sem, hd], by simp -dsimp -implicitDefEqProofs only [go_sem, e3], by simp -dsimp -implicitDefEqProofs only [go_sem], 0, by omega, by simp -dsimp -implicitDefEqProofs only [go_sem], by (simp -dsimp -implicitDefEqProofs only [go_sem]); rfl, z4⟩
  clear z z1 z2 z3 z4 cW
  rintro e w5 ⟨hd, e3, e6, k, hk, e8, e7, z⟩
  by_cases hlt2 : (k : Int) < l.length
  case neg =>
    have : k = l.length := by omega
    subst this
    rw [hfull] at e7
    obtain ⟨a1, c1, a2, c2, z1⟩ := RnP.open z
    have cW := z1.cl W
    simp -dsimp -implicitDefEqProofs (disch := omega) only [go_sem, reqD_of, dec_t, dec_f, wrap_i64, wrap_u32, wrap_u64, wrap_u8, hd, e3, e6, e7, e8, cW, hlt2]
    exact reset_20 (q := (openL l).length) (W := W) (B := B) (l := l) (h := h) (sd := sd) (a := a3) (c := c3) hl hn1 (by omega) (by simp -dsimp -implicitDefEqProofs only [go_sem, hd]) (by simp -dsimp -implicitDefEqProofs only [go_sem, e3]) (by simp -dsimp -implicitDefEqProofs only [go_sem, e6]) (by simp -dsimp -implicitDefEqProofs only [go_sem, e7]) z fun w' h' => hQ _ h'.right
  have hkl : k < l.length := by omega
  obtain ⟨a1, c1, a2, c2, z1⟩ := RnP.open z
  have cW := z1.cl W
  obtain ⟨b, o, rfl, hrow, _⟩ := thAt (a := a1) (c := c1) (l := l) z1 hkl
  have hsucc := openTo_succ hkl
  obtain ⟨rr, hpre⟩ := openTo_pre (l := l) (l.length - (k + 1)) (k + 1) (by omega)
  rw [hfull, hsucc] at hpre
  generalize l[k] = X at hrow hsucc hpre
  simp -dsimp -implicitDefEqProofs (disch := omega) only [go_sem, reqD_of, dec_t, dec_f, wrap_i64, wrap_u32, wrap_u64, wrap_u8, hd, e3, e6, e7, e8, cW, hlt2, hrow]
  refine z1.new fun Y w6 z6 => ?_
  simp -dsimp -implicitDefEqProofs (disch := omega) only [go_sem, reqD_of, dec_t, dec_f, wrap_i64, wrap_u32, wrap_u64, wrap_u8]
  refine z6.stoAll (b := Y) (cs := thC X) rfl rfl (thC_cells X) fun w7 z7 => ?_
  have cY := z7.cl Y
  simp only [thC] at cY
  have z8 := RnP.col (W := W) (B := B) (l := l) (h := h) (sd := sd) (t := emp m) (n1 := l.length) (n2 := h.length) (v1 := .slice (some ⟨b, o, none⟩) l.length c1) (v2 := .slice a2 h.length c2) z7 rfl rfl
  have stay : (!X.fl && !X.dc && !X.cn) = false → (openTo l (k + 1)).length = (openTo l k).length := fun h => by rw [hsucc, h]; simp
  cases hfl : X.fl with
  | true =>
    rw [hfl] at cY
    have := stay (by rw [hfl]; rfl)
    simp -dsimp -implicitDefEqProofs (disch := omega) only [go_sem, reqD_of, dec_t, dec_f, wrap_i64, wrap_u32, wrap_u64, wrap_u8, hd, e3, e6, e7, e8, cY]
    exact ⟨⟨k + 1, by omega, rfl, by rw [this], z8.sub⟩, by omega⟩
  | false =>
  cases hdc : X.dc with
  | true =>
    rw [hfl, hdc] at cY
    have := stay (by rw [hfl, hdc]; rfl)
    simp -dsimp -implicitDefEqProofs (disch := omega) only [go_sem, reqD_of, dec_t, dec_f, wrap_i64, wrap_u32, wrap_u64, wrap_u8, hd, e3, e6, e7, e8, cY]
    exact ⟨⟨k + 1, by omega, rfl, by rw [this], z8.sub⟩, by omega⟩
  | false =>
  cases hcn : X.cn with
  | true =>
    rw [hfl, hdc, hcn] at cY
    have := stay (by rw [hfl, hdc, hcn]; rfl)
    simp -dsimp -implicitDefEqProofs (disch := omega) only [go_sem, reqD_of, dec_t, dec_f, wrap_i64, wrap_u32, wrap_u64, wrap_u8, hd, e3, e6, e7, e8, cY]
    exact ⟨⟨k + 1, by omega, rfl, by rw [this], z8.sub⟩, by omega⟩
  | false =>
    rw [hfl, hdc, hcn] at cY hsucc hpre
    simp only [Bool.not_false, Bool.and_self, if_true] at hsucc hpre
    have hplen := congrArg List.length hpre
    simp only [List.length_append, List.length_cons, List.length_nil] at hplen
    have hbig : (openL l).length ≤ l.length := by
      unfold openL
      rw [List.length_map]
      exact Nat.le_trans (List.length_filter_le _ _) (by rw [List.length_range]; exact Nat.le_refl _)
    have hge : ¬ ((openL l).length : Int) ≤ (openTo l k).length := by omega
    have hlt3 : ((openTo l k).length : Int) < (openL l).length := by omega
    obtain ⟨b5, o5, rfl, hc⟩ := hoAt (a := a3) (c := c3) (l := openL l) z7 (k := (openTo l k).length) (by omega)
    have hel : (openL l)[(openTo l k).length]'(by omega) = (k : Int) + 1 := by
      have : (openL l)[(openTo l k).length]? = some ((k : Int) + 1) := by rw [hpre]; simp
      rw [List.getElem?_eq_getElem (by omega), Option.some.injEq] at this
      exact this
    rw [hel] at hc
    have hsl : (openTo l (k + 1)).length = (openTo l k).length + 1 := by rw [hsucc]; simp
    simp -dsimp -implicitDefEqProofs (disch := omega) only [go_sem, reqD_of, dec_t, dec_f, wrap_i64, wrap_u32, wrap_u64, wrap_u8, hd, e3, e6, e7, e8, cY, hge, hlt3, hc]
    exact ⟨⟨k + 1, by omega, rfl, by rw [hsl]; rfl, z8.sub⟩, by omega⟩

end
section
attribute [local go_sem] F6.t6_eq F6.t7_eq F6.t19_eq F6.t17_eq F6.t14_eq F6.t15_eq F6.t27_eq F6.t28_eq F6.t32_eq F6.t25_eq F6.t20_eq F6.t4_eq
theorem tagsReset_any {w0 w : World} {F : HP} {v : Value} {acs : List ActD} (h : St w0 F w) (hr : Ent F (Reads 3 v acs.length (acs.flatMap acC))) (ha : ∀ a ∈ acs, AcOk a) (hlen : acs.length ≤ 140737488351232) :
    Calls Try.prog 6 #[v] w fun e w' => St w0 F w' ∧ e = .returned (.bool true) := by
  obtain ⟨_, a, c, rfl, _, _⟩ := St.rowsAt (k := 3) acC_length (by decide) (h.ent hr)
  refine F6.calls (by simp) ?_
  unfold F6.code
  simp -dsimp -implicitDefEqProofs (disch := omega) only [go_sem, reqD_of, dec_t, dec_f, wrap_i64, wrap_u32, wrap_u64, wrap_u8]
  refine (begun_any h).mono ?_
  rintro e w1 ⟨W, B, h1, rfl⟩
  simp -dsimp -implicitDefEqProofs (disch := omega) only [go_sem, reqD_of, dec_t, dec_f, wrap_i64, wrap_u32, wrap_u64, wrap_u8]
  refine loop_intro (fun e w' => e.ds = [] ∧ e.ρ 0 = .slice a acs.length c ∧ e.ρ 3 = .pointer (some ⟨W, 0, none⟩) ∧ ∃ i : Nat, i ≤ acs.length ∧ i ≤ 300 ∧ e.ρ 4 = .int .i64 i ∧ Good w0 F W B (i + 1) w')
    (fun e _ => match e.ρ 4 with | .int _ n => (acs.length - n).toNat | _ => 0) ?_ ?_
  · exact ⟨rfl, by simp -dsimp -implicitDefEqProofs only [go_sem], by simp -dsimp -implicitDefEqProofs only [go_sem], 0, by omega, by omega, by simp -dsimp -implicitDefEqProofs only [go_sem], t15, [th15], h15, 0, 1, f15, [0], run15, by omega, by decide, by decide, h1⟩
  rintro e w2 ⟨hd, e0, e3, i, hi, hi3, e4, g⟩
  by_cases hlt : (i : Int) < acs.length
  case neg =>
    simp -dsimp -implicitDefEqProofs (disch := omega) only [go_sem, reqD_of, dec_t, dec_f, wrap_i64, wrap_u32, wrap_u64, wrap_u8, hd, e0, e3, e4, hlt]
    exact reset_10 g (by omega) (by simp -dsimp -implicitDefEqProofs only [go_sem, hd]) (by simp -dsimp -implicitDefEqProofs only [go_sem, e3]) fun w' h' => ⟨h', rfl⟩
  by_cases hle : (i : Int) < 300
  case neg =>
    simp -dsimp -implicitDefEqProofs (disch := omega) only [go_sem, reqD_of, dec_t, dec_f, wrap_i64, wrap_u32, wrap_u64, wrap_u8, hd, e0, e3, e4, hlt, hle]
    exact reset_10 g (by omega) (by simp -dsimp -implicitDefEqProofs only [go_sem, hd]) (by simp -dsimp -implicitDefEqProofs only [go_sem, e3]) fun w' h' => ⟨h', rfl⟩
  have hil : i < acs.length := by omega
  have g0 := g
  obtain ⟨t, l, h', sd, m, f, B', r, hm, hs0, hs1, z⟩ := g0
  obtain ⟨_, a', c', hv, _, hcl⟩ := St.rowsAt (k := 3) acC_length (by decide) (z.right.ent hr)
  simp only [Value.slice.injEq, true_and] at hv
  obtain ⟨rfl, rfl⟩ := hv
  obtain ⟨b, o, rfl, hrow, _⟩ := hcl i hil
  simp -dsimp -implicitDefEqProofs (disch := omega) only [go_sem, reqD_of, dec_t, dec_f, wrap_i64, wrap_u32, wrap_u64, wrap_u8, hd, e0, e3, e4, hlt, hle, hrow]
  refine (act_any (a := acs[i]) (by omega) (ha _ (List.getElem_mem hil)) g).mono ?_
  rintro e' w3 ⟨g3, rfl⟩
  simp -dsimp -implicitDefEqProofs (disch := omega) only [go_sem, reqD_of, dec_t, dec_f, wrap_i64, wrap_u32, wrap_u64, wrap_u8, hd, e0, e3, e4]
  exact ⟨⟨i + 1, by omega, by omega, rfl, g3⟩, by omega⟩

end
end Go.Proofs.Yteefkhfmpcaccaa
