/- The frame statements' book: a turn as a whole. -/
import Derived.Test.YtfamclpajjnfbaaFrU
namespace Go.Proofs.Ytfamclpajjnfbaa
open Go
set_option linter.unusedSimpArgs false
set_option linter.unusedVariables false
set_option maxRecDepth 100000

def mkOf (L : Nat) : UInt8 := UInt8.ofNat (L % 251 + 1)
theorem mkOf_val (L : Nat) : ((mkOf L).toNat : Int) = (L : Int) % 251 + 1 := by
  unfold mkOf
  rw [UInt8.toNat_ofNat']
  omega

theorem mkOf_wrap (L : Nat) : Value.int .u8 (IntKind.u8.wrap (IntKind.i64.wrap ((L : Int).tmod 251 + 1))) = bv (mkOf L) := by
  have h1 := mkOf_val L
  have h2 : (L : Int).tmod 251 = (L : Int) % 251 := Int.tmod_eq_emod_of_nonneg (by omega)
  rw [h2]
  unfold bv
  congr 1
  rw [h1, wrap_i64 (by omega) (by omega), wrap_u8 (by omega) (by omega)]

theorem grps_cons (m : UInt8) (l : List (Value × Nat)) (Gs : GL) : grps ((m, l) :: Gs) = GroupP 5 (bv m) l * grps Gs := rfl
theorem GLe.cons (g : UInt8 × List (Value × Nat)) (Gs : GL) : GLe Gs (g :: Gs) := fun y hy => ⟨y, List.mem_cons_of_mem _ hy, rfl, fun _ h => h⟩

theorem lists_next {w0 w : World} {A R : HP} {hs : OL} {k : Nat} (h : St w0 A w) (hk : k < hs.length) [i : Pull A (lists (hs.drop k)) R] :
    St w0 (RowO 5 1 hs[k].1 hs[k].2.2.length (hs[k].2.2.map bv) * (lists (hs.drop (k + 1)) * R)) w := by
  have h1 : St w0 (lists (hs.drop k) * R) w := h.ac i.eq
  rw [List.drop_eq_getElem_cons hk] at h1
  have h2 : St w0 (RowO 5 1 hs[k].2.1 hs[k].2.2.length (hs[k].2.2.map bv) * (RowO 5 1 hs[k].1 hs[k].2.2.length (hs[k].2.2.map bv) * (lists (hs.drop (k + 1)) * R))) w := h1.ac (by
    show ownR hs[k] * lists (hs.drop (k + 1)) * R = _
    unfold ownR
    ac_rfl)
  exact h2.right

section
attribute [local go_sem] F15.t5_eq F15.t6_eq F15.t14_eq F15.t15_eq F15.t16_eq F15.t10_eq F15.t11_eq F15.t25_eq F15.t26_eq F15.t21_eq F15.t22_eq F15.t39_eq F15.t40_eq F15.t36_eq F15.t37_eq F15.t42_eq F15.t30_eq
theorem turn_8 {w0 w : World} {F : HP} {B : Nat} {vl vm vh vt vf vw : Value} {E : EL} {hs : OL} {tV fV wV : List Value} {Gs : GL} {R : Ending → World → Prop} {e : FA} {θ : Tag (F15.t8, fnP Try.prog #[.tmp 2] R, e, w)}
    (ok : EOk E Gs) (hh : OOk hs) (hE : E.length + 71 * hs.length ≤ 10000000000)
    (hd : e.ds = []) (e0 : e.ρ 0 = .pointer (some ⟨B, 0, none⟩)) (e3 : e.ρ 3 = .bool true) (e4 : e.ρ 4 = .int .i64 E.length)
    (h : St w0 (BB B vl vm vh vt vf vw E (hs.map (·.1)) tV fV wV (lists hs * (grps Gs * F))) w)
    (hQ : ∀ w' vl vm E' Gs', EOk E' Gs' → E'.length ≤ E.length + 71 * hs.length → St w0 (BB B vl vm vf vw (.slice none 0 0) (.slice none 0 0) E' fV wV [] [] (grps Gs' * F)) w' → R (.returned (.bool true)) w') :
    cwE Try.prog F15.t8 (fnP Try.prog #[.tmp 2] R) e w θ := by
  obtain ⟨ah, ch, rfl, _⟩ := h.rowForm vh
  have hhl : (List.map (fun x => x.1) hs).length = hs.length := by simp
  rw [F15.t8_eq]
  simp -dsimp -implicitDefEqProofs (disch := omega) only [go_sem, reqD_of, dec_t, dec_f, wrap_i64, wrap_u32, wrap_u64, wrap_u8, hd, e0, e4]
  refine loop_intro (fun e w' => e.ds = [] ∧ e.ρ 0 = .pointer (some ⟨B, 0, none⟩) ∧ e.ρ 3 = .bool true ∧ e.ρ 4 = .int .i64 E.length ∧ ∃ (k : Nat) (vl vm : Value) (N : EL) (Gs' : GL), k ≤ hs.length ∧ e.ρ 7 = .int .i64 k ∧ N.length = k ∧ EOk (E ++ N) Gs' ∧ (∀ x ∈ N, x.2.1 ≤ 1073741824) ∧ St w0 (BB B vl vm (.slice ah (List.map (fun x => x.1) hs).length ch) vt vf vw (E ++ N) (hs.map (·.1)) tV fV wV (lists (hs.drop k) * (grps Gs' * F))) w')
    (fun e _ => match e.ρ 7 with | .int _ n => (hs.length - n).toNat | _ => 0) ?_ ?_
  · exact ⟨by simp -dsimp -implicitDefEqProofs only [go_sem, hd], by simp -dsimp -implicitDefEqProofs only [go_sem, e0], by simp -dsimp -implicitDefEqProofs only [go_sem, e3], by simp -dsimp -implicitDefEqProofs only [go_sem, e4], 0, _, _, [], Gs, by omega, rfl, rfl, by rw [List.append_nil]; exact ok, by simp, by rw [List.append_nil, List.drop_zero]; exact h⟩
  · clear h
    rintro e1 w1 ⟨hd, e0, e3, e4, k, vl, vm, N, Gs', hk, e7, hNk, okN, hN, h1⟩
    have hL : (E ++ N).length = E.length + N.length := by simp
    have cB := h1.cl B
    by_cases hlt : (k : Int) < hs.length
    · have hkh : k < hs.length := by omega
      have hkl : (k : Int) < ((List.map (fun x => x.1) hs).length : Nat) := by omega
      obtain ⟨al, cl, rfl, _⟩ := h1.rowForm vl
      obtain ⟨am, cm, rfl, _⟩ := h1.rowForm vm
      obtain ⟨bh, oh, rfl, hH⟩ := h1.at1 (a := ah) (n := (List.map (fun x => x.1) hs).length) (c := ch) (xs := hs.map (·.1)) (k := k) (by simp; omega)
      simp only [List.getElem_map] at hH
      have h2 := lists_next h1 hkh
      obtain ⟨hxc, _, hxl⟩ := hh hs[k] (List.getElem_mem hkh)
      rcases hx : hs[k] with ⟨xv, x2, bs⟩
      rw [hx] at h2 hH hxc hxl
      simp only at h2 hH hxc hxl
      obtain ⟨ax, cx, rfl, _⟩ := h2.rowForm xv
      have cB := h2.cl B
      have hm := mkOf_val (E ++ N).length
      simp -dsimp -implicitDefEqProofs (disch := omega) only [go_sem, reqD_of, dec_t, dec_f, wrap_i64, wrap_u32, wrap_u64, wrap_u8, hd, e0, e7, hkl, F15.t11_eq, cB]
      refine loop_intro (fun e w' => e.ds = [] ∧ e.ρ 0 = .pointer (some ⟨B, 0, none⟩) ∧ e.ρ 3 = .bool true ∧ e.ρ 4 = .int .i64 E.length ∧ e.ρ 7 = .int .i64 k ∧ e.ρ 8 = bv (mkOf (E ++ N).length) ∧ ∃ (j : Nat) (ys : List Value), j ≤ bs.length ∧ e.ρ 9 = .int .i64 j ∧ ys.length = bs.length ∧ (∀ i, i < j → ys[i]? = some (bv (mkOf (E ++ N).length))) ∧ St w0 (RowO 5 1 (.slice ax bs.length cx) bs.length ys * (lists (hs.drop (k + 1)) * (BB B (.slice al (E ++ N).length cl) (.slice am (E ++ N).length cm) (.slice (some ⟨bh, oh, none⟩) (List.map (fun x => x.1) hs).length ch) vt vf vw (E ++ N) (hs.map (·.1)) tV fV wV (grps Gs' * F)))) w')
        (fun e _ => match e.ρ 9 with | .int _ n => (bs.length - n).toNat | _ => 0) ?_ ?_
      · refine ⟨by simp -dsimp -implicitDefEqProofs only [go_sem, hd], by simp -dsimp -implicitDefEqProofs only [go_sem, e0], by simp -dsimp -implicitDefEqProofs only [go_sem, e3], by simp -dsimp -implicitDefEqProofs only [go_sem, e4], by simp -dsimp -implicitDefEqProofs only [go_sem, e7], ?_, 0, bs.map bv, by omega, rfl, by simp, fun i hi => by omega, h2.sub⟩
        simp -dsimp -implicitDefEqProofs (disch := omega) only [go_sem, reqD_of, dec_t, dec_f, wrap_i64, wrap_u32, wrap_u64, wrap_u8]
        exact mkOf_wrap _
      · clear cB hH h2 h1
        rintro e2 w2 ⟨hd2, e0', e3', e4', e7', e8, j, ys, hj, e9, hys, hpre, h2⟩
        have cB := h2.cl B
        obtain ⟨_, _, hq, hH⟩ := h2.at1 (a := some ⟨bh, oh, none⟩) (n := (List.map (fun x => x.1) hs).length) (c := ch) (xs := hs.map (·.1)) (k := k) (by simp; omega)
        simp only [Option.some.injEq, Addr.mk.injEq] at hq
        obtain ⟨rfl, rfl, _⟩ := hq
        simp only [List.getElem_map, hx] at hH
        by_cases hjl : (j : Int) < bs.length
        · obtain ⟨bx, ox, rfl, _⟩ := h2.at1 (a := ax) (n := bs.length) (c := cx) (xs := ys) (k := j) (by omega)
          simp -dsimp -implicitDefEqProofs (disch := omega) only [go_sem, reqD_of, dec_t, dec_f, wrap_i64, wrap_u32, wrap_u64, wrap_u8, hd2, e0', e7', e8, e9, hkl, hjl, F15.t15_eq, cB, hH]
          refine h2.rowSet1 (T := 5) (g := bx) (o := ox) (n := bs.length) (c := cx) (k := j) (xs := ys) (by omega) rfl fun w3 h3 => ?_
          simp -dsimp -implicitDefEqProofs (disch := omega) only [go_sem, reqD_of, dec_t, dec_f, wrap_i64, wrap_u32, wrap_u64, wrap_u8, hd2, e0', e3', e4', e7', e8, e9]
          refine ⟨⟨j + 1, ys.set j (bv (mkOf (E ++ N).length)), by omega, by omega, by simp [hys], ?_, h3⟩, by omega⟩
          intro i hi
          by_cases hij : i = j
          · subst hij; rw [List.getElem?_set_self (by omega)]
          · rw [List.getElem?_set_ne (by omega)]; exact hpre i (by omega)
        · have : j = bs.length := by omega
          subst this
          have hrep : ys = List.replicate bs.length (bv (mkOf (E ++ N).length)) := by
            apply List.ext_getElem?
            intro i
            by_cases hi : i < bs.length
            · rw [hpre i hi, List.getElem?_replicate, if_pos hi]
            · rw [List.getElem?_eq_none (by omega), List.getElem?_eq_none (by simp; omega)]
          subst hrep
          have h4 := (h2.ent (Ent.sep (GroupP.one 5 (bv (mkOf (E ++ N).length)) (.slice ax bs.length cx) bs.length) (Ent.rfl' _))).drew
          have cB4 := h4.cl B
          obtain ⟨_, _, hq, hH4⟩ := h4.at1 (a := some ⟨bh, oh, none⟩) (n := (List.map (fun x => x.1) hs).length) (c := ch) (xs := hs.map (·.1)) (k := k) (by simp; omega)
          simp only [Option.some.injEq, Addr.mk.injEq] at hq
          obtain ⟨rfl, rfl, _⟩ := hq
          simp only [List.getElem_map, hx] at hH4
          simp -dsimp -implicitDefEqProofs (disch := omega) only [go_sem, reqD_of, dec_t, dec_f, wrap_i64, wrap_u32, wrap_u64, wrap_u8, hd2, e0', e7', e8, e9, hkl, hjl, F15.t16_eq, cB, cB4, hH, hH4]
          refine h4.lit (n := 1) (cells := [.slice ax bs.length cx]) fact_rowTy_34 rfl (by decide) (by decide) fun v5 w5 h5 => ?_
          have cB5 := h5.cl B
          obtain ⟨_, _, hq, hH5⟩ := h5.at1 (a := some ⟨bh, oh, none⟩) (n := (List.map (fun x => x.1) hs).length) (c := ch) (xs := hs.map (·.1)) (k := k) (by simp; omega)
          simp only [Option.some.injEq, Addr.mk.injEq] at hq
          obtain ⟨rfl, rfl, _⟩ := hq
          simp only [List.getElem_map, hx] at hH5
          simp -dsimp -implicitDefEqProofs (disch := omega) only [go_sem, reqD_of, dec_t, dec_f, wrap_i64, wrap_u32, wrap_u64, wrap_u8, hd2, e0', e7', e8, e9, hkl, cB5, hH5]
          refine h5.app (v := .slice al (E ++ N).length cl) fact_rowTy_34 ((Ent.left _ _).trans (RowO.reads _ _ _ _ _)) Try.underlying34 (by intro u hu; simp only [List.mem_singleton] at hu; subst hu; rfl) (fun h => by simp at h) (by simp only [maxLen]; omega) (by omega) fun v6 w6 h6 => ?_
          obtain ⟨a6, c6, rfl, _⟩ := h6.rowForm v6
          have cB6 := h6.cl B
          obtain ⟨_, _, hq, hH6⟩ := h6.at1 (a := some ⟨bh, oh, none⟩) (n := (List.map (fun x => x.1) hs).length) (c := ch) (xs := hs.map (·.1)) (k := k) (by simp; omega)
          simp only [Option.some.injEq, Addr.mk.injEq] at hq
          obtain ⟨rfl, rfl, _⟩ := hq
          simp only [List.getElem_map, hx] at hH6
          simp -dsimp -implicitDefEqProofs (disch := omega) only [go_sem, reqD_of, dec_t, dec_f, wrap_i64, wrap_u32, wrap_u64, wrap_u8, hd2, e0', e7', e8, e9, hkl, cB6, hH6]
          refine h6.sto (b := B) (off := 0) (by simp) rfl fun w7 h7 => ?_
          simp only [List.setIfInBounds_toArray, List.set_cons_succ, List.set_cons_zero] at h7
          have cB7 := h7.cl B
          simp -dsimp -implicitDefEqProofs (disch := omega) only [go_sem, reqD_of, dec_t, dec_f, wrap_i64, wrap_u32, wrap_u64, wrap_u8, hd2, e0', e7', e8, e9, cB7]
          refine h7.lit (n := 1) (cells := [bv (mkOf (E ++ N).length)]) fact_rowTy_35 rfl (by decide) (by decide) fun v8 w8 h8 => ?_
          simp -dsimp -implicitDefEqProofs (disch := omega) only [go_sem, reqD_of, dec_t, dec_f, wrap_i64, wrap_u32, wrap_u64, wrap_u8, hd2, e0', e7', e8, e9]
          refine h8.app (v := .slice am (E ++ N).length cm) fact_rowTy_35 ((Ent.left _ _).trans (RowO.reads _ _ _ _ _)) Try.underlying35 (by intro u hu; simp only [List.mem_singleton] at hu; subst hu; rfl) (fun h => by simp at h) (by simp only [maxLen]; omega) (by omega) fun v9 w9 h9 => ?_
          obtain ⟨a9, c9, rfl, _⟩ := h9.rowForm v9
          simp -dsimp -implicitDefEqProofs (disch := omega) only [go_sem, reqD_of, dec_t, dec_f, wrap_i64, wrap_u32, wrap_u64, wrap_u8, hd2, e0', e7', e8, e9]
          refine h9.sto (b := B) (off := 1) (by simp) rfl fun w10 h10 => ?_
          simp only [List.setIfInBounds_toArray, List.set_cons_succ, List.set_cons_zero] at h10
          simp -dsimp -implicitDefEqProofs (disch := omega) only [go_sem, reqD_of, dec_t, dec_f, wrap_i64, wrap_u32, wrap_u64, wrap_u8, hd2, e0', e3', e4', e7', e7, e8, e9]
          rw [(EL.rows E N (.slice ax bs.length cx) bs.length (mkOf (E ++ N).length) (.slice a6 ((E ++ N).length + 1) c6) _).1, (EL.rows E N (.slice ax bs.length cx) bs.length (mkOf (E ++ N).length) (.slice a9 ((E ++ N).length + 1) c9) _).2] at h10
          have h11 : St w0 (BB B (.slice a6 ((E ++ N).length + 1) c6) (.slice a9 ((E ++ N).length + 1) c9) (.slice (some ⟨bh, oh, none⟩) (List.map (fun x => x.1) hs).length ch) vt vf vw (E ++ (N ++ [((.slice ax bs.length cx : Value), bs.length, mkOf (E ++ N).length)])) (hs.map (·.1)) tV fV wV (lists (hs.drop (k + 1)) * (GroupP 5 (bv (mkOf (E ++ N).length)) [((.slice ax bs.length cx : Value), bs.length)] * (grps Gs' * F)))) w10 := h10.sub
          refine ⟨⟨k + 1, _, _, N ++ [((.slice ax bs.length cx : Value), bs.length, mkOf (E ++ N).length)], (mkOf (E ++ N).length, [((.slice ax bs.length cx : Value), bs.length)]) :: Gs', by omega, by omega, by simp [hNk], ?_, ?_, h11.ac (by simp only [BB, grps_cons]; ac_rfl)⟩, by omega⟩
          · rw [← List.append_assoc]
            exact (okN.mono (GLe.cons _ _)).snoc ⟨_, List.mem_cons_self, rfl, List.mem_cons_self⟩ rfl (by omega)
          · intro x hx'
            rcases List.mem_append.1 hx' with hx' | hx'
            · exact hN x hx'
            · simp only [List.mem_singleton] at hx'
              subst hx'
              exact hxl
    · have : k = hs.length := by omega
      subst this
      have hkl : ¬ (hs.length : Int) < ((List.map (fun x => x.1) hs).length : Nat) := by omega
      simp -dsimp -implicitDefEqProofs (disch := omega) only [go_sem, reqD_of, dec_t, dec_f, wrap_i64, wrap_u32, wrap_u64, wrap_u8, hd, e0, e7, hkl, cB, hhl]
      refine turn_18 okN (f := E.length) (by omega) (by omega) ?_ (by simp -dsimp -implicitDefEqProofs only [go_sem, hd]) (by simp -dsimp -implicitDefEqProofs only [go_sem, e0]) (by simp -dsimp -implicitDefEqProofs only [go_sem, e3]) (by simp -dsimp -implicitDefEqProofs only [go_sem, e4]) (h1.sub (B := BB B vl vm (.slice ah (List.map (fun x => x.1) hs).length ch) vt vf vw (E ++ N) (hs.map (·.1)) tV fV wV (grps Gs' * F))) fun w' vl vm E' Gs' ok' hE' hw => hQ _ _ _ _ _ ok' (by omega) hw
      intro j hj hf
      rw [List.getElem_append_right hf]
      exact hN _ (List.getElem_mem _)

theorem lists_rd {A R : HP} {hs : OL} {x : Value × Value × List UInt8} (hx : x ∈ hs) [i : Pull A (lists hs) R] : Ent A (RdB x.1 x.2.2) ∧ Ent A (RdB x.2.1 x.2.2) := by
  rw [i.eq]
  have h := (Ent.left (lists hs) R).trans (starL_mem (A := ownR) hx)
  exact ⟨h.trans ((Ent.left _ _).trans (RowO.reads _ _ _ _ _)), h.trans ((Ent.right _ _).trans (RowO.reads _ _ _ _ _))⟩

end
section
attribute [local go_sem] F15.t5_eq F15.t6_eq F15.t14_eq F15.t15_eq F15.t16_eq F15.t10_eq F15.t11_eq F15.t25_eq F15.t26_eq F15.t21_eq F15.t22_eq F15.t39_eq F15.t40_eq F15.t36_eq F15.t37_eq F15.t42_eq F15.t30_eq F15.t18_eq
theorem turn_any {w0 w : World} {F : HP} {B n : Nat} (hn : n ≤ 100000000) (h : St w0 (BookP B n * F) w) :
    Calls Try.prog 15 #[.pointer (some ⟨B, 0, none⟩)] w fun e w' => St w0 (BookP B n * F) w' ∧ e = .returned (.bool true) := by
  obtain ⟨x, ok, h1⟩ := BookP.open h
  obtain ⟨vl, vm, vh, vt, vf, vw, E, hs, fs, Gs⟩ := x
  have hfew := ok.few
  have okE := ok.e
  have okH := ok.h
  have okF := ok.f
  clear ok h
  simp only at hfew h1 okE okH okF
  obtain ⟨al, cl, rfl, _⟩ := h1.rowForm vl
  obtain ⟨ah, ch, rfl, _⟩ := h1.rowForm vh
  obtain ⟨at', ct, rfl, _⟩ := h1.rowForm vt
  have cB := h1.cl B
  refine F15.calls (by simp) ?_
  unfold F15.code
  simp -dsimp -implicitDefEqProofs (disch := omega) only [go_sem, reqD_of, dec_t, dec_f, wrap_i64, wrap_u32, wrap_u64, wrap_u8, cB]
  refine loop_intro (fun e w' => e.ds = [] ∧ e.ρ 0 = .pointer (some ⟨B, 0, none⟩) ∧ e.ρ 3 = .bool true ∧ e.ρ 4 = .int .i64 E.length ∧ (∃ k : Nat, k ≤ hs.length ∧ e.ρ 5 = .int .i64 k) ∧ St w0 (BB B (.slice al E.length cl) vm (.slice ah (List.map (fun x => x.1) hs).length ch) (.slice at' (List.map (fun x => x.2.1) hs).length ct) vf vw E (hs.map (·.1)) (hs.map (·.2.1)) (fs.map (·.1)) (fs.map (·.2.1)) (lists hs * (lists fs * (grps Gs * F)))) w')
    (fun e _ => match e.ρ 5 with | .int _ n => (hs.length - n).toNat | _ => 0) ?_ ?_
  · exact ⟨rfl, by simp -dsimp -implicitDefEqProofs only [go_sem], by simp -dsimp -implicitDefEqProofs only [go_sem], by simp -dsimp -implicitDefEqProofs only [go_sem], ⟨0, by omega, rfl⟩, h1⟩
  · clear h1 cB
    rintro e w1 ⟨hd, e0, e3, e4, ⟨k, hk, e5⟩, h1⟩
    have hhl : (List.map (fun x => x.1) hs).length = hs.length := by simp
    have hhl2 : (List.map (fun x => x.2.1) hs).length = hs.length := by simp
    by_cases hlt : (k : Int) < hs.length
    · have hkh : k < hs.length := by omega
      have hkl : (k : Int) < ((List.map (fun x => x.1) hs).length : Nat) := by omega
      have hkl2 : (k : Int) < ((List.map (fun x => x.2.1) hs).length : Nat) := by omega
      obtain ⟨bh, oh, rfl, hH⟩ := h1.at1 (a := ah) (n := (List.map (fun x => x.1) hs).length) (c := ch) (xs := hs.map (·.1)) (k := k) (by simp; omega)
      obtain ⟨bt, ot, rfl, hT⟩ := h1.at1 (a := at') (n := (List.map (fun x => x.2.1) hs).length) (c := ct) (xs := hs.map (·.2.1)) (k := k) (by simp; omega)
      simp only [List.getElem_map] at hH hT
      have cB := h1.cl B
      have h2 := h1.drew
      have cB' : ∀ i, w1.drew.cell? ⟨B, i, none⟩ = _ := cB
      have hH' : w1.drew.cell? _ = _ := hH
      have hT' : w1.drew.cell? _ = _ := hT
      obtain ⟨_, _, hxl⟩ := okH hs[k] (List.getElem_mem hkh)
      simp -dsimp -implicitDefEqProofs (disch := omega) only [go_sem, reqD_of, dec_t, dec_f, wrap_i64, wrap_u32, wrap_u64, wrap_u8, hd, e0, e5, hkl, hkl2, cB, cB', hH, hH', hT, hT']
      refine (same_any h2 (lists_rd (List.getElem_mem hkh)).1 (lists_rd (List.getElem_mem hkh)).2 (by omega)).mono ?_
      rintro e' w3 ⟨h3, rfl⟩
      simp -dsimp -implicitDefEqProofs (disch := omega) only [go_sem, reqD_of, dec_t, dec_f, wrap_i64, wrap_u32, wrap_u64, wrap_u8, hd, e0, e3, e4, e5]
      exact ⟨⟨⟨k + 1, by omega, by omega⟩, h3⟩, by omega⟩
    · have : k = hs.length := by omega
      subst this
      have hkl : ¬ (hs.length : Int) < ((List.map (fun x => x.1) hs).length : Nat) := by omega
      have cB := h1.cl B
      simp -dsimp -implicitDefEqProofs (disch := omega) only [go_sem, reqD_of, dec_t, dec_f, wrap_i64, wrap_u32, wrap_u64, wrap_u8, hd, e0, e5, hkl, cB]
      refine turn_8 (B := B) (F := lists fs * F) (vl := .slice al E.length cl) (vm := vm) (vh := .slice ah (List.map (fun x => x.1) hs).length ch) (vt := .slice at' (List.map (fun x => x.2.1) hs).length ct) (vf := vf) (vw := vw) (tV := hs.map (·.2.1)) (fV := fs.map (·.1)) (wV := fs.map (·.2.1)) (Gs := Gs) okE okH (by omega) (by simp -dsimp -implicitDefEqProofs only [go_sem, hd]) (by simp -dsimp -implicitDefEqProofs only [go_sem, e0]) (by simp -dsimp -implicitDefEqProofs only [go_sem, e3]) (by simp -dsimp -implicitDefEqProofs only [go_sem, e4]) (h1.ac (by simp only [BB]; ac_rfl)) fun w' vl' vm' E' Gs' okE' hE' hw => ?_
      refine ⟨?_, rfl⟩
      have hw2 : St w0 (lists [] * (BB B vl' vm' vf vw (.slice none 0 0) (.slice none 0 0) E' (fs.map (·.1)) (fs.map (·.2.1)) (([] : OL).map (·.1)) (([] : OL).map (·.2.1)) (grps Gs' * (lists fs * F)))) w' := hw.ent (Ent.embL _)
      exact BookP.col (B := B) (n := n) vl' vm' vf vw (.slice none 0 0) (.slice none 0 0) E' fs [] Gs' hw2 ⟨okE', okF, (fun x hx => absurd hx (by simp)), by simp only [List.length_nil]; omega⟩

end

theorem ends_any {w0 w : World} {F : HP} {B n : Nat} (hn : n ≤ 100000000) (h : St w0 (BookP B n * F) w) :
    Calls Try.prog 17 #[.pointer (some ⟨B, 0, none⟩)] w fun e w' => St w0 (BookP B n * F) w' ∧ e = .returned (.bool true) := by
  refine F17.calls (by simp) ?_
  unfold F17.code
  simp -dsimp -implicitDefEqProofs (disch := omega) only [go_sem, reqD_of, dec_t, dec_f, wrap_i64, wrap_u32, wrap_u64, wrap_u8]
  refine (turn_any hn h).mono ?_
  rintro e w1 ⟨h1, rfl⟩
  simp -dsimp -implicitDefEqProofs (disch := omega) only [go_sem, reqD_of, dec_t, dec_f, wrap_i64, wrap_u32, wrap_u64, wrap_u8]
  refine (turn_any hn h1).mono ?_
  rintro e w2 ⟨h2, rfl⟩
  simp -dsimp -implicitDefEqProofs (disch := omega) only [go_sem, reqD_of, dec_t, dec_f, wrap_i64, wrap_u32, wrap_u64, wrap_u8]
  exact h2

end Go.Proofs.Ytfamclpajjnfbaa
