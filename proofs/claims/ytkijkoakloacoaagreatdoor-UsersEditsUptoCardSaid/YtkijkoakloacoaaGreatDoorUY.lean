/- law06: UsersEdits. -/
import Derived.Test.YtkijkoakloacoaaGreatDoorUX
namespace Go.Proofs.YtkijkoakloacoaaGreatDoor
open Go
set_option linter.unusedVariables false
set_option linter.unusedSimpArgs false
set_option maxRecDepth 100000

section
variable {w0 w : World} {A : HP} [Gives A Tabs] {e : FA} {vx vs : Value} {ts : List (List UInt8)} {L : List StD} {text : List UInt8}
section
attribute [local go_sem] F5.t9_eq F5.t10_eq F5.t31_eq F5.t30_eq F5.t24_eq F5.t25_eq F5.t38_eq F5.t39_eq F5.t42_eq F5.t17_eq F5.t11_eq
theorem edits_t13 (hs : ArgS A vs L) (hL : L.length ≤ 30) (hll : ∀ s ∈ L, s.2.length ≤ 8388608) (hts : ts.length ≤ 12) (ht : Ent A (ReadsT vx ts)) (hd : e.ds = []) (e0 : e.ρ 0 = .string (strOf text)) (e1 : e.ρ 1 = vs) (e2 : e.ρ 2 = vx) (e7 : e.ρ 7 = .bool true) (htl : text.length ≤ 140737488355328)
    (h : St w0 A w) :
    cwE Tryz.prog F5.t13 (fnP Tryz.prog #[.tmp 6] fun e w' => St w0 A w' ∧ e = .returned (.bool true)) e w := by
  rw [F5.t13_eq]
  have bb : ∀ q : Bool, (q == q) = true := fun q => beq_self_eq_true q
  simp -dsimp -implicitDefEqProofs (disch := omega) only [go_sem, reqD_of, dec_t, dec_f, wrap_i64, wrap_u32, wrap_u64, wrap_u8, hd, e0]
  refine (parse_any h text).mono ?_
  rintro e' w2 (⟨T, mm, x, hr, ok, h2, rfl⟩ | ⟨k, n, hr, h2, rfl⟩)
  case inr =>
    simp -dsimp -implicitDefEqProofs (disch := omega) only [go_sem, reqD_of, dec_t, dec_f, wrap_i64, wrap_u32, wrap_u64, wrap_u8, hd, e0, e7]
    refine (rparse_any h2 text (by omega)).mono ?_
    rw [hr]
    rintro e' w3 (⟨U, y, hr', _⟩ | ⟨k', n', hr', h3, rfl⟩)
    · cases hr'
    cases hr'
    simp -dsimp -implicitDefEqProofs (disch := omega) only [go_sem, reqD_of, dec_t, dec_f, wrap_i64, wrap_u32, wrap_u64, wrap_u8, hd, e0, e7, bb]
    exact h3
  simp -dsimp -implicitDefEqProofs (disch := omega) only [go_sem, reqD_of, dec_t, dec_f, wrap_i64, wrap_u32, wrap_u64, wrap_u8, hd, e0, e7]
  refine (rparse_any h2 text (by omega)).mono ?_
  rw [hr]
  rintro e' w3 (⟨U, y, hr', oky, h3, rfl⟩ | ⟨k', n', hr', _⟩)
  case inr => cases hr'
  have he : accs x.L = accs y.L := by simpa using hr'
  simp -dsimp -implicitDefEqProofs (disch := omega) only [go_sem, reqD_of, dec_t, dec_f, wrap_i64, wrap_u32, wrap_u64, wrap_u8, hd, e0, e7, bb]
  exact edits_t19 ok oky he hs hL hll hts ht (by simp -dsimp -implicitDefEqProofs only [go_sem, hd]) (by simp -dsimp -implicitDefEqProofs only [go_sem, e1]) (by simp -dsimp -implicitDefEqProofs only [go_sem, e2]) (by simp -dsimp -implicitDefEqProofs only [go_sem]) (by simp -dsimp -implicitDefEqProofs only [go_sem]) h3.sw2

theorem edits_t6 (hs : ArgS A vs L) (hL : L.length ≤ 30) (hts : ts.length ≤ 12) (ht : Ent A (ReadsT vx ts)) (hb : ∀ t ∈ ts, t.length ≤ 140737488355328) (hd : e.ds = []) (e0 : e.ρ 0 = .string (strOf text)) (e1 : e.ρ 1 = vs) (e2 : e.ρ 2 = vx) (e7 : e.ρ 7 = .bool true) (htl : text.length ≤ 140737488355328)
    (h : St w0 A w) :
    cwE Tryz.prog F5.t6 (fnP Tryz.prog #[.tmp 6] fun e w' => St w0 A w' ∧ e = .returned (.bool true)) e w := by
  rw [F5.t6_eq]
  obtain ⟨sa, sc, rfl, _, hso⟩ := hs.form h
  obtain ⟨ax, cx, rfl, _⟩ := h.texts ht
  simp -dsimp -implicitDefEqProofs (disch := omega) only [go_sem, reqD_of, dec_t, dec_f, wrap_i64, wrap_u32, wrap_u64, wrap_u8, hd, e0, e1, e2]
  refine (many_any h ht hb (by omega)).mono ?_
  rintro e' w1 ⟨h1, m, rfl, hm0, hm1, hmq⟩
  simp -dsimp -implicitDefEqProofs (disch := omega) only [go_sem, reqD_of, dec_t, dec_f, wrap_i64, wrap_u32, wrap_u64, wrap_u8, hd, e0, e1, e2]
  refine loop_intro (fun e w' => e.ds = [] ∧ e.ρ 0 = .string (strOf text) ∧ e.ρ 1 = .slice sa L.length sc ∧ e.ρ 2 = .slice ax ts.length cx ∧ e.ρ 7 = .bool true ∧ St w0 A w' ∧ ∃ (i : Nat) (n : Int), i ≤ L.length ∧ e.ρ 9 = .int .i64 i ∧ e.ρ 8 = .int .i64 n ∧ (∀ j, j < i → ∀ hj : j < L.length, (L[j].2.length : Int) ≤ n) ∧ 0 ≤ n ∧ n ≤ 281474985099328 + 140737488355328 * i)
    (fun e _ => match e.ρ 9 with | .int _ n => (L.length - n).toNat | _ => 0) ?_ ?_
  · exact ⟨by simp -dsimp -implicitDefEqProofs only [go_sem, hd], by simp -dsimp -implicitDefEqProofs only [go_sem, e0], by simp -dsimp -implicitDefEqProofs only [go_sem, e1], by simp -dsimp -implicitDefEqProofs only [go_sem, e2], by simp -dsimp -implicitDefEqProofs only [go_sem, e7], h1, 0, (text.length : Int) + m, by omega, by simp -dsimp -implicitDefEqProofs only [go_sem], by simp -dsimp -implicitDefEqProofs only [go_sem], fun j hj => by omega, by omega, by omega⟩
  clear h h1 hd e0 e1 e2 e7
  rintro e w ⟨hd, e0, e1, e2, e7, h, i, n, hi, e9, e8, hn, hn0, hn1⟩
  by_cases hlt : (i : Int) < (L.length : Int)
  case neg =>
    by_cases hbig : n > 8388608
    · simp -dsimp -implicitDefEqProofs (disch := omega) only [go_sem, reqD_of, dec_t, dec_f, wrap_i64, wrap_u32, wrap_u64, wrap_u8, hd, e0, e1, e2, e7, e8, e9, hlt, hbig]
      exact h
    simp -dsimp -implicitDefEqProofs (disch := omega) only [go_sem, reqD_of, dec_t, dec_f, wrap_i64, wrap_u32, wrap_u64, wrap_u8, hd, e0, e1, e2, e7, e8, e9, hlt, hbig]
    refine edits_t13 hs hL (fun s hs' => ?_) hts ht (by simp -dsimp -implicitDefEqProofs only [go_sem, hd]) (by simp -dsimp -implicitDefEqProofs only [go_sem, e0]) (by simp -dsimp -implicitDefEqProofs only [go_sem, e1]) (by simp -dsimp -implicitDefEqProofs only [go_sem, e2]) (by simp -dsimp -implicitDefEqProofs only [go_sem, e7]) htl h
    obtain ⟨j, hj, rfl⟩ := List.getElem_of_mem hs'
    have := hn j (by omega) hj
    omega
  have hi1 : i < L.length := by omega
  obtain ⟨b, o, rfl⟩ := hso i hi1
  obtain ⟨c1, c2⟩ := hs.cells h (Ent.rfl' _) hi1
  have hln := hs.line _ (List.getElem_mem hi1)
  simp -dsimp -implicitDefEqProofs (disch := omega) only [go_sem, reqD_of, dec_t, dec_f, wrap_i64, wrap_u32, wrap_u64, wrap_u8, hd, e0, e1, e2, e7, e8, e9, hlt, c2, sv]
  refine ⟨⟨h, i + 1, n + L[i].2.length, by omega, by omega, by first | rfl | (congr 1; omega), fun j hj hjl => ?_, by omega, by omega⟩, by omega⟩
  by_cases hji : j = i
  · subst hji; omega
  · have := hn j (by omega) hjl; omega

theorem edits_t4 (hs : ArgS A vs L) (hts : ts.length ≤ 12) (ht : Ent A (ReadsT vx ts)) (hb : ∀ t ∈ ts, t.length ≤ 140737488355328) (hd : e.ds = []) (e0 : e.ρ 0 = .string (strOf text)) (e1 : e.ρ 1 = vs) (e2 : e.ρ 2 = vx) (e7 : e.ρ 7 = .bool true) (htl : text.length ≤ 140737488355328)
    (h : St w0 A w) :
    cwE Tryz.prog F5.t4 (fnP Tryz.prog #[.tmp 6] fun e w' => St w0 A w' ∧ e = .returned (.bool true)) e w := by
  rw [F5.t4_eq]
  obtain ⟨sa, sc, rfl, hsc, _⟩ := hs.form h
  have hsl := hs.len
  by_cases hlt : (L.length : Int) > 30
  · have hc30 : (30 : Int) ≤ sc := by omega
    simp -dsimp -implicitDefEqProofs (disch := omega) only [go_sem, reqD_of, dec_t, dec_f, wrap_i64, wrap_u32, wrap_u64, wrap_u8, hd, e1, hlt, hc30]
    exact edits_t6 (hs.take (k := 30) (by omega)) (by simp; omega) hts ht hb (by simp -dsimp -implicitDefEqProofs only [go_sem, hd]) (by simp -dsimp -implicitDefEqProofs only [go_sem, e0]) (by simp -dsimp -implicitDefEqProofs only [go_sem]) (by simp -dsimp -implicitDefEqProofs only [go_sem, e2]) (by simp -dsimp -implicitDefEqProofs only [go_sem, e7]) htl h
  · simp -dsimp -implicitDefEqProofs (disch := omega) only [go_sem, reqD_of, dec_t, dec_f, wrap_i64, wrap_u32, wrap_u64, wrap_u8, hd, e1, hlt]
    exact edits_t6 hs (by omega) hts ht hb (by simp -dsimp -implicitDefEqProofs only [go_sem, hd]) (by simp -dsimp -implicitDefEqProofs only [go_sem, e0]) (by simp -dsimp -implicitDefEqProofs only [go_sem, e1]) (by simp -dsimp -implicitDefEqProofs only [go_sem, e2]) (by simp -dsimp -implicitDefEqProofs only [go_sem, e7]) htl h
end
end

section
attribute [local go_sem] F5.t9_eq F5.t10_eq F5.t31_eq F5.t30_eq F5.t24_eq F5.t25_eq F5.t38_eq F5.t39_eq F5.t42_eq F5.t17_eq F5.t11_eq
theorem usersEdits_law {w0 w : World} {A : HP} (h : St w0 A w) [Gives A Tabs] {text : List UInt8} {vs vx : Value} {L : List StD} {ts : List (List UInt8)} (htl : text.length ≤ 140737488355328) (hs : ArgS A vs L) (ht : Ent A (ReadsT vx ts)) (hb : ∀ t ∈ ts, t.length ≤ 140737488355328) (hl : ts.length ≤ 4611686018427387904) :
    Calls Tryz.prog 5 #[.string (strOf text), vs, vx] w fun e w' => St w0 A w' ∧ e = .returned (.bool true) := by
  obtain ⟨sa, sc, rfl, hsc, _⟩ := hs.form h
  obtain ⟨a1, c1, rfl, hc1, _⟩ := h.texts ht
  refine F5.calls (by simp) ?_
  unfold F5.code
  simp -dsimp -implicitDefEqProofs (disch := omega) only [go_sem, reqD_of, dec_t, dec_f, wrap_i64, wrap_u32, wrap_u64, wrap_u8]
  refine (example_any h).mono ?_
  rintro e w1 ⟨h1, rfl⟩
  by_cases hlt : (ts.length : Int) > 6
  · have hc6 : (6 : Int) ≤ c1 := by omega
    have ht2 := ht.trans (ReadsT.take (a := a1) (c := c1) (k := 6) (ls := ts) (by omega))
    simp -dsimp -implicitDefEqProofs (disch := omega) only [go_sem, reqD_of, dec_t, dec_f, wrap_i64, wrap_u32, wrap_u64, wrap_u8, hlt, hc6]
    exact edits_t4 hs (by simp; omega) ht2 (fun t hm => hb t (List.mem_of_mem_take hm)) (by simp -dsimp -implicitDefEqProofs only [go_sem]) (by simp -dsimp -implicitDefEqProofs only [go_sem]) (by simp -dsimp -implicitDefEqProofs only [go_sem]) (by simp -dsimp -implicitDefEqProofs only [go_sem]) (by simp -dsimp -implicitDefEqProofs only [go_sem]) htl h1
  · simp -dsimp -implicitDefEqProofs (disch := omega) only [go_sem, reqD_of, dec_t, dec_f, wrap_i64, wrap_u32, wrap_u64, wrap_u8, hlt]
    exact edits_t4 hs (by omega) ht hb (by simp -dsimp -implicitDefEqProofs only [go_sem]) (by simp -dsimp -implicitDefEqProofs only [go_sem]) (by simp -dsimp -implicitDefEqProofs only [go_sem]) (by simp -dsimp -implicitDefEqProofs only [go_sem]) (by simp -dsimp -implicitDefEqProofs only [go_sem]) htl h1

/-! ### The argument of steps -/

abbrev rStep : Rdr (Int × ByteArray × Unit) := rCons 1 (rInt .i64) (rCons 1 rStr rEnd)
theorem rStep_cells {x : Int × ByteArray × Unit} {cs : List Value} {h : Heap} (r : rStep.rel x cs h) : ∃ y : StD, cs = stC y ∧ InI y.1 ∧ y.2.length ≤ 140737488355328 := by
  obtain ⟨_, _, rfl, _, ⟨rfl, w1⟩, _, _, rfl, _, ⟨rfl, w3⟩, rfl⟩ := r
  have hq : reachBytes = 140737488351232 := rfl
  have hw := wf_i64 w1
  rw [Lib.size_eq] at w3
  refine ⟨(x.1, x.2.1.data.toList), by simp [stC, sv, strOf_eta], ⟨hw.1, by show x.1 < _; omega⟩, ?_⟩
  show x.2.1.data.toList.length ≤ _
  omega
theorem steps_arg {xs : List (Int × ByteArray × Unit)} {v : Value} {W : World} (c : (rSlice 2 24 rStep).rel xs [v] (heapOf W)) : ∃ L : List StD, (∃ a c, v = .slice a L.length c) ∧ ArgS (Old W) v L := by
  obtain ⟨L, hl, h1, h2⟩ := rSlice_choose (β := StD) (enc := stC) (p := fun y h => InI y.1 ∧ y.2.length ≤ 140737488355328) (fun x cs h r => rStep_cells r) stC_len c
  have hb := rSlice_len c
  have hq : reachBytes = 140737488351232 := rfl
  have hr : Ent (Old W) (Reads 2 v L.length (L.flatMap stC)) := Ent.of fun _ ho => Reads.mono (fun b o e => ho b o e) h2
  obtain ⟨_, a, c', e, _⟩ := St.rowsAt stC_len (by decide) ((St.start W).ent hr)
  exact ⟨L, ⟨a, c', e⟩, hr, fun y hy => (h1 y hy).1, fun y hy => (h1 y hy).2, by omega⟩
end
end Go.Proofs.YtkijkoakloacoaaGreatDoor
