/- NamesWords: its parts. -/
import Derived.Test.YtlnlomjdooobdaaDoorNlI
import Derived.Test.YtlnlomjdooobdaaDoorNaV
namespace Go.Proofs.YtlnlomjdooobdaaDoor
open Go
set_option linter.unusedVariables false
set_option linter.unusedSimpArgs false
set_option maxRecDepth 100000

theorem quote_any {w0 w : World} {A : HP} (h : St w0 A w) (l : List UInt8) (hl : l.length ≤ 268435456) :
    Calls Tryd.prog 22 #[.string (strOf l)] w fun e w' => St w0 A w' ∧ e = .returned (.string (strOf (quoteF l))) := by
  refine (quote_raw w l hl).mono ?_
  rintro e w' ⟨hb, rfl⟩
  exact ⟨h.of_below hb, rfl⟩

section
attribute [local go_sem] F24.t5_eq F24.t6_eq F24.t8_eq F24.t3_eq
theorem alike_any {w0 w : World} {A : HP} (h : St w0 A w) {u v : Value} {ls : List (List UInt8)} (hu : Ent A (Reads 1 u ls.length (ls.map sv))) (hv : Ent A (Reads 1 v ls.length (ls.map sv))) (hn : ls.length ≤ 4611686018427387904) :
    Calls Tryd.prog 24 #[u, v] w fun e w' => St w0 A w' ∧ e = .returned (.bool true) := by
  obtain ⟨a, c, rfl, hc⟩ := readForm h hu
  obtain ⟨a2, c2, rfl, hc2⟩ := readForm h hv
  haveI i1 : Gives A (Reads 1 (.slice a ls.length c) ls.length (ls.map sv)) := ⟨hu⟩
  haveI i2 : Gives A (Reads 1 (.slice a2 ls.length c2) ls.length (ls.map sv)) := ⟨hv⟩
  refine F24.calls (by simp) ?_
  unfold F24.code
  simp -dsimp -implicitDefEqProofs (disch := omega) only [go_sem, reqD_of, dec_t, dec_f, wrap_i64, wrap_u32, wrap_u64, wrap_u8]
  refine loop_intro (fun e w' => St w0 A w' ∧ e.ds = [] ∧ e.ρ 0 = .slice a ls.length c ∧ e.ρ 1 = .slice a2 ls.length c2 ∧ ∃ i : Nat, i ≤ ls.length ∧ e.ρ 5 = .int .i64 i)
    (fun e _ => match e.ρ 5 with | .int _ n => (ls.length - n).toNat | _ => 0) ?_ ?_
  · exact ⟨h, by simp -dsimp -implicitDefEqProofs only [go_sem], by simp -dsimp -implicitDefEqProofs only [go_sem], by simp -dsimp -implicitDefEqProofs only [go_sem], 0, by omega, by simp -dsimp -implicitDefEqProofs only [go_sem]⟩
  rintro e w1 ⟨h1, hd, e0, e1, i, hi, e5⟩
  by_cases hlt : (i : Int) < ls.length
  case neg =>
    simp -dsimp -implicitDefEqProofs (disch := omega) only [go_sem, reqD_of, dec_t, dec_f, wrap_i64, wrap_u32, wrap_u64, wrap_u8, hd, e0, e1, e5, hlt]
    exact h1
  have hil : i < ls.length := by omega
  have h2 := h1.drew
  obtain ⟨b0, o0, rfl, c0⟩ := h2.atS (i := i1) (k := i) (by simpa using hil)
  obtain ⟨b1, o1, rfl, c1⟩ := h2.atS (i := i2) (k := i) (by simpa using hil)
  simp only [List.getElem_map] at c0 c1
  have dd : decide (ls[i] = ls[i]) = true := decide_eq_true rfl
  simp -dsimp -implicitDefEqProofs (disch := omega) only [go_sem, reqD_of, dec_t, dec_f, wrap_i64, wrap_u32, wrap_u64, wrap_u8, hd, e0, e1, e5, hlt, c0, c1, dd]
  exact ⟨⟨h2, i + 1, by omega, by omega⟩, by omega⟩

end
section
attribute [local go_sem] F9.t23_eq F9.t24_eq F9.t30_eq F9.t20_eq F9.t15_eq F9.t13_eq F9.t9_eq F9.t10_eq F9.t6_eq F9.t4_eq
theorem words_t31 {w0 w : World} {A : HP} [Gives A Tabs] {ls : List (List UInt8)} {line : List UInt8} {a : Option Addr} {c : Nat} {e : FA} {R : Ending → World → Prop} {θ : Tag (F9.t31, fnP Tryd.prog #[.tmp 4] R, e, w)}
    (hd : e.ds = []) (e0 : e.ρ 0 = .slice a ls.length c) (e6 : e.ρ 6 = .string (strOf line)) (hw : wordsF line = some ls) (hlen : line.length ≤ 1073741824) (hn : ls.length ≤ 4611686018427387904)
    (i0 : Gives A (Reads 1 (.slice a ls.length c) ls.length (ls.map sv))) (h : St w0 A w) (hQ : ∀ w', St w0 A w' → R (.returned (.bool true)) w') :
    cwE Tryd.prog F9.t31 (fnP Tryd.prog #[.tmp 4] R) e w θ := by
  rw [F9.t31_eq]
  simp -dsimp -implicitDefEqProofs (disch := omega) only [go_sem, reqD_of, dec_t, dec_f, wrap_i64, wrap_u32, wrap_u64, wrap_u8, hd, e0, e6]
  refine (words_any h (l := line) (by omega)).mono ?_
  rintro e' w1 (⟨ws, v, hws, h1, rfl⟩ | ⟨hws, _⟩)
  case inr => rw [hw] at hws; cases hws
  rw [hw] at hws
  obtain rfl := Option.some.inj hws
  simp -dsimp -implicitDefEqProofs (disch := omega) only [go_sem, reqD_of, dec_t, dec_f, wrap_i64, wrap_u32, wrap_u64, wrap_u8, hd, e0, e6]
  refine (alike_any h1 (u := v) (v := .slice a ls.length c) (ls := ls) ((Ent.left _ _).trans (RowO.reads _ _ _ _ _)) ((Ent.right _ _).trans i0.ent) hn).mono ?_
  rintro e' w2 ⟨h2, rfl⟩
  simp -dsimp -implicitDefEqProofs (disch := omega) only [go_sem, reqD_of, dec_t, dec_f, wrap_i64, wrap_u32, wrap_u64, wrap_u8, hd]
  exact hQ _ h2.right
theorem words_t26 {w0 w : World} {A : HP} {ls : List (List UInt8)} {line x : List UInt8} {a : Option Addr} {c i : Nat} {g : Value} {e : FA} {Q : Post} {θ : Tag (F9.t26, Q, e, w)}
    (hd : e.ds = []) (e0 : e.ρ 0 = .slice a ls.length c) (e1 : e.ρ 1 = g) (e6 : e.ρ 6 = .string (strOf line)) (e7 : e.ρ 7 = .int .i64 i) (e10 : e.ρ 10 = .string (strOf (quoteF x))) (hi : i < ls.length) (hx : x = ls.getD i [])
    (hlen : line.length ≤ 1073741824) (hs : ∀ s ∈ ls, s.length ≤ 67108864) (hn : ls.length ≤ 67108864)
    (i0 : Gives A (Reads 1 (.slice a ls.length c) ls.length (ls.map sv))) (h : St w0 A w)
    (hQ : ∀ (e' : FA) (w' : World), St w0 A w' → e'.ds = [] → e'.ρ 0 = .slice a ls.length c → e'.ρ 1 = g → e'.ρ 7 = .int .i64 i → e'.ρ 6 = .string (strOf (line ++ quoteF x)) → Q .normal e' w') :
    cwE Tryd.prog F9.t26 Q e w θ := by
  rw [F9.t26_eq]
  unfold F9.t30
  have hxe : x = ls[i] := by rw [hx, List.getD_eq_getElem?_getD, List.getElem?_eq_getElem hi]; rfl
  have hxl : x.length ≤ 67108864 := hxe ▸ hs _ (List.getElem_mem hi)
  have hql := quote_len x
  have a1 := binV_sadd (P := Tryd.prog) (T := 9) (a := line) (b := quoteF x) (by omega)
  by_cases h0 : (0 : Int) < i
  case neg =>
    simp -dsimp -implicitDefEqProofs (disch := omega) only [go_sem, reqD_of, dec_t, dec_f, wrap_i64, wrap_u32, wrap_u64, wrap_u8, hd, e0, e6, e7, e10, h0, a1]
    exact hQ _ w h (by simp -dsimp -implicitDefEqProofs only [go_sem, hd]) (by simp -dsimp -implicitDefEqProofs only [go_sem, e0]) (by simp -dsimp -implicitDefEqProofs only [go_sem, e1]) (by simp -dsimp -implicitDefEqProofs only [go_sem, e7]) (by simp -dsimp -implicitDefEqProofs only [go_sem])
  have him : i - 1 < ls.length := by omega
  obtain ⟨b0, o0, rfl, c0⟩ := h.atS (i := i0) (k := i - 1) (by simpa using him)
  simp only [List.getElem_map] at c0
  obtain ⟨y, hy⟩ : ∃ y, y = ls[i - 1] := ⟨_, rfl⟩
  have hyl : y.length ≤ 67108864 := hy ▸ hs _ (List.getElem_mem him)
  rw [← hy] at c0
  have g0 : (0 : Int) ≤ (i : Int) - 1 := by omega
  have g1 : ((i : Int) - 1).toNat = i - 1 := by omega
  have g2 : (i : Int) - 1 < ls.length := by omega
  have g3 : (i : Int) < ls.length := by omega
  simp -dsimp -implicitDefEqProofs (disch := omega) only [go_sem, reqD_of, dec_t, dec_f, wrap_i64, wrap_u32, wrap_u64, wrap_u8, hd, e0, e6, e7, e10, h0, g0, g1, g2, c0]
  refine (quote_any h y (by omega)).mono ?_
  rintro e' w1 ⟨h1, rfl⟩
  have h2 := h1.drew
  obtain ⟨b2, o2, hab, c2⟩ := h2.atS (i := i0) (k := i - 1) (by simpa using him)
  obtain ⟨rfl, rfl⟩ : b0 = b2 ∧ o0 = o2 := by cases hab; exact ⟨rfl, rfl⟩
  obtain ⟨b3, o3, hab3, c3⟩ := h2.atS (i := i0) (k := i) (by simpa using hi)
  obtain ⟨rfl, rfl⟩ : b0 = b3 ∧ o0 = o3 := by cases hab3; exact ⟨rfl, rfl⟩
  simp only [List.getElem_map] at c2 c3
  rw [← hy] at c2
  rw [← hxe] at c3
  have rr : (decide (quoteF y = quoteF x) == decide (y = x)) = true := by
    by_cases hyx : y = x
    · subst hyx; simp
    · have : ¬ quoteF y = quoteF x := fun k => hyx (quote_inj k)
      simp [hyx, this]
  simp -dsimp -implicitDefEqProofs (disch := omega) only [go_sem, reqD_of, dec_t, dec_f, wrap_i64, wrap_u32, wrap_u64, wrap_u8, hd, e0, e6, e7, e10, h0, g0, g1, g2, g3, c2, c3, rr, a1]
  exact hQ _ _ h2 (by simp -dsimp -implicitDefEqProofs only [go_sem, hd]) (by simp -dsimp -implicitDefEqProofs only [go_sem, e0]) (by simp -dsimp -implicitDefEqProofs only [go_sem, e1]) (by simp -dsimp -implicitDefEqProofs only [go_sem, e7]) (by simp -dsimp -implicitDefEqProofs only [go_sem])
end
end Go.Proofs.YtlnlomjdooobdaaDoor
