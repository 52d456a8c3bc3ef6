/- NamesWords. -/
import Derived.Test.YtlnlomjdooobdaaDoorNaZa
import Derived.Test.YtlnlomjdooobdaaDoorNaT
namespace Go.Proofs.YtlnlomjdooobdaaDoor
open Go
set_option linter.unusedVariables false
set_option linter.unusedSimpArgs false
set_option maxRecDepth 100000

section
attribute [local go_sem] F9.t23_eq F9.t24_eq F9.t30_eq F9.t20_eq F9.t15_eq F9.t13_eq F9.t9_eq F9.t10_eq F9.t6_eq F9.t4_eq
theorem words_t18 {w0 w : World} {A : HP} {ls : List (List UInt8)} {line g : List UInt8} {a : Option Addr} {c i : Nat} {gs : Value} {e : FA} {Q : Post} {θ : Tag (F9.t18, Q, e, w)}
    (hd : e.ds = []) (e0 : e.ρ 0 = .slice a ls.length c) (e1 : e.ρ 1 = gs) (e6 : e.ρ 6 = .string (strOf line)) (e7 : e.ρ 7 = .int .i64 i) (e9 : e.ρ 9 = .string (strOf g)) (hi : i ≤ ls.length)
    (hlen : line.length + g.length ≤ 1073741824) (hs : ∀ s ∈ ls, s.length ≤ 67108864) (hn : ls.length ≤ 67108864)
    (i0 : Gives A (Reads 1 (.slice a ls.length c) ls.length (ls.map sv))) (h : St w0 A w)
    (hX : i = ls.length → ∀ (e' : FA) (w' : World), St w0 A w' → e'.ds = [] → e'.ρ 0 = .slice a ls.length c → e'.ρ 6 = .string (strOf (line ++ g)) → Q (.exit 0) e' w')
    (hQ : i < ls.length → ∀ (e' : FA) (w' : World), St w0 A w' → e'.ds = [] → e'.ρ 0 = .slice a ls.length c → e'.ρ 1 = gs → e'.ρ 7 = .int .i64 i → e'.ρ 6 = .string (strOf (line ++ g ++ quoteF (ls.getD i []))) → Q .normal e' w') :
    cwE Tryd.prog F9.t18 Q e w θ := by
  rw [F9.t18_eq]
  have a1 := binV_sadd (P := Tryd.prog) (T := 9) (a := line) (b := g) (by omega)
  by_cases hil : (i : Int) = ls.length
  · simp -dsimp -implicitDefEqProofs (disch := omega) only [go_sem, reqD_of, dec_t, dec_f, wrap_i64, wrap_u32, wrap_u64, wrap_u8, hd, e0, e6, e7, e9, a1, hil]
    exact hX (by omega) _ w h (by simp -dsimp -implicitDefEqProofs only [go_sem, hd]) (by simp -dsimp -implicitDefEqProofs only [go_sem, e0]) (by simp -dsimp -implicitDefEqProofs only [go_sem])
  have hlt : i < ls.length := by omega
  obtain ⟨b0, o0, rfl, c0⟩ := h.atS (i := i0) (k := i) (by simpa using hlt)
  simp only [List.getElem_map] at c0
  obtain ⟨x, hx⟩ : ∃ x, x = ls[i] := ⟨_, rfl⟩
  have hxe : x = ls.getD i [] := by rw [hx, List.getD_eq_getElem?_getD, List.getElem?_eq_getElem hlt]; rfl
  have hxl : x.length ≤ 67108864 := hx ▸ hs _ (List.getElem_mem hlt)
  have hql := quote_len x
  rw [← hx] at c0
  have g3 : (i : Int) < ls.length := by omega
  unfold F9.t20
  simp -dsimp -implicitDefEqProofs (disch := omega) only [go_sem, reqD_of, dec_t, dec_f, wrap_i64, wrap_u32, wrap_u64, wrap_u8, hd, e0, e6, e7, e9, a1, hil, g3, c0]
  refine (quote_any h x (by omega)).mono ?_
  rintro e' w1 ⟨h1, rfl⟩
  simp -dsimp -implicitDefEqProofs (disch := omega) only [go_sem, reqD_of, dec_t, dec_f, wrap_i64, wrap_u32, wrap_u64, wrap_u8, hd, e0, e6, e7, e9]
  refine loop_intro (fun e w' => w' = w1 ∧ e.ds = [] ∧ e.ρ 0 = .slice (some ⟨b0, o0, none⟩) ls.length c ∧ e.ρ 1 = gs ∧ e.ρ 6 = .string (strOf (line ++ g)) ∧ e.ρ 7 = .int .i64 i ∧ e.ρ 10 = .string (strOf (quoteF x)) ∧
      ∃ k : Nat, k ≤ (quoteF x).length ∧ e.ρ 11 = .int .i64 k)
    (fun e _ => match e.ρ 11 with | .int _ n => ((quoteF x).length - n).toNat | _ => 0) ?_ ?_
  · exact ⟨by simp -dsimp -implicitDefEqProofs only [go_sem], by simp -dsimp -implicitDefEqProofs only [go_sem, hd], by simp -dsimp -implicitDefEqProofs only [go_sem, e0], by simp -dsimp -implicitDefEqProofs only [go_sem, e1], by simp -dsimp -implicitDefEqProofs only [go_sem], by simp -dsimp -implicitDefEqProofs only [go_sem, e7], by simp -dsimp -implicitDefEqProofs only [go_sem], 0, by omega, by simp -dsimp -implicitDefEqProofs only [go_sem]⟩
  clear hd e0 e1 e6 e7 e9
  rintro e w2 ⟨rfl, hd, e0, e1, e6, e7, e10, k, hk, e11⟩
  by_cases hlk : (k : Int) < (quoteF x).length
  case neg =>
    simp -dsimp -implicitDefEqProofs (disch := omega) only [go_sem, reqD_of, dec_t, dec_f, wrap_i64, wrap_u32, wrap_u64, wrap_u8, hd, e10, e11, hlk]
    refine words_t26 (x := x) (ls := ls) (line := line ++ g) (a := some ⟨b0, o0, none⟩) (c := c) (i := i) (g := gs) (by simp -dsimp -implicitDefEqProofs only [go_sem, hd]) (by simp -dsimp -implicitDefEqProofs only [go_sem, e0]) (by simp -dsimp -implicitDefEqProofs only [go_sem, e1]) (by simp -dsimp -implicitDefEqProofs only [go_sem, e6]) (by simp -dsimp -implicitDefEqProofs only [go_sem, e7]) (by simp -dsimp -implicitDefEqProofs only [go_sem, e10]) hlt hxe (by simp; omega) hs hn i0 h1 ?_
    intro e' w' h' d' k0 k1 k7 k6
    rw [hxe] at k6
    exact hQ hlt e' w' h' d' k0 k1 k7 k6
  have hkl : k < (quoteF x).length := by omega
  have hr := quote_range x ((quoteF x).getD k 0) (by rw [List.getD_eq_getElem?_getD, List.getElem?_eq_getElem hkl]; exact List.getElem_mem hkl)
  obtain ⟨n, hn'⟩ : ∃ n, n = ((quoteF x).getD k 0).toNat := ⟨_, rfl⟩
  rw [← hn'] at hr
  have z1 : ¬ (n : Int) < 32 := by omega
  have z2 : ¬ (126 : Int) < n := by omega
  simp -dsimp -implicitDefEqProofs (disch := omega) only [go_sem, reqD_of, dec_t, dec_f, wrap_i64, wrap_u32, wrap_u64, wrap_u8, hd, e0, e1, e6, e7, e10, e11, hlk, ← hn', z1, z2]
  exact ⟨⟨k + 1, by omega, by omega⟩, by omega⟩

def gaps4 : List (List UInt8) := [[32], [9], [32, 32], [32, 9, 32]]
theorem gaps4_blank {g : List UInt8} (h : g ∈ gaps4) : Blank g ∧ g ≠ [] ∧ g.length ≤ 3 := by
  simp only [gaps4, List.mem_cons, List.mem_nil_iff, or_false] at h
  rcases h with rfl | rfl | rfl | rfl
  · exact ⟨by intro c hc; simp at hc; subst hc; decide, by simp, by simp⟩
  · exact ⟨by intro c hc; simp at hc; subst hc; decide, by simp, by simp⟩
  · exact ⟨by intro c hc; simp at hc; subst hc; decide, by simp, by simp⟩
  · exact ⟨by intro c hc; simp at hc; rcases hc with rfl | rfl | rfl <;> decide, by simp, by simp⟩
theorem Blank.nil : Blank [] := fun c hc => by simp at hc
end
section
attribute [local go_sem] F9.t23_eq F9.t24_eq F9.t30_eq F9.t20_eq F9.t13_eq F9.t9_eq F9.t10_eq F9.t6_eq F9.t4_eq
theorem words_t15 {w0 w : World} {A : HP} {ls : List (List UInt8)} {line : List UInt8} {a : Option Addr} {c i n : Nat} {gs : Value} {e : FA} {Q : Post} {θ : Tag (F9.t15, Q, e, w)}
    (hd : e.ds = []) (e0 : e.ρ 0 = .slice a ls.length c) (e1 : e.ρ 1 = gs) (e6 : e.ρ 6 = .string (strOf line)) (e7 : e.ρ 7 = .int .i64 i) (e8 : e.ρ 8 = .int .i64 n) (hi : i ≤ ls.length)
    (hlen : line.length ≤ 1073741820) (hs : ∀ s ∈ ls, s.length ≤ 67108864) (hn : ls.length ≤ 67108864) (hL : LineI ls i line)
    (i0 : Gives A (Reads 1 (.slice a ls.length c) ls.length (ls.map sv))) (h : St w0 A w)
    (hX : i = ls.length → ∀ (e' : FA) (w' : World) (line' : List UInt8), St w0 A w' → e'.ds = [] → e'.ρ 0 = .slice a ls.length c → e'.ρ 6 = .string (strOf line') → wordsF line' = some ls → line'.length ≤ line.length + 3 → Q (.exit 0) e' w')
    (hQ : i < ls.length → ∀ (e' : FA) (w' : World) (line' : List UInt8), St w0 A w' → e'.ds = [] → e'.ρ 0 = .slice a ls.length c → e'.ρ 1 = gs → e'.ρ 7 = .int .i64 i → e'.ρ 6 = .string (strOf line') → LineI ls (i + 1) line' →
      line'.length ≤ line.length + 5 + 4 * (ls.getD i []).length → Q .normal e' w') :
    cwE Tryd.prog F9.t15 Q e w θ := by
  rw [F9.t15_eq]
  obtain ⟨k, hk⟩ : ∃ k, k = n % 4 := ⟨_, rfl⟩
  have hk4 : k < 4 := hk ▸ Nat.mod_lt _ (by omega)
  have m1 : ((n : Int)).tmod 4 = (k : Int) := hk ▸ rfl
  obtain ⟨j, hj⟩ : ∃ j, j = n % 3 := ⟨_, rfl⟩
  have m2 : ((n : Int)).tmod 3 = (j : Int) := hj ▸ rfl
  have hk4' : (k : Int) < 4 := by omega
  simp -dsimp -implicitDefEqProofs (disch := omega) only [go_sem, reqD_of, dec_t, dec_f, wrap_i64, wrap_u32, wrap_u64, wrap_u8, hd, e0, e6, e7, e8]
  refine h.lit (t := 24) (cells := gaps4.map sv) fact_rowTy_24 rfl (by decide) (by decide) fun v8 w8 h8 => ?_
  obtain ⟨a8, c8, rfl, _⟩ := h8.rowForm v8
  obtain ⟨b8, o8, rfl, c8'⟩ := h8.atS (a := a8) (n := 4) (c := c8) (xs := gaps4.map sv) (k := k) (by simpa [gaps4] using hk4)
  simp only [List.getElem_map] at c8'
  obtain ⟨g, hg⟩ : ∃ g, g = gaps4[k]'(by simpa [gaps4] using hk4) := ⟨_, rfl⟩
  have hgb := gaps4_blank (g := g) (hg ▸ List.getElem_mem _)
  rw [← hg] at c8'
  have go : ∀ (g' : List UInt8) {e' : FA} {θ}, Blank g' → g'.length ≤ 3 → (i ≠ 0 → i ≠ ls.length → g' ≠ []) → e'.ds = [] → e'.ρ 0 = .slice a ls.length c → e'.ρ 1 = gs → e'.ρ 6 = .string (strOf line) → e'.ρ 7 = .int .i64 i → e'.ρ 9 = .string (strOf g') →
      cwE Tryd.prog F9.t18 Q e' w8 θ := by
    intro g' e' θ hb hl3 hne d' k0 k1 k6 k7 k9
    refine words_t18 (ls := ls) (line := line) (g := g') (a := a) (c := c) (i := i) (gs := gs) d' k0 k1 k6 k7 k9 hi (by omega) hs hn i0 h8.right ?_ ?_
    · intro hil e2 w2 h2 d2 k02 k62
      refine hX hil e2 w2 _ h2 d2 k02 k62 ?_ (by simp; omega)
      exact LineI.done (hil ▸ hL) hb
    · intro hil e2 w2 h2 d2 k02 k12 k72 k62
      have hql := quote_len (ls.getD i [])
      refine hQ hil e2 w2 _ h2 d2 k02 k12 k72 k62 (hL.word hil hb fun h0 => hne h0 (by omega)) ?_
      simp only [List.length_append]; omega
  by_cases h0 : (i : Int) = 0
  · by_cases h3 : (j : Int) = 0
    · simp -dsimp -implicitDefEqProofs (disch := omega) only [go_sem, reqD_of, dec_t, dec_f, wrap_i64, wrap_u32, wrap_u64, wrap_u8, hd, e0, e6, e7, e8, m1, m2, hk4', c8', h0, h3]
      exact go [] Blank.nil (by simp) (fun h => absurd (by omega) h) (by simp -dsimp -implicitDefEqProofs only [go_sem, hd]) (by simp -dsimp -implicitDefEqProofs only [go_sem, e0]) (by simp -dsimp -implicitDefEqProofs only [go_sem, e1]) (by simp -dsimp -implicitDefEqProofs only [go_sem, e6]) (by simp -dsimp -implicitDefEqProofs only [go_sem, e7]) (by simp -dsimp -implicitDefEqProofs only [go_sem])
    · simp -dsimp -implicitDefEqProofs (disch := omega) only [go_sem, reqD_of, dec_t, dec_f, wrap_i64, wrap_u32, wrap_u64, wrap_u8, hd, e0, e6, e7, e8, m1, m2, hk4', c8', h0, h3]
      exact go g hgb.1 hgb.2.2 (fun _ _ => hgb.2.1) (by simp -dsimp -implicitDefEqProofs only [go_sem, hd]) (by simp -dsimp -implicitDefEqProofs only [go_sem, e0]) (by simp -dsimp -implicitDefEqProofs only [go_sem, e1]) (by simp -dsimp -implicitDefEqProofs only [go_sem, e6]) (by simp -dsimp -implicitDefEqProofs only [go_sem, e7]) (by simp -dsimp -implicitDefEqProofs only [go_sem])
  by_cases hil : (i : Int) = ls.length
  · by_cases h3 : (j : Int) = 0
    · simp -dsimp -implicitDefEqProofs (disch := omega) only [go_sem, reqD_of, dec_t, dec_f, wrap_i64, wrap_u32, wrap_u64, wrap_u8, hd, e0, e6, e7, e8, m1, m2, hk4', c8', h0, hil, h3]
      exact go [] Blank.nil (by simp) (fun _ h => absurd (by omega) h) (by simp -dsimp -implicitDefEqProofs only [go_sem, hd]) (by simp -dsimp -implicitDefEqProofs only [go_sem, e0]) (by simp -dsimp -implicitDefEqProofs only [go_sem, e1]) (by simp -dsimp -implicitDefEqProofs only [go_sem, e6]) (by simp -dsimp -implicitDefEqProofs only [go_sem, e7]) (by simp -dsimp -implicitDefEqProofs only [go_sem])
    · simp -dsimp -implicitDefEqProofs (disch := omega) only [go_sem, reqD_of, dec_t, dec_f, wrap_i64, wrap_u32, wrap_u64, wrap_u8, hd, e0, e6, e7, e8, m1, m2, hk4', c8', h0, hil, h3]
      exact go g hgb.1 hgb.2.2 (fun _ _ => hgb.2.1) (by simp -dsimp -implicitDefEqProofs only [go_sem, hd]) (by simp -dsimp -implicitDefEqProofs only [go_sem, e0]) (by simp -dsimp -implicitDefEqProofs only [go_sem, e1]) (by simp -dsimp -implicitDefEqProofs only [go_sem, e6]) (by simp -dsimp -implicitDefEqProofs only [go_sem, e7]) (by simp -dsimp -implicitDefEqProofs only [go_sem])
  simp -dsimp -implicitDefEqProofs (disch := omega) only [go_sem, reqD_of, dec_t, dec_f, wrap_i64, wrap_u32, wrap_u64, wrap_u8, hd, e0, e6, e7, e8, m1, m2, hk4', c8', h0, hil]
  exact go g hgb.1 hgb.2.2 (fun _ _ => hgb.2.1) (by simp -dsimp -implicitDefEqProofs only [go_sem, hd]) (by simp -dsimp -implicitDefEqProofs only [go_sem, e0]) (by simp -dsimp -implicitDefEqProofs only [go_sem, e1]) (by simp -dsimp -implicitDefEqProofs only [go_sem, e6]) (by simp -dsimp -implicitDefEqProofs only [go_sem, e7]) (by simp -dsimp -implicitDefEqProofs only [go_sem])
end
end Go.Proofs.YtlnlomjdooobdaaDoor
