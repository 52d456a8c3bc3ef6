/- names.Match: takes, begin. -/
import Derived.Test.YtlnlomjdooobdaaDoorNaL
namespace Go.Proofs.YtlnlomjdooobdaaDoor
open Go
set_option linter.unusedVariables false
set_option linter.unusedSimpArgs false
set_option maxRecDepth 100000

/-- Does the piece take the character? -/
def takesF (p : Pc) (c : Nat) : Bool := if p.2.2.any (fun s => decide (s.1 ≤ c) && decide (c ≤ s.2)) then !p.2.1 else p.2.1

section
attribute [local go_sem] F32.t6_eq F32.t3_eq
theorem takes_any {w0 w : World} {A : HP} {p : Pc} {u : Value} {c : Nat} (h : St w0 A w) (hr : Ent A (Reads 2 u p.2.2.length (p.2.2.flatMap spV))) (hs : p.2.2.length ≤ 9223372036854775807) :
    Calls Tryd.prog 32 #[.agg #[.bool p.1, .bool p.2.1, u], rv c] w fun e w' => St w0 A w' ∧ e = .returned (.bool (takesF p c)) := by
  obtain ⟨row, tn, ss⟩ := p
  simp only at hr hs ⊢
  obtain ⟨_, a, cc, rfl, hcc, _⟩ := St.rowsAt (enc := spV) (k := 2) (l := ss) (fun _ => rfl) (by decide) (h.ent hr)
  refine F32.calls (by simp) ?_
  unfold F32.code
  simp -dsimp -implicitDefEqProofs (disch := omega) only [go_sem, reqD_of, dec_t, dec_f, wrap_i64, wrap_u32, wrap_u64, wrap_u8]
  refine h.new fun P2 w1 h1 => ?_
  have c2 := h1.cl P2
  simp -dsimp -implicitDefEqProofs (disch := omega) only [go_sem, reqD_of, dec_t, dec_f, wrap_i64, wrap_u32, wrap_u64, wrap_u8, c2]
  refine loop_intro (fun e w' => e.ds = [] ∧ e.ρ 1 = rv c ∧ e.ρ 2 = .pointer (some ⟨P2, 0, none⟩) ∧ e.ρ 8 = .slice a ss.length cc ∧ e.ρ 9 = .int .i64 ss.length ∧
      ∃ i : Nat, i ≤ ss.length ∧ e.ρ 10 = .int .i64 i ∧ ss.any (fun s => decide (s.1 ≤ c) && decide (c ≤ s.2)) = (ss.drop i).any (fun s => decide (s.1 ≤ c) && decide (c ≤ s.2)) ∧
        St w0 (Blk P2 (.cells #[.bool row, .bool tn, .slice a ss.length cc] 62 (0, 0)) * A) w')
    (fun e _ => match e.ρ 10 with | .int _ n => (ss.length - n).toNat | _ => 0) ?_ ?_
  · exact ⟨rfl, by simp -dsimp -implicitDefEqProofs only [go_sem], by simp -dsimp -implicitDefEqProofs only [go_sem], by simp -dsimp -implicitDefEqProofs only [go_sem], by simp -dsimp -implicitDefEqProofs only [go_sem], 0, by omega, by simp -dsimp -implicitDefEqProofs only [go_sem], rfl, h1⟩
  clear h1 c2
  rintro e w2 ⟨hd, e1, e2, e8, e9, i, hi, e10, hany, h2⟩
  by_cases hlt : (i : Int) < ss.length
  case neg =>
    have hdn : ss.drop i = [] := List.drop_of_length_le (by omega)
    rw [hdn] at hany
    have hv : takesF (row, tn, ss) c = tn := by unfold takesF; rw [hany]; rfl
    have c2 := h2.cl P2
    simp -dsimp -implicitDefEqProofs (disch := omega) only [go_sem, reqD_of, dec_t, dec_f, wrap_i64, wrap_u32, wrap_u64, wrap_u8, hd, e1, e2, e8, e9, e10, hlt]
    rw [F32.t7_eq]
    simp -dsimp -implicitDefEqProofs (disch := omega) only [go_sem, reqD_of, dec_t, dec_f, wrap_i64, wrap_u32, wrap_u64, wrap_u8, hd, e1, e2, e8, e9, e10, c2]
    exact ⟨h2.right, by rw [hv]⟩
  have hil : i < ss.length := by omega
  have hdr : ss.drop i = ss[i] :: ss.drop (i + 1) := List.drop_eq_getElem_cons hil
  obtain ⟨_, a', cc', hv', _, hrow⟩ := St.rowsAt (enc := spV) (k := 2) (l := ss) (fun _ => rfl) (by decide) (h2.ent ((Ent.right _ _).trans hr))
  simp only [Value.slice.injEq, true_and] at hv'
  obtain ⟨rfl, rfl⟩ := hv'
  obtain ⟨b, o, rfl, hrw, hcell⟩ := hrow i hil
  rw [hdr, List.any_cons] at hany
  obtain ⟨⟨lo, hi'⟩, hsi⟩ : ∃ s, s = ss[i] := ⟨_, rfl⟩
  rw [← hsi] at hrw hany
  have hrw : rowV w2 ⟨b, o + i * 2, none⟩ 2 = some (.agg #[rv lo, rv hi']) := hrw
  simp -dsimp -implicitDefEqProofs (disch := omega) only [go_sem, reqD_of, dec_t, dec_f, wrap_i64, wrap_u32, wrap_u64, wrap_u8, hd, e1, e2, e8, e9, e10, hlt, hrw]
  refine h2.new fun P6 w3 h3 => ?_
  simp -dsimp -implicitDefEqProofs (disch := omega) only [go_sem, reqD_of, dec_t, dec_f, wrap_i64, wrap_u32, wrap_u64, wrap_u8, hd, e1, e2, e8, e9, e10]
  refine h3.stoAll (b := P6) (n := 2) (cs := [rv lo, rv hi']) rfl rfl (fun u hu => by simp at hu; rcases hu with rfl | rfl <;> rfl) fun w4 h4 => ?_
  have c6 := h4.cl P6
  have c2 := h4.cl P2
  by_cases k1 : (lo : Int) ≤ c
  · by_cases k2 : (c : Int) ≤ hi'
    · have hv : takesF (row, tn, ss) c = !tn := by
        unfold takesF; rw [hany]; simp [show lo ≤ c by omega, show c ≤ hi' by omega]
      simp -dsimp -implicitDefEqProofs (disch := omega) only [go_sem, reqD_of, dec_t, dec_f, wrap_i64, wrap_u32, wrap_u64, wrap_u8, hd, e1, e2, e8, e9, e10, c6, c2, k1, k2]
      exact ⟨h4.right.right, by rw [hv]⟩
    · simp -dsimp -implicitDefEqProofs (disch := omega) only [go_sem, reqD_of, dec_t, dec_f, wrap_i64, wrap_u32, wrap_u64, wrap_u8, hd, e1, e2, e8, e9, e10, c6, c2, k1, k2]
      exact ⟨⟨i + 1, by omega, by omega, by rw [hany]; simp [show ¬ c ≤ hi' by omega], h4.right⟩, by omega⟩
  · simp -dsimp -implicitDefEqProofs (disch := omega) only [go_sem, reqD_of, dec_t, dec_f, wrap_i64, wrap_u32, wrap_u64, wrap_u8, hd, e1, e2, e8, e9, e10, c6, c2, k1]
    exact ⟨⟨i + 1, by omega, by omega, by rw [hany]; simp [show ¬ lo ≤ c by omega], h4.right⟩, by omega⟩

end
end Go.Proofs.YtlnlomjdooobdaaDoor
