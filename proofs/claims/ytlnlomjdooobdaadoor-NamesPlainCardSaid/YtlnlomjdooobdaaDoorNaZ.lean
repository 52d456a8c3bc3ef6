/- NamesPlain. -/
import Derived.Test.YtlnlomjdooobdaaDoorNaY
import Derived.Test.YtlnlomjdooobdaaDoorNaR
namespace Go.Proofs.YtlnlomjdooobdaaDoor
open Go
set_option linter.unusedVariables false
set_option linter.unusedSimpArgs false
set_option maxRecDepth 100000

theorem chr_le (l : List UInt8) : ∀ c ∈ chr l, c.length ≤ 4 := by
  generalize hn : l.length = n
  induction n using Nat.strongRecOn generalizing l with
  | _ n ih =>
    by_cases e : l = []
    · rw [e, chr_nil]; simp
    · have hw := stepN_pos e
      rw [chr_cons e]
      intro c hc
      rcases List.mem_cons.1 hc with rfl | hc
      · simp; omega
      · exact ih (l.drop (stepN l)).length (by simp; omega) _ rfl c hc
theorem plainOf_le : ∀ (cs : List (List UInt8)), (∀ c ∈ cs, c.length ≤ 4) → (plainOf cs).length ≤ 5 * cs.length
  | [], _ => by simp [plainOf]
  | c :: cs, h => by
    have h1 := plainOf_le cs fun x hx => h x (by simp [hx])
    have h2 := h c (by simp)
    simp only [plainOf, List.flatMap_cons, List.length_append, List.length_cons] at h1 ⊢
    omega

section
attribute [local go_sem] F6.t13_eq F6.t14_eq F6.t18_eq F6.t8_eq F6.t4_eq
theorem namesPlain_tail {w0 w : World} {A : HP} [Gives A Tabs] {name other : List UInt8} {v : Value} {e : FA} {R : Ending → World → Prop} {θ : Tag (F6.t16, fnP Tryd.prog #[.tmp 4] R, e, w)}
    (hd : e.ds = []) (e0 : e.ρ 0 = .string (strOf name)) (e1 : e.ρ 1 = .string (strOf other)) (e7 : e.ρ 7 = .bool (good other)) (e8 : e.ρ 8 = v) (e9 : e.ρ 9 = .string (strOf (plainOf (chr name)))) (e10 : e.ρ 10 = .string (strOf (List.replicate (chr name).length 63)))
    (hg : good name = true) (hn : name.length ≤ 268435456) (ho : other.length ≤ 268435456)
    (h : St w0 (RowO 9 1 v (chr name).length ((chr name).map sv) * A) w)
    (hQ : ∀ w', St w0 A w' → R (.returned (.bool true)) w') :
    cwE Tryd.prog F6.t16 (fnP Tryd.prog #[.tmp 4] R) e w θ := by
  obtain ⟨a, c, rfl, _, hcc, _⟩ := h.rowForm v
  rw [F6.t16_eq]
  by_cases hl : (255 : Int) < (plainOf (chr name)).length
  · simp -dsimp -implicitDefEqProofs (disch := omega) only [go_sem, reqD_of, dec_t, dec_f, wrap_i64, wrap_u32, wrap_u64, wrap_u8, hd, e9, hl]
    exact hQ _ h.right
  have hpl : (plainOf (chr name)).length ≤ 255 := by omega
  have hcl : (chr name).length ≤ 255 := Nat.le_trans (plainOf_len _) hpl
  have m1 := mat_plain name hg hpl
  rw [decide_eq_true rfl] at m1
  have m2 := mat_plain other hg hpl
  have m3 := mat_any (chr name).length name hcl
  rw [(chr_law name hg).1, hg, decide_eq_true rfl] at m3
  rw [← (chr_law name hg).1] at m3
  have m4 := mat_any (chr name).length other hcl
  simp -dsimp -implicitDefEqProofs (disch := omega) only [go_sem, reqD_of, dec_t, dec_f, wrap_i64, wrap_u32, wrap_u64, wrap_u8, hd, e0, e1, e7, e8, e9, e10, hl]
  refine (match_any h (pat := plainOf (chr name)) (name := name) (by omega) (by omega)).mono ?_
  rintro e' w1 ⟨h1, ⟨b, hb, rfl⟩ | ⟨hb, _⟩⟩
  case inr => rw [m1] at hb; cases hb
  rw [m1] at hb
  obtain rfl := Option.some.inj hb
  simp -dsimp -implicitDefEqProofs (disch := omega) only [go_sem, reqD_of, dec_t, dec_f, wrap_i64, wrap_u32, wrap_u64, wrap_u8, hd, e0, e1, e7, e8, e9, e10]
  refine (match_any h1 (pat := plainOf (chr name)) (name := other) (by omega) (by omega)).mono ?_
  rintro e' w2 ⟨h2, ⟨b, hb, rfl⟩ | ⟨hb, _⟩⟩
  case inr => rw [m2] at hb; cases hb
  rw [m2] at hb
  obtain rfl := Option.some.inj hb
  simp -dsimp -implicitDefEqProofs (disch := omega) only [go_sem, reqD_of, dec_t, dec_f, wrap_i64, wrap_u32, wrap_u64, wrap_u8, hd, e0, e1, e7, e8, e9, e10]
  refine (match_any h2 (pat := List.replicate (chr name).length 63) (name := name) (by simp; omega) (by omega)).mono ?_
  rintro e' w3 ⟨h3, ⟨b, hb, rfl⟩ | ⟨hb, _⟩⟩
  case inr => rw [m3] at hb; cases hb
  rw [m3] at hb
  obtain rfl := Option.some.inj hb
  simp -dsimp -implicitDefEqProofs (disch := omega) only [go_sem, reqD_of, dec_t, dec_f, wrap_i64, wrap_u32, wrap_u64, wrap_u8, hd, e0, e1, e7, e8, e9, e10]
  refine (match_any h3 (pat := List.replicate (chr name).length 63) (name := other) (by simp; omega) (by omega)).mono ?_
  rintro e' w4 ⟨h4, ⟨y, hy, rfl⟩ | ⟨hb, _⟩⟩
  case inr => rw [m4] at hb; cases hb
  rw [m4] at hy
  have hy := Option.some.inj hy
  simp -dsimp -implicitDefEqProofs (disch := omega) only [go_sem, reqD_of, dec_t, dec_f, wrap_i64, wrap_u32, wrap_u64, wrap_u8, hd, e0, e1, e7, e8, e9, e10]
  refine (chars_any h4 other ho).mono ?_
  rintro e' w5 ⟨v5, h5, rfl⟩
  obtain ⟨a5, c5, rfl, _, hcc5, _⟩ := h5.rowForm v5
  have rr : (decide (name = other) == decide (name = other)) = true := by cases decide (name = other) <;> rfl
  cases hgo : good other
  · rw [hgo] at hy e7
    have hy : y = false := hy.symm
    subst hy
    simp -dsimp -implicitDefEqProofs (disch := omega) only [go_sem, reqD_of, dec_t, dec_f, wrap_i64, wrap_u32, wrap_u64, wrap_u8, hd, e0, e1, e7, e8, e9, e10, rr, beqF]
    exact hQ _ h5.right.right
  · rw [hgo, Bool.true_and, ← (chr_law other hgo).1] at hy
    rw [hgo] at e7
    by_cases hE : (((chr name).length : Nat) : Int) = (chr other).length
    · rw [decide_eq_true (show (chr other).length = (chr name).length by omega)] at hy
      subst hy
      simp -dsimp -implicitDefEqProofs (disch := omega) only [go_sem, reqD_of, dec_t, dec_f, wrap_i64, wrap_u32, wrap_u64, wrap_u8, hd, e0, e1, e7, e8, e9, e10, rr, hE, beqT]
      exact hQ _ h5.right.right
    · rw [decide_eq_false (show ¬ (chr other).length = (chr name).length by omega)] at hy
      subst hy
      simp -dsimp -implicitDefEqProofs (disch := omega) only [go_sem, reqD_of, dec_t, dec_f, wrap_i64, wrap_u32, wrap_u64, wrap_u8, hd, e0, e1, e7, e8, e9, e10, rr, hE, beqF]
      exact hQ _ h5.right.right

theorem namesPlain_any {w0 w : World} {A : HP} (h : St w0 A w) [Gives A Tabs] (name other : List UInt8) (hnm : name.length ≤ 9223372036854775807) (hot : other.length ≤ 9223372036854775807) :
    Calls Tryd.prog 6 #[.string (strOf name), .string (strOf other)] w fun e w' => St w0 A w' ∧ e = .returned (.bool true) := by
  refine F6.calls (by simp) ?_
  unfold F6.code
  simp -dsimp -implicitDefEqProofs (disch := omega) only [go_sem, reqD_of, dec_t, dec_f, wrap_i64, wrap_u32, wrap_u64, wrap_u8]
  refine (awake_any h).mono ?_
  rintro e w1 ⟨h1, rfl⟩
  by_cases b1 : (268435456 : Int) < name.length
  · simp -dsimp -implicitDefEqProofs (disch := omega) only [go_sem, reqD_of, dec_t, dec_f, wrap_i64, wrap_u32, wrap_u64, wrap_u8, b1]; exact h1
  by_cases b2 : (268435456 : Int) < other.length
  · simp -dsimp -implicitDefEqProofs (disch := omega) only [go_sem, reqD_of, dec_t, dec_f, wrap_i64, wrap_u32, wrap_u64, wrap_u8, b1, b2]; exact h1
  simp -dsimp -implicitDefEqProofs (disch := omega) only [go_sem, reqD_of, dec_t, dec_f, wrap_i64, wrap_u32, wrap_u64, wrap_u8, b1, b2]
  refine (refGood_any h1 name (by omega)).mono ?_
  rintro e w2 ⟨h2, rfl⟩
  simp -dsimp -implicitDefEqProofs (disch := omega) only [go_sem, reqD_of, dec_t, dec_f, wrap_i64, wrap_u32, wrap_u64, wrap_u8]
  refine (refGood_any h2 other (by omega)).mono ?_
  rintro e w3 ⟨h3, rfl⟩
  cases hg : good name
  · simp -dsimp -implicitDefEqProofs (disch := omega) only [go_sem, reqD_of, dec_t, dec_f, wrap_i64, wrap_u32, wrap_u64, wrap_u8]; exact h3
  simp -dsimp -implicitDefEqProofs (disch := omega) only [go_sem, reqD_of, dec_t, dec_f, wrap_i64, wrap_u32, wrap_u64, wrap_u8]
  refine (chars_any h3 name (by omega)).mono ?_
  rintro e w4 ⟨v, h4, rfl⟩
  have hcs := chr_len name
  have hle := chr_le name
  obtain ⟨a, c, rfl, _, hcc, _⟩ := h4.rowForm v
  simp -dsimp -implicitDefEqProofs (disch := omega) only [go_sem, reqD_of, dec_t, dec_f, wrap_i64, wrap_u32, wrap_u64, wrap_u8]
  refine loop_intro (fun e w' => w' = w4 ∧ e.ds = [] ∧ e.ρ 0 = .string (strOf name) ∧ e.ρ 1 = .string (strOf other) ∧ e.ρ 7 = .bool (good other) ∧ e.ρ 8 = .slice a (chr name).length c ∧
      ∃ i : Nat, i ≤ (chr name).length ∧ e.ρ 11 = .int .i64 i ∧ e.ρ 9 = .string (strOf (plainOf ((chr name).take i))) ∧ e.ρ 10 = .string (strOf (List.replicate i 63)))
    (fun e _ => match e.ρ 11 with | .int _ n => ((chr name).length - n).toNat | _ => 0) ?_ ?_
  · exact ⟨by simp -dsimp -implicitDefEqProofs only [go_sem], by simp -dsimp -implicitDefEqProofs only [go_sem], by simp -dsimp -implicitDefEqProofs only [go_sem], by simp -dsimp -implicitDefEqProofs only [go_sem], by simp -dsimp -implicitDefEqProofs only [go_sem], by simp -dsimp -implicitDefEqProofs only [go_sem], 0, by omega, by simp -dsimp -implicitDefEqProofs only [go_sem], by simp -dsimp -implicitDefEqProofs only [go_sem]; rfl, by simp -dsimp -implicitDefEqProofs only [go_sem]; rfl⟩
  rintro e w5 ⟨rfl, hd, e0, e1, e7, e8, i, hi, e11, e9, e10⟩
  by_cases hlt : (i : Int) < (chr name).length
  case neg =>
    obtain rfl : i = (chr name).length := by omega
    rw [List.take_length] at e9
    simp -dsimp -implicitDefEqProofs (disch := omega) only [go_sem, reqD_of, dec_t, dec_f, wrap_i64, wrap_u32, wrap_u64, wrap_u8, hd, e8, e11, hlt]
    exact namesPlain_tail (name := name) (other := other) (v := .slice a (chr name).length c) (by simp -dsimp -implicitDefEqProofs only [go_sem, hd]) (by simp -dsimp -implicitDefEqProofs only [go_sem, e0]) (by simp -dsimp -implicitDefEqProofs only [go_sem, e1]) (by simp -dsimp -implicitDefEqProofs only [go_sem, e7]) (by simp -dsimp -implicitDefEqProofs only [go_sem, e8]) (by simp -dsimp -implicitDefEqProofs only [go_sem, e9]) (by simp -dsimp -implicitDefEqProofs only [go_sem, e10]) hg (by omega) (by omega) h4 fun w' h' => ⟨h', rfl⟩
  have hil : i < (chr name).length := by omega
  obtain ⟨b0, o0, rfl, c0⟩ := h4.atS (a := a) (n := (chr name).length) (c := c) (xs := (chr name).map sv) (k := i) (by simpa using hil)
  simp only [List.getElem_map] at c0
  obtain ⟨x, hx⟩ : ∃ x, x = (chr name)[i] := ⟨_, rfl⟩
  have hx4 := hle _ (List.getElem_mem hil)
  rw [← hx] at c0 hx4
  have hp := plainOf_le ((chr name).take i) fun c hc => hle c (List.mem_of_mem_take hc)
  have htl : ((chr name).take i).length = i := by simp; omega
  rw [htl] at hp
  have hnext : plainOf ((chr name).take (i + 1)) = plainOf ((chr name).take i) ++ [92] ++ x := by
    rw [List.take_add_one, List.getElem?_eq_getElem hil, Option.toList_some, plainOf_snoc, ← hx]
  have hrep : List.replicate (i + 1) (63 : UInt8) = List.replicate i 63 ++ [63] := by rw [List.replicate_succ']
  have a1 := binV_sadd (P := Tryd.prog) (T := 9) (a := plainOf ((chr name).take i)) (b := [92]) (by simp; omega)
  have a2 := binV_sadd (P := Tryd.prog) (T := 9) (a := plainOf ((chr name).take i) ++ [92]) (b := x) (by simp; omega)
  have a3 := binV_sadd (P := Tryd.prog) (T := 9) (a := List.replicate i 63) (b := [63]) (by simp; omega)
  rw [← hnext] at a2
  rw [← hrep] at a3
  simp -dsimp -implicitDefEqProofs (disch := omega) only [go_sem, reqD_of, dec_t, dec_f, wrap_i64, wrap_u32, wrap_u64, wrap_u8, hd, e0, e1, e7, e8, e9, e10, e11, hlt, c0, a1, a2, a3]
  exact ⟨⟨i + 1, by omega, by omega, rfl, rfl⟩, by omega⟩
end
end Go.Proofs.YtlnlomjdooobdaaDoor
