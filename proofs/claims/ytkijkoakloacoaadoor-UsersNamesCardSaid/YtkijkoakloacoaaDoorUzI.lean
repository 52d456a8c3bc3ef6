/- users: join: who belongs to whom. -/
import Derived.Test.YtkijkoakloacoaaDoorUzH
namespace Go.Proofs.YtkijkoakloacoaaDoor
open Go
set_option linter.unusedVariables false
set_option linter.unusedSimpArgs false
set_option maxRecDepth 100000

abbrev InL := List (Pr × Value)
def InOk (L : List Acc) (inl : InL) : Prop := ∀ u g, (lk (u, g) inl).isSome = memberF L u g
/-- .. and of the first k members of a. -/
def InPart (L : List Acc) (a : Acc) (k : Nat) (inl : InL) : Prop := ∀ u g, (lk (u, g) inl).isSome = true ↔ (memberF L u g = true ∨ (a.name = g ∧ (u = a.name ∨ u ∈ a.members.take k)))
theorem lk_upd_some {x y : Pr} {v : Value} {l : InL} : (lk x (upd y v l)).isSome = true ↔ (x = y ∨ (lk x l).isSome = true) := by
  rw [lk_upd]
  by_cases h : x = y
  · simp [h]
  · simp [h]
theorem memberF_iff {L : List Acc} {u g : List UInt8} : memberF L u g = true ↔ ∃ a ∈ L, a.name = g ∧ (u = a.name ∨ u ∈ a.members) := by
  simp [memberF, List.any_eq_true]
theorem InPart.first {L : List Acc} {a : Acc} {inl : InL} {v : Value} (h : InOk L inl) : InPart L a 0 (upd (a.name, a.name) v inl) := by
  intro u g
  rw [lk_upd_some, h]
  simp only [List.take_zero, List.not_mem_nil, or_false, Prod.mk.injEq]
  constructor
  · rintro (⟨rfl, rfl⟩ | h)
    · exact .inr ⟨rfl, rfl⟩
    · exact .inl h
  · rintro (h | ⟨rfl, rfl⟩)
    · exact .inr h
    · exact .inl ⟨rfl, rfl⟩
theorem InPart.next {L : List Acc} {a : Acc} {inl : InL} {v : Value} {k : Nat} (h : InPart L a k inl) (hk : k < a.members.length) : InPart L a (k + 1) (upd (a.members[k], a.name) v inl) := by
  intro u g
  rw [lk_upd_some, h, List.take_succ_eq_append_getElem hk]
  simp only [Prod.mk.injEq, List.mem_append, List.mem_singleton]
  constructor
  · rintro (⟨rfl, rfl⟩ | h | ⟨h1, h2⟩)
    · exact .inr ⟨rfl, .inr (.inr rfl)⟩
    · exact .inl h
    · exact .inr ⟨h1, h2.imp id .inl⟩
  · rintro (h | ⟨h1, h2 | h2 | h2⟩)
    · exact .inr (.inl h)
    · exact .inr (.inr ⟨h1, .inl h2⟩)
    · exact .inr (.inr ⟨h1, .inr h2⟩)
    · exact .inl ⟨h2, h1.symm⟩
theorem InPart.last {L : List Acc} {i : Nat} {inl : InL} {k : Nat} (hi : i < L.length) (h : InPart (L.take i) L[i] k inl) (hk : L[i].members.length ≤ k) : InOk (L.take (i + 1)) inl := by
  intro u g
  rw [Bool.eq_iff_iff, h, List.take_of_length_le hk, memberF_iff, memberF_iff, List.take_succ_eq_append_getElem hi]
  constructor
  · rintro (⟨a, h1, h2⟩ | h)
    · exact ⟨a, List.mem_append_left _ h1, h2⟩
    · exact ⟨L[i], List.mem_append_right _ (List.mem_singleton.2 rfl), h⟩
  · rintro ⟨a, h1, h2⟩
    rcases List.mem_append.1 h1 with h1 | h1
    · exact .inl ⟨a, h1, h2⟩
    · simp only [List.mem_singleton] at h1
      subst h1
      exact .inr h2

section
attribute [local go_sem] F45.t10_eq F45.t8_eq F45.t11_eq F45.t4_eq
theorem join_any {w0 w : World} {A : HP} {T m : Nat} {vl vi : Value} {L : List AV} (h : St w0 (TabQ T m vl vi L * A) w) (hm : MsOk A L) (hl : (textF (accs L)).length ≤ 70368744177664) (hn : L.length ≤ 70368744177664) :
    Calls Tryd.prog 45 #[.pointer (some ⟨T, 0, none⟩)] w fun e w' =>
      (joinF (accs L) = true ∧ (∃ mi inl, InOk (accs L) inl ∧ St w0 (TabQ T m vl (.map (some mi)) L * (MapP encPr mi inl * A)) w') ∧ e = .returned (.tuple #[])) ∨
      (joinF (accs L) = false ∧ St w0 (TabQ T m vl vi L * A) w' ∧ e = .panicked (trouble 1)) := by
  obtain ⟨av, cv, rfl, _⟩ := h.rowForm vl
  refine F45.calls (by simp) ?_
  unfold F45.code
  simp -dsimp -implicitDefEqProofs (disch := omega) only [go_sem, reqD_of, dec_t, dec_f, wrap_i64, wrap_u32, wrap_u64, wrap_u8]
  refine (text_any h hm hl hn).mono ?_
  rintro e w1 ⟨h1, rfl⟩
  simp -dsimp -implicitDefEqProofs (disch := omega) only [go_sem, reqD_of, dec_t, dec_f, wrap_i64, wrap_u32, wrap_u64, wrap_u8]
  refine (need_st h1 _ _).mono ?_
  have hj : decide (((textF (accs L)).length : Int) ≤ 65536) = joinF (accs L) := decide_eq_decide.2 (by omega)
  rintro e w2 ⟨h2, ⟨n1, rfl⟩ | ⟨n1, rfl⟩⟩
  case inr =>
    rw [hj] at n1
    simp -dsimp -implicitDefEqProofs (disch := omega) only [go_sem, reqD_of, dec_t, dec_f, wrap_i64, wrap_u32, wrap_u64, wrap_u8, n1]
    exact h2
  rw [hj] at n1
  simp -dsimp -implicitDefEqProofs (disch := omega) only [go_sem, reqD_of, dec_t, dec_f, wrap_i64, wrap_u32, wrap_u64, wrap_u8, n1]
  refine St.makeMap (enc := encPr) h2 fun mi w3 h3 => ?_
  simp -dsimp -implicitDefEqProofs (disch := omega) only [go_sem, reqD_of, dec_t, dec_f, wrap_i64, wrap_u32, wrap_u64, wrap_u8]
  refine h3.sto (b := T) (off := 2) (by simp) rfl fun w4 h4 => ?_
  simp only [List.setIfInBounds_toArray, List.set_cons_succ, List.set_cons_zero] at h4
  simp -dsimp -implicitDefEqProofs (disch := omega) only [go_sem, reqD_of, dec_t, dec_f, wrap_i64, wrap_u32, wrap_u64, wrap_u8, h4.cl T]
  refine loop_intro (fun e w' => e.ds = [] ∧ e.ρ 0 = .pointer (some ⟨T, 0, none⟩) ∧ e.ρ 18 = .slice av L.length cv ∧ e.ρ 19 = .int .i64 L.length ∧
      ∃ (i : Nat) (inl : InL), i ≤ L.length ∧ e.ρ 20 = .int .i64 i ∧ InOk ((accs L).take i) inl ∧ St w0 (TabQ T m (.slice av L.length cv) (.map (some mi)) L * (MapP encPr mi inl * A)) w')
    (fun e _ => match e.ρ 20 with | .int _ n => (L.length - n).toNat | _ => 0) ?_ ?_
  · exact ⟨rfl, by simp -dsimp -implicitDefEqProofs only [go_sem], by simp -dsimp -implicitDefEqProofs only [go_sem], by simp -dsimp -implicitDefEqProofs only [go_sem], 0, [], by omega, by simp -dsimp -implicitDefEqProofs only [go_sem], fun u g => by simp [memberF, lk], h4.sub⟩
  clear h h1 h2 h3 h4
  rintro e w5 ⟨hd, e0, e18, e19, i, inl, hi, e20, hin, h5⟩
  by_cases hlt : (i : Int) < (L.length : Int)
  case neg =>
    rw [List.take_of_length_le (by simp; omega)] at hin
    simp -dsimp -implicitDefEqProofs (disch := omega) only [go_sem, reqD_of, dec_t, dec_f, wrap_i64, wrap_u32, wrap_u64, wrap_u8, hd, e0, e18, e19, e20, hlt]
    exact ⟨n1, mi, inl, hin, h5⟩
  have hlt' : i < L.length := by omega
  obtain ⟨_, a', c', hv', _, hrow⟩ := St.rowsAt accC_len (by decide) (h5.gives (B := Reads 4 (.slice av L.length cv) L.length (L.flatMap accC)))
  simp only [Value.slice.injEq, true_and] at hv'
  obtain ⟨rfl, rfl⟩ := hv'
  obtain ⟨b, o, rfl, hr, _⟩ := hrow i hlt'
  have hx := hm _ (List.getElem_mem hlt')
  have hgi : (accs L)[i]'(by simpa using hlt') = L[i].1 := by simp
  obtain ⟨x, hxe⟩ : ∃ x, x = L[i] := ⟨_, rfl⟩
  rw [← hxe] at hr hx hgi
  obtain ⟨a, v⟩ := x
  obtain ⟨hx1, hx2, hx3⟩ := hx
  simp only at hx1 hx2 hx3 hgi
  simp -dsimp -implicitDefEqProofs (disch := omega) only [go_sem, reqD_of, dec_t, dec_f, wrap_i64, wrap_u32, wrap_u64, wrap_u8, hd, e0, e18, e19, e20, hlt, hr]
  refine h5.new fun P w6 h6 => ?_
  simp -dsimp -implicitDefEqProofs (disch := omega) only [go_sem, reqD_of, dec_t, dec_f, wrap_i64, wrap_u32, wrap_u64, wrap_u8, hd, e0, e18, e19, e20]
  refine h6.stoAll (b := P) (n := 4) (cs := accL a v) rfl rfl (fun v hv => by simp at hv; rcases hv with rfl | rfl | rfl | rfl <;> first | rfl | exact hx3) fun w7 h7 => ?_
  simp -dsimp -implicitDefEqProofs (disch := omega) only [go_sem, reqD_of, dec_t, dec_f, wrap_i64, wrap_u32, wrap_u64, wrap_u8, hd, e0, e18, e19, e20, h7.cl T, h7.cl P, h7.drew.cl T, h7.drew.cl P]
  refine onV_of (v := encPr (a.name, a.name)) (by kernel_rfl) ?_
  simp -dsimp -implicitDefEqProofs (disch := omega) only [go_sem, reqD_of, dec_t, dec_f, wrap_i64, wrap_u32, wrap_u64, wrap_u8, h7.cl T, h7.cl P, h7.drew.cl T, h7.drew.cl P]
  refine h7.drew.updH (b := mi) (x := (a.name, a.name)) Tryd.underlying70 lawPr fun w8 h8 => ?_
  obtain ⟨cvm, avm, rfl, hcvm⟩ : ∃ c x, v = .slice x a.members.length c ∧ a.members.length ≤ c := by
    obtain ⟨x, c, e, hc, _⟩ := h5.right.right.texts hx1
    exact ⟨c, x, e, hc⟩
  simp -dsimp -implicitDefEqProofs (disch := omega) only [go_sem, reqD_of, dec_t, dec_f, wrap_i64, wrap_u32, wrap_u64, wrap_u8, hd, e0, e18, e19, e20, h8.cl T, h8.cl P, h8.drew.cl P]
  obtain ⟨hf1, hf2⟩ := hx2
  have hp0 : InPart ((accs L).take i) a 0 (upd (a.name, a.name) (.int .i64 (i : Nat)) inl) := InPart.first hin
  refine loop_intro (fun e w' => e.ds = [] ∧ e.ρ 0 = .pointer (some ⟨T, 0, none⟩) ∧ e.ρ 2 = .int .i64 i ∧ e.ρ 3 = .pointer (some ⟨P, 0, none⟩) ∧ e.ρ 18 = .slice (some ⟨b, o, none⟩) L.length cv ∧ e.ρ 19 = .int .i64 L.length ∧ e.ρ 20 = .int .i64 i ∧
      e.ρ 36 = .slice avm a.members.length cvm ∧ e.ρ 37 = .int .i64 a.members.length ∧
      ∃ (k : Nat) (inl : InL), k ≤ a.members.length ∧ e.ρ 38 = .int .i64 k ∧ InPart ((accs L).take i) a k inl ∧ St w0 (TabQ T m (.slice (some ⟨b, o, none⟩) L.length cv) (.map (some mi)) L * (MapP encPr mi inl * (Blk P (.cells (accL a (.slice avm a.members.length cvm)).toArray 46 (0, 0)) * A))) w')
    (fun e _ => match e.ρ 38 with | .int _ n => (a.members.length - n).toNat | _ => 0) ?_ ?_
  · exact ⟨by simp -dsimp -implicitDefEqProofs only [go_sem, hd], by simp -dsimp -implicitDefEqProofs only [go_sem, e0], by simp -dsimp -implicitDefEqProofs only [go_sem], by simp -dsimp -implicitDefEqProofs only [go_sem], by simp -dsimp -implicitDefEqProofs only [go_sem, e18], by simp -dsimp -implicitDefEqProofs only [go_sem, e19], by simp -dsimp -implicitDefEqProofs only [go_sem, e20], by simp -dsimp -implicitDefEqProofs only [go_sem], by simp -dsimp -implicitDefEqProofs only [go_sem], 0, _, by omega, by simp -dsimp -implicitDefEqProofs only [go_sem], hp0, h8.sub⟩
  clear h8 h7 h6 h5 hin hp0 hr inl
  rintro e2 w9 ⟨hd2, f0, f2, f3, f18, f19, f20, f36, f37, k, inl, hk, f38, hp, h9⟩
  by_cases hlk : (k : Int) < (a.members.length : Int)
  case neg =>
    have hin : InOk ((accs L).take (i + 1)) inl := InPart.last (by simpa using hlt') (hgi ▸ hp) (by rw [hgi]; omega)
    simp -dsimp -implicitDefEqProofs (disch := omega) only [go_sem, reqD_of, dec_t, dec_f, wrap_i64, wrap_u32, wrap_u64, wrap_u8, hd2, f0, f2, f3, f18, f19, f20, f36, f37, f38, hlk, hd, e0, e18, e19, e20]
    exact ⟨⟨i + 1, inl, by omega, by omega, hin, h9.sub⟩, by omega⟩
  have hlk' : k < a.members.length := by omega
  obtain ⟨bm, om, rfl, hcell⟩ := (h9.ent ((Ent.right _ _).trans ((Ent.right _ _).trans ((Ent.right _ _).trans hx1)))).atS (a := avm) (n := a.members.length) (c := cvm) (xs := a.members.map sv) (k := k) (by simpa using hlk')
  rw [List.getElem_map] at hcell
  have hp1 := InPart.next (v := .int .i64 (i : Nat)) hp hlk'
  obtain ⟨q, hq⟩ : ∃ q, q = a.members[k] := ⟨_, rfl⟩
  rw [← hq] at hcell hp1
  simp -dsimp -implicitDefEqProofs (disch := omega) only [go_sem, reqD_of, dec_t, dec_f, wrap_i64, wrap_u32, wrap_u64, wrap_u8, hd2, f0, f2, f3, f18, f19, f20, f36, f37, f38, hlk, hcell, h9.cl T, h9.cl P, h9.drew.cl T, h9.drew.cl P]
  refine onV_of (v := encPr (q, a.name)) (by kernel_rfl) ?_
  simp -dsimp -implicitDefEqProofs (disch := omega) only [go_sem, reqD_of, dec_t, dec_f, wrap_i64, wrap_u32, wrap_u64, wrap_u8, h9.cl T, h9.cl P, h9.drew.cl T, h9.drew.cl P]
  refine h9.drew.updH (b := mi) (x := (q, a.name)) Tryd.underlying70 lawPr fun w10 h10 => ?_
  simp -dsimp -implicitDefEqProofs (disch := omega) only [go_sem, reqD_of, dec_t, dec_f, wrap_i64, wrap_u32, wrap_u64, wrap_u8, hd2, f0, f2, f3, f18, f19, f20, f36, f37, f38, h10.cl T, h10.cl P]
  exact ⟨⟨k + 1, _, by omega, by omega, hp1, h10⟩, by omega⟩
end
end Go.Proofs.YtkijkoakloacoaaDoor
