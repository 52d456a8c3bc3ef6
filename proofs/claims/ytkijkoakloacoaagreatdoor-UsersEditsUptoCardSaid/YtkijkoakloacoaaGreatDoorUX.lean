/- The reference's Edit. The reference's Edit, whole. law06: UsersEdits: the tables that there are. -/
import Derived.Test.YtkijkoakloacoaaGreatDoorUR
import Derived.Test.YtkijkoakloacoaaGreatDoorUW
import Derived.Test.YtkijkoakloacoaaGreatDoorUS
namespace Go.Proofs.YtkijkoakloacoaaGreatDoor
open Go
set_option linter.unusedVariables false
set_option linter.unusedSimpArgs false
set_option maxRecDepth 100000

/-! ### The plain law: an edited table is valid -/

theorem known_put {L : List Acc} {a : Acc} {n : List UInt8} (h : known L n = true) : known (putF L a) n = true := by
  unfold putF
  split
  · rename_i hk
    have := put_names hk
    unfold putF at this
    rw [if_pos hk] at this
    rw [known_iff] at h ⊢
    rw [this]
    exact h
  · rw [known_iff] at h ⊢
    rw [List.map_append, List.mem_append]
    exact .inl h
theorem named_put {L : List Acc} {a b : Acc} (h : namedF L b = true) : namedF (putF L a) b = true := by
  simp only [namedF, Bool.and_eq_true, Bool.or_eq_true, beq_iff_eq, List.all_eq_true] at h ⊢
  exact ⟨h.1.elim .inl fun q => .inr (known_put q), fun m hm => known_put (h.2 m hm)⟩
theorem mem_put {L : List Acc} {a b : Acc} (h : b ∈ putF L a) : b = a ∨ b ∈ L := by
  unfold putF at h
  split at h
  · obtain ⟨c, hc, e⟩ := List.mem_map.1 h
    split at e
    · exact .inl e.symm
    · exact .inr (e ▸ hc)
  · rcases List.mem_append.1 h with h | h
    · exact .inr h
    · exact .inl (by simpa using h)
theorem allF_of {L : List Acc} (h1 : ∀ a ∈ L, formF a = true) (h2 : ∀ a ∈ L, onceF a = true) (h3 : (L.map (·.name)).Nodup) (h4 : ∀ a ∈ L, namedF L a = true) : allF L = true := by
  simp only [allF, Bool.and_eq_true, List.all_eq_true, decide_eq_true_eq]
  exact ⟨⟨⟨h1, h2⟩, h3⟩, h4⟩
theorem put_all {L : List Acc} {a : Acc} (h : allF L = true) (hf : formF a = true) (ho : onceF a = true) (hn : namedF (putF L a) a = true) : allF (putF L a) = true := by
  obtain ⟨h1, h2, h3, h4⟩ := allF_facts h
  refine allF_of (fun b hb => ?_) (fun b hb => ?_) (put_nodup h3) (fun b hb => ?_) <;> rcases mem_put hb with rfl | hb
  · exact hf
  · exact h1 b hb
  · exact ho
  · exact h2 b hb
  · exact hn
  · exact named_put (h4 b hb)
theorem left_all {L : List Acc} {g : List UInt8} (h : allF L = true) (hf : freeF L g = true) : allF (leftF L g) = true := by
  obtain ⟨h1, h2, h3, h4⟩ := allF_facts h
  have mem : ∀ b ∈ leftF L g, b ∈ L ∧ b.name ≠ g := fun b hb => by
    have := List.mem_filter.1 hb
    exact ⟨this.1, by simpa using this.2⟩
  simp only [freeF, Bool.and_eq_true, List.all_eq_true, Bool.or_eq_true, beq_iff_eq, Bool.not_eq_true'] at hf
  have kn : ∀ n, known L n = true → n ≠ g → known (leftF L g) n = true := fun n hk hg => by
    rw [known_iff] at hk ⊢
    obtain ⟨b, hb, rfl⟩ := List.mem_map.1 hk
    have hb2 : b ∈ L.filter (fun a => !(a.name == g)) := List.mem_filter.2 ⟨hb, by simp [hg]⟩
    exact List.mem_map_of_mem (f := (·.name)) hb2
  refine allF_of (fun b hb => h1 b (mem b hb).1) (fun b hb => h2 b (mem b hb).1) (left_nodup h3) (fun b hb => ?_)
  obtain ⟨hb, hg⟩ := mem b hb
  have hn := h4 b hb
  have hm := (hf.2 b hb).resolve_left hg
  simp only [mentF, Bool.or_eq_false_iff, beq_eq_false_iff_ne] at hm
  simp only [namedF, Bool.and_eq_true, Bool.or_eq_true, beq_iff_eq, List.all_eq_true] at hn ⊢
  refine ⟨hn.1.elim .inl fun q => .inr (kn _ q hm.1), fun m hmm => kn m (hn.2 m hmm) ?_⟩
  rintro rfl
  have : b.members.contains m = true := by simpa using hmm
  rw [hm.2] at this
  cases this
theorem left_join {L : List Acc} {g : List UInt8} (h : joinF L = true) : joinF (leftF L g) = true := by
  have h1 := text_left L g
  have h2 := of_decide_eq_true h
  exact decide_eq_true (by omega)

def REditR (w0 : World) (A : HP) (U : Nat) (y : RT) (line : List UInt8) (e : Ending) (w' : World) : Prop :=
  (∃ (U' : Nat) (y' : RT), editF (accs y.L) line = .ok (accs y'.L) ∧ y'.Ok ∧ St w0 (RefW U' y' * (RefW U y * A)) w' ∧ e = .returned (.tuple #[.pointer (some ⟨U', 0, none⟩), .int .i64 0])) ∨
  (∃ k : Nat, k ≠ 0 ∧ editF (accs y.L) line = .error k ∧ St w0 (RefW U y * A) w' ∧ e = .returned (.tuple #[.pointer none, .int .i64 (k : Nat)]))

/-! ### without -/

/-- It doesn't stand in the way of g's going. -/
def stays (g : List UInt8) (a : Acc) : Bool := a.name == g || !mentF g a

section
attribute [local go_sem] F60.t11_eq F60.t9_eq F60.t7_eq F60.t8_eq F60.t12_eq F60.t4_eq
theorem rwithout_any {w0 w : World} {A : HP} {U : Nat} {y : RT} (ok : y.Ok) (h : St w0 (RefW U y * A) w) {line g : List UInt8} (hg : goneF line = some g) :
    Calls Tryz.prog 60 #[.pointer (some ⟨U, 0, none⟩), .string (strOf g)] w (REditR w0 A U y line) := by
  have hf := ok.few
  have htx := ok.txt
  have hj : joinF (accs y.L) = true := decide_eq_true htx
  have hed : editF (accs y.L) line = if freeF (accs y.L) g then endE (leftF (accs y.L) g) else .error 62 := by unfold editF; rw [hg]
  refine F60.calls (by simp) ?_
  unfold F60.code
  simp -dsimp -implicitDefEqProofs (disch := omega) only [go_sem, reqD_of, dec_t, dec_f, wrap_i64, wrap_u32, wrap_u64, wrap_u8]
  refine (raccounts_any ok h).mono ?_
  rintro e w1 ⟨vo, L', B, hL, hB, h1, rfl⟩
  have hll : L'.length = y.L.length := by have := congrArg List.length hL; simpa using this
  obtain ⟨ao, co, rfl, _⟩ := h1.rowForm vo
  have rd : ∀ {X : HP}, Ent X (rowA (.slice ao L'.length co) L') → Ent X (ReadsA (.slice ao L'.length co) L') := fun hX => hX.trans (RowO.reads _ _ _ _ _)
  simp -dsimp -implicitDefEqProofs (disch := omega) only [go_sem, reqD_of, dec_t, dec_f, wrap_i64, wrap_u32, wrap_u64, wrap_u8]
  refine (find_any h1 (rd (Ent.left _ _)) (by omega) g).mono ?_
  rintro e w2 ⟨h2, k, hk, rfl⟩
  have hn := hk.neg
  rw [hL] at hn
  cases hkn : known (accs y.L) g
  · rw [hkn] at hn
    have hn : k < 0 := of_decide_eq_true hn
    have hfr : freeF (accs y.L) g = false := by simp [freeF, hkn]
    rw [hfr, if_neg (by simp)] at hed
    simp -dsimp -implicitDefEqProofs (disch := omega) only [go_sem, reqD_of, dec_t, dec_f, wrap_i64, wrap_u32, wrap_u64, wrap_u8, hn]
    exact .inr ⟨62, by decide, hed, h2.right.right, rfl⟩
  rw [hkn] at hn
  have hn : ¬ k < 0 := of_decide_eq_false hn
  have hfe : freeF (accs y.L) g = (accs y.L).all (stays g) := by rw [freeF, hkn, Bool.true_and]; rfl
  simp -dsimp -implicitDefEqProofs (disch := omega) only [go_sem, reqD_of, dec_t, dec_f, wrap_i64, wrap_u32, wrap_u64, wrap_u8, hn]
  refine loop_intro (fun e w' => e.ds = [] ∧ e.ρ 1 = .string (strOf g) ∧ e.ρ 6 = .slice ao L'.length co ∧ ∃ (i : Nat) (vl : Value) (M : List AV), i ≤ L'.length ∧ e.ρ 8 = .int .i64 i ∧ e.ρ 7 = vl ∧ accs M = leftF ((accs y.L).take i) g ∧ (∀ x ∈ M, x ∈ L') ∧ M.length ≤ i ∧ freeF (accs y.L) g = ((accs y.L).drop i).all (stays g) ∧ St w0 (rowA vl M * (rowA (.slice ao L'.length co) L' * (B * (RefW U y * A)))) w')
    (fun e _ => match e.ρ 8 with | .int _ n => (L'.length - n).toNat | _ => 0) ?_ ?_
  · exact ⟨rfl, by simp -dsimp -implicitDefEqProofs only [go_sem], by simp -dsimp -implicitDefEqProofs only [go_sem], 0, .slice none 0 0, [], by omega, by simp -dsimp -implicitDefEqProofs only [go_sem], by simp -dsimp -implicitDefEqProofs only [go_sem], by simp [leftF], by simp, by simp, hfe, h2.nilR 72 4⟩
  clear h h1 h2
  rintro e w ⟨hd, e1, e6, i, vl, M, hi, e8, e7, hM, hMm, hMl, hfr, h⟩
  obtain ⟨al, cl, rfl, _⟩ := h.rowForm vl
  by_cases hlt : (i : Int) < (L'.length : Int)
  case neg =>
    have hz : (accs y.L).drop i = [] := List.drop_of_length_le (by simp; omega)
    rw [hz, List.all_nil] at hfr
    rw [List.take_of_length_le (by simp; omega)] at hM
    have hjl := left_join (g := g) hj
    rw [hfr, if_pos rfl, endE, if_pos hjl, ← hM] at hed
    simp -dsimp -implicitDefEqProofs (disch := omega) only [go_sem, reqD_of, dec_t, dec_f, wrap_i64, wrap_u32, wrap_u64, wrap_u8, hd, e1, e6, e7, e8, hlt]
    refine onV_of (v := .agg #[.slice al M.length cl]) (by kernel_rfl) ?_
    simp -dsimp -implicitDefEqProofs (disch := omega) only [go_sem, reqD_of, dec_t, dec_f, wrap_i64, wrap_u32, wrap_u64, wrap_u8, hd, e6, e7]
    refine h.new fun U' w2 h2 => ?_
    simp -dsimp -implicitDefEqProofs (disch := omega) only [go_sem, reqD_of, dec_t, dec_f, wrap_i64, wrap_u32, wrap_u64, wrap_u8, hd]
    refine .inl ⟨U', ⟨.slice al M.length cl, M, B⟩, hed, ⟨fun x hx => hB x (hMm x hx), ?_, by show M.length ≤ 65536; omega, ?_⟩, ?_, rfl⟩
    · show allF (accs M) = true
      rw [hM]
      exact left_all ok.all hfr
    · show (textF (accs M)).length ≤ 65536
      rw [hM]
      exact of_decide_eq_true hjl
    · have h3 : St w0 (rowA (.slice ao L'.length co) L' * (RefW U' ⟨.slice al M.length cl, M, B⟩ * (RefW U y * A))) w2 := h2.ac (by simp only [RefW, refB]; ac_rfl)
      exact h3.right
  have hi1 : i < L'.length := by omega
  have hla : i < (accs y.L).length := by simp; omega
  have hge : (accs y.L)[i] = L'[i].1 := by
    have : (accs y.L)[i] = (accs L')[i]'(by simpa using hi1) := by simp only [hL]
    rw [this]; simp
  have rdA : Ent (rowA (.slice al M.length cl) M * (rowA (.slice ao L'.length co) L' * (B * (RefW U y * A)))) (ReadsA (.slice ao L'.length co) L') := rd ((Ent.right _ _).trans (Ent.left _ _))
  obtain ⟨_, _, e9, hoa⟩ := rdA_form h rdA
  simp only [Value.slice.injEq, true_and] at e9
  obtain ⟨rfl, rfl⟩ := e9
  obtain ⟨b, o, rfl⟩ := hoa i hi1
  have cells : ∀ {w : World}, St w0 (rowA (.slice al M.length cl) M * (rowA (.slice (some ⟨b, o, none⟩) L'.length co) L' * (B * (RefW U y * A)))) w → _ := fun h => rdA_cells h rdA hi1
  have hx := hB _ (List.getElem_mem hi1)
  have hxm : L'[i] ∈ L' := List.getElem_mem hi1
  have hzd : (accs y.L).drop i = L'[i].1 :: (accs y.L).drop (i + 1) := by rw [List.drop_eq_getElem_cons hla, hge]
  have hst : leftF ((accs y.L).take (i + 1)) g = leftF ((accs y.L).take i) g ++ (if L'[i].1.name = g then [] else [L'[i].1]) := by
    rw [List.take_succ_eq_append_getElem hla, hge, left_snoc]
  rw [hzd, List.all_cons, stays] at hfr
  obtain ⟨z, hz⟩ : ∃ z, z = L'[i] := ⟨_, rfl⟩
  simp only [← hz] at cells hx hst hfr hxm
  obtain ⟨a, va⟩ := z
  obtain ⟨x1, x2, x3⟩ := hx
  simp only at x1 x2 x3 cells hst hfr
  obtain ⟨⟨f1, f2, f3, f4⟩, r1⟩ := cells h
  by_cases hgn : a.name = g
  · have d0 : decide (a.name = g) = true := decide_eq_true hgn
    have hb : (a.name == g) = true := by simp [hgn]
    rw [hb, Bool.true_or, Bool.true_and] at hfr
    rw [if_pos hgn, List.append_nil] at hst
    simp -dsimp -implicitDefEqProofs (disch := omega) only [go_sem, reqD_of, dec_t, dec_f, wrap_i64, wrap_u32, wrap_u64, wrap_u8, hd, e1, e6, e7, e8, hlt, f1, d0]
    exact ⟨⟨i + 1, _, M, by omega, by omega, rfl, by rw [hM, hst], hMm, by omega, hfr, h⟩, by omega⟩
  have d0 : decide (a.name = g) = false := decide_eq_false hgn
  have hb : (a.name == g) = false := by simp [hgn]
  rw [hb, Bool.false_or] at hfr
  rw [if_neg hgn] at hst
  by_cases hld : a.leader = g
  · have d1 : decide (a.leader = g) = true := decide_eq_true hld
    have hm : mentF g a = true := by simp [mentF, hld]
    rw [hm, Bool.not_true, Bool.false_and] at hfr
    rw [hfr, if_neg (by simp)] at hed
    simp -dsimp -implicitDefEqProofs (disch := omega) only [go_sem, reqD_of, dec_t, dec_f, wrap_i64, wrap_u32, wrap_u64, wrap_u8, hd, e1, e6, e7, e8, hlt, f1, f2, d0, d1]
    exact .inr ⟨62, by decide, hed, h.right.right.right, rfl⟩
  have d1 : decide (a.leader = g) = false := decide_eq_false hld
  have hcd : a.members.contains g = decide (g ∈ a.members) := by rw [Bool.eq_iff_iff]; simp
  have hm : mentF g a = decide (g ∈ a.members) := by
    have : (a.leader == g) = false := by simp [hld]
    rw [mentF, this, Bool.false_or, hcd]
  rw [hm] at hfr
  simp -dsimp -implicitDefEqProofs (disch := omega) only [go_sem, reqD_of, dec_t, dec_f, wrap_i64, wrap_u32, wrap_u64, wrap_u8, hd, e1, e6, e7, e8, hlt, f1, f2, f3, d0, d1]
  refine (has_any h ((Ent.right _ _).trans ((Ent.right _ _).trans ((Ent.left _ _).trans x1))) x2.c g).mono ?_
  rintro e' w2 ⟨h2, rfl⟩
  cases hmm : decide (g ∈ a.members)
  case true =>
    rw [hmm, Bool.not_true, Bool.false_and] at hfr
    rw [hfr, if_neg (by simp)] at hed
    simp -dsimp -implicitDefEqProofs (disch := omega) only [go_sem, reqD_of, dec_t, dec_f, wrap_i64, wrap_u32, wrap_u64, wrap_u8, hd, e1, e6, e7, e8]
    exact .inr ⟨62, by decide, hed, h2.right.right.right, rfl⟩
  rw [hmm, Bool.not_false, Bool.true_and] at hfr
  obtain ⟨_, r2⟩ := cells h2
  obtain ⟨am, cm, rfl⟩ := ms_slice h2 ((Ent.right _ _).trans ((Ent.right _ _).trans ((Ent.left _ _).trans x1)))
  simp -dsimp -implicitDefEqProofs (disch := omega) only [go_sem, reqD_of, dec_t, dec_f, wrap_i64, wrap_u32, wrap_u64, wrap_u8, hd, e1, e6, e7, e8, hlt, r2]
  refine h2.lit (t := 38) (n := 1) (cells := accL a (.slice am a.members.length cm)) fact_rowTy_38 rfl (by decide) (by decide) fun v7 w7 h7 => ?_
  obtain ⟨a7, c7, rfl, _⟩ := h7.rowForm v7
  simp -dsimp -implicitDefEqProofs (disch := omega) only [go_sem, reqD_of, dec_t, dec_f, wrap_i64, wrap_u32, wrap_u64, wrap_u8, hd, e1, e6, e7, e8]
  refine h7.appR (v := .slice al M.length cl) (x := .slice a7 1 c7) fact_rowTy_38 Tryz.underlying38 (fun u hu => by simp at hu; rcases hu with rfl | rfl | rfl | rfl <;> rfl) (by simp) (show _ ≤ 9223372036854775807 by omega) (by omega) fun v8 w8 h8 => ?_
  obtain ⟨a8, c8, rfl, _⟩ := h8.rowForm v8
  simp -dsimp -implicitDefEqProofs (disch := omega) only [go_sem, reqD_of, dec_t, dec_f, wrap_i64, wrap_u32, wrap_u64, wrap_u8, hd, e1, e6, e7, e8]
  have q1 : (M ++ [(a, Value.slice am a.members.length cm)]).length = M.length + 1 := by simp
  have q2 : (M ++ [(a, Value.slice am a.members.length cm)]).flatMap accC = M.flatMap accC ++ accL a (.slice am a.members.length cm) := by simp
  refine ⟨⟨i + 1, .slice a8 (M.length + 1) c8, M ++ [(a, Value.slice am a.members.length cm)], by omega, by omega, rfl, by rw [hst, ← hM]; simp, ?_, by omega, hfr, ?_⟩, by omega⟩
  · intro x hx
    rcases List.mem_append.1 hx with hx | hx
    · exact hMm x hx
    · simp only [List.mem_singleton] at hx
      subst hx
      exact hxm
  · unfold rowA
    rw [q1, q2]
    exact h8.sub
end
end Go.Proofs.YtkijkoakloacoaaGreatDoor

namespace Go.Proofs.YtkijkoakloacoaaGreatDoor
open Go
set_option linter.unusedVariables false
set_option linter.unusedSimpArgs false
set_option maxRecDepth 100000

theorem goneF_drop {line : List UInt8} : goneF line = if 0 < line.length ∧ (line.getD 0 0).toNat = 45 ∧ nameF (line.drop 1) = true then some (line.drop 1) else none := by
  cases line with
  | nil => rfl
  | cons c g =>
    have e : c = 45 ↔ c.toNat = 45 := ⟨fun h => by rw [h]; rfl, fun h => UInt8.toNat_inj.1 h⟩
    simp only [goneF, List.length_cons, List.getD_cons_zero, List.drop_one, List.tail_cons, e]
    by_cases h : c.toNat = 45 ∧ nameF g = true
    · rw [if_pos h, if_pos ⟨by omega, h.1, h.2⟩]
    · rw [if_neg h, if_neg fun q => h q.2]

/-- Where the new account stands. -/
structure PutI (y : RT) (a : Acc) (v : Value) (L : List AV) (B : HP) : Prop where
  eq : accs L = putF (accs y.L) a
  ms : MsS B L
  few : L.length ≤ 65537

section
attribute [local go_sem] F20.t17_eq F20.t15_eq F20.t8_eq F20.t6_eq
theorem redit_13 {w0 w : World} {A B : HP} {U P6 : Nat} {y : RT} {line : List UInt8} {a : Acc} {v vl : Value} {L : List AV} {e : FA} (ok : y.Ok) (hg : goneF line = none) (ha : accF line = some a) (ho : onceF a = true) (hd : e.ds = []) (e6 : e.ρ 6 = .pointer (some ⟨P6, 0, none⟩)) (e8 : e.ρ 8 = vl) (hs : Sm a) (p : PutI y a v L B) (hvt : Ent B (ReadsT v a.members)) (hll : line.length ≤ 16777215)
    (h : St w0 (rowA vl L * (B * (Blk P6 (.cells (accL a v).toArray 72 (0, 0)) * (RefW U y * A)))) w) :
    cwE Tryz.prog F20.t13 (fnP Tryz.prog #[.tmp 4, .tmp 5] (REditR w0 A U y line)) e w := by
  rw [F20.t13_eq]
  have htx := ok.txt
  have hfw := ok.few
  have hpf := p.few
  have hpe := p.eq
  have hed : editF (accs y.L) line = if !namedF (putF (accs y.L) a) a then .error 62 else endE (putF (accs y.L) a) := by
    unfold editF
    rw [hg]
    simp only [editA, ha, ho, Bool.not_true, Bool.false_eq_true, if_false]
  have rd : Ent (rowA vl L * (B * (Blk P6 (.cells (accL a v).toArray 72 (0, 0)) * (RefW U y * A)))) (ReadsA vl L) := (Ent.left _ _).trans (RowO.reads _ _ _ _ _)
  have hB : Ent (rowA vl L * (B * (Blk P6 (.cells (accL a v).toArray 72 (0, 0)) * (RefW U y * A)))) B := (Ent.right _ _).trans (Ent.left _ _)
  obtain ⟨al, cl, rfl, _⟩ := h.rowForm vl
  obtain ⟨am, cm, rfl⟩ := ms_slice h (hB.trans hvt)
  have r6 := h.rowH P6 4 rfl
  have hrow : (lineF a).length ≤ 16777216 := by simp only [lineF, List.length_append, List.length_cons, List.length_nil]; rw [row_of ha]; omega
  have htp := (text_put (accs y.L) a).1
  have hal : (accs y.L).length ≤ 65536 := by simpa using hfw
  have hmul : ((accs y.L).length + 1) * (lineF a).length ≤ 65537 * 16777216 := Nat.mul_le_mul (by omega) hrow
  have htl : (textF (accs L)).length ≤ 70368744177664 := by rw [hpe]; omega
  simp -dsimp -implicitDefEqProofs (disch := omega) only [go_sem, reqD_of, dec_t, dec_f, wrap_i64, wrap_u32, wrap_u64, wrap_u8, hd, e6, e8, r6]
  refine (knows_any h rd (by omega) (hB.trans hvt) hs.c).mono ?_
  rw [hpe]
  rintro e' w2 ⟨h2, rfl⟩
  cases hn : namedF (putF (accs y.L) a) a
  · rw [hn, Bool.not_false, if_pos rfl] at hed
    simp -dsimp -implicitDefEqProofs (disch := omega) only [go_sem, reqD_of, dec_t, dec_f, wrap_i64, wrap_u32, wrap_u64, wrap_u8, hd, e6, e8]
    exact .inr ⟨62, by decide, hed, h2.right.right.right, rfl⟩
  rw [hn, Bool.not_true, if_neg (by simp)] at hed
  simp -dsimp -implicitDefEqProofs (disch := omega) only [go_sem, reqD_of, dec_t, dec_f, wrap_i64, wrap_u32, wrap_u64, wrap_u8, hd, e6, e8]
  refine (length_any h2 rd (p.ms.weak hB) htl (by omega)).mono ?_
  rw [hpe]
  rintro e' w3 ⟨h3, k, rfl, hk⟩
  cases hj : joinF (putF (accs y.L) a)
  · rw [endE, hj, if_neg (by simp)] at hed
    rw [hj] at hk
    have hk : (65536 : Int) < k := of_decide_eq_true hk
    simp -dsimp -implicitDefEqProofs (disch := omega) only [go_sem, reqD_of, dec_t, dec_f, wrap_i64, wrap_u32, wrap_u64, wrap_u8, hd, e6, e8, hk]
    exact .inr ⟨1, by decide, hed, h3.right.right.right, rfl⟩
  rw [endE, hj, if_pos rfl, ← hpe] at hed
  rw [hj] at hk
  have hk : ¬ (65536 : Int) < k := of_decide_eq_false hk
  have hj2 : (textF (accs L)).length ≤ 65536 := by rw [hpe]; exact of_decide_eq_true hj
  have htc := text_pos (accs L)
  rw [List.length_map] at htc
  simp -dsimp -implicitDefEqProofs (disch := omega) only [go_sem, reqD_of, dec_t, dec_f, wrap_i64, wrap_u32, wrap_u64, wrap_u8, hd, e6, e8, hk]
  refine onV_of (v := .agg #[.slice al L.length cl]) (by kernel_rfl) ?_
  simp -dsimp -implicitDefEqProofs (disch := omega) only [go_sem, reqD_of, dec_t, dec_f, wrap_i64, wrap_u32, wrap_u64, wrap_u8, hd]
  refine h3.new fun U' w4 h4 => ?_
  simp -dsimp -implicitDefEqProofs (disch := omega) only [go_sem, reqD_of, dec_t, dec_f, wrap_i64, wrap_u32, wrap_u64, wrap_u8, hd]
  refine .inl ⟨U', ⟨.slice al L.length cl, L, B⟩, hed, ⟨p.ms, ?_, by show L.length ≤ 65536; omega, hj2⟩, ?_, rfl⟩
  · show allF (accs L) = true
    rw [hpe]
    exact put_all ok.all (accF_formR ha) ho hn
  · have h5 : St w0 (Blk P6 (.cells (accL a (.slice am a.members.length cm)).toArray 72 (0, 0)) * (RefW U' ⟨.slice al L.length cl, L, B⟩ * (RefW U y * A))) w4 := h4.ac (by simp only [RefW, refB]; ac_rfl)
    exact h5.right

theorem redit_3 {w0 w : World} {A : HP} {U : Nat} {y : RT} {line : List UInt8} {e : FA} (ok : y.Ok) (hg : goneF line = none) (hd : e.ds = []) (e0 : e.ρ 0 = .pointer (some ⟨U, 0, none⟩)) (e1 : e.ρ 1 = .string (strOf line)) (hll : line.length ≤ 16777215)
    (h : St w0 (RefW U y * A) w) :
    cwE Tryz.prog F20.t3 (fnP Tryz.prog #[.tmp 4, .tmp 5] (REditR w0 A U y line)) e w := by
  rw [F20.t3_eq]
  obtain ⟨_, _, hnd, _⟩ := allF_facts ok.all
  have hfw := ok.few
  simp -dsimp -implicitDefEqProofs (disch := omega) only [go_sem, reqD_of, dec_t, dec_f, wrap_i64, wrap_u32, wrap_u64, wrap_u8, hd, e0, e1]
  refine (raccount_any h hll).mono ?_
  rintro e' w1 (⟨a, v, ha, hs, h1, rfl⟩ | ⟨ha, h1, rfl⟩)
  case inr =>
    have hed : editF (accs y.L) line = .error 60 := by unfold editF; rw [hg]; simp only [editA, ha]
    simp -dsimp -implicitDefEqProofs (disch := omega) only [go_sem, reqD_of, dec_t, dec_f, wrap_i64, wrap_u32, wrap_u64, wrap_u8, hd, e0, e1]
    refine h1.new fun Q w3 h3 => ?_
    simp -dsimp -implicitDefEqProofs (disch := omega) only [go_sem, reqD_of, dec_t, dec_f, wrap_i64, wrap_u32, wrap_u64, wrap_u8, hd, e0, e1]
    refine h3.stoAll (b := Q) (n := 4) (cs := accL ⟨[], [], [], []⟩ (.slice none 0 0)) rfl rfl (fun v hv => by simp at hv; rcases hv with rfl | rfl | rfl | rfl <;> rfl) fun w4 h4 => ?_
    simp -dsimp -implicitDefEqProofs (disch := omega) only [go_sem, reqD_of, dec_t, dec_f, wrap_i64, wrap_u32, wrap_u64, wrap_u8, hd]
    exact .inr ⟨60, by decide, hed, h4.right, rfl⟩
  obtain ⟨av, cv, rfl, _⟩ := h1.rowForm v
  simp -dsimp -implicitDefEqProofs (disch := omega) only [go_sem, reqD_of, dec_t, dec_f, wrap_i64, wrap_u32, wrap_u64, wrap_u8, hd, e0, e1]
  refine h1.new fun Q w3 h3 => ?_
  simp -dsimp -implicitDefEqProofs (disch := omega) only [go_sem, reqD_of, dec_t, dec_f, wrap_i64, wrap_u32, wrap_u64, wrap_u8, hd, e0, e1]
  refine h3.stoAll (b := Q) (n := 4) (cs := accL a (.slice av a.members.length cv)) rfl rfl (fun v hv => by simp at hv; rcases hv with rfl | rfl | rfl | rfl <;> rfl) fun w4 h4 => ?_
  simp -dsimp -implicitDefEqProofs (disch := omega) only [go_sem, reqD_of, dec_t, dec_f, wrap_i64, wrap_u32, wrap_u64, wrap_u8, hd, e0, e1, h4.cl Q]
  refine (twice_any (a := a) h4 ((Ent.right _ _).trans ((Ent.left _ _).trans (RowO.reads _ _ _ _ _))) hs.c).mono ?_
  rintro e' w5 ⟨h5, rfl⟩
  cases ho : onceF a
  · have hed : editF (accs y.L) line = .error 61 := by unfold editF; rw [hg]; simp only [editA, ha, ho, Bool.not_false, if_true]
    simp -dsimp -implicitDefEqProofs (disch := omega) only [go_sem, reqD_of, dec_t, dec_f, wrap_i64, wrap_u32, wrap_u64, wrap_u8, hd, e0, e1]
    exact .inr ⟨61, by decide, hed, h5.right.right, rfl⟩
  simp -dsimp -implicitDefEqProofs (disch := omega) only [go_sem, reqD_of, dec_t, dec_f, wrap_i64, wrap_u32, wrap_u64, wrap_u8, hd, e0, e1]
  have h6 : St w0 (RefW U y * (Blk Q (.cells (accL a (.slice av a.members.length cv)).toArray 72 (0, 0)) * (rowT (.slice av a.members.length cv) a.members * A))) w5 := h5.ac (by ac_rfl)
  refine (raccounts_any ok h6).mono ?_
  rintro e' w6 ⟨vo, L', B, hL, hB, h7, rfl⟩
  have hll' : L'.length = y.L.length := by have := congrArg List.length hL; simpa using this
  obtain ⟨al, cl, rfl, _⟩ := h7.rowForm vo
  simp -dsimp -implicitDefEqProofs (disch := omega) only [go_sem, reqD_of, dec_t, dec_f, wrap_i64, wrap_u32, wrap_u64, wrap_u8, hd, e0, e1, h7.cl Q]
  have rd : ∀ {X : HP}, Ent (rowA (.slice al L'.length cl) L' * X) (ReadsA (.slice al L'.length cl) L') := (Ent.left _ _).trans (RowO.reads _ _ _ _ _)
  refine (find_any h7 rd (by omega) a.name).mono ?_
  rw [hL]
  rintro e' w7 ⟨h8, k, hk, rfl⟩
  have hn := hk.neg
  have r8 := h8.rowH Q 4 rfl
  cases hkn : known (accs y.L) a.name
  · rw [hkn] at hn
    have hn : k < 0 := of_decide_eq_true hn
    have hput : putF (accs y.L) a = accs y.L ++ [a] := by rw [putF, hkn, if_neg (by simp)]
    simp -dsimp -implicitDefEqProofs (disch := omega) only [go_sem, reqD_of, dec_t, dec_f, wrap_i64, wrap_u32, wrap_u64, wrap_u8, hd, e0, e1, hn, r8]
    refine h8.lit (t := 38) (n := 1) (cells := accL a (.slice av a.members.length cv)) fact_rowTy_38 rfl (by decide) (by decide) fun v9 w9 h9 => ?_
    obtain ⟨a9, c9, rfl, _⟩ := h9.rowForm v9
    simp -dsimp -implicitDefEqProofs (disch := omega) only [go_sem, reqD_of, dec_t, dec_f, wrap_i64, wrap_u32, wrap_u64, wrap_u8, hd, e0, e1]
    refine h9.appR (v := .slice al L'.length cl) (x := .slice a9 1 c9) fact_rowTy_38 Tryz.underlying38 (fun u hu => by simp at hu; rcases hu with rfl | rfl | rfl | rfl <;> rfl) (by simp) (show _ ≤ 9223372036854775807 by omega) (by omega) fun v10 w10 h10 => ?_
    obtain ⟨a10, c10, rfl, _⟩ := h10.rowForm v10
    simp -dsimp -implicitDefEqProofs (disch := omega) only [go_sem, reqD_of, dec_t, dec_f, wrap_i64, wrap_u32, wrap_u64, wrap_u8, hd, e0, e1]
    have q1 : (L' ++ [(a, Value.slice av a.members.length cv)]).length = L'.length + 1 := by simp
    have q2 : (L' ++ [(a, Value.slice av a.members.length cv)]).flatMap accC = L'.flatMap accC ++ accL a (.slice av a.members.length cv) := by simp
    refine redit_13 (U := U) (P6 := Q) (v := .slice av a.members.length cv) (vl := .slice a10 (L'.length + 1) c10) (L := L' ++ [(a, Value.slice av a.members.length cv)]) (B := rowT (.slice av a.members.length cv) a.members * B) ok hg ha ho (by simp -dsimp -implicitDefEqProofs only [go_sem, hd]) (by simp -dsimp -implicitDefEqProofs only [go_sem]) (by simp -dsimp -implicitDefEqProofs only [go_sem]) hs ⟨by rw [hput, ← hL]; simp, ?_, by omega⟩ ((Ent.left _ _).trans (RowO.reads _ _ _ _ _)) hll ?_
    · intro x hx
      rcases List.mem_append.1 hx with hx | hx
      · exact ⟨(Ent.right _ _).trans (hB x hx).1, (hB x hx).2⟩
      · simp only [List.mem_singleton] at hx
        subst hx
        exact ⟨(Ent.left _ _).trans (RowO.reads _ _ _ _ _), hs, rfl⟩
    · unfold rowA
      rw [q1, q2]
      have h11 : St w0 (RowO 72 4 (.slice a10 (L'.length + 1) c10) (L'.length + 1) (L'.flatMap accC ++ accL a (.slice av a.members.length cv)) * (B * (RefW U y * (Blk Q (.cells (accL a (.slice av a.members.length cv)).toArray 72 (0, 0)) * (rowT (.slice av a.members.length cv) a.members * A))))) w10 := h10.sub
      exact h11.ac (by unfold RefW rowA; ac_rfl)
  · rw [hkn] at hn
    have hn : ¬ k < 0 := of_decide_eq_false hn
    obtain ⟨i, hi, rfl, he⟩ := findK_at hk hkn
    have hi1 : i < L'.length := by rw [hll']; simpa using hi
    have hput : putF (accs y.L) a = (accs y.L).set i a := by rw [putF, hkn, if_pos rfl, set_eq_map hnd hi he]
    obtain ⟨_, _, e9, hoa⟩ := rdA_form h8 rd
    simp only [Value.slice.injEq, true_and] at e9
    obtain ⟨rfl, rfl⟩ := e9
    obtain ⟨b, o, rfl⟩ := hoa i hi1
    have hlt : (i : Int) < L'.length := by omega
    simp -dsimp -implicitDefEqProofs (disch := omega) only [go_sem, reqD_of, dec_t, dec_f, wrap_i64, wrap_u32, wrap_u64, wrap_u8, hd, e0, e1, hn, r8, hlt]
    refine h8.rowSet (T := 72) (s := 4) (g := b) (o := o) (n := L'.length) (c := cl) (k := i * 4) (m := 4) (cs := accL a (.slice av a.members.length cv)) (xs := L'.flatMap accC) rfl (by rw [flatMap_length accC_len]; omega) (fun v hv => by simp at hv; rcases hv with rfl | rfl | rfl | rfl <;> rfl) fun w9 h9 => ?_
    simp -dsimp -implicitDefEqProofs (disch := omega) only [go_sem, reqD_of, dec_t, dec_f, wrap_i64, wrap_u32, wrap_u64, wrap_u8, hd, e0, e1]
    have hset := accC_set i L' (a, .slice av a.members.length cv) hi1
    have q1 : (L'.set i (a, Value.slice av a.members.length cv)).length = L'.length := by simp
    refine redit_13 (U := U) (P6 := Q) (v := .slice av a.members.length cv) (vl := .slice (some ⟨b, o, none⟩) L'.length cl) (L := L'.set i (a, Value.slice av a.members.length cv)) (B := rowT (.slice av a.members.length cv) a.members * B) ok hg ha ho (by simp -dsimp -implicitDefEqProofs only [go_sem, hd]) (by simp -dsimp -implicitDefEqProofs only [go_sem]) (by simp -dsimp -implicitDefEqProofs only [go_sem]) hs ⟨by rw [hput, ← hL, accs, List.map_set], ?_, by omega⟩ ((Ent.left _ _).trans (RowO.reads _ _ _ _ _)) hll ?_
    · intro x hx
      rcases List.mem_or_eq_of_mem_set hx with hx | hx
      · exact ⟨(Ent.right _ _).trans (hB x hx).1, (hB x hx).2⟩
      · subst hx
        exact ⟨(Ent.left _ _).trans (RowO.reads _ _ _ _ _), hs, rfl⟩
    · unfold rowA
      rw [q1, ← hset]
      have h11 : St w0 (RowO 72 4 (.slice (some ⟨b, o, none⟩) L'.length cl) L'.length (setRowL (L'.flatMap accC) (i * 4) (accL a (.slice av a.members.length cv))) * (B * (RefW U y * (Blk Q (.cells (accL a (.slice av a.members.length cv)).toArray 72 (0, 0)) * (rowT (.slice av a.members.length cv) a.members * A))))) w9 := h9.sub
      exact h11.ac (by unfold RefW rowA; ac_rfl)

theorem redit_any {w0 w : World} {A : HP} {U : Nat} {y : RT} (ok : y.Ok) (h : St w0 (RefW U y * A) w) (line : List UInt8) (hl : line.length ≤ 16777215) :
    Calls Tryz.prog 20 #[.pointer (some ⟨U, 0, none⟩), .string (strOf line)] w (REditR w0 A U y line) := by
  refine F20.calls (by simp) ?_
  unfold F20.code
  have hgd := goneF_drop (line := line)
  by_cases h0 : (line.length : Int) > 0
  case neg =>
    rw [if_neg (by omega)] at hgd
    simp -dsimp -implicitDefEqProofs (disch := omega) only [go_sem, reqD_of, dec_t, dec_f, wrap_i64, wrap_u32, wrap_u64, wrap_u8, h0]
    exact redit_3 ok hgd (by simp -dsimp -implicitDefEqProofs only [go_sem]) (by simp -dsimp -implicitDefEqProofs only [go_sem]) (by simp -dsimp -implicitDefEqProofs only [go_sem]) hl h
  obtain ⟨c, hc⟩ : ∃ c, c = (line.getD 0 0).toNat := ⟨_, rfl⟩
  rw [← hc] at hgd
  by_cases h1 : (c : Int) = 45
  case neg =>
    rw [if_neg (by omega)] at hgd
    simp -dsimp -implicitDefEqProofs (disch := omega) only [go_sem, reqD_of, dec_t, dec_f, wrap_i64, wrap_u32, wrap_u64, wrap_u8, h0, ← hc, h1]
    exact redit_3 ok hgd (by simp -dsimp -implicitDefEqProofs only [go_sem]) (by simp -dsimp -implicitDefEqProofs only [go_sem]) (by simp -dsimp -implicitDefEqProofs only [go_sem]) hl h
  have h1' : (1 : Int) ≤ line.length := by omega
  simp -dsimp -implicitDefEqProofs (disch := omega) only [go_sem, reqD_of, dec_t, dec_f, wrap_i64, wrap_u32, wrap_u64, wrap_u8, h0, ← hc, h1, h1']
  refine (refName_any h (line.drop 1) (by simp; omega)).mono ?_
  rintro e w1 ⟨h2, rfl⟩
  cases hn : nameF (line.drop 1)
  · rw [hn, if_neg (by simp)] at hgd
    simp -dsimp -implicitDefEqProofs (disch := omega) only [go_sem, reqD_of, dec_t, dec_f, wrap_i64, wrap_u32, wrap_u64, wrap_u8]
    exact redit_3 ok hgd (by simp -dsimp -implicitDefEqProofs only [go_sem]) (by simp -dsimp -implicitDefEqProofs only [go_sem]) (by simp -dsimp -implicitDefEqProofs only [go_sem]) hl h2
  · rw [hn, if_pos ⟨by omega, by omega, rfl⟩] at hgd
    simp -dsimp -implicitDefEqProofs (disch := omega) only [go_sem, reqD_of, dec_t, dec_f, wrap_i64, wrap_u32, wrap_u64, wrap_u8, h1']
    refine (rwithout_any ok h2 hgd).mono ?_
    rintro e w2 (⟨U', y', q1, q2, q3, rfl⟩ | ⟨k, q1, q2, q3, rfl⟩)
    · simp -dsimp -implicitDefEqProofs (disch := omega) only [go_sem, reqD_of, dec_t, dec_f, wrap_i64, wrap_u32, wrap_u64, wrap_u8]
      exact .inl ⟨U', y', q1, q2, q3, rfl⟩
    · simp -dsimp -implicitDefEqProofs (disch := omega) only [go_sem, reqD_of, dec_t, dec_f, wrap_i64, wrap_u32, wrap_u64, wrap_u8]
      exact .inr ⟨k, q1, q2, q3, rfl⟩
end
end Go.Proofs.YtkijkoakloacoaaGreatDoor

namespace Go.Proofs.YtkijkoakloacoaaGreatDoor
open Go
set_option linter.unusedVariables false
set_option linter.unusedSimpArgs false
set_option maxRecDepth 100000

/-- A table, and the reference's. -/
structure ZD where
  T : Nat
  m : Nat
  x : UT
  U : Nat
  y : RT
structure ZD.Ok (z : ZD) : Prop where
  x : z.x.Ok
  y : z.y.Ok
  eq : accs z.x.L = accs z.y.L
theorem ZD.Ok.tab {z : ZD} (h : z.Ok) : TabL (accs z.x.L) := ⟨by rw [h.eq]; exact (allF_facts h.y.all).2.2.1, by rw [h.eq]; exact decide_eq_true h.y.txt⟩
def tabZ (z : ZD) : HP := TabW z.T z.m z.x * RefW z.U z.y
abbrev ptrT (z : ZD) : Value := .pointer (some ⟨z.T, 0, none⟩)
abbrev ptrU (z : ZD) : Value := .pointer (some ⟨z.U, 0, none⟩)
abbrev rowTs (v : Value) (Z : List ZD) : HP := RowO 25 1 v Z.length (Z.map ptrT)
abbrev rowUs (v : Value) (Z : List ZD) : HP := RowO 29 1 v Z.length (Z.map ptrU)
theorem tabZ_mid {Z : List ZD} {k : Nat} (hk : k < Z.length) : starL tabZ Z = tabZ Z[k] * starL tabZ (Z.take k ++ Z.drop (k + 1)) := by
  have hdec : Z = Z.take k ++ Z[k] :: Z.drop (k + 1) := by rw [← List.drop_eq_getElem_cons hk, List.take_append_drop]
  conv => lhs; rw [hdec]
  exact starL_mid tabZ Z[k] _ _
theorem tabZ_snoc (Z : List ZD) (z : ZD) : Ent (starL tabZ Z * tabZ z) (starL tabZ (Z ++ [z])) := by
  refine Ent.trans (Ent.sep (Ent.rfl' _) ?_) (starL_join tabZ Z [z])
  show Ent _ (tabZ z * EmpH)
  rw [sep_comm]
  exact Ent.embL _

/-- A step. -/
abbrev StD := Int × List UInt8
abbrev stC (s : StD) : List Value := [.int .i64 s.1, sv s.2]
theorem stC_len (s : StD) : (stC s).length = 2 := rfl
structure ArgS (A : HP) (v : Value) (L : List StD) : Prop where
  rd : Ent A (Reads 2 v L.length (L.flatMap stC))
  on : ∀ s ∈ L, InI s.1
  line : ∀ s ∈ L, s.2.length ≤ 140737488355328
  len : L.length ≤ 140737488355328
theorem ArgS.take {A : HP} {a : Option Addr} {c k : Nat} {L : List StD} (h : ArgS A (.slice a L.length c) L) (hk : k ≤ L.length) : ArgS A (.slice a k c) (L.take k) := by
  have h1 := Reads.takeK (s := 2) (a := a) (c := c) (xs := L.flatMap stC) hk
  rw [slice_ite, Nat.sub_zero, flatMap_take stC_len] at h1
  have hl : (L.take k).length = k := by simp; omega
  refine ⟨h.rd.trans (by rw [hl]; exact h1), fun s hs => h.on s (List.mem_of_mem_take hs), fun s hs => h.line s (List.mem_of_mem_take hs), by rw [hl]; have := h.len; omega⟩
theorem ArgS.form {w0 w : World} {A : HP} {v : Value} {L : List StD} (g : ArgS A v L) (h : St w0 A w) : ∃ a c, v = .slice a L.length c ∧ L.length ≤ c ∧ ∀ k, k < L.length → ∃ b o, a = some ⟨b, o, none⟩ := by
  obtain ⟨_, a, c, e, hc, hrow⟩ := St.rowsAt stC_len (by decide) (h.ent g.rd)
  refine ⟨a, c, e, hc, fun k hk => ?_⟩
  obtain ⟨b, o, e2, _⟩ := hrow k hk
  exact ⟨b, o, e2⟩
theorem ArgS.cells {w0 w : World} {A B : HP} {b o c : Nat} {L : List StD} (g : ArgS A (.slice (some ⟨b, o, none⟩) L.length c) L) (h : St w0 B w) (hB : Ent B A) {k : Nat} (hk : k < L.length) :
    w.cell? ⟨b, o + k * 2, none⟩ = some (.int .i64 L[k].1) ∧ w.cell? ⟨b, o + k * 2 + 1, none⟩ = some (sv L[k].2) := by
  obtain ⟨_, _, _, hv', _, hrow⟩ := St.rowsAt stC_len (by decide) (h.ent (hB.trans g.rd))
  simp only [Value.slice.injEq, true_and] at hv'
  obtain ⟨e1, rfl⟩ := hv'
  obtain ⟨b', o', e2, _, hc⟩ := hrow k hk
  rw [← e1] at e2
  simp only [Option.some.injEq, Addr.mk.injEq, and_true] at e2
  obtain ⟨rfl, rfl⟩ := e2
  exact ⟨hc 0 (by decide), hc 1 (by decide)⟩

abbrev EdS (Bk nb : Nat) (vt vw : Value) (Z : List ZD) (A : HP) : HP := BookP Bk nb * (rowTs vt Z * (rowUs vw Z * (starL tabZ Z * A)))

section
variable {w0 w : World} {A : HP} {e : FA} {Bk : Nat} {vt vw vx : Value} {Z : List ZD} {ts : List (List UInt8)}
section
attribute [local go_sem] F5.t9_eq F5.t10_eq F5.t31_eq F5.t30_eq F5.t24_eq F5.t25_eq F5.t38_eq F5.t39_eq F5.t42_eq F5.t17_eq F5.t11_eq
theorem edits_t36 {n : Nat} (hZ : ∀ z ∈ Z, z.Ok) (hl : Z.length ≤ 31) (hn : n ≤ 3000000) (hts : ts.length ≤ 12) (ht : Ent A (ReadsT vx ts)) (hd : e.ds = []) (e2 : e.ρ 2 = vx) (e16 : e.ρ 16 = .pointer (some ⟨Bk, 0, none⟩)) (e17 : e.ρ 17 = vt) (e18 : e.ρ 18 = vw)
    (h : St w0 (EdS Bk n vt vw Z A) w) :
    cwE Tryz.prog F5.t36 (fnP Tryz.prog #[.tmp 6] fun e w' => St w0 A w' ∧ e = .returned (.bool true)) e w := by
  rw [F5.t36_eq]
  obtain ⟨at', ct, rfl, _⟩ := h.rowForm vt
  obtain ⟨aw, cw, rfl, _⟩ := h.rowForm vw
  simp -dsimp -implicitDefEqProofs (disch := omega) only [go_sem, reqD_of, dec_t, dec_f, wrap_i64, wrap_u32, wrap_u64, wrap_u8, hd, e2, e16, e17, e18]
  refine loop_intro (fun e w' => e.ds = [] ∧ e.ρ 2 = vx ∧ e.ρ 16 = .pointer (some ⟨Bk, 0, none⟩) ∧ e.ρ 17 = .slice at' Z.length ct ∧ e.ρ 18 = .slice aw Z.length cw ∧ ∃ i : Nat, i ≤ Z.length ∧ e.ρ 26 = .int .i64 i ∧ St w0 (EdS Bk (n + 70000 * i) (.slice at' Z.length ct) (.slice aw Z.length cw) Z A) w')
    (fun e _ => match e.ρ 26 with | .int _ n => (Z.length - n).toNat | _ => 0) ?_ ?_
  · exact ⟨by simp -dsimp -implicitDefEqProofs only [go_sem, hd], by simp -dsimp -implicitDefEqProofs only [go_sem, e2], by simp -dsimp -implicitDefEqProofs only [go_sem, e16], by simp -dsimp -implicitDefEqProofs only [go_sem, e17], by simp -dsimp -implicitDefEqProofs only [go_sem, e18], 0, by omega, by simp -dsimp -implicitDefEqProofs only [go_sem], h⟩
  clear h hd e2 e16 e17 e18
  rintro e w ⟨hd, e2, e16, e17, e18, i, hi, e26, h⟩
  by_cases hlt : (i : Int) < (Z.length : Int)
  case neg =>
    simp -dsimp -implicitDefEqProofs (disch := omega) only [go_sem, reqD_of, dec_t, dec_f, wrap_i64, wrap_u32, wrap_u64, wrap_u8, hd, e2, e16, e17, e18, e26, hlt]
    refine (ends_any (by omega) h).mono ?_
    rintro e' w1 ⟨h1, rfl⟩
    simp -dsimp -implicitDefEqProofs (disch := omega) only [go_sem, reqD_of, dec_t, dec_f, wrap_i64, wrap_u32, wrap_u64, wrap_u8, hd]
    exact h1.right.right.right.right
  have hi1 : i < Z.length := by omega
  have hz := hZ _ (List.getElem_mem hi1)
  have emid := tabZ_mid hi1
  obtain ⟨b1, o1, rfl, c1⟩ := h.at1 (a := at') (n := Z.length) (c := ct) (xs := Z.map ptrT) (k := i) (by simpa using hi1)
  obtain ⟨b2, o2, rfl, c2⟩ := h.at1 (a := aw) (n := Z.length) (c := cw) (xs := Z.map ptrU) (k := i) (by simpa using hi1)
  rw [List.getElem_map] at c1 c2
  obtain ⟨z, hze⟩ : ∃ z, z = Z[i] := ⟨_, rfl⟩
  rw [← hze] at c1 c2 hz emid
  have d1 : w.drew.cell? _ = _ := c1
  have d2 : w.drew.cell? _ = _ := c2
  obtain ⟨S, hS⟩ : ∃ S, S = starL tabZ (Z.take i ++ Z.drop (i + 1)) := ⟨_, rfl⟩
  rw [← hS] at emid
  obtain ⟨ax, cx, rfl, _⟩ := h.texts ((Ent.right _ _).trans ((Ent.right _ _).trans ((Ent.right _ _).trans ((Ent.right _ _).trans ht))))
  simp -dsimp -implicitDefEqProofs (disch := omega) only [go_sem, reqD_of, dec_t, dec_f, wrap_i64, wrap_u32, wrap_u64, wrap_u8, hd, e2, e16, e17, e18, e26, hlt, c1, c2, d1, d2]
  have h1 : St w0 (BookP Bk (n + 70000 * i) * (TabW z.T z.m z.x * (RefW z.U z.y * (rowTs (.slice (some ⟨b1, o1, none⟩) Z.length ct) Z * (rowUs (.slice (some ⟨b2, o2, none⟩) Z.length cw) Z * (S * A)))))) w.drew := h.drew.ac (by unfold EdS; rw [emid]; unfold tabZ; ac_rfl)
  refine (tells_any hz.x hz.y hz.eq (by omega) hts ((Ent.right _ _).trans ((Ent.right _ _).trans ((Ent.right _ _).trans ht))) h1).mono ?_
  rintro e' w2 ⟨h2, rfl⟩
  rw [show n + 70000 * i + 70000 = n + 70000 * (i + 1) by omega] at h2
  simp -dsimp -implicitDefEqProofs (disch := omega) only [go_sem, reqD_of, dec_t, dec_f, wrap_i64, wrap_u32, wrap_u64, wrap_u8, hd, e2, e16, e17, e18, e26]
  exact ⟨⟨i + 1, by omega, by omega, h2.ac (by unfold EdS; rw [emid]; unfold tabZ; ac_rfl)⟩, by omega⟩

theorem edits_t19 {vs : Value} {L : List StD} {T m U : Nat} {x : UT} {y : RT} [Gives A Tabs] (ok : x.Ok) (oky : y.Ok) (he : accs x.L = accs y.L) (hs : ArgS A vs L) (hL : L.length ≤ 30) (hll : ∀ s ∈ L, s.2.length ≤ 8388608) (hts : ts.length ≤ 12) (ht : Ent A (ReadsT vx ts)) (hd : e.ds = []) (e1 : e.ρ 1 = vs) (e2 : e.ρ 2 = vx) (e10 : e.ρ 10 = .pointer (some ⟨T, 0, none⟩)) (e13 : e.ρ 13 = .pointer (some ⟨U, 0, none⟩))
    (h : St w0 (TabW T m x * (RefW U y * A)) w) :
    cwE Tryz.prog F5.t19 (fnP Tryz.prog #[.tmp 6] fun e w' => St w0 A w' ∧ e = .returned (.bool true)) e w := by
  rw [F5.t19_eq]
  have bb : ∀ q : Bool, (q == q) = true := fun q => beq_self_eq_true q
  obtain ⟨sa, sc, rfl, _, hso⟩ := hs.form h.right.right
  obtain ⟨ax, cx, rfl, _⟩ := h.right.right.texts ht
  simp -dsimp -implicitDefEqProofs (disch := omega) only [go_sem, reqD_of, dec_t, dec_f, wrap_i64, wrap_u32, wrap_u64, wrap_u8, hd, e1, e2, e10, e13]
  refine onV_of (v := .agg #[.slice none 0 0, .slice none 0 0, .slice none 0 0, .slice none 0 0, .slice none 0 0, .slice none 0 0]) (by kernel_rfl) ?_
  simp -dsimp -implicitDefEqProofs (disch := omega) only [go_sem, reqD_of, dec_t, dec_f, wrap_i64, wrap_u32, wrap_u64, wrap_u8, hd, e1, e2, e10, e13]
  refine h.new fun Bk w4 h4 => ?_
  have h5 := book_new h4
  simp -dsimp -implicitDefEqProofs (disch := omega) only [go_sem, reqD_of, dec_t, dec_f, wrap_i64, wrap_u32, wrap_u64, wrap_u8, hd, e1, e2, e10, e13]
  refine h5.lit (t := 51) (n := 1) (cells := [.pointer (some ⟨T, 0, none⟩)]) fact_rowTy_51 rfl (by decide) (by decide) fun v6 w6 h6 => ?_
  obtain ⟨a6, c6, rfl, _⟩ := h6.rowForm v6
  simp -dsimp -implicitDefEqProofs (disch := omega) only [go_sem, reqD_of, dec_t, dec_f, wrap_i64, wrap_u32, wrap_u64, wrap_u8, hd, e1, e2, e10, e13]
  refine h6.lit (t := 52) (n := 1) (cells := [.pointer (some ⟨U, 0, none⟩)]) fact_rowTy_52 rfl (by decide) (by decide) fun v7 w7 h7 => ?_
  obtain ⟨a7, c7, rfl, _⟩ := h7.rowForm v7
  simp -dsimp -implicitDefEqProofs (disch := omega) only [go_sem, reqD_of, dec_t, dec_f, wrap_i64, wrap_u32, wrap_u64, wrap_u8, hd, e1, e2, e10, e13]
  have h8 : St w0 (EdS Bk 0 (.slice a6 1 c6) (.slice a7 1 c7) [⟨T, m, x, U, y⟩] A) w7 := by
    have h9 := h7.ent (Ent.sep (Ent.rfl' _) (Ent.sep (Ent.rfl' _) (Ent.sep (Ent.rfl' _) (empL' _))))
    exact h9.ac (by simp only [EdS, starL, tabZ, rowTs, rowUs, List.map_cons, List.map_nil, List.length_cons, List.length_nil, Nat.zero_add]; ac_rfl)
  refine loop_intro (fun e w' => e.ds = [] ∧ e.ρ 1 = .slice sa L.length sc ∧ e.ρ 2 = .slice ax ts.length cx ∧ e.ρ 16 = .pointer (some ⟨Bk, 0, none⟩) ∧ ∃ (i : Nat) (Z : List ZD) (vt vw : Value), i ≤ L.length ∧ 1 ≤ Z.length ∧ Z.length ≤ i + 1 ∧ (∀ z ∈ Z, z.Ok) ∧ e.ρ 17 = vt ∧ e.ρ 18 = vw ∧ e.ρ 19 = .int .i64 i ∧ St w0 (EdS Bk (70000 * i) vt vw Z A) w')
    (fun e _ => match e.ρ 19 with | .int _ n => (30 - n).toNat | _ => 0) ?_ ?_
  · exact ⟨by simp -dsimp -implicitDefEqProofs only [go_sem, hd], by simp -dsimp -implicitDefEqProofs only [go_sem, e1], by simp -dsimp -implicitDefEqProofs only [go_sem, e2], by simp -dsimp -implicitDefEqProofs only [go_sem], 0, [⟨T, m, x, U, y⟩], _, _, by omega, by simp, by simp, by simpa using ⟨ok, oky, he⟩, by simp -dsimp -implicitDefEqProofs only [go_sem], by simp -dsimp -implicitDefEqProofs only [go_sem], by simp -dsimp -implicitDefEqProofs only [go_sem], h8⟩
  clear h h4 h5 h6 h7 h8 hd e1 e2 e10 e13
  rintro e w ⟨hd, e1, e2, e16, i, Z, vt, vw, hi, hZ1, hZi, hZ, e17, e18, e19, h⟩
  obtain ⟨at', ct, rfl, _⟩ := h.rowForm vt
  obtain ⟨aw, cw, rfl, _⟩ := h.rowForm vw
  by_cases hlt : (i : Int) < (L.length : Int)
  case neg =>
    simp -dsimp -implicitDefEqProofs (disch := omega) only [go_sem, reqD_of, dec_t, dec_f, wrap_i64, wrap_u32, wrap_u64, wrap_u8, hd, e1, e2, e16, e17, e18, e19, hlt]
    exact edits_t36 hZ (by omega) (by omega) hts ht (by simp -dsimp -implicitDefEqProofs only [go_sem, hd]) (by simp -dsimp -implicitDefEqProofs only [go_sem, e2]) (by simp -dsimp -implicitDefEqProofs only [go_sem, e16]) (by simp -dsimp -implicitDefEqProofs only [go_sem, e17]) (by simp -dsimp -implicitDefEqProofs only [go_sem, e18]) h
  have hi1 : i < L.length := by omega
  have hi30 : (i : Int) < 30 := by omega
  obtain ⟨b, o, rfl⟩ := hso i hi1
  have gA : ∀ {n : Nat} {v1 v2 : Value} {Z : List ZD}, Ent (EdS Bk n v1 v2 Z A) A := (Ent.right _ _).trans ((Ent.right _ _).trans ((Ent.right _ _).trans (Ent.right _ _)))
  obtain ⟨c1, c2⟩ := hs.cells h gA hi1
  have hon := hs.on _ (List.getElem_mem hi1)
  have hln := hll _ (List.getElem_mem hi1)
  have cells : ∀ {w' : World} {B : HP}, St w0 B w' → Ent B A → _ := fun h g => hs.cells h g hi1
  obtain ⟨st, hst⟩ : ∃ st, st = L[i] := ⟨_, rfl⟩
  simp only [← hst] at c1 c2 hon hln cells
  simp -dsimp -implicitDefEqProofs (disch := omega) only [go_sem, reqD_of, dec_t, dec_f, wrap_i64, wrap_u32, wrap_u64, wrap_u8, hd, e1, e2, e16, e17, e18, e19, hlt, hi30, c1]
  refine (pick_any (n := (Z.length : Nat)) h hon (by omega) (by omega)).mono ?_
  rintro e' w1 ⟨h1, rfl⟩
  obtain ⟨k, hk, hpk⟩ := pick_nat (c := st.1) (n := Z.length) (by omega)
  rw [hpk]
  have hkl : (k : Int) < (Z.length : Int) := by omega
  have hz := hZ _ (List.getElem_mem hk)
  have emid := tabZ_mid hk
  obtain ⟨b1, o1, rfl, k1⟩ := h1.at1 (a := at') (n := Z.length) (c := ct) (xs := Z.map ptrT) (k := k) (by simpa using hk)
  obtain ⟨b2, o2, rfl, k2⟩ := h1.at1 (a := aw) (n := Z.length) (c := cw) (xs := Z.map ptrU) (k := k) (by simpa using hk)
  have k2s : ∀ {B : HP} {w' : World}, St w0 B w' → Ent B (rowUs (.slice (some ⟨b2, o2, none⟩) Z.length cw) Z) → w'.cell? ⟨b2, o2 + k, none⟩ = some (ptrU Z[k]) := fun hh g => by
    have i2 := Gives.mk (g.trans (RowO.reads 29 1 (.slice (some ⟨b2, o2, none⟩) Z.length cw) Z.length (Z.map ptrU)))
    obtain ⟨_, _, e9, hc⟩ := hh.at1 (i := i2) (k := k) (by simpa using hk)
    simp only [Option.some.injEq, Addr.mk.injEq, and_true] at e9
    obtain ⟨rfl, rfl⟩ := e9
    rw [List.getElem_map] at hc
    exact hc
  rw [List.getElem_map] at k1
  obtain ⟨z, hze⟩ : ∃ z, z = Z[k] := ⟨_, rfl⟩
  rw [← hze] at k1 hz emid
  simp only [← hze] at k2s
  obtain ⟨c1, c2⟩ := cells h1 gA
  obtain ⟨d1, d2⟩ := cells h1.drew gA
  have k1d : w1.drew.cell? _ = _ := k1
  obtain ⟨S, hS⟩ : ∃ S, S = starL tabZ (Z.take k ++ Z.drop (k + 1)) := ⟨_, rfl⟩
  rw [← hS] at emid
  have h2 : St w0 (TabW z.T z.m z.x * (RefW z.U z.y * (S * (BookP Bk (70000 * i) * (rowTs (.slice (some ⟨b1, o1, none⟩) Z.length ct) Z * (rowUs (.slice (some ⟨b2, o2, none⟩) Z.length cw) Z * A)))))) w1.drew := h1.drew.ac (by unfold EdS; rw [emid]; unfold tabZ; ac_rfl)
  simp -dsimp -implicitDefEqProofs (disch := omega) only [go_sem, reqD_of, dec_t, dec_f, wrap_i64, wrap_u32, wrap_u64, wrap_u8, hd, e1, e2, e16, e17, e18, e19, hlt, hkl, c1, c2, d1, d2, k1, k1d]
  have hac2 : ∀ {X : HP}, Ent (X * (RefW z.U z.y * (S * (BookP Bk (70000 * i) * (rowTs (.slice (some ⟨b1, o1, none⟩) Z.length ct) Z * (rowUs (.slice (some ⟨b2, o2, none⟩) Z.length cw) Z * A)))))) A := (Ent.right _ _).trans ((Ent.right _ _).trans ((Ent.right _ _).trans ((Ent.right _ _).trans ((Ent.right _ _).trans (Ent.right _ _)))))
  have hru : ∀ {X : HP}, Ent (X * (RefW z.U z.y * (S * (BookP Bk (70000 * i) * (rowTs (.slice (some ⟨b1, o1, none⟩) Z.length ct) Z * (rowUs (.slice (some ⟨b2, o2, none⟩) Z.length cw) Z * A)))))) (rowUs (.slice (some ⟨b2, o2, none⟩) Z.length cw) Z) := (Ent.right _ _).trans ((Ent.right _ _).trans ((Ent.right _ _).trans ((Ent.right _ _).trans ((Ent.right _ _).trans (Ent.left _ _)))))
  have hrt : ∀ {X : HP}, Ent (X * (RefW z.U z.y * (S * (BookP Bk (70000 * i) * (rowTs (.slice (some ⟨b1, o1, none⟩) Z.length ct) Z * (rowUs (.slice (some ⟨b2, o2, none⟩) Z.length cw) Z * A)))))) (rowTs (.slice (some ⟨b1, o1, none⟩) Z.length ct) Z) := (Ent.right _ _).trans ((Ent.right _ _).trans ((Ent.right _ _).trans ((Ent.right _ _).trans (Ent.left _ _))))
  refine (edit_any hz.x hz.tab h2 st.2 (by omega)).mono ?_
  rintro e' w2 (⟨T', mu, x', r1, ok', h3, rfl⟩ | ⟨kk, hk0, r1, h3, rfl⟩)
  case inr =>
    obtain ⟨c1, c2⟩ := cells h3 hac2
    obtain ⟨d1, d2⟩ := cells h3.drew hac2
    have u1 := k2s h3 hru
    have u1d : w2.drew.cell? _ = _ := u1
    simp -dsimp -implicitDefEqProofs (disch := omega) only [go_sem, reqD_of, dec_t, dec_f, wrap_i64, wrap_u32, wrap_u64, wrap_u8, hd, e1, e2, e16, e17, e18, e19, hlt, hkl, c2, d2, u1, u1d]
    refine (redit_any hz.y h3.drew.sw2 st.2 (by omega)).mono ?_
    rintro e' w3 (⟨U', y', r2, _⟩ | ⟨k', _, r2, h4, rfl⟩)
    · rw [← hz.eq, r1] at r2; cases r2
    rw [← hz.eq, r1] at r2
    cases r2
    have h5 := h4.sw2
    obtain ⟨c1, c2⟩ := cells h5 hac2
    simp -dsimp -implicitDefEqProofs (disch := omega) only [go_sem, reqD_of, dec_t, dec_f, wrap_i64, wrap_u32, wrap_u64, wrap_u8, hd, e1, e2, e16, e17, e18, e19, hlt, hkl, c2, bb]
    have h6 : St w0 (EdS Bk (70000 * i) (.slice (some ⟨b1, o1, none⟩) Z.length ct) (.slice (some ⟨b2, o2, none⟩) Z.length cw) Z A) w3 := h5.ac (by unfold EdS; rw [emid]; unfold tabZ; ac_rfl)
    exact ⟨⟨i + 1, Z, _, _, by omega, hZ1, by omega, hZ, rfl, rfl, by omega, h6.ent (Ent.sep (BookP.mono (by omega)) (Ent.rfl' _))⟩, by omega⟩
  have h3' : St w0 ((TabW T' mu x' * TabW z.T z.m z.x) * (RefW z.U z.y * (S * (BookP Bk (70000 * i) * (rowTs (.slice (some ⟨b1, o1, none⟩) Z.length ct) Z * (rowUs (.slice (some ⟨b2, o2, none⟩) Z.length cw) Z * A)))))) w2 := h3.ac (by ac_rfl)
  obtain ⟨c1, c2⟩ := cells h3' hac2
  obtain ⟨d1, d2⟩ := cells h3'.drew hac2
  have u1 := k2s h3' hru
  have u1d : w2.drew.cell? _ = _ := u1
  simp -dsimp -implicitDefEqProofs (disch := omega) only [go_sem, reqD_of, dec_t, dec_f, wrap_i64, wrap_u32, wrap_u64, wrap_u8, hd, e1, e2, e16, e17, e18, e19, hlt, hkl, c2, d2, u1, u1d]
  refine (redit_any hz.y h3'.drew.sw2 st.2 (by omega)).mono ?_
  rintro e' w3 (⟨U', y', r2, oky', h4, rfl⟩ | ⟨k', _, r2, _⟩)
  case inr => rw [← hz.eq, r1] at r2; cases r2
  rw [← hz.eq, r1] at r2
  have he' : accs x'.L = accs y'.L := by simpa using r2
  have h5 : St w0 ((RefW U' y' * (TabW T' mu x' * TabW z.T z.m z.x)) * (RefW z.U z.y * (S * (BookP Bk (70000 * i) * (rowTs (.slice (some ⟨b1, o1, none⟩) Z.length ct) Z * (rowUs (.slice (some ⟨b2, o2, none⟩) Z.length cw) Z * A)))))) w3 := h4.ac (by ac_rfl)
  obtain ⟨c1, c2⟩ := cells h5 hac2
  simp -dsimp -implicitDefEqProofs (disch := omega) only [go_sem, reqD_of, dec_t, dec_f, wrap_i64, wrap_u32, wrap_u64, wrap_u8, hd, e1, e2, e16, e17, e18, e19, hlt, hkl, c2, bb]
  refine h5.lit (t := 51) (n := 1) (cells := [.pointer (some ⟨T', 0, none⟩)]) fact_rowTy_51 rfl (by decide) (by decide) fun v6 w6 h6 => ?_
  obtain ⟨a6, c6, rfl, _⟩ := h6.rowForm v6
  simp -dsimp -implicitDefEqProofs (disch := omega) only [go_sem, reqD_of, dec_t, dec_f, wrap_i64, wrap_u32, wrap_u64, wrap_u8, hd, e1, e2, e16, e17, e18, e19]
  refine h6.appR (v := .slice (some ⟨b1, o1, none⟩) Z.length ct) (x := .slice a6 1 c6) fact_rowTy_51 Tryz.underlying51 (fun u hu => by simp at hu; subst hu; rfl) (by simp) (show _ ≤ 9223372036854775807 by omega) (by omega) fun v7 w7 h7 => ?_
  obtain ⟨a7, c7, rfl, _⟩ := h7.rowForm v7
  simp -dsimp -implicitDefEqProofs (disch := omega) only [go_sem, reqD_of, dec_t, dec_f, wrap_i64, wrap_u32, wrap_u64, wrap_u8, hd, e1, e2, e16, e17, e18, e19]
  refine h7.lit (t := 52) (n := 1) (cells := [.pointer (some ⟨U', 0, none⟩)]) fact_rowTy_52 rfl (by decide) (by decide) fun v8 w8 h8 => ?_
  obtain ⟨a8, c8, rfl, _⟩ := h8.rowForm v8
  simp -dsimp -implicitDefEqProofs (disch := omega) only [go_sem, reqD_of, dec_t, dec_f, wrap_i64, wrap_u32, wrap_u64, wrap_u8, hd, e1, e2, e16, e17, e18, e19]
  refine h8.appR (v := .slice (some ⟨b2, o2, none⟩) Z.length cw) (x := .slice a8 1 c8) fact_rowTy_52 Tryz.underlying52 (fun u hu => by simp at hu; subst hu; rfl) (by simp) (show _ ≤ 9223372036854775807 by omega) (by omega) fun v9 w9 h9 => ?_
  obtain ⟨a9, c9, rfl, _⟩ := h9.rowForm v9
  have h10 : St w0 (BookP Bk (70000 * i) * (TabW T' mu x' * (RefW U' y' * (RowO 25 1 (.slice a7 (Z.length + 1) c7) (Z.length + 1) (Z.map ptrT ++ [.pointer (some ⟨T', 0, none⟩)]) * (RowO 29 1 (.slice a9 (Z.length + 1) c9) (Z.length + 1) (Z.map ptrU ++ [.pointer (some ⟨U', 0, none⟩)]) * (TabW z.T z.m z.x * (RefW z.U z.y * (S * A)))))))) w9 :=
    (h9.ac (by ac_rfl : _ = RowO 25 1 (.slice a6 1 c6) 1 [.pointer (some ⟨T', 0, none⟩)] * (RowO 29 1 (.slice a8 1 c8) 1 [.pointer (some ⟨U', 0, none⟩)] * (BookP Bk (70000 * i) * (TabW T' mu x' * (RefW U' y' * (RowO 25 1 (.slice a7 (Z.length + 1) c7) (Z.length + 1) (Z.map ptrT ++ [.pointer (some ⟨T', 0, none⟩)]) * (RowO 29 1 (.slice a9 (Z.length + 1) c9) (Z.length + 1) (Z.map ptrU ++ [.pointer (some ⟨U', 0, none⟩)]) * (TabW z.T z.m z.x * (RefW z.U z.y * (S * A))))))))))).right.right
  simp -dsimp -implicitDefEqProofs (disch := omega) only [go_sem, reqD_of, dec_t, dec_f, wrap_i64, wrap_u32, wrap_u64, wrap_u8, hd, e1, e2, e16, e17, e18, e19]
  refine (tells_any ok' oky' he' (by omega) hts ((Ent.right _ _).trans ((Ent.right _ _).trans ((Ent.right _ _).trans ((Ent.right _ _).trans ((Ent.right _ _).trans ht))))) h10).mono ?_
  rintro e' w10 ⟨h11, rfl⟩
  rw [show 70000 * i + 70000 = 70000 * (i + 1) by omega] at h11
  simp -dsimp -implicitDefEqProofs (disch := omega) only [go_sem, reqD_of, dec_t, dec_f, wrap_i64, wrap_u32, wrap_u64, wrap_u8, hd, e1, e2, e16, e19]
  refine ⟨⟨i + 1, Z ++ [⟨T', mu, x', U', y'⟩], .slice a7 (Z.length + 1) c7, .slice a9 (Z.length + 1) c9, by omega, by simp, by simp; omega, ?_, rfl, rfl, by omega, ?_⟩, by omega⟩
  · intro q hq
    rcases List.mem_append.1 hq with hq | hq
    · exact hZ q hq
    · simp only [List.mem_singleton] at hq
      subst hq
      exact ⟨ok', oky', he'⟩
  · have q1 : (Z ++ [(⟨T', mu, x', U', y'⟩ : ZD)]).length = Z.length + 1 := by simp
    have q2 : (Z ++ [(⟨T', mu, x', U', y'⟩ : ZD)]).map ptrT = Z.map ptrT ++ [.pointer (some ⟨T', 0, none⟩)] := by simp
    have q3 : (Z ++ [(⟨T', mu, x', U', y'⟩ : ZD)]).map ptrU = Z.map ptrU ++ [.pointer (some ⟨U', 0, none⟩)] := by simp
    unfold EdS rowTs rowUs
    rw [q1, q2, q3]
    have h12 : St w0 (BookP Bk (70000 * (i + 1)) * (RowO 25 1 (.slice a7 (Z.length + 1) c7) (Z.length + 1) (Z.map ptrT ++ [.pointer (some ⟨T', 0, none⟩)]) * (RowO 29 1 (.slice a9 (Z.length + 1) c9) (Z.length + 1) (Z.map ptrU ++ [.pointer (some ⟨U', 0, none⟩)]) * ((starL tabZ Z * tabZ ⟨T', mu, x', U', y'⟩) * A)))) w10 := h11.ac (by rw [emid]; simp only [tabZ]; ac_rfl)
    exact h12.ent (Ent.sep (Ent.rfl' _) (Ent.sep (Ent.rfl' _) (Ent.sep (Ent.rfl' _) (Ent.sep (tabZ_snoc Z _) (Ent.rfl' _)))))
end
end
end Go.Proofs.YtkijkoakloacoaaGreatDoor
