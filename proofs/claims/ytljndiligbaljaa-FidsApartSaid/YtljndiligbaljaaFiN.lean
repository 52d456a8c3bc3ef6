/- FidsKeep: the whole. -/
import Derived.Test.YtljndiligbaljaaFiM
import Derived.Test.YtljndiligbaljaaBel
namespace Go.Proofs.Ytljndiligbaljaa
open Go
set_option linter.unusedSimpArgs false
set_option linter.unusedVariables false
set_option maxRecDepth 100000

/-- What a script's step loads. -/
theorem ScriptP.at {w0 w : World} {F : HP} {a : Option Addr} {c : Nat} {ops : List HOp} (s : ScriptP F (.slice a ops.length c) ops) (h : St w0 F w) {i : Nat} (hi : i < ops.length) :
    ∃ b o, a = some ⟨b, o, none⟩ ∧ rowV w ⟨b, o + i * 21, none⟩ 21 = some (opV ops[i]) := by
  obtain ⟨_, a', c', hv, _, hcl⟩ := St.rowsAt (k := 21) opC_length (by decide) (h.ent s.rd)
  simp only [Value.slice.injEq, true_and] at hv
  obtain ⟨rfl, rfl⟩ := hv
  obtain ⟨b, o, rfl, hrow, _⟩ := hcl i hi
  exact ⟨b, o, rfl, hrow⟩
theorem ScriptP.form {w0 w : World} {F : HP} {v : Value} {ops : List HOp} (s : ScriptP F v ops) (h : St w0 F w) : ∃ a c, v = .slice a ops.length c := by
  obtain ⟨_, a, c, rfl, _, _⟩ := St.rowsAt (k := 21) opC_length (by decide) (h.ent s.rd)
  exact ⟨a, c, rfl⟩
/-- A list that is read, from one's own. -/
theorem AtP.listR {w0 w : World} {F : HP} {v : Value} {qs : FPs} (h : St w0 (AtP v qs * F) w) (hl : qs.length ≤ 1048576) : ListR (AtP v qs * F) v qs := by
  have h1 : St w0 (hearts qs * (RowO 48 15 v qs.length (qs.flatMap atC) * F)) w := h.ac (by unfold AtP; ac_rfl)
  refine ⟨?_, fun x hx => ⟨hearts_ok h1 x hx, ?_⟩, hl⟩
  · exact (Ent.left _ _).trans ((Ent.left _ _).trans (RowO.reads _ _ _ _ _))
  · exact (Ent.left _ _).trans ((Ent.right _ _).trans (hearts_mem hx))
theorem AtP.form {w0 w : World} {F : HP} {v : Value} {qs : FPs} (h : St w0 (AtP v qs * F) w) : ∃ a c, v = .slice a qs.length c := by
  have h1 : St w0 (RowO 48 15 v qs.length (qs.flatMap atC) * (hearts qs * F)) w := h.ac (by unfold AtP; ac_rfl)
  obtain ⟨a, c, rfl, _⟩ := h1.rowForm v
  exact ⟨a, c, rfl⟩
theorem MayP.reads {v : Value} {l : List Int} : Ent (MayP v l) (Reads 1 v l.length (l.map encU)) := RowO.reads _ _ _ _ _
theorem mayL_length (o : OpD) : (mayL o).length ≤ 1 := by
  unfold mayL
  split
  · simp
  · split <;> simp

theorem sortK_len_le {most : Int} {l : TL} (h : Tab most l) (hm : most ≤ 256) : l.length ≤ 1048576 := by have := h.len; omega
theorem amap_length {α β κ : Type} (f : α → β) (l : List (κ × α)) : (amap f l).length = l.length := by simp [amap]
/-- The laws of a step's two lists. -/
theorem keep_law {most : Int} {l l' : TL} {may : List Int} {qb qa : FPs} (ht : Tab most l) (c : Chg most l may l') (hb : amap (·.2) qb = sortK l) (ha : amap (·.2) qa = sortK l') :
    (∀ (k : Nat) (x : Int × HF), qa[k]? = some x → x.1 ≠ 4294967295 ∧ (∀ j, k = j + 1 → ∀ y, qa[j]? = some y → y.1 < x.1) ∧ (x.1 ∈ may ∨ ∃ y, agt x.1 qb = some y ∧ y.2 = x.2.2)) ∧
    (∀ x ∈ qb, (agt x.1 qa).isSome = true ∨ x.1 ∈ may) := by
  have ht' := c.tab ht
  have get : ∀ (k : Nat) (x : Int × HF), qa[k]? = some x → ∃ hk : k < (sortK l').length, (sortK l')[k] = (x.1, x.2.2) := by
    intro k x hx
    have : (amap (fun p : HF => p.2) qa)[k]? = some (x.1, x.2.2) := by
      simp only [amap, List.getElem?_map, hx, Option.map_some]
    rw [ha] at this
    exact List.getElem?_eq_some_iff.1 this
  refine ⟨fun k x hx => ?_, fun x hx => ?_⟩
  · obtain ⟨hk, e⟩ := get k x hx
    have hm := sortK_mem ht'.nd hk
    rw [e] at hm
    refine ⟨ht'.no _ (by rw [hm]; rfl), ?_, ?_⟩
    · rintro j rfl y hy
      obtain ⟨hj, e2⟩ := get j y hy
      have := sortK_lt ht'.nd hk
      rw [e, e2] at this
      exact this
    · by_cases hx : x.1 ∈ may
      · exact .inl hx
      · right
        rw [c.stays ht hx, ← agt_sortK ht.nd, ← hb, agt_amap] at hm
        cases hg : agt x.1 qb with
        | none => rw [hg] at hm; cases hm
        | some y =>
          rw [hg] at hm
          exact ⟨y, rfl, by simpa using hm⟩
  · by_cases hm : x.1 ∈ may
    · exact .inr hm
    · left
      have h1 : x.1 ∈ (sortK l).map (·.1) := by
        rw [← hb, amap_keys]
        exact List.mem_map_of_mem hx
      rw [← agt_isSome_iff, agt_sortK ht.nd, ← c.stays ht hm, ← agt_sortK ht'.nd, ← ha, agt_amap] at h1
      simpa using h1

theorem tab9 {n : Int} (h : 1 ≤ n) : Tab n [(9, fid9)] := ⟨by simp, by simp; omega, fun m hm => by
  simp only [agt] at hm
  split at hm
  · omega
  · simp at hm, fun m f hm => by
  simp only [agt] at hm
  split at hm
  · simp only [Option.some.injEq] at hm; rw [← hm]; rfl
  · simp at hm⟩

section
attribute [local go_sem] F4.t23_eq F4.t19_eq F4.t20_eq F4.t29_eq F4.t30_eq F4.t27_eq F4.t15_eq F4.t9_eq F4.t10_eq F4.t33_eq F4.t7_eq F4.t5_eq
theorem keep_any {w0 w : World} {F : HP} {most : Int} {v : Value} {ops : List HOp} (h : St w0 F w) (s : ScriptP F v ops) (hm : -9223372036854775808 ≤ most ∧ most < 9223372036854775808) :
    Calls Try.prog 4 #[.int .i64 most, v] w fun e w' => St w0 F w' ∧ e = .returned (.bool true) := by
  have hsz := sizeN_range most
  refine F4.calls (by simp) ?_
  unfold F4.code
  simp -dsimp -implicitDefEqProofs (disch := omega) only [go_sem, reqD_of, dec_t, dec_f, wrap_i64, wrap_u32, wrap_u64, wrap_u8]
  refine (size_any h hm).mono ?_
  rintro e w1 ⟨h1, rfl⟩
  simp -dsimp -implicitDefEqProofs (disch := omega) only [go_sem, reqD_of, dec_t, dec_f, wrap_i64, wrap_u32, wrap_u64, wrap_u8]
  refine (made_any h1 hsz).mono ?_
  rintro e w2 ⟨B, h2, rfl⟩
  simp -dsimp -implicitDefEqProofs (disch := omega) only [go_sem, reqD_of, dec_t, dec_f, wrap_i64, wrap_u32, wrap_u64, wrap_u8]
  refine (beyond_any h2 (s.under (Ent.right _ _))).mono ?_
  rintro e w3 ⟨b, h3, rfl, hfar⟩
  cases b with
  | true =>
    simp -dsimp -implicitDefEqProofs (disch := omega) only [go_sem, reqD_of, dec_t, dec_f, wrap_i64, wrap_u32, wrap_u64, wrap_u8]
    exact h3.right
  | false =>
  have hfar := hfar rfl
  obtain ⟨aS, cs, rfl⟩ := s.form h
  simp -dsimp -implicitDefEqProofs (disch := omega) only [go_sem, reqD_of, dec_t, dec_f, wrap_i64, wrap_u32, wrap_u64, wrap_u8]
  refine loop_intro (fun e w' => e.ds = [] ∧ e.ρ 0 = .int .i64 most ∧ e.ρ 1 = .slice aS ops.length cs ∧ e.ρ 5 = .pointer (some ⟨B, 0, none⟩) ∧ ∃ (i : Nat) (l : TL), i ≤ ops.length ∧ e.ρ 7 = .int .i64 i ∧ Tab (sizeN most) l ∧ St w0 (TabP B (sizeN most) l * F) w')
    (fun e _ => match e.ρ 7 with | .int _ n => (ops.length - n).toNat | _ => 0) ?_ ?_
  · exact ⟨rfl, by simp -dsimp -implicitDefEqProofs only [go_sem], by simp -dsimp -implicitDefEqProofs only [go_sem], by simp -dsimp -implicitDefEqProofs only [go_sem], 0, _, by omega, by simp -dsimp -implicitDefEqProofs only [go_sem], tab9 hsz.1, h3⟩
  rintro e w4 ⟨hd, e0, e1, e5, i, l, hi, e7, ht, h4⟩
  have hfew := s.few
  by_cases hlt : (i : Int) < ops.length
  case neg =>
    simp -dsimp -implicitDefEqProofs (disch := omega) only [go_sem, reqD_of, dec_t, dec_f, wrap_i64, wrap_u32, wrap_u64, wrap_u8, hd, e0, e1, e5, e7, hlt]
    exact h4.right
  by_cases hle : (i : Int) < 300
  case neg =>
    simp -dsimp -implicitDefEqProofs (disch := omega) only [go_sem, reqD_of, dec_t, dec_f, wrap_i64, wrap_u32, wrap_u64, wrap_u8, hd, e0, e1, e5, e7, hlt, hle]
    exact h4.right
  have hil : i < ops.length := by omega
  have hll := sortK_len_le ht hsz.2
  simp -dsimp -implicitDefEqProofs (disch := omega) only [go_sem, reqD_of, dec_t, dec_f, wrap_i64, wrap_u32, wrap_u64, wrap_u8, hd, e0, e1, e5, e7, hlt, hle]
  refine (listed_any h4 hll).mono ?_
  rintro e' w5 ⟨vb, qb, hqb, h5, rfl⟩
  have h5' : St w0 (TabP B (sizeN most) l * (AtP vb qb * F)) w5 := h5.ac (by ac_rfl)
  obtain ⟨b, o, rfl, hrow⟩ := (s.under ((Ent.right (TabP B (sizeN most) l) _).trans (Ent.right (AtP vb qb) _))).at h5' hil
  obtain ⟨x, hx⟩ : ∃ x, x = ops[i] := ⟨_, rfl⟩
  have hmem : x ∈ ops := by rw [hx]; exact List.getElem_mem hil
  rw [← hx] at hrow
  obtain ⟨vo, op⟩ := x
  simp -dsimp -implicitDefEqProofs (disch := omega) only [go_sem, reqD_of, dec_t, dec_f, wrap_i64, wrap_u32, wrap_u64, wrap_u8, hd, e0, e1, e5, e7, hlt, hle, hrow]
  refine (does_any (v := vo) (o := op) h5' (hfar _ hmem) ((Ent.right _ _).trans (s.el _ hmem).2) hll).mono ?_
  rintro e' w6 ⟨vm, h6, rfl⟩
  have hc := does_chg ht op
  have ht' := hc.tab ht
  have hll' := sortK_len_le ht' hsz.2
  obtain ⟨l', hl'⟩ : ∃ l', l' = doesS op (sizeN most) l := ⟨_, rfl⟩
  rw [← hl'] at h6 hc ht' hll'
  have h6' : St w0 (TabP B (sizeN most) l' * (MayP vm (mayL op) * (AtP vb qb * F))) w6 := h6.ac (by ac_rfl)
  simp -dsimp -implicitDefEqProofs (disch := omega) only [go_sem, reqD_of, dec_t, dec_f, wrap_i64, wrap_u32, wrap_u64, wrap_u8, hd, e0, e1, e5, e7, hlt, hle]
  refine (listed_any h6' hll').mono ?_
  rintro e' w7 ⟨va, qa, hqa, h7, rfl⟩
  have hqal : qa.length = l'.length := by rw [← amap_length (fun p : HF => p.2) qa, hqa, sortK_length]
  have hqbl : qb.length = l.length := by rw [← amap_length (fun p : HF => p.2) qb, hqb, sortK_length]
  have hla := ht'.len
  obtain ⟨aa, ca, rfl⟩ := AtP.form h7
  have hgt : ¬ (sizeN most) < qa.length := by omega
  simp -dsimp -implicitDefEqProofs (disch := omega) only [go_sem, reqD_of, dec_t, dec_f, wrap_i64, wrap_u32, wrap_u64, wrap_u8, hd, e0, e1, e5, e7, hlt, hle, hgt]
  refine (size_any h7 hm).mono ?_
  rintro e' w8 ⟨h8, rfl⟩
  have h8' : St w0 (TabP B (sizeN most) l' * (AtP (.slice aa qa.length ca) qa * (MayP vm (mayL op) * (AtP vb qb * F)))) w8 := h8.ac (by ac_rfl)
  simp -dsimp -implicitDefEqProofs (disch := omega) only [go_sem, reqD_of, dec_t, dec_f, wrap_i64, wrap_u32, wrap_u64, wrap_u8, hd, e0, e1, e5, e7, hlt, hle, hgt]
  refine (count_any h8').mono ?_
  rintro e' w9 ⟨h9, rfl⟩
  have hne : (qa.length : Int) = l'.length := by omega
  have h10 : St w0 (AtP (.slice aa qa.length ca) qa * (TabP B (sizeN most) l' * (MayP vm (mayL op) * (AtP vb qb * F)))) w9 := h9.ac (by ac_rfl)
  have h11 : St w0 (AtP vb qb * (AtP (.slice aa qa.length ca) qa * (TabP B (sizeN most) l' * (MayP vm (mayL op) * F)))) w9 := h9.ac (by ac_rfl)
  have Ra := AtP.listR h10 (by omega)
  have Rb := (AtP.listR h11 (by omega)).under (A := AtP (.slice aa qa.length ca) qa * (TabP B (sizeN most) l' * (MayP vm (mayL op) * (AtP vb qb * F)))) (by rw [show AtP (.slice aa qa.length ca) qa * (TabP B (sizeN most) l' * (MayP vm (mayL op) * (AtP vb qb * F))) = AtP vb qb * (AtP (.slice aa qa.length ca) qa * (TabP B (sizeN most) l' * (MayP vm (mayL op) * F))) by ac_rfl]; exact Ent.rfl' _)
  obtain ⟨g1, g2⟩ := keep_law ht hc hqb hqa
  have hml := mayL_length op
  by_cases hE : doesE op (sizeN most) l = 0
  · rw [if_pos hE] at hc g1 g2
    simp -dsimp -implicitDefEqProofs (disch := omega) only [go_sem, reqD_of, dec_t, dec_f, wrap_i64, wrap_u32, wrap_u64, wrap_u8, hd, e0, e1, e5, e7, hlt, hle, hgt, hne, hE]
    refine keep_17 (B := B) (v := .slice (some ⟨b, o, none⟩) ops.length cs) (most := most) (i := i) (vm := vm) Rb Ra ((Ent.right _ _).trans ((Ent.right _ _).trans ((Ent.left _ _).trans MayP.reads))) (by omega) g1 g2 ⟨by simp -dsimp -implicitDefEqProofs only [go_sem, hd], by simp -dsimp -implicitDefEqProofs only [go_sem, e0], by simp -dsimp -implicitDefEqProofs only [go_sem, e1], by simp -dsimp -implicitDefEqProofs only [go_sem, e5], by simp -dsimp -implicitDefEqProofs only [go_sem, e7], by simp -dsimp -implicitDefEqProofs only [go_sem], by simp -dsimp -implicitDefEqProofs only [go_sem], by simp -dsimp -implicitDefEqProofs only [go_sem]⟩ h10 ?_
    rintro e' w' ⟨hd, e0, e1, e5, e7', e8, e11, e12⟩ h'
    simp -dsimp -implicitDefEqProofs (disch := omega) only [go_sem, reqD_of, dec_t, dec_f, wrap_i64, wrap_u32, wrap_u64, wrap_u8, hd, e0, e1, e5, e7, e7']
    exact ⟨⟨i + 1, l', by omega, rfl, ht', h'.sub⟩, by omega⟩
  · rw [if_neg hE] at hc g1 g2
    simp -dsimp -implicitDefEqProofs (disch := omega) only [go_sem, reqD_of, dec_t, dec_f, wrap_i64, wrap_u32, wrap_u64, wrap_u8, hd, e0, e1, e5, e7, hlt, hle, hgt, hne, hE]
    refine keep_17 (B := B) (v := .slice (some ⟨b, o, none⟩) ops.length cs) (most := most) (i := i) (vm := .slice none 0 0) (may := []) Rb Ra (Ent.of fun _ _ => ⟨rfl, none, 0, rfl, Nat.le_refl _, .inl rfl⟩) (by decide) g1 g2 ⟨by simp -dsimp -implicitDefEqProofs only [go_sem, hd], by simp -dsimp -implicitDefEqProofs only [go_sem, e0], by simp -dsimp -implicitDefEqProofs only [go_sem, e1], by simp -dsimp -implicitDefEqProofs only [go_sem, e5], by simp -dsimp -implicitDefEqProofs only [go_sem, e7], by simp -dsimp -implicitDefEqProofs only [go_sem], by simp -dsimp -implicitDefEqProofs only [go_sem], by simp -dsimp -implicitDefEqProofs only [go_sem]⟩ h10 ?_
    rintro e' w' ⟨hd, e0, e1, e5, e7', e8, e11, e12⟩ h'
    simp -dsimp -implicitDefEqProofs (disch := omega) only [go_sem, reqD_of, dec_t, dec_f, wrap_i64, wrap_u32, wrap_u64, wrap_u8, hd, e0, e1, e5, e7, e7']
    exact ⟨⟨i + 1, l', by omega, rfl, ht', h'.sub⟩, by omega⟩

end
end Go.Proofs.Ytljndiligbaljaa
