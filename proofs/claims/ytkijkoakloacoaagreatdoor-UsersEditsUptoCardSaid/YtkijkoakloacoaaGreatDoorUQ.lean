/- The reference's table: what it tells. The reference's Parse. -/
import Derived.Test.YtkijkoakloacoaaGreatDoorUO
namespace Go.Proofs.YtkijkoakloacoaaGreatDoor
open Go
set_option linter.unusedVariables false
set_option linter.unusedSimpArgs false
set_option maxRecDepth 100000

/-! ### The plain law: a valid table -/

theorem findK_at {L : List Acc} {n : List UInt8} {k : Int} (h : FindK L n k) (hk : known L n = true) : ∃ i : Nat, ∃ hi : i < L.length, k = i ∧ L[i].name = n := by
  rcases h with ⟨h1, rfl⟩ | ⟨i, hi, rfl, h1, h2⟩
  · rw [h1] at hk; cases hk
  · exact ⟨i, hi, rfl, h1⟩
theorem memberF_no {L : List Acc} (h : allF L = true) {u g : List UInt8} (hk : known L u = false ∨ known L g = false) : memberF L u g = false := by
  obtain ⟨h1, h2, h3, h4⟩ := allF_facts h
  cases hm : memberF L u g
  · rfl
  unfold memberF at hm
  obtain ⟨a, ha, hq⟩ := List.any_eq_true.1 hm
  simp only [Bool.and_eq_true, beq_iff_eq, Bool.or_eq_true] at hq
  obtain ⟨hg, hu⟩ := hq
  have kg : known L g = true := known_iff.2 (hg ▸ List.mem_map_of_mem (f := (·.name)) ha)
  have ku : known L u = true := by
    rcases hu with hu | hu
    · exact known_iff.2 (hu ▸ List.mem_map_of_mem (f := (·.name)) ha)
    · have hn := h4 a ha
      simp only [namedF, Bool.and_eq_true, List.all_eq_true] at hn
      exact hn.2 u (List.contains_iff_mem.1 hu)
  rw [ku, kg] at hk
  rcases hk with hk | hk <;> cases hk
theorem leadsF_no {L : List Acc} {u g : List UInt8} (hk : known L u = false ∨ known L g = false) : leadsF L u g = false := by
  unfold leadsF
  cases hf : findF L g with
  | none => rfl
  | some a =>
    have kg : known L g = true := by rw [known_find, hf]; rfl
    have : known L u = false := hk.resolve_right (by rw [kg]; simp)
    simp [this]
theorem groupsF_no {L : List Acc} (h : allF L = true) {u : List UInt8} (hk : known L u = false) : groupsF L u = [] := by
  have : (L.map (·.name)).filter (fun g => memberF L u g) = [] := List.filter_eq_nil_iff.2 fun g _ => by rw [memberF_no h (.inl hk)]; simp
  unfold groupsF
  rw [this]
  exact List.mergeSort_nil
theorem name_inj {L : List Acc} (hn : (L.map (·.name)).Nodup) {i j : Nat} (hi : i < L.length) (hj : j < L.length) (e : L[i].name = L[j].name) : i = j := by
  rw [List.nodup_iff_pairwise_ne, List.pairwise_iff_getElem] at hn
  rcases Nat.lt_trichotomy i j with h | h | h
  · exact absurd (by rw [List.getElem_map, List.getElem_map]; exact e) (hn i j (by simpa using hi) (by simpa using hj) h)
  · exact h
  · exact absurd (by rw [List.getElem_map, List.getElem_map]; exact e.symm) (hn j i (by simpa using hj) (by simpa using hi) h)

/-! ### The table in memory -/

abbrev refB (U : Nat) (vl : Value) : HP := Blk U (.cells #[vl] 84 (0, 0))
structure RT where
  vl : Value
  L : List AV
  B : HP
abbrev RefW (U : Nat) (y : RT) : HP := refB U y.vl * (rowA y.vl y.L * y.B)
structure RT.Ok (y : RT) : Prop where
  ms : MsS y.B y.L
  all : allF (accs y.L) = true
  few : y.L.length ≤ 65536
  txt : (textF (accs y.L)).length ≤ 65536
theorem RefW.rd (U : Nat) (y : RT) (A : HP) : Ent (RefW U y * A) (ReadsA y.vl y.L) := (Ent.left _ _).trans ((Ent.right _ _).trans ((Ent.left _ _).trans (RowO.reads _ _ _ _ _)))
theorem RefW.ms {U : Nat} {y : RT} (ok : y.Ok) (A : HP) : MsS (RefW U y * A) y.L := ok.ms.weak ((Ent.left _ _).trans ((Ent.right _ _).trans (Ent.right _ _)))

section
variable {w0 w : World} {A : HP} {U : Nat} {y : RT}


theorem rtextT_any (ok : y.Ok) (h : St w0 (RefW U y * A) w) : Calls Tryz.prog 46 #[.pointer (some ⟨U, 0, none⟩)] w fun e w' => St w0 (RefW U y * A) w' ∧ e = .returned (.string (strOf (textF (accs y.L)))) := by
  have hf := ok.few
  have ht := ok.txt
  obtain ⟨a, c, hvl, _⟩ := h.rowForm y.vl
  refine F46.calls (by simp) ?_
  unfold F46.code
  have cU := h.cl U
  rw [hvl] at cU
  simp -dsimp -implicitDefEqProofs (disch := omega) only [go_sem, reqD_of, dec_t, dec_f, wrap_i64, wrap_u32, wrap_u64, wrap_u8, cU]
  refine (rtext_any h (by rw [← hvl]; exact RefW.rd U y A) (RefW.ms ok A) (by omega) (by omega)).mono ?_
  rintro e w1 ⟨h1, rfl⟩
  simp -dsimp -implicitDefEqProofs (disch := omega) only [go_sem, reqD_of, dec_t, dec_f, wrap_i64, wrap_u32, wrap_u64, wrap_u8]
  exact h1


theorem rknown_any (ok : y.Ok) (h : St w0 (RefW U y * A) w) (n : List UInt8) : Calls Tryz.prog 74 #[.pointer (some ⟨U, 0, none⟩), .string (strOf n)] w fun e w' => St w0 (RefW U y * A) w' ∧ e = .returned (.bool (known (accs y.L) n)) := by
  have hf := ok.few
  obtain ⟨a, c, hvl, _⟩ := h.rowForm y.vl
  refine F74.calls (by simp) ?_
  unfold F74.code
  have cU := h.cl U
  rw [hvl] at cU
  simp -dsimp -implicitDefEqProofs (disch := omega) only [go_sem, reqD_of, dec_t, dec_f, wrap_i64, wrap_u32, wrap_u64, wrap_u8, cU]
  refine (find_any h (by rw [← hvl]; exact RefW.rd U y A) (by omega) n).mono ?_
  rintro e w1 ⟨h1, k, hk, rfl⟩
  have := hk.pos
  simp -dsimp -implicitDefEqProofs (disch := omega) only [go_sem, reqD_of, dec_t, dec_f, wrap_i64, wrap_u32, wrap_u64, wrap_u8, this]
  exact h1

section
attribute [local go_sem] F75.t4_eq
theorem rkey_any (ok : y.Ok) (h : St w0 (RefW U y * A) w) (n : List UInt8) : Calls Tryz.prog 75 #[.pointer (some ⟨U, 0, none⟩), .string (strOf n)] w fun e w' => St w0 (RefW U y * A) w' ∧ e = .returned (.string (strOf (keyOf (accs y.L) n))) := by
  have hf := ok.few
  obtain ⟨_, _, hnd, _⟩ := allF_facts ok.all
  obtain ⟨a, c, hvl, _⟩ := h.rowForm y.vl
  refine F75.calls (by simp) ?_
  unfold F75.code
  have cU := h.cl U
  rw [hvl] at cU
  simp -dsimp -implicitDefEqProofs (disch := omega) only [go_sem, reqD_of, dec_t, dec_f, wrap_i64, wrap_u32, wrap_u64, wrap_u8, cU]
  refine (find_any h (by rw [← hvl]; exact RefW.rd U y A) (by omega) n).mono ?_
  rintro e w1 ⟨h1, k, hk, rfl⟩
  have hn := hk.neg
  have cU := h1.cl U
  rw [hvl] at cU
  cases hkn : known (accs y.L) n
  · rw [hkn] at hn
    have hn : k < 0 := of_decide_eq_true hn
    have hl : keyOf (accs y.L) n = [] := by
      rw [known_find] at hkn
      unfold keyOf
      cases hf : findF (accs y.L) n
      · rfl
      · rw [hf] at hkn; cases hkn
    rw [hl]
    simp -dsimp -implicitDefEqProofs (disch := omega) only [go_sem, reqD_of, dec_t, dec_f, wrap_i64, wrap_u32, wrap_u64, wrap_u8, hn]
    exact h1
  obtain ⟨i, hi, rfl, he⟩ := findK_at hk hkn
  have hi1 : i < y.L.length := by simpa using hi
  have hl : keyOf (accs y.L) n = y.L[i].1.key := by rw [← he, keyOf_of hnd (List.getElem_mem hi)]; simp
  rw [hl]
  obtain ⟨_, _, e9, hoa⟩ := rdA_form h1 (RefW.rd U y A)
  rw [hvl] at e9
  simp only [Value.slice.injEq, true_and] at e9
  obtain ⟨rfl, rfl⟩ := e9
  obtain ⟨b, o, rfl⟩ := hoa i hi1
  have cc := (rdA_cells h1 (by rw [← hvl]; exact RefW.rd U y A) hi1).1.2.2.2
  have hlt : (i : Int) < y.L.length := by omega
  simp -dsimp -implicitDefEqProofs (disch := omega) only [go_sem, reqD_of, dec_t, dec_f, wrap_i64, wrap_u32, wrap_u64, wrap_u8, cU, cc, hlt]
  exact h1

end
section
attribute [local go_sem] F76.t5_eq
theorem rmember_any (ok : y.Ok) (h : St w0 (RefW U y * A) w) (u g : List UInt8) : Calls Tryz.prog 76 #[.pointer (some ⟨U, 0, none⟩), .string (strOf u), .string (strOf g)] w fun e w' => St w0 (RefW U y * A) w' ∧ e = .returned (.bool (memberF (accs y.L) u g)) := by
  have hf := ok.few
  obtain ⟨_, _, hnd, _⟩ := allF_facts ok.all
  obtain ⟨a, c, hvl, _⟩ := h.rowForm y.vl
  refine F76.calls (by simp) ?_
  unfold F76.code
  have cU := h.cl U
  rw [hvl] at cU
  simp -dsimp -implicitDefEqProofs (disch := omega) only [go_sem, reqD_of, dec_t, dec_f, wrap_i64, wrap_u32, wrap_u64, wrap_u8, cU]
  refine (find_any h (by rw [← hvl]; exact RefW.rd U y A) (by omega) u).mono ?_
  rintro e w1 ⟨h1, k, hk, rfl⟩
  have hn := hk.neg
  have cU := h1.cl U
  rw [hvl] at cU
  simp -dsimp -implicitDefEqProofs (disch := omega) only [go_sem, reqD_of, dec_t, dec_f, wrap_i64, wrap_u32, wrap_u64, wrap_u8, cU]
  refine (find_any h1 (by rw [← hvl]; exact RefW.rd U y A) (by omega) g).mono ?_
  rintro e w2 ⟨h2, k', hk', rfl⟩
  have hn' := hk'.neg
  have cU := h2.cl U
  rw [hvl] at cU
  cases hku : known (accs y.L) u
  · rw [hku] at hn
    have hn : k < 0 := of_decide_eq_true hn
    rw [memberF_no ok.all (.inl hku)]
    simp -dsimp -implicitDefEqProofs (disch := omega) only [go_sem, reqD_of, dec_t, dec_f, wrap_i64, wrap_u32, wrap_u64, wrap_u8, hn]
    exact h2
  rw [hku] at hn
  have hn : ¬ k < 0 := of_decide_eq_false hn
  cases hkg : known (accs y.L) g
  · rw [hkg] at hn'
    have hn' : k' < 0 := of_decide_eq_true hn'
    rw [memberF_no ok.all (.inr hkg)]
    simp -dsimp -implicitDefEqProofs (disch := omega) only [go_sem, reqD_of, dec_t, dec_f, wrap_i64, wrap_u32, wrap_u64, wrap_u8, hn, hn']
    exact h2
  rw [hkg] at hn'
  have hn' : ¬ k' < 0 := of_decide_eq_false hn'
  obtain ⟨i, hi, rfl, he⟩ := findK_at hk hku
  obtain ⟨j, hj, rfl, he'⟩ := findK_at hk' hkg
  have hj1 : j < y.L.length := by simpa using hj
  have hmm : memberF (accs y.L) u g = (u == (accs y.L)[j].name || (accs y.L)[j].members.contains u) := by rw [← he', memberF_of hnd (List.getElem_mem hj)]
  have hgj : (accs y.L)[j] = y.L[j].1 := by simp
  by_cases hij : (i : Int) = (j : Int)
  · have : i = j := by omega
    subst this
    rw [hmm, ← he]
    have : ((accs y.L)[i].name == (accs y.L)[i].name) = true := beq_self_eq_true _
    rw [this]
    simp -dsimp -implicitDefEqProofs (disch := omega) only [go_sem, reqD_of, dec_t, dec_f, wrap_i64, wrap_u32, wrap_u64, wrap_u8, hn, hn']
    exact h2
  have hne : (u == (accs y.L)[j].name) = false := by
    rw [beq_eq_false_iff_ne]
    intro e
    have := name_inj hnd hi hj (by rw [he, e])
    omega
  rw [hmm, hne, hgj, Bool.false_or]
  obtain ⟨_, _, e9, hoa⟩ := rdA_form h2 (RefW.rd U y A)
  rw [hvl] at e9
  simp only [Value.slice.injEq, true_and] at e9
  obtain ⟨rfl, rfl⟩ := e9
  obtain ⟨b, o, rfl⟩ := hoa j hj1
  have cc := (rdA_cells h2 (by rw [← hvl]; exact RefW.rd U y A) hj1).1.2.2.1
  have hx := RefW.ms (U := U) ok A _ (List.getElem_mem hj1)
  have hlt : (j : Int) < y.L.length := by omega
  obtain ⟨z, hz⟩ : ∃ z, z = y.L[j] := ⟨_, rfl⟩
  rw [← hz] at cc hx ⊢
  obtain ⟨q, vq⟩ := z
  obtain ⟨x1, x2, x3⟩ := hx
  simp only at cc x1 x2 x3
  simp -dsimp -implicitDefEqProofs (disch := omega) only [go_sem, reqD_of, dec_t, dec_f, wrap_i64, wrap_u32, wrap_u64, wrap_u8, hn, hn', hij, cU, cc, hlt]
  refine (has_any h2 x1 x2.c u).mono ?_
  rintro e w3 ⟨h3, rfl⟩
  have hcd : q.members.contains u = decide (u ∈ q.members) := by rw [Bool.eq_iff_iff]; simp
  simp -dsimp -implicitDefEqProofs (disch := omega) only [go_sem, reqD_of, dec_t, dec_f, wrap_i64, wrap_u32, wrap_u64, wrap_u8, hcd]
  exact h3

end
section
attribute [local go_sem] F77.t7_eq F77.t5_eq
theorem rleads_any (ok : y.Ok) (h : St w0 (RefW U y * A) w) (u g : List UInt8) : Calls Tryz.prog 77 #[.pointer (some ⟨U, 0, none⟩), .string (strOf u), .string (strOf g)] w fun e w' => St w0 (RefW U y * A) w' ∧ e = .returned (.bool (leadsF (accs y.L) u g)) := by
  have hf := ok.few
  obtain ⟨_, _, hnd, _⟩ := allF_facts ok.all
  obtain ⟨a, c, hvl, _⟩ := h.rowForm y.vl
  refine F77.calls (by simp) ?_
  unfold F77.code
  have cU := h.cl U
  rw [hvl] at cU
  simp -dsimp -implicitDefEqProofs (disch := omega) only [go_sem, reqD_of, dec_t, dec_f, wrap_i64, wrap_u32, wrap_u64, wrap_u8, cU]
  refine (find_any h (by rw [← hvl]; exact RefW.rd U y A) (by omega) u).mono ?_
  rintro e w1 ⟨h1, k, hk, rfl⟩
  have hn := hk.neg
  have cU := h1.cl U
  rw [hvl] at cU
  simp -dsimp -implicitDefEqProofs (disch := omega) only [go_sem, reqD_of, dec_t, dec_f, wrap_i64, wrap_u32, wrap_u64, wrap_u8, cU]
  refine (find_any h1 (by rw [← hvl]; exact RefW.rd U y A) (by omega) g).mono ?_
  rintro e w2 ⟨h2, k', hk', rfl⟩
  have hn' := hk'.neg
  have cU := h2.cl U
  rw [hvl] at cU
  cases hku : known (accs y.L) u
  · rw [hku] at hn
    have hn : k < 0 := of_decide_eq_true hn
    rw [leadsF_no (.inl hku)]
    simp -dsimp -implicitDefEqProofs (disch := omega) only [go_sem, reqD_of, dec_t, dec_f, wrap_i64, wrap_u32, wrap_u64, wrap_u8, hn]
    exact h2
  rw [hku] at hn
  have hn : ¬ k < 0 := of_decide_eq_false hn
  cases hkg : known (accs y.L) g
  · rw [hkg] at hn'
    have hn' : k' < 0 := of_decide_eq_true hn'
    rw [leadsF_no (.inr hkg)]
    simp -dsimp -implicitDefEqProofs (disch := omega) only [go_sem, reqD_of, dec_t, dec_f, wrap_i64, wrap_u32, wrap_u64, wrap_u8, hn, hn']
    exact h2
  rw [hkg] at hn'
  have hn' : ¬ k' < 0 := of_decide_eq_false hn'
  obtain ⟨j, hj, rfl, he'⟩ := findK_at hk' hkg
  have hj1 : j < y.L.length := by simpa using hj
  have hmm : leadsF (accs y.L) u g = if (accs y.L)[j].leader = [] then memberF (accs y.L) u g else (accs y.L)[j].leader == u := by
    have := leadsF_of hnd (List.getElem_mem hj) hku
    rw [he'] at this
    exact this
  have hgj : (accs y.L)[j] = y.L[j].1 := by simp
  rw [hmm, hgj]
  obtain ⟨_, _, e9, hoa⟩ := rdA_form h2 (RefW.rd U y A)
  rw [hvl] at e9
  simp only [Value.slice.injEq, true_and] at e9
  obtain ⟨rfl, rfl⟩ := e9
  obtain ⟨b, o, rfl⟩ := hoa j hj1
  have cc := (rdA_cells h2 (by rw [← hvl]; exact RefW.rd U y A) hj1).1.2.1
  have hlt : (j : Int) < y.L.length := by omega
  by_cases hld : y.L[j].1.leader = []
  · have d0 : decide (y.L[j].1.leader = []) = true := by simp [hld]
    rw [if_pos hld]
    simp -dsimp -implicitDefEqProofs (disch := omega) only [go_sem, reqD_of, dec_t, dec_f, wrap_i64, wrap_u32, wrap_u64, wrap_u8, hn, hn', cU, cc, hlt, d0]
    refine (rmember_any ok h2 u g).mono ?_
    rintro e w3 ⟨h3, rfl⟩
    simp -dsimp -implicitDefEqProofs (disch := omega) only [go_sem, reqD_of, dec_t, dec_f, wrap_i64, wrap_u32, wrap_u64, wrap_u8]
    exact h3
  · rw [if_neg hld, strEq_beq]
    simp -dsimp -implicitDefEqProofs (disch := omega) only [go_sem, reqD_of, dec_t, dec_f, wrap_i64, wrap_u32, wrap_u64, wrap_u8, hn, hn', cU, cc, hlt, hld]
    exact h2
end
end
end Go.Proofs.YtkijkoakloacoaaGreatDoor

namespace Go.Proofs.YtkijkoakloacoaaGreatDoor
open Go
set_option linter.unusedVariables false
set_option linter.unusedSimpArgs false
set_option maxRecDepth 100000

/-! ### The plain law: what Parse reads is valid -/

theorem accF_formR {l : List UInt8} {a : Acc} (h : accF l = some a) : formF a = true := by
  unfold accF at h
  split at h
  · rename_i hc; cases h; exact hc.2
  · cases h
structure Good3 (L : List Acc) (P : List Nat) : Prop where
  f : L.all formF = true
  o : L.all onceF = true
  n : (L.map (·.name)).Nodup
  p : P.length = L.length
theorem Good3.snoc {L : List Acc} {P : List Nat} (g : Good3 L P) {a : Acc} (n : Nat) (h1 : formF a = true) (h2 : onceF a = true) (h3 : known L a.name = false) : Good3 (L ++ [a]) (P ++ [n]) := by
  refine ⟨by rw [List.all_append, g.f]; simp [h1], by rw [List.all_append, g.o]; simp [h2], ?_, by simp [g.p]⟩
  rw [List.map_append, List.nodup_append]
  refine ⟨g.n, by simp, fun x hx y hy e => ?_⟩
  rw [List.map_singleton, List.mem_singleton] at hy
  subst hy
  subst e
  exact (known_false.1 h3) hx
theorem text_cnt : ∀ L : List Acc, L.length ≤ (textF L).length
  | [] => by simp
  | a :: L => by
    have := text_cnt L
    simp only [textF, List.flatMap_cons, List.length_append, List.length_cons, lineF, List.length_nil] at this ⊢
    omega

def RParsedR (w0 : World) (A : HP) (r : Except (Nat × Nat) (List Acc)) (e : Ending) (w' : World) : Prop :=
  (∃ (U : Nat) (y : RT), r = .ok (accs y.L) ∧ y.Ok ∧ St w0 (RefW U y * A) w' ∧ e = .returned (.tuple #[.pointer (some ⟨U, 0, none⟩), .int .i64 0, .int .i64 0])) ∨
  (∃ k n : Nat, r = .error (k, n) ∧ St w0 A w' ∧ e = .returned (.tuple #[.pointer none, nV k, nV n]))

section
attribute [local go_sem] F9.t15_eq F9.t13_eq F9.t10_eq F9.t8_eq F9.t9_eq F9.t19_eq F9.t20_eq F9.t24_eq F9.t3_eq
theorem rparse_end {w0 w : World} {A B : HP} {vl : Value} {L : List AV} {P : List Nat} {r : Except (Nat × Nat) (List Acc)} {e : FA} (hd : e.ds = []) (e6 : e.ρ 6 = vl) (g : Good3 (accs L) P) (hnm : (accs L).all (namedF (accs L)) = true) (hm : MsS B L) (hl : (textF (accs L)).length ≤ 70368744177664)
    (hr : r = if joinF (accs L) then .ok (accs L) else .error (1, 0)) (h : St w0 (rowA vl L * (B * A)) w) :
    cwE Tryz.prog F9.t22 (fnP Tryz.prog #[.tmp 2, .tmp 3, .tmp 4] (RParsedR w0 A r)) e w := by
  rw [F9.t22_eq]
  have hv : Ent (rowA vl L * (B * A)) (ReadsA vl L) := (Ent.left _ _).trans (RowO.reads _ _ _ _ _)
  have htl := text_cnt (accs L)
  rw [List.length_map] at htl
  simp -dsimp -implicitDefEqProofs (disch := omega) only [go_sem, reqD_of, dec_t, dec_f, wrap_i64, wrap_u32, wrap_u64, wrap_u8, hd, e6]
  refine (length_any h hv (hm.weak ((Ent.right _ _).trans (Ent.left _ _))) hl (by omega)).mono ?_
  rintro e' w1 ⟨h1, k, rfl, hk⟩
  cases hj : joinF (accs L)
  · rw [hj] at hr hk
    have hk : (65536 : Int) < k := of_decide_eq_true hk
    simp -dsimp -implicitDefEqProofs (disch := omega) only [go_sem, reqD_of, dec_t, dec_f, wrap_i64, wrap_u32, wrap_u64, wrap_u8, hd, e6, hk]
    exact .inr ⟨1, 0, hr, h1.right.right, rfl⟩
  · rw [hj] at hr hk
    have hk : ¬ (65536 : Int) < k := of_decide_eq_false hk
    have hj2 : (textF (accs L)).length ≤ 65536 := of_decide_eq_true hj
    obtain ⟨a, c, rfl, _⟩ := h1.rowForm vl
    simp -dsimp -implicitDefEqProofs (disch := omega) only [go_sem, reqD_of, dec_t, dec_f, wrap_i64, wrap_u32, wrap_u64, wrap_u8, hd, e6, hk]
    refine onV_of (v := .agg #[.slice a L.length c]) (by kernel_rfl) ?_
    simp -dsimp -implicitDefEqProofs (disch := omega) only [go_sem, reqD_of, dec_t, dec_f, wrap_i64, wrap_u32, wrap_u64, wrap_u8, hd, e6]
    refine h1.new fun U w2 h2 => ?_
    simp -dsimp -implicitDefEqProofs (disch := omega) only [go_sem, reqD_of, dec_t, dec_f, wrap_i64, wrap_u32, wrap_u64, wrap_u8, hd, e6]
    refine .inl ⟨U, ⟨.slice a L.length c, L, B⟩, hr, ⟨hm, ?_, by show L.length ≤ 65536; omega, hj2⟩, h2.ac (by unfold RefW; ac_rfl), rfl⟩
    simp only [allF, g.f, g.o, hnm, g.n, decide_true, Bool.and_self]

theorem rparse_mid {w0 w : World} {A B : HP} {vl vp : Value} {L : List AV} {P : List Nat} {r : Except (Nat × Nat) (List Acc)} {e : FA} (hd : e.ds = []) (e6 : e.ρ 6 = vl) (e7 : e.ρ 7 = vp) (g : Good3 (accs L) P) (hm : MsS B L) (hl : (textF (accs L)).length ≤ 70368744177664)
    (hr : r = endF (accs L) P) (h : St w0 (NumR vp P * (rowA vl L * (B * A))) w) :
    cwE Tryz.prog F9.t17 (fnP Tryz.prog #[.tmp 2, .tmp 3, .tmp 4] (RParsedR w0 A r)) e w := by
  rw [F9.t17_eq]
  have hv : Ent (NumR vp P * (rowA vl L * (B * A))) (ReadsA vl L) := (Ent.right _ _).trans ((Ent.left _ _).trans (RowO.reads _ _ _ _ _))
  have hm' : MsS (NumR vp P * (rowA vl L * (B * A))) L := hm.weak ((Ent.right _ _).trans ((Ent.right _ _).trans (Ent.left _ _)))
  have htl := text_cnt (accs L)
  rw [List.length_map] at htl
  have hPL : P.length = L.length := by have := g.p; simpa using this
  obtain ⟨a1, c1, rfl, hao⟩ := rdA_form h hv
  obtain ⟨ap, cp, rfl, _⟩ := h.rowForm vp
  simp -dsimp -implicitDefEqProofs (disch := omega) only [go_sem, reqD_of, dec_t, dec_f, wrap_i64, wrap_u32, wrap_u64, wrap_u8, hd, e6, e7]
  refine loop_intro (fun e w' => e.ds = [] ∧ e.ρ 6 = .slice a1 L.length c1 ∧ e.ρ 7 = .slice ap P.length cp ∧ St w0 (NumR (.slice ap P.length cp) P * (rowA (.slice a1 L.length c1) L * (B * A))) w' ∧ ∃ i : Nat, i ≤ L.length ∧ e.ρ 11 = .int .i64 i ∧ (accs L).all (namedF (accs L)) = ((accs L).drop i).all (namedF (accs L)) ∧ checkF (accs L) ((accs L).zip P) = checkF (accs L) (((accs L).zip P).drop i))
    (fun e _ => match e.ρ 11 with | .int _ n => (L.length - n).toNat | _ => 0) ?_ ?_
  · exact ⟨by simp -dsimp -implicitDefEqProofs only [go_sem, hd], by simp -dsimp -implicitDefEqProofs only [go_sem, e6], by simp -dsimp -implicitDefEqProofs only [go_sem, e7], h, 0, by omega, by simp -dsimp -implicitDefEqProofs only [go_sem], rfl, rfl⟩
  clear h hd e6 e7 e w
  rintro e w ⟨hd, e6, e7, h, i, hi, e11, hk, hck⟩
  by_cases hlt : (i : Int) < (L.length : Int)
  case neg =>
    have hz : (accs L).drop i = [] := List.drop_of_length_le (by simp; omega)
    have hz2 : ((accs L).zip P).drop i = [] := List.drop_of_length_le (by simp; omega)
    rw [hz, List.all_nil] at hk
    rw [hz2, checkF] at hck
    simp -dsimp -implicitDefEqProofs (disch := omega) only [go_sem, reqD_of, dec_t, dec_f, wrap_i64, wrap_u32, wrap_u64, wrap_u8, hd, e6, e7, e11, hlt]
    refine rparse_end hd e6 g hk hm hl ?_ h.right
    rw [hr, endF, hck]
  have hi1 : i < L.length := by omega
  have hip : i < P.length := by omega
  obtain ⟨b, o, rfl⟩ := hao i hi1
  obtain ⟨_, hrw⟩ := rdA_cells h hv hi1
  have hx := hm' _ (List.getElem_mem hi1)
  have hzd : (accs L).drop i = L[i].1 :: (accs L).drop (i + 1) := by
    rw [List.drop_eq_getElem_cons (by simp; omega)]; simp
  have hzz : ((accs L).zip P).drop i = (L[i].1, P[i]) :: ((accs L).zip P).drop (i + 1) := by
    rw [List.drop_eq_getElem_cons (by simp; omega)]; simp
  rw [hzd, List.all_cons] at hk
  rw [hzz, checkF] at hck
  obtain ⟨y, hy⟩ : ∃ y, y = L[i] := ⟨_, rfl⟩
  rw [← hy] at hrw hx hk hck
  obtain ⟨a, va⟩ := y
  obtain ⟨x1, x2, x3⟩ := hx
  simp only at x1 x2 x3 hrw hk hck
  simp -dsimp -implicitDefEqProofs (disch := omega) only [go_sem, reqD_of, dec_t, dec_f, wrap_i64, wrap_u32, wrap_u64, wrap_u8, hd, e6, e7, e11, hlt, hrw]
  refine (knows_any h hv (by omega) x1 x2.c).mono ?_
  rintro e' w2 ⟨h2, rfl⟩
  cases hf : namedF (accs L) a
  · rw [hf, if_neg (by simp)] at hck
    obtain ⟨b7, o7, rfl, c7⟩ := h2.atS (a := ap) (n := P.length) (c := cp) (xs := P.map nV) (k := i) (by simpa using hip)
    rw [List.getElem_map] at c7
    have c7' : w2.drew.cell? _ = _ := c7
    have hlt2 : (i : Int) < P.length := by omega
    simp -dsimp -implicitDefEqProofs (disch := omega) only [go_sem, reqD_of, dec_t, dec_f, wrap_i64, wrap_u32, wrap_u64, wrap_u8, hd, e7, e11, hlt2, c7, c7']
    refine .inr ⟨62, P[i], by rw [hr, endF, hck], ?_, rfl⟩
    first | exact h2.drew.right.right.right | exact h2.right.right.right
  · rw [hf, Bool.true_and] at hk
    rw [hf, if_pos rfl] at hck
    simp -dsimp -implicitDefEqProofs (disch := omega) only [go_sem, reqD_of, dec_t, dec_f, wrap_i64, wrap_u32, wrap_u64, wrap_u8, hd, e6, e7, e11]
    exact ⟨⟨h2, i + 1, by omega, by omega, hk, hck⟩, by omega⟩

theorem rparse_any {w0 w : World} {A : HP} (h : St w0 A w) (text : List UInt8) (htb : text.length ≤ 9223372036854775800) :
    Calls Tryz.prog 9 #[.string (strOf text)] w (RParsedR w0 A (parseF text)) := by
  refine F9.calls (by simp) ?_
  unfold F9.code
  by_cases ht : (65536 : Int) < text.length
  · have hp : parseF text = .error (1, 0) := by rw [parseF, if_pos (by omega)]
    rw [hp]
    simp -dsimp -implicitDefEqProofs (disch := omega) only [go_sem, reqD_of, dec_t, dec_f, wrap_i64, wrap_u32, wrap_u64, wrap_u8, ht]
    exact .inr ⟨1, 0, rfl, h, rfl⟩
  have ht' : ¬ 65536 < text.length := by omega
  simp -dsimp -implicitDefEqProofs (disch := omega) only [go_sem, reqD_of, dec_t, dec_f, wrap_i64, wrap_u32, wrap_u64, wrap_u8, ht]
  refine (cuts_any h text (by omega) 10).mono ?_
  rintro e w1 ⟨v1, h1, rfl⟩
  obtain ⟨ls, hls⟩ : ∃ ls, ls = pcs 10 text := ⟨_, rfl⟩
  have hlen := pcs_length 10 text
  have hmem : ∀ l ∈ ls, l.length ≤ 65536 := fun l hl => by
    have := pcs_sizes 10 text l (hls ▸ hl)
    omega
  rw [← hls] at hlen h1
  obtain ⟨a1, c1, rfl, _⟩ := h1.rowForm v1
  simp -dsimp -implicitDefEqProofs (disch := omega) only [go_sem, reqD_of, dec_t, dec_f, wrap_i64, wrap_u32, wrap_u64, wrap_u8]
  have h2 : St w0 (NumR (.slice none 0 0) [] * (rowA (.slice none 0 0) [] * (EmpH * (rowT (.slice a1 ls.length c1) ls * A)))) w1 := ((h1.ent (empL' _)).nilR 72 4).nilR 3 1
  refine loop_intro (fun e w' => e.ds = [] ∧ e.ρ 5 = .slice a1 ls.length c1 ∧
      ∃ (j : Nat) (L : List AV) (P : List Nat) (vl vp : Value) (B : HP), j ≤ ls.length ∧ e.ρ 8 = .int .i64 j ∧ e.ρ 6 = vl ∧ e.ρ 7 = vp ∧ readF ls 1 [] [] = readF (ls.drop j) (j + 1) (accs L) P ∧ MsS B L ∧ Good3 (accs L) P ∧ L.length ≤ j ∧ (textF (accs L)).length ≤ 65537 * j ∧
        St w0 (NumR vp P * (rowA vl L * (B * (rowT (.slice a1 ls.length c1) ls * A)))) w')
    (fun e _ => match e.ρ 8 with | .int _ n => (ls.length - n).toNat | _ => 0) ?_ ?_
  · exact ⟨rfl, by simp -dsimp -implicitDefEqProofs only [go_sem], 0, [], [], .slice none 0 0, .slice none 0 0, EmpH, by omega, by simp -dsimp -implicitDefEqProofs only [go_sem], by simp -dsimp -implicitDefEqProofs only [go_sem], by simp -dsimp -implicitDefEqProofs only [go_sem], rfl, fun x hx => (by cases hx), ⟨rfl, rfl, by simp, rfl⟩, by simp, by simp [textF], h2⟩
  clear h h1 h2
  rintro e w ⟨hd, e5, j, L, P, vl, vp, B, hj, e8, e6, e7, hrd, hm, g, hLj, htx, h⟩
  have hPL : P.length = L.length := by have := g.p; simpa using this
  by_cases hlt : (j : Int) < (ls.length : Int)
  case neg =>
    have hz : ls.drop j = [] := List.drop_of_length_le (by omega)
    rw [hz, readF] at hrd
    rw [endOf hrd hls ht']
    simp -dsimp -implicitDefEqProofs (disch := omega) only [go_sem, reqD_of, dec_t, dec_f, wrap_i64, wrap_u32, wrap_u64, wrap_u8, hd, e5, e6, e7, e8, hlt]
    have h3 : St w0 (rowT (.slice a1 ls.length c1) ls * (NumR vp P * (rowA vl L * (B * A)))) w := h.ac (by ac_rfl)
    exact rparse_mid hd e6 e7 g hm (by omega) rfl h3.right
  have hlt' : j < ls.length := by omega
  obtain ⟨al, cl, rfl, _⟩ := h.rowForm vl
  obtain ⟨ap, cp, rfl, _⟩ := h.rowForm vp
  obtain ⟨b, o, rfl, hc⟩ := h.textAt (av := a1) (cv := c1) (ls := ls) ((Ent.right _ _).trans ((Ent.right _ _).trans ((Ent.right _ _).trans ((Ent.left _ _).trans (RowO.reads _ _ _ _ _))))) hlt'
  have hdr : ls.drop j = ls[j] :: ls.drop (j + 1) := List.drop_eq_getElem_cons hlt'
  have hl := hmem _ (List.getElem_mem hlt')
  obtain ⟨l, hle⟩ : ∃ l, l = ls[j] := ⟨_, rfl⟩
  rw [← hle] at hc hdr hl
  rw [hdr, readF] at hrd
  by_cases l0 : l = []
  · have d0 : decide (l = []) = true := by simp [l0]
    rw [if_pos (.inl l0)] at hrd
    simp -dsimp -implicitDefEqProofs (disch := omega) only [go_sem, reqD_of, dec_t, dec_f, wrap_i64, wrap_u32, wrap_u64, wrap_u8, hd, e5, e6, e7, e8, hlt, hc, d0]
    exact ⟨⟨j + 1, L, P, _, _, B, by omega, by omega, rfl, rfl, hrd, hm, g, by omega, by omega, h⟩, by omega⟩
  have hp : 0 < l.length := List.length_pos_iff.2 l0
  have hp' : (0 : Int) < l.length := by omega
  obtain ⟨c0, hc0⟩ : ∃ c0, c0 = (l.getD 0 0).toNat := ⟨_, rfl⟩
  rw [← hc0] at hrd
  by_cases l1 : (c0 : Int) = 35
  · rw [if_pos (.inr (by omega))] at hrd
    simp -dsimp -implicitDefEqProofs (disch := omega) only [go_sem, reqD_of, dec_t, dec_f, wrap_i64, wrap_u32, wrap_u64, wrap_u8, hd, e5, e6, e7, e8, hlt, hc, l0, hp', ← hc0, l1]
    exact ⟨⟨j + 1, L, P, _, _, B, by omega, by omega, rfl, rfl, hrd, hm, g, by omega, by omega, h⟩, by omega⟩
  rw [if_neg (by simp only [l0, false_or]; omega)] at hrd
  simp -dsimp -implicitDefEqProofs (disch := omega) only [go_sem, reqD_of, dec_t, dec_f, wrap_i64, wrap_u32, wrap_u64, wrap_u8, hd, e5, e6, e7, e8, hlt, hc, l0, hp', ← hc0, l1]
  refine (raccount_any h (by omega)).mono ?_
  rintro e' w2 (⟨a, v, ha, hs, h2, rfl⟩ | ⟨ha, h2, rfl⟩)
  case inr =>
    rw [ha] at hrd
    rw [badOf hrd hls ht']
    simp -dsimp -implicitDefEqProofs (disch := omega) only [go_sem, reqD_of, dec_t, dec_f, wrap_i64, wrap_u32, wrap_u64, wrap_u8, hd, e5, e6, e7, e8]
    refine h2.new fun Q w3 h3 => ?_
    simp -dsimp -implicitDefEqProofs (disch := omega) only [go_sem, reqD_of, dec_t, dec_f, wrap_i64, wrap_u32, wrap_u64, wrap_u8, hd, e5, e6, e7, e8]
    refine h3.stoAll (b := Q) (n := 4) (cs := accL ⟨[], [], [], []⟩ (.slice none 0 0)) rfl rfl (fun v hv => by simp at hv; rcases hv with rfl | rfl | rfl | rfl <;> rfl) fun w4 h4 => ?_
    simp -dsimp -implicitDefEqProofs (disch := omega) only [go_sem, reqD_of, dec_t, dec_f, wrap_i64, wrap_u32, wrap_u64, wrap_u8, hd, e5, e6, e7, e8]
    exact .inr ⟨60, j + 1, rfl, h4.right.right.right.right.right, by first | rfl | (congr 2; omega)⟩
  rw [ha] at hrd
  have hfa := accF_formR ha
  obtain ⟨av, cv, rfl, _⟩ := h2.rowForm v
  simp -dsimp -implicitDefEqProofs (disch := omega) only [go_sem, reqD_of, dec_t, dec_f, wrap_i64, wrap_u32, wrap_u64, wrap_u8, hd, e5, e6, e7, e8]
  refine h2.new fun Q w3 h3 => ?_
  simp -dsimp -implicitDefEqProofs (disch := omega) only [go_sem, reqD_of, dec_t, dec_f, wrap_i64, wrap_u32, wrap_u64, wrap_u8, hd, e5, e6, e7, e8]
  refine h3.stoAll (b := Q) (n := 4) (cs := accL a (.slice av a.members.length cv)) rfl rfl (fun v hv => by simp at hv; rcases hv with rfl | rfl | rfl | rfl <;> rfl) fun w4 h4 => ?_
  simp -dsimp -implicitDefEqProofs (disch := omega) only [go_sem, reqD_of, dec_t, dec_f, wrap_i64, wrap_u32, wrap_u64, wrap_u8, hd, e5, e6, e7, e8, h4.cl Q]
  refine (find_any (L := L) h4 ((Ent.right _ _).trans ((Ent.right _ _).trans ((Ent.right _ _).trans ((Ent.left _ _).trans (RowO.reads _ _ _ _ _))))) (by omega) a.name).mono ?_
  rintro e' w5 ⟨h5, k, hf, rfl⟩
  have hfp := hf.pos
  simp only at hrd
  cases hkn : known (accs L) a.name
  case true =>
    rw [hkn] at hfp hrd
    have hfp : 0 ≤ k := of_decide_eq_true hfp
    rw [Bool.true_or, if_pos rfl] at hrd
    rw [badOf hrd hls ht']
    simp -dsimp -implicitDefEqProofs (disch := omega) only [go_sem, reqD_of, dec_t, dec_f, wrap_i64, wrap_u32, wrap_u64, wrap_u8, hd, e5, e6, e7, e8, hfp]
    exact .inr ⟨61, j + 1, rfl, h5.right.right.right.right.right.right, by first | rfl | (congr 2; omega)⟩
  rw [hkn] at hfp
  have hfp : ¬ 0 ≤ k := of_decide_eq_false hfp
  rw [hkn, Bool.false_or] at hrd
  simp -dsimp -implicitDefEqProofs (disch := omega) only [go_sem, reqD_of, dec_t, dec_f, wrap_i64, wrap_u32, wrap_u64, wrap_u8, hd, e5, e6, e7, e8, hfp, h5.cl Q]
  refine (twice_any (a := a) h5 ((Ent.right _ _).trans ((Ent.left _ _).trans (RowO.reads _ _ _ _ _))) hs.c).mono ?_
  rintro e' w6 ⟨h6, rfl⟩
  cases ho : onceF a
  · rw [ho] at hrd
    rw [Bool.not_false, if_pos rfl] at hrd
    rw [badOf hrd hls ht']
    simp -dsimp -implicitDefEqProofs (disch := omega) only [go_sem, reqD_of, dec_t, dec_f, wrap_i64, wrap_u32, wrap_u64, wrap_u8, hd, e5, e6, e7, e8]
    exact .inr ⟨61, j + 1, rfl, h6.right.right.right.right.right.right, by first | rfl | (congr 2; omega)⟩
  rw [ho, Bool.not_true, if_neg (by simp)] at hrd
  have r6 := h6.rowH Q 4 rfl
  simp -dsimp -implicitDefEqProofs (disch := omega) only [go_sem, reqD_of, dec_t, dec_f, wrap_i64, wrap_u32, wrap_u64, wrap_u8, hd, e5, e6, e7, e8, r6]
  refine h6.lit (t := 38) (n := 1) (cells := accL a (.slice av a.members.length cv)) fact_rowTy_38 rfl (by decide) (by decide) fun v7 w7 h7 => ?_
  obtain ⟨a7, c7, rfl, _⟩ := h7.rowForm v7
  simp -dsimp -implicitDefEqProofs (disch := omega) only [go_sem, reqD_of, dec_t, dec_f, wrap_i64, wrap_u32, wrap_u64, wrap_u8, hd, e5, e6, e7, e8]
  refine h7.appR (v := .slice al L.length cl) (x := .slice a7 1 c7) fact_rowTy_38 Tryz.underlying38 (fun u hu => by simp at hu; rcases hu with rfl | rfl | rfl | rfl <;> rfl) (by simp) (show _ ≤ 9223372036854775807 by omega) (by omega) fun v8 w8 h8 => ?_
  obtain ⟨a8, c8, rfl, _⟩ := h8.rowForm v8
  simp -dsimp -implicitDefEqProofs (disch := omega) only [go_sem, reqD_of, dec_t, dec_f, wrap_i64, wrap_u32, wrap_u64, wrap_u8, hd, e5, e6, e7, e8]
  have hn1 : ((j : Int) + 1) = ((j + 1 : Nat) : Int) := by omega
  refine h8.lit (t := 68) (n := 1) (cells := [nV (j + 1)]) fact_rowTy_68 (by rw [hn1]; rfl) (by decide) (by decide) fun v9 w9 h9 => ?_
  obtain ⟨a9, c9, rfl, _⟩ := h9.rowForm v9
  simp -dsimp -implicitDefEqProofs (disch := omega) only [go_sem, reqD_of, dec_t, dec_f, wrap_i64, wrap_u32, wrap_u64, wrap_u8, hd, e5, e6, e7, e8]
  refine h9.appR (v := .slice ap P.length cp) (x := .slice a9 1 c9) fact_rowTy_68 Tryz.underlying68 (fun u hu => by simp at hu; subst hu; rfl) (by simp) (show _ ≤ 9223372036854775807 by omega) (by omega) fun v10 w10 h10 => ?_
  obtain ⟨a10, c10, rfl, _⟩ := h10.rowForm v10
  simp -dsimp -implicitDefEqProofs (disch := omega) only [go_sem, reqD_of, dec_t, dec_f, wrap_i64, wrap_u32, wrap_u64, wrap_u8, hd, e5, e6, e7, e8]
  have q1 : (L ++ [(a, Value.slice av a.members.length cv)]).length = L.length + 1 := by simp
  have q2 : (L ++ [(a, Value.slice av a.members.length cv)]).flatMap accC = L.flatMap accC ++ accL a (.slice av a.members.length cv) := by simp
  have q3 : (P ++ [j + 1]).length = P.length + 1 := by simp
  have q4 : (P ++ [j + 1]).map nV = P.map nV ++ [nV (j + 1)] := by simp
  have hacc : accs (L ++ [(a, Value.slice av a.members.length cv)]) = accs L ++ [a] := by simp
  have hrow : (rowF a).length ≤ 65536 := by rw [row_of ha]; exact hl
  refine ⟨⟨j + 1, L ++ [(a, Value.slice av a.members.length cv)], P ++ [j + 1], .slice a8 (L.length + 1) c8, .slice a10 (P.length + 1) c10, rowT (.slice av a.members.length cv) a.members * B, by omega, by omega, rfl, rfl, by rw [hacc]; exact hrd, ?_, by rw [hacc]; exact g.snoc _ hfa ho hkn, by omega, ?_, ?_⟩, by omega⟩
  · intro x hx
    rcases List.mem_append.1 hx with hx | hx
    · exact ⟨(Ent.right _ _).trans (hm x hx).1, (hm x hx).2⟩
    · simp only [List.mem_singleton] at hx
      subst hx
      exact ⟨(Ent.left _ _).trans (RowO.reads _ _ _ _ _), hs, rfl⟩
  · rw [hacc]
    have : textF (accs L ++ [a]) = textF (accs L) ++ lineF a := by simp [textF]
    rw [this, List.length_append]
    simp only [lineF, List.length_append, List.length_cons, List.length_nil]
    omega
  · unfold rowA NumR
    rw [q1, q2, q3, q4]
    have h11 : St w0 (RowO 3 1 (.slice a10 (P.length + 1) c10) (P.length + 1) (P.map nV ++ [nV (j + 1)]) * (RowO 72 4 (.slice a8 (L.length + 1) c8) (L.length + 1) (L.flatMap accC ++ accL a (.slice av a.members.length cv)) * (rowT (.slice av a.members.length cv) a.members * (B * (rowT (.slice (some ⟨b, o, none⟩) ls.length c1) ls * A))))) w10 := h10.sub
    exact h11.ac (by ac_rfl)
end
end Go.Proofs.YtkijkoakloacoaaGreatDoor
