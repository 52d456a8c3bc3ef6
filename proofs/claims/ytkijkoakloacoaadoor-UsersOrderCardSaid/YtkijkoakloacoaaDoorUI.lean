/- Accounts in another order, their members turned round: the plain law. law06: UsersOrder: the other order is made. law06: UsersOrder: two tables tell the same. -/
import Derived.Test.YtkijkoakloacoaaDoorUA
import Derived.Test.YtkijkoakloacoaaDoorUH
namespace Go.Proofs.YtkijkoakloacoaaDoor
open Go
set_option linter.unusedVariables false
set_option linter.unusedSimpArgs false

def backA (a : Acc) : Acc := ⟨a.name, a.leader, a.members.reverse, a.key⟩
/-- M is L from the p-th on, round. -/
structure Turned (p : Nat) (L M : List Acc) : Prop where
  len : M.length = L.length
  each : ∀ i (hi : i < M.length), ∃ hk : (i + p) % L.length < L.length, M[i] = backA (L[(i + p) % L.length])
theorem Turned.find {p : Nat} {L M : List Acc} (h : Turned p L M) {k : Nat} (hk : k < L.length) : ∃ j, ∃ hj : j < M.length, M[j] = backA L[k] := by
  have h0 : 0 < L.length := by omega
  have hp : p % L.length < L.length := Nat.mod_lt _ h0
  refine ⟨(k + (L.length - p % L.length)) % L.length, by rw [h.len]; exact Nat.mod_lt _ h0, ?_⟩
  obtain ⟨h1, h2⟩ := h.each ((k + (L.length - p % L.length)) % L.length) (by rw [h.len]; exact Nat.mod_lt _ h0)
  rw [h2]
  have e : ((k + (L.length - p % L.length)) % L.length + p) % L.length = k := by
    have h3 := Nat.div_add_mod p L.length
    have h4 : k + (L.length - p % L.length) + p = k + L.length * (p / L.length + 1) := by rw [Nat.mul_add]; omega
    rw [Nat.mod_add_mod, h4, Nat.add_mul_mod_self_left, Nat.mod_eq_of_lt hk]
  simp only [e]
theorem Turned.made {p : Nat} {L M : List Acc} (h : Turned p L M) (m : Made L) {i : Nat} (hi : i < M.length) : MadeA L.length ((i + p) % L.length) M[i] := by
  obtain ⟨h1, h2⟩ := h.each i hi
  have a := m.each _ h1
  rw [h2]
  exact ⟨a.name, a.lead, fun x hx => a.mem x (List.mem_reverse.1 hx), (List.reverse_perm _).nodup_iff.2 a.once, a.key⟩
theorem Turned.inj {p : Nat} {L M : List Acc} (h : Turned p L M) {i k : Nat} (hi : i < M.length) (hk : k < M.length) (e : (i + p) % L.length = (k + p) % L.length) : i = k := by
  rw [h.len] at hi hk
  have h1 := Nat.div_add_mod (i + p) L.length
  have h2 := Nat.div_add_mod (k + p) L.length
  rw [e] at h1
  rcases Nat.lt_trichotomy i k with hlt | he | hgt
  · have hq : (i + p) / L.length = (k + p) / L.length ∨ (i + p) / L.length + 1 ≤ (k + p) / L.length := by
      have := Nat.div_le_div_right (c := L.length) (show i + p ≤ k + p by omega)
      omega
    rcases hq with hq | hq
    · rw [hq] at h1; omega
    · have := Nat.mul_le_mul_left L.length hq
      rw [Nat.mul_add] at this
      omega
  · exact he
  · have hq : (k + p) / L.length = (i + p) / L.length ∨ (k + p) / L.length + 1 ≤ (i + p) / L.length := by
      have := Nat.div_le_div_right (c := L.length) (show k + p ≤ i + p by omega)
      omega
    rcases hq with hq | hq
    · rw [hq] at h2; omega
    · have := Nat.mul_le_mul_left L.length hq
      rw [Nat.mul_add] at this
      omega
theorem Turned.nodup {p : Nat} {L M : List Acc} (h : Turned p L M) (m : Made L) : (M.map (·.name)).Nodup := by
  rw [List.nodup_iff_pairwise_ne, List.pairwise_map, List.pairwise_iff_getElem]
  intro i k hi hk hlt e
  have h1 := h.made m hi
  have h2 := h.made m hk
  rw [h1.name, h2.name] at e
  have hf := m.few
  have hn : 0 < L.length := by rw [← h.len]; omega
  have := h.inj hi hk (nm_inj (by have := Nat.mod_lt (i + p) hn; omega) (by have := Nat.mod_lt (k + p) hn; omega) e)
  omega
theorem Turned.knows {p : Nat} {L M : List Acc} (h : Turned p L M) (m : Made L) {k : Nat} (hk : k < L.length) : known M (nm k) = true := by
  obtain ⟨j, hj, e⟩ := h.find hk
  rw [known_iff]
  refine List.mem_map.2 ⟨M[j], List.getElem_mem hj, ?_⟩
  rw [e]
  exact (m.each k hk).name
theorem Turned.all {p : Nat} {L M : List Acc} (h : Turned p L M) (m : Made L) : allF M = true := by
  simp only [allF, Bool.and_eq_true, List.all_eq_true, decide_eq_true_eq]
  have hf := m.few
  refine ⟨⟨⟨fun a ha => ?_, fun a ha => ?_⟩, h.nodup m⟩, fun a ha => ?_⟩
  all_goals
    obtain ⟨i, hi, rfl⟩ := List.getElem_of_mem ha
    have a := h.made m hi
    obtain ⟨h1, _⟩ := h.each i hi
  · simp only [formF, Bool.and_eq_true, Bool.or_eq_true, beq_iff_eq, List.all_eq_true]
    refine ⟨⟨⟨?_, ?_⟩, ?_⟩, a.key⟩
    · rw [a.name]; exact nm_name (by omega)
    · rcases a.lead with e | ⟨k, hk, e⟩
      · exact .inl e
      · exact .inr (by rw [e]; exact nm_name (by omega))
    · intro x hx
      obtain ⟨k, hk, e⟩ := a.mem x hx
      rw [e]
      exact nm_name (by omega)
  · exact decide_eq_true a.once
  · simp only [namedF, Bool.and_eq_true, Bool.or_eq_true, beq_iff_eq, List.all_eq_true]
    refine ⟨?_, fun x hx => ?_⟩
    · rcases a.lead with e | ⟨k, hk, e⟩
      · exact .inl e
      · exact .inr (by rw [e]; exact h.knows m hk)
    · obtain ⟨k, hk, e⟩ := a.mem x hx
      rw [e]
      exact h.knows m hk
theorem Turned.text {p : Nat} {L M : List Acc} (h : Turned p L M) (m : Made L) : (textF M).length ≤ 6000 := by
  have := text_len M 200 fun a ha => by
    obtain ⟨i, hi, rfl⟩ := List.getElem_of_mem ha
    exact (h.made m hi).row m.few
  have h1 := m.few
  have h2 := h.len
  omega
theorem Turned.print {p : Nat} {L M : List Acc} (h : Turned p L M) (m : Made L) : printF M = .ok (textF M) := printF_ok (h.all m) (decide_eq_true (by have := h.text m; omega))

/-! ### The same is told -/

theorem Turned.member {p : Nat} {L M : List Acc} (h : Turned p L M) (m : Made L) (u : List UInt8) {k : Nat} (hk : k < L.length) : memberF M u L[k].name = memberF L u L[k].name := by
  obtain ⟨j, hj, e⟩ := h.find hk
  have h1 := memberF_of m.nodup (List.getElem_mem hk) u
  have h2 := memberF_of (h.nodup m) (List.getElem_mem hj) u
  rw [e] at h2
  have e1 : (backA L[k]).name = L[k].name := rfl
  rw [e1] at h2
  rw [h1, h2]
  congr 1
  rw [Bool.eq_iff_iff, List.contains_iff_mem, List.contains_iff_mem]
  exact List.mem_reverse
theorem Turned.leads {p : Nat} {L M : List Acc} (h : Turned p L M) (m : Made L) {i k : Nat} (hi : i < L.length) (hk : k < L.length) : leadsF M L[i].name L[k].name = leadsF L L[i].name L[k].name := by
  obtain ⟨j, hj, e⟩ := h.find hk
  have hu1 : known L L[i].name = true := by rw [(m.each i hi).name]; exact m.knows hi
  have hu2 : known M L[i].name = true := by rw [(m.each i hi).name]; exact h.knows m hi
  have h1 := leadsF_of m.nodup (List.getElem_mem hk) hu1
  have h2 := leadsF_of (h.nodup m) (List.getElem_mem hj) hu2
  rw [e] at h2
  have e1 : (backA L[k]).name = L[k].name := rfl
  have e2 : (backA L[k]).leader = L[k].leader := rfl
  rw [e1, e2, h.member m _ hk] at h2
  rw [h1, h2]
theorem Turned.key {p : Nat} {L M : List Acc} (h : Turned p L M) (m : Made L) {k : Nat} (hk : k < L.length) : keyOf M L[k].name = keyOf L L[k].name := by
  obtain ⟨j, hj, e⟩ := h.find hk
  have h1 := keyOf_of m.nodup (List.getElem_mem hk)
  have h2 := keyOf_of (h.nodup m) (List.getElem_mem hj)
  rw [e] at h2
  exact h2.trans h1.symm
theorem Turned.groups {p : Nat} {L M : List Acc} (h : Turned p L M) (m : Made L) (u : List UInt8) : groupsF M u = groupsF L u := by
  have hmem : ∀ g, g ∈ groupsF M u ↔ g ∈ groupsF L u := fun g => by
    rw [mem_groups, mem_groups]
    constructor
    · rintro ⟨h1, h2⟩
      obtain ⟨a, ha, rfl⟩ := List.mem_map.1 h1
      obtain ⟨j, hj, rfl⟩ := List.getElem_of_mem ha
      obtain ⟨hk, e⟩ := h.each j hj
      have e1 : M[j].name = L[(j + p) % L.length].name := by rw [e]; rfl
      rw [e1] at h2 ⊢
      exact ⟨List.mem_map_of_mem (f := (·.name)) (List.getElem_mem hk), (h.member m u hk) ▸ h2⟩
    · rintro ⟨h1, h2⟩
      obtain ⟨a, ha, rfl⟩ := List.mem_map.1 h1
      obtain ⟨k, hk, rfl⟩ := List.getElem_of_mem ha
      obtain ⟨j, hj, e⟩ := h.find hk
      refine ⟨List.mem_map.2 ⟨M[j], List.getElem_mem hj, by rw [e]; rfl⟩, (h.member m u hk).trans h2⟩
  have hp : (groupsF M u).Perm (groupsF L u) := (List.perm_ext_iff_of_nodup (groups_nodup (h.nodup m) u) (groups_nodup m.nodup u)).2 hmem
  exact List.Perm.eq_of_pairwise (le := fun x y : List UInt8 => x ≤ y) (fun a b _ _ h1 h2 => List.le_antisymm h1 h2) (groups_sorted M u) (groups_sorted L u) hp
end Go.Proofs.YtkijkoakloacoaaDoor

namespace Go.Proofs.YtkijkoakloacoaaDoor
open Go
set_option linter.unusedVariables false
set_option linter.unusedSimpArgs false
set_option maxRecDepth 100000

/-- What the loop's variables are. -/
structure OrdE (e : FA) (turn : Int) (vo vm : Value) (i : Nat) : Prop where
  ds : e.ds = []
  turn : e.ρ 1 = .int .i64 turn
  up : e.ρ 5 = .bool true
  l : e.ρ 6 = vo
  m : e.ρ 7 = vm
  i : e.ρ 8 = .int .i64 i

theorem rev_step {ms : List (List UInt8)} {j : Nat} (hj : j < ms.length) : (ms.drop j).reverse = (ms.drop (j + 1)).reverse ++ [ms[j]] := by
  rw [List.drop_eq_getElem_cons hj, List.reverse_cons]

section
attribute [local go_sem] F7.t11_eq F7.t12_eq F7.t13_eq F7.t6_eq F7.t7_eq F7.t29_eq F7.t30_eq F7.t27_eq F7.t21_eq F7.t22_eq F7.t32_eq F7.t19_eq F7.t15_eq
theorem order_13 {w0 w : World} {A : HP} {P i : Nat} {turn : Int} {vo vm v v' : Value} {ML : List AV} {a : Acc} {e : FA} {Q : Post} (he : OrdE e turn vo vm i) (e9 : e.ρ 9 = .pointer (some ⟨P, 0, none⟩)) (e10 : e.ρ 10 = v') (hn : ML.length ≤ 30)
    (h : St w0 (rowT v' a.members.reverse * (bkA P a v * (rowA vm ML * A))) w)
    (hQ : ∀ (e' : FA) (w' : World) (vm' v' : Value), OrdE e' turn vo vm' i → isCell v' = true → St w0 (rowA vm' (ML ++ [(backA a, v')]) * (rowT v' a.members.reverse * A)) w' → Q .normal e' w') : cwE Tryd.prog F7.t13 Q e w := by
  obtain ⟨hd, e1, e5, e6, e7, e8⟩ := he
  obtain ⟨av, cv, rfl, _⟩ := h.rowForm v'
  obtain ⟨am, cm, rfl, _⟩ := h.rowForm vm
  rw [F7.t13_eq]
  simp -dsimp -implicitDefEqProofs (disch := omega) only [go_sem, reqD_of, dec_t, dec_f, wrap_i64, wrap_u32, wrap_u64, wrap_u8, hd, e7, e9, e10]
  refine h.sto (b := P) (off := 2) (by simp) rfl fun w1 h1 => ?_
  simp only [List.setIfInBounds_toArray, List.set_cons_succ, List.set_cons_zero] at h1
  have h1 : St w0 (rowT (.slice av a.members.reverse.length cv) a.members.reverse * (bkA P (backA a) (.slice av a.members.reverse.length cv) * (rowA (.slice am ML.length cm) ML * A))) w1 := h1
  have r1 := h1.rowH P 4 rfl
  have c1 := h1.cl P
  simp -dsimp -implicitDefEqProofs (disch := omega) only [go_sem, reqD_of, dec_t, dec_f, wrap_i64, wrap_u32, wrap_u64, wrap_u8, hd, e7, e9, e10, r1, c1]
  refine h1.lit (t := 23) (n := 1) (cells := accL (backA a) (.slice av a.members.reverse.length cv)) fact_rowTy_23 rfl (by decide) (by decide) fun v3 w3 h3 => ?_
  obtain ⟨a3, c3, rfl, _⟩ := h3.rowForm v3
  simp -dsimp -implicitDefEqProofs (disch := omega) only [go_sem, reqD_of, dec_t, dec_f, wrap_i64, wrap_u32, wrap_u64, wrap_u8, hd, e7, e9, e10]
  refine h3.appR (v := .slice am ML.length cm) (x := .slice a3 1 c3) fact_rowTy_23 Tryd.underlying23 (fun u hu => by simp at hu; rcases hu with rfl | rfl | rfl | rfl <;> rfl) (by simp) (show _ ≤ 9223372036854775807 by omega) (by omega) fun v4 w4 h4 => ?_
  obtain ⟨a4, c4, rfl, _⟩ := h4.rowForm v4
  simp -dsimp -implicitDefEqProofs (disch := omega) only [go_sem, reqD_of, dec_t, dec_f, wrap_i64, wrap_u32, wrap_u64, wrap_u8, hd]
  refine hQ _ _ (.slice a4 (ML.length + 1) c4) (.slice av a.members.reverse.length cv) ⟨by simp -dsimp -implicitDefEqProofs only [go_sem, hd], by simp -dsimp -implicitDefEqProofs only [go_sem, e1], by simp -dsimp -implicitDefEqProofs only [go_sem, e5], by simp -dsimp -implicitDefEqProofs only [go_sem, e6], by simp -dsimp -implicitDefEqProofs only [go_sem], by simp -dsimp -implicitDefEqProofs only [go_sem, e8]⟩ rfl ?_
  have q1 : (ML ++ [(backA a, Value.slice av a.members.reverse.length cv)]).length = ML.length + 1 := by simp
  have q2 : (ML ++ [(backA a, Value.slice av a.members.reverse.length cv)]).flatMap accC = ML.flatMap accC ++ accL (backA a) (.slice av a.members.reverse.length cv) := by simp
  unfold rowA
  rw [q1, q2]
  exact h4.sub

end
section
attribute [local go_sem] F7.t11_eq F7.t12_eq F7.t6_eq F7.t7_eq F7.t29_eq F7.t30_eq F7.t27_eq F7.t21_eq F7.t22_eq F7.t32_eq F7.t19_eq F7.t15_eq
theorem order_7 {w0 w : World} {A B : HP} {i : Nat} {turn : Int} {vo vm : Value} {L ML : List AV} {e : FA} {Q : Post} (hturn : InI turn) (he : OrdE e turn vo vm i) (M : Made (accs L)) (hm : MsOk B L) (hi : i < L.length) (hML : ML.length ≤ 30)
    (h : St w0 (rowA vm ML * (rowA vo L * (B * A))) w)
    (hQ : ∀ (e' : FA) (w' : World) (vm' v' : Value) (k : Nat) (hk : k < L.length), k = (i + (pickI turn L.length).toNat) % L.length → OrdE e' turn vo vm' (i + 1) → isCell v' = true → St w0 (rowA vm' (ML ++ [(backA L[k].1, v')]) * (rowT v' L[k].1.members.reverse * (rowA vo L * (B * A)))) w' → Q .normal e' w') : cwE Tryd.prog F7.t7 Q e w := by
  obtain ⟨hd, e1, e5, e6, e7, e8⟩ := he
  obtain ⟨ao, co, rfl, hao⟩ := row_form (vo := vo) (L := L) h.right
  obtain ⟨b, o, rfl⟩ := hao i hi
  have hfew := M.few
  simp only [List.length_map] at hfew
  obtain ⟨p, hp, hpk⟩ := pick_nat (c := turn) (n := L.length) (by omega)
  rw [hpk] at hQ
  obtain ⟨k, hk⟩ : ∃ k, k = (i + p) % L.length := ⟨_, rfl⟩
  have hkl : k < L.length := by rw [hk]; exact Nat.mod_lt _ (by omega)
  have hrem : Int.tmod ((i : Int) + p) L.length = (k : Nat) := by
    rw [Int.tmod_eq_emod_of_nonneg (by omega), hk]
    simp
  have hL0 : ¬ ((L.length : Nat) : Int) = 0 := by omega
  have hk0 : (0 : Int) ≤ (k : Nat) := by omega
  have hkn : ((k : Nat) : Int) < L.length := by omega
  rw [F7.t7_eq]
  simp -dsimp -implicitDefEqProofs (disch := omega) only [go_sem, reqD_of, dec_t, dec_f, wrap_i64, wrap_u32, wrap_u64, wrap_u8, hd, e1, e6, e7, e8]
  refine (pick_any h hturn (n := (L.length : Nat)) (by omega) (by omega)).mono ?_
  rintro e' w1 ⟨h1, rfl⟩
  rw [hpk]
  obtain ⟨_, _, _, hv', _, hrow⟩ := St.rowsAt accC_len (by decide) (h1.gives (B := Reads 4 (.slice (some ⟨b, o, none⟩) L.length co) L.length (L.flatMap accC)))
  simp only [Value.slice.injEq, true_and] at hv'
  obtain ⟨q1, rfl⟩ := hv'
  obtain ⟨b', o', q2, hr, _⟩ := hrow k hkl
  rw [← q1] at q2
  simp only [Option.some.injEq, Addr.mk.injEq, and_true] at q2
  obtain ⟨rfl, rfl⟩ := q2
  have hms := hm _ (List.getElem_mem hkl)
  have hmade := M.each k (by simpa using hkl)
  have hgk : (accs L)[k]'(by simpa using hkl) = L[k].1 := by simp
  rw [hgk] at hmade
  have hfm := hmade.few
  have hQ' := hQ
  specialize hQ' (k := k) (hk := hkl)
  obtain ⟨y, hy⟩ : ∃ y, y = L[k] := ⟨_, rfl⟩
  rw [← hy] at hr hms hfm hQ'
  obtain ⟨a, va⟩ := y
  obtain ⟨hm1, hm2, hm3⟩ := hms
  simp only at hm1 hm2 hm3 hr hfm hQ'
  have hal : a.members.length ≤ 30 := Nat.le_trans hfm M.few
  obtain ⟨am, cm, rfl⟩ := ms_slice h1 ((Gives.ent (B := B)).trans hm1)
  simp -dsimp -implicitDefEqProofs (disch := omega) only [go_sem, reqD_of, dec_t, dec_f, wrap_i64, wrap_u32, wrap_u64, wrap_u8, hd, e1, e6, e7, e8, hrem, hL0, hkn, hr]
  refine h1.new fun P w2 h2 => ?_
  simp -dsimp -implicitDefEqProofs (disch := omega) only [go_sem, reqD_of, dec_t, dec_f, wrap_i64, wrap_u32, wrap_u64, wrap_u8, hd]
  refine h2.stoAll (b := P) (n := 4) (cs := accL a (.slice am a.members.length cm)) rfl rfl (fun v hv => by simp at hv; rcases hv with rfl | rfl | rfl | rfl <;> rfl) fun w3 h3 => ?_
  simp -dsimp -implicitDefEqProofs (disch := omega) only [go_sem, reqD_of, dec_t, dec_f, wrap_i64, wrap_u32, wrap_u64, wrap_u8, hd, h3.cl P]
  have h4 : St w0 (rowT (.slice none 0 0) (a.members.drop a.members.length).reverse * (bkA P a (.slice am a.members.length cm) * (rowA vm ML * (rowA (.slice (some ⟨b, o, none⟩) L.length co) L * (B * A))))) w3 := by
    rw [List.drop_length]
    exact h3.nilR 9 1
  refine loop_intro (fun e w' => OrdE e turn (.slice (some ⟨b, o, none⟩) L.length co) vm i ∧ e.ρ 9 = .pointer (some ⟨P, 0, none⟩) ∧ ∃ (j : Nat) (vb : Value), j ≤ a.members.length ∧ e.ρ 10 = vb ∧ e.ρ 11 = .int .i64 ((j : Int) - 1) ∧
      St w0 (rowT vb (a.members.drop j).reverse * (bkA P a (.slice am a.members.length cm) * (rowA vm ML * (rowA (.slice (some ⟨b, o, none⟩) L.length co) L * (B * A))))) w')
    (fun e _ => match e.ρ 11 with | .int _ n => (n + 1).toNat | _ => 0) ?_ ?_
  · exact ⟨⟨by simp -dsimp -implicitDefEqProofs only [go_sem, hd], by simp -dsimp -implicitDefEqProofs only [go_sem, e1], by simp -dsimp -implicitDefEqProofs only [go_sem, e5], by simp -dsimp -implicitDefEqProofs only [go_sem, e6], by simp -dsimp -implicitDefEqProofs only [go_sem, e7], by simp -dsimp -implicitDefEqProofs only [go_sem, e8]⟩, by simp -dsimp -implicitDefEqProofs only [go_sem], a.members.length, _, by omega, by simp -dsimp -implicitDefEqProofs only [go_sem], by simp -dsimp -implicitDefEqProofs only [go_sem], h4⟩
  clear h h1 h2 h3 h4 hr
  rintro e2 w4 ⟨⟨fd, f1, f5, f6, f7, f8⟩, f9, j, vb, hj, f10, f11, h4⟩
  obtain ⟨ab, cb, rfl, _⟩ := h4.rowForm vb
  have hbl : (a.members.drop j).reverse.length = a.members.length - j := by simp
  by_cases hj0 : (0 : Int) ≤ (j : Int) - 1
  case neg =>
    have : j = 0 := by omega
    subst this
    rw [List.drop_zero] at h4 f10
    simp -dsimp -implicitDefEqProofs (disch := omega) only [go_sem, reqD_of, dec_t, dec_f, wrap_i64, wrap_u32, wrap_u64, wrap_u8, fd, f11, hj0]
    refine order_13 (P := P) (a := a) (turn := turn) (vo := .slice (some ⟨b, o, none⟩) L.length co) (i := i) (vm := vm) (ML := ML) (v := .slice am a.members.length cm) (v' := .slice ab a.members.reverse.length cb) ⟨by simp -dsimp -implicitDefEqProofs only [go_sem, fd], by simp -dsimp -implicitDefEqProofs only [go_sem, f1], by simp -dsimp -implicitDefEqProofs only [go_sem, f5], by simp -dsimp -implicitDefEqProofs only [go_sem, f6], by simp -dsimp -implicitDefEqProofs only [go_sem, f7], by simp -dsimp -implicitDefEqProofs only [go_sem, f8]⟩ (by simp -dsimp -implicitDefEqProofs only [go_sem, f9]) (by simp -dsimp -implicitDefEqProofs only [go_sem, f10]) hML h4 ?_
    rintro e' w' vm' v' ⟨gd, g1, g5, g6, g7, g8⟩ hc h'
    simp -dsimp -implicitDefEqProofs (disch := omega) only [go_sem, reqD_of, dec_t, dec_f, wrap_i64, wrap_u32, wrap_u64, wrap_u8, gd, g8]
    exact hQ' _ _ vm' v' hk ⟨by simp -dsimp -implicitDefEqProofs only [go_sem, gd], by simp -dsimp -implicitDefEqProofs only [go_sem, g1], by simp -dsimp -implicitDefEqProofs only [go_sem, g5], by simp -dsimp -implicitDefEqProofs only [go_sem, g6], by simp -dsimp -implicitDefEqProofs only [go_sem, g7], by simp -dsimp -implicitDefEqProofs only [go_sem]; omega⟩ hc h'
  have hjl : j - 1 < a.members.length := by omega
  have hto : ((j : Int) - 1).toNat = j - 1 := by omega
  have hjn : (j : Int) - 1 < a.members.length := by omega
  have gB : Gives (rowT (.slice ab (a.members.drop j).reverse.length cb) (a.members.drop j).reverse * (bkA P a (.slice am a.members.length cm) * (rowA vm ML * (rowA (.slice (some ⟨b, o, none⟩) L.length co) L * (B * A))))) B := inferInstance
  obtain ⟨bm, om, rfl, hcm⟩ := (h4.ent (gB.ent.trans hm1)).atS (a := am) (n := a.members.length) (c := cm) (xs := a.members.map sv) (k := j - 1) (by simpa using hjl)
  rw [List.getElem_map] at hcm
  have hrev := rev_step hjl
  rw [show j - 1 + 1 = j by omega] at hrev
  obtain ⟨q, hq⟩ : ∃ q, q = a.members[j - 1] := ⟨_, rfl⟩
  rw [← hq] at hcm hrev
  simp -dsimp -implicitDefEqProofs (disch := omega) only [go_sem, reqD_of, dec_t, dec_f, wrap_i64, wrap_u32, wrap_u64, wrap_u8, fd, f9, f10, f11, hj0, h4.cl P, hjn]
  rw [hto]
  simp -dsimp -implicitDefEqProofs (disch := omega) only [go_sem, reqD_of, dec_t, dec_f, wrap_i64, wrap_u32, wrap_u64, wrap_u8, hcm]
  refine h4.lit (t := 33) (cells := [sv q]) fact_rowTy_33 rfl (by decide) (by decide) fun v8 w8 h8 => ?_
  obtain ⟨a8, c8, rfl, _⟩ := h8.rowForm v8
  simp -dsimp -implicitDefEqProofs (disch := omega) only [go_sem, reqD_of, dec_t, dec_f, wrap_i64, wrap_u32, wrap_u64, wrap_u8, fd, f10]
  refine h8.appR (v := .slice ab (a.members.drop j).reverse.length cb) (x := .slice a8 1 c8) fact_rowTy_33 Tryd.underlying33 (fun u hu => by simp at hu; subst hu; rfl) (by simp) (show _ ≤ 9223372036854775807 by omega) (by omega) fun v9 w9 h9 => ?_
  obtain ⟨a9, c9, rfl, _⟩ := h9.rowForm v9
  simp -dsimp -implicitDefEqProofs (disch := omega) only [go_sem, reqD_of, dec_t, dec_f, wrap_i64, wrap_u32, wrap_u64, wrap_u8, fd, f11]
  have e1' : (a.members.drop (j - 1)).reverse.length = (a.members.drop j).reverse.length + 1 := by rw [hrev]; simp
  have e2' : (a.members.drop (j - 1)).reverse.map sv = (a.members.drop j).reverse.map sv ++ [sv q] := by rw [hrev]; simp
  refine ⟨⟨⟨by simp -dsimp -implicitDefEqProofs only [go_sem, fd], by simp -dsimp -implicitDefEqProofs only [go_sem, f1], by simp -dsimp -implicitDefEqProofs only [go_sem, f5], by simp -dsimp -implicitDefEqProofs only [go_sem, f6], by simp -dsimp -implicitDefEqProofs only [go_sem, f7], by simp -dsimp -implicitDefEqProofs only [go_sem, f8]⟩, by simp -dsimp -implicitDefEqProofs only [go_sem, f9], j - 1, .slice a9 ((a.members.drop j).reverse.length + 1) c9, by omega, rfl, by omega, ?_⟩, by omega⟩
  unfold rowT
  rw [e1', e2']
  exact h9.sub
end
end Go.Proofs.YtkijkoakloacoaaDoor

namespace Go.Proofs.YtkijkoakloacoaaDoor
open Go
set_option linter.unusedVariables false
set_option linter.unusedSimpArgs false
set_option maxRecDepth 100000

section
variable {w0 w : World} {R : HP} {T m T2 m2 : Nat} {x y : UT}
theorem swapT (h : St w0 (TabW T m x * (TabW T2 m2 y * R)) w) : St w0 (TabW T2 m2 y * (TabW T m x * R)) w := h.ac (by ac_rfl)
theorem member2 (ok : y.Ok) (h : St w0 (TabW T m x * (TabW T2 m2 y * R)) w) (u g : List UInt8) : Calls Tryd.prog 26 #[.pointer (some ⟨T2, 0, none⟩), .string (strOf u), .string (strOf g)] w fun e w' => St w0 (TabW T m x * (TabW T2 m2 y * R)) w' ∧ e = .returned (.bool (memberF (accs y.L) u g)) :=
  (member_any ok (swapT h) u g).mono fun e w' k => ⟨swapT k.1, k.2⟩
theorem leads2 (ok : y.Ok) (h : St w0 (TabW T m x * (TabW T2 m2 y * R)) w) (u g : List UInt8) : Calls Tryd.prog 27 #[.pointer (some ⟨T2, 0, none⟩), .string (strOf u), .string (strOf g)] w fun e w' => St w0 (TabW T m x * (TabW T2 m2 y * R)) w' ∧ e = .returned (.bool (leadsF (accs y.L) u g)) :=
  (leads_any ok (swapT h) u g).mono fun e w' k => ⟨swapT k.1, k.2⟩
theorem key2 (h : St w0 (TabW T m x * (TabW T2 m2 y * R)) w) (u : List UInt8) : Calls Tryd.prog 28 #[.pointer (some ⟨T2, 0, none⟩), .string (strOf u)] w fun e w' => St w0 (TabW T m x * (TabW T2 m2 y * R)) w' ∧ e = .returned (.string (strOf (keyOf (accs y.L) u))) :=
  (keyT_any (swapT h) u).mono fun e w' k => ⟨swapT k.1, k.2⟩
end

structure OrT (e : FA) (vo : Value) (T T2 i : Nat) : Prop where
  ds : e.ds = []
  l : e.ρ 6 = vo
  t : e.ρ 12 = .pointer (some ⟨T, 0, none⟩)
  u : e.ρ 13 = .pointer (some ⟨T2, 0, none⟩)
  i : e.ρ 14 = .int .i64 i
abbrev OrF (T m : Nat) (x : UT) (T2 m2 : Nat) (y : UT) (vo : Value) (L : List AV) (B A : HP) : HP := TabW T m x * (TabW T2 m2 y * (rowA vo L * (B * A)))

section
attribute [local go_sem] F7.t11_eq F7.t12_eq F7.t13_eq F7.t6_eq F7.t7_eq F7.t29_eq F7.t30_eq F7.t27_eq F7.t21_eq F7.t22_eq F7.t32_eq F7.t19_eq F7.t15_eq
set_option maxHeartbeats 4000000 in
theorem order_30 {w0 w : World} {A B : HP} {T m T2 m2 i k : Nat} {x y : UT} {vo : Value} {L : List AV} {e : FA} {Q : Post} (ok : x.Ok) (ok2 : y.Ok) (he : OrT e vo T T2 i) (e18 : e.ρ 18 = .int .i64 k) (hi : i < L.length) (hk : k < L.length) (hn : L.length ≤ 30)
    (hmem : memberF (accs y.L) L[i].1.name L[k].1.name = memberF (accs x.L) L[i].1.name L[k].1.name) (hled : leadsF (accs y.L) L[i].1.name L[k].1.name = leadsF (accs x.L) L[i].1.name L[k].1.name)
    (h : St w0 (OrF T m x T2 m2 y vo L B A) w)
    (hQ : ∀ (e' : FA) (w' : World), OrT e' vo T T2 i → e'.ρ 18 = .int .i64 (k + 1 : Nat) → St w0 (OrF T m x T2 m2 y vo L B A) w' → Q .normal e' w') : cwE Tryd.prog F7.t30 Q e w := by
  obtain ⟨hd, e6, e12, e13, e14⟩ := he
  obtain ⟨ao, co, rfl, hao⟩ := row_form (vo := vo) (L := L) h
  obtain ⟨b, o, rfl⟩ := hao i hi
  have hil : (i : Int) < L.length := by omega
  have hkl : (k : Int) < L.length := by omega
  have cells : ∀ {w' : World}, St w0 (OrF T m x T2 m2 y (.slice (some ⟨b, o, none⟩) L.length co) L B A) w' → w'.cell? ⟨b, o + i * 4, none⟩ = some (sv L[i].1.name) ∧ w'.cell? ⟨b, o + k * 4, none⟩ = some (sv L[k].1.name) := fun {w'} hs =>
    ⟨(row_cells (b := b) (o := o) (cv := co) hs hi).1, (row_cells (b := b) (o := o) (cv := co) hs hk).1⟩
  obtain ⟨p, hp⟩ : ∃ p, p = L[i].1.name := ⟨_, rfl⟩
  obtain ⟨q, hq⟩ : ∃ q, q = L[k].1.name := ⟨_, rfl⟩
  rw [← hp, ← hq] at hmem hled
  simp only [← hp, ← hq] at cells
  rw [F7.t30_eq]
  obtain ⟨c1, c2⟩ := cells h
  obtain ⟨d1, d2⟩ := cells h.drew
  simp -dsimp -implicitDefEqProofs (disch := omega) only [go_sem, reqD_of, dec_t, dec_f, wrap_i64, wrap_u32, wrap_u64, wrap_u8, hd, e6, e12, e13, e14, e18, hil, hkl, c1, c2, d1, d2]
  obtain ⟨bm, hbm⟩ : ∃ bm, bm = memberF (accs x.L) p q := ⟨_, rfl⟩
  obtain ⟨bl, hbl⟩ : ∃ bl, bl = leadsF (accs x.L) p q := ⟨_, rfl⟩
  rw [← hbm] at hmem
  rw [← hbl] at hled
  have z1 : (bm == bm) = true := by simp
  have z2 : (bl == bl) = true := by simp
  refine (member_any ok h.drew p q).mono ?_
  rintro e' w1 ⟨h1, rfl⟩
  rw [← hbm]
  obtain ⟨c1, c2⟩ := cells h1
  simp -dsimp -implicitDefEqProofs (disch := omega) only [go_sem, reqD_of, dec_t, dec_f, wrap_i64, wrap_u32, wrap_u64, wrap_u8, hd, e6, e12, e13, e14, e18, hil, hkl, c1, c2]
  refine (member2 ok2 h1 p q).mono ?_
  rintro e' w2 ⟨h2, rfl⟩
  rw [hmem]
  obtain ⟨c1, c2⟩ := cells h2
  obtain ⟨d1, d2⟩ := cells h2.drew
  simp -dsimp -implicitDefEqProofs (disch := omega) only [go_sem, reqD_of, dec_t, dec_f, wrap_i64, wrap_u32, wrap_u64, wrap_u8, hd, e6, e12, e13, e14, e18, hil, hkl, c1, c2, d1, d2, z1]
  refine (leads_any ok h2 p q).mono ?_
  rintro e' w3 ⟨h3, rfl⟩
  rw [← hbl]
  obtain ⟨c1, c2⟩ := cells h3
  simp -dsimp -implicitDefEqProofs (disch := omega) only [go_sem, reqD_of, dec_t, dec_f, wrap_i64, wrap_u32, wrap_u64, wrap_u8, hd, e6, e12, e13, e14, e18, hil, hkl, c1, c2, z1]
  refine (leads2 ok2 h3 p q).mono ?_
  rintro e' w4 ⟨h4, rfl⟩
  rw [hled]
  obtain ⟨c1, c2⟩ := cells h4
  simp -dsimp -implicitDefEqProofs (disch := omega) only [go_sem, reqD_of, dec_t, dec_f, wrap_i64, wrap_u32, wrap_u64, wrap_u8, hd, e6, e12, e13, e14, e18, hil, hkl, c1, c2, z1, z2]
  exact hQ _ _ ⟨by simp -dsimp -implicitDefEqProofs only [go_sem, hd], by simp -dsimp -implicitDefEqProofs only [go_sem, e6], by simp -dsimp -implicitDefEqProofs only [go_sem, e12], by simp -dsimp -implicitDefEqProofs only [go_sem, e13], by simp -dsimp -implicitDefEqProofs only [go_sem, e14]⟩ (by simp -dsimp -implicitDefEqProofs only [go_sem]; omega) h4

end
section
attribute [local go_sem] F7.t11_eq F7.t12_eq F7.t13_eq F7.t6_eq F7.t7_eq F7.t29_eq F7.t30_eq F7.t21_eq F7.t22_eq F7.t32_eq F7.t19_eq F7.t15_eq
set_option maxHeartbeats 1000000 in
theorem order_22 {w0 w : World} {A B : HP} {T m T2 m2 i : Nat} {x y : UT} {vo : Value} {L : List AV} {e : FA} {Q : Post} (ok : x.Ok) (ok2 : y.Ok) (hxn : x.L.length ≤ 30) (hyn : y.L.length ≤ 30) (he : OrT e vo T T2 i) (hi : i < L.length) (hn : L.length ≤ 30)
    (hg : groupsF (accs y.L) L[i].1.name = groupsF (accs x.L) L[i].1.name) (hkey : keyOf (accs y.L) L[i].1.name = keyOf (accs x.L) L[i].1.name)
    (h : St w0 (OrF T m x T2 m2 y vo L B A) w)
    (hQ : ∀ (e' : FA) (w' : World), OrT e' vo T T2 i → St w0 (OrF T m x T2 m2 y vo L B A) w' → cwE Tryd.prog F7.t27 (blockP 5 (thenP (cwD Tryd.prog none F7.t21 Q) Q)) e' w') : cwE Tryd.prog F7.t22 Q e w := by
  obtain ⟨hd, e6, e12, e13, e14⟩ := he
  obtain ⟨ao, co, rfl, hao⟩ := row_form (vo := vo) (L := L) h
  obtain ⟨b, o, rfl⟩ := hao i hi
  have hil : (i : Int) < L.length := by omega
  have cells : ∀ {C : HP} {w' : World}, St w0 C w' → Gives C (rowA (.slice (some ⟨b, o, none⟩) L.length co) L) → w'.cell? ⟨b, o + i * 4, none⟩ = some (sv L[i].1.name) := fun {C w'} hs g => (row_cells (b := b) (o := o) (cv := co) (g := g) hs hi).1
  obtain ⟨p, hp⟩ : ∃ p, p = L[i].1.name := ⟨_, rfl⟩
  rw [← hp] at hg hkey
  simp only [← hp] at cells
  have hgl : (groupsF (accs x.L) p).length ≤ 30 := by
    have h1 := cntF_all (L := accs x.L) (u := p) (k := 30) (by simpa using hxn)
    have h2 := cntF_le (accs x.L) p 30
    omega
  rw [F7.t22_eq]
  simp -dsimp -implicitDefEqProofs (disch := omega) only [go_sem, reqD_of, dec_t, dec_f, wrap_i64, wrap_u32, wrap_u64, wrap_u8, hd, e6, e12, e13, e14, hil, cells h inferInstance]
  refine (groups_any ok (by omega) h p).mono ?_
  rintro e' w1 ⟨vg, h1, rfl⟩
  simp -dsimp -implicitDefEqProofs (disch := omega) only [go_sem, reqD_of, dec_t, dec_f, wrap_i64, wrap_u32, wrap_u64, wrap_u8, hd, e6, e12, e13, e14, hil, cells h1 inferInstance]
  have h2 : St w0 (TabW T2 m2 y * (TabW T m x * (rowT vg (groupsF (accs x.L) p) * (rowA (.slice (some ⟨b, o, none⟩) L.length co) L * (B * A))))) w1 := h1.ac (by ac_rfl)
  refine (groups_any ok2 (by omega) h2 p).mono ?_
  rintro e' w2 ⟨vh, h3, rfl⟩
  rw [hg] at h3
  simp -dsimp -implicitDefEqProofs (disch := omega) only [go_sem, reqD_of, dec_t, dec_f, wrap_i64, wrap_u32, wrap_u64, wrap_u8, hd, e6, e12, e13, e14]
  refine (sameTexts_any (xs := groupsF (accs x.L) p) (ys := groupsF (accs x.L) p) h3 ((Gives.ent (B := rowT vg (groupsF (accs x.L) p))).trans (RowO.reads _ _ _ _ _)) ((Ent.left _ _).trans (RowO.reads _ _ _ _ _)) (by omega) (by omega)).mono ?_
  rintro e' w3 ⟨h4, rfl⟩
  rw [decide_eq_true rfl]
  have h5 : St w0 (OrF T m x T2 m2 y (.slice (some ⟨b, o, none⟩) L.length co) L B A) w3 := (h4.ent (Ent.sep (Ent.rfl' _) (Ent.rfl' _))).sub (B := TabW T m x * (TabW T2 m2 y * (rowA (.slice (some ⟨b, o, none⟩) L.length co) L * (B * A))))
  simp -dsimp -implicitDefEqProofs (disch := omega) only [go_sem, reqD_of, dec_t, dec_f, wrap_i64, wrap_u32, wrap_u64, wrap_u8, hd, e6, e12, e13, e14, hil, cells h5 inferInstance, cells h5.drew inferInstance]
  obtain ⟨key, hke⟩ : ∃ key, key = keyOf (accs x.L) p := ⟨_, rfl⟩
  rw [← hke] at hkey
  have z1 : decide (key = key) = true := decide_eq_true rfl
  refine (keyT_any h5.drew p).mono ?_
  rintro e' w6 ⟨h6, rfl⟩
  rw [← hke]
  simp -dsimp -implicitDefEqProofs (disch := omega) only [go_sem, reqD_of, dec_t, dec_f, wrap_i64, wrap_u32, wrap_u64, wrap_u8, hd, e6, e12, e13, e14, hil, cells h6 inferInstance]
  refine (key2 h6 p).mono ?_
  rintro e' w7 ⟨h7, rfl⟩
  rw [hkey]
  simp -dsimp -implicitDefEqProofs (disch := omega) only [go_sem, reqD_of, dec_t, dec_f, wrap_i64, wrap_u32, wrap_u64, wrap_u8, hd, e6, e12, e13, e14, hil, cells h7 inferInstance, z1]
  exact hQ _ _ ⟨by simp -dsimp -implicitDefEqProofs only [go_sem, hd], by simp -dsimp -implicitDefEqProofs only [go_sem, e6], by simp -dsimp -implicitDefEqProofs only [go_sem, e12], by simp -dsimp -implicitDefEqProofs only [go_sem, e13], by simp -dsimp -implicitDefEqProofs only [go_sem, e14]⟩ h7

end
section
attribute [local go_sem] F7.t11_eq F7.t12_eq F7.t13_eq F7.t6_eq F7.t29_eq F7.t27_eq F7.t21_eq F7.t32_eq F7.t19_eq F7.t15_eq
theorem usersOrder_law {w0 w : World} {A : HP} (h : St w0 A w) [Gives A Tabs] {ar : Option Addr} {cr : Nat} {ws : List WhoD} (hw : WhosP A (.slice ar ws.length cr) ws) {turn : Int} (hturn : InI turn) :
    Calls Tryd.prog 7 #[.slice ar ws.length cr, .int .i64 turn] w fun e w' => St w0 A w' ∧ e = .returned (.bool true) := by
  refine F7.calls (by simp) ?_
  unfold F7.code
  simp -dsimp -implicitDefEqProofs (disch := omega) only [go_sem, reqD_of, dec_t, dec_f, wrap_i64, wrap_u32, wrap_u64, wrap_u8]
  refine (example_any h).mono ?_
  rintro e w1 ⟨h1, rfl⟩
  simp -dsimp -implicitDefEqProofs (disch := omega) only [go_sem, reqD_of, dec_t, dec_f, wrap_i64, wrap_u32, wrap_u64, wrap_u8]
  refine (made_any h1 hw).mono ?_
  rintro e w2 ⟨L, vo, B, M, hm, hlen, h2, rfl⟩
  have hfew := M.few
  simp only [List.length_map] at hfew
  obtain ⟨ao, co, rfl, hao⟩ := row_form (vo := vo) (L := L) h2
  simp -dsimp -implicitDefEqProofs (disch := omega) only [go_sem, reqD_of, dec_t, dec_f, wrap_i64, wrap_u32, wrap_u64, wrap_u8]
  have h3 : St w0 (rowA (.slice none 0 0) [] * (EmpH * (rowA (.slice ao L.length co) L * (B * A)))) w2 := (h2.ent (empL' _)).nilR 46 4
  refine loop_intro (fun e w' => ∃ (i : Nat) (ML : List AV) (vm : Value) (BM : HP), OrdE e turn (.slice ao L.length co) vm i ∧ i ≤ L.length ∧ ML.length = i ∧ MsOk BM ML ∧
      (∀ j (hj : j < ML.length), ∃ hk : (j + (pickI turn L.length).toNat) % L.length < L.length, ML[j].1 = backA L[(j + (pickI turn L.length).toNat) % L.length].1) ∧ St w0 (rowA vm ML * (BM * (rowA (.slice ao L.length co) L * (B * A)))) w')
    (fun e _ => match e.ρ 8 with | .int _ n => (L.length - n).toNat | _ => 0) ?_ ?_
  · exact ⟨0, [], _, EmpH, ⟨by simp -dsimp -implicitDefEqProofs only [go_sem], by simp -dsimp -implicitDefEqProofs only [go_sem], by simp -dsimp -implicitDefEqProofs only [go_sem], by simp -dsimp -implicitDefEqProofs only [go_sem], by simp -dsimp -implicitDefEqProofs only [go_sem], by simp -dsimp -implicitDefEqProofs only [go_sem]⟩, by omega, rfl, fun x hx => (by cases hx), fun j hj => (by simp at hj), h3⟩
  clear h h1 h2 h3
  rintro e w4 ⟨i, ML, vm, BM, he, hi, hMi, hmm, heach, h4⟩
  by_cases hlt : (i : Int) < L.length
  case pos =>
    have hi' : i < L.length := by omega
    obtain ⟨hd, e1, e5, e6, e7, e8⟩ := he
    simp -dsimp -implicitDefEqProofs (disch := omega) only [go_sem, reqD_of, dec_t, dec_f, wrap_i64, wrap_u32, wrap_u64, wrap_u8, hd, e1, e6, e8, hlt]
    refine order_7 (A := BM * A) (B := B) (L := L) (ML := ML) (i := i) (vo := .slice ao L.length co) (vm := vm) (turn := turn) hturn ⟨by simp -dsimp -implicitDefEqProofs only [go_sem, hd], by simp -dsimp -implicitDefEqProofs only [go_sem, e1], by simp -dsimp -implicitDefEqProofs only [go_sem, e5], by simp -dsimp -implicitDefEqProofs only [go_sem, e6], by simp -dsimp -implicitDefEqProofs only [go_sem, e7], by simp -dsimp -implicitDefEqProofs only [go_sem, e8]⟩ M hm hi' (by omega) (h4.ac (by ac_rfl)) ?_
    rintro e' w' vm' v' k hk hke g hc h'
    have g8 := g.i
    simp -dsimp -implicitDefEqProofs (disch := omega) only [go_sem, reqD_of, dec_t, dec_f, wrap_i64, wrap_u32, wrap_u64, wrap_u8, g8, e8]
    refine ⟨⟨i + 1, ML ++ [(backA L[k].1, v')], vm', rowT v' L[k].1.members.reverse * BM, g, by omega, by simp [hMi], hmm.snoc (Ent.right _ _) ((Ent.left _ _).trans (RowO.reads _ _ _ _ _)) ⟨(hm _ (List.getElem_mem hk)).2.1.1, by show (L[k].1.members.reverse).length ≤ _; rw [List.length_reverse]; exact (hm _ (List.getElem_mem hk)).2.1.2⟩ hc, fun j hj => ?_, h'.ac (by ac_rfl)⟩, by omega⟩
    rw [List.getElem_append]
    split
    · rename_i hj'; exact heach j hj'
    · rename_i hj'
      have : j = i := by simp at hj; omega
      subst this
      subst hke
      exact ⟨hk, by simp [hMi]⟩
  have hiL : i = L.length := by omega
  have ht : Turned (pickI turn L.length).toNat (accs L) (accs ML) := by
    refine ⟨by simp; omega, fun j hj => ?_⟩
    obtain ⟨hk, e⟩ := heach j (by simpa using hj)
    refine ⟨by simpa using hk, ?_⟩
    simp only [List.getElem_map, List.length_map]
    exact e
  obtain ⟨hd, e1, e5, e6, e7, e8⟩ := he
  simp -dsimp -implicitDefEqProofs (disch := omega) only [go_sem, reqD_of, dec_t, dec_f, wrap_i64, wrap_u32, wrap_u64, wrap_u8, hd, e6, e8, hlt]
  have h5 : St w0 (rowA vm ML * (BM * (rowA (.slice ao L.length co) L * (B * A)))) w4 := h4
  refine (table_any h5 (v := .slice ao L.length co) (L := L) ((Gives.ent (B := rowA (.slice ao L.length co) L)).trans (RowO.reads _ _ _ _ _)) (hm.weak (Gives.ent (B := B))) (by omega) (by have := M.text; omega) M.print).mono ?_
  rintro e' w5 ⟨T, m, x, hxL, ok, h6, rfl⟩
  simp -dsimp -implicitDefEqProofs (disch := omega) only [go_sem, reqD_of, dec_t, dec_f, wrap_i64, wrap_u32, wrap_u64, wrap_u8, hd, e7]
  refine (table_any h6 (v := vm) (L := ML) ((Gives.ent (B := rowA vm ML)).trans (RowO.reads _ _ _ _ _)) (hmm.weak (Gives.ent (B := BM))) (by omega) (by have := ht.text M; omega) (ht.print M)).mono ?_
  rintro e' w6 ⟨T2, m2, y, hyL, ok2, h7, rfl⟩
  have hxl : x.L.length = L.length := by have := congrArg List.length hxL; simpa using this
  have hyl : y.L.length = ML.length := by have := congrArg List.length hyL; simpa using this
  have h8 : St w0 (OrF T m x T2 m2 y (.slice ao L.length co) L B A) w6 := h7.sub (B := TabW T m x * (TabW T2 m2 y * (rowA (.slice ao L.length co) L * (B * A))))
  simp -dsimp -implicitDefEqProofs (disch := omega) only [go_sem, reqD_of, dec_t, dec_f, wrap_i64, wrap_u32, wrap_u64, wrap_u8, hd, e5]
  refine loop_intro (fun e w' => ∃ i : Nat, OrT e (.slice ao L.length co) T T2 i ∧ i ≤ L.length ∧ St w0 (OrF T m x T2 m2 y (.slice ao L.length co) L B A) w')
    (fun e _ => match e.ρ 14 with | .int _ n => (L.length - n).toNat | _ => 0) ?_ ?_
  · exact ⟨0, ⟨by simp -dsimp -implicitDefEqProofs only [go_sem, hd], by simp -dsimp -implicitDefEqProofs only [go_sem, e6], by simp -dsimp -implicitDefEqProofs only [go_sem], by simp -dsimp -implicitDefEqProofs only [go_sem], by simp -dsimp -implicitDefEqProofs only [go_sem]⟩, by omega, h8⟩
  clear h4 h5 h6 h7 h8 hd e1 e5 e6 e7 e8
  rintro e2 w7 ⟨i2, ⟨fd, f6, f12, f13, f14⟩, hi2, h9⟩
  by_cases hlt2 : (i2 : Int) < L.length
  case neg =>
    simp -dsimp -implicitDefEqProofs (disch := omega) only [go_sem, reqD_of, dec_t, dec_f, wrap_i64, wrap_u32, wrap_u64, wrap_u8, fd, f6, f14, hlt2]
    exact h9.right.right.right.right
  have hi2' : i2 < L.length := by omega
  have hla : i2 < (accs L).length := by simpa using hi2'
  have hge : (accs L)[i2] = L[i2].1 := by simp
  simp -dsimp -implicitDefEqProofs (disch := omega) only [go_sem, reqD_of, dec_t, dec_f, wrap_i64, wrap_u32, wrap_u64, wrap_u8, fd, f6, f14, hlt2]
  refine order_22 (L := L) (i := i2) ok ok2 (by omega) (by omega) ⟨by simp -dsimp -implicitDefEqProofs only [go_sem, fd], by simp -dsimp -implicitDefEqProofs only [go_sem, f6], by simp -dsimp -implicitDefEqProofs only [go_sem, f12], by simp -dsimp -implicitDefEqProofs only [go_sem, f13], by simp -dsimp -implicitDefEqProofs only [go_sem, f14]⟩ hi2' hfew (by rw [hxL, hyL]; exact ht.groups M _) (by rw [hxL, hyL, ← hge]; exact ht.key M hla) h9 ?_
  rintro e3 w8 ⟨gd, g6, g12, g13, g14⟩ h10
  rw [F7.t27_eq]
  simp -dsimp -implicitDefEqProofs (disch := omega) only [go_sem, reqD_of, dec_t, dec_f, wrap_i64, wrap_u32, wrap_u64, wrap_u8, gd]
  refine loop_intro (fun e w' => ∃ k : Nat, OrT e (.slice ao L.length co) T T2 i2 ∧ k ≤ L.length ∧ e.ρ 18 = .int .i64 k ∧ St w0 (OrF T m x T2 m2 y (.slice ao L.length co) L B A) w')
    (fun e _ => match e.ρ 18 with | .int _ n => (L.length - n).toNat | _ => 0) ?_ ?_
  · exact ⟨0, ⟨by simp -dsimp -implicitDefEqProofs only [go_sem, gd], by simp -dsimp -implicitDefEqProofs only [go_sem, g6], by simp -dsimp -implicitDefEqProofs only [go_sem, g12], by simp -dsimp -implicitDefEqProofs only [go_sem, g13], by simp -dsimp -implicitDefEqProofs only [go_sem, g14]⟩, by omega, by simp -dsimp -implicitDefEqProofs only [go_sem], h10⟩
  clear h9 h10 gd g6 g12 g13 g14
  rintro e4 w9 ⟨k, ⟨hd, e6, e12, e13, e14⟩, hk, e18, h11⟩
  by_cases hkl : (k : Int) < L.length
  case neg =>
    simp -dsimp -implicitDefEqProofs (disch := omega) only [go_sem, reqD_of, dec_t, dec_f, wrap_i64, wrap_u32, wrap_u64, wrap_u8, hd, e6, e14, e18, hkl, f14]
    exact ⟨⟨i2 + 1, ⟨by simp -dsimp -implicitDefEqProofs only [go_sem, hd], by simp -dsimp -implicitDefEqProofs only [go_sem, e6], by simp -dsimp -implicitDefEqProofs only [go_sem, e12], by simp -dsimp -implicitDefEqProofs only [go_sem, e13], by simp -dsimp -implicitDefEqProofs only [go_sem]; omega⟩, by omega, h11⟩, by omega⟩
  have hk' : k < L.length := by omega
  have hka : k < (accs L).length := by simpa using hk'
  have hgk : (accs L)[k] = L[k].1 := by simp
  simp -dsimp -implicitDefEqProofs (disch := omega) only [go_sem, reqD_of, dec_t, dec_f, wrap_i64, wrap_u32, wrap_u64, wrap_u8, hd, e6, e18, hkl]
  refine order_30 (L := L) (i := i2) (k := k) ok ok2 ⟨by simp -dsimp -implicitDefEqProofs only [go_sem, hd], by simp -dsimp -implicitDefEqProofs only [go_sem, e6], by simp -dsimp -implicitDefEqProofs only [go_sem, e12], by simp -dsimp -implicitDefEqProofs only [go_sem, e13], by simp -dsimp -implicitDefEqProofs only [go_sem, e14]⟩ (by simp -dsimp -implicitDefEqProofs only [go_sem, e18]) hi2' hk' hfew (by rw [hxL, hyL, ← hgk]; exact ht.member M _ hka) (by rw [hxL, hyL, ← hge, ← hgk]; exact ht.leads M hla hka) h11 ?_
  rintro e5 w10 g g18 h12
  simp -dsimp -implicitDefEqProofs (disch := omega) only [go_sem, reqD_of, dec_t, dec_f, wrap_i64, wrap_u32, wrap_u64, wrap_u8, g18, e18]
  exact ⟨⟨k + 1, g, by omega, by first | rfl | exact g18, h12⟩, by omega⟩
end
end Go.Proofs.YtkijkoakloacoaaDoor
