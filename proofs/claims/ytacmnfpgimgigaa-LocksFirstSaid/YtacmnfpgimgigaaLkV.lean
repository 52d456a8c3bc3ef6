/- The law LocksSound: a lock's holders, counted. -/
import Derived.Test.YtacmnfpgimgigaaLkU
namespace Go.Proofs.Ytacmnfpgimgigaa
open Go
set_option linter.unusedSimpArgs false
set_option linter.unusedVariables false
set_option maxRecDepth 100000

theorem heldOf_iff {who : Int} {p : Nam × LkS} {n : Nee} (hn : (p.2.1.map (·.1)).Nodup) : heldOf who p = some n ↔ n.1 = p.1 ∧ (who, n.2) ∈ p.2.1 := by
  unfold heldOf
  by_cases h : 0 ≤ posC who p.2.1 0
  · rw [if_pos h]
    rcases posC_spec who p.2.1 0 with hp | ⟨i, hi, hp⟩
    · omega
    · rw [Nat.zero_add] at hp
      obtain ⟨a, ha⟩ := posC_at (k := 0) (i := i) (by simpa using hp)
      rw [hp, Int.toNat_natCast, ha, Option.getD_some]
      have hm : (who, a) ∈ p.2.1 := List.mem_of_getElem? ha
      simp only [Option.some.injEq]
      constructor
      · rintro rfl; exact ⟨rfl, hm⟩
      · rintro ⟨h1, h2⟩
        obtain ⟨n1, n2⟩ := n
        simp only at h1 h2
        subst h1
        obtain ⟨j, hj, hje⟩ := List.getElem_of_mem h2
        obtain ⟨j', hj', hje'⟩ := List.getElem_of_mem hm
        have : j = j' := (List.getElem_inj (h₀ := by simpa using hj) (h₁ := by simpa using hj') hn).1 (by simp [hje, hje'])
        subst this
        rw [hje] at hje'
        simp only [Prod.mk.injEq, true_and] at hje'
        rw [hje']
  · rw [if_neg h]
    simp only [reduceCtorEq, false_iff, not_and]
    rintro - hm
    exact h (posC_mem.2 (List.mem_map.2 ⟨_, hm, rfl⟩))
theorem mem_heldS {ls : List (Nam × LkS)} {ws : List (Int × Nee)} (v : Inv ls ws) {who : Int} {n : Nee} : n ∈ heldS who ls ↔ ∃ s, agt n.1 ls = some s ∧ (who, n.2) ∈ s.1 := by
  unfold heldS heldL
  rw [List.mem_mergeSort, List.mem_filterMap]
  constructor
  · rintro ⟨p, hp, h⟩
    have hk := agt_of_mem v.kn (show (p.1, p.2) ∈ ls from hp)
    have := (heldOf_iff (v.ok _ _ hk).hn).1 h
    exact ⟨p.2, by rw [this.1]; exact hk, this.2⟩
  · rintro ⟨s, hs, hm⟩
    exact ⟨(n.1, s), mem_of_agt hs, (heldOf_iff (p := (n.1, s)) (v.ok _ _ hs).hn).2 ⟨rfl, hm⟩⟩

def hsK (ls : List (Nam × LkS)) (x : Nam) : List Claim := ((agt x ls).getD ([], [])).1
theorem hsK_ok {ls : List (Nam × LkS)} {ws : List (Int × Nee)} (v : Inv ls ws) (x : Nam) : Alone1 (hsK ls x) ∧ ((hsK ls x).map (·.1)).Nodup := by
  unfold hsK
  cases h : agt x ls with
  | none => exact ⟨fun c hc => (by cases hc), .nil⟩
  | some s => exact ⟨(v.ok _ _ h).al, (v.ok _ _ h).hn⟩
theorem mem_held {ls : List (Nam × LkS)} {ws : List (Int × Nee)} (v : Inv ls ws) {who : Int} {x : Nam} {a : Bool} : (x, a) ∈ heldS who ls ↔ (who, a) ∈ hsK ls x := by
  rw [mem_heldS v]
  unfold hsK
  cases h : agt x ls with
  | none => simp
  | some s => simp

theorem holdersS_mem (ls : List (Nam × LkS)) (x : Nam) (a : Int) : a ∈ holdersS x ls ↔ a ∈ (hsK ls x).map (·.1) := by unfold holdersS hsK; rw [List.mem_mergeSort]
theorem holdersS_sorted {ls : List (Nam × LkS)} {ws : List (Int × Nee)} (v : Inv ls ws) (x : Nam) : (holdersS x ls).Pairwise (· < ·) := by
  have h1 : (holdersS x ls).Pairwise fun a b => decide (a ≤ b) = true := List.pairwise_mergeSort (fun a b c => by simp; omega) (fun a b => by simp; omega) _
  have h2 : (holdersS x ls).Nodup := by unfold holdersS; exact (List.mergeSort_perm _ _).nodup_iff.2 (hsK_ok v x).2
  have h3 := h1.and h2
  exact h3.imp fun {a b} h => by have := h.1; simp at this; have := h.2; omega

theorem below_none {l : List Int} {x : Int} (h : ∀ a ∈ l, x ≤ a) : l.filter (fun a => decide (a < x)) = [] := by
  rw [List.filter_eq_nil_iff]
  intro a ha
  have := h a ha
  simp; omega
/-- Of a row that rises: where a number is. -/
theorem rise_at : ∀ {l : List Int} {x : Int}, l.Pairwise (· < ·) → x ∈ l → l[(l.filter (fun a => decide (a < x))).length]? = some x ∧ (l.filter (fun a => decide (a < x + 1))).length = (l.filter (fun a => decide (a < x))).length + 1
  | a :: l, x, hp, hx => by
    have hp' := List.pairwise_cons.1 hp
    by_cases hax : a = x
    · subst hax
      have e1 : l.filter (fun b => decide (b < a)) = [] := below_none fun b hb => by have := hp'.1 b hb; omega
      have e2 : l.filter (fun b => decide (b < a + 1)) = [] := below_none fun b hb => by have := hp'.1 b hb; omega
      rw [List.filter_cons, List.filter_cons, e1, e2]
      simp [show a < a + 1 by omega]
    · have hxl : x ∈ l := by
        rcases List.mem_cons.1 hx with h | h
        · exact absurd h.symm hax
        · exact h
      have hlt := hp'.1 x hxl
      obtain ⟨i1, i2⟩ := rise_at hp'.2 hxl
      have d1 : decide (a < x) = true := by simpa using hlt
      have d2 : decide (a < x + 1) = true := by simp; omega
      rw [List.filter_cons, List.filter_cons, if_pos d1, if_pos d2]
      simp only [List.length_cons, List.getElem?_cons_succ]
      exact ⟨i1, by omega⟩
theorem rise_not {l : List Int} {x : Int} (h : x ∉ l) : l.filter (fun a => decide (a < x + 1)) = l.filter (fun a => decide (a < x)) := by
  apply List.filter_congr
  intro a ha
  have : a ≠ x := fun e => h (e ▸ ha)
  rw [decide_eq_decide]
  omega
theorem rise_all {l : List Int} {x : Int} (h : ∀ a ∈ l, a < x) : l.filter (fun a => decide (a < x)) = l := by
  rw [List.filter_eq_self]
  intro a ha
  simpa using h a ha

structure C21 (ls : List (Nam × LkS)) (k : Nat) (w : Int) (any : Bool) (al n : Nat) : Prop where
  n_eq : n = ((holdersS (kN k) ls).filter (fun a => decide (a < w))).length
  al_iff : al = 0 ↔ ∀ c ∈ hsK ls (kN k), c.1 < w → c.2 = false
  al_le : (al : Int) ≤ w
  any_iff : any = true ↔ (∃ j, j < k ∧ hsK ls (kN j) ≠ []) ∨ ∃ c ∈ hsK ls (kN k), c.1 < w

section step
variable {ls : List (Nam × LkS)} {ws : List (Int × Nee)} {k : Nat} {w : Int} {any : Bool} {al n : Nat}
theorem C21.at (v : Inv ls ws) (c : C21 ls k w any al n) {a : Bool} (h : (w, a) ∈ hsK ls (kN k)) : (holdersS (kN k) ls)[n]? = some w := by
  have hm : w ∈ holdersS (kN k) ls := (holdersS_mem _ _ _).2 (List.mem_map.2 ⟨_, h, rfl⟩)
  rw [c.n_eq]
  exact (rise_at (holdersS_sorted v _) hm).1
theorem C21.held (v : Inv ls ws) (c : C21 ls k w any al n) {a : Bool} (h : (w, a) ∈ hsK ls (kN k)) : C21 ls k (w + 1) true (if a = true then al + 1 else al) (n + 1) := by
  have hm : w ∈ holdersS (kN k) ls := (holdersS_mem _ _ _).2 (List.mem_map.2 ⟨_, h, rfl⟩)
  refine ⟨?_, ?_, ?_, ?_⟩
  · rw [c.n_eq]
    exact (rise_at (holdersS_sorted v _) hm).2.symm
  · cases a with
    | true =>
      simp only [if_true, Nat.add_eq_zero_iff, Nat.one_ne_zero, and_false, false_iff]
      intro h2
      have := h2 _ h (by simp only; omega)
      cases this
    | false =>
      simp only [Bool.false_eq_true, if_false]
      rw [c.al_iff]
      constructor
      · intro h2 d hd hlt
        by_cases hdw : d.1 = w
        · have hn := (hsK_ok v (kN k)).2
          obtain ⟨i, hi, hie⟩ := List.getElem_of_mem hd
          obtain ⟨j, hj, hje⟩ := List.getElem_of_mem h
          have : i = j := (List.getElem_inj (h₀ := by simpa using hi) (h₁ := by simpa using hj) hn).1 (by simp [hie, hje, hdw])
          subst this
          rw [hie] at hje
          rw [hje]
        · exact h2 d hd (by omega)
      · intro h2 d hd hlt
        exact h2 d hd (by omega)
  · have := c.al_le
    split <;> omega
  · simp only [true_iff]
    exact .inr ⟨_, h, by simp only; omega⟩
theorem C21.not (c : C21 ls k w any al n) (h : ∀ a, (w, a) ∉ hsK ls (kN k)) : C21 ls k (w + 1) any al n := by
  have hm : w ∉ holdersS (kN k) ls := fun hm => by
    obtain ⟨d, hd, rfl⟩ := List.mem_map.1 ((holdersS_mem _ _ _).1 hm)
    exact h d.2 hd
  have hne : ∀ d ∈ hsK ls (kN k), d.1 < w + 1 ↔ d.1 < w := fun d hd => by
    have : d.1 ≠ w := fun e => h d.2 (by rw [← e]; exact hd)
    omega
  refine ⟨?_, ?_, ?_, ?_⟩
  · rw [rise_not hm]; exact c.n_eq
  · rw [c.al_iff]
    exact ⟨fun h2 d hd hlt => h2 d hd ((hne d hd).1 hlt), fun h2 d hd hlt => h2 d hd ((hne d hd).2 hlt)⟩
  · have := c.al_le; omega
  · rw [c.any_iff]
    constructor
    · rintro (h1 | ⟨d, hd, hlt⟩)
      · exact .inl h1
      · exact .inr ⟨d, hd, (hne d hd).2 hlt⟩
    · rintro (h1 | ⟨d, hd, hlt⟩)
      · exact .inl h1
      · exact .inr ⟨d, hd, (hne d hd).1 hlt⟩
end step

/-- The slots that count. -/
def S21 (e : FA) (B : Nat) (any : Bool) (k : Nat) (vl : Value) (al n : Nat) : Prop :=
  e.ds = [] ∧ e.ρ 0 = .pointer (some ⟨B, 0, none⟩) ∧ e.ρ 3 = .bool any ∧ e.ρ 4 = .int .i64 k ∧ e.ρ 5 = vl ∧ e.ρ 6 = .int .i64 al ∧ e.ρ 7 = .int .i64 n

section
attribute [local go_sem] F21.t21_eq F21.t17_eq F21.t15_eq F21.t10_eq F21.t11_eq F21.t31_eq F21.t27_eq F21.t28_eq F21.t24_eq F21.t22_eq F21.t4_eq F21.t5_eq F21.t33_eq
theorem sound_11 {w0 w : World} {F : HP} {B : Nat} {ls : List (Nam × LkS)} {ws : List (Int × Nee)} {k : Nat} {vl : Value} {any : Bool} {al n : Nat} {who : Int} {Q : Post} {e : FA} {θ : Tag (F21.t11, Q, e, w)} (v : Inv ls ws) (hT : tot ls < 1073741824) (hL : ls.length < 1073741824) (hk : k < 6) (h1w : 1 ≤ who) (hw8 : who ≤ 8)
    (hs : S21 e B any k vl al n) (e8 : e.ρ 8 = .int .i64 who) (c : C21 ls k who any al n) (h : St w0 (RowO 3 1 vl (holdersS (kN k) ls).length (intR (holdersS (kN k) ls)) * (TabP B ls ws * F)) w)
    (hQ : ∀ (any' : Bool) (al' n' : Nat) (e' : FA) (w' : World), S21 e' B any' k vl al' n' → e'.ρ 8 = .int .i64 (who + 1) → C21 ls k (who + 1) any' al' n' → St w0 (RowO 3 1 vl (holdersS (kN k) ls).length (intR (holdersS (kN k) ls)) * (TabP B ls ws * F)) w' → Q .normal e' w') :
    cwE Try.prog F21.t11 Q e w θ := by
  obtain ⟨hd, e0, e3, e4, e5, e6, e7⟩ := hs
  have hle := c.al_le
  have hnl : n ≤ (holdersS (kN k) ls).length := by rw [c.n_eq]; exact List.length_filter_le _ _
  have hll := holdersS_length (kN k) ls
  have hta := tot_agt (x := kN k) (ls := ls)
  rw [F21.t11_eq]
  simp -dsimp -implicitDefEqProofs (disch := omega) only [go_sem, reqD_of, dec_t, dec_f, wrap_i64, wrap_u32, wrap_u64, wrap_u8, hd, e0, e3, e4, e5, e6, e7, e8]
  refine (oneN_any h (by omega) (by omega)).mono ?_
  rintro e' w1 ⟨h1, rfl⟩
  simp -dsimp -implicitDefEqProofs (disch := omega) only [go_sem, reqD_of, dec_t, dec_f, wrap_i64, wrap_u32, wrap_u64, wrap_u8, hd, e0, e3, e4, e5, e6, e7, e8]
  refine onV_of (v := needV (kN k, true)) rfl ?_
  simp -dsimp -implicitDefEqProofs (disch := omega) only [go_sem, reqD_of, dec_t, dec_f, wrap_i64, wrap_u32, wrap_u64, wrap_u8, hd, e0, e3, e4, e5, e6, e7, e8]
  refine (holdsLaw_any (n := (kN k, true)) (h1.take (.obj B)) (by omega) (by omega)).mono ?_
  rintro e' w2 ⟨h2, rfl⟩
  simp -dsimp -implicitDefEqProofs (disch := omega) only [go_sem, reqD_of, dec_t, dec_f, wrap_i64, wrap_u32, wrap_u64, wrap_u8, hd, e0, e3, e4, e5, e6, e7, e8]
  refine (oneN_any h2 (by omega) (by omega)).mono ?_
  rintro e' w3 ⟨h3, rfl⟩
  simp -dsimp -implicitDefEqProofs (disch := omega) only [go_sem, reqD_of, dec_t, dec_f, wrap_i64, wrap_u32, wrap_u64, wrap_u8, hd, e0, e3, e4, e5, e6, e7, e8]
  refine onV_of (v := needV (kN k, false)) rfl ?_
  simp -dsimp -implicitDefEqProofs (disch := omega) only [go_sem, reqD_of, dec_t, dec_f, wrap_i64, wrap_u32, wrap_u64, wrap_u8, hd, e0, e3, e4, e5, e6, e7, e8]
  refine (holdsLaw_any (n := (kN k, false)) h3 (by omega) (by omega)).mono ?_
  rintro e' w4 ⟨h4, rfl⟩
  have h5 : St w0 (RowO 3 1 vl (holdersS (kN k) ls).length (intR (holdersS (kN k) ls)) * (TabP B ls ws * F)) w4 := h4.sub
  obtain ⟨_, a, cc, rfl, hnc, hcl⟩ := intAt (h5.gives (B := Reads 1 vl (holdersS (kN k) ls).length (intR (holdersS (kN k) ls))))
  have hnd := (hsK_ok v (kN k)).2
  by_cases ha : (who, true) ∈ hsK ls (kN k)
  · have hb : (who, false) ∉ hsK ls (kN k) := fun hb => by
      obtain ⟨i, hi, hie⟩ := List.getElem_of_mem ha
      obtain ⟨j, hj, hje⟩ := List.getElem_of_mem hb
      have : i = j := (List.getElem_inj (h₀ := by simpa using hi) (h₁ := by simpa using hj) hnd).1 (by simp [hie, hje])
      subst this
      rw [hie] at hje
      cases hje
    have hat := c.at v ha
    obtain ⟨hn, hat⟩ := List.getElem?_eq_some_iff.1 hat
    obtain ⟨b, o, rfl, hx⟩ := hcl n hn
    rw [hat] at hx
    rw [dec_t ((mem_held v).2 ha), dec_f fun h => hb ((mem_held v).1 h)]
    have hn1 : ¬ ((holdersS (kN k) ls).length : Int) ≤ n := by omega
    simp -dsimp -implicitDefEqProofs (disch := omega) only [go_sem, reqD_of, dec_t, dec_f, wrap_i64, wrap_u32, wrap_u64, wrap_u8, hd, e0, e3, e4, e5, e6, e7, e8, hn1, hx]
    refine hQ true (al + 1) (n + 1) _ _ ⟨by simp -dsimp -implicitDefEqProofs only [go_sem, hd], by simp -dsimp -implicitDefEqProofs only [go_sem, e0], by simp -dsimp -implicitDefEqProofs only [go_sem], by simp -dsimp -implicitDefEqProofs only [go_sem, e4], by simp -dsimp -implicitDefEqProofs only [go_sem, e5], by simp -dsimp -implicitDefEqProofs only [go_sem]; simp, by simp -dsimp -implicitDefEqProofs only [go_sem]; simp⟩ (by simp -dsimp -implicitDefEqProofs only [go_sem]) (by simpa using c.held v ha) h5
  · by_cases hb : (who, false) ∈ hsK ls (kN k)
    · have hat := c.at v hb
      obtain ⟨hn, hat⟩ := List.getElem?_eq_some_iff.1 hat
      obtain ⟨b, o, rfl, hx⟩ := hcl n hn
      rw [hat] at hx
      rw [dec_f fun h => ha ((mem_held v).1 h), dec_t ((mem_held v).2 hb)]
      have hn1 : ¬ ((holdersS (kN k) ls).length : Int) ≤ n := by omega
      simp -dsimp -implicitDefEqProofs (disch := omega) only [go_sem, reqD_of, dec_t, dec_f, wrap_i64, wrap_u32, wrap_u64, wrap_u8, hd, e0, e3, e4, e5, e6, e7, e8, hn1, hx]
      refine hQ true al (n + 1) _ _ ⟨by simp -dsimp -implicitDefEqProofs only [go_sem, hd], by simp -dsimp -implicitDefEqProofs only [go_sem, e0], by simp -dsimp -implicitDefEqProofs only [go_sem], by simp -dsimp -implicitDefEqProofs only [go_sem, e4], by simp -dsimp -implicitDefEqProofs only [go_sem, e5], by simp -dsimp -implicitDefEqProofs only [go_sem, e6], by simp -dsimp -implicitDefEqProofs only [go_sem]; simp⟩ (by simp -dsimp -implicitDefEqProofs only [go_sem]) (by simpa using c.held v hb) h5
    · rw [dec_f fun h => ha ((mem_held v).1 h), dec_f fun h => hb ((mem_held v).1 h)]
      simp -dsimp -implicitDefEqProofs (disch := omega) only [go_sem, reqD_of, dec_t, dec_f, wrap_i64, wrap_u32, wrap_u64, wrap_u8, hd, e0, e3, e4, e5, e6, e7, e8]
      refine hQ any al n _ _ ⟨by simp -dsimp -implicitDefEqProofs only [go_sem, hd], by simp -dsimp -implicitDefEqProofs only [go_sem, e0], by simp -dsimp -implicitDefEqProofs only [go_sem, e3], by simp -dsimp -implicitDefEqProofs only [go_sem, e4], by simp -dsimp -implicitDefEqProofs only [go_sem, e5], by simp -dsimp -implicitDefEqProofs only [go_sem, e6], by simp -dsimp -implicitDefEqProofs only [go_sem, e7]⟩ (by simp -dsimp -implicitDefEqProofs only [go_sem]) (c.not fun a => by cases a; exact hb; exact ha) h5

end
end Go.Proofs.Ytacmnfpgimgigaa
