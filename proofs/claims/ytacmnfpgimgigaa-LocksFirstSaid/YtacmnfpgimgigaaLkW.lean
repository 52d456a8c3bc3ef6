/- The law LocksSound: a lock's queue; the whole table. -/
import Derived.Test.YtacmnfpgimgigaaLkV
namespace Go.Proofs.Ytacmnfpgimgigaa
open Go
set_option linter.unusedSimpArgs false
set_option linter.unusedVariables false
set_option maxRecDepth 100000

/-- Only the law's people, and its locks. -/
def Few (ls : List (Nam × LkS)) : Prop := ∀ x s, agt x ls = some s → (∃ k : Nat, k < 6 ∧ x = kN k) ∧ (∀ c ∈ s.1, 1 ≤ c.1 ∧ c.1 ≤ 8) ∧ ∀ c ∈ s.2, 1 ≤ c.1 ∧ c.1 ≤ 8
theorem Few.holders {ls : List (Nam × LkS)} (f : Few ls) (x : Nam) : ∀ c ∈ hsK ls x, 1 ≤ c.1 ∧ c.1 ≤ 8 := by
  unfold hsK
  cases h : agt x ls with
  | none => intro c hc; cases hc
  | some s => exact (f x s h).2.1

section
attribute [local go_sem] F21.t21_eq F21.t17_eq F21.t15_eq F21.t10_eq F21.t11_eq F21.t31_eq F21.t27_eq F21.t28_eq F21.t24_eq F21.t22_eq F21.t4_eq F21.t5_eq F21.t33_eq
theorem sound_q {w0 w : World} {F : HP} {B : Nat} {ls : List (Nam × LkS)} {ws : List (Int × Nee)} {k : Nat} {vl : Value} {any : Bool} {al n : Nat} {Q : Post} {e : FA} {θ : Tag (F21.t24, Q, e, w)} (v : Inv ls ws) (f : Few ls) (hT : tot ls < 1073741824) (hL : ls.length < 1073741824) (hk : k < 6)
    (hs : S21 e B any k vl al n) (c : C21 ls k 9 any al n) (hal : al < 1000) (h : St w0 (TabP B ls ws * F) w)
    (hQ : ∀ (e' : FA) (w' : World), e'.ds = [] → e'.ρ 0 = .pointer (some ⟨B, 0, none⟩) → e'.ρ 3 = .bool any → e'.ρ 4 = .int .i64 k → St w0 (TabP B ls ws * F) w' → Q .normal e' w') :
    cwE Try.prog F21.t24 Q e w θ := by
  obtain ⟨hd, e0, e3, e4, e5, e6, e7⟩ := hs
  have hql := queueS_length (kN k) ls
  have hta := tot_agt (x := kN k) (ls := ls)
  rw [F21.t24_eq]
  simp -dsimp -implicitDefEqProofs (disch := omega) only [go_sem, reqD_of, dec_t, dec_f, wrap_i64, wrap_u32, wrap_u64, wrap_u8, hd, e0, e3, e4, e5, e6, e7]
  refine (oneN_any h (by omega) (by omega)).mono ?_
  rintro e' w1 ⟨h1, rfl⟩
  simp -dsimp -implicitDefEqProofs (disch := omega) only [go_sem, reqD_of, dec_t, dec_f, wrap_i64, wrap_u32, wrap_u64, wrap_u8, hd, e0, e3, e4, e5, e6, e7]
  refine (queueN_any (x := kN k) h1 hT).mono ?_
  rintro e' w2 ⟨vq, h2, rfl⟩
  obtain ⟨_, a, cq, rfl, hnc, _⟩ := intAt (h2.gives (B := Reads 1 vq (queueS (kN k) ls).length (intR (queueS (kN k) ls))))
  simp -dsimp -implicitDefEqProofs (disch := omega) only [go_sem, reqD_of, dec_t, dec_f, wrap_i64, wrap_u32, wrap_u64, wrap_u8, hd, e0, e3, e4, e5, e6, e7]
  refine loop_intro (fun e w' => e.ds = [] ∧ e.ρ 0 = .pointer (some ⟨B, 0, none⟩) ∧ e.ρ 3 = .bool any ∧ e.ρ 4 = .int .i64 k ∧ e.ρ 6 = .int .i64 al ∧ e.ρ 7 = .int .i64 n ∧ e.ρ 11 = .slice a (queueS (kN k) ls).length cq ∧ ∃ i : Nat, i ≤ (queueS (kN k) ls).length ∧ e.ρ 12 = .int .i64 i ∧
      St w0 (RowO 3 1 (.slice a (queueS (kN k) ls).length cq) (queueS (kN k) ls).length (intR (queueS (kN k) ls)) * (TabP B ls ws * F)) w')
    (fun e _ => match e.ρ 12 with | .int _ n => ((queueS (kN k) ls).length - n).toNat | _ => 0) ?_ ?_
  · exact ⟨by simp -dsimp -implicitDefEqProofs only [go_sem, hd], by simp -dsimp -implicitDefEqProofs only [go_sem, e0], by simp -dsimp -implicitDefEqProofs only [go_sem, e3], by simp -dsimp -implicitDefEqProofs only [go_sem, e4], by simp -dsimp -implicitDefEqProofs only [go_sem, e6], by simp -dsimp -implicitDefEqProofs only [go_sem, e7], by simp -dsimp -implicitDefEqProofs only [go_sem], 0, by omega, by simp -dsimp -implicitDefEqProofs only [go_sem], h2⟩
  rintro e w3 ⟨hd, e0, e3, e4, e6, e7, e11, i, hi, e12, h3⟩
  by_cases hlt : (i : Int) < (queueS (kN k) ls).length
  case neg =>
    have : i = (queueS (kN k) ls).length := by omega
    subst this
    simp -dsimp -implicitDefEqProofs (disch := omega) only [go_sem, reqD_of, dec_t, dec_f, wrap_i64, wrap_u32, wrap_u64, wrap_u8, hd, e0, e3, e4, e6, e7, e11, e12, hlt]
    exact hQ _ _ hd e0 e3 e4 h3.sub
  have hil : i < (queueS (kN k) ls).length := by omega
  obtain ⟨s, hs, hsi⟩ : ∃ s, agt (kN k) ls = some s ∧ ∃ a, s.2[i]? = some ((queueS (kN k) ls)[i], a) := by
    cases hx : agt (kN k) ls with
    | none => simp [queueS, hx] at hil
    | some s =>
      refine ⟨s, rfl, ?_⟩
      have hil' : i < s.2.length := by simpa [queueS, hx] using hil
      refine ⟨(s.2[i]).2, ?_⟩
      rw [List.getElem?_eq_getElem hil']
      simp [queueS, hx]
  obtain ⟨al2, hsi⟩ := hsi
  have hwt := v.qw _ _ _ _ hs (List.mem_of_getElem? hsi)
  obtain ⟨_, _, _, hv, _, hcl⟩ := intAt (h3.gives (B := Reads 1 (.slice a (queueS (kN k) ls).length cq) (queueS (kN k) ls).length (intR (queueS (kN k) ls))))
  simp only [Value.slice.injEq, true_and] at hv
  obtain ⟨rfl, rfl⟩ := hv
  obtain ⟨b, o, rfl, hx⟩ := hcl i hil
  generalize (queueS (kN k) ls)[i] = wq at hx hwt hsi
  simp -dsimp -implicitDefEqProofs (disch := omega) only [go_sem, reqD_of, dec_t, dec_f, wrap_i64, wrap_u32, wrap_u64, wrap_u8, hd, e0, e3, e4, e6, e7, e11, e12, hlt, hx]
  refine (waits_any (who := wq) (h3.take (.obj B))).mono ?_
  rintro e' w4 ⟨h4, rfl⟩
  rw [hwt]
  simp -dsimp -implicitDefEqProofs (disch := omega) only [go_sem, reqD_of, dec_t, dec_f, wrap_i64, wrap_u32, wrap_u64, wrap_u8, hd, e0, e3, e4, e6, e7, e11, e12, Option.isSome_some, Option.getD_some]
  refine h4.new fun N w5 h5 => ?_
  simp -dsimp -implicitDefEqProofs (disch := omega) only [go_sem, reqD_of, dec_t, dec_f, wrap_i64, wrap_u32, wrap_u64, wrap_u8]
  refine h5.stoAll (cs := needC (kN k, al2)) rfl rfl (needC_cells _) fun w6 h6 => ?_
  have h7 := h6.drew
  have hN : rowV w6.drew ⟨N, 0, none⟩ 3 = some (namV (kN k)) := h7.rowAtH N 0 3 (by simp [needC])
  simp -dsimp -implicitDefEqProofs (disch := omega) only [go_sem, reqD_of, dec_t, dec_f, wrap_i64, wrap_u32, wrap_u64, wrap_u8, hd, e0, e3, e4, e6, e7, e11, e12, hN]
  refine (oneN_any h7 (by omega) (by omega)).mono ?_
  rintro e' w7 ⟨h8, rfl⟩
  have hN8 : rowV w7 ⟨N, 0, none⟩ 3 = some (namV (kN k)) := h8.rowAtH N 0 3 (by simp [needC])
  have hNc := h8.cl N
  simp only [needC] at hNc
  simp -dsimp -implicitDefEqProofs (disch := omega) only [go_sem, reqD_of, dec_t, dec_f, wrap_i64, wrap_u32, wrap_u64, wrap_u8, hd, e0, e3, e4, e6, e7, e11, e12, hN8, hNc, namC, kN]
  have hne : hsK ls (kN k) ≠ [] := by unfold hsK; rw [hs]; exact v.ne _ _ hs
  have hn0 : ¬ (n : Int) = 0 := by
    obtain ⟨d, l, hdl⟩ := List.exists_cons_of_ne_nil hne
    have hm : d.1 ∈ holdersS (kN k) ls := (holdersS_mem _ _ _).2 (by rw [hdl]; simp)
    have hr := (f.holders (kN k) d (by rw [hdl]; simp)).2
    have : 0 < n := by
      rw [c.n_eq]
      exact List.length_pos_of_mem (List.mem_filter.2 ⟨hm, by simp; omega⟩)
    omega
  have hfin : St w0 (RowO 3 1 (.slice (some ⟨b, o, none⟩) (queueS (kN k) ls).length cq) (queueS (kN k) ls).length (intR (queueS (kN k) ls)) * (TabP B ls ws * F)) w7 := h8.sub
  by_cases hi0 : (i : Int) = 0
  · have hi0' : i = 0 := by omega
    have hqq : ∃ q, s.2 = (wq, al2) :: q := by
      subst hi0'
      cases hq : s.2 with
      | nil => rw [hq] at hsi; simp at hsi
      | cons d q => rw [hq] at hsi; simp only [List.getElem?_cons_zero, Option.some.injEq] at hsi; exact ⟨q, by rw [hsi]⟩
    obtain ⟨q, hqq⟩ := hqq
    have hlet := v.hd _ _ _ _ hs hqq
    cases hal2 : al2
    · have hal0 : ¬ (al : Int) = 0 := by
        intro h0
        have h0' : al = 0 := by omega
        have hall := c.al_iff.1 h0'
        have hlt2 : letsB s.1 al2 = true := by
          refine (letsB_iff (v.ok _ _ hs).al).2 (.inr ⟨hal2, fun d hdm => ?_⟩)
          have hdk : d ∈ hsK ls (kN k) := by unfold hsK; rw [hs]; exact hdm
          exact hall d hdk (by have := (f.holders (kN k) d hdk).2; omega)
        simp only at hlet
        rw [hlet] at hlt2
        cases hlt2
      subst hal2
      simp -dsimp -implicitDefEqProofs (disch := omega) only [go_sem, reqD_of, dec_t, dec_f, wrap_i64, wrap_u32, wrap_u64, wrap_u8, hd, e0, e3, e4, e6, e7, e11, e12, hi0, hn0, hal0, hNc]
      exact ⟨rfl, ⟨i + 1, by omega, by omega, hfin⟩, by omega⟩
    · subst hal2
      simp -dsimp -implicitDefEqProofs (disch := omega) only [go_sem, reqD_of, dec_t, dec_f, wrap_i64, wrap_u32, wrap_u64, wrap_u8, hd, e0, e3, e4, e6, e7, e11, e12, hi0, hn0, hNc]
      exact ⟨rfl, ⟨i + 1, by omega, by omega, hfin⟩, by omega⟩
  · simp -dsimp -implicitDefEqProofs (disch := omega) only [go_sem, reqD_of, dec_t, dec_f, wrap_i64, wrap_u32, wrap_u64, wrap_u8, hd, e0, e3, e4, e6, e7, e11, e12, hi0, hn0]
    exact ⟨rfl, ⟨i + 1, by omega, by omega, hfin⟩, by omega⟩

theorem C21.done {ls : List (Nam × LkS)} {ws : List (Int × Nee)} {k : Nat} {any : Bool} {al n : Nat} (v : Inv ls ws) (f : Few ls) (c : C21 ls k 9 any al n) : n = (holdersS (kN k) ls).length ∧ (al ≠ 0 → n = 1) ∧ al < 1000 ∧ (any = true ↔ ∃ j, j < k + 1 ∧ hsK ls (kN j) ≠ []) := by
  have hall : ∀ a ∈ holdersS (kN k) ls, a < 9 := fun a ha => by
    obtain ⟨d, hd, rfl⟩ := List.mem_map.1 ((holdersS_mem _ _ _).1 ha)
    have := (f.holders _ d hd).2
    omega
  have hn : n = (holdersS (kN k) ls).length := by rw [c.n_eq, rise_all hall]
  refine ⟨hn, fun h0 => ?_, by have := c.al_le; omega, ?_⟩
  · have hex : ∃ d ∈ hsK ls (kN k), d.2 = true := by
      apply Classical.byContradiction
      intro hno
      refine h0 (c.al_iff.2 fun d hd _ => ?_)
      cases hd2 : d.2 with
      | false => rfl
      | true => exact absurd ⟨d, hd, hd2⟩ hno
    obtain ⟨d, hd, hd2⟩ := hex
    have := (hsK_ok v (kN k)).1 d hd hd2
    rw [hn, holdersS_length]
    show (hsK ls (kN k)).length = 1
    rw [this]; rfl
  · rw [c.any_iff]
    constructor
    · rintro (⟨j, hj, h⟩ | ⟨d, hd, _⟩)
      · exact ⟨j, by omega, h⟩
      · exact ⟨k, by omega, fun h => by rw [h] at hd; cases hd⟩
    · rintro ⟨j, hj, h⟩
      by_cases hjk : j = k
      · subst hjk
        obtain ⟨d, l, hdl⟩ := List.exists_cons_of_ne_nil h
        have hd : d ∈ hsK ls (kN j) := by rw [hdl]; simp
        exact .inr ⟨d, hd, by have := (f.holders _ d hd).2; omega⟩
      · exact .inl ⟨j, by omega, h⟩

theorem Few.any {ls : List (Nam × LkS)} {ws : List (Int × Nee)} (v : Inv ls ws) (f : Few ls) : (∃ j, j < 6 ∧ hsK ls (kN j) ≠ []) ↔ ls ≠ [] := by
  constructor
  · rintro ⟨j, _, h⟩ rfl
    exact h rfl
  · intro h
    obtain ⟨p, l, hp⟩ := List.exists_cons_of_ne_nil h
    have hk := agt_of_mem v.kn (show (p.1, p.2) ∈ ls by rw [hp]; simp)
    obtain ⟨⟨k, hk6, hpk⟩, _⟩ := f _ _ hk
    refine ⟨k, hk6, ?_⟩
    unfold hsK
    rw [← hpk, hk]
    exact v.ne _ _ hk

end
section
attribute [local go_sem] F21.t21_eq F21.t17_eq F21.t15_eq F21.t10_eq F21.t31_eq F21.t27_eq F21.t28_eq F21.t22_eq F21.t4_eq F21.t5_eq F21.t33_eq
theorem sound_any {w0 w : World} {F : HP} {B : Nat} {ls : List (Nam × LkS)} {ws : List (Int × Nee)} (v : Inv ls ws) (f : Few ls) (hT : tot ls < 1073741824) (hL : ls.length < 1073741824) (h : St w0 (TabP B ls ws * F) w) :
    Calls Try.prog 21 #[.pointer (some ⟨B, 0, none⟩)] w fun e w' => St w0 (TabP B ls ws * F) w' ∧ e = .returned (.bool true) := by
  refine F21.calls (by simp) ?_
  unfold F21.code
  simp -dsimp -implicitDefEqProofs (disch := omega) only [go_sem, reqD_of, dec_t, dec_f, wrap_i64, wrap_u32, wrap_u64, wrap_u8]
  refine loop_intro (fun e w' => e.ds = [] ∧ e.ρ 0 = .pointer (some ⟨B, 0, none⟩) ∧ ∃ (k : Nat) (any : Bool), k ≤ 6 ∧ e.ρ 4 = .int .i64 k ∧ e.ρ 3 = .bool any ∧ (any = true ↔ ∃ j, j < k ∧ hsK ls (kN j) ≠ []) ∧ St w0 (TabP B ls ws * F) w')
    (fun e _ => match e.ρ 4 with | .int _ n => (6 - n).toNat | _ => 0) ?_ ?_
  · exact ⟨rfl, by simp -dsimp -implicitDefEqProofs only [go_sem], 0, false, by omega, by simp -dsimp -implicitDefEqProofs only [go_sem], by simp -dsimp -implicitDefEqProofs only [go_sem], by simp, h⟩
  rintro eo w1 ⟨hdo, e0o, k, any, hk, e4o, e3o, hany, h1⟩
  by_cases hlt : (k : Int) < 6
  case neg =>
    have : k = 6 := by omega
    subst this
    simp -dsimp -implicitDefEqProofs (disch := omega) only [go_sem, reqD_of, dec_t, dec_f, wrap_i64, wrap_u32, wrap_u64, wrap_u8, hdo, e0o, e3o, e4o, hlt]
    refine (idle_any h1).mono ?_
    rintro e' w2 ⟨h2, rfl⟩
    rw [Few.any v f] at hany
    by_cases hls : ls = []
    · have ha : any = false := by cases any; rfl; exact absurd hls (hany.1 rfl)
      simp -dsimp -implicitDefEqProofs (disch := omega) only [go_sem, reqD_of, dec_t, dec_f, wrap_i64, wrap_u32, wrap_u64, wrap_u8, hdo, e0o, e3o, e4o, hls, ha]
      rw [hls] at h2
      exact ⟨h2, rfl⟩
    · have ha : any = true := hany.2 hls
      rw [dec_f hls]
      simp -dsimp -implicitDefEqProofs (disch := omega) only [go_sem, reqD_of, dec_t, dec_f, wrap_i64, wrap_u32, wrap_u64, wrap_u8, hdo, e0o, e3o, e4o, ha]
      exact ⟨h2, rfl⟩
  simp -dsimp -implicitDefEqProofs (disch := omega) only [go_sem, reqD_of, dec_t, dec_f, wrap_i64, wrap_u32, wrap_u64, wrap_u8, hdo, e0o, e3o, e4o, hlt]
  refine (oneN_any h1 (by omega) (by omega)).mono ?_
  rintro e' w2 ⟨h2, rfl⟩
  have hta := tot_agt (x := kN k) (ls := ls)
  simp -dsimp -implicitDefEqProofs (disch := omega) only [go_sem, reqD_of, dec_t, dec_f, wrap_i64, wrap_u32, wrap_u64, wrap_u8, hdo, e0o, e3o, e4o]
  refine (holders_any (x := kN k) h2 (by omega)).mono ?_
  rintro e' w3 ⟨vl, h3, rfl⟩
  simp -dsimp -implicitDefEqProofs (disch := omega) only [go_sem, reqD_of, dec_t, dec_f, wrap_i64, wrap_u32, wrap_u64, wrap_u8, hdo, e0o, e3o, e4o]
  refine loop_intro (fun e w' => ∃ (who : Int) (any' : Bool) (al n : Nat), 1 ≤ who ∧ who ≤ 9 ∧ S21 e B any' k vl al n ∧ e.ρ 8 = .int .i64 who ∧ C21 ls k who any' al n ∧
      St w0 (RowO 3 1 vl (holdersS (kN k) ls).length (intR (holdersS (kN k) ls)) * (TabP B ls ws * F)) w')
    (fun e _ => match e.ρ 8 with | .int _ n => (9 - n).toNat | _ => 0) ?_ ?_
  · refine ⟨1, any, 0, 0, by omega, by omega, ⟨by simp -dsimp -implicitDefEqProofs only [go_sem, hdo], by simp -dsimp -implicitDefEqProofs only [go_sem, e0o], by simp -dsimp -implicitDefEqProofs only [go_sem, e3o], by simp -dsimp -implicitDefEqProofs only [go_sem, e4o], by simp -dsimp -implicitDefEqProofs only [go_sem], by simp -dsimp -implicitDefEqProofs only [go_sem], by simp -dsimp -implicitDefEqProofs only [go_sem]⟩, by simp -dsimp -implicitDefEqProofs only [go_sem], ?_, h3⟩
    have hone : ∀ c ∈ hsK ls (kN k), ¬ c.1 < 1 := fun c hc => by have := (f.holders _ c hc).1; omega
    refine ⟨?_, ?_, by omega, ?_⟩
    · rw [below_none]; rfl
      intro a ha
      obtain ⟨d, hd, rfl⟩ := List.mem_map.1 ((holdersS_mem _ _ _).1 ha)
      exact (f.holders _ d hd).1
    · simp only [true_iff]
      exact fun c hc hlt => absurd hlt (hone c hc)
    · rw [hany]
      constructor
      · exact fun h => .inl h
      · rintro (h | ⟨c, hc, hlt⟩)
        · exact h
        · exact absurd hlt (hone c hc)
  rintro e w4 ⟨who, any', al, n, h1w, hw9, hs, e8, c, h4⟩
  by_cases hlt2 : who ≤ 8
  case neg =>
    have : who = 9 := by omega
    subst this
    obtain ⟨hn, hal, hal9, hany'⟩ := c.done v f
    obtain ⟨_, a, cl, rfl, hnc, _⟩ := intAt (h4.gives (B := Reads 1 vl (holdersS (kN k) ls).length (intR (holdersS (kN k) ls))))
    have hs' := hs
    obtain ⟨hd, e0, e3, e4, e5, e6, e7⟩ := hs
    have hnn : ((holdersS (kN k) ls).length : Int) = n := by omega
    have fin : ∀ {Q : Post} {e : FA} {w : World} {θ : Tag (F21.t24, Q, e, w)}, S21 e B any' k (.slice a (holdersS (kN k) ls).length cl) al n → St w0 (RowO 3 1 (.slice a (holdersS (kN k) ls).length cl) (holdersS (kN k) ls).length (intR (holdersS (kN k) ls)) * (TabP B ls ws * F)) w →
        (∀ (e' : FA) (w' : World), e'.ds = [] → e'.ρ 0 = .pointer (some ⟨B, 0, none⟩) → e'.ρ 3 = .bool any' → e'.ρ 4 = .int .i64 k → St w0 (TabP B ls ws * F) w' → Q .normal e' w') → cwE Try.prog F21.t24 Q e w θ :=
      fun hs h hQ => sound_q v f hT hL (by omega) hs c hal9 h.right hQ
    have end' : ∀ (e' : FA) (w' : World), e'.ds = [] → e'.ρ 0 = .pointer (some ⟨B, 0, none⟩) → e'.ρ 3 = .bool any' → e'.ρ 4 = .int .i64 k → St w0 (TabP B ls ws * F) w' → True := fun _ _ _ _ _ _ _ => trivial
    by_cases ha0 : (al : Int) = 0
    · simp -dsimp -implicitDefEqProofs (disch := omega) only [go_sem, reqD_of, dec_t, dec_f, wrap_i64, wrap_u32, wrap_u64, wrap_u8, hd, e0, e3, e4, e5, e6, e7, e8, hnn, ha0]
      refine fin ⟨by simp -dsimp -implicitDefEqProofs only [go_sem, hd], by simp -dsimp -implicitDefEqProofs only [go_sem, e0], by simp -dsimp -implicitDefEqProofs only [go_sem, e3], by simp -dsimp -implicitDefEqProofs only [go_sem, e4], by simp -dsimp -implicitDefEqProofs only [go_sem, e5], by simp -dsimp -implicitDefEqProofs only [go_sem, e6], by simp -dsimp -implicitDefEqProofs only [go_sem, e7]⟩ h4 ?_
      intro e' w' hd' e0' e3' e4' h'
      simp -dsimp -implicitDefEqProofs (disch := omega) only [go_sem, reqD_of, dec_t, dec_f, wrap_i64, wrap_u32, wrap_u64, wrap_u8, hd', e0', e3', e4', e4o]
      exact ⟨⟨k + 1, any', by omega, by omega, rfl, hany', h'⟩, by omega⟩
    · have hn1 : (n : Int) = 1 := by have := hal (by omega); omega
      have hal2 : (0 : Int) < al := by omega
      simp -dsimp -implicitDefEqProofs (disch := omega) only [go_sem, reqD_of, dec_t, dec_f, wrap_i64, wrap_u32, wrap_u64, wrap_u8, hd, e0, e3, e4, e5, e6, e7, e8, hnn, ha0, hal2, hn1]
      refine fin ⟨by simp -dsimp -implicitDefEqProofs only [go_sem, hd], by simp -dsimp -implicitDefEqProofs only [go_sem, e0], by simp -dsimp -implicitDefEqProofs only [go_sem, e3], by simp -dsimp -implicitDefEqProofs only [go_sem, e4], by simp -dsimp -implicitDefEqProofs only [go_sem, e5], by simp -dsimp -implicitDefEqProofs only [go_sem, e6], by simp -dsimp -implicitDefEqProofs only [go_sem, e7]⟩ h4 ?_
      intro e' w' hd' e0' e3' e4' h'
      simp -dsimp -implicitDefEqProofs (disch := omega) only [go_sem, reqD_of, dec_t, dec_f, wrap_i64, wrap_u32, wrap_u64, wrap_u8, hd', e0', e3', e4', e4o]
      exact ⟨⟨k + 1, any', by omega, by omega, rfl, hany', h'⟩, by omega⟩
  have hs' := hs
  obtain ⟨hd, e0, e3, e4, e5, e6, e7⟩ := hs
  simp -dsimp -implicitDefEqProofs (disch := omega) only [go_sem, reqD_of, dec_t, dec_f, wrap_i64, wrap_u32, wrap_u64, wrap_u8, e8, hlt2]
  refine sound_11 v hT hL (by omega) h1w hlt2 ⟨by simp -dsimp -implicitDefEqProofs only [go_sem, hd], by simp -dsimp -implicitDefEqProofs only [go_sem, e0], by simp -dsimp -implicitDefEqProofs only [go_sem, e3], by simp -dsimp -implicitDefEqProofs only [go_sem, e4], by simp -dsimp -implicitDefEqProofs only [go_sem, e5], by simp -dsimp -implicitDefEqProofs only [go_sem, e6], by simp -dsimp -implicitDefEqProofs only [go_sem, e7]⟩ (by simp -dsimp -implicitDefEqProofs only [go_sem, e8]) c h4 ?_
  intro any2 al2 n2 e' w' hs2 e8' c2 h5
  simp -dsimp -implicitDefEqProofs (disch := omega) only [go_sem, reqD_of, dec_t, dec_f, wrap_i64, wrap_u32, wrap_u64, wrap_u8, e8, e8']
  exact ⟨⟨who + 1, any2, al2, n2, by omega, by omega, hs2, rfl, c2, h5⟩, by omega⟩

end
end Go.Proofs.Ytacmnfpgimgigaa
