/- The table of locks: what stays true of it. Plain law. -/
import Derived.Test.YtacmnfpgimgigaaLkP
namespace Go.Proofs.Ytacmnfpgimgigaa
open Go
set_option linter.unusedSimpArgs false
set_option linter.unusedVariables false
set_option maxRecDepth 100000

section assoc
variable {κ α : Type} [DecidableEq κ]
theorem agt_aset_if (x y : κ) (v : α) : ∀ l : List (κ × α), agt y (aset x v l) = if y = x then some v else agt y l
  | [] => by simp only [aset, agt]
  | (z, u) :: l => by
    have ih := agt_aset_if x y v l
    by_cases h : x = z
    · subst h
      by_cases hy : y = x <;> simp [aset, agt, hy]
    · by_cases hy : y = x
      · subst hy
        simp [aset, agt, h, ih]
      · by_cases hz : y = z
        · subst hz
          simp [aset, agt, h, hy]
        · simp [aset, agt, h, hy, hz, ih]
theorem agt_none_of_notin {x : κ} : ∀ {l : List (κ × α)}, x ∉ l.map (·.1) → agt x l = none
  | [], _ => rfl
  | (z, u) :: l, h => by
    simp only [List.map_cons, List.mem_cons, not_or] at h
    simp [agt, h.1, agt_none_of_notin h.2]
theorem agt_adel_if {x y : κ} : ∀ {l : List (κ × α)}, (l.map (·.1)).Nodup → agt y (adel x l) = if y = x then none else agt y l
  | [], _ => by simp [adel, agt]
  | (z, u) :: l, hn => by
    simp only [List.map_cons, List.nodup_cons] at hn
    have ih := agt_adel_if (x := x) (y := y) hn.2
    by_cases h : x = z
    · subst h
      by_cases hy : y = x
      · subst hy
        simp [adel, agt_none_of_notin hn.1]
      · simp [adel, agt, hy]
    · by_cases hy : y = x
      · subst hy
        simp [adel, agt, h, ih]
      · by_cases hz : y = z
        · subst hz
          simp [adel, agt, h, hy]
        · simp [adel, agt, h, hy, hz, ih]
theorem adel_keys (x : κ) : ∀ l : List (κ × α), ((adel x l).map (·.1)).Sublist (l.map (·.1))
  | [] => .slnil
  | (z, u) :: l => by
    simp only [adel]
    split
    · exact List.sublist_cons_self _ _
    · exact (adel_keys x l).cons_cons _
theorem adel_nodup {x : κ} {l : List (κ × α)} (h : (l.map (·.1)).Nodup) : ((adel x l).map (·.1)).Nodup := (adel_keys x l).nodup h
theorem aset_keys (x : κ) (v : α) : ∀ l : List (κ × α), ∀ y ∈ (aset x v l).map (·.1), y = x ∨ y ∈ l.map (·.1)
  | [], y, h => by simpa [aset] using h
  | (z, u) :: l, y, h => by
    simp only [aset] at h
    split at h
    · rename_i e
      simp only [List.map_cons, List.mem_cons] at h ⊢
      rcases h with h | h
      · exact .inl h
      · exact .inr (.inr h)
    · simp only [List.map_cons, List.mem_cons] at h ⊢
      rcases h with h | h
      · exact .inr (.inl h)
      · rcases aset_keys x v l y h with h | h
        · exact .inl h
        · exact .inr (.inr h)
theorem aset_nodup {x : κ} {v : α} : ∀ {l : List (κ × α)}, (l.map (·.1)).Nodup → ((aset x v l).map (·.1)).Nodup
  | [], _ => by simp [aset]
  | (z, u) :: l, hn => by
    simp only [List.map_cons, List.nodup_cons] at hn
    simp only [aset]
    split
    · rename_i e
      subst e
      simpa using hn
    · rename_i e
      simp only [List.map_cons, List.nodup_cons]
      refine ⟨fun h => ?_, aset_nodup hn.2⟩
      rcases aset_keys x v l z h with h | h
      · exact e h.symm
      · exact hn.1 h
theorem agt_isSome_iff {x : κ} : ∀ {l : List (κ × α)}, (agt x l).isSome = true ↔ x ∈ l.map (·.1)
  | [] => by simp [agt]
  | (z, u) :: l => by
    have ih := agt_isSome_iff (x := x) (l := l)
    simp only [agt, List.map_cons, List.mem_cons]
    split
    · rename_i h; simp [h]
    · rename_i h; rw [ih]; simp [h]
end assoc

theorem delAll_agt : ∀ (l : List Claim) {ws : List (Int × Nee)} (w : Int), (ws.map (·.1)).Nodup → agt w (delAll l ws) = (if w ∈ l.map (·.1) then none else agt w ws) ∧ ((delAll l ws).map (·.1)).Nodup
  | [], ws, w, hn => by simp [delAll, hn]
  | c :: l, ws, w, hn => by
    have ih := delAll_agt l (ws := adel c.1 ws) w (adel_nodup hn)
    simp only [delAll, List.foldl_cons] at ih ⊢
    refine ⟨?_, ih.2⟩
    rw [ih.1, agt_adel_if hn]
    by_cases h1 : w ∈ l.map (·.1)
    · simp [h1]
    · by_cases h2 : w = c.1
      · simp [h2]
      · simp [h1, h2]

/-! ### Letting in -/
def Alone1 (hs : List Claim) : Prop := ∀ c ∈ hs, c.2 = true → hs = [c]
theorem letsB_iff {hs : List Claim} (ha : Alone1 hs) {a : Bool} : letsB hs a = true ↔ hs = [] ∨ (a = false ∧ ∀ c ∈ hs, c.2 = false) := by
  cases hs with
  | nil => simp [letsB]
  | cons c l =>
    simp only [letsB, reduceCtorEq, false_or, Bool.and_eq_true, Bool.not_eq_true']
    refine ⟨fun ⟨h1, h2⟩ => ⟨h1, fun d hd => ?_⟩, fun ⟨h1, h2⟩ => ⟨h1, h2 c (by simp)⟩⟩
    cases hd2 : d.2 with
    | false => rfl
    | true =>
      have := ha d hd hd2
      simp only [List.cons.injEq] at this
      rw [this.1, hd2] at h2
      cases h2
theorem adm_al : ∀ (hs q : List Claim), Alone1 hs → Alone1 (adm hs q).1
  | hs, [], h => h
  | hs, c :: q, h => by
    by_cases hl : letsB hs c.2 = true
    · rw [adm_go hl]
      refine adm_al (hs ++ [c]) q ?_
      rcases (letsB_iff h).1 hl with h0 | ⟨h0, h1⟩
      · subst h0
        intro d hd _
        simp only [List.nil_append, List.mem_singleton] at hd
        simp [hd]
      · intro d hd hd2
        rcases List.mem_append.1 hd with hd | hd
        · rw [h1 d hd] at hd2; cases hd2
        · simp only [List.mem_singleton] at hd
          rw [hd, h0] at hd2; cases hd2
    · rw [adm_stop (by simpa using hl)]; exact h
theorem adm_hd : ∀ (hs q : List Claim) (c : Claim) (q' : List Claim), (adm hs q).2.1 = c :: q' → letsB (adm hs q).1 c.2 = false
  | hs, [], c, q', h => by simp [adm] at h
  | hs, d :: q, c, q', h => by
    by_cases hl : letsB hs d.2 = true
    · rw [adm_go hl] at h ⊢
      exact adm_hd (hs ++ [d]) q c q' h
    · rw [adm_stop (by simpa using hl)] at h ⊢
      simp only [List.cons.injEq] at h
      rw [← h.1]
      simpa using hl
theorem adm_ne {hs q : List Claim} (h : (adm hs q).1 = []) : (adm hs q).2.1 = [] := by
  cases hq : (adm hs q).2.1 with
  | nil => rfl
  | cons c q' =>
    have := adm_hd hs q c q' hq
    rw [h] at this
    simp [letsB] at this

/-! ### What stays true -/
/-- One lock by itself. -/
structure LkOk (s : LkS) : Prop where
  al : Alone1 s.1
  hn : (s.1.map (·.1)).Nodup
  qn : (s.2.map (·.1)).Nodup
  dj : ∀ c ∈ s.2, c.1 ∉ s.1.map (·.1)

structure Inv (ls : List (Nam × LkS)) (ws : List (Int × Nee)) : Prop where
  kn : (ls.map (·.1)).Nodup
  wn : (ws.map (·.1)).Nodup
  ok : ∀ x s, agt x ls = some s → LkOk s
  ne : ∀ x s, agt x ls = some s → s.1 ≠ []
  hd : ∀ x s c q, agt x ls = some s → s.2 = c :: q → letsB s.1 c.2 = false
  qw : ∀ x s w a, agt x ls = some s → (w, a) ∈ s.2 → agt w ws = some (x, a)
  wq : ∀ w x a, agt w ws = some (x, a) → ∃ s, agt x ls = some s ∧ (w, a) ∈ s.2

/-- A state of which the lock x is to let in yet. -/
structure Pre (x : Nam) (s : LkS) (ls : List (Nam × LkS)) (ws : List (Int × Nee)) : Prop where
  kn : (ls.map (·.1)).Nodup
  wn : (ws.map (·.1)).Nodup
  okx : LkOk s
  ok : ∀ y t, y ≠ x → agt y ls = some t → LkOk t
  ne : ∀ y t, y ≠ x → agt y ls = some t → t.1 ≠ []
  hd : ∀ y t c q, y ≠ x → agt y ls = some t → t.2 = c :: q → letsB t.1 c.2 = false
  qwx : ∀ w a, (w, a) ∈ s.2 → agt w ws = some (x, a)
  qw : ∀ y t w a, y ≠ x → agt y ls = some t → (w, a) ∈ t.2 → agt w ws = some (y, a)
  wq : ∀ w y a, agt w ws = some (y, a) → (y = x ∧ (w, a) ∈ s.2) ∨ (y ≠ x ∧ ∃ t, agt y ls = some t ∧ (w, a) ∈ t.2)

theorem turn_L {x : Nam} {s : LkS} {ls : List (Nam × LkS)} {ws : List (Int × Nee)} (hn : (ls.map (·.1)).Nodup) (y : Nam) :
    agt y (turnS x s ls ws).2.1 = if y = x then (if (adm s.1 s.2).1 = [] then none else some ((adm s.1 s.2).1, (adm s.1 s.2).2.1)) else agt y ls := by
  simp only [turnS]
  by_cases h : (adm s.1 s.2).1 = []
  · rw [if_pos h, agt_adel_if (aset_nodup hn), agt_aset_if, if_pos h]
    by_cases hy : y = x <;> simp [hy]
  · rw [if_neg h, agt_aset_if, agt_aset_if, if_neg h]
    by_cases hy : y = x <;> simp [hy]
theorem turn_Lnodup {x : Nam} {s : LkS} {ls : List (Nam × LkS)} {ws : List (Int × Nee)} (hn : (ls.map (·.1)).Nodup) : ((turnS x s ls ws).2.1.map (·.1)).Nodup := by
  simp only [turnS]
  split
  · exact adel_nodup (aset_nodup hn)
  · exact aset_nodup (aset_nodup hn)

theorem Pre.inv {x : Nam} {s : LkS} {ls : List (Nam × LkS)} {ws : List (Int × Nee)} (p : Pre x s ls ws) : Inv (turnS x s ls ws).2.1 (turnS x s ls ws).2.2 := by
  obtain ⟨e1, e2⟩ := adm_spec s.1 s.2
  have hL := turn_L (x := x) (s := s) (ws := ws) p.kn
  have hW : ∀ w, agt w (turnS x s ls ws).2.2 = if w ∈ (adm s.1 s.2).2.2.map (·.1) then none else agt w ws := fun w => (delAll_agt _ w p.wn).1
  have hqn := p.okx.qn
  have hdj := p.okx.dj
  rw [e2] at hqn hdj
  rw [List.map_append, List.nodup_append] at hqn
  have hok : LkOk ((adm s.1 s.2).1, (adm s.1 s.2).2.1) := by
    refine ⟨adm_al _ _ p.okx.al, ?_, hqn.2.1, ?_⟩
    · simp only
      rw [e1, List.map_append, List.nodup_append]
      refine ⟨p.okx.hn, hqn.1, ?_⟩
      rintro a ha b hb rfl
      obtain ⟨c, hc, rfl⟩ := List.mem_map.1 hb
      exact hdj c (List.mem_append_left _ hc) ha
    · intro c hc
      simp only at hc ⊢
      rw [e1, List.map_append, List.mem_append, not_or]
      refine ⟨hdj c (List.mem_append_right _ hc), fun h => ?_⟩
      exact hqn.2.2 _ h _ (List.mem_map.2 ⟨c, hc, rfl⟩) rfl
  refine ⟨turn_Lnodup p.kn, (delAll_agt _ 0 p.wn).2, ?_, ?_, ?_, ?_, ?_⟩
  · intro y t ht
    rw [hL] at ht
    by_cases hy : y = x
    · rw [if_pos hy] at ht
      split at ht
      · cases ht
      · simp only [Option.some.injEq] at ht; rw [← ht]; exact hok
    · rw [if_neg hy] at ht; exact p.ok y t hy ht
  · intro y t ht
    rw [hL] at ht
    by_cases hy : y = x
    · rw [if_pos hy] at ht
      split at ht
      · cases ht
      · rename_i hne; simp only [Option.some.injEq] at ht; rw [← ht]; exact hne
    · rw [if_neg hy] at ht; exact p.ne y t hy ht
  · intro y t c q ht hq
    rw [hL] at ht
    by_cases hy : y = x
    · rw [if_pos hy] at ht
      split at ht
      · cases ht
      · simp only [Option.some.injEq] at ht
        rw [← ht] at hq ⊢
        exact adm_hd _ _ _ _ hq
    · rw [if_neg hy] at ht; exact p.hd y t c q hy ht hq
  · intro y t w a ht hw
    rw [hL] at ht
    rw [hW]
    by_cases hy : y = x
    · rw [if_pos hy] at ht
      split at ht
      · cases ht
      · simp only [Option.some.injEq] at ht
        rw [← ht] at hw
        simp only at hw
        rw [if_neg (fun h => hqn.2.2 _ h _ (List.mem_map.2 ⟨(w, a), hw, rfl⟩) rfl), hy]
        exact p.qwx w a (by rw [e2]; exact List.mem_append_right _ hw)
    · rw [if_neg hy] at ht
      have h1 := p.qw y t w a hy ht hw
      rw [if_neg]
      · exact h1
      · intro h
        obtain ⟨c, hc, rfl⟩ := List.mem_map.1 h
        have h2 := p.qwx c.1 c.2 (by rw [e2]; exact List.mem_append_left _ hc)
        rw [h1] at h2
        simp only [Option.some.injEq, Prod.mk.injEq] at h2
        exact hy h2.1
  · intro w y a hw
    rw [hW] at hw
    split at hw
    · cases hw
    rename_i hnl
    rcases p.wq w y a hw with ⟨rfl, h⟩ | ⟨hy, t, ht, h⟩
    · rw [e2] at h
      rcases List.mem_append.1 h with h | h
      · exact absurd (List.mem_map.2 ⟨(w, a), h, rfl⟩) hnl
      · have hne : (adm s.1 s.2).1 ≠ [] := fun h0 => by rw [adm_ne h0] at h; cases h
        exact ⟨_, by rw [hL, if_pos rfl, if_neg hne], h⟩
    · exact ⟨t, by rw [hL, if_neg hy]; exact ht, h⟩

theorem Inv.start : Inv [] [] := ⟨.nil, .nil, fun _ _ h => (by cases h), fun _ _ h => (by cases h), fun _ _ _ _ h => (by cases h), fun _ _ _ _ h => (by cases h), fun _ _ _ h => (by cases h)⟩

theorem posC_mem {who : Int} : ∀ {l : List Claim} {k : Nat}, 0 ≤ posC who l k ↔ who ∈ l.map (·.1)
  | [], k => by simp [posC]
  | c :: l, k => by
    have ih := posC_mem (who := who) (l := l) (k := k + 1)
    simp only [posC, List.map_cons, List.mem_cons]
    split
    · rename_i h; simp [h]
    · rename_i h
      rw [ih]
      simp [Ne.symm h]
theorem posC_at {who : Int} : ∀ {l : List Claim} {k i : Nat}, posC who l k = ((k + i : Nat) : Int) → ∃ a, l[i]? = some (who, a)
  | [], k, i, h => by simp [posC] at h; omega
  | c :: l, k, i, h => by
    simp only [posC] at h
    split at h
    · rename_i hc
      have : i = 0 := by omega
      subst this
      exact ⟨c.2, by simp [← hc]⟩
    · cases i with
      | zero => rcases posC_spec who l (k + 1) with h' | ⟨m, _, h'⟩ <;> omega
      | succ i =>
        obtain ⟨a, ha⟩ := posC_at (l := l) (k := k + 1) (i := i) (by rw [h]; omega)
        exact ⟨a, by simpa using ha⟩

theorem Inv.free {ls : List (Nam × LkS)} {ws : List (Int × Nee)} (v : Inv ls ws) (who : Int) (x : Nam) : Inv (freeS who x ls ws).2.1 (freeS who x ls ws).2.2 := by
  cases hx : agt x ls with
  | none => rw [freeS_no (by simp [hx])]; exact v
  | some s =>
    rcases posC_spec who s.1 0 with hp | ⟨i, hi, hp⟩
    · rw [freeS_no (by intro s' hs'; rw [hx] at hs'; cases hs'; omega)]; exact v
    · rw [Nat.zero_add] at hp
      rw [freeS_turn hx hp]
      have ho := v.ok x s hx
      have hsub : (s.1.eraseIdx i).Sublist s.1 := List.eraseIdx_sublist _ _
      refine Pre.inv ⟨v.kn, v.wn, ⟨?_, (hsub.map _).nodup ho.hn, ho.qn, fun c hc h => ho.dj c hc ((hsub.map _).subset h)⟩, fun y t _ h => v.ok y t h, fun y t _ h => v.ne y t h, fun y t c q _ h => v.hd y t c q h, fun w a h => v.qw x s w a hx h, fun y t w a _ h => v.qw y t w a h, ?_⟩
      · intro c hc h2
        have := ho.al c (hsub.subset hc) h2
        simp only at hc
        rw [this] at hc hi
        simp only [List.length_singleton, Nat.lt_one_iff] at hi
        subst hi
        simp at hc
      · intro w y a h
        obtain ⟨t, ht, hm⟩ := v.wq w y a h
        by_cases hy : y = x
        · subst hy
          rw [hx] at ht
          simp only [Option.some.injEq] at ht
          subst ht
          exact .inl ⟨rfl, hm⟩
        · exact .inr ⟨hy, t, ht, hm⟩

theorem Inv.leave1 {ls : List (Nam × LkS)} {ws : List (Int × Nee)} (v : Inv ls ws) (who : Int) : Inv (leave1 who ls ws).2.1 (leave1 who ls ws).2.2 := by
  unfold Go.Proofs.Ytacmnfpgimgigaa.leave1
  split
  · exact v
  rename_i n hn
  split
  · exact v
  rename_i s hs
  have ho := v.ok n.1 s hs
  have hsub : (notWho who s.2).Sublist s.2 := List.filter_sublist
  have hW : ∀ w, agt w (adel who ws) = if w = who then none else agt w ws := fun w => agt_adel_if v.wn
  refine Pre.inv ⟨v.kn, adel_nodup v.wn, ⟨ho.al, ho.hn, (hsub.map _).nodup ho.qn, fun c hc => ho.dj c (hsub.subset hc)⟩, fun y t _ h => v.ok y t h, fun y t _ h => v.ne y t h, fun y t c q _ h => v.hd y t c q h, ?_, ?_, ?_⟩
  · intro w a h
    have h' := List.mem_filter.1 h
    rw [hW, if_neg (by simpa using h'.2)]
    exact v.qw n.1 s w a hs h'.1
  · intro y t w a hy ht hm
    have h1 := v.qw y t w a ht hm
    rw [hW, if_neg]
    · exact h1
    · rintro rfl
      rw [hn] at h1
      simp only [Option.some.injEq] at h1
      exact hy (by rw [h1])
  · intro w y a h
    rw [hW] at h
    split at h
    · cases h
    rename_i hne
    obtain ⟨t, ht, hm⟩ := v.wq w y a h
    by_cases hy : y = n.1
    · subst hy
      rw [hs] at ht
      simp only [Option.some.injEq] at ht
      subst ht
      exact .inl ⟨rfl, List.mem_filter.2 ⟨hm, by simpa using hne⟩⟩
    · exact .inr ⟨hy, t, ht, hm⟩
theorem Inv.leaveL (who : Int) : ∀ (L : List Nee) {ls : List (Nam × LkS)} {ws : List (Int × Nee)}, Inv ls ws → Inv (leaveL who L ls ws).2.1 (leaveL who L ls ws).2.2
  | [], _, _, v => v
  | n :: L, _, _, v => Inv.leaveL who L (v.free who n.1)
theorem Inv.leave {ls : List (Nam × LkS)} {ws : List (Int × Nee)} (v : Inv ls ws) (who : Int) : Inv (leaveS who ls ws).2.1 (leaveS who ls ws).2.2 := Inv.leaveL who _ (v.leave1 who)

theorem Inv.ask {ls : List (Nam × LkS)} {ws : List (Int × Nee)} (v : Inv ls ws) (who : Int) (n : Nee) : Inv (askS who n ls ws).2.1 (askS who n ls ws).2.2 := by
  unfold askS
  split
  · exact v
  rename_i hw
  have hL : ∀ (s' : LkS) (y : Nam), agt y (aset n.1 s' ls) = if y = n.1 then some s' else agt y ls := fun s' y => agt_aset_if _ _ _ _
  -- what stands of the lock
  have hs0 : LkOk ((agt n.1 ls).getD ([], [])) ∧ (∀ w a, (w, a) ∈ ((agt n.1 ls).getD ([], [])).2 → agt w ws = some (n.1, a)) ∧ (((agt n.1 ls).getD ([], [])).1 = [] → ((agt n.1 ls).getD ([], [])).2 = []) ∧
      (∀ c q, ((agt n.1 ls).getD ([], [])).2 = c :: q → letsB ((agt n.1 ls).getD ([], [])).1 c.2 = false) := by
    cases h : agt n.1 ls with
    | none => exact ⟨⟨(fun c hc => (by cases hc)), .nil, .nil, fun c hc => (by cases hc)⟩, fun w a h => (by cases h), fun _ => rfl, fun c q h => (by cases h)⟩
    | some s => exact ⟨v.ok _ _ h, fun w a hm => v.qw _ _ w a h hm, fun h0 => absurd h0 (v.ne _ _ h), fun c q hq => v.hd _ _ c q h hq⟩
  have hsome : ∀ {s'}, agt n.1 ls = some s' → (agt n.1 ls).getD ([], []) = s' := fun h => by rw [h]; rfl
  generalize hs : (agt n.1 ls).getD ([], []) = s at hs0 hsome
  obtain ⟨ho, hq, h0, hh⟩ := hs0
  by_cases hp : 0 ≤ posC who s.1 0
  · have hT : askT who n.2 s = ((false, 130), s, false) := by simp [askT, hp]
    rw [hT]
    simp only [Bool.false_eq_true, if_false]
    cases hx : agt n.1 ls with
    | none => rw [hx] at hs; subst hs; simp [posC] at hp
    | some s' =>
      have : s' = s := (hsome hx).symm
      subst this
      rw [aset_same _ _ _ hx]
      exact v
  have hwho : who ∉ s.1.map (·.1) := fun h => hp (posC_mem.2 h)
  have hwq : who ∉ s.2.map (·.1) := fun h => by
    obtain ⟨c, hc, rfl⟩ := List.mem_map.1 h
    have := hq c.1 c.2 hc
    rw [hw] at this; cases this
  by_cases hl : s.2 = [] ∧ letsB s.1 n.2 = true
  · have hT : askT who n.2 s = ((true, 0), (s.1 ++ [(who, n.2)], s.2), false) := by simp [askT, hp, hl]
    rw [hT]
    simp only [Bool.false_eq_true, if_false]
    have hal : Alone1 (s.1 ++ [(who, n.2)]) := by
      rcases (letsB_iff ho.al).1 hl.2 with h1 | ⟨h1, h2⟩
      · rw [h1]; intro d hd _; simp only [List.nil_append, List.mem_singleton] at hd; simp [hd]
      · intro d hd hd2
        rcases List.mem_append.1 hd with hd | hd
        · rw [h2 d hd] at hd2; cases hd2
        · simp only [List.mem_singleton] at hd; rw [hd] at hd2; simp only at hd2; rw [h1] at hd2; cases hd2
    refine ⟨aset_nodup v.kn, v.wn, fun y t ht => ?_, fun y t ht => ?_, fun y t c q ht hqq => ?_, fun y t w a ht hm => ?_, fun w y a h => ?_⟩
    · rw [hL] at ht
      split at ht
      · simp only [Option.some.injEq] at ht; subst ht
        refine ⟨hal, ?_, ho.qn, fun c hc => ?_⟩
        · simp only [List.map_append, List.map_cons, List.map_nil]
          rw [List.nodup_append]
          exact ⟨ho.hn, by simp, fun a ha b hb => by simp only [List.mem_singleton] at hb; subst hb; rintro rfl; exact hwho ha⟩
        · simp only at hc; rw [hl.1] at hc; cases hc
      · exact v.ok y t ht
    · rw [hL] at ht
      split at ht
      · simp only [Option.some.injEq] at ht; subst ht; simp
      · exact v.ne y t ht
    · rw [hL] at ht
      split at ht
      · simp only [Option.some.injEq] at ht; subst ht; simp only at hqq; rw [hl.1] at hqq; cases hqq
      · exact v.hd y t c q ht hqq
    · rw [hL] at ht
      split at ht
      · simp only [Option.some.injEq] at ht; subst ht; simp only at hm; rw [hl.1] at hm; cases hm
      · exact v.qw y t w a ht hm
    · obtain ⟨t, ht, hm⟩ := v.wq w y a h
      by_cases hy : y = n.1
      · subst hy
        have : t = s := (hsome ht).symm
        subst this
        rw [hl.1] at hm; cases hm
      · exact ⟨t, by rw [hL, if_neg hy]; exact ht, hm⟩
  · have hT : askT who n.2 s = ((false, 0), (s.1, s.2 ++ [(who, n.2)]), true) := by simp only [askT, hp, hl, if_false]
    rw [hT]
    simp only [if_true]
    have hW : ∀ w, agt w (aset who n ws) = if w = who then some n else agt w ws := fun w => agt_aset_if _ _ _ _
    have hne : s.1 ≠ [] := fun h1 => hl ⟨h0 h1, by rw [h1]; rfl⟩
    refine ⟨aset_nodup v.kn, aset_nodup v.wn, fun y t ht => ?_, fun y t ht => ?_, fun y t c q ht hqq => ?_, fun y t w a ht hm => ?_, fun w y a h => ?_⟩
    · rw [hL] at ht
      split at ht
      · simp only [Option.some.injEq] at ht; subst ht
        refine ⟨ho.al, ho.hn, ?_, fun c hc => ?_⟩
        · simp only [List.map_append, List.map_cons, List.map_nil]
          rw [List.nodup_append]
          exact ⟨ho.qn, by simp, fun a ha b hb => by simp only [List.mem_singleton] at hb; subst hb; rintro rfl; exact hwq ha⟩
        · rcases List.mem_append.1 hc with hc | hc
          · exact ho.dj c hc
          · simp only [List.mem_singleton] at hc; subst hc; exact hwho
      · exact v.ok y t ht
    · rw [hL] at ht
      split at ht
      · simp only [Option.some.injEq] at ht; subst ht; exact hne
      · exact v.ne y t ht
    · rw [hL] at ht
      split at ht
      · simp only [Option.some.injEq] at ht; subst ht
        simp only at hqq ⊢
        cases hs2 : s.2 with
        | nil =>
          rw [hs2] at hqq
          simp only [List.nil_append, List.cons.injEq] at hqq
          rw [← hqq.1]
          simpa [hs2] using hl
        | cons d q' =>
          rw [hs2] at hqq
          simp only [List.cons_append, List.cons.injEq] at hqq
          rw [← hqq.1]
          exact hh d q' hs2
      · exact v.hd y t c q ht hqq
    · rw [hW]
      rw [hL] at ht
      split at ht
      · rename_i hy
        subst hy
        simp only [Option.some.injEq] at ht; subst ht
        rcases List.mem_append.1 hm with hm | hm
        · have h1 := hq w a hm
          rw [if_neg]
          · exact h1
          · rintro rfl; rw [hw] at h1; cases h1
        · simp only [List.mem_singleton, Prod.mk.injEq] at hm
          rw [if_pos hm.1, hm.2]
      · have h1 := v.qw y t w a ht hm
        rw [if_neg]
        · exact h1
        · rintro rfl; rw [hw] at h1; cases h1
    · rw [hW] at h
      split at h
      · rename_i hww
        simp only [Option.some.injEq] at h
        subst h hww
        exact ⟨_, by rw [hL, if_pos rfl], by simp⟩
      · obtain ⟨t, ht, hm⟩ := v.wq w y a h
        by_cases hy : y = n.1
        · subst hy
          have : t = s := (hsome ht).symm
          subst this
          exact ⟨_, by rw [hL, if_pos rfl], List.mem_append_left _ hm⟩
        · exact ⟨t, by rw [hL, if_neg hy]; exact ht, hm⟩

theorem Inv.move {ls : List (Nam × LkS)} {ws : List (Int × Nee)} (v : Inv ls ws) (m : Mv) : Inv (moveS m ls ws).2.1 (moveS m ls ws).2.2 := by
  unfold moveS
  split
  · exact v.ask _ _
  · split
    · exact v.free _ _
    · exact v.leave _

/-! ### What is refused changes nothing; one claim at most comes in -/
theorem ask_tot (who : Int) (n : Nee) (ls : List (Nam × LkS)) (ws : List (Int × Nee)) : tot (askS who n ls ws).2.1 ≤ tot ls + 1 ∧ (askS who n ls ws).2.1.length ≤ ls.length + 1 := by
  have key : ∀ (s' : LkS), s'.1.length + s'.2.length ≤ ((agt n.1 ls).getD ([], [])).1.length + ((agt n.1 ls).getD ([], [])).2.length + 1 → tot (aset n.1 s' ls) ≤ tot ls + 1 ∧ (aset n.1 s' ls).length ≤ ls.length + 1 := by
    intro s' h
    cases hx : agt n.1 ls with
    | some s =>
      rw [hx] at h
      simp only [Option.getD_some] at h
      obtain ⟨a1, _, a3⟩ := tot_aset (s' := s') hx
      omega
    | none =>
      rw [hx] at h
      simp only [Option.getD_none, List.length_nil] at h
      have : ∀ {l : List (Nam × LkS)}, agt n.1 l = none → tot (aset n.1 s' l) = tot l + (s'.1.length + s'.2.length) ∧ (aset n.1 s' l).length = l.length + 1 := by
        intro l hl
        induction l with
        | nil => simp [aset, tot]
        | cons p l ih =>
          obtain ⟨y, u⟩ := p
          simp only [agt] at hl
          split at hl
          · cases hl
          · rename_i e
            have := ih hl
            simp only [aset, if_neg e, tot, List.map_cons, List.sum_cons, List.length_cons] at this ⊢
            omega
      have := this hx
      omega
  unfold askS
  split
  · dsimp only; omega
  · refine key _ ?_
    unfold askT
    split
    · dsimp only; omega
    · split
      · dsimp only; rw [List.length_append, List.length_singleton]; omega
      · dsimp only; rw [List.length_append, List.length_singleton]; omega
theorem move_tot (m : Mv) (ls : List (Nam × LkS)) (ws : List (Int × Nee)) : tot (moveS m ls ws).2.1 ≤ tot ls + 1 ∧ (moveS m ls ws).2.1.length ≤ ls.length + 1 := by
  unfold moveS
  split
  · exact ask_tot _ _ _ _
  · split
    · have := freeS_tot (mvWho m) (mvLock m) ls ws
      simp only; omega
    · have := leaveS_tot (mvWho m) ls ws
      simp only; omega

theorem move_refused {m : Mv} {ls : List (Nam × LkS)} {ws : List (Int × Nee)} (h : (moveS m ls ws).1.2 = false) : (moveS m ls ws).2 = (ls, ws) := by
  unfold moveS at h ⊢
  split
  · rename_i hq
    rw [if_pos hq] at h
    simp only [decide_eq_false_iff_not] at h ⊢
    unfold askS at h ⊢
    split
    · rfl
    · rename_i hw
      simp only [hw] at h
      unfold askT at h ⊢
      split
      · rename_i hp
        cases hx : agt (mvLock m) ls with
        | none => rw [hx] at hp; simp [posC] at hp
        | some s =>
          simp only [Option.getD_some, Bool.false_eq_true, if_false]
          rw [aset_same _ _ _ hx]
      · rename_i hp
        rw [if_neg hp] at h
        split at h <;> simp at h
  · rename_i hq
    rw [if_neg hq] at h
    split
    · rename_i hq2
      rw [if_pos hq2] at h
      simp only [decide_eq_false_iff_not] at h ⊢
      cases hx : agt (mvLock m) ls with
      | none => rw [freeS_no (by simp [hx])]
      | some s =>
        rcases posC_spec (mvWho m) s.1 0 with hp | ⟨i, hi, hp⟩
        · rw [freeS_no (by intro s' hs'; rw [hx] at hs'; cases hs'; omega)]
        · rw [Nat.zero_add] at hp
          rw [freeS_turn hx hp] at h
          simp at h
    · rename_i hq2
      rw [if_neg hq2] at h
      simp at h

end Go.Proofs.Ytacmnfpgimgigaa
