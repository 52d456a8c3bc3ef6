/- The plain law behind LocksFirst: whom a step lets in, and what is left of each queue. -/
import Derived.Test.YtacmnfpgimgigaaLkX
namespace Go.Proofs.Ytacmnfpgimgigaa
open Go
set_option linter.unusedSimpArgs false
set_option linter.unusedVariables false
set_option maxRecDepth 100000

theorem erase_notWho {who : Int} : ∀ {l : List Claim} {i : Nat}, (l.map (·.1)).Nodup → posC who l 0 = i → i < l.length → l.eraseIdx i = notWho who l := by
  intro l
  have key : ∀ {l : List Claim} {k i : Nat}, (l.map (·.1)).Nodup → posC who l k = ((k + i : Nat) : Int) → i < l.length → l.eraseIdx i = notWho who l := by
    intro l
    induction l with
    | nil => intro k i _ _ hi; simp at hi
    | cons c l ih =>
      intro k i hn h hi
      simp only [List.map_cons, List.nodup_cons] at hn
      simp only [posC] at h
      split at h
      · rename_i hc
        have : i = 0 := by omega
        subst this
        have : notWho who l = l := by
          unfold notWho
          rw [List.filter_eq_self]
          intro d hd
          simp only [Bool.not_eq_true', decide_eq_false_iff_not]
          intro e
          exact hn.1 (by rw [hc, ← e]; exact List.mem_map.2 ⟨d, hd, rfl⟩)
        simp only [notWho] at this
        simp [notWho, hc, this]
      · rename_i hc
        cases i with
        | zero => rcases posC_spec who l (k + 1) with h' | ⟨m, _, h'⟩ <;> omega
        | succ i =>
          have := ih (k := k + 1) (i := i) hn.2 (by rw [h]; omega) (by simpa using hi)
          simp only [notWho] at this
          simp [notWho, hc, this]
  intro i hn h hi
  exact key (k := 0) hn (by simpa using h) hi
theorem notWho_id {who : Int} {l : List Claim} (h : who ∉ l.map (·.1)) : notWho who l = l := by
  unfold notWho
  rw [List.filter_eq_self]
  intro d hd
  simp only [Bool.not_eq_true', decide_eq_false_iff_not]
  intro e
  exact h (e ▸ List.mem_map.2 ⟨d, hd, rfl⟩)
theorem notWho_mem {who : Int} {l : List Claim} {c : Claim} : c ∈ notWho who l ↔ c ∈ l ∧ c.1 ≠ who := by unfold notWho; rw [List.mem_filter]; simp
theorem notWho_map (who : Int) (l : List Claim) : (notWho who l).map (·.1) = (l.map (·.1)).filter fun a => !decide (a = who) := by unfold notWho; rw [List.filter_map]; rfl

/-- A free that goes through, as a turn. -/
theorem freeS_held {who : Int} {x : Nam} {ls : List (Nam × LkS)} {ws : List (Int × Nee)} {s : LkS} (v : Inv ls ws) (h : agt x ls = some s) (hw : who ∈ s.1.map (·.1)) :
    freeS who x ls ws = (((turnS x (notWho who s.1, s.2) ls ws).1, 0), (turnS x (notWho who s.1, s.2) ls ws).2) := by
  have h0 := (posC_mem (l := s.1) (k := 0)).2 hw
  rcases posC_spec who s.1 0 with hp | ⟨i, hi, hp⟩
  · omega
  · rw [Nat.zero_add] at hp
    rw [freeS_turn h hp, erase_notWho (v.ok _ _ h).hn hp hi]

theorem turn_W {x : Nam} {s : LkS} {ls : List (Nam × LkS)} {ws : List (Int × Nee)} (hn : (ws.map (·.1)).Nodup) (w : Int) : agt w (turnS x s ls ws).2.2 = if w ∈ (turnS x s ls ws).1.map (·.1) then none else agt w ws := (delAll_agt _ w hn).1

/-- One who lets go of these, all held: lock by lock. -/
theorem leaveL_spec (who : Int) : ∀ (L : List Nee) {ls : List (Nam × LkS)} {ws : List (Int × Nee)}, Inv ls ws → (L.map (·.1)).Nodup → (∀ n ∈ L, ∃ s, agt n.1 ls = some s ∧ who ∈ s.1.map (·.1)) →
    (∀ y, y ∉ L.map (·.1) → agt y (leaveL who L ls ws).2.1 = agt y ls) ∧
    (∀ n ∈ L, ∀ s, agt n.1 ls = some s → agt n.1 (leaveL who L ls ws).2.1 = if (adm (notWho who s.1) s.2).1 = [] then none else some ((adm (notWho who s.1) s.2).1, (adm (notWho who s.1) s.2).2.1)) ∧
    (leaveL who L ls ws).1 = L.flatMap (fun n => match agt n.1 ls with | some s => (adm (notWho who s.1) s.2).2.2 | none => []) ∧
    (∀ w, w ∈ (leaveL who L ls ws).1.map (·.1) → agt w (leaveL who L ls ws).2.2 = none) ∧ (∀ w, w ∉ (leaveL who L ls ws).1.map (·.1) → agt w (leaveL who L ls ws).2.2 = agt w ws)
  | [], ls, ws, v, _, _ => ⟨fun y _ => rfl, fun n hn => by (cases hn), rfl, fun w h => by (cases h), fun w _ => rfl⟩
  | n :: L, ls, ws, v, hn, hh => by
    obtain ⟨s, hs, hws⟩ := hh n (by simp)
    simp only [List.map_cons, List.nodup_cons] at hn
    have hf := freeS_held v hs hws
    have v1 := v.free who n.1
    have hL1 := turn_L (x := n.1) (s := (notWho who s.1, s.2)) (ws := ws) v.kn
    have hW1 := turn_W (x := n.1) (s := (notWho who s.1, s.2)) (ls := ls) v.wn
    have htl : (turnS n.1 (notWho who s.1, s.2) ls ws).1 = (adm (notWho who s.1) s.2).2.2 := rfl
    have hsame : ∀ m ∈ L, agt m.1 (freeS who n.1 ls ws).2.1 = agt m.1 ls := fun m hm => by
      rw [hf]
      simp only
      rw [hL1, if_neg]
      intro e
      exact hn.1 (e ▸ List.mem_map.2 ⟨m, hm, rfl⟩)
    obtain ⟨i1, i2, i3, i4, i5⟩ := leaveL_spec who L v1 hn.2 (fun m hm => by rw [hsame m hm]; exact hh m (by simp [hm]))
    simp only [leaveL]
    refine ⟨fun y hy => ?_, fun m hm t ht => ?_, ?_, fun w hw => ?_, fun w hw => ?_⟩
    · simp only [List.map_cons, List.mem_cons, not_or] at hy
      rw [i1 y hy.2, hf]
      simp only
      rw [hL1, if_neg hy.1]
    · rcases List.mem_cons.1 hm with rfl | hm
      · rw [i1 _ hn.1, hf]
        simp only
        rw [hL1, if_pos rfl]
        rw [hs] at ht
        simp only [Option.some.injEq] at ht
        subst ht
        rfl
      · exact i2 m hm t (by rw [hsame m hm]; exact ht)
    · rw [i3, List.flatMap_cons, hs]
      congr 1
      · rw [hf]; rfl
      · have : ∀ (M : List Nee), (∀ m ∈ M, agt m.1 (freeS who n.1 ls ws).2.1 = agt m.1 ls) → M.flatMap (fun n_1 => match agt n_1.1 (freeS who n.1 ls ws).2.1 with | some s => (adm (notWho who s.1) s.2).2.2 | none => []) = M.flatMap (fun n_1 => match agt n_1.1 ls with | some s => (adm (notWho who s.1) s.2).2.2 | none => []) := by
          intro M hM
          induction M with
          | nil => rfl
          | cons m M ih => rw [List.flatMap_cons, List.flatMap_cons, hM m (by simp), ih fun k hk => hM k (by simp [hk])]
        exact this L hsame
    · by_cases h2 : w ∈ (leaveL who L (freeS who n.1 ls ws).2.1 (freeS who n.1 ls ws).2.2).1.map (·.1)
      · exact i4 w h2
      · rw [i5 w h2, hf]
        simp only
        have h3 : w ∈ (turnS n.1 (notWho who s.1, s.2) ls ws).1.map (·.1) := by
          rw [List.map_append, List.mem_append] at hw
          rcases hw with h | h
          · rw [hf] at h; exact h
          · exact absurd h h2
        rw [hW1, if_pos h3]
    · rw [List.map_append, List.mem_append, not_or] at hw
      rw [i5 w hw.2]
      have h3 : w ∉ (turnS n.1 (notWho who s.1, s.2) ls ws).1.map (·.1) := by
        have := hw.1
        rw [hf] at this; exact this
      rw [hf]
      simp only
      rw [hW1, if_neg h3]

theorem adm_id {s : LkS} (h : ∀ c q, s.2 = c :: q → letsB s.1 c.2 = false) : adm s.1 s.2 = (s.1, s.2, []) := by
  obtain ⟨hs, q⟩ := s
  cases q with
  | nil => simp [adm]
  | cons c q => exact adm_stop (h c q rfl)

/-- Whom a lock lets in when somebody leaves. -/
def admL (who : Int) (ls : List (Nam × LkS)) (y : Nam) : List Claim := match agt y ls with
  | some s => (adm (notWho who s.1) (notWho who s.2)).2.2
  | none => []
def stripL (who : Int) (ls : List (Nam × LkS)) (y : Nam) : Option LkS := match agt y ls with
  | some s => if (adm (notWho who s.1) (notWho who s.2)).1 = [] then none else some ((adm (notWho who s.1) (notWho who s.2)).1, (adm (notWho who s.1) (notWho who s.2)).2.1)
  | none => none

theorem heldS_names (who : Int) {ls : List (Nam × LkS)} (hn : (ls.map (·.1)).Nodup) : ((heldS who ls).map (·.1)).Nodup := by
  unfold heldS
  exact ((List.mergeSort_perm _ _).map _).nodup_iff.2 ((heldL_names who ls).nodup hn)
theorem heldS_iff {ls : List (Nam × LkS)} {ws : List (Int × Nee)} (v : Inv ls ws) {who : Int} {y : Nam} : y ∈ (heldS who ls).map (·.1) ↔ ∃ s, agt y ls = some s ∧ who ∈ s.1.map (·.1) := by
  constructor
  · intro h
    obtain ⟨n, hn, rfl⟩ := List.mem_map.1 h
    obtain ⟨s, hs, hm⟩ := (mem_heldS v).1 hn
    exact ⟨s, hs, List.mem_map.2 ⟨_, hm, rfl⟩⟩
  · rintro ⟨s, hs, hm⟩
    obtain ⟨c, hc, rfl⟩ := List.mem_map.1 hm
    exact List.mem_map.2 ⟨(y, c.2), (mem_heldS v).2 ⟨s, hs, hc⟩, rfl⟩

theorem leave_spec {ls : List (Nam × LkS)} {ws : List (Int × Nee)} (v : Inv ls ws) (who : Int) : ∃ ord : List Nam, ord.Nodup ∧ (leaveS who ls ws).1 = ord.flatMap (admL who ls) ∧ (∀ y, y ∉ ord → admL who ls y = []) ∧
    (∀ y, agt y (leaveS who ls ws).2.1 = stripL who ls y) ∧ (∀ w, (w = who ∨ w ∈ (leaveS who ls ws).1.map (·.1)) → agt w (leaveS who ls ws).2.2 = none) ∧ ∀ w, w ≠ who → w ∉ (leaveS who ls ws).1.map (·.1) → agt w (leaveS who ls ws).2.2 = agt w ws := by
  have v1 := v.leave1 who
  -- behind the first step
  have h1 : ∃ o1 : List Nam, o1.Nodup ∧ (leave1 who ls ws).1 = o1.flatMap (admL who ls) ∧ (∀ y, y ∉ o1 → agt y (leave1 who ls ws).2.1 = agt y ls) ∧ (∀ y, y ∈ o1 → agt y (leave1 who ls ws).2.1 = stripL who ls y ∧ ∀ s, agt y (leave1 who ls ws).2.1 = some s → who ∉ s.1.map (·.1)) ∧
      (∀ w, (w = who ∨ w ∈ (leave1 who ls ws).1.map (·.1)) → agt w (leave1 who ls ws).2.2 = none) ∧ (∀ w, w ≠ who → w ∉ (leave1 who ls ws).1.map (·.1) → agt w (leave1 who ls ws).2.2 = agt w ws) ∧ ∀ y s, y ∉ o1 → agt y ls = some s → who ∉ s.2.map (·.1) := by
    cases hw : agt who ws with
    | none =>
      have e : leave1 who ls ws = ([], ls, ws) := by simp [leave1, hw]
      rw [e]
      refine ⟨[], .nil, rfl, fun y _ => rfl, fun y hy => by (cases hy), fun w h => ?_, fun w _ _ => rfl, fun y s _ hs hm => ?_⟩
      · rcases h with h | h
        · rw [h]; exact hw
        · cases h
      · obtain ⟨c, hc, rfl⟩ := List.mem_map.1 hm
        have := v.qw y s c.1 c.2 hs hc
        rw [hw] at this; cases this
    | some n =>
      obtain ⟨s, hs, hm⟩ := v.wq who n.1 n.2 hw
      have e : leave1 who ls ws = turnS n.1 (s.1, notWho who s.2) ls (adel who ws) := by simp [leave1, hw, hs]
      have hno : who ∉ s.1.map (·.1) := (v.ok _ _ hs).dj _ hm
      have hL := turn_L (x := n.1) (s := (s.1, notWho who s.2)) (ws := adel who ws) v.kn
      have hW := turn_W (x := n.1) (s := (s.1, notWho who s.2)) (ls := ls) (adel_nodup (x := who) v.wn)
      have htl : (turnS n.1 (s.1, notWho who s.2) ls (adel who ws)).1 = (adm s.1 (notWho who s.2)).2.2 := rfl
      have hadm : admL who ls n.1 = (adm s.1 (notWho who s.2)).2.2 := by simp only [admL, hs]; rw [notWho_id hno]
      rw [e]
      refine ⟨[n.1], by simp, by rw [htl]; simp [hadm], fun y hy => ?_, fun y hy => ?_, fun w h => ?_, fun w h1 h2 => ?_, fun y t hy ht hm2 => ?_⟩
      · rw [hL, if_neg (by simpa using hy)]
      · simp only [List.mem_singleton] at hy
        subst hy
        rw [hL, if_pos rfl]
        refine ⟨by simp only [stripL, hs]; rw [notWho_id hno], fun t ht hm2 => ?_⟩
        split at ht
        · cases ht
        · simp only [Option.some.injEq] at ht
          subst ht
          obtain ⟨a1, a2⟩ := adm_spec s.1 (notWho who s.2)
          simp only at hm2
          rw [a1, List.map_append, List.mem_append] at hm2
          rcases hm2 with h | h
          · exact hno h
          · obtain ⟨c, hc, rfl⟩ := List.mem_map.1 h
            have : c ∈ notWho c.1 s.2 := by rw [a2]; exact List.mem_append_left _ hc
            exact (notWho_mem.1 this).2 rfl
      · by_cases h2 : w ∈ (turnS n.1 (s.1, notWho who s.2) ls (adel who ws)).1.map (·.1)
        · rw [hW, if_pos h2]
        · rw [hW, if_neg h2, agt_adel_if v.wn, if_pos (h.resolve_right h2)]
      · rw [hW, if_neg h2, agt_adel_if v.wn, if_neg h1]
      · simp only [List.mem_singleton] at hy
        obtain ⟨c, hc, rfl⟩ := List.mem_map.1 hm2
        have := v.qw y t c.1 c.2 ht hc
        rw [hw] at this
        simp only [Option.some.injEq] at this
        exact hy (by rw [this])
  obtain ⟨o1, hn1, e1, k1, k2, k3, k5, k4⟩ := h1
  unfold leaveS
  generalize leave1 who ls ws = r1 at v1 e1 k1 k2 k3 k5 ⊢
  obtain ⟨l1, ls1, ws1⟩ := r1
  simp only at v1 e1 k1 k2 k3 k5 ⊢
  have hH := heldS_names who v1.kn
  obtain ⟨i1, i2, i3, i4, i5⟩ := leaveL_spec who (heldS who ls1) v1 hH (fun n hn => (heldS_iff v1).1 (List.mem_map.2 ⟨n, hn, rfl⟩))
  have hdis : ∀ y ∈ (heldS who ls1).map (·.1), y ∉ o1 := fun y hy ho => by
    obtain ⟨s, hs, hm⟩ := (heldS_iff v1).1 hy
    exact (k2 y ho).2 s hs hm
  have hheld : ∀ y ∈ (heldS who ls1).map (·.1), ∃ s, agt y ls1 = some s ∧ agt y ls = some s ∧ notWho who s.2 = s.2 := fun y hy => by
    obtain ⟨s, hs, hm⟩ := (heldS_iff v1).1 hy
    have h2 : agt y ls = some s := by rw [← k1 y (hdis y hy)]; exact hs
    exact ⟨s, hs, h2, notWho_id (k4 y s (hdis y hy) h2)⟩
  have hrest : ∀ y, y ∉ o1 → y ∉ (heldS who ls1).map (·.1) → ∀ s, agt y ls = some s → adm (notWho who s.1) (notWho who s.2) = (s.1, s.2, []) := fun y h1 h2 s hs => by
    have hno : who ∉ s.1.map (·.1) := fun hm => h2 ((heldS_iff v1).2 ⟨s, by rw [k1 y h1]; exact hs, hm⟩)
    rw [notWho_id hno, notWho_id (k4 y s h1 hs)]
    exact adm_id fun c q h => v.hd y s c q hs h
  refine ⟨o1 ++ (heldS who ls1).map (·.1), ?_, ?_, fun y hy => ?_, fun y => ?_, fun w h => ?_, fun w h1 h2 => ?_⟩
  · rw [List.nodup_append]
    exact ⟨hn1, hH, fun a ha b hb => by rintro rfl; exact hdis a hb ha⟩
  · rw [e1, i3, List.flatMap_append, List.flatMap_map]
    congr 1
    have : ∀ (M : List Nee), (∀ m ∈ M, m.1 ∈ (heldS who ls1).map (·.1)) → M.flatMap (fun n => match agt n.1 ls1 with | some s => (adm (notWho who s.1) s.2).2.2 | none => []) = M.flatMap (fun n => admL who ls n.1) := by
      intro M hM
      induction M with
      | nil => rfl
      | cons m M ih =>
        obtain ⟨s, hs1, hs2, hq⟩ := hheld m.1 (hM m (by simp))
        rw [List.flatMap_cons, List.flatMap_cons, ih fun k hk => hM k (by simp [hk])]
        congr 1
        simp only [admL, hs1, hs2, hq]
    exact this _ fun m hm => List.mem_map.2 ⟨m, hm, rfl⟩
  · rw [List.mem_append, not_or] at hy
    simp only [admL]
    split
    · rename_i s hs
      rw [hrest y hy.1 hy.2 s hs]
    · rfl
  · by_cases hy : y ∈ (heldS who ls1).map (·.1)
    · obtain ⟨s, hs1, hs2, hq⟩ := hheld y hy
      obtain ⟨n, hn, rfl⟩ := List.mem_map.1 hy
      rw [i2 n hn s hs1]
      simp only [stripL, hs2, hq]
    · rw [i1 y hy]
      by_cases ho : y ∈ o1
      · exact (k2 y ho).1
      · rw [k1 y ho]
        simp only [stripL]
        split
        · rename_i s hs
          rw [hrest y ho hy s hs]
          simp only [hs]
          rw [if_neg (v.ne y s hs)]
        · rename_i hs
          exact hs
  · by_cases h3 : w ∈ (leaveL who (heldS who ls1) ls1 ws1).1.map (·.1)
    · exact i4 w h3
    · rw [i5 w h3]
      refine k3 w ?_
      rcases h with h | h
      · exact .inl h
      · rw [List.map_append, List.mem_append] at h
        exact .inr (h.resolve_right h3)
  · rw [List.map_append, List.mem_append, not_or] at h2
    rw [i5 w h2.2, k5 w h1 h2.1]

/-! ### A step, as what the law asks of it -/
def lockIs (ws : List (Int × Nee)) (y : Nam) (c : Claim) : Bool := decide ((agt c.1 ws).map (·.1) = some y)

structure Moved (gone : Int) (lv : Bool) (ls : List (Nam × LkS)) (ws : List (Int × Nee)) (l : List Claim) (ls' : List (Nam × LkS)) (ws' : List (Int × Nee)) : Prop where
  who : ∀ c ∈ l, c.1 ≠ gone ∧ agt c.1 ws' = none ∧ ∃ y, agt c.1 ws = some (y, c.2) ∧ ∃ s', agt y ls' = some s' ∧ c ∈ s'.1
  row : ∀ y, ((queueS y ls).filter fun a => !decide (a = gone)) = (l.filter (lockIs ws y)).map (·.1) ++ ((queueS y ls').filter fun a => !decide (a = gone))
  lvt : lv = true → ∀ y, gone ∉ queueS y ls'
  lvf : lv = false → ∀ y, (l.filter (lockIs ws y) = [] → queueS y ls' = queueS y ls) ∧ (l.filter (lockIs ws y) ≠ [] → gone ∉ queueS y ls ∧ gone ∉ queueS y ls')

theorem flat_filter {y : Nam} {p : Claim → Bool} {f : Nam → List Claim} : ∀ {ord : List Nam}, ord.Nodup → (∀ z ∈ ord, ∀ c ∈ f z, p c = decide (z = y)) → (ord.flatMap f).filter p = if y ∈ ord then f y else []
  | [], _, _ => by simp
  | z :: ord, hn, h => by
    have hn' := List.nodup_cons.1 hn
    have ih := flat_filter (y := y) hn'.2 fun z' hz' => h z' (by simp [hz'])
    rw [List.flatMap_cons, List.filter_append, ih]
    by_cases hz : z = y
    · subst hz
      have e : (f z).filter p = f z := by
        rw [List.filter_eq_self]
        intro c hc
        rw [h z (by simp) c hc]; simp
      rw [e, if_neg hn'.1]
      simp
    · have e : (f z).filter p = [] := by
        rw [List.filter_eq_nil_iff]
        intro c hc
        rw [h z (by simp) c hc]; simp [hz]
      rw [e]
      by_cases hy : y ∈ ord
      · simp [hy]
      · rw [if_neg hy, if_neg]
        · rfl
        · simp only [List.mem_cons, not_or]
          exact ⟨Ne.symm hz, hy⟩

theorem admL_in {ls : List (Nam × LkS)} {ws : List (Int × Nee)} (v : Inv ls ws) {who : Int} {y : Nam} {c : Claim} (h : c ∈ admL who ls y) : c.1 ≠ who ∧ agt c.1 ws = some (y, c.2) := by
  simp only [admL] at h
  split at h
  · rename_i s hs
    have h2 := (adm_spec (notWho who s.1) (notWho who s.2)).2
    have h3 : c ∈ notWho who s.2 := by rw [h2]; exact List.mem_append_left _ h
    have := notWho_mem.1 h3
    exact ⟨this.2, v.qw _ _ _ _ hs this.1⟩
  · cases h
theorem admL_lock {ls : List (Nam × LkS)} {ws : List (Int × Nee)} (v : Inv ls ws) {who : Int} {y z : Nam} {c : Claim} (h : c ∈ admL who ls z) : lockIs ws y c = decide (z = y) := by
  simp only [lockIs, (admL_in v h).2, Option.map_some, Option.some.injEq]

theorem Moved.leave {ls : List (Nam × LkS)} {ws : List (Int × Nee)} (v : Inv ls ws) (who : Int) : Moved who true ls ws (leaveS who ls ws).1 (leaveS who ls ws).2.1 (leaveS who ls ws).2.2 := by
  obtain ⟨ord, hn, e1, e2, e3, e4, _⟩ := leave_spec v who
  have hq : ∀ y, ((queueS y ls).filter fun a => !decide (a = who)) = (admL who ls y).map (·.1) ++ queueS y (leaveS who ls ws).2.1 ∧ who ∉ queueS y (leaveS who ls ws).2.1 := by
    intro y
    simp only [queueS, e3 y, stripL, admL]
    cases hs : agt y ls with
    | none => simp
    | some s =>
      simp only [Option.getD_some]
      obtain ⟨a1, a2⟩ := adm_spec (notWho who s.1) (notWho who s.2)
      have hq' : (((if (adm (notWho who s.1) (notWho who s.2)).1 = [] then none else some ((adm (notWho who s.1) (notWho who s.2)).1, (adm (notWho who s.1) (notWho who s.2)).2.1)) : Option LkS).getD ([], [])).2 = (adm (notWho who s.1) (notWho who s.2)).2.1 := by
        split
        · rename_i h; rw [adm_ne h]; rfl
        · rfl
      rw [hq', ← notWho_map]
      refine ⟨by rw [← List.map_append, ← a2], fun h => ?_⟩
      obtain ⟨c, hc, rfl⟩ := List.mem_map.1 h
      have : c ∈ notWho c.1 s.2 := by rw [a2]; exact List.mem_append_right _ hc
      exact (notWho_mem.1 this).2 rfl
  have hlf : ∀ y, (leaveS who ls ws).1.filter (lockIs ws y) = admL who ls y := fun y => by
    rw [e1, flat_filter hn fun z _ c hc => admL_lock v hc]
    split
    · rfl
    · rename_i h; rw [e2 y h]
  refine ⟨fun c hc => ?_, fun y => ?_, fun _ y => (hq y).2, fun h => by (cases h)⟩
  · have hc' := hc
    rw [e1] at hc'
    obtain ⟨y, _, hy⟩ := List.mem_flatMap.1 hc'
    obtain ⟨h1, h2⟩ := admL_in v hy
    refine ⟨h1, e4 _ (.inr (List.mem_map.2 ⟨c, hc, rfl⟩)), y, h2, ?_⟩
    simp only [admL] at hy
    split at hy
    · rename_i s hs
      have a1 := (adm_spec (notWho who s.1) (notWho who s.2)).1
      have hm : c ∈ (adm (notWho who s.1) (notWho who s.2)).1 := by rw [a1]; exact List.mem_append_right _ hy
      refine ⟨_, by rw [e3]; simp only [stripL, hs]; rw [if_neg (fun h => by rw [h] at hm; cases hm)], hm⟩
    · cases hy
  · rw [hlf, (hq y).1, List.filter_eq_self.2]
    intro a ha
    simp only [Bool.not_eq_true', decide_eq_false_iff_not]
    rintro rfl
    exact (hq y).2 ha

theorem Moved.free {ls : List (Nam × LkS)} {ws : List (Int × Nee)} (v : Inv ls ws) (who : Int) (x : Nam) (hok : (freeS who x ls ws).1.2 = 0) : Moved who false ls ws (freeS who x ls ws).1.1 (freeS who x ls ws).2.1 (freeS who x ls ws).2.2 := by
  cases hx : agt x ls with
  | none => rw [freeS_no (by simp [hx])] at hok; cases hok
  | some s =>
    by_cases hm : who ∈ s.1.map (·.1)
    case neg =>
      rw [freeS_no (by intro s' hs'; rw [hx] at hs'; cases hs'; have h9 : ¬ 0 ≤ posC who s.1 0 := fun h => hm (posC_mem.1 h); omega)] at hok
      cases hok
    rw [freeS_held v hx hm]
    have hL := turn_L (x := x) (s := (notWho who s.1, s.2)) (ws := ws) v.kn
    have hW := turn_W (x := x) (s := (notWho who s.1, s.2)) (ls := ls) v.wn
    have htl : (turnS x (notWho who s.1, s.2) ls ws).1 = (adm (notWho who s.1) s.2).2.2 := rfl
    obtain ⟨a1, a2⟩ := adm_spec (notWho who s.1) s.2
    have hno : who ∉ s.2.map (·.1) := fun h => by
      obtain ⟨c, hc, rfl⟩ := List.mem_map.1 h
      exact (v.ok _ _ hx).dj c hc hm
    have hin : ∀ c ∈ (adm (notWho who s.1) s.2).2.2, agt c.1 ws = some (x, c.2) := fun c hc => v.qw _ _ _ _ hx (by rw [a2]; exact List.mem_append_left _ hc)
    have hlf : ∀ y, (turnS x (notWho who s.1, s.2) ls ws).1.filter (lockIs ws y) = if y = x then (adm (notWho who s.1) s.2).2.2 else [] := fun y => by
      rw [htl]
      split
      · rename_i h
        subst h
        rw [List.filter_eq_self]
        intro c hc
        simp [lockIs, hin c hc]
      · rename_i h
        rw [List.filter_eq_nil_iff]
        intro c hc
        simp only [lockIs, hin c hc, Option.map_some, Option.some.injEq, decide_eq_true_eq]
        exact fun e => h e.symm
    have hq : ∀ y, queueS y (turnS x (notWho who s.1, s.2) ls ws).2.1 = if y = x then (adm (notWho who s.1) s.2).2.1.map (·.1) else queueS y ls := fun y => by
      simp only [queueS]
      rw [hL]
      split
      · split
        · rename_i h; rw [adm_ne h]; rfl
        · rfl
      · rfl
    have hqx : queueS x ls = (adm (notWho who s.1) s.2).2.2.map (·.1) ++ (adm (notWho who s.1) s.2).2.1.map (·.1) := by
      simp only [queueS, hx, Option.getD_some]
      rw [← List.map_append, ← a2]
    have hnx : who ∉ queueS x ls := by simp only [queueS, hx, Option.getD_some]; exact hno
    refine ⟨fun c hc => ?_, fun y => ?_, fun h => by (cases h), fun _ y => ⟨fun h => ?_, fun h => ?_⟩⟩
    · have hc' : c ∈ (adm (notWho who s.1) s.2).2.2 := hc
      refine ⟨fun e => hno (e ▸ List.mem_map.2 ⟨c, by rw [a2]; exact List.mem_append_left _ hc', rfl⟩), by rw [hW, if_pos (List.mem_map.2 ⟨c, hc, rfl⟩)], x, hin c hc', ?_⟩
      have hmm : c ∈ (adm (notWho who s.1) s.2).1 := by rw [a1]; exact List.mem_append_right _ hc'
      exact ⟨_, by rw [hL, if_pos rfl, if_neg (fun h => by rw [h] at hmm; cases hmm)], hmm⟩
    · rw [hlf, hq]
      by_cases hy : y = x
      · subst hy
        rw [if_pos rfl, if_pos rfl, hqx, List.filter_append]
        congr 1
        rw [List.filter_eq_self]
        intro a ha
        simp only [Bool.not_eq_true', decide_eq_false_iff_not]
        rintro rfl
        exact hnx (by rw [hqx]; exact List.mem_append_left _ ha)
      · rw [if_neg hy, if_neg hy]
        simp
    · rw [hlf] at h
      rw [hq]
      by_cases hy : y = x
      · subst hy
        rw [if_pos rfl] at h ⊢
        rw [hqx, h]
        simp
      · rw [if_neg hy]
    · rw [hlf] at h
      by_cases hy : y = x
      · subst hy
        refine ⟨hnx, ?_⟩
        rw [hq, if_pos rfl]
        intro h9
        exact hnx (by rw [hqx]; exact List.mem_append_right _ h9)
      · rw [if_neg hy] at h; exact absurd rfl h

end Go.Proofs.Ytacmnfpgimgigaa
