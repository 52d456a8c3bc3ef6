/- LocksFirst: a step that goes through, as the walk needs it. Plain law. -/
import Derived.Test.YtacmnfpgimgigaaLkFd
namespace Go.Proofs.Ytacmnfpgimgigaa
open Go
set_option linter.unusedSimpArgs false
set_option linter.unusedVariables false
set_option maxRecDepth 100000

theorem ask_queue (who : Int) (n : Nee) (ls : List (Nam × LkS)) (ws : List (Int × Nee)) (y : Nam) : ∃ extra, queueS y ls ++ extra = queueS y (askS who n ls ws).2.1 := by
  unfold askS
  split
  · exact ⟨[], by simp⟩
  · simp only
    simp only [queueS]
    rw [agt_aset_if]
    by_cases hy : y = n.1
    · subst hy
      rw [if_pos rfl]
      generalize (agt n.1 ls).getD ([], []) = s
      unfold askT
      split
      · exact ⟨[], by simp⟩
      · split
        · exact ⟨[], by simp⟩
        · exact ⟨[who], by simp⟩
    · rw [if_neg hy]; exact ⟨[], by simp⟩

section step
variable {ls ls' : List (Nam × LkS)} {ws ws' : List (Int × Nee)} {m : Mv} {l : List Claim}
theorem moved_of (v : Inv ls ws) (hR : moveS m ls ws = ((l, true), ls', ws')) (hw : ¬ pickI m.1 4 < 2) : Moved (mvWho m) (decide (pickI m.1 4 = 3)) ls ws l ls' ws' := by
  have hp := pickI_range (c := m.1) (n := 4) (by decide)
  unfold moveS at hR
  rw [if_neg hw] at hR
  split at hR
  · rename_i h2
    have := Moved.free v (mvWho m) (mvLock m) (by
      have := congrArg (fun z => z.1.2) hR
      simpa using this)
    simp only [Prod.mk.injEq] at hR
    obtain ⟨⟨h1, _⟩, h3⟩ := hR
    have e1 : ls' = (freeS (mvWho m) (mvLock m) ls ws).2.1 := by rw [h3]
    have e2 : ws' = (freeS (mvWho m) (mvLock m) ls ws).2.2 := by rw [h3]
    rw [← h1, e1, e2, show decide (pickI m.1 4 = 3) = false by rw [h2]; rfl]
    exact this
  · rename_i h2
    simp only [Prod.mk.injEq] at hR
    obtain ⟨⟨h1, _⟩, h3⟩ := hR
    have e1 : ls' = (leaveS (mvWho m) ls ws).2.1 := by rw [h3]
    have e2 : ws' = (leaveS (mvWho m) ls ws).2.2 := by rw [h3]
    rw [← h1, e1, e2, show decide (pickI m.1 4 = 3) = true by rw [decide_eq_true_iff]; omega]
    exact Moved.leave v (mvWho m)
theorem asked_of (hR : moveS m ls ws = ((l, true), ls', ws')) (hw : pickI m.1 4 < 2) : l = [] ∧ ∀ y, ∃ extra, queueS y ls ++ extra = queueS y ls' := by
  unfold moveS at hR
  rw [if_pos hw] at hR
  simp only [Prod.mk.injEq] at hR
  refine ⟨hR.1.1.symm, fun y => ?_⟩
  have := ask_queue (mvWho m) (mvLock m, m.2.2.2) ls ws y
  rw [hR.2] at this
  exact this

/-- One who was let in. -/
theorem step_in (v : Inv ls ws) (f : Few ls) (hR : moveS m ls ws = ((l, true), ls', ws')) {c : Claim} (hc : c ∈ l) : ∃ (u k : Nat), u < 8 ∧ k < 6 ∧ c.1 = 1 + (u : Int) ∧ agt c.1 ws = some (kN k, c.2) ∧ c.1 ≠ mvWho m ∧ (kN k, c.2) ∈ heldS c.1 ls' ∧ agt c.1 ws' = none := by
  by_cases hw : pickI m.1 4 < 2
  · rw [(asked_of hR hw).1] at hc; cases hc
  have hM := moved_of v hR hw
  obtain ⟨h1, h2, y, h3, s', h4, h5⟩ := hM.who c hc
  obtain ⟨s, hs, hm⟩ := v.wq _ _ _ h3
  obtain ⟨⟨k, hk, rfl⟩, _, h8⟩ := f _ _ hs
  have := h8 _ hm
  simp only at this
  have v' : Inv ls' ws' := by have := v.move m; rw [hR] at this; exact this
  exact ⟨(c.1 - 1).toNat, k, by omega, hk, by omega, h3, h1, (mem_heldS v').2 ⟨s', h4, h5⟩, h2⟩

theorem queue_nodup (v : Inv ls ws) (y : Nam) : (queueS y ls).Nodup := by
  unfold queueS
  cases h : agt y ls with
  | none => simp
  | some s => exact (v.ok _ _ h).qn

/-- Where the pointers stand when p of those let in are done. -/
def PtrOk (gone : Int) (ls : List (Nam × LkS)) (ws : List (Int × Nee)) (p : List Claim) (k a : Nat) : Prop :=
  a ≤ (queueS (kN k) ls).length ∧ (((queueS (kN k) ls).take a).filter fun x => !decide (x = gone)) = (p.filter (lockIs ws (kN k))).map (·.1) ∧ (p.filter (lockIs ws (kN k)) = [] → a = 0)

theorem ptr_start (gone : Int) (k : Nat) : PtrOk gone ls ws [] k 0 := ⟨by omega, by simp, fun _ => rfl⟩

theorem kN_inj {a b : Nat} (h : kN a = kN b) : a = b := by
  simp only [kN, Prod.mk.injEq, true_and] at h
  omega

theorem ptr_step (v : Inv ls ws) (f : Few ls) (hR : moveS m ls ws = ((l, true), ls', ws')) {p rest : List Claim} {c : Claim} (hl : l = p ++ c :: rest) {k a : Nat} (hk : agt c.1 ws = some (kN k, c.2)) (hp : PtrOk (mvWho m) ls ws p k a) :
    ((queueS (kN k) ls)[a]? = some (mvWho m) → (queueS (kN k) ls)[a + 1]? = some c.1) ∧ ((queueS (kN k) ls)[a]? ≠ some (mvWho m) → (queueS (kN k) ls)[a]? = some c.1) ∧ PtrOk (mvWho m) ls ws (p ++ [c]) k (atNext (queueS (kN k) ls) (mvWho m) a) := by
  have hw : ¬ pickI m.1 4 < 2 := fun hw => by have := (asked_of hR hw).1; rw [hl] at this; simp at this
  have hM := moved_of v hR hw
  have hlc : lockIs ws (kN k) c = true := by simp [lockIs, hk]
  have hrow := hM.row (kN k)
  rw [hl, List.filter_append, List.filter_cons, if_pos hlc, List.map_append, List.map_cons, List.append_assoc, List.cons_append] at hrow
  obtain ⟨s1, s2⟩ := skip_step (queue_nodup v (kN k)) hrow hp.1 hp.2.1
  refine ⟨fun h => (s1 h).1, fun h => (s2 h).1, ?_⟩
  have hpf : (p ++ [c]).filter (lockIs ws (kN k)) = p.filter (lockIs ws (kN k)) ++ [c] := by rw [List.filter_append]; simp [hlc]
  unfold PtrOk
  rw [hpf]
  unfold atNext
  by_cases h : (queueS (kN k) ls)[a]? = some (mvWho m)
  · rw [if_pos h]
    obtain ⟨q1, q2⟩ := s1 h
    have := (List.getElem?_eq_some_iff.1 q1).1
    refine ⟨by omega, by rw [q2]; simp, fun h => by simp at h⟩
  · rw [if_neg h]
    obtain ⟨q1, q2⟩ := s2 h
    have := (List.getElem?_eq_some_iff.1 q1).1
    refine ⟨by omega, by rw [q2]; simp, fun h => by simp at h⟩
theorem ptr_other {gone : Int} {p : List Claim} {c : Claim} {k k' a : Nat} (hk : agt c.1 ws = some (kN k, c.2)) (hne : k' ≠ k) (hp : PtrOk gone ls ws p k' a) : PtrOk gone ls ws (p ++ [c]) k' a := by
  have hlc : lockIs ws (kN k') c = false := by
    simp only [lockIs, hk, Option.map_some, Option.some.injEq, decide_eq_false_iff_not]
    exact fun e => hne (kN_inj e).symm
  have hpf : (p ++ [c]).filter (lockIs ws (kN k')) = p.filter (lockIs ws (kN k')) := by rw [List.filter_append]; simp [hlc]
  unfold PtrOk
  rw [hpf]
  exact hp

theorem fin_row (v : Inv ls ws) (f : Few ls) (hR : moveS m ls ws = ((l, true), ls', ws')) {k a : Nat} (hp : PtrOk (mvWho m) ls ws l k a) : FinRow (mvWho m) (pickI m.1 4) (queueS (kN k) ls) a (queueS (kN k) ls') := by
  obtain ⟨p1, p2, p3⟩ := hp
  have hpr := pickI_range (c := m.1) (n := 4) (by decide)
  refine ⟨p1, ?_⟩
  by_cases hw : pickI m.1 4 < 2
  · obtain ⟨e1, e2⟩ := asked_of hR hw
    obtain ⟨extra, he⟩ := e2 (kN k)
    have ha := p3 (by rw [e1]; rfl)
    subst ha
    have hsk : ((queueS (kN k) ls).drop 0).filter (sk (mvWho m) (pickI m.1 4)) = queueS (kN k) ls := by
      rw [List.drop_zero, List.filter_eq_self]
      intro x _
      have : ¬ pickI m.1 4 = 3 := by omega
      simp [sk, this]
    exact ⟨extra, by rw [hsk]; exact he, fun h => by omega⟩
  have hM := moved_of v hR hw
  have hrow := hM.row (kN k)
  have hsp : queueS (kN k) ls = (queueS (kN k) ls).take a ++ (queueS (kN k) ls).drop a := (List.take_append_drop a _).symm
  by_cases h3 : pickI m.1 4 = 3
  · have hg := hM.lvt (by rw [decide_eq_true_iff]; exact h3) (kN k)
    rw [hsp, List.filter_append, p2] at hrow
    have hdr := List.append_cancel_left hrow
    have hq : ((queueS (kN k) ls').filter fun x => !decide (x = mvWho m)) = queueS (kN k) ls' := by
      rw [List.filter_eq_self]
      intro x hx
      simp only [Bool.not_eq_true', decide_eq_false_iff_not]
      rintro rfl
      exact hg hx
    rw [hq] at hdr
    refine ⟨[], ?_, fun _ => rfl⟩
    rw [List.append_nil, ← hdr]
    apply List.filter_congr
    intro x _
    simp [sk, h3]
  · have hlf := hM.lvf (by rw [decide_eq_false_iff_not]; exact h3) (kN k)
    have hsk : ((queueS (kN k) ls).drop a).filter (sk (mvWho m) (pickI m.1 4)) = (queueS (kN k) ls).drop a := by
      rw [List.filter_eq_self]
      intro x _
      simp [sk, h3]
    refine ⟨[], ?_, fun _ => rfl⟩
    rw [List.append_nil, hsk]
    by_cases hl : l.filter (lockIs ws (kN k)) = []
    · have ha := p3 hl
      subst ha
      rw [List.drop_zero]
      exact (hlf.1 hl).symm
    · obtain ⟨g1, g2⟩ := hlf.2 hl
      have hno : ∀ q : List Int, mvWho m ∉ q → (q.filter fun x => !decide (x = mvWho m)) = q := fun q hq => by
        rw [List.filter_eq_self]
        intro x hx
        simp only [Bool.not_eq_true', decide_eq_false_iff_not]
        rintro rfl
        exact hq hx
      rw [hno _ g1, hno _ g2] at hrow
      rw [hno _ (fun h => g1 (List.mem_of_mem_take h))] at p2
      rw [hsp, p2] at hrow
      exact List.append_cancel_left hrow
end step

end Go.Proofs.Ytacmnfpgimgigaa
