/- The table of locks: Leave. -/
import Derived.Test.YtacmnfpgimgigaaLkM
namespace Go.Proofs.Ytacmnfpgimgigaa
open Go
set_option linter.unusedSimpArgs false
set_option linter.unusedVariables false
set_option maxRecDepth 100000

/-! ### How many claims there are -/
def tot (ls : List (Nam × LkS)) : Nat := (ls.map fun p => p.2.1.length + p.2.2.length).sum
def totQ (ls : List (Nam × LkS)) : Nat := (ls.map fun p => p.2.2.length).sum
theorem tot_mem {p : Nam × LkS} : ∀ {ls : List (Nam × LkS)}, p ∈ ls → p.2.1.length + p.2.2.length ≤ tot ls
  | q :: ls, h => by
    rcases List.mem_cons.1 h with rfl | h
    · simp [tot]
    · have := tot_mem h
      simp only [tot, List.map_cons, List.sum_cons] at this ⊢
      omega
theorem tot_agt {x : Nam} {ls : List (Nam × LkS)} : ((agt x ls).getD ([], [])).1.length + ((agt x ls).getD ([], [])).2.length ≤ tot ls := by
  cases h : agt x ls with
  | none => simp
  | some s => exact tot_mem (mem_of_agt h)
theorem tot_aset {x : Nam} {s s' : LkS} : ∀ {ls : List (Nam × LkS)}, agt x ls = some s → tot (aset x s' ls) + (s.1.length + s.2.length) = tot ls + (s'.1.length + s'.2.length) ∧ totQ (aset x s' ls) + s.2.length = totQ ls + s'.2.length ∧ (aset x s' ls).length = ls.length
  | (y, u) :: ls, h => by
    simp only [agt] at h
    simp only [aset]
    split at h
    · rename_i e
      simp only [Option.some.injEq] at h
      subst h
      rw [if_pos e]
      simp only [tot, totQ, List.map_cons, List.sum_cons, List.length_cons]
      refine ⟨?_, ?_, ?_⟩ <;> first | trivial | omega
    · rename_i e
      rw [if_neg e]
      have := tot_aset (s' := s') h
      simp only [tot, totQ, List.map_cons, List.sum_cons, List.length_cons] at this ⊢
      omega
theorem tot_adel {x : Nam} {s : LkS} : ∀ {ls : List (Nam × LkS)}, agt x ls = some s → tot (adel x ls) + (s.1.length + s.2.length) = tot ls ∧ totQ (adel x ls) + s.2.length = totQ ls ∧ (adel x ls).length + 1 = ls.length
  | (y, u) :: ls, h => by
    simp only [agt] at h
    simp only [adel]
    split at h
    · rename_i e
      simp only [Option.some.injEq] at h
      subst h
      rw [if_pos e]
      simp only [tot, totQ, List.map_cons, List.sum_cons, List.length_cons]
      refine ⟨?_, ?_, ?_⟩ <;> first | trivial | omega
    · rename_i e
      rw [if_neg e]
      have := tot_adel h
      simp only [tot, totQ, List.map_cons, List.sum_cons, List.length_cons] at this ⊢
      omega

theorem adm_spec : ∀ (hs q : List Claim), (adm hs q).1 = hs ++ (adm hs q).2.2 ∧ q = (adm hs q).2.2 ++ (adm hs q).2.1
  | hs, [] => by simp [adm]
  | hs, c :: q => by
    by_cases h : letsB hs c.2 = true
    · obtain ⟨h1, h2⟩ := adm_spec (hs ++ [c]) q
      rw [adm_go h]
      refine ⟨by rw [h1]; simp, ?_⟩
      simp only [List.cons_append]
      rw [← h2]
    · rw [adm_stop (by simpa using h)]
      simp

/-- A lock is turned and then lets in. -/
def turnS (x : Nam) (s : LkS) (ls : List (Nam × LkS)) (ws : List (Int × Nee)) : List Claim × List (Nam × LkS) × List (Int × Nee) :=
  ((adm s.1 s.2).2.2, if (adm s.1 s.2).1 = [] then adel x (aset x s ls) else aset x ((adm s.1 s.2).1, (adm s.1 s.2).2.1) (aset x s ls), delAll (adm s.1 s.2).2.2 ws)
theorem freeS_turn {who : Int} {x : Nam} {ls : List (Nam × LkS)} {ws : List (Int × Nee)} {s : LkS} (h : agt x ls = some s) {i : Nat} (hi : posC who s.1 0 = i) :
    freeS who x ls ws = (((turnS x (s.1.eraseIdx i, s.2) ls ws).1, 0), (turnS x (s.1.eraseIdx i, s.2) ls ws).2) := by
  have : ¬ ((i : Int) < 0) := by omega
  simp [freeS, h, hi, this, turnS]
theorem freeS_no {who : Int} {x : Nam} {ls : List (Nam × LkS)} {ws : List (Int × Nee)} (h : ∀ s, agt x ls = some s → posC who s.1 0 < 0) : freeS who x ls ws = (([], 1), ls, ws) := by
  cases hx : agt x ls with
  | none => simp [freeS, hx]
  | some s => simp [freeS, hx, h s hx]

theorem turnS_tot {x : Nam} {s s0 : LkS} {ls : List (Nam × LkS)} {ws : List (Int × Nee)} (h : agt x ls = some s0) (h1 : s.1.length ≤ s0.1.length) (h2 : s.2.length ≤ s0.2.length) :
    tot (turnS x s ls ws).2.1 ≤ tot ls ∧ (turnS x s ls ws).1.length + totQ (turnS x s ls ws).2.1 ≤ totQ ls ∧ (turnS x s ls ws).2.1.length ≤ ls.length := by
  obtain ⟨a1, a2⟩ := adm_spec s.1 s.2
  obtain ⟨b1, b2, b3⟩ := tot_aset (s' := s) h
  have hs : agt x (aset x s ls) = some s := agt_aset _ _ _
  have e1 := congrArg List.length a1
  have e2 := congrArg List.length a2
  simp only [List.length_append] at e1 e2
  simp only [turnS]
  split
  · rename_i hn
    obtain ⟨c1, c2, c3⟩ := tot_adel hs
    rw [hn] at e1
    simp only [List.length_nil] at e1
    omega
  · obtain ⟨c1, c2, c3⟩ := tot_aset (s' := ((adm s.1 s.2).1, (adm s.1 s.2).2.1)) hs
    simp only at c1 c2
    omega

theorem freeS_tot (who : Int) (x : Nam) (ls : List (Nam × LkS)) (ws : List (Int × Nee)) :
    tot (freeS who x ls ws).2.1 ≤ tot ls ∧ (freeS who x ls ws).1.1.length + totQ (freeS who x ls ws).2.1 ≤ totQ ls ∧ (freeS who x ls ws).2.1.length ≤ ls.length := by
  cases h : agt x ls with
  | none => rw [freeS_no (by simp [h])]; simp
  | some s =>
    rcases posC_spec who s.1 0 with hp | ⟨i, hi, hp⟩
    · rw [freeS_no (by intro s' hs'; rw [h] at hs'; cases hs'; omega)]; simp
    · rw [Nat.zero_add] at hp
      rw [freeS_turn h hp]
      exact turnS_tot h (by simp only [List.length_eraseIdx]; split <;> omega) (Nat.le_refl _)

/-- Somebody waits no more. -/
def leave1 (who : Int) (ls : List (Nam × LkS)) (ws : List (Int × Nee)) : List Claim × List (Nam × LkS) × List (Int × Nee) :=
  match agt who ws with
  | none => ([], ls, ws)
  | some n => match agt n.1 ls with
    | none => ([], ls, ws)
    | some s => turnS n.1 (s.1, notWho who s.2) ls (adel who ws)
/-- Somebody lets go of these. -/
def leaveL (who : Int) : List Nee → List (Nam × LkS) → List (Int × Nee) → List Claim × List (Nam × LkS) × List (Int × Nee)
  | [], ls, ws => ([], ls, ws)
  | n :: L, ls, ws => ((freeS who n.1 ls ws).1.1 ++ (leaveL who L (freeS who n.1 ls ws).2.1 (freeS who n.1 ls ws).2.2).1, (leaveL who L (freeS who n.1 ls ws).2.1 (freeS who n.1 ls ws).2.2).2)
def leaveS (who : Int) (ls : List (Nam × LkS)) (ws : List (Int × Nee)) : List Claim × List (Nam × LkS) × List (Int × Nee) :=
  ((leave1 who ls ws).1 ++ (leaveL who (heldS who (leave1 who ls ws).2.1) (leave1 who ls ws).2.1 (leave1 who ls ws).2.2).1, (leaveL who (heldS who (leave1 who ls ws).2.1) (leave1 who ls ws).2.1 (leave1 who ls ws).2.2).2)

theorem leave1_tot (who : Int) (ls : List (Nam × LkS)) (ws : List (Int × Nee)) :
    tot (leave1 who ls ws).2.1 ≤ tot ls ∧ (leave1 who ls ws).1.length + totQ (leave1 who ls ws).2.1 ≤ totQ ls ∧ (leave1 who ls ws).2.1.length ≤ ls.length := by
  unfold leave1
  split
  · simp
  · split
    · simp
    · rename_i s hs
      exact turnS_tot hs (Nat.le_refl _) (List.length_filter_le _ _)
theorem leaveL_tot (who : Int) : ∀ (L : List Nee) (ls : List (Nam × LkS)) (ws : List (Int × Nee)),
    tot (leaveL who L ls ws).2.1 ≤ tot ls ∧ (leaveL who L ls ws).1.length + totQ (leaveL who L ls ws).2.1 ≤ totQ ls ∧ (leaveL who L ls ws).2.1.length ≤ ls.length
  | [], ls, ws => by simp [leaveL]
  | n :: L, ls, ws => by
    obtain ⟨a1, a2, a3⟩ := freeS_tot who n.1 ls ws
    obtain ⟨b1, b2, b3⟩ := leaveL_tot who L (freeS who n.1 ls ws).2.1 (freeS who n.1 ls ws).2.2
    simp only [leaveL, List.length_append]
    omega
theorem leaveS_tot (who : Int) (ls : List (Nam × LkS)) (ws : List (Int × Nee)) :
    tot (leaveS who ls ws).2.1 ≤ tot ls ∧ (leaveS who ls ws).1.length + totQ (leaveS who ls ws).2.1 ≤ totQ ls ∧ (leaveS who ls ws).2.1.length ≤ ls.length := by
  obtain ⟨a1, a2, a3⟩ := leave1_tot who ls ws
  obtain ⟨b1, b2, b3⟩ := leaveL_tot who (heldS who (leave1 who ls ws).2.1) (leave1 who ls ws).2.1 (leave1 who ls ws).2.2
  simp only [leaveS, List.length_append]
  omega
theorem totQ_le_tot (ls : List (Nam × LkS)) : totQ ls ≤ tot ls := by
  induction ls with
  | nil => simp [tot, totQ]
  | cons p ls ih => simp only [tot, totQ, List.map_cons, List.sum_cons] at ih ⊢; omega

end Go.Proofs.Ytacmnfpgimgigaa
