/- The fids package: plain laws of a table. -/
import Derived.Test.YtljndiligbaljaaFiF
namespace Go.Proofs.Ytljndiligbaljaa
open Go
set_option linter.unusedSimpArgs false
set_option linter.unusedVariables false

abbrev TL := List (Int × FidD)
/-- A step. -/
structure OpD where
  kind : Int
  n : Int
  m : Int
  f : FidD
  nd : Int
  last : Int
  mode : Int
  yes : Bool

def isE (n : Int) (l : TL) : Int := if (agt n l).isSome = true then 0 else 100
def doesE (o : OpD) (most : Int) (l : TL) : Int :=
  if o.kind = 2 then addE o.n most l o.f else if o.kind = 3 then setE o.n l o.f else if o.kind = 4 then isE o.n l else
  if o.kind = 6 then walkE o.n o.m most l else if o.kind = 7 then openE o.n l else if o.kind = 8 then toldE o.n l else
  if o.kind = 5 then roomE o.n o.m most l else if o.kind = 1 then isE o.n l else 0
def doesS (o : OpD) (most : Int) (l : TL) : TL :=
  if o.kind = 2 then addS o.n most l o.f else if o.kind = 3 then setS o.n l o.f else if o.kind = 4 then adel o.n l else
  if o.kind = 6 then walkS o.n o.m o.nd most l else if o.kind = 7 then openS o.n o.nd (and3 o.mode) o.yes l else if o.kind = 8 then toldS o.n o.nd o.last l else l
def mayL (o : OpD) : List Int := if o.kind = 2 ∨ o.kind = 3 ∨ o.kind = 4 ∨ o.kind = 7 ∨ o.kind = 8 then [o.n] else if o.kind = 6 then [o.m] else []

structure Tab (most : Int) (l : TL) : Prop where
  nd : (l.map (·.1)).Nodup
  len : (l.length : Int) ≤ most
  no : ∀ n, (agt n l).isSome = true → n ≠ 4294967295
  ok : ∀ n f, agt n l = some f → mayB f = true

inductive Chg (most : Int) (l : TL) : List Int → TL → Prop
  | same (may : List Int) : Chg most l may l
  | put (n : Int) (f : FidD) : mayB f = true → n ≠ 4294967295 → ((agt n l).isSome = true ∨ (l.length : Int) < most) → Chg most l [n] (aset n f l)
  | rem (n : Int) : Chg most l [n] (adel n l)

theorem adel_none {n : Int} : ∀ {l : TL}, agt n l = none → adel n l = l
  | [], _ => rfl
  | (y, u) :: l, h => by
    simp only [agt] at h
    split at h
    · cases h
    · rename_i hx
      simp only [adel, if_neg hx, adel_none h]
theorem aset_none {n : Int} {f : FidD} : ∀ {l : TL}, agt n l = none → aset n f l = l ++ [(n, f)]
  | [], _ => rfl
  | (y, u) :: l, h => by
    simp only [agt] at h
    split at h
    · cases h
    · rename_i hx
      simp only [aset, if_neg hx, aset_none h, List.cons_append]
theorem aset_len {n : Int} {f : FidD} : ∀ {l : TL}, (agt n l).isSome = true → (aset n f l).length = l.length
  | [], h => by simp [agt] at h
  | (y, u) :: l, h => by
    simp only [agt] at h
    simp only [aset]
    split
    · simp
    · rename_i hx
      rw [if_neg hx] at h
      simp [aset_len h]
theorem adel_len (n : Int) : ∀ l : TL, (adel n l).length ≤ l.length
  | [] => by simp [adel]
  | (y, u) :: l => by
    simp only [adel]
    split
    · simp
    · have := adel_len n l
      simp only [List.length_cons]
      omega

theorem Chg.tab {most : Int} {l l' : TL} {may : List Int} (h : Tab most l) (c : Chg most l may l') : Tab most l' := by
  cases c with
  | same => exact h
  | put n f hf hn hr =>
    refine ⟨aset_nodup h.nd, ?_, fun x hx => ?_, fun x g hx => ?_⟩
    · cases ha : agt n l with
      | some u => rw [aset_len (by rw [ha]; rfl)]; exact h.len
      | none =>
        rw [aset_none ha]
        rcases hr with hr | hr
        · rw [ha] at hr; simp at hr
        · simp; omega
    · rw [agt_aset_if] at hx
      split at hx
      · rename_i e; rw [e]; exact hn
      · exact h.no x hx
    · rw [agt_aset_if] at hx
      split at hx
      · simp only [Option.some.injEq] at hx; rw [← hx]; exact hf
      · exact h.ok x g hx
  | rem n =>
    refine ⟨adel_nodup h.nd, ?_, fun x hx => ?_, fun x g hx => ?_⟩
    · have := adel_len n l; have := h.len; omega
    · rw [agt_adel_if h.nd] at hx
      split at hx
      · simp at hx
      · exact h.no x hx
    · rw [agt_adel_if h.nd] at hx
      split at hx
      · simp at hx
      · exact h.ok x g hx

theorem Chg.stays {most : Int} {l l' : TL} {may : List Int} (h : Tab most l) (c : Chg most l may l') {x : Int} (hx : x ∉ may) : agt x l' = agt x l := by
  cases c with
  | same => rfl
  | put n f hf hn hr => rw [agt_aset_if, if_neg (fun e => hx (by simp [e]))]
  | rem n => rw [agt_adel_if h.nd, if_neg (fun e => hx (by simp [e]))]

theorem freeE_0 {n most : Int} {l : TL} (h : freeE n most l = 0) : n ≠ 4294967295 ∧ (l.length : Int) < most := by
  unfold freeE at h
  split at h
  · omega
  · rename_i h1
    split at h
    · omega
    · split at h
      · omega
      · exact ⟨h1, by omega⟩

theorem does_chg {most : Int} {l : TL} (h : Tab most l) (o : OpD) : Chg most l (if doesE o most l = 0 then mayL o else []) (doesS o most l) := by
  unfold doesE doesS mayL
  by_cases k2 : o.kind = 2
  · simp only [k2, true_or, if_true]
    by_cases e : addE o.n most l o.f = 0
    · simp only [addS, e, if_true]
      have e' := e
      unfold addE at e'
      split at e'
      · rename_i hm
        obtain ⟨a, b⟩ := freeE_0 e'
        exact .put _ _ hm a (.inr b)
      · omega
    · simp only [addS, e, if_false]; exact .same _
  by_cases k3 : o.kind = 3
  · simp only [k3, true_or, or_true, if_true, show ¬ (3 : Int) = 2 by decide, if_false]
    by_cases e : setE o.n l o.f = 0
    · simp only [setS, e, if_true]
      have e' := e
      unfold setE at e'
      split at e'
      · rename_i hm
        split at e'
        · rename_i hs
          exact .put _ _ hm (h.no _ hs) (.inl hs)
        · omega
      · omega
    · simp only [setS, e, if_false]; exact .same _
  by_cases k4 : o.kind = 4
  · simp only [k4, true_or, or_true, if_true, show ¬ (4 : Int) = 2 by decide, show ¬ (4 : Int) = 3 by decide, if_false]
    unfold isE
    by_cases e : (agt o.n l).isSome = true
    · simp only [e, if_true]; exact .rem _
    · rw [adel_none (by simpa using e)]; exact .same _
  by_cases k6 : o.kind = 6
  · simp only [k6, true_or, or_true, or_false, if_true, show ¬ (6 : Int) = 2 by decide, show ¬ (6 : Int) = 3 by decide, show ¬ (6 : Int) = 4 by decide, show ¬ (6 : Int) = 7 by decide, show ¬ (6 : Int) = 8 by decide, if_false]
    by_cases e : walkE o.n o.m most l = 0
    · simp only [walkS, e, if_true]
      have e' := e
      unfold walkE at e'
      split at e'
      · rename_i hr
        obtain ⟨f, hf⟩ := roomE_some hr
        unfold roomE at hr
        rw [hf] at hr
        simp only [Option.isSome_some, if_true] at hr
        refine .put _ _ (by simp [walkF, mayB]) ?_ ?_
        · split at hr
          · rename_i q; rw [← q]; exact h.no _ (by rw [hf]; rfl)
          · exact (freeE_0 hr).1
        · split at hr
          · rename_i q; rw [← q]; exact .inl (by rw [hf]; rfl)
          · exact .inr (freeE_0 hr).2
      · rename_i hr; exact absurd e' hr
    · simp only [walkS, e, if_false]; exact .same _
  by_cases k7 : o.kind = 7
  · simp only [k7, true_or, or_true, if_true, show ¬ (7 : Int) = 2 by decide, show ¬ (7 : Int) = 3 by decide, show ¬ (7 : Int) = 4 by decide, show ¬ (7 : Int) = 6 by decide, if_false]
    by_cases e : openE o.n l = 0
    · simp only [openS, e, if_true]
      have hs : (agt o.n l).isSome = true := by
        unfold openE at e
        split at e
        · assumption
        · omega
      exact .put _ _ (by simp [openF, mayB]) (h.no _ hs) (.inl hs)
    · simp only [openS, e, if_false]; exact .same _
  by_cases k8 : o.kind = 8
  · simp only [k8, true_or, or_true, if_true, show ¬ (8 : Int) = 2 by decide, show ¬ (8 : Int) = 3 by decide, show ¬ (8 : Int) = 4 by decide, show ¬ (8 : Int) = 6 by decide, show ¬ (8 : Int) = 7 by decide, if_false]
    by_cases e : toldE o.n l = 0
    · simp only [toldS, e, if_true]
      have hs : (agt o.n l).isSome = true ∧ ((agt o.n l).getD zFid).st = 2 := by
        unfold toldE at e
        split at e
        · rename_i hs
          split at e
          · exact ⟨hs, by assumption⟩
          · omega
        · omega
      exact .put _ _ (by simp [toldF, mayB, hs.2]) (h.no _ hs.1) (.inl hs.1)
    · simp only [toldS, e, if_false]; exact .same _
  simp only [k2, k3, k4, k6, k7, k8, if_false]
  exact .same _

/-! ### The sorted list -/
theorem list_eq_map {l : TL} (h : (l.map (·.1)).Nodup) : l = (l.map (·.1)).map fun n => (n, (agt n l).getD zFid) := by
  rw [List.map_map]
  refine (List.map_id' l).symm.trans ?_
  refine List.map_congr_left fun x hx => ?_
  obtain ⟨n, f⟩ := x
  simp only [Function.comp_def, agt_of_mem h hx, Option.getD_some]
theorem sortK_perm {l : TL} (h : (l.map (·.1)).Nodup) : (sortK l).Perm l := by
  have h1 : ((srt (l.map (·.1))).map fun n => (n, (agt n l).getD zFid)).Perm ((l.map (·.1)).map fun n => (n, (agt n l).getD zFid)) := (srt_perm _).map _
  rw [← list_eq_map h] at h1
  exact h1
theorem sortK_nodup {l : TL} (h : (l.map (·.1)).Nodup) : ((sortK l).map (·.1)).Nodup := by
  rw [sortK_keys]
  exact (srt_perm _).nodup_iff.2 h
theorem agt_sortK {l : TL} (h : (l.map (·.1)).Nodup) (n : Int) : agt n (sortK l) = agt n l := agt_perm (sortK_perm h) h n
theorem sortK_of_perm {l l' : TL} (hp : l.Perm l') (h : (l'.map (·.1)).Nodup) : sortK l = sortK l' := by
  unfold sortK
  rw [srt_of_perm (hp.map (·.1))]
  refine List.map_congr_left fun n _ => ?_
  rw [agt_perm hp h]
theorem sortK_lt {l : TL} (h : (l.map (·.1)).Nodup) {i : Nat} (hi : i + 1 < (sortK l).length) : ((sortK l)[i]'(by omega)).1 < ((sortK l)[i + 1]'hi).1 := by
  have h1 := srt_sorted (l.map (·.1))
  have h2 : (srt (l.map (·.1))).Nodup := (srt_perm _).nodup_iff.2 h
  have hi' : i + 1 < (srt (l.map (·.1))).length := by rw [← sortK_keys]; simpa using hi
  have a := (List.pairwise_iff_getElem.1 h1) i (i + 1) (by omega) hi' (by omega)
  have b := (List.pairwise_iff_getElem.1 h2) i (i + 1) (by omega) hi' (by omega)
  have e : ∀ j (hj : j < (sortK l).length), ((sortK l)[j]'hj).1 = (srt (l.map (·.1)))[j]'(by rw [← sortK_keys]; simpa using hj) := by
    intro j hj
    simp [sortK]
  rw [e, e]
  omega
theorem sortK_mem {l : TL} (h : (l.map (·.1)).Nodup) {i : Nat} (hi : i < (sortK l).length) : agt ((sortK l)[i]'hi).1 l = some ((sortK l)[i]'hi).2 := by
  rw [← agt_sortK h]
  exact agt_of_mem (sortK_nodup h) (List.getElem_mem hi)

theorem opensN_sortK {l : TL} (h : (l.map (·.1)).Nodup) (nd : Int) : opensN nd (sortK l) = opensN nd l := opensN_perm (sortK_perm h)

/-! ### A list, added -/
theorem agt_take {l : TL} (h : (l.map (·.1)).Nodup) {i : Nat} (hi : i < l.length) : agt (l[i]'hi).1 (l.take i) = none := by
  refine agt_none_of_notin fun hm => ?_
  obtain ⟨x, hx, e⟩ := List.mem_map.1 hm
  obtain ⟨j, hj, rfl⟩ := List.mem_iff_getElem.1 hx
  simp only [List.length_take] at hj
  have := (List.pairwise_iff_getElem.1 h) j i (by simp; omega) (by simpa using hi) (by omega)
  simp only [List.getElem_map] at this
  rw [List.getElem_take] at e
  exact this e
theorem add_take {most : Int} {l : TL} (h : Tab most l) {i : Nat} (hi : i < (sortK l).length) :
    addE ((sortK l)[i]'hi).1 most ((sortK l).take i) ((sortK l)[i]'hi).2 = 0 ∧ addS ((sortK l)[i]'hi).1 most ((sortK l).take i) ((sortK l)[i]'hi).2 = (sortK l).take (i + 1) := by
  have hm := sortK_mem h.nd hi
  have ha := agt_take (sortK_nodup h.nd) hi
  have e : addE ((sortK l)[i]'hi).1 most ((sortK l).take i) ((sortK l)[i]'hi).2 = 0 := by
    unfold addE freeE
    rw [if_pos (h.ok _ _ hm), if_neg (h.no _ (by rw [hm]; rfl)), ha, if_neg (by simp)]
    have := h.len
    rw [sortK_length] at hi
    rw [if_neg (by rw [List.length_take, sortK_length]; omega)]
  refine ⟨e, ?_⟩
  unfold addS
  rw [if_pos e, aset_none ha, List.take_succ_eq_append_getElem hi]

/-- Are two fids the same? -/
def sameB (a b : FidD) : Bool :=
  decide (a.heard = b.heard) && (decide (a.st = b.st) && decide (a.nd = b.nd) && decide (a.user = b.user) && decide (a.mode = b.mode) && decide (a.rm = b.rm) && decide (a.last = b.last) && decide (a.told = b.told) && decide (a.tu = b.tu) && decide (a.tt = b.tt) && decide (a.ours = b.ours) && decide (a.theirs = b.theirs) && decide (a.step = b.step) && decide (a.said = b.said))
theorem sameB_self (a : FidD) : sameB a a = true := by simp [sameB]

theorem Tab.nil {most : Int} (h : 1 ≤ most) : Tab most [] := ⟨by simp, by simp; omega, by simp [agt], by simp [agt]⟩
theorem Tab.perm {most : Int} {l l' : TL} (h : Tab most l) (hp : l'.Perm l) : Tab most l' := by
  refine ⟨(hp.map (·.1)).nodup_iff.2 h.nd, by rw [hp.length_eq]; exact h.len, fun n => ?_, fun n f => ?_⟩
  · rw [agt_perm hp h.nd]; exact h.no n
  · rw [agt_perm hp h.nd]; exact h.ok n f

end Go.Proofs.Ytljndiligbaljaa
