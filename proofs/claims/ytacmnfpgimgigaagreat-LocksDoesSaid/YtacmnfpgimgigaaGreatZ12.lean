/- LocksDoes: the document's two lists beside the table of locks. Plain law. · LocksDoes: the document's lists: letting in, freeing, leaving; what is told in rising order. Plain law. · Slices that share blocks, each of which reads one mark alone: read, grown. · Slices of rows of several cells that share blocks, each of which reads one mark's row alone: read, grown. · Arguments that are rows of structs with slices in them, as rows that are read. · LocksDoes' book of lists that came out: its data. · LocksDoes: a mark, two rows of needs; a list that came out. · The document's table in memory; its small functions: New, place, without, could, first. · The document's table: New, without, could, first, Idle. · The document's table: letIn. · The document's table beside the table of locks: Ask, Free, Waits, Idle. · The document's table beside the table of locks: Free, Waits, Queue, rising, Holders. · The document's table beside the table of locks: Queue, rising, Holders. · The document's table beside the table of locks: Held. · The document's table beside the table of locks: Leave. · The document's table beside the table of locks: Clone, goes, Stuck. · LocksDoes' book: all that was written is read again. · LocksDoes' book: what was written full is grown. -/
import Derived.Test.YtacmnfpgimgigaaGreatZ1
import Derived.Test.YtacmnfpgimgigaaGreatZ2
import Derived.Test.YtacmnfpgimgigaaGreatZ3
import Derived.Test.YtacmnfpgimgigaaGreatZ4
import Derived.Test.YtacmnfpgimgigaaGreatZ5
import Derived.Test.YtacmnfpgimgigaaGreatZ6
import Derived.Test.YtacmnfpgimgigaaGreatZ7
import Derived.Test.YtacmnfpgimgigaaGreatZ8
import Derived.Test.YtacmnfpgimgigaaGreatZ9
import Derived.Test.YtacmnfpgimgigaaGreatZ10
import Derived.Test.YtacmnfpgimgigaaGreatZ11
namespace Go.Proofs.YtacmnfpgimgigaaGreat
open Go
set_option linter.unusedSimpArgs false
set_option linter.unusedVariables false
set_option maxRecDepth 100000

theorem nodup_of_map {α β : Type} {f : α → β} {l : List α} (h : (l.map f).Nodup) : l.Nodup := (List.pairwise_map.1 h).imp fun hne e => hne (congrArg f e)
/-- Somebody, and a need. -/
abbrev One := Int × Nee
def hasK (x : Nam) (l : List One) : List Claim := (l.filter fun o => decide (o.2.1 = x)).map fun o => (o.1, o.2.2)
theorem hasK_nil (x : Nam) : hasK x [] = [] := rfl
theorem hasK_cons (x : Nam) (o : One) (l : List One) : hasK x (o :: l) = if o.2.1 = x then (o.1, o.2.2) :: hasK x l else hasK x l := by
  unfold hasK
  by_cases h : o.2.1 = x <;> simp [h]
theorem hasK_app (x : Nam) (a b : List One) : hasK x (a ++ b) = hasK x a ++ hasK x b := by simp [hasK]
theorem hasK_one (x : Nam) (w : Int) (n : Nee) : hasK x [(w, n)] = if n.1 = x then [(w, n.2)] else [] := by rw [hasK_cons, hasK_nil]
theorem mem_hasK {x : Nam} {l : List One} {c : Claim} : c ∈ hasK x l ↔ (c.1, (x, c.2)) ∈ l := by
  unfold hasK
  simp only [List.mem_map, List.mem_filter, decide_eq_true_eq]
  constructor
  · rintro ⟨⟨w, n, a⟩, ⟨h1, h2⟩, rfl⟩
    simp only at h2
    subst h2
    exact h1
  · intro h
    exact ⟨_, ⟨h, rfl⟩, rfl⟩
theorem hasK_who {x : Nam} {l : List One} {who : Int} : who ∈ (hasK x l).map (·.1) ↔ ∃ o ∈ l, o.1 = who ∧ o.2.1 = x := by
  constructor
  · intro h
    obtain ⟨c, hc, rfl⟩ := List.mem_map.1 h
    exact ⟨_, mem_hasK.1 hc, rfl, rfl⟩
  · rintro ⟨o, ho, rfl, rfl⟩
    exact List.mem_map.2 ⟨(o.1, o.2.2), mem_hasK.2 ho, rfl⟩

/-- The first of which something is so: its place; -1: none. -/
def firstI {α : Type} (p : α → Bool) : List α → Nat → Int
  | [], _ => -1
  | o :: l, i => if p o = true then (i : Int) else firstI p l (i + 1)
theorem firstI_spec {α : Type} (p : α → Bool) : ∀ (l : List α) (k : Nat), (firstI p l k = -1 ∧ ∀ o ∈ l, p o = false) ∨ ∃ a o b, l = a ++ o :: b ∧ (∀ y ∈ a, p y = false) ∧ p o = true ∧ firstI p l k = ((k + a.length : Nat) : Int)
  | [], k => .inl ⟨rfl, fun o h => by cases h⟩
  | o :: l, k => by
    unfold firstI
    by_cases h : p o = true
    · rw [if_pos h]
      exact .inr ⟨[], o, l, rfl, fun y hy => (by cases hy), h, by simp⟩
    · rw [if_neg h]
      rcases firstI_spec p l (k + 1) with ⟨h1, h2⟩ | ⟨a, q, b, rfl, h1, h2, h3⟩
      · refine .inl ⟨h1, fun y hy => ?_⟩
        rcases List.mem_cons.1 hy with rfl | hy
        · simpa using h
        · exact h2 y hy
      · refine .inr ⟨o :: a, q, b, rfl, fun y hy => ?_, h2, ?_⟩
        · rcases List.mem_cons.1 hy with rfl | hy
          · simpa using h
          · exact h1 y hy
        · rw [h3, List.length_cons]
          congr 1
          omega
theorem firstI_step {α : Type} (p : α → Bool) {l : List α} {i : Nat} (hi : i < l.length) : firstI p (l.drop i) i = if p l[i] = true then (i : Int) else firstI p (l.drop (i + 1)) (i + 1) := by
  rw [List.drop_eq_getElem_cons hi]
  rfl

/-- Somebody in a list, with a lock (any one, if it does not matter). -/
def isAt (who : Int) (k : Nam) (any : Bool) (o : One) : Bool := decide (o.1 = who) && (any || decide (o.2.1 = k))
def isLock (k : Nam) (o : One) : Bool := decide (o.2.1 = k)
/-- Could somebody have that now? -/
def couldB (n : Nee) (H : List One) : Bool := H.all fun o => !(decide (o.2.1 = n.1) && (n.2 || o.2.2))

theorem couldB_lets {H : List One} {n : Nee} (ha : Alone1 (hasK n.1 H)) : couldB n H = letsB (hasK n.1 H) n.2 := by
  rw [Bool.eq_iff_iff, letsB_iff ha]
  unfold couldB
  rw [List.all_eq_true]
  constructor
  · intro h
    by_cases hn : n.2 = true
    · left
      rw [List.eq_nil_iff_forall_not_mem]
      intro c hc
      have := h _ (mem_hasK.1 hc)
      simp [hn] at this
    · right
      refine ⟨by simpa using hn, fun c hc => ?_⟩
      have := h _ (mem_hasK.1 hc)
      simp only [decide_true, Bool.true_and, Bool.not_eq_true', Bool.or_eq_false_iff] at this
      exact this.2
  · rintro h o ho
    by_cases hx : o.2.1 = n.1
    · have hm : ((o.1, o.2.2) : Claim) ∈ hasK n.1 H := mem_hasK.2 (by rw [← hx]; exact ho)
      rcases h with h | ⟨h1, h2⟩
      · rw [h] at hm; cases hm
      · have := h2 _ hm
        simp only at this
        simp [h1, this]
    · simp [hx]

/-- The document's table is as the table. -/
structure Sim (ls : List (Nam × LkS)) (H W : List One) : Prop where
  h : ∀ x, hasK x H = ((agt x ls).getD ([], [])).1
  w : ∀ x, hasK x W = ((agt x ls).getD ([], [])).2

theorem Sim.start : Sim [] [] [] := ⟨fun x => rfl, fun x => rfl⟩

section
variable {ls : List (Nam × LkS)} {ws : List (Int × Nee)} {H W : List One}
theorem hasK_mid {x : Nam} {a b : List One} {o : One} : hasK x (a ++ o :: b) = hasK x a ++ ((if o.2.1 = x then [(o.1, o.2.2)] else []) ++ hasK x b) := by
  rw [hasK_app, hasK_cons]
  split <;> simp

theorem Sim.mem (s : Sim ls H W) (v : Inv ls ws) {who : Int} {n : Nee} : (who, n) ∈ W ↔ agt who ws = some n := by
  have hk : (who, n) ∈ W ↔ ((who, n.2) : Claim) ∈ hasK n.1 W := by rw [mem_hasK]
  rw [hk, s.w]
  constructor
  · intro h
    cases hx : agt n.1 ls with
    | none => rw [hx] at h; cases h
    | some t => rw [hx] at h; exact v.qw _ t _ _ hx h
  · intro h
    obtain ⟨t, ht, hm⟩ := v.wq who n.1 n.2 h
    rw [ht]
    exact hm
theorem Sim.held (s : Sim ls H W) {who : Int} {n : Nee} : (who, n) ∈ H ↔ ((who, n.2) : Claim) ∈ hsK ls n.1 := by
  have hk : (who, n) ∈ H ↔ ((who, n.2) : Claim) ∈ hasK n.1 H := by rw [mem_hasK]
  rw [hk, s.h]
  exact Iff.rfl
theorem Sim.who (s : Sim ls H W) (v : Inv ls ws) {who : Int} : (∃ o ∈ W, o.1 = who) ↔ (agt who ws).isSome = true := by
  constructor
  · rintro ⟨⟨w, n⟩, ho, rfl⟩
    rw [(s.mem v).1 ho]
    rfl
  · intro h
    obtain ⟨n, hn⟩ := Option.isSome_iff_exists.1 h
    exact ⟨_, (s.mem v).2 hn, rfl⟩
theorem Sim.al (s : Sim ls H W) (v : Inv ls ws) (x : Nam) : Alone1 (hasK x H) := by rw [s.h]; exact (hsK_ok v x).1
theorem Sim.hn (s : Sim ls H W) (v : Inv ls ws) (x : Nam) : ((hasK x H).map (·.1)).Nodup := by rw [s.h]; exact (hsK_ok v x).2
theorem Sim.qn (s : Sim ls H W) (v : Inv ls ws) (x : Nam) : ((hasK x W).map (·.1)).Nodup := by
  rw [s.w]
  cases hx : agt x ls with
  | none => exact .nil
  | some t => exact (v.ok x t hx).qn
/-- One whose place is told first waits for what the table says. -/
theorem Sim.waits (s : Sim ls H W) (v : Inv ls ws) {who : Int} {k : Nam} : (firstI (isAt who k true) W 0 = -1 ∧ agt who ws = none) ∨ ∃ a n b, W = a ++ (who, n) :: b ∧ firstI (isAt who k true) W 0 = (a.length : Int) ∧ agt who ws = some n := by
  rcases firstI_spec (isAt who k true) W 0 with ⟨h1, h2⟩ | ⟨a, ⟨w, n⟩, b, h0, h1, h2, h3⟩
  · refine .inl ⟨h1, ?_⟩
    cases hx : agt who ws with
    | none => rfl
    | some n => have := h2 _ ((s.mem v).2 hx); simp [isAt] at this
  · simp only [isAt, Bool.true_or, Bool.and_true, decide_eq_true_eq] at h2
    subst h2
    exact .inr ⟨a, n, b, h0, by rw [h3, Nat.zero_add], (s.mem v).1 (by rw [h0]; simp)⟩
theorem Sim.nodupH (s : Sim ls H W) (v : Inv ls ws) : H.Nodup := by
  rw [List.nodup_iff_count]
  intro o
  have h1 := s.hn v o.2.1
  have h2 : List.count o H ≤ List.count ((o.1, o.2.2) : Claim) (hasK o.2.1 H) := by
    unfold hasK
    refine Nat.le_trans (Nat.le_of_eq ?_) (List.count_le_count_map (f := fun o : One => ((o.1, o.2.2) : Claim)) (x := o))
    rw [List.count_filter]
    simp
  have h3 : (hasK o.2.1 H).Nodup := nodup_of_map h1
  exact Nat.le_trans h2 (List.nodup_iff_count.1 h3 _)

/-- A turn of one lock. -/
theorem Sim.turn {x : Nam} {t : LkS} {H' W' : List One} (s : Sim ls H W) (kn : (ls.map (·.1)).Nodup) (hh : hasK x H' = (adm t.1 t.2).1) (hw : hasK x W' = (adm t.1 t.2).2.1)
    (ho : ∀ y, y ≠ x → hasK y H' = hasK y H ∧ hasK y W' = hasK y W) : Sim (turnS x t ls ws).2.1 H' W' := by
  have hL := turn_L (x := x) (s := t) (ws := ws) kn
  refine ⟨fun y => ?_, fun y => ?_⟩
  · rw [hL]
    by_cases hy : y = x
    · subst hy
      rw [if_pos rfl, hh]
      split
      · rename_i h; rw [h]; rfl
      · rfl
    · rw [if_neg hy, (ho y hy).1, s.h]
  · rw [hL]
    by_cases hy : y = x
    · subst hy
      rw [if_pos rfl, hw]
      split
      · rename_i h; rw [adm_ne h]; rfl
      · rfl
    · rw [if_neg hy, (ho y hy).2, s.w]

/-- Taken out. -/
theorem hasK_out {x : Nam} {a b : List One} {o : One} (h : o.2.1 ≠ x) : hasK x (a ++ b) = hasK x (a ++ o :: b) := by rw [hasK_mid, if_neg h, hasK_app]; rfl
theorem hasK_take {a b : List One} {who : Int} {n : Nee} (hn : ((hasK n.1 (a ++ (who, n) :: b)).map (·.1)).Nodup) : hasK n.1 (a ++ b) = notWho who (hasK n.1 (a ++ (who, n) :: b)) := by
  rw [hasK_mid] at hn ⊢
  rw [if_pos rfl] at hn ⊢
  simp only [List.map_append, List.map_cons, List.map_nil] at hn
  have h1 : who ∉ (hasK n.1 a).map (·.1) := fun h => by
    rw [List.nodup_append] at hn
    exact hn.2.2 _ h who (by simp) rfl
  have h2 : who ∉ (hasK n.1 b).map (·.1) := fun h => by
    rw [List.nodup_append] at hn
    have := hn.2.1
    simp only [List.cons_append, List.nil_append, List.nodup_cons] at this
    exact this.1 h
  rw [hasK_app]
  simp only [List.cons_append, List.nil_append, notWho, List.filter_append, List.filter_cons]
  simp only [decide_true, Bool.not_true, Bool.false_eq_true, if_false]
  rw [show (hasK n.1 a).filter (fun c => !decide (c.1 = who)) = hasK n.1 a from notWho_id h1, show (hasK n.1 b).filter (fun c => !decide (c.1 = who)) = hasK n.1 b from notWho_id h2]

theorem Sim.ask (s : Sim ls H W) (v : Inv ls ws) (who : Int) (n : Nee) :
    (∀ m, agt who ws = some m → askS who n ls ws = ((false, 131), ls, ws)) ∧
    (agt who ws = none → (∃ o ∈ H, o.1 = who ∧ o.2.1 = n.1) → (askS who n ls ws).1 = (false, 130) ∧ Sim (askS who n ls ws).2.1 H W) ∧
    (agt who ws = none → (¬ ∃ o ∈ H, o.1 = who ∧ o.2.1 = n.1) → (hasK n.1 W = [] ∧ couldB n H = true) → (askS who n ls ws).1 = (true, 0) ∧ Sim (askS who n ls ws).2.1 (H ++ [(who, n)]) W) ∧
    (agt who ws = none → (¬ ∃ o ∈ H, o.1 = who ∧ o.2.1 = n.1) → ¬ (hasK n.1 W = [] ∧ couldB n H = true) → (askS who n ls ws).1 = (false, 0) ∧ Sim (askS who n ls ws).2.1 H (W ++ [(who, n)])) := by
  have hst : ((agt n.1 ls).getD ([], [])) = (hasK n.1 H, hasK n.1 W) := by rw [s.h, s.w]
  have hpos : 0 ≤ posC who (hasK n.1 H) 0 ↔ ∃ o ∈ H, o.1 = who ∧ o.2.1 = n.1 := by rw [posC_mem, hasK_who]
  have hc := couldB_lets (s.al v n.1)
  refine ⟨fun m h => by simp only [askS, h], fun h h1 => ?_, fun h h1 h2 => ?_, fun h h1 h2 => ?_⟩
  · have e : askS who n ls ws = ((false, 130), aset n.1 (hasK n.1 H, hasK n.1 W) ls, ws) := by
      simp only [askS, h, hst, askT]
      rw [if_pos (hpos.2 h1)]
      rfl
    rw [e]
    refine ⟨rfl, fun y => ?_, fun y => ?_⟩
    · simp only [agt_aset_if]
      by_cases hy : y = n.1
      · rw [if_pos hy, hy]; rfl
      · rw [if_neg hy, s.h]
    · simp only [agt_aset_if]
      by_cases hy : y = n.1
      · rw [if_pos hy, hy]; rfl
      · rw [if_neg hy, s.w]
  · have e : askS who n ls ws = ((true, 0), aset n.1 (hasK n.1 H ++ [(who, n.2)], hasK n.1 W) ls, ws) := by
      simp only [askS, h, hst, askT]
      rw [if_neg (fun h => h1 (hpos.1 h)), if_pos ⟨h2.1, hc ▸ h2.2⟩]
      rfl
    rw [e]
    refine ⟨rfl, fun y => ?_, fun y => ?_⟩
    · simp only [agt_aset_if, hasK_app, hasK_one]
      by_cases hy : y = n.1
      · rw [if_pos hy, hy, if_pos rfl]; rfl
      · rw [if_neg hy, if_neg (fun e => hy e.symm), s.h, List.append_nil]
    · simp only [agt_aset_if]
      by_cases hy : y = n.1
      · rw [if_pos hy, hy]; rfl
      · rw [if_neg hy, s.w]
  · have e : askS who n ls ws = ((false, 0), aset n.1 (hasK n.1 H, hasK n.1 W ++ [(who, n.2)]) ls, aset who n ws) := by
      simp only [askS, h, hst, askT]
      rw [if_neg (fun h => h1 (hpos.1 h)), if_neg (by rw [← hc]; exact h2)]
      rfl
    rw [e]
    refine ⟨rfl, fun y => ?_, fun y => ?_⟩
    · simp only [agt_aset_if]
      by_cases hy : y = n.1
      · rw [if_pos hy, hy]; rfl
      · rw [if_neg hy, s.h]
    · simp only [agt_aset_if, hasK_app, hasK_one]
      by_cases hy : y = n.1
      · rw [if_pos hy, hy, if_pos rfl]; rfl
      · rw [if_neg hy, if_neg (fun e => hy e.symm), s.w, List.append_nil]
end
end Go.Proofs.YtacmnfpgimgigaaGreat

namespace Go.Proofs.YtacmnfpgimgigaaGreat
open Go
set_option linter.unusedSimpArgs false
set_option linter.unusedVariables false
set_option maxRecDepth 100000

/-! ### Letting in -/
structure LetR (x : Nam) (H W : List One) (l : List Claim) (H' W' : List One) : Prop where
  h : hasK x H' = (adm (hasK x H) (hasK x W)).1
  w : hasK x W' = (adm (hasK x H) (hasK x W)).2.1
  l : l = (adm (hasK x H) (hasK x W)).2.2
  o : ∀ y, y ≠ x → hasK y H' = hasK y H ∧ hasK y W' = hasK y W
  n : H'.length + W'.length = H.length + W.length
/-- .. on the way. -/
structure LetI (x : Nam) (H W : List One) (l1 : List Claim) (H1 W1 : List One) : Prop where
  a : adm (hasK x H) (hasK x W) = ((adm (hasK x H1) (hasK x W1)).1, (adm (hasK x H1) (hasK x W1)).2.1, l1 ++ (adm (hasK x H1) (hasK x W1)).2.2)
  al : Alone1 (hasK x H1)
  o : ∀ y, y ≠ x → hasK y H1 = hasK y H ∧ hasK y W1 = hasK y W
  n : H1.length + W1.length = H.length + W.length
  k : l1.length + W1.length = W.length

section
variable {x : Nam} {H W H1 W1 : List One} {l1 : List Claim}
theorem LetI.start (ha : Alone1 (hasK x H)) : LetI x H W [] H W := ⟨rfl, ha, fun _ _ => ⟨rfl, rfl⟩, rfl, by simp⟩
theorem hasK_first {a b : List One} {w : Int} {n : Nee} (h1 : ∀ y ∈ a, isLock n.1 y = false) : hasK n.1 (a ++ (w, n) :: b) = (w, n.2) :: hasK n.1 b := by
  rw [hasK_mid, if_pos rfl]
  have : hasK n.1 a = [] := by
    rw [List.eq_nil_iff_forall_not_mem]
    intro c hc
    have := h1 _ (mem_hasK.1 hc)
    simp [isLock] at this
  rw [this]
  rfl
theorem LetI.go {a b : List One} {w : Int} {n : Nee} (i : LetI n.1 H W l1 H1 (a ++ (w, n) :: b)) (h1 : ∀ y ∈ a, isLock n.1 y = false) (hc : couldB n H1 = true) : LetI n.1 H W (l1 ++ [(w, n.2)]) (H1 ++ [(w, n)]) (a ++ b) := by
  have hf := hasK_first (b := b) (w := w) h1
  have hb : hasK n.1 (a ++ b) = hasK n.1 b := by
    rw [hasK_app]
    have : hasK n.1 a = [] := by
      rw [List.eq_nil_iff_forall_not_mem]
      intro c hc
      have := h1 _ (mem_hasK.1 hc)
      simp [isLock] at this
    rw [this]
    rfl
  have hl : letsB (hasK n.1 H1) n.2 = true := by rw [← couldB_lets i.al]; exact hc
  have hH : hasK n.1 (H1 ++ [(w, n)]) = hasK n.1 H1 ++ [(w, n.2)] := by rw [hasK_app, hasK_one, if_pos rfl]
  have ha := i.a
  rw [hf, adm_go (c := (w, n.2)) hl] at ha
  refine ⟨?_, ?_, fun y hy => ?_, ?_, ?_⟩
  · rw [ha, hb, hH, List.append_assoc]
    rfl
  · rw [hH]
    have := adm_al (hasK n.1 H1) [(w, n.2)] i.al
    rw [adm_go (c := (w, n.2)) hl] at this
    exact this
  · obtain ⟨o1, o2⟩ := i.o y hy
    refine ⟨?_, ?_⟩
    · rw [hasK_app, hasK_one, if_neg (fun e => hy e.symm), List.append_nil, o1]
    · rw [← o2, hasK_out (o := (w, n)) (fun e => hy e.symm)]
  · have := i.n
    simp only [List.length_append, List.length_cons, List.length_nil] at this ⊢
    omega
  · have := i.k
    simp only [List.length_append, List.length_cons, List.length_nil] at this ⊢
    omega
theorem LetI.none (i : LetI x H W l1 H1 W1) (h1 : ∀ y ∈ W1, isLock x y = false) : LetR x H W l1 H1 W1 := by
  have hw : hasK x W1 = [] := by
    rw [List.eq_nil_iff_forall_not_mem]
    intro c hc
    have := h1 _ (mem_hasK.1 hc)
    simp [isLock] at this
  have ha := i.a
  rw [hw] at ha
  simp only [adm, List.append_nil] at ha
  exact ⟨by rw [ha], by rw [ha, hw], by rw [ha], i.o, i.n⟩
theorem LetI.stop {a b : List One} {w : Int} {n : Nee} (i : LetI n.1 H W l1 H1 (a ++ (w, n) :: b)) (h1 : ∀ y ∈ a, isLock n.1 y = false) (hc : couldB n H1 = false) : LetR n.1 H W l1 H1 (a ++ (w, n) :: b) := by
  have hf := hasK_first (b := b) (w := w) h1
  have hl : letsB (hasK n.1 H1) n.2 = false := by rw [← couldB_lets i.al]; exact hc
  have ha := i.a
  rw [hf, adm_stop (c := (w, n.2)) hl, ← hf] at ha
  simp only [List.append_nil] at ha
  exact ⟨by rw [ha], by rw [ha], by rw [ha], i.o, i.n⟩
end

section
variable {ls : List (Nam × LkS)} {ws : List (Int × Nee)} {H W : List One}
/-! ### Freeing and leaving -/
theorem Sim.free_no (s : Sim ls H W) {who : Int} {x : Nam} (h : ∀ o ∈ H, isAt who x false o = false) : freeS who x ls ws = (([], 1), ls, ws) := by
  refine freeS_no fun t ht => ?_
  have hx : hasK x H = t.1 := by rw [s.h, ht]; rfl
  rcases Int.lt_or_le (posC who t.1 0) 0 with h0 | h0
  · exact h0
  · rw [posC_mem, ← hx, hasK_who] at h0
    obtain ⟨o, ho, h1, h2⟩ := h0
    have := h o ho
    simp [isAt, h1, h2] at this
theorem Sim.free_go (s : Sim ls H W) (v : Inv ls ws) {a b H' W' : List One} {who : Int} {n : Nee} {l : List Claim} (he : H = a ++ (who, n) :: b) (r : LetR n.1 (a ++ b) W l H' W') :
    (freeS who n.1 ls ws).1 = (l, 0) ∧ Sim (freeS who n.1 ls ws).2.1 H' W' := by
  have hm : (who, n) ∈ H := by rw [he]; simp
  have hk := s.held.1 hm
  have ⟨t, ht, htm⟩ : ∃ t, agt n.1 ls = some t ∧ (who, n.2) ∈ t.1 := by
    unfold hsK at hk
    cases hx : agt n.1 ls with
    | none => rw [hx] at hk; cases hk
    | some t => rw [hx] at hk; exact ⟨t, rfl, hk⟩
  have hf := freeS_held v ht (List.mem_map.2 ⟨_, htm, rfl⟩)
  have h1 : hasK n.1 H = t.1 := by rw [s.h, ht]; rfl
  have h2 : hasK n.1 W = t.2 := by rw [s.w, ht]; rfl
  have h3 : hasK n.1 (a ++ b) = notWho who t.1 := by
    rw [← h1, he]
    refine hasK_take ?_
    rw [← he]
    exact s.hn v _
  have rh := r.h
  have rw' := r.w
  have rl := r.l
  rw [h3, h2] at rh rw' rl
  rw [hf]
  refine ⟨?_, s.turn (t := (notWho who t.1, t.2)) v.kn rh rw' fun y hy => ?_⟩
  · rw [rl]; rfl
  · obtain ⟨o1, o2⟩ := r.o y hy
    refine ⟨?_, o2⟩
    rw [o1, he, hasK_out (o := (who, n)) (fun e => hy e.symm)]
theorem leave1_no {who : Int} (h : agt who ws = none) : leave1 who ls ws = ([], ls, ws) := by simp only [leave1, h]
theorem Sim.leave1_go (s : Sim ls H W) (v : Inv ls ws) {a b H' W' : List One} {who : Int} {n : Nee} {l : List Claim} (he : W = a ++ (who, n) :: b) (r : LetR n.1 H (a ++ b) l H' W') :
    (leave1 who ls ws).1 = l ∧ Sim (leave1 who ls ws).2.1 H' W' := by
  have hm : (who, n) ∈ W := by rw [he]; simp
  have hw := (s.mem v).1 hm
  obtain ⟨t, ht, htm⟩ := v.wq who n.1 n.2 hw
  have hf : leave1 who ls ws = turnS n.1 (t.1, notWho who t.2) ls (adel who ws) := by simp [leave1, hw, ht]
  have h1 : hasK n.1 H = t.1 := by rw [s.h, ht]; rfl
  have h2 : hasK n.1 W = t.2 := by rw [s.w, ht]; rfl
  have h3 : hasK n.1 (a ++ b) = notWho who t.2 := by
    rw [← h2, he]
    refine hasK_take ?_
    rw [← he]
    exact s.qn v _
  have rh := r.h
  have rw' := r.w
  have rl := r.l
  rw [h3, h1] at rh rw' rl
  rw [hf]
  refine ⟨?_, s.turn (t := (t.1, notWho who t.2)) v.kn rh rw' fun y hy => ?_⟩
  · rw [rl]; rfl
  · obtain ⟨o1, o2⟩ := r.o y hy
    refine ⟨o1, ?_⟩
    rw [o2, he, hasK_out (o := (who, n)) (fun e => hy e.symm)]
theorem Sim.waitAl (s : Sim ls H W) (v : Inv ls ws) (x : Nam) : Alone1 (hasK x H) := s.al v x
theorem alone_out {who : Int} {n : Nee} {a b : List One} {x : Nam} (ha : Alone1 (hasK x (a ++ (who, n) :: b))) (hn : ((hasK n.1 (a ++ (who, n) :: b)).map (·.1)).Nodup) : Alone1 (hasK x (a ++ b)) := by
  by_cases hx : n.1 = x
  · subst hx
    rw [hasK_take hn]
    exact alone_notWho ha
  · rw [hasK_out (o := (who, n)) hx]; exact ha

/-! ### What is told in rising order -/
structure InsI {α : Type} (r : α → α → Prop) (a b : List α) (x : α) : Prop where
  s : (a ++ b).Pairwise r
  b : ∀ y ∈ b, r x y
theorem InsI.start {α : Type} {r : α → α → Prop} {a : List α} {x : α} (h : a.Pairwise r) : InsI r a [] x := ⟨by simpa using h, fun y hy => by cases hy⟩
theorem InsI.step {α : Type} {r : α → α → Prop} {a b : List α} {x z : α} (i : InsI r (a ++ [z]) b x) (h : r x z) : InsI r a (z :: b) x :=
  ⟨by have := i.s; rwa [List.append_assoc] at this, fun y hy => by
    rcases List.mem_cons.1 hy with rfl | hy
    · exact h
    · exact i.b y hy⟩
theorem InsI.done {α : Type} {r : α → α → Prop} {a b : List α} {x : α} (tr : ∀ x y z, r x y → r y z → r x z) (i : InsI r a b x) (h : ∀ z a', a = a' ++ [z] → r z x) : (a ++ x :: b).Pairwise r := by
  have hs := i.s
  rw [List.pairwise_append] at hs
  obtain ⟨s1, s2, s3⟩ := hs
  rw [List.pairwise_append]
  refine ⟨s1, List.pairwise_cons.2 ⟨i.b, s2⟩, fun y hy z hz => ?_⟩
  have hyx : r y x := by
    rcases List.eq_nil_or_concat a with rfl | ⟨a', q, rfl⟩
    · cases hy
    · rw [List.concat_eq_append] at *
      have hq := h q a' rfl
      rcases List.mem_append.1 hy with h1 | h1
      · have := (List.pairwise_append.1 s1).2.2 y h1 q (by simp)
        exact tr _ _ _ this hq
      · simp only [List.mem_singleton] at h1
        rw [h1]; exact hq
  rcases List.mem_cons.1 hz with rfl | hz
  · exact hyx
  · exact tr _ _ _ hyx (i.b z hz)

theorem leN_trans (x y z : Nee) (h1 : leN x y = true) (h2 : leN y z = true) : leN x z = true := by
  simp only [leN, Bool.not_eq_true', decide_eq_false_iff_not, cmpN_neg] at h1 h2 ⊢
  omega
theorem leN_of_gt {x z : Nee} (h : 0 < cmpN z.1 x.1) : leN x z = true := by
  simp only [leN, Bool.not_eq_true', decide_eq_false_iff_not]
  omega
theorem leN_of_le {x z : Nee} (h : ¬ 0 < cmpN z.1 x.1) : leN z x = true := by
  simp only [leN, Bool.not_eq_true', decide_eq_false_iff_not, cmpN_neg]
  have h1 := cmpN_cases z.1 x.1
  omega

theorem Sim.nodupW (s : Sim ls H W) (v : Inv ls ws) : (W.map (·.1)).Nodup := by
  have hW : W.Nodup := by
    rw [List.nodup_iff_count]
    intro o
    have h1 := s.qn v o.2.1
    have h2 : List.count o W ≤ List.count ((o.1, o.2.2) : Claim) (hasK o.2.1 W) := by
      unfold hasK
      refine Nat.le_trans (Nat.le_of_eq ?_) (List.count_le_count_map (f := fun o : One => ((o.1, o.2.2) : Claim)) (x := o))
      rw [List.count_filter]
      simp
    have h3 : (hasK o.2.1 W).Nodup := nodup_of_map h1
    exact Nat.le_trans h2 (List.nodup_iff_count.1 h3 _)
  rw [List.Nodup, List.pairwise_map]
  refine List.Pairwise.imp_of_mem (fun {a b} ha hb hne e => hne ?_) hW
  obtain ⟨w1, n1⟩ := a
  obtain ⟨w2, n2⟩ := b
  simp only at e
  subst e
  have h1 := (s.mem v).1 ha
  have h2 := (s.mem v).1 hb
  rw [h1] at h2
  simp only [Option.some.injEq] at h2
  rw [h2]

theorem Sim.heldS_eq (s : Sim ls H W) (v : Inv ls ws) {who : Int} {l : List Nee} (hp : l.Perm ((H.filter fun o => decide (o.1 = who)).map (·.2))) (hs : l.Pairwise fun x y => leN x y = true) : l = heldS who ls := by
  have hn : ((H.filter fun o => decide (o.1 = who)).map (·.2)).Nodup := by
    rw [List.Nodup, List.pairwise_map]
    refine List.Pairwise.imp_of_mem (fun {a b} ha hb hne e => hne ?_) ((s.nodupH v).filter _)
    have h1 := (List.mem_filter.1 ha).2
    have h2 := (List.mem_filter.1 hb).2
    simp only [decide_eq_true_eq] at h1 h2
    exact Prod.ext (h1.trans h2.symm) e
  have hnn := heldS_names who (ls := ls) v.kn
  have hln : l.Nodup := hp.nodup_iff.2 hn
  have hperm : l.Perm (heldS who ls) := by
    refine (List.perm_ext_iff_of_nodup hln (nodup_of_map hnn)).2 fun n => ?_
    rw [hp.mem_iff, List.mem_map, mem_held v (x := n.1) (a := n.2), ← s.held]
    constructor
    · rintro ⟨o, ho, rfl⟩
      obtain ⟨h1, h2⟩ := List.mem_filter.1 ho
      simp only [decide_eq_true_eq] at h2
      subst h2
      exact h1
    · intro h
      exact ⟨(who, n), List.mem_filter.2 ⟨h, by simp⟩, rfl⟩
  refine perm_sorted_unique (r := fun x y => leN x y = true) (fun x hx y hy h1 h2 => leN_anti hnn (hperm.mem_iff.1 hx) (hperm.mem_iff.1 hy) h1 h2) hperm hs ?_ fun x _ => leN_refl x
  exact leN_sorted _

theorem sorted_int_eq {l m : List Int} (hp : l.Perm m) (hs : l.Pairwise (· ≤ ·)) : l = m.mergeSort fun a b => decide (a ≤ b) := by
  refine perm_sorted_unique (r := fun x y : Int => x ≤ y) (fun x _ y _ h1 h2 => Int.le_antisymm h1 h2) (hp.trans (List.mergeSort_perm _ _).symm) hs ?_ fun x _ => Int.le_refl x
  have h1 : (m.mergeSort fun a b => decide (a ≤ b)).Pairwise fun a b => decide (a ≤ b) = true := List.pairwise_mergeSort (fun a b c => by simp; omega) (fun a b => by simp; omega) _
  exact h1.imp fun h => by simpa using h
theorem Sim.holders_eq (s : Sim ls H W) {x : Nam} {l : List Int} (hp : l.Perm ((H.filter (isLock x)).map (·.1))) (hs : l.Pairwise (· ≤ ·)) : l = holdersS x ls := by
  rw [sorted_int_eq hp hs]
  unfold holdersS
  rw [← s.h, hasK, List.map_map]
  rfl
theorem Sim.queue_eq (s : Sim ls H W) (x : Nam) : (W.filter (isLock x)).map (·.1) = queueS x ls := by
  unfold queueS
  rw [← s.w, hasK, List.map_map]
  rfl
theorem Sim.idle (s : Sim ls H W) (v : Inv ls ws) : H = [] ↔ ls = [] := by
  constructor
  · rintro rfl
    cases hl : ls with
    | nil => rfl
    | cons p l =>
      exfalso
      have h1 : agt p.1 ls = some p.2 := agt_of_mem v.kn (by rw [hl]; simp)
      have h2 := s.h p.1
      rw [h1] at h2
      exact v.ne _ _ h1 h2.symm
  · rintro rfl
    rw [List.eq_nil_iff_forall_not_mem]
    rintro ⟨w, n⟩ ho
    have := s.held.1 ho
    cases this

theorem StuckIs.eq {l m : List Int} (a : StuckIs ls ws l) (b : StuckIs ls ws m) : l = m := by
  have hn : ∀ {k : List Int}, k.Pairwise (· < ·) → k.Nodup := fun h => h.imp fun h => by omega
  refine perm_sorted_unique (r := fun x y : Int => x ≤ y) (fun x _ y _ h1 h2 => Int.le_antisymm h1 h2) ((List.perm_ext_iff_of_nodup (hn a.1) (hn b.1)).2 fun p => (a.2 p).trans (b.2 p).symm) (a.1.imp fun h => by omega) (b.1.imp fun h => by omega) fun x _ => Int.le_refl x
theorem Sim.stuck (s : Sim ls H W) (v : Inv ls ws) (h : ∀ o ∈ H, (agt o.1 ws).isSome = true) {l : List Int} (hp : l.Perm (W.map (·.1))) (hs : l.Pairwise (· ≤ ·)) : StuckIs ls ws l := by
  have hn : l.Nodup := hp.nodup_iff.2 (s.nodupW v)
  refine ⟨(hs.and hn).imp fun ⟨h1, h2⟩ => by omega, fun p => ?_⟩
  rw [stk_end v (fun x t ht c hc => ?_) p, hp.mem_iff, ← s.who v, List.mem_map]
  refine h (c.1, (x, c.2)) (s.held.2 ?_)
  unfold hsK
  rw [ht]
  exact hc
end
end Go.Proofs.YtacmnfpgimgigaaGreat

namespace Go.Proofs.YtacmnfpgimgigaaGreat
open Go
set_option linter.unusedVariables false

theorem RowO.mono {T s : Nat} {v : Value} {n : Nat} {xs : List Value} {h h' : Heap} (l : hle h h') (k : RowO T s v n xs h) : RowO T s v n xs h' := by
  rcases k with k | ⟨g, o, cap, cur, hv, hg, r⟩
  · exact .inl k
  · exact .inr ⟨g, o, cap, cur, hv, l g _ hg, r⟩

/-- As 'turn', of a part of many blocks. -/
theorem St.turnG {w0 w w' : World} {b : Nat} {A A' F : HP} (h : St w0 (A * F) w) (ho : w'.os = w.os) (ht : w'.tape = w.tape) (hu : w'.output = w.output) (hs : w.heap.size ≤ w'.heap.size)
    (hk : ∀ k, k ≠ b → k < w.heap.size → w'.heap[k]? = w.heap[k]?)
    (hA : ∀ h1, hle h1 (heapOf w) → A h1 → (∃ o, h1 b = some o) ∧ ∃ h', (∀ k o, h' k = some o → (∃ o', h1 k = some o') ∨ w.heap.size ≤ k) ∧ hle h' (heapOf w') ∧ A' h')
    (hdr : w.drawn ≤ w'.drawn := by first | exact Nat.le_refl _ | simp only [drawn_setCells, Nat.le_refl]) : St w0 (A' * F) w' := by
  obtain ⟨x, l, h1, h2, d, l1, l2, a, f⟩ := h.sat
  obtain ⟨⟨o, ho1⟩, h', hd', hl', a'⟩ := hA h1 (l1.trans l) a
  have hb2 : h2 b = none := (d b).resolve_left (by rw [ho1]; simp)
  have hlt : ∀ k o, h2 k = some o → k < w.heap.size := fun k o e => (Array.getElem?_eq_some_iff.1 (l k o (l2 k o e))).1
  have hl2 : hle h2 (heapOf w') := fun k o e => by
    have hne : k ≠ b := fun e' => by subst e'; rw [hb2] at e; cases e
    show w'.heap[k]? = some o
    rw [hk k hne (hlt k o e)]
    exact l k o (l2 k o e)
  refine ⟨ho.trans h.os, ht.trans h.tape, hu.trans h.output, Nat.le_trans h.drawn hdr, Nat.le_trans h.size hs, heapOf w', hle.rfl' _, h', h2, fun k => ?_, hl', hl2, a', f⟩
  cases hk' : h' k with
  | none => exact .inl rfl
  | some o' =>
    right
    rcases hd' k o' hk' with ⟨o2, h2'⟩ | hge
    · exact (d k).resolve_left (by rw [h2']; simp)
    · cases he : h2 k with
      | none => rfl
      | some o'' => have := hlt k o'' he; omega

/-- Slices of one's own that read m alone; they may share their blocks. -/
def GroupP (T : TypeId) (m : Value) (gs : List (Value × Nat)) : HP := fun h => ∀ p ∈ gs, RowO T 1 p.1 p.2 (List.replicate p.2 m) h
theorem GroupP.one (T : TypeId) (m : Value) (v : Value) (n : Nat) : Ent (RowO T 1 v n (List.replicate n m)) (GroupP T m [(v, n)]) := Ent.of fun h k p hp => by
  simp only [List.mem_singleton] at hp
  subst hp
  exact k
theorem GroupP.nil (T : TypeId) (m : Value) (F : HP) : Ent F (GroupP T m [] * F) := fun h hf => ⟨h, hle.rfl' h, fun _ => none, h, fun _ => .inl rfl, (fun _ _ e => by cases e), hle.rfl' h, (fun p hp => by simp at hp), hf⟩
theorem GroupP.reads {T : TypeId} {m : Value} {gs : List (Value × Nat)} {v : Value} {n : Nat} (hp : (v, n) ∈ gs) : Ent (GroupP T m gs) (Reads 1 v n (List.replicate n m)) := fun h k => by
  obtain ⟨h', l, r⟩ := RowO.reads T 1 v n (List.replicate n m) h (k (v, n) hp)
  exact ⟨h', l, r⟩
theorem GroupP.sub {T : TypeId} {m : Value} {gs gs' : List (Value × Nat)} (hs : ∀ p ∈ gs', p ∈ gs) : Ent (GroupP T m gs) (GroupP T m gs') := Ent.of fun h k p hp => k p (hs p hp)
theorem GroupP.add {T : TypeId} {m : Value} {gs : List (Value × Nat)} {v : Value} {n : Nat} {B : HP} (hB : ∀ h, B h → RowO T 1 v n (List.replicate n m) h) : Ent (B * GroupP T m gs) (GroupP T m ((v, n) :: gs)) := by
  rintro h ⟨h1, h2, d, l1, l2, a, k⟩
  refine ⟨h, hle.rfl' h, fun p hp => ?_⟩
  rcases List.mem_cons.1 hp with rfl | hp
  · exact (hB h1 a).mono l1
  · exact (k p hp).mono l2

/-- append of one mark more to one of them. -/
theorem St.appMark {P : Program} {w0 w : World} {F : HP} {t tx ty e bs : Nat} {zs : List Value} {v x mk : Value} {n : Nat} {gs : List (Value × Nat)} {K : Value → World → Prop} {θ : Tag K}
    (h : St w0 (GroupP e mk gs * F) w) (hp : (v, n) ∈ gs) (ht : rowTy P t = some (e, 1, bs, zs)) (hs : Src P 1 tx x 1 [mk] w) (h63 : n + 1 ≤ maxLen) (hb : (n + 1) * bs ≤ 140737488355328)
    (hK : ∀ v' w', St w0 (GroupP e mk ((v', n + 1) :: gs) * F) w' → K v' w') : semD P (kAppend #[t, tx] ty #[v, x]) w K θ := by
  show semD P (Builtin.append_ #[t, tx] ty #[v, x]) w K θ
  obtain ⟨hu, i, z, hi, hz, h1s, rfl, hzs, rfl⟩ := rowTy_some ht
  obtain ⟨hh, hl, h1, h2, hd, l1, l2, hr, hf⟩ := h.sat
  have hv : RowO e 1 v n (List.replicate n mk) h1 := hr (v, n) hp
  have hrep : List.replicate n mk ++ [mk] = List.replicate (n + 1) mk := by rw [List.replicate_succ']
  have h63' : ((n + 1 : Nat) : Int) ≤ 9223372036854775807 := by simp only [maxLen] at h63; omega
  have hnl : (List.replicate n mk).length = n * i.size := by rw [List.length_replicate, h1s]; omega
  have hs' : Src P i.size tx x 1 [mk] w := by rw [h1s]; exact hs
  have grow : ∀ (base : Option Addr) (cap : Nat), v = .slice base n cap → cap < n + 1 → (Builtin.firstCells i.size n (.slice base n cap)).run P w.drew = .ok (List.replicate n mk).toArray w.drew →
      semD P (Builtin.append_ #[t, tx] ty #[v, x]) w K θ := by
    intro base cap hv hc hold
    subst hv
    have := run_append_grow_src (P := P) w t tx ty e i z hu hi hz base n cap (List.replicate n mk) hold x 1 [mk] hs' hc h63' (growslice_fits hc hb)
    refine ⟨_, _, this, hK _ _ ?_⟩
    have hg := grownCap_ge w (n + 1) cap e
    have hcm := grownCap_le_maxLen w (n + 1) cap e h63
    have hst : St w0 (GroupP e mk gs * F) w.drew := St.drew h
    refine ((hst.alloc _).ac (sep_assoc _ _ _).symm).ent (Ent.sep (GroupP.add fun k hk => .inr ⟨w.heap.size, 0, grownCap w (n + 1) cap e, _, rfl, hk, hg, hcm, ?_, ?_, ?_⟩) (Ent.rfl' F))
    · simp only [Array.size_append, List.size_toArray, List.length_append, size_zeroCells, hzs, List.length_replicate, List.length_cons, List.length_nil]
      omega
    · simp only [Array.toList_append, List.drop_zero]
      rw [hrep, show (n + 1) * 1 = (List.replicate (n + 1) mk).length by simp]
      exact List.take_left
    · rw [List.length_replicate]; omega
  rcases hv with ⟨rfl, h0, _⟩ | ⟨g, o, cap, cur, rfl, hg, hnc, hcm, hcs, htake, _⟩
  · subst h0
    exact grow none 0 rfl (by omega) (by simp [Builtin.firstCells])
  · have hgw : w.heap[g]? = some (.cells cur e (0, 0)) := hl g _ (l1 g _ hg)
    by_cases hroom : n + 1 ≤ cap
    · have hfit : o + n * i.size + [mk].length ≤ cur.size := by rw [h1s]; simp; omega
      have := run_append_room_src (P := P) w t tx ty e i hu hi g o n cap x 1 [mk] hs' hroom
        (fun j hj => by rw [cell_of_heap hgw]; simp only [List.length_cons, List.length_nil] at hj hfit; simp [show o + n * i.size + j < cur.size by omega]) (fun j _ => frozen_of_heap hgw _)
      refine ⟨_, _, this, hK _ _ ?_⟩
      obtain ⟨a1, a2, a3, a4, a5, a6⟩ := heap_setCells g e (0, 0) [mk] (o + n * i.size) w cur hgw
      rw [h1s, Nat.mul_one] at a1 hfit ⊢
      rw [h1s, Nat.mul_one] at a2 a4 a5 a6
      simp only [List.length_cons, List.length_nil] at hfit
      refine h.turnG (b := g) a4 a5 a6 (by rw [h1s, Nat.mul_one] at a3; omega) (fun k hk _ => a2 k hk) fun hx lx ax => ?_
      have hgx : hx g = some (.cells cur e (0, 0)) := by
        have hvx := ax _ hp
        rcases hvx with ⟨hv, _⟩ | ⟨g', o', cap', cur', hv, hg', _⟩
        · cases hv
        · simp only [Value.slice.injEq, Option.some.injEq, Addr.mk.injEq] at hv
          obtain ⟨⟨rfl, rfl, _⟩, _⟩ := hv
          have := lx _ _ hg'
          rw [hg', ← this]
          exact hgw
      refine ⟨⟨_, hgx⟩, fun k => if k = g then some (.cells (setRowL cur.toList (o + n) [mk]).toArray e (0, 0)) else hx k, fun k q he => ?_, fun k q he => ?_, fun p hp' => ?_⟩
      · by_cases hkg : k = g
        · subst hkg; exact .inl ⟨_, hgx⟩
        · simp only [if_neg hkg] at he; exact .inl ⟨_, he⟩
      · by_cases hkg : k = g
        · subst hkg
          simp only [if_true] at he
          exact a1.trans he
        · simp only [if_neg hkg] at he
          have := lx k q he
          show _ = some q
          rw [← this]
          exact a2 k hkg
      · have hset : setRowL cur.toList (o + n) [mk] = cur.toList.set (o + n) mk := by simp [setRowL]
        rcases List.mem_cons.1 hp' with rfl | hp'
        · refine .inr ⟨g, o, cap, (setRowL cur.toList (o + n) [mk]).toArray, rfl, if_pos rfl, hroom, hcm, by simp [length_setRowL]; omega, ?_, by simp⟩
          rw [List.toList_toArray, hset]
          have e1 : (cur.toList.drop o).take (n * 1) = List.replicate n mk := htake
          rw [Nat.mul_one] at e1
          simp only [Nat.mul_one]
          rw [← hrep, ← e1, List.drop_set, if_neg (by omega), show o + n - o = n by omega]
          apply List.ext_getElem?
          intro j
          rw [List.getElem?_take, List.getElem?_append]
          have hlen : ((cur.toList.drop o).take n).length = n := by rw [List.length_take, List.length_drop, Array.length_toList]; omega
          rw [hlen]
          by_cases hj : j < n
          · rw [if_pos (by omega), if_pos hj, List.getElem?_set_ne (by omega), List.getElem?_take, if_pos hj]
          · rw [if_neg hj]
            by_cases hj2 : j = n
            · subst hj2
              rw [if_pos (by omega), List.getElem?_set_self (by rw [List.length_drop, Array.length_toList]; omega), Nat.sub_self]
              rfl
            · rw [if_neg (by omega), List.getElem?_eq_none (by simp; omega)]
        · rcases ax p hp' with ⟨hv, hn, hx0⟩ | ⟨g', o', cap', cur', hv, hg', hn', hc', hs', ht', hl'⟩
          · exact .inl ⟨hv, hn, hx0⟩
          · by_cases hgg : g' = g
            · subst hgg
              rw [hgx] at hg'
              simp only [Option.some.injEq, Obj.cells.injEq] at hg'
              obtain ⟨rfl, _⟩ := hg'
              refine .inr ⟨g', o', cap', (setRowL cur.toList (o + n) [mk]).toArray, hv, if_pos rfl, hn', hc', by simpa [length_setRowL] using hs', ?_, hl'⟩
              rw [List.toList_toArray, hset]
              simp only [Nat.mul_one] at ht' ⊢
              apply List.ext_getElem?
              intro j
              have hj0 := congrArg (fun l => l[j]?) ht'
              simp only [List.getElem?_take, List.getElem?_drop, List.getElem?_replicate] at hj0 ⊢
              by_cases hj : j < p.2
              · rw [if_pos hj] at hj0 ⊢
                rw [if_pos hj] at hj0
                rw [if_pos hj]
                by_cases he : o + n = o' + j
                · rw [he, List.getElem?_set_self (by
                    have := (List.getElem?_eq_some_iff.1 hj0).1
                    exact this)]
                · rw [List.getElem?_set_ne he, hj0]
              · rw [if_neg hj, if_neg hj]
            · exact .inr ⟨g', o', cap', cur', hv, (if_neg hgg).trans hg', hn', hc', hs', ht', hl'⟩
    · refine grow (some ⟨g, o, none⟩) cap rfl (by omega) ?_
      have hc : ∀ j u, (List.replicate n mk)[j]? = some u → w.drew.cell? ((⟨g, o, none⟩ : Addr).add j) = some u := by
        intro j u hu
        rw [add_lit]
        have : w.drew.cell? ⟨g, o + j, none⟩ = cur[o + j]? := cell_of_heap (w := w.drew) hgw (o + j)
        rw [this]
        rw [← htake, List.getElem?_take] at hu
        split at hu
        · simpa [List.getElem?_drop] using hu
        · cases hu
      exact run_firstCells_some w.drew i.size n ⟨g, o, none⟩ n cap (List.replicate n mk) hnl hc

end Go.Proofs.YtacmnfpgimgigaaGreat

namespace Go.Proofs.YtacmnfpgimgigaaGreat
open Go
set_option linter.unusedVariables false

/-- n rows of a mark. -/
def repR (n : Nat) (mk : List Value) : List Value := (List.replicate n mk).flatten
theorem repR_succ (n : Nat) (mk : List Value) : repR (n + 1) mk = mk ++ repR n mk := rfl
theorem repR_length (n : Nat) (mk : List Value) : (repR n mk).length = n * mk.length := by
  induction n with
  | zero => simp [repR]
  | succ n ih => rw [repR_succ, List.length_append, ih, Nat.add_mul]; omega
theorem repR_snoc (n : Nat) (mk : List Value) : repR n mk ++ mk = repR (n + 1) mk := by
  induction n with
  | zero => simp [repR]
  | succ n ih => rw [repR_succ, List.append_assoc, ih]; rfl
theorem repR_get {s : Nat} {mk : List Value} (hs : mk.length = s) (h0 : 0 < s) : ∀ (n j : Nat), j < n * s → (repR n mk)[j]? = mk[j % s]?
  | 0, j, h => by omega
  | n + 1, j, h => by
    rw [repR_succ]
    by_cases hj : j < s
    · rw [List.getElem?_append_left (by omega), Nat.mod_eq_of_lt hj]
    · rw [List.getElem?_append_right (by omega), hs, repR_get hs h0 n (j - s) (by rw [Nat.add_mul] at h; omega)]
      congr 1
      rw [← Nat.mod_eq_sub_mod (by omega)]
theorem repR_cells {mk : List Value} (hc : ∀ v ∈ mk, isCell v = true) (n : Nat) : ∀ v ∈ repR n mk, isCell v = true := by
  intro v hv
  unfold repR at hv
  obtain ⟨l, hl, hvl⟩ := List.mem_flatten.1 hv
  rw [(List.mem_replicate.1 hl).2] at hvl
  exact hc v hvl

/-- A slice that reads the mark alone; rows of its block stand in step with the others. -/
def RowW (T s : Nat) (ρ : Nat → Nat) (mk : List Value) (v : Value) (n : Nat) : HP := fun h =>
  (v = .slice none 0 0 ∧ n = 0) ∨
  ∃ g o cap cur, v = .slice (some ⟨g, o, none⟩) n cap ∧ h g = some (.cells cur T (0, 0)) ∧ n ≤ cap ∧ cap ≤ maxLen ∧ o + cap * s ≤ cur.size ∧ o % s = ρ g ∧ ∀ j, j < n * s → cur[o + j]? = mk[j % s]?
def GroupS (T s : Nat) (mk : List Value) (gs : List (Value × Nat)) : HP := fun h => ∃ ρ : Nat → Nat, ∀ p ∈ gs, RowW T s ρ mk p.1 p.2 h

theorem RowW.rowO {T s : Nat} {ρ : Nat → Nat} {mk : List Value} {v : Value} {n : Nat} {h : Heap} (hs : mk.length = s) (h0 : 0 < s) (k : RowW T s ρ mk v n h) : RowO T s v n (repR n mk) h := by
  rcases k with ⟨rfl, rfl⟩ | ⟨g, o, cap, cur, rfl, hg, hn, hc, hz, _, hr⟩
  · exact .inl ⟨rfl, rfl, rfl⟩
  · have hle : n * s ≤ cap * s := Nat.mul_le_mul_right s hn
    refine .inr ⟨g, o, cap, cur, rfl, hg, hn, hc, hz, ?_, by rw [repR_length, hs]⟩
    apply List.ext_getElem?
    intro j
    rw [List.getElem?_take, List.getElem?_drop]
    by_cases hj : j < n * s
    · rw [if_pos hj, repR_get hs h0 n j hj, ← hr j hj, Array.getElem?_toList]
    · rw [if_neg hj, List.getElem?_eq_none (by rw [repR_length, hs]; omega)]
theorem RowO.rowW {T s : Nat} {mk : List Value} {v : Value} {n : Nat} {h : Heap} (hs : mk.length = s) (h0 : 0 < s) (k : RowO T s v n (repR n mk) h) : ∃ r, ∀ ρ : Nat → Nat, (∀ g o, (h g = some o) → (∃ p c, v = .slice (some ⟨g, p, none⟩) n c) → ρ g = r) → RowW T s ρ mk v n h := by
  rcases k with ⟨rfl, rfl, _⟩ | ⟨g, o, cap, cur, rfl, hg, hn, hc, hz, ht, _⟩
  · exact ⟨0, fun ρ _ => .inl ⟨rfl, rfl⟩⟩
  · have hle : n * s ≤ cap * s := Nat.mul_le_mul_right s hn
    refine ⟨o % s, fun ρ hρ => .inr ⟨g, o, cap, cur, rfl, hg, hn, hc, hz, (hρ g _ hg ⟨o, cap, rfl⟩).symm, fun j hj => ?_⟩⟩
    have := congrArg (fun l => l[j]?) ht
    simp only [List.getElem?_take, List.getElem?_drop, if_pos hj] at this
    rw [repR_get hs h0 n j hj, Array.getElem?_toList] at this
    exact this

theorem GroupS.one {T s : Nat} {mk : List Value} (hs : mk.length = s) (h0 : 0 < s) (v : Value) (n : Nat) : Ent (RowO T s v n (repR n mk)) (GroupS T s mk [(v, n)]) := Ent.of fun h k => by
  obtain ⟨r, hr⟩ := RowO.rowW hs h0 k
  refine ⟨fun _ => r, fun p hp => ?_⟩
  simp only [List.mem_singleton] at hp
  subst hp
  exact hr _ fun _ _ _ _ => rfl
theorem GroupS.reads {T s : Nat} {mk : List Value} {gs : List (Value × Nat)} {v : Value} {n : Nat} (hs : mk.length = s) (h0 : 0 < s) (hp : (v, n) ∈ gs) : Ent (GroupS T s mk gs) (Reads s v n (repR n mk)) := fun h ⟨ρ, k⟩ => by
  obtain ⟨h', l, r⟩ := RowO.reads T s v n (repR n mk) h ((k (v, n) hp).rowO hs h0)
  exact ⟨h', l, r⟩
theorem RowW.mono {T s : Nat} {ρ ρ' : Nat → Nat} {mk : List Value} {v : Value} {n : Nat} {h h' : Heap} (l : hle h h') (hρ : ∀ g o, h g = some o → ρ' g = ρ g) (k : RowW T s ρ mk v n h) : RowW T s ρ' mk v n h' := by
  rcases k with k | ⟨g, o, cap, cur, hv, hg, hn, hc, hz, hm, hr⟩
  · exact .inl k
  · exact .inr ⟨g, o, cap, cur, hv, l g _ hg, hn, hc, hz, hm.trans (hρ g _ hg).symm, hr⟩
theorem GroupS.add {T s : Nat} {mk : List Value} {gs : List (Value × Nat)} {v : Value} {n : Nat} {B : HP} (hs : mk.length = s) (h0 : 0 < s) (hB : ∀ h, B h → RowO T s v n (repR n mk) h) : Ent (B * GroupS T s mk gs) (GroupS T s mk ((v, n) :: gs)) := by
  rintro h ⟨h1, h2, d, l1, l2, a, ρ, k⟩
  obtain ⟨r, hr⟩ := RowO.rowW hs h0 (hB h1 a)
  refine ⟨h, hle.rfl' h, fun g => if (h1 g).isSome = true then r else ρ g, fun p hp => ?_⟩
  rcases List.mem_cons.1 hp with rfl | hp
  · exact (hr (fun g => if (h1 g).isSome = true then r else ρ g) fun g o hg _ => if_pos (by rw [hg]; rfl)).mono l1 fun _ _ _ => rfl
  · refine (k p hp).mono l2 fun g o hg => ?_
    have : h1 g = none := (d g).resolve_right (by rw [hg]; simp)
    exact if_neg (by rw [this]; simp)

/-- append of one mark's row more to one of them. -/
theorem St.appMarkS {P : Program} {w0 w : World} {F : HP} {t tx ty e s bs : Nat} {zs : List Value} {v x : Value} {mk : List Value} {n : Nat} {gs : List (Value × Nat)} {K : Value → World → Prop} {θ : Tag K}
    (h : St w0 (GroupS e s mk gs * F) w) (hmk : mk.length = s) (h0 : 0 < s) (hp : (v, n) ∈ gs) (ht : rowTy P t = some (e, s, bs, zs)) (hsr : Src P s tx x 1 mk w) (h63 : n + 1 ≤ maxLen) (hb : (n + 1) * bs ≤ 140737488355328)
    (hK : ∀ v' w', St w0 (GroupS e s mk ((v', n + 1) :: gs) * F) w' → K v' w') : semD P (kAppend #[t, tx] ty #[v, x]) w K θ := by
  show semD P (Builtin.append_ #[t, tx] ty #[v, x]) w K θ
  obtain ⟨hu, i, z, hi, hz, h1s, rfl, hzs, rfl⟩ := rowTy_some ht
  obtain ⟨hh, hl, h1, h2, hd, l1, l2, hr, hf⟩ := h.sat
  have hv : RowO e s v n (repR n mk) h1 := by
    obtain ⟨ρ, hr⟩ := hr
    exact (hr (v, n) hp).rowO hmk h0
  have hrep := repR_snoc n mk
  have h63' : ((n + 1 : Nat) : Int) ≤ 9223372036854775807 := by simp only [maxLen] at h63; omega
  have hnl : (repR n mk).length = n * i.size := by rw [repR_length, hmk, h1s]
  have hs' : Src P i.size tx x 1 mk w := by rw [h1s]; exact hsr
  have grow : ∀ (base : Option Addr) (cap : Nat), v = .slice base n cap → cap < n + 1 → (Builtin.firstCells i.size n (.slice base n cap)).run P w.drew = .ok (repR n mk).toArray w.drew →
      semD P (Builtin.append_ #[t, tx] ty #[v, x]) w K θ := by
    intro base cap hv hc hold
    subst hv
    have := run_append_grow_src (P := P) w t tx ty e i z hu hi hz base n cap (repR n mk) hold x 1 mk hs' hc h63' (growslice_fits hc hb)
    refine ⟨_, _, this, hK _ _ ?_⟩
    have hg := grownCap_ge w (n + 1) cap e
    have hcm := grownCap_le_maxLen w (n + 1) cap e h63
    have hst : St w0 (GroupS e s mk gs * F) w.drew := St.drew h
    have hnm : (n + 1) * s ≤ grownCap w (n + 1) cap e * s := Nat.mul_le_mul_right s hg
    have hnm' : (n + 1) * s = n * s + s := by rw [Nat.add_mul, Nat.one_mul]
    refine ((hst.alloc _).ac (sep_assoc _ _ _).symm).ent (Ent.sep (GroupS.add hmk h0 fun k hk => .inr ⟨w.heap.size, 0, grownCap w (n + 1) cap e, _, rfl, hk, hg, hcm, ?_, ?_, ?_⟩) (Ent.rfl' F))
    · have hlm : (repR n mk ++ mk).length = n * s + s := by rw [List.length_append, repR_length, hmk]
      simp only [Array.size_append, List.size_toArray, size_zeroCells, hzs, hlm, h1s, Nat.sub_mul, hnm'] at *
      omega
    · simp only [Array.toList_append, List.drop_zero]
      rw [hrep, show (n + 1) * s = (repR (n + 1) mk).length by rw [repR_length, hmk]]
      exact List.take_left
    · rw [repR_length, hmk]
  rcases hv with ⟨rfl, hn0, _⟩ | ⟨g, o, cap, cur, rfl, hg, hnc, hcm, hcs, htake, _⟩
  · subst hn0
    exact grow none 0 rfl (by omega) (by simp [Builtin.firstCells, repR])
  · have hgw : w.heap[g]? = some (.cells cur e (0, 0)) := hl g _ (l1 g _ hg)
    by_cases hroom : n + 1 ≤ cap
    · have hle : (n + 1) * s ≤ cap * s := Nat.mul_le_mul_right s hroom
      have hn1 : (n + 1) * s = n * s + s := by rw [Nat.add_mul, Nat.one_mul]
      have hfit : o + n * i.size + mk.length ≤ cur.size := by rw [h1s, hmk]; omega
      have := run_append_room_src (P := P) w t tx ty e i hu hi g o n cap x 1 mk hs' hroom
        (fun j hj => by rw [cell_of_heap hgw]; simp [show o + n * i.size + j < cur.size by omega]) (fun j _ => frozen_of_heap hgw _)
      refine ⟨_, _, this, hK _ _ ?_⟩
      obtain ⟨a1, a2, a3, a4, a5, a6⟩ := heap_setCells g e (0, 0) mk (o + n * i.size) w cur hgw
      rw [h1s] at a1 a2 a3 a4 a5 a6 hfit ⊢
      refine h.turnG (b := g) a4 a5 a6 (by omega) (fun k hk _ => a2 k hk) fun hx lx ax => ?_
      obtain ⟨ρ, ax⟩ := ax
      have hgx : hx g = some (.cells cur e (0, 0)) ∧ o % s = ρ g ∧ ∀ j, j < n * s → cur[o + j]? = mk[j % s]? := by
        have hvx := ax _ hp
        rcases hvx with ⟨hv, _⟩ | ⟨g', o', cap', cur', hv, hg', _, _, _, hm', hr'⟩
        · cases hv
        · simp only [Value.slice.injEq, Option.some.injEq, Addr.mk.injEq] at hv
          obtain ⟨⟨rfl, rfl, _⟩, _⟩ := hv
          have h3 := lx _ _ hg'
          have h4 : (some (Obj.cells cur' e (0, 0)) : Option Obj) = some (.cells cur e (0, 0)) := by rw [← h3]; exact hgw
          simp only [Option.some.injEq, Obj.cells.injEq] at h4
          obtain ⟨rfl, _⟩ := h4
          exact ⟨hg', hm', hr'⟩
      obtain ⟨hgx, hmo, hrd⟩ := hgx
      refine ⟨⟨_, hgx⟩, fun k => if k = g then some (.cells (setRowL cur.toList (o + n * s) mk).toArray e (0, 0)) else hx k, fun k q he => ?_, fun k q he => ?_, ρ, fun p hp' => ?_⟩
      · by_cases hkg : k = g
        · subst hkg; exact .inl ⟨_, hgx⟩
        · simp only [if_neg hkg] at he; exact .inl ⟨_, he⟩
      · by_cases hkg : k = g
        · subst hkg
          simp only [if_true] at he
          exact a1.trans he
        · simp only [if_neg hkg] at he
          have := lx k q he
          show _ = some q
          rw [← this]
          exact a2 k hkg
      · -- cells of the block, behind the store
        have hin : ∀ i, i < s → (setRowL cur.toList (o + n * s) mk).toArray[o + n * s + i]? = mk[i]? := fun i hi => by
          rw [List.getElem?_toArray]
          exact getElem?_setRowL_in mk cur.toList (o + n * s) i (by omega) (by rw [Array.length_toList]; omega)
        have hout : ∀ c, (c < o + n * s ∨ o + n * s + s ≤ c) → (setRowL cur.toList (o + n * s) mk).toArray[c]? = cur[c]? := fun c hc => by
          rw [List.getElem?_toArray, ← Array.getElem?_toList]
          rcases hc with hc | hc
          · exact getElem?_setRowL_lt mk cur.toList (o + n * s) c hc
          · exact getElem?_setRowL_ge mk cur.toList (o + n * s) c (by omega)
        rcases List.mem_cons.1 hp' with rfl | hp'
        · refine .inr ⟨g, o, cap, (setRowL cur.toList (o + n * s) mk).toArray, rfl, if_pos rfl, hroom, hcm, by simp [length_setRowL]; omega, hmo, fun j hj => ?_⟩
          by_cases hjn : j < n * s
          · rw [hout _ (.inl (by omega)), hrd j hjn]
          · obtain ⟨i, rfl⟩ : ∃ i, j = n * s + i := ⟨j - n * s, by omega⟩
            have hi : i < s := by simp only at hj; omega
            rw [← Nat.add_assoc, hin i hi, show (n * s + i) % s = i by rw [Nat.mul_comm, Nat.mul_add_mod, Nat.mod_eq_of_lt hi]]
        · rcases ax p hp' with hv | ⟨g', o', cap', cur', hv, hg', hn', hc', hs2, hm', hr'⟩
          · exact .inl hv
          · by_cases hgg : g' = g
            · subst hgg
              rw [hgx] at hg'
              simp only [Option.some.injEq, Obj.cells.injEq] at hg'
              obtain ⟨rfl, _⟩ := hg'
              refine .inr ⟨g', o', cap', (setRowL cur.toList (o + n * s) mk).toArray, hv, if_pos rfl, hn', hc', by simpa [length_setRowL] using hs2, hm', fun j hj => ?_⟩
              by_cases hc : o + n * s ≤ o' + j ∧ o' + j < o + n * s + s
              · obtain ⟨i, hi⟩ : ∃ i, o' + j = o + n * s + i := ⟨o' + j - (o + n * s), by omega⟩
                rw [hi, hin i (by omega)]
                have h5 : (o' + j) % s = (o + n * s + i) % s := by rw [hi]
                have hmm : o' % s = o % s := hm'.trans hmo.symm
                have h6 : (o + n * s + i) % s = (o + i) % s := by rw [show o + n * s + i = o + i + n * s by omega, Nat.add_mul_mod_self_right]
                rw [h6, Nat.add_mod, hmm, ← Nat.add_mod] at h5
                have h7 : (o + j) % s = (o + i) % s := h5
                have h8 : j % s = i % s := by
                  have h9 : ((o + j : Nat) : Int) % (s : Int) = ((o + i : Nat) : Int) % (s : Int) := by exact_mod_cast congrArg (Nat.cast : Nat → Int) h7
                  rw [Int.natCast_add, Int.natCast_add, Int.add_comm (o : Int) j, Int.add_comm (o : Int) i, Int.emod_add_cancel_right] at h9
                  exact_mod_cast h9
                rw [h8, Nat.mod_eq_of_lt (by omega)]
              · rw [hout _ (by omega)]
                exact hr' j hj
            · exact .inr ⟨g', o', cap', cur', hv, (if_neg hgg).trans hg', hn', hc', hs2, hm', hr'⟩
    · refine grow (some ⟨g, o, none⟩) cap rfl (by omega) ?_
      have hc : ∀ j u, (repR n mk)[j]? = some u → w.drew.cell? ((⟨g, o, none⟩ : Addr).add j) = some u := by
        intro j u hu
        rw [add_lit]
        have : w.drew.cell? ⟨g, o + j, none⟩ = cur[o + j]? := cell_of_heap (w := w.drew) hgw (o + j)
        rw [this]
        rw [← htake, List.getElem?_take] at hu
        split at hu
        · simpa [List.getElem?_drop] using hu
        · cases hu
      exact run_firstCells_some w.drew i.size n ⟨g, o, none⟩ n cap (repR n mk) hnl hc

end Go.Proofs.YtacmnfpgimgigaaGreat

namespace Go.Proofs.YtacmnfpgimgigaaGreat
open Go
set_option linter.unusedVariables false

theorem rSlice_choose {α β : Type} {s b : Nat} {R : Rdr α} {enc : β → List Value} {p : β → Heap → Prop} (he : ∀ x cs h, R.rel x cs h → ∃ y, cs = enc y ∧ p y h) (hk : ∀ y, (enc y).length = s) {xs : List α} {v : Value} {h : Heap}
    (c : (rSlice s b R).rel xs [v] h) : ∃ ys : List β, ys.length = xs.length ∧ (∀ y ∈ ys, p y h) ∧ Reads s v ys.length (ys.flatMap enc) h := by
  obtain ⟨a, cap, e, l, m, r, k⟩ := c
  simp only [List.cons.injEq, and_true] at e
  subst e
  rcases k with k | ⟨g, o, cur, T, fr, ea, hg, hj⟩
  · subst k
    exact ⟨[], rfl, fun y hy => by simp at hy, by simp, a, cap, rfl, l, .inl rfl⟩
  · obtain ⟨ys, hl, hy⟩ := choose_list (n := xs.length) (p := fun j (y : β) => (cur.toList.drop (o + j * s)).take s = enc y ∧ p y h) fun j hj' => he _ _ _ (hj j hj').2
    refine ⟨ys, hl, fun y hm => ?_, ?_⟩
    · obtain ⟨i, hi, rfl⟩ := List.getElem_of_mem hm
      exact (hy i hi).2
    · refine ⟨flatMap_length hk ys, a, cap, by rw [hl], by omega, .inr ⟨g, o, cur, T, fr, ea, hg, fun t ht => ?_⟩⟩
      rw [flatMap_length hk] at ht
      obtain ⟨i, j, hi, hjs, e, hf⟩ := flatMap_at_all hk ys t ht
      rw [hf, ← (hy i hi).1, e, List.getElem?_take_of_lt hjs, List.getElem?_drop, Array.getElem?_toList]
      congr 1
      omega

/-- A part of an element, as a row. -/
theorem rowV_part {w : World} {b o k lo n : Nat} {cs : List Value} (hk : cs.length = k) (hc : ∀ j, j < k → w.cell? ⟨b, o + j, none⟩ = cs[j]?) (h : lo + n ≤ k) : rowV w ⟨b, o + lo, none⟩ n = some (.agg ((cs.drop lo).take n).toArray) := by
  unfold rowV
  rw [cellsFrom_of w _ n 0 ((cs.drop lo).take n) (by rw [List.length_take, List.length_drop]; omega) fun j hj => by
    rw [Nat.zero_add, add_lit, Nat.add_assoc, hc (lo + j) (by omega), List.getElem?_take_of_lt hj, List.getElem?_drop]]
  rfl

end Go.Proofs.YtacmnfpgimgigaaGreat

namespace Go.Proofs.YtacmnfpgimgigaaGreat
open Go
set_option linter.unusedSimpArgs false
set_option linter.unusedVariables false
set_option maxRecDepth 100000

/-- A star over a list. -/
def starL {α : Type} (A : α → HP) : List α → HP
  | [] => EmpH
  | x :: l => A x * starL A l
theorem Ent.embL (F : HP) : Ent F (EmpH * F) := fun h hf => ⟨h, hle.rfl' h, fun _ => none, h, fun _ => .inl rfl, (fun _ _ e => by cases e), hle.rfl' h, trivial, hf⟩
theorem starL_join {α : Type} (A : α → HP) : ∀ (l1 l2 : List α), Ent (starL A l1 * starL A l2) (starL A (l1 ++ l2))
  | [], l2 => Ent.right _ _
  | x :: l1, l2 => by
    show Ent (A x * starL A l1 * starL A l2) (A x * starL A (l1 ++ l2))
    rw [sep_assoc]
    exact Ent.sep (Ent.rfl' _) (starL_join A l1 l2)
theorem starL_mem {α : Type} {A : α → HP} {x : α} : ∀ {l : List α}, x ∈ l → Ent (starL A l) (A x)
  | y :: l, h => by
    rcases List.mem_cons.1 h with rfl | h
    · exact Ent.left _ _
    · exact (Ent.right _ _).trans (starL_mem h)
theorem starL_mid {α : Type} (A : α → HP) (x : α) : ∀ (l1 l2 : List α), starL A (l1 ++ x :: l2) = A x * starL A (l1 ++ l2)
  | [], l2 => rfl
  | y :: l1, l2 => by
    show A y * starL A (l1 ++ x :: l2) = A x * (A y * starL A (l1 ++ l2))
    rw [starL_mid A x l1 l2]
    ac_rfl

theorem St.cell1 {w0 w : World} {v : Value} {n : Nat} {xs : List Value} (h : St w0 (Reads 1 v n xs) w) : n = xs.length ∧ ∃ a c, v = .slice a n c ∧ n ≤ c ∧ ∀ i (hi : i < xs.length), ∃ b o, a = some ⟨b, o, none⟩ ∧ w.cell? ⟨b, o + i, none⟩ = some xs[i] := by
  have hl := h.rd.length
  obtain ⟨a, c, hv, hnc, hr⟩ := h.rd.form
  refine ⟨by omega, a, c, hv, hnc, fun i hi => ?_⟩
  rcases hr with rfl | ⟨b, o, rfl, hr⟩
  · simp at hi
  · exact ⟨b, o, rfl, by rw [hr i hi]; simp [hi]⟩
theorem St.at1 {w0 w : World} {A : HP} {a : Option Addr} {n c : Nat} {xs : List Value} (h : St w0 A w) [i : Gives A (Reads 1 (.slice a n c) n xs)] {k : Nat} (hk : k < xs.length) : ∃ b o, a = some ⟨b, o, none⟩ ∧ w.cell? ⟨b, o + k, none⟩ = some xs[k] := by
  obtain ⟨_, a', c', hv, _, hr⟩ := (h.ent i.ent).cell1
  simp only [Value.slice.injEq, true_and] at hv
  obtain ⟨rfl, rfl⟩ := hv
  exact hr k hk
theorem St.at1' {w0 w : World} {A : HP} {b o n c : Nat} {xs : List Value} (h : St w0 A w) [i : Gives A (Reads 1 (.slice (some ⟨b, o, none⟩) n c) n xs)] {k : Nat} (hk : k < xs.length) : w.cell? ⟨b, o + k, none⟩ = some xs[k] := by
  obtain ⟨b', o', hq, h1⟩ := h.at1 (a := some ⟨b, o, none⟩) (n := n) (c := c) (xs := xs) (k := k) hk
  simp only [Option.some.injEq, Addr.mk.injEq] at hq
  obtain ⟨rfl, rfl, _⟩ := hq
  exact h1

/-! ### Entries, groups, lists -/
/-- An entry: a slice, how long, its mark. -/
abbrev EL := List (Value × Nat × Int)
abbrev GL := List (Int × List (Value × Nat))
def grpsG (T s : Nat) (mk : Int → List Value) (Gs : GL) : HP := starL (fun g : Int × List (Value × Nat) => GroupS T s (mk g.1) g.2) Gs
def ownG {α : Type} (T s : Nat) (row : List α → List Value) (x : Value × Value × List α) : HP := RowO T s x.1 x.2.2.length (row x.2.2) * RowO T s x.2.1 x.2.2.length (row x.2.2)
def listsG {α : Type} (T s : Nat) (row : List α → List Value) (xs : List (Value × Value × List α)) : HP := starL (ownG T s row) xs
structure EOk (E : EL) (Gs : GL) : Prop where
  gr : ∀ x ∈ E, ∃ g ∈ Gs, g.1 = x.2.2 ∧ (x.1, x.2.1) ∈ g.2
  ce : ∀ x ∈ E, isCell x.1 = true ∧ x.2.1 ≤ 2147483648
def OOk {α : Type} (xs : List (Value × Value × List α)) : Prop := ∀ x ∈ xs, isCell x.1 = true ∧ isCell x.2.1 = true ∧ x.2.2.length ≤ 1073741824
abbrev eV (E : EL) : List Value := E.map (·.1)
abbrev eM (E : EL) : List Value := E.map fun x => .int .i64 x.2.2

theorem listsG_snoc {α : Type} {T s : Nat} {row : List α → List Value} {w0 w : World} {A R1 R2 R3 : HP} (xs : List (Value × Value × List α)) (v v2 : Value) (bs : List α) (h : St w0 A w) [i1 : Pull A (listsG T s row xs) R1] [i2 : Pull R1 (RowO T s v bs.length (row bs)) R2] [i3 : Pull R2 (RowO T s v2 bs.length (row bs)) R3] : St w0 (listsG T s row (xs ++ [(v, v2, bs)]) * R3) w := by
  have h1 : St w0 (listsG T s row xs * ownG T s row (v, v2, bs) * R3) w := h.ac (by rw [i1.eq, i2.eq, i3.eq]; simp only [ownG]; ac_rfl)
  refine h1.ent (Ent.sep ((Ent.sep (Ent.rfl' _) ?_).trans (starL_join (ownG T s row) xs [(v, v2, bs)])) (Ent.rfl' _))
  show Ent _ (ownG T s row (v, v2, bs) * EmpH)
  rw [sep_comm]
  exact Ent.embL _
theorem listsG_next {α : Type} {T s : Nat} {row : List α → List Value} {w0 w : World} {A R : HP} {hs : List (Value × Value × List α)} {k : Nat} (h : St w0 A w) (hk : k < hs.length) [i : Pull A (listsG T s row (hs.drop k)) R] :
    St w0 (RowO T s hs[k].1 hs[k].2.2.length (row hs[k].2.2) * (listsG T s row (hs.drop (k + 1)) * R)) w := by
  have h1 : St w0 (listsG T s row (hs.drop k) * R) w := h.ac i.eq
  rw [List.drop_eq_getElem_cons hk] at h1
  have h2 : St w0 (RowO T s hs[k].2.1 hs[k].2.2.length (row hs[k].2.2) * (RowO T s hs[k].1 hs[k].2.2.length (row hs[k].2.2) * (listsG T s row (hs.drop (k + 1)) * R))) w := h1.ac (by
    show ownG T s row hs[k] * listsG T s row (hs.drop (k + 1)) * R = _
    unfold ownG
    ac_rfl)
  exact h2.right
theorem listsG_rd {α : Type} {T s : Nat} {row : List α → List Value} {A R : HP} {hs : List (Value × Value × List α)} {x : Value × Value × List α} (hx : x ∈ hs) [i : Pull A (listsG T s row hs) R] : Ent A (Reads s x.1 x.2.2.length (row x.2.2)) ∧ Ent A (Reads s x.2.1 x.2.2.length (row x.2.2)) := by
  rw [i.eq]
  have h := (Ent.left (listsG T s row hs) R).trans (starL_mem (A := ownG T s row) hx)
  exact ⟨h.trans ((Ent.left _ _).trans (RowO.reads _ _ _ _ _)), h.trans ((Ent.right _ _).trans (RowO.reads _ _ _ _ _))⟩

def GLe (Gs Gs' : GL) : Prop := ∀ y ∈ Gs, ∃ y' ∈ Gs', y'.1 = y.1 ∧ ∀ p ∈ y.2, p ∈ y'.2
theorem GLe.rfl' (Gs : GL) : GLe Gs Gs := fun y hy => ⟨y, hy, rfl, fun _ h => h⟩
theorem GLe.cons (g : Int × List (Value × Nat)) (Gs : GL) : GLe Gs (g :: Gs) := fun y hy => ⟨y, List.mem_cons_of_mem _ hy, rfl, fun _ h => h⟩
theorem grpsG_cons {T s : Nat} {mk : Int → List Value} (m : Int) (l : List (Value × Nat)) (Gs : GL) : grpsG T s mk ((m, l) :: Gs) = GroupS T s (mk m) l * grpsG T s mk Gs := rfl
theorem EOk.mono {E : EL} {Gs Gs' : GL} (ok : EOk E Gs) (l : GLe Gs Gs') : EOk E Gs' :=
  ⟨fun x hx => by
    obtain ⟨g, hg, h1, h2⟩ := ok.gr x hx
    obtain ⟨g', hg', h3, h4⟩ := l g hg
    exact ⟨g', hg', h3.trans h1, h4 _ h2⟩, ok.ce⟩
theorem EOk.snoc {E : EL} {Gs : GL} {v : Value} {n : Nat} {m : Int} (ok : EOk E Gs) (hg : ∃ y ∈ Gs, y.1 = m ∧ (v, n) ∈ y.2) (hc : isCell v = true) (hn : n ≤ 2147483648) : EOk (E ++ [(v, n, m)]) Gs :=
  ⟨fun x hx => by
    rcases List.mem_append.1 hx with hx | hx
    · exact ok.gr x hx
    · simp only [List.mem_singleton] at hx
      subst hx
      exact hg, fun x hx => by
    rcases List.mem_append.1 hx with hx | hx
    · exact ok.ce x hx
    · simp only [List.mem_singleton] at hx
      subst hx
      exact ⟨hc, hn⟩⟩

section grp
variable {T s : Nat} {mk : Int → List Value}
theorem grpG_reads {w0 w : World} {A R : HP} {Gs : GL} {g : Int × List (Value × Nat)} {v : Value} {n : Nat} (hs : ∀ m, (mk m).length = s) (h0 : 0 < s) (hg : g ∈ Gs) (hp : (v, n) ∈ g.2) (h : St w0 A w) [i : Pull A (grpsG T s mk Gs) R] : St w0 (Reads s v n (repR n (mk g.1))) w := by
  have h1 : St w0 (grpsG T s mk Gs * R) w := h.ac i.eq
  exact h1.ent ((Ent.left _ _).trans ((starL_mem (A := fun g : Int × List (Value × Nat) => GroupS T s (mk g.1) g.2) hg).trans (GroupS.reads (hs _) h0 hp)))
/-- A row of an entry is read. -/
theorem grpG_at {w0 w : World} {A R : HP} {Gs : GL} {g : Int × List (Value × Nat)} {v : Value} {n : Nat} (hs : ∀ m, (mk m).length = s) (h0 : 0 < s) (hg : g ∈ Gs) (hp : (v, n) ∈ g.2) (h : St w0 A w) [i : Pull A (grpsG T s mk Gs) R] :
    ∃ a c, v = .slice a n c ∧ n ≤ c ∧ ∀ k, k < n → ∃ b o, a = some ⟨b, o, none⟩ ∧ ∀ j, j < s → w.cell? ⟨b, o + k * s + j, none⟩ = (mk g.1)[j]? := by
  have hr := (grpG_reads (T := T) hs h0 hg hp h).rd
  obtain ⟨a, c, hv, hnc, hf⟩ := hr.form
  refine ⟨a, c, hv, hnc, fun k hk => ?_⟩
  have hlen : (repR n (mk g.1)).length = n * s := by rw [repR_length, hs]
  have hle : (k + 1) * s ≤ n * s := Nat.mul_le_mul_right s hk
  have hk1 : (k + 1) * s = k * s + s := by rw [Nat.add_mul, Nat.one_mul]
  rcases hf with hf | ⟨b, o, rfl, hf⟩
  · rw [hf] at hlen
    simp only [List.length_nil] at hlen
    omega
  · refine ⟨b, o, rfl, fun j hj => ?_⟩
    have h2 := hf (k * s + j) (by rw [hlen]; omega)
    rw [← Nat.add_assoc] at h2
    rw [h2, repR_get (hs _) h0 n _ (by omega), show (k * s + j) % s = j by rw [Nat.mul_comm, Nat.mul_add_mod, Nat.mod_eq_of_lt hj]]
theorem St.appMarkG {w0 w : World} {A R : HP} {Gs : GL} {g : Int × List (Value × Nat)} {t tx ty e' bs : Nat} {zs : List Value} {v x : Value} {n : Nat} {K : Value → World → Prop} {θ : Tag K}
    (h : St w0 A w) [i : Pull A (grpsG T s mk Gs) R] (hs : ∀ m, (mk m).length = s) (hc : ∀ m, ∀ u ∈ mk m, isCell u = true) (h0 : 0 < s) (hg : g ∈ Gs) (hp : (v, n) ∈ g.2) (ht : rowTy Tryz.prog t = some (T, s, bs, zs)) (hx : Ent A (Reads s x 1 (mk g.1))) (hu : Tryz.prog.underlying tx = some (.slice e')) (h63 : n + 1 ≤ maxLen) (hb : (n + 1) * bs ≤ 140737488355328)
    (hK : ∀ v' w' Gs', GLe Gs Gs' → (∃ y ∈ Gs', y.1 = g.1 ∧ (v', n + 1) ∈ y.2) → (∃ a c, v' = .slice a (n + 1) c) → St w0 (grpsG T s mk Gs' * R) w' → K v' w') : semD Tryz.prog (kAppend #[t, tx] ty #[v, x]) w K θ := by
  have hsr : Src Tryz.prog s tx x 1 (mk g.1) w := ((h.ent hx).rd).src hu (hc _) (fun h => by have := hs g.1; rw [h] at this; simp at this; omega)
  obtain ⟨G1, G2, rfl⟩ := List.append_of_mem hg
  have h1 : St w0 (GroupS T s (mk g.1) g.2 * (grpsG T s mk (G1 ++ G2) * R)) w := h.ac (by rw [i.eq]; unfold grpsG; rw [starL_mid]; ac_rfl)
  refine h1.appMarkS (hs _) h0 hp ht hsr h63 hb fun v' w' h2 => ?_
  have hin : (v', n + 1) ∈ (v', n + 1) :: g.2 := List.mem_cons_self
  refine hK v' w' (G1 ++ (g.1, (v', n + 1) :: g.2) :: G2) ?_ ⟨(g.1, (v', n + 1) :: g.2), by simp, rfl, hin⟩ ?_ ?_
  · intro y hy
    rcases List.mem_append.1 hy with hy | hy
    · exact ⟨y, by simp [hy], rfl, fun _ h => h⟩
    · rcases List.mem_cons.1 hy with rfl | hy
      · exact ⟨(y.1, (v', n + 1) :: y.2), by simp, rfl, fun p hp => List.mem_cons_of_mem _ hp⟩
      · exact ⟨y, by simp [hy], rfl, fun _ h => h⟩
  · obtain ⟨a, c, hv, _⟩ := ((h2.ent ((Ent.left _ _).trans (GroupS.reads (hs _) h0 hin))).rd).form
    exact ⟨a, c, hv⟩
  · exact h2.ac (by unfold grpsG; rw [starL_mid]; ac_rfl)
end grp

theorem EL.rows (E M : EL) (x : Value) (n : Nat) (m : Int) (v : Value) (T : TypeId) : RowO T 1 v ((E ++ M).length + 1) (eV (E ++ M) ++ [x]) = RowO T 1 v (E ++ (M ++ [(x, n, m)])).length (eV (E ++ (M ++ [(x, n, m)]))) ∧ RowO T 1 v ((E ++ M).length + 1) (eM (E ++ M) ++ [.int .i64 m]) = RowO T 1 v (E ++ (M ++ [(x, n, m)])).length (eM (E ++ (M ++ [(x, n, m)]))) := by
  rw [← List.append_assoc]
  constructor <;> simp only [eV, eM, List.map_append, List.length_append, List.map_cons, List.map_nil, List.length_cons, List.length_nil, Nat.zero_add]

/-! ### The two kinds -/
def mkI (m : Int) : List Value := [.int .i64 m]
def mkN (m : Int) : List Value := [.int .u8 0, .int .i64 (IntKind.i64.wrap (0 - m)), .int .u64 0, .bool false]
theorem mkI_length (m : Int) : (mkI m).length = 1 := rfl
theorem mkN_length (m : Int) : (mkN m).length = 4 := rfl
theorem mkI_cells (m : Int) : ∀ u ∈ mkI m, isCell u = true := by
  intro v hv
  simp only [mkI, List.mem_cons, List.not_mem_nil, or_false] at hv
  rw [hv]; rfl
theorem mkN_cells (m : Int) : ∀ u ∈ mkN m, isCell u = true := by
  intro v hv
  simp only [mkN, List.mem_cons, List.not_mem_nil, or_false] at hv
  rcases hv with rfl | rfl | rfl | rfl <;> rfl
def rowN (l : List Nee) : List Value := l.flatMap needC
theorem rowN_length (l : List Nee) : (rowN l).length = l.length * 4 := by
  unfold rowN
  exact flatMap_length (enc := needC) (k := 4) (fun n => rfl) l
abbrev OLI := List (Value × Value × List Int)
abbrev OLN := List (Value × Value × List Nee)
abbrev grpsI : GL → HP := grpsG 3 1 mkI
abbrev grpsN : GL → HP := grpsG 42 4 mkN
abbrev listsI : OLI → HP := listsG 3 1 intR
abbrev listsN : OLN → HP := listsG 42 4 rowN
/-- One kind's six rows. -/
abbrev HB (U : Nat) (vl vm vh vt vf vw : Value) (E : EL) (hV tV fV wV : List Value) (R : HP) : HP :=
  RowO U 1 vl E.length (eV E) * (RowO 3 1 vm E.length (eM E) * (RowO U 1 vh hV.length hV * (RowO U 1 vt tV.length tV * (RowO U 1 vf fV.length fV * (RowO U 1 vw wV.length wV * R)))))
abbrev bkB (vi vim vn vnm hI tI fI wI hN tN fN wN : Value) : Obj := .cells #[vi, vim, vn, vnm, hI, tI, fI, wI, hN, tN, fN, wN] 35 (0, 0)
structure BkX where
  vi : Value
  vim : Value
  vn : Value
  vnm : Value
  hI : Value
  tI : Value
  fI : Value
  wI : Value
  hN : Value
  tN : Value
  fN : Value
  wN : Value
  EI : EL
  hsI : OLI
  fsI : OLI
  GI : GL
  EN : EL
  hsN : OLN
  fsN : OLN
  GN : GL
structure BkOk (n : Nat) (x : BkX) : Prop where
  eI : EOk x.EI x.GI
  h1 : OOk x.hsI
  f1 : OOk x.fsI
  eN : EOk x.EN x.GN
  h2 : OOk x.hsN
  f2 : OOk x.fsN
  fewI : x.EI.length + 41 * x.hsI.length + 41 * x.fsI.length ≤ 41 * n
  fewN : x.EN.length + 41 * x.hsN.length + 41 * x.fsN.length ≤ 41 * n
def BkQ (B : Nat) (x : BkX) (F : HP) : HP :=
  Blk B (bkB x.vi x.vim x.vn x.vnm x.hI x.tI x.fI x.wI x.hN x.tN x.fN x.wN) * HB 32 x.vi x.vim x.hI x.tI x.fI x.wI x.EI (x.hsI.map (·.1)) (x.hsI.map (·.2.1)) (x.fsI.map (·.1)) (x.fsI.map (·.2.1)) (listsI x.hsI * (listsI x.fsI * (grpsI x.GI *
    HB 63 x.vn x.vnm x.hN x.tN x.fN x.wN x.EN (x.hsN.map (·.1)) (x.hsN.map (·.2.1)) (x.fsN.map (·.1)) (x.fsN.map (·.2.1)) (listsN x.hsN * (listsN x.fsN * (grpsN x.GN * F))))))
/-- The book: at most n lists came out of each kind. -/
def BookP (B n : Nat) : HP := HP.ex fun x : BkX => HP.fact (BkOk n x) (BkQ B x EmpH)
instance (B n : Nat) : Face (.obj B) (BookP B n) := ⟨⟩
theorem BkQ.up (B : Nat) (x : BkX) (F : HP) : BkQ B x EmpH * F = BkQ B x (EmpH * F) := by unfold BkQ; simp only [HB]; ac_rfl
theorem BookP.open {w0 w : World} {B n : Nat} {F : HP} (h : St w0 (BookP B n * F) w) : ∃ x : BkX, BkOk n x ∧ St w0 (BkQ B x F) w := by
  obtain ⟨x, h⟩ := h.exF
  obtain ⟨e, h⟩ := h.factF
  rw [BkQ.up] at h
  refine ⟨x, e, (St.ac h (show BkQ B x (EmpH * F) = EmpH * BkQ B x F by unfold BkQ; simp only [HB]; ac_rfl)).right⟩
theorem BookP.mk {w0 w : World} {B n : Nat} {F : HP} (x : BkX) (ok : BkOk n x) (h : St w0 (BkQ B x F) w) : St w0 (BookP B n * F) w := by
  have h1 := h.ent (Ent.embL _)
  have h2 : St w0 (BkQ B x EmpH * F) w := h1.ac (by rw [BkQ.up]; unfold BkQ; simp only [HB]; ac_rfl)
  exact h2.ent (Ent.sep ((Ent.fact ok _).trans (Ent.ex (fun x : BkX => HP.fact (BkOk n x) (BkQ B x EmpH)) x)) (Ent.rfl' F))
theorem BookP.up {w0 w : World} {B n m : Nat} {F : HP} (hnm : n ≤ m) (h : St w0 (BookP B n * F) w) : St w0 (BookP B m * F) w := by
  obtain ⟨x, ok, h1⟩ := BookP.open h
  have a := ok.fewI
  have b := ok.fewN
  exact BookP.mk x ⟨ok.eI, ok.h1, ok.f1, ok.eN, ok.h2, ok.f2, by omega, by omega⟩ h1
end Go.Proofs.YtacmnfpgimgigaaGreat

namespace Go.Proofs.YtacmnfpgimgigaaGreat
open Go
set_option linter.unusedSimpArgs false
set_option linter.unusedVariables false
set_option maxRecDepth 100000


theorem need_any {w0 w : World} {F : HP} {m : Int} (h : St w0 F w) : Calls Tryz.prog 62 #[.int .i64 m] w fun e w' => St w0 F w' ∧ e = .returned (.agg #[.int .u8 0, .int .i64 (IntKind.i64.wrap (0 - m)), .int .u64 0, .bool false]) := by
  refine F62.calls (by simp) ?_
  unfold F62.code
  simp -dsimp -implicitDefEqProofs (disch := omega) only [go_sem, reqD_of, dec_t, dec_f, wrap_i64, wrap_u32, wrap_u64, wrap_u8]
  refine h.new fun B w1 h1 => ?_
  simp -dsimp -implicitDefEqProofs (disch := omega) only [go_sem, reqD_of, dec_t, dec_f, wrap_i64, wrap_u32, wrap_u64, wrap_u8]
  refine onV_of (v := .agg #[.int .u8 0, .int .i64 (IntKind.i64.wrap (0 - m)), .int .u64 0]) (by kernel_rfl) ?_
  simp -dsimp -implicitDefEqProofs (disch := omega) only [go_sem, reqD_of, dec_t, dec_f, wrap_i64, wrap_u32, wrap_u64, wrap_u8]
  refine onV_of (v := .agg (mkN m).toArray) (by kernel_rfl) ?_
  simp -dsimp -implicitDefEqProofs (disch := omega) only [go_sem, reqD_of, dec_t, dec_f, wrap_i64, wrap_u32, wrap_u64, wrap_u8]
  refine h1.stoAll (cs := mkN m) rfl rfl (mkN_cells _) fun w2 h2 => ?_
  have hrow := h2.rowH B 4 rfl
  simp -dsimp -implicitDefEqProofs (disch := omega) only [go_sem, reqD_of, dec_t, dec_f, wrap_i64, wrap_u32, wrap_u64, wrap_u8]
  refine resC_1 (a := ⟨B, 0, none⟩) (v := .agg (mkN m).toArray) (by simp -dsimp -implicitDefEqProofs only [go_sem]) (run_loadVar_row fact_aggSz_42 (by rw [hrow])) ?_
  exact ⟨h2.right, rfl⟩

theorem needEqB (x n : Nee) : (decide (x.1.1 = n.1.1) && (decide (x.1.2.1 = n.1.2.1) && (decide (x.1.2.2 = n.1.2.2) && x.2 == n.2))) = decide (x = n) := by
  obtain ⟨⟨a1, a2, a3⟩, a4⟩ := x
  obtain ⟨⟨b1, b2, b3⟩, b4⟩ := n
  rw [Bool.eq_iff_iff]
  simp
  exact ⟨fun ⟨h1, h2, h3, h4⟩ => ⟨⟨h1, h2, h3⟩, h4⟩, fun ⟨⟨h1, h2, h3⟩, h4⟩ => ⟨h1, h2, h3, h4⟩⟩
theorem needC_len (n : Nee) : (needC n).length = 4 := rfl

section
attribute [local go_sem] F26.t5_eq F26.t6_eq F26.t8_eq F26.t3_eq
theorem sameNeeds_any {w0 w : World} {F : HP} {va vb : Value} {xs ys : List Nee} (h : St w0 F w) (ha : Ent F (Reads 4 va xs.length (rowN xs))) (hb : Ent F (Reads 4 vb ys.length (rowN ys))) (hl : xs.length < 9223372036854775807) :
    Calls Tryz.prog 26 #[va, vb] w fun e w' => St w0 F w' ∧ e = .returned (.bool (decide (xs = ys))) := by
  obtain ⟨_, pa, ca, rfl, _, _⟩ := St.rowsAt (k := 4) needC_len (by decide) (h.ent ha)
  obtain ⟨_, pb, cb, rfl, _, _⟩ := St.rowsAt (k := 4) needC_len (by decide) (h.ent hb)
  refine F26.calls (by simp) ?_
  unfold F26.code
  by_cases hlen : (xs.length : Int) = ys.length
  case neg =>
    simp -dsimp -implicitDefEqProofs only [go_sem, hlen]
    exact ⟨h, by rw [dec_f]; intro hx; exact hlen (by rw [hx])⟩
  simp -dsimp -implicitDefEqProofs only [go_sem, hlen]
  refine loop_intro (fun e w' => St w0 F w' ∧ e.ds = [] ∧ e.ρ 0 = .slice pa xs.length ca ∧ e.ρ 1 = .slice pb ys.length cb ∧ ∃ k : Nat, k ≤ xs.length ∧ e.ρ 5 = .int .i64 k ∧ xs.take k = ys.take k)
    (fun e _ => match e.ρ 5 with | .int _ n => (xs.length - n).toNat | _ => 0) ?_ ?_
  · exact ⟨h, rfl, by simp -dsimp -implicitDefEqProofs only [go_sem, hlen], by simp -dsimp -implicitDefEqProofs only [go_sem, hlen], 0, by omega, rfl, rfl⟩
  rintro e w1 ⟨h1, hd, e0, e1, k, hk, e5, hpre⟩
  have hlen' : xs.length = ys.length := by omega
  by_cases hlt : (k : Int) < xs.length
  case neg =>
    have : k = xs.length := by omega
    subst this
    simp -dsimp -implicitDefEqProofs only [go_sem, hlt, e0, e1, e5, hd]
    rw [List.take_length, hlen', List.take_length] at hpre
    exact ⟨h1, by rw [dec_t hpre]⟩
  have hka : k < xs.length := by omega
  have hkb : k < ys.length := by omega
  have hlt2 : (k : Int) < ys.length := by omega
  have h1' := h1.drew
  obtain ⟨_, qa, _, hv, _, hra1⟩ := St.rowsAt (k := 4) needC_len (by decide) (h1'.ent ha)
  obtain ⟨_, qb, _, hv', _, hrb1⟩ := St.rowsAt (k := 4) needC_len (by decide) (h1'.ent hb)
  simp only [Value.slice.injEq, true_and] at hv hv'
  obtain ⟨rfl, rfl⟩ := hv
  obtain ⟨rfl, rfl⟩ := hv'
  obtain ⟨ba, oa, rfl, hra, _⟩ := hra1 k hka
  obtain ⟨bb, ob, rfl, hrb, _⟩ := hrb1 k hkb
  generalize hx : xs[k] = x at hra
  generalize hy : ys[k] = y at hrb
  simp -dsimp -implicitDefEqProofs (disch := omega) only [go_sem, reqD_of, dec_t, dec_f, wrap_i64, wrap_u32, wrap_u64, wrap_u8, hlt, hlt2, e0, e1, e5, hd, hra, hrb, needC]
  rw [needEqB]
  by_cases hab : x = y
  · simp -dsimp -implicitDefEqProofs (disch := omega) only [go_sem, reqD_of, dec_t, dec_f, wrap_i64, wrap_u32, wrap_u64, wrap_u8, hlt, e0, e1, e5, hd, hab]
    refine ⟨⟨h1', ⟨k + 1, by omega, by omega, ?_⟩⟩, by omega⟩
    rw [List.take_succ_eq_append_getElem hka, List.take_succ_eq_append_getElem hkb, hpre, hx, hy, hab]
  · simp -dsimp -implicitDefEqProofs (disch := omega) only [go_sem, reqD_of, dec_t, dec_f, wrap_i64, wrap_u32, wrap_u64, wrap_u8, hlt, e0, e1, e5, hd, hab]
    refine ⟨h1', ?_⟩
    rw [dec_f]
    rintro rfl
    exact hab (hx.symm.trans hy)

abbrev BB (B : Nat) (vi vim vn vnm hI tI fI wI hN tN fN wN : Value) (EI : EL) (hVI tVI fVI wVI : List Value) (EN : EL) (hVN tVN fVN wVN : List Value) (R : HP) : HP :=
  Blk B (bkB vi vim vn vnm hI tI fI wI hN tN fN wN) * HB 32 vi vim hI tI fI wI EI hVI tVI fVI wVI (HB 63 vn vnm hN tN fN wN EN hVN tVN fVN wVN R)
theorem BkQ.bb (B : Nat) (x : BkX) (F : HP) : BkQ B x F = BB B x.vi x.vim x.vn x.vnm x.hI x.tI x.fI x.wI x.hN x.tN x.fN x.wN x.EI (x.hsI.map (·.1)) (x.hsI.map (·.2.1)) (x.fsI.map (·.1)) (x.fsI.map (·.2.1)) x.EN (x.hsN.map (·.1)) (x.hsN.map (·.2.1)) (x.fsN.map (·.1)) (x.fsN.map (·.2.1))
    (listsI x.hsI * (listsI x.fsI * (grpsI x.GI * (listsN x.hsN * (listsN x.fsN * (grpsN x.GN * F)))))) := by unfold BkQ; simp only [BB, HB]; ac_rfl


theorem rowN_cells (l : List Nee) : ∀ v ∈ rowN l, isCell v = true := by
  intro v hv
  obtain ⟨n, _, hn⟩ := List.mem_flatMap.1 hv
  exact needC_cells n v hn
theorem rowN_nil {l : List Nee} (h : rowN l = []) : l.length = 0 := by
  cases l with
  | nil => rfl
  | cons a l => simp [rowN, needC] at h

end

theorem owns_any {w0 w : World} {F : HP} {B n : Nat} {v : Value} {bs : List Int} (hn : n < 10000000) (hl : bs.length ≤ 1073741824) (h : St w0 (BookP B n * (RowO 3 1 v bs.length (intR bs) * F)) w) :
    Calls Tryz.prog 47 #[.pointer (some ⟨B, 0, none⟩), v] w fun e w' => St w0 (BookP B (n + 1) * F) w' ∧ e = .returned (.tuple #[]) := by
  obtain ⟨x, ok, h1⟩ := BookP.open h
  rw [BkQ.bb] at h1
  obtain ⟨vi, vim, vn, vnm, hI, tI, fI, wI, hN, tN, fN, wN, EI, hsI, fsI, GI, EN, hsN, fsN, GN⟩ := x
  obtain ⟨a, c, rfl, _⟩ := h1.rowForm v
  have hfew := ok.fewI
  have hfewN := ok.fewN
  simp only at hfew hfewN h1
  refine F47.calls (by simp) ?_
  unfold F47.code
  have cB := h1.cl B
  simp -dsimp -implicitDefEqProofs (disch := omega) only [go_sem, reqD_of, dec_t, dec_f, wrap_i64, wrap_u32, wrap_u64, wrap_u8, cB]
  refine h1.lit (n := 1) (cells := [.slice a bs.length c]) fact_rowTy_31 rfl (by decide) (by decide) fun v4 w4 h4 => ?_
  have cB := h4.cl B
  simp -dsimp -implicitDefEqProofs (disch := omega) only [go_sem, reqD_of, dec_t, dec_f, wrap_i64, wrap_u32, wrap_u64, wrap_u8, cB]
  refine h4.app (v := fI) fact_rowTy_31 ((Ent.left _ _).trans (RowO.reads _ _ _ _ _)) Tryz.underlying31 (by intro u hu; simp only [List.mem_singleton] at hu; subst hu; rfl) (fun h => by simp at h) (by simp only [Go.maxLen, List.length_map]; omega) (by simp only [List.length_map]; omega) fun v5 w5 h5 => ?_
  obtain ⟨a5, c5, rfl, _⟩ := h5.rowForm v5
  have cB := h5.cl B
  simp -dsimp -implicitDefEqProofs (disch := omega) only [go_sem, reqD_of, dec_t, dec_f, wrap_i64, wrap_u32, wrap_u64, wrap_u8, cB]
  refine h5.sto (b := B) (off := 6) (by simp) rfl fun w6 h6 => ?_
  simp only [List.setIfInBounds_toArray, List.set_cons_succ, List.set_cons_zero] at h6
  have h6' := h6.drew.nilR 3 1
  have cB := h6'.cl B
  have cB0 := h6.cl B
  simp -dsimp -implicitDefEqProofs (disch := omega) only [go_sem, reqD_of, dec_t, dec_f, wrap_i64, wrap_u32, wrap_u64, wrap_u8, cB, cB0]
  refine h6'.app (v := .slice none 0 0) (m := bs.length) (news := intR bs) fact_rowTy_32 (Gives.ent) Tryz.underlying32 (intR_cells bs) (fun h => by simpa [intR] using h) (by simp only [Go.maxLen]; omega) (by omega) fun v2 w7 h7 => ?_
  obtain ⟨a2, c2, rfl, _⟩ := h7.rowForm v2
  have cB := h7.cl B
  simp -dsimp -implicitDefEqProofs (disch := omega) only [go_sem, reqD_of, dec_t, dec_f, wrap_i64, wrap_u32, wrap_u64, wrap_u8, cB]
  refine h7.lit (n := 1) (cells := [.slice a2 (0 + bs.length) c2]) fact_rowTy_31 (by simp only [Nat.zero_add]; rfl) (by decide) (by decide) fun v7 w8 h8 => ?_
  have cB := h8.cl B
  simp -dsimp -implicitDefEqProofs (disch := omega) only [go_sem, reqD_of, dec_t, dec_f, wrap_i64, wrap_u32, wrap_u64, wrap_u8, cB]
  refine h8.app (v := wI) fact_rowTy_31 ((Ent.left _ _).trans (RowO.reads _ _ _ _ _)) Tryz.underlying31 (by intro u hu; simp only [List.mem_singleton] at hu; subst hu; rfl) (fun h => by simp at h) (by simp only [Go.maxLen, List.length_map]; omega) (by simp only [List.length_map]; omega) fun v8 w9 h9 => ?_
  obtain ⟨a8, c8, rfl, _⟩ := h9.rowForm v8
  have cB := h9.cl B
  simp -dsimp -implicitDefEqProofs (disch := omega) only [go_sem, reqD_of, dec_t, dec_f, wrap_i64, wrap_u32, wrap_u64, wrap_u8, cB]
  refine h9.sto (b := B) (off := 7) (by simp) rfl fun w10 h10 => ?_
  simp only [List.setIfInBounds_toArray, List.set_cons_succ, List.set_cons_zero] at h10
  simp -dsimp -implicitDefEqProofs (disch := omega) only [go_sem, reqD_of, dec_t, dec_f, wrap_i64, wrap_u32, wrap_u64, wrap_u8]
  simp only [Nat.zero_add, List.nil_append] at h10
  have h11 : St w0 (listsI (fsI ++ [((.slice a bs.length c : Value), (.slice a2 bs.length c2 : Value), bs)]) * _) w10 := listsG_snoc (T := 3) (s := 1) (row := intR) fsI (.slice a bs.length c) (.slice a2 bs.length c2) bs h10
  refine BookP.mk ⟨vi, vim, vn, vnm, hI, tI, .slice a5 ((List.map (fun x => x.fst) fsI).length + 1) c5, .slice a8 ((List.map (fun x => x.snd.fst) fsI).length + 1) c8, hN, tN, fN, wN, EI, hsI, fsI ++ [((.slice a bs.length c : Value), (.slice a2 bs.length c2 : Value), bs)], GI, EN, hsN, fsN, GN⟩ ⟨ok.eI, ok.h1, fun y hy => ?_, ok.eN, ok.h2, ok.f2, by simp only [List.length_append, List.length_cons, List.length_nil]; omega, by simp only; omega⟩ ?_
  · rcases List.mem_append.1 hy with hy | hy
    · exact ok.f1 y hy
    · simp only [List.mem_singleton] at hy
      subst hy
      exact ⟨rfl, rfl, hl⟩
  · rw [BkQ.bb]
    simp only [BB, HB, List.map_append, List.map_cons, List.map_nil, List.length_append, List.length_cons, List.length_nil, Nat.zero_add]
    exact h11.sub

theorem ownsNeeds_any {w0 w : World} {F : HP} {B n : Nat} {v : Value} {bs : List Nee} (hn : n < 10000000) (hl : bs.length ≤ 1073741824) (h : St w0 (BookP B n * (RowO 42 4 v bs.length (rowN bs) * F)) w) :
    Calls Tryz.prog 27 #[.pointer (some ⟨B, 0, none⟩), v] w fun e w' => St w0 (BookP B (n + 1) * F) w' ∧ e = .returned (.tuple #[]) := by
  obtain ⟨x, ok, h1⟩ := BookP.open h
  rw [BkQ.bb] at h1
  obtain ⟨vi, vim, vn, vnm, hI, tI, fI, wI, hN, tN, fN, wN, EI, hsI, fsI, GI, EN, hsN, fsN, GN⟩ := x
  obtain ⟨a, c, rfl, _⟩ := h1.rowForm v
  have hfew := ok.fewI
  have hfewN := ok.fewN
  simp only at hfew hfewN h1
  refine F27.calls (by simp) ?_
  unfold F27.code
  have cB := h1.cl B
  simp -dsimp -implicitDefEqProofs (disch := omega) only [go_sem, reqD_of, dec_t, dec_f, wrap_i64, wrap_u32, wrap_u64, wrap_u8, cB]
  refine h1.lit (n := 1) (cells := [.slice a bs.length c]) fact_rowTy_33 rfl (by decide) (by decide) fun v4 w4 h4 => ?_
  have cB := h4.cl B
  simp -dsimp -implicitDefEqProofs (disch := omega) only [go_sem, reqD_of, dec_t, dec_f, wrap_i64, wrap_u32, wrap_u64, wrap_u8, cB]
  refine h4.app (v := fN) fact_rowTy_33 ((Ent.left _ _).trans (RowO.reads _ _ _ _ _)) Tryz.underlying33 (by intro u hu; simp only [List.mem_singleton] at hu; subst hu; rfl) (fun h => by simp at h) (by simp only [Go.maxLen, List.length_map]; omega) (by simp only [List.length_map]; omega) fun v5 w5 h5 => ?_
  obtain ⟨a5, c5, rfl, _⟩ := h5.rowForm v5
  have cB := h5.cl B
  simp -dsimp -implicitDefEqProofs (disch := omega) only [go_sem, reqD_of, dec_t, dec_f, wrap_i64, wrap_u32, wrap_u64, wrap_u8, cB]
  refine h5.sto (b := B) (off := 10) (by simp) rfl fun w6 h6 => ?_
  simp only [List.setIfInBounds_toArray, List.set_cons_succ, List.set_cons_zero] at h6
  have h6' := h6.drew.nilR 42 4
  have cB := h6'.cl B
  have cB0 := h6.cl B
  simp -dsimp -implicitDefEqProofs (disch := omega) only [go_sem, reqD_of, dec_t, dec_f, wrap_i64, wrap_u32, wrap_u64, wrap_u8, cB, cB0]
  refine h6'.app (v := .slice none 0 0) (m := bs.length) (news := rowN bs) fact_rowTy_63 (Gives.ent) Tryz.underlying63 (rowN_cells bs) (fun h => rowN_nil h) (by simp only [Go.maxLen]; omega) (by omega) fun v2 w7 h7 => ?_
  obtain ⟨a2, c2, rfl, _⟩ := h7.rowForm v2
  have cB := h7.cl B
  simp -dsimp -implicitDefEqProofs (disch := omega) only [go_sem, reqD_of, dec_t, dec_f, wrap_i64, wrap_u32, wrap_u64, wrap_u8, cB]
  refine h7.lit (n := 1) (cells := [.slice a2 (0 + bs.length) c2]) fact_rowTy_33 (by simp only [Nat.zero_add]; rfl) (by decide) (by decide) fun v7 w8 h8 => ?_
  have cB := h8.cl B
  simp -dsimp -implicitDefEqProofs (disch := omega) only [go_sem, reqD_of, dec_t, dec_f, wrap_i64, wrap_u32, wrap_u64, wrap_u8, cB]
  refine h8.app (v := wN) fact_rowTy_33 ((Ent.left _ _).trans (RowO.reads _ _ _ _ _)) Tryz.underlying33 (by intro u hu; simp only [List.mem_singleton] at hu; subst hu; rfl) (fun h => by simp at h) (by simp only [Go.maxLen, List.length_map]; omega) (by simp only [List.length_map]; omega) fun v8 w9 h9 => ?_
  obtain ⟨a8, c8, rfl, _⟩ := h9.rowForm v8
  have cB := h9.cl B
  simp -dsimp -implicitDefEqProofs (disch := omega) only [go_sem, reqD_of, dec_t, dec_f, wrap_i64, wrap_u32, wrap_u64, wrap_u8, cB]
  refine h9.sto (b := B) (off := 11) (by simp) rfl fun w10 h10 => ?_
  simp only [List.setIfInBounds_toArray, List.set_cons_succ, List.set_cons_zero] at h10
  simp -dsimp -implicitDefEqProofs (disch := omega) only [go_sem, reqD_of, dec_t, dec_f, wrap_i64, wrap_u32, wrap_u64, wrap_u8]
  simp only [Nat.zero_add, List.nil_append] at h10
  have h11 : St w0 (listsN (fsN ++ [((.slice a bs.length c : Value), (.slice a2 bs.length c2 : Value), bs)]) * _) w10 := listsG_snoc (T := 42) (s := 4) (row := rowN) fsN (.slice a bs.length c) (.slice a2 bs.length c2) bs h10
  refine BookP.mk ⟨vi, vim, vn, vnm, hI, tI, fI, wI, hN, tN, .slice a5 ((List.map (fun x => x.fst) fsN).length + 1) c5, .slice a8 ((List.map (fun x => x.snd.fst) fsN).length + 1) c8, EI, hsI, fsI, GI, EN, hsN, fsN ++ [((.slice a bs.length c : Value), (.slice a2 bs.length c2 : Value), bs)], GN⟩ ⟨ok.eI, ok.h1, ok.f1, ok.eN, ok.h2, fun y hy => ?_, by simp only; omega, by simp only [List.length_append, List.length_cons, List.length_nil]; omega⟩ ?_
  · rcases List.mem_append.1 hy with hy | hy
    · exact ok.f2 y hy
    · simp only [List.mem_singleton] at hy
      subst hy
      exact ⟨rfl, rfl, hl⟩
  · rw [BkQ.bb]
    simp only [BB, HB, List.map_append, List.map_cons, List.map_nil, List.length_append, List.length_cons, List.length_nil, Nat.zero_add]
    exact h11.sub


theorem alike_any {w0 w : World} {F : HP} {B n : Nat} {v u : Value} {bs cs : List Int} (hn : n < 10000000) (hl : bs.length ≤ 1073741824) (hu : Ent F (Reads 1 u cs.length (intR cs))) (h : St w0 (BookP B n * (RowO 3 1 v bs.length (intR bs) * F)) w) :
    Calls Tryz.prog 20 #[.pointer (some ⟨B, 0, none⟩), v, u] w fun e w' => St w0 (BookP B (n + 1) * F) w' ∧ e = .returned (.bool (decide (bs = cs))) := by
  refine F20.calls (by simp) ?_
  unfold F20.code
  simp -dsimp -implicitDefEqProofs (disch := omega) only [go_sem, reqD_of, dec_t, dec_f, wrap_i64, wrap_u32, wrap_u64, wrap_u8]
  refine (sameInts_any h (xs := bs) (ys := cs) ((Ent.right _ _).trans ((Ent.left _ _).trans (RowO.reads _ _ _ _ _))) ((Ent.right _ _).trans ((Ent.right _ _).trans hu)) (by omega)).mono ?_
  rintro e w1 ⟨h1, rfl⟩
  simp -dsimp -implicitDefEqProofs (disch := omega) only [go_sem, reqD_of, dec_t, dec_f, wrap_i64, wrap_u32, wrap_u64, wrap_u8]
  refine (owns_any hn hl h1).mono ?_
  rintro e w2 ⟨h2, rfl⟩
  simp -dsimp -implicitDefEqProofs (disch := omega) only [go_sem, reqD_of, dec_t, dec_f, wrap_i64, wrap_u32, wrap_u64, wrap_u8]
  exact h2
end Go.Proofs.YtacmnfpgimgigaaGreat

namespace Go.Proofs.YtacmnfpgimgigaaGreat
open Go
set_option linter.unusedSimpArgs false
set_option linter.unusedVariables false
set_option maxRecDepth 100000

def oneC (o : One) : List Value := [.int .i64 o.1, .int .u8 o.2.1.1, .int .i64 o.2.1.2.1, .int .u64 o.2.1.2.2, .bool o.2.2]
def oneR (l : List One) : List Value := l.flatMap oneC
theorem oneC_len (o : One) : (oneC o).length = 5 := rfl
theorem oneC_cells (o : One) : ∀ v ∈ oneC o, isCell v = true := by
  intro v hv
  simp only [oneC, List.mem_cons, List.not_mem_nil, or_false] at hv
  rcases hv with rfl | rfl | rfl | rfl | rfl <;> rfl
theorem oneR_cells (l : List One) : ∀ v ∈ oneR l, isCell v = true := by
  intro v hv
  obtain ⟨n, _, hn⟩ := List.mem_flatMap.1 hv
  exact oneC_cells n v hn
theorem oneR_length (l : List One) : (oneR l).length = l.length * 5 := by
  unfold oneR
  rw [flatMap_length oneC_len]
theorem oneR_nil {l : List One} (h : oneR l = []) : l.length = 0 := by
  have := congrArg List.length h
  rw [oneR_length, List.length_nil] at this
  omega
theorem oneR_snoc (l : List One) (o : One) : oneR l ++ oneC o = oneR (l ++ [o]) := by simp [oneR]

/-- One of a row is read. -/
theorem oneAt {w0 w : World} {v : Value} {n : Nat} {l : List One} (h : St w0 (Reads 5 v n (oneR l)) w) : n = l.length ∧ ∃ a c, v = .slice a n c ∧ n ≤ c ∧ ∀ i (hi : i < l.length), ∃ b o, a = some ⟨b, o, none⟩ ∧
    w.cell? ⟨b, o + i * 5, none⟩ = some (.int .i64 (l[i]).1) ∧ w.cell? ⟨b, o + i * 5 + 1, none⟩ = some (.int .u8 (l[i]).2.1.1) ∧ w.cell? ⟨b, o + i * 5 + 2, none⟩ = some (.int .i64 (l[i]).2.1.2.1) ∧ w.cell? ⟨b, o + i * 5 + 3, none⟩ = some (.int .u64 (l[i]).2.1.2.2) ∧ w.cell? ⟨b, o + i * 5 + 4, none⟩ = some (.bool (l[i]).2.2) ∧
    rowV w ⟨b, o + i * 5 + 1, none⟩ 3 = some (namV (l[i]).2.1) ∧ rowV w ⟨b, o + i * 5 + 1, none⟩ 4 = some (needV (l[i]).2) ∧ rowV w ⟨b, o + i * 5, none⟩ 5 = some (.agg (oneC l[i]).toArray) := by
  obtain ⟨hn, a, c, hv, hnc, hr⟩ := St.rowsAt (k := 5) oneC_len (by decide) h
  refine ⟨hn, a, c, hv, hnc, fun i hi => ?_⟩
  obtain ⟨b, o, ha, hrow, hc⟩ := hr i hi
  have h0 := hc 0 (by decide)
  have h1 := hc 1 (by decide)
  have h2 := hc 2 (by decide)
  have h3 := hc 3 (by decide)
  have h4 := hc 4 (by decide)
  simp only [oneC, Nat.add_zero] at h0 h1 h2 h3 h4
  refine ⟨b, o, ha, h0, h1, h2, h3, h4, ?_, ?_, hrow⟩
  · have e2 : w.cell? ⟨b, o + i * 5 + 1 + 1, none⟩ = _ := h2
    have e3 : w.cell? ⟨b, o + i * 5 + 1 + 2, none⟩ = _ := h3
    simp [rowV, cellsFrom, add_lit, h1, e2, e3, namV, namC]
  · have e2 : w.cell? ⟨b, o + i * 5 + 1 + 1, none⟩ = _ := h2
    have e3 : w.cell? ⟨b, o + i * 5 + 1 + 2, none⟩ = _ := h3
    have e4 : w.cell? ⟨b, o + i * 5 + 1 + 3, none⟩ = _ := h4
    simp [rowV, cellsFrom, add_lit, h1, e2, e3, e4, needV, needC]

theorem namEq (x k : Nam) : (decide (x.1 = k.1) && (decide (x.2.1 = k.2.1) && decide (x.2.2 = k.2.2))) = decide (x = k) := by
  obtain ⟨a1, a2, a3⟩ := x
  obtain ⟨b1, b2, b3⟩ := k
  rw [Bool.eq_iff_iff]
  simp

/-- The table's two lists. -/
def RefQ (T : Nat) (vH vW : Value) (H W : List One) : HP := Blk T (.cells #[vH, vW] 61 (0, 0)) * (RowO 84 5 vH H.length (oneR H) * RowO 84 5 vW W.length (oneR W))

section
attribute [local go_sem] F42.t3_eq F42.t4_eq F42.t6_eq
theorem place_any {w0 w : World} {F : HP} {v : Value} {l : List One} {who : Int} {k : Nam} {any : Bool} (h : St w0 F w) (hr : Ent F (Reads 5 v l.length (oneR l))) (hl : l.length < 1099511627776) :
    Calls Tryz.prog 42 #[v, .int .i64 who, namV k, .bool any] w fun e w' => St w0 F w' ∧ e = .returned (.int .i64 (firstI (isAt who k any) l 0)) := by
  obtain ⟨_, a, c, rfl, hnc, _⟩ := oneAt (h.ent hr)
  refine F42.calls (by simp) ?_
  unfold F42.code
  simp -dsimp -implicitDefEqProofs (disch := omega) only [go_sem, reqD_of, dec_t, dec_f, wrap_i64, wrap_u32, wrap_u64, wrap_u8]
  refine h.new fun N w1 h1 => ?_
  simp -dsimp -implicitDefEqProofs (disch := omega) only [go_sem, reqD_of, dec_t, dec_f, wrap_i64, wrap_u32, wrap_u64, wrap_u8]
  refine loop_intro (fun e w' => St w0 (Blk N (.cells (namC k).toArray 40 (0, 0)) * F) w' ∧ e.ds = [] ∧ e.ρ 0 = .slice a l.length c ∧ e.ρ 1 = .int .i64 who ∧ e.ρ 3 = .bool any ∧ e.ρ 6 = .pointer (some ⟨N, 0, none⟩) ∧ ∃ i : Nat, i ≤ l.length ∧ e.ρ 9 = .int .i64 i ∧ firstI (isAt who k any) l 0 = firstI (isAt who k any) (l.drop i) i)
    (fun e _ => match e.ρ 9 with | .int _ n => (l.length - n).toNat | _ => 0) ?_ ?_
  · exact ⟨h1, rfl, by simp -dsimp -implicitDefEqProofs only [go_sem], by simp -dsimp -implicitDefEqProofs only [go_sem], by simp -dsimp -implicitDefEqProofs only [go_sem], by simp -dsimp -implicitDefEqProofs only [go_sem], 0, by omega, rfl, rfl⟩
  rintro e w2 ⟨h2, hd, e0, e1, e3, e6, i, hi, e9, hpos⟩
  by_cases hlt : (i : Int) < l.length
  case neg =>
    have : i = l.length := by omega
    subst this
    simp -dsimp -implicitDefEqProofs (disch := omega) only [go_sem, reqD_of, dec_t, dec_f, wrap_i64, wrap_u32, wrap_u64, wrap_u8, hd, e0, e1, e3, e6, e9, hlt]
    exact ⟨h2.right, by rw [hpos, List.drop_length]; rfl⟩
  have hil : i < l.length := by omega
  have h2' := h2.drew
  obtain ⟨_, a', c', hv, _, hcl⟩ := oneAt (h2.ent ((Ent.right _ _).trans hr))
  simp only [Value.slice.injEq, true_and] at hv
  obtain ⟨rfl, rfl⟩ := hv
  obtain ⟨b, o, rfl, c0, c1, c2, c3, c4, r3, _, _⟩ := hcl i hil
  rw [firstI_step _ hil] at hpos
  have hN := h2.rowH N 3 rfl
  have d0 : w2.drew.cell? _ = _ := c0
  have dr3 : rowV w2.drew _ 3 = _ := r3
  have dN : rowV w2.drew _ 3 = _ := hN
  generalize hx : l[i] = x at c0 c1 c2 c3 c4 r3 d0 dr3 hpos
  by_cases hw : x.1 = who
  · cases any with
    | true =>
      simp -dsimp -implicitDefEqProofs (disch := omega) only [go_sem, reqD_of, dec_t, dec_f, wrap_i64, wrap_u32, wrap_u64, wrap_u8, hd, e0, e1, e3, e6, e9, hlt, c0, d0, hw]
      exact ⟨h2'.right, by rw [hpos]; simp [isAt, hw]⟩
    | false =>
      by_cases hk : x.2.1 = k
      · simp -dsimp -implicitDefEqProofs (disch := omega) only [go_sem, reqD_of, dec_t, dec_f, wrap_i64, wrap_u32, wrap_u64, wrap_u8, hd, e0, e1, e3, e6, e9, hlt, c0, d0, r3, dr3, hN, dN, hw, namC, namEq, hk]
        exact ⟨h2'.right, by rw [hpos]; simp [isAt, hw, hk]⟩
      · simp -dsimp -implicitDefEqProofs (disch := omega) only [go_sem, reqD_of, dec_t, dec_f, wrap_i64, wrap_u32, wrap_u64, wrap_u8, hd, e0, e1, e3, e6, e9, hlt, c0, d0, r3, dr3, hN, dN, hw, namC, namEq, hk]
        refine ⟨⟨h2', i + 1, by omega, by simp, ?_⟩, by omega⟩
        rw [hpos]; simp [isAt, hw, hk]
  · simp -dsimp -implicitDefEqProofs (disch := omega) only [go_sem, reqD_of, dec_t, dec_f, wrap_i64, wrap_u32, wrap_u64, wrap_u8, hd, e0, e1, e3, e6, e9, hlt, c0, d0, hw]
    refine ⟨⟨h2', i + 1, by omega, by simp, ?_⟩, by omega⟩
    rw [hpos]; simp [isAt, hw]

end
end Go.Proofs.YtacmnfpgimgigaaGreat

namespace Go.Proofs.YtacmnfpgimgigaaGreat
open Go
set_option linter.unusedSimpArgs false
set_option linter.unusedVariables false
set_option maxRecDepth 100000

abbrev refB (vH vW : Value) : Obj := .cells #[vH, vW] 61 (0, 0)
abbrev rowH (v : Value) (l : List One) : HP := RowO 84 5 v l.length (oneR l)
/-- The table's two lists, with the rest. -/
abbrev RfQ (T : Nat) (vH vW : Value) (H W : List One) (F : HP) : HP := Blk T (refB vH vW) * (rowH vH H * (rowH vW W * F))


theorem rnew_any {w0 w : World} {F : HP} (h : St w0 F w) : Calls Tryz.prog 6 #[] w fun e w' => ∃ T, St w0 (RfQ T (.slice none 0 0) (.slice none 0 0) [] [] F) w' ∧ e = .returned (.pointer (some ⟨T, 0, none⟩)) := by
  refine F6.calls (by simp) ?_
  unfold F6.code
  simp -dsimp -implicitDefEqProofs (disch := omega) only [go_sem, reqD_of, dec_t, dec_f, wrap_i64, wrap_u32, wrap_u64, wrap_u8]
  refine onV_of (v := .agg #[.slice none 0 0, .slice none 0 0]) (by kernel_rfl) ?_
  simp -dsimp -implicitDefEqProofs (disch := omega) only [go_sem, reqD_of, dec_t, dec_f, wrap_i64, wrap_u32, wrap_u64, wrap_u8]
  refine h.new fun T w1 h1 => ?_
  simp -dsimp -implicitDefEqProofs (disch := omega) only [go_sem, reqD_of, dec_t, dec_f, wrap_i64, wrap_u32, wrap_u64, wrap_u8]
  have h2 := (h1.nilR 84 5).nilR 84 5
  have h3 : St w0 (Blk T (refB (.slice none 0 0) (.slice none 0 0)) * (RowO 84 5 (.slice none 0 0) 0 [] * (RowO 84 5 (.slice none 0 0) 0 [] * F))) w1 := h2.sub
  exact ⟨T, h3, rfl⟩

section
attribute [local go_sem] F45.t4_eq F45.t5_eq F45.t7_eq
theorem without_any {w0 w : World} {F : HP} {v : Value} {l : List One} {at' : Nat} (h : St w0 F w) (hr : Ent F (Reads 5 v l.length (oneR l))) (hl : l.length < 1099511627776) (ha : at' < l.length) :
    Calls Tryz.prog 45 #[v, .int .i64 at'] w fun e w' => ∃ v', St w0 (rowH v' (l.eraseIdx at') * F) w' ∧ e = .returned v' := by
  obtain ⟨_, a, c, rfl, hnc, _⟩ := oneAt (h.ent hr)
  refine F45.calls (by simp) ?_
  unfold F45.code
  simp -dsimp -implicitDefEqProofs (disch := omega) only [go_sem, reqD_of, dec_t, dec_f, wrap_i64, wrap_u32, wrap_u64, wrap_u8]
  refine loop_intro (fun e w' => e.ds = [] ∧ e.ρ 0 = .slice a l.length c ∧ e.ρ 1 = .int .i64 at' ∧ ∃ (i : Nat) (m : List One) (v : Value), i ≤ l.length ∧ e.ρ 6 = .int .i64 i ∧ e.ρ 5 = v ∧ m ++ (if i ≤ at' then (l.drop i).eraseIdx (at' - i) else l.drop i) = l.eraseIdx at' ∧ m.length ≤ i ∧ St w0 (RowO 84 5 v m.length (oneR m) * F) w')
    (fun e _ => match e.ρ 6 with | .int _ n => (l.length - n).toNat | _ => 0) ?_ ?_
  · exact ⟨rfl, by simp -dsimp -implicitDefEqProofs only [go_sem], by simp -dsimp -implicitDefEqProofs only [go_sem], 0, [], _, by omega, rfl, rfl, by simp, by simp, h.nilR 84 5⟩
  rintro e w2 ⟨hd, e0, e1, i, m, v, hi, e6, e5, hm, hml, h2⟩
  by_cases hlt : (i : Int) < l.length
  case neg =>
    have : i = l.length := by omega
    subst this
    rw [if_neg (by omega), List.drop_length, List.append_nil] at hm
    subst hm
    simp -dsimp -implicitDefEqProofs (disch := omega) only [go_sem, reqD_of, dec_t, dec_f, wrap_i64, wrap_u32, wrap_u64, wrap_u8, hd, e0, e1, e5, e6, hlt]
    exact ⟨_, h2, rfl⟩
  have hil : i < l.length := by omega
  obtain ⟨_, a', c', hv, _, hcl⟩ := oneAt (h2.right.ent hr)
  simp only [Value.slice.injEq, true_and] at hv
  obtain ⟨rfl, rfl⟩ := hv
  obtain ⟨b, o, rfl, c0, c1, c2, c3, c4, _, _, hrow⟩ := hcl i hil
  by_cases hia : (i : Int) = at'
  · have hia' : i = at' := by omega
    subst hia'
    simp -dsimp -implicitDefEqProofs (disch := omega) only [go_sem, reqD_of, dec_t, dec_f, wrap_i64, wrap_u32, wrap_u64, wrap_u8, hd, e0, e1, e5, e6, hlt]
    refine ⟨⟨i + 1, m, v, by omega, by omega, rfl, ?_, by omega, h2⟩, by omega⟩
    rw [if_pos (Nat.le_refl _), Nat.sub_self, List.drop_eq_getElem_cons hil, List.eraseIdx_cons_zero] at hm
    rw [if_neg (by omega)]
    exact hm
  · simp -dsimp -implicitDefEqProofs (disch := omega) only [go_sem, reqD_of, dec_t, dec_f, wrap_i64, wrap_u32, wrap_u64, wrap_u8, hd, e0, e1, e5, e6, hlt, hia, hrow]
    refine h2.lit (n := 1) (cells := oneC l[i]) fact_rowTy_59 rfl (by decide) (by decide) fun v3 w3 h3 => ?_
    simp -dsimp -implicitDefEqProofs (disch := omega) only [go_sem, reqD_of, dec_t, dec_f, wrap_i64, wrap_u32, wrap_u64, wrap_u8, hd, e0, e1, e5, e6, hlt]
    refine h3.app (v := v) fact_rowTy_59 ((Ent.left _ _).trans (RowO.reads _ _ _ _ _)) Tryz.underlying59 (oneC_cells _) (fun h => by simp [oneC] at h) (by simp only [Go.maxLen]; omega) (by omega) fun v4 w4 h4 => ?_
    obtain ⟨a4, c4', rfl, _⟩ := h4.rowForm v4
    simp -dsimp -implicitDefEqProofs (disch := omega) only [go_sem, reqD_of, dec_t, dec_f, wrap_i64, wrap_u32, wrap_u64, wrap_u8, hd, e0, e1, e5, e6]
    rw [oneR_snoc] at h4
    refine ⟨⟨i + 1, m ++ [l[i]], _, by omega, by omega, rfl, ?_, by simp only [List.length_append, List.length_cons, List.length_nil]; omega, ?_⟩, by omega⟩
    · rw [← hm, List.drop_eq_getElem_cons hil]
      by_cases hlt2 : i ≤ at'
      · obtain ⟨d, hd2⟩ : ∃ d, at' - i = d + 1 := ⟨at' - i - 1, by omega⟩
        rw [if_pos (by omega), if_pos hlt2, hd2, List.eraseIdx_cons_succ, show at' - (i + 1) = d by omega, List.append_assoc]
        rfl
      · rw [if_neg (by omega), if_neg hlt2, List.append_assoc]
        rfl
    · have h5 : St w0 (RowO 84 5 (.slice a4 (m.length + 1) c4') (m.length + 1) (oneR (m ++ [l[i]])) * F) w4 := h4.sub
      simpa only [List.length_append, List.length_cons, List.length_nil, Nat.zero_add] using h5

end
section
variable {w0 w : World} {F : HP} {T : Nat} {vH vW : Value} {H W : List One}

section
attribute [local go_sem] F44.t3_eq F44.t4_eq F44.t6_eq
theorem could_any {n : Nee} (h : St w0 (RfQ T vH vW H W F) w) (hl : H.length < 1099511627776) :
    Calls Tryz.prog 44 #[.pointer (some ⟨T, 0, none⟩), needV n] w fun e w' => St w0 (RfQ T vH vW H W F) w' ∧ e = .returned (.bool (couldB n H)) := by
  obtain ⟨_, a, c, rfl, hnc, _⟩ := oneAt (h.ent ((Ent.right _ _).trans ((Ent.left _ _).trans (RowO.reads _ _ _ _ _))))
  refine F44.calls (by simp) ?_
  unfold F44.code
  simp -dsimp -implicitDefEqProofs (disch := omega) only [go_sem, reqD_of, dec_t, dec_f, wrap_i64, wrap_u32, wrap_u64, wrap_u8]
  refine h.new fun N w1 h1 => ?_
  simp -dsimp -implicitDefEqProofs (disch := omega) only [go_sem, reqD_of, dec_t, dec_f, wrap_i64, wrap_u32, wrap_u64, wrap_u8]
  refine loop_intro (fun e w' => St w0 (Blk N (.cells (needC n).toArray 42 (0, 0)) * RfQ T (.slice a H.length c) vW H W F) w' ∧ e.ds = [] ∧ e.ρ 0 = .pointer (some ⟨T, 0, none⟩) ∧ e.ρ 3 = .pointer (some ⟨N, 0, none⟩) ∧ ∃ i : Nat, i ≤ H.length ∧ e.ρ 5 = .int .i64 i ∧ couldB n H = couldB n (H.drop i))
    (fun e _ => match e.ρ 5 with | .int _ n => (H.length - n).toNat | _ => 0) ?_ ?_
  · exact ⟨h1, rfl, by simp -dsimp -implicitDefEqProofs only [go_sem], by simp -dsimp -implicitDefEqProofs only [go_sem], 0, by omega, rfl, rfl⟩
  rintro e w2 ⟨h2, hd, e0, e3, i, hi, e5, hpos⟩
  have cT := h2.cl T
  by_cases hlt : (i : Int) < H.length
  case neg =>
    have : i = H.length := by omega
    subst this
    simp -dsimp -implicitDefEqProofs (disch := omega) only [go_sem, reqD_of, dec_t, dec_f, wrap_i64, wrap_u32, wrap_u64, wrap_u8, hd, e0, e3, e5, hlt, cT]
    exact ⟨h2.right, by rw [hpos, List.drop_length]; rfl⟩
  have hil : i < H.length := by omega
  have h2' := h2.drew
  have dT := h2'.cl T
  obtain ⟨_, a', c', hv, _, hcl⟩ := oneAt (h2.ent ((Ent.right _ _).trans ((Ent.right _ _).trans ((Ent.left _ _).trans (RowO.reads _ _ _ _ _)))))
  simp only [Value.slice.injEq, true_and] at hv
  obtain ⟨rfl, rfl⟩ := hv
  obtain ⟨b, o, rfl, c0, c1, c2, c3, c4, r3, _, _⟩ := hcl i hil
  have hp : couldB n (H.drop i) = (!(decide (H[i].2.1 = n.1) && (n.2 || H[i].2.2)) && couldB n (H.drop (i + 1))) := by
    rw [List.drop_eq_getElem_cons hil]; rfl
  rw [hp] at hpos
  have cN := h2.cl N
  have dN := h2'.cl N
  simp only [needC] at cN dN
  have hN3 : rowV w2 ⟨N, 0, none⟩ 3 = some (namV n.1) := by simp [rowV, cellsFrom, add_lit, cN, namV, namC]
  have dN3 : rowV w2.drew ⟨N, 0, none⟩ 3 = some (namV n.1) := hN3
  have d4 : w2.drew.cell? _ = _ := c4
  have dr3 : rowV w2.drew _ 3 = _ := r3
  generalize hx : H[i] = x at c0 c1 c2 c3 c4 r3 d4 dr3 hpos
  by_cases hk : x.2.1 = n.1
  · cases hn : n.2 with
    | true =>
      simp -dsimp -implicitDefEqProofs (disch := omega) only [go_sem, reqD_of, dec_t, dec_f, wrap_i64, wrap_u32, wrap_u64, wrap_u8, hd, e0, e3, e5, hlt, cT, dT, r3, dr3, hN3, dN3, cN, dN, namC, namEq, hk, hn]
      exact ⟨h2'.right, by rw [hpos]; simp [hk, hn]⟩
    | false =>
      cases hx2 : x.2.2 with
      | true =>
        simp -dsimp -implicitDefEqProofs (disch := omega) only [go_sem, reqD_of, dec_t, dec_f, wrap_i64, wrap_u32, wrap_u64, wrap_u8, hd, e0, e3, e5, hlt, cT, dT, r3, dr3, hN3, dN3, cN, dN, namC, namEq, hk, hn, c4, d4, hx2]
        exact ⟨h2'.right, by rw [hpos]; simp [hk, hn, hx2]⟩
      | false =>
        simp -dsimp -implicitDefEqProofs (disch := omega) only [go_sem, reqD_of, dec_t, dec_f, wrap_i64, wrap_u32, wrap_u64, wrap_u8, hd, e0, e3, e5, hlt, cT, dT, r3, dr3, hN3, dN3, cN, dN, namC, namEq, hk, hn, c4, d4, hx2]
        refine ⟨⟨h2', i + 1, by omega, by simp, ?_⟩, by omega⟩
        rw [hpos]; simp [hk, hn, hx2]
  · simp -dsimp -implicitDefEqProofs (disch := omega) only [go_sem, reqD_of, dec_t, dec_f, wrap_i64, wrap_u32, wrap_u64, wrap_u8, hd, e0, e3, e5, hlt, cT, dT, r3, dr3, hN3, dN3, cN, dN, namC, namEq, hk]
    refine ⟨⟨h2', i + 1, by omega, by simp, ?_⟩, by omega⟩
    rw [hpos]; simp [hk]

end
section
attribute [local go_sem] F43.t3_eq F43.t4_eq F43.t6_eq
theorem first_any {k : Nam} (h : St w0 (RfQ T vH vW H W F) w) (hl : W.length < 1099511627776) :
    Calls Tryz.prog 43 #[.pointer (some ⟨T, 0, none⟩), namV k] w fun e w' => St w0 (RfQ T vH vW H W F) w' ∧ e = .returned (.int .i64 (firstI (isLock k) W 0)) := by
  obtain ⟨_, a, c, rfl, hnc, _⟩ := oneAt (h.ent ((Ent.right _ _).trans ((Ent.right _ _).trans ((Ent.left _ _).trans (RowO.reads _ _ _ _ _)))))
  refine F43.calls (by simp) ?_
  unfold F43.code
  simp -dsimp -implicitDefEqProofs (disch := omega) only [go_sem, reqD_of, dec_t, dec_f, wrap_i64, wrap_u32, wrap_u64, wrap_u8]
  refine h.new fun N w1 h1 => ?_
  simp -dsimp -implicitDefEqProofs (disch := omega) only [go_sem, reqD_of, dec_t, dec_f, wrap_i64, wrap_u32, wrap_u64, wrap_u8]
  refine loop_intro (fun e w' => St w0 (Blk N (.cells (namC k).toArray 40 (0, 0)) * RfQ T vH (.slice a W.length c) H W F) w' ∧ e.ds = [] ∧ e.ρ 0 = .pointer (some ⟨T, 0, none⟩) ∧ e.ρ 3 = .pointer (some ⟨N, 0, none⟩) ∧ ∃ i : Nat, i ≤ W.length ∧ e.ρ 5 = .int .i64 i ∧ firstI (isLock k) W 0 = firstI (isLock k) (W.drop i) i)
    (fun e _ => match e.ρ 5 with | .int _ n => (W.length - n).toNat | _ => 0) ?_ ?_
  · exact ⟨h1, rfl, by simp -dsimp -implicitDefEqProofs only [go_sem], by simp -dsimp -implicitDefEqProofs only [go_sem], 0, by omega, rfl, rfl⟩
  rintro e w2 ⟨h2, hd, e0, e3, i, hi, e5, hpos⟩
  have cT := h2.cl T
  by_cases hlt : (i : Int) < W.length
  case neg =>
    have : i = W.length := by omega
    subst this
    simp -dsimp -implicitDefEqProofs (disch := omega) only [go_sem, reqD_of, dec_t, dec_f, wrap_i64, wrap_u32, wrap_u64, wrap_u8, hd, e0, e3, e5, hlt, cT]
    exact ⟨h2.right, by rw [hpos, List.drop_length]; rfl⟩
  have hil : i < W.length := by omega
  have h2' := h2.drew
  have dT := h2'.cl T
  obtain ⟨_, a', c', hv, _, hcl⟩ := oneAt (h2.ent ((Ent.right _ _).trans ((Ent.right _ _).trans ((Ent.right _ _).trans ((Ent.left _ _).trans (RowO.reads _ _ _ _ _))))))
  simp only [Value.slice.injEq, true_and] at hv
  obtain ⟨rfl, rfl⟩ := hv
  obtain ⟨b, o, rfl, c0, c1, c2, c3, c4, r3, _, _⟩ := hcl i hil
  rw [firstI_step _ hil] at hpos
  have hN := h2.rowH N 3 rfl
  have dr3 : rowV w2.drew _ 3 = _ := r3
  have dN : rowV w2.drew _ 3 = _ := hN
  generalize hx : W[i] = x at c0 c1 c2 c3 c4 r3 dr3 hpos
  by_cases hk : x.2.1 = k
  · simp -dsimp -implicitDefEqProofs (disch := omega) only [go_sem, reqD_of, dec_t, dec_f, wrap_i64, wrap_u32, wrap_u64, wrap_u8, hd, e0, e3, e5, hlt, cT, dT, r3, dr3, hN, dN, namC, namEq, hk]
    exact ⟨h2'.right, by rw [hpos]; simp [isLock, hk]⟩
  · simp -dsimp -implicitDefEqProofs (disch := omega) only [go_sem, reqD_of, dec_t, dec_f, wrap_i64, wrap_u32, wrap_u64, wrap_u8, hd, e0, e3, e5, hlt, cT, dT, r3, dr3, hN, dN, namC, namEq, hk]
    refine ⟨⟨h2', i + 1, by omega, by simp, ?_⟩, by omega⟩
    rw [hpos]; simp [isLock, hk]

end

theorem ridle_any (h : St w0 (RfQ T vH vW H W F) w) : Calls Tryz.prog 34 #[.pointer (some ⟨T, 0, none⟩)] w fun e w' => St w0 (RfQ T vH vW H W F) w' ∧ e = .returned (.bool (decide (H = []))) := by
  obtain ⟨_, a, c, rfl, hnc, _⟩ := oneAt (h.ent ((Ent.right _ _).trans ((Ent.left _ _).trans (RowO.reads _ _ _ _ _))))
  refine F34.calls (by simp) ?_
  unfold F34.code
  simp -dsimp -implicitDefEqProofs (disch := omega) only [go_sem, reqD_of, dec_t, dec_f, wrap_i64, wrap_u32, wrap_u64, wrap_u8, h.cl T]
  refine ⟨h, ?_⟩
  cases H with
  | nil => rfl
  | cons x l => rw [dec_f (by simp only [List.length_cons]; omega), dec_f (by simp)]
end
end Go.Proofs.YtacmnfpgimgigaaGreat

namespace Go.Proofs.YtacmnfpgimgigaaGreat
open Go
set_option linter.unusedSimpArgs false
set_option linter.unusedVariables false
set_option maxRecDepth 100000

section
variable {x : Nam} {H W H1 W1 : List One} {l1 : List Claim}
theorem LetI.go' {a b : List One} {w : Int} {n : Nee} (i : LetI x H W l1 H1 (a ++ (w, n) :: b)) (hx : n.1 = x) (h1 : ∀ y ∈ a, isLock x y = false) (hc : couldB n H1 = true) : LetI x H W (l1 ++ [(w, n.2)]) (H1 ++ [(w, n)]) (a ++ b) := by
  subst hx; exact i.go h1 hc
theorem LetI.stop' {a b : List One} {w : Int} {n : Nee} (i : LetI x H W l1 H1 (a ++ (w, n) :: b)) (hx : n.1 = x) (h1 : ∀ y ∈ a, isLock x y = false) (hc : couldB n H1 = false) : LetR x H W l1 H1 (a ++ (w, n) :: b) := by
  subst hx; exact i.stop h1 hc
end

section
attribute [local go_sem] F46.t4_eq F46.t9_eq
theorem letIn_any {w0 w : World} {F : HP} {T : Nat} {vH vW : Value} {H W : List One} {x : Nam} (h : St w0 (RfQ T vH vW H W F) w) (ha : Alone1 (hasK x H)) (hl : H.length + W.length < 1073741824) :
    Calls Tryz.prog 46 #[.pointer (some ⟨T, 0, none⟩), namV x] w fun e w' => ∃ (v vH' vW' : Value) (H' W' : List One) (l : List Claim), LetR x H W l H' W' ∧ l.length ≤ W.length ∧ St w0 (RowO 3 1 v l.length (intR (l.map (·.1))) * RfQ T vH' vW' H' W' F) w' ∧ e = .returned v := by
  refine F46.calls (by simp) ?_
  unfold F46.code
  simp -dsimp -implicitDefEqProofs (disch := omega) only [go_sem, reqD_of, dec_t, dec_f, wrap_i64, wrap_u32, wrap_u64, wrap_u8]
  refine h.new fun N w1 h1 => ?_
  have hN := h1.rowH N 3 rfl
  simp -dsimp -implicitDefEqProofs (disch := omega) only [go_sem, reqD_of, dec_t, dec_f, wrap_i64, wrap_u32, wrap_u64, wrap_u8, hN]
  refine (first_any (h1.sub (B := RfQ T vH vW H W (Blk N (.cells (namC x).toArray 40 (0, 0)) * F))) (by omega)).mono ?_
  rintro e w2 ⟨h2, rfl⟩
  simp -dsimp -implicitDefEqProofs (disch := omega) only [go_sem, reqD_of, dec_t, dec_f, wrap_i64, wrap_u32, wrap_u64, wrap_u8]
  refine loop_intro (fun e w' => e.ds = [] ∧ e.ρ 0 = .pointer (some ⟨T, 0, none⟩) ∧ e.ρ 3 = .pointer (some ⟨N, 0, none⟩) ∧ ∃ (v vH1 vW1 : Value) (H1 W1 : List One) (l1 : List Claim), e.ρ 5 = v ∧ e.ρ 6 = .int .i64 (firstI (isLock x) W1 0) ∧ LetI x H W l1 H1 W1 ∧ St w0 (RfQ T vH1 vW1 H1 W1 (RowO 3 1 v l1.length (intR (l1.map (·.1))) * (Blk N (.cells (namC x).toArray 40 (0, 0)) * F))) w')
    (fun e w => match w.cell? ⟨T, 1, none⟩ with | some (.slice _ n _) => n | _ => 0) ?_ ?_
  · refine ⟨rfl, by simp -dsimp -implicitDefEqProofs only [go_sem], by simp -dsimp -implicitDefEqProofs only [go_sem], _, vH, vW, H, W, [], rfl, by simp -dsimp -implicitDefEqProofs only [go_sem], LetI.start ha, ?_⟩
    have h3 := h2.nilR 3 1
    have h4 : St w0 (RfQ T vH vW H W (RowO 3 1 (.slice none 0 0) 0 [] * (Blk N (.cells (namC x).toArray 40 (0, 0)) * F))) w2 := h3.sub
    exact h4
  rintro e w3 ⟨hd, e0, e3, v, vH1, vW1, H1, W1, l1, e5, e6, hi, h3⟩
  have hin := hi.n
  have hik := hi.k
  obtain ⟨aw, cw, rfl, _⟩ := h3.rowForm vW1
  obtain ⟨av, cv, rfl, _⟩ := h3.rowForm v
  have cT := h3.cl T
  rcases firstI_spec (isLock x) W1 0 with ⟨hf, hno⟩ | ⟨a, ⟨wh, n⟩, b, hW1, hbef, hp, hf⟩
  · rw [hf] at e6
    simp -dsimp -implicitDefEqProofs (disch := omega) only [go_sem, reqD_of, dec_t, dec_f, wrap_i64, wrap_u32, wrap_u64, wrap_u8, hd, e0, e3, e5, e6, cT]
    have h4 : St w0 (RowO 3 1 (.slice av l1.length cv) l1.length (intR (l1.map (·.1))) * RfQ T vH1 (.slice aw W1.length cw) H1 W1 F) w3 := h3.sub
    exact ⟨_, _, _, H1, W1, l1, hi.none hno, by omega, h4, rfl⟩
  rw [hf, Nat.zero_add] at e6
  have hnx : n.1 = x := by simpa [isLock] using hp
  have hWl : W1.length = a.length + b.length + 1 := by rw [hW1]; simp; omega
  have hal : a.length < W1.length := by omega
  have halI : (a.length : Int) < (W1.length : Int) := by omega
  have hWa : W1[a.length] = (wh, n) := by simp [hW1]
  obtain ⟨_, aw', cw', hv, _, hcl⟩ := oneAt (h3.ent ((Ent.right _ _).trans ((Ent.right _ _).trans ((Ent.left _ _).trans (RowO.reads _ _ _ _ _)))))
  simp only [Value.slice.injEq, true_and] at hv
  obtain ⟨rfl, rfl⟩ := hv
  obtain ⟨bw, ow, rfl, c0, c1, c2, c3, c4, r3, r4, r5⟩ := hcl a.length hal
  rw [hWa] at c0 c1 c2 c3 c4 r3 r4 r5
  simp -dsimp -implicitDefEqProofs (disch := omega) only [go_sem, reqD_of, dec_t, dec_f, wrap_i64, wrap_u32, wrap_u64, wrap_u8, hd, e0, e3, e5, e6, cT, halI, r4]
  refine (could_any h3 (by omega)).mono ?_
  rintro e' w4 ⟨h4, rfl⟩
  cases hc : couldB n H1 with
  | false =>
    simp -dsimp -implicitDefEqProofs (disch := omega) only [go_sem, reqD_of, dec_t, dec_f, wrap_i64, wrap_u32, wrap_u64, wrap_u8, hd, e0, e3, e5, e6]
    have h5 : St w0 (RowO 3 1 (.slice av l1.length cv) l1.length (intR (l1.map (·.1))) * RfQ T vH1 (.slice (some ⟨bw, ow, none⟩) W1.length cw) H1 W1 F) w4 := h4.sub
    refine ⟨_, _, _, H1, W1, l1, ?_, by omega, h5, rfl⟩
    rw [hW1]
    rw [hW1] at hi
    exact hi.stop' hnx hbef hc
  | true =>
  have cT4 := h4.cl T
  obtain ⟨_, _, _, hv, _, hcl4⟩ := oneAt (h4.ent ((Ent.right _ _).trans ((Ent.right _ _).trans ((Ent.left _ _).trans (RowO.reads _ _ _ _ _)))))
  simp only [Value.slice.injEq, true_and] at hv
  obtain ⟨rfl, rfl⟩ := hv
  obtain ⟨_, _, hq, _, _, _, _, _, _, _, r5'⟩ := hcl4 a.length hal
  simp only [Option.some.injEq, Addr.mk.injEq] at hq
  obtain ⟨rfl, rfl, _⟩ := hq
  rw [hWa] at r5'
  simp -dsimp -implicitDefEqProofs (disch := omega) only [go_sem, reqD_of, dec_t, dec_f, wrap_i64, wrap_u32, wrap_u64, wrap_u8, hd, e0, e3, e5, e6, cT4, halI, r5']
  refine h4.new fun X w5 h5 => ?_
  simp -dsimp -implicitDefEqProofs (disch := omega) only [go_sem, reqD_of, dec_t, dec_f, wrap_i64, wrap_u32, wrap_u64, wrap_u8, hd, e0, e3, e5, e6]
  refine h5.stoAll (b := X) (cs := oneC (wh, n)) rfl rfl (oneC_cells _) fun w6 h6 => ?_
  have cT6 := h6.cl T
  simp -dsimp -implicitDefEqProofs (disch := omega) only [go_sem, reqD_of, dec_t, dec_f, wrap_i64, wrap_u32, wrap_u64, wrap_u8, hd, e0, e3, e5, e6, cT6]
  refine (without_any (l := W1) (at' := a.length) h6 ((Ent.right _ _).trans ((Ent.right _ _).trans ((Ent.right _ _).trans ((Ent.left _ _).trans (RowO.reads _ _ _ _ _))))) (by omega) hal).mono ?_
  rintro e' w7 ⟨v', h7, rfl⟩
  have hWe : W1.eraseIdx a.length = a ++ b := by rw [hW1, List.eraseIdx_append_of_length_le (Nat.le_refl _), Nat.sub_self, List.eraseIdx_cons_zero]
  rw [hWe] at h7
  obtain ⟨a7, c7, rfl, _⟩ := h7.rowForm v'
  have cT7 := h7.cl T
  simp -dsimp -implicitDefEqProofs (disch := omega) only [go_sem, reqD_of, dec_t, dec_f, wrap_i64, wrap_u32, wrap_u64, wrap_u8, hd, e0, e3, e5, e6, cT7]
  refine h7.sto (b := T) (off := 1) (by simp) rfl fun w8 h8 => ?_
  simp only [List.setIfInBounds_toArray, List.set_cons_succ, List.set_cons_zero] at h8
  obtain ⟨ah, ch, rfl, _⟩ := h8.rowForm vH1
  have cT8 := h8.cl T
  have h8' := h8.drew
  have dT8 := h8'.cl T
  have hX := h8.rowH X 5 rfl
  have dX : rowV w8.drew _ 5 = _ := hX
  have cX8 := h8.cl X
  have dX8 := h8'.cl X
  simp only [oneC] at cX8 dX8
  simp -dsimp -implicitDefEqProofs (disch := omega) only [go_sem, reqD_of, dec_t, dec_f, wrap_i64, wrap_u32, wrap_u64, wrap_u8, hd, e0, e3, e5, e6, cT8, dT8, hX, dX]
  refine h8'.lit (n := 1) (cells := oneC (wh, n)) fact_rowTy_59 rfl (by decide) (by decide) fun v9 w9 h9 => ?_
  have cT9 := h9.cl T
  have cX9 := h9.cl X
  have hX9 := h9.rowH X 5 rfl
  simp only [oneC] at cX9
  simp -dsimp -implicitDefEqProofs (disch := omega) only [go_sem, reqD_of, dec_t, dec_f, wrap_i64, wrap_u32, wrap_u64, wrap_u8, hd, e0, e3, e5, e6, cT9, hX9, cX9]
  refine h9.app (v := .slice ah H1.length ch) fact_rowTy_59 ((Ent.left _ _).trans (RowO.reads _ _ _ _ _)) Tryz.underlying59 (oneC_cells _) (fun h => by simp [oneC] at h) (by simp only [Go.maxLen]; omega) (by omega) fun v10 w10 h10 => ?_
  obtain ⟨a10, c10, rfl, _⟩ := h10.rowForm v10
  have cT10 := h10.cl T
  have cX10 := h10.cl X
  have hX10 := h10.rowH X 5 rfl
  simp only [oneC] at cX10
  simp -dsimp -implicitDefEqProofs (disch := omega) only [go_sem, reqD_of, dec_t, dec_f, wrap_i64, wrap_u32, wrap_u64, wrap_u8, hd, e0, e3, e5, e6, cT10, hX10, cX10]
  refine h10.sto (b := T) (off := 0) (by simp) rfl fun w11 h11 => ?_
  simp only [List.setIfInBounds_toArray, List.set_cons_succ, List.set_cons_zero] at h11
  have cT11 := h11.cl T
  have cX11 := h11.cl X
  have hX11 := h11.rowH X 5 rfl
  simp only [oneC] at cX11
  simp -dsimp -implicitDefEqProofs (disch := omega) only [go_sem, reqD_of, dec_t, dec_f, wrap_i64, wrap_u32, wrap_u64, wrap_u8, hd, e0, e3, e5, e6, cT11, cX11, hX11]
  refine h11.lit (n := 1) (cells := [.int .i64 wh]) fact_rowTy_32 rfl (by decide) (by decide) fun v12 w12 h12 => ?_
  simp -dsimp -implicitDefEqProofs (disch := omega) only [go_sem, reqD_of, dec_t, dec_f, wrap_i64, wrap_u32, wrap_u64, wrap_u8, hd, e0, e3, e5, e6]
  refine h12.app (v := .slice av l1.length cv) fact_rowTy_32 ((Ent.left _ _).trans (RowO.reads _ _ _ _ _)) Tryz.underlying32 (by intro u hu; simp only [List.mem_singleton] at hu; subst hu; rfl) (fun h => by simp at h) (by simp only [Go.maxLen]; omega) (by omega) fun v13 w13 h13 => ?_
  obtain ⟨a13, c13, rfl, _⟩ := h13.rowForm v13
  have hN13 := h13.rowH N 3 rfl
  simp -dsimp -implicitDefEqProofs (disch := omega) only [go_sem, reqD_of, dec_t, dec_f, wrap_i64, wrap_u32, wrap_u64, wrap_u8, hd, e0, e3, e5, e6, hN13]
  have e1 : intR (l1.map (·.1)) ++ [.int .i64 wh] = intR ((l1 ++ [((wh, n.2) : Claim)]).map (·.1)) := by simp [intR]
  rw [e1, oneR_snoc] at h13
  have h14 : St w0 (RfQ T (.slice a10 (H1.length + 1) c10) (.slice a7 (a ++ b).length c7) (H1 ++ [(wh, n)]) (a ++ b) (RowO 3 1 (.slice a13 (l1.length + 1) c13) (l1 ++ [((wh, n.2) : Claim)]).length (intR ((l1 ++ [((wh, n.2) : Claim)]).map (·.1))) * (Blk N (.cells (namC x).toArray 40 (0, 0)) * F))) w13 := by
    have : (l1 ++ [((wh, n.2) : Claim)]).length = l1.length + 1 := by simp
    rw [this]
    have : (H1 ++ [(wh, n)]).length = H1.length + 1 := by simp
    simp only [RfQ, rowH, this]
    exact h13.sub
  refine (first_any h14 (by simp only [List.length_append]; omega)).mono ?_
  rintro e' w15 ⟨h15, rfl⟩
  rw [hW1] at hi
  simp -dsimp -implicitDefEqProofs (disch := omega) only [go_sem, reqD_of, dec_t, dec_f, wrap_i64, wrap_u32, wrap_u64, wrap_u8, hd, e0, e3, e5, e6]
  refine ⟨⟨_, _, _, _, _, _, rfl, rfl, hi.go' hnx hbef hc, h15⟩, ?_⟩
  rw [h15.cl T 1, cT 1]
  simp
  omega
end
end Go.Proofs.YtacmnfpgimgigaaGreat

namespace Go.Proofs.YtacmnfpgimgigaaGreat
open Go
set_option linter.unusedSimpArgs false
set_option linter.unusedVariables false
set_option maxRecDepth 100000

/-- The document's table of a state. -/
def RefT (T m : Nat) (ls : List (Nam × LkS)) : HP := HP.ex fun x : (Value × Value) × List One × List One => HP.fact (Sim ls x.2.1 x.2.2 ∧ x.2.1.length + x.2.2.length ≤ m) (RfQ T x.1.1 x.1.2 x.2.1 x.2.2 EmpH)
instance (T m : Nat) (ls : List (Nam × LkS)) : Face (.obj T) (RefT T m ls) := ⟨⟩
theorem RfQ.up (T : Nat) (vH vW : Value) (H W : List One) (F : HP) : RfQ T vH vW H W EmpH * F = EmpH * RfQ T vH vW H W F := by simp only [RfQ]; ac_rfl
theorem RefT.open {w0 w : World} {T m : Nat} {ls : List (Nam × LkS)} {F : HP} (h : St w0 (RefT T m ls * F) w) : ∃ vH vW H W, Sim ls H W ∧ H.length + W.length ≤ m ∧ St w0 (RfQ T vH vW H W F) w := by
  obtain ⟨⟨⟨vH, vW⟩, H, W⟩, h⟩ := h.exF
  obtain ⟨⟨s, hm⟩, h⟩ := h.factF
  exact ⟨vH, vW, H, W, s, hm, (h.ac (RfQ.up T vH vW H W F)).right⟩
theorem RefT.mk {w0 w : World} {T m : Nat} {ls : List (Nam × LkS)} {F : HP} {vH vW : Value} {H W : List One} (s : Sim ls H W) (hm : H.length + W.length ≤ m) (h : St w0 (RfQ T vH vW H W F) w) : St w0 (RefT T m ls * F) w := by
  have h1 := (h.ent (Ent.embL _)).ac (RfQ.up T vH vW H W F).symm
  exact h1.ent (Ent.sep ((Ent.fact ⟨s, hm⟩ _).trans (Ent.ex (fun x : (Value × Value) × List One × List One => HP.fact (Sim ls x.2.1 x.2.2 ∧ x.2.1.length + x.2.2.length ≤ m) (RfQ T x.1.1 x.1.2 x.2.1 x.2.2 EmpH)) ((vH, vW), H, W))) (Ent.rfl' F))
theorem RefT.up {w0 w : World} {T m k : Nat} {ls : List (Nam × LkS)} {F : HP} (hk : m ≤ k) (h : St w0 (RefT T m ls * F) w) : St w0 (RefT T k ls * F) w := by
  obtain ⟨vH, vW, H, W, s, hm, h1⟩ := RefT.open h
  exact RefT.mk s (by omega) h1

section
variable {w0 w : World} {F : HP} {T m : Nat} {ls : List (Nam × LkS)} {ws : List (Int × Nee)}

theorem rnew_ref (h : St w0 F w) : Calls Tryz.prog 6 #[] w fun e w' => ∃ T, St w0 (RefT T 0 [] * F) w' ∧ e = .returned (.pointer (some ⟨T, 0, none⟩)) := by
  refine (rnew_any h).mono ?_
  rintro e w1 ⟨T, h1, rfl⟩
  exact ⟨T, RefT.mk Sim.start (by simp) h1, rfl⟩

theorem idle_ref (v : Inv ls ws) (h : St w0 (RefT T m ls * F) w) : Calls Tryz.prog 34 #[.pointer (some ⟨T, 0, none⟩)] w fun e w' => St w0 (RefT T m ls * F) w' ∧ e = .returned (.bool (decide (ls = []))) := by
  obtain ⟨vH, vW, H, W, s, hm, h1⟩ := RefT.open h
  refine (ridle_any h1).mono ?_
  rintro e w1 ⟨h2, rfl⟩
  refine ⟨RefT.mk s hm h2, ?_⟩
  congr 2
  exact decide_eq_decide.2 (s.idle v)

section
attribute [local go_sem] F18.t8_eq F18.t5_eq F18.t3_eq
theorem ask_ref {who : Int} {n : Nee} (v : Inv ls ws) (hM : m < 1000000) (h : St w0 (RefT T m ls * F) w) :
    Calls Tryz.prog 18 #[.pointer (some ⟨T, 0, none⟩), .int .i64 who, needV n] w fun e w' => St w0 (RefT T (m + 1) (askS who n ls ws).2.1 * F) w' ∧ e = .returned (.tuple #[.bool (askS who n ls ws).1.1, .int .i64 (askS who n ls ws).1.2]) := by
  obtain ⟨vH, vW, H, W, s, hm, h1⟩ := RefT.open h
  obtain ⟨q1, q2, q3, q4⟩ := s.ask v who n
  obtain ⟨aw, cw, rfl, _⟩ := h1.rowForm vW
  obtain ⟨ah, ch, rfl, _⟩ := h1.rowForm vH
  refine F18.calls (by simp) ?_
  unfold F18.code
  simp -dsimp -implicitDefEqProofs (disch := omega) only [go_sem, reqD_of, dec_t, dec_f, wrap_i64, wrap_u32, wrap_u64, wrap_u8]
  refine h1.new fun N w1 h2 => ?_
  have h3 : St w0 (RfQ T (.slice ah H.length ch) (.slice aw W.length cw) H W (Blk N (.cells (needC n).toArray 42 (0, 0)) * F)) w1 := h2.sub
  have h3' := h3.drew
  have cT := h3.cl T
  have cT' := h3'.cl T
  have cN := h3.cl N
  have cN' := h3'.cl N
  simp only [needC] at cN cN'
  have rN : rowV w1 ⟨N, 0, none⟩ 3 = some (namV n.1) := by simp [rowV, cellsFrom, add_lit, cN, namV, namC]
  have rN' : rowV w1.drew ⟨N, 0, none⟩ 3 = some (namV n.1) := rN
  simp -dsimp -implicitDefEqProofs (disch := omega) only [go_sem, reqD_of, dec_t, dec_f, wrap_i64, wrap_u32, wrap_u64, wrap_u8, cT, cT', rN, rN']
  refine (place_any (l := W) (k := n.1) h3' ((Ent.right _ _).trans ((Ent.right _ _).trans ((Ent.left _ _).trans (RowO.reads _ _ _ _ _)))) (by omega)).mono ?_
  rintro e w2 ⟨h4, rfl⟩
  have cT4 := h4.cl T
  have cN4 := h4.cl N
  simp only [needC] at cN4
  rcases s.waits v (who := who) (k := n.1) with ⟨hf, hnone⟩ | ⟨a, n', b, hW, hf, hsome⟩
  case inr =>
    rw [hf]
    have hge : (0 : Int) ≤ (a.length : Int) := by omega
    simp -dsimp -implicitDefEqProofs (disch := omega) only [go_sem, reqD_of, dec_t, dec_f, wrap_i64, wrap_u32, wrap_u64, wrap_u8, cT4, cN4, hge]
    rw [q1 n' hsome]
    exact ⟨RefT.mk s (by omega) (h4.sub (B := RfQ T (.slice ah H.length ch) (.slice aw W.length cw) H W F)), rfl⟩
  rw [hf]
  have h4' := h4.drew
  have cT4' := h4'.cl T
  have cN4' := h4'.cl N
  simp only [needC] at cN4'
  have rN4 : rowV w2 ⟨N, 0, none⟩ 3 = some (namV n.1) := by simp [rowV, cellsFrom, add_lit, cN4, namV, namC]
  have rN4' : rowV w2.drew ⟨N, 0, none⟩ 3 = some (namV n.1) := rN4
  simp -dsimp -implicitDefEqProofs (disch := omega) only [go_sem, reqD_of, dec_t, dec_f, wrap_i64, wrap_u32, wrap_u64, wrap_u8, cT4, cN4, cT4', rN4, rN4']
  refine (place_any (l := H) (k := n.1) h4' ((Ent.right _ _).trans ((Ent.left _ _).trans (RowO.reads _ _ _ _ _))) (by omega)).mono ?_
  rintro e w3 ⟨h5, rfl⟩
  have cT5 := h5.cl T
  have cN5 := h5.cl N
  simp only [needC] at cN5
  have rN5 : rowV w3 ⟨N, 0, none⟩ 3 = some (namV n.1) := by simp [rowV, cellsFrom, add_lit, cN5, namV, namC]
  rcases firstI_spec (isAt who n.1 false) H 0 with ⟨hg, hno⟩ | ⟨a, o, b, hH, hbef, hp, hg⟩
  case inr =>
    rw [hg]
    have hge : (0 : Int) ≤ ((0 + a.length : Nat) : Int) := by omega
    simp -dsimp -implicitDefEqProofs (disch := omega) only [go_sem, reqD_of, dec_t, dec_f, wrap_i64, wrap_u32, wrap_u64, wrap_u8, cT5, cN5, hge]
    have hex : ∃ o ∈ H, o.1 = who ∧ o.2.1 = n.1 := ⟨o, by rw [hH]; simp, by simpa [isAt] using hp⟩
    obtain ⟨e1, s'⟩ := q2 hnone hex
    rw [e1]
    exact ⟨RefT.mk s' (by omega) (h5.sub (B := RfQ T (.slice ah H.length ch) (.slice aw W.length cw) H W F)), rfl⟩
  rw [hg]
  have hnex : ¬ ∃ o ∈ H, o.1 = who ∧ o.2.1 = n.1 := by
    rintro ⟨o, ho, ho1, ho2⟩
    have := hno o ho
    simp [isAt, ho1, ho2] at this
  simp -dsimp -implicitDefEqProofs (disch := omega) only [go_sem, reqD_of, dec_t, dec_f, wrap_i64, wrap_u32, wrap_u64, wrap_u8, cT5, cN5, rN5]
  refine (first_any h5 (by omega)).mono ?_
  rintro e w4 ⟨h6, rfl⟩
  have cN6 := h6.cl N
  simp only [needC] at cN6
  have rN6 : rowV w4 ⟨N, 0, none⟩ 4 = some (needV n) := by simp [rowV, cellsFrom, add_lit, cN6, needV, needC]
  have hfin : ∀ (wF : World) (e1 : FA), St w0 (RfQ T (.slice ah H.length ch) (.slice aw W.length cw) H W (Blk N (.cells (needC n).toArray 42 (0, 0)) * F)) wF → True := fun _ _ _ => trivial
  rcases firstI_spec (isLock n.1) W 0 with ⟨hk, hkno⟩ | ⟨a, o, b, hWo, hbef, hp, hk⟩
  · have hq : hasK n.1 W = [] := by
      rw [List.eq_nil_iff_forall_not_mem]
      intro c hc
      have := hkno _ (mem_hasK.1 hc)
      simp [isLock] at this
    rw [hk]
    simp -dsimp -implicitDefEqProofs (disch := omega) only [go_sem, reqD_of, dec_t, dec_f, wrap_i64, wrap_u32, wrap_u64, wrap_u8, rN6]
    refine (could_any h6 (by omega)).mono ?_
    rintro e w5 ⟨h7, rfl⟩
    have cT7 := h7.cl T
    have h7' := h7.drew
    have cT7' := h7'.cl T
    have cN7 := h7.cl N
    have cN7' := h7'.cl N
    simp only [needC] at cN7 cN7'
    have rN7 : rowV w5 ⟨N, 0, none⟩ 4 = some (needV n) := by simp [rowV, cellsFrom, add_lit, cN7, needV, needC]
    have rN7' : rowV w5.drew ⟨N, 0, none⟩ 4 = some (needV n) := rN7
    cases hc : couldB n H with
    | true =>
      obtain ⟨e1, s'⟩ := q3 hnone hnex ⟨hq, hc⟩
      rw [e1]
      simp -dsimp -implicitDefEqProofs (disch := omega) only [go_sem, reqD_of, dec_t, dec_f, wrap_i64, wrap_u32, wrap_u64, wrap_u8, cT7, cT7', rN7, rN7']
      refine onV_of (v := .agg (oneC (who, n)).toArray) (by kernel_rfl) ?_
      simp -dsimp -implicitDefEqProofs (disch := omega) only [go_sem, reqD_of, dec_t, dec_f, wrap_i64, wrap_u32, wrap_u64, wrap_u8, cT7, cT7', rN7, rN7']
      refine h7'.lit (n := 1) (cells := oneC (who, n)) fact_rowTy_59 rfl (by decide) (by decide) fun v9 w9 h9 => ?_
      have cT9 := h9.cl T
      have cN9 := h9.cl N
      simp only [needC] at cN9
      simp -dsimp -implicitDefEqProofs (disch := omega) only [go_sem, reqD_of, dec_t, dec_f, wrap_i64, wrap_u32, wrap_u64, wrap_u8, cT9, cN9]
      refine h9.app (v := .slice ah H.length ch) fact_rowTy_59 ((Ent.left _ _).trans (RowO.reads _ _ _ _ _)) Tryz.underlying59 (oneC_cells _) (fun h => by simp [oneC] at h) (by simp only [Go.maxLen]; omega) (by omega) fun v10 w10 h10 => ?_
      obtain ⟨a10, c10, rfl, _⟩ := h10.rowForm v10
      have cT10 := h10.cl T
      have cN10 := h10.cl N
      simp only [needC] at cN10
      simp -dsimp -implicitDefEqProofs (disch := omega) only [go_sem, reqD_of, dec_t, dec_f, wrap_i64, wrap_u32, wrap_u64, wrap_u8, cT10, cN10]
      refine h10.sto (b := T) (off := 0) (by simp) rfl fun w11 h11 => ?_
      simp only [List.setIfInBounds_toArray, List.set_cons_succ, List.set_cons_zero] at h11
      have cT11 := h11.cl T
      have cN11 := h11.cl N
      simp only [needC] at cN11
      simp -dsimp -implicitDefEqProofs (disch := omega) only [go_sem, reqD_of, dec_t, dec_f, wrap_i64, wrap_u32, wrap_u64, wrap_u8, cT11, cN11]
      rw [oneR_snoc] at h11
      have hlen : (H ++ [(who, n)]).length = H.length + 1 := by simp
      refine RefT.mk (vH := .slice a10 (H.length + 1) c10) (vW := .slice aw W.length cw) s' (by rw [hlen]; omega) ?_
      simp only [RfQ, rowH, hlen]
      exact h11.sub
    | false =>
      obtain ⟨e1, s'⟩ := q4 hnone hnex (by simp [hc])
      rw [e1]
      simp -dsimp -implicitDefEqProofs (disch := omega) only [go_sem, reqD_of, dec_t, dec_f, wrap_i64, wrap_u32, wrap_u64, wrap_u8, cT7, cT7', rN7, rN7']
      refine onV_of (v := .agg (oneC (who, n)).toArray) (by kernel_rfl) ?_
      simp -dsimp -implicitDefEqProofs (disch := omega) only [go_sem, reqD_of, dec_t, dec_f, wrap_i64, wrap_u32, wrap_u64, wrap_u8, cT7, cT7', rN7, rN7']
      refine h7'.lit (n := 1) (cells := oneC (who, n)) fact_rowTy_59 rfl (by decide) (by decide) fun v9 w9 h9 => ?_
      have cT9 := h9.cl T
      have cN9 := h9.cl N
      simp only [needC] at cN9
      simp -dsimp -implicitDefEqProofs (disch := omega) only [go_sem, reqD_of, dec_t, dec_f, wrap_i64, wrap_u32, wrap_u64, wrap_u8, cT9, cN9]
      refine h9.app (v := .slice aw W.length cw) fact_rowTy_59 ((Ent.left _ _).trans (RowO.reads _ _ _ _ _)) Tryz.underlying59 (oneC_cells _) (fun h => by simp [oneC] at h) (by simp only [Go.maxLen]; omega) (by omega) fun v10 w10 h10 => ?_
      obtain ⟨a10, c10, rfl, _⟩ := h10.rowForm v10
      have cT10 := h10.cl T
      have cN10 := h10.cl N
      simp only [needC] at cN10
      simp -dsimp -implicitDefEqProofs (disch := omega) only [go_sem, reqD_of, dec_t, dec_f, wrap_i64, wrap_u32, wrap_u64, wrap_u8, cT10, cN10]
      refine h10.sto (b := T) (off := 1) (by simp) rfl fun w11 h11 => ?_
      simp only [List.setIfInBounds_toArray, List.set_cons_succ, List.set_cons_zero] at h11
      have cT11 := h11.cl T
      have cN11 := h11.cl N
      simp only [needC] at cN11
      simp -dsimp -implicitDefEqProofs (disch := omega) only [go_sem, reqD_of, dec_t, dec_f, wrap_i64, wrap_u32, wrap_u64, wrap_u8, cT11, cN11]
      rw [oneR_snoc] at h11
      have hlen : (W ++ [(who, n)]).length = W.length + 1 := by simp
      refine RefT.mk (vH := .slice ah H.length ch) (vW := .slice a10 (W.length + 1) c10) s' (by rw [hlen]; omega) ?_
      simp only [RfQ, rowH, hlen]
      exact h11.sub
  · have hq : hasK n.1 W ≠ [] := by
      intro h0
      have : ((o.1, o.2.2) : Claim) ∈ hasK n.1 W := mem_hasK.2 (by
        have : o.2.1 = n.1 := by simpa [isLock] using hp
        rw [hWo, ← this]; simp)
      rw [h0] at this; cases this
    obtain ⟨e1, s'⟩ := q4 hnone hnex (fun h => hq h.1)
    rw [e1, hk]
    have hge : ¬ (((0 + a.length : Nat) : Int) < 0) := by omega
    have cT7 := h6.cl T
    have h7' := h6.drew
    have cT7' := h7'.cl T
    have cN7' := h7'.cl N
    simp only [needC] at cN7'
    have rN7' : rowV w4.drew ⟨N, 0, none⟩ 4 = some (needV n) := rN6
    simp -dsimp -implicitDefEqProofs (disch := omega) only [go_sem, reqD_of, dec_t, dec_f, wrap_i64, wrap_u32, wrap_u64, wrap_u8, hge, cT7, cT7', rN6, rN7']
    refine onV_of (v := .agg (oneC (who, n)).toArray) (by kernel_rfl) ?_
    simp -dsimp -implicitDefEqProofs (disch := omega) only [go_sem, reqD_of, dec_t, dec_f, wrap_i64, wrap_u32, wrap_u64, wrap_u8, cT7, cT7', rN6, rN7']
    refine h7'.lit (n := 1) (cells := oneC (who, n)) fact_rowTy_59 rfl (by decide) (by decide) fun v9 w9 h9 => ?_
    have cT9 := h9.cl T
    have cN9 := h9.cl N
    simp only [needC] at cN9
    simp -dsimp -implicitDefEqProofs (disch := omega) only [go_sem, reqD_of, dec_t, dec_f, wrap_i64, wrap_u32, wrap_u64, wrap_u8, cT9, cN9]
    refine h9.app (v := .slice aw W.length cw) fact_rowTy_59 ((Ent.left _ _).trans (RowO.reads _ _ _ _ _)) Tryz.underlying59 (oneC_cells _) (fun h => by simp [oneC] at h) (by simp only [Go.maxLen]; omega) (by omega) fun v10 w10 h10 => ?_
    obtain ⟨a10, c10, rfl, _⟩ := h10.rowForm v10
    have cT10 := h10.cl T
    have cN10 := h10.cl N
    simp only [needC] at cN10
    simp -dsimp -implicitDefEqProofs (disch := omega) only [go_sem, reqD_of, dec_t, dec_f, wrap_i64, wrap_u32, wrap_u64, wrap_u8, cT10, cN10]
    refine h10.sto (b := T) (off := 1) (by simp) rfl fun w11 h11 => ?_
    simp only [List.setIfInBounds_toArray, List.set_cons_succ, List.set_cons_zero] at h11
    have cT11 := h11.cl T
    have cN11 := h11.cl N
    simp only [needC] at cN11
    simp -dsimp -implicitDefEqProofs (disch := omega) only [go_sem, reqD_of, dec_t, dec_f, wrap_i64, wrap_u32, wrap_u64, wrap_u8, cT11, cN11]
    rw [oneR_snoc] at h11
    have hlen : (W ++ [(who, n)]).length = W.length + 1 := by simp
    refine RefT.mk (vH := .slice ah H.length ch) (vW := .slice a10 (W.length + 1) c10) s' (by rw [hlen]; omega) ?_
    simp only [RfQ, rowH, hlen]
    exact h11.sub
end
end
end Go.Proofs.YtacmnfpgimgigaaGreat

namespace Go.Proofs.YtacmnfpgimgigaaGreat
open Go
set_option linter.unusedSimpArgs false
set_option linter.unusedVariables false
set_option maxRecDepth 100000

section
variable {w0 w : World} {F : HP} {T m : Nat} {ls : List (Nam × LkS)} {ws : List (Int × Nee)}

section
attribute [local go_sem] F19.t4_eq
theorem free_ref {who : Int} {x : Nam} (v : Inv ls ws) (hM : m < 1000000) (h : St w0 (RefT T m ls * F) w) :
    Calls Tryz.prog 19 #[.pointer (some ⟨T, 0, none⟩), .int .i64 who, namV x] w fun e w' => ∃ va, (freeS who x ls ws).1.1.length ≤ m ∧ St w0 (RowO 3 1 va (freeS who x ls ws).1.1.length (intR ((freeS who x ls ws).1.1.map (·.1))) * (RefT T m (freeS who x ls ws).2.1 * F)) w' ∧ e = .returned (.tuple #[va, .int .i64 (freeS who x ls ws).1.2]) := by
  obtain ⟨vH, vW, H, W, s, hm, h1⟩ := RefT.open h
  obtain ⟨aw, cw, rfl, _⟩ := h1.rowForm vW
  obtain ⟨ah, ch, rfl, _⟩ := h1.rowForm vH
  refine F19.calls (by simp) ?_
  unfold F19.code
  simp -dsimp -implicitDefEqProofs (disch := omega) only [go_sem, reqD_of, dec_t, dec_f, wrap_i64, wrap_u32, wrap_u64, wrap_u8]
  refine h1.new fun N w1 h2 => ?_
  have h3 : St w0 (RfQ T (.slice ah H.length ch) (.slice aw W.length cw) H W (Blk N (.cells (namC x).toArray 40 (0, 0)) * F)) w1 := h2.sub
  have h3' := h3.drew
  have cT := h3.cl T
  have cT' := h3'.cl T
  have rN := h3.rowH N 3 rfl
  have rN' := h3'.rowH N 3 rfl
  simp -dsimp -implicitDefEqProofs (disch := omega) only [go_sem, reqD_of, dec_t, dec_f, wrap_i64, wrap_u32, wrap_u64, wrap_u8, cT, cT', rN, rN']
  refine (place_any (l := H) (k := x) h3' ((Ent.right _ _).trans ((Ent.left _ _).trans (RowO.reads _ _ _ _ _))) (by omega)).mono ?_
  rintro e w2 ⟨h4, rfl⟩
  have cT4 := h4.cl T
  have rN4 := h4.rowH N 3 rfl
  have cN4 := h4.cl N
  simp only [namC] at cN4
  rcases firstI_spec (isAt who x false) H 0 with ⟨hg, hno⟩ | ⟨a, ⟨wh, n⟩, b, hH, hbef, hp, hg⟩
  · rw [hg, s.free_no hno]
    simp -dsimp -implicitDefEqProofs (disch := omega) only [go_sem, reqD_of, dec_t, dec_f, wrap_i64, wrap_u32, wrap_u64, wrap_u8, cT4, rN4, cN4]
    refine ⟨_, by simp, ?_, rfl⟩
    have h5 := (h4.nilR 3 1)
    have h6 : St w0 (RfQ T (.slice ah H.length ch) (.slice aw W.length cw) H W (RowO 3 1 (.slice none 0 0) 0 [] * F)) w2 := h5.sub
    exact (RefT.mk s hm h6).sw2
  · have hw : wh = who := by simp [isAt] at hp; exact hp.1
    have hnx : n.1 = x := by simp [isAt] at hp; exact hp.2
    subst hw hnx
    rw [hg, Nat.zero_add]
    have hge : ¬ ((a.length : Int) < 0) := by omega
    simp -dsimp -implicitDefEqProofs (disch := omega) only [go_sem, reqD_of, dec_t, dec_f, wrap_i64, wrap_u32, wrap_u64, wrap_u8, cT4, rN4, cN4, hge]
    have hal : a.length < H.length := by rw [hH]; simp
    refine (without_any (l := H) (at' := a.length) h4 ((Ent.right _ _).trans ((Ent.left _ _).trans (RowO.reads _ _ _ _ _))) (by omega) hal).mono ?_
    rintro e w3 ⟨v', h5, rfl⟩
    have hHe : H.eraseIdx a.length = a ++ b := by rw [hH, List.eraseIdx_append_of_length_le (Nat.le_refl _), Nat.sub_self, List.eraseIdx_cons_zero]
    rw [hHe] at h5
    obtain ⟨a5, c5, rfl, _⟩ := h5.rowForm v'
    have cT5 := h5.cl T
    simp -dsimp -implicitDefEqProofs (disch := omega) only [go_sem, reqD_of, dec_t, dec_f, wrap_i64, wrap_u32, wrap_u64, wrap_u8, cT5]
    refine h5.sto (b := T) (off := 0) (by simp) rfl fun w6 h6 => ?_
    simp only [List.setIfInBounds_toArray, List.set_cons_succ, List.set_cons_zero] at h6
    have h7 : St w0 (RfQ T (.slice a5 (a ++ b).length c5) (.slice aw W.length cw) (a ++ b) W (Blk N (.cells (namC n.1).toArray 40 (0, 0)) * F)) w6 := h6.sub
    have rN7 := h7.rowH N 3 rfl
    simp -dsimp -implicitDefEqProofs (disch := omega) only [go_sem, reqD_of, dec_t, dec_f, wrap_i64, wrap_u32, wrap_u64, wrap_u8, rN7]
    have hHl : H.length = a.length + b.length + 1 := by rw [hH]; simp; omega
    refine (letIn_any (x := n.1) h7 (alone_out (who := wh) (n := n) (by rw [← hH]; exact s.al v _) (by rw [← hH]; exact s.hn v _)) (by simp only [List.length_append]; omega)).mono ?_
    rintro e w8 ⟨va, vH', vW', H', W', l, r, hll, h8, rfl⟩
    obtain ⟨e1, s'⟩ := s.free_go v hH r
    have hn' := r.n
    simp only [List.length_append] at hn'
    simp -dsimp -implicitDefEqProofs (disch := omega) only [go_sem, reqD_of, dec_t, dec_f, wrap_i64, wrap_u32, wrap_u64, wrap_u8]
    rw [e1]
    refine ⟨va, by simp only; omega, ?_, rfl⟩
    have h9 : St w0 (RfQ T vH' vW' H' W' (RowO 3 1 va l.length (intR (l.map (·.1))) * F)) w8 := h8.sub
    exact (RefT.mk s' (by omega) h9).sw2

end
section
attribute [local go_sem] F29.t4_eq
theorem waits_ref {who : Int} (v : Inv ls ws) (hM : m < 1000000) (h : St w0 (RefT T m ls * F) w) :
    Calls Tryz.prog 29 #[.pointer (some ⟨T, 0, none⟩), .int .i64 who] w fun e w' => St w0 (RefT T m ls * F) w' ∧ e = .returned (.tuple #[needV ((agt who ws).getD noNeed), .bool (agt who ws).isSome]) := by
  obtain ⟨vH, vW, H, W, s, hm, h1⟩ := RefT.open h
  obtain ⟨aw, cw, rfl, _⟩ := h1.rowForm vW
  refine F29.calls (by simp) ?_
  unfold F29.code
  simp -dsimp -implicitDefEqProofs (disch := omega) only [go_sem, reqD_of, dec_t, dec_f, wrap_i64, wrap_u32, wrap_u64, wrap_u8]
  refine h1.new fun N w1 h2 => ?_
  have cT := h2.cl T
  simp -dsimp -implicitDefEqProofs (disch := omega) only [go_sem, reqD_of, dec_t, dec_f, wrap_i64, wrap_u32, wrap_u64, wrap_u8, cT]
  refine onV_of (v := namV (0, 0, 0)) (by kernel_rfl) ?_
  simp -dsimp -implicitDefEqProofs (disch := omega) only [go_sem, reqD_of, dec_t, dec_f, wrap_i64, wrap_u32, wrap_u64, wrap_u8, cT]
  refine (place_any (l := W) (k := (0, 0, 0)) h2 ((Ent.right _ _).trans ((Ent.right _ _).trans ((Ent.right _ _).trans ((Ent.left _ _).trans (RowO.reads _ _ _ _ _))))) (by omega)).mono ?_
  rintro e w2 ⟨h4, rfl⟩
  have cT4 := h4.cl T
  rcases s.waits v (who := who) (k := (0, 0, 0)) with ⟨hf, hnone⟩ | ⟨a, n', b, hW, hf, hsome⟩
  · rw [hf, hnone]
    simp -dsimp -implicitDefEqProofs (disch := omega) only [go_sem, reqD_of, dec_t, dec_f, wrap_i64, wrap_u32, wrap_u64, wrap_u8, cT4]
    refine onV_of (v := needV noNeed) (by kernel_rfl) ?_
    simp -dsimp -implicitDefEqProofs (disch := omega) only [go_sem, reqD_of, dec_t, dec_f, wrap_i64, wrap_u32, wrap_u64, wrap_u8, cT4]
    refine h4.stoAll (b := N) (cs := needC noNeed) rfl rfl (needC_cells _) fun w5 h5 => ?_
    have hrow := h5.rowH N 4 rfl
    simp -dsimp -implicitDefEqProofs (disch := omega) only [go_sem, reqD_of, dec_t, dec_f, wrap_i64, wrap_u32, wrap_u64, wrap_u8]
    refine resC_2 (a := ⟨N, 0, none⟩) (v := needV noNeed) (by simp -dsimp -implicitDefEqProofs only [go_sem]) (run_loadVar_row fact_aggSz_42 (by rw [hrow])) ?_
    simp -dsimp -implicitDefEqProofs (disch := omega) only [go_sem, reqD_of, dec_t, dec_f, wrap_i64, wrap_u32, wrap_u64, wrap_u8]
    exact ⟨RefT.mk s hm h5.right, rfl⟩
  · rw [hf, hsome]
    have hal : a.length < W.length := by rw [hW]; simp
    have hge : ¬ ((a.length : Int) < 0) := by omega
    have halI : (a.length : Int) < (W.length : Int) := by omega
    have hWa : W[a.length] = (who, n') := by simp [hW]
    obtain ⟨_, aw', cw', hv, _, hcl⟩ := oneAt (h4.ent ((Ent.right _ _).trans ((Ent.right _ _).trans ((Ent.right _ _).trans ((Ent.left _ _).trans (RowO.reads _ _ _ _ _))))))
    simp only [Value.slice.injEq, true_and] at hv
    obtain ⟨rfl, rfl⟩ := hv
    obtain ⟨bw, ow, rfl, c0, c1, c2, c3, c4, r3, r4, r5⟩ := hcl a.length hal
    rw [hWa] at r4
    simp -dsimp -implicitDefEqProofs (disch := omega) only [go_sem, reqD_of, dec_t, dec_f, wrap_i64, wrap_u32, wrap_u64, wrap_u8, cT4, hge, halI, r4]
    refine h4.stoAll (b := N) (cs := needC n') rfl rfl (needC_cells _) fun w5 h5 => ?_
    have hrow := h5.rowH N 4 rfl
    simp -dsimp -implicitDefEqProofs (disch := omega) only [go_sem, reqD_of, dec_t, dec_f, wrap_i64, wrap_u32, wrap_u64, wrap_u8]
    refine resC_2 (a := ⟨N, 0, none⟩) (v := needV n') (by simp -dsimp -implicitDefEqProofs only [go_sem]) (run_loadVar_row fact_aggSz_42 (by rw [hrow])) ?_
    simp -dsimp -implicitDefEqProofs (disch := omega) only [go_sem, reqD_of, dec_t, dec_f, wrap_i64, wrap_u32, wrap_u64, wrap_u8]
    exact ⟨RefT.mk s hm h5.right, rfl⟩
end
end
end Go.Proofs.YtacmnfpgimgigaaGreat

namespace Go.Proofs.YtacmnfpgimgigaaGreat
open Go
set_option linter.unusedSimpArgs false
set_option linter.unusedVariables false
set_option maxRecDepth 100000

theorem intR_get {l : List Int} {i : Nat} (hi : i < l.length) (hi' : i < (intR l).length) : (intR l)[i] = .int .i64 l[i] := by simp [intR]
theorem intR_len (l : List Int) : (intR l).length = l.length := by simp [intR]
theorem intR_set (l : List Int) (i : Nat) (x : Int) : (intR l).set i (.int .i64 x) = intR (l.set i x) := by simp [intR, List.map_set]
theorem set_at {α : Type} (a b : List α) (y x : α) : (a ++ y :: b).set a.length x = a ++ x :: b := by
  simp [List.set_append]
theorem set_at1 {α : Type} (a b : List α) (z y x : α) : (a ++ z :: y :: b).set (a.length + 1) x = a ++ z :: x :: b := by
  simp [List.set_append]

section
attribute [local go_sem] F51.t4_eq F51.t5_eq F51.t8_eq
theorem rising_any {w0 w : World} {F : HP} {v : Value} {xs : List Int} {x : Int} (h : St w0 (RowO 3 1 v xs.length (intR xs) * F) w) (hs : xs.Pairwise (· ≤ ·)) (hl : xs.length < 1073741824) :
    Calls Tryz.prog 51 #[v, .int .i64 x] w fun e w' => ∃ (v' : Value) (ys : List Int), ys.Perm (xs ++ [x]) ∧ ys.Pairwise (· ≤ ·) ∧ St w0 (RowO 3 1 v' ys.length (intR ys) * F) w' ∧ e = .returned v' := by
  obtain ⟨a, c, rfl, _⟩ := h.rowForm v
  refine F51.calls (by simp) ?_
  unfold F51.code
  simp -dsimp -implicitDefEqProofs (disch := omega) only [go_sem, reqD_of, dec_t, dec_f, wrap_i64, wrap_u32, wrap_u64, wrap_u8]
  refine h.lit (n := 1) (cells := [.int .i64 x]) fact_rowTy_32 rfl (by decide) (by decide) fun v1 w1 h1 => ?_
  simp -dsimp -implicitDefEqProofs (disch := omega) only [go_sem, reqD_of, dec_t, dec_f, wrap_i64, wrap_u32, wrap_u64, wrap_u8]
  refine h1.app (v := .slice a xs.length c) fact_rowTy_32 ((Ent.left _ _).trans (RowO.reads _ _ _ _ _)) Tryz.underlying32 (by intro u hu; simp only [List.mem_singleton] at hu; subst hu; rfl) (fun h => by simp at h) (by simp only [Go.maxLen]; omega) (by omega) fun v2 w2 h2 => ?_
  obtain ⟨a2, c2, rfl, _⟩ := h2.rowForm v2
  simp -dsimp -implicitDefEqProofs (disch := omega) only [go_sem, reqD_of, dec_t, dec_f, wrap_i64, wrap_u32, wrap_u64, wrap_u8]
  have e1 : intR xs ++ [.int .i64 x] = intR (xs ++ x :: []) := by simp [intR]
  rw [e1] at h2
  have h3 : St w0 (RowO 3 1 (.slice a2 (xs.length + 1) c2) (xs.length + 1) (intR (xs ++ x :: [])) * F) w2 := h2.sub
  refine loop_intro (fun e w' => e.ds = [] ∧ e.ρ 0 = .slice a2 (xs.length + 1) c2 ∧ ∃ (p q : List Int), e.ρ 5 = .int .i64 p.length ∧ (p ++ q).Perm xs ∧ InsI (fun a b : Int => a ≤ b) p q x ∧ St w0 (RowO 3 1 (.slice a2 (xs.length + 1) c2) (xs.length + 1) (intR (p ++ x :: q)) * F) w')
    (fun e _ => match e.ρ 5 with | .int _ n => n.toNat | _ => 0) ?_ ?_
  · refine ⟨rfl, by simp -dsimp -implicitDefEqProofs only [go_sem], xs, [], ?_, by simp, InsI.start hs, h3⟩
    have hxl : ((xs.length + 1 : Nat) : Int) - 1 = xs.length := by omega
    simp -dsimp -implicitDefEqProofs (disch := omega) only [go_sem, reqD_of, dec_t, dec_f, wrap_i64, wrap_u32, wrap_u64, wrap_u8, hxl]
  clear h h1 h2 h3
  rintro e w3 ⟨hd, e0, p, q, e5, hpq, hi, h3⟩
  have hlen : p.length + q.length = xs.length := by have := hpq.length_eq; simpa using this
  have h3' := h3.drew
  have fin : (∀ z p', p = p' ++ [z] → z ≤ x) → ∃ (v' : Value) (ys : List Int), ys.Perm (xs ++ [x]) ∧ ys.Pairwise (· ≤ ·) ∧ St w0 (RowO 3 1 v' ys.length (intR ys) * F) w3.drew ∧ (Ending.returned (.slice a2 (xs.length + 1) c2) = .returned v') := fun hz => by
    refine ⟨.slice a2 (xs.length + 1) c2, p ++ x :: q, ?_, hi.done (fun a b c h1 h2 => Int.le_trans h1 h2) hz, ?_, rfl⟩
    · refine List.Perm.trans List.perm_middle ?_
      exact (List.Perm.cons x hpq).trans (List.perm_append_singleton x xs).symm
    · have : (p ++ x :: q).length = xs.length + 1 := by simp; omega
      rw [this]; exact h3'
  rcases List.eq_nil_or_concat p with hp | ⟨p', z, hp⟩
  · have hp0 : (p.length : Int) = 0 := by rw [hp]; rfl
    simp -dsimp -implicitDefEqProofs (disch := omega) only [go_sem, reqD_of, dec_t, dec_f, wrap_i64, wrap_u32, wrap_u64, wrap_u8, hd, e0, e5, hp0]
    obtain ⟨v', ys, f1, f2, f3, f4⟩ := fin (fun z p' h => by rw [hp] at h; simp at h)
    simp only [Ending.returned.injEq] at f4
    exact ⟨v', ys, f1, f2, f3, f4⟩
  rw [List.concat_eq_append] at hp
  subst hp
  have hpl : ((p' ++ [z]).length : Int) = (p'.length : Int) + 1 := by simp
  rw [hpl] at e5
  have hrow : p' ++ [z] ++ x :: q = p' ++ z :: x :: q := by simp
  rw [hrow] at h3 h3'
  have hpl2 : p'.length + 1 + q.length = xs.length := by simpa using hlen
  have hb1 : (p'.length : Int) < (xs.length : Int) + 1 := by omega
  have hb2 : (p'.length : Int) + 1 < (xs.length : Int) + 1 := by omega
  obtain ⟨b2, o2, rfl, c0⟩ := h3.at1 (a := a2) (n := xs.length + 1) (c := c2) (xs := intR (p' ++ z :: x :: q)) (k := p'.length) (by rw [intR_len]; simp)
  have c1 := h3.at1' (b := b2) (o := o2) (n := xs.length + 1) (c := c2) (xs := intR (p' ++ z :: x :: q)) (k := p'.length + 1) (by rw [intR_len]; simp)
  rw [intR_get (by simp)] at c0 c1
  have g0 : (p' ++ z :: x :: q)[p'.length]'(by simp) = z := by simp
  have g1 : (p' ++ z :: x :: q)[p'.length + 1]'(by simp) = x := by simp [List.getElem_append_right]
  rw [g0] at c0
  rw [g1] at c1
  have d0 : w3.drew.cell? _ = _ := c0
  have d1 : w3.drew.cell? _ = _ := c1
  have ht1 : ((p'.length : Int) + 1).toNat = p'.length + 1 := by omega
  have ht0 : ((p'.length : Int) + 1 - 1).toNat = p'.length := by omega
  by_cases hzx : x < z
  · simp -dsimp -implicitDefEqProofs (disch := omega) only [go_sem, reqD_of, dec_t, dec_f, wrap_i64, wrap_u32, wrap_u64, wrap_u8, hd, e0, e5, hb1, hb2, c0, c1, d0, d1, hzx, ht0, ht1]
    refine h3'.rowSet1 (T := 3) (g := b2) (o := o2) (n := xs.length + 1) (c := c2) (k := p'.length) (xs := intR (p' ++ z :: x :: q)) (by rw [intR_len]; simp) rfl fun w4 h4 => ?_
    rw [intR_set, set_at] at h4
    simp -dsimp -implicitDefEqProofs (disch := omega) only [go_sem, reqD_of, dec_t, dec_f, wrap_i64, wrap_u32, wrap_u64, wrap_u8, hd, e0, e5, hb1, hb2, ht0, ht1]
    refine h4.rowSet1 (T := 3) (g := b2) (o := o2) (n := xs.length + 1) (c := c2) (k := p'.length + 1) (xs := intR (p' ++ x :: x :: q)) (by rw [intR_len]; simp) rfl fun w5 h5 => ?_
    rw [intR_set, set_at1] at h5
    have hs1 : (p'.length : Int) + 1 - 1 = p'.length := by omega
    simp -dsimp -implicitDefEqProofs (disch := omega) only [go_sem, reqD_of, dec_t, dec_f, wrap_i64, wrap_u32, wrap_u64, wrap_u8, hd, e0, e5, hs1]
    refine ⟨⟨p', z :: q, by omega, by simpa using hpq, hi.step (by omega), h5⟩, by omega⟩
  · simp -dsimp -implicitDefEqProofs (disch := omega) only [go_sem, reqD_of, dec_t, dec_f, wrap_i64, wrap_u32, wrap_u64, wrap_u8, hd, e0, e5, hb1, hb2, c0, c1, d0, d1, hzx, ht0, ht1]
    obtain ⟨v', ys, f1, f2, f3, f4⟩ := fin (fun z' p'' h => by
      have := List.append_inj_right' h rfl
      simp only [List.cons.injEq, and_true] at this
      omega)
    simp only [Ending.returned.injEq] at f4
    exact ⟨v', ys, f1, f2, f3, f4⟩

end
section
variable {w0 w : World} {F : HP} {T m : Nat} {ls : List (Nam × LkS)} {ws : List (Int × Nee)}

section
attribute [local go_sem] F24.t4_eq F24.t5_eq F24.t7_eq
theorem holders_ref {x : Nam} (v : Inv ls ws) (hM : m < 1000000) (h : St w0 (RefT T m ls * F) w) :
    Calls Tryz.prog 24 #[.pointer (some ⟨T, 0, none⟩), namV x] w fun e w' => ∃ va, (holdersS x ls).length ≤ m ∧ St w0 (RowO 3 1 va (holdersS x ls).length (intR (holdersS x ls)) * (RefT T m ls * F)) w' ∧ e = .returned va := by
  obtain ⟨vH, vW, H, W, s, hm, h1⟩ := RefT.open h
  obtain ⟨ah, ch, rfl, _⟩ := h1.rowForm vH
  refine F24.calls (by simp) ?_
  unfold F24.code
  simp -dsimp -implicitDefEqProofs (disch := omega) only [go_sem, reqD_of, dec_t, dec_f, wrap_i64, wrap_u32, wrap_u64, wrap_u8]
  refine h1.new fun N w1 h2 => ?_
  simp -dsimp -implicitDefEqProofs (disch := omega) only [go_sem, reqD_of, dec_t, dec_f, wrap_i64, wrap_u32, wrap_u64, wrap_u8]
  refine loop_intro (fun e w' => e.ds = [] ∧ e.ρ 0 = .pointer (some ⟨T, 0, none⟩) ∧ e.ρ 3 = .pointer (some ⟨N, 0, none⟩) ∧ ∃ (i : Nat) (va : Value) (l : List Int), i ≤ H.length ∧ e.ρ 6 = .int .i64 i ∧ e.ρ 5 = va ∧ l.Perm (((H.take i).filter (isLock x)).map (·.1)) ∧ l.Pairwise (· ≤ ·) ∧ St w0 (RowO 3 1 va l.length (intR l) * (Blk N (.cells (namC x).toArray 40 (0, 0)) * RfQ T (.slice ah H.length ch) vW H W F)) w')
    (fun e _ => match e.ρ 6 with | .int _ n => (H.length - n).toNat | _ => 0) ?_ ?_
  · exact ⟨rfl, by simp -dsimp -implicitDefEqProofs only [go_sem], by simp -dsimp -implicitDefEqProofs only [go_sem], 0, _, [], by omega, rfl, rfl, by simp, .nil, h2.nilR 3 1⟩
  rintro e w2 ⟨hd, e0, e3, i, va, l, hi, e6, e5, hp, hs, h3⟩
  have hll : l.length ≤ i := by
    have h9 := hp.length_eq
    have h8 := List.length_filter_le (isLock x) (H.take i)
    simp only [List.length_map, List.length_take] at h9 h8
    omega
  have cT := h3.cl T
  by_cases hlt : (i : Int) < H.length
  case neg =>
    have : i = H.length := by omega
    subst this
    rw [List.take_length] at hp
    simp -dsimp -implicitDefEqProofs (disch := omega) only [go_sem, reqD_of, dec_t, dec_f, wrap_i64, wrap_u32, wrap_u64, wrap_u8, hd, e0, e3, e5, e6, hlt, cT]
    have he := s.holders_eq (x := x) hp hs
    rw [← he]
    refine ⟨va, by omega, ?_, rfl⟩
    have h4 : St w0 (RfQ T (.slice ah H.length ch) vW H W (RowO 3 1 va l.length (intR l) * F)) w2 := h3.sub
    exact (RefT.mk s hm h4).sw2
  have hil : i < H.length := by omega
  have h3' := h3.drew
  have dT := h3'.cl T
  obtain ⟨_, a', c', hv, _, hcl⟩ := oneAt (h3.ent ((Ent.right _ _).trans ((Ent.right _ _).trans ((Ent.right _ _).trans ((Ent.left _ _).trans (RowO.reads _ _ _ _ _))))))
  simp only [Value.slice.injEq, true_and] at hv
  obtain ⟨rfl, rfl⟩ := hv
  obtain ⟨b, o, rfl, c0, c1, c2, c3, c4, r3, _, _⟩ := hcl i hil
  have hN := h3.rowH N 3 rfl
  have dr3 : rowV w2.drew _ 3 = _ := r3
  have dN : rowV w2.drew _ 3 = _ := hN
  have d0 : w2.drew.cell? _ = _ := c0
  have htk : H.take (i + 1) = H.take i ++ [H[i]] := List.take_succ_eq_append_getElem hil
  generalize hx : H[i] = y at c0 c1 c2 c3 c4 r3 dr3 d0 htk
  by_cases hk : y.2.1 = x
  · simp -dsimp -implicitDefEqProofs (disch := omega) only [go_sem, reqD_of, dec_t, dec_f, wrap_i64, wrap_u32, wrap_u64, wrap_u8, hd, e0, e3, e5, e6, hlt, cT, dT, r3, dr3, hN, dN, namC, namEq, hk, d0]
    refine (rising_any (x := y.1) h3' hs (by omega)).mono ?_
    rintro e' w4 ⟨v', ys, hp', hs', h4, rfl⟩
    simp -dsimp -implicitDefEqProofs (disch := omega) only [go_sem, reqD_of, dec_t, dec_f, wrap_i64, wrap_u32, wrap_u64, wrap_u8, hd, e0, e3, e5, e6]
    refine ⟨⟨i + 1, v', ys, by omega, by simp, rfl, ?_, hs', h4⟩, by omega⟩
    rw [htk, List.filter_append, List.map_append]
    have : [y].filter (isLock x) = [y] := by simp [isLock, hk]
    rw [this]
    exact hp'.trans (hp.append_right [y.1])
  · simp -dsimp -implicitDefEqProofs (disch := omega) only [go_sem, reqD_of, dec_t, dec_f, wrap_i64, wrap_u32, wrap_u64, wrap_u8, hd, e0, e3, e5, e6, hlt, cT, dT, r3, dr3, hN, dN, namC, namEq, hk]
    refine ⟨⟨i + 1, va, l, by omega, by simp, rfl, ?_, hs, h3'⟩, by omega⟩
    rw [htk, List.filter_append, List.map_append]
    have : [y].filter (isLock x) = [] := by simp [isLock, hk]
    rw [this]
    simpa using hp

end
section
attribute [local go_sem] F31.t4_eq F31.t5_eq F31.t7_eq
theorem queue_ref {x : Nam} (v : Inv ls ws) (hM : m < 1000000) (h : St w0 (RefT T m ls * F) w) :
    Calls Tryz.prog 31 #[.pointer (some ⟨T, 0, none⟩), namV x] w fun e w' => ∃ va, (queueS x ls).length ≤ m ∧ St w0 (RowO 3 1 va (queueS x ls).length (intR (queueS x ls)) * (RefT T m ls * F)) w' ∧ e = .returned va := by
  obtain ⟨vH, vW, H, W, s, hm, h1⟩ := RefT.open h
  obtain ⟨aw, cw, rfl, _⟩ := h1.rowForm vW
  refine F31.calls (by simp) ?_
  unfold F31.code
  simp -dsimp -implicitDefEqProofs (disch := omega) only [go_sem, reqD_of, dec_t, dec_f, wrap_i64, wrap_u32, wrap_u64, wrap_u8]
  refine h1.new fun N w1 h2 => ?_
  simp -dsimp -implicitDefEqProofs (disch := omega) only [go_sem, reqD_of, dec_t, dec_f, wrap_i64, wrap_u32, wrap_u64, wrap_u8]
  refine loop_intro (fun e w' => e.ds = [] ∧ e.ρ 0 = .pointer (some ⟨T, 0, none⟩) ∧ e.ρ 3 = .pointer (some ⟨N, 0, none⟩) ∧ ∃ (i : Nat) (va : Value) (l : List Int), i ≤ W.length ∧ e.ρ 6 = .int .i64 i ∧ e.ρ 5 = va ∧ l = (((W.take i).filter (isLock x)).map (·.1)) ∧ St w0 (RowO 3 1 va l.length (intR l) * (Blk N (.cells (namC x).toArray 40 (0, 0)) * RfQ T vH (.slice aw W.length cw) H W F)) w')
    (fun e _ => match e.ρ 6 with | .int _ n => (W.length - n).toNat | _ => 0) ?_ ?_
  · exact ⟨rfl, by simp -dsimp -implicitDefEqProofs only [go_sem], by simp -dsimp -implicitDefEqProofs only [go_sem], 0, _, [], by omega, rfl, rfl, by simp, h2.nilR 3 1⟩
  rintro e w2 ⟨hd, e0, e3, i, va, l, hi, e6, e5, hp, h3⟩
  have hll : l.length ≤ i := by
    have h8 := List.length_filter_le (isLock x) (W.take i)
    rw [hp]
    simp only [List.length_map, List.length_take] at h8 ⊢
    omega
  obtain ⟨al, cl, rfl, _⟩ := h3.rowForm va
  have cT := h3.cl T
  by_cases hlt : (i : Int) < W.length
  case neg =>
    have : i = W.length := by omega
    subst this
    rw [List.take_length, s.queue_eq] at hp
    simp -dsimp -implicitDefEqProofs (disch := omega) only [go_sem, reqD_of, dec_t, dec_f, wrap_i64, wrap_u32, wrap_u64, wrap_u8, hd, e0, e3, e5, e6, hlt, cT]
    rw [← hp]
    refine ⟨_, by omega, ?_, rfl⟩
    have h4 : St w0 (RfQ T vH (.slice aw W.length cw) H W (RowO 3 1 (.slice al l.length cl) l.length (intR l) * F)) w2 := h3.sub
    exact (RefT.mk s hm h4).sw2
  have hil : i < W.length := by omega
  have h3' := h3.drew
  have dT := h3'.cl T
  obtain ⟨_, a', c', hv, _, hcl⟩ := oneAt (h3.ent ((Ent.right _ _).trans ((Ent.right _ _).trans ((Ent.right _ _).trans ((Ent.right _ _).trans ((Ent.left _ _).trans (RowO.reads _ _ _ _ _)))))))
  simp only [Value.slice.injEq, true_and] at hv
  obtain ⟨rfl, rfl⟩ := hv
  obtain ⟨b, o, rfl, c0, c1, c2, c3, c4, r3, _, _⟩ := hcl i hil
  have hN := h3.rowH N 3 rfl
  have dr3 : rowV w2.drew _ 3 = _ := r3
  have dN : rowV w2.drew _ 3 = _ := hN
  have d0 : w2.drew.cell? _ = _ := c0
  have htk : W.take (i + 1) = W.take i ++ [W[i]] := List.take_succ_eq_append_getElem hil
  generalize hx : W[i] = y at c0 c1 c2 c3 c4 r3 dr3 d0 htk
  by_cases hk : y.2.1 = x
  · simp -dsimp -implicitDefEqProofs (disch := omega) only [go_sem, reqD_of, dec_t, dec_f, wrap_i64, wrap_u32, wrap_u64, wrap_u8, hd, e0, e3, e5, e6, hlt, cT, dT, r3, dr3, hN, dN, namC, namEq, hk, d0]
    refine h3'.lit (n := 1) (cells := [.int .i64 y.1]) fact_rowTy_32 rfl (by decide) (by decide) fun v1 w4 h4 => ?_
    simp -dsimp -implicitDefEqProofs (disch := omega) only [go_sem, reqD_of, dec_t, dec_f, wrap_i64, wrap_u32, wrap_u64, wrap_u8, hd, e0, e3, e5, e6]
    refine h4.app (v := .slice al l.length cl) fact_rowTy_32 ((Ent.left _ _).trans (RowO.reads _ _ _ _ _)) Tryz.underlying32 (by intro u hu; simp only [List.mem_singleton] at hu; subst hu; rfl) (fun h => by simp at h) (by simp only [Go.maxLen]; omega) (by omega) fun v2 w5 h5 => ?_
    obtain ⟨a5, c5, rfl, _⟩ := h5.rowForm v2
    simp -dsimp -implicitDefEqProofs (disch := omega) only [go_sem, reqD_of, dec_t, dec_f, wrap_i64, wrap_u32, wrap_u64, wrap_u8, hd, e0, e3, e5, e6]
    have e1 : intR l ++ [.int .i64 y.1] = intR (l ++ [y.1]) := by simp [intR]
    rw [e1] at h5
    have h6 : St w0 (RowO 3 1 (.slice a5 (l.length + 1) c5) (l.length + 1) (intR (l ++ [y.1])) * (Blk N (.cells (namC x).toArray 40 (0, 0)) * RfQ T vH (.slice (some ⟨b, o, none⟩) W.length cw) H W F)) w5 := h5.sub
    refine ⟨⟨i + 1, .slice a5 (l.length + 1) c5, l ++ [y.1], by omega, by simp, rfl, ?_, by rw [List.length_append]; exact h6⟩, by omega⟩
    rw [htk, List.filter_append, List.map_append, hp]
    simp [isLock, hk]
  · simp -dsimp -implicitDefEqProofs (disch := omega) only [go_sem, reqD_of, dec_t, dec_f, wrap_i64, wrap_u32, wrap_u64, wrap_u8, hd, e0, e3, e5, e6, hlt, cT, dT, r3, dr3, hN, dN, namC, namEq, hk]
    refine ⟨⟨i + 1, _, l, by omega, by simp, rfl, ?_, h3'⟩, by omega⟩
    rw [htk, List.filter_append, List.map_append, hp]
    simp [isLock, hk]
end
end
end Go.Proofs.YtacmnfpgimgigaaGreat

namespace Go.Proofs.YtacmnfpgimgigaaGreat
open Go
set_option linter.unusedSimpArgs false
set_option linter.unusedVariables false
set_option maxRecDepth 100000

/-- A need of a row is read. -/
theorem needAt {w0 w : World} {v : Value} {n : Nat} {l : List Nee} (h : St w0 (Reads 4 v n (rowN l)) w) : n = l.length ∧ ∃ a c, v = .slice a n c ∧ n ≤ c ∧ ∀ i (hi : i < l.length), ∃ b o, a = some ⟨b, o, none⟩ ∧
    w.cell? ⟨b, o + i * 4, none⟩ = some (.int .u8 (l[i]).1.1) ∧ w.cell? ⟨b, o + i * 4 + 1, none⟩ = some (.int .i64 (l[i]).1.2.1) ∧ w.cell? ⟨b, o + i * 4 + 2, none⟩ = some (.int .u64 (l[i]).1.2.2) ∧ w.cell? ⟨b, o + i * 4 + 3, none⟩ = some (.bool (l[i]).2) ∧
    rowV w ⟨b, o + i * 4, none⟩ 3 = some (namV (l[i]).1) ∧ rowV w ⟨b, o + i * 4, none⟩ 4 = some (needV (l[i])) := by
  obtain ⟨hn, a, c, hv, hnc, hr⟩ := St.rowsAt (k := 4) needC_len (by decide) h
  refine ⟨hn, a, c, hv, hnc, fun i hi => ?_⟩
  obtain ⟨b, o, ha, hrow, hc⟩ := hr i hi
  have h0 := hc 0 (by decide)
  have h1 := hc 1 (by decide)
  have h2 := hc 2 (by decide)
  have h3 := hc 3 (by decide)
  simp only [needC, Nat.add_zero] at h0 h1 h2 h3
  refine ⟨b, o, ha, h0, h1, h2, h3, ?_, hrow⟩
  simp [rowV, cellsFrom, add_lit, h0, h1, h2, namV, namC]
theorem rowN_app (p q : List Nee) : rowN (p ++ q) = rowN p ++ rowN q := by simp [rowN]
theorem rowN_cons (y : Nee) (q : List Nee) : rowN (y :: q) = needC y ++ rowN q := by simp [rowN]
theorem rowN_set (p q : List Nee) (y x : Nee) : setRowL (rowN (p ++ y :: q)) (p.length * 4) (needC x) = rowN (p ++ x :: q) := by
  have hp := rowN_length p
  have hx := needC_len x
  have hy := needC_len y
  apply List.ext_getElem?
  intro i
  rw [rowN_app, rowN_app, rowN_cons, rowN_cons]
  rcases Nat.lt_or_ge i (p.length * 4) with h1 | h1
  · rw [getElem?_setRowL_lt _ _ _ _ h1, List.getElem?_append_left (by omega), List.getElem?_append_left (by omega)]
  · obtain ⟨j, rfl⟩ : ∃ j, i = p.length * 4 + j := ⟨i - p.length * 4, by omega⟩
    rcases Nat.lt_or_ge j 4 with h2 | h2
    · rw [getElem?_setRowL_in _ _ _ _ (by omega) (by simp only [List.length_append]; omega), List.getElem?_append_right (by omega), List.getElem?_append_left (by omega)]
      congr 1
      omega
    · rw [getElem?_setRowL_ge _ _ _ _ (by omega), List.getElem?_append_right (by omega), List.getElem?_append_right (by omega), List.getElem?_append_right (by omega), List.getElem?_append_right (by omega), hx, hy]

section
variable {w0 w : World} {F : HP} {T m : Nat} {ls : List (Nam × LkS)} {ws : List (Int × Nee)}

section
attribute [local go_sem] F23.t9_eq F23.t10_eq F23.t6_eq F23.t4_eq F23.t5_eq F23.t13_eq
theorem held_ref {who : Int} (v : Inv ls ws) (hM : m < 1000000) (h : St w0 (RefT T m ls * F) w) :
    Calls Tryz.prog 23 #[.pointer (some ⟨T, 0, none⟩), .int .i64 who] w fun e w' => ∃ va, (heldS who ls).length ≤ m ∧ St w0 (RowO 42 4 va (heldS who ls).length (rowN (heldS who ls)) * (RefT T m ls * F)) w' ∧ e = .returned va := by
  obtain ⟨vH, vW, H, W, s, hm, h1⟩ := RefT.open h
  obtain ⟨ah, ch, rfl, _⟩ := h1.rowForm vH
  refine F23.calls (by simp) ?_
  unfold F23.code
  simp -dsimp -implicitDefEqProofs (disch := omega) only [go_sem, reqD_of, dec_t, dec_f, wrap_i64, wrap_u32, wrap_u64, wrap_u8]
  refine loop_intro (fun e w' => e.ds = [] ∧ e.ρ 0 = .pointer (some ⟨T, 0, none⟩) ∧ e.ρ 1 = .int .i64 who ∧ ∃ (i : Nat) (va : Value) (l : List Nee), i ≤ H.length ∧ e.ρ 6 = .int .i64 i ∧ e.ρ 5 = va ∧ l.Perm (((H.take i).filter (fun o => decide (o.1 = who))).map (·.2)) ∧ l.Pairwise (fun x y => leN x y = true) ∧ St w0 (RowO 42 4 va l.length (rowN l) * RfQ T (.slice ah H.length ch) vW H W F) w')
    (fun e _ => match e.ρ 6 with | .int _ n => (H.length - n).toNat | _ => 0) ?_ ?_
  · exact ⟨rfl, by simp -dsimp -implicitDefEqProofs only [go_sem], by simp -dsimp -implicitDefEqProofs only [go_sem], 0, _, [], by omega, rfl, rfl, by simp, .nil, h1.nilR 42 4⟩
  rintro e w2 ⟨hd, e0, e1, i, va, l, hi, e6, e5, hp, hs, h3⟩
  have hll : l.length ≤ i := by
    have h9 := hp.length_eq
    have h8 := List.length_filter_le (fun o : One => decide (o.1 = who)) (H.take i)
    simp only [List.length_map, List.length_take] at h9 h8
    omega
  obtain ⟨al, cl, rfl, _⟩ := h3.rowForm va
  have cT := h3.cl T
  by_cases hlt : (i : Int) < H.length
  case neg =>
    have : i = H.length := by omega
    subst this
    rw [List.take_length] at hp
    simp -dsimp -implicitDefEqProofs (disch := omega) only [go_sem, reqD_of, dec_t, dec_f, wrap_i64, wrap_u32, wrap_u64, wrap_u8, hd, e0, e1, e5, e6, hlt, cT]
    have he := s.heldS_eq v (who := who) hp hs
    rw [← he]
    refine ⟨_, by omega, ?_, rfl⟩
    have h4 : St w0 (RfQ T (.slice ah H.length ch) vW H W (RowO 42 4 (.slice al l.length cl) l.length (rowN l) * F)) w2 := h3.sub
    exact (RefT.mk s hm h4).sw2
  have hil : i < H.length := by omega
  obtain ⟨_, a', c', hv, _, hcl⟩ := oneAt (h3.ent ((Ent.right _ _).trans ((Ent.right _ _).trans ((Ent.left _ _).trans (RowO.reads _ _ _ _ _)))))
  simp only [Value.slice.injEq, true_and] at hv
  obtain ⟨rfl, rfl⟩ := hv
  obtain ⟨b, o, rfl, c0, c1, c2, c3, c4, r3, r4, _⟩ := hcl i hil
  have htk : H.take (i + 1) = H.take i ++ [H[i]] := List.take_succ_eq_append_getElem hil
  generalize hx : H[i] = y at c0 c1 c2 c3 c4 r3 r4 htk
  obtain ⟨yw, x⟩ := y
  simp only at c0 r4
  by_cases hk : yw = who
  case neg =>
    simp -dsimp -implicitDefEqProofs (disch := omega) only [go_sem, reqD_of, dec_t, dec_f, wrap_i64, wrap_u32, wrap_u64, wrap_u8, hd, e0, e1, e5, e6, hlt, cT, c0, hk]
    refine ⟨⟨i + 1, _, l, by omega, by simp, rfl, ?_, hs, h3⟩, by omega⟩
    rw [htk, List.filter_append, List.map_append]
    have : [((yw, x) : One)].filter (fun o => decide (o.1 = who)) = [] := by simp [hk]
    rw [this]
    simpa using hp
  simp -dsimp -implicitDefEqProofs (disch := omega) only [go_sem, reqD_of, dec_t, dec_f, wrap_i64, wrap_u32, wrap_u64, wrap_u8, hd, e0, e1, e5, e6, hlt, cT, c0, hk, r4]
  refine h3.lit (n := 1) (cells := needC x) fact_rowTy_63 rfl (by decide) (by decide) fun v1 w4 h4 => ?_
  simp -dsimp -implicitDefEqProofs (disch := omega) only [go_sem, reqD_of, dec_t, dec_f, wrap_i64, wrap_u32, wrap_u64, wrap_u8, hd, e0, e1, e5, e6]
  refine h4.app (v := .slice al l.length cl) fact_rowTy_63 ((Ent.left _ _).trans (RowO.reads _ _ _ _ _)) Tryz.underlying63 (needC_cells _) (fun h => by simp [needC] at h) (by simp only [Go.maxLen]; omega) (by omega) fun v2 w5 h5 => ?_
  obtain ⟨a2, c2', rfl, _⟩ := h5.rowForm v2
  simp -dsimp -implicitDefEqProofs (disch := omega) only [go_sem, reqD_of, dec_t, dec_f, wrap_i64, wrap_u32, wrap_u64, wrap_u8, hd, e0, e1, e5, e6]
  have e9 : rowN l ++ needC x = rowN (l ++ x :: []) := by simp [rowN]
  rw [e9] at h5
  have h6 : St w0 (RowO 42 4 (.slice a2 (l.length + 1) c2') (l.length + 1) (rowN (l ++ x :: [])) * RfQ T (.slice (some ⟨b, o, none⟩) H.length ch) vW H W F) w5 := h5.sub
  refine loop_intro (fun e w' => e.ds = [] ∧ e.ρ 0 = .pointer (some ⟨T, 0, none⟩) ∧ e.ρ 1 = .int .i64 who ∧ e.ρ 6 = .int .i64 i ∧ e.ρ 5 = .slice a2 (l.length + 1) c2' ∧ ∃ (p q : List Nee), e.ρ 7 = .int .i64 p.length ∧ (p ++ q).Perm l ∧ InsI (fun x y : Nee => leN x y = true) p q x ∧ St w0 (RowO 42 4 (.slice a2 (l.length + 1) c2') (l.length + 1) (rowN (p ++ x :: q)) * RfQ T (.slice (some ⟨b, o, none⟩) H.length ch) vW H W F) w')
    (fun e _ => match e.ρ 7 with | .int _ n => n.toNat | _ => 0) ?_ ?_
  · refine ⟨by simp -dsimp -implicitDefEqProofs only [go_sem, hd], by simp -dsimp -implicitDefEqProofs only [go_sem, e0], by simp -dsimp -implicitDefEqProofs only [go_sem, e1], by simp -dsimp -implicitDefEqProofs only [go_sem, e6], rfl, l, [], ?_, by simp, InsI.start hs, h6⟩
    have hxl : ((l.length + 1 : Nat) : Int) - 1 = l.length := by omega
    simp -dsimp -implicitDefEqProofs (disch := omega) only [go_sem, reqD_of, dec_t, dec_f, wrap_i64, wrap_u32, wrap_u64, wrap_u8, hxl]
  clear h4 h5 h6
  rintro e2 w6 ⟨hd2, e0', e1', e6', e5', p, q, e7, hpq, hins, h6⟩
  have hlen : p.length + q.length = l.length := by have := hpq.length_eq; simpa using this
  have h6' := h6.drew
  have hcount : (l.length : Int) + 1 = ((l.length + 1 : Nat) : Int) := by omega
  have fin : ∀ {wF : World}, St w0 (RowO 42 4 (.slice a2 (l.length + 1) c2') (l.length + 1) (rowN (p ++ x :: q)) * RfQ T (.slice (some ⟨b, o, none⟩) H.length ch) vW H W F) wF → (∀ z p', p = p' ++ [z] → leN z x = true) →
      ∃ (i' : Nat) (va : Value) (l' : List Nee), i' ≤ H.length ∧ (i : Int) + 1 = (i' : Int) ∧ (.slice a2 (l.length + 1) c2' : Value) = va ∧ l'.Perm (((H.take i').filter (fun o => decide (o.1 = who))).map (·.2)) ∧ l'.Pairwise (fun x y => leN x y = true) ∧ St w0 (RowO 42 4 va l'.length (rowN l') * RfQ T (.slice (some ⟨b, o, none⟩) H.length ch) vW H W F) wF := fun hF hz => by
    refine ⟨i + 1, _, p ++ x :: q, by omega, by omega, rfl, ?_, hins.done leN_trans hz, ?_⟩
    · rw [htk, List.filter_append, List.map_append]
      have : [((yw, x) : One)].filter (fun o => decide (o.1 = who)) = [(yw, x)] := by simp [hk]
      rw [this]
      refine List.Perm.trans List.perm_middle ?_
      exact (List.Perm.cons x (hpq.trans hp)).trans (List.perm_append_singleton x _).symm
    · have : (p ++ x :: q).length = l.length + 1 := by simp; omega
      rw [this]; exact hF
  rcases List.eq_nil_or_concat p with hp0 | ⟨p', z, hp0⟩
  · have hpz : (p.length : Int) = 0 := by rw [hp0]; rfl
    simp -dsimp -implicitDefEqProofs (disch := omega) only [go_sem, reqD_of, dec_t, dec_f, wrap_i64, wrap_u32, wrap_u64, wrap_u8, hd2, e0', e1', e6', e6, e5', e7, hpz]
    exact ⟨fin h6' (fun z p' h => by rw [hp0] at h; simp at h), by omega⟩
  rw [List.concat_eq_append] at hp0
  subst hp0
  have hpl : ((p' ++ [z]).length : Int) = (p'.length : Int) + 1 := by simp
  rw [hpl] at e7
  have hrow : p' ++ [z] ++ x :: q = p' ++ z :: x :: q := by simp
  have hpl2 : p'.length + 1 + q.length = l.length := by simpa using hlen
  have hb1 : (p'.length : Int) < (l.length : Int) + 1 := by omega
  have hb2 : (p'.length : Int) + 1 < (l.length : Int) + 1 := by omega
  have ht0 : ((p'.length : Int) + 1 - 1).toNat = p'.length := by omega
  have ht1 : ((p'.length : Int) + 1).toNat = p'.length + 1 := by omega
  have hs1 : (p'.length : Int) + 1 - 1 = p'.length := by omega
  have h7 := h6
  have h7' := h6'
  rw [hrow] at h7 h7'
  have g0 : (p' ++ z :: x :: q)[p'.length]'(by simp) = z := by simp
  have g1 : (p' ++ z :: x :: q)[p'.length + 1]'(by simp) = x := by simp [List.getElem_append_right]
  obtain ⟨_, _, _, hv, _, hcN⟩ := needAt (h7.ent ((Ent.left _ _).trans (RowO.reads _ _ _ _ _)))
  simp only [Value.slice.injEq, true_and] at hv
  obtain ⟨rfl, rfl⟩ := hv
  obtain ⟨b2, o2, rfl, z0, z1, z2, z3, zr3, zr4⟩ := hcN p'.length (by simp)
  obtain ⟨_, _, hq, x0, x1, x2, x3, xr3, xr4⟩ := hcN (p'.length + 1) (by simp)
  simp only [Option.some.injEq, Addr.mk.injEq] at hq
  obtain ⟨rfl, rfl, _⟩ := hq
  rw [g0] at z0 z1 z2 z3 zr3 zr4
  rw [g1] at x0 x1 x2 x3 xr3 xr4
  have dz3 : rowV w6.drew _ 3 = _ := zr3
  have dx3 : rowV w6.drew _ 3 = _ := xr3
  simp -dsimp -implicitDefEqProofs (disch := omega) only [go_sem, reqD_of, dec_t, dec_f, wrap_i64, wrap_u32, wrap_u64, wrap_u8, hd2, e0', e1', e6', e5', e7, hb1, hb2, ht0, ht1, zr3, xr3, dz3, dx3]
  refine (refCompare_any (a := z.1) (b := x.1) h7').mono ?_
  rintro e' w8 ⟨h8, rfl⟩
  obtain ⟨_, _, _, hv, _, hcN⟩ := needAt (h8.ent ((Ent.left _ _).trans (RowO.reads _ _ _ _ _)))
  simp only [Value.slice.injEq, true_and] at hv
  obtain ⟨rfl, rfl⟩ := hv
  obtain ⟨_, _, hq, z0, z1, z2, z3, zr3, zr4⟩ := hcN p'.length (by simp)
  simp only [Option.some.injEq, Addr.mk.injEq] at hq
  obtain ⟨rfl, rfl, _⟩ := hq
  obtain ⟨_, _, hq, x0, x1, x2, x3, xr3, xr4⟩ := hcN (p'.length + 1) (by simp)
  simp only [Option.some.injEq, Addr.mk.injEq] at hq
  obtain ⟨rfl, rfl, _⟩ := hq
  rw [g0] at z0 z1 z2 z3 zr3 zr4
  rw [g1] at x0 x1 x2 x3 xr3 xr4
  by_cases hgt : 0 < cmpN z.1 x.1
  case neg =>
    simp -dsimp -implicitDefEqProofs (disch := omega) only [go_sem, reqD_of, dec_t, dec_f, wrap_i64, wrap_u32, wrap_u64, wrap_u8, hd2, e0', e1', e6', e6, e5', e7, hgt, z0, z1, z2, x0, x1, x2, ht0, ht1, hb1, hb2]
    rw [← hrow] at h8
    exact ⟨fin h8 (fun z' p'' h => by
      have := List.append_inj_right' h rfl
      simp only [List.cons.injEq, and_true] at this
      rw [← this]
      exact leN_of_le hgt), by omega⟩
  simp -dsimp -implicitDefEqProofs (disch := omega) only [go_sem, reqD_of, dec_t, dec_f, wrap_i64, wrap_u32, wrap_u64, wrap_u8, hd2, e0', e1', e6', e5', e7, hgt, z0, z1, z2, z3, x0, x1, x2, ht0, ht1, hb1, hb2]
  refine h8.new fun X w9 h9 => ?_
  simp -dsimp -implicitDefEqProofs (disch := omega) only [go_sem, reqD_of, dec_t, dec_f, wrap_i64, wrap_u32, wrap_u64, wrap_u8, hd2, e0', e1', e6', e5', e7]
  refine h9.stoAll (b := X) (cs := needC z) rfl rfl (needC_cells _) fun w10 h10 => ?_
  obtain ⟨_, _, _, hv, _, hcN⟩ := needAt (h10.ent ((Ent.right _ _).trans ((Ent.left _ _).trans (RowO.reads _ _ _ _ _))))
  simp only [Value.slice.injEq, true_and] at hv
  obtain ⟨rfl, rfl⟩ := hv
  obtain ⟨_, _, hq, x0, x1, x2, x3, xr3, xr4⟩ := hcN (p'.length + 1) (by simp)
  simp only [Option.some.injEq, Addr.mk.injEq] at hq
  obtain ⟨rfl, rfl, _⟩ := hq
  rw [g1] at x0 x1 x2 x3 xr3 xr4
  simp -dsimp -implicitDefEqProofs (disch := omega) only [go_sem, reqD_of, dec_t, dec_f, wrap_i64, wrap_u32, wrap_u64, wrap_u8, hd2, e0', e1', e6', e5', e7, xr4, ht0, ht1, hb1, hb2]
  refine h10.rowSet (T := 42) (g := b2) (o := o2) (n := l.length + 1) (c := c2') (k := p'.length * 4) (m := 4) (cs := needC x) (xs := rowN (p' ++ z :: x :: q)) rfl (by rw [rowN_length]; simp only [List.length_append, List.length_cons]; omega) (needC_cells _) fun w11 h11 => ?_
  rw [rowN_set] at h11
  have rX := h11.rowH X 4 rfl
  simp -dsimp -implicitDefEqProofs (disch := omega) only [go_sem, reqD_of, dec_t, dec_f, wrap_i64, wrap_u32, wrap_u64, wrap_u8, hd2, e0', e1', e6', e5', e7, rX, ht0, ht1, hb1, hb2]
  refine h11.rowSet (T := 42) (g := b2) (o := o2) (n := l.length + 1) (c := c2') (k := (p'.length + 1) * 4) (m := 4) (cs := needC z) (xs := rowN (p' ++ x :: x :: q)) rfl (by rw [rowN_length]; simp only [List.length_append, List.length_cons]; omega) (needC_cells _) fun w12 h12 => ?_
  have e10 : setRowL (rowN (p' ++ x :: x :: q)) ((p'.length + 1) * 4) (needC z) = rowN (p' ++ x :: z :: q) := by
    have := rowN_set (p' ++ [x]) q x z
    simpa using this
  rw [e10] at h12
  simp -dsimp -implicitDefEqProofs (disch := omega) only [go_sem, reqD_of, dec_t, dec_f, wrap_i64, wrap_u32, wrap_u64, wrap_u8, hd2, e0', e1', e6', e5', e7, hs1]
  refine ⟨⟨p', z :: q, by omega, by simpa using hpq, hins.step (leN_of_gt hgt), h12.right⟩, by omega⟩
end
end
end Go.Proofs.YtacmnfpgimgigaaGreat

namespace Go.Proofs.YtacmnfpgimgigaaGreat
open Go
set_option linter.unusedSimpArgs false
set_option linter.unusedVariables false
set_option maxRecDepth 100000

section
variable {w0 w : World} {F : HP} {T m : Nat} {ls : List (Nam × LkS)} {ws : List (Int × Nee)}

section
attribute [local go_sem] F22.t11_eq F22.t12_eq F22.t14_eq
theorem rleave_8 {who : Int} {va : Value} {L0 : List Claim} {e : FA} {R : Ending → World → Prop} {θ : Tag (F22.t8, fnP Tryz.prog #[.tmp 4] R, e, w)} (v : Inv ls ws) (hM : m < 1000000) (hT : tot ls < 1073741824) (hL0 : L0.length < 1073741824)
    (hd : e.ds = []) (e0 : e.ρ 0 = .pointer (some ⟨T, 0, none⟩)) (e1 : e.ρ 1 = .int .i64 who) (e5 : e.ρ 5 = va)
    (h : St w0 (RowO 3 1 va L0.length (intR (L0.map (·.1))) * (RefT T m ls * F)) w)
    (hQ : ∀ (w' : World) (vb : Value), St w0 (RowO 3 1 vb (L0 ++ (leaveL who (heldS who ls) ls ws).1).length (intR ((L0 ++ (leaveL who (heldS who ls) ls ws).1).map (·.1))) * (RefT T m (leaveL who (heldS who ls) ls ws).2.1 * F)) w' → R (.returned vb) w') :
    cwE Tryz.prog F22.t8 (fnP Tryz.prog #[.tmp 4] R) e w θ := by
  obtain ⟨aa, ca, rfl, _⟩ := h.rowForm va
  have htot := (leaveL_tot who (heldS who ls) ls ws).2.1
  have hq := totQ_le_tot ls
  rw [F22.t8_eq]
  simp -dsimp -implicitDefEqProofs (disch := omega) only [go_sem, reqD_of, dec_t, dec_f, wrap_i64, wrap_u32, wrap_u64, wrap_u8, hd, e0, e1, e5]
  refine (held_ref v hM h.sw2).mono ?_
  rintro e' w1 ⟨vl, hl, h1, rfl⟩
  obtain ⟨_, al, cl, rfl, _, _⟩ := needAt (h1.ent ((Ent.left _ _).trans (RowO.reads _ _ _ _ _)))
  simp -dsimp -implicitDefEqProofs (disch := omega) only [go_sem, reqD_of, dec_t, dec_f, wrap_i64, wrap_u32, wrap_u64, wrap_u8, hd, e0, e1, e5]
  have h2 : St w0 (RowO 42 4 (.slice al (heldS who ls).length cl) (heldS who ls).length (rowN (heldS who ls)) * (RowO 3 1 (.slice aa L0.length ca) L0.length (intR (L0.map (·.1))) * (RefT T m ls * F))) w1 := h1.sub
  generalize hLL : heldS who ls = L at *
  refine loop_intro (fun e w' => e.ds = [] ∧ e.ρ 0 = .pointer (some ⟨T, 0, none⟩) ∧ e.ρ 1 = .int .i64 who ∧ e.ρ 9 = .slice al L.length cl ∧ ∃ (i : Nat) (va : Value) (acc : List Claim) (ls' : List (Nam × LkS)) (ws' : List (Int × Nee)), i ≤ L.length ∧ e.ρ 10 = .int .i64 i ∧ e.ρ 5 = va ∧ Inv ls' ws' ∧
      leaveL who L ls ws = (acc ++ (leaveL who (L.drop i) ls' ws').1, (leaveL who (L.drop i) ls' ws').2) ∧ St w0 (RowO 42 4 (.slice al L.length cl) L.length (rowN L) * (RowO 3 1 va (L0 ++ acc).length (intR ((L0 ++ acc).map (·.1))) * (RefT T m ls' * F))) w')
    (fun e _ => match e.ρ 10 with | .int _ n => (L.length - n).toNat | _ => 0) ?_ ?_
  · exact ⟨by simp -dsimp -implicitDefEqProofs only [go_sem, hd], by simp -dsimp -implicitDefEqProofs only [go_sem, e0], by simp -dsimp -implicitDefEqProofs only [go_sem, e1], by simp -dsimp -implicitDefEqProofs only [go_sem], 0, .slice aa L0.length ca, [], ls, ws, by omega, rfl, by simp -dsimp -implicitDefEqProofs only [go_sem, e5], v, by simp, by rw [List.append_nil]; exact h2⟩
  clear h h1 h2
  rintro e w2 ⟨hd, e0, e1, e9, i, va, acc, ls', ws', hi, e10, e5, v', hacc, h2⟩
  obtain ⟨aa, ca, rfl, _⟩ := h2.rowForm va
  have hal : acc.length < 1073741824 := by
    have := congrArg (fun x => x.1.length) hacc
    simp only [List.length_append] at this
    omega
  by_cases hlt : (i : Int) < L.length
  case neg =>
    have : i = L.length := by omega
    subst this
    rw [List.drop_length] at hacc
    simp only [leaveL, List.append_nil] at hacc
    simp -dsimp -implicitDefEqProofs (disch := omega) only [go_sem, reqD_of, dec_t, dec_f, wrap_i64, wrap_u32, wrap_u64, wrap_u8, hd, e0, e1, e5, e9, e10, hlt]
    refine hQ _ _ ?_
    rw [hacc]
    exact h2.right
  have hil : i < L.length := by omega
  obtain ⟨_, _, _, hv, _, hcN⟩ := needAt (h2.ent ((Ent.left _ _).trans (RowO.reads _ _ _ _ _)))
  simp only [Value.slice.injEq, true_and] at hv
  obtain ⟨rfl, rfl⟩ := hv
  obtain ⟨b, o, rfl, _, _, _, _, r3, _⟩ := hcN i hil
  simp -dsimp -implicitDefEqProofs (disch := omega) only [go_sem, reqD_of, dec_t, dec_f, wrap_i64, wrap_u32, wrap_u64, wrap_u8, hd, e0, e1, e5, e9, e10, hlt, r3]
  refine (free_ref (T := T) (m := m) (ls := ls') (F := RowO 42 4 (.slice (some ⟨b, o, none⟩) L.length cl) L.length (rowN L) * (RowO 3 1 (.slice aa (L0 ++ acc).length ca) (L0 ++ acc).length (intR ((L0 ++ acc).map (·.1))) * F)) (who := who) (x := L[i].1) v' hM h2.sub).mono ?_
  rintro e' w3 ⟨vb, hbl, h3, rfl⟩
  rw [List.drop_eq_getElem_cons hil] at hacc
  simp only [leaveL] at hacc
  have vf := v'.free who L[i].1
  generalize hfr : freeS who L[i].1 ls' ws' = fr at *
  obtain ⟨⟨lf, ef⟩, ls2, ws2⟩ := fr
  simp only at hacc vf h3 hbl
  have h4 : St w0 (RowO 3 1 (.slice aa (L0 ++ acc).length ca) (L0 ++ acc).length (intR ((L0 ++ acc).map (·.1))) * (RowO 3 1 vb lf.length (intR (lf.map (·.1))) * (RowO 42 4 (.slice (some ⟨b, o, none⟩) L.length cl) L.length (rowN L) * (RefT T m ls2 * F)))) w3 := h3.sub
  simp -dsimp -implicitDefEqProofs (disch := omega) only [go_sem, reqD_of, dec_t, dec_f, wrap_i64, wrap_u32, wrap_u64, wrap_u8, hd, e0, e1, e5, e9, e10]
  refine h4.app (v := .slice aa (L0 ++ acc).length ca) (x := vb) (m := lf.length) (news := intR (lf.map (·.1))) fact_rowTy_32 ((Ent.right _ _).trans ((Ent.left _ _).trans (RowO.reads _ _ _ _ _))) Tryz.underlying32 (intR_cells _) (fun h => by simpa [intR] using h) (by simp only [Go.maxLen, List.length_append]; omega) (by simp only [List.length_append]; omega) fun v5 w5 h5 => ?_
  obtain ⟨a5, c5, rfl, _⟩ := h5.rowForm v5
  simp -dsimp -implicitDefEqProofs (disch := omega) only [go_sem, reqD_of, dec_t, dec_f, wrap_i64, wrap_u32, wrap_u64, wrap_u8, hd, e0, e1, e5, e9, e10]
  have e11 : intR ((L0 ++ acc).map (·.1)) ++ intR (lf.map (·.1)) = intR ((L0 ++ (acc ++ lf)).map (·.1)) := by simp [intR]
  have e12 : (L0 ++ acc).length + lf.length = (L0 ++ (acc ++ lf)).length := by simp only [List.length_append]; omega
  rw [e11, e12] at h5
  rw [e12]
  have h6 : St w0 (RowO 42 4 (.slice (some ⟨b, o, none⟩) L.length cl) L.length (rowN L) * (RowO 3 1 (.slice a5 (L0 ++ (acc ++ lf)).length c5) (L0 ++ (acc ++ lf)).length (intR ((L0 ++ (acc ++ lf)).map (·.1))) * (RefT T m ls2 * F))) w5 := h5.sub
  refine ⟨⟨i + 1, _, acc ++ lf, ls2, ws2, by omega, by omega, rfl, vf, ?_, h6⟩, by omega⟩
  rw [hacc, List.append_assoc]

theorem leaveS_eq (who : Int) : leaveS who ls ws = ((leave1 who ls ws).1 ++ (leaveL who (heldS who (leave1 who ls ws).2.1) (leave1 who ls ws).2.1 (leave1 who ls ws).2.2).1, (leaveL who (heldS who (leave1 who ls ws).2.1) (leave1 who ls ws).2.1 (leave1 who ls ws).2.2).2) := rfl

end
section
attribute [local go_sem] F22.t11_eq F22.t12_eq F22.t14_eq
theorem leave_ref {who : Int} (v : Inv ls ws) (hM : m < 1000000) (hT : tot ls < 1073741824) (h : St w0 (RefT T m ls * F) w) :
    Calls Tryz.prog 22 #[.pointer (some ⟨T, 0, none⟩), .int .i64 who] w fun e w' => ∃ va, St w0 (RowO 3 1 va (leaveS who ls ws).1.length (intR ((leaveS who ls ws).1.map (·.1))) * (RefT T m (leaveS who ls ws).2.1 * F)) w' ∧ e = .returned va := by
  obtain ⟨vH, vW, H, W, s, hm, h1⟩ := RefT.open h
  obtain ⟨aw, cw, rfl, _⟩ := h1.rowForm vW
  have ht1 := leave1_tot who ls ws
  have v1 := v.leave1 who
  rw [leaveS_eq]
  refine F22.calls (by simp) ?_
  unfold F22.code
  have cT := h1.cl T
  simp -dsimp -implicitDefEqProofs (disch := omega) only [go_sem, reqD_of, dec_t, dec_f, wrap_i64, wrap_u32, wrap_u64, wrap_u8, cT]
  refine onV_of (v := namV (0, 0, 0)) (by kernel_rfl) ?_
  simp -dsimp -implicitDefEqProofs (disch := omega) only [go_sem, reqD_of, dec_t, dec_f, wrap_i64, wrap_u32, wrap_u64, wrap_u8, cT]
  refine (place_any (l := W) (k := (0, 0, 0)) h1 ((Ent.right _ _).trans ((Ent.right _ _).trans ((Ent.left _ _).trans (RowO.reads _ _ _ _ _)))) (by omega)).mono ?_
  rintro e w2 ⟨h4, rfl⟩
  have cT4 := h4.cl T
  rcases s.waits v (who := who) (k := (0, 0, 0)) with ⟨hf, hnone⟩ | ⟨a, n', b, hW, hf, hsome⟩
  · rw [hf]
    have hl1 := leave1_no (ls := ls) hnone
    rw [hl1] at ht1 v1 ⊢
    simp only at ht1 v1 ⊢
    simp -dsimp -implicitDefEqProofs (disch := omega) only [go_sem, reqD_of, dec_t, dec_f, wrap_i64, wrap_u32, wrap_u64, wrap_u8, cT4]
    have h5 := (RefT.mk s hm h4).nilR 3 1
    refine rleave_8 (L0 := []) v hM hT (by simp) (by simp -dsimp -implicitDefEqProofs only [go_sem]) (by simp -dsimp -implicitDefEqProofs only [go_sem]) (by simp -dsimp -implicitDefEqProofs only [go_sem]) (by simp -dsimp -implicitDefEqProofs only [go_sem]) h5 fun w' vb hb => ⟨vb, hb, rfl⟩
  · rw [hf]
    have hal : a.length < W.length := by rw [hW]; simp
    have hge : (0 : Int) ≤ (a.length : Int) := by omega
    have halI : (a.length : Int) < (W.length : Int) := by omega
    have hWa : W[a.length] = (who, n') := by simp [hW]
    have hWl : W.length = a.length + b.length + 1 := by rw [hW]; simp; omega
    obtain ⟨_, aw', cw', hv, _, hcl⟩ := oneAt (h4.ent ((Ent.right _ _).trans ((Ent.right _ _).trans ((Ent.left _ _).trans (RowO.reads _ _ _ _ _)))))
    simp only [Value.slice.injEq, true_and] at hv
    obtain ⟨rfl, rfl⟩ := hv
    obtain ⟨bw, ow, rfl, c0, c1, c2, c3, c4, r3, r4, r5⟩ := hcl a.length hal
    rw [hWa] at r3
    simp -dsimp -implicitDefEqProofs (disch := omega) only [go_sem, reqD_of, dec_t, dec_f, wrap_i64, wrap_u32, wrap_u64, wrap_u8, cT4, hge, halI, r3]
    refine h4.new fun K w5 h5 => ?_
    simp -dsimp -implicitDefEqProofs (disch := omega) only [go_sem, reqD_of, dec_t, dec_f, wrap_i64, wrap_u32, wrap_u64, wrap_u8]
    refine h5.stoAll (b := K) (cs := namC n'.1) rfl rfl (namC_cells _) fun w6 h6 => ?_
    have cT6 := h6.cl T
    simp -dsimp -implicitDefEqProofs (disch := omega) only [go_sem, reqD_of, dec_t, dec_f, wrap_i64, wrap_u32, wrap_u64, wrap_u8, cT6]
    refine (without_any (l := W) (at' := a.length) h6 ((Ent.right _ _).trans ((Ent.right _ _).trans ((Ent.right _ _).trans ((Ent.left _ _).trans (RowO.reads _ _ _ _ _))))) (by omega) hal).mono ?_
    rintro e w7 ⟨v', h7, rfl⟩
    have hWe : W.eraseIdx a.length = a ++ b := by rw [hW, List.eraseIdx_append_of_length_le (Nat.le_refl _), Nat.sub_self, List.eraseIdx_cons_zero]
    rw [hWe] at h7
    obtain ⟨a7, c7, rfl, _⟩ := h7.rowForm v'
    have cT7 := h7.cl T
    simp -dsimp -implicitDefEqProofs (disch := omega) only [go_sem, reqD_of, dec_t, dec_f, wrap_i64, wrap_u32, wrap_u64, wrap_u8, cT7]
    refine h7.sto (b := T) (off := 1) (by simp) rfl fun w8 h8 => ?_
    simp only [List.setIfInBounds_toArray, List.set_cons_succ, List.set_cons_zero] at h8
    have rK := h8.rowH K 3 rfl
    simp -dsimp -implicitDefEqProofs (disch := omega) only [go_sem, reqD_of, dec_t, dec_f, wrap_i64, wrap_u32, wrap_u64, wrap_u8, rK]
    have h9 : St w0 (RfQ T vH (.slice a7 (a ++ b).length c7) H (a ++ b) F) w8 := h8.sub
    refine (letIn_any (x := n'.1) h9 (s.al v _) (by simp only [List.length_append]; omega)).mono ?_
    rintro e w10 ⟨va, vH', vW', H', W', l, r, hll, h10, rfl⟩
    obtain ⟨e1, s'⟩ := s.leave1_go v hW r
    have hn' := r.n
    simp only [List.length_append] at hn' hll
    obtain ⟨a10, c10, rfl, _⟩ := h10.rowForm va
    have h11 : St w0 (RowO 3 1 (.slice none 0 0) 0 [] * (RowO 3 1 (.slice a10 l.length c10) l.length (intR (l.map (·.1))) * RfQ T vH' vW' H' W' F)) w10 := h10.nilR 3 1
    simp -dsimp -implicitDefEqProofs (disch := omega) only [go_sem, reqD_of, dec_t, dec_f, wrap_i64, wrap_u32, wrap_u64, wrap_u8]
    refine h11.app (v := .slice none 0 0) (x := .slice a10 l.length c10) (m := l.length) (news := intR (l.map (·.1))) fact_rowTy_32 ((Ent.right _ _).trans ((Ent.left _ _).trans (RowO.reads _ _ _ _ _))) Tryz.underlying32 (intR_cells _) (fun h => by simpa [intR] using h) (by simp only [Go.maxLen]; omega) (by omega) fun v12 w12 h12 => ?_
    simp only [Nat.zero_add, List.nil_append] at h12
    have h13 : St w0 (RfQ T vH' vW' H' W' (RowO 3 1 v12 l.length (intR (l.map (·.1))) * F)) w12 := h12.sub
    have h14 := (RefT.mk (m := m) s' (by omega) h13).sw2
    rw [← e1] at h14
    simp -dsimp -implicitDefEqProofs (disch := omega) only [go_sem, reqD_of, dec_t, dec_f, wrap_i64, wrap_u32, wrap_u64, wrap_u8]
    refine rleave_8 v1 hM (by omega) (by rw [e1]; omega) (by simp -dsimp -implicitDefEqProofs only [go_sem]) (by simp -dsimp -implicitDefEqProofs only [go_sem]) (by simp -dsimp -implicitDefEqProofs only [go_sem]) (by simp -dsimp -implicitDefEqProofs only [go_sem]) h14 fun w' vb hb => ⟨vb, hb, rfl⟩
end
end
end Go.Proofs.YtacmnfpgimgigaaGreat

namespace Go.Proofs.YtacmnfpgimgigaaGreat
open Go
set_option linter.unusedSimpArgs false
set_option linter.unusedVariables false
set_option maxRecDepth 100000


theorem rclone_any {w0 w : World} {F : HP} {T : Nat} {vH vW : Value} {H W : List One} (h : St w0 (RfQ T vH vW H W F) w) (hl : H.length + W.length < 1073741824) :
    Calls Tryz.prog 60 #[.pointer (some ⟨T, 0, none⟩)] w fun e w' => ∃ (C : Nat) (vH' vW' : Value), St w0 (RfQ C vH' vW' H W (RfQ T vH vW H W F)) w' ∧ e = .returned (.pointer (some ⟨C, 0, none⟩)) := by
  obtain ⟨ah, ch, rfl, _⟩ := h.rowForm vH
  obtain ⟨aw, cw, rfl, _⟩ := h.rowForm vW
  refine F60.calls (by simp) ?_
  unfold F60.code
  simp -dsimp -implicitDefEqProofs (disch := omega) only [go_sem, reqD_of, dec_t, dec_f, wrap_i64, wrap_u32, wrap_u64, wrap_u8]
  refine onV_of (v := .agg #[.slice none 0 0, .slice none 0 0]) (by kernel_rfl) ?_
  simp -dsimp -implicitDefEqProofs (disch := omega) only [go_sem, reqD_of, dec_t, dec_f, wrap_i64, wrap_u32, wrap_u64, wrap_u8]
  refine h.new fun C w1 h1 => ?_
  have h2 := h1.drew.nilR 84 5
  have cC := h1.cl C
  have cT := h1.cl T
  have dC := h2.cl C
  have dT := h2.cl T
  simp -dsimp -implicitDefEqProofs (disch := omega) only [go_sem, reqD_of, dec_t, dec_f, wrap_i64, wrap_u32, wrap_u64, wrap_u8, cC, cT, dC, dT]
  refine h2.app (v := .slice none 0 0) (x := .slice ah H.length ch) (m := H.length) (news := oneR H) fact_rowTy_59 ((Ent.right _ _).trans ((Ent.right _ _).trans ((Ent.right _ _).trans ((Ent.left _ _).trans (RowO.reads _ _ _ _ _))))) Tryz.underlying59 (oneR_cells _) (fun h => oneR_nil h) (by simp only [Go.maxLen]; omega) (by omega) fun v3 w3 h3 => ?_
  simp only [Nat.zero_add, List.nil_append] at h3
  obtain ⟨a3, c3, rfl, _⟩ := h3.rowForm v3
  have cC := h3.cl C
  have cT := h3.cl T
  simp -dsimp -implicitDefEqProofs (disch := omega) only [go_sem, reqD_of, dec_t, dec_f, wrap_i64, wrap_u32, wrap_u64, wrap_u8, cC, cT]
  refine h3.sto (b := C) (off := 0) (by simp) rfl fun w4 h4 => ?_
  simp only [List.setIfInBounds_toArray, List.set_cons_succ, List.set_cons_zero] at h4
  have h5 := h4.drew.nilR 84 5
  have cC := h4.cl C
  have cT := h4.cl T
  have dC := h5.cl C
  have dT := h5.cl T
  simp -dsimp -implicitDefEqProofs (disch := omega) only [go_sem, reqD_of, dec_t, dec_f, wrap_i64, wrap_u32, wrap_u64, wrap_u8, cC, cT, dC, dT]
  refine h5.app (v := .slice none 0 0) (x := .slice aw W.length cw) (m := W.length) (news := oneR W) fact_rowTy_59 (Gives.ent) Tryz.underlying59 (oneR_cells _) (fun h => oneR_nil h) (by simp only [Go.maxLen]; omega) (by omega) fun v6 w6 h6 => ?_
  simp only [Nat.zero_add, List.nil_append] at h6
  obtain ⟨a6, c6, rfl, _⟩ := h6.rowForm v6
  have cC := h6.cl C
  have cT := h6.cl T
  simp -dsimp -implicitDefEqProofs (disch := omega) only [go_sem, reqD_of, dec_t, dec_f, wrap_i64, wrap_u32, wrap_u64, wrap_u8, cC, cT]
  refine h6.sto (b := C) (off := 1) (by simp) rfl fun w7 h7 => ?_
  simp only [List.setIfInBounds_toArray, List.set_cons_succ, List.set_cons_zero] at h7
  have cC := h7.cl C
  have cT := h7.cl T
  simp -dsimp -implicitDefEqProofs (disch := omega) only [go_sem, reqD_of, dec_t, dec_f, wrap_i64, wrap_u32, wrap_u64, wrap_u8, cC, cT]
  have h8 : St w0 (RfQ C (.slice a3 H.length c3) (.slice a6 W.length c6) H W (RfQ T (.slice ah H.length ch) (.slice aw W.length cw) H W F)) w7 := h7.sub
  exact ⟨C, _, _, h8, rfl⟩

section
variable {w0 w : World} {F : HP} {T m : Nat} {ls : List (Nam × LkS)} {ws : List (Int × Nee)}

section
attribute [local go_sem] F61.t3_eq F61.t4_eq F61.t6_eq
theorem goes_ref (v : Inv ls ws) (hM : m < 1000000) (h : St w0 (RefT T m ls * F) w) :
    Calls Tryz.prog 61 #[.pointer (some ⟨T, 0, none⟩)] w fun e w' => St w0 (RefT T m ls * F) w' ∧ FreeOk ls ws e := by
  obtain ⟨vH, vW, H, W, s, hm, h1⟩ := RefT.open h
  obtain ⟨ah, ch, rfl, _⟩ := h1.rowForm vH
  obtain ⟨aw, cw, rfl, _⟩ := h1.rowForm vW
  refine F61.calls (by simp) ?_
  unfold F61.code
  simp -dsimp -implicitDefEqProofs (disch := omega) only [go_sem, reqD_of, dec_t, dec_f, wrap_i64, wrap_u32, wrap_u64, wrap_u8]
  refine loop_intro (fun e w' => St w0 (RfQ T (.slice ah H.length ch) (.slice aw W.length cw) H W F) w' ∧ e.ds = [] ∧ e.ρ 0 = .pointer (some ⟨T, 0, none⟩) ∧ ∃ i : Nat, i ≤ H.length ∧ e.ρ 4 = .int .i64 i ∧ ∀ o ∈ H.take i, (agt o.1 ws).isSome = true)
    (fun e _ => match e.ρ 4 with | .int _ n => (H.length - n).toNat | _ => 0) ?_ ?_
  · exact ⟨h1, rfl, by simp -dsimp -implicitDefEqProofs only [go_sem], 0, by omega, rfl, by simp⟩
  rintro e w2 ⟨h2, hd, e0, i, hi, e4, hall⟩
  have cT := h2.cl T
  by_cases hlt : (i : Int) < H.length
  case neg =>
    have : i = H.length := by omega
    subst this
    rw [List.take_length] at hall
    simp -dsimp -implicitDefEqProofs (disch := omega) only [go_sem, reqD_of, dec_t, dec_f, wrap_i64, wrap_u32, wrap_u64, wrap_u8, hd, e0, e4, hlt, cT]
    refine ⟨RefT.mk s hm h2, .inr ⟨rfl, fun x t ht c hc => ?_⟩⟩
    refine hall (c.1, (x, c.2)) (s.held.2 ?_)
    unfold hsK
    rw [ht]
    exact hc
  have hil : i < H.length := by omega
  have h2' := h2.drew
  have dT := h2'.cl T
  obtain ⟨_, a', c', hv, _, hcl⟩ := oneAt (h2.ent ((Ent.right _ _).trans ((Ent.left _ _).trans (RowO.reads _ _ _ _ _))))
  simp only [Value.slice.injEq, true_and] at hv
  obtain ⟨rfl, rfl⟩ := hv
  obtain ⟨b, o, rfl, c0, _⟩ := hcl i hil
  have d0 : w2.drew.cell? _ = _ := c0
  simp -dsimp -implicitDefEqProofs (disch := omega) only [go_sem, reqD_of, dec_t, dec_f, wrap_i64, wrap_u32, wrap_u64, wrap_u8, hd, e0, e4, hlt, cT, dT, c0, d0]
  refine onV_of (v := namV (0, 0, 0)) (by kernel_rfl) ?_
  simp -dsimp -implicitDefEqProofs (disch := omega) only [go_sem, reqD_of, dec_t, dec_f, wrap_i64, wrap_u32, wrap_u64, wrap_u8, hd, e0, e4, hlt, cT, dT, c0, d0]
  refine (place_any (l := W) (k := (0, 0, 0)) h2' ((Ent.right _ _).trans ((Ent.right _ _).trans ((Ent.left _ _).trans (RowO.reads _ _ _ _ _)))) (by omega)).mono ?_
  rintro e' w3 ⟨h3, rfl⟩
  have cT3 := h3.cl T
  obtain ⟨_, _, _, hv, _, hcl3⟩ := oneAt (h3.ent ((Ent.right _ _).trans ((Ent.left _ _).trans (RowO.reads _ _ _ _ _))))
  simp only [Value.slice.injEq, true_and] at hv
  obtain ⟨rfl, rfl⟩ := hv
  obtain ⟨_, _, hq, c03, _⟩ := hcl3 i hil
  simp only [Option.some.injEq, Addr.mk.injEq] at hq
  obtain ⟨rfl, rfl, _⟩ := hq
  rcases s.waits v (who := H[i].1) (k := (0, 0, 0)) with ⟨hf, hnone⟩ | ⟨a, n', b', hW, hf, hsome⟩
  · rw [hf]
    simp -dsimp -implicitDefEqProofs (disch := omega) only [go_sem, reqD_of, dec_t, dec_f, wrap_i64, wrap_u32, wrap_u64, wrap_u8, hd, e0, e4, hlt, cT3, c03]
    refine ⟨RefT.mk s hm h3, .inl ?_⟩
    have hmem : H[i] ∈ H := List.getElem_mem hil
    have hk := s.held.1 (show (H[i].1, H[i].2) ∈ H from hmem)
    unfold hsK at hk
    cases hx : agt H[i].2.1 ls with
    | none => rw [hx] at hk; cases hk
    | some t =>
      rw [hx] at hk
      exact ⟨H[i].1, H[i].2.1, t, rfl, hx, List.mem_map.2 ⟨_, hk, rfl⟩, hnone⟩
  · rw [hf]
    have hge : ¬ ((a.length : Int) < 0) := by omega
    simp -dsimp -implicitDefEqProofs (disch := omega) only [go_sem, reqD_of, dec_t, dec_f, wrap_i64, wrap_u32, wrap_u64, wrap_u8, hd, e0, e4, hlt, cT3, c03, hge]
    refine ⟨⟨h3, i + 1, by omega, by omega, ?_⟩, by omega⟩
    rw [List.take_succ_eq_append_getElem hil]
    intro o' ho
    rcases List.mem_append.1 ho with ho | ho
    · exact hall o' ho
    · simp only [List.mem_singleton] at ho
      rw [ho, hsome]
      rfl

/-- The play, so far: n claims are left. -/
def PlayR (w0 : World) (C m : Nat) (ls : List (Nam × LkS)) (ws : List (Int × Nee)) (G : HP) (n : Nat) (e : FA) (w : World) : Prop :=
  e.ds = [] ∧ e.ρ 3 = .pointer (some ⟨C, 0, none⟩) ∧ ∃ (ls' : List (Nam × LkS)) (ws' : List (Int × Nee)) (a b : Value), tot ls' = n ∧ Inv ls' ws' ∧ (∀ p, Stk ls' ws' p ↔ Stk ls ws p) ∧ tot ls' ≤ tot ls ∧ e.ρ 4 = a ∧ e.ρ 5 = b ∧ FreeOk ls' ws' (.returned (.tuple #[a, b])) ∧ St w0 (RefT C m ls' * G) w

end
section
attribute [local go_sem] F33.t4_eq F33.t9_eq F33.t10_eq F33.t11_eq F33.t6_eq
theorem stuck_ref (v : Inv ls ws) (hM : m < 1000000) (hT : tot ls < 1073741824) (h : St w0 (RefT T m ls * F) w) :
    Calls Tryz.prog 33 #[.pointer (some ⟨T, 0, none⟩)] w fun e w' => ∃ (va : Value) (l : List Int), StuckIs ls ws l ∧ l.length ≤ m ∧ St w0 (RowO 3 1 va l.length (intR l) * (RefT T m ls * F)) w' ∧ e = .returned va := by
  obtain ⟨vH, vW, H, W, s, hm, h1⟩ := RefT.open h
  refine F33.calls (by simp) ?_
  unfold F33.code
  simp -dsimp -implicitDefEqProofs (disch := omega) only [go_sem, reqD_of, dec_t, dec_f, wrap_i64, wrap_u32, wrap_u64, wrap_u8]
  refine (rclone_any h1 (by omega)).mono ?_
  rintro e' w1 ⟨C, vH', vW', h2, rfl⟩
  have h3 : St w0 (RefT C m ls * (RefT T m ls * F)) w1 := by
    have h4 := RefT.mk (T := C) (m := m) s hm h2
    have h5 : St w0 (RfQ T vH vW H W (RefT C m ls * F)) w1 := h4.sub
    exact (RefT.mk (T := T) (m := m) s hm h5).sw2
  simp -dsimp -implicitDefEqProofs (disch := omega) only [go_sem, reqD_of, dec_t, dec_f, wrap_i64, wrap_u32, wrap_u64, wrap_u8]
  refine (goes_ref v hM h3).mono ?_
  rintro e' w2 ⟨h4, hf⟩
  obtain ⟨a, b, rfl⟩ : ∃ a b, e' = .returned (.tuple #[a, b]) := by
    rcases hf with ⟨who, x, s, h, _⟩ | ⟨h, _⟩
    · exact ⟨_, _, h⟩
    · exact ⟨_, _, h⟩
  simp -dsimp -implicitDefEqProofs (disch := omega) only [go_sem, reqD_of, dec_t, dec_f, wrap_i64, wrap_u32, wrap_u64, wrap_u8]
  refine loop_rank (PlayR w0 C m ls ws (RefT T m ls * F)) (tot ls) ⟨by simp -dsimp -implicitDefEqProofs only [go_sem], by simp -dsimp -implicitDefEqProofs only [go_sem], ls, ws, a, b, rfl, v, fun _ => Iff.rfl, Nat.le_refl _, by simp -dsimp -implicitDefEqProofs only [go_sem], by simp -dsimp -implicitDefEqProofs only [go_sem], hf, h4⟩ ?_
  rintro e w3 ⟨hd, e3, ls', ws', a, b, hn, v', hst, ht', e4, e5, hf', h5⟩
  rcases hf' with ⟨who, x, t, hab, ht, hmm, hwn⟩ | ⟨hab, hend⟩
  · simp only [Ending.returned.injEq, Value.tuple.injEq, Array.mk.injEq, List.cons.injEq, and_true] at hab
    obtain ⟨rfl, rfl⟩ := hab
    simp -dsimp -implicitDefEqProofs (disch := omega) only [go_sem, reqD_of, dec_t, dec_f, wrap_i64, wrap_u32, wrap_u64, wrap_u8, hd, e3, e4, e5]
    refine (leave_ref v' hM (by omega) h5).mono ?_
    rintro e' w4 ⟨va, h6, rfl⟩
    obtain ⟨t1, _, t3⟩ := leaveS_tot who ls' ws'
    have h7 : St w0 (RefT C m (leaveS who ls' ws').2.1 * (RefT T m ls * F)) w4 := h6.right
    simp -dsimp -implicitDefEqProofs (disch := omega) only [go_sem, reqD_of, dec_t, dec_f, wrap_i64, wrap_u32, wrap_u64, wrap_u8, hd, e3, e4, e5]
    refine (goes_ref (v'.leave who) hM h7).mono ?_
    rintro e' w5 ⟨h8, hf⟩
    obtain ⟨a, b, rfl⟩ : ∃ a b, e' = .returned (.tuple #[a, b]) := by
      rcases hf with ⟨who, x, s, h, _⟩ | ⟨h, _⟩
      · exact ⟨_, _, h⟩
      · exact ⟨_, _, h⟩
    simp -dsimp -implicitDefEqProofs (disch := omega) only [go_sem, reqD_of, dec_t, dec_f, wrap_i64, wrap_u32, wrap_u64, wrap_u8, hd, e3, e4, e5]
    refine rank_down (m := tot (leaveS who ls' ws').2.1) ⟨by simp -dsimp -implicitDefEqProofs only [go_sem, hd], by simp -dsimp -implicitDefEqProofs only [go_sem, e3], _, _, a, b, rfl, v'.leave who, fun p => (stk_leave v' hwn p).trans (hst p), by omega, by simp -dsimp -implicitDefEqProofs only [go_sem], by simp -dsimp -implicitDefEqProofs only [go_sem], hf, h8⟩ ?_
    rw [← hn]
    exact leave_lt v' hwn ht hmm
  · simp only [Ending.returned.injEq, Value.tuple.injEq, Array.mk.injEq, List.cons.injEq, and_true] at hab
    obtain ⟨rfl, rfl⟩ := hab
    obtain ⟨vH2, vW2, H2, W2, s2, hm2, h6⟩ := RefT.open h5
    obtain ⟨aw, cw, rfl, _⟩ := h6.rowForm vW2
    simp -dsimp -implicitDefEqProofs (disch := omega) only [go_sem, reqD_of, dec_t, dec_f, wrap_i64, wrap_u32, wrap_u64, wrap_u8, hd, e3, e4, e5]
    have h7 := h6.nilR 3 1
    refine loop_intro (fun e w' => e.ds = [] ∧ e.ρ 3 = .pointer (some ⟨C, 0, none⟩) ∧ ∃ (i : Nat) (va : Value) (l : List Int), i ≤ W2.length ∧ e.ρ 7 = .int .i64 i ∧ e.ρ 6 = va ∧ l.Perm ((W2.take i).map (·.1)) ∧ l.Pairwise (· ≤ ·) ∧ St w0 (RowO 3 1 va l.length (intR l) * RfQ C vH2 (.slice aw W2.length cw) H2 W2 (RefT T m ls * F)) w')
      (fun e _ => match e.ρ 7 with | .int _ n => (W2.length - n).toNat | _ => 0) ?_ ?_
    · exact ⟨by simp -dsimp -implicitDefEqProofs only [go_sem, hd], by simp -dsimp -implicitDefEqProofs only [go_sem, e3], 0, _, [], by omega, rfl, rfl, by simp, .nil, h7⟩
    clear h5 h6 h7 hd e3 e4 e5
    rintro e w4 ⟨hd, e3, i, va, l, hi, e7, e6, hp, hs, h5⟩
    have hll : l.length = i := by
      have := hp.length_eq
      simp only [List.length_map, List.length_take] at this
      omega
    have cC := h5.cl C
    by_cases hlt : (i : Int) < W2.length
    case neg =>
      have : i = W2.length := by omega
      subst this
      rw [List.take_length] at hp
      simp -dsimp -implicitDefEqProofs (disch := omega) only [go_sem, reqD_of, dec_t, dec_f, wrap_i64, wrap_u32, wrap_u64, wrap_u8, hd, e3, e6, e7, hlt, cC]
      refine ⟨va, l, ?_, by omega, h5.sub, rfl⟩
      have hsk := s2.stuck v' (fun o ho => by
        have hk := s2.held.1 (show (o.1, o.2) ∈ H2 from ho)
        unfold hsK at hk
        cases hx : agt o.2.1 ls' with
        | none => rw [hx] at hk; cases hk
        | some t => rw [hx] at hk; exact hend _ t hx _ hk) hp hs
      exact ⟨hsk.1, fun p => (hsk.2 p).trans (hst p)⟩
    have hil : i < W2.length := by omega
    obtain ⟨_, a', c', hv, _, hcl⟩ := oneAt (h5.ent ((Ent.right _ _).trans ((Ent.right _ _).trans ((Ent.right _ _).trans ((Ent.left _ _).trans (RowO.reads _ _ _ _ _))))))
    simp only [Value.slice.injEq, true_and] at hv
    obtain ⟨rfl, rfl⟩ := hv
    obtain ⟨b, o, rfl, c0, _⟩ := hcl i hil
    simp -dsimp -implicitDefEqProofs (disch := omega) only [go_sem, reqD_of, dec_t, dec_f, wrap_i64, wrap_u32, wrap_u64, wrap_u8, hd, e3, e6, e7, hlt, cC, c0]
    refine (rising_any (x := W2[i].1) h5 hs (by omega)).mono ?_
    rintro e' w5 ⟨v', ys, hp', hs', h6, rfl⟩
    simp -dsimp -implicitDefEqProofs (disch := omega) only [go_sem, reqD_of, dec_t, dec_f, wrap_i64, wrap_u32, wrap_u64, wrap_u8, hd, e3, e6, e7]
    refine ⟨⟨i + 1, v', ys, by omega, by omega, rfl, ?_, hs', h6⟩, by omega⟩
    rw [List.take_succ_eq_append_getElem hil, List.map_append]
    exact hp'.trans (hp.append_right [W2[i].1])
end
end
end Go.Proofs.YtacmnfpgimgigaaGreat

namespace Go.Proofs.YtacmnfpgimgigaaGreat
open Go
set_option linter.unusedSimpArgs false
set_option linter.unusedVariables false
set_option maxRecDepth 100000

theorem grpN_at {w0 w : World} {A R : HP} {Gs : GL} {g : Int × List (Value × Nat)} {v : Value} {n : Nat} (hg : g ∈ Gs) (hp : (v, n) ∈ g.2) (h : St w0 A w) [i : Pull A (grpsN Gs) R] :
    ∃ a c, v = .slice a n c ∧ n ≤ c ∧ ∀ k, k < n → ∃ b o, a = some ⟨b, o, none⟩ ∧ rowV w ⟨b, o + k * 4, none⟩ 4 = some (.agg (mkN g.1).toArray) ∧ w.cell? ⟨b, o + k * 4, none⟩ = some (.int .u8 0) ∧ w.cell? ⟨b, o + k * 4 + 1, none⟩ = some (.int .i64 (IntKind.i64.wrap (0 - g.1))) ∧ w.cell? ⟨b, o + k * 4 + 2, none⟩ = some (.int .u64 0) ∧ w.cell? ⟨b, o + k * 4 + 3, none⟩ = some (.bool false) := by
  obtain ⟨a, c, hv, hnc, hr⟩ := grpG_at (T := 42) (s := 4) (mk := mkN) mkN_length (by decide) hg hp h
  refine ⟨a, c, hv, hnc, fun k hk => ?_⟩
  obtain ⟨b, o, ha, hc⟩ := hr k hk
  have h0 := hc 0 (by decide)
  have h1 := hc 1 (by decide)
  have h2 := hc 2 (by decide)
  have h3 := hc 3 (by decide)
  simp only [mkN, Nat.add_zero] at h0 h1 h2 h3
  refine ⟨b, o, ha, ?_, h0, h1, h2, h3⟩
  simp [rowV, cellsFrom, add_lit, h0, h1, h2, h3, mkN]
theorem grpI_at {w0 w : World} {A R : HP} {Gs : GL} {g : Int × List (Value × Nat)} {v : Value} {n : Nat} (hg : g ∈ Gs) (hp : (v, n) ∈ g.2) (h : St w0 A w) [i : Pull A (grpsI Gs) R] :
    ∃ a c, v = .slice a n c ∧ n ≤ c ∧ ∀ k, k < n → ∃ b o, a = some ⟨b, o, none⟩ ∧ w.cell? ⟨b, o + k, none⟩ = some (.int .i64 g.1) := by
  obtain ⟨a, c, hv, hnc, hr⟩ := grpG_at (T := 3) (s := 1) (mk := mkI) mkI_length (by decide) hg hp h
  refine ⟨a, c, hv, hnc, fun k hk => ?_⟩
  obtain ⟨b, o, ha, hc⟩ := hr k hk
  refine ⟨b, o, ha, ?_⟩
  have h0 := hc 0 (by decide)
  simpa [mkI] using h0

section
variable {w0 w : World} {F : HP} {B : Nat} {vi vim vn vnm hI tI fI wI hN tN fN wN : Value} {EI : EL} {hVI tVI fVI wVI : List Value} {EN : EL} {hVN tVN fVN wVN : List Value} {GI GN : GL} {R : Ending → World → Prop} {e : FA}

section
attribute [local go_sem] F36.t6_eq F36.t7_eq F36.t3_eq F36.t4_eq F36.t14_eq F36.t15_eq F36.t11_eq F36.t12_eq F36.t17_eq
theorem looks_9 {θ : Tag (F36.t9, fnP Tryz.prog #[.tmp 2] R, e, w)} (ok : EOk EN GN) (hE : EN.length ≤ 10000000000) (hd : e.ds = []) (e0 : e.ρ 0 = .pointer (some ⟨B, 0, none⟩))
    (h : St w0 (BB B vi vim vn vnm hI tI fI wI hN tN fN wN EI hVI tVI fVI wVI EN hVN tVN fVN wVN (grpsN GN * F)) w)
    (hQ : ∀ w', St w0 (BB B vi vim vn vnm hI tI fI wI hN tN fN wN EI hVI tVI fVI wVI EN hVN tVN fVN wVN (grpsN GN * F)) w' → R (.returned (.bool true)) w') :
    cwE Tryz.prog F36.t9 (fnP Tryz.prog #[.tmp 2] R) e w θ := by
  obtain ⟨al, cl, rfl, _⟩ := h.rowForm vn
  obtain ⟨am, cm, rfl, _⟩ := h.rowForm vnm
  have hlen : (eV EN).length = EN.length := by simp
  have hlenM : (eM EN).length = EN.length := by simp
  have cB := h.cl B
  rw [F36.t9_eq]
  simp -dsimp -implicitDefEqProofs (disch := omega) only [go_sem, reqD_of, dec_t, dec_f, wrap_i64, wrap_u32, wrap_u64, wrap_u8, hd, e0, cB]
  refine loop_intro (fun e w' => St w0 (BB B vi vim (.slice al EN.length cl) (.slice am EN.length cm) hI tI fI wI hN tN fN wN EI hVI tVI fVI wVI EN hVN tVN fVN wVN (grpsN GN * F)) w' ∧ e.ds = [] ∧ e.ρ 0 = .pointer (some ⟨B, 0, none⟩) ∧ ∃ i : Nat, i ≤ EN.length ∧ e.ρ 5 = .int .i64 i)
    (fun e _ => match e.ρ 5 with | .int _ n => (EN.length - n).toNat | _ => 0) ?_ ?_
  · exact ⟨h, by simp -dsimp -implicitDefEqProofs only [go_sem, hd], by simp -dsimp -implicitDefEqProofs only [go_sem, e0], 0, by omega, rfl⟩
  · clear h cB
    rintro e1 w5 ⟨h5, hd, e0, i, hi, e5⟩
    have cB := h5.cl B
    by_cases hlt : (i : Int) < EN.length
    · have hiE : i < EN.length := by omega
      obtain ⟨bl, ol, rfl, hl⟩ := h5.at1 (a := al) (n := EN.length) (c := cl) (xs := eV EN) (k := i) (by omega)
      obtain ⟨bm, om, rfl, hm⟩ := h5.at1 (a := am) (n := EN.length) (c := cm) (xs := eM EN) (k := i) (by omega)
      simp only [eV, eM, List.getElem_map] at hl hm
      obtain ⟨g, hg, hgm, hgx⟩ := ok.gr EN[i] (List.getElem_mem hiE)
      obtain ⟨hxc, hxl⟩ := ok.ce EN[i] (List.getElem_mem hiE)
      rcases hx : EN[i] with ⟨xv, xn, xm⟩
      rw [hx] at hl hm hgm hgx hxc hxl
      simp only at hl hm hgm hgx hxc hxl
      subst hgm
      obtain ⟨ax, cx, rfl, _, _⟩ := grpN_at (g := g) (v := xv) (n := xn) hg hgx h5
      simp -dsimp -implicitDefEqProofs (disch := omega) only [go_sem, reqD_of, dec_t, dec_f, wrap_i64, wrap_u32, wrap_u64, wrap_u8, hd, e0, e5, hlt, hlen, cB]
      refine loop_intro (fun e w' => St w0 (BB B vi vim (.slice (some ⟨bl, ol, none⟩) EN.length cl) (.slice (some ⟨bm, om, none⟩) EN.length cm) hI tI fI wI hN tN fN wN EI hVI tVI fVI wVI EN hVN tVN fVN wVN (grpsN GN * F)) w' ∧ e.ds = [] ∧ e.ρ 0 = .pointer (some ⟨B, 0, none⟩) ∧ e.ρ 5 = .int .i64 i ∧ ∃ k : Nat, k ≤ xn ∧ e.ρ 6 = .int .i64 k)
        (fun e _ => match e.ρ 6 with | .int _ n => (xn - n).toNat | _ => 0) ?_ ?_
      · exact ⟨h5, by simp -dsimp -implicitDefEqProofs only [go_sem, hd], by simp -dsimp -implicitDefEqProofs only [go_sem, e0], by simp -dsimp -implicitDefEqProofs only [go_sem, e5], 0, by omega, rfl⟩
      · clear cB hl hm
        rintro e2 w6 ⟨h6, hd2, e0', e5', k, hk, e6⟩
        have cB := h6.cl B
        have h7 := h6.drew
        have cB7 := h7.cl B
        have hl := h6.at1' (b := bl) (o := ol) (n := EN.length) (c := cl) (xs := eV EN) (k := i) (by omega)
        have hm := h6.at1' (b := bm) (o := om) (n := EN.length) (c := cm) (xs := eM EN) (k := i) (by omega)
        simp only [eV, eM, List.getElem_map, hx] at hl hm
        by_cases hkl : (k : Int) < xn
        · obtain ⟨ax', cx', hv, _, hcA⟩ := grpN_at (g := g) (v := .slice ax xn cx) (n := xn) hg hgx h6
          simp only [Value.slice.injEq, true_and] at hv
          obtain ⟨rfl, rfl⟩ := hv
          obtain ⟨bx, ox, rfl, hc, _⟩ := hcA k (by omega)
          have hl7 : w6.drew.cell? _ = _ := hl
          have hm7 : w6.drew.cell? _ = _ := hm
          have hc7 : rowV w6.drew _ 4 = _ := hc
          simp -dsimp -implicitDefEqProofs (disch := omega) only [go_sem, reqD_of, dec_t, dec_f, wrap_i64, wrap_u32, wrap_u64, wrap_u8, hd2, e0', e5', e6, hkl, hlt, cB, cB7, hl, hm, hc, hl7, hm7, hc7]
          refine (need_any h7).mono ?_
          rintro e' w8 ⟨h8, rfl⟩
          have cB8 := h8.cl B
          have hl8 := h8.at1' (b := bl) (o := ol) (n := EN.length) (c := cl) (xs := eV EN) (k := i) (by omega)
          have hm8 := h8.at1' (b := bm) (o := om) (n := EN.length) (c := cm) (xs := eM EN) (k := i) (by omega)
          simp only [eV, eM, List.getElem_map, hx] at hl8 hm8
          obtain ⟨_, _, hv, _, hcA8⟩ := grpN_at (g := g) (v := .slice (some ⟨bx, ox, none⟩) xn cx) (n := xn) hg hgx h8
          simp only [Value.slice.injEq, true_and] at hv
          obtain ⟨rfl, rfl⟩ := hv
          obtain ⟨_, _, hq, _, hc8⟩ := hcA8 k (by omega)
          simp only [Option.some.injEq, Addr.mk.injEq] at hq
          obtain ⟨rfl, rfl, _⟩ := hq
          simp -dsimp -implicitDefEqProofs (disch := omega) only [go_sem, reqD_of, dec_t, dec_f, wrap_i64, wrap_u32, wrap_u64, wrap_u8, hd2, e0', e5', e6, hkl, hlt, cB8, hl8, hm8, hc8, mkN, beq_self_eq_true, Bool.not_true]
          exact ⟨⟨h8, k + 1, by omega, by omega⟩, by omega⟩
        · have : k = xn := by omega
          subst this
          simp -dsimp -implicitDefEqProofs (disch := omega) only [go_sem, reqD_of, dec_t, dec_f, wrap_i64, wrap_u32, wrap_u64, wrap_u8, hd2, e0', e5', e5, e6, hkl, hlt, cB, hl, hm]
          exact ⟨⟨h6, i + 1, by omega, by omega⟩, by omega⟩
    · have : i = EN.length := by omega
      subst this
      simp -dsimp -implicitDefEqProofs (disch := omega) only [go_sem, reqD_of, dec_t, dec_f, wrap_i64, wrap_u32, wrap_u64, wrap_u8, hd, e0, e5, hlt, cB, hlen]
      exact hQ _ h5

end
section
attribute [local go_sem] F36.t6_eq F36.t7_eq F36.t3_eq F36.t4_eq F36.t14_eq F36.t15_eq F36.t11_eq F36.t12_eq F36.t17_eq
theorem looks_any (okI : EOk EI GI) (okN : EOk EN GN) (hI' : EI.length ≤ 10000000000) (hN' : EN.length ≤ 10000000000)
    (h : St w0 (BB B vi vim vn vnm hI tI fI wI hN tN fN wN EI hVI tVI fVI wVI EN hVN tVN fVN wVN (grpsI GI * (grpsN GN * F))) w) :
    Calls Tryz.prog 36 #[.pointer (some ⟨B, 0, none⟩)] w fun e w' => St w0 (BB B vi vim vn vnm hI tI fI wI hN tN fN wN EI hVI tVI fVI wVI EN hVN tVN fVN wVN (grpsI GI * (grpsN GN * F))) w' ∧ e = .returned (.bool true) := by
  obtain ⟨al, cl, rfl, _⟩ := h.rowForm vi
  obtain ⟨am, cm, rfl, _⟩ := h.rowForm vim
  have hlen : (eV EI).length = EI.length := by simp
  have hlenM : (eM EI).length = EI.length := by simp
  have cB := h.cl B
  refine F36.calls (by simp) ?_
  unfold F36.code
  simp -dsimp -implicitDefEqProofs (disch := omega) only [go_sem, reqD_of, dec_t, dec_f, wrap_i64, wrap_u32, wrap_u64, wrap_u8, cB]
  refine loop_intro (fun e w' => St w0 (BB B (.slice al EI.length cl) (.slice am EI.length cm) vn vnm hI tI fI wI hN tN fN wN EI hVI tVI fVI wVI EN hVN tVN fVN wVN (grpsI GI * (grpsN GN * F))) w' ∧ e.ds = [] ∧ e.ρ 0 = .pointer (some ⟨B, 0, none⟩) ∧ ∃ i : Nat, i ≤ EI.length ∧ e.ρ 3 = .int .i64 i)
    (fun e _ => match e.ρ 3 with | .int _ n => (EI.length - n).toNat | _ => 0) ?_ ?_
  · exact ⟨h, rfl, by simp -dsimp -implicitDefEqProofs only [go_sem], 0, by omega, rfl⟩
  · clear h cB
    rintro e1 w5 ⟨h5, hd, e0, i, hi, e5⟩
    have cB := h5.cl B
    by_cases hlt : (i : Int) < EI.length
    · have hiE : i < EI.length := by omega
      obtain ⟨bl, ol, rfl, hl⟩ := h5.at1 (a := al) (n := EI.length) (c := cl) (xs := eV EI) (k := i) (by omega)
      obtain ⟨bm, om, rfl, hm⟩ := h5.at1 (a := am) (n := EI.length) (c := cm) (xs := eM EI) (k := i) (by omega)
      simp only [eV, eM, List.getElem_map] at hl hm
      obtain ⟨g, hg, hgm, hgx⟩ := okI.gr EI[i] (List.getElem_mem hiE)
      obtain ⟨hxc, hxl⟩ := okI.ce EI[i] (List.getElem_mem hiE)
      rcases hx : EI[i] with ⟨xv, xn, xm⟩
      rw [hx] at hl hm hgm hgx hxc hxl
      simp only at hl hm hgm hgx hxc hxl
      subst hgm
      obtain ⟨ax, cx, rfl, _, _⟩ := grpI_at (g := g) (v := xv) (n := xn) hg hgx h5
      simp -dsimp -implicitDefEqProofs (disch := omega) only [go_sem, reqD_of, dec_t, dec_f, wrap_i64, wrap_u32, wrap_u64, wrap_u8, hd, e0, e5, hlt, hlen, cB]
      refine loop_intro (fun e w' => St w0 (BB B (.slice (some ⟨bl, ol, none⟩) EI.length cl) (.slice (some ⟨bm, om, none⟩) EI.length cm) vn vnm hI tI fI wI hN tN fN wN EI hVI tVI fVI wVI EN hVN tVN fVN wVN (grpsI GI * (grpsN GN * F))) w' ∧ e.ds = [] ∧ e.ρ 0 = .pointer (some ⟨B, 0, none⟩) ∧ e.ρ 3 = .int .i64 i ∧ ∃ k : Nat, k ≤ xn ∧ e.ρ 4 = .int .i64 k)
        (fun e _ => match e.ρ 4 with | .int _ n => (xn - n).toNat | _ => 0) ?_ ?_
      · exact ⟨h5, by simp -dsimp -implicitDefEqProofs only [go_sem, hd], by simp -dsimp -implicitDefEqProofs only [go_sem, e0], by simp -dsimp -implicitDefEqProofs only [go_sem, e5], 0, by omega, rfl⟩
      · clear cB hl hm
        rintro e2 w6 ⟨h6, hd2, e0', e5', k, hk, e6⟩
        have cB := h6.cl B
        have h7 := h6.drew
        have cB7 := h7.cl B
        have hl := h6.at1' (b := bl) (o := ol) (n := EI.length) (c := cl) (xs := eV EI) (k := i) (by omega)
        have hm := h6.at1' (b := bm) (o := om) (n := EI.length) (c := cm) (xs := eM EI) (k := i) (by omega)
        simp only [eV, eM, List.getElem_map, hx] at hl hm
        by_cases hkl : (k : Int) < xn
        · obtain ⟨ax', cx', hv, _, hcA⟩ := grpI_at (g := g) (v := .slice ax xn cx) (n := xn) hg hgx h6
          simp only [Value.slice.injEq, true_and] at hv
          obtain ⟨rfl, rfl⟩ := hv
          obtain ⟨bx, ox, rfl, hc⟩ := hcA k (by omega)
          have hl7 : w6.drew.cell? _ = _ := hl
          have hm7 : w6.drew.cell? _ = _ := hm
          have hc7 : w6.drew.cell? _ = _ := hc
          simp -dsimp -implicitDefEqProofs (disch := omega) only [go_sem, reqD_of, dec_t, dec_f, wrap_i64, wrap_u32, wrap_u64, wrap_u8, hd2, e0', e5', e6, hkl, hlt, cB, cB7, hl, hm, hc, hl7, hm7, hc7]
          exact ⟨⟨h7, k + 1, by omega, by omega⟩, by omega⟩
        · have : k = xn := by omega
          subst this
          simp -dsimp -implicitDefEqProofs (disch := omega) only [go_sem, reqD_of, dec_t, dec_f, wrap_i64, wrap_u32, wrap_u64, wrap_u8, hd2, e0', e5', e5, e6, hkl, hlt, cB, hl, hm]
          exact ⟨⟨h6, i + 1, by omega, by omega⟩, by omega⟩
    · have : i = EI.length := by omega
      subst this
      simp -dsimp -implicitDefEqProofs (disch := omega) only [go_sem, reqD_of, dec_t, dec_f, wrap_i64, wrap_u32, wrap_u64, wrap_u8, hd, e0, e5, hlt, cB, hlen]
      refine looks_9 okN hN' (by simp -dsimp -implicitDefEqProofs only [go_sem, hd]) (by simp -dsimp -implicitDefEqProofs only [go_sem, e0]) (h5.sub (B := BB B (.slice al EI.length cl) (.slice am EI.length cm) vn vnm hI tI fI wI hN tN fN wN EI hVI tVI fVI wVI EN hVN tVN fVN wVN (grpsN GN * (grpsI GI * F)))) fun w' hw => ⟨hw.sub, rfl⟩
end
end
end Go.Proofs.YtacmnfpgimgigaaGreat

namespace Go.Proofs.YtacmnfpgimgigaaGreat
open Go
set_option linter.unusedSimpArgs false
set_option linter.unusedVariables false
set_option maxRecDepth 100000

section
variable {w0 w : World} {F : HP} {B : Nat} {vi vim vn vnm hI tI fI wI hN tN fN wN : Value} {EI : EL} {hVI tVI fVI wVI : List Value} {EN : EL} {hVN tVN fVN wVN : List Value} {GI GN : GL} {R : Ending → World → Prop} {e : FA}

section
attribute [local go_sem] F35.t7_eq F35.t8_eq F35.t9_eq F35.t3_eq F35.t4_eq F35.t18_eq F35.t19_eq F35.t14_eq F35.t15_eq F35.t30_eq F35.t31_eq F35.t32_eq F35.t26_eq F35.t27_eq F35.t41_eq F35.t42_eq F35.t37_eq F35.t38_eq F35.t23_eq F35.t11_eq
theorem marks_34 {f : Nat} {vl vm : Value} {E1 : EL} {Gs : GL} {θ : Tag (F35.t34, fnP Tryz.prog #[] R, e, w)}
    (ok : EOk E1 Gs) (hf : f ≤ E1.length) (hE : E1.length + 40 * E1.length ≤ 10000000000 + 40 * f) (hNl : ∀ j (hj : j < E1.length), f ≤ j → E1[j].2.1 ≤ 1073741824)
    (hd : e.ds = []) (e0 : e.ρ 0 = .pointer (some ⟨B, 0, none⟩)) (e2 : e.ρ 2 = .int .i64 f)
    (h : St w0 (BB B vi vim vl vm hI tI fI wI hN tN fN wN EI hVI tVI fVI wVI E1 hVN tVN fVN wVN (grpsN Gs * F)) w)
    (hQ : ∀ (w' : World) (vl vm : Value) (E' : EL) (Gs' : GL), EOk E' Gs' → E'.length + 40 * f ≤ E1.length + 40 * E1.length → St w0 (BB B vi vim vl vm hI tI fI wI hN tN fN wN EI hVI tVI fVI wVI E' hVN tVN fVN wVN (grpsN Gs' * F)) w' → R (.returned (.tuple #[])) w') :
    cwE Tryz.prog F35.t34 (fnP Tryz.prog #[] R) e w θ := by
  obtain ⟨al, cl, rfl, _⟩ := h.rowForm vl
  have cB := h.cl B
  have hl0 : (eV E1).length = E1.length := by simp
  rw [F35.t34_eq]
  simp -dsimp -implicitDefEqProofs (disch := omega) only [go_sem, reqD_of, dec_t, dec_f, wrap_i64, wrap_u32, wrap_u64, wrap_u8, hd, e0, e2, cB]
  refine loop_intro (fun e w' => e.ds = [] ∧ e.ρ 0 = .pointer (some ⟨B, 0, none⟩) ∧ e.ρ 6 = .int .i64 E1.length ∧ ∃ (i : Nat) (vl vm : Value) (M : EL) (Gs' : GL), f ≤ i ∧ i ≤ E1.length ∧ e.ρ 13 = .int .i64 i ∧ EOk (E1 ++ M) Gs' ∧ M.length + 40 * f ≤ 40 * i ∧ St w0 (BB B vi vim vl vm hI tI fI wI hN tN fN wN EI hVI tVI fVI wVI (E1 ++ M) hVN tVN fVN wVN (grpsN Gs' * F)) w')
    (fun e _ => match e.ρ 13 with | .int _ n => (E1.length - n).toNat | _ => 0) ?_ ?_
  · exact ⟨by simp -dsimp -implicitDefEqProofs only [go_sem, hd], by simp -dsimp -implicitDefEqProofs only [go_sem, e0], by simp -dsimp -implicitDefEqProofs only [go_sem, hl0], f, _, _, [], Gs, by omega, hf, by simp -dsimp -implicitDefEqProofs only [go_sem, e2], by rw [List.append_nil]; exact ok, by simp, by rw [List.append_nil]; exact h⟩
  · clear cB h
    rintro e1 w1 ⟨hd, e0, e6, i, vl, vm, M, Gs', hfi, hi, e7, okM, hM, h1⟩
    have hL : (E1 ++ M).length = E1.length + M.length := by simp
    by_cases hlt : (i : Int) < E1.length
    · have hiE : i < E1.length := by omega
      have hiL : (i : Int) < ((E1 ++ M).length : Nat) := by omega
      obtain ⟨al, cl, rfl, _⟩ := h1.rowForm vl
      obtain ⟨bl, ol, rfl, hl⟩ := h1.at1 (a := al) (n := (E1 ++ M).length) (c := cl) (xs := eV (E1 ++ M)) (k := i) (by simp; omega)
      have hxi : (E1 ++ M)[i]'(by omega) = E1[i] := List.getElem_append_left hiE
      simp only [eV, List.getElem_map, hxi] at hl
      obtain ⟨g, hg, hgm, hgx⟩ := okM.gr E1[i] (by rw [← hxi]; exact List.getElem_mem _)
      obtain ⟨hxc, _⟩ := okM.ce E1[i] (by rw [← hxi]; exact List.getElem_mem _)
      have hxl := hNl i hiE hfi
      rcases hx : E1[i] with ⟨xv, xn, xm⟩
      rw [hx] at hl hgm hgx hxc hxl
      simp only at hl hgm hgx hxc hxl
      have cB := h1.cl B
      simp -dsimp -implicitDefEqProofs (disch := omega) only [go_sem, reqD_of, dec_t, dec_f, wrap_i64, wrap_u32, wrap_u64, wrap_u8, hd, e0, e6, e7, hlt, cB, hiL, hl]
      refine loop_intro (fun e w' => e.ds = [] ∧ e.ρ 0 = .pointer (some ⟨B, 0, none⟩) ∧ e.ρ 6 = .int .i64 E1.length ∧ e.ρ 13 = .int .i64 i ∧ ∃ (k : Nat) (vl vm gv : Value) (M : EL) (Gs' : GL) (g : Int × List (Value × Nat)), k ≤ 40 ∧ e.ρ 15 = .int .i64 k ∧ e.ρ 14 = gv ∧ g ∈ Gs' ∧ g.1 = xm ∧ (gv, xn + k) ∈ g.2 ∧ EOk (E1 ++ M) Gs' ∧ M.length + 40 * f ≤ 40 * i + k ∧ St w0 (BB B vi vim vl vm hI tI fI wI hN tN fN wN EI hVI tVI fVI wVI (E1 ++ M) hVN tVN fVN wVN (grpsN Gs' * F)) w')
        (fun e _ => match e.ρ 15 with | .int _ n => (40 - n).toNat | _ => 0) ?_ ?_
      · exact ⟨by simp -dsimp -implicitDefEqProofs only [go_sem, hd], by simp -dsimp -implicitDefEqProofs only [go_sem, e0], by simp -dsimp -implicitDefEqProofs only [go_sem, e6], by simp -dsimp -implicitDefEqProofs only [go_sem, e7], 0, _, _, _, M, Gs', g, by omega, rfl, rfl, hg, hgm, hgx, okM, by omega, h1⟩
      · clear cB hl hg hgm hgx h1 okM hM hxi hiL hL
        rintro e2 w2 ⟨hd2, e0', e6', e7', k, vl, vm, gv, M, Gs', g, hk, e9, e8, hg, hgm, hgx, okM, hM, h2⟩
        have hL : (E1 ++ M).length = E1.length + M.length := by simp
        have hiL : (i : Int) < ((E1 ++ M).length : Nat) := by omega
        have hlM : (eM (E1 ++ M)).length = (E1 ++ M).length := by simp
        by_cases hk40 : (k : Int) < 40
        · obtain ⟨am, cm, rfl, _⟩ := h2.rowForm vm
          obtain ⟨bm, om, rfl, hm⟩ := h2.at1 (a := am) (n := (E1 ++ M).length) (c := cm) (xs := eM (E1 ++ M)) (k := i) (by simp; omega)
          have hxi : (E1 ++ M)[i]'(by omega) = E1[i] := List.getElem_append_left hiE
          simp only [eM, List.getElem_map, hxi, hx] at hm
          have cB := h2.cl B
          simp -dsimp -implicitDefEqProofs (disch := omega) only [go_sem, reqD_of, dec_t, dec_f, wrap_i64, wrap_u32, wrap_u64, wrap_u8, hd2, e0', e6', e7', e8, e9, hk40, cB, hiL, hm]
          refine (need_any h2).mono ?_
          rintro e' w2n ⟨h2, rfl⟩
          have cB := h2.cl B
          have hm := h2.at1' (b := bm) (o := om) (n := (E1 ++ M).length) (c := cm) (xs := eM (E1 ++ M)) (k := i) (by simp; omega)
          simp only [eM, List.getElem_map, hxi, hx] at hm
          simp -dsimp -implicitDefEqProofs (disch := omega) only [go_sem, reqD_of, dec_t, dec_f, wrap_i64, wrap_u32, wrap_u64, wrap_u8, hd2, e0', e6', e7', e8, e9, hk40, cB, hiL, hm]
          refine h2.lit (n := 1) (cells := mkN xm) fact_rowTy_63 rfl (by decide) (by decide) fun v3 w3 h3 => ?_
          simp -dsimp -implicitDefEqProofs (disch := omega) only [go_sem, reqD_of, dec_t, dec_f, wrap_i64, wrap_u32, wrap_u64, wrap_u8, hd2, e0', e6', e7', e8, e9]
          subst hgm
          refine h3.appMarkG (T := 42) (s := 4) (mk := mkN) (g := g) (v := gv) (n := xn + k) mkN_length mkN_cells (by decide) hg hgx fact_rowTy_63 ((Ent.left _ _).trans (RowO.reads _ _ _ _ _)) Tryz.underlying63 (by simp only [Go.maxLen]; omega) (by omega) fun v4 w4 Gs4 hG hg4 hc4 h4 => ?_
          obtain ⟨a4, c4, rfl⟩ := hc4
          have okM4 := okM.mono hG
          have h4' : St w0 (BB B vi vim vl (.slice (some ⟨bm, om, none⟩) (E1 ++ M).length cm) hI tI fI wI hN tN fN wN EI hVI tVI fVI wVI (E1 ++ M) hVN tVN fVN wVN (grpsN Gs4 * F)) w4 := h4.sub
          by_cases hkc : (k : Int) = 0 ∨ (k : Int) = 3 ∨ (k : Int) = 15 ∨ (k : Int) = 39
          · obtain ⟨g4, hg4, hgm4, hgx4⟩ := hg4
            have okX := okM4.snoc (m := g.1) ⟨g4, hg4, hgm4, hgx4⟩ rfl (by omega)
            obtain ⟨al, cl, rfl, _⟩ := h4'.rowForm vl
            have fin : ∀ w9 v6 v8, St w0 (BB B vi vim v6 v8 hI tI fI wI hN tN fN wN EI hVI tVI fVI wVI (E1 ++ (M ++ [((.slice a4 (xn + k + 1) c4 : Value), xn + k + 1, g.1)])) hVN tVN fVN wVN (grpsN Gs4 * F)) w9 → ∃ (k' : Nat) (vl vm gv : Value) (M' : EL) (Gs' : GL) (g_1 : Int × List (Value × Nat)), k' ≤ 40 ∧ (k : Int) + 1 = k' ∧ (.slice a4 (xn + k + 1) c4 : Value) = gv ∧ g_1 ∈ Gs' ∧ g_1.1 = g.1 ∧ (gv, xn + k') ∈ g_1.2 ∧ EOk (E1 ++ M') Gs' ∧ M'.length + 40 * f ≤ 40 * i + k' ∧ St w0 (BB B vi vim vl vm hI tI fI wI hN tN fN wN EI hVI tVI fVI wVI (E1 ++ M') hVN tVN fVN wVN (grpsN Gs' * F)) w9 := fun w9 v6 v8 h9 =>
              ⟨k + 1, v6, v8, .slice a4 (xn + k + 1) c4, M ++ [((.slice a4 (xn + k + 1) c4 : Value), xn + k + 1, g.1)], Gs4, g4, by omega, by omega, rfl, hg4, hgm4, hgx4, by rw [← List.append_assoc]; exact okX, by simp only [List.length_append, List.length_cons, List.length_nil]; omega, h9⟩
            have cB4 := h4'.cl B
            rcases hkc with hkc | hkc | hkc | hkc
            all_goals
              simp -dsimp -implicitDefEqProofs (disch := omega) only [go_sem, reqD_of, dec_t, dec_f, wrap_i64, wrap_u32, wrap_u64, wrap_u8, hd2, e0', e6', e7', e8, e9, hkc, cB4]
              refine h4'.lit (n := 1) (cells := [.slice a4 (xn + k + 1) c4]) fact_rowTy_33 rfl (by decide) (by decide) fun v5 w5 h5 => ?_
              have cB5 := h5.cl B
              simp -dsimp -implicitDefEqProofs (disch := omega) only [go_sem, reqD_of, dec_t, dec_f, wrap_i64, wrap_u32, wrap_u64, wrap_u8, hd2, e0', e6', e7', e8, e9, cB5]
              refine h5.app (v := .slice al (E1 ++ M).length cl) fact_rowTy_33 ((Ent.left _ _).trans (RowO.reads _ _ _ _ _)) Tryz.underlying33 (by intro u hu; simp only [List.mem_singleton] at hu; subst hu; rfl) (fun h => by simp at h) (by simp only [Go.maxLen]; omega) (by omega) fun v6 w6 h6 => ?_
              obtain ⟨a6, c6, rfl, _⟩ := h6.rowForm v6
              have cB6 := h6.cl B
              simp -dsimp -implicitDefEqProofs (disch := omega) only [go_sem, reqD_of, dec_t, dec_f, wrap_i64, wrap_u32, wrap_u64, wrap_u8, hd2, e0', e6', e7', e8, e9, cB6]
              refine h6.sto (b := B) (off := 2) (by simp) rfl fun w7 h7 => ?_
              simp only [List.setIfInBounds_toArray, List.set_cons_succ, List.set_cons_zero] at h7
              have cB7 := h7.cl B
              have h7' := h7.drew
              have cB7' := h7'.cl B
              have hm7 := h7.at1' (b := bm) (o := om) (n := (E1 ++ M).length) (c := cm) (xs := eM (E1 ++ M)) (k := i) (by simp; omega)
              simp only [eM, List.getElem_map, hxi, hx] at hm7
              have hm7' : w7.drew.cell? _ = _ := hm7
              simp -dsimp -implicitDefEqProofs (disch := omega) only [go_sem, reqD_of, dec_t, dec_f, wrap_i64, wrap_u32, wrap_u64, wrap_u8, hd2, e0', e6', e7', e8, e9, cB7, cB7', hiL, hm7, hm7']
              refine h7'.lit (n := 1) (cells := [.int .i64 g.1]) fact_rowTy_32 rfl (by decide) (by decide) fun v8 w8 h8 => ?_
              have cB8 := h8.cl B
              have hm8 := h8.at1' (b := bm) (o := om) (n := (E1 ++ M).length) (c := cm) (xs := eM (E1 ++ M)) (k := i) (by simp; omega)
              simp only [eM, List.getElem_map, hxi, hx] at hm8
              simp -dsimp -implicitDefEqProofs (disch := omega) only [go_sem, reqD_of, dec_t, dec_f, wrap_i64, wrap_u32, wrap_u64, wrap_u8, hd2, e0', e6', e7', e8, e9, cB8, hiL, hm8]
              refine h8.app (v := .slice (some ⟨bm, om, none⟩) (E1 ++ M).length cm) fact_rowTy_32 ((Ent.left _ _).trans (RowO.reads _ _ _ _ _)) Tryz.underlying32 (by intro u hu; simp only [List.mem_singleton] at hu; subst hu; rfl) (fun h => by simp at h) (by simp only [Go.maxLen]; omega) (by omega) fun v9 w9 h9 => ?_
              obtain ⟨a9, c9, rfl, _⟩ := h9.rowForm v9
              have cB9 := h9.cl B
              simp -dsimp -implicitDefEqProofs (disch := omega) only [go_sem, reqD_of, dec_t, dec_f, wrap_i64, wrap_u32, wrap_u64, wrap_u8, hd2, e0', e6', e7', e8, e9, cB9]
              refine h9.sto (b := B) (off := 3) (by simp) rfl fun w10 h10 => ?_
              simp only [List.setIfInBounds_toArray, List.set_cons_succ, List.set_cons_zero] at h10
              simp -dsimp -implicitDefEqProofs (disch := omega) only [go_sem, reqD_of, dec_t, dec_f, wrap_i64, wrap_u32, wrap_u64, wrap_u8, hd2, e0', e6', e7', e8, e9]
              rw [(EL.rows E1 M (.slice a4 (xn + k + 1) c4) (xn + k + 1) g.1 (.slice a6 ((E1 ++ M).length + 1) c6) _).1, (EL.rows E1 M (.slice a4 (xn + k + 1) c4) (xn + k + 1) g.1 (.slice a9 ((E1 ++ M).length + 1) c9) _).2] at h10
              exact ⟨fin w10 (.slice a6 ((E1 ++ M).length + 1) c6) (.slice a9 ((E1 ++ M).length + 1) c9) h10.sub, by omega⟩
          · simp only [not_or] at hkc
            obtain ⟨hk0, hk3, hk15, hk39⟩ := hkc
            obtain ⟨g4, hg4, hgm4, hgx4⟩ := hg4
            simp -dsimp -implicitDefEqProofs (disch := omega) only [go_sem, reqD_of, dec_t, dec_f, wrap_i64, wrap_u32, wrap_u64, wrap_u8, hd2, e0', e6', e7', e8, e9, hk0, hk3, hk15, hk39]
            exact ⟨⟨k + 1, vl, _, .slice a4 (xn + k + 1) c4, M, Gs4, g4, by omega, by omega, rfl, hg4, hgm4, hgx4, okM4, by omega, h4'⟩, by omega⟩
        · have : k = 40 := by omega
          subst this
          simp -dsimp -implicitDefEqProofs (disch := omega) only [go_sem, reqD_of, dec_t, dec_f, wrap_i64, wrap_u32, wrap_u64, wrap_u8, hd2, e0', e6', e7', e7, e8, e9]
          exact ⟨⟨i + 1, vl, vm, M, Gs', by omega, by omega, by omega, okM, by omega, h2⟩, by omega⟩
    · have : i = E1.length := by omega
      subst this
      simp -dsimp -implicitDefEqProofs (disch := omega) only [go_sem, reqD_of, dec_t, dec_f, wrap_i64, wrap_u32, wrap_u64, wrap_u8, hd, e0, e6, e7, hlt]
      exact hQ _ _ _ _ _ okM (by omega) h1

end
section
attribute [local go_sem] F35.t7_eq F35.t8_eq F35.t9_eq F35.t3_eq F35.t4_eq F35.t18_eq F35.t19_eq F35.t14_eq F35.t15_eq F35.t30_eq F35.t31_eq F35.t32_eq F35.t26_eq F35.t27_eq F35.t41_eq F35.t42_eq F35.t37_eq F35.t38_eq F35.t34_eq
theorem marks_11 {f : Nat} {vl vm : Value} {E1 : EL} {Gs : GL} {θ : Tag (F35.t11, fnP Tryz.prog #[] R, e, w)}
    (ok : EOk E1 Gs) (hf : f ≤ E1.length) (hE : E1.length + 40 * E1.length ≤ 10000000000 + 40 * f) (hNl : ∀ j (hj : j < E1.length), f ≤ j → E1[j].2.1 ≤ 1073741824)
    (hd : e.ds = []) (e0 : e.ρ 0 = .pointer (some ⟨B, 0, none⟩)) (e2 : e.ρ 2 = .int .i64 f)
    (h : St w0 (BB B vl vm vn vnm hI tI fI wI hN tN fN wN E1 hVI tVI fVI wVI EN hVN tVN fVN wVN (grpsI Gs * F)) w)
    (hQ : ∀ (w' : World) (e' : FA) (vl vm : Value) (E' : EL) (Gs' : GL), e'.ds = [] → e'.ρ 0 = .pointer (some ⟨B, 0, none⟩) → EOk E' Gs' → E'.length + 40 * f ≤ E1.length + 40 * E1.length → St w0 (BB B vl vm vn vnm hI tI fI wI hN tN fN wN E' hVI tVI fVI wVI EN hVN tVN fVN wVN (grpsI Gs' * F)) w' → ∀ θ', cwE Tryz.prog F35.t23 (fnP Tryz.prog #[] R) e' w' θ') :
    cwE Tryz.prog F35.t11 (fnP Tryz.prog #[] R) e w θ := by
  obtain ⟨al, cl, rfl, _⟩ := h.rowForm vl
  have cB := h.cl B
  have hl0 : (eV E1).length = E1.length := by simp
  rw [F35.t11_eq]
  simp -dsimp -implicitDefEqProofs (disch := omega) only [go_sem, reqD_of, dec_t, dec_f, wrap_i64, wrap_u32, wrap_u64, wrap_u8, hd, e0, e2, cB]
  refine loop_intro (fun e w' => e.ds = [] ∧ e.ρ 0 = .pointer (some ⟨B, 0, none⟩) ∧ e.ρ 6 = .int .i64 E1.length ∧ ∃ (i : Nat) (vl vm : Value) (M : EL) (Gs' : GL), f ≤ i ∧ i ≤ E1.length ∧ e.ρ 7 = .int .i64 i ∧ EOk (E1 ++ M) Gs' ∧ M.length + 40 * f ≤ 40 * i ∧ St w0 (BB B vl vm vn vnm hI tI fI wI hN tN fN wN (E1 ++ M) hVI tVI fVI wVI EN hVN tVN fVN wVN (grpsI Gs' * F)) w')
    (fun e _ => match e.ρ 7 with | .int _ n => (E1.length - n).toNat | _ => 0) ?_ ?_
  · exact ⟨by simp -dsimp -implicitDefEqProofs only [go_sem, hd], by simp -dsimp -implicitDefEqProofs only [go_sem, e0], by simp -dsimp -implicitDefEqProofs only [go_sem, hl0], f, _, _, [], Gs, by omega, hf, by simp -dsimp -implicitDefEqProofs only [go_sem, e2], by rw [List.append_nil]; exact ok, by simp, by rw [List.append_nil]; exact h⟩
  · clear cB h
    rintro e1 w1 ⟨hd, e0, e6, i, vl, vm, M, Gs', hfi, hi, e7, okM, hM, h1⟩
    have hL : (E1 ++ M).length = E1.length + M.length := by simp
    by_cases hlt : (i : Int) < E1.length
    · have hiE : i < E1.length := by omega
      have hiL : (i : Int) < ((E1 ++ M).length : Nat) := by omega
      obtain ⟨al, cl, rfl, _⟩ := h1.rowForm vl
      obtain ⟨bl, ol, rfl, hl⟩ := h1.at1 (a := al) (n := (E1 ++ M).length) (c := cl) (xs := eV (E1 ++ M)) (k := i) (by simp; omega)
      have hxi : (E1 ++ M)[i]'(by omega) = E1[i] := List.getElem_append_left hiE
      simp only [eV, List.getElem_map, hxi] at hl
      obtain ⟨g, hg, hgm, hgx⟩ := okM.gr E1[i] (by rw [← hxi]; exact List.getElem_mem _)
      obtain ⟨hxc, _⟩ := okM.ce E1[i] (by rw [← hxi]; exact List.getElem_mem _)
      have hxl := hNl i hiE hfi
      rcases hx : E1[i] with ⟨xv, xn, xm⟩
      rw [hx] at hl hgm hgx hxc hxl
      simp only at hl hgm hgx hxc hxl
      have cB := h1.cl B
      simp -dsimp -implicitDefEqProofs (disch := omega) only [go_sem, reqD_of, dec_t, dec_f, wrap_i64, wrap_u32, wrap_u64, wrap_u8, hd, e0, e6, e7, hlt, cB, hiL, hl]
      refine loop_intro (fun e w' => e.ds = [] ∧ e.ρ 0 = .pointer (some ⟨B, 0, none⟩) ∧ e.ρ 6 = .int .i64 E1.length ∧ e.ρ 7 = .int .i64 i ∧ ∃ (k : Nat) (vl vm gv : Value) (M : EL) (Gs' : GL) (g : Int × List (Value × Nat)), k ≤ 40 ∧ e.ρ 9 = .int .i64 k ∧ e.ρ 8 = gv ∧ g ∈ Gs' ∧ g.1 = xm ∧ (gv, xn + k) ∈ g.2 ∧ EOk (E1 ++ M) Gs' ∧ M.length + 40 * f ≤ 40 * i + k ∧ St w0 (BB B vl vm vn vnm hI tI fI wI hN tN fN wN (E1 ++ M) hVI tVI fVI wVI EN hVN tVN fVN wVN (grpsI Gs' * F)) w')
        (fun e _ => match e.ρ 9 with | .int _ n => (40 - n).toNat | _ => 0) ?_ ?_
      · exact ⟨by simp -dsimp -implicitDefEqProofs only [go_sem, hd], by simp -dsimp -implicitDefEqProofs only [go_sem, e0], by simp -dsimp -implicitDefEqProofs only [go_sem, e6], by simp -dsimp -implicitDefEqProofs only [go_sem, e7], 0, _, _, _, M, Gs', g, by omega, rfl, rfl, hg, hgm, hgx, okM, by omega, h1⟩
      · clear cB hl hg hgm hgx h1 okM hM hxi hiL hL
        rintro e2 w2 ⟨hd2, e0', e6', e7', k, vl, vm, gv, M, Gs', g, hk, e9, e8, hg, hgm, hgx, okM, hM, h2⟩
        have hL : (E1 ++ M).length = E1.length + M.length := by simp
        have hiL : (i : Int) < ((E1 ++ M).length : Nat) := by omega
        have hlM : (eM (E1 ++ M)).length = (E1 ++ M).length := by simp
        by_cases hk40 : (k : Int) < 40
        · obtain ⟨am, cm, rfl, _⟩ := h2.rowForm vm
          obtain ⟨bm, om, rfl, hm⟩ := h2.at1 (a := am) (n := (E1 ++ M).length) (c := cm) (xs := eM (E1 ++ M)) (k := i) (by simp; omega)
          have hxi : (E1 ++ M)[i]'(by omega) = E1[i] := List.getElem_append_left hiE
          simp only [eM, List.getElem_map, hxi, hx] at hm
          have cB := h2.cl B
          simp -dsimp -implicitDefEqProofs (disch := omega) only [go_sem, reqD_of, dec_t, dec_f, wrap_i64, wrap_u32, wrap_u64, wrap_u8, hd2, e0', e6', e7', e8, e9, hk40, cB, hiL, hm]
          refine h2.lit (n := 1) (cells := mkI xm) fact_rowTy_32 rfl (by decide) (by decide) fun v3 w3 h3 => ?_
          simp -dsimp -implicitDefEqProofs (disch := omega) only [go_sem, reqD_of, dec_t, dec_f, wrap_i64, wrap_u32, wrap_u64, wrap_u8, hd2, e0', e6', e7', e8, e9]
          subst hgm
          refine h3.appMarkG (T := 3) (s := 1) (mk := mkI) (g := g) (v := gv) (n := xn + k) mkI_length mkI_cells (by decide) hg hgx fact_rowTy_32 ((Ent.left _ _).trans (RowO.reads _ _ _ _ _)) Tryz.underlying32 (by simp only [Go.maxLen]; omega) (by omega) fun v4 w4 Gs4 hG hg4 hc4 h4 => ?_
          obtain ⟨a4, c4, rfl⟩ := hc4
          have okM4 := okM.mono hG
          have h4' : St w0 (BB B vl (.slice (some ⟨bm, om, none⟩) (E1 ++ M).length cm) vn vnm hI tI fI wI hN tN fN wN (E1 ++ M) hVI tVI fVI wVI EN hVN tVN fVN wVN (grpsI Gs4 * F)) w4 := h4.sub
          by_cases hkc : (k : Int) = 0 ∨ (k : Int) = 3 ∨ (k : Int) = 15 ∨ (k : Int) = 39
          · obtain ⟨g4, hg4, hgm4, hgx4⟩ := hg4
            have okX := okM4.snoc (m := g.1) ⟨g4, hg4, hgm4, hgx4⟩ rfl (by omega)
            obtain ⟨al, cl, rfl, _⟩ := h4'.rowForm vl
            have fin : ∀ w9 v6 v8, St w0 (BB B v6 v8 vn vnm hI tI fI wI hN tN fN wN (E1 ++ (M ++ [((.slice a4 (xn + k + 1) c4 : Value), xn + k + 1, g.1)])) hVI tVI fVI wVI EN hVN tVN fVN wVN (grpsI Gs4 * F)) w9 → ∃ (k' : Nat) (vl vm gv : Value) (M' : EL) (Gs' : GL) (g_1 : Int × List (Value × Nat)), k' ≤ 40 ∧ (k : Int) + 1 = k' ∧ (.slice a4 (xn + k + 1) c4 : Value) = gv ∧ g_1 ∈ Gs' ∧ g_1.1 = g.1 ∧ (gv, xn + k') ∈ g_1.2 ∧ EOk (E1 ++ M') Gs' ∧ M'.length + 40 * f ≤ 40 * i + k' ∧ St w0 (BB B vl vm vn vnm hI tI fI wI hN tN fN wN (E1 ++ M') hVI tVI fVI wVI EN hVN tVN fVN wVN (grpsI Gs' * F)) w9 := fun w9 v6 v8 h9 =>
              ⟨k + 1, v6, v8, .slice a4 (xn + k + 1) c4, M ++ [((.slice a4 (xn + k + 1) c4 : Value), xn + k + 1, g.1)], Gs4, g4, by omega, by omega, rfl, hg4, hgm4, hgx4, by rw [← List.append_assoc]; exact okX, by simp only [List.length_append, List.length_cons, List.length_nil]; omega, h9⟩
            have cB4 := h4'.cl B
            rcases hkc with hkc | hkc | hkc | hkc
            all_goals
              simp -dsimp -implicitDefEqProofs (disch := omega) only [go_sem, reqD_of, dec_t, dec_f, wrap_i64, wrap_u32, wrap_u64, wrap_u8, hd2, e0', e6', e7', e8, e9, hkc, cB4]
              refine h4'.lit (n := 1) (cells := [.slice a4 (xn + k + 1) c4]) fact_rowTy_31 rfl (by decide) (by decide) fun v5 w5 h5 => ?_
              have cB5 := h5.cl B
              simp -dsimp -implicitDefEqProofs (disch := omega) only [go_sem, reqD_of, dec_t, dec_f, wrap_i64, wrap_u32, wrap_u64, wrap_u8, hd2, e0', e6', e7', e8, e9, cB5]
              refine h5.app (v := .slice al (E1 ++ M).length cl) fact_rowTy_31 ((Ent.left _ _).trans (RowO.reads _ _ _ _ _)) Tryz.underlying31 (by intro u hu; simp only [List.mem_singleton] at hu; subst hu; rfl) (fun h => by simp at h) (by simp only [Go.maxLen]; omega) (by omega) fun v6 w6 h6 => ?_
              obtain ⟨a6, c6, rfl, _⟩ := h6.rowForm v6
              have cB6 := h6.cl B
              simp -dsimp -implicitDefEqProofs (disch := omega) only [go_sem, reqD_of, dec_t, dec_f, wrap_i64, wrap_u32, wrap_u64, wrap_u8, hd2, e0', e6', e7', e8, e9, cB6]
              refine h6.sto (b := B) (off := 0) (by simp) rfl fun w7 h7 => ?_
              simp only [List.setIfInBounds_toArray, List.set_cons_succ, List.set_cons_zero] at h7
              have cB7 := h7.cl B
              have h7' := h7.drew
              have cB7' := h7'.cl B
              have hm7 := h7.at1' (b := bm) (o := om) (n := (E1 ++ M).length) (c := cm) (xs := eM (E1 ++ M)) (k := i) (by simp; omega)
              simp only [eM, List.getElem_map, hxi, hx] at hm7
              have hm7' : w7.drew.cell? _ = _ := hm7
              simp -dsimp -implicitDefEqProofs (disch := omega) only [go_sem, reqD_of, dec_t, dec_f, wrap_i64, wrap_u32, wrap_u64, wrap_u8, hd2, e0', e6', e7', e8, e9, cB7, cB7', hiL, hm7, hm7']
              refine h7'.lit (n := 1) (cells := [.int .i64 g.1]) fact_rowTy_32 rfl (by decide) (by decide) fun v8 w8 h8 => ?_
              have cB8 := h8.cl B
              have hm8 := h8.at1' (b := bm) (o := om) (n := (E1 ++ M).length) (c := cm) (xs := eM (E1 ++ M)) (k := i) (by simp; omega)
              simp only [eM, List.getElem_map, hxi, hx] at hm8
              simp -dsimp -implicitDefEqProofs (disch := omega) only [go_sem, reqD_of, dec_t, dec_f, wrap_i64, wrap_u32, wrap_u64, wrap_u8, hd2, e0', e6', e7', e8, e9, cB8, hiL, hm8]
              refine h8.app (v := .slice (some ⟨bm, om, none⟩) (E1 ++ M).length cm) fact_rowTy_32 ((Ent.left _ _).trans (RowO.reads _ _ _ _ _)) Tryz.underlying32 (by intro u hu; simp only [List.mem_singleton] at hu; subst hu; rfl) (fun h => by simp at h) (by simp only [Go.maxLen]; omega) (by omega) fun v9 w9 h9 => ?_
              obtain ⟨a9, c9, rfl, _⟩ := h9.rowForm v9
              have cB9 := h9.cl B
              simp -dsimp -implicitDefEqProofs (disch := omega) only [go_sem, reqD_of, dec_t, dec_f, wrap_i64, wrap_u32, wrap_u64, wrap_u8, hd2, e0', e6', e7', e8, e9, cB9]
              refine h9.sto (b := B) (off := 1) (by simp) rfl fun w10 h10 => ?_
              simp only [List.setIfInBounds_toArray, List.set_cons_succ, List.set_cons_zero] at h10
              simp -dsimp -implicitDefEqProofs (disch := omega) only [go_sem, reqD_of, dec_t, dec_f, wrap_i64, wrap_u32, wrap_u64, wrap_u8, hd2, e0', e6', e7', e8, e9]
              rw [(EL.rows E1 M (.slice a4 (xn + k + 1) c4) (xn + k + 1) g.1 (.slice a6 ((E1 ++ M).length + 1) c6) _).1, (EL.rows E1 M (.slice a4 (xn + k + 1) c4) (xn + k + 1) g.1 (.slice a9 ((E1 ++ M).length + 1) c9) _).2] at h10
              exact ⟨fin w10 (.slice a6 ((E1 ++ M).length + 1) c6) (.slice a9 ((E1 ++ M).length + 1) c9) h10.sub, by omega⟩
          · simp only [not_or] at hkc
            obtain ⟨hk0, hk3, hk15, hk39⟩ := hkc
            obtain ⟨g4, hg4, hgm4, hgx4⟩ := hg4
            simp -dsimp -implicitDefEqProofs (disch := omega) only [go_sem, reqD_of, dec_t, dec_f, wrap_i64, wrap_u32, wrap_u64, wrap_u8, hd2, e0', e6', e7', e8, e9, hk0, hk3, hk15, hk39]
            exact ⟨⟨k + 1, vl, _, .slice a4 (xn + k + 1) c4, M, Gs4, g4, by omega, by omega, rfl, hg4, hgm4, hgx4, okM4, by omega, h4'⟩, by omega⟩
        · have : k = 40 := by omega
          subst this
          simp -dsimp -implicitDefEqProofs (disch := omega) only [go_sem, reqD_of, dec_t, dec_f, wrap_i64, wrap_u32, wrap_u64, wrap_u8, hd2, e0', e6', e7', e7, e8, e9]
          exact ⟨⟨i + 1, vl, vm, M, Gs', by omega, by omega, by omega, okM, by omega, h2⟩, by omega⟩
    · have : i = E1.length := by omega
      subst this
      simp -dsimp -implicitDefEqProofs (disch := omega) only [go_sem, reqD_of, dec_t, dec_f, wrap_i64, wrap_u32, wrap_u64, wrap_u8, hd, e0, e6, e7, hlt]
      exact hQ _ _ _ _ _ _ (by simp -dsimp -implicitDefEqProofs only [go_sem, hd]) (by simp -dsimp -implicitDefEqProofs only [go_sem, e0]) okM (by omega) h1 _
end
end
end Go.Proofs.YtacmnfpgimgigaaGreat
