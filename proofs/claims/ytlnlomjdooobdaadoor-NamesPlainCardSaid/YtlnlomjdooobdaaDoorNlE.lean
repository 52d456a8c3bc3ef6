/- The law of patterns: what two patterns take, one behind the other, the joined pattern takes. -/
import Derived.Test.YtlnlomjdooobdaaDoorNaO
import Derived.Test.YtlnlomjdooobdaaDoorNlD
namespace Go.Proofs.YtlnlomjdooobdaaDoor
open Go
set_option linter.unusedVariables false
set_option linter.unusedSimpArgs false

/-! ### The run of a pattern -/

def rowAt (ps : List Pc) (j : Nat) : Bool := (ps[j]?.map (·.1)).getD false
def Cl (ps : List Pc) (i k : Nat) : Prop := i ≤ k ∧ ∀ j, i ≤ j → j < k → rowAt ps j = true
theorem rowAt_lt {ps : List Pc} {j : Nat} (h : rowAt ps j = true) : j < ps.length := by
  unfold rowAt at h
  rcases Nat.lt_or_ge j ps.length with h1 | h1
  · exact h1
  · rw [List.getElem?_eq_none h1] at h; cases h
theorem Cl.self (ps : List Pc) (i : Nat) : Cl ps i i := ⟨Nat.le_refl _, fun j h1 h2 => by omega⟩
theorem Cl.next {ps : List Pc} {i k : Nat} (h : Cl ps i k) (hr : rowAt ps k = true) : Cl ps i (k + 1) := ⟨by have := h.1; omega, fun j h1 h2 => by
  by_cases e : j = k
  · rw [e]; exact hr
  · exact h.2 j h1 (by omega)⟩
theorem getD_set (a : List Bool) (i k : Nat) (hk : k < a.length) : (a.set i true).getD k false = true ↔ (a.getD k false = true ∨ i = k) := by
  simp only [List.getD_eq_getElem?_getD, List.getElem?_set]
  by_cases e : i = k
  · subst e; simp [hk]
  · simp [e]
theorem begF_get : ∀ (n : Nat) (ps : List Pc) (a : List Bool) (i k : Nat), k < a.length → ps.length - i ≤ n → ((begF n ps a i).getD k false = true ↔ (a.getD k false = true ∨ Cl ps i k))
  | 0, ps, a, i, k, hk, hn => by
    rw [begF, getD_set _ _ _ hk]
    refine or_congr Iff.rfl ⟨fun h => h ▸ Cl.self ps i, fun h => ?_⟩
    rcases Nat.lt_or_ge i k with h1 | h1
    · have := rowAt_lt (h.2 i (Nat.le_refl _) h1); omega
    · have := h.1; omega
  | n + 1, ps, a, i, k, hk, hn => by
    unfold begF
    by_cases hr : rowAt ps i = true
    · rw [if_pos (show ((ps[i]?.map (·.1)).getD false) = true from hr), begF_get n ps _ _ k (by simpa using hk) (by omega), getD_set _ _ _ hk, or_assoc]
      refine or_congr Iff.rfl ⟨fun h => ?_, fun h => ?_⟩
      · rcases h with h | h
        · exact h ▸ Cl.self ps i
        · exact ⟨by have := h.1; omega, fun j h1 h2 => by
            by_cases e : j = i
            · rw [e]; exact hr
            · exact h.2 j (by omega) h2⟩
      · rcases Nat.lt_or_ge i k with h1 | h1
        · exact .inr ⟨h1, fun j h2 h3 => h.2 j (by omega) h3⟩
        · exact .inl (by have := h.1; omega)
    · rw [if_neg (show ¬ ((ps[i]?.map (·.1)).getD false) = true from hr), getD_set _ _ _ hk]
      refine or_congr Iff.rfl ⟨fun h => h ▸ Cl.self ps i, fun h => ?_⟩
      rcases Nat.lt_or_ge i k with h1 | h1
      · exact absurd (h.2 i (Nat.le_refl _) h1) hr
      · have := h.1; omega
theorem beg_get {ps : List Pc} {a : List Bool} {i k : Nat} (hk : k < a.length) : (beg ps a i).getD k false = true ↔ (a.getD k false = true ∨ Cl ps i k) := begF_get _ _ _ _ _ hk (Nat.le_refl _)
/-- What a piece at a place leads to. -/
def Lead (ps : List Pc) (p : Pc) (c j k : Nat) : Prop := (p.1 = true ∧ Cl ps j k) ∨ (p.1 = false ∧ takesF p c = true ∧ Cl ps (j + 1) k)
theorem stepL_get (ps : List Pc) (was : List Bool) (c : Nat) : ∀ (l : List Pc) (i : Nat) (acc : List Bool) (k : Nat), k < acc.length →
    ((stepL ps was c l i acc).getD k false = true ↔ (acc.getD k false = true ∨ ∃ j p, l[j]? = some p ∧ was.getD (i + j) false = true ∧ Lead ps p c (i + j) k))
  | [], i, acc, k, hk => by simp [stepL]
  | p :: l, i, acc, k, hk => by
    unfold stepL
    have hlen : k < (if was.getD i false = true then (if p.1 = true then beg ps acc i else if takesF p c = true then beg ps acc (i + 1) else acc) else acc).length := by
      split
      · split
        · rw [beg_length]; exact hk
        · split
          · rw [beg_length]; exact hk
          · exact hk
      · exact hk
    rw [stepL_get ps was c l (i + 1) _ k hlen]
    have h0 : ((if was.getD i false = true then (if p.1 = true then beg ps acc i else if takesF p c = true then beg ps acc (i + 1) else acc) else acc).getD k false = true ↔
        (acc.getD k false = true ∨ (was.getD i false = true ∧ Lead ps p c i k))) := by
      unfold Lead
      cases was.getD i false
      · simp
      · cases p.1
        · cases takesF p c
          · simp
          · simp only [if_true, Bool.false_eq_true, if_false, beg_get hk]
            simp
        · simp only [if_true, beg_get hk]
          simp
    rw [h0, or_assoc]
    refine or_congr Iff.rfl ⟨fun h => ?_, fun ⟨j, q, h1, h2, h3⟩ => ?_⟩
    · rcases h with ⟨h1, h2⟩ | ⟨j, q, h1, h2, h3⟩
      · exact ⟨0, p, rfl, h1, h2⟩
      · exact ⟨j + 1, q, by simpa using h1, by rw [show i + (j + 1) = i + 1 + j by omega]; exact h2, by rw [show i + (j + 1) = i + 1 + j by omega]; exact h3⟩
    · cases j with
      | zero => simp at h1; subst h1; exact .inl ⟨h2, h3⟩
      | succ j => exact .inr ⟨j, q, by simpa using h1, by rw [show i + 1 + j = i + (j + 1) by omega]; exact h2, by rw [show i + 1 + j = i + (j + 1) by omega]; exact h3⟩
theorem stepM_get (ps : List Pc) (was : List Bool) (c k : Nat) (hk : k ≤ ps.length) : (stepM ps was c).getD k false = true ↔ ∃ j p, ps[j]? = some p ∧ was.getD j false = true ∧ Lead ps p c j k := by
  unfold stepM
  rw [stepL_get ps was c ps 0 _ k (by simp; omega)]
  have : (List.replicate (ps.length + 1) false).getD k false = false := by simp [List.getD, List.getElem?_replicate]; split <;> rfl
  rw [this]
  simp

/-! ### One pattern within another -/

def Seg (d : Nat) (ps ps' : List Pc) : Prop := ∀ j p, ps[j]? = some p → ps'[d + j]? = some p
theorem Seg.len {d : Nat} {ps ps' : List Pc} (h : Seg d ps ps') (hd : d ≤ ps'.length) : d + ps.length ≤ ps'.length := by
  rcases Nat.eq_zero_or_pos ps.length with h0 | h0
  · omega
  · have := h (ps.length - 1) _ (List.getElem?_eq_getElem (by omega))
    have := (List.getElem?_eq_some_iff.1 this).1
    omega
theorem Seg.cl {d : Nat} {ps ps' : List Pc} (h : Seg d ps ps') {i k : Nat} (c : Cl ps i k) : Cl ps' (d + i) (d + k) := by
  refine ⟨by have := c.1; omega, fun j h1 h2 => ?_⟩
  have hr := c.2 (j - d) (by omega) (by omega)
  have hl := rowAt_lt hr
  have := h (j - d) _ (List.getElem?_eq_getElem hl)
  rw [show d + (j - d) = j by omega] at this
  simp only [rowAt, List.getElem?_eq_getElem hl] at hr
  simp only [rowAt, this]
  exact hr
theorem step_sim {d : Nat} {ps ps' : List Pc} (h : Seg d ps ps') (hd : d ≤ ps'.length) {was was' : List Bool} {c : Nat} (hw : ∀ i, i ≤ ps.length → was.getD i false = true → was'.getD (d + i) false = true) :
    ∀ k, k ≤ ps.length → (stepM ps was c).getD k false = true → (stepM ps' was' c).getD (d + k) false = true := by
  intro k hk hs
  have hl := h.len hd
  obtain ⟨j, p, h1, h2, h3⟩ := (stepM_get ps was c k hk).1 hs
  have hj := (List.getElem?_eq_some_iff.1 h1).1
  refine (stepM_get ps' was' c (d + k) (by omega)).2 ⟨d + j, p, h j p h1, hw j (by omega) h2, ?_⟩
  rcases h3 with ⟨a, b⟩ | ⟨a, b, e⟩
  · exact .inl ⟨a, h.cl b⟩
  · exact .inr ⟨a, b, h.cl e⟩
theorem run_sim {d : Nat} {ps ps' : List Pc} (h : Seg d ps ps') (hd : d ≤ ps'.length) : ∀ (cs : List Nat) {was was' : List Bool}, (∀ i, i ≤ ps.length → was.getD i false = true → was'.getD (d + i) false = true) →
    ∀ k, k ≤ ps.length → (runM ps was cs).getD k false = true → (runM ps' was' cs).getD (d + k) false = true
  | [], _, _, hw => hw
  | c :: cs, _, _, hw => run_sim h hd cs (step_sim h hd hw)
def Closed (ps : List Pc) (s : List Bool) : Prop := ∀ i, s.getD i false = true → rowAt ps i = true → s.getD (i + 1) false = true
theorem step_closed (ps : List Pc) (was : List Bool) (c : Nat) : Closed ps (stepM ps was c) := by
  intro i hi hr
  have hl := rowAt_lt hr
  obtain ⟨j, p, h1, h2, h3⟩ := (stepM_get ps was c i (by omega)).1 hi
  refine (stepM_get ps was c (i + 1) (by omega)).2 ⟨j, p, h1, h2, ?_⟩
  rcases h3 with ⟨a, b⟩ | ⟨a, b, e⟩
  · exact .inl ⟨a, b.next hr⟩
  · exact .inr ⟨a, b, e.next hr⟩
theorem run_closed (ps : List Pc) : ∀ (cs : List Nat) {was : List Bool}, Closed ps was → Closed ps (runM ps was cs)
  | [], _, h => h
  | c :: cs, _, _ => run_closed ps cs (step_closed ps _ c)
abbrev start (ps : List Pc) : List Bool := beg ps (List.replicate (ps.length + 1) false) 0
theorem start_get (ps : List Pc) (k : Nat) (hk : k ≤ ps.length) : (start ps).getD k false = true ↔ Cl ps 0 k := by
  rw [start, beg_get (by simp; omega)]
  have : (List.replicate (ps.length + 1) false).getD k false = false := by simp [List.getD, List.getElem?_replicate]; split <;> rfl
  rw [this]
  simp
theorem start_closed (ps : List Pc) : Closed ps (start ps) := by
  intro i hi hr
  have hl := rowAt_lt hr
  exact (start_get ps (i + 1) (by omega)).2 (((start_get ps i (by omega)).1 hi).next hr)
theorem runM_append (ps : List Pc) : ∀ (a b : List Nat) (s : List Bool), runM ps s (a ++ b) = runM ps (runM ps s a) b
  | [], _, _ => rfl
  | c :: a, b, s => by rw [List.cons_append, runM, runM, runM_append ps a b]
theorem match_append {p q : List Pc} {a b : List Nat} (h1 : matchB p a = true) (h2 : matchB q b = true) : matchB (p ++ q) (a ++ b) = true := by
  have s1 : Seg 0 p (p ++ q) := fun j x h => by rw [Nat.zero_add, List.getElem?_append_left (List.getElem?_eq_some_iff.1 h).1]; exact h
  have s2 : Seg p.length q (p ++ q) := fun j x h => by rw [List.getElem?_append_right (by omega), show p.length + j - p.length = j by omega]; exact h
  have g1 : (runM (p ++ q) (start (p ++ q)) a).getD p.length false = true := by
    have := run_sim s1 (by simp) a (was := start p) (was' := start (p ++ q)) (fun i hi h => ?_) p.length (Nat.le_refl _) h1
    · simpa using this
    · rw [Nat.zero_add]
      have := s1.cl ((start_get p i hi).1 h)
      rw [Nat.zero_add, Nat.zero_add] at this
      exact (start_get (p ++ q) i (by simp; omega)).2 this
  have c1 := run_closed (p ++ q) a (start_closed (p ++ q))
  have g2 : ∀ k, k ≤ q.length → Cl q 0 k → (runM (p ++ q) (start (p ++ q)) a).getD (p.length + k) false = true := by
    intro k
    induction k with
    | zero => exact fun _ _ => g1
    | succ k ih =>
      intro hk hc
      have := ih (by omega) ⟨Nat.zero_le _, fun j h1 h2 => hc.2 j h1 (by omega)⟩
      refine c1 _ this ?_
      have hr := hc.2 k (by omega) (by omega)
      have hl := rowAt_lt hr
      have := s2 k _ (List.getElem?_eq_getElem hl)
      simp only [rowAt, List.getElem?_eq_getElem hl] at hr
      show (((p ++ q)[p.length + k]?.map (·.1)).getD false) = true
      rw [this]
      exact hr
  have g3 := run_sim s2 (by simp) b (was := start q) (was' := runM (p ++ q) (start (p ++ q)) a) (fun i hi h => g2 i hi ((start_get q i hi).1 h)) q.length (Nat.le_refl _) h2
  rw [← List.length_append] at g3
  unfold matchB
  rw [runM_append]
  exact g3
end Go.Proofs.YtlnlomjdooobdaaDoor
