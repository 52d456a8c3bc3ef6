/- The law of words: what Quote gives, Words reads. -/
import Derived.Test.YtlnlomjdooobdaaDoorNaYb
namespace Go.Proofs.YtlnlomjdooobdaaDoor
open Go
set_option linter.unusedVariables false
set_option linter.unusedSimpArgs false

theorem plain_facts (c : UInt8) (h : plainB c = true) : 32 ≤ c.toNat ∧ c.toNat ≤ 126 ∧ c.toNat ≠ 32 ∧ c.toNat ≠ 9 ∧ c.toNat ≠ 39 := by
  have : ∀ n : Fin 256, plainB (UInt8.ofNat n.val) = true → 32 ≤ n.val ∧ n.val ≤ 126 ∧ n.val ≠ 32 ∧ n.val ≠ 9 ∧ n.val ≠ 39 := by decide +kernel
  exact this ⟨c.toNat, c.toNat_lt⟩ (by simpa using h)
theorem hex_facts (c : UInt8) : (0 ≤ hexI (sixteen.getD (c.toNat / 16) 0) ∧ 0 ≤ hexI (sixteen.getD (c.toNat % 16) 0) ∧ hexB (sixteen.getD (c.toNat / 16) 0) (sixteen.getD (c.toNat % 16) 0) = c) ∧
    (32 ≤ (sixteen.getD (c.toNat / 16) 0).toNat ∧ (sixteen.getD (c.toNat / 16) 0).toNat ≤ 126 ∧ 32 ≤ (sixteen.getD (c.toNat % 16) 0).toNat ∧ (sixteen.getD (c.toNat % 16) 0).toNat ≤ 126) := by
  have : ∀ n : Fin 256, (0 ≤ hexI (sixteen.getD (n.val / 16) 0) ∧ 0 ≤ hexI (sixteen.getD (n.val % 16) 0) ∧ hexB (sixteen.getD (n.val / 16) 0) (sixteen.getD (n.val % 16) 0) = UInt8.ofNat n.val) ∧
    (32 ≤ (sixteen.getD (n.val / 16) 0).toNat ∧ (sixteen.getD (n.val / 16) 0).toNat ≤ 126 ∧ 32 ≤ (sixteen.getD (n.val % 16) 0).toNat ∧ (sixteen.getD (n.val % 16) 0).toNat ≤ 126) := by decide +kernel
  have h := this ⟨c.toNat, c.toNat_lt⟩
  simpa using h
theorem quo_body : ∀ (l b rest : List UInt8), quo b (l.flatMap escB ++ 39 :: rest) = some (b ++ l, (l.flatMap escB).length + 1)
  | [], b, rest => by simpa using quo_end (b := b) (l := rest) (c := 39) rfl
  | c :: l, b, rest => by
    have ih := quo_body l (b ++ [c]) rest
    rw [List.flatMap_cons]
    by_cases h : c.toNat = 92 ∨ c.toNat = 39
    · have e : escB c = [92, c] := by unfold escB; rw [if_pos h]
      have he : escF (c :: (l.flatMap escB ++ 39 :: rest)) = some (c, 1) := by rw [escF, if_pos ⟨by simp, by simpa using h⟩]; simp
      rw [e, show ([92, c] ++ l.flatMap escB) ++ 39 :: rest = 92 :: (c :: (l.flatMap escB ++ 39 :: rest)) by simp, quo_esc rfl he, List.drop_one, List.tail_cons, ih]
      simp
    by_cases h2 : c.toNat < 32 ∨ 126 < c.toNat
    · have e : escB c = [92, 120, sixteen.getD (c.toNat / 16) 0, sixteen.getD (c.toNat % 16) 0] := by unfold escB; rw [if_neg h, if_pos h2]
      obtain ⟨⟨a1, a2, a3⟩, _⟩ := hex_facts c
      generalize sixteen.getD (c.toNat / 16) 0 = x at *
      generalize sixteen.getD (c.toNat % 16) 0 = y at *
      have he : escF (120 :: x :: y :: (l.flatMap escB ++ 39 :: rest)) = some (c, 3) := by
        rw [escF, if_neg (by simp), if_pos ⟨by simp, rfl, a1, a2⟩]
        show some (hexB x y, 3) = _
        rw [a3]
      rw [e, show ([92, 120, x, y] ++ l.flatMap escB) ++ 39 :: rest = 92 :: (120 :: x :: y :: (l.flatMap escB ++ 39 :: rest)) by simp, quo_esc rfl he]
      show Option.map _ (quo (b ++ [c]) (l.flatMap escB ++ 39 :: rest)) = _
      rw [ih]
      simp
    · have e : escB c = [c] := by unfold escB; rw [if_neg h, if_neg h2]
      rw [e, show ([c] ++ l.flatMap escB) ++ 39 :: rest = c :: (l.flatMap escB ++ 39 :: rest) by simp, quo_plain (by omega) (by omega), ih]
      simp
theorem wrd_bare : ∀ (w : List UInt8) (ws : List (List UInt8)) (b rest : List UInt8) (wi : Bool), (∀ c ∈ w, plainB c = true) → wrd ws b wi (w ++ rest) = if w = [] then wrd ws b wi rest else wrd ws (b ++ w) true rest
  | [], ws, b, rest, wi, _ => by rw [List.nil_append, if_pos rfl]
  | c :: w, ws, b, rest, wi, h => by
    obtain ⟨_, _, h1, h2, h3⟩ := plain_facts c (h c (by simp))
    have ih := wrd_bare w ws (b ++ [c]) rest true fun x hx => h x (by simp [hx])
    rw [List.cons_append, wrd_plain (by omega) (by omega), ih, if_neg (show ¬ (c :: w = []) by simp)]
    split
    · rename_i e; rw [e]
    · rw [List.append_assoc, List.singleton_append]
theorem wrd_quote (w : List UInt8) (ws : List (List UInt8)) (rest : List UInt8) : wrd ws [] false (quoteF w ++ rest) = wrd ws w true rest := by
  unfold quoteF
  split
  · rename_i h
    simp only [Bool.and_eq_true, decide_eq_true_eq] at h
    rw [wrd_bare w ws [] rest false fun c hc => List.all_eq_true.1 h.2 c hc, if_neg h.1]
    rfl
  · rw [show ([39] ++ w.flatMap escB ++ [39]) ++ rest = 39 :: (w.flatMap escB ++ 39 :: rest) by simp, wrd_quo rfl (quo_body w [] rest)]
    rw [show (w.flatMap escB ++ 39 :: rest).drop ((w.flatMap escB).length + 1) = rest by rw [← List.drop_drop]; simp]
    rfl
def Blank (g : List UInt8) : Prop := ∀ c ∈ g, c.toNat = 32 ∨ c.toNat = 9
theorem wrd_blank : ∀ (g : List UInt8) (ws : List (List UInt8)) (b rest : List UInt8) (wi : Bool), Blank g → g ≠ [] → wrd ws b wi (g ++ rest) = wrd (if wi then ws ++ [b] else ws) [] false rest
  | [], _, _, _, _, _, h => absurd rfl h
  | [c], ws, b, rest, wi, h, _ => by rw [List.singleton_append, wrd_gap (h c (by simp))]
  | c :: d :: g, ws, b, rest, wi, h, _ => by
    rw [List.cons_append, wrd_gap (h c (by simp)), wrd_blank (d :: g) _ [] rest false (fun x hx => h x (by simp [hx])) (by simp)]
    rfl
theorem quote_inj {a b : List UInt8} (h : quoteF a = quoteF b) : a = b := by
  have h1 := wrd_quote a [] []
  have h2 := wrd_quote b [] []
  rw [h, h2, wrd_nil, wrd_nil] at h1
  simpa using h1.symm
theorem quote_range (w : List UInt8) : ∀ c ∈ quoteF w, 32 ≤ c.toNat ∧ c.toNat ≤ 126 := by
  intro c hc
  unfold quoteF at hc
  split at hc
  · rename_i h
    simp only [Bool.and_eq_true] at h
    have := plain_facts c (List.all_eq_true.1 h.2 c hc)
    omega
  · simp only [List.mem_append, List.mem_singleton, List.mem_flatMap] at hc
    rcases hc with (rfl | ⟨x, _, hx⟩) | rfl
    · decide
    · unfold escB at hx
      obtain ⟨_, q1, q2, q3, q4⟩ := hex_facts x
      split at hx
      · rename_i h
        simp at hx
        rcases hx with rfl | rfl
        · decide
        · omega
      · split at hx
        · simp only [List.mem_cons, List.mem_nil_iff, or_false] at hx
          rcases hx with rfl | rfl | rfl | rfl
          · decide
          · decide
          · exact ⟨q1, q2⟩
          · exact ⟨q3, q4⟩
        · simp at hx
          subst hx
          omega
    · decide
theorem quote_len (w : List UInt8) : (quoteF w).length ≤ 4 * w.length + 2 := by
  have := escBs_len w
  unfold quoteF
  split
  · omega
  · simp only [List.length_append, List.length_cons, List.length_nil]; omega
/-- A line so far: i words of l stand in it. -/
def LineI (l : List (List UInt8)) (i : Nat) (line : List UInt8) : Prop := ∀ rest, wrd [] [] false (line ++ rest) = if i = 0 then wrd [] [] false rest else wrd (l.take (i - 1)) (l.getD (i - 1) []) true rest
theorem LineI.zero (l : List (List UInt8)) : LineI l 0 [] := fun rest => by simp
theorem LineI.word {l : List (List UInt8)} {i : Nat} {line g : List UInt8} (h : LineI l i line) (hi : i < l.length) (hg : Blank g) (h0 : i ≠ 0 → g ≠ []) : LineI l (i + 1) (line ++ g ++ quoteF (l.getD i [])) := by
  intro rest
  rw [List.append_assoc, List.append_assoc, h, if_neg (show ¬ (i + 1 = 0) by omega), Nat.add_sub_cancel]
  have e : l.take i = if i = 0 then [] else l.take (i - 1) ++ [l.getD (i - 1) []] := by
    split
    · rename_i e; subst e; rfl
    · conv => lhs; rw [show i = (i - 1) + 1 by omega, List.take_add_one, List.getElem?_eq_getElem (show i - 1 < l.length by omega)]
      rw [List.getD_eq_getElem?_getD, List.getElem?_eq_getElem (show i - 1 < l.length by omega)]; rfl
  by_cases hi0 : i = 0
  · rw [if_pos hi0, e, if_pos hi0]
    by_cases hge : g = []
    · rw [hge, List.nil_append, wrd_quote]
    · rw [wrd_blank g [] [] _ false hg hge]
      exact wrd_quote _ _ _
  · rw [if_neg hi0, wrd_blank g _ _ _ true hg (h0 hi0), e, if_neg hi0]
    exact wrd_quote _ _ _
theorem LineI.done {l : List (List UInt8)} {line g : List UInt8} (h : LineI l l.length line) (hg : Blank g) : wordsF (line ++ g) = some l := by
  have h1 := h g
  rw [wordsF, h1]
  by_cases hl : l.length = 0
  · have : l = [] := List.eq_nil_of_length_eq_zero hl
    subst this
    rw [if_pos (show ([] : List (List UInt8)).length = 0 from rfl)]
    by_cases hge : g = []
    · subst hge; rfl
    · have := wrd_blank g [] [] [] false hg hge
      rw [List.append_nil] at this
      rw [this]; rfl
  · rw [if_neg hl]
    have e : l.take (l.length - 1) ++ [l.getD (l.length - 1) []] = l := by
      rw [List.getD_eq_getElem?_getD, List.getElem?_eq_getElem (by omega), Option.getD_some]
      have := List.take_concat_get (l := l) (i := l.length - 1) (by omega)
      rw [List.concat_eq_append] at this
      rw [this, List.take_of_length_le (by omega)]
    by_cases hge : g = []
    · subst hge
      rw [wrd_nil, if_pos rfl, e]
    · have := wrd_blank g (l.take (l.length - 1)) (l.getD (l.length - 1) []) [] true hg hge
      rw [List.append_nil] at this
      rw [this, if_pos rfl, e, wrd_nil]
      rfl
end Go.Proofs.YtlnlomjdooobdaaDoor
