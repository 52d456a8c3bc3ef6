/- Texts one behind the other: their characters; patterns one behind the other: their pieces. -/
import Derived.Test.YtlnlomjdooobdaaDoorNlE
namespace Go.Proofs.YtlnlomjdooobdaaDoor
open Go
set_option linter.unusedVariables false
set_option linter.unusedSimpArgs false

theorem decodeN_more {n n' b0 b1 b2 b3 c0 c1 c2 c3 : Nat} (h : n ≤ n') (h0 : 0 < n) (e0 : c0 = b0) (e1 : 1 < n → c1 = b1) (e2 : 2 < n → c2 = b2) (e3 : 3 < n → c3 = b3)
    (hg : ¬ (Lib.decodeN n b0 b1 b2 b3 = (65533, 1))) : Lib.decodeN n' c0 c1 c2 c3 = Lib.decodeN n b0 b1 b2 b3 := by
  subst e0
  unfold Lib.decodeN at hg ⊢
  by_cases a1 : c0 < 128
  · rw [if_pos a1, if_pos a1]
  rw [if_neg a1] at hg
  rw [if_neg a1, if_neg a1]
  by_cases a2 : c0 / 32 = 6 ∧ (1 < n ∧ b1 / 64 = 2)
  · rw [e1 a2.2.1, if_pos a2, if_pos (by omega)]
  rw [if_neg a2] at hg
  rw [if_neg a2]
  by_cases a3 : c0 / 16 = 14 ∧ (1 < n ∧ b1 / 64 = 2) ∧ (2 < n ∧ b2 / 64 = 2)
  · rw [e1 a3.2.1.1, e2 a3.2.2.1, if_pos a3, if_neg (by omega), if_pos (by omega)]
  rw [if_neg a3] at hg
  rw [if_neg a3]
  by_cases a4 : c0 / 8 = 30 ∧ (1 < n ∧ b1 / 64 = 2) ∧ (2 < n ∧ b2 / 64 = 2) ∧ (3 < n ∧ b3 / 64 = 2)
  · rw [e1 a4.2.1.1, e2 a4.2.2.1.1, e3 a4.2.2.2.1, if_pos a4, if_neg (by omega), if_neg (by omega), if_pos (by omega)]
  · rw [if_neg a4] at hg
    exact absurd rfl hg
theorem decL_append {p : List UInt8} (q : List UInt8) (hp : p ≠ []) (hg : ¬ ((decL p).1 = 65533 ∧ (decL p).2 = 1)) : decL (p ++ q) = decL p := by
  have hl := List.length_pos_iff.2 hp
  have g : ∀ k, k < p.length → ((p ++ q).getD k 0).toNat = (p.getD k 0).toNat := fun k hk => by
    simp only [List.getD_eq_getElem?_getD, List.getElem?_append_left hk]
  unfold decL
  refine decodeN_more (by simp) hl (g 0 hl) (g 1) (g 2) (g 3) fun e => hg ?_
  unfold decL
  rw [e]
  exact ⟨rfl, rfl⟩
theorem good_parts {l : List UInt8} (h : l ≠ []) (hg : good l = true) : ¬ ((decL l).1 = 65533 ∧ (decL l).2 = 1) ∧ good (l.drop (decL l).2) = true := by
  rw [good_cons h] at hg
  simp only [Bool.and_eq_true, Bool.not_eq_true', beq_eq_false_iff_ne, Bool.and_eq_false_iff] at hg
  refine ⟨fun ⟨a, b⟩ => ?_, hg.2⟩
  rcases hg.1.2 with h | h
  · exact h a
  · exact h b
theorem chs_append {p : List UInt8} (q : List UInt8) (hg : good p = true) : chs (p ++ q) = chs p ++ chs q := by
  generalize hn : p.length = n
  induction n using Nat.strongRecOn generalizing p with
  | _ n ih =>
    by_cases e : p = []
    · subst e; rfl
    · have hw := decL_width p e
      obtain ⟨h1, h2⟩ := good_parts e hg
      have e2 : p ++ q ≠ [] := by simp [e]
      rw [chs_cons e2, chs_cons e, decL_append q e h1, List.cons_append]
      congr 1
      rw [List.drop_append_of_le_length hw.2.1]
      exact ih _ (by simp; omega) h2 rfl
theorem runes_append {p : List UInt8} (q : List UInt8) (hg : good p = true) : runes (p ++ q) = runes p ++ runes q := by
  rw [runes, chs_append q hg, List.map_append]; rfl
theorem good_append {p : List UInt8} (q : List UInt8) (hg : good p = true) : good (p ++ q) = good q := by
  rw [good, chs_append q hg, List.all_append]
  have : ((chs p).all fun x => !(x.1 == 0) && !(x.1 == 65533 && x.2 == 1)) = true := hg
  rw [this]; rfl

/-! ### Pieces -/

theorem oneL_app {l l' : List Nat} {c : Nat} (m : List Nat) (h : oneL l = some (c, l')) : oneL (l ++ m) = some (c, l' ++ m) := by
  cases l with
  | nil => cases h
  | cons d l =>
    by_cases h1 : d = 92
    · cases l with
      | nil => rw [oneL_e0 h1] at h; cases h
      | cons x l =>
        rw [oneL_e h1] at h
        cases h
        rw [List.cons_append, List.cons_append, oneL_e h1]
    · by_cases h2 : d = 93 ∨ d = 45
      · rw [oneL_b h2] at h; cases h
      · rw [oneL_p h1 h2] at h
        cases h
        rw [List.cons_append, oneL_p h1 h2]
theorem spanL_app {l l' : List Nat} {s : Nat × Nat} (m : List Nat) (h : spanL l = some (s, l')) : spanL (l ++ m) = some (s, l' ++ m) := by
  unfold spanL at h
  cases h1 : oneL l with
  | none => rw [h1] at h; cases h
  | some x =>
    obtain ⟨a, r⟩ := x
    rw [h1] at h
    have h1' := oneL_app m h1
    unfold spanL
    rw [h1']
    cases r with
    | nil => cases h
    | cons c l2 =>
      simp only [List.cons_append] at h ⊢
      by_cases hc : c = 45
      · rw [if_pos hc] at h ⊢
        cases h2 : oneL l2 with
        | none => rw [h2] at h; cases h
        | some y =>
          obtain ⟨b, l3⟩ := y
          rw [h2] at h
          rw [oneL_app m h2]
          simp only at h ⊢
          by_cases hb : b < a
          · rw [if_pos hb] at h; cases h
          · rw [if_neg hb] at h ⊢
            cases h; rfl
      · rw [if_neg hc] at h ⊢
        cases h; rfl
theorem spansF_app : ∀ (n k : Nat) {acc ss : List (Nat × Nat)} {l l' : List Nat} (m : List Nat), n ≤ k → spansF n acc l = some (ss, l') → spansF k acc (l ++ m) = some (ss, l' ++ m)
  | 0, _, _, _, _, _, _, _, h => by cases h
  | n + 1, 0, _, _, _, _, _, hk, _ => by omega
  | n + 1, k + 1, acc, ss, l, l', m, hk, h => by
    unfold spansF at h ⊢
    cases h1 : spanL l with
    | none => rw [h1] at h; cases h
    | some x =>
      obtain ⟨s, r⟩ := x
      rw [h1] at h
      rw [spanL_app m h1]
      cases r with
      | nil => cases h
      | cons d l4 =>
        simp only [List.cons_append] at h ⊢
        by_cases hd : d = 93
        · rw [if_pos hd] at h ⊢
          cases h; rfl
        · rw [if_neg hd] at h ⊢
          exact spansF_app n k m (by omega) h
theorem spans_app {acc ss : List (Nat × Nat)} {l l' : List Nat} (m : List Nat) (h : spans acc l = some (ss, l')) : spans acc (l ++ m) = some (ss, l' ++ m) :=
  spansF_app _ _ m (by simp) h
theorem classL_app {l l' : List Nat} {tn : Bool} {ss : List (Nat × Nat)} (m : List Nat) (h : classL l = some (tn, ss, l')) : classL (l ++ m) = some (tn, ss, l' ++ m) := by
  unfold classL at h ⊢
  cases l with
  | nil => cases h
  | cons c l =>
    simp only [List.cons_append] at h ⊢
    by_cases hc : c = 94
    · rw [if_pos hc] at h ⊢
      obtain ⟨x, hx, e⟩ := Option.map_eq_some_iff.1 h
      obtain ⟨x1, x2⟩ := x
      cases e
      rw [spans_app m hx]; rfl
    · rw [if_neg hc] at h ⊢
      obtain ⟨x, hx, e⟩ := Option.map_eq_some_iff.1 h
      obtain ⟨x1, x2⟩ := x
      cases e
      rw [← List.cons_append, spans_app m hx]; rfl
theorem pcF_app : ∀ (n k : Nat) {acc r : List Pc} {l : List Nat} (m : List Nat), l.length ≤ n → (l ++ m).length ≤ k → pcF n acc l = some r → pcF k acc (l ++ m) = pcF k r m
  | n, k, acc, r, [], m, hn, hk, h => by
    have : pcF n acc [] = some acc := by cases n <;> rfl
    rw [this] at h
    cases h; rfl
  | 0, k, acc, r, c :: l, m, hn, hk, h => by simp at hn
  | n + 1, 0, acc, r, c :: l, m, hn, hk, h => by simp at hk
  | n + 1, k + 1, acc, r, c :: l, m, hn, hk, h => by
    simp only [List.length_cons, List.cons_append, List.length_append] at hn hk
    have more : ∀ x, pcF k x m = pcF (k + 1) x m := fun x => pcF_more _ _ _ _ (by omega) (by omega)
    rw [List.cons_append, ← more]
    unfold pcF at h
    conv => lhs; unfold pcF
    by_cases c1 : c = 42
    · rw [if_pos c1] at h ⊢; exact pcF_app n k m (by omega) (by simp; omega) h
    rw [if_neg c1] at h ⊢
    by_cases c2 : c = 63
    · rw [if_pos c2] at h ⊢; exact pcF_app n k m (by omega) (by simp; omega) h
    rw [if_neg c2] at h ⊢
    by_cases c3 : c = 91
    · rw [if_pos c3] at h ⊢
      cases hc : classL l with
      | none => rw [hc] at h; cases h
      | some x =>
        obtain ⟨tn, ss, l'⟩ := x
        have := classL_len hc
        rw [hc] at h
        rw [classL_app m hc]
        exact pcF_app n k m (by omega) (by simp; omega) h
    rw [if_neg c3] at h ⊢
    by_cases c4 : c = 92
    · rw [if_pos c4] at h ⊢
      cases l with
      | nil => cases h
      | cons d l =>
        simp only [List.length_cons] at hn hk
        exact pcF_app n k m (by omega) (by simp; omega) h
    · rw [if_neg c4] at h ⊢; exact pcF_app n k m (by omega) (by simp; omega) h
theorem pcF_acc : ∀ (n : Nat) {acc r : List Pc} (x : List Pc) {l : List Nat}, pcF n acc l = some r → pcF n (x ++ acc) l = some (x ++ r)
  | 0, _, _, _, _, h => by cases h; rfl
  | n + 1, _, _, _, [], h => by cases h; rfl
  | n + 1, acc, r, x, c :: l, h => by
    unfold pcF at h ⊢
    simp only [List.append_assoc]
    by_cases c1 : c = 42
    · rw [if_pos c1] at h ⊢; exact pcF_acc n x h
    rw [if_neg c1] at h ⊢
    by_cases c2 : c = 63
    · rw [if_pos c2] at h ⊢; exact pcF_acc n x h
    rw [if_neg c2] at h ⊢
    by_cases c3 : c = 91
    · rw [if_pos c3] at h ⊢
      cases hc : classL l with
      | none => rw [hc] at h; cases h
      | some y =>
        obtain ⟨tn, ss, l'⟩ := y
        rw [hc] at h
        exact pcF_acc n x h
    rw [if_neg c3] at h ⊢
    by_cases c4 : c = 92
    · rw [if_pos c4] at h ⊢
      cases l with
      | nil => cases h
      | cons d l => exact pcF_acc n x h
    · rw [if_neg c4] at h ⊢; exact pcF_acc n x h
theorem pieces_append {p q : List UInt8} {x y : List Pc} (h1 : piecesF p = some x) (h2 : piecesF q = some y) (hl : p.length + q.length ≤ 255) : piecesF (p ++ q) = some (x ++ y) := by
  unfold piecesF at h1 h2 ⊢
  split at h1
  · cases h1
  rename_i a1
  split at h2
  · cases h2
  rename_i a2
  have g1 : good p = true := by
    cases h : good p
    · exact absurd (.inr h) a1
    · rfl
  have g2 : good q = true := by
    cases h : good q
    · exact absurd (.inr h) a2
    · rfl
  rw [if_neg (by rw [good_append q g1, g2]; simp; omega), runes_append q g1]
  unfold pcs2 at h1 h2 ⊢
  rw [pcF_app _ _ _ (Nat.le_refl _) (Nat.le_refl _) h1]
  have h3 : pcF (runes p ++ runes q).length [] (runes q) = some y := by rw [← h2]; exact pcF_more _ _ _ _ (by simp) (Nat.le_refl _)
  have := pcF_acc _ x h3
  simpa using this
theorem mat_append {p q a b : List UInt8} (h1 : matF p a = some true) (h2 : matF q b = some true) (hl : p.length + q.length ≤ 255) : matF (p ++ q) (a ++ b) = some true := by
  unfold matF at h1 h2 ⊢
  obtain ⟨x, hx, e1⟩ := Option.map_eq_some_iff.1 h1
  obtain ⟨y, hy, e2⟩ := Option.map_eq_some_iff.1 h2
  simp only [Bool.and_eq_true] at e1 e2
  rw [pieces_append hx hy hl, Option.map_some, good_append b e1.1, runes_append b e1.1, e2.1, match_append e1.2 e2.2]
  rfl
theorem mat_star (a : List UInt8) : matF [42] a = some (good a) := by
  have h1 : piecesF [42] = some [(true, false, [])] := by decide +kernel
  have h2 : ∀ cs, matchB [(true, false, [])] cs = true := by
    intro cs
    have : ∀ cs, runM [(true, false, [])] [true, true] cs = [true, true] := by
      intro cs
      induction cs with
      | nil => rfl
      | cons c cs ih => rw [runM, show stepM [(true, false, [])] [true, true] c = [true, true] from rfl, ih]
    unfold matchB
    rw [show beg [(true, false, [])] (List.replicate ([(true, false, ([] : List (Nat × Nat)))].length + 1) false) 0 = [true, true] from rfl, this]
    rfl
  rw [matF, h1, Option.map_some, h2, Bool.and_true]
end Go.Proofs.YtlnlomjdooobdaaDoor
