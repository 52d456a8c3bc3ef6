/- Texts cut at a byte; accounts and their lines: the plain law. -/
import Derived.Test.YtkijkoakloacoaaDoorUs
import Derived.Lib.CountLaws
import Derived.Lib.SplitLaws
import Derived.Lib.Join
namespace Go.Proofs.YtkijkoakloacoaaDoor
open Go
set_option linter.unusedVariables false
set_option linter.unusedSimpArgs false

/-! ### Pieces between slashes -/

def pcs (d : UInt8) : List UInt8 → List (List UInt8)
  | [] => [[]]
  | c :: l => if c = d then [] :: pcs d l else match pcs d l with
    | p :: ps => (c :: p) :: ps
    | [] => [[c]]

theorem pcs_ne (d : UInt8) (l : List UInt8) : pcs d l ≠ [] := by
  cases l with
  | nil => simp [pcs]
  | cons c l =>
    unfold pcs
    split
    · simp
    · split <;> simp

theorem pcs_index (d : UInt8) (l : List UInt8) : (∃ i, Lib.index l [d] = (i : Nat) ∧ i < l.length ∧ pcs d l = l.take i :: pcs d (l.drop (i + 1))) ∨ (Lib.index l [d] = -1 ∧ pcs d l = [l]) := by
  induction l with
  | nil => exact .inr ⟨by simp [Lib.index], rfl⟩
  | cons c l ih =>
    by_cases hc : c = d
    · subst hc
      exact .inl ⟨0, by simp [Lib.index], by simp, by simp [pcs]⟩
    · have hp : List.isPrefixOf [d] (c :: l) = false := by simp [List.isPrefixOf]; exact fun h => hc h.symm
      rcases ih with ⟨i, h1, h2, h3⟩ | ⟨h1, h2⟩
      · refine .inl ⟨i + 1, ?_, by simp; omega, ?_⟩
        · simp only [Lib.index, hp, h1]
          have : ((i : Int) == -1) = false := by simp
          simp [this]
        · simp only [pcs, hc, if_false, h3]
          simp
      · refine .inr ⟨?_, ?_⟩
        · simp [Lib.index, hp, h1]
        · simp only [pcs, hc, if_false, h2]

theorem indexB_d (d : UInt8) (l : List UInt8) : Lib.indexB (strOf l) (strOf [d]) = Lib.index l [d] := by
  unfold Lib.indexB
  rw [strOf_data, strOf_data]

theorem splitB_d (d : UInt8) : ∀ (n : Nat) (l : List UInt8), l.length ≤ n → Lib.splitB (strOf [d]) 0 (Lib.countB (strOf l) (strOf [d])) (strOf l) = (pcs d l).map strOf := by
  intro n
  induction n with
  | zero =>
    intro l hl
    have : l = [] := List.eq_nil_of_length_eq_zero (by omega)
    subst this
    have hm : Lib.indexB (strOf []) (strOf [d]) = -1 := by rw [indexB_d d]; simp [Lib.index]
    rw [Lib.splitB_miss _ _ _ _ hm]
    rfl
  | succ n ih =>
    intro l hl
    rcases pcs_index d l with ⟨i, h1, h2, h3⟩ | ⟨h1, h2⟩
    · have hi : Lib.indexB (strOf l) (strOf [d]) = i := by rw [indexB_d d, h1]
      have e2 : (strOf [d]).size = 1 := rfl
      have e1 : (strOf l).extract (i + (strOf [d]).size) (strOf l).size = strOf (l.drop (i + 1)) := by
        rw [e2, strOf_extract, strOf_size, List.take_of_length_le (by simp)]
      rw [Lib.countB_hit _ _ i (by rw [e2]; exact Nat.le_refl _) hi, e1, Nat.add_comm, Lib.splitB_hit _ _ _ _ i hi, e1, ih _ (by simp; omega), h3, strOf_extract]
      simp
    · have hm : Lib.indexB (strOf l) (strOf [d]) = -1 := by rw [indexB_d d, h1]
      rw [Lib.splitB_miss _ _ _ _ hm, h2]
      rfl

theorem pcs_length (d : UInt8) (l : List UInt8) : (pcs d l).length ≤ l.length + 1 := by
  induction l with
  | nil => simp [pcs]
  | cons c l ih =>
    unfold pcs
    split
    · simp; omega
    · split
      · rename_i h; rw [h] at ih; simp at ih ⊢; omega
      · simp


theorem pcs_plain {d : UInt8} : ∀ {p : List UInt8}, d ∉ p → pcs d p = [p]
  | [], _ => rfl
  | c :: p, h => by
    have h1 : c ≠ d := fun e => h (by simp [e])
    have h2 : d ∉ p := fun e => h (by simp [e])
    rw [pcs, if_neg h1, pcs_plain h2]
theorem pcs_app {d : UInt8} : ∀ {p : List UInt8} (r : List UInt8), d ∉ p → pcs d (p ++ d :: r) = p :: pcs d r
  | [], r, _ => by simp [pcs]
  | c :: p, r, h => by
    have h1 : c ≠ d := fun e => h (by simp [e])
    have h2 : d ∉ p := fun e => h (by simp [e])
    rw [List.cons_append, pcs, if_neg h1, pcs_app r h2]
abbrev joinD (d : UInt8) (ls : List (List UInt8)) : List UInt8 := Lib.join ls [d]
theorem joinD_two (d : UInt8) (p q : List UInt8) (ps : List (List UInt8)) : joinD d (p :: q :: ps) = p ++ d :: joinD d (q :: ps) := by
  rw [joinD, Lib.join_cons, joinD, Lib.join_cons]
  simp [Lib.joinTail]
theorem pcs_join {d : UInt8} : ∀ (ps : List (List UInt8)), ps ≠ [] → (∀ p ∈ ps, d ∉ p) → pcs d (joinD d ps) = ps
  | [], h, _ => absurd rfl h
  | [p], _, h => by rw [joinD, Lib.join_one, pcs_plain (h p (by simp))]
  | p :: q :: ps, _, h => by
    rw [joinD_two, pcs_app _ (h p (by simp)), pcs_join (q :: ps) (by simp) fun x hx => h x (by simp [hx])]
theorem mem_pcs {d : UInt8} : ∀ {l p : List UInt8}, p ∈ pcs d l → d ∉ p ∧ ∀ c ∈ p, c ∈ l
  | [], p, h => by simp [pcs] at h; subst h; simp
  | c :: l, p, h => by
    unfold pcs at h
    by_cases e : c = d
    · rw [if_pos e] at h
      rcases List.mem_cons.1 h with rfl | h
      · simp
      · obtain ⟨h1, h2⟩ := mem_pcs h
        exact ⟨h1, fun x hx => List.mem_cons_of_mem _ (h2 x hx)⟩
    · rw [if_neg e] at h
      cases hp : pcs d l with
      | nil => exact absurd hp (pcs_ne d l)
      | cons q qs =>
        rw [hp] at h
        have hq := mem_pcs (l := l) (p := q) (by rw [hp]; simp)
        rcases List.mem_cons.1 h with rfl | h
        · exact ⟨by simp only [List.mem_cons, not_or]; exact ⟨fun x => e x.symm, hq.1⟩, fun x hx => by
            rcases List.mem_cons.1 hx with rfl | hx
            · simp
            · exact List.mem_cons_of_mem _ (hq.2 x hx)⟩
        · obtain ⟨h1, h2⟩ := mem_pcs (l := l) (p := p) (by rw [hp]; simp [h])
          exact ⟨h1, fun x hx => List.mem_cons_of_mem _ (h2 x hx)⟩
theorem pcs_total (d : UInt8) : ∀ l : List UInt8, ((pcs d l).map List.length).sum ≤ l.length
  | [] => by simp [pcs]
  | c :: l => by
    have ih := pcs_total d l
    unfold pcs
    by_cases e : c = d
    · rw [if_pos e]; simp; omega
    · rw [if_neg e]
      cases hp : pcs d l with
      | nil => exact absurd hp (pcs_ne d l)
      | cons q qs => rw [hp] at ih; simp at ih ⊢; omega

/-! ### Is it a text? -/

/-- No character of it is NUL, or none. -/
def good (l : List UInt8) : Bool := (chs l).all fun x => !(x.1 == 0) && !(x.1 == 65533 && x.2 == 1)
theorem good_nil : good [] = true := rfl
theorem good_cons {l : List UInt8} (h : l ≠ []) : good l = ((!((decL l).1 == 0) && !((decL l).1 == 65533 && (decL l).2 == 1)) && good (l.drop (decL l).2)) := by
  unfold good
  rw [chs_cons h, List.all_cons]
theorem good_parts {l : List UInt8} (h : l ≠ []) (hg : good l = true) : ¬ ((decL l).1 = 65533 ∧ (decL l).2 = 1) ∧ good (l.drop (decL l).2) = true := by
  rw [good_cons h] at hg
  simp only [Bool.and_eq_true, Bool.not_eq_true', Bool.and_eq_false_iff, beq_eq_false_iff_ne] at hg
  obtain ⟨⟨_, h1⟩, h2⟩ := hg
  exact ⟨fun ⟨a, b⟩ => by rcases h1 with h1 | h1 <;> simp_all, h2⟩

theorem decN_key {n b0 b1 b2 b3 : Nat} (h0 : b0 < 256) (h1 : b1 < 256) (h2 : b2 < 256) (h3 : b3 < 256) (g : ¬ ((Lib.decodeN n b0 b1 b2 b3).1 = 65533 ∧ (Lib.decodeN n b0 b1 b2 b3).2 = 1)) :
      ((Lib.decodeN n b0 b1 b2 b3).2 = 1 ∧ (Lib.decodeN n b0 b1 b2 b3).1 < 128 ∧ b0 = (Lib.decodeN n b0 b1 b2 b3).1) ∨
      ((Lib.decodeN n b0 b1 b2 b3).2 = 2 ∧ 128 ≤ (Lib.decodeN n b0 b1 b2 b3).1 ∧ (Lib.decodeN n b0 b1 b2 b3).1 < 2048 ∧ b0 = 192 + (Lib.decodeN n b0 b1 b2 b3).1 / 64 ∧ b1 = 128 + (Lib.decodeN n b0 b1 b2 b3).1 % 64) ∨
      ((Lib.decodeN n b0 b1 b2 b3).2 = 3 ∧ 2048 ≤ (Lib.decodeN n b0 b1 b2 b3).1 ∧ (Lib.decodeN n b0 b1 b2 b3).1 < 65536 ∧ b0 = 224 + (Lib.decodeN n b0 b1 b2 b3).1 / 4096 ∧ b1 = 128 + (Lib.decodeN n b0 b1 b2 b3).1 / 64 % 64 ∧ b2 = 128 + (Lib.decodeN n b0 b1 b2 b3).1 % 64) ∨
      ((Lib.decodeN n b0 b1 b2 b3).2 = 4 ∧ 65536 ≤ (Lib.decodeN n b0 b1 b2 b3).1 ∧ b0 = 240 + (Lib.decodeN n b0 b1 b2 b3).1 / 262144 ∧ b1 = 128 + (Lib.decodeN n b0 b1 b2 b3).1 / 4096 % 64 ∧ b2 = 128 + (Lib.decodeN n b0 b1 b2 b3).1 / 64 % 64 ∧ b3 = 128 + (Lib.decodeN n b0 b1 b2 b3).1 % 64) := by
  have no : ∀ e : Lib.decodeN n b0 b1 b2 b3 = (65533, 1), False := fun e => g (by rw [e]; exact ⟨rfl, rfl⟩)
  clear g
  by_cases a1 : b0 < 128
  · have e : Lib.decodeN n b0 b1 b2 b3 = (b0, 1) := by rw [Lib.decodeN, if_pos a1]
    rw [e]; exact .inl ⟨rfl, a1, rfl⟩
  by_cases a2 : b0 / 32 = 6 ∧ (1 < n ∧ b1 / 64 = 2)
  · by_cases a3 : b0 % 32 * 64 + b1 % 64 ≥ 128
    · have e : Lib.decodeN n b0 b1 b2 b3 = (b0 % 32 * 64 + b1 % 64, 2) := by rw [Lib.decodeN, if_neg a1, if_pos a2, if_pos a3]
      rw [e]; exact .inr (.inl ⟨rfl, by show 128 ≤ _; omega, by show _ < 2048; omega, by show b0 = 192 + (b0 % 32 * 64 + b1 % 64) / 64; omega, by show b1 = 128 + (b0 % 32 * 64 + b1 % 64) % 64; omega⟩)
    · exact (no (by rw [Lib.decodeN, if_neg a1, if_pos a2, if_neg a3])).elim
  by_cases a3 : b0 / 16 = 14 ∧ (1 < n ∧ b1 / 64 = 2) ∧ (2 < n ∧ b2 / 64 = 2)
  · by_cases a4 : b0 % 16 * 4096 + b1 % 64 * 64 + b2 % 64 ≥ 2048 ∧ (b0 % 16 * 4096 + b1 % 64 * 64 + b2 % 64 < 55296 ∨ (57344 ≤ b0 % 16 * 4096 + b1 % 64 * 64 + b2 % 64 ∧ b0 % 16 * 4096 + b1 % 64 * 64 + b2 % 64 ≤ 1114111))
    · have e : Lib.decodeN n b0 b1 b2 b3 = (b0 % 16 * 4096 + b1 % 64 * 64 + b2 % 64, 3) := by rw [Lib.decodeN, if_neg a1, if_neg a2, if_pos a3, if_pos a4]
      rw [e]; refine .inr (.inr (.inl ⟨rfl, ?_, ?_, ?_, ?_, ?_⟩)) <;> simp only <;> omega
    · exact (no (by rw [Lib.decodeN, if_neg a1, if_neg a2, if_pos a3, if_neg a4])).elim
  by_cases a4 : b0 / 8 = 30 ∧ (1 < n ∧ b1 / 64 = 2) ∧ (2 < n ∧ b2 / 64 = 2) ∧ (3 < n ∧ b3 / 64 = 2)
  · by_cases a5 : b0 % 8 * 262144 + b1 % 64 * 4096 + b2 % 64 * 64 + b3 % 64 ≥ 65536 ∧ (b0 % 8 * 262144 + b1 % 64 * 4096 + b2 % 64 * 64 + b3 % 64 < 55296 ∨ (57344 ≤ b0 % 8 * 262144 + b1 % 64 * 4096 + b2 % 64 * 64 + b3 % 64 ∧ b0 % 8 * 262144 + b1 % 64 * 4096 + b2 % 64 * 64 + b3 % 64 ≤ 1114111))
    · have e : Lib.decodeN n b0 b1 b2 b3 = (b0 % 8 * 262144 + b1 % 64 * 4096 + b2 % 64 * 64 + b3 % 64, 4) := by rw [Lib.decodeN, if_neg a1, if_neg a2, if_neg a3, if_pos a4, if_pos a5]
      rw [e]; refine .inr (.inr (.inr ⟨rfl, ?_, ?_, ?_, ?_, ?_⟩)) <;> simp only <;> omega
    · exact (no (by rw [Lib.decodeN, if_neg a1, if_neg a2, if_neg a3, if_pos a4, if_neg a5])).elim
  · exact (no (by rw [Lib.decodeN, if_neg a1, if_neg a2, if_neg a3, if_neg a4])).elim

theorem decL_bytes {l : List UInt8} (h : l ≠ []) (g : ¬ ((decL l).1 = 65533 ∧ (decL l).2 = 1)) :
    ((decL l).2 = 1 ∧ (decL l).1 = (l.getD 0 0).toNat) ∨ (128 ≤ (decL l).1 ∧ ∀ c ∈ l.take (decL l).2, 128 ≤ c.toNat) := by
  have hw := decL_width l h
  have hk := decN_key (n := l.length) (b0 := (l.getD 0 0).toNat) (b1 := (l.getD 1 0).toNat) (b2 := (l.getD 2 0).toNat) (b3 := (l.getD 3 0).toNat) (UInt8.toNat_lt _) (UInt8.toNat_lt _) (UInt8.toNat_lt _) (UInt8.toNat_lt _) g
  have e : decL l = Lib.decodeN l.length (l.getD 0 0).toNat (l.getD 1 0).toNat (l.getD 2 0).toNat (l.getD 3 0).toNat := rfl
  rw [← e] at hk
  clear e g
  generalize (decL l).2 = n at hk hw
  generalize (decL l).1 = r at hk
  have big : (∀ i, i < n → 128 ≤ (l.getD i 0).toNat) → ∀ c ∈ l.take n, 128 ≤ c.toNat := fun hn c hc => by
    obtain ⟨i, hi, rfl⟩ := List.getElem_of_mem hc
    rw [List.length_take] at hi
    have := hn i (by omega)
    rw [List.getElem_take]
    rwa [List.getD_eq_getElem?_getD, List.getElem?_eq_getElem (by omega), Option.getD_some] at this
  generalize hb0 : (l.getD 0 0).toNat = b0 at hk
  generalize hb1 : (l.getD 1 0).toNat = b1 at hk
  generalize hb2 : (l.getD 2 0).toNat = b2 at hk
  generalize hb3 : (l.getD 3 0).toNat = b3 at hk
  rcases hk with ⟨a, _, b⟩ | ⟨a, b, _, d, e⟩ | ⟨a, b, _, d, e, f⟩ | ⟨a, b, d, e, f, k⟩
  · exact .inl ⟨a, b.symm⟩
  · refine .inr ⟨b, big fun i hi => ?_⟩
    have : i = 0 ∨ i = 1 := by omega
    rcases this with rfl | rfl <;> omega
  · refine .inr ⟨by omega, big fun i hi => ?_⟩
    have : i = 0 ∨ i = 1 ∨ i = 2 := by omega
    rcases this with rfl | rfl | rfl <;> omega
  · refine .inr ⟨by omega, big fun i hi => ?_⟩
    have : i = 0 ∨ i = 1 ∨ i = 2 ∨ i = 3 := by omega
    rcases this with rfl | rfl | rfl | rfl <;> omega

/-! ### Names -/

def badR (r : Nat) : Bool := decide (r < 33) || r == 127 || r == 58 || r == 44 || r == 35 || r == 47
theorem badR_big {r : Nat} (h : 128 ≤ r) : badR r = false := by
  simp only [badR, Bool.or_eq_false_iff, decide_eq_false_iff_not, beq_eq_false_iff_ne]
  omega
theorem runes_bytes {l : List UInt8} (hg : good l = true) : ((runes l).all fun r => !badR r) = l.all fun c => !badR c.toNat := by
  generalize hn : l.length = n
  induction n using Nat.strongRecOn generalizing l with
  | _ n ih =>
    by_cases e : l = []
    · subst e; rfl
    · have hw := decL_width l e
      obtain ⟨h1, h2⟩ := good_parts e hg
      have hr := ih _ (by simp; omega) h2 rfl
      rw [runes_cons e, List.all_cons, hr]
      conv => rhs; rw [← List.take_append_drop (decL l).2 l, List.all_append]
      congr 1
      rcases decL_bytes e h1 with ⟨a, b⟩ | ⟨a, b⟩
      · rw [a, b]
        cases l with
        | nil => exact absurd rfl e
        | cons c l => simp
      · rw [badR_big a]
        symm
        rw [Bool.not_false, List.all_eq_true]
        intro c hc
        rw [badR_big (b c hc)]
        rfl
def nameF (l : List UInt8) : Bool := !(l == []) && decide (l.length ≤ 32) && good l && (runes l).all fun r => !badR r
theorem nameF_eq (l : List UInt8) : nameF l = (!(l == []) && decide (l.length ≤ 32) && good l && l.all fun c => !badR c.toNat) := by
  unfold nameF
  cases hg : good l
  · simp
  · rw [runes_bytes hg]
theorem nameF_facts {l : List UInt8} (h : nameF l = true) : l ≠ [] ∧ l.length ≤ 32 ∧ ∀ c ∈ l, c ≠ 58 ∧ c ≠ 44 ∧ c ≠ 10 ∧ c ≠ 35 := by
  rw [nameF_eq] at h
  simp only [Bool.and_eq_true, Bool.not_eq_true', beq_eq_false_iff_ne, decide_eq_true_eq, List.all_eq_true] at h
  obtain ⟨⟨⟨h1, h2⟩, h3⟩, h4⟩ := h
  refine ⟨h1, h2, fun c hc => ?_⟩
  have := h4 c hc
  refine ⟨?_, ?_, ?_, ?_⟩ <;> rintro rfl <;> revert this <;> decide
def keyF (l : List UInt8) : Bool := (l.all fun c => decide (33 ≤ c.toNat) && decide (c.toNat ≤ 126) && !(c.toNat == 58)) && decide (l.length ≤ 32)
/-- What is left to look at from the i-th place on. -/
def keyF' (l : List UInt8) (i : Nat) : Bool := ((l.drop i).all fun c => decide (33 ≤ c.toNat) && decide (c.toNat ≤ 126) && !(c.toNat == 58)) && decide (l.length ≤ 32)
theorem keyF_facts {l : List UInt8} (h : keyF l = true) : l.length ≤ 32 ∧ ∀ c ∈ l, c ≠ 58 ∧ c ≠ 10 := by
  simp only [keyF, Bool.and_eq_true, List.all_eq_true, decide_eq_true_eq] at h
  refine ⟨h.2, fun c hc => ?_⟩
  have := h.1 c hc
  refine ⟨?_, ?_⟩ <;> rintro rfl <;> revert this <;> decide

/-! ### Accounts -/

structure Acc where
  name : List UInt8
  leader : List UInt8
  members : List (List UInt8)
  key : List UInt8
theorem Acc.ext' {a b : Acc} (h1 : a.name = b.name) (h2 : a.leader = b.leader) (h3 : a.members = b.members) (h4 : a.key = b.key) : a = b := by
  cases a; cases b; simp_all
def formF (a : Acc) : Bool := nameF a.name && (a.leader == [] || nameF a.leader) && a.members.all nameF && keyF a.key
def membersF (l : List UInt8) : List (List UInt8) := if l = [] then [] else pcs 44 l
def rawF (l : List UInt8) : Acc := ⟨(pcs 58 l).getD 0 [], (pcs 58 l).getD 1 [], membersF ((pcs 58 l).getD 2 []), (pcs 58 l).getD 3 []⟩
def accF (l : List UInt8) : Option Acc := if (pcs 58 l).length = 4 ∧ formF (rawF l) = true then some (rawF l) else none
/-- An account as a line, but for its end. -/
def rowF (a : Acc) : List UInt8 := joinD 58 [a.name, a.leader, joinD 44 a.members, a.key]
def lineF (a : Acc) : List UInt8 := rowF a ++ [10]
def textF (L : List Acc) : List UInt8 := L.flatMap lineF
theorem mem_join {d : UInt8} : ∀ {ls : List (List UInt8)} {c : UInt8}, c ∈ joinD d ls → c = d ∨ ∃ p ∈ ls, c ∈ p
  | [], c, h => by simp [joinD, Lib.join] at h
  | [p], c, h => by rw [joinD, Lib.join_one] at h; exact .inr ⟨p, by simp, h⟩
  | p :: q :: ps, c, h => by
    rw [joinD_two] at h
    rcases List.mem_append.1 h with h | h
    · exact .inr ⟨p, by simp, h⟩
    rcases List.mem_cons.1 h with h | h
    · exact .inl h
    · rcases mem_join h with h | ⟨x, hx, hc⟩
      · exact .inl h
      · exact .inr ⟨x, by simp at hx ⊢; exact .inr hx, hc⟩
theorem joinD_nil_iff {ls : List (List UInt8)} {d : UInt8} (h : ∀ p ∈ ls, p ≠ []) : joinD d ls = [] ↔ ls = [] := by
  cases ls with
  | nil => simp [joinD, Lib.join]
  | cons p ps =>
    refine ⟨fun e => ?_, fun e => by cases e⟩
    rw [joinD, Lib.join_cons] at e
    exact absurd (List.append_eq_nil_iff.1 e).1 (h p (by simp))
theorem formF_facts {a : Acc} (h : formF a = true) : nameF a.name = true ∧ (a.leader = [] ∨ nameF a.leader = true) ∧ (∀ m ∈ a.members, nameF m = true) ∧ keyF a.key = true := by
  simp only [formF, Bool.and_eq_true, Bool.or_eq_true, beq_iff_eq, List.all_eq_true] at h
  exact ⟨h.1.1.1, h.1.1.2, h.1.2, h.2⟩
theorem members_join {ms : List (List UInt8)} (h : ∀ m ∈ ms, nameF m = true) : membersF (joinD 44 ms) = ms := by
  unfold membersF
  by_cases e : ms = []
  · subst e; rfl
  · rw [if_neg (fun x => e ((joinD_nil_iff fun p hp => (nameF_facts (h p hp)).1).1 x)), pcs_join ms e fun p hp hc => ((nameF_facts (h p hp)).2.2 _ hc).2.1 rfl]
theorem fields_free {a : Acc} (h : formF a = true) : ∀ p ∈ [a.name, a.leader, joinD 44 a.members, a.key], ∀ c ∈ p, c ≠ 58 ∧ c ≠ 10 := by
  obtain ⟨h1, h2, h3, h4⟩ := formF_facts h
  intro p hp c hc
  simp only [List.mem_cons, List.not_mem_nil, or_false] at hp
  rcases hp with rfl | rfl | rfl | rfl
  · have := (nameF_facts h1).2.2 c hc; exact ⟨this.1, this.2.2.1⟩
  · rcases h2 with h2 | h2
    · rw [h2] at hc; cases hc
    · have := (nameF_facts h2).2.2 c hc; exact ⟨this.1, this.2.2.1⟩
  · rcases mem_join hc with rfl | ⟨p, hp, hc⟩
    · decide
    · have := (nameF_facts (h3 p hp)).2.2 c hc; exact ⟨this.1, this.2.2.1⟩
  · exact (keyF_facts h4).2 c hc
theorem pcs_row {a : Acc} (h : formF a = true) : pcs 58 (rowF a) = [a.name, a.leader, joinD 44 a.members, a.key] :=
  pcs_join _ (by simp) fun p hp hc => (fields_free h p hp _ hc).1 rfl
theorem accF_row {a : Acc} (h : formF a = true) : accF (rowF a) = some a := by
  have hr : rawF (rowF a) = a := by
    unfold rawF
    rw [pcs_row h]
    exact Acc.ext' rfl rfl (members_join (formF_facts h).2.2.1) rfl
  unfold accF
  rw [hr, pcs_row h, if_pos ⟨rfl, h⟩]
theorem row_free {a : Acc} (h : formF a = true) : (10 : UInt8) ∉ rowF a := by
  intro hc
  rcases mem_join hc with e | ⟨p, hp, hc⟩
  · revert e; decide
  · exact (fields_free h p hp _ hc).2 rfl
theorem row_head {a : Acc} (h : formF a = true) : rowF a ≠ [] ∧ ((rowF a).getD 0 0).toNat ≠ 35 := by
  have h1 := nameF_facts (formF_facts h).1
  unfold rowF
  rw [joinD_two]
  cases hn : a.name with
  | nil => exact absurd hn h1.1
  | cons c n =>
    have := h1.2.2 c (by simp [hn])
    refine ⟨by simp, ?_⟩
    simp only [List.cons_append, List.getD_cons_zero]
    intro e
    exact this.2.2.2 (UInt8.toNat_inj.1 e)
theorem pcs_text : ∀ (L : List Acc), (∀ a ∈ L, formF a = true) → pcs 10 (textF L) = L.map rowF ++ [[]]
  | [], _ => rfl
  | a :: L, h => by
    show pcs 10 (lineF a ++ textF L) = _
    rw [lineF, List.append_assoc, List.singleton_append, pcs_app _ (row_free (h a (by simp))), pcs_text L fun x hx => h x (by simp [hx])]
    rfl

/-! ### Tables -/

def known (L : List Acc) (n : List UInt8) : Bool := L.any fun a => a.name == n
def namedF (L : List Acc) (a : Acc) : Bool := (a.leader == [] || known L a.leader) && a.members.all (known L)
def onceF (a : Acc) : Bool := decide a.members.Nodup
/-- Lines are read, from the n-th on. -/
def readF : List (List UInt8) → Nat → List Acc → List Nat → Except (Nat × Nat) (List Acc × List Nat)
  | [], _, L, P => .ok (L, P)
  | l :: ls, n, L, P =>
    if l = [] ∨ (l.getD 0 0).toNat = 35 then readF ls (n + 1) L P
    else match accF l with
      | none => .error (60, n)
      | some a => if known L a.name || !onceF a then .error (61, n) else readF ls (n + 1) (L ++ [a]) (P ++ [n])
def checkF (L : List Acc) : List (Acc × Nat) → Option Nat
  | [] => none
  | (a, p) :: r => if namedF L a then checkF L r else some p
def joinF (L : List Acc) : Bool := decide ((textF L).length ≤ 65536)
def endF (L : List Acc) (P : List Nat) : Except (Nat × Nat) (List Acc) :=
  match checkF L (L.zip P) with
  | some p => .error (62, p)
  | none => if joinF L then .ok L else .error (1, 0)
def parseF (s : List UInt8) : Except (Nat × Nat) (List Acc) :=
  if 65536 < s.length then .error (1, 0)
  else match readF (pcs 10 s) 1 [] [] with
    | .error e => .error e
    | .ok (L, P) => endF L P
/-- Accounts that a table may have. -/
def allF (L : List Acc) : Bool := L.all formF && L.all onceF && decide (L.map (·.name)).Nodup && L.all (namedF L)
def printF (L : List Acc) : Except Nat (List UInt8) :=
  if !(L.all formF) then .error 60
  else if !(L.all onceF && decide (L.map (·.name)).Nodup) then .error 61
  else if !(L.all (namedF L)) then .error 62
  else if joinF L then .ok (textF L) else .error 1

theorem known_iff {L : List Acc} {n : List UInt8} : known L n = true ↔ n ∈ L.map (·.name) := by
  simp [known, List.any_eq_true]
theorem known_false {L : List Acc} {n : List UInt8} : known L n = false ↔ n ∉ L.map (·.name) := by
  rw [← known_iff]; simp
theorem readF_rows : ∀ (L M : List Acc) (n : Nat) (P : List Nat) (T : List (List UInt8)), (∀ a ∈ L, formF a = true) → (∀ a ∈ L, onceF a = true) → ((M ++ L).map (·.name)).Nodup →
    readF (L.map rowF ++ T) n M P = readF T (n + L.length) (M ++ L) (P ++ List.range' n L.length)
  | [], M, n, P, T, _, _, _ => by simp
  | a :: L, M, n, P, T, h1, h2, h3 => by
    have ha := row_head (h1 a (by simp))
    have hk : known M a.name = false := by
      rw [known_false]
      intro hm
      rw [List.map_append, List.map_cons, List.nodup_append] at h3
      exact h3.2.2 _ hm _ (by simp) rfl
    rw [List.map_cons, List.cons_append, readF, if_neg (by simp only [not_or]; exact ha), accF_row (h1 a (by simp))]
    simp only [hk, h2 a (by simp), Bool.not_true, Bool.or_self, Bool.false_eq_true, if_false]
    rw [readF_rows L (M ++ [a]) (n + 1) (P ++ [n]) T (fun x hx => h1 x (by simp [hx])) (fun x hx => h2 x (by simp [hx])) (by simpa using h3)]
    simp only [List.append_assoc, List.singleton_append, List.length_cons, List.range'_succ, Nat.add_assoc, Nat.add_comm 1]
theorem checkF_none {L : List Acc} : ∀ {Z : List (Acc × Nat)}, (∀ x ∈ Z, namedF L x.1 = true) → checkF L Z = none
  | [], _ => rfl
  | (a, p) :: Z, h => by rw [checkF, if_pos (h (a, p) (by simp)), checkF_none fun x hx => h x (by simp [hx])]
/-- What Print writes, Parse reads. -/
theorem parse_print {L : List Acc} {s : List UInt8} (h : printF L = .ok s) : s = textF L ∧ parseF s = .ok L ∧ allF L = true ∧ joinF L = true := by
  unfold printF at h
  split at h
  · cases h
  split at h
  · cases h
  split at h
  · cases h
  split at h
  case isFalse => cases h
  rename_i h1 h2 h3 h4
  simp only [Bool.not_eq_true', Bool.not_eq_false, Bool.and_eq_true] at h1 h2 h3
  cases h
  have f1 := List.all_eq_true.1 h1
  have f2 := List.all_eq_true.1 h2.1
  have f3 := List.all_eq_true.1 h3
  have f4 := of_decide_eq_true h2.2
  refine ⟨rfl, ?_, by simp [allF, h1, h2.1, h2.2, h3], h4⟩
  have hl : ¬ 65536 < (textF L).length := by have := of_decide_eq_true h4; omega
  rw [parseF, if_neg hl, pcs_text L f1, readF_rows L [] 1 [] [[]] f1 f2 (by simpa using f4)]
  simp only [readF, List.nil_append, true_or, if_true]
  rw [endF, checkF_none fun x hx => f3 _ (List.of_mem_zip hx).1]
  simp only [h4, if_true]
end Go.Proofs.YtkijkoakloacoaaDoor
