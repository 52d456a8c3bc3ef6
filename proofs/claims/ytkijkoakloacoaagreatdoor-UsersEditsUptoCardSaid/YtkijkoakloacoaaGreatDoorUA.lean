/- Texts cut at a byte; accounts and their lines: the plain law. What a table tells; accounts that are made: the plain law. Maps whose keys are texts, or pairs of texts. Accounts that are made of raw numbers: the plain law. -/
import Derived.Test.YtkijkoakloacoaaGreatDoorUs
import Derived.Lib.CountLaws
import Derived.Lib.SplitLaws
import Derived.Lib.Join
import Derived.Test.YtkijkoakloacoaaGreatDoorMaps
import Derived.Test.YtkijkoakloacoaaGreatDoorFx
namespace Go.Proofs.YtkijkoakloacoaaGreatDoor
open Go
set_option linter.unusedVariables false
set_option linter.unusedSimpArgs false

/-! ### Pieces between slashes -/

def pcs (d : UInt8) : List UInt8 → List (List UInt8)
  | [] => [[]]
  | c :: l => if c = d then [] :: pcs d l else match pcs d l with
    | p :: ps => (c :: p) :: ps
    | [] => [[c]]

theorem pcs_ne (d : UInt8) (l : List UInt8) : pcs d l ≠ [] := by
  cases l with
  | nil => simp [pcs]
  | cons c l =>
    unfold pcs
    split
    · simp
    · split <;> simp

theorem pcs_index (d : UInt8) (l : List UInt8) : (∃ i, Lib.index l [d] = (i : Nat) ∧ i < l.length ∧ pcs d l = l.take i :: pcs d (l.drop (i + 1))) ∨ (Lib.index l [d] = -1 ∧ pcs d l = [l]) := by
  induction l with
  | nil => exact .inr ⟨by simp [Lib.index], rfl⟩
  | cons c l ih =>
    by_cases hc : c = d
    · subst hc
      exact .inl ⟨0, by simp [Lib.index], by simp, by simp [pcs]⟩
    · have hp : List.isPrefixOf [d] (c :: l) = false := by simp [List.isPrefixOf]; exact fun h => hc h.symm
      rcases ih with ⟨i, h1, h2, h3⟩ | ⟨h1, h2⟩
      · refine .inl ⟨i + 1, ?_, by simp; omega, ?_⟩
        · simp only [Lib.index, hp, h1]
          have : ((i : Int) == -1) = false := by simp
          simp [this]
        · simp only [pcs, hc, if_false, h3]
          simp
      · refine .inr ⟨?_, ?_⟩
        · simp [Lib.index, hp, h1]
        · simp only [pcs, hc, if_false, h2]

theorem indexB_d (d : UInt8) (l : List UInt8) : Lib.indexB (strOf l) (strOf [d]) = Lib.index l [d] := by
  unfold Lib.indexB
  rw [strOf_data, strOf_data]

theorem splitB_d (d : UInt8) : ∀ (n : Nat) (l : List UInt8), l.length ≤ n → Lib.splitB (strOf [d]) 0 (Lib.countB (strOf l) (strOf [d])) (strOf l) = (pcs d l).map strOf := by
  intro n
  induction n with
  | zero =>
    intro l hl
    have : l = [] := List.eq_nil_of_length_eq_zero (by omega)
    subst this
    have hm : Lib.indexB (strOf []) (strOf [d]) = -1 := by rw [indexB_d d]; simp [Lib.index]
    rw [Lib.splitB_miss _ _ _ _ hm]
    rfl
  | succ n ih =>
    intro l hl
    rcases pcs_index d l with ⟨i, h1, h2, h3⟩ | ⟨h1, h2⟩
    · have hi : Lib.indexB (strOf l) (strOf [d]) = i := by rw [indexB_d d, h1]
      have e2 : (strOf [d]).size = 1 := rfl
      have e1 : (strOf l).extract (i + (strOf [d]).size) (strOf l).size = strOf (l.drop (i + 1)) := by
        rw [e2, strOf_extract, strOf_size, List.take_of_length_le (by simp)]
      rw [Lib.countB_hit _ _ i (by rw [e2]; exact Nat.le_refl _) hi, e1, Nat.add_comm, Lib.splitB_hit _ _ _ _ i hi, e1, ih _ (by simp; omega), h3, strOf_extract]
      simp
    · have hm : Lib.indexB (strOf l) (strOf [d]) = -1 := by rw [indexB_d d, h1]
      rw [Lib.splitB_miss _ _ _ _ hm, h2]
      rfl

theorem pcs_length (d : UInt8) (l : List UInt8) : (pcs d l).length ≤ l.length + 1 := by
  induction l with
  | nil => simp [pcs]
  | cons c l ih =>
    unfold pcs
    split
    · simp; omega
    · split
      · rename_i h; rw [h] at ih; simp at ih ⊢; omega
      · simp


theorem pcs_plain {d : UInt8} : ∀ {p : List UInt8}, d ∉ p → pcs d p = [p]
  | [], _ => rfl
  | c :: p, h => by
    have h1 : c ≠ d := fun e => h (by simp [e])
    have h2 : d ∉ p := fun e => h (by simp [e])
    rw [pcs, if_neg h1, pcs_plain h2]
theorem pcs_app {d : UInt8} : ∀ {p : List UInt8} (r : List UInt8), d ∉ p → pcs d (p ++ d :: r) = p :: pcs d r
  | [], r, _ => by simp [pcs]
  | c :: p, r, h => by
    have h1 : c ≠ d := fun e => h (by simp [e])
    have h2 : d ∉ p := fun e => h (by simp [e])
    rw [List.cons_append, pcs, if_neg h1, pcs_app r h2]
abbrev joinD (d : UInt8) (ls : List (List UInt8)) : List UInt8 := Lib.join ls [d]
theorem joinD_two (d : UInt8) (p q : List UInt8) (ps : List (List UInt8)) : joinD d (p :: q :: ps) = p ++ d :: joinD d (q :: ps) := by
  rw [joinD, Lib.join_cons, joinD, Lib.join_cons]
  simp [Lib.joinTail]
theorem pcs_join {d : UInt8} : ∀ (ps : List (List UInt8)), ps ≠ [] → (∀ p ∈ ps, d ∉ p) → pcs d (joinD d ps) = ps
  | [], h, _ => absurd rfl h
  | [p], _, h => by rw [joinD, Lib.join_one, pcs_plain (h p (by simp))]
  | p :: q :: ps, _, h => by
    rw [joinD_two, pcs_app _ (h p (by simp)), pcs_join (q :: ps) (by simp) fun x hx => h x (by simp [hx])]
theorem mem_pcs {d : UInt8} : ∀ {l p : List UInt8}, p ∈ pcs d l → d ∉ p ∧ ∀ c ∈ p, c ∈ l
  | [], p, h => by simp [pcs] at h; subst h; simp
  | c :: l, p, h => by
    unfold pcs at h
    by_cases e : c = d
    · rw [if_pos e] at h
      rcases List.mem_cons.1 h with rfl | h
      · simp
      · obtain ⟨h1, h2⟩ := mem_pcs h
        exact ⟨h1, fun x hx => List.mem_cons_of_mem _ (h2 x hx)⟩
    · rw [if_neg e] at h
      cases hp : pcs d l with
      | nil => exact absurd hp (pcs_ne d l)
      | cons q qs =>
        rw [hp] at h
        have hq := mem_pcs (l := l) (p := q) (by rw [hp]; simp)
        rcases List.mem_cons.1 h with rfl | h
        · exact ⟨by simp only [List.mem_cons, not_or]; exact ⟨fun x => e x.symm, hq.1⟩, fun x hx => by
            rcases List.mem_cons.1 hx with rfl | hx
            · simp
            · exact List.mem_cons_of_mem _ (hq.2 x hx)⟩
        · obtain ⟨h1, h2⟩ := mem_pcs (l := l) (p := p) (by rw [hp]; simp [h])
          exact ⟨h1, fun x hx => List.mem_cons_of_mem _ (h2 x hx)⟩
theorem pcs_total (d : UInt8) : ∀ l : List UInt8, ((pcs d l).map List.length).sum ≤ l.length
  | [] => by simp [pcs]
  | c :: l => by
    have ih := pcs_total d l
    unfold pcs
    by_cases e : c = d
    · rw [if_pos e]; simp; omega
    · rw [if_neg e]
      cases hp : pcs d l with
      | nil => exact absurd hp (pcs_ne d l)
      | cons q qs => rw [hp] at ih; simp at ih ⊢; omega

/-! ### Is it a text? -/

/-- No character of it is NUL, or none. -/
def good (l : List UInt8) : Bool := (chs l).all fun x => !(x.1 == 0) && !(x.1 == 65533 && x.2 == 1)
theorem good_nil : good [] = true := rfl
theorem good_cons {l : List UInt8} (h : l ≠ []) : good l = ((!((decL l).1 == 0) && !((decL l).1 == 65533 && (decL l).2 == 1)) && good (l.drop (decL l).2)) := by
  unfold good
  rw [chs_cons h, List.all_cons]
theorem good_parts {l : List UInt8} (h : l ≠ []) (hg : good l = true) : ¬ ((decL l).1 = 65533 ∧ (decL l).2 = 1) ∧ good (l.drop (decL l).2) = true := by
  rw [good_cons h] at hg
  simp only [Bool.and_eq_true, Bool.not_eq_true', Bool.and_eq_false_iff, beq_eq_false_iff_ne] at hg
  obtain ⟨⟨_, h1⟩, h2⟩ := hg
  exact ⟨fun ⟨a, b⟩ => by rcases h1 with h1 | h1 <;> simp_all, h2⟩

theorem decN_key {n b0 b1 b2 b3 : Nat} (h0 : b0 < 256) (h1 : b1 < 256) (h2 : b2 < 256) (h3 : b3 < 256) (g : ¬ ((Lib.decodeN n b0 b1 b2 b3).1 = 65533 ∧ (Lib.decodeN n b0 b1 b2 b3).2 = 1)) :
      ((Lib.decodeN n b0 b1 b2 b3).2 = 1 ∧ (Lib.decodeN n b0 b1 b2 b3).1 < 128 ∧ b0 = (Lib.decodeN n b0 b1 b2 b3).1) ∨
      ((Lib.decodeN n b0 b1 b2 b3).2 = 2 ∧ 128 ≤ (Lib.decodeN n b0 b1 b2 b3).1 ∧ (Lib.decodeN n b0 b1 b2 b3).1 < 2048 ∧ b0 = 192 + (Lib.decodeN n b0 b1 b2 b3).1 / 64 ∧ b1 = 128 + (Lib.decodeN n b0 b1 b2 b3).1 % 64) ∨
      ((Lib.decodeN n b0 b1 b2 b3).2 = 3 ∧ 2048 ≤ (Lib.decodeN n b0 b1 b2 b3).1 ∧ (Lib.decodeN n b0 b1 b2 b3).1 < 65536 ∧ b0 = 224 + (Lib.decodeN n b0 b1 b2 b3).1 / 4096 ∧ b1 = 128 + (Lib.decodeN n b0 b1 b2 b3).1 / 64 % 64 ∧ b2 = 128 + (Lib.decodeN n b0 b1 b2 b3).1 % 64) ∨
      ((Lib.decodeN n b0 b1 b2 b3).2 = 4 ∧ 65536 ≤ (Lib.decodeN n b0 b1 b2 b3).1 ∧ b0 = 240 + (Lib.decodeN n b0 b1 b2 b3).1 / 262144 ∧ b1 = 128 + (Lib.decodeN n b0 b1 b2 b3).1 / 4096 % 64 ∧ b2 = 128 + (Lib.decodeN n b0 b1 b2 b3).1 / 64 % 64 ∧ b3 = 128 + (Lib.decodeN n b0 b1 b2 b3).1 % 64) := by
  have no : ∀ e : Lib.decodeN n b0 b1 b2 b3 = (65533, 1), False := fun e => g (by rw [e]; exact ⟨rfl, rfl⟩)
  clear g
  by_cases a1 : b0 < 128
  · have e : Lib.decodeN n b0 b1 b2 b3 = (b0, 1) := by rw [Lib.decodeN, if_pos a1]
    rw [e]; exact .inl ⟨rfl, a1, rfl⟩
  by_cases a2 : b0 / 32 = 6 ∧ (1 < n ∧ b1 / 64 = 2)
  · by_cases a3 : b0 % 32 * 64 + b1 % 64 ≥ 128
    · have e : Lib.decodeN n b0 b1 b2 b3 = (b0 % 32 * 64 + b1 % 64, 2) := by rw [Lib.decodeN, if_neg a1, if_pos a2, if_pos a3]
      rw [e]; exact .inr (.inl ⟨rfl, by show 128 ≤ _; omega, by show _ < 2048; omega, by show b0 = 192 + (b0 % 32 * 64 + b1 % 64) / 64; omega, by show b1 = 128 + (b0 % 32 * 64 + b1 % 64) % 64; omega⟩)
    · exact (no (by rw [Lib.decodeN, if_neg a1, if_pos a2, if_neg a3])).elim
  by_cases a3 : b0 / 16 = 14 ∧ (1 < n ∧ b1 / 64 = 2) ∧ (2 < n ∧ b2 / 64 = 2)
  · by_cases a4 : b0 % 16 * 4096 + b1 % 64 * 64 + b2 % 64 ≥ 2048 ∧ (b0 % 16 * 4096 + b1 % 64 * 64 + b2 % 64 < 55296 ∨ (57344 ≤ b0 % 16 * 4096 + b1 % 64 * 64 + b2 % 64 ∧ b0 % 16 * 4096 + b1 % 64 * 64 + b2 % 64 ≤ 1114111))
    · have e : Lib.decodeN n b0 b1 b2 b3 = (b0 % 16 * 4096 + b1 % 64 * 64 + b2 % 64, 3) := by rw [Lib.decodeN, if_neg a1, if_neg a2, if_pos a3, if_pos a4]
      rw [e]; refine .inr (.inr (.inl ⟨rfl, ?_, ?_, ?_, ?_, ?_⟩)) <;> simp only <;> omega
    · exact (no (by rw [Lib.decodeN, if_neg a1, if_neg a2, if_pos a3, if_neg a4])).elim
  by_cases a4 : b0 / 8 = 30 ∧ (1 < n ∧ b1 / 64 = 2) ∧ (2 < n ∧ b2 / 64 = 2) ∧ (3 < n ∧ b3 / 64 = 2)
  · by_cases a5 : b0 % 8 * 262144 + b1 % 64 * 4096 + b2 % 64 * 64 + b3 % 64 ≥ 65536 ∧ (b0 % 8 * 262144 + b1 % 64 * 4096 + b2 % 64 * 64 + b3 % 64 < 55296 ∨ (57344 ≤ b0 % 8 * 262144 + b1 % 64 * 4096 + b2 % 64 * 64 + b3 % 64 ∧ b0 % 8 * 262144 + b1 % 64 * 4096 + b2 % 64 * 64 + b3 % 64 ≤ 1114111))
    · have e : Lib.decodeN n b0 b1 b2 b3 = (b0 % 8 * 262144 + b1 % 64 * 4096 + b2 % 64 * 64 + b3 % 64, 4) := by rw [Lib.decodeN, if_neg a1, if_neg a2, if_neg a3, if_pos a4, if_pos a5]
      rw [e]; refine .inr (.inr (.inr ⟨rfl, ?_, ?_, ?_, ?_, ?_⟩)) <;> simp only <;> omega
    · exact (no (by rw [Lib.decodeN, if_neg a1, if_neg a2, if_neg a3, if_pos a4, if_neg a5])).elim
  · exact (no (by rw [Lib.decodeN, if_neg a1, if_neg a2, if_neg a3, if_neg a4])).elim

theorem decL_bytes {l : List UInt8} (h : l ≠ []) (g : ¬ ((decL l).1 = 65533 ∧ (decL l).2 = 1)) :
    ((decL l).2 = 1 ∧ (decL l).1 = (l.getD 0 0).toNat) ∨ (128 ≤ (decL l).1 ∧ ∀ c ∈ l.take (decL l).2, 128 ≤ c.toNat) := by
  have hw := decL_width l h
  have hk := decN_key (n := l.length) (b0 := (l.getD 0 0).toNat) (b1 := (l.getD 1 0).toNat) (b2 := (l.getD 2 0).toNat) (b3 := (l.getD 3 0).toNat) (UInt8.toNat_lt _) (UInt8.toNat_lt _) (UInt8.toNat_lt _) (UInt8.toNat_lt _) g
  have e : decL l = Lib.decodeN l.length (l.getD 0 0).toNat (l.getD 1 0).toNat (l.getD 2 0).toNat (l.getD 3 0).toNat := rfl
  rw [← e] at hk
  clear e g
  generalize (decL l).2 = n at hk hw
  generalize (decL l).1 = r at hk
  have big : (∀ i, i < n → 128 ≤ (l.getD i 0).toNat) → ∀ c ∈ l.take n, 128 ≤ c.toNat := fun hn c hc => by
    obtain ⟨i, hi, rfl⟩ := List.getElem_of_mem hc
    rw [List.length_take] at hi
    have := hn i (by omega)
    rw [List.getElem_take]
    rwa [List.getD_eq_getElem?_getD, List.getElem?_eq_getElem (by omega), Option.getD_some] at this
  generalize hb0 : (l.getD 0 0).toNat = b0 at hk
  generalize hb1 : (l.getD 1 0).toNat = b1 at hk
  generalize hb2 : (l.getD 2 0).toNat = b2 at hk
  generalize hb3 : (l.getD 3 0).toNat = b3 at hk
  rcases hk with ⟨a, _, b⟩ | ⟨a, b, _, d, e⟩ | ⟨a, b, _, d, e, f⟩ | ⟨a, b, d, e, f, k⟩
  · exact .inl ⟨a, b.symm⟩
  · refine .inr ⟨b, big fun i hi => ?_⟩
    have : i = 0 ∨ i = 1 := by omega
    rcases this with rfl | rfl <;> omega
  · refine .inr ⟨by omega, big fun i hi => ?_⟩
    have : i = 0 ∨ i = 1 ∨ i = 2 := by omega
    rcases this with rfl | rfl | rfl <;> omega
  · refine .inr ⟨by omega, big fun i hi => ?_⟩
    have : i = 0 ∨ i = 1 ∨ i = 2 ∨ i = 3 := by omega
    rcases this with rfl | rfl | rfl | rfl <;> omega

/-! ### Names -/

def badR (r : Nat) : Bool := decide (r < 33) || r == 127 || r == 58 || r == 44 || r == 35 || r == 47
theorem badR_big {r : Nat} (h : 128 ≤ r) : badR r = false := by
  simp only [badR, Bool.or_eq_false_iff, decide_eq_false_iff_not, beq_eq_false_iff_ne]
  omega
theorem runes_bytes {l : List UInt8} (hg : good l = true) : ((runes l).all fun r => !badR r) = l.all fun c => !badR c.toNat := by
  generalize hn : l.length = n
  induction n using Nat.strongRecOn generalizing l with
  | _ n ih =>
    by_cases e : l = []
    · subst e; rfl
    · have hw := decL_width l e
      obtain ⟨h1, h2⟩ := good_parts e hg
      have hr := ih _ (by simp; omega) h2 rfl
      rw [runes_cons e, List.all_cons, hr]
      conv => rhs; rw [← List.take_append_drop (decL l).2 l, List.all_append]
      congr 1
      rcases decL_bytes e h1 with ⟨a, b⟩ | ⟨a, b⟩
      · rw [a, b]
        cases l with
        | nil => exact absurd rfl e
        | cons c l => simp
      · rw [badR_big a]
        symm
        rw [Bool.not_false, List.all_eq_true]
        intro c hc
        rw [badR_big (b c hc)]
        rfl
def nameF (l : List UInt8) : Bool := !(l == []) && decide (l.length ≤ 32) && good l && (runes l).all fun r => !badR r
theorem nameF_eq (l : List UInt8) : nameF l = (!(l == []) && decide (l.length ≤ 32) && good l && l.all fun c => !badR c.toNat) := by
  unfold nameF
  cases hg : good l
  · simp
  · rw [runes_bytes hg]
theorem nameF_facts {l : List UInt8} (h : nameF l = true) : l ≠ [] ∧ l.length ≤ 32 ∧ ∀ c ∈ l, c ≠ 58 ∧ c ≠ 44 ∧ c ≠ 10 ∧ c ≠ 35 := by
  rw [nameF_eq] at h
  simp only [Bool.and_eq_true, Bool.not_eq_true', beq_eq_false_iff_ne, decide_eq_true_eq, List.all_eq_true] at h
  obtain ⟨⟨⟨h1, h2⟩, h3⟩, h4⟩ := h
  refine ⟨h1, h2, fun c hc => ?_⟩
  have := h4 c hc
  refine ⟨?_, ?_, ?_, ?_⟩ <;> rintro rfl <;> revert this <;> decide
def keyF (l : List UInt8) : Bool := (l.all fun c => decide (33 ≤ c.toNat) && decide (c.toNat ≤ 126) && !(c.toNat == 58)) && decide (l.length ≤ 32)
/-- What is left to look at from the i-th place on. -/
def keyF' (l : List UInt8) (i : Nat) : Bool := ((l.drop i).all fun c => decide (33 ≤ c.toNat) && decide (c.toNat ≤ 126) && !(c.toNat == 58)) && decide (l.length ≤ 32)
theorem keyF_facts {l : List UInt8} (h : keyF l = true) : l.length ≤ 32 ∧ ∀ c ∈ l, c ≠ 58 ∧ c ≠ 10 := by
  simp only [keyF, Bool.and_eq_true, List.all_eq_true, decide_eq_true_eq] at h
  refine ⟨h.2, fun c hc => ?_⟩
  have := h.1 c hc
  refine ⟨?_, ?_⟩ <;> rintro rfl <;> revert this <;> decide

/-! ### Accounts -/

structure Acc where
  name : List UInt8
  leader : List UInt8
  members : List (List UInt8)
  key : List UInt8
theorem Acc.ext' {a b : Acc} (h1 : a.name = b.name) (h2 : a.leader = b.leader) (h3 : a.members = b.members) (h4 : a.key = b.key) : a = b := by
  cases a; cases b; simp_all
def formF (a : Acc) : Bool := nameF a.name && (a.leader == [] || nameF a.leader) && a.members.all nameF && keyF a.key
def membersF (l : List UInt8) : List (List UInt8) := if l = [] then [] else pcs 44 l
def rawF (l : List UInt8) : Acc := ⟨(pcs 58 l).getD 0 [], (pcs 58 l).getD 1 [], membersF ((pcs 58 l).getD 2 []), (pcs 58 l).getD 3 []⟩
def accF (l : List UInt8) : Option Acc := if (pcs 58 l).length = 4 ∧ formF (rawF l) = true then some (rawF l) else none
/-- An account as a line, but for its end. -/
def rowF (a : Acc) : List UInt8 := joinD 58 [a.name, a.leader, joinD 44 a.members, a.key]
def lineF (a : Acc) : List UInt8 := rowF a ++ [10]
def textF (L : List Acc) : List UInt8 := L.flatMap lineF
theorem mem_join {d : UInt8} : ∀ {ls : List (List UInt8)} {c : UInt8}, c ∈ joinD d ls → c = d ∨ ∃ p ∈ ls, c ∈ p
  | [], c, h => by simp [joinD, Lib.join] at h
  | [p], c, h => by rw [joinD, Lib.join_one] at h; exact .inr ⟨p, by simp, h⟩
  | p :: q :: ps, c, h => by
    rw [joinD_two] at h
    rcases List.mem_append.1 h with h | h
    · exact .inr ⟨p, by simp, h⟩
    rcases List.mem_cons.1 h with h | h
    · exact .inl h
    · rcases mem_join h with h | ⟨x, hx, hc⟩
      · exact .inl h
      · exact .inr ⟨x, by simp at hx ⊢; exact .inr hx, hc⟩
theorem joinD_nil_iff {ls : List (List UInt8)} {d : UInt8} (h : ∀ p ∈ ls, p ≠ []) : joinD d ls = [] ↔ ls = [] := by
  cases ls with
  | nil => simp [joinD, Lib.join]
  | cons p ps =>
    refine ⟨fun e => ?_, fun e => by cases e⟩
    rw [joinD, Lib.join_cons] at e
    exact absurd (List.append_eq_nil_iff.1 e).1 (h p (by simp))
theorem formF_facts {a : Acc} (h : formF a = true) : nameF a.name = true ∧ (a.leader = [] ∨ nameF a.leader = true) ∧ (∀ m ∈ a.members, nameF m = true) ∧ keyF a.key = true := by
  simp only [formF, Bool.and_eq_true, Bool.or_eq_true, beq_iff_eq, List.all_eq_true] at h
  exact ⟨h.1.1.1, h.1.1.2, h.1.2, h.2⟩
theorem members_join {ms : List (List UInt8)} (h : ∀ m ∈ ms, nameF m = true) : membersF (joinD 44 ms) = ms := by
  unfold membersF
  by_cases e : ms = []
  · subst e; rfl
  · rw [if_neg (fun x => e ((joinD_nil_iff fun p hp => (nameF_facts (h p hp)).1).1 x)), pcs_join ms e fun p hp hc => ((nameF_facts (h p hp)).2.2 _ hc).2.1 rfl]
theorem fields_free {a : Acc} (h : formF a = true) : ∀ p ∈ [a.name, a.leader, joinD 44 a.members, a.key], ∀ c ∈ p, c ≠ 58 ∧ c ≠ 10 := by
  obtain ⟨h1, h2, h3, h4⟩ := formF_facts h
  intro p hp c hc
  simp only [List.mem_cons, List.not_mem_nil, or_false] at hp
  rcases hp with rfl | rfl | rfl | rfl
  · have := (nameF_facts h1).2.2 c hc; exact ⟨this.1, this.2.2.1⟩
  · rcases h2 with h2 | h2
    · rw [h2] at hc; cases hc
    · have := (nameF_facts h2).2.2 c hc; exact ⟨this.1, this.2.2.1⟩
  · rcases mem_join hc with rfl | ⟨p, hp, hc⟩
    · decide
    · have := (nameF_facts (h3 p hp)).2.2 c hc; exact ⟨this.1, this.2.2.1⟩
  · exact (keyF_facts h4).2 c hc
theorem pcs_row {a : Acc} (h : formF a = true) : pcs 58 (rowF a) = [a.name, a.leader, joinD 44 a.members, a.key] :=
  pcs_join _ (by simp) fun p hp hc => (fields_free h p hp _ hc).1 rfl
theorem accF_row {a : Acc} (h : formF a = true) : accF (rowF a) = some a := by
  have hr : rawF (rowF a) = a := by
    unfold rawF
    rw [pcs_row h]
    exact Acc.ext' rfl rfl (members_join (formF_facts h).2.2.1) rfl
  unfold accF
  rw [hr, pcs_row h, if_pos ⟨rfl, h⟩]
theorem row_free {a : Acc} (h : formF a = true) : (10 : UInt8) ∉ rowF a := by
  intro hc
  rcases mem_join hc with e | ⟨p, hp, hc⟩
  · revert e; decide
  · exact (fields_free h p hp _ hc).2 rfl
theorem row_head {a : Acc} (h : formF a = true) : rowF a ≠ [] ∧ ((rowF a).getD 0 0).toNat ≠ 35 := by
  have h1 := nameF_facts (formF_facts h).1
  unfold rowF
  rw [joinD_two]
  cases hn : a.name with
  | nil => exact absurd hn h1.1
  | cons c n =>
    have := h1.2.2 c (by simp [hn])
    refine ⟨by simp, ?_⟩
    simp only [List.cons_append, List.getD_cons_zero]
    intro e
    exact this.2.2.2 (UInt8.toNat_inj.1 e)
theorem pcs_text : ∀ (L : List Acc), (∀ a ∈ L, formF a = true) → pcs 10 (textF L) = L.map rowF ++ [[]]
  | [], _ => rfl
  | a :: L, h => by
    show pcs 10 (lineF a ++ textF L) = _
    rw [lineF, List.append_assoc, List.singleton_append, pcs_app _ (row_free (h a (by simp))), pcs_text L fun x hx => h x (by simp [hx])]
    rfl

/-! ### Tables -/

def known (L : List Acc) (n : List UInt8) : Bool := L.any fun a => a.name == n
def namedF (L : List Acc) (a : Acc) : Bool := (a.leader == [] || known L a.leader) && a.members.all (known L)
def onceF (a : Acc) : Bool := decide a.members.Nodup
/-- Lines are read, from the n-th on. -/
def readF : List (List UInt8) → Nat → List Acc → List Nat → Except (Nat × Nat) (List Acc × List Nat)
  | [], _, L, P => .ok (L, P)
  | l :: ls, n, L, P =>
    if l = [] ∨ (l.getD 0 0).toNat = 35 then readF ls (n + 1) L P
    else match accF l with
      | none => .error (60, n)
      | some a => if known L a.name || !onceF a then .error (61, n) else readF ls (n + 1) (L ++ [a]) (P ++ [n])
def checkF (L : List Acc) : List (Acc × Nat) → Option Nat
  | [] => none
  | (a, p) :: r => if namedF L a then checkF L r else some p
def joinF (L : List Acc) : Bool := decide ((textF L).length ≤ 65536)
def endF (L : List Acc) (P : List Nat) : Except (Nat × Nat) (List Acc) :=
  match checkF L (L.zip P) with
  | some p => .error (62, p)
  | none => if joinF L then .ok L else .error (1, 0)
def parseF (s : List UInt8) : Except (Nat × Nat) (List Acc) :=
  if 65536 < s.length then .error (1, 0)
  else match readF (pcs 10 s) 1 [] [] with
    | .error e => .error e
    | .ok (L, P) => endF L P
/-- Accounts that a table may have. -/
def allF (L : List Acc) : Bool := L.all formF && L.all onceF && decide (L.map (·.name)).Nodup && L.all (namedF L)
def printF (L : List Acc) : Except Nat (List UInt8) :=
  if !(L.all formF) then .error 60
  else if !(L.all onceF && decide (L.map (·.name)).Nodup) then .error 61
  else if !(L.all (namedF L)) then .error 62
  else if joinF L then .ok (textF L) else .error 1

theorem known_iff {L : List Acc} {n : List UInt8} : known L n = true ↔ n ∈ L.map (·.name) := by
  simp [known, List.any_eq_true]
theorem known_false {L : List Acc} {n : List UInt8} : known L n = false ↔ n ∉ L.map (·.name) := by
  rw [← known_iff]; simp
theorem readF_rows : ∀ (L M : List Acc) (n : Nat) (P : List Nat) (T : List (List UInt8)), (∀ a ∈ L, formF a = true) → (∀ a ∈ L, onceF a = true) → ((M ++ L).map (·.name)).Nodup →
    readF (L.map rowF ++ T) n M P = readF T (n + L.length) (M ++ L) (P ++ List.range' n L.length)
  | [], M, n, P, T, _, _, _ => by simp
  | a :: L, M, n, P, T, h1, h2, h3 => by
    have ha := row_head (h1 a (by simp))
    have hk : known M a.name = false := by
      rw [known_false]
      intro hm
      rw [List.map_append, List.map_cons, List.nodup_append] at h3
      exact h3.2.2 _ hm _ (by simp) rfl
    rw [List.map_cons, List.cons_append, readF, if_neg (by simp only [not_or]; exact ha), accF_row (h1 a (by simp))]
    simp only [hk, h2 a (by simp), Bool.not_true, Bool.or_self, Bool.false_eq_true, if_false]
    rw [readF_rows L (M ++ [a]) (n + 1) (P ++ [n]) T (fun x hx => h1 x (by simp [hx])) (fun x hx => h2 x (by simp [hx])) (by simpa using h3)]
    simp only [List.append_assoc, List.singleton_append, List.length_cons, List.range'_succ, Nat.add_assoc, Nat.add_comm 1]
theorem checkF_none {L : List Acc} : ∀ {Z : List (Acc × Nat)}, (∀ x ∈ Z, namedF L x.1 = true) → checkF L Z = none
  | [], _ => rfl
  | (a, p) :: Z, h => by rw [checkF, if_pos (h (a, p) (by simp)), checkF_none fun x hx => h x (by simp [hx])]
/-- What Print writes, Parse reads. -/
theorem parse_print {L : List Acc} {s : List UInt8} (h : printF L = .ok s) : s = textF L ∧ parseF s = .ok L ∧ allF L = true ∧ joinF L = true := by
  unfold printF at h
  split at h
  · cases h
  split at h
  · cases h
  split at h
  · cases h
  split at h
  case isFalse => cases h
  rename_i h1 h2 h3 h4
  simp only [Bool.not_eq_true', Bool.not_eq_false, Bool.and_eq_true] at h1 h2 h3
  cases h
  have f1 := List.all_eq_true.1 h1
  have f2 := List.all_eq_true.1 h2.1
  have f3 := List.all_eq_true.1 h3
  have f4 := of_decide_eq_true h2.2
  refine ⟨rfl, ?_, by simp [allF, h1, h2.1, h2.2, h3], h4⟩
  have hl : ¬ 65536 < (textF L).length := by have := of_decide_eq_true h4; omega
  rw [parseF, if_neg hl, pcs_text L f1, readF_rows L [] 1 [] [[]] f1 f2 (by simpa using f4)]
  simp only [readF, List.nil_append, true_or, if_true]
  rw [endF, checkF_none fun x hx => f3 _ (List.of_mem_zip hx).1]
  simp only [h4, if_true]
end Go.Proofs.YtkijkoakloacoaaGreatDoor

namespace Go.Proofs.YtkijkoakloacoaaGreatDoor
open Go
set_option linter.unusedVariables false
set_option linter.unusedSimpArgs false

def findF (L : List Acc) (n : List UInt8) : Option Acc := L.find? fun a => a.name == n
def memberF (L : List Acc) (u g : List UInt8) : Bool := L.any fun a => a.name == g && (u == a.name || a.members.contains u)
def leadsF (L : List Acc) (u g : List UInt8) : Bool :=
  match findF L g with
  | none => false
  | some a => if !known L u then false else if a.leader = [] then memberF L u g else a.leader == u
def keyOf (L : List Acc) (u : List UInt8) : List UInt8 :=
  match findF L u with
  | none => []
  | some a => a.key
def groupsF (L : List Acc) (u : List UInt8) : List (List UInt8) := ((L.map (·.name)).filter fun g => memberF L u g).mergeSort fun x y => decide (x ≤ y)

/-- Where each name stands. -/
def atF (L : List Acc) : List (List UInt8 × Value) := L.zipIdx.map fun x => (x.1.name, .int .i64 (x.2 : Nat))
theorem atF_snoc (L : List Acc) (a : Acc) : atF (L ++ [a]) = atF L ++ [(a.name, .int .i64 (L.length : Nat))] := by
  simp [atF, List.zipIdx_append]

theorem known_find {L : List Acc} {n : List UInt8} : known L n = (findF L n).isSome := by
  rw [findF, List.isSome_find?]; rfl
theorem findF_mem {L : List Acc} {n : List UInt8} {a : Acc} (h : findF L n = some a) : a ∈ L ∧ a.name = n := by
  refine ⟨List.mem_of_find?_eq_some h, ?_⟩
  have := List.find?_some h
  simpa using this
theorem findF_of : ∀ {L : List Acc}, (L.map (·.name)).Nodup → ∀ {a : Acc}, a ∈ L → findF L a.name = some a
  | b :: L, hn, a, ha => by
    rw [List.map_cons, List.nodup_cons] at hn
    unfold findF
    rw [List.find?_cons]
    rcases List.mem_cons.1 ha with rfl | ha
    · simp
    · have : (b.name == a.name) = false := by
        simp only [beq_eq_false_iff_ne]
        exact fun e => hn.1 (e ▸ List.mem_map_of_mem (f := (·.name)) ha)
      rw [this]
      exact findF_of hn.2 ha
theorem memberF_of {L : List Acc} (hn : (L.map (·.name)).Nodup) {a : Acc} (ha : a ∈ L) (u : List UInt8) : memberF L u a.name = (u == a.name || a.members.contains u) := by
  rw [Bool.eq_iff_iff]
  unfold memberF
  rw [List.any_eq_true]
  constructor
  · rintro ⟨b, hb, h⟩
    simp only [Bool.and_eq_true, beq_iff_eq] at h
    have h1 := findF_of hn hb
    rw [h.1, findF_of hn ha] at h1
    cases h1
    exact h.2
  · intro h
    exact ⟨a, ha, by rw [h, Bool.and_true]; exact beq_self_eq_true _⟩
theorem leadsF_of {L : List Acc} (hn : (L.map (·.name)).Nodup) {a : Acc} (ha : a ∈ L) {u : List UInt8} (hu : known L u = true) : leadsF L u a.name = (if a.leader = [] then memberF L u a.name else a.leader == u) := by
  unfold leadsF
  rw [findF_of hn ha]
  simp [hu]
theorem keyOf_of {L : List Acc} (hn : (L.map (·.name)).Nodup) {a : Acc} (ha : a ∈ L) : keyOf L a.name = a.key := by
  unfold keyOf
  rw [findF_of hn ha]
theorem mem_groups {L : List Acc} {u g : List UInt8} : g ∈ groupsF L u ↔ g ∈ L.map (·.name) ∧ memberF L u g = true := by
  unfold groupsF
  rw [List.mem_mergeSort, List.mem_filter]
theorem le_total_bytes (a b : List UInt8) : (decide (a ≤ b) || decide (b ≤ a)) = true := by
  simp only [Bool.or_eq_true, decide_eq_true_eq]
  exact List.le_total a b
theorem groups_sorted (L : List Acc) (u : List UInt8) : (groupsF L u).Pairwise fun x y => x ≤ y := by
  have := List.pairwise_mergeSort (le := fun x y : List UInt8 => decide (x ≤ y)) (fun a b c h1 h2 => by simp only [decide_eq_true_eq] at *; exact List.le_trans h1 h2) le_total_bytes ((L.map (·.name)).filter fun g => memberF L u g)
  exact this.imp fun h => by simpa using h
theorem groups_nodup {L : List Acc} (hn : (L.map (·.name)).Nodup) (u : List UInt8) : (groupsF L u).Nodup :=
  (List.mergeSort_perm _ _).nodup_iff.2 (hn.filter _)
theorem groups_rise {L : List Acc} (hn : (L.map (·.name)).Nodup) (u : List UInt8) : (groupsF L u).Pairwise fun x y => x < y := by
  have h1 := groups_sorted L u
  have h2 := groups_nodup hn u
  rw [List.nodup_iff_pairwise_ne] at h2
  refine (h1.and h2).imp fun {x y} ⟨a, b⟩ => ?_
  by_cases h : x < y
  · exact h
  · exact absurd (List.le_antisymm a (List.not_lt.1 h)) b
theorem groups_length (L : List Acc) (u : List UInt8) : (groupsF L u).length = ((L.map (·.name)).filter fun g => memberF L u g).length := by
  unfold groupsF; rw [List.length_mergeSort]
theorem allF_facts {L : List Acc} (h : allF L = true) : (∀ a ∈ L, formF a = true) ∧ (∀ a ∈ L, onceF a = true) ∧ (L.map (·.name)).Nodup ∧ ∀ a ∈ L, namedF L a = true := by
  simp only [allF, Bool.and_eq_true, List.all_eq_true, decide_eq_true_eq] at h
  exact ⟨h.1.1.1, h.1.1.2, h.1.2, h.2⟩
theorem printF_ok {L : List Acc} (h : allF L = true) (hj : joinF L = true) : printF L = .ok (textF L) := by
  simp only [allF, Bool.and_eq_true] at h
  simp [printF, h.1.1.1, h.1.1.2, h.1.2, h.2, hj]
end Go.Proofs.YtkijkoakloacoaaGreatDoor

namespace Go.Proofs.YtkijkoakloacoaaGreatDoor
open Go
set_option linter.unusedVariables false
set_option linter.unusedSimpArgs false

theorem ixOf_sv (x : List UInt8) : ∀ (ks : List (List UInt8 × Value)) (i : Nat), ixOf (strOf x) (ks.map fun p => (strOf p.1, p.2)) i = ixOf x ks i
  | [], _ => rfl
  | (y, v) :: ks, i => by
    simp only [List.map_cons, ixOf]
    by_cases e : x = y
    · rw [if_pos e, if_pos (by rw [e])]
    · rw [if_neg e, if_neg (fun h => e (strOf_inj.1 h)), ixOf_sv x ks]
theorem KeyLaw.txt {P : Program} {kt : TypeId} (hu : P.underlying kt = some .string) : KeyLaw P kt sv := by
  have h := KeyLaw.str hu
  refine ⟨fun b w x => h.check b w (strOf x), fun w x l ks hl => ?_, fun x => h.same (strOf x)⟩
  have := h.find w (strOf x) l (ks.map fun p => (strOf p.1, p.2)) (by rw [hl, List.map_map]; rfl)
  rw [ixOf_sv] at this
  exact this
abbrev Pr := List UInt8 × List UInt8
def encPr (x : Pr) : Value := .agg #[sv x.1, sv x.2]
theorem KeyLaw.pair {P : Program} {kt : TypeId} (hk : flatE P kt = some [.str, .str]) : KeyLaw P kt encPr := by
  refine KeyLaw.agg (enc := fun x : Pr => [sv x.1, sv x.2]) hk fun x y => ?_
  simp only [leafEq]
  simp only [leafEq, Option.map_some, strOf_toList]
  obtain ⟨a, b⟩ := x
  obtain ⟨c, d⟩ := y
  simp only [Bool.and_true, Option.some.injEq, Prod.mk.injEq, strEq_beq, Bool.decide_and]

/-! ### Looked up behind a row of writings -/
section
variable {κ : Type} [DecidableEq κ]
theorem lk_upd (x y : κ) (v : Value) : ∀ l : List (κ × Value), lk x (upd y v l) = if x = y then some v else lk x l
  | [] => by simp [upd, lk]
  | (z, u) :: l => by
    by_cases h : y = z
    · subst h
      simp only [upd, if_true, lk]
      split <;> rfl
    · simp only [upd, h, if_false, lk, lk_upd x y v l]
      by_cases hx : x = z
      · have : ¬ x = y := fun e => h (by rw [← e, hx])
        simp [hx, Ne.symm h]
      · simp [hx]
theorem lk_isSome {x : κ} {l : List (κ × Value)} : (lk x l).isSome = true ↔ x ∈ l.map (·.1) := by
  induction l with
  | nil => simp [lk]
  | cons p l ih =>
    obtain ⟨y, v⟩ := p
    by_cases h : x = y
    · simp [lk, h]
    · simp only [lk, h, if_false, ih, List.map_cons, List.mem_cons, false_or]
end
end Go.Proofs.YtkijkoakloacoaaGreatDoor

namespace Go.Proofs.YtkijkoakloacoaaGreatDoor
open Go
set_option linter.unusedVariables false
set_option linter.unusedSimpArgs false

/-- The i-th one's name. -/
def nm (i : Nat) : List UInt8 := [117, UInt8.ofNat (97 + i % 26), UInt8.ofNat (97 + i / 26 % 26)]
theorem nm_good (i : Fin 30) : nameF (nm i.val) = true := by revert i; decide +kernel
theorem nm_name {i : Nat} (h : i < 30) : nameF (nm i) = true := nm_good ⟨i, h⟩
theorem nm_inj' : ∀ i k : Fin 30, nm i.val = nm k.val → i = k := by decide +kernel
theorem nm_inj {i k : Nat} (hi : i < 30) (hk : k < 30) (h : nm i = nm k) : i = k := by
  have := nm_inj' ⟨i, hi⟩ ⟨k, hk⟩ h
  simpa using this
theorem nm_len (i : Nat) : (nm i).length = 3 := rfl

/-- One of n accounts that are made. -/
structure MadeA (n i : Nat) (a : Acc) : Prop where
  name : a.name = nm i
  lead : a.leader = [] ∨ ∃ k, k < n ∧ a.leader = nm k
  mem : ∀ m ∈ a.members, ∃ k, k < n ∧ m = nm k
  once : a.members.Nodup
  key : keyF a.key = true
structure Made (L : List Acc) : Prop where
  few : L.length ≤ 30
  each : ∀ i (hi : i < L.length), MadeA L.length i L[i]

theorem nodup_len {α : Type} [DecidableEq α] : ∀ {l m : List α}, l.Nodup → (∀ x ∈ l, x ∈ m) → l.length ≤ m.length
  | [], m, _, _ => by simp
  | a :: l, m, h, hs => by
    rw [List.nodup_cons] at h
    have ha := hs a (by simp)
    have h1 := nodup_len (l := l) (m := m.erase a) h.2 fun x hx => by
      have hne : x ≠ a := fun e => h.1 (e ▸ hx)
      exact (List.mem_erase_of_ne hne).2 (hs x (by simp [hx]))
    rw [List.length_erase_of_mem ha] at h1
    have := List.length_pos_of_mem ha
    simp only [List.length_cons]
    omega
theorem MadeA.few {n i : Nat} {a : Acc} (h : MadeA n i a) : a.members.length ≤ n := by
  have := nodup_len (m := (List.range n).map nm) h.once fun m hm => by
    obtain ⟨k, hk, e⟩ := h.mem m hm
    exact List.mem_map.2 ⟨k, List.mem_range.2 hk, e.symm⟩
  simpa using this
theorem join_len (d : UInt8) : ∀ (ls : List (List UInt8)) (c : Nat), (∀ l ∈ ls, l.length ≤ c) → (joinD d ls).length ≤ ls.length * (c + 1)
  | [], c, _ => by simp [joinD, Lib.join]
  | [p], c, h => by have := h p (by simp); rw [joinD, Lib.join_one]; simp; omega
  | p :: q :: ls, c, h => by
    have h1 := h p (by simp)
    have h2 := join_len d (q :: ls) c fun l hl => h l (by simp at hl ⊢; exact .inr hl)
    rw [joinD_two]
    simp only [List.length_append, List.length_cons, Nat.add_mul] at h2 ⊢
    omega
theorem MadeA.row {n i : Nat} {a : Acc} (h : MadeA n i a) (hn : n ≤ 30) : (lineF a).length ≤ 200 := by
  have h1 := join_len 44 a.members 3 fun m hm => by obtain ⟨k, _, e⟩ := h.mem m hm; rw [e, nm_len]; exact Nat.le_refl _
  have h2 := h.few
  have h3 := (keyF_facts h.key).1
  have h4 : a.name.length = 3 := by rw [h.name, nm_len]
  have h5 : a.leader.length ≤ 3 := by
    rcases h.lead with e | ⟨k, _, e⟩
    · rw [e]; simp
    · rw [e, nm_len]; exact Nat.le_refl _
  have e : joinD 58 [a.key] = a.key := by rw [joinD, Lib.join_one]
  have h6 : a.members.length * 4 ≤ 120 := by omega
  unfold lineF rowF
  rw [joinD_two, joinD_two, joinD_two, e]
  simp
  omega
theorem Made.form {L : List Acc} (h : Made L) {i : Nat} (hi : i < L.length) : formF L[i] = true := by
  have m := h.each i hi
  have hf := h.few
  simp only [formF, Bool.and_eq_true, Bool.or_eq_true, beq_iff_eq, List.all_eq_true]
  refine ⟨⟨⟨?_, ?_⟩, ?_⟩, m.key⟩
  · rw [m.name]; exact nm_name (by omega)
  · rcases m.lead with e | ⟨k, hk, e⟩
    · exact .inl e
    · exact .inr (by rw [e]; exact nm_name (by omega))
  · intro x hx
    obtain ⟨k, hk, e⟩ := m.mem x hx
    rw [e]
    exact nm_name (by omega)
theorem Made.names {L : List Acc} (h : Made L) : L.map (·.name) = (List.range L.length).map nm := by
  apply List.ext_getElem
  · simp
  · intro i h1 h2
    simp only [List.getElem_map, List.getElem_range]
    exact (h.each i (by simpa using h1)).name
theorem Made.nodup {L : List Acc} (h : Made L) : (L.map (·.name)).Nodup := by
  rw [h.names]
  have hf := h.few
  rw [List.nodup_iff_pairwise_ne, List.pairwise_map]
  have := List.nodup_range (n := L.length)
  rw [List.nodup_iff_pairwise_ne] at this
  refine List.Pairwise.imp_of_mem (fun {a b} ha hb hne e => ?_) this
  exact hne (nm_inj (by have := List.mem_range.1 ha; omega) (by have := List.mem_range.1 hb; omega) e)
theorem Made.knows {L : List Acc} (h : Made L) {k : Nat} (hk : k < L.length) : known L (nm k) = true := by
  rw [known_iff, h.names]
  exact List.mem_map.2 ⟨k, List.mem_range.2 hk, rfl⟩
theorem Made.all {L : List Acc} (h : Made L) : allF L = true := by
  simp only [allF, Bool.and_eq_true, List.all_eq_true, decide_eq_true_eq]
  refine ⟨⟨⟨fun a ha => ?_, fun a ha => ?_⟩, h.nodup⟩, fun a ha => ?_⟩
  · obtain ⟨i, hi, rfl⟩ := List.getElem_of_mem ha
    exact h.form hi
  · obtain ⟨i, hi, rfl⟩ := List.getElem_of_mem ha
    exact decide_eq_true (h.each i hi).once
  · obtain ⟨i, hi, rfl⟩ := List.getElem_of_mem ha
    have m := h.each i hi
    simp only [namedF, Bool.and_eq_true, Bool.or_eq_true, beq_iff_eq, List.all_eq_true]
    refine ⟨?_, fun x hx => ?_⟩
    · rcases m.lead with e | ⟨k, hk, e⟩
      · exact .inl e
      · exact .inr (by rw [e]; exact h.knows hk)
    · obtain ⟨k, hk, e⟩ := m.mem x hx
      rw [e]
      exact h.knows hk
theorem text_len : ∀ (L : List Acc) (c : Nat), (∀ a ∈ L, (lineF a).length ≤ c) → (textF L).length ≤ L.length * c
  | [], c, _ => by simp [textF]
  | a :: L, c, h => by
    have h1 := h a (by simp)
    have h2 := text_len L c fun x hx => h x (by simp [hx])
    simp only [textF, List.flatMap_cons, List.length_append, List.length_cons, Nat.add_mul] at h2 ⊢
    omega
theorem Made.text {L : List Acc} (h : Made L) : (textF L).length ≤ 6000 := by
  have := text_len L 200 fun a ha => by
    obtain ⟨i, hi, rfl⟩ := List.getElem_of_mem ha
    exact (h.each i hi).row h.few
  have := h.few
  omega
theorem Made.join {L : List Acc} (h : Made L) : joinF L = true := decide_eq_true (by have := h.text; omega)
theorem Made.print {L : List Acc} (h : Made L) : printF L = .ok (textF L) := printF_ok h.all h.join
theorem Made.parse {L : List Acc} (h : Made L) : parseF (textF L) = .ok L := (parse_print h.print).2.1
theorem Made.unknown {L : List Acc} (h : Made L) {n : List UInt8} (hn : n.length ≠ 3) : known L n = false := by
  rw [known_false, h.names]
  intro hm
  obtain ⟨k, _, e⟩ := List.mem_map.1 hm
  rw [← e, nm_len] at hn
  exact hn rfl
end Go.Proofs.YtkijkoakloacoaaGreatDoor
