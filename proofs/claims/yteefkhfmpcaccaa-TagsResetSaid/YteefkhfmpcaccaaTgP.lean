/- The tags package: the plain law of requests and flushes, without a program. -/
import Derived.Test.YteefkhfmpcaccaaAl
namespace Go.Proofs.Yteefkhfmpcaccaa
open Go
set_option linter.unusedSimpArgs false
set_option linter.unusedVariables false

/-- A thing's phase: a request is open, cancelled (and freed), decided, answered, written; a flush waits, is in the row, is written. -/
inductive Ph where
  | op | ca | cf | de | an | dn | wa | fd | df
def Ph.fl : Ph → Bool | .wa | .fd | .df => true | _ => false
def Ph.cn : Ph → Bool | .ca | .cf => true | _ => false
def Ph.dc : Ph → Bool | .de | .an | .dn => true | _ => false
def Ph.ak : Ph → Bool | .an | .dn => true | _ => false
def Ph.wr : Ph → Bool | .dn | .df => true | _ => false
def Ph.inT : Ph → Bool | .cf | .dn | .df => false | _ => true
def Ph.stN : Ph → Int | .op => 1 | .ca => 2 | .de => 3 | .an => 4 | .wa => 5 | .fd => 6 | _ => 0
structure Ab where
  tag : Int
  nm : Option Nat
  ph : Ph
def setF (f : Nat → Ab) (k : Nat) (a : Ab) : Nat → Ab := fun j => if j = k then a else f j
theorem setF_self (f : Nat → Ab) (k : Nat) (a : Ab) : setF f k a k = a := by simp [setF]
theorem setF_ne {f : Nat → Ab} {k j : Nat} {a : Ab} (h : j ≠ k) : setF f k a j = f j := by simp [setF, h]
def phF (f : Nat → Ab) (k : Nat) (p : Ph) : Nat → Ab := setF f k { f k with ph := p }
theorem phF_ph (f : Nat → Ab) (k j : Nat) (p : Ph) : (phF f k p j).ph = if j = k then p else (f j).ph := by
  unfold phF setF; split <;> rfl
theorem phF_tag (f : Nat → Ab) (k j : Nat) (p : Ph) : (phF f k p j).tag = (f j).tag := by
  unfold phF setF; split
  · rename_i h; rw [h]
  · rfl
theorem phF_nm (f : Nat → Ab) (k j : Nat) (p : Ph) : (phF f k p j).nm = (f j).nm := by
  unfold phF setF; split
  · rename_i h; rw [h]
  · rfl

/-- What is so between two calls; x: one that is cancelled now; th: who is through, of those that wait from p on. -/
structure AInv (n : Nat) (f : Nat → Ab) (B : List Nat) (x : Option Nat) (th : List Nat) (p : Nat) : Prop where
  tg : ∀ k, k < n → 0 ≤ (f k).tag ∧ (f k).tag < 16
  nm : ∀ k y, k < n → (f k).nm = some y → y < k ∧ (f k).ph.fl = true
  uq : ∀ j k, j < n → k < n → (f j).ph.inT = true → (f k).ph.inT = true → (f j).tag = (f k).tag → j = k
  wa : ∀ k, k < n → (f k).ph = .wa → ∃ y, (f k).nm = some y ∧ ((f y).ph = .de ∨ (f y).ph = .wa ∨ (y ∈ th ∧ p ≤ k))
  ca : ∀ y, y < n → (f y).ph = .ca → (∃ k, k < n ∧ (f k).ph = .fd ∧ (f k).nm = some y) ∨ x = some y
  r1 : ∀ k, k ∈ B → k < n ∧ ((f k).ph = .an ∨ (f k).ph = .fd)
  r2 : ∀ k, k < n → ((f k).ph = .an ∨ (f k).ph = .fd) → k ∈ B
  nd : B.Nodup
  ord : ∀ i k y, B[i]? = some k → (f k).ph = .fd → (f k).nm = some y →
    ((f y).ph.cn = true ∨ (f y).ph.wr = true ∨ y ∈ B.take i) ∧ ∀ j, j < k → (f j).ph.fl = true → (f j).nm = some y → (f j).ph.wr = true ∨ j ∈ B.take i

abbrev AI (n : Nat) (f : Nat → Ab) (B : List Nat) : Prop := AInv n f B none [] 0

variable {n : Nat} {f : Nat → Ab} {B : List Nat}

/-- One's place in the row. -/
theorem take_app {B : List Nat} {i k m : Nat} (h : (B ++ [m])[i]? = some k) : (i < B.length ∧ B[i]? = some k ∧ (B ++ [m]).take i = B.take i) ∨ (i = B.length ∧ k = m ∧ (B ++ [m]).take i = B) := by
  by_cases hi : i < B.length
  · rw [List.getElem?_append_left hi] at h
    exact .inl ⟨hi, h, List.take_append_of_le_length (by omega)⟩
  · rw [List.getElem?_append_right (by omega)] at h
    have : i - B.length = 0 := by
      rcases Nat.eq_zero_or_pos (i - B.length) with e | e
      · exact e
      · rw [List.getElem?_eq_none (by simp; omega)] at h; cases h
    have hi' : i = B.length := by omega
    subst hi'
    simp at h
    exact .inr ⟨rfl, h.symm, by simp⟩

/-- A request is begun. -/
theorem AInv.begin (v : AI n f B) {t : Int} (ht : 0 ≤ t ∧ t < 16) (hf : ∀ k, k < n → (f k).ph.inT = true → (f k).tag ≠ t) : AI (n + 1) (setF f n ⟨t, none, .op⟩) B := by
  have old : ∀ k, k < n → setF f n ⟨t, none, .op⟩ k = f k := fun k hk => setF_ne (by omega)
  have new : setF f n ⟨t, none, .op⟩ n = ⟨t, none, .op⟩ := setF_self _ _ _
  have sp : ∀ k, k < n + 1 → k < n ∨ k = n := fun k h => by omega
  refine ⟨?_, ?_, ?_, ?_, ?_, ?_, ?_, v.nd, ?_⟩
  · intro k hk
    rcases sp k hk with h | rfl
    · rw [old k h]; exact v.tg k h
    · rw [new]; exact ht
  · intro k y hk
    rcases sp k hk with h | rfl
    · rw [old k h]; exact v.nm k y h
    · rw [new]; intro h; cases h
  · intro j k hj hk
    rcases sp j hj with h | rfl <;> rcases sp k hk with h' | rfl
    · rw [old j h, old k h']; exact v.uq j k h h'
    · rw [old j h, new]; intro a _ e; exact absurd e (hf j h a)
    · rw [old k h', new]; intro _ a e; exact absurd e.symm (hf k h' a)
    · intros; rfl
  · intro k hk
    rcases sp k hk with h | rfl
    · rw [old k h]
      intro hw
      obtain ⟨y, hy, hc⟩ := v.wa k h hw
      have := (v.nm k y h hy).1
      exact ⟨y, hy, by rw [old y (by omega)]; exact hc⟩
    · rw [new]; intro h; cases h
  · intro y hy
    rcases sp y hy with h | rfl
    · rw [old y h]
      intro hc
      rcases v.ca y h hc with ⟨k, hk, a, b⟩ | e
      · exact .inl ⟨k, by omega, by rw [old k hk]; exact a, by rw [old k hk]; exact b⟩
      · exact .inr e
    · rw [new]; intro h; cases h
  · intro k hk
    obtain ⟨a, b⟩ := v.r1 k hk
    rw [old k a]
    exact ⟨by omega, b⟩
  · intro k hk
    rcases sp k hk with h | rfl
    · rw [old k h]; exact v.r2 k h
    · rw [new]; rintro (h | h) <;> cases h
  · intro i k y hi
    have hk := (v.r1 k (List.mem_of_getElem? hi)).1
    rw [old k hk]
    intro a b
    have hy := (v.nm k y hk b).1
    obtain ⟨c, d⟩ := v.ord i k y hi a b
    rw [old y (by omega)]
    exact ⟨c, fun j hj => by rw [old j (by omega)]; exact d j hj⟩

/-- A flush is begun that waits. -/
theorem AInv.waits (v : AI n f B) {t : Int} {y : Nat} (ht : 0 ≤ t ∧ t < 16) (hf : ∀ k, k < n → (f k).ph.inT = true → (f k).tag ≠ t) (hy : y < n) (hp : (f y).ph = .de ∨ (f y).ph = .wa) : AI (n + 1) (setF f n ⟨t, some y, .wa⟩) B := by
  have old : ∀ k, k < n → setF f n ⟨t, some y, .wa⟩ k = f k := fun k hk => setF_ne (by omega)
  have new : setF f n ⟨t, some y, .wa⟩ n = ⟨t, some y, .wa⟩ := setF_self _ _ _
  have sp : ∀ k, k < n + 1 → k < n ∨ k = n := fun k h => by omega
  refine ⟨?_, ?_, ?_, ?_, ?_, ?_, ?_, v.nd, ?_⟩
  · intro k hk
    rcases sp k hk with h | rfl
    · rw [old k h]; exact v.tg k h
    · rw [new]; exact ht
  · intro k z hk
    rcases sp k hk with h | rfl
    · rw [old k h]; exact v.nm k z h
    · rw [new]; intro h; cases h; exact ⟨hy, rfl⟩
  · intro j k hj hk
    rcases sp j hj with h | rfl <;> rcases sp k hk with h' | rfl
    · rw [old j h, old k h']; exact v.uq j k h h'
    · rw [old j h, new]; intro a _ e; exact absurd e (hf j h a)
    · rw [old k h', new]; intro _ a e; exact absurd e.symm (hf k h' a)
    · intros; rfl
  · intro k hk
    rcases sp k hk with h | rfl
    · rw [old k h]
      intro hw
      obtain ⟨z, hz, hc⟩ := v.wa k h hw
      have := (v.nm k z h hz).1
      exact ⟨z, hz, by rw [old z (by omega)]; exact hc⟩
    · rw [new]; intro _; exact ⟨y, rfl, by rw [old y hy]; exact hp.elim .inl fun h => .inr (.inl h)⟩
  · intro z hz
    rcases sp z hz with h | rfl
    · rw [old z h]
      intro hc
      rcases v.ca z h hc with ⟨k, hk, a, b⟩ | e
      · exact .inl ⟨k, by omega, by rw [old k hk]; exact a, by rw [old k hk]; exact b⟩
      · exact .inr e
    · rw [new]; intro h; cases h
  · intro k hk
    obtain ⟨a, b⟩ := v.r1 k hk
    rw [old k a]
    exact ⟨by omega, b⟩
  · intro k hk
    rcases sp k hk with h | rfl
    · rw [old k h]; exact v.r2 k h
    · rw [new]; rintro (h | h) <;> cases h
  · intro i k z hi
    have hk := (v.r1 k (List.mem_of_getElem? hi)).1
    rw [old k hk]
    intro a b
    have hz := (v.nm k z hk b).1
    obtain ⟨c, d⟩ := v.ord i k z hi a b
    rw [old z (by omega)]
    exact ⟨c, fun j hj => by rw [old j (by omega)]; exact d j hj⟩

/-- A flush is begun that goes into the row at once. -/
theorem AInv.flushes {x : Option Nat} (v : AInv n f B x [] 0) {t : Int} {m : Option Nat} (ht : 0 ≤ t ∧ t < 16) (hf : ∀ k, k < n → (f k).ph.inT = true → (f k).tag ≠ t)
    (hx : ∀ z, x = some z → m = some z)
    (hm : ∀ y, m = some y → y < n ∧ ((f y).ph.cn = true ∨ (f y).ph.wr = true ∨ y ∈ B) ∧ ∀ j, j < n → (f j).ph.fl = true → (f j).nm = some y → (f j).ph.wr = true ∨ j ∈ B) : AI (n + 1) (setF f n ⟨t, m, .fd⟩) (B ++ [n]) := by
  have old : ∀ k, k < n → setF f n ⟨t, m, .fd⟩ k = f k := fun k hk => setF_ne (by omega)
  have new : setF f n ⟨t, m, .fd⟩ n = ⟨t, m, .fd⟩ := setF_self _ _ _
  have sp : ∀ k, k < n + 1 → k < n ∨ k = n := fun k h => by omega
  refine ⟨?_, ?_, ?_, ?_, ?_, ?_, ?_, ?_, ?_⟩
  · intro k hk
    rcases sp k hk with h | rfl
    · rw [old k h]; exact v.tg k h
    · rw [new]; exact ht
  · intro k z hk
    rcases sp k hk with h | rfl
    · rw [old k h]; exact v.nm k z h
    · rw [new]; intro h; exact ⟨(hm z h).1, rfl⟩
  · intro j k hj hk
    rcases sp j hj with h | rfl <;> rcases sp k hk with h' | rfl
    · rw [old j h, old k h']; exact v.uq j k h h'
    · rw [old j h, new]; intro a _ e; exact absurd e (hf j h a)
    · rw [old k h', new]; intro _ a e; exact absurd e.symm (hf k h' a)
    · intros; rfl
  · intro k hk
    rcases sp k hk with h | rfl
    · rw [old k h]
      intro hw
      obtain ⟨z, hz, hc⟩ := v.wa k h hw
      have := (v.nm k z h hz).1
      exact ⟨z, hz, by rw [old z (by omega)]; exact hc⟩
    · rw [new]; intro h; cases h
  · intro z hz
    rcases sp z hz with h | rfl
    · rw [old z h]
      intro hc
      rcases v.ca z h hc with ⟨k, hk, a, b⟩ | e
      · exact .inl ⟨k, by omega, by rw [old k hk]; exact a, by rw [old k hk]; exact b⟩
      · exact .inl ⟨n, by omega, by rw [new], by rw [new]; exact hx z e⟩
    · rw [new]; intro h; cases h
  · intro k hk
    rcases List.mem_append.1 hk with hk | hk
    · obtain ⟨a, b⟩ := v.r1 k hk
      rw [old k a]
      exact ⟨by omega, b⟩
    · simp only [List.mem_singleton] at hk
      subst hk
      rw [new]
      exact ⟨by omega, .inr rfl⟩
  · intro k hk
    rcases sp k hk with h | rfl
    · rw [old k h]; intro a; exact List.mem_append_left _ (v.r2 k h a)
    · intro _; simp
  · refine List.nodup_append.2 ⟨v.nd, by simp, ?_⟩
    intro a ha b hb e
    simp only [List.mem_singleton] at hb
    have := (v.r1 a ha).1
    omega
  · intro i k z hi
    rcases take_app hi with ⟨hl, hi', ht'⟩ | ⟨hl, rfl, ht'⟩
    · have hk := (v.r1 k (List.mem_of_getElem? hi')).1
      rw [old k hk, ht']
      intro a b
      have hz := (v.nm k z hk b).1
      obtain ⟨c, d⟩ := v.ord i k z hi' a b
      rw [old z (by omega)]
      exact ⟨c, fun j hj => by rw [old j (by omega)]; exact d j hj⟩
    · rw [new, ht']
      intro _ b
      obtain ⟨hz, c, d⟩ := hm z b
      rw [old z hz]
      exact ⟨c, fun j hj => by rw [old j hj]; exact d j hj⟩

/-- A request is cancelled (a flush is begun behind it). -/
theorem AInv.cancel (v : AI n f B) {y : Nat} (hy : y < n) (hp : (f y).ph = .op) : AInv n (phF f y .ca) B (some y) [] 0 := by
  have P := phF_ph f y (p := .ca)
  refine ⟨?_, ?_, ?_, ?_, ?_, ?_, ?_, v.nd, ?_⟩
  · intro k hk; rw [phF_tag]; exact v.tg k hk
  · intro k z hk
    rw [phF_nm, P]
    intro h
    obtain ⟨a, b⟩ := v.nm k z hk h
    refine ⟨a, ?_⟩
    split
    · rename_i e; rw [e, hp] at b; cases b
    · exact b
  · intro j k hj hk
    have q : ∀ k, (phF f y .ca k).ph.inT = true → (f k).ph.inT = true := by
      intro k; rw [P]; split
      · rename_i e; intro _; rw [e, hp]; rfl
      · exact id
    rw [phF_tag, phF_tag]
    intro a b
    exact v.uq j k hj hk (q j a) (q k b)
  · intro k hk
    rw [P, phF_nm]
    split
    · intro h; cases h
    · intro h
      obtain ⟨z, hz, hc⟩ := v.wa k hk h
      refine ⟨z, hz, ?_⟩
      rw [P]
      split
      · rename_i e; rw [e, hp] at hc; rcases hc with h | h | ⟨h, _⟩ <;> simp at h
      · exact hc
  · intro z hz
    rw [P]
    split
    · rename_i e; intro _; exact .inr (by rw [e])
    · intro h
      rcases v.ca z hz h with ⟨k, hk, a, b⟩ | e
      · refine .inl ⟨k, hk, ?_, by rw [phF_nm]; exact b⟩
        rw [P]; split
        · rename_i e; rw [e, hp] at a; cases a
        · exact a
      · cases e
  · intro k hk
    obtain ⟨a, b⟩ := v.r1 k hk
    refine ⟨a, ?_⟩
    rw [P]; split
    · rename_i e; rw [e, hp] at b; rcases b with b | b <;> cases b
    · exact b
  · intro k hk
    rw [P]; split
    · rintro (h | h) <;> cases h
    · exact v.r2 k hk
  · intro i k z hi
    rw [P, phF_nm]
    split
    · intro h; cases h
    · intro a b
      obtain ⟨c, d⟩ := v.ord i k z hi a b
      refine ⟨?_, fun j hj => ?_⟩
      · rw [P]; split
        · exact .inl rfl
        · exact c
      · rw [P, phF_nm]; split
        · intro h; cases h
        · exact d j hj

/-- A request is decided. -/
theorem AInv.decide (v : AI n f B) {y : Nat} (hy : y < n) (hp : (f y).ph = .op) : AI n (phF f y .de) B := by
  have P := phF_ph f y (p := .de)
  refine ⟨?_, ?_, ?_, ?_, ?_, ?_, ?_, v.nd, ?_⟩
  · intro k hk; rw [phF_tag]; exact v.tg k hk
  · intro k z hk
    rw [phF_nm, P]
    intro h
    obtain ⟨a, b⟩ := v.nm k z hk h
    refine ⟨a, ?_⟩
    split
    · rename_i e; rw [e, hp] at b; cases b
    · exact b
  · intro j k hj hk
    have q : ∀ k, (phF f y .de k).ph.inT = true → (f k).ph.inT = true := by
      intro k; rw [P]; split
      · rename_i e; intro _; rw [e, hp]; rfl
      · exact id
    rw [phF_tag, phF_tag]
    intro a b
    exact v.uq j k hj hk (q j a) (q k b)
  · intro k hk
    rw [P, phF_nm]
    split
    · intro h; cases h
    · intro h
      obtain ⟨z, hz, hc⟩ := v.wa k hk h
      refine ⟨z, hz, ?_⟩
      rw [P]
      split
      · exact .inl rfl
      · exact hc
  · intro z hz
    rw [P]
    split
    · intro h; cases h
    · intro h
      rcases v.ca z hz h with ⟨k, hk, a, b⟩ | e
      · refine .inl ⟨k, hk, ?_, by rw [phF_nm]; exact b⟩
        rw [P]; split
        · rename_i e; rw [e, hp] at a; cases a
        · exact a
      · cases e
  · intro k hk
    obtain ⟨a, b⟩ := v.r1 k hk
    refine ⟨a, ?_⟩
    rw [P]; split
    · rename_i e; rw [e, hp] at b; rcases b with b | b <;> cases b
    · exact b
  · intro k hk
    rw [P]; split
    · rintro (h | h) <;> cases h
    · exact v.r2 k hk
  · intro i k z hi
    rw [P, phF_nm]
    split
    · intro h; cases h
    · intro a b
      obtain ⟨c, d⟩ := v.ord i k z hi a b
      refine ⟨?_, fun j hj => ?_⟩
      · rw [P]; split
        · rename_i e; rw [e, hp] at c
          rcases c with c | c | c
          · cases c
          · cases c
          · obtain ⟨_, q⟩ := v.r1 y (List.mem_of_mem_take c)
            rw [hp] at q
            rcases q with q | q <;> cases q
        · exact c
      · rw [P, phF_nm]; split
        · intro h; cases h
        · exact d j hj

/-- A request that was decided is answered; those who wait for it are still to be told. -/
theorem AInv.answer (v : AI n f B) {y : Nat} (hy : y < n) (hp : (f y).ph = .de) : AInv n (phF f y .an) (B ++ [y]) none [y] 0 := by
  have P := phF_ph f y (p := .an)
  have hyB : y ∉ B := fun h => by
    obtain ⟨_, q⟩ := v.r1 y h
    rw [hp] at q
    rcases q with q | q <;> cases q
  refine ⟨?_, ?_, ?_, ?_, ?_, ?_, ?_, ?_, ?_⟩
  · intro k hk; rw [phF_tag]; exact v.tg k hk
  · intro k z hk
    rw [phF_nm, P]
    intro h
    obtain ⟨a, b⟩ := v.nm k z hk h
    refine ⟨a, ?_⟩
    split
    · rename_i e; rw [e, hp] at b; cases b
    · exact b
  · intro j k hj hk
    have q : ∀ k, (phF f y .an k).ph.inT = true → (f k).ph.inT = true := by
      intro k; rw [P]; split
      · rename_i e; intro _; rw [e, hp]; rfl
      · exact id
    rw [phF_tag, phF_tag]
    intro a b
    exact v.uq j k hj hk (q j a) (q k b)
  · intro k hk
    rw [P, phF_nm]
    split
    · intro h; cases h
    · intro h
      obtain ⟨z, hz, hc⟩ := v.wa k hk h
      refine ⟨z, hz, ?_⟩
      rw [P]
      split
      · rename_i e; exact .inr (.inr ⟨by simp [e], by omega⟩)
      · rcases hc with h | h | ⟨h, _⟩
        · exact .inl h
        · exact .inr (.inl h)
        · simp at h
  · intro z hz
    rw [P]
    split
    · intro h; cases h
    · intro h
      rcases v.ca z hz h with ⟨k, hk, a, b⟩ | e
      · refine .inl ⟨k, hk, ?_, by rw [phF_nm]; exact b⟩
        rw [P]; split
        · rename_i e; rw [e, hp] at a; cases a
        · exact a
      · cases e
  · intro k hk
    rcases List.mem_append.1 hk with hk | hk
    · obtain ⟨a, b⟩ := v.r1 k hk
      refine ⟨a, ?_⟩
      rw [P]; split
      · exact .inl rfl
      · exact b
    · simp only [List.mem_singleton] at hk
      subst hk
      exact ⟨hy, .inl (by rw [P, if_pos rfl])⟩
  · intro k hk
    rw [P]; split
    · rename_i e; intro _; simp [e]
    · intro a; exact List.mem_append_left _ (v.r2 k hk a)
  · refine List.nodup_append.2 ⟨v.nd, by simp, ?_⟩
    intro a ha b hb e
    simp only [List.mem_singleton] at hb
    subst hb e
    exact hyB ha
  · intro i k z hi
    rcases take_app hi with ⟨hl, hi', ht'⟩ | ⟨hl, rfl, ht'⟩
    · rw [P, phF_nm, ht']
      split
      · intro h; cases h
      · intro a b
        obtain ⟨c, d⟩ := v.ord i k z hi' a b
        refine ⟨?_, fun j hj => ?_⟩
        · rw [P]; split
          · rename_i e; rw [e, hp] at c
            rcases c with c | c | c
            · cases c
            · cases c
            · exact absurd (List.mem_of_mem_take c) hyB
          · exact c
        · rw [P, phF_nm]; split
          · intro h; cases h
          · exact d j hj
    · rw [P, if_pos rfl]
      intro h; cases h

/-- Going through those who wait: p is not told. -/
theorem AInv.skip {th : List Nat} {p : Nat} (v : AInv n f B none th p) (h : (f p).ph ≠ .wa ∨ ∀ y, (f p).nm = some y → y ∉ th) : AInv n f B none th (p + 1) := by
  refine ⟨v.tg, v.nm, v.uq, ?_, v.ca, v.r1, v.r2, v.nd, v.ord⟩
  intro k hk hw
  obtain ⟨y, hy, hc⟩ := v.wa k hk hw
  refine ⟨y, hy, ?_⟩
  rcases hc with c | c | ⟨c, d⟩
  · exact .inl c
  · exact .inr (.inl c)
  · refine .inr (.inr ⟨c, ?_⟩)
    rcases Nat.eq_or_lt_of_le d with e | e
    · subst e
      rcases h with h | h
      · exact absurd hw h
      · exact absurd c (h y hy)
    · exact e
/-- p is told. -/
theorem AInv.tell {th : List Nat} {p y : Nat} (v : AInv n f B none th p) (hth : ∀ z, z ∈ th → z ∈ B) (hp : p < n) (hw : (f p).ph = .wa) (hm : (f p).nm = some y) (hy : y ∈ th) : AInv n (phF f p .fd) (B ++ [p]) none (th ++ [p]) (p + 1) := by
  have P := phF_ph f p (p := .fd)
  have hyB : p ∉ B := fun h => by
    obtain ⟨_, q⟩ := v.r1 p h
    rw [hw] at q
    rcases q with q | q <;> cases q
  refine ⟨?_, ?_, ?_, ?_, ?_, ?_, ?_, ?_, ?_⟩
  · intro k hk; rw [phF_tag]; exact v.tg k hk
  · intro k z hk
    rw [phF_nm, P]
    intro h
    obtain ⟨a, b⟩ := v.nm k z hk h
    refine ⟨a, ?_⟩
    split
    · rfl
    · exact b
  · intro j k hj hk
    have q : ∀ k, (phF f p .fd k).ph.inT = true → (f k).ph.inT = true := by
      intro k; rw [P]; split
      · rename_i e; intro _; rw [e, hw]; rfl
      · exact id
    rw [phF_tag, phF_tag]
    intro a b
    exact v.uq j k hj hk (q j a) (q k b)
  · intro k hk
    rw [P, phF_nm]
    split
    · intro h; cases h
    · rename_i hkp
      intro h
      obtain ⟨z, hz, hc⟩ := v.wa k hk h
      refine ⟨z, hz, ?_⟩
      rw [P]
      have hzk := (v.nm k z hk hz).1
      split
      · rename_i e; exact .inr (.inr ⟨by simp [e], by omega⟩)
      · rcases hc with h | h | ⟨h, h'⟩
        · exact .inl h
        · exact .inr (.inl h)
        · exact .inr (.inr ⟨List.mem_append_left _ h, by omega⟩)
  · intro z hz
    rw [P]
    split
    · intro h; cases h
    · intro h
      rcases v.ca z hz h with ⟨k, hk, a, b⟩ | e
      · refine .inl ⟨k, hk, ?_, by rw [phF_nm]; exact b⟩
        rw [P]; split
        · rfl
        · exact a
      · cases e
  · intro k hk
    rcases List.mem_append.1 hk with hk | hk
    · obtain ⟨a, b⟩ := v.r1 k hk
      refine ⟨a, ?_⟩
      rw [P]; split
      · exact .inr rfl
      · exact b
    · simp only [List.mem_singleton] at hk
      subst hk
      exact ⟨hp, .inr (by rw [P, if_pos rfl])⟩
  · intro k hk
    rw [P]; split
    · rename_i e; intro _; simp [e]
    · intro a; exact List.mem_append_left _ (v.r2 k hk a)
  · refine List.nodup_append.2 ⟨v.nd, by simp, ?_⟩
    intro a ha b hb e
    simp only [List.mem_singleton] at hb
    subst hb e
    exact hyB ha
  · have wrs : ∀ k, (f k).ph.wr = true → (phF f p .fd k).ph.wr = true := by
      intro k; rw [P]; split
      · rename_i e; rw [e, hw]; intro h; cases h
      · exact id
    have cns : ∀ k, (f k).ph.cn = true → (phF f p .fd k).ph.cn = true := by
      intro k; rw [P]; split
      · rename_i e; rw [e, hw]; intro h; cases h
      · exact id
    have fls : ∀ k, (phF f p .fd k).ph.fl = true → (f k).ph.fl = true := by
      intro k; rw [P]; split
      · rename_i e; rw [e, hw]; intro _; rfl
      · exact id
    intro i k z hi
    rcases take_app hi with ⟨hl, hi', ht'⟩ | ⟨hl, rfl, ht'⟩
    · rw [phF_nm, ht']
      intro a b
      have hkB := List.mem_of_getElem? hi'
      have hkp : k ≠ p := fun e => hyB (e ▸ hkB)
      rw [P, if_neg hkp] at a
      obtain ⟨c, d⟩ := v.ord i k z hi' a b
      refine ⟨c.elim (fun c => .inl (cns _ c)) fun c => .inr (c.elim (fun c => .inl (wrs _ c)) .inr), fun j hj h1 h2 => ?_⟩
      rw [phF_nm] at h2
      exact (d j hj (fls j h1) h2).elim (fun c => .inl (wrs _ c)) .inr
    · rw [phF_nm, ht']
      intro _ b
      rw [hm] at b
      cases b
      refine ⟨.inr (.inr (hth y hy)), fun j hj h1 h2 => ?_⟩
      rw [phF_nm] at h2
      have hj' : (f j).ph.fl = true := fls j h1
      cases hph : (f j).ph <;> rw [hph] at hj' <;> try cases hj'
      · -- it waits: it would have been told
        obtain ⟨z, hz, hc⟩ := v.wa j (by omega) hph
        rw [h2] at hz
        cases hz
        obtain ⟨_, q⟩ := v.r1 y (hth y hy)
        rcases hc with h | h | ⟨_, h⟩
        · rw [h] at q; rcases q with q | q <;> cases q
        · rw [h] at q; rcases q with q | q <;> cases q
        · omega
      · exact .inr (v.r2 j (by omega) (.inr hph))
      · exact .inl (wrs j (by rw [hph]; rfl))
/-- All were gone through. -/
theorem AInv.told {th : List Nat} (v : AInv n f B none th n) : AI n f B := by
  refine ⟨v.tg, v.nm, v.uq, ?_, v.ca, v.r1, v.r2, v.nd, v.ord⟩
  intro k hk hw
  obtain ⟨y, hy, hc⟩ := v.wa k hk hw
  refine ⟨y, hy, ?_⟩
  rcases hc with c | c | ⟨_, c⟩
  · exact .inl c
  · exact .inr (.inl c)
  · omega

/-- The first of the row is a request's: it is written. -/
theorem AInv.wrote {k0 : Nat} (v : AI n f (k0 :: B)) (hp : (f k0).ph = .an) : AI n (phF f k0 .dn) B := by
  have P := phF_ph f k0 (p := .dn)
  have hnd := List.nodup_cons.1 v.nd
  refine ⟨?_, ?_, ?_, ?_, ?_, ?_, ?_, hnd.2, ?_⟩
  · intro k hk; rw [phF_tag]; exact v.tg k hk
  · intro k z hk
    rw [phF_nm, P]
    intro h
    obtain ⟨a, b⟩ := v.nm k z hk h
    refine ⟨a, ?_⟩
    split
    · rename_i e; rw [e, hp] at b; cases b
    · exact b
  · intro j k hj hk
    have q : ∀ k, (phF f k0 .dn k).ph.inT = true → (f k).ph.inT = true := by
      intro k; rw [P]; split
      · intro h; cases h
      · exact id
    rw [phF_tag, phF_tag]
    intro a b
    exact v.uq j k hj hk (q j a) (q k b)
  · intro k hk
    rw [P, phF_nm]
    split
    · intro h; cases h
    · intro h
      obtain ⟨z, hz, hc⟩ := v.wa k hk h
      refine ⟨z, hz, ?_⟩
      rw [P]
      split
      · rename_i e; rw [e, hp] at hc; rcases hc with h | h | ⟨h, _⟩ <;> simp at h
      · exact hc
  · intro z hz
    rw [P]
    split
    · intro h; cases h
    · intro h
      rcases v.ca z hz h with ⟨k, hk, a, b⟩ | e
      · refine .inl ⟨k, hk, ?_, by rw [phF_nm]; exact b⟩
        rw [P]; split
        · rename_i e; rw [e, hp] at a; cases a
        · exact a
      · cases e
  · intro k hk
    obtain ⟨a, b⟩ := v.r1 k (List.mem_cons_of_mem _ hk)
    refine ⟨a, ?_⟩
    have hne : k ≠ k0 := fun e => hnd.1 (by rw [e] at hk; exact hk)
    rw [P, if_neg hne]
    exact b
  · intro k hk
    rw [P]; split
    · rintro (h | h) <;> cases h
    · rename_i e; intro a; exact (List.mem_cons.1 (v.r2 k hk a)).resolve_left e
  · intro i k z hi
    rw [P, phF_nm]
    split
    · intro h; cases h
    · intro a b
      obtain ⟨c, d⟩ := v.ord (i + 1) k z (by simpa using hi) a b
      simp only [List.take_succ_cons, List.mem_cons] at c d
      refine ⟨?_, fun j hj => ?_⟩
      · rw [P]; split
        · exact .inr (.inl rfl)
        · rename_i e
          rcases c with c | c | c | c
          · exact .inl c
          · exact .inr (.inl c)
          · exact absurd c e
          · exact .inr (.inr c)
      · rw [P, phF_nm]; split
        · intro h; cases h
        · rename_i e
          intro h1 h2
          rcases d j hj h1 h2 with c | c | c
          · exact .inl c
          · exact absurd c e
          · exact .inr c
/-- The first of the row is a flush's: it is written; whom it cancelled is free. -/
theorem AInv.wroteF {k0 : Nat} (v : AI n f (k0 :: B)) (hp : (f k0).ph = .fd) (g : Nat → Ab)
    (hg : g = match (f k0).nm with | some y => if (f y).ph.cn = true then phF (phF f k0 .df) y .cf else phF f k0 .df | none => phF f k0 .df) : AI n g B := by
  have hk0 := (v.r1 k0 List.mem_cons_self).1
  have hnd := List.nodup_cons.1 v.nd
  have gt : ∀ k, (g k).tag = (f k).tag := by
    intro k; rw [hg]; split
    · split <;> simp only [phF_tag]
    · simp only [phF_tag]
  have gn : ∀ k, (g k).nm = (f k).nm := by
    intro k; rw [hg]; split
    · split <;> simp only [phF_nm]
    · simp only [phF_nm]
  have g0 : (g k0).ph = .df := by
    rw [hg]; split
    · rename_i y hy
      have := (v.nm k0 y hk0 hy).1
      split <;> simp only [phF_ph, if_true]
      rw [if_neg (by omega)]
    · simp only [phF_ph, if_true]
  have gp : ∀ k, k ≠ k0 → ((g k).ph = (f k).ph ∧ ((f k).ph = .ca → (f k0).nm ≠ some k)) ∨ ((f k).ph.cn = true ∧ (g k).ph = .cf) := by
    intro k hk; rw [hg]; split
    · rename_i y hy
      split
      · rename_i hc
        simp only [phF_ph, if_neg hk]
        by_cases e : k = y
        · subst e; rw [if_pos rfl]; exact .inr ⟨hc, rfl⟩
        · rw [if_neg e]; exact .inl ⟨rfl, fun _ h => e (by rw [hy] at h; exact (Option.some.inj h).symm)⟩
      · rename_i hc
        simp only [phF_ph, if_neg hk]
        refine .inl ⟨trivial, fun h h' => hc ?_⟩
        rw [hy] at h'
        cases h'
        rw [h]; rfl
    · rename_i hy
      simp only [phF_ph, if_neg hk]
      exact .inl ⟨trivial, fun _ h => by rw [hy] at h; cases h⟩
  have same : ∀ k q, k ≠ k0 → q ≠ Ph.cf → (g k).ph = q → (f k).ph = q := by
    intro k q hk hq h
    rcases gp k hk with ⟨e, _⟩ | ⟨_, e⟩
    · rw [← e]; exact h
    · rw [e] at h; exact absurd h.symm hq
  have fls : ∀ k, (g k).ph.fl = (f k).ph.fl := by
    intro k
    by_cases e : k = k0
    · rw [e, g0, hp]; rfl
    · rcases gp k e with ⟨h, _⟩ | ⟨h, h'⟩
      · rw [h]
      · rw [h']; cases hq : (f k).ph <;> rw [hq] at h <;> first | rfl | cases h
  have wrs : ∀ k, (f k).ph.wr = true → (g k).ph.wr = true := by
    intro k h
    by_cases e : k = k0
    · rw [e, g0]; rfl
    · rcases gp k e with ⟨h', _⟩ | ⟨h', _⟩
      · rw [h']; exact h
      · cases hq : (f k).ph <;> rw [hq] at h h' <;> first | (cases h; done) | (cases h'; done)
  have cns : ∀ k, (f k).ph.cn = true → (g k).ph.cn = true := by
    intro k h
    by_cases e : k = k0
    · rw [e, hp] at h; cases h
    · rcases gp k e with ⟨h', _⟩ | ⟨_, h'⟩
      · rw [h']; exact h
      · rw [h']; rfl
  refine ⟨?_, ?_, ?_, ?_, ?_, ?_, ?_, hnd.2, ?_⟩
  · intro k hk; rw [gt]; exact v.tg k hk
  · intro k z hk; rw [gn, fls]; exact v.nm k z hk
  · intro j k hj hk
    have q : ∀ k, (g k).ph.inT = true → (f k).ph.inT = true := by
      intro k h
      by_cases e : k = k0
      · rw [e, hp]; rfl
      · rcases gp k e with ⟨h', _⟩ | ⟨_, h'⟩
        · rw [← h']; exact h
        · rw [h'] at h; cases h
    rw [gt, gt]
    intro a b
    exact v.uq j k hj hk (q j a) (q k b)
  · intro k hk hw
    have hkk : k ≠ k0 := fun e => by rw [e, g0] at hw; cases hw
    have hw' := same k .wa hkk (fun h => by cases h) hw
    obtain ⟨z, hz, hc⟩ := v.wa k hk hw'
    refine ⟨z, by rw [gn]; exact hz, ?_⟩
    have hzk : z ≠ k0 := fun e => by rw [e, hp] at hc; rcases hc with h | h | ⟨h, _⟩ <;> simp at h
    rcases gp z hzk with ⟨h', _⟩ | ⟨h', _⟩
    · rw [h']; exact hc
    · rcases hc with h | h | ⟨h, _⟩
      · rw [h] at h'; cases h'
      · rw [h] at h'; cases h'
      · simp at h
  · intro z hz hc
    have hzk : z ≠ k0 := fun e => by rw [e, g0] at hc; cases hc
    have hc' := same z .ca hzk (fun h => by cases h) hc
    have hne : (f k0).nm ≠ some z := by
      rcases gp z hzk with ⟨_, h'⟩ | ⟨_, h'⟩
      · exact h' hc'
      · rw [h'] at hc; cases hc
    rcases v.ca z hz hc' with ⟨k, hk, a, b⟩ | e
    · have hkk : k ≠ k0 := fun e => hne (e ▸ b)
      refine .inl ⟨k, hk, ?_, by rw [gn]; exact b⟩
      rcases gp k hkk with ⟨h', _⟩ | ⟨h', _⟩
      · rw [h']; exact a
      · rw [a] at h'; cases h'
    · cases e
  · intro k hk
    obtain ⟨a, b⟩ := v.r1 k (List.mem_cons_of_mem _ hk)
    refine ⟨a, ?_⟩
    have hkk : k ≠ k0 := fun e => hnd.1 (e ▸ hk)
    rcases gp k hkk with ⟨h', _⟩ | ⟨h', _⟩
    · rw [h']; exact b
    · rcases b with b | b <;> rw [b] at h' <;> cases h'
  · intro k hk h
    have hkk : k ≠ k0 := fun e => by rw [e, g0] at h; rcases h with h | h <;> cases h
    have h' : (f k).ph = .an ∨ (f k).ph = .fd := h.elim (fun h => .inl (same k _ hkk (fun h => by cases h) h)) fun h => .inr (same k _ hkk (fun h => by cases h) h)
    exact (List.mem_cons.1 (v.r2 k hk h')).resolve_left hkk
  · intro i k z hi a b
    rw [gn] at b
    have hkk : k ≠ k0 := fun e => by rw [e, g0] at a; cases a
    have a' := same k _ hkk (fun h => by cases h) a
    obtain ⟨c, d⟩ := v.ord (i + 1) k z (by simpa using hi) a' b
    simp only [List.take_succ_cons, List.mem_cons] at c d
    refine ⟨?_, fun j hj h1 h2 => ?_⟩
    · rcases c with c | c | c | c
      · exact .inl (cns _ c)
      · exact .inr (.inl (wrs _ c))
      · exact .inr (.inl (by rw [c, g0]; rfl))
      · exact .inr (.inr c)
    · rw [fls] at h1
      rw [gn] at h2
      rcases d j hj h1 h2 with c | c | c
      · exact .inl (wrs _ c)
      · exact .inl (by rw [c, g0]; rfl)
      · exact .inr c

/-- What is written first. -/
theorem AInv.first {k0 y : Nat} (v : AI n f (k0 :: B)) (hp : (f k0).ph = .fd) (hy : (f k0).nm = some y) :
    ((f y).ph.cn = true ∨ (f y).ph.wr = true) ∧ ∀ j, j < k0 → (f j).ph.fl = true → (f j).nm = some y → (f j).ph.wr = true := by
  obtain ⟨c, d⟩ := v.ord 0 k0 y rfl hp hy
  simp only [List.take_zero, List.not_mem_nil, or_false] at c d
  exact ⟨c, d⟩
/-- Nothing is open or only decided: no flush waits. -/
theorem AInv.noWait (v : AI n f B) (h : ∀ k, k < n → (f k).ph ≠ .op ∧ (f k).ph ≠ .de) : ∀ k, k < n → (f k).ph ≠ .wa := by
  intro k
  induction k using Nat.strongRecOn with
  | ind k ih =>
    intro hk hw
    obtain ⟨y, hy, hc⟩ := v.wa k hk hw
    have hyk := (v.nm k y hk hy).1
    rcases hc with c | c | ⟨c, _⟩
    · exact (h y (by omega)).2 c
    · exact ih y hyk (by omega) c
    · simp at c
/-- And nothing in the row: all is at its end. -/
theorem AInv.atEnd (v : AI n f []) (h : ∀ k, k < n → (f k).ph ≠ .op ∧ (f k).ph ≠ .de) {k : Nat} (hk : k < n) : (f k).ph = .cf ∨ (f k).ph = .dn ∨ (f k).ph = .df := by
  have hw := v.noWait h k hk
  obtain ⟨h1, h2⟩ := h k hk
  have h3 : (f k).ph ≠ .an := fun e => by have := v.r2 k hk (.inl e); simp at this
  have h4 : ∀ k, k < n → (f k).ph ≠ .fd := fun k hk e => by have := v.r2 k hk (.inr e); simp at this
  have h5 : (f k).ph ≠ .ca := fun e => by
    rcases v.ca k hk e with ⟨j, hj, a, _⟩ | e
    · exact h4 j hj a
    · cases e
  have h4 := h4 k hk
  cases hq : (f k).ph <;> simp [hq] at h1 h2 h3 h4 h5 hw ⊢

end Go.Proofs.Yteefkhfmpcaccaa
