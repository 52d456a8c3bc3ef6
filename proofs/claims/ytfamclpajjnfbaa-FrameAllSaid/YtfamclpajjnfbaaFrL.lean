/- The plain law of cutters: byte by byte, as the document has it. -/
import Derived.Test.YtfamclpajjnfbaaFrF
namespace Go.Proofs.Ytfamclpajjnfbaa
open Go
set_option linter.unusedSimpArgs false
set_option linter.unusedVariables false

def sizeL (l : List UInt8) : Nat := size4 (l.getD 0 0) (l.getD 1 0) (l.getD 2 0) (l.getD 3 0)

/-- The document's cutter. -/
structure RC where
  most : Nat
  hand : List UInt8
  bytes : Nat
  given : Nat
  over : Bool
  place : Nat

def RC.new (n : Nat) : RC := ⟨n, [], 0, 0, false, 0⟩
def RC.whole (r : RC) : Bool := !r.over && decide (4 ≤ r.hand.length) && decide (r.hand.length = sizeL r.hand)
def RC.put (r : RC) (x : UInt8) : RC :=
  if r.hand.length + 1 = 4 ∧ (sizeL (r.hand ++ [x]) < 7 ∨ r.most < sizeL (r.hand ++ [x])) then { r with hand := r.hand ++ [x], bytes := r.bytes + 1, over := true, place := r.bytes + 1 - 4 }
  else { r with hand := r.hand ++ [x], bytes := r.bytes + 1 }
def RC.feed (r : RC) : List UInt8 → Nat × RC
  | [] => (0, r)
  | x :: l => if r.over = false ∧ r.whole = false then (((r.put x).feed l).1 + 1, ((r.put x).feed l).2) else (0, r)

/-- A cutter of the code is as one of the document's. -/
structure Sim (m : Cut) (r : RC) : Prop where
  hand : r.hand = [m.b0, m.b1, m.b2, m.b3].take m.heads ++ m.body
  over : r.over = m.dead
  place : m.dead = true → r.place = m.ahead
  bytes : r.bytes = m.ever
  given : r.given = m.taken
  most : r.most = m.limit

theorem Sim.len {m : Cut} {r : RC} (h : Sim m r) (h4 : m.heads ≤ 4) : r.hand.length = m.heads + m.body.length := by
  rw [h.hand]; simp; omega
theorem Sim.size {m : Cut} {r : RC} (h : Sim m r) (h4 : m.heads = 4) : sizeL r.hand = m.size := by
  rw [h.hand, h4]; rfl
theorem Sim.whole {m : Cut} {r : RC} (h : Sim m r) (h4 : m.heads ≤ 4) (hf : m.heads < 4 → m.body = []) : r.whole = m.whole := by
  unfold RC.whole Cut.whole
  rw [h.over, h.len h4]
  by_cases hh : m.heads = 4
  · rw [h.size hh, hh]; simp
  · have : m.body = [] := hf (by omega)
    simp [this, hh]
    intro _ h; omega

/-- .. while a call feeds it: n bytes have been taken that 'ever' does not tell yet. -/
structure SimN (m : Cut) (r : RC) (n : Nat) : Prop where
  hand : r.hand = [m.b0, m.b1, m.b2, m.b3].take m.heads ++ m.body
  over : r.over = m.dead
  place : m.dead = true → r.place = m.ahead
  bytes : r.bytes = m.ever + n
  given : r.given = m.taken
  most : r.most = m.limit

theorem SimN.put {m : Cut} {r : RC} {n : Nat} (h : SimN m r n) (hh : m.heads < 4) (hb : m.body = []) (hd : m.dead = false) (x : UInt8) : SimN (m.put n x) (r.put x) (n + 1) := by
  obtain ⟨limit, b0, b1, b2, b3, heads, body, ever, taken, dead, ahead⟩ := m
  obtain ⟨most, hand, bytes, given, over, place⟩ := r
  obtain ⟨h1, h2, h3, h4, h5, h6⟩ := h
  simp only at h1 h2 h3 h4 h5 h6 hh hb hd
  subst h1 h2 h4 h5 h6 hb hd
  rcases heads with _ | _ | _ | _ | heads
  · refine ⟨?_, ?_, ?_, ?_, ?_, ?_⟩ <;> simp [Cut.put, RC.put, Cut.setB] <;> omega
  · refine ⟨?_, ?_, ?_, ?_, ?_, ?_⟩ <;> simp [Cut.put, RC.put, Cut.setB] <;> omega
  · refine ⟨?_, ?_, ?_, ?_, ?_, ?_⟩ <;> simp [Cut.put, RC.put, Cut.setB] <;> omega
  · have hs : sizeL ([b0, b1, b2] ++ [x]) = Cut.size ⟨most, b0, b1, b2, x, 3, [], ever, given, false, ahead⟩ := rfl
    by_cases hc : Cut.size ⟨most, b0, b1, b2, x, 3, [], ever, given, false, ahead⟩ < 7 ∨ most < Cut.size ⟨most, b0, b1, b2, x, 3, [], ever, given, false, ahead⟩
    · have e1 : Cut.put ⟨most, b0, b1, b2, b3, 3, [], ever, given, false, ahead⟩ n x = ⟨most, b0, b1, b2, x, 4, [], ever, given, true, ever + (n + 1) - 4⟩ := by
        unfold Cut.put; rw [if_pos ⟨rfl, hc⟩]; rfl
      have e2 : RC.put ⟨most, [b0, b1, b2], ever + n, given, false, place⟩ x = ⟨most, [b0, b1, b2, x], ever + n + 1, given, true, ever + n + 1 - 4⟩ := by
        unfold RC.put; rw [if_pos ⟨rfl, hc⟩]; rfl
      have e0 : [b0, b1, b2, b3].take 3 ++ [] = [b0, b1, b2] := rfl
      simp only [Nat.zero_add, Nat.reduceAdd] at e1 e2 ⊢
      rw [e0, e1, e2]
      exact ⟨rfl, rfl, fun _ => by simp only; omega, by simp only; omega, rfl, rfl⟩
    · have e1 : Cut.put ⟨most, b0, b1, b2, b3, 3, [], ever, given, false, ahead⟩ n x = ⟨most, b0, b1, b2, x, 4, [], ever, given, false, ahead⟩ := by
        unfold Cut.put; rw [if_neg (fun h => hc h.2)]; rfl
      have e2 : RC.put ⟨most, [b0, b1, b2], ever + n, given, false, place⟩ x = ⟨most, [b0, b1, b2, x], ever + n + 1, given, false, place⟩ := by
        unfold RC.put; rw [if_neg (fun h => hc h.2)]; rfl
      have e0 : [b0, b1, b2, b3].take 3 ++ [] = [b0, b1, b2] := rfl
      simp only [Nat.zero_add, Nat.reduceAdd] at e1 e2 ⊢
      rw [e0, e1, e2]
      exact ⟨rfl, rfl, fun h => (by cases h), by simp only; omega, rfl, rfl⟩
  · omega

/-- Bytes behind a head that is right. -/
theorem sizeL_app (l : List UInt8) (h : 4 ≤ l.length) (x : List UInt8) : sizeL (l ++ x) = sizeL l := by
  unfold sizeL
  have : ∀ i, i < 4 → (l ++ x).getD i 0 = l.getD i 0 := fun i hi => by simp [List.getElem?_append_left (show i < l.length by omega)]
  rw [this 0 (by omega), this 1 (by omega), this 2 (by omega), this 3 (by omega)]

theorem RC.feed_body (l : List UInt8) : ∀ (r : RC), r.over = false → 4 ≤ r.hand.length → r.hand.length ≤ sizeL r.hand →
    r.feed l = (min l.length (sizeL r.hand - r.hand.length), { r with hand := r.hand ++ l.take (sizeL r.hand - r.hand.length), bytes := r.bytes + min l.length (sizeL r.hand - r.hand.length) }) := by
  induction l with
  | nil => intro r _ _ _; simp [RC.feed]
  | cons x l ih =>
    intro r ho h4 hs
    by_cases hw : r.hand.length = sizeL r.hand
    · have hw' : r.whole = true := by unfold RC.whole; rw [ho, decide_eq_true h4, decide_eq_true hw]; rfl
      have hz : sizeL r.hand - r.hand.length = 0 := by omega
      rw [RC.feed, if_neg (by rw [hw']; simp), hz]
      simp
    · have hw' : r.whole = false := by unfold RC.whole; rw [decide_eq_false hw]; simp
      have hp : r.put x = { r with hand := r.hand ++ [x], bytes := r.bytes + 1 } := by
        unfold RC.put; rw [if_neg (by omega)]
      have hz := sizeL_app r.hand h4 [x]
      have ih := ih (r.put x) (by rw [hp]; exact ho) (by rw [hp]; simp; omega) (by rw [hp]; simp only [hz, List.length_append, List.length_cons, List.length_nil]; omega)
      rw [RC.feed, if_pos ⟨ho, hw'⟩, ih, hp]
      simp only [hz, List.length_append, List.length_cons, List.length_nil]
      obtain ⟨k, hk⟩ : ∃ k, sizeL r.hand - r.hand.length = k + 1 := ⟨sizeL r.hand - r.hand.length - 1, by omega⟩
      have hk' : sizeL r.hand - (r.hand.length + (0 + 1)) = k := by omega
      rw [hk, hk', List.take_succ_cons, List.append_assoc, List.singleton_append]
      have e1 : min l.length k + 1 = min (l.length + 1) (k + 1) := by omega
      have e2 : r.bytes + 1 + min l.length k = r.bytes + min (l.length + 1) (k + 1) := by omega
      rw [e1, e2]

/-- What stands in a cutter's hand. -/
def Shape (m : Cut) : Prop := m.heads ≤ 4 ∧ (m.heads < 4 → m.body = [])

theorem feed_sim_aux : ∀ (l : List UInt8) (m : Cut) (r : RC) (n : Nat) (bs : List UInt8), SimN m r n → bs.drop n = l → n ≤ bs.length → m.heads ≤ 4 → (m.heads < 4 → m.dead = false ∧ m.body = []) → (m.heads = 4 → m.dead = false → 4 + m.body.length ≤ m.size) →
    n + (r.feed l).1 = ((m.fill n l).2.finish (m.fill n l).1 bs).1 ∧ Sim ((m.fill n l).2.finish (m.fill n l).1 bs).2 (r.feed l).2 ∧ Shape ((m.fill n l).2.finish (m.fill n l).1 bs).2 := by
  have tail : ∀ (l : List UInt8) (m : Cut) (r : RC) (n : Nat) (bs : List UInt8), SimN m r n → bs.drop n = l → n ≤ bs.length → (m.heads < 4 → l = []) → m.heads ≤ 4 → (m.heads < 4 → m.dead = false ∧ m.body = []) → (m.heads = 4 → m.dead = false → 4 + m.body.length ≤ m.size) →
      n + (r.feed l).1 = (m.finish n bs).1 ∧ Sim (m.finish n bs).2 (r.feed l).2 ∧ Shape (m.finish n bs).2 := by
    intro l m r n bs h hl hn hs h4 hf hw
    by_cases hx : m.dead = false ∧ m.heads = 4
    · obtain ⟨hd, hh⟩ := hx
      have hlen : r.hand.length = 4 + m.body.length := by rw [h.hand, hh]; simp; omega
      have hsz : sizeL r.hand = m.size := by rw [h.hand, hh]; rfl
      have hw' := hw hh hd
      rw [RC.feed_body l r (by rw [h.over, hd]) (by omega) (by omega), hsz, hlen]
      unfold Cut.finish
      rw [if_pos ⟨hd, hh⟩]
      have e1 : m.size - (4 + m.body.length) = m.size - 4 - m.body.length := by omega
      have e2 : l.length = bs.length - n := by rw [← hl]; simp
      rw [e1, e2]
      refine ⟨rfl, ⟨?_, h.over, h.place, ?_, h.given, h.most⟩, by simp only [Shape]; omega⟩
      · simp only
        rw [h.hand, hh, hl]
        simp only [List.append_assoc]
        congr 2
        rw [← e2]
        rcases Nat.le_total l.length (m.size - 4 - m.body.length) with hle | hle
        · rw [Nat.min_eq_left hle, List.take_of_length_le (Nat.le_refl _), List.take_of_length_le hle]
        · rw [Nat.min_eq_right hle]
      · simp only; rw [h.bytes]; omega
    · unfold Cut.finish
      rw [if_neg hx]
      have hr : r.feed l = (0, r) := by
        cases l with
        | nil => rfl
        | cons x l =>
          have hh : m.heads = 4 := by
            rcases Nat.lt_or_ge m.heads 4 with hlt | hge
            · cases hs hlt
            · omega
          have hd : m.dead = true := by cases hd : m.dead with
            | true => rfl
            | false => exact (hx ⟨hd, hh⟩).elim
          have : r.over = true := by rw [h.over, hd]
          simp [RC.feed, this]
      rw [hr]
      exact ⟨rfl, ⟨h.hand, h.over, h.place, h.bytes, h.given, h.most⟩, h4, fun hh => (hf hh).2⟩
  intro l
  induction l with
  | nil =>
    intro m r n bs h hl hn h4 hf hw
    exact tail [] m r n bs h hl hn (fun _ => rfl) h4 hf hw
  | cons x l ih =>
    intro m r n bs h hl hn h4 hf hw
    by_cases hx : m.heads < 4 ∧ m.dead = false
    · obtain ⟨hh, hd⟩ := hx
      obtain ⟨_, hb⟩ := hf hh
      have hlt : n < bs.length := by
        rcases Nat.lt_or_ge n bs.length with h | h
        · exact h
        · rw [List.drop_eq_nil_of_le h] at hl; cases hl
      have hl' : bs.drop (n + 1) = l := by
        have := List.drop_eq_getElem_cons hlt
        rw [this] at hl
        simp only [List.cons.injEq] at hl
        exact hl.2
      have hput := h.put hh hb hd x
      obtain ⟨q1, q2, q3, q4, q5, q6, q7⟩ := m.setB_rest m.heads x
      have hover : r.over = false := by rw [h.over, hd]
      have hnw : r.whole = false := by
        have : r.hand.length = m.heads := by rw [h.hand, hb]; simp; omega
        simp [RC.whole, this]; intro _ h5; omega
      simp only [Cut.fill, if_pos (And.intro hh hd), RC.feed, hover, hnw, and_self, if_true]
      have := ih (m.put n x) (r.put x) (n + 1) bs hput hl' (by omega) (by unfold Cut.put; split <;> simp only <;> omega)
        (fun hx4 => by
          unfold Cut.put at hx4 ⊢
          split
          · rename_i hc; rw [if_pos hc] at hx4; simp only at hx4; omega
          · exact ⟨q4.trans hd, q2.trans hb⟩)
        (fun hx4 hxd => by
          unfold Cut.put at hx4 hxd ⊢
          split
          · rename_i hc; rw [if_pos hc] at hxd; cases hxd
          · rename_i hc
            rw [if_neg hc] at hx4
            simp only at hx4 hc ⊢
            rw [q2, hb]
            show 4 + 0 ≤ (m.setB m.heads x).size
            omega)
      refine ⟨?_, this.2⟩
      rw [← this.1]; omega
    · have hfl : m.fill n (x :: l) = (n, m) := by simp only [Cut.fill, if_neg hx]
      rw [hfl]
      refine tail (x :: l) m r n bs h hl hn (fun hh => ?_) h4 hf hw
      exact (hx ⟨hh, (hf hh).1⟩).elim

/-- THE LAW: the code feeds as the document does. -/
theorem feed_sim {m : Cut} {r : RC} (h : Sim m r) (hm : m.ok) (bs : List UInt8) : (m.feed bs).1 = (r.feed bs).1 ∧ Sim (m.feed bs).2 (r.feed bs).2 ∧ Shape (m.feed bs).2 := by
  have := feed_sim_aux bs m r 0 bs ⟨h.hand, h.over, h.place, h.bytes, h.given, h.most⟩ (by simp) (by omega) hm.heads hm.few (fun a b => (hm.whole a b).2)
  unfold Cut.feed
  rw [← this.1]
  exact ⟨by omega, this.2⟩

/-! ### What a call of Feed takes -/

/-- Where a stream stops: behind a whole frame, behind a head that is wrong, at its end. -/
def stop (L : Nat) (t : List UInt8) : Nat := if t.length < 4 then t.length else if sizeL t < 7 ∨ L < sizeL t then 4 else min t.length (sizeL t)

structure RC.ok (r : RC) : Prop where
  most : r.most ≤ 65536
  over : r.over = true → r.hand.length = 4
  good : 4 ≤ r.hand.length → r.over = false → 7 ≤ sizeL r.hand ∧ sizeL r.hand ≤ 65536 ∧ r.hand.length ≤ sizeL r.hand
  bytes : r.bytes < 1152921504606846976
  cnt : r.hand.length + 7 * r.given ≤ r.bytes

/-- A head that is whole was right when it came to be. -/
def RC.fits (r : RC) : Prop := 4 ≤ r.hand.length → sizeL r.hand ≤ r.most

theorem stop_le (L : Nat) (t : List UInt8) : stop L t ≤ t.length := by unfold stop; split <;> (try split) <;> omega

theorem RC.feed_gen (l : List UInt8) : ∀ (r : RC), r.over = false → (4 ≤ r.hand.length → 7 ≤ sizeL r.hand ∧ sizeL r.hand ≤ r.most ∧ r.hand.length ≤ sizeL r.hand) →
    ∃ ov pl, r.feed l = (stop r.most (r.hand ++ l) - r.hand.length, { r with hand := (r.hand ++ l).take (stop r.most (r.hand ++ l)), bytes := r.bytes + (stop r.most (r.hand ++ l) - r.hand.length), over := ov, place := pl }) ∧
      r.hand.length ≤ stop r.most (r.hand ++ l) ∧
      ((ov = true ∧ 4 ≤ (r.hand ++ l).length ∧ (sizeL (r.hand ++ l) < 7 ∨ r.most < sizeL (r.hand ++ l)) ∧ r.hand.length < 4 ∧ pl = r.bytes - r.hand.length + (if r.bytes < r.hand.length then pl - (r.bytes - r.hand.length) else 0)) ∨
       (ov = false ∧ pl = r.place ∧ ((r.hand ++ l).length < 4 ∨ (7 ≤ sizeL (r.hand ++ l) ∧ sizeL (r.hand ++ l) ≤ r.most)))) := by
  induction l with
  | nil =>
    intro r ho hg
    refine ⟨false, r.place, ?_, ?_, .inr ⟨rfl, rfl, ?_⟩⟩
    · have : stop r.most (r.hand ++ []) = r.hand.length := by
        rw [List.append_nil]; unfold stop
        split
        · rfl
        · have := hg (by omega); rw [if_neg (by omega)]; omega
      rw [this]
      simp [RC.feed, ← ho]
    · rw [List.append_nil]; unfold stop
      split
      · omega
      · have := hg (by omega); rw [if_neg (by omega)]; omega
    · rw [List.append_nil]
      by_cases h4 : r.hand.length < 4
      · exact .inl h4
      · have := hg (by omega); exact .inr ⟨this.1, this.2.1⟩
  | cons x l ih =>
    intro r ho hg
    by_cases hw : r.whole = true
    · have hw2 := hw
      simp only [RC.whole, Bool.and_eq_true, decide_eq_true_eq] at hw2
      obtain ⟨⟨_, h4⟩, hs⟩ := hw2
      obtain ⟨g1, g2, g3⟩ := hg h4
      have hz := sizeL_app r.hand h4 (x :: l)
      have hst : stop r.most (r.hand ++ x :: l) = r.hand.length := by
        unfold stop
        rw [if_neg (by simp; omega), if_neg (by omega), hz]
        simp only [List.length_append]; omega
      refine ⟨false, r.place, ?_, by omega, .inr ⟨rfl, rfl, .inr (by omega)⟩⟩
      rw [RC.feed, if_neg (by rw [hw]; simp), hst]
      simp [← ho]
    · have hw' : r.whole = false := by simpa using hw
      have happ : r.hand ++ x :: l = (r.hand ++ [x]) ++ l := by simp
      by_cases hc : r.hand.length + 1 = 4 ∧ (sizeL (r.hand ++ [x]) < 7 ∨ r.most < sizeL (r.hand ++ [x]))
      · have hp : r.put x = { r with hand := r.hand ++ [x], bytes := r.bytes + 1, over := true, place := r.bytes + 1 - 4 } := by unfold RC.put; rw [if_pos hc]
        have hz : sizeL (r.hand ++ x :: l) = sizeL (r.hand ++ [x]) := by rw [happ]; exact sizeL_app _ (by simp; omega) l
        have hst : stop r.most (r.hand ++ x :: l) = 4 := by
          unfold stop
          rw [if_neg (by simp; omega), if_pos (by rw [hz]; exact hc.2)]
        refine ⟨true, r.bytes + 1 - 4, ?_, by omega, .inl ⟨rfl, by simp; omega, by rw [hz]; exact hc.2, by omega, ?_⟩⟩
        · rw [RC.feed, if_pos ⟨ho, hw'⟩, hst, hp]
          have hl : RC.feed { r with hand := r.hand ++ [x], bytes := r.bytes + 1, over := true, place := r.bytes + 1 - 4 } l = (0, { r with hand := r.hand ++ [x], bytes := r.bytes + 1, over := true, place := r.bytes + 1 - 4 }) := by
            cases l <;> simp [RC.feed]
          rw [hl]
          have e1 : (r.hand ++ x :: l).take 4 = r.hand ++ [x] := by
            rw [happ, List.take_append_of_le_length (by simp; omega)]
            exact List.take_of_length_le (by simp; omega)
          rw [e1]
          simp only [Prod.mk.injEq]
          refine ⟨by omega, ?_⟩
          congr 1
          omega
        · split <;> omega
      · have hp : r.put x = { r with hand := r.hand ++ [x], bytes := r.bytes + 1 } := by unfold RC.put; rw [if_neg hc]
        have hg' : 4 ≤ (r.put x).hand.length → 7 ≤ sizeL (r.put x).hand ∧ sizeL (r.put x).hand ≤ (r.put x).most ∧ (r.put x).hand.length ≤ sizeL (r.put x).hand := by
          rw [hp]
          simp only [List.length_append, List.length_cons, List.length_nil]
          intro h4
          by_cases h3 : r.hand.length + 1 = 4
          · have : ¬ (sizeL (r.hand ++ [x]) < 7 ∨ r.most < sizeL (r.hand ++ [x])) := fun h => hc ⟨h3, h⟩
            omega
          · have h5 : 4 ≤ r.hand.length := by omega
            obtain ⟨g1, g2, g3⟩ := hg h5
            have hz := sizeL_app r.hand h5 [x]
            have hne : r.hand.length ≠ sizeL r.hand := fun h => by
              apply hw; unfold RC.whole; rw [ho, decide_eq_true h5, decide_eq_true h]; rfl
            omega
        obtain ⟨ov, pl, e, hle, hor⟩ := ih (r.put x) (by rw [hp]; exact ho) hg'
        rw [hp] at e hle hor
        simp only at e hle hor
        rw [← happ] at e hle hor
        simp only [List.length_append, List.length_cons, List.length_nil] at hle
        refine ⟨ov, pl, ?_, by omega, ?_⟩
        · rw [RC.feed, if_pos ⟨ho, hw'⟩, hp, e]
          simp only [List.length_append, List.length_cons, List.length_nil, Prod.mk.injEq]
          refine ⟨by omega, ?_⟩
          congr 1
          omega
        · rcases hor with ⟨h1, h2, h3, h4, h5⟩ | ⟨h1, h2, h3⟩
          · simp only [List.length_append, List.length_cons, List.length_nil] at h4 h5
            exact .inl ⟨h1, h2, h3, by omega, by split <;> split at h5 <;> omega⟩
          · exact .inr ⟨h1, h2, h3⟩

end Go.Proofs.Ytfamclpajjnfbaa
