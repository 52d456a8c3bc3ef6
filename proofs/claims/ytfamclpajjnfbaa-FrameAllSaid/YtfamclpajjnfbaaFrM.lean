/- Contracts of a cutter in the document's terms. -/
import Derived.Test.YtfamclpajjnfbaaFrL
import Derived.Test.YtfamclpajjnfbaaFrH
namespace Go.Proofs.Ytfamclpajjnfbaa
open Go
set_option linter.unusedSimpArgs false
set_option linter.unusedVariables false
set_option maxRecDepth 100000

theorem RC.ok_put {r : RC} (h : r.ok) (ho : r.over = false) (hw : r.whole = false) (x : UInt8) (hb : r.bytes + 1 < 1152921504606846976) : (r.put x).ok := by
  unfold RC.put
  split
  · rename_i hc
    refine ⟨h.most, fun _ => by simp; omega, fun _ hx => (by cases hx), hb, ?_⟩
    have := h.cnt
    simp only [List.length_append, List.length_cons, List.length_nil]; omega
  · rename_i hc
    have hcnt := h.cnt
    refine ⟨h.most, fun hx => ?_, fun h4 _ => ?_, hb, ?_⟩
    · simp only at hx; rw [ho] at hx; cases hx
    · simp only [List.length_append, List.length_cons, List.length_nil] at h4 ⊢
      by_cases h3 : r.hand.length + 1 = 4
      · have : ¬ (sizeL (r.hand ++ [x]) < 7 ∨ r.most < sizeL (r.hand ++ [x])) := fun h => hc ⟨h3, h⟩
        have := h.most
        omega
      · have h5 : 4 ≤ r.hand.length := by omega
        obtain ⟨g1, g2, g3⟩ := h.good h5 ho
        have hz := sizeL_app r.hand h5 [x]
        have hne : r.hand.length ≠ sizeL r.hand := fun h => by
          have : r.whole = true := by unfold RC.whole; rw [ho, decide_eq_true h5, decide_eq_true h]; rfl
          rw [this] at hw; cases hw
        omega
    · simp only [List.length_append, List.length_cons, List.length_nil]; omega

theorem RC.ok_feed : ∀ (l : List UInt8) (r : RC), r.ok → r.bytes + l.length < 1152921504606846976 → (r.feed l).2.ok
  | [], r, h, _ => h
  | x :: l, r, h, hb => by
    rw [RC.feed]
    split
    · rename_i hc
      simp only [List.length_cons] at hb
      refine RC.ok_feed l (r.put x) (RC.ok_put h hc.1 hc.2 x (by omega)) ?_
      have : (r.put x).bytes = r.bytes + 1 := by unfold RC.put; split <;> rfl
      omega
    · exact h

theorem RC.feed_le (l : List UInt8) : ∀ (r : RC), (r.feed l).1 ≤ l.length ∧ (r.feed l).2.bytes = r.bytes + (r.feed l).1 ∧ (r.feed l).2.given = r.given ∧ (r.feed l).2.most = r.most := by
  induction l with
  | nil => intro r; exact ⟨Nat.le_refl _, rfl, rfl, rfl⟩
  | cons x l ih =>
    intro r
    rw [RC.feed]
    split
    · obtain ⟨a, b, c, d⟩ := ih (r.put x)
      have e1 : (r.put x).bytes = r.bytes + 1 := by unfold RC.put; split <;> rfl
      have e2 : (r.put x).given = r.given := by unfold RC.put; split <;> rfl
      have e3 : (r.put x).most = r.most := by unfold RC.put; split <;> rfl
      simp only [List.length_cons]
      exact ⟨by omega, by omega, by omega, by omega⟩
    · exact ⟨by simp, rfl, rfl, rfl⟩

theorem Sim.ok {m : Cut} {r : RC} (h : Sim m r) (hs : Shape m) (ok : r.ok) : m.ok := by
  obtain ⟨s1, s2⟩ := hs
  have hl := h.len s1
  refine ⟨s1, fun hh => ⟨?_, s2 hh⟩, fun hh hd => ?_, by rw [← h.bytes]; exact ok.bytes, ?_⟩
  · cases hd : m.dead with
    | false => rfl
    | true =>
      have := ok.over (by rw [h.over, hd])
      have hb := s2 hh
      rw [hb] at hl; simp at hl; omega
  · have := ok.good (by omega) (by rw [h.over, hd])
    rw [h.size hh] at this
    omega
  · have := ok.cnt
    rw [← h.bytes]; omega

theorem Sim.body_le {m : Cut} {r : RC} (h : Sim m r) (hs : Shape m) (ok : r.ok) : m.body.length ≤ 65536 := by
  obtain ⟨s1, s2⟩ := hs
  have hl := h.len s1
  by_cases hh : m.heads < 4
  · rw [s2 hh]; simp
  · cases hd : m.dead with
    | true => have := ok.over (by rw [h.over, hd]); omega
    | false => have := ok.good (by omega) (by rw [h.over, hd]); omega

/-- The cutter's own memory, in the document's terms. -/
def CutR (c : Nat) (r : RC) : HP := HP.ex fun m => HP.fact (Sim m r ∧ Shape m) (CutP c m)

theorem CutR.open {w0 w : World} {c : Nat} {r : RC} {F : HP} (h : St w0 (CutR c r * F) w) : ∃ m, Sim m r ∧ Shape m ∧ St w0 (CutP c m * F) w := by
  obtain ⟨m, h⟩ := h.exF
  obtain ⟨⟨h1, h2⟩, h⟩ := h.factF
  exact ⟨m, h1, h2, h⟩
theorem CutR.shut {w0 w : World} {c : Nat} {m : Cut} {r : RC} {F : HP} (h : St w0 (CutP c m * F) w) (h1 : Sim m r) (h2 : Shape m) : St w0 (CutR c r * F) w :=
  h.ent (Ent.sep ((Ent.fact ⟨h1, h2⟩ _).trans (Ent.ex (fun m => HP.fact (Sim m r ∧ Shape m) (CutP c m)) m)) (Ent.rfl' F))

theorem RC.ok_new {n : Nat} (hn : okLimit n = true) : (RC.new n).ok := by
  simp [okLimit] at hn
  exact ⟨by simp only [RC.new]; omega, fun h => (by cases h), fun h => (by simp [RC.new] at h), by simp [RC.new], by simp [RC.new]⟩

theorem newR_yes {w0 w : World} {F : HP} (h : St w0 F w) {n : Nat} (hn : okLimit n = true) : Calls Try.prog 11 #[.int .u32 n] w fun e w' => ∃ c, St w0 (CutR c (RC.new n) * F) w' ∧ e = .returned (.pointer (some ⟨c, 0, none⟩)) := by
  refine (new_yes h hn).mono ?_
  rintro e w' ⟨c, h1, rfl⟩
  exact ⟨c, CutR.shut h1 ⟨rfl, rfl, fun h => (by cases h), rfl, rfl, rfl⟩ ⟨by simp [Cut.new], fun _ => rfl⟩, rfl⟩

theorem feedR {w0 w : World} {F : HP} {c : Nat} {r : RC} {v : Value} {bs : List UInt8} (h : St w0 (CutR c r * F) w) (hr : Ent F (RdB v bs)) (ok : r.ok) (hl : bs.length < 1152921504606846976) :
    Calls Try.prog 20 #[.pointer (some ⟨c, 0, none⟩), v] w fun e w' => St w0 (CutR c (r.feed bs).2 * F) w' ∧ e = .returned (.int .i64 (r.feed bs).1) := by
  obtain ⟨m, h1, h2, h3⟩ := CutR.open h
  have := h1.body_le h2 ok
  refine (feed_any h3 hr (h1.ok h2 ok) (by omega) hl).mono ?_
  rintro e w' ⟨h4, rfl⟩
  obtain ⟨e1, e2, e3⟩ := feed_sim h1 (h1.ok h2 ok) bs
  exact ⟨CutR.shut h4 e2 e3, by rw [e1]⟩

theorem wholeR {w0 w : World} {F : HP} {c : Nat} {r : RC} (h : St w0 (CutR c r * F) w) (ok : r.ok) :
    Calls Try.prog 24 #[.pointer (some ⟨c, 0, none⟩)] w fun e w' => St w0 (CutR c r * F) w' ∧ e = .returned (.bool r.whole) := by
  obtain ⟨m, h1, h2, h3⟩ := CutR.open h
  have := h1.body_le h2 ok
  refine (whole_any h3 (by omega)).mono ?_
  rintro e w' ⟨h4, rfl⟩
  exact ⟨CutR.shut h4 h1 h2, by rw [h1.whole h2.1 h2.2]⟩

def RC.next (r : RC) : RC := { r with hand := [], given := r.given + 1 }

theorem RC.ok_next {r : RC} (h : r.ok) (hw : r.whole = true) : r.next.ok := by
  have hw2 := hw
  simp only [RC.whole, Bool.and_eq_true, decide_eq_true_eq, Bool.not_eq_true'] at hw2
  obtain ⟨⟨ho, h4⟩, hs⟩ := hw2
  obtain ⟨g1, g2, g3⟩ := h.good h4 ho
  have hcnt := h.cnt
  refine ⟨h.most, fun hx => ?_, fun hx => (by simp [RC.next] at hx), h.bytes, by simp only [RC.next, List.length_nil]; omega⟩
  simp only [RC.next] at hx; rw [ho] at hx; cases hx

theorem nextR_no {w0 w : World} {F : HP} {c : Nat} {r : RC} (h : St w0 (CutR c r * F) w) (ok : r.ok) (hw : r.whole = false) :
    Calls Try.prog 21 #[.pointer (some ⟨c, 0, none⟩)] w fun e w' => St w0 (CutR c r * F) w' ∧ e = .returned (.tuple #[.slice none 0 0, .bool false]) := by
  obtain ⟨m, h1, h2, h3⟩ := CutR.open h
  have := h1.body_le h2 ok
  refine (next_no h3 (by omega) (by rw [← h1.whole h2.1 h2.2]; exact hw)).mono ?_
  rintro e w' ⟨h4, rfl⟩
  exact ⟨CutR.shut h4 h1 h2, rfl⟩

theorem nextR_yes {w0 w : World} {F : HP} {c : Nat} {r : RC} (h : St w0 (CutR c r * F) w) (ok : r.ok) (hw : r.whole = true) :
    Calls Try.prog 21 #[.pointer (some ⟨c, 0, none⟩)] w fun e w' => ∃ v, St w0 (CutR c r.next * (Row 5 1 v r.hand.length (r.hand.map bv) * F)) w' ∧ e = .returned (.tuple #[v, .bool true]) := by
  obtain ⟨m, h1, h2, h3⟩ := CutR.open h
  have hb := h1.body_le h2 ok
  have hw1 : m.whole = true := by rw [← h1.whole h2.1 h2.2]; exact hw
  have hh : m.heads = 4 := by simp [Cut.whole] at hw1; exact hw1.1.2
  have hcnt := ok.cnt
  have hby := ok.bytes
  have hgv := h1.given
  refine (next_yes h3 (by omega) (by omega) hw1).mono ?_
  rintro e w' ⟨v, h4, rfl⟩
  have hf : m.frame = r.hand := by rw [h1.hand, hh]; rfl
  rw [hf] at h4
  refine ⟨v, CutR.shut h4 ⟨rfl, h1.over, h1.place, h1.bytes, ?_, h1.most⟩ ⟨by simp [Cut.next], fun _ => rfl⟩, rfl⟩
  simp only [RC.next, Cut.next]; rw [h1.given]

def RC.want (r : RC) : Nat := if r.over = true then 0 else if r.hand.length < 4 then 4 - r.hand.length else sizeL r.hand - r.hand.length

theorem wantR {w0 w : World} {F : HP} {c : Nat} {r : RC} (h : St w0 (CutR c r * F) w) (ok : r.ok) :
    Calls Try.prog 25 #[.pointer (some ⟨c, 0, none⟩)] w fun e w' => St w0 (CutR c r * F) w' ∧ e = .returned (.int .i64 r.want) := by
  obtain ⟨m, h1, h2, h3⟩ := CutR.open h
  have hb := h1.body_le h2 ok
  refine (want_any h3 (by omega)).mono ?_
  rintro e w' ⟨h4, rfl⟩
  refine ⟨CutR.shut h4 h1 h2, ?_⟩
  have hl := h1.len h2.1
  unfold RC.want
  rw [h1.over]
  by_cases hd : m.dead = true
  · simp [hd]
  · have hd' : m.dead = false := by simpa using hd
    simp only [hd', Bool.false_eq_true, if_false]
    by_cases hh : m.heads < 4
    · have := h2.2 hh
      rw [this] at hl
      simp only [List.length_nil] at hl
      rw [if_pos hh, if_pos (by omega)]
      congr 2; omega
    · have h4 : m.heads = 4 := by have := h2.1; omega
      have hg := ok.good (by omega) (by rw [h1.over]; simpa using hd)
      have hz := h1.size h4
      rw [if_neg hh, if_neg (by omega)]
      congr 2; omega

theorem deadR {w0 w : World} {F : HP} {c : Nat} {r : RC} (h : St w0 (CutR c r * F) w) :
    Calls Try.prog 23 #[.pointer (some ⟨c, 0, none⟩)] w fun e w' => St w0 (CutR c r * F) w' ∧
      e = .returned (.tuple #[.int .i64 (if r.over = true then 40 else 0), .int .i64 (if r.over = true then r.place else 0)]) := by
  obtain ⟨m, h1, h2, h3⟩ := CutR.open h
  refine (dead_any h3).mono ?_
  rintro e w' ⟨h4, rfl⟩
  refine ⟨CutR.shut h4 h1 h2, ?_⟩
  rw [h1.over]
  by_cases hd : m.dead = true
  · simp [hd, h1.place hd]
  · simp [hd]

theorem takenR {w0 w : World} {F : HP} {c : Nat} {r : RC} (h : St w0 (CutR c r * F) w) :
    Calls Try.prog 26 #[.pointer (some ⟨c, 0, none⟩)] w fun e w' => St w0 (CutR c r * F) w' ∧ e = .returned (.int .i64 r.given) := by
  obtain ⟨m, h1, h2, h3⟩ := CutR.open h
  refine (taken_any h3).mono ?_
  rintro e w' ⟨h4, rfl⟩
  exact ⟨CutR.shut h4 h1 h2, by rw [h1.given]⟩

theorem limitR {w0 w : World} {F : HP} {c : Nat} {r : RC} (h : St w0 (CutR c r * F) w) (n : Nat) :
    Calls Try.prog 22 #[.pointer (some ⟨c, 0, none⟩), .int .u32 n] w fun e w' => St w0 (CutR c (if okLimit n = true then { r with most := n } else r) * F) w' ∧ e = .returned (.int .i64 (if okLimit n = true then 0 else 1)) := by
  obtain ⟨m, h1, h2, h3⟩ := CutR.open h
  refine (setLimit_any h3 n).mono ?_
  rintro e w' (⟨hn, h4, rfl⟩ | ⟨hn, h4, rfl⟩)
  · simp only [hn]
    exact ⟨CutR.shut h4 h1 h2, rfl⟩
  · simp only [hn, if_true]
    exact ⟨CutR.shut h4 ⟨h1.hand, h1.over, h1.place, h1.bytes, h1.given, rfl⟩ h2, trivial⟩

end Go.Proofs.Ytfamclpajjnfbaa
