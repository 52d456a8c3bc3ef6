/- FrameChunks: the plain law. -/
import Derived.Test.YtfamclpajjnfbaaFrN
namespace Go.Proofs.Ytfamclpajjnfbaa
open Go
set_option linter.unusedSimpArgs false
set_option linter.unusedVariables false

/-- What a cutter is behind the first 'at' bytes of b, when the frames 'got' have been taken. -/
structure CInv (L : Nat) (b : List UInt8) (got : List (List UInt8)) (at_ : Nat) (r : RC) : Prop where
  le : at_ ≤ b.length
  split : b.take at_ = got.flatten ++ r.hand
  frames : ∀ f ∈ got, IsFrame L f
  most : r.most = L
  given : r.given = got.length
  bytes : r.bytes = at_
  ok : r.ok
  dead : r.over = true → r.hand.length = 4 ∧ (sizeL r.hand < 7 ∨ L < sizeL r.hand) ∧ r.place = got.flatten.length
  live : r.over = false → 4 ≤ r.hand.length → 7 ≤ sizeL r.hand ∧ sizeL r.hand ≤ L ∧ r.hand.length ≤ sizeL r.hand

theorem CInv.new {L : Nat} (hL : okLimit L = true) (b : List UInt8) : CInv L b [] 0 (RC.new L) :=
  ⟨Nat.zero_le _, by simp [RC.new], by simp, rfl, rfl, rfl, RC.ok_new hL, fun h => (by cases h), fun _ h => (by simp [RC.new] at h)⟩

theorem CInv.len {L : Nat} {b : List UInt8} {got : List (List UInt8)} {at_ : Nat} {r : RC} (h : CInv L b got at_ r) : got.flatten.length + r.hand.length = at_ := by
  have := congrArg List.length h.split
  simp only [List.length_take, List.length_append] at this
  have := h.le
  omega

theorem frames_count {L : Nat} : ∀ (fs : List (List UInt8)), (∀ f ∈ fs, IsFrame L f) → 7 * fs.length ≤ fs.flatten.length
  | [], _ => by simp
  | f :: fs, h => by
    have := frames_count fs fun g hg => h g (by simp [hg])
    have := (h f (by simp)).low
    simp only [List.length_cons, List.flatten_cons, List.length_append]
    omega

/-- A chunk is fed. -/
theorem CInv.feed {L : Nat} {b : List UInt8} {got : List (List UInt8)} {at_ n : Nat} {r : RC} (h : CInv L b got at_ r) (hn : at_ + n ≤ b.length) (hb : b.length < 1152921504606846976) :
    (r.feed ((b.drop at_).take n)).1 ≤ n ∧ CInv L b got (at_ + (r.feed ((b.drop at_).take n)).1) (r.feed ((b.drop at_).take n)).2 ∧
      ((r.feed ((b.drop at_).take n)).1 < n → (r.feed ((b.drop at_).take n)).2.whole = false → (r.feed ((b.drop at_).take n)).2.over = true) := by
  have hcl : ((b.drop at_).take n).length = n := by simp; omega
  obtain ⟨c, hc⟩ : ∃ c, c = (b.drop at_).take n := ⟨_, rfl⟩
  rw [← hc] at hcl ⊢
  have hbytes := h.bytes
  have hlen := h.len
  have hok := RC.ok_feed c r h.ok (by omega)
  obtain ⟨f1, f2, f3, f4⟩ := RC.feed_le c r
  cases ho : r.over with
  | true =>
    have hz : r.feed c = (0, r) := by cases c <;> simp [RC.feed, ho]
    rw [hz]
    exact ⟨Nat.zero_le _, h, fun _ _ => ho⟩
  | false =>
    obtain ⟨ov, pl, e, hle, hor⟩ := RC.feed_gen c r ho (by rw [h.most]; exact h.live ho)
    rw [h.most] at e hle hor
    have hsl := stop_le L (r.hand ++ c)
    have htl : (r.hand ++ c).length = r.hand.length + n := by rw [List.length_append, hcl]
    obtain ⟨k, hk⟩ : ∃ k, stop L (r.hand ++ c) = r.hand.length + k := ⟨stop L (r.hand ++ c) - r.hand.length, by omega⟩
    have hhand : (r.hand ++ c).take (stop L (r.hand ++ c)) = r.hand ++ c.take k := by
      rw [hk, List.take_append, List.take_of_length_le (by omega)]
      congr 2; omega
    have hkn : k ≤ n := by omega
    rw [hhand, hk] at e
    simp only [Nat.add_sub_cancel_left] at e
    rw [e] at hok f2 f3 f4 ⊢
    simp only at hok f2 f3 f4 ⊢
    have hz : ∀ j, 4 ≤ r.hand.length + j → j ≤ n → sizeL (r.hand ++ c.take j) = sizeL (r.hand ++ c) := fun j hj hjn => by
      have := sizeL_app (r.hand ++ c.take j) (by simp; omega) (c.drop j)
      rw [List.append_assoc, List.take_append_drop] at this
      exact this.symm
    have hsp : b.take (at_ + k) = got.flatten ++ (r.hand ++ c.take k) := by
      rw [← List.append_assoc, ← h.split, List.take_add, hc, List.take_take, Nat.min_eq_left hkn]
    have hst := hk
    unfold stop at hst
    rw [htl] at hst
    refine ⟨hkn, ⟨by omega, hsp, h.frames, rfl, h.given, by simp only; omega, hok, fun hov => ?_, fun hov h4 => ?_⟩, fun hlt hw => ?_⟩
    · simp only at hov
      rcases hor with ⟨_, g2, g3, g4, g5⟩ | ⟨g1, _⟩
      · rw [htl] at g2
        rw [if_neg (by omega), if_pos g3] at hst
        simp only
        refine ⟨by simp; omega, ?_, ?_⟩
        · rw [hz k (by omega) hkn]; exact g3
        · rw [g5]; split <;> omega
      · rw [hov] at g1; cases g1
    · simp only at hov h4 ⊢
      have hk4 : 4 ≤ r.hand.length + k := by simp at h4; omega
      rw [hz k hk4 hkn]
      rcases hor with ⟨g1, _⟩ | ⟨_, _, g3⟩
      · rw [hov] at g1; cases g1
      · rcases g3 with g3 | ⟨g3, g4⟩
        · rw [htl] at g3; omega
        · refine ⟨g3, g4, ?_⟩
          rw [if_neg (by omega), if_neg (by omega)] at hst
          simp; omega
    · cases hov : ov with
      | true => rfl
      | false =>
        exfalso
        rcases hor with ⟨g1, _⟩ | ⟨_, _, g3⟩
        · rw [hov] at g1; cases g1
        · rcases g3 with g3 | ⟨g3, g4⟩
          · rw [htl] at g3
            rw [if_pos g3] at hst; omega
          · by_cases h5 : r.hand.length + n < 4
            · rw [if_pos h5] at hst; omega
            · rw [if_neg h5, if_neg (by omega)] at hst
              have hsz : r.hand.length + k = sizeL (r.hand ++ c) := by omega
              have : RC.whole { r with most := L, hand := r.hand ++ c.take k, bytes := r.bytes + k, over := ov, place := pl } = true := by
                unfold RC.whole
                simp only [hov, hz k (by omega) hkn]
                have hl : (r.hand ++ c.take k).length = r.hand.length + k := by simp; omega
                rw [hl]
                simp; omega
              rw [this] at hw; cases hw

/-- A frame that is whole is taken. -/
theorem CInv.next {L : Nat} {b : List UInt8} {got : List (List UInt8)} {at_ : Nat} {r : RC} (h : CInv L b got at_ r) (hw : r.whole = true) : CInv L b (got ++ [r.hand]) at_ r.next := by
  have hw2 := hw
  simp only [RC.whole, Bool.and_eq_true, decide_eq_true_eq, Bool.not_eq_true'] at hw2
  obtain ⟨⟨ho, h4⟩, hs⟩ := hw2
  obtain ⟨g1, g2, g3⟩ := h.live ho h4
  refine ⟨h.le, by rw [h.split]; simp [RC.next], ?_, h.most, by simp [RC.next, h.given], h.bytes, RC.ok_next h.ok hw, fun hx => ?_, fun _ hx => by simp [RC.next] at hx⟩
  · intro f hf
    rcases List.mem_append.1 hf with hf | hf
    · exact h.frames f hf
    · simp only [List.mem_singleton] at hf
      subst hf
      exact ⟨hs.symm, by omega, by omega⟩
  · simp only [RC.next] at hx; rw [ho] at hx; cases hx

/-- Where nothing else goes on, all frames have been taken. -/
theorem CInv.done {L : Nat} {b : List UInt8} {got : List (List UInt8)} {at_ : Nat} {r : RC} (h : CInv L b got at_ r) (hw : r.whole = false) (he : at_ = b.length ∨ r.over = true) : framesOf L b = got := by
  have hb : b = got.flatten ++ (r.hand ++ b.drop at_) := by
    have := List.take_append_drop at_ b
    rw [h.split, List.append_assoc] at this
    exact this.symm
  have hnil : framesOf L (r.hand ++ b.drop at_) = [] := by
    cases ho : r.over with
    | true =>
      obtain ⟨d1, d2, _⟩ := h.dead ho
      have hz := sizeL_app r.hand (by omega) (b.drop at_)
      rw [framesOf, dif_neg (by rw [hz]; omega)]
    | false =>
      have hat : at_ = b.length := by rcases he with he | he; exact he; rw [ho] at he; cases he
      have hd : b.drop at_ = [] := by rw [hat]; simp
      rw [hd, List.append_nil]
      by_cases h4 : 4 ≤ r.hand.length
      · obtain ⟨g1, g2, g3⟩ := h.live ho h4
        have hne : r.hand.length ≠ sizeL r.hand := fun hx => by
          have : r.whole = true := by unfold RC.whole; rw [ho, decide_eq_true h4, decide_eq_true hx]; rfl
          rw [this] at hw; cases hw
        rw [framesOf, dif_neg (by omega)]
      · rw [framesOf, dif_neg (by omega)]
  have := framesOf_app got (r.hand ++ b.drop at_) h.frames
  rw [← hb, hnil, List.append_nil] at this
  exact this

end Go.Proofs.Ytfamclpajjnfbaa
