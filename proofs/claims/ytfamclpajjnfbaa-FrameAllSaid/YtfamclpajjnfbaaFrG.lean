/- The walk of FrameStays. -/
import Derived.Test.YtfamclpajjnfbaaFrF
namespace Go.Proofs.Ytfamclpajjnfbaa
open Go
set_option linter.unusedSimpArgs false
set_option linter.unusedVariables false
set_option maxRecDepth 100000

def Emp : HP := fun _ => True
theorem Ent.emp (A : HP) : Ent A (A * Emp) := Ent.of fun h a => ⟨h, fun _ => none, fun _ => .inr rfl, hle.rfl' h, (fun _ _ e => by cases e), a, trivial⟩

theorem tmod_nat (n k : Nat) : ((n : Int)).tmod (k : Int) = ((n % k : Nat) : Int) := (Int.ofNat_tmod n k).symm
theorem tmod65530 (n : Nat) : ((n : Int)).tmod 65530 = ((n % 65530 : Nat) : Int) := tmod_nat n 65530
theorem tmod7 (n : Nat) : ((n : Int)).tmod 7 = ((n % 7 : Nat) : Int) := tmod_nat n 7

theorem size_parts {n : Nat} (hn : n < 4294967296) : size4 (UInt8.ofNat n) (UInt8.ofNat (n / 256)) (UInt8.ofNat (n / 65536)) (UInt8.ofNat (n / 16777216)) = n := by
  simp [size4]
  omega

def lenF (limit : Nat) (b : List UInt8) : Nat := (mkFrame b limit).length
theorem lenF_le (limit : Nat) (b : List UInt8) : lenF limit b ≤ costB b := by
  unfold lenF costB; rw [mkFrame_length, bodyOf_length]; omega
theorem total_mono {α : Type} {f g : α → Nat} (h : ∀ x, f x ≤ g x) : ∀ l : List α, total f l ≤ total g l
  | [] => Nat.le_refl _
  | x :: l => by
    have := total_mono h l
    have := h x
    simp only [total, List.map_cons, List.sum_cons] at *
    omega
theorem total_take_le {α : Type} (f : α → Nat) (l : List α) (i : Nat) : total f (l.take i) ≤ total f l := by
  have : total f l = total f (l.take i) + total f (l.drop i) := by
    simp only [total]
    rw [← List.sum_append, ← List.map_append, List.take_append_drop]
  omega

/-- A cutter with an empty hand. -/
structure Cut.idle (m : Cut) (limit : Nat) : Prop where
  heads : m.heads = 0
  body : m.body = []
  dead : m.dead = false
  limit : m.limit = limit

theorem Cut.idle.ok {m : Cut} {L : Nat} (h : m.idle L) (he : m.ever < 1152921504606846976) : m.ok :=
  ⟨by rw [h.heads]; omega, fun _ => ⟨h.dead, h.body⟩, fun x => by rw [h.heads] at x; omega, he, by rw [h.heads]; omega⟩

/-- A whole frame goes in, and comes out. -/
theorem Cut.idle.frame {m : Cut} {L : Nat} (h : m.idle L) (h7 : 7 ≤ L) (hL : L ≤ 65536) (b : List UInt8) : ∃ m1, m.feed (mkFrame b L) = ((mkFrame b L).length, m1) ∧ m1.whole = true ∧ m1.body.length < 65536 ∧ m1.taken = m.taken ∧ m1.frame = mkFrame b L ∧ m1.next.idle L ∧ m1.next.ever = m.ever + (mkFrame b L).length ∧ m1.next.taken = m.taken + 1 := by
  have hl := bodyOf_length b (limit := L)
  have hsz : size4 (UInt8.ofNat ((bodyOf b L).length + 4)) (UInt8.ofNat (((bodyOf b L).length + 4) / 256)) (UInt8.ofNat (((bodyOf b L).length + 4) / 65536)) 0 = 4 + (bodyOf b L).length := by
    rw [size_head (by omega)]; omega
  have hf := feed_good h.heads h.body h.dead hsz (by omega) (by rw [h.limit]; omega)
  have hm : mkFrame b L = UInt8.ofNat ((bodyOf b L).length + 4) :: UInt8.ofNat (((bodyOf b L).length + 4) / 256) :: UInt8.ofNat (((bodyOf b L).length + 4) / 65536) :: 0 :: bodyOf b L := rfl
  have hml := mkFrame_length b L
  obtain ⟨m1, hm1⟩ : ∃ m1, m1 = ({ m with b0 := UInt8.ofNat ((bodyOf b L).length + 4), b1 := UInt8.ofNat (((bodyOf b L).length + 4) / 256), b2 := UInt8.ofNat (((bodyOf b L).length + 4) / 65536), b3 := 0, heads := 4, body := bodyOf b L, ever := m.ever + (4 + (bodyOf b L).length) } : Cut) := ⟨_, rfl⟩
  rw [← hm1] at hf
  have e1 : m1.body = bodyOf b L := by rw [hm1]
  have e2 : m1.ever = m.ever + (4 + (bodyOf b L).length) := by rw [hm1]
  refine ⟨m1, by rw [hml, Nat.add_comm (bodyOf b L).length 4, hm]; exact hf, ?_, by rw [e1]; omega, by rw [hm1], by rw [hm1, hm]; rfl, ⟨rfl, rfl, by rw [hm1]; exact h.dead, by rw [hm1]; exact h.limit⟩, by show m1.ever = _; omega, by rw [hm1]; rfl⟩
  unfold size4 at hsz
  rw [hm1]
  unfold Cut.whole Cut.size
  simp only [h.dead, hsz]
  simp

/-- A cutter that died. -/
structure Cut.died (m : Cut) (at_ n : Nat) : Prop where
  heads : m.heads = 4
  body : m.body = []
  dead : m.dead = true
  ahead : m.ahead = at_
  taken : m.taken = n
  ever : m.ever < 1152921504606846976
  cnt : 4 ≤ m.ever

theorem Cut.died.ok {m : Cut} {k n : Nat} (h : m.died k n) : m.ok :=
  ⟨by rw [h.heads]; omega, fun x => (by rw [h.heads] at x; omega), fun _ x => (by rw [h.dead] at x; cases x), h.ever, by rw [h.heads]; exact h.cnt⟩

theorem Cut.died.whole {m : Cut} {k n : Nat} (h : m.died k n) : m.whole = false := by simp [Cut.whole, h.dead]

end Go.Proofs.Ytfamclpajjnfbaa
