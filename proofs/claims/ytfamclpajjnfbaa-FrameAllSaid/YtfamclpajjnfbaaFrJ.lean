/- FrameBack: frames laid one behind the other are gone through again. -/
import Derived.Test.YtfamclpajjnfbaaFrI
namespace Go.Proofs.Ytfamclpajjnfbaa
open Go
set_option linter.unusedSimpArgs false
set_option linter.unusedVariables false
set_option maxRecDepth 100000

/-! ### The plain law -/

theorem mkFrame_sizeL (b : List UInt8) {L : Nat} (h7 : 7 ≤ L) (hL : L ≤ 65536) : sizeL (mkFrame b L) = (mkFrame b L).length ∧ 7 ≤ (mkFrame b L).length ∧ (mkFrame b L).length ≤ L := by
  have hl := bodyOf_length b (limit := L)
  have hm := mkFrame_length b L
  have : sizeL (mkFrame b L) = size4 (UInt8.ofNat ((bodyOf b L).length + 4)) (UInt8.ofNat (((bodyOf b L).length + 4) / 256)) (UInt8.ofNat (((bodyOf b L).length + 4) / 65536)) 0 := rfl
  rw [this, size_head (by omega)]
  omega

/-- A whole frame at the head of a stream. -/
structure IsFrame (L : Nat) (f : List UInt8) : Prop where
  size : sizeL f = f.length
  low : 7 ≤ f.length
  high : f.length ≤ L

theorem framesOf_app {L : Nat} : ∀ (fs : List (List UInt8)) (rest : List UInt8), (∀ f ∈ fs, IsFrame L f) → framesOf L (fs.flatten ++ rest) = fs ++ framesOf L rest
  | [], rest, _ => by simp
  | f :: fs, rest, h => by
    have hf := h f (by simp)
    have ih := framesOf_app fs rest fun g hg => h g (by simp [hg])
    have e : (f :: fs).flatten ++ rest = f ++ (fs.flatten ++ rest) := by simp
    have hlow := hf.low
    have hhigh := hf.high
    have hz : sizeL (f ++ (fs.flatten ++ rest)) = f.length := by rw [sizeL_app f (by omega), hf.size]
    rw [e, framesOf, dif_pos ⟨by simp; omega, by omega, by omega, by rw [hz]; simp⟩, hz]
    rw [List.take_left, List.drop_left, ih]
    rfl

/-- The first four bytes of a frame go in. -/
theorem feed_head {r : RC} {f : List UInt8} (hh : r.hand = []) (ho : r.over = false) (hf : IsFrame r.most f) :
    (r.feed (f.take 4)).1 = 4 ∧ (r.feed (f.take 4)).2.hand = f.take 4 ∧ (r.feed (f.take 4)).2.over = false ∧ (r.feed (f.take 4)).2.whole = false := by
  have hlow := hf.low
  have hhigh := hf.high
  have hsz := hf.size
  have hz : sizeL (f.take 4) = sizeL f := by
    have := sizeL_app (f.take 4) (by simp; omega) (f.drop 4)
    rw [List.take_append_drop] at this
    exact this.symm
  obtain ⟨ov, pl, e, hle, hor⟩ := RC.feed_gen (f.take 4) r ho (by rw [hh]; simp)
  rw [hh] at e hle hor
  simp only [List.nil_append, List.length_nil, Nat.sub_zero] at e hle hor
  have hst : stop r.most (f.take 4) = 4 := by unfold stop; rw [if_neg (by simp; omega), if_neg (by omega)]; simp; omega
  have hov : ov = false := by
    rcases hor with ⟨h1, _, h3, _⟩ | ⟨h1, _⟩
    · omega
    · exact h1
  rw [e, hst]
  refine ⟨rfl, by rw [List.take_take, Nat.min_self], hov, ?_⟩
  unfold RC.whole
  simp only [List.take_take, Nat.min_self, hz]
  simp
  intro _ _
  omega

/-- What stands behind its head goes in. -/
theorem feed_rest {r : RC} {f : List UInt8} (hh : r.hand = f.take 4) (ho : r.over = false) (hf : IsFrame r.most f) :
    (r.feed (f.drop 4)).1 = f.length - 4 ∧ (r.feed (f.drop 4)).2.hand = f ∧ (r.feed (f.drop 4)).2.over = false ∧ (r.feed (f.drop 4)).2.whole = true := by
  have hlow := hf.low
  have hhigh := hf.high
  have hsz := hf.size
  have hz : sizeL (f.take 4) = sizeL f := by
    have := sizeL_app (f.take 4) (by simp; omega) (f.drop 4)
    rw [List.take_append_drop] at this
    exact this.symm
  have hl4 : (f.take 4).length = 4 := by simp; omega
  obtain ⟨ov, pl, e, hle, hor⟩ := RC.feed_gen (f.drop 4) r ho (by rw [hh]; intro _; omega)
  rw [hh, List.take_append_drop, hl4] at e hle hor
  have hst : stop r.most f = f.length := by unfold stop; rw [if_neg (by omega), if_neg (by omega)]; omega
  have hov : ov = false := by
    rcases hor with ⟨h1, _, h3, _⟩ | ⟨h1, _⟩
    · omega
    · exact h1
  rw [e, hst]
  refine ⟨rfl, by simp, hov, ?_⟩
  unfold RC.whole
  simp only [List.take_length, hov, hsz]
  simp; omega

/-! ### Lists of byte lists of one's own -/

def Rows : List Value → List (List UInt8) → HP
  | v :: vs, f :: fs => Row 5 1 v f.length (f.map bv) * Rows vs fs
  | _, _ => Emp

theorem Rows_cons (v : Value) (vs : List Value) (f : List UInt8) (fs : List (List UInt8)) : Rows (v :: vs) (f :: fs) = Row 5 1 v f.length (f.map bv) * Rows vs fs := rfl
theorem Rows.snoc : ∀ (vs : List Value) (fs : List (List UInt8)) (v : Value) (f : List UInt8), vs.length = fs.length → Ent (Row 5 1 v f.length (f.map bv) * Rows vs fs) (Rows (vs ++ [v]) (fs ++ [f]))
  | [], [], v, f, _ => Ent.rfl' _
  | u :: vs, g :: fs, v, f, h => by
    have ih := Rows.snoc vs fs v f (by simpa using h)
    have : Row 5 1 v f.length (f.map bv) * Rows (u :: vs) (g :: fs) = Row 5 1 u g.length (g.map bv) * (Row 5 1 v f.length (f.map bv) * Rows vs fs) := by rw [Rows_cons]; ac_rfl
    rw [this]
    exact Ent.sep (Ent.rfl' _) ih
  | [], _ :: _, _, _, h => by simp at h
  | _ :: _, [], _, _, h => by simp at h

theorem Rows.get : ∀ (vs : List Value) (fs : List (List UInt8)) (i : Nat) (hv : i < vs.length) (hf : i < fs.length), Ent (Rows vs fs) (RdB vs[i] fs[i])
  | v :: vs, f :: fs, 0, _, _ => (Ent.left _ _).trans (Row.reads _ _ _ _ _)
  | v :: vs, f :: fs, i + 1, hv, hf => (Ent.right _ _).trans (Rows.get vs fs i (by simpa using hv) (by simpa using hf))

/-- A slice of byte slices, all one's own. -/
def ListP (v : Value) (fs : List (List UInt8)) : HP := HP.ex fun vals => HP.fact (vals.length = fs.length ∧ ∀ u ∈ vals, isCell u = true) (Row 35 1 v fs.length vals * Rows vals fs)

theorem ListP.open {w0 w : World} {v : Value} {fs : List (List UInt8)} {F : HP} (h : St w0 (ListP v fs * F) w) : ∃ vals a cap, v = .slice a fs.length cap ∧ vals.length = fs.length ∧ (∀ u ∈ vals, isCell u = true) ∧ St w0 (Row 35 1 (.slice a fs.length cap) fs.length vals * (Rows vals fs * F)) w := by
  obtain ⟨vals, h⟩ := h.exF
  obtain ⟨⟨hl, hc⟩, h⟩ := h.factF
  have h' := h.ac (sep_assoc _ _ _)
  obtain ⟨a, cap, rfl, _⟩ := Row.form h'
  exact ⟨vals, a, cap, rfl, hl, hc, h'⟩

theorem ListP.shut {v : Value} {fs : List (List UInt8)} {vals : List Value} (hl : vals.length = fs.length) (hc : ∀ u ∈ vals, isCell u = true) : Ent (Row 35 1 v fs.length vals * Rows vals fs) (ListP v fs) :=
  (Ent.fact ⟨hl, hc⟩ _).trans (Ent.ex (fun vals => HP.fact (vals.length = fs.length ∧ ∀ u ∈ vals, isCell u = true) (Row 35 1 v fs.length vals * Rows vals fs)) vals)

theorem ListP.nil : Ent Emp (ListP (.slice none 0 0) []) :=
  (Ent.nilRow 35 1 Emp).trans (ListP.shut (fs := []) (vals := []) rfl (by simp))

/-- An element: its cell, and what it reads as, in every world that has the list. -/
theorem ListP.elem {w0 w : World} {v : Value} {fs : List (List UInt8)} {F : HP} (h : St w0 (ListP v fs * F) w) {i : Nat} (hi : i < fs.length) :
    ∃ g cap u, v = .slice (some ⟨g, 0, none⟩) fs.length cap ∧ w.cell? ⟨g, i, none⟩ = some u ∧ St w0 (RdB u fs[i]) w := by
  obtain ⟨vals, a, cap, rfl, hl, hc, h1⟩ := ListP.open h
  obtain ⟨⟨g, rfl⟩, _⟩ := Row.pos h1 (by omega)
  have hiv : i < vals.length := by omega
  refine ⟨g, cap, vals[i], rfl, ?_, (h1.right.left).ent (Rows.get vals fs i hiv hi)⟩
  obtain ⟨a', c', hv, _, hr⟩ := ((h1.left.ent (Row.reads _ _ _ _ _)).rd).form
  simp only [Value.slice.injEq, Option.some.injEq, true_and] at hv
  obtain ⟨rfl, _⟩ := hv
  rcases hr with hr | ⟨b, o, hb, hr⟩
  · rw [hr] at hl; simp at hl; omega
  · simp only [Option.some.injEq, Addr.mk.injEq, and_true] at hb
    obtain ⟨rfl, rfl⟩ := hb
    have := hr i (by omega)
    rw [Nat.zero_add] at this
    rw [this, List.getElem?_eq_getElem hiv]

end Go.Proofs.Ytfamclpajjnfbaa
