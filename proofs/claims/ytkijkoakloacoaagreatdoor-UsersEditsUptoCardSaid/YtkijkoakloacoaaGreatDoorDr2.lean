/- Arguments that are rows of numbers or of texts, as rows that are read. -/
import Derived.Test.YtkijkoakloacoaaGreatDoorAx
import Derived.Test.YtkijkoakloacoaaGreatDoorUs
import Derived.SizedLaws
namespace Go.Proofs.YtkijkoakloacoaaGreatDoor
open Go
set_option linter.unusedVariables false

theorem flatMap_one {α β : Type} (f : α → β) (l : List α) : (l.flatMap fun x => [f x]) = l.map f := by
  induction l with
  | nil => rfl
  | cons a l ih => simp [ih]
theorem wf_i64 {z : Int} (h : (Lit.int .i64 z).wf = true) : -9223372036854775808 ≤ z ∧ z ≤ 9223372036854775807 := by
  simpa [Lit.wf, IntKind.min, IntKind.max, IntKind.signed, IntKind.bits] using h
theorem rSlice_len {α : Type} {s b : Nat} {R : Rdr α} {xs : List α} {v : Value} {h : Heap} (k : (rSlice s b R).rel xs [v] h) : xs.length * b ≤ reachBytes := by
  obtain ⟨_, _, _, _, _, r, _⟩ := k
  exact r
theorem rSlice_all {α : Type} {s b : Nat} {R : Rdr α} {xs : List α} {v : Value} {h : Heap} {p : α → Prop} (hp : ∀ x cs h, R.rel x cs h → p x) (k : (rSlice s b R).rel xs [v] h) : ∀ x ∈ xs, p x := by
  obtain ⟨_, _, _, _, _, _, k⟩ := k
  intro x hx
  rcases k with rfl | ⟨_, _, _, _, _, _, _, hj⟩
  · simp at hx
  · obtain ⟨j, hj', rfl⟩ := List.mem_iff_getElem.1 hx
    exact hp _ _ _ (hj j hj').2
theorem ints_arg {W : World} {xs : List Int} {v : Value} (k : (rSlice 1 8 (rInt .i64)).rel xs [v] (heapOf W)) :
    Ent (Old W) (Reads 1 v xs.length (xs.map fun z => .int .i64 z)) ∧ (∀ z ∈ xs, -9223372036854775808 ≤ z ∧ z ≤ 9223372036854775807) ∧ xs.length ≤ 4611686018427387904 := by
  refine ⟨?_, rSlice_all (R := rInt .i64) (fun x cs h e => wf_i64 e.2) k, ?_⟩
  · have := (Rdr.old k).trans (rSlice_reads (R := rInt .i64) (enc := fun z => [.int .i64 z]) (fun x cs h e => e.1) (fun _ => rfl))
    rwa [flatMap_one] at this
  · have := rSlice_len k
    have := reachBytes_lt
    omega
theorem texts_arg {W : World} {xs : List ByteArray} {v : Value} (k : (rSlice 1 16 rStr).rel xs [v] (heapOf W)) :
    Ent (Old W) (Reads 1 v (xs.map fun s => s.data.toList).length ((xs.map fun s => s.data.toList).map sv)) ∧ (xs.map fun s => s.data.toList).length ≤ 4611686018427387904 ∧ ∀ s ∈ xs.map fun s => s.data.toList, s.length ≤ 140737488355328 := by
  refine ⟨?_, ?_, ?_⟩
  · have := (Rdr.old k).trans (rSlice_reads (R := rStr) (enc := fun s => [.string s]) (fun x cs h e => e.1) (fun _ => rfl))
    rw [flatMap_one] at this
    rw [List.length_map, List.map_map]
    have e : (sv ∘ fun (s : ByteArray) => s.data.toList) = fun s => .string s := by
      funext s
      simp [sv, strOf_eta]
    rw [e]; exact this
  · have := rSlice_len k
    have := reachBytes_lt
    simp
    omega
  · intro s hs
    obtain ⟨x, hx, rfl⟩ := List.mem_map.1 hs
    have h1 := rSlice_all (R := rStr) (p := fun s => s.size ≤ reachBytes) (fun x cs h e => e.2) k x hx
    rw [Lib.size_eq] at h1
    have := reachBytes_lt
    omega
end Go.Proofs.YtkijkoakloacoaaGreatDoor
