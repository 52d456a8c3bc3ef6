/- What a table tells; accounts that are made: the plain law. -/
import Derived.Test.YtkijkoakloacoaaDoorUpA
namespace Go.Proofs.YtkijkoakloacoaaDoor
open Go
set_option linter.unusedVariables false
set_option linter.unusedSimpArgs false

def findF (L : List Acc) (n : List UInt8) : Option Acc := L.find? fun a => a.name == n
def memberF (L : List Acc) (u g : List UInt8) : Bool := L.any fun a => a.name == g && (u == a.name || a.members.contains u)
def leadsF (L : List Acc) (u g : List UInt8) : Bool :=
  match findF L g with
  | none => false
  | some a => if !known L u then false else if a.leader = [] then memberF L u g else a.leader == u
def keyOf (L : List Acc) (u : List UInt8) : List UInt8 :=
  match findF L u with
  | none => []
  | some a => a.key
def groupsF (L : List Acc) (u : List UInt8) : List (List UInt8) := ((L.map (·.name)).filter fun g => memberF L u g).mergeSort fun x y => decide (x ≤ y)

/-- Where each name stands. -/
def atF (L : List Acc) : List (List UInt8 × Value) := L.zipIdx.map fun x => (x.1.name, .int .i64 (x.2 : Nat))
theorem atF_snoc (L : List Acc) (a : Acc) : atF (L ++ [a]) = atF L ++ [(a.name, .int .i64 (L.length : Nat))] := by
  simp [atF, List.zipIdx_append]

theorem known_find {L : List Acc} {n : List UInt8} : known L n = (findF L n).isSome := by
  rw [findF, List.isSome_find?]; rfl
theorem findF_mem {L : List Acc} {n : List UInt8} {a : Acc} (h : findF L n = some a) : a ∈ L ∧ a.name = n := by
  refine ⟨List.mem_of_find?_eq_some h, ?_⟩
  have := List.find?_some h
  simpa using this
theorem findF_of : ∀ {L : List Acc}, (L.map (·.name)).Nodup → ∀ {a : Acc}, a ∈ L → findF L a.name = some a
  | b :: L, hn, a, ha => by
    rw [List.map_cons, List.nodup_cons] at hn
    unfold findF
    rw [List.find?_cons]
    rcases List.mem_cons.1 ha with rfl | ha
    · simp
    · have : (b.name == a.name) = false := by
        simp only [beq_eq_false_iff_ne]
        exact fun e => hn.1 (e ▸ List.mem_map_of_mem (f := (·.name)) ha)
      rw [this]
      exact findF_of hn.2 ha
theorem memberF_of {L : List Acc} (hn : (L.map (·.name)).Nodup) {a : Acc} (ha : a ∈ L) (u : List UInt8) : memberF L u a.name = (u == a.name || a.members.contains u) := by
  rw [Bool.eq_iff_iff]
  unfold memberF
  rw [List.any_eq_true]
  constructor
  · rintro ⟨b, hb, h⟩
    simp only [Bool.and_eq_true, beq_iff_eq] at h
    have h1 := findF_of hn hb
    rw [h.1, findF_of hn ha] at h1
    cases h1
    exact h.2
  · intro h
    exact ⟨a, ha, by rw [h, Bool.and_true]; exact beq_self_eq_true _⟩
theorem leadsF_of {L : List Acc} (hn : (L.map (·.name)).Nodup) {a : Acc} (ha : a ∈ L) {u : List UInt8} (hu : known L u = true) : leadsF L u a.name = (if a.leader = [] then memberF L u a.name else a.leader == u) := by
  unfold leadsF
  rw [findF_of hn ha]
  simp [hu]
theorem keyOf_of {L : List Acc} (hn : (L.map (·.name)).Nodup) {a : Acc} (ha : a ∈ L) : keyOf L a.name = a.key := by
  unfold keyOf
  rw [findF_of hn ha]
theorem mem_groups {L : List Acc} {u g : List UInt8} : g ∈ groupsF L u ↔ g ∈ L.map (·.name) ∧ memberF L u g = true := by
  unfold groupsF
  rw [List.mem_mergeSort, List.mem_filter]
theorem le_total_bytes (a b : List UInt8) : (decide (a ≤ b) || decide (b ≤ a)) = true := by
  simp only [Bool.or_eq_true, decide_eq_true_eq]
  exact List.le_total a b
theorem groups_sorted (L : List Acc) (u : List UInt8) : (groupsF L u).Pairwise fun x y => x ≤ y := by
  have := List.pairwise_mergeSort (le := fun x y : List UInt8 => decide (x ≤ y)) (fun a b c h1 h2 => by simp only [decide_eq_true_eq] at *; exact List.le_trans h1 h2) le_total_bytes ((L.map (·.name)).filter fun g => memberF L u g)
  exact this.imp fun h => by simpa using h
theorem groups_nodup {L : List Acc} (hn : (L.map (·.name)).Nodup) (u : List UInt8) : (groupsF L u).Nodup :=
  (List.mergeSort_perm _ _).nodup_iff.2 (hn.filter _)
theorem groups_rise {L : List Acc} (hn : (L.map (·.name)).Nodup) (u : List UInt8) : (groupsF L u).Pairwise fun x y => x < y := by
  have h1 := groups_sorted L u
  have h2 := groups_nodup hn u
  rw [List.nodup_iff_pairwise_ne] at h2
  refine (h1.and h2).imp fun {x y} ⟨a, b⟩ => ?_
  by_cases h : x < y
  · exact h
  · exact absurd (List.le_antisymm a (List.not_lt.1 h)) b
theorem groups_length (L : List Acc) (u : List UInt8) : (groupsF L u).length = ((L.map (·.name)).filter fun g => memberF L u g).length := by
  unfold groupsF; rw [List.length_mergeSort]
theorem allF_facts {L : List Acc} (h : allF L = true) : (∀ a ∈ L, formF a = true) ∧ (∀ a ∈ L, onceF a = true) ∧ (L.map (·.name)).Nodup ∧ ∀ a ∈ L, namedF L a = true := by
  simp only [allF, Bool.and_eq_true, List.all_eq_true, decide_eq_true_eq] at h
  exact ⟨h.1.1.1, h.1.1.2, h.1.2, h.2⟩
theorem printF_ok {L : List Acc} (h : allF L = true) (hj : joinF L = true) : printF L = .ok (textF L) := by
  simp only [allF, Bool.and_eq_true] at h
  simp [printF, h.1.1.1, h.1.1.2, h.1.2, h.2, hj]
end Go.Proofs.YtkijkoakloacoaaDoor
