/- Lists under a key: agt, aset, adel. Plain. -/
import Derived.Test.YteefkhfmpcaccaaAs
namespace Go.Proofs.Yteefkhfmpcaccaa
open Go
section al
variable {κ α : Type} [DecidableEq κ]
theorem agt_of_mem {x : κ} {v : α} : ∀ {l : List (κ × α)}, (l.map (·.1)).Nodup → (x, v) ∈ l → agt x l = some v
  | (y, u) :: l, hn, hm => by
    simp only [List.map_cons, List.nodup_cons] at hn
    rcases List.mem_cons.1 hm with h | h
    · simp only [Prod.mk.injEq] at h
      simp [agt, h.1, h.2]
    · have : x ≠ y := fun e => hn.1 (e ▸ List.mem_map.2 ⟨(x, v), h, rfl⟩)
      simp only [agt, if_neg this]
      exact agt_of_mem hn.2 h
theorem mem_of_agt {x : κ} {v : α} : ∀ {l : List (κ × α)}, agt x l = some v → (x, v) ∈ l
  | (y, u) :: l, h => by
    simp only [agt] at h
    split at h
    · rename_i e
      simp only [Option.some.injEq] at h
      subst e h
      simp
    · exact List.mem_cons_of_mem _ (mem_of_agt h)
theorem agt_aset_if (x y : κ) (v : α) : ∀ l : List (κ × α), agt y (aset x v l) = if y = x then some v else agt y l
  | [] => by simp only [aset, agt]
  | (z, u) :: l => by
    have ih := agt_aset_if x y v l
    by_cases h : x = z
    · subst h
      by_cases hy : y = x <;> simp [aset, agt, hy]
    · by_cases hy : y = x
      · subst hy
        simp [aset, agt, h, ih]
      · by_cases hz : y = z
        · subst hz
          simp [aset, agt, h, hy]
        · simp [aset, agt, h, hy, hz, ih]
theorem agt_none_of_notin {x : κ} : ∀ {l : List (κ × α)}, x ∉ l.map (·.1) → agt x l = none
  | [], _ => rfl
  | (z, u) :: l, h => by
    simp only [List.map_cons, List.mem_cons, not_or] at h
    simp [agt, h.1, agt_none_of_notin h.2]
theorem agt_adel_if {x y : κ} : ∀ {l : List (κ × α)}, (l.map (·.1)).Nodup → agt y (adel x l) = if y = x then none else agt y l
  | [], _ => by simp [adel, agt]
  | (z, u) :: l, hn => by
    simp only [List.map_cons, List.nodup_cons] at hn
    have ih := agt_adel_if (x := x) (y := y) hn.2
    by_cases h : x = z
    · subst h
      by_cases hy : y = x
      · subst hy
        simp [adel, agt_none_of_notin hn.1]
      · simp [adel, agt, hy]
    · by_cases hy : y = x
      · subst hy
        simp [adel, agt, h, ih]
      · by_cases hz : y = z
        · subst hz
          simp [adel, agt, h, hy]
        · simp [adel, agt, h, hy, hz, ih]
theorem adel_keys (x : κ) : ∀ l : List (κ × α), ((adel x l).map (·.1)).Sublist (l.map (·.1))
  | [] => .slnil
  | (z, u) :: l => by
    simp only [adel]
    split
    · exact List.sublist_cons_self _ _
    · exact (adel_keys x l).cons_cons _
theorem adel_nodup {x : κ} {l : List (κ × α)} (h : (l.map (·.1)).Nodup) : ((adel x l).map (·.1)).Nodup := (adel_keys x l).nodup h
theorem aset_keys (x : κ) (v : α) : ∀ l : List (κ × α), ∀ y ∈ (aset x v l).map (·.1), y = x ∨ y ∈ l.map (·.1)
  | [], y, h => by simpa [aset] using h
  | (z, u) :: l, y, h => by
    simp only [aset] at h
    split at h
    · rename_i e
      simp only [List.map_cons, List.mem_cons] at h ⊢
      rcases h with h | h
      · exact .inl h
      · exact .inr (.inr h)
    · simp only [List.map_cons, List.mem_cons] at h ⊢
      rcases h with h | h
      · exact .inr (.inl h)
      · rcases aset_keys x v l y h with h | h
        · exact .inl h
        · exact .inr (.inr h)
theorem aset_nodup {x : κ} {v : α} : ∀ {l : List (κ × α)}, (l.map (·.1)).Nodup → ((aset x v l).map (·.1)).Nodup
  | [], _ => by simp [aset]
  | (z, u) :: l, hn => by
    simp only [List.map_cons, List.nodup_cons] at hn
    simp only [aset]
    split
    · rename_i e
      subst e
      simpa using hn
    · rename_i e
      simp only [List.map_cons, List.nodup_cons]
      refine ⟨fun h => ?_, aset_nodup hn.2⟩
      rcases aset_keys x v l z h with h | h
      · exact e h.symm
      · exact hn.1 h
theorem agt_isSome_iff {x : κ} : ∀ {l : List (κ × α)}, (agt x l).isSome = true ↔ x ∈ l.map (·.1)
  | [] => by simp [agt]
  | (z, u) :: l => by
    have ih := agt_isSome_iff (x := x) (l := l)
    simp only [agt, List.map_cons, List.mem_cons]
    split
    · rename_i h; simp [h]
    · rename_i h; rw [ih]; simp [h]
theorem agt_perm {l l' : List (κ × α)} (hp : l.Perm l') (hn : (l'.map (·.1)).Nodup) (x : κ) : agt x l = agt x l' := by
  have hn' : (l.map (·.1)).Nodup := (hp.map (·.1)).nodup_iff.2 hn
  cases h : agt x l' with
  | some v => exact agt_of_mem hn' (hp.mem_iff.2 (mem_of_agt h))
  | none =>
    cases h2 : agt x l with
    | none => rfl
    | some v => rw [agt_of_mem hn (hp.mem_iff.1 (mem_of_agt h2))] at h; cases h
end al
end Go.Proofs.Yteefkhfmpcaccaa
