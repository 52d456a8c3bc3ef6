/- Association lists: what a map's entries are, and a star over them. -/
import Derived.Test.YtkijkoakloacoaaGreatDoorMaps
import Derived.Test.YtkijkoakloacoaaGreatDoorRf
namespace Go.Proofs.YtkijkoakloacoaaGreatDoor
open Go

section assoc
variable {κ α β : Type} [DecidableEq κ]

def agt (x : κ) : List (κ × α) → Option α
  | [] => none
  | (y, v) :: l => if x = y then some v else agt x l
def aset (x : κ) (v : α) : List (κ × α) → List (κ × α)
  | [] => [(x, v)]
  | (y, u) :: l => if x = y then (x, v) :: l else (y, u) :: aset x v l
def adel (x : κ) : List (κ × α) → List (κ × α)
  | [] => []
  | (y, u) :: l => if x = y then l else (y, u) :: adel x l
def amap (f : α → β) (l : List (κ × α)) : List (κ × β) := l.map fun p => (p.1, f p.2)

omit [DecidableEq κ] in
theorem amap_keys (f : α → β) (l : List (κ × α)) : (amap f l).map (·.1) = l.map (·.1) := by simp only [amap, List.map_map]; rfl
theorem agt_amap (f : α → β) (x : κ) : ∀ l : List (κ × α), agt x (amap f l) = (agt x l).map f
  | [] => rfl
  | (y, v) :: l => by
    have ih := agt_amap f x l
    simp only [amap, List.map_cons, agt] at ih ⊢
    split
    · rfl
    · exact ih
theorem aset_amap (f : α → β) (x : κ) (v : α) : ∀ l : List (κ × α), aset x (f v) (amap f l) = amap f (aset x v l)
  | [] => rfl
  | (y, u) :: l => by
    have ih := aset_amap f x v l
    simp only [amap, List.map_cons, aset] at ih ⊢
    split
    · rfl
    · simp only [List.map_cons, ih]
theorem adel_amap (f : α → β) (x : κ) : ∀ l : List (κ × α), adel x (amap f l) = amap f (adel x l)
  | [] => rfl
  | (y, u) :: l => by
    have ih := adel_amap f x l
    simp only [amap, List.map_cons, adel] at ih ⊢
    split
    · rfl
    · simp only [List.map_cons, ih]
theorem lk_amap (f : α → Value) (x : κ) (l : List (κ × α)) : lk x (amap f l) = (agt x l).map f := by
  have : ∀ m : List (κ × Value), lk x m = agt x m := fun m => by
    induction m with
    | nil => rfl
    | cons p m ih => simp only [lk, agt, ih]
  rw [this, agt_amap]
theorem upd_amap (f : α → Value) (x : κ) (v : α) (l : List (κ × α)) : upd x (f v) (amap f l) = amap f (aset x v l) := by
  have : ∀ m : List (κ × Value), upd x (f v) m = aset x (f v) m := fun m => by
    induction m with
    | nil => rfl
    | cons p m ih => simp only [upd, aset, ih]
  rw [this, aset_amap]
theorem del_amap (f : α → Value) (x : κ) (l : List (κ × α)) : del x (amap f l) = amap f (adel x l) := by
  have : ∀ m : List (κ × Value), del x m = adel x m := fun m => by
    induction m with
    | nil => rfl
    | cons p m ih => simp only [del, adel, ih]
  rw [this, adel_amap]
/-- Where x is there already, a new value of the same face leaves the faces as they are. -/
theorem amap_aset_same (f : α → β) (x : κ) (u v : α) (hf : f u = f v) : ∀ l : List (κ × α), agt x l = some u → amap f (aset x v l) = amap f l
  | [], h => by cases h
  | (y, w) :: l, h => by
    simp only [agt, aset] at h ⊢
    split
    · rename_i hx
      rw [if_pos hx] at h
      simp only [Option.some.injEq] at h
      subst h
      simp [amap, hx, hf]
    · rename_i hx
      rw [if_neg hx] at h
      have := amap_aset_same f x u v hf l h
      simp only [amap, List.map_cons] at this ⊢
      rw [this]
theorem aset_same (x : κ) (v : α) : ∀ l : List (κ × α), agt x l = some v → aset x v l = l
  | [], h => by cases h
  | (y, w) :: l, h => by
    simp only [agt, aset] at h ⊢
    split
    · rename_i hx
      rw [if_pos hx] at h
      simp only [Option.some.injEq] at h
      subst h
      rw [hx]
    · rename_i hx
      rw [if_neg hx] at h
      rw [aset_same x v l h]
theorem aset_aset (x : κ) (u v : α) : ∀ l : List (κ × α), aset x v (aset x u l) = aset x v l
  | [] => by simp [aset]
  | (y, w) :: l => by
    simp only [aset]
    split
    · simp [aset]
    · rename_i hx
      simp only [aset, if_neg hx, aset_aset x u v l]
theorem agt_aset (x : κ) (v : α) : ∀ l : List (κ × α), agt x (aset x v l) = some v
  | [] => by simp [aset, agt]
  | (y, w) :: l => by
    simp only [aset]
    split
    · simp [agt]
    · rename_i hx
      simp only [agt, if_neg hx, agt_aset x v l]

/-- A star over a list. -/
def stars (A : κ × α → HP) : List (κ × α) → HP
  | [] => EmpH
  | p :: l => A p * stars A l
theorem stars_aset (A : κ × α → HP) (x : κ) (u v : α) : ∀ l : List (κ × α), agt x l = some u → stars A (aset x v l) = A (x, v) * stars A (adel x l)
  | [], h => by cases h
  | (y, w) :: l, h => by
    simp only [agt, aset, adel] at h ⊢
    split
    · rfl
    · rename_i hx
      rw [if_neg hx] at h
      simp only [stars, stars_aset A x u v l h]
      ac_rfl
theorem stars_open (A : κ × α → HP) (x : κ) (u : α) (l : List (κ × α)) (h : agt x l = some u) : stars A l = A (x, u) * stars A (adel x l) := by
  have := stars_aset A x u u l h
  rwa [aset_same x u l h] at this
theorem stars_new (A : κ × α → HP) (x : κ) (v : α) : ∀ l : List (κ × α), agt x l = none → stars A (aset x v l) = A (x, v) * stars A l
  | [], _ => rfl
  | (y, w) :: l, h => by
    simp only [agt, aset] at h ⊢
    split
    · rename_i hx
      rw [if_pos hx] at h
      cases h
    · rename_i hx
      rw [if_neg hx] at h
      simp only [stars, stars_new A x v l h]
      ac_rfl
end assoc

end Go.Proofs.YtkijkoakloacoaaGreatDoor
