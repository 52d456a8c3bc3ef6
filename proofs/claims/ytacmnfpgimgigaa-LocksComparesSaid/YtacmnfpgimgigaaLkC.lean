/- The table of locks: what it is in memory, and its calls. -/
import Derived.Test.YtacmnfpgimgigaaLkB
namespace Go.Proofs.Ytacmnfpgimgigaa
open Go
set_option linter.unusedSimpArgs false
set_option linter.unusedVariables false
set_option maxRecDepth 100000

section assoc
variable {κ α β : Type} [DecidableEq κ]

def agt (x : κ) : List (κ × α) → Option α
  | [] => none
  | (y, v) :: l => if x = y then some v else agt x l
def aset (x : κ) (v : α) : List (κ × α) → List (κ × α)
  | [] => [(x, v)]
  | (y, u) :: l => if x = y then (x, v) :: l else (y, u) :: aset x v l
def adel (x : κ) : List (κ × α) → List (κ × α)
  | [] => []
  | (y, u) :: l => if x = y then l else (y, u) :: adel x l
def amap (f : α → β) (l : List (κ × α)) : List (κ × β) := l.map fun p => (p.1, f p.2)

theorem agt_amap (f : α → β) (x : κ) : ∀ l : List (κ × α), agt x (amap f l) = (agt x l).map f
  | [] => rfl
  | (y, v) :: l => by
    have ih := agt_amap f x l
    simp only [amap, List.map_cons, agt] at ih ⊢
    split
    · rfl
    · exact ih
theorem aset_amap (f : α → β) (x : κ) (v : α) : ∀ l : List (κ × α), aset x (f v) (amap f l) = amap f (aset x v l)
  | [] => rfl
  | (y, u) :: l => by
    have ih := aset_amap f x v l
    simp only [amap, List.map_cons, aset] at ih ⊢
    split
    · rfl
    · simp only [List.map_cons, ih]
theorem adel_amap (f : α → β) (x : κ) : ∀ l : List (κ × α), adel x (amap f l) = amap f (adel x l)
  | [] => rfl
  | (y, u) :: l => by
    have ih := adel_amap f x l
    simp only [amap, List.map_cons, adel] at ih ⊢
    split
    · rfl
    · simp only [List.map_cons, ih]
theorem lk_amap (f : α → Value) (x : κ) (l : List (κ × α)) : lk x (amap f l) = (agt x l).map f := by
  have : ∀ m : List (κ × Value), lk x m = agt x m := fun m => by
    induction m with
    | nil => rfl
    | cons p m ih => simp only [lk, agt, ih]
  rw [this, agt_amap]
theorem upd_amap (f : α → Value) (x : κ) (v : α) (l : List (κ × α)) : upd x (f v) (amap f l) = amap f (aset x v l) := by
  have : ∀ m : List (κ × Value), upd x (f v) m = aset x (f v) m := fun m => by
    induction m with
    | nil => rfl
    | cons p m ih => simp only [upd, aset, ih]
  rw [this, aset_amap]
theorem del_amap (f : α → Value) (x : κ) (l : List (κ × α)) : del x (amap f l) = amap f (adel x l) := by
  have : ∀ m : List (κ × Value), del x m = adel x m := fun m => by
    induction m with
    | nil => rfl
    | cons p m ih => simp only [del, adel, ih]
  rw [this, adel_amap]
/-- Where x is there already, a new value of the same face leaves the faces as they are. -/
theorem amap_aset_same (f : α → β) (x : κ) (u v : α) (hf : f u = f v) : ∀ l : List (κ × α), agt x l = some u → amap f (aset x v l) = amap f l
  | [], h => by cases h
  | (y, w) :: l, h => by
    simp only [agt, aset] at h ⊢
    split
    · rename_i hx
      rw [if_pos hx] at h
      simp only [Option.some.injEq] at h
      subst h
      simp [amap, hx, hf]
    · rename_i hx
      rw [if_neg hx] at h
      have := amap_aset_same f x u v hf l h
      simp only [amap, List.map_cons] at this ⊢
      rw [this]
theorem aset_same (x : κ) (v : α) : ∀ l : List (κ × α), agt x l = some v → aset x v l = l
  | [], h => by cases h
  | (y, w) :: l, h => by
    simp only [agt, aset] at h ⊢
    split
    · rename_i hx
      rw [if_pos hx] at h
      simp only [Option.some.injEq] at h
      subst h
      rw [hx]
    · rename_i hx
      rw [if_neg hx] at h
      rw [aset_same x v l h]
theorem aset_aset (x : κ) (u v : α) : ∀ l : List (κ × α), aset x v (aset x u l) = aset x v l
  | [] => by simp [aset]
  | (y, w) :: l => by
    simp only [aset]
    split
    · simp [aset]
    · rename_i hx
      simp only [aset, if_neg hx, aset_aset x u v l]
theorem agt_aset (x : κ) (v : α) : ∀ l : List (κ × α), agt x (aset x v l) = some v
  | [] => by simp [aset, agt]
  | (y, w) :: l => by
    simp only [aset]
    split
    · simp [agt]
    · rename_i hx
      simp only [agt, if_neg hx, agt_aset x v l]

/-- A star over a list. -/
def stars (A : κ × α → HP) : List (κ × α) → HP
  | [] => EmpH
  | p :: l => A p * stars A l
theorem stars_aset (A : κ × α → HP) (x : κ) (u v : α) : ∀ l : List (κ × α), agt x l = some u → stars A (aset x v l) = A (x, v) * stars A (adel x l)
  | [], h => by cases h
  | (y, w) :: l, h => by
    simp only [agt, aset, adel] at h ⊢
    split
    · rfl
    · rename_i hx
      rw [if_neg hx] at h
      simp only [stars, stars_aset A x u v l h]
      ac_rfl
theorem stars_open (A : κ × α → HP) (x : κ) (u : α) (l : List (κ × α)) (h : agt x l = some u) : stars A l = A (x, u) * stars A (adel x l) := by
  have := stars_aset A x u u l h
  rwa [aset_same x u l h] at this
theorem stars_new (A : κ × α → HP) (x : κ) (v : α) : ∀ l : List (κ × α), agt x l = none → stars A (aset x v l) = A (x, v) * stars A l
  | [], _ => rfl
  | (y, w) :: l, h => by
    simp only [agt, aset] at h ⊢
    split
    · rename_i hx
      rw [if_pos hx] at h
      cases h
    · rename_i hx
      rw [if_neg hx] at h
      simp only [stars, stars_new A x v l h]
      ac_rfl
end assoc

/-- A lock's name: kind, connection, number. -/
abbrev Nam := Int × Int × Int
def namC (x : Nam) : List Value := [.int .u8 x.1, .int .i64 x.2.1, .int .u64 x.2.2]
abbrev namV (x : Nam) : Value := .agg (namC x).toArray
theorem flat26 : flatE Try.prog 26 = some [.int, .int, .int] := by kernel_rfl
theorem lawN : KeyLaw Try.prog 26 namV := by
  refine KeyLaw.agg flat26 fun x y => ?_
  simp only [namC, leafEq_ints, leafEq_nils, Option.map_some, Option.some.injEq]
  obtain ⟨a, b, c⟩ := x
  obtain ⟨a', b', c'⟩ := y
  rw [Bool.eq_iff_iff]
  simp
abbrev encI : Int → Value := fun n => .int .i64 n
theorem lawI : KeyLaw Try.prog 3 encI := KeyLaw.int Try.underlying3

/-- A need: a lock, alone or not. -/
abbrev Nee := Nam × Bool
def needC (n : Nee) : List Value := [.int .u8 n.1.1, .int .i64 n.1.2.1, .int .u64 n.1.2.2, .bool n.2]
abbrev needV (n : Nee) : Value := .agg (needC n).toArray
theorem needC_cells (n : Nee) : ∀ v ∈ needC n, isCell v = true := by
  intro v hv
  simp only [needC, List.mem_cons, List.not_mem_nil, or_false] at hv
  rcases hv with rfl | rfl | rfl | rfl <;> rfl
theorem namC_cells (n : Nam) : ∀ v ∈ namC n, isCell v = true := by
  intro v hv
  simp only [namC, List.mem_cons, List.not_mem_nil, or_false] at hv
  rcases hv with rfl | rfl | rfl <;> rfl

abbrev LkS := List Claim × List Claim
def LkP (b : Nat) (s : LkS) : HP := HP.ex fun p : Value × Value => LkQ b p.1 p.2 s.1 s.2
theorem LkQ.shut (b : Nat) (v1 v2 : Value) (hs q : List Claim) : Ent (LkQ b v1 v2 hs q) (LkP b (hs, q)) := Ent.ex (fun p : Value × Value => LkQ b p.1 p.2 hs q) (v1, v2)

def ptrV (p : Nat × LkS) : Value := .pointer (some ⟨p.1, 0, none⟩)
abbrev Ptrs := List (Nam × (Nat × LkS))
/-- The table with its two maps in hand. -/
def TabQ (B m1 m2 : Nat) (ps : Ptrs) (ws : List (Int × Nee)) : HP :=
  Blk B (.cells #[.map (some m1), .map (some m2)] 66 (0, 0)) * (MapP namV m1 (amap ptrV ps) * (MapP encI m2 (amap needV ws) * stars (fun p => LkP p.2.1 p.2.2) ps))
/-- A table: who holds each lock and waits for it; what each waits for. -/
def TabP (B : Nat) (ls : List (Nam × LkS)) (ws : List (Int × Nee)) : HP := HP.ex fun x : Nat × Nat × Ptrs => HP.fact (amap (·.2) x.2.2 = ls) (TabQ B x.1 x.2.1 x.2.2 ws)

theorem TabQ.shut (B m1 m2 : Nat) (ps : Ptrs) (ws : List (Int × Nee)) {ls : List (Nam × LkS)} (h : amap (·.2) ps = ls) : Ent (TabQ B m1 m2 ps ws) (TabP B ls ws) :=
  (Ent.fact h _).trans (Ent.ex (fun x : Nat × Nat × Ptrs => HP.fact (amap (·.2) x.2.2 = ls) (TabQ B x.1 x.2.1 x.2.2 ws)) (m1, m2, ps))
theorem TabP.open {w0 w : World} {B : Nat} {ls : List (Nam × LkS)} {ws : List (Int × Nee)} {F : HP} (h : St w0 (TabP B ls ws * F) w) : ∃ m1 m2 ps, amap (·.2) ps = ls ∧ St w0 (TabQ B m1 m2 ps ws * F) w := by
  obtain ⟨⟨m1, m2, ps⟩, h⟩ := h.exF
  obtain ⟨e, h⟩ := h.factF
  exact ⟨m1, m2, ps, e, h⟩

section tab
variable {w0 w : World} {F : HP} {B m1 m2 : Nat} {ps : Ptrs} {ws : List (Int × Nee)}
theorem TabQ.root (h : St w0 (TabQ B m1 m2 ps ws * F) w) (i : Nat) : w.cell? ⟨B, i, none⟩ = (#[.map (some m1), .map (some m2)] : Array Value)[i]? :=
  (h.ac (show TabQ B m1 m2 ps ws * F = Blk B (.cells #[.map (some m1), .map (some m2)] 66 (0, 0)) * (MapP namV m1 (amap ptrV ps) * (MapP encI m2 (amap needV ws) * stars (fun p => LkP p.2.1 p.2.2) ps) * F) by unfold TabQ; ac_rfl)).cells i
theorem TabQ.map1 : TabQ B m1 m2 ps ws * F = MapP namV m1 (amap ptrV ps) * (Blk B (.cells #[.map (some m1), .map (some m2)] 66 (0, 0)) * (MapP encI m2 (amap needV ws) * (stars (fun p => LkP p.2.1 p.2.2) ps * F))) := by unfold TabQ; ac_rfl
theorem TabQ.map2 : TabQ B m1 m2 ps ws * F = MapP encI m2 (amap needV ws) * (Blk B (.cells #[.map (some m1), .map (some m2)] 66 (0, 0)) * (MapP namV m1 (amap ptrV ps) * (stars (fun p => LkP p.2.1 p.2.2) ps * F))) := by unfold TabQ; ac_rfl
/-- All but the locks' own blocks. -/
def TabR (B m1 m2 : Nat) (ps : Ptrs) (ws : List (Int × Nee)) (x : Nam) : HP :=
  Blk B (.cells #[.map (some m1), .map (some m2)] 66 (0, 0)) * (MapP namV m1 (amap ptrV ps) * (MapP encI m2 (amap needV ws) * stars (fun p => LkP p.2.1 p.2.2) (adel x ps)))
theorem TabQ.lock {x : Nam} {b : Nat} {s : LkS} (h : agt x ps = some (b, s)) : TabQ B m1 m2 ps ws * F = LkP b s * (TabR B m1 m2 ps ws x * F) := by
  unfold TabQ TabR
  rw [stars_open _ x (b, s) ps h]
  ac_rfl
theorem TabQ.unlock {x : Nam} {b : Nat} {s s' : LkS} (h : agt x ps = some (b, s)) : LkP b s' * (TabR B m1 m2 ps ws x * F) = TabQ B m1 m2 (aset x (b, s') ps) ws * F := by
  unfold TabQ TabR
  rw [stars_aset _ x (b, s) (b, s') ps h, amap_aset_same ptrV x (b, s) (b, s') rfl ps h]
  ac_rfl
end tab

end Go.Proofs.Ytacmnfpgimgigaa
