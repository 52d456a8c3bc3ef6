/- Maps gone through, the frame looked through by instances. -/
import Derived.Test.YteefkhfmpcaccaaFx
import Derived.Test.YteefkhfmpcaccaaMr
import Derived.Test.YteefkhfmpcaccaaAs
namespace Go.Proofs.Yteefkhfmpcaccaa
open Go
set_option linter.unusedVariables false
instance {κ : Type} (enc : κ → Value) (b r : Nat) (l left : List (κ × Value)) : Face (.map b) (IterP enc b r l left) := ⟨⟩
instance {κ : Type} (enc : κ → Value) (b r : Nat) (l left : List (κ × Value)) (k : κ) (v : Value) : Face (.map b) (IterAt enc b r l left k v) := ⟨⟩

theorem perm_eraseIdx {α : Type} : ∀ (l : List α) (j : Nat) (hj : j < l.length), (l[j] :: l.eraseIdx j).Perm l
  | a :: l, 0, _ => .refl _
  | a :: l, j + 1, hj => by
    simp only [List.getElem_cons_succ, List.eraseIdx_cons_succ]
    exact (List.Perm.swap _ _ _).trans ((perm_eraseIdx l j (by simpa using hj)).cons a)

section
variable {κ : Type} {P : Program} {w0 w : World} {A F X : HP} {C : HP → HP} {enc : κ → Value} {b r : Nat} {l left : List (κ × Value)}

theorem St.mapNodup (h : St w0 A w) (b : Nat) [i : Hole (.map b) A (MapP enc b l) C] : (l.map (·.1)).Nodup := by
  obtain ⟨R, hR, h'⟩ := h.out (.map b)
  obtain ⟨es, clock, h2⟩ := MapP.open h'
  exact (MapE.heap h2).2.keys
theorem St.iterLeft (h : St w0 A w) (b : Nat) [i : Hole (.map b) A (IterP enc b r l left) C] : Go.Proofs.Yteefkhfmpcaccaa.iterLeft b r w = left.length := by
  obtain ⟨R, hR, h'⟩ := h.out (.map b)
  exact IterP.left h'
theorem St.rangeH {T kt et : TypeId} {K : Value → World → Prop} {θ : Tag K} (h : St w0 A w) [i : Hole (.map b) A (MapP enc b l) C] (hu : P.underlying T = some (.map kt et))
    (hK : ∀ r w', St w0 (C (IterP enc b r l l)) w' → K (.pointer (some ⟨r, 0, none⟩)) w') : semD P (kRange T (.map (some b))) w K θ := by
  obtain ⟨R, hR, h'⟩ := h.out (.map b)
  exact h'.range hu fun r w' hw => hK r w' (by rw [hR]; exact hw)
theorem St.nextH {ty : TypeId} {K : Value → World → Prop} {θ : Tag K} (h : St w0 A w) (b : Nat) [i : Hole (.map b) A (IterP enc b r l left) C]
    (h0 : left = [] → K (.tuple #[.bool false]) w)
    (h1 : ∀ j (hj : j < left.length) w', St w0 (C (IterAt enc b r l (left.eraseIdx j) (left[j]).1 (left[j]).2)) w' → K (.tuple #[.bool true, enc (left[j]).1, (left[j]).2]) w') : semD P (kNext (.pointer (some ⟨r, 0, none⟩)) false ty) w K θ := by
  obtain ⟨R, hR, h'⟩ := h.out (.map b)
  exact h'.next h0 fun j hj w' hw => h1 j hj w' (by rw [hR]; exact hw)
theorem St.entryH {k : κ} {v : Value} {K : Value → Prop} {θ : Tag K} (h : St w0 A w) (b : Nat) [i : Hole (.map b) A (IterAt enc b r l left k v) C] (hK : K (.tuple #[enc k, v])) : readR P (kEntry (.pointer (some ⟨r, 0, none⟩))) w K θ := by
  obtain ⟨R, hR, h'⟩ := h.out (.map b)
  exact h'.entry hK
theorem St.iterDone {k : κ} {v : Value} (h : St w0 A w) (b : Nat) [i : Hole (.map b) A (IterAt enc b r l left k v) C] : St w0 (C (IterP enc b r l left)) w := h.turnTo (.map b) (IterAt.iter enc b r l left k v)
theorem St.iterEnd (h : St w0 A w) (b : Nat) [i : Hole (.map b) A (IterP enc b r l left) C] : St w0 (C (MapP enc b l)) w := h.turnTo (.map b) (IterP.map enc b r l left)

/-- A step, the entries being those of a list of one's own. -/
theorem St.nextP {α : Type} {f : α → Value} {lf : List (κ × α)} {ty : TypeId} {K : Value → World → Prop} {θ : Tag K} (h : St w0 A w) (b : Nat) [i : Hole (.map b) A (IterP enc b r l (amap f lf)) C]
    (h0 : lf = [] → K (.tuple #[.bool false]) w)
    (h1 : ∀ (x : κ × α) (rest : List (κ × α)) w', (x :: rest).Perm lf → St w0 (C (IterAt enc b r l (amap f rest) x.1 (f x.2))) w' → K (.tuple #[.bool true, enc x.1, f x.2]) w') : semD P (kNext (.pointer (some ⟨r, 0, none⟩)) false ty) w K θ := by
  refine h.nextH b (fun e => h0 (by simpa [amap] using e)) fun j hj w' hw => ?_
  have hj' : j < lf.length := by simpa [amap] using hj
  have e1 : (amap f lf)[j] = ((lf[j]).1, f (lf[j]).2) := by simp [amap]
  have e2 : (amap f lf).eraseIdx j = amap f (lf.eraseIdx j) := by simp only [amap, ChangeMaps.map_eraseIdx]
  rw [e1] at hw ⊢
  rw [e2] at hw
  exact h1 lf[j] (lf.eraseIdx j) w' (perm_eraseIdx lf j hj') hw
end
end Go.Proofs.Yteefkhfmpcaccaa
