/- LocksFirst: pointers into the rows; the rows in memory. -/
import Derived.Test.YtacmnfpgimgigaaLkFa
namespace Go.Proofs.Ytacmnfpgimgigaa
open Go
set_option linter.unusedSimpArgs false
set_option linter.unusedVariables false
set_option maxRecDepth 100000

/-- The pointer moves over one who is gone, then over the next. -/
theorem skip_step {g c : Int} {row p more : List Int} {at' : Nat} (hn : row.Nodup) (h : (row.filter fun a => !decide (a = g)) = p ++ c :: more) (hl : at' ≤ row.length) (hat : ((row.take at').filter fun a => !decide (a = g)) = p) :
    (row[at']? = some g → row[at' + 1]? = some c ∧ ((row.take (at' + 2)).filter fun a => !decide (a = g)) = p ++ [c]) ∧ (row[at']? ≠ some g → row[at']? = some c ∧ ((row.take (at' + 1)).filter fun a => !decide (a = g)) = p ++ [c]) := by
  have hsp : row = row.take at' ++ row.drop at' := (List.take_append_drop at' row).symm
  have hd : ((row.drop at').filter fun a => !decide (a = g)) = c :: more := by
    rw [hsp, List.filter_append, hat] at h
    exact List.append_cancel_left h
  have hnd : (row.drop at').Nodup := (List.drop_sublist at' row).nodup hn
  have hcg : c ≠ g := by
    have : c ∈ (row.drop at').filter fun a => !decide (a = g) := by rw [hd]; simp
    simpa using (List.mem_filter.1 this).2
  have h0 : row[at']? = (row.drop at')[0]? := by rw [List.getElem?_drop]; rfl
  have h1 : row[at' + 1]? = (row.drop at')[1]? := by rw [List.getElem?_drop]
  have t1 : ∀ n, row.take (at' + n) = row.take at' ++ (row.drop at').take n := fun n => by
    rw [List.take_add]
  rw [h0, h1, t1 2, t1 1]
  cases hr : row.drop at' with
  | nil => rw [hr] at hd; cases hd
  | cons x l =>
    rw [hr] at hd hnd
    simp only [List.getElem?_cons_zero, Option.some.injEq, List.getElem?_cons_succ, ne_eq]
    have hnd' := List.nodup_cons.1 hnd
    refine ⟨fun hx => ?_, fun hx => ?_⟩
    · subst hx
      rw [List.filter_cons, if_neg (by simp)] at hd
      cases l with
      | nil => cases hd
      | cons y l =>
        have hy : y ≠ x := fun e => hnd'.1 (by simp [e])
        rw [List.filter_cons, if_pos (by simpa using hy)] at hd
        simp only [List.cons.injEq] at hd
        refine ⟨by simp [hd.1], ?_⟩
        rw [List.filter_append, hat]
        simp [hd.1, hcg]
    · rw [List.filter_cons, if_pos (by simpa using hx)] at hd
      simp only [List.cons.injEq] at hd
      refine ⟨hd.1, ?_⟩
      rw [List.filter_append, hat]
      simp [hd.1, hcg]

/-- Six rows of numbers, the last made first. -/
def rowsP : List (Value × List Int) → HP
  | [] => EmpH
  | (v, xs) :: l => RowO 3 1 v xs.length (intR xs) * rowsP l
theorem rowsP_reads : ∀ {rs : List (Value × List Int)} {v : Value} {xs : List Int}, (v, xs) ∈ rs → Ent (rowsP rs) (Reads 1 v xs.length (intR xs))
  | p :: rs, v, xs, h => by
    rcases List.mem_cons.1 h with rfl | h
    · exact (Ent.left _ _).trans (RowO.reads _ _ _ _ _)
    · exact (Ent.right _ _).trans (rowsP_reads h)

def cellsV (rs : List (Value × List Int)) : List Value := rs.reverse.map (·.1)
theorem cellsV_cons (p : Value × List Int) (rs : List (Value × List Int)) : cellsV (p :: rs) = cellsV rs ++ [p.1] := by simp [cellsV]
theorem cellsV_length (rs : List (Value × List Int)) : (cellsV rs).length = rs.length := by simp [cellsV]

/-- A cell of a row that is read. -/
theorem St.readAt {w0 w : World} {s n : Nat} {v : Value} {xs : List Value} (h : St w0 (Reads s v n xs) w) : xs.length = n * s ∧ ∃ a c, v = .slice a n c ∧ n ≤ c ∧ ∀ j x, xs[j]? = some x → ∃ b o, a = some ⟨b, o, none⟩ ∧ w.cell? ⟨b, o + j, none⟩ = some x := by
  have r := h.rd
  obtain ⟨a, c, rfl, hnc, hr⟩ := r.form
  refine ⟨r.length, a, c, rfl, hnc, fun j x hj => ?_⟩
  rcases hr with hr | ⟨b, o, rfl, hr⟩
  · rw [hr] at hj; cases hj
  · have hjl := (List.getElem?_eq_some_iff.1 hj).1
    exact ⟨b, o, rfl, by rw [hr j hjl]; exact hj⟩

/-- What the law asks of each row in the end. -/
def sk (gone what : Int) (a : Int) : Bool := !(decide (a = gone) && decide (what = 3))
def FinRow (gone what : Int) (row : List Int) (at' : Nat) (q : List Int) : Prop := at' ≤ row.length ∧ ∃ extra, ((row.drop at').filter (sk gone what)) ++ extra = q ∧ (2 ≤ what → extra = [])

end Go.Proofs.Ytacmnfpgimgigaa
