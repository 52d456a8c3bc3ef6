/- names.Match: begin. -/
import Derived.Test.YtlnlomjdooobdaaDoorNaM
namespace Go.Proofs.YtlnlomjdooobdaaDoor
open Go
set_option linter.unusedVariables false
set_option linter.unusedSimpArgs false
set_option maxRecDepth 100000

abbrev vb (b : Bool) : Value := .bool b
/-- begin: this place, and those behind it that rows of any characters lead to (fuel). -/
def begF : Nat → List Pc → List Bool → Nat → List Bool
  | 0, _, a, i => a.set i true
  | n + 1, ps, a, i => if (ps[i]?.map (·.1)).getD false then begF n ps (a.set i true) (i + 1) else a.set i true
def beg (ps : List Pc) (a : List Bool) (i : Nat) : List Bool := begF (ps.length - i) ps a i
theorem begF_length : ∀ (n : Nat) (ps : List Pc) (a : List Bool) (i : Nat), (begF n ps a i).length = a.length
  | 0, _, _, _ => by simp [begF]
  | n + 1, ps, a, i => by unfold begF; split <;> simp [begF_length n]
theorem beg_length (ps : List Pc) (a : List Bool) (i : Nat) : (beg ps a i).length = a.length := begF_length _ _ _ _
theorem beg_row {ps : List Pc} {a : List Bool} {i : Nat} (hi : i < ps.length) (hr : ps[i].1 = true) : beg ps a i = beg ps (a.set i true) (i + 1) := by
  unfold beg
  have : ps.length - i = (ps.length - (i + 1)) + 1 := by omega
  rw [this]
  conv => lhs; unfold begF
  simp [hi, hr]
theorem beg_one {ps : List Pc} {a : List Bool} {i : Nat} (hr : ∀ hi : i < ps.length, ps[i].1 = false) : beg ps a i = a.set i true := by
  unfold beg
  cases hn : ps.length - i with
  | zero => rfl
  | succ n =>
    have hi : i < ps.length := by omega
    unfold begF
    simp [hi, hr hi]

section
attribute [local go_sem] F31.t2_eq F31.t3_eq
theorem begin_any {w0 w : World} {A : HP} {P8 P6 i : Nat} {va vl : Value} {ats : List Bool} {ps : List (Pc × Value)} (hi : i < ats.length) (hlen : ats.length = ps.length + 1) (hs : ps.length ≤ 4294967)
    (h : St w0 (Blk P8 (.cells #[va] 59 (0, 0)) * (RowO 4 1 va ats.length (ats.map vb) * (Blk P6 (.cells #[vl] 56 (0, 0)) * A))) w) (hr : Ent A (Reads 3 vl ps.length (ps.flatMap pcV))) :
    Calls Tryd.prog 31 #[.int .i64 i, .pointer (some ⟨P8, 0, none⟩), .pointer (some ⟨P6, 0, none⟩)] w fun e w' => e = .returned (.tuple #[]) ∧
      St w0 (Blk P8 (.cells #[va] 59 (0, 0)) * (RowO 4 1 va (beg (ps.map Prod.fst) ats i).length ((beg (ps.map Prod.fst) ats i).map vb) * (Blk P6 (.cells #[vl] 56 (0, 0)) * A))) w' := by
  obtain ⟨ga, ca, rfl, _⟩ := h.rowForm va
  obtain ⟨_, al, cl, rfl, hcl, _⟩ := St.rowsAt (enc := pcV) (k := 3) (l := ps) (fun _ => rfl) (by decide) (h.ent ((Ent.right _ _).trans ((Ent.right _ _).trans ((Ent.right _ _).trans hr))))
  have hpos : 0 < ats.length := by omega
  obtain ⟨g, o, rfl, _⟩ := h.atS (a := ga) (n := ats.length) (c := ca) (xs := ats.map vb) (k := 0) (by simpa using hpos)
  have hi' : (i : Int) < (ats.length : Int) := by omega
  have c8 := h.cl P8
  have c6 := h.cl P6
  refine F31.calls (by simp) ?_
  unfold F31.code
  simp -dsimp -implicitDefEqProofs (disch := omega) only [go_sem, reqD_of, dec_t, dec_f, wrap_i64, wrap_u32, wrap_u64, wrap_u8, c8, c6, hi']
  refine h.rowSet1 (n := ats.length) (c := ca) (k := i) (xs := ats.map vb) (by simpa using hi) rfl fun w1 h1 => ?_
  simp -dsimp -implicitDefEqProofs (disch := omega) only [go_sem, reqD_of, dec_t, dec_f, wrap_i64, wrap_u32, wrap_u64, wrap_u8, c8, c6]
  have hset : ∀ (l : List Bool) (j : Nat), (l.map vb).set j (.bool true) = (l.set j true).map vb := fun l j => by rw [List.map_set]
  rw [hset] at h1
  have hl1 : (ats.set i true).length = ats.length := by simp
  refine loop_intro (fun e w' => e.ds = [] ∧ e.ρ 1 = .pointer (some ⟨P8, 0, none⟩) ∧ e.ρ 2 = .pointer (some ⟨P6, 0, none⟩) ∧
      ∃ (j : Nat) (l : List Bool), j < ats.length ∧ e.ρ 0 = .int .i64 j ∧ l.length = ats.length ∧ l.set j true = l ∧ beg (ps.map Prod.fst) ats i = beg (ps.map Prod.fst) l j ∧
        St w0 (Blk P8 (.cells #[.slice (some ⟨g, o, none⟩) ats.length ca] 59 (0, 0)) * (RowO 4 1 (.slice (some ⟨g, o, none⟩) ats.length ca) ats.length (l.map vb) * (Blk P6 (.cells #[.slice al ps.length cl] 56 (0, 0)) * A))) w')
    (fun e _ => match e.ρ 0 with | .int _ n => (ats.length - n).toNat | _ => 0) ?_ ?_
  · refine ⟨rfl, by simp -dsimp -implicitDefEqProofs only [go_sem], by simp -dsimp -implicitDefEqProofs only [go_sem], i, ats.set i true, hi, by simp -dsimp -implicitDefEqProofs only [go_sem], hl1, by simp, ?_, h1⟩
    by_cases hx : ∃ h : i < (ps.map Prod.fst).length, ((ps.map Prod.fst)[i]'h).1 = true
    · obtain ⟨h1, h2⟩ := hx
      rw [beg_row h1 h2, beg_row h1 h2]
      simp
    · have hf : ∀ hi : i < (ps.map Prod.fst).length, ((ps.map Prod.fst)[i]'hi).1 = false := fun hi => by
        cases hb : ((ps.map Prod.fst)[i]'hi).1 with
        | false => rfl
        | true => exact absurd ⟨hi, hb⟩ hx
      rw [beg_one hf, beg_one hf]
      simp
  clear h h1 c8 c6
  rintro e w2 ⟨hd, e1, e2, j, l, hj, e0, hll, hls, hb, h2⟩
  have c8 := h2.cl P8
  have c6 := h2.cl P6
  have hend : (∀ hi : j < (ps.map Prod.fst).length, ((ps.map Prod.fst)[j]'hi).1 = false) → St w0 (Blk P8 (.cells #[.slice (some ⟨g, o, none⟩) ats.length ca] 59 (0, 0)) * (RowO 4 1 (.slice (some ⟨g, o, none⟩) ats.length ca) (beg (ps.map Prod.fst) ats i).length ((beg (ps.map Prod.fst) ats i).map vb) * (Blk P6 (.cells #[.slice al ps.length cl] 56 (0, 0)) * A))) w2 := fun hf => by
    rw [hb, beg_one hf, hls, hll]
    exact h2
  by_cases hlt : (j : Int) < (ps.length : Int)
  case neg =>
    simp -dsimp -implicitDefEqProofs (disch := omega) only [go_sem, reqD_of, dec_t, dec_f, wrap_i64, wrap_u32, wrap_u64, wrap_u8, hd, e1, e2, e0, c8, c6, hlt]
    exact hend (fun hi => by simp at hi; omega)
  have hjl : j < ps.length := by omega
  obtain ⟨_, a', c', hv', _, hrow⟩ := St.rowsAt (enc := pcV) (k := 3) (l := ps) (fun _ => rfl) (by decide) (h2.ent ((Ent.right _ _).trans ((Ent.right _ _).trans ((Ent.right _ _).trans hr))))
  simp only [Value.slice.injEq, true_and] at hv'
  obtain ⟨rfl, rfl⟩ := hv'
  obtain ⟨b, ob, rfl, hrw, hcell⟩ := hrow j hjl
  have hc0 : w2.cell? ⟨b, ob + j * 3, none⟩ = some (.bool ps[j].1.1) := hcell 0 (by omega)
  have hf1 : ((ps.map Prod.fst)[j]'(by simpa using hjl)).1 = ps[j].1.1 := by simp
  cases hbb : ps[j].1.1 with
  | false =>
    rw [hbb] at hc0
    simp -dsimp -implicitDefEqProofs (disch := omega) only [go_sem, reqD_of, dec_t, dec_f, wrap_i64, wrap_u32, wrap_u64, wrap_u8, hd, e1, e2, e0, c8, c6, hlt, hc0]
    exact hend (fun hi => by rw [hf1, hbb])
  | true =>
    rw [hbb] at hc0
    have hj1 : (j : Int) + 1 < (ats.length : Int) := by omega
    simp -dsimp -implicitDefEqProofs (disch := omega) only [go_sem, reqD_of, dec_t, dec_f, wrap_i64, wrap_u32, wrap_u64, wrap_u8, hd, e1, e2, e0, c8, c6, hlt, hc0, hj1]
    have hj2 : ((j : Int) + 1).toNat = j + 1 := by omega
    simp only [hj2]
    refine h2.rowSet1 (n := ats.length) (c := ca) (k := j + 1) (xs := l.map vb) (by simp; omega) rfl fun w3 h3 => ?_
    rw [hset] at h3
    simp -dsimp -implicitDefEqProofs (disch := omega) only [go_sem, reqD_of, dec_t, dec_f, wrap_i64, wrap_u32, wrap_u64, wrap_u8, hd, e1, e2, e0, c8, c6]
    refine ⟨⟨j + 1, l.set (j + 1) true, by omega, by omega, by simp; omega, by simp, ?_, h3⟩, by omega⟩
    rw [hb, beg_row (by simpa using hjl) (by rw [hf1, hbb]), hls]
    by_cases hx : ∃ h : j + 1 < (ps.map Prod.fst).length, ((ps.map Prod.fst)[j + 1]'h).1 = true
    · obtain ⟨h1, h2⟩ := hx
      rw [beg_row h1 h2, beg_row h1 h2]
      simp
    · have hf : ∀ hi : j + 1 < (ps.map Prod.fst).length, ((ps.map Prod.fst)[j + 1]'hi).1 = false := fun hi => by
        cases hb : ((ps.map Prod.fst)[j + 1]'hi).1 with
        | false => rfl
        | true => exact absurd ⟨hi, hb⟩ hx
      rw [beg_one hf, beg_one hf]
      simp

end
end Go.Proofs.YtlnlomjdooobdaaDoor
