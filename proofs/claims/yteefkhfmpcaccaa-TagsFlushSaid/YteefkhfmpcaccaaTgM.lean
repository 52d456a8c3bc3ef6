/- The tags statements: acts as an argument. -/
import Derived.Test.YteefkhfmpcaccaaTgL
namespace Go.Proofs.Yteefkhfmpcaccaa
open Go
set_option linter.unusedSimpArgs false
set_option linter.unusedVariables false

abbrev XAct := Int × Int × Int × Unit
def rAct : Rdr XAct := rCons 1 (rInt .i64) (rCons 1 (rInt .i64) (rCons 1 (rInt .i64) rEnd))
theorem rAct_cells {x : XAct} {cs : List Value} {h : Heap} (r : rAct.rel x cs h) : ∃ a : ActD, cs = acC a ∧ AcOk a := by
  obtain ⟨_, _, rfl, _, ⟨rfl, w1⟩, _, _, rfl, _, ⟨rfl, w2⟩, _, _, rfl, _, ⟨rfl, w3⟩, rfl⟩ := r
  exact ⟨⟨x.1, x.2.1, x.2.2.1⟩, rfl, i64_bounds w1, i64_bounds w2, i64_bounds w3⟩
theorem act_arg {xs : List XAct} {v : Value} {W : World} (c : (rSlice 3 24 rAct).rel xs [v] (heapOf W)) : ∃ acs : List ActD, (∀ a ∈ acs, AcOk a) ∧ Ent (Old W) (Reads 3 v acs.length (acs.flatMap acC)) ∧ acs.length ≤ 140737488351232 := by
  obtain ⟨acs, hl, h1, h2⟩ := rSlice_choose (β := ActD) (enc := acC) (p := fun a _ => AcOk a) (fun x cs h r => rAct_cells r) acC_length c
  have hb : xs.length * 24 ≤ reachBytes := by
    obtain ⟨a, cap, e, l, m, r, _⟩ := c
    exact r
  have hq : reachBytes = 140737488351232 := rfl
  exact ⟨acs, h1, Ent.of fun _ ho => Reads.mono (fun b o e => ho b o e) h2, by omega⟩

end Go.Proofs.Yteefkhfmpcaccaa
