/- A record as an argument. -/
import Derived.Test.YtonajgmamdeohaaGreatDoorTrL
import Derived.Test.YtonajgmamdeohaaGreatDoorArgs
namespace Go.Proofs.YtonajgmamdeohaaGreatDoor
open Go
set_option linter.unusedVariables false
set_option linter.unusedSimpArgs false

abbrev XStat := Int × Int × (Int × Int × Int × Unit) × Int × Int × Int × Int × ByteArray × ByteArray × ByteArray × ByteArray × Unit
def rStat : Rdr XStat := rCons 1 (rInt .u16) (rCons 1 (rInt .u32) (rCons 3 (rCons 1 (rInt .u8) (rCons 1 (rInt .u32) (rCons 1 (rInt .u64) rEnd))) (rCons 1 (rInt .u32) (rCons 1 (rInt .u32) (rCons 1 (rInt .u32) (rCons 1 (rInt .u64) (rCons 1 rStr (rCons 1 rStr (rCons 1 rStr (rCons 1 rStr rEnd))))))))))
theorem rng8 {n : Int} (h : (Lit.int .u8 n).wf = true) : n = (n.toNat : Int) ∧ n.toNat < 256 := by
  have h1 : IntKind.u8.min = 0 := rfl
  have h2 : IntKind.u8.max = 255 := rfl
  simp [Lit.wf, h1, h2] at h
  omega
theorem rng16 {n : Int} (h : (Lit.int .u16 n).wf = true) : n = (n.toNat : Int) ∧ n.toNat < 65536 := by
  have h1 : IntKind.u16.min = 0 := rfl
  have h2 : IntKind.u16.max = 65535 := rfl
  simp [Lit.wf, h1, h2] at h
  omega
theorem rng32 {n : Int} (h : (Lit.int .u32 n).wf = true) : n = (n.toNat : Int) ∧ n.toNat < 4294967296 := by
  have h1 : IntKind.u32.min = 0 := rfl
  have h2 : IntKind.u32.max = 4294967295 := rfl
  simp [Lit.wf, h1, h2] at h
  omega
theorem rng64 {n : Int} (h : (Lit.int .u64 n).wf = true) : n = (n.toNat : Int) ∧ n.toNat < 18446744073709551616 := by
  have h1 : IntKind.u64.min = 0 := rfl
  have h2 : IntKind.u64.max = 18446744073709551615 := rfl
  simp [Lit.wf, h1, h2] at h
  omega
theorem dl (s : ByteArray) : s.data.toList.length = s.size := by rw [← strOf_size, strOf_eta]
theorem stat_arg {x : XStat} {cs : List Value} {h : Heap} (r : rStat.rel x cs h) : ∃ d : StatD, cs = statC d ∧ NumOk d ∧ d.name.length ≤ 140737488351232 ∧ d.uid.length ≤ 140737488351232 ∧ d.gid.length ≤ 140737488351232 ∧ d.muid.length ≤ 140737488351232 := by
  obtain ⟨_, _, rfl, _, ⟨rfl, w1⟩, _, _, rfl, _, ⟨rfl, w2⟩, _, _, rfl, _, rq, _, _, rfl, _, ⟨rfl, w6⟩, _, _, rfl, _, ⟨rfl, w7⟩, _, _, rfl, _, ⟨rfl, w8⟩, _, _, rfl, _, ⟨rfl, w9⟩, _, _, rfl, _, ⟨rfl, s1⟩, _, _, rfl, _, ⟨rfl, s2⟩, _, _, rfl, _, ⟨rfl, s3⟩, _, _, rfl, _, ⟨rfl, s4⟩, rfl⟩ := r
  obtain ⟨_, _, rfl, _, ⟨rfl, w3⟩, _, _, rfl, _, ⟨rfl, w4⟩, _, _, rfl, _, ⟨rfl, w5⟩, rfl⟩ := rq
  have a1 := rng16 w1
  have a2 := rng32 w2
  have a3 := rng8 w3
  have a4 := rng32 w4
  have a5 := rng64 w5
  have a6 := rng32 w6
  have a7 := rng32 w7
  have a8 := rng32 w8
  have a9 := rng64 w9
  have hq : reachBytes = 140737488351232 := rfl
  refine ⟨⟨x.1.toNat, x.2.1.toNat, x.2.2.1.1.toNat, x.2.2.1.2.1.toNat, x.2.2.1.2.2.1.toNat, x.2.2.2.1.toNat, x.2.2.2.2.1.toNat, x.2.2.2.2.2.1.toNat, x.2.2.2.2.2.2.1.toNat, x.2.2.2.2.2.2.2.1.data.toList, x.2.2.2.2.2.2.2.2.1.data.toList, x.2.2.2.2.2.2.2.2.2.1.data.toList, x.2.2.2.2.2.2.2.2.2.2.1.data.toList⟩, ?_, ⟨a1.2, a2.2, a3.2, a4.2, a5.2, a6.2, a7.2, a8.2, a9.2⟩, ?_, ?_, ?_, ?_⟩
  · simp only [statC, sv, strOf_eta, ← a1.1, ← a2.1, ← a3.1, ← a4.1, ← a5.1, ← a6.1, ← a7.1, ← a8.1, ← a9.1]
    rfl
  · show List.length _ ≤ _; rw [dl]; exact Nat.le_trans s1 (Nat.le_of_eq hq)
  · show List.length _ ≤ _; rw [dl]; exact Nat.le_trans s2 (Nat.le_of_eq hq)
  · show List.length _ ≤ _; rw [dl]; exact Nat.le_trans s3 (Nat.le_of_eq hq)
  · show List.length _ ≤ _; rw [dl]; exact Nat.le_trans s4 (Nat.le_of_eq hq)
end Go.Proofs.YtonajgmamdeohaaGreatDoor
