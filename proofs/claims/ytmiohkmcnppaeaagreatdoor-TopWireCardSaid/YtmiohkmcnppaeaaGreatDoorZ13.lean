/- Messages as arguments. -/
import Derived.Test.YtmiohkmcnppaeaaGreatDoorZ1
import Derived.Test.YtmiohkmcnppaeaaGreatDoorZ2
import Derived.Test.YtmiohkmcnppaeaaGreatDoorZ3
import Derived.Test.YtmiohkmcnppaeaaGreatDoorZ4
import Derived.Test.YtmiohkmcnppaeaaGreatDoorZ5
import Derived.Test.YtmiohkmcnppaeaaGreatDoorZ6
import Derived.Test.YtmiohkmcnppaeaaGreatDoorZ7
import Derived.Test.YtmiohkmcnppaeaaGreatDoorZ8
import Derived.Test.YtmiohkmcnppaeaaGreatDoorZ9
import Derived.Test.YtmiohkmcnppaeaaGreatDoorZ10
import Derived.Test.YtmiohkmcnppaeaaGreatDoorZ11
import Derived.Test.YtmiohkmcnppaeaaGreatDoorZ12
namespace Go.Proofs.YtmiohkmcnppaeaaGreatDoor
open Go
set_option linter.unusedVariables false
set_option linter.unusedSimpArgs false

abbrev XQid := Int × Int × Int × Unit
def rQid : Rdr XQid := rCons 1 (rInt .u8) (rCons 1 (rInt .u32) (rCons 1 (rInt .u64) rEnd))
abbrev XStat := Int × Int × (Int × Int × Int × Unit) × Int × Int × Int × Int × ByteArray × ByteArray × ByteArray × ByteArray × Unit
def rStat : Rdr XStat := rCons 1 (rInt .u16) (rCons 1 (rInt .u32) (rCons 3 (rCons 1 (rInt .u8) (rCons 1 (rInt .u32) (rCons 1 (rInt .u64) rEnd))) (rCons 1 (rInt .u32) (rCons 1 (rInt .u32) (rCons 1 (rInt .u32) (rCons 1 (rInt .u64) (rCons 1 rStr (rCons 1 rStr (rCons 1 rStr (rCons 1 rStr rEnd))))))))))
abbrev XM := Int × Int × Int × ByteArray × Int × ByteArray × ByteArray × ByteArray × Int × Int × Int × List ByteArray × List XQid × XQid × Int × Int × ByteArray × Int × Int × Int × List UInt8 × XStat × Unit
def rMsg : Rdr XM := rCons 1 (rInt .u8) (rCons 1 (rInt .u16) (rCons 1 (rInt .u32) (rCons 1 rStr (rCons 1 (rInt .u32) (rCons 1 rStr (rCons 1 rStr (rCons 1 rStr (rCons 1 (rInt .u16) (rCons 1 (rInt .u32) (rCons 1 (rInt .u32) (rCons 1 (rSlice 1 16 rStr) (rCons 1 (rSlice 3 16 rQid) (rCons 3 rQid (rCons 1 (rInt .u8) (rCons 1 (rInt .u32) (rCons 1 rStr (rCons 1 (rInt .u32) (rCons 1 (rInt .u64) (rCons 1 (rInt .u32) (rCons 1 rBytes (rCons 13 rStat rEnd)))))))))))))))))))))
theorem rng8 {n : Int} (h : (Lit.int .u8 n).wf = true) : n = (n.toNat : Int) ∧ n.toNat < 256 := by
  have h1 : IntKind.u8.min = 0 := rfl
  have h2 : IntKind.u8.max = 255 := rfl
  simp [Lit.wf, h1, h2] at h
  omega
theorem rng16 {n : Int} (h : (Lit.int .u16 n).wf = true) : n = (n.toNat : Int) ∧ n.toNat < 65536 := by
  have h1 : IntKind.u16.min = 0 := rfl
  have h2 : IntKind.u16.max = 65535 := rfl
  simp [Lit.wf, h1, h2] at h
  omega
theorem rng32 {n : Int} (h : (Lit.int .u32 n).wf = true) : n = (n.toNat : Int) ∧ n.toNat < 4294967296 := by
  have h1 : IntKind.u32.min = 0 := rfl
  have h2 : IntKind.u32.max = 4294967295 := rfl
  simp [Lit.wf, h1, h2] at h
  omega
theorem rng64 {n : Int} (h : (Lit.int .u64 n).wf = true) : n = (n.toNat : Int) ∧ n.toNat < 18446744073709551616 := by
  have h1 : IntKind.u64.min = 0 := rfl
  have h2 : IntKind.u64.max = 18446744073709551615 := rfl
  simp [Lit.wf, h1, h2] at h
  omega
theorem dl (s : ByteArray) : s.data.toList.length = s.size := by rw [← strOf_size, strOf_eta]
theorem stat_arg {x : XStat} {cs : List Value} {h : Heap} (r : rStat.rel x cs h) : ∃ d : StatD, cs = statC d ∧ StatNum d ∧ d.name.length ≤ 140737488351232 ∧ d.uid.length ≤ 140737488351232 ∧ d.gid.length ≤ 140737488351232 ∧ d.muid.length ≤ 140737488351232 := by
  obtain ⟨_, _, rfl, _, ⟨rfl, w1⟩, _, _, rfl, _, ⟨rfl, w2⟩, _, _, rfl, _, rq, _, _, rfl, _, ⟨rfl, w6⟩, _, _, rfl, _, ⟨rfl, w7⟩, _, _, rfl, _, ⟨rfl, w8⟩, _, _, rfl, _, ⟨rfl, w9⟩, _, _, rfl, _, ⟨rfl, s1⟩, _, _, rfl, _, ⟨rfl, s2⟩, _, _, rfl, _, ⟨rfl, s3⟩, _, _, rfl, _, ⟨rfl, s4⟩, rfl⟩ := r
  obtain ⟨_, _, rfl, _, ⟨rfl, w3⟩, _, _, rfl, _, ⟨rfl, w4⟩, _, _, rfl, _, ⟨rfl, w5⟩, rfl⟩ := rq
  have a1 := rng16 w1
  have a2 := rng32 w2
  have a3 := rng8 w3
  have a4 := rng32 w4
  have a5 := rng64 w5
  have a6 := rng32 w6
  have a7 := rng32 w7
  have a8 := rng32 w8
  have a9 := rng64 w9
  have hq : reachBytes = 140737488351232 := rfl
  refine ⟨⟨x.1.toNat, x.2.1.toNat, x.2.2.1.1.toNat, x.2.2.1.2.1.toNat, x.2.2.1.2.2.1.toNat, x.2.2.2.1.toNat, x.2.2.2.2.1.toNat, x.2.2.2.2.2.1.toNat, x.2.2.2.2.2.2.1.toNat, x.2.2.2.2.2.2.2.1.data.toList, x.2.2.2.2.2.2.2.2.1.data.toList, x.2.2.2.2.2.2.2.2.2.1.data.toList, x.2.2.2.2.2.2.2.2.2.2.1.data.toList⟩, ?_, ⟨a1.2, a2.2, a3.2, a4.2, a5.2, a6.2, a7.2, a8.2, a9.2⟩, ?_, ?_, ?_, ?_⟩
  · simp only [statC, sv, strOf_eta, ← a1.1, ← a2.1, ← a3.1, ← a4.1, ← a5.1, ← a6.1, ← a7.1, ← a8.1, ← a9.1]
    rfl
  · show List.length _ ≤ _; rw [dl]; exact Nat.le_trans s1 (Nat.le_of_eq hq)
  · show List.length _ ≤ _; rw [dl]; exact Nat.le_trans s2 (Nat.le_of_eq hq)
  · show List.length _ ≤ _; rw [dl]; exact Nat.le_trans s3 (Nat.le_of_eq hq)
  · show List.length _ ≤ _; rw [dl]; exact Nat.le_trans s4 (Nat.le_of_eq hq)

theorem qid_rel {x : XQid} {cs : List Value} {h : Heap} (r : rQid.rel x cs h) : ∃ q : QidD, cs = qidC q ∧ QidOk q := by
  obtain ⟨_, _, rfl, _, ⟨rfl, w3⟩, _, _, rfl, _, ⟨rfl, w4⟩, _, _, rfl, _, ⟨rfl, w5⟩, rfl⟩ := r
  have a3 := rng8 w3
  have a4 := rng32 w4
  have a5 := rng64 w5
  refine ⟨⟨x.1.toNat, x.2.1.toNat, x.2.2.1.toNat⟩, ?_, a3.2, a4.2, a5.2⟩
  simp only [qidC, ← a3.1, ← a4.1, ← a5.1]
  rfl
theorem str_rel {x : ByteArray} {cs : List Value} {h : Heap} (r : rStr.rel x cs h) : ∃ l : List UInt8, cs = [sv l] ∧ l.length ≤ 140737488351232 := by
  obtain ⟨rfl, s1⟩ := r
  refine ⟨x.data.toList, by simp only [sv, strOf_eta], ?_⟩
  rw [dl]
  exact s1
theorem names_rel {x : List ByteArray} {v : Value} {h : Heap} (r : (rSlice 1 16 rStr).rel x [v] h) : ∃ ls : List (List UInt8), ls.length ≤ 140737488351232 ∧ (∀ l ∈ ls, l.length ≤ 140737488351232) ∧ Reads 1 v ls.length (ls.map sv) h := by
  obtain ⟨a, c, _, _, _, hb⟩ := Rdr.slice r
  obtain ⟨ys, hl, hp, hr⟩ := rSlice_choose (enc := fun l => [sv l]) (p := fun (l : List UInt8) _ => l.length ≤ 140737488351232) (fun _ _ _ r => str_rel r) (fun _ => rfl) r
  have hq : reachBytes = 140737488351232 := rfl
  rw [← List.map_eq_flatMap] at hr
  exact ⟨ys, by omega, hp, hr⟩
theorem qids_rel {x : List XQid} {v : Value} {h : Heap} (r : (rSlice 3 16 rQid).rel x [v] h) : ∃ qs : List QidD, qs.length ≤ 140737488351232 ∧ (∀ q ∈ qs, QidOk q) ∧ Reads 3 v qs.length (qs.flatMap qidC) h := by
  obtain ⟨a, c, _, _, _, hb⟩ := Rdr.slice r
  obtain ⟨ys, hl, hp, hr⟩ := rSlice_choose (enc := qidC) (p := fun q _ => QidOk q) (fun _ _ _ r => qid_rel r) (fun _ => rfl) r
  have hq : reachBytes = 140737488351232 := rfl
  exact ⟨ys, by omega, hp, hr⟩
/-- What is true of a message in a memory. -/
structure MsgH (y : XMsg) (h : Heap) : Prop where
  num : MNum y.1
  len : MLen y.1
  names : Reads 1 y.2.1 y.1.names.length (y.1.names.map sv) h
  qids : Reads 3 y.2.2.1 y.1.qids.length (y.1.qids.flatMap qidC) h
  data : RdB y.2.2.2 y.1.data h
theorem msg_rel {x : XM} {cs : List Value} {h : Heap} (r : rMsg.rel x cs h) : ∃ y : XMsg, cs = xC y ∧ MsgH y h := by
  obtain ⟨c0, d0, rfl, _, q0, r⟩ := r
  obtain ⟨rfl, w0⟩ := q0
  have a0 := rng8 w0
  obtain ⟨c1, d1, rfl, _, q1, r⟩ := r
  obtain ⟨rfl, w1⟩ := q1
  have a1 := rng16 w1
  obtain ⟨c2, d2, rfl, _, q2, r⟩ := r
  obtain ⟨rfl, w2⟩ := q2
  have a2 := rng32 w2
  obtain ⟨c3, d3, rfl, _, q3, r⟩ := r
  obtain ⟨s3, rfl, b3⟩ := str_rel q3
  obtain ⟨c4, d4, rfl, _, q4, r⟩ := r
  obtain ⟨rfl, w4⟩ := q4
  have a4 := rng32 w4
  obtain ⟨c5, d5, rfl, _, q5, r⟩ := r
  obtain ⟨s5, rfl, b5⟩ := str_rel q5
  obtain ⟨c6, d6, rfl, _, q6, r⟩ := r
  obtain ⟨s6, rfl, b6⟩ := str_rel q6
  obtain ⟨c7, d7, rfl, _, q7, r⟩ := r
  obtain ⟨s7, rfl, b7⟩ := str_rel q7
  obtain ⟨c8, d8, rfl, _, q8, r⟩ := r
  obtain ⟨rfl, w8⟩ := q8
  have a8 := rng16 w8
  obtain ⟨c9, d9, rfl, _, q9, r⟩ := r
  obtain ⟨rfl, w9⟩ := q9
  have a9 := rng32 w9
  obtain ⟨c10, d10, rfl, _, q10, r⟩ := r
  obtain ⟨rfl, w10⟩ := q10
  have a10 := rng32 w10
  obtain ⟨c11, d11, rfl, _, q11, r⟩ := r
  obtain ⟨v11, rfl⟩ : ∃ v, c11 = [v] := by obtain ⟨a, c, e, _⟩ := q11; exact ⟨_, e⟩
  obtain ⟨l11, m11, n11, p11⟩ := names_rel q11
  obtain ⟨c12, d12, rfl, _, q12, r⟩ := r
  obtain ⟨v12, rfl⟩ : ∃ v, c12 = [v] := by obtain ⟨a, c, e, _⟩ := q12; exact ⟨_, e⟩
  obtain ⟨l12, m12, n12, p12⟩ := qids_rel q12
  obtain ⟨c13, d13, rfl, _, q13, r⟩ := r
  obtain ⟨s13, rfl, b13⟩ := qid_rel q13
  obtain ⟨c14, d14, rfl, _, q14, r⟩ := r
  obtain ⟨rfl, w14⟩ := q14
  have a14 := rng8 w14
  obtain ⟨c15, d15, rfl, _, q15, r⟩ := r
  obtain ⟨rfl, w15⟩ := q15
  have a15 := rng32 w15
  obtain ⟨c16, d16, rfl, _, q16, r⟩ := r
  obtain ⟨s16, rfl, b16⟩ := str_rel q16
  obtain ⟨c17, d17, rfl, _, q17, r⟩ := r
  obtain ⟨rfl, w17⟩ := q17
  have a17 := rng32 w17
  obtain ⟨c18, d18, rfl, _, q18, r⟩ := r
  obtain ⟨rfl, w18⟩ := q18
  have a18 := rng64 w18
  obtain ⟨c19, d19, rfl, _, q19, r⟩ := r
  obtain ⟨rfl, w19⟩ := q19
  have a19 := rng32 w19
  obtain ⟨c20, d20, rfl, _, q20, r⟩ := r
  obtain ⟨v20, rfl, p20, b20⟩ := q20
  obtain ⟨c21, d21, rfl, _, q21, r⟩ := r
  obtain ⟨s21, rfl, b21, e1, e2, e3, e4⟩ := stat_arg q21
  replace r : _ = [] := r
  subst r
  have hq : reachBytes = 140737488351232 := rfl
  refine ⟨(⟨x.1.toNat, x.2.1.toNat, x.2.2.1.toNat, s3, x.2.2.2.2.1.toNat, s5, s6, s7, x.2.2.2.2.2.2.2.2.1.toNat, x.2.2.2.2.2.2.2.2.2.1.toNat, x.2.2.2.2.2.2.2.2.2.2.1.toNat, l11, l12, s13, x.2.2.2.2.2.2.2.2.2.2.2.2.2.2.1.toNat, x.2.2.2.2.2.2.2.2.2.2.2.2.2.2.2.1.toNat, s16, x.2.2.2.2.2.2.2.2.2.2.2.2.2.2.2.2.2.1.toNat, x.2.2.2.2.2.2.2.2.2.2.2.2.2.2.2.2.2.2.1.toNat, x.2.2.2.2.2.2.2.2.2.2.2.2.2.2.2.2.2.2.2.1.toNat, x.2.2.2.2.2.2.2.2.2.2.2.2.2.2.2.2.2.2.2.2.1, s21⟩, v11, v12, v20), ?_, ?_, ?_, p11, p12, p20⟩
  · simp only [xC, msgC, ← a0.1, ← a1.1, ← a2.1, ← a4.1, ← a8.1, ← a9.1, ← a10.1, ← a14.1, ← a15.1, ← a17.1, ← a18.1, ← a19.1]
    rfl
  · exact ⟨a0.2, a1.2, a2.2, a4.2, a8.2, a9.2, a10.2, n12, b13, a14.2, a15.2, a17.2, a18.2, a19.2, b21⟩
  · exact ⟨b3, b5, b6, b7, b16, m11, n11, m12, Nat.le_trans b20 (Nat.le_of_eq hq), e1, e2, e3, e4⟩
theorem msgs_arg {xs : List XM} {v : Value} {w0 : World} (r : (rSlice 36 344 rMsg).rel xs [v] (heapOf w0)) : ∃ ys : List XMsg, MsgsI (Old w0) v ys ∧ (∀ y ∈ ys, MNum y.1) ∧ (∀ y ∈ ys, MLen y.1) := by
  obtain ⟨ys, hl, hp, hr⟩ := rSlice_choose (enc := xC) (p := MsgH) (fun _ _ _ r => msg_rel r) (fun _ => rfl) r
  refine ⟨ys, ⟨Ent.of fun h ho => Reads.mono (fun b o e => ho b o e) hr, fun y hy => ?_⟩, fun y hy => (hp y hy).num, fun y hy => (hp y hy).len⟩
  have k := hp y hy
  exact ⟨Ent.of fun h ho => Reads.mono (fun b o e => ho b o e) k.names, Ent.of fun h ho => Reads.mono (fun b o e => ho b o e) k.qids, Ent.of fun h ho => Reads.mono (fun b o e => ho b o e) k.data⟩
theorem cut_rel {x : Int} {cs : List Value} {h : Heap} (r : (rInt .u16).rel x cs h) : ∃ n : Nat, cs = [uC n] ∧ n < 65536 := by
  obtain ⟨rfl, w1⟩ := r
  have a1 := rng16 w1
  exact ⟨x.toNat, by rw [uC, ← a1.1], a1.2⟩
theorem cuts_arg {xs : List Int} {v : Value} {w0 : World} (r : (rSlice 1 2 (rInt .u16)).rel xs [v] (heapOf w0)) : ∃ cuts : List Nat, cuts.length ≤ 140737488351232 ∧ (∀ n ∈ cuts, n < 65536) ∧ Ent (Old w0) (Reads 1 v cuts.length (cuts.map uC)) := by
  obtain ⟨a, c, _, _, _, hb⟩ := Rdr.slice r
  obtain ⟨ys, hl, hp, hr⟩ := rSlice_choose (enc := fun n => [uC n]) (p := fun (n : Nat) _ => n < 65536) (fun _ _ _ r => cut_rel r) (fun _ => rfl) r
  have hq : reachBytes = 140737488351232 := rfl
  rw [← List.map_eq_flatMap] at hr
  exact ⟨ys, by omega, hp, Ent.of fun h ho => Reads.mono (fun b o e => ho b o e) hr⟩
end Go.Proofs.YtmiohkmcnppaeaaGreatDoor
