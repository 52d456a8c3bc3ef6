/- law06: bounds; a new book. law06: an argument of accounts. -/
import Derived.Test.YtkijkoakloacoaaGreatDoorUL
import Derived.Test.YtkijkoakloacoaaGreatDoorUF
import Derived.Test.YtkijkoakloacoaaGreatDoorArgs
import Derived.Test.YtkijkoakloacoaaGreatDoorAr
import Derived.Test.YtkijkoakloacoaaGreatDoorDr2
namespace Go.Proofs.YtkijkoakloacoaaGreatDoor
open Go
set_option linter.unusedVariables false
set_option linter.unusedSimpArgs false
set_option maxRecDepth 100000

/-! ### Bounds -/

theorem join_many (d : UInt8) : ∀ ls : List (List UInt8), (joinD d ls).length ≤ manyF ls
  | [] => by simp [joinD, Lib.join, manyF]
  | [p] => by rw [joinD, Lib.join_one]; simp [manyF]
  | p :: q :: ps => by
    have := join_many d (q :: ps)
    rw [joinD_two]
    simp only [manyF, List.map_cons, List.sum_cons, List.length_append, List.length_cons] at this ⊢
    omega
theorem many_mem : ∀ {ls : List (List UInt8)}, 16 * ls.length ≤ manyF ls
  | [] => by simp [manyF]
  | p :: ps => by
    have := many_mem (ls := ps)
    simp only [manyF, List.map_cons, List.sum_cons, List.length_cons] at this ⊢
    omega
theorem line_big (a : Acc) : (lineF a).length ≤ bigF a := by
  have h1 := rowLen_eq a
  have h2 := join_many 44 a.members
  simp only [lineF, bigF, List.length_append, List.length_cons, List.length_nil]
  omega
theorem text_much : ∀ L : List Acc, (textF L).length ≤ muchF L
  | [] => by simp [textF, muchF]
  | a :: L => by
    have h1 := line_big a
    have h2 := text_much L
    show (lineF a ++ textF L).length ≤ _
    simp only [muchF, List.map_cons, List.sum_cons, List.length_append] at h2 ⊢
    omega
theorem much_len : ∀ L : List Acc, 16 * L.length ≤ muchF L
  | [] => by simp [muchF]
  | a :: L => by
    have h2 := much_len L
    have h3 : 16 ≤ bigF a := by unfold bigF; omega
    simp only [muchF, List.map_cons, List.sum_cons, List.length_cons] at h2 ⊢
    omega
theorem much_mem {L : List Acc} {a : Acc} (h : a ∈ L) : bigF a ≤ muchF L := by
  induction L with
  | nil => cases h
  | cons b L ih =>
    simp only [muchF, List.map_cons, List.sum_cons] at ih ⊢
    rcases List.mem_cons.1 h with rfl | h
    · omega
    · have := ih h; omega
theorem fit_of_much {L : List Acc} (h : muchF L ≤ 8388608) {a : Acc} (ha : a ∈ L) : Fit a := by
  have h1 := much_mem ha
  have h2 := many_mem (ls := a.members)
  unfold bigF at h1
  exact ⟨by omega, by omega⟩
theorem ArgL.msOk {A : HP} {v : Value} {L : List AV} (h : ArgL A v L) (hm : muchF (accs L) ≤ 8388608) : MsOk A L := fun x hx =>
  ⟨(h.each x hx).ms, fit_of_much hm (List.mem_map_of_mem (f := (·.1)) hx), (h.each x hx).cell⟩
theorem printF_err {L : List Acc} {k : Nat} (h : printF L = .error k) : k = 60 ∨ k = 61 ∨ k = 62 ∨ k = 1 := by
  unfold printF at h
  split at h
  · cases h; simp
  split at h
  · cases h; simp
  split at h
  · cases h; simp
  split at h
  · cases h
  · cases h; simp

theorem book_new {w0 w : World} {F : HP} {B : Nat} (h : St w0 (Blk B (bkB (.slice none 0 0) (.slice none 0 0) (.slice none 0 0) (.slice none 0 0) (.slice none 0 0) (.slice none 0 0)) * F) w) : St w0 (BookP B 0 * F) w := by
  have h1 := ((((((((h.nilR 22 1).nilR 9 1).nilR 22 1).nilR 22 1).nilR 22 1).nilR 22 1).ent (Ent.embL _)).ent (Ent.embL _)).ent (Ent.embL _)
  obtain ⟨n1, hn1⟩ : ∃ n1, n1 = RowO 22 1 (.slice none 0 0) 0 [] := ⟨_, rfl⟩
  obtain ⟨n2, hn2⟩ : ∃ n2, n2 = RowO 9 1 (.slice none 0 0) 0 [] := ⟨_, rfl⟩
  obtain ⟨bk, hbk⟩ : ∃ bk, bk = Blk B (bkB (.slice none 0 0) (.slice none 0 0) (.slice none 0 0) (.slice none 0 0) (.slice none 0 0) (.slice none 0 0)) := ⟨_, rfl⟩
  rw [← hn1, ← hn2, ← hbk] at h1
  have h2 : St w0 ((bk * (n1 * (n2 * (n1 * (n1 * (n1 * (n1 * (EmpH * (EmpH * EmpH))))))))) * F) w := h1.ac (by ac_rfl)
  subst hn1 hn2 hbk
  have ok : BkOk 0 ⟨.slice none 0 0, .slice none 0 0, .slice none 0 0, .slice none 0 0, .slice none 0 0, .slice none 0 0, [], [], [], []⟩ := ⟨⟨fun x hx => (by simp at hx), fun x hx => (by simp at hx)⟩, fun x hx => (by simp at hx), fun x hx => (by simp at hx), by simp⟩
  exact h2.ent (Ent.sep ((Ent.fact ok _).trans (Ent.ex (fun x : BkX => HP.fact (BkOk 0 x) (BkQ B x.vl x.vm x.vh x.vt x.vf x.vw x.E x.hs x.fs x.Gs)) ⟨.slice none 0 0, .slice none 0 0, .slice none 0 0, .slice none 0 0, .slice none 0 0, .slice none 0 0, [], [], [], []⟩)) (Ent.rfl' F))
end Go.Proofs.YtkijkoakloacoaaGreatDoor

namespace Go.Proofs.YtkijkoakloacoaaGreatDoor
open Go
set_option linter.unusedVariables false
set_option linter.unusedSimpArgs false
set_option maxRecDepth 100000

abbrev AcD := ByteArray × ByteArray × List ByteArray × ByteArray × Unit
abbrev rAcc : Rdr AcD := rCons 1 rStr (rCons 1 rStr (rCons 1 (rSlice 1 16 rStr) (rCons 1 rStr rEnd)))
/-- What is known of an account that was read. -/
def AcIs (y : AV) (h : Heap) : Prop := ∃ ms : List ByteArray, (rSlice 1 16 rStr).rel ms [y.2] h ∧ y.1.members = ms.map (fun s => s.data.toList) ∧ y.1.name.length ≤ 140737488355328 ∧ y.1.leader.length ≤ 140737488355328 ∧ y.1.key.length ≤ 140737488355328
theorem rAcc_cells {x : AcD} {cs : List Value} {h : Heap} (r : rAcc.rel x cs h) : ∃ y : AV, cs = accC y ∧ AcIs y h := by
  obtain ⟨_, _, rfl, _, ⟨rfl, w1⟩, _, _, rfl, _, ⟨rfl, w2⟩, c3, _, rfl, hl, r3, _, _, rfl, _, ⟨rfl, w4⟩, rfl⟩ := r
  obtain ⟨v, rfl⟩ : ∃ v, c3 = [v] := by
    match c3, hl with
    | [v], _ => exact ⟨v, rfl⟩
  have hq : reachBytes = 140737488351232 := rfl
  rw [Lib.size_eq] at w1 w2 w4
  refine ⟨(⟨x.1.data.toList, x.2.1.data.toList, x.2.2.1.map (fun s => s.data.toList), x.2.2.2.1.data.toList⟩, v), by simp [accL, sv, strOf_eta], x.2.2.1, r3, rfl, ?_, ?_, ?_⟩
  · show x.1.data.toList.length ≤ _
    omega
  · show x.2.1.data.toList.length ≤ _
    omega
  · show x.2.2.2.1.data.toList.length ≤ _
    omega
theorem accts_arg {xs : List AcD} {v : Value} {W : World} (c : (rSlice 4 72 rAcc).rel xs [v] (heapOf W)) : ∃ L : List AV, (∃ a c, v = .slice a L.length c) ∧ ArgL (Old W) v L := by
  obtain ⟨L, hl, h1, h2⟩ := rSlice_choose (β := AV) (enc := accC) (p := AcIs) (fun x cs h r => rAcc_cells r) accC_len c
  have hb := rSlice_len c
  have hq : reachBytes = 140737488351232 := rfl
  have hr : Ent (Old W) (Reads 4 v L.length (L.flatMap accC)) := Ent.of fun _ ho => Reads.mono (fun b o e => ho b o e) h2
  obtain ⟨_, a, c', e, _⟩ := St.rowsAt accC_len (by decide) ((St.start W).ent hr)
  refine ⟨L, ⟨a, c', e⟩, hr, fun y hy => ?_, by omega⟩
  obtain ⟨ms, r, hm, b1, b2, b3⟩ := h1 y hy
  obtain ⟨t1, t2, t3⟩ := texts_arg r
  have hb2 := rSlice_len r
  obtain ⟨am, cm, e, _⟩ := Rdr.slice r
  rw [← hm] at t1 t3
  exact ⟨t1, by rw [e]; rfl, b1, b2, b3, t3, by rw [hm, List.length_map]; omega⟩
end Go.Proofs.YtkijkoakloacoaaGreatDoor
