/- law06: what an argument's accounts are; many, much; sameAccount, sameAccounts; own. law06: own. law06: told. -/
import Derived.Test.YtkijkoakloacoaaGreatDoorUF
import Derived.Test.YtkijkoakloacoaaGreatDoorUK
namespace Go.Proofs.YtkijkoakloacoaaGreatDoor
open Go
set_option linter.unusedVariables false
set_option linter.unusedSimpArgs false
set_option maxRecDepth 100000

def manyF (ms : List (List UInt8)) : Nat := (ms.map fun m => 16 + m.length).sum
def bigF (a : Acc) : Nat := 16 + a.name.length + a.leader.length + a.key.length + manyF a.members
def muchF (L : List Acc) : Nat := (L.map bigF).sum
theorem manyF_take {ms : List (List UInt8)} {i : Nat} (h : i < ms.length) : manyF (ms.take (i + 1)) = manyF (ms.take i) + (16 + ms[i].length) := by
  rw [List.take_succ_eq_append_getElem h, manyF, manyF, List.map_append, List.sum_append, List.map_singleton, List.sum_singleton]
theorem muchF_take {L : List Acc} {i : Nat} (h : i < L.length) : muchF (L.take (i + 1)) = muchF (L.take i) + bigF L[i] := by
  rw [List.take_succ_eq_append_getElem h, muchF, muchF, List.map_append, List.sum_append, List.map_singleton, List.sum_singleton]

/-- An account that an argument has. -/
structure ArgA (A : HP) (x : AV) : Prop where
  ms : Ent A (ReadsT x.2 x.1.members)
  cell : isCell x.2 = true
  n : x.1.name.length ≤ 140737488355328
  l : x.1.leader.length ≤ 140737488355328
  k : x.1.key.length ≤ 140737488355328
  m : ∀ t ∈ x.1.members, t.length ≤ 140737488355328
  c : x.1.members.length ≤ 140737488355328
structure ArgL (A : HP) (v : Value) (L : List AV) : Prop where
  rd : Ent A (ReadsA v L)
  each : ∀ x ∈ L, ArgA A x
  len : L.length ≤ 140737488355328

theorem rdA_form {w0 w : World} {A : HP} (h : St w0 A w) {v : Value} {L : List AV} (hv : Ent A (ReadsA v L)) : ∃ a c, v = .slice a L.length c ∧ ∀ k, k < L.length → ∃ b o, a = some ⟨b, o, none⟩ := by
  obtain ⟨_, a, c, e, _, hrow⟩ := St.rowsAt accC_len (by decide) (h.ent hv)
  refine ⟨a, c, e, fun k hk => ?_⟩
  obtain ⟨b, o, e2, _⟩ := hrow k hk
  exact ⟨b, o, e2⟩
theorem rdA_cells {w0 w : World} {A : HP} (h : St w0 A w) {b o cv : Nat} {L : List AV} (hv : Ent A (ReadsA (.slice (some ⟨b, o, none⟩) L.length cv) L)) {k : Nat} (hk : k < L.length) :
    (w.cell? ⟨b, o + k * 4, none⟩ = some (sv L[k].1.name) ∧ w.cell? ⟨b, o + k * 4 + 1, none⟩ = some (sv L[k].1.leader) ∧ w.cell? ⟨b, o + k * 4 + 2, none⟩ = some L[k].2 ∧ w.cell? ⟨b, o + k * 4 + 3, none⟩ = some (sv L[k].1.key)) ∧ rowV w ⟨b, o + k * 4, none⟩ 4 = some (accV L[k].1 L[k].2) := by
  obtain ⟨_, _, _, hv', _, hrow⟩ := St.rowsAt accC_len (by decide) (h.ent hv)
  simp only [Value.slice.injEq, true_and] at hv'
  obtain ⟨e1, rfl⟩ := hv'
  obtain ⟨b', o', e2, hr, hc⟩ := hrow k hk
  rw [← e1] at e2
  simp only [Option.some.injEq, Addr.mk.injEq, and_true] at e2
  obtain ⟨rfl, rfl⟩ := e2
  exact ⟨⟨hc 0 (by decide), hc 1 (by decide), hc 2 (by decide), hc 3 (by decide)⟩, hr⟩

section
attribute [local go_sem] F7.t4_eq F7.t5_eq F7.t6_eq
theorem many_any {w0 w : World} {A : HP} (h : St w0 A w) {v : Value} {ms : List (List UInt8)} (hv : Ent A (ReadsT v ms)) (hb : ∀ t ∈ ms, t.length ≤ 140737488355328) (hl : ms.length ≤ 140737488355328) :
    Calls Tryz.prog 7 #[v] w fun e w' => St w0 A w' ∧ ∃ m : Int, e = .returned (.int .i64 m) ∧ 0 ≤ m ∧ m ≤ 140737496744000 ∧ (m ≤ 8388608 → m = manyF ms) := by
  obtain ⟨a1, c1, rfl, hc1, hk1⟩ := h.texts hv
  refine F7.calls (by simp) ?_
  unfold F7.code
  simp -dsimp -implicitDefEqProofs (disch := omega) only [go_sem, reqD_of, dec_t, dec_f, wrap_i64, wrap_u32, wrap_u64, wrap_u8]
  refine loop_intro (fun e w' => e.ds = [] ∧ St w0 A w' ∧ e.ρ 0 = .slice a1 ms.length c1 ∧ ∃ (i : Nat) (n : Int), i ≤ ms.length ∧ e.ρ 4 = .int .i64 i ∧ e.ρ 3 = .int .i64 n ∧ n = manyF (ms.take i) ∧ 0 ≤ n ∧ n ≤ 140737496744000)
    (fun e _ => match e.ρ 4 with | .int _ n => (ms.length - n).toNat | _ => 0) ?_ ?_
  · exact ⟨rfl, h, by simp -dsimp -implicitDefEqProofs only [go_sem], 0, 0, by omega, by simp -dsimp -implicitDefEqProofs only [go_sem], by simp -dsimp -implicitDefEqProofs only [go_sem], by simp [manyF], by omega, by omega⟩
  clear hk1 h
  rintro e w2 ⟨hd, h2, e0, i, n, hi, e4, e3, hn, hn0, hn1⟩
  by_cases hlt : (i : Int) < (ms.length : Int)
  case neg =>
    rw [List.take_of_length_le (by omega)] at hn
    simp -dsimp -implicitDefEqProofs (disch := omega) only [go_sem, reqD_of, dec_t, dec_f, wrap_i64, wrap_u32, wrap_u64, wrap_u8, hd, e0, e3, e4, hlt]
    exact ⟨h2, n, rfl, hn0, hn1, fun _ => hn⟩
  by_cases hle : n ≤ 8388608
  case neg =>
    simp -dsimp -implicitDefEqProofs (disch := omega) only [go_sem, reqD_of, dec_t, dec_f, wrap_i64, wrap_u32, wrap_u64, wrap_u8, hd, e0, e3, e4, hlt, hle]
    exact ⟨h2, n, rfl, hn0, hn1, fun h => absurd h hle⟩
  have hi1 : i < ms.length := by omega
  obtain ⟨b1, o1, rfl, k1⟩ := (h2.ent hv).atS (a := a1) (n := ms.length) (c := c1) (xs := ms.map sv) (k := i) (by simpa using hi1)
  rw [List.getElem_map] at k1
  have hst := manyF_take hi1
  have hsz := hb _ (List.getElem_mem hi1)
  obtain ⟨p, hp⟩ : ∃ p, p = ms[i] := ⟨_, rfl⟩
  rw [← hp] at k1 hst hsz
  simp -dsimp -implicitDefEqProofs (disch := omega) only [go_sem, reqD_of, dec_t, dec_f, wrap_i64, wrap_u32, wrap_u64, wrap_u8, hd, e0, e3, e4, hlt, hle, k1]
  exact ⟨⟨h2, i + 1, n + 16 + p.length, by omega, by omega, by first | rfl | omega, by omega, by omega, by omega⟩, by omega⟩

end
section
attribute [local go_sem] F12.t4_eq F12.t5_eq F12.t6_eq
theorem much_big {w0 w : World} {A : HP} (h : St w0 A w) {v : Value} {L : List AV} (ha : ArgL A v L) :
    Calls Tryz.prog 12 #[v] w fun e w' => St w0 A w' ∧ ∃ m : Int, e = .returned (.int .i64 m) ∧ (m ≤ 8388608 → m = muchF (accs L)) ∧ 0 ≤ m ∧ m ≤ 1152921504606846976 := by
  obtain ⟨a1, c1, rfl, hao⟩ := rdA_form h ha.rd
  have hlen := ha.len
  refine F12.calls (by simp) ?_
  unfold F12.code
  simp -dsimp -implicitDefEqProofs (disch := omega) only [go_sem, reqD_of, dec_t, dec_f, wrap_i64, wrap_u32, wrap_u64, wrap_u8]
  refine loop_intro (fun e w' => e.ds = [] ∧ St w0 A w' ∧ e.ρ 0 = .slice a1 L.length c1 ∧ ∃ (i : Nat) (n : Int), i ≤ L.length ∧ e.ρ 4 = .int .i64 i ∧ e.ρ 3 = .int .i64 n ∧ (n ≤ 8388608 → n = muchF ((accs L).take i)) ∧ 0 ≤ n ∧ n ≤ 1152921504606846976)
    (fun e _ => match e.ρ 4 with | .int _ n => (L.length - n).toNat | _ => 0) ?_ ?_
  · exact ⟨rfl, h, by simp -dsimp -implicitDefEqProofs only [go_sem], 0, 0, by omega, by simp -dsimp -implicitDefEqProofs only [go_sem], by simp -dsimp -implicitDefEqProofs only [go_sem], fun _ => by simp [muchF], by omega, by omega⟩
  clear h
  rintro e w2 ⟨hd, h2, e0, i, n, hi, e4, e3, hn, hn0, hn1⟩
  by_cases hlt : (i : Int) < (L.length : Int)
  case neg =>
    rw [List.take_of_length_le (by simp; omega)] at hn
    simp -dsimp -implicitDefEqProofs (disch := omega) only [go_sem, reqD_of, dec_t, dec_f, wrap_i64, wrap_u32, wrap_u64, wrap_u8, hd, e0, e3, e4, hlt]
    exact ⟨h2, n, rfl, hn, hn0, hn1⟩
  by_cases hle : n ≤ 8388608
  case neg =>
    simp -dsimp -implicitDefEqProofs (disch := omega) only [go_sem, reqD_of, dec_t, dec_f, wrap_i64, wrap_u32, wrap_u64, wrap_u8, hd, e0, e3, e4, hlt, hle]
    exact ⟨h2, n, rfl, fun h => absurd h hle, hn0, hn1⟩
  have hi1 : i < L.length := by omega
  obtain ⟨b, o, rfl⟩ := hao i hi1
  have cells : ∀ {w : World}, St w0 A w → _ := fun h => rdA_cells h ha.rd hi1
  have hst := muchF_take (L := accs L) (i := i) (by simpa using hi1)
  have hx := ha.each _ (List.getElem_mem hi1)
  rw [show (accs L)[i]'(by simpa using hi1) = L[i].1 by simp] at hst
  obtain ⟨y, hy⟩ : ∃ y, y = L[i] := ⟨_, rfl⟩
  simp only [← hy] at cells hst hx
  obtain ⟨a, va⟩ := y
  simp only at cells hst hx
  obtain ⟨⟨c1', c2, c3, c4⟩, _⟩ := cells h2
  obtain ⟨⟨d1, d2, d3, d4⟩, _⟩ := cells h2.drew
  obtain ⟨x1, x2, x3, x4, x5, x6, x7⟩ := hx
  simp only at x1 x2 x3 x4 x5 x6 x7
  unfold bigF at hst
  simp -dsimp -implicitDefEqProofs (disch := omega) only [go_sem, reqD_of, dec_t, dec_f, wrap_i64, wrap_u32, wrap_u64, wrap_u8, hd, e0, e3, e4, hlt, hle, c1', c2, c3, c4, d1, d2, d3, d4]
  refine (many_any h2.drew x1 x6 x7).mono ?_
  rintro e' w3 ⟨h3, m, rfl, m0, m1, hm⟩
  obtain ⟨⟨f1, f2, f3, f4⟩, _⟩ := cells h3
  simp -dsimp -implicitDefEqProofs (disch := omega) only [go_sem, reqD_of, dec_t, dec_f, wrap_i64, wrap_u32, wrap_u64, wrap_u8, hd, e0, e3, e4, f1, f2, f3, f4]
  refine ⟨⟨h3, i + 1, n + 16 + a.name.length + a.leader.length + a.key.length + m, by omega, by omega, by first | rfl | (congr 1; omega), fun hq => ?_, by omega, by omega⟩, by omega⟩
  have q1 := hn hle
  have q2 := hm (by omega)
  omega
theorem much_any {w0 w : World} {A : HP} (h : St w0 A w) {v : Value} {L : List AV} (ha : ArgL A v L) :
    Calls Tryz.prog 12 #[v] w fun e w' => St w0 A w' ∧ ∃ m : Int, e = .returned (.int .i64 m) ∧ (m ≤ 8388608 → m = muchF (accs L)) :=
  (much_big h ha).mono fun e w' ⟨h1, m, e1, hm, _⟩ => ⟨h1, m, e1, hm⟩

/-! ### The same accounts -/

end

theorem sameAccount_any {w0 w : World} {A : HP} (h : St w0 A w) {a : Acc} {v v' : Value} (hv : Ent A (ReadsT v a.members)) (hv' : Ent A (ReadsT v' a.members)) (hl : a.members.length ≤ 16777216) :
    Calls Tryz.prog 53 #[accV a v, accV a v'] w fun e w' => St w0 A w' ∧ e = .returned (.bool true) := by
  obtain ⟨a1, c1, rfl, _⟩ := h.texts hv
  obtain ⟨a2, c2, rfl, _⟩ := h.texts hv'
  refine F53.calls (by simp) ?_
  unfold F53.code
  simp -dsimp -implicitDefEqProofs (disch := omega) only [go_sem, reqD_of, dec_t, dec_f, wrap_i64, wrap_u32, wrap_u64, wrap_u8]
  refine h.new fun P1 w1 h1 => ?_
  simp -dsimp -implicitDefEqProofs (disch := omega) only [go_sem, reqD_of, dec_t, dec_f, wrap_i64, wrap_u32, wrap_u64, wrap_u8]
  refine h1.new fun P2 w2 h2 => ?_
  simp -dsimp -implicitDefEqProofs (disch := omega) only [go_sem, reqD_of, dec_t, dec_f, wrap_i64, wrap_u32, wrap_u64, wrap_u8, h2.cl P1, h2.cl P2]
  refine (sameTexts_any (xs := a.members) (ys := a.members) h2 ((Ent.right _ _).trans ((Ent.right _ _).trans hv)) ((Ent.right _ _).trans ((Ent.right _ _).trans hv')) (by omega) (by omega)).mono ?_
  rintro e w3 ⟨h3, rfl⟩
  have q1 : decide (a.members = a.members) = true := decide_eq_true rfl
  rw [q1]
  simp -dsimp -implicitDefEqProofs (disch := omega) only [go_sem, reqD_of, dec_t, dec_f, wrap_i64, wrap_u32, wrap_u64, wrap_u8, h3.cl P1, h3.cl P2]
  exact h3.right.right

/-- The same accounts, in two lists. -/
theorem accs_at {L M : List AV} (e : accs L = accs M) {i : Nat} (hi : i < L.length) (hj : i < M.length) : L[i].1 = M[i].1 := by
  have h1 : (accs L)[i]'(by simpa using hi) = (accs M)[i]'(by simpa using hj) := by simp only [e]
  simpa using h1

section
attribute [local go_sem] F44.t5_eq F44.t6_eq F44.t9_eq F44.t3_eq
theorem sameAccounts_any {w0 w : World} {A : HP} (h : St w0 A w) {v v' : Value} {L M : List AV} (hv : Ent A (ReadsA v L)) (hv' : Ent A (ReadsA v' M)) (hm : ∀ x ∈ L, Ent A (ReadsT x.2 x.1.members)) (hm' : ∀ x ∈ M, Ent A (ReadsT x.2 x.1.members))
    (he : accs L = accs M) (hn : L.length ≤ 16777216) (hl : ∀ a ∈ accs L, a.members.length ≤ 16777216) :
    Calls Tryz.prog 44 #[v, v'] w fun e w' => St w0 A w' ∧ e = .returned (.bool true) := by
  obtain ⟨a1, c1, rfl, hao⟩ := rdA_form h hv
  obtain ⟨a2, c2, rfl, hao'⟩ := rdA_form h hv'
  have hlen : L.length = M.length := by have := congrArg List.length he; simpa using this
  refine F44.calls (by simp) ?_
  unfold F44.code
  have hl1 : (L.length : Int) = M.length := by omega
  simp -dsimp -implicitDefEqProofs (disch := omega) only [go_sem, reqD_of, dec_t, dec_f, wrap_i64, wrap_u32, wrap_u64, wrap_u8, hl1]
  refine loop_intro (fun e w' => e.ds = [] ∧ St w0 A w' ∧ e.ρ 0 = .slice a1 L.length c1 ∧ e.ρ 1 = .slice a2 M.length c2 ∧ ∃ i : Nat, i ≤ L.length ∧ e.ρ 5 = .int .i64 i)
    (fun e _ => match e.ρ 5 with | .int _ n => (L.length - n).toNat | _ => 0) ?_ ?_
  · exact ⟨rfl, h, by simp -dsimp -implicitDefEqProofs only [go_sem], by simp -dsimp -implicitDefEqProofs only [go_sem], 0, by omega, by simp -dsimp -implicitDefEqProofs only [go_sem]⟩
  clear h
  rintro e w2 ⟨hd, h2, e0, e1, i, hi, e5⟩
  by_cases hlt : (i : Int) < (L.length : Int)
  case neg =>
    simp -dsimp -implicitDefEqProofs (disch := omega) only [go_sem, reqD_of, dec_t, dec_f, wrap_i64, wrap_u32, wrap_u64, wrap_u8, hd, e0, e1, e5, hlt]
    exact h2
  have hi1 : i < L.length := by omega
  have hi2 : i < M.length := by omega
  have hlt2 : (i : Int) < (M.length : Int) := by omega
  obtain ⟨b, o, rfl⟩ := hao i hi1
  obtain ⟨b', o', rfl⟩ := hao' i hi2
  have c1' := (rdA_cells h2 hv hi1).2
  have c2' := (rdA_cells h2 hv' hi2).2
  have d1' := (rdA_cells h2.drew hv hi1).2
  have d2' := (rdA_cells h2.drew hv' hi2).2
  have hx := hm _ (List.getElem_mem hi1)
  have hx' := hm' _ (List.getElem_mem hi2)
  have hxx := accs_at he hi1 hi2
  have hxl := hl L[i].1 (List.mem_map_of_mem (f := (·.1)) (List.getElem_mem hi1))
  obtain ⟨y, hy⟩ : ∃ y, y = L[i] := ⟨_, rfl⟩
  obtain ⟨z, hz⟩ : ∃ z, z = M[i] := ⟨_, rfl⟩
  rw [← hy] at c1' d1' hx hxx hxl
  rw [← hz] at c2' d2' hx' hxx
  obtain ⟨a, va⟩ := y
  obtain ⟨a', vb⟩ := z
  simp only at hxx c1' d1' c2' d2' hx hx' hxl
  subst hxx
  obtain ⟨p1, k1, rfl, _⟩ := h2.texts hx
  obtain ⟨p2, k2, rfl, _⟩ := h2.texts hx'
  simp -dsimp -implicitDefEqProofs (disch := omega) only [go_sem, reqD_of, dec_t, dec_f, wrap_i64, wrap_u32, wrap_u64, wrap_u8, hd, e0, e1, e5, hlt, hlt2, c1', c2', d1', d2']
  refine (sameAccount_any h2.drew hx hx' hxl).mono ?_
  rintro e' w3 ⟨h3, rfl⟩
  simp -dsimp -implicitDefEqProofs (disch := omega) only [go_sem, reqD_of, dec_t, dec_f, wrap_i64, wrap_u32, wrap_u64, wrap_u8, hd, e0, e1, e5]
  exact ⟨⟨h3, i + 1, by omega, by omega⟩, by omega⟩
end
end Go.Proofs.YtkijkoakloacoaaGreatDoor

namespace Go.Proofs.YtkijkoakloacoaaGreatDoor
open Go
set_option linter.unusedVariables false
set_option linter.unusedSimpArgs false
set_option maxRecDepth 100000

section
attribute [local go_sem] F67.t4_eq F67.t5_eq F67.t9_eq
theorem ownL_any {w0 w : World} {A : HP} (h : St w0 A w) {v : Value} {L : List AV} (hv : Ent A (ReadsA v L)) (hm : MsOk A L) (hn : L.length ≤ 16777216) :
    Calls Tryz.prog 67 #[v] w fun e w' => ∃ (vo : Value) (L' : List AV) (B : HP), accs L' = accs L ∧ MsOk B L' ∧ St w0 (rowA vo L' * (B * A)) w' ∧ e = .returned vo := by
  obtain ⟨a1, c1, rfl, hao⟩ := rdA_form h hv
  refine F67.calls (by simp) ?_
  unfold F67.code
  simp -dsimp -implicitDefEqProofs (disch := omega) only [go_sem, reqD_of, dec_t, dec_f, wrap_i64, wrap_u32, wrap_u64, wrap_u8]
  refine loop_intro (fun e w' => e.ds = [] ∧ e.ρ 0 = .slice a1 L.length c1 ∧ ∃ (i : Nat) (vo : Value) (L' : List AV) (B : HP), i ≤ L.length ∧ e.ρ 3 = vo ∧ e.ρ 4 = .int .i64 i ∧ accs L' = (accs L).take i ∧ MsOk B L' ∧ St w0 (rowA vo L' * (B * A)) w')
    (fun e _ => match e.ρ 4 with | .int _ n => (L.length - n).toNat | _ => 0) ?_ ?_
  · refine ⟨rfl, by simp -dsimp -implicitDefEqProofs only [go_sem], 0, .slice none 0 0, [], EmpH, by omega, by simp -dsimp -implicitDefEqProofs only [go_sem], by simp -dsimp -implicitDefEqProofs only [go_sem], by simp, (fun x hx => by simp at hx), ?_⟩
    exact (h.ent (empL' _)).nilR 72 4
  clear h
  rintro e w2 ⟨hd, e0, i, vo, L', B, hi, e3, e4, hL, hB, h2⟩
  have hll : L'.length = i := by have := congrArg List.length hL; simp at this; omega
  obtain ⟨ao, co, rfl, _⟩ := h2.rowForm vo
  by_cases hlt : (i : Int) < (L.length : Int)
  case neg =>
    rw [List.take_of_length_le (by simp; omega)] at hL
    simp -dsimp -implicitDefEqProofs (disch := omega) only [go_sem, reqD_of, dec_t, dec_f, wrap_i64, wrap_u32, wrap_u64, wrap_u8, hd, e0, e3, e4, hlt]
    exact ⟨_, L', B, hL, hB, h2, rfl⟩
  have hi1 : i < L.length := by omega
  obtain ⟨b, o, rfl⟩ := hao i hi1
  have cells : ∀ {C : HP} {w : World}, St w0 C w → Gives C A → _ := fun h g => rdA_cells h (g.ent.trans hv) hi1
  have hx := hm _ (List.getElem_mem hi1)
  have hst : (accs L).take (i + 1) = (accs L).take i ++ [L[i].1] := by rw [List.take_succ_eq_append_getElem (by simpa using hi1)]; simp
  obtain ⟨y, hy⟩ : ∃ y, y = L[i] := ⟨_, rfl⟩
  simp only [← hy] at cells hst hx
  obtain ⟨a, va⟩ := y
  obtain ⟨x1, x2, x3⟩ := hx
  simp only at x1 x2 x3 cells hst
  obtain ⟨am, cm, rfl⟩ := ms_slice h2 ((Gives.ent (B := A)).trans x1)
  simp -dsimp -implicitDefEqProofs (disch := omega) only [go_sem, reqD_of, dec_t, dec_f, wrap_i64, wrap_u32, wrap_u64, wrap_u8, hd, e0, e3, e4, hlt, (cells h2 inferInstance).2]
  refine h2.new fun P w3 h3 => ?_
  simp -dsimp -implicitDefEqProofs (disch := omega) only [go_sem, reqD_of, dec_t, dec_f, wrap_i64, wrap_u32, wrap_u64, wrap_u8, hd, e0, e3, e4]
  refine h3.stoAll (b := P) (n := 4) (cs := accL a (.slice am a.members.length cm)) rfl rfl (fun v hv => by simp at hv; rcases hv with rfl | rfl | rfl | rfl <;> rfl) fun w4 h4 => ?_
  have h4 : St w0 (bkA P a (.slice am a.members.length cm) * (rowA (.slice ao L'.length co) L' * (B * A))) w4 := h4
  obtain ⟨⟨f1, f2, f3, f4⟩, _⟩ := cells h4 inferInstance
  simp -dsimp -implicitDefEqProofs (disch := omega) only [go_sem, reqD_of, dec_t, dec_f, wrap_i64, wrap_u32, wrap_u64, wrap_u8, hd, e0, e3, e4, hlt, f3]
  have h5 := h4.nilR 9 1
  have g5 : Gives (RowO 9 1 (.slice none 0 0) 0 [] * (bkA P a (.slice am a.members.length cm) * (rowA (.slice ao L'.length co) L' * (B * A)))) A := inferInstance
  refine h5.app (v := .slice none 0 0) (x := .slice am a.members.length cm) (m := a.members.length) (news := a.members.map sv) fact_rowTy_22 (g5.ent.trans x1) Tryz.underlying22 (fun u hu => by obtain ⟨x, _, rfl⟩ := List.mem_map.1 hu; rfl) (fun h => by simpa using h) (show _ ≤ 9223372036854775807 by have := x2.2; omega) (by have := x2.2; omega) fun v6 w6 h6 => ?_
  obtain ⟨a6, c6, rfl, _⟩ := h6.rowForm v6
  simp -dsimp -implicitDefEqProofs (disch := omega) only [go_sem, reqD_of, dec_t, dec_f, wrap_i64, wrap_u32, wrap_u64, wrap_u8, hd, e0, e3, e4]
  refine h6.sto (b := P) (off := 2) (by simp) rfl fun w7 h7 => ?_
  simp only [List.setIfInBounds_toArray, List.set_cons_succ, List.set_cons_zero, Nat.zero_add, List.nil_append] at h7
  have h7 : St w0 (rowT (.slice a6 a.members.length c6) a.members * (bkA P a (.slice a6 a.members.length c6) * (rowA (.slice ao L'.length co) L' * (B * A)))) w7 := by simpa using h7
  have r7 := h7.rowH P 4 rfl
  simp -dsimp -implicitDefEqProofs (disch := omega) only [go_sem, reqD_of, dec_t, dec_f, wrap_i64, wrap_u32, wrap_u64, wrap_u8, hd, e0, e3, e4, r7, h7.cl P]
  refine h7.lit (t := 38) (n := 1) (cells := accL a (.slice a6 a.members.length c6)) fact_rowTy_38 rfl (by decide) (by decide) fun v8 w8 h8 => ?_
  obtain ⟨a8, c8, rfl, _⟩ := h8.rowForm v8
  simp -dsimp -implicitDefEqProofs (disch := omega) only [go_sem, reqD_of, dec_t, dec_f, wrap_i64, wrap_u32, wrap_u64, wrap_u8, hd, e0, e3, e4]
  refine h8.appR (v := .slice ao L'.length co) (x := .slice a8 1 c8) fact_rowTy_38 Tryz.underlying38 (fun u hu => by simp at hu; rcases hu with rfl | rfl | rfl | rfl <;> rfl) (by simp) (show _ ≤ 9223372036854775807 by omega) (by omega) fun v9 w9 h9 => ?_
  obtain ⟨a9, c9, rfl, _⟩ := h9.rowForm v9
  simp -dsimp -implicitDefEqProofs (disch := omega) only [go_sem, reqD_of, dec_t, dec_f, wrap_i64, wrap_u32, wrap_u64, wrap_u8, hd, e0, e4]
  have q1 : (L' ++ [(a, Value.slice a6 a.members.length c6)]).length = L'.length + 1 := by simp
  have q2 : (L' ++ [(a, Value.slice a6 a.members.length c6)]).flatMap accC = L'.flatMap accC ++ accL a (.slice a6 a.members.length c6) := by simp
  refine ⟨⟨i + 1, .slice a9 (L'.length + 1) c9, L' ++ [(a, Value.slice a6 a.members.length c6)], rowT (.slice a6 a.members.length c6) a.members * B, by omega, by first | rfl | (simp -dsimp -implicitDefEqProofs only [go_sem]; done), by omega, by rw [accs, List.map_append, ← accs, hL, hst]; rfl, ?_, ?_⟩, by omega⟩
  · exact MsOk.snoc hB (Ent.right _ _) ((Ent.left _ _).trans (RowO.reads _ _ _ _ _)) x2 rfl
  · unfold rowA
    rw [q1, q2]
    have h10 : St w0 (RowO 72 4 (.slice a9 (L'.length + 1) c9) (L'.length + 1) (L'.flatMap accC ++ accL a (.slice a6 a.members.length c6)) * (rowT (.slice a6 a.members.length c6) a.members * (B * A))) w9 := h9.sub
    exact h10.ac (by ac_rfl)
end
end Go.Proofs.YtkijkoakloacoaaGreatDoor

namespace Go.Proofs.YtkijkoakloacoaaGreatDoor
open Go
set_option linter.unusedVariables false
set_option linter.unusedSimpArgs false
set_option maxRecDepth 100000

/-- How many are told. -/
def stopAt (most : Int) (n : Nat) : Nat := if 1 ≤ most ∧ most ≤ n then most.toNat else n
/-- Accounts that were taken so far. -/
def AccT (S : Nat) (most : Int) (pre : List Acc) : HP := HP.ex fun p : Value × List AV × HP => HP.fact (accs p.2.1 = pre ∧ MsOk p.2.2 p.2.1) (Blk S (.cells #[p.1] 38 (0, 0)) * (rowA p.1 p.2.1 * p.2.2))
theorem AccT.open {w0 w : World} {S : Nat} {most : Int} {pre : List Acc} {F : HP} (h : St w0 (AccT S most pre * F) w) : ∃ (v : Value) (L' : List AV) (B : HP), accs L' = pre ∧ MsOk B L' ∧ St w0 (Blk S (.cells #[v] 38 (0, 0)) * (rowA v L' * (B * F))) w := by
  obtain ⟨⟨v, L', B⟩, h1⟩ := h.exF
  obtain ⟨⟨e1, e2⟩, h2⟩ := h1.factF
  have h2 : St w0 ((Blk S (.cells #[v] 38 (0, 0)) * (rowA v L' * B)) * F) w := h2
  exact ⟨v, L', B, e1, e2, h2.ac (by ac_rfl)⟩
theorem AccT.mk {w0 w : World} {S : Nat} {most : Int} {pre : List Acc} {F : HP} (v : Value) (L' : List AV) (B : HP) (e1 : accs L' = pre) (e2 : MsOk B L') (h : St w0 (Blk S (.cells #[v] 38 (0, 0)) * (rowA v L' * (B * F))) w) : St w0 (AccT S most pre * F) w :=
  (h.ac (by ac_rfl : _ = (Blk S (.cells #[v] 38 (0, 0)) * (rowA v L' * B)) * F)).ent (Ent.sep ((Ent.fact (p := accs L' = pre ∧ MsOk B L') ⟨e1, e2⟩ _).trans (Ent.ex (fun p : Value × List AV × HP => HP.fact (accs p.2.1 = pre ∧ MsOk p.2.2 p.2.1) (Blk S (.cells #[p.1] 38 (0, 0)) * (rowA p.1 p.2.1 * p.2.2))) (v, L', B))) (Ent.rfl' F))

abbrev cellMost (b : Nat) (most : Int) : HP := Blk b (.cells #[.int .i64 most] 3 (0, 0))
abbrev cellBk (b Bk : Nat) : HP := Blk b (.cells #[.pointer (some ⟨Bk, 0, none⟩)] 32 (0, 0))
/-- The loop's state. -/
abbrev ToldK (S C4 C5 Bk n : Nat) (most : Int) (pre : List Acc) : HP := HP.fact (¬ (1 ≤ most ∧ most ≤ pre.length)) (AccT S most pre * (cellMost C4 most * (cellBk C5 Bk * BookP Bk (n + pre.length))))
abbrev ToldX (S C4 C5 Bk n : Nat) (most : Int) (all pre : List Acc) (cd : Code) : HP := HP.fact (cd = .exit 0 ∧ (pre.length : Int) = most ∧ 1 ≤ pre.length ∧ ∃ post, pre ++ post = all) (AccT S most pre * (cellMost C4 most * (cellBk C5 Bk * BookP Bk (n + pre.length))))

section
attribute [local go_sem] F42.t11_eq F42.t5_eq
theorem told_end {w0 w : World} {A : HP} {S C4 C5 D K T m Bk n : Nat} {x : UT} {most : Int} {pre : List Acc} {e : FA} {R : Ending → World → Prop} {ar : Array Value} (hd : e.ds = [{ target := .collected D, args := ar }]) (e8 : e.ρ 8 = .pointer (some ⟨S, 0, none⟩))
    (h : St w0 (AccT S most pre * (cellMost C4 most * (cellBk C5 Bk * BookP Bk (n + pre.length))) * (Blk D (.deferred (some [])) * ((ptrB K T * TabW T m x) * A))) w)
    (hR : ∀ (vo : Value) (L' : List AV) (B : HP) (w' : World), accs L' = pre → MsOk B L' → St w0 (rowA vo L' * (B * (BookP Bk (n + pre.length) * (TabW T m x * A)))) w' → R (.returned (.tuple #[vo, .bool true])) w') :
    cwE Tryz.prog F42.t11 (fnP Tryz.prog #[.tmp 6, .tmp 7] R) e w := by
  obtain ⟨v, L', B, hL, hB, h1⟩ := AccT.open (h.ac (by ac_rfl : _ = AccT S most pre * (Blk D (.deferred (some [])) * ((cellMost C4 most * (cellBk C5 Bk * BookP Bk (n + pre.length))) * ((ptrB K T * TabW T m x) * A)))))
  obtain ⟨a, c, rfl, _⟩ := h1.rowForm v
  rw [F42.t11_eq]
  simp -dsimp -implicitDefEqProofs (disch := omega) only [go_sem, reqD_of, dec_t, dec_f, wrap_i64, wrap_u32, wrap_u64, wrap_u8, hd, e8, h1.cl S]
  refine St.mark1 (D := D) (h1.ac (by show _ = Blk D (.deferred (some [])) * ((Blk S (.cells #[.slice a L'.length c] 38 (0, 0)) * (cellMost C4 most * (cellBk C5 Bk * ptrB K T))) * (rowA (.slice a L'.length c) L' * (B * (BookP Bk (n + pre.length) * (TabW T m x * A))))); ac_rfl)) fun w3 h10 => ?_
  exact hR _ L' B _ hL hB h10.right.right

end
section
attribute [local go_sem] F42.t5_eq
theorem told_any {w0 w : World} {A : HP} {T m Bk n : Nat} {x : UT} (ok : x.Ok) (hx : x.L.length ≤ 16777216) (hn : n + x.L.length ≤ 100000000) {most : Int} (h : St w0 (TabW T m x * (BookP Bk n * A)) w) :
    Calls Tryz.prog 42 #[.pointer (some ⟨T, 0, none⟩), .int .i64 most, .pointer (some ⟨Bk, 0, none⟩)] w fun e w' => ∃ (vo : Value) (L' : List AV) (B : HP),
      accs L' = (accs x.L).take (stopAt most x.L.length) ∧ MsOk B L' ∧ St w0 (rowA vo L' * (B * (BookP Bk (n + stopAt most x.L.length) * (TabW T m x * A)))) w' ∧ e = .returned (.tuple #[vo, .bool true]) := by
  refine F42.calls (by simp) ?_
  unfold F42.code
  simp -dsimp -implicitDefEqProofs (disch := omega) only [go_sem, reqD_of, dec_t, dec_f, wrap_i64, wrap_u32, wrap_u64, wrap_u8]
  refine h.new fun C4 w1 h1 => ?_
  simp -dsimp -implicitDefEqProofs (disch := omega) only [go_sem, reqD_of, dec_t, dec_f, wrap_i64, wrap_u32, wrap_u64, wrap_u8]
  refine h1.new fun C5 w2 h2 => ?_
  simp -dsimp -implicitDefEqProofs (disch := omega) only [go_sem, reqD_of, dec_t, dec_f, wrap_i64, wrap_u32, wrap_u64, wrap_u8]
  refine h2.new fun S w3 h3 => ?_
  simp -dsimp -implicitDefEqProofs (disch := omega) only [go_sem, reqD_of, dec_t, dec_f, wrap_i64, wrap_u32, wrap_u64, wrap_u8]
  refine (accounts_any h3).mono ?_
  rintro e w4 ⟨K, h4, rfl⟩
  simp -dsimp -implicitDefEqProofs (disch := omega) only [go_sem, reqD_of, dec_t, dec_f, wrap_i64, wrap_u32, wrap_u64, wrap_u8]
  have h4 : St w0 (ptrB K T * (Blk S (.cells #[.slice none 0 0] 38 (0, 0)) * (cellBk C5 Bk * (cellMost C4 most * (TabW T m x * (BookP Bk n * A)))))) w4 := h4
  have h5 : St w0 (AccT S most [] * (cellMost C4 most * (cellBk C5 Bk * BookP Bk (n + 0)) * (ptrB K T * TabW T m x) * A)) w4 := by
    refine AccT.mk (.slice none 0 0) [] EmpH rfl (fun x hx => by simp at hx) ?_
    have h6 := (h4.ent (empL' _)).nilR 72 4
    exact h6.ac (by rw [Nat.add_zero]; show _ = Blk S (.cells #[.slice none 0 0] 38 (0, 0)) * (RowO 72 4 (.slice none 0 0) 0 [] * (EmpH * (cellMost C4 most * (cellBk C5 Bk * BookP Bk n) * (ptrB K T * TabW T m x) * A))); ac_rfl)
  have h6 : St w0 (ToldK S C4 C5 Bk n most [] * AllT K T m x * A) w4 := by
    have h7 : St w0 (AccT S most [] * (cellMost C4 most * (cellBk C5 Bk * BookP Bk (n + 0))) * ((ptrB K T * TabW T m x) * A)) w4 := h5.ac (by ac_rfl)
    have h8 : St w0 (ToldK S C4 C5 Bk n most [] * ((ptrB K T * TabW T m x) * A)) w4 := h7.ent (Ent.sep (Ent.fact (p := ¬ (1 ≤ most ∧ most ≤ ([] : List Acc).length)) (by simp only [List.length_nil]; omega) _) (Ent.rfl' _))
    exact h8.ac (sep_assoc _ _ _).symm
  refine range_introT h6 (gf := 83) (lb := #[.pointer (some ⟨K, 0, none⟩)]) (by simp -dsimp -implicitDefEqProofs only [go_sem]) fact_fnOk_83 (Pass := PassC)
    (fun pre => ToldK S C4 C5 Bk n most pre * AllT K T m x) (fun cd pre => ToldX S C4 C5 Bk n most (accs x.L) pre cd * AllT K T m x) (Ent.rfl' _) ?_ (fun pre => ToldK S C4 C5 Bk n most pre) (AllT K T m x) (fun pre => rfl) (accIter (K := K) (T := T) (m := m) (G := A) ok hx) ?_ ?_
  · intro q pre y args G W1 hpo h6
    have h6 : St w0 (ToldK S C4 C5 Bk n most pre * (ptrB K T * TabW T m x) * (PassC y args * G)) W1 := h6
    obtain ⟨v, rfl, h7⟩ := PassC.open (h6.ac (by ac_rfl : _ = PassC y args * (ToldK S C4 C5 Bk n most pre * (ptrB K T * TabW T m x) * G)))
    obtain ⟨av, cv, rfl, _⟩ := h7.rowForm v
    refine ⟨rfl, ?_⟩
    unfold F42.a0
    simp -dsimp -implicitDefEqProofs (disch := omega) only [go_sem, reqD_of, dec_t, dec_f, wrap_i64, wrap_u32, wrap_u64, wrap_u8, List.toList_toArray]
    refine h6.new fun P w5 h8 => ?_
    simp -dsimp -implicitDefEqProofs (disch := omega) only [go_sem, reqD_of, dec_t, dec_f, wrap_i64, wrap_u32, wrap_u64, wrap_u8]
    refine h8.stoAll (b := P) (n := 4) (cs := accL y (.slice av y.members.length cv)) rfl rfl (fun v hv => by simp at hv; rcases hv with rfl | rfl | rfl | rfl <;> rfl) fun w6 h9 => ?_
    simp -dsimp -implicitDefEqProofs (disch := omega) only [go_sem, reqD_of, dec_t, dec_f, wrap_i64, wrap_u32, wrap_u64, wrap_u8]
    refine ⟨bkA P y (.slice av y.members.length cv), h9, fun G2 W2 hl2 h10 => ?_⟩
    clear h6 h7 h8 h9
    have hpl : pre.length + 1 ≤ x.L.length := by
      obtain ⟨post, hp⟩ := hpo
      have := congrArg List.length hp
      simp only [List.length_append, List.length_cons, List.length_nil, List.length_map] at this
      omega
    have hfy : Fit y := by
      obtain ⟨post, hp⟩ := hpo
      have : y ∈ accs x.L := by rw [← hp]; simp
      obtain ⟨z, hz, rfl⟩ := List.mem_map.1 this
      exact (ok.ms z hz).2.1
    have h10 : St w0 (bkA P y (.slice av y.members.length cv) * (HP.fact (¬ (1 ≤ most ∧ most ≤ pre.length)) (AccT S most pre * (cellMost C4 most * (cellBk C5 Bk * BookP Bk (n + pre.length)))) * (ptrB K T * TabW T m x) * (PassC y #[accV y (.slice av y.members.length cv)] * G2))) W2 := h10
    obtain ⟨hmp, h11⟩ := (h10.ac (by ac_rfl : _ = HP.fact (¬ (1 ≤ most ∧ most ≤ pre.length)) (AccT S most pre * (cellMost C4 most * (cellBk C5 Bk * BookP Bk (n + pre.length)))) * (bkA P y (.slice av y.members.length cv) * ((ptrB K T * TabW T m x) * (PassC y #[accV y (.slice av y.members.length cv)] * G2))))).factF
    obtain ⟨v', e', h12⟩ := PassC.open (h11.ac (by ac_rfl : _ = PassC y #[accV y (.slice av y.members.length cv)] * (AccT S most pre * (cellMost C4 most * (cellBk C5 Bk * BookP Bk (n + pre.length))) * (bkA P y (.slice av y.members.length cv) * ((ptrB K T * TabW T m x) * G2)))))
    have e' := accV_inj e'
    subst e'
    obtain ⟨vo, L', B, hL, hB, h13⟩ := AccT.open (h12.ac (by ac_rfl : _ = AccT S most pre * (rowT (.slice av y.members.length cv) y.members * ((cellMost C4 most * (cellBk C5 Bk * BookP Bk (n + pre.length))) * (bkA P y (.slice av y.members.length cv) * ((ptrB K T * TabW T m x) * G2))))))
    have h13 : St w0 (rowT (.slice av y.members.length cv) y.members * (bkA P y (.slice av y.members.length cv) * (Blk S (.cells #[vo] 38 (0, 0)) * (rowA vo L' * (cellMost C4 most * (cellBk C5 Bk * (BookP Bk (n + pre.length) * (B * ((ptrB K T * TabW T m x) * G2))))))))) W2 := h13.ac (by ac_rfl)
    clear h10 h11 h12
    have hll : L'.length = pre.length := by have := congrArg List.length hL; simpa using this
    obtain ⟨ao, co, rfl, _⟩ := h13.rowForm vo
    unfold F42.b0
    have r13 := h13.rowH P 4 rfl
    simp -dsimp -implicitDefEqProofs (disch := omega) only [go_sem, reqD_of, dec_t, dec_f, wrap_i64, wrap_u32, wrap_u64, wrap_u8, r13, h13.cl P]
    refine h13.lit (t := 38) (n := 1) (cells := accL y (.slice av y.members.length cv)) fact_rowTy_38 rfl (by decide) (by decide) fun v1 w1 h14 => ?_
    simp -dsimp -implicitDefEqProofs (disch := omega) only [go_sem, reqD_of, dec_t, dec_f, wrap_i64, wrap_u32, wrap_u64, wrap_u8]
    refine (ownL_any h14 (v := v1) (L := [(y, .slice av y.members.length cv)]) ((Ent.left _ _).trans (RowO.reads _ _ _ _ _)) (fun z hz => by
      simp only [List.mem_singleton] at hz
      subst hz
      exact ⟨(Ent.right _ _).trans ((Ent.left _ _).trans (RowO.reads _ _ _ _ _)), hfy, rfl⟩) (by simp)).mono ?_
    rintro e' w2 ⟨v2, L2, B2, hL2, hB2, h15, rfl⟩
    have h16 : St w0 (rowA v2 L2 * (rowA (.slice ao L'.length co) L' * (rowT (.slice av y.members.length cv) y.members * (bkA P y (.slice av y.members.length cv) * (Blk S (.cells #[.slice ao L'.length co] 38 (0, 0)) * (cellMost C4 most * (cellBk C5 Bk * (BookP Bk (n + pre.length) * (B2 * (B * ((ptrB K T * TabW T m x) * G2))))))))))) w2 := h15.sub
    have hl2 : L2.length = 1 := by have := congrArg List.length hL2; simpa using this
    obtain ⟨a2, c2, rfl, _⟩ := h16.rowForm v2
    simp -dsimp -implicitDefEqProofs (disch := omega) only [go_sem, reqD_of, dec_t, dec_f, wrap_i64, wrap_u32, wrap_u64, wrap_u8, h16.cl S]
    refine h16.appR (v := .slice ao L'.length co) (x := .slice a2 L2.length c2) fact_rowTy_38 Tryz.underlying38 (fun u hu => by
      obtain ⟨z, hz, hu⟩ := List.mem_flatMap.1 hu
      have := (hB2 z hz).2.2
      simp at hu
      rcases hu with rfl | rfl | rfl | rfl
      · rfl
      · rfl
      · exact this
      · rfl) (fun h => by obtain ⟨z, rfl⟩ := List.length_eq_one_iff.1 hl2; simp at h) (show _ ≤ 9223372036854775807 by omega) (by omega) fun v3 w3 h17 => ?_
    obtain ⟨a3, c3, rfl, _⟩ := h17.rowForm v3
    simp -dsimp -implicitDefEqProofs (disch := omega) only [go_sem, reqD_of, dec_t, dec_f, wrap_i64, wrap_u32, wrap_u64, wrap_u8]
    refine h17.sto (b := S) (off := 0) (by simp) rfl fun w4 h18 => ?_
    simp only [List.setIfInBounds_toArray, List.set_cons_succ, List.set_cons_zero] at h18
    simp -dsimp -implicitDefEqProofs (disch := omega) only [go_sem, reqD_of, dec_t, dec_f, wrap_i64, wrap_u32, wrap_u64, wrap_u8, h18.cl P, h18.cl C5]
    have h19 : St w0 (BookP Bk (n + pre.length) * (RowO 9 1 (.slice av y.members.length cv) y.members.length (y.members.map sv) * (RowO 72 4 (.slice a3 (L'.length + L2.length) c3) (L'.length + L2.length) (L'.flatMap accC ++ L2.flatMap accC) * (Blk S (.cells #[.slice a3 (L'.length + L2.length) c3] 38 (0, 0)) * (bkA P y (.slice av y.members.length cv) * (cellMost C4 most * (cellBk C5 Bk * (B2 * (B * ((ptrB K T * TabW T m x) * G2)))))))))) w4 := h18.sub
    refine (owns_any (by omega) hfy.2 h19).mono ?_
    rintro e' w5 ⟨h20, rfl⟩
    have q1 : (L' ++ L2).length = L'.length + L2.length := by simp
    have q2 : (L' ++ L2).flatMap accC = L'.flatMap accC ++ L2.flatMap accC := by simp
    have hpy : (pre ++ [y]).length = pre.length + 1 := by simp
    have h21 : St w0 (AccT S most (pre ++ [y]) * (cellMost C4 most * (cellBk C5 Bk * BookP Bk (n + (pre ++ [y]).length))) * ((ptrB K T * TabW T m x) * G2)) w5 := by
      refine (AccT.mk (most := most) (.slice a3 (L'.length + L2.length) c3) (L' ++ L2) (B2 * B) (by rw [accs, List.map_append, ← accs, ← accs, hL, hL2]) (fun z hz => ?_) (F := (cellMost C4 most * (cellBk C5 Bk * BookP Bk (n + (pre.length + 1)))) * ((ptrB K T * TabW T m x) * G2)) ?_).ac (by rw [hpy]; ac_rfl)
      · rcases List.mem_append.1 hz with hz | hz
        · exact ⟨(Ent.right _ _).trans (hB z hz).1, (hB z hz).2⟩
        · exact ⟨(Ent.left _ _).trans (hB2 z hz).1, (hB2 z hz).2⟩
      · unfold rowA
        rw [q1, q2]
        exact (h20.sub (B := RowO 72 4 (.slice a3 (L'.length + L2.length) c3) (L'.length + L2.length) (L'.flatMap accC ++ L2.flatMap accC) * (Blk S (.cells #[.slice a3 (L'.length + L2.length) c3] 38 (0, 0)) * (BookP Bk (n + pre.length + 1) * (cellMost C4 most * (cellBk C5 Bk * (B2 * (B * ((ptrB K T * TabW T m x) * G2))))))))).ac (by rw [Nat.add_assoc]; ac_rfl)
    by_cases hst : ((L'.length + L2.length : Nat) : Int) = most
    · simp -dsimp -implicitDefEqProofs (disch := omega) only [go_sem, reqD_of, dec_t, dec_f, wrap_i64, wrap_u32, wrap_u64, wrap_u8, h20.cl S, h20.cl C4, hst]
      have h22 : St w0 (ToldX S C4 C5 Bk n most (accs x.L) (pre ++ [y]) (.exit 0) * ((ptrB K T * TabW T m x) * G2)) w5 := h21.ent (Ent.sep (Ent.fact (p := Code.exit 0 = .exit 0 ∧ ((pre ++ [y]).length : Int) = most ∧ 1 ≤ (pre ++ [y]).length ∧ ∃ post, (pre ++ [y]) ++ post = accs x.L) ⟨rfl, by rw [hpy]; omega, by omega, hpo⟩ _) (Ent.rfl' _))
      exact h22.ac (sep_assoc _ _ _).symm
    · simp -dsimp -implicitDefEqProofs (disch := omega) only [go_sem, reqD_of, dec_t, dec_f, wrap_i64, wrap_u32, wrap_u64, wrap_u8, h20.cl S, h20.cl C4, hst]
      have h22 : St w0 (ToldK S C4 C5 Bk n most (pre ++ [y]) * ((ptrB K T * TabW T m x) * G2)) w5 := h21.ent (Ent.sep (Ent.fact (p := ¬ (1 ≤ most ∧ most ≤ (pre ++ [y]).length)) (by rw [hpy]; omega) _) (Ent.rfl' _))
      exact h22.ac (sep_assoc _ _ _).symm
  · intro D xs w' hS h6
    subst hS
    have h6 : St w0 (Blk D (.deferred (some [])) * (HP.fact (¬ (1 ≤ most ∧ most ≤ (accs x.L).length)) (AccT S most (accs x.L) * (cellMost C4 most * (cellBk C5 Bk * BookP Bk (n + (accs x.L).length)))) * (ptrB K T * TabW T m x) * A)) w' := h6
    obtain ⟨hmp, h7⟩ := (h6.ac (by ac_rfl : _ = HP.fact (¬ (1 ≤ most ∧ most ≤ (accs x.L).length)) (AccT S most (accs x.L) * (cellMost C4 most * (cellBk C5 Bk * BookP Bk (n + (accs x.L).length)))) * (Blk D (.deferred (some [])) * ((ptrB K T * TabW T m x) * A)))).factF
    have hst : stopAt most x.L.length = (accs x.L).length := by
      unfold stopAt
      rw [if_neg (by simpa using hmp)]
      simp
    simp -dsimp -implicitDefEqProofs (disch := omega) only [go_sem, reqD_of, dec_t, dec_f, wrap_i64, wrap_u32, wrap_u64, wrap_u8]
    refine told_end (D := D) (K := K) (pre := accs x.L) (ar := #[]) (by simp -dsimp -implicitDefEqProofs only [go_sem]) (by simp -dsimp -implicitDefEqProofs only [go_sem]) h7 fun vo L' B w3 hL hB h8 => ?_
    rw [hst]
    exact ⟨vo, L', B, by rw [hL, List.take_length], hB, h8, rfl⟩
  · intro D cd pre w' h6
    have h6 : St w0 (Blk D (.deferred (some [])) * (HP.fact (cd = .exit 0 ∧ (pre.length : Int) = most ∧ 1 ≤ pre.length ∧ ∃ post, pre ++ post = accs x.L) (AccT S most pre * (cellMost C4 most * (cellBk C5 Bk * BookP Bk (n + pre.length)))) * (ptrB K T * TabW T m x) * A)) w' := h6
    obtain ⟨⟨rfl, hmo, h1p, post, hpo⟩, h7⟩ := (h6.ac (by ac_rfl : _ = HP.fact (cd = .exit 0 ∧ (pre.length : Int) = most ∧ 1 ≤ pre.length ∧ ∃ post, pre ++ post = accs x.L) (AccT S most pre * (cellMost C4 most * (cellBk C5 Bk * BookP Bk (n + pre.length)))) * (Blk D (.deferred (some [])) * ((ptrB K T * TabW T m x) * A)))).factF
    have hpl : pre.length ≤ x.L.length := by
      have := congrArg List.length hpo
      simp only [List.length_append, List.length_map] at this
      omega
    have hst : stopAt most x.L.length = pre.length := by
      unfold stopAt
      rw [if_pos (by omega)]
      omega
    simp only [jumpP]
    simp -dsimp -implicitDefEqProofs (disch := omega) only [go_sem, reqD_of, dec_t, dec_f, wrap_i64, wrap_u32, wrap_u64, wrap_u8]
    refine told_end (D := D) (K := K) (pre := pre) (ar := #[]) (by simp -dsimp -implicitDefEqProofs only [go_sem]) (by simp -dsimp -implicitDefEqProofs only [go_sem]) h7 fun vo L' B w3 hL hB h8 => ?_
    rw [hst]
    exact ⟨vo, L', B, by rw [hL, ← hpo, List.take_left], hB, h8, rfl⟩
end
end Go.Proofs.YtkijkoakloacoaaGreatDoor
