/- The reference's find, has, twice, knows. The reference's line, text, length; its own accounts. -/
import Derived.Test.YtkijkoakloacoaaGreatDoorUN
import Derived.Test.YtkijkoakloacoaaGreatDoorUL
namespace Go.Proofs.YtkijkoakloacoaaGreatDoor
open Go
set_option linter.unusedVariables false
set_option linter.unusedSimpArgs false
set_option maxRecDepth 100000

theorem ReadsA.take {a : Option Addr} {c k : Nat} {L : List AV} (hk : k ≤ L.length) : Ent (ReadsA (.slice a L.length c) L) (ReadsA (.slice a k c) (L.take k)) := by
  have h := Reads.takeK (s := 4) (a := a) (c := c) (xs := L.flatMap accC) hk
  rw [slice_ite, Nat.sub_zero, flatMap_take accC_len] at h
  have hl : (L.take k).length = k := by simp; omega
  unfold ReadsA
  rw [hl]
  exact h

theorem rdA_cap {w0 w : World} {A : HP} (h : St w0 A w) {a : Option Addr} {c : Nat} {L : List AV} (hv : Ent A (ReadsA (.slice a L.length c) L)) : L.length ≤ c := by
  obtain ⟨_, a', c', hv', hnc, _⟩ := St.rowsAt accC_len (by decide) (h.ent hv)
  simp only [Value.slice.injEq, true_and] at hv'
  obtain ⟨rfl, rfl⟩ := hv'
  exact hnc

/-- Where the first one of that name stands; -1. -/
def FindK (L : List Acc) (n : List UInt8) (k : Int) : Prop := (known L n = false ∧ k = -1) ∨ ∃ i : Nat, ∃ hi : i < L.length, k = i ∧ L[i].name = n ∧ known (L.take i) n = false
theorem FindK.neg {L : List Acc} {n : List UInt8} {k : Int} (h : FindK L n k) : decide (k < 0) = !known L n := by
  rcases h with ⟨h1, rfl⟩ | ⟨i, hi, rfl, h1, h2⟩
  · rw [h1]; rfl
  · have : known L n = true := by rw [known_iff]; exact h1 ▸ List.mem_map_of_mem (f := (·.name)) (List.getElem_mem hi)
    rw [this]
    exact decide_eq_false (by omega)
theorem FindK.pos {L : List Acc} {n : List UInt8} {k : Int} (h : FindK L n k) : decide (0 ≤ k) = known L n := by
  have := h.neg
  cases hk : known L n
  · rw [hk] at this; have := of_decide_eq_true this; exact decide_eq_false (by omega)
  · rw [hk] at this; have := of_decide_eq_false this; exact decide_eq_true (by omega)

section
attribute [local go_sem] F38.t3_eq F38.t4_eq F38.t6_eq
theorem find_any {w0 w : World} {A : HP} (h : St w0 A w) {v : Value} {L : List AV} (hv : Ent A (ReadsA v L)) (hl : L.length ≤ 140737488355328) (n : List UInt8) :
    Calls Tryz.prog 38 #[v, .string (strOf n)] w fun e w' => St w0 A w' ∧ ∃ k : Int, FindK (accs L) n k ∧ e = .returned (.int .i64 k) := by
  obtain ⟨a1, c1, rfl, hao⟩ := rdA_form h hv
  refine F38.calls (by simp) ?_
  unfold F38.code
  simp -dsimp -implicitDefEqProofs (disch := omega) only [go_sem, reqD_of, dec_t, dec_f, wrap_i64, wrap_u32, wrap_u64, wrap_u8]
  refine loop_intro (fun e w' => e.ds = [] ∧ St w0 A w' ∧ e.ρ 0 = .slice a1 L.length c1 ∧ e.ρ 1 = .string (strOf n) ∧ ∃ i : Nat, i ≤ L.length ∧ e.ρ 5 = .int .i64 i ∧ known ((accs L).take i) n = false)
    (fun e _ => match e.ρ 5 with | .int _ n => (L.length - n).toNat | _ => 0) ?_ ?_
  · exact ⟨rfl, h, by simp -dsimp -implicitDefEqProofs only [go_sem], by simp -dsimp -implicitDefEqProofs only [go_sem], 0, by omega, by simp -dsimp -implicitDefEqProofs only [go_sem], rfl⟩
  clear h
  rintro e w2 ⟨hd, h2, e0, e1, i, hi, e5, hk⟩
  by_cases hlt : (i : Int) < (L.length : Int)
  case neg =>
    rw [List.take_of_length_le (by simp; omega)] at hk
    simp -dsimp -implicitDefEqProofs (disch := omega) only [go_sem, reqD_of, dec_t, dec_f, wrap_i64, wrap_u32, wrap_u64, wrap_u8, hd, e0, e1, e5, hlt]
    exact ⟨h2, _, .inl ⟨hk, rfl⟩, rfl⟩
  have hi1 : i < L.length := by omega
  obtain ⟨b, o, rfl⟩ := hao i hi1
  obtain ⟨⟨c1', c2, c3, c4⟩, _⟩ := rdA_cells h2 hv hi1
  have hst : (accs L).take (i + 1) = (accs L).take i ++ [L[i].1] := by rw [List.take_succ_eq_append_getElem (by simpa using hi1)]; simp
  have hx : (accs L)[i]'(by simpa using hi1) = L[i].1 := by simp
  obtain ⟨y, hy⟩ : ∃ y, y = L[i].1.name := ⟨_, rfl⟩
  rw [← hy] at c1'
  by_cases hq : y = n
  · have e9 : decide (y = n) = true := by simp [hq]
    simp -dsimp -implicitDefEqProofs (disch := omega) only [go_sem, reqD_of, dec_t, dec_f, wrap_i64, wrap_u32, wrap_u64, wrap_u8, hd, e0, e1, e5, hlt, c1', e9]
    exact ⟨h2, _, .inr ⟨i, by simpa using hi1, rfl, by rw [hx, ← hy, hq], hk⟩, rfl⟩
  · simp -dsimp -implicitDefEqProofs (disch := omega) only [go_sem, reqD_of, dec_t, dec_f, wrap_i64, wrap_u32, wrap_u64, wrap_u8, hd, e0, e1, e5, hlt, c1', hq]
    refine ⟨⟨h2, i + 1, by omega, by omega, ?_⟩, by omega⟩
    rw [known_false] at hk ⊢
    rw [hst, List.map_append, List.mem_append, not_or]
    exact ⟨hk, by simpa [← hy] using fun e => hq e.symm⟩

end
section
attribute [local go_sem] F65.t3_eq F65.t4_eq F65.t6_eq
theorem has_any {w0 w : World} {A : HP} (h : St w0 A w) {v : Value} {ls : List (List UInt8)} (hv : Ent A (ReadsT v ls)) (hl : ls.length ≤ 140737488355328) (x : List UInt8) :
    Calls Tryz.prog 65 #[v, .string (strOf x)] w fun e w' => St w0 A w' ∧ e = .returned (.bool (decide (x ∈ ls))) := by
  obtain ⟨a, c, rfl, hc, _⟩ := h.texts hv
  refine F65.calls (by simp) ?_
  unfold F65.code
  simp -dsimp -implicitDefEqProofs (disch := omega) only [go_sem, reqD_of, dec_t, dec_f, wrap_i64, wrap_u32, wrap_u64, wrap_u8]
  refine loop_intro (fun e w' => e.ds = [] ∧ St w0 A w' ∧ e.ρ 0 = .slice a ls.length c ∧ e.ρ 1 = .string (strOf x) ∧ ∃ i : Nat, i ≤ ls.length ∧ e.ρ 5 = .int .i64 i ∧ x ∉ ls.take i)
    (fun e _ => match e.ρ 5 with | .int _ n => (ls.length - n).toNat | _ => 0) ?_ ?_
  · exact ⟨rfl, h, by simp -dsimp -implicitDefEqProofs only [go_sem], by simp -dsimp -implicitDefEqProofs only [go_sem], 0, by omega, by simp -dsimp -implicitDefEqProofs only [go_sem], by simp⟩
  clear h
  rintro e w2 ⟨hd, h2, e0, e1, i, hi, e5, hk⟩
  by_cases hlt : (i : Int) < (ls.length : Int)
  case neg =>
    rw [List.take_of_length_le (by omega)] at hk
    have hn : decide (x ∈ ls) = false := decide_eq_false hk
    rw [hn]
    simp -dsimp -implicitDefEqProofs (disch := omega) only [go_sem, reqD_of, dec_t, dec_f, wrap_i64, wrap_u32, wrap_u64, wrap_u8, hd, e0, e1, e5, hlt]
    exact h2
  have hlt' : i < ls.length := by omega
  obtain ⟨b, o, rfl, c0⟩ := h2.textAt hv hlt'
  obtain ⟨q, hq⟩ : ∃ q, q = ls[i] := ⟨_, rfl⟩
  rw [← hq] at c0
  by_cases hxq : q = x
  · have e9 : decide (q = x) = true := by simp [hxq]
    have hn : decide (x ∈ ls) = true := decide_eq_true (by rw [← hxq, hq]; exact List.getElem_mem hlt')
    rw [hn]
    simp -dsimp -implicitDefEqProofs (disch := omega) only [go_sem, reqD_of, dec_t, dec_f, wrap_i64, wrap_u32, wrap_u64, wrap_u8, hd, e0, e1, e5, hlt, c0, e9]
    exact h2
  · simp -dsimp -implicitDefEqProofs (disch := omega) only [go_sem, reqD_of, dec_t, dec_f, wrap_i64, wrap_u32, wrap_u64, wrap_u8, hd, e0, e1, e5, hlt, c0, hxq]
    refine ⟨⟨h2, i + 1, by omega, by omega, ?_⟩, by omega⟩
    rw [List.take_succ_eq_append_getElem hlt', ← hq]
    simp only [List.mem_append, List.mem_singleton, not_or]
    exact ⟨hk, fun e => hxq e.symm⟩

end
section
attribute [local go_sem] F39.t3_eq F39.t4_eq F39.t6_eq
theorem twice_any {w0 w : World} {A : HP} (h : St w0 A w) {a : Acc} {v : Value} (hv : Ent A (ReadsT v a.members)) (hl : a.members.length ≤ 140737488355328) :
    Calls Tryz.prog 39 #[v] w fun e w' => St w0 A w' ∧ e = .returned (.bool (!onceF a)) := by
  obtain ⟨av, c, rfl, hc, _⟩ := h.texts hv
  refine F39.calls (by simp) ?_
  unfold F39.code
  simp -dsimp -implicitDefEqProofs (disch := omega) only [go_sem, reqD_of, dec_t, dec_f, wrap_i64, wrap_u32, wrap_u64, wrap_u8]
  refine loop_intro (fun e w' => e.ds = [] ∧ St w0 A w' ∧ e.ρ 0 = .slice av a.members.length c ∧ ∃ i : Nat, i ≤ a.members.length ∧ e.ρ 3 = .int .i64 i ∧ (a.members.take i).Nodup)
    (fun e _ => match e.ρ 3 with | .int _ n => (a.members.length - n).toNat | _ => 0) ?_ ?_
  · exact ⟨rfl, h, by simp -dsimp -implicitDefEqProofs only [go_sem], 0, by omega, by simp -dsimp -implicitDefEqProofs only [go_sem], by simp⟩
  clear h
  rintro e w2 ⟨hd, h2, e0, i, hi, e3, hk⟩
  by_cases hlt : (i : Int) < (a.members.length : Int)
  case neg =>
    rw [List.take_of_length_le (by omega)] at hk
    have hn : onceF a = true := decide_eq_true hk
    rw [hn]
    simp -dsimp -implicitDefEqProofs (disch := omega) only [go_sem, reqD_of, dec_t, dec_f, wrap_i64, wrap_u32, wrap_u64, wrap_u8, hd, e0, e3, hlt]
    exact h2
  have hlt' : i < a.members.length := by omega
  obtain ⟨b, o, rfl, c0⟩ := h2.textAt hv hlt'
  obtain ⟨q, hq⟩ : ∃ q, q = a.members[i] := ⟨_, rfl⟩
  rw [← hq] at c0
  have c7 : w2.drew.cell? _ = _ := c0
  simp -dsimp -implicitDefEqProofs (disch := omega) only [go_sem, reqD_of, dec_t, dec_f, wrap_i64, wrap_u32, wrap_u64, wrap_u8, hd, e0, e3, hlt, c0, c7]
  try rw [show (if c = 0 then some (⟨b, o, none⟩ : Addr) else some ⟨b, o, none⟩) = some ⟨b, o, none⟩ from ite_self _]
  refine (has_any (ls := a.members.take i) h2.drew (hv.trans (ReadsT.take (by omega))) (by simp; omega) q).mono ?_
  rintro e' w3 ⟨h3, rfl⟩
  by_cases hm : q ∈ a.members.take i
  · have hn : onceF a = false := by
      refine decide_eq_false fun hnd => ?_
      have hsub : (a.members.take (i + 1)).Nodup := hnd.sublist (List.take_sublist _ _)
      rw [List.take_succ_eq_append_getElem hlt', ← hq, List.nodup_append] at hsub
      exact hsub.2.2 q hm q (by simp) rfl
    have e9 : decide (q ∈ a.members.take i) = true := decide_eq_true hm
    rw [hn, e9]
    simp -dsimp -implicitDefEqProofs (disch := omega) only [go_sem, reqD_of, dec_t, dec_f, wrap_i64, wrap_u32, wrap_u64, wrap_u8, hd, e0, e3]
    exact h3
  · have e9 : decide (q ∈ a.members.take i) = false := decide_eq_false hm
    rw [e9]
    simp -dsimp -implicitDefEqProofs (disch := omega) only [go_sem, reqD_of, dec_t, dec_f, wrap_i64, wrap_u32, wrap_u64, wrap_u8, hd, e0, e3]
    refine ⟨⟨h3, i + 1, by omega, by omega, ?_⟩, by omega⟩
    rw [List.take_succ_eq_append_getElem hlt', ← hq, List.nodup_append]
    refine ⟨hk, by simp, fun x hx y hy => ?_⟩
    simp only [List.mem_singleton] at hy
    subst hy
    rintro rfl
    exact hm hx

end
section
attribute [local go_sem] F40.t5_eq F40.t6_eq F40.t8_eq
theorem knows_t3 {w0 w : World} {A : HP} {P : Nat} {a : Acc} {av al : Option Addr} {cv cl : Nat} {L : List AV} {e : FA} (hd : e.ds = []) (e0 : e.ρ 0 = .slice al L.length cl) (e3 : e.ρ 3 = .pointer (some ⟨P, 0, none⟩)) (hc : a.members.length ≤ 140737488355328) (hL : L.length ≤ 140737488355328)
    (hv : Ent A (ReadsT (.slice av a.members.length cv) a.members)) (hr : Ent A (ReadsA (.slice al L.length cl) L))
    (h : St w0 (Blk P (.cells (accL a (.slice av a.members.length cv)).toArray 72 (0, 0)) * A) w) (hf : namedF (accs L) a = a.members.all (known (accs L))) :
    cwE Tryz.prog F40.t3 (fnP Tryz.prog #[.tmp 4] fun e w' => St w0 A w' ∧ e = .returned (.bool (namedF (accs L) a))) e w := by
  rw [F40.t3_eq]
  rw [hf]
  simp -dsimp -implicitDefEqProofs (disch := omega) only [go_sem, reqD_of, dec_t, dec_f, wrap_i64, wrap_u32, wrap_u64, wrap_u8, hd, e0, e3]
  refine loop_intro (fun e w' => e.ds = [] ∧ e.ρ 0 = .slice al L.length cl ∧ e.ρ 3 = .pointer (some ⟨P, 0, none⟩) ∧ St w0 (Blk P (.cells (accL a (.slice av a.members.length cv)).toArray 72 (0, 0)) * A) w' ∧ ∃ i : Nat, i ≤ a.members.length ∧ e.ρ 5 = .int .i64 i ∧ a.members.all (known (accs L)) = (a.members.drop i).all (known (accs L)))
    (fun e _ => match e.ρ 5 with | .int _ n => (a.members.length - n).toNat | _ => 0) ?_ ?_
  · exact ⟨by simp -dsimp -implicitDefEqProofs only [go_sem, hd], by simp -dsimp -implicitDefEqProofs only [go_sem, e0], by simp -dsimp -implicitDefEqProofs only [go_sem, e3], h, 0, by omega, by simp -dsimp -implicitDefEqProofs only [go_sem], rfl⟩
  clear h hd e0 e3
  rintro e w6 ⟨hd, e0, e3, h6, i, hi, e5, hk⟩
  by_cases hlt : (i : Int) < (a.members.length : Int)
  case neg =>
    have : a.members.drop i = [] := List.drop_of_length_le (by omega)
    rw [this, List.all_nil] at hk
    simp -dsimp -implicitDefEqProofs (disch := omega) only [go_sem, reqD_of, dec_t, dec_f, wrap_i64, wrap_u32, wrap_u64, wrap_u8, hd, e0, e3, e5, hlt, h6.cl P, hk]
    exact h6.right
  have hlt' : i < a.members.length := by omega
  obtain ⟨b, o, rfl, hcell⟩ := h6.right.textAt hv hlt'
  have hdr : a.members.drop i = a.members[i] :: a.members.drop (i + 1) := List.drop_eq_getElem_cons hlt'
  obtain ⟨q, hq⟩ : ∃ q, q = a.members[i] := ⟨_, rfl⟩
  rw [← hq] at hdr hcell
  rw [hdr, List.all_cons] at hk
  simp -dsimp -implicitDefEqProofs (disch := omega) only [go_sem, reqD_of, dec_t, dec_f, wrap_i64, wrap_u32, wrap_u64, wrap_u8, hd, e0, e3, e5, hlt, hcell, h6.cl P]
  refine (find_any h6 ((Ent.right _ _).trans hr) hL q).mono ?_
  rintro e' w7 ⟨h7, k, hf, rfl⟩
  have hfn := hf.neg
  cases hn : known (accs L) q
  · rw [hn] at hfn
    have hfn : k < 0 := of_decide_eq_true hfn
    rw [hn, Bool.false_and] at hk
    simp -dsimp -implicitDefEqProofs (disch := omega) only [go_sem, reqD_of, dec_t, dec_f, wrap_i64, wrap_u32, wrap_u64, wrap_u8, hd, e0, e3, e5, hk, hfn]
    exact h7.right
  · rw [hn] at hfn
    have hfn : ¬ k < 0 := of_decide_eq_false hfn
    rw [hn, Bool.true_and] at hk
    simp -dsimp -implicitDefEqProofs (disch := omega) only [go_sem, reqD_of, dec_t, dec_f, wrap_i64, wrap_u32, wrap_u64, wrap_u8, hd, e0, e3, e5, hfn]
    exact ⟨⟨h7, i + 1, by omega, by omega, hk⟩, by omega⟩
theorem knows_any {w0 w : World} {A : HP} (h : St w0 A w) {u : Value} {L : List AV} (hu : Ent A (ReadsA u L)) (hL : L.length ≤ 140737488355328) {a : Acc} {v : Value} (hv : Ent A (ReadsT v a.members)) (hc : a.members.length ≤ 140737488355328) :
    Calls Tryz.prog 40 #[u, accV a v] w fun e w' => St w0 A w' ∧ e = .returned (.bool (namedF (accs L) a)) := by
  obtain ⟨av, cv, rfl, hcv, hx⟩ := h.texts hv
  obtain ⟨al, cl, rfl, _⟩ := rdA_form h hu
  refine F40.calls (by simp) ?_
  unfold F40.code
  simp -dsimp -implicitDefEqProofs (disch := omega) only [go_sem, reqD_of, dec_t, dec_f, wrap_i64, wrap_u32, wrap_u64, wrap_u8]
  refine h.new fun P w1 h1 => ?_
  by_cases hl : a.leader = []
  · have e0 : decide (a.leader = []) = true := by simp [hl]
    simp -dsimp -implicitDefEqProofs (disch := omega) only [go_sem, reqD_of, dec_t, dec_f, wrap_i64, wrap_u32, wrap_u64, wrap_u8, h1.cl P, e0]
    exact knows_t3 (P := P) (by simp -dsimp -implicitDefEqProofs only [go_sem]) (by simp -dsimp -implicitDefEqProofs only [go_sem]) (by simp -dsimp -implicitDefEqProofs only [go_sem]) hc hL hv hu h1 (by simp [namedF, hl])
  simp -dsimp -implicitDefEqProofs (disch := omega) only [go_sem, reqD_of, dec_t, dec_f, wrap_i64, wrap_u32, wrap_u64, wrap_u8, h1.cl P, hl]
  refine (find_any h1 ((Ent.right _ _).trans hu) hL a.leader).mono ?_
  rintro e w2 ⟨h2, k, hf, rfl⟩
  have hfn := hf.neg
  cases hn : known (accs L) a.leader
  · rw [hn] at hfn
    have hfn : k < 0 := of_decide_eq_true hfn
    have hn : namedF (accs L) a = false := by simp [namedF, hn, hl]
    simp -dsimp -implicitDefEqProofs (disch := omega) only [go_sem, reqD_of, dec_t, dec_f, wrap_i64, wrap_u32, wrap_u64, wrap_u8, hfn, hn]
    exact h2.right
  · rw [hn] at hfn
    have hfn : ¬ k < 0 := of_decide_eq_false hfn
    simp -dsimp -implicitDefEqProofs (disch := omega) only [go_sem, reqD_of, dec_t, dec_f, wrap_i64, wrap_u32, wrap_u64, wrap_u8, hfn]
    exact knows_t3 (P := P) (by simp -dsimp -implicitDefEqProofs only [go_sem]) (by simp -dsimp -implicitDefEqProofs only [go_sem]) (by simp -dsimp -implicitDefEqProofs only [go_sem]) hc hL hv hu h2 (by simp [namedF, hn])
end
end Go.Proofs.YtkijkoakloacoaaGreatDoor

namespace Go.Proofs.YtkijkoakloacoaaGreatDoor
open Go
set_option linter.unusedVariables false
set_option linter.unusedSimpArgs false
set_option maxRecDepth 100000

/-- Each account's members can be read; none is beyond all bounds. -/
def MsS (A : HP) (L : List AV) : Prop := ∀ x ∈ L, Ent A (ReadsT x.2 x.1.members) ∧ Sm x.1 ∧ isCell x.2 = true
theorem MsS.weak {A B : HP} {L : List AV} (h : MsS A L) (e : Ent B A) : MsS B L := fun x hx => ⟨e.trans (h x hx).1, (h x hx).2⟩
theorem ArgL.msS {A : HP} {v : Value} {L : List AV} (h : ArgL A v L) : MsS A L := fun x hx => ⟨(h.each x hx).ms, ⟨(h.each x hx).n, (h.each x hx).l, (h.each x hx).k, (h.each x hx).m, (h.each x hx).c⟩, (h.each x hx).cell⟩

theorem joinD_snoc (d : UInt8) : ∀ (ps : List (List UInt8)) (q : List UInt8), joinD d (ps ++ [q]) = if ps = [] then q else joinD d ps ++ d :: q
  | [], q => by simp [joinD, Lib.join_one]
  | [p], q => by
    rw [List.cons_append, List.nil_append, joinD_two]
    simp [joinD, Lib.join_one]
  | p :: p2 :: ps, q => by
    have ih := joinD_snoc d (p2 :: ps) q
    rw [List.cons_append, List.cons_append, joinD_two, ← List.cons_append, ih, joinD_two]
    simp
theorem joinD_part (d : UInt8) (ms : List (List UInt8)) : ∀ k, ∀ i, i + k = ms.length → (joinD d (ms.take i)).length ≤ (joinD d ms).length
  | 0, i, h => by rw [List.take_of_length_le (by omega)]; omega
  | k + 1, i, h => by
    have ih := joinD_part d ms k (i + 1) (by omega)
    rw [List.take_succ_eq_append_getElem (show i < ms.length by omega), joinD_snoc] at ih
    split at ih
    · rename_i e; rw [e]; simp [joinD, Lib.join]
    · simp at ih; omega
theorem rowF_eq (a : Acc) : rowF a = a.name ++ 58 :: (a.leader ++ 58 :: (joinD 44 a.members ++ 58 :: a.key)) := by
  unfold rowF
  have e : joinD 58 [a.key] = a.key := by rw [joinD, Lib.join_one]
  rw [joinD_two, joinD_two, joinD_two, e]

section
attribute [local go_sem] F66.t7_eq F66.t4_eq F66.t5_eq F66.t8_eq
theorem rline_any {w0 w : World} {A : HP} (h : St w0 A w) {a : Acc} {v : Value} (hv : Ent A (ReadsT v a.members)) (hc : a.members.length ≤ 140737488355328) (hl : (rowF a).length ≤ 70368744177664) :
    Calls Tryz.prog 66 #[accV a v] w fun e w' => St w0 A w' ∧ e = .returned (.string (strOf (lineF a))) := by
  obtain ⟨av, cv, rfl, hcv, hx⟩ := h.texts hv
  have hlen := rowLen_eq a
  have hline : lineF a = a.name ++ [58] ++ a.leader ++ [58] ++ joinD 44 a.members ++ [58] ++ a.key ++ [10] := by
    unfold lineF
    rw [rowF_eq]
    simp
  refine F66.calls (by simp) ?_
  unfold F66.code
  simp -dsimp -implicitDefEqProofs (disch := omega) only [go_sem, reqD_of, dec_t, dec_f, wrap_i64, wrap_u32, wrap_u64, wrap_u8]
  refine h.new fun P w1 h1 => ?_
  simp -dsimp -implicitDefEqProofs (disch := omega) only [go_sem, reqD_of, dec_t, dec_f, wrap_i64, wrap_u32, wrap_u64, wrap_u8, h1.cl P, binV_sadd (P := Tryz.prog) (T := 9) (a := a.name) (b := [58]) (by simp; omega), binV_sadd (P := Tryz.prog) (T := 9) (a := a.name ++ [58]) (b := a.leader) (by simp; omega), binV_sadd (P := Tryz.prog) (T := 9) (a := a.name ++ [58] ++ a.leader) (b := [58]) (by simp; omega)]
  refine loop_intro (fun e w' => e.ds = [] ∧ e.ρ 1 = .pointer (some ⟨P, 0, none⟩) ∧ St w0 (Blk P (.cells (accL a (.slice av a.members.length cv)).toArray 72 (0, 0)) * A) w' ∧ ∃ i : Nat, i ≤ a.members.length ∧ e.ρ 4 = .int .i64 i ∧ e.ρ 3 = sv (a.name ++ [58] ++ a.leader ++ [58] ++ joinD 44 (a.members.take i)))
    (fun e _ => match e.ρ 4 with | .int _ n => (a.members.length - n).toNat | _ => 0) ?_ ?_
  · exact ⟨rfl, by simp -dsimp -implicitDefEqProofs only [go_sem], h1, 0, by omega, by simp -dsimp -implicitDefEqProofs only [go_sem], by simp -dsimp -implicitDefEqProofs only [go_sem]; simp [joinD, Lib.join, sv]⟩
  clear h h1 hx
  rintro e w6 ⟨hd, e1, h6, i, hi, e4, e3⟩
  by_cases hlt : (i : Int) < (a.members.length : Int)
  case neg =>
    rw [List.take_of_length_le (by omega)] at e3
    simp -dsimp -implicitDefEqProofs (disch := omega) only [go_sem, reqD_of, dec_t, dec_f, wrap_i64, wrap_u32, wrap_u64, wrap_u8, hd, e1, e3, e4, hlt, h6.cl P, sv, binV_sadd (P := Tryz.prog) (T := 9) (a := a.name ++ [58] ++ a.leader ++ [58] ++ joinD 44 a.members) (b := [58]) (by simp; omega), binV_sadd (P := Tryz.prog) (T := 9) (a := a.name ++ [58] ++ a.leader ++ [58] ++ joinD 44 a.members ++ [58]) (b := a.key) (by simp; omega), binV_sadd (P := Tryz.prog) (T := 9) (a := a.name ++ [58] ++ a.leader ++ [58] ++ joinD 44 a.members ++ [58] ++ a.key) (b := [10]) (by simp; omega)]
    exact ⟨h6.right, by rw [hline]⟩
  have hlt' : i < a.members.length := by omega
  obtain ⟨b, o, rfl, hcell⟩ := h6.right.textAt hv hlt'
  have hp := joinD_part 44 a.members (a.members.length - (i + 1)) (i + 1) (by omega)
  have hs : joinD 44 (a.members.take (i + 1)) = (if a.members.take i = [] then a.members[i] else joinD 44 (a.members.take i) ++ 44 :: a.members[i]) := by rw [List.take_succ_eq_append_getElem hlt', joinD_snoc]
  obtain ⟨q, hq⟩ : ∃ q, q = a.members[i] := ⟨_, rfl⟩
  rw [← hq] at hcell hs
  by_cases h0 : (i : Int) > 0
  · have hne : ¬ a.members.take i = [] := fun e => by have := congrArg List.length e; rw [List.length_take, List.length_nil] at this; omega
    rw [if_neg hne] at hs
    rw [hs] at hp
    simp only [List.length_append, List.length_cons] at hp
    simp -dsimp -implicitDefEqProofs (disch := omega) only [go_sem, reqD_of, dec_t, dec_f, wrap_i64, wrap_u32, wrap_u64, wrap_u8, hd, e1, e3, e4, hlt, h0, hcell, h6.cl P, sv, binV_sadd (P := Tryz.prog) (T := 9) (a := a.name ++ [58] ++ a.leader ++ [58] ++ joinD 44 (a.members.take i)) (b := [44]) (by simp; omega), binV_sadd (P := Tryz.prog) (T := 9) (a := a.name ++ [58] ++ a.leader ++ [58] ++ joinD 44 (a.members.take i) ++ [44]) (b := q) (by simp; omega)]
    exact ⟨⟨h6, i + 1, by omega, by omega, by rw [hs]; simp⟩, by omega⟩
  · have i0 : i = 0 := by omega
    subst i0
    rw [List.take_zero, if_pos rfl] at hs
    rw [hs] at hp
    rw [List.take_zero] at e3
    rw [Nat.add_zero] at hcell
    have ej : joinD 44 ([] : List (List UInt8)) = [] := by simp [joinD, Lib.join]
    rw [ej] at e3
    simp -dsimp -implicitDefEqProofs (disch := omega) only [go_sem, reqD_of, dec_t, dec_f, wrap_i64, wrap_u32, wrap_u64, wrap_u8, hd, e1, e3, e4, hlt, h0, hcell, h6.cl P, sv, binV_sadd (P := Tryz.prog) (T := 9) (a := a.name ++ [58] ++ a.leader ++ [58] ++ []) (b := q) (by simp; omega)]
    exact ⟨⟨h6, 1, by omega, by omega, by rw [hs]; simp⟩, by omega⟩

end
section
attribute [local go_sem] F52.t4_eq F52.t5_eq F52.t6_eq
theorem rtext_any {w0 w : World} {A : HP} (h : St w0 A w) {v : Value} {L : List AV} (hv : Ent A (ReadsA v L)) (hm : MsS A L) (hl : (textF (accs L)).length ≤ 70368744177664) (hn : L.length ≤ 140737488355328) :
    Calls Tryz.prog 52 #[v] w fun e w' => St w0 A w' ∧ e = .returned (.string (strOf (textF (accs L)))) := by
  obtain ⟨a1, c1, rfl, hao⟩ := rdA_form h hv
  refine F52.calls (by simp) ?_
  unfold F52.code
  simp -dsimp -implicitDefEqProofs (disch := omega) only [go_sem, reqD_of, dec_t, dec_f, wrap_i64, wrap_u32, wrap_u64, wrap_u8]
  refine loop_intro (fun e w' => e.ds = [] ∧ St w0 A w' ∧ e.ρ 0 = .slice a1 L.length c1 ∧ ∃ i : Nat, i ≤ L.length ∧ e.ρ 4 = .int .i64 i ∧ e.ρ 3 = sv (textF ((accs L).take i)))
    (fun e _ => match e.ρ 4 with | .int _ n => (L.length - n).toNat | _ => 0) ?_ ?_
  · exact ⟨rfl, h, by simp -dsimp -implicitDefEqProofs only [go_sem], 0, by omega, by simp -dsimp -implicitDefEqProofs only [go_sem], by simp -dsimp -implicitDefEqProofs only [go_sem]; simp [textF, sv]⟩
  clear h
  rintro e w2 ⟨hd, h2, e0, i, hi, e4, e3⟩
  by_cases hlt : (i : Int) < (L.length : Int)
  case neg =>
    rw [List.take_of_length_le (by simp; omega)] at e3
    simp -dsimp -implicitDefEqProofs (disch := omega) only [go_sem, reqD_of, dec_t, dec_f, wrap_i64, wrap_u32, wrap_u64, wrap_u8, hd, e0, e3, e4, hlt, sv]
    exact h2
  have hi1 : i < L.length := by omega
  obtain ⟨b, o, rfl⟩ := hao i hi1
  obtain ⟨_, hr⟩ := rdA_cells h2 hv hi1
  have hx := hm _ (List.getElem_mem hi1)
  have hten : textF ((accs L).take (i + 1)) = textF ((accs L).take i) ++ lineF L[i].1 := by
    rw [textF_take (by simpa using hi1)]; simp
  have htl := textF_part (accs L) (i + 1)
  rw [hten, List.length_append] at htl
  obtain ⟨y, hy⟩ : ∃ y, y = L[i] := ⟨_, rfl⟩
  rw [← hy] at hr hx hten htl
  obtain ⟨a, va⟩ := y
  obtain ⟨x1, x2, x3⟩ := hx
  simp only at x1 x2 x3 hten htl hr
  have hll : (lineF a).length = (rowF a).length + 1 := by simp [lineF]
  simp -dsimp -implicitDefEqProofs (disch := omega) only [go_sem, reqD_of, dec_t, dec_f, wrap_i64, wrap_u32, wrap_u64, wrap_u8, hd, e0, e3, e4, hlt, hr]
  refine (rline_any h2 x1 x2.c (by omega)).mono ?_
  rintro e' w3 ⟨h3, rfl⟩
  simp -dsimp -implicitDefEqProofs (disch := omega) only [go_sem, reqD_of, dec_t, dec_f, wrap_i64, wrap_u32, wrap_u64, wrap_u8, hd, e0, e3, e4, sv, binV_sadd (P := Tryz.prog) (T := 9) (a := textF ((accs L).take i)) (b := lineF a) (by omega)]
  exact ⟨⟨h3, i + 1, by omega, by omega, by rw [hten]⟩, by omega⟩

end
section
attribute [local go_sem] F41.t4_eq F41.t5_eq F41.t6_eq
theorem length_any {w0 w : World} {A : HP} (h : St w0 A w) {v : Value} {L : List AV} (hv : Ent A (ReadsA v L)) (hm : MsS A L) (hl : (textF (accs L)).length ≤ 70368744177664) (hn : L.length ≤ 140737488355328) :
    Calls Tryz.prog 41 #[v] w fun e w' => St w0 A w' ∧ ∃ k : Nat, e = .returned (.int .i64 k) ∧ decide ((65536 : Int) < k) = !joinF (accs L) := by
  obtain ⟨a1, c1, rfl, hao⟩ := rdA_form h hv
  refine F41.calls (by simp) ?_
  unfold F41.code
  simp -dsimp -implicitDefEqProofs (disch := omega) only [go_sem, reqD_of, dec_t, dec_f, wrap_i64, wrap_u32, wrap_u64, wrap_u8]
  refine loop_intro (fun e w' => e.ds = [] ∧ St w0 A w' ∧ e.ρ 0 = .slice a1 L.length c1 ∧ ∃ i : Nat, i ≤ L.length ∧ e.ρ 4 = .int .i64 i ∧ e.ρ 3 = .int .i64 (textF ((accs L).take i)).length)
    (fun e _ => match e.ρ 4 with | .int _ n => (L.length - n).toNat | _ => 0) ?_ ?_
  · exact ⟨rfl, h, by simp -dsimp -implicitDefEqProofs only [go_sem], 0, by omega, by simp -dsimp -implicitDefEqProofs only [go_sem], by simp -dsimp -implicitDefEqProofs only [go_sem]; simp [textF]⟩
  clear h
  rintro e w2 ⟨hd, h2, e0, i, hi, e4, e3⟩
  have htp := textF_part (accs L) i
  by_cases hlt : (i : Int) < (L.length : Int)
  case neg =>
    rw [List.take_of_length_le (by simp; omega)] at e3
    simp -dsimp -implicitDefEqProofs (disch := omega) only [go_sem, reqD_of, dec_t, dec_f, wrap_i64, wrap_u32, wrap_u64, wrap_u8, hd, e0, e3, e4, hlt]
    refine ⟨h2, _, rfl, ?_⟩
    unfold joinF
    by_cases hj : (textF (accs L)).length ≤ 65536
    · rw [decide_eq_true hj]; exact decide_eq_false (by omega)
    · rw [decide_eq_false hj]; exact decide_eq_true (by omega)
  by_cases hle : ((textF ((accs L).take i)).length : Int) ≤ 65536
  case neg =>
    simp -dsimp -implicitDefEqProofs (disch := omega) only [go_sem, reqD_of, dec_t, dec_f, wrap_i64, wrap_u32, wrap_u64, wrap_u8, hd, e0, e3, e4, hlt, hle]
    refine ⟨h2, _, rfl, ?_⟩
    have hj : ¬ (textF (accs L)).length ≤ 65536 := by omega
    unfold joinF
    rw [decide_eq_false hj]
    exact decide_eq_true (by omega)
  have hi1 : i < L.length := by omega
  obtain ⟨b, o, rfl⟩ := hao i hi1
  obtain ⟨_, hr⟩ := rdA_cells h2 hv hi1
  have hx := hm _ (List.getElem_mem hi1)
  have hten : textF ((accs L).take (i + 1)) = textF ((accs L).take i) ++ lineF L[i].1 := by
    rw [textF_take (by simpa using hi1)]; simp
  have htl := textF_part (accs L) (i + 1)
  rw [hten, List.length_append] at htl
  obtain ⟨y, hy⟩ : ∃ y, y = L[i] := ⟨_, rfl⟩
  rw [← hy] at hr hx hten htl
  obtain ⟨a, va⟩ := y
  obtain ⟨x1, x2, x3⟩ := hx
  simp only at x1 x2 x3 hten htl hr
  have hll : (lineF a).length = (rowF a).length + 1 := by simp [lineF]
  simp -dsimp -implicitDefEqProofs (disch := omega) only [go_sem, reqD_of, dec_t, dec_f, wrap_i64, wrap_u32, wrap_u64, wrap_u8, hd, e0, e3, e4, hlt, hle, hr]
  refine (rline_any h2 x1 x2.c (by omega)).mono ?_
  rintro e' w3 ⟨h3, rfl⟩
  simp -dsimp -implicitDefEqProofs (disch := omega) only [go_sem, reqD_of, dec_t, dec_f, wrap_i64, wrap_u32, wrap_u64, wrap_u8, hd, e0, e3, e4]
  exact ⟨⟨h3, i + 1, by omega, by omega, by rw [hten, List.length_append]; omega⟩, by omega⟩

/-! ### Own accounts -/

end

theorem rown_any {w0 w : World} {A : HP} (h : St w0 A w) {a : Acc} {v : Value} (hv : Ent A (ReadsT v a.members)) (hc : a.members.length ≤ 16777216) :
    Calls Tryz.prog 69 #[accV a v] w fun e w' => ∃ v', St w0 (rowT v' a.members * A) w' ∧ e = .returned (accV a v') := by
  obtain ⟨am, cm, rfl, hcv, hx⟩ := h.texts hv
  refine F69.calls (by simp) ?_
  unfold F69.code
  simp -dsimp -implicitDefEqProofs (disch := omega) only [go_sem, reqD_of, dec_t, dec_f, wrap_i64, wrap_u32, wrap_u64, wrap_u8]
  refine h.new fun P w1 h1 => ?_
  simp -dsimp -implicitDefEqProofs (disch := omega) only [go_sem, reqD_of, dec_t, dec_f, wrap_i64, wrap_u32, wrap_u64, wrap_u8]
  refine h1.new fun P2 w2 h2 => ?_
  simp -dsimp -implicitDefEqProofs (disch := omega) only [go_sem, reqD_of, dec_t, dec_f, wrap_i64, wrap_u32, wrap_u64, wrap_u8, h2.cl P]
  have h3 := h2.nilR 9 1
  refine h3.app (v := .slice none 0 0) (x := .slice am a.members.length cm) (m := a.members.length) (news := a.members.map sv) fact_rowTy_22 ((Ent.right _ _).trans ((Ent.right _ _).trans ((Ent.right _ _).trans hv))) Tryz.underlying22 (fun u hu => by obtain ⟨x, _, rfl⟩ := List.mem_map.1 hu; rfl) (fun h => by simpa using h) (show _ ≤ 9223372036854775807 by omega) (by omega) fun v4 w4 h4 => ?_
  obtain ⟨a4, c4, rfl, _⟩ := h4.rowForm v4
  simp -dsimp -implicitDefEqProofs (disch := omega) only [go_sem, reqD_of, dec_t, dec_f, wrap_i64, wrap_u32, wrap_u64, wrap_u8, h4.cl P]
  refine h4.sto (b := P) (off := 2) (by simp) rfl fun w5 h5 => ?_
  simp only [List.setIfInBounds_toArray, List.set_cons_succ, List.set_cons_zero, Nat.zero_add, List.nil_append] at h5
  have r5 := h5.rowH P 4 rfl
  simp -dsimp -implicitDefEqProofs (disch := omega) only [go_sem, reqD_of, dec_t, dec_f, wrap_i64, wrap_u32, wrap_u64, wrap_u8, r5]
  refine h5.stoAll (b := P2) (n := 4) (cs := accL a (.slice a4 a.members.length c4)) rfl rfl (fun v hv => by simp at hv; rcases hv with rfl | rfl | rfl | rfl <;> rfl) fun w6 h6 => ?_
  have r6 := h6.rowH P2 4 rfl
  simp -dsimp -implicitDefEqProofs (disch := omega) only [go_sem, reqD_of, dec_t, dec_f, wrap_i64, wrap_u32, wrap_u64, wrap_u8, r6]
  refine resC_1 (a := ⟨P2, 0, none⟩) (v := accV a (.slice a4 a.members.length c4)) (by simp -dsimp -implicitDefEqProofs only [go_sem]) (run_loadVar_row (by kernel_rfl) r6) ?_
  refine ⟨_, ?_, rfl⟩
  have h7 : St w0 (RowO 9 1 (.slice a4 a.members.length c4) a.members.length (a.members.map sv) * A) w6 := h6.sub
  exact h7
end Go.Proofs.YtkijkoakloacoaaGreatDoor
