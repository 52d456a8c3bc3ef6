/- A tree of names: child, leads. -/
import Derived.Test.YtlnlomjdooobdaaDoorNaP
import Derived.Test.YtlnlomjdooobdaaDoorNlB
namespace Go.Proofs.YtlnlomjdooobdaaDoor
open Go
set_option linter.unusedVariables false
set_option linter.unusedSimpArgs false
set_option maxRecDepth 100000

theorem readForm {w0 w : World} {A : HP} (h : St w0 A w) {s n : Nat} {v : Value} {xs : List Value} (hr : Ent A (Reads s v n xs)) : ∃ a c, v = .slice a n c ∧ n ≤ c := by
  obtain ⟨x, l, _, a, c, rfl, hc, _⟩ := (h.ent hr).sat
  exact ⟨a, c, rfl, hc⟩
abbrev nv (n : Nat) : Value := .int .i64 n
def scanT (m : Nat) (p : List UInt8) : Nat → List (Nat × List UInt8) → Option Nat
  | _, [] => none
  | i, t :: ts => if t.1 = m ∧ t.2 = p then some i else scanT m p (i + 1) ts
def childT (ts : List (Nat × List UInt8)) (m : Nat) (p : List UInt8) : Option Nat := scanT m p 1 (ts.drop 1)
def upT (ts : List (Nat × List UInt8)) (k : Nat) : Nat := (ts.map (·.1)).getD k 0
theorem scanT_at {m : Nat} {p : List UInt8} : ∀ (ts : List (Nat × List UInt8)) (i k : Nat), scanT m p i ts = some k → i ≤ k ∧ ∃ t, ts[k - i]? = some t ∧ t.1 = m
  | [], i, k, h => by cases h
  | t :: ts, i, k, h => by
    rw [scanT] at h
    split at h
    · rename_i e
      obtain rfl := Option.some.inj h
      exact ⟨Nat.le_refl _, t, by simp, e.1⟩
    · obtain ⟨h1, t', h2, h3⟩ := scanT_at ts (i + 1) k h
      refine ⟨by omega, t', ?_, h3⟩
      rw [show k - i = (k - (i + 1)) + 1 by omega]
      simpa using h2
theorem childT_at {ts : List (Nat × List UInt8)} {m k : Nat} {p : List UInt8} (h : childT ts m p = some k) : k < ts.length ∧ upT ts k = m := by
  obtain ⟨h1, t, h2, h3⟩ := scanT_at _ _ _ h
  rw [List.getElem?_drop, show 1 + (k - 1) = k by omega] at h2
  have hk : k < ts.length := by
    rcases Nat.lt_or_ge k ts.length with h | h
    · exact h
    · rw [List.getElem?_eq_none h] at h2; cases h2
  exact ⟨hk, by simp [upT, List.getD, h2, h3]⟩

section
attribute [local go_sem] F28.t3_eq F28.t4_eq F28.t6_eq
theorem child_any {w0 w : World} {A : HP} (h : St w0 A w) {ts : List (Nat × List UInt8)} {u v : Value} (hu : Ent A (Reads 1 u ts.length (ts.map fun t => nv t.1))) (hv : Ent A (Reads 1 v ts.length (ts.map fun t => sv t.2)))
    (hl : ts.length ≤ 60) (m : Nat) (p : List UInt8) :
    Calls Tryd.prog 28 #[u, v, nv m, .string (strOf p)] w fun e w' => St w0 A w' ∧
      ((∃ k, childT ts m p = some k ∧ e = .returned (.tuple #[nv k, .bool true])) ∨ (childT ts m p = none ∧ e = .returned (.tuple #[nv 0, .bool false]))) := by
  obtain ⟨a, c, rfl, hc⟩ := readForm h hu
  obtain ⟨a2, c2, rfl, hc2⟩ := readForm h hv
  refine F28.calls (by simp) ?_
  unfold F28.code
  simp -dsimp -implicitDefEqProofs (disch := omega) only [go_sem, reqD_of, dec_t, dec_f, wrap_i64, wrap_u32, wrap_u64, wrap_u8]
  refine loop_intro (fun e w' => w' = w ∧ e.ds = [] ∧ e.ρ 0 = .slice a ts.length c ∧ e.ρ 1 = .slice a2 ts.length c2 ∧ e.ρ 2 = nv m ∧ e.ρ 3 = .string (strOf p) ∧
      ∃ i : Nat, 1 ≤ i ∧ i ≤ ts.length + 1 ∧ e.ρ 10 = .int .i64 i ∧ childT ts m p = scanT m p i (ts.drop i))
    (fun e _ => match e.ρ 10 with | .int _ n => (ts.length + 1 - n).toNat | _ => 0) ?_ ?_
  · exact ⟨by simp -dsimp -implicitDefEqProofs only [go_sem], by simp -dsimp -implicitDefEqProofs only [go_sem], by simp -dsimp -implicitDefEqProofs only [go_sem], by simp -dsimp -implicitDefEqProofs only [go_sem], by simp -dsimp -implicitDefEqProofs only [go_sem], by simp -dsimp -implicitDefEqProofs only [go_sem], 1, by omega, by omega, by simp -dsimp -implicitDefEqProofs only [go_sem], rfl⟩
  rintro e w2 ⟨rfl, hd, e0, e1, e2, e3, i, hi1, hi, e10, hs⟩
  by_cases hlt : (i : Int) < (ts.length : Int)
  case neg =>
    have hdn : ts.drop i = [] := List.drop_of_length_le (by omega)
    rw [hdn] at hs
    simp -dsimp -implicitDefEqProofs (disch := omega) only [go_sem, reqD_of, dec_t, dec_f, wrap_i64, wrap_u32, wrap_u64, wrap_u8, hd, e0, e1, e2, e3, e10, hlt]
    exact ⟨h, .inr ⟨hs, rfl⟩⟩
  have hil : i < ts.length := by omega
  have hdr : ts.drop i = ts[i] :: ts.drop (i + 1) := List.drop_eq_getElem_cons hil
  rw [hdr, scanT] at hs
  haveI i1 : Gives A (Reads 1 (.slice a ts.length c) ts.length (ts.map fun t => nv t.1)) := ⟨hu⟩
  haveI i2 : Gives A (Reads 1 (.slice a2 ts.length c2) ts.length (ts.map fun t => sv t.2)) := ⟨hv⟩
  obtain ⟨b0, o0, rfl, c0⟩ := h.atS (i := i1) (k := i) (by simpa using hil)
  obtain ⟨b1, o1, rfl, c1⟩ := h.atS (i := i2) (k := i) (by simpa using hil)
  simp only [List.getElem_map] at c0 c1
  by_cases hm : ((ts[i].1 : Nat) : Int) = m
  · by_cases hp : ts[i].2 = p
    · rw [if_pos ⟨by omega, hp⟩] at hs
      have d1 : decide (ts[i].2 = p) = true := decide_eq_true hp
      simp -dsimp -implicitDefEqProofs (disch := omega) only [go_sem, reqD_of, dec_t, dec_f, wrap_i64, wrap_u32, wrap_u64, wrap_u8, hd, e0, e1, e2, e3, e10, hlt, c0, c1, hm, d1]
      exact ⟨h, .inl ⟨i, hs, rfl⟩⟩
    · rw [if_neg fun k => hp k.2] at hs
      have d1 : decide (ts[i].2 = p) = false := decide_eq_false hp
      simp -dsimp -implicitDefEqProofs (disch := omega) only [go_sem, reqD_of, dec_t, dec_f, wrap_i64, wrap_u32, wrap_u64, wrap_u8, hd, e0, e1, e2, e3, e10, hlt, c0, c1, hm, d1]
      exact ⟨⟨i + 1, by omega, by omega, by omega, hs⟩, by omega⟩
  · rw [if_neg fun k => hm (by rw [k.1])] at hs
    simp -dsimp -implicitDefEqProofs (disch := omega) only [go_sem, reqD_of, dec_t, dec_f, wrap_i64, wrap_u32, wrap_u64, wrap_u8, hd, e0, e1, e2, e3, e10, hlt, c0, c1, hm]
    exact ⟨⟨i + 1, by omega, by omega, by omega, hs⟩, by omega⟩

end
section
attribute [local go_sem] F14.t10_eq F14.t7_eq F14.t4_eq F14.t5_eq F14.t11_eq
theorem leads_any {w0 w : World} {A : HP} (h : St w0 A w) {ts : List (Nat × List UInt8)} {u v x : Value} {q : List (List UInt8)} (hu : Ent A (Reads 1 u ts.length (ts.map fun t => nv t.1))) (hv : Ent A (Reads 1 v ts.length (ts.map fun t => sv t.2)))
    (hx : Ent A (Reads 1 x q.length (q.map sv))) (hl : ts.length ≤ 60) (hq : q.length ≤ 4294967280) {m : Nat} (hm : m < ts.length) (hts : ∀ t ∈ ts, t.1 < ts.length) :
    Calls Tryd.prog 14 #[u, v, nv m, x] w fun e w' => St w0 A w' ∧
      ((∃ k, leadF (upT ts) (childT ts) m q = some k ∧ e = .returned (.tuple #[nv k, .bool true])) ∨ (leadF (upT ts) (childT ts) m q = none ∧ e = .returned (.tuple #[nv 0, .bool false]))) := by
  obtain ⟨a, c, rfl, hc⟩ := readForm h hu
  obtain ⟨a2, c2, rfl, hc2⟩ := readForm h hv
  obtain ⟨a3, c3, rfl, hc3⟩ := readForm h hx
  haveI i1 : Gives A (Reads 1 (.slice a ts.length c) ts.length (ts.map fun t => nv t.1)) := ⟨hu⟩
  haveI i3 : Gives A (Reads 1 (.slice a3 q.length c3) q.length (q.map sv)) := ⟨hx⟩
  refine F14.calls (by simp) ?_
  unfold F14.code
  simp -dsimp -implicitDefEqProofs (disch := omega) only [go_sem, reqD_of, dec_t, dec_f, wrap_i64, wrap_u32, wrap_u64, wrap_u8]
  refine loop_intro (fun e w' => St w0 A w' ∧ e.ds = [] ∧ e.ρ 0 = .slice a ts.length c ∧ e.ρ 1 = .slice a2 ts.length c2 ∧ e.ρ 3 = .slice a3 q.length c3 ∧
      ∃ i y : Nat, i ≤ q.length ∧ y < ts.length ∧ e.ρ 11 = .int .i64 i ∧ e.ρ 10 = .int .i64 y ∧ leadF (upT ts) (childT ts) m q = leadF (upT ts) (childT ts) y (q.drop i))
    (fun e _ => match e.ρ 11 with | .int _ n => (q.length - n).toNat | _ => 0) ?_ ?_
  · exact ⟨h, by simp -dsimp -implicitDefEqProofs only [go_sem], by simp -dsimp -implicitDefEqProofs only [go_sem], by simp -dsimp -implicitDefEqProofs only [go_sem], by simp -dsimp -implicitDefEqProofs only [go_sem], 0, m, by omega, hm, by simp -dsimp -implicitDefEqProofs only [go_sem], by simp -dsimp -implicitDefEqProofs only [go_sem], rfl⟩
  rintro e w2 ⟨h2, hd, e0, e1, e3, i, y, hi, hy, e11, e10, hs⟩
  by_cases hlt : (i : Int) < (q.length : Int)
  case neg =>
    have hdn : q.drop i = [] := List.drop_of_length_le (by omega)
    rw [hdn, leadF] at hs
    simp -dsimp -implicitDefEqProofs (disch := omega) only [go_sem, reqD_of, dec_t, dec_f, wrap_i64, wrap_u32, wrap_u64, wrap_u8, hd, e0, e1, e3, e11, e10, hlt]
    exact ⟨h2, .inl ⟨y, hs, rfl⟩⟩
  have hil : i < q.length := by omega
  have hdr : q.drop i = q[i] :: q.drop (i + 1) := List.drop_eq_getElem_cons hil
  rw [hdr, leadF] at hs
  obtain ⟨b3, o3, rfl, c3'⟩ := h2.atS (i := i3) (k := i) (by simpa using hil)
  simp only [List.getElem_map] at c3'
  obtain ⟨p, hp⟩ : ∃ p, p = q[i] := ⟨_, rfl⟩
  rw [← hp] at c3' hs
  by_cases hdd : p = [46, 46]
  · rw [if_pos hdd] at hs
    obtain ⟨b0, o0, rfl, c0⟩ := h2.atS (i := i1) (k := y) (by simpa using hy)
    simp only [List.getElem_map] at c0
    have d1 : decide (p = [46, 46]) = true := decide_eq_true hdd
    have hyy : (y : Int) < ts.length := by omega
    have hup : upT ts y = ts[y].1 := by simp [upT, List.getD, hy]
    have hlt' := hts ts[y] (List.getElem_mem hy)
    rw [hup] at hs
    simp -dsimp -implicitDefEqProofs (disch := omega) only [go_sem, reqD_of, dec_t, dec_f, wrap_i64, wrap_u32, wrap_u64, wrap_u8, hd, e0, e1, e3, e11, e10, hlt, c3', c0, d1, hyy]
    exact ⟨⟨h2, i + 1, _, by omega, hlt', by omega, rfl, hs⟩, by omega⟩
  · rw [if_neg hdd] at hs
    have d1 : decide (p = [46, 46]) = false := decide_eq_false hdd
    simp -dsimp -implicitDefEqProofs (disch := omega) only [go_sem, reqD_of, dec_t, dec_f, wrap_i64, wrap_u32, wrap_u64, wrap_u8, hd, e0, e1, e3, e11, e10, hlt, c3', d1]
    refine (child_any h2 hu hv hl y p).mono ?_
    rintro e' w3 ⟨h3, ⟨k, hk, rfl⟩ | ⟨hk, rfl⟩⟩
    · rw [hk, Option.bind_some] at hs
      simp -dsimp -implicitDefEqProofs (disch := omega) only [go_sem, reqD_of, dec_t, dec_f, wrap_i64, wrap_u32, wrap_u64, wrap_u8, hd, e0, e1, e3, e11, e10]
      exact ⟨⟨h3, ⟨i + 1, k, by omega, (childT_at hk).1, by omega, rfl, hs⟩⟩, by omega⟩
    · rw [hk, Option.bind_none] at hs
      simp -dsimp -implicitDefEqProofs (disch := omega) only [go_sem, reqD_of, dec_t, dec_f, wrap_i64, wrap_u32, wrap_u64, wrap_u8, hd, e0, e1, e3, e11, e10]
      exact ⟨h3, .inr ⟨hs, rfl⟩⟩
end
end Go.Proofs.YtlnlomjdooobdaaDoor
