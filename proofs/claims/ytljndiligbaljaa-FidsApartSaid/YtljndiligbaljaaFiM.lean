/- FidsKeep: the two lists, compared. -/
import Derived.Test.YtljndiligbaljaaFiL
namespace Go.Proofs.Ytljndiligbaljaa
open Go
set_option linter.unusedSimpArgs false
set_option linter.unusedVariables false
set_option maxRecDepth 100000

/-- What FidsKeep knows in a step. -/
structure K4 (e : FA) (most : Int) (v : Value) (B i : Nat) (vb vm va : Value) : Prop where
  hd : e.ds = []
  e0 : e.ρ 0 = .int .i64 most
  e1 : e.ρ 1 = v
  e5 : e.ρ 5 = .pointer (some ⟨B, 0, none⟩)
  e7 : e.ρ 7 = .int .i64 i
  e8 : e.ρ 8 = vb
  e11 : e.ρ 11 = vm
  e12 : e.ρ 12 = va
/-- A list that is read. -/
structure ListR (F : HP) (v : Value) (qs : FPs) : Prop where
  rd : Ent F (Reads 15 v qs.length (qs.flatMap atC))
  ok : ∀ x ∈ qs, Okf x.2 ∧ Ent F (HeardR x.2)
  len : qs.length ≤ 1048576
theorem ListR.under {F A : HP} {v : Value} {qs : FPs} (s : ListR F v qs) (k : Ent A F) : ListR A v qs := ⟨k.trans s.rd, fun x hx => ⟨(s.ok x hx).1, k.trans (s.ok x hx).2⟩, s.len⟩
theorem agt_mem {α : Type} {n : Int} {u : α} : ∀ {l : List (Int × α)}, agt n l = some u → (n, u) ∈ l
  | [], h => by simp [agt] at h
  | (y, t) :: l, h => by
    simp only [agt] at h
    split at h
    · rename_i e
      simp only [Option.some.injEq] at h
      subst e h
      exact List.mem_cons_self
    · exact List.mem_cons_of_mem _ (agt_mem h)

/-- A row in an element, from its cells. -/
theorem at_row {w1 : World} {b o : Nat} {x : Int × HF} (hcell : ∀ j, j < 15 → w1.cell? ⟨b, o + j, none⟩ = (atC x)[j]?) : rowV w1 ⟨b, o + 1, none⟩ 14 = some (fdV x.2) :=
  rowV_part (cs := atC x) (lo := 1) (n := 14) (k := 15) rfl hcell (by omega)

section
attribute [local go_sem] F4.t23_eq F4.t19_eq F4.t20_eq F4.t29_eq F4.t30_eq F4.t27_eq F4.t17_eq F4.t15_eq F4.t9_eq F4.t10_eq F4.t33_eq F4.t7_eq F4.t5_eq
theorem keep_23 {w0 w : World} {F : HP} {most : Int} {v vb vm va : Value} {B i k : Nat} {qb qa : FPs} {may : List Int} {n : Int} {q : HF} {Q : Post} {e : FA} {θ : Tag (F4.t23, Q, e, w)}
    (hb : ListR F vb qb) (ha : ListR F va qa) (hm : Ent F (Reads 1 vm may.length (may.map encU))) (lm : may.length ≤ 1048576)
    (hk : qa[k]? = some (n, q)) (g3 : n ∈ may ∨ ∃ y, agt n qb = some y ∧ y.2 = q.2)
    (hs : K4 e most v B i vb vm va) (e14 : e.ρ 14 = .int .i64 k) (e15 : e.ρ 15 = .int .u32 n) (h : St w0 F w)
    (hQ : ∀ e' w', K4 e' most v B i vb vm va → e'.ρ 14 = .int .i64 k → St w0 F w' → Q .normal e' w') :
    cwE Try.prog F4.t23 Q e w θ := by
  obtain ⟨hd, e0, e1, e5, e7, e8, e11, e12⟩ := hs
  have hkl : k < qa.length := (List.getElem?_eq_some_iff.1 hk).1
  have hke : qa[k] = (n, q) := (List.getElem?_eq_some_iff.1 hk).2
  have hla := ha.len
  have hq := ha.ok (n, q) (by rw [← hke]; exact List.getElem_mem hkl)
  obtain ⟨_, a, c, rfl, _, _⟩ := St.rowsAt (k := 15) atC_length (by decide) (h.ent ha.rd)
  rw [F4.t23_eq]
  simp -dsimp -implicitDefEqProofs (disch := omega) only [go_sem, reqD_of, dec_t, dec_f, wrap_i64, wrap_u32, wrap_u64, wrap_u8, hd, e0, e1, e5, e7, e8, e11, e12, e14, e15]
  refine (find_any (n := n) h hb.rd (fun x hx => (hb.ok x hx).1) hb.len).mono ?_
  rintro e1 w1 ⟨h1, rfl⟩
  simp -dsimp -implicitDefEqProofs (disch := omega) only [go_sem, reqD_of, dec_t, dec_f, wrap_i64, wrap_u32, wrap_u64, wrap_u8, hd, e0, e1, e5, e7, e8, e11, e12, e14, e15]
  refine h1.new fun X w2 h2 => ?_
  simp -dsimp -implicitDefEqProofs (disch := omega) only [go_sem, reqD_of, dec_t, dec_f, wrap_i64, wrap_u32, wrap_u64, wrap_u8]
  cases hg : agt n qb with
  | none =>
    have hmay : n ∈ may := g3.elim id (by rintro ⟨y, h, _⟩; rw [hg] at h; cases h)
    refine h2.stoAll (b := X) (cs := fdC zF zFid) rfl rfl (fdC_cells rfl) fun w3 h3 => ?_
    have h4 := h3.drew
    simp -dsimp -implicitDefEqProofs (disch := omega) only [go_sem, reqD_of, dec_t, dec_f, wrap_i64, wrap_u32, wrap_u64, wrap_u8, hd, e0, e1, e5, e7, e8, e11, e12, e14, e15, Option.isSome_none]
    refine (among_any (n := n) h4.right hm lm).mono ?_
    rintro e1 w4 ⟨h5, rfl⟩
    simp -dsimp -implicitDefEqProofs (disch := omega) only [go_sem, reqD_of, dec_t, dec_f, wrap_i64, wrap_u32, wrap_u64, wrap_u8, hd, e0, e1, e5, e7, e8, e11, e12, e14, e15, Option.isSome_none, Option.isSome_some, hmay]
    exact hQ _ _ ⟨by simp -dsimp -implicitDefEqProofs only [go_sem, hd], by simp -dsimp -implicitDefEqProofs only [go_sem, e0], by simp -dsimp -implicitDefEqProofs only [go_sem, e1], by simp -dsimp -implicitDefEqProofs only [go_sem, e5], by simp -dsimp -implicitDefEqProofs only [go_sem, e7], by simp -dsimp -implicitDefEqProofs only [go_sem, e8], by simp -dsimp -implicitDefEqProofs only [go_sem, e11], by simp -dsimp -implicitDefEqProofs only [go_sem, e12]⟩ (by simp -dsimp -implicitDefEqProofs only [go_sem, e14]) h5
  | some y =>
    have hy := hb.ok _ (agt_mem hg)
    refine h2.stoAll (b := X) (cs := fdC y.1 y.2) rfl rfl (fdC_cells hy.1.1) fun w3 h3 => ?_
    have h4 := h3.drew
    have r4 := h4.rowH X 14 rfl
    obtain ⟨_, a', c', hv, _, hcl⟩ := St.rowsAt (k := 15) atC_length (by decide) (h4.right.ent ha.rd)
    simp only [Value.slice.injEq, true_and] at hv
    obtain ⟨rfl, rfl⟩ := hv
    obtain ⟨b, o, rfl, _, hcell⟩ := hcl k hkl
    have r5 := at_row hcell
    rw [hke] at r5
    simp -dsimp -implicitDefEqProofs (disch := omega) only [go_sem, reqD_of, dec_t, dec_f, wrap_i64, wrap_u32, wrap_u64, wrap_u8, hd, e0, e1, e5, e7, e8, e11, e12, e14, e15, Option.isSome_some, Option.getD_some, r4, r5]
    refine (same_any (p := y) (q := q) h4 hy.1.1 hq.1.1 ((Ent.right _ _).trans hy.2) ((Ent.right _ _).trans hq.2)).mono ?_
    rintro e1 w5 ⟨h5, rfl⟩
    by_cases hsame : sameB y.2 q.2 = true
    · simp -dsimp -implicitDefEqProofs (disch := omega) only [go_sem, reqD_of, dec_t, dec_f, wrap_i64, wrap_u32, wrap_u64, wrap_u8, hd, e0, e1, e5, e7, e8, e11, e12, e14, e15, Option.isSome_some, hsame]
      exact hQ _ _ ⟨by simp -dsimp -implicitDefEqProofs only [go_sem, hd], by simp -dsimp -implicitDefEqProofs only [go_sem, e0], by simp -dsimp -implicitDefEqProofs only [go_sem, e1], by simp -dsimp -implicitDefEqProofs only [go_sem, e5], by simp -dsimp -implicitDefEqProofs only [go_sem, e7], by simp -dsimp -implicitDefEqProofs only [go_sem, e8], by simp -dsimp -implicitDefEqProofs only [go_sem, e11], by simp -dsimp -implicitDefEqProofs only [go_sem, e12]⟩ (by simp -dsimp -implicitDefEqProofs only [go_sem, e14]) h5.right
    · have hmay : n ∈ may := g3.elim id (by rintro ⟨y', h, e⟩; rw [hg] at h; cases h; rw [e, sameB_self] at hsame; exact absurd rfl hsame)
      have hsame : sameB y.2 q.2 = false := by simpa using hsame
      simp -dsimp -implicitDefEqProofs (disch := omega) only [go_sem, reqD_of, dec_t, dec_f, wrap_i64, wrap_u32, wrap_u64, wrap_u8, hd, e0, e1, e5, e7, e8, e11, e12, e14, e15, Option.isSome_some, hsame]
      refine (among_any (n := n) h5.right hm lm).mono ?_
      rintro e1 w6 ⟨h6, rfl⟩
      simp -dsimp -implicitDefEqProofs (disch := omega) only [go_sem, reqD_of, dec_t, dec_f, wrap_i64, wrap_u32, wrap_u64, wrap_u8, hd, e0, e1, e5, e7, e8, e11, e12, e14, e15, Option.isSome_none, Option.isSome_some, hmay]
      exact hQ _ _ ⟨by simp -dsimp -implicitDefEqProofs only [go_sem, hd], by simp -dsimp -implicitDefEqProofs only [go_sem, e0], by simp -dsimp -implicitDefEqProofs only [go_sem, e1], by simp -dsimp -implicitDefEqProofs only [go_sem, e5], by simp -dsimp -implicitDefEqProofs only [go_sem, e7], by simp -dsimp -implicitDefEqProofs only [go_sem, e8], by simp -dsimp -implicitDefEqProofs only [go_sem, e11], by simp -dsimp -implicitDefEqProofs only [go_sem, e12]⟩ (by simp -dsimp -implicitDefEqProofs only [go_sem, e14]) h6

end
section
attribute [local go_sem] F4.t19_eq F4.t20_eq F4.t29_eq F4.t30_eq F4.t27_eq F4.t17_eq F4.t15_eq F4.t9_eq F4.t10_eq F4.t33_eq F4.t7_eq F4.t5_eq
theorem keep_20 {w0 w : World} {F : HP} {most : Int} {v vb vm va : Value} {B i k : Nat} {qb qa : FPs} {may : List Int} {n : Int} {q : HF} {Q : Post} {e : FA} {θ : Tag (F4.t20, Q, e, w)}
    (hb : ListR F vb qb) (ha : ListR F va qa) (hm : Ent F (Reads 1 vm may.length (may.map encU))) (lm : may.length ≤ 1048576)
    (hk : qa[k]? = some (n, q)) (g1 : n ≠ 4294967295) (g2 : ∀ j, k = j + 1 → ∀ y, qa[j]? = some y → y.1 < n) (g3 : n ∈ may ∨ ∃ y, agt n qb = some y ∧ y.2 = q.2)
    (hs : K4 e most v B i vb vm va) (e14 : e.ρ 14 = .int .i64 k) (h : St w0 F w)
    (hQ : ∀ e' w', K4 e' most v B i vb vm va → e'.ρ 14 = .int .i64 (k + 1 : Nat) → St w0 F w' → Q .normal e' w') :
    cwE Try.prog F4.t20 Q e w θ := by
  obtain ⟨hd, e0, e1, e5, e7, e8, e11, e12⟩ := hs
  have hkl : k < qa.length := (List.getElem?_eq_some_iff.1 hk).1
  have hke : qa[k] = (n, q) := (List.getElem?_eq_some_iff.1 hk).2
  have hla := ha.len
  obtain ⟨_, a, c, rfl, _, hcl⟩ := St.rowsAt (k := 15) atC_length (by decide) (h.ent ha.rd)
  obtain ⟨b, o, rfl, _, hcell⟩ := hcl k hkl
  have c0 := hcell 0 (by decide)
  rw [hke] at c0
  simp only [atC, Nat.add_zero, List.getElem?_cons_zero] at c0
  rw [F4.t20_eq]
  cases k with
  | zero =>
    simp only [Nat.zero_mul, Nat.add_zero] at c0
    simp -dsimp -implicitDefEqProofs (disch := omega) only [go_sem, reqD_of, dec_t, dec_f, wrap_i64, wrap_u32, wrap_u64, wrap_u8, hd, e0, e1, e5, e7, e8, e11, e12, e14, c0, g1]
    refine keep_23 (B := B) (v := v) (most := most) (i := i) (vb := vb) (vm := vm) hb ha hm lm hk g3 ⟨by simp -dsimp -implicitDefEqProofs only [go_sem, hd], by simp -dsimp -implicitDefEqProofs only [go_sem, e0], by simp -dsimp -implicitDefEqProofs only [go_sem, e1], by simp -dsimp -implicitDefEqProofs only [go_sem, e5], by simp -dsimp -implicitDefEqProofs only [go_sem, e7], by simp -dsimp -implicitDefEqProofs only [go_sem, e8], by simp -dsimp -implicitDefEqProofs only [go_sem, e11], by simp -dsimp -implicitDefEqProofs only [go_sem, e12]⟩ (by simp -dsimp -implicitDefEqProofs only [go_sem, e14]) (by simp -dsimp -implicitDefEqProofs only [go_sem]) h ?_
    intro e' w' hs' e14' h'
    simp -dsimp -implicitDefEqProofs (disch := omega) only [go_sem, reqD_of, dec_t, dec_f, wrap_i64, wrap_u32, wrap_u64, wrap_u8, e14']
    obtain ⟨hd, e0, e1, e5, e7, e8, e11, e12⟩ := hs'
    exact hQ _ _ ⟨by simp -dsimp -implicitDefEqProofs only [go_sem, hd], by simp -dsimp -implicitDefEqProofs only [go_sem, e0], by simp -dsimp -implicitDefEqProofs only [go_sem, e1], by simp -dsimp -implicitDefEqProofs only [go_sem, e5], by simp -dsimp -implicitDefEqProofs only [go_sem, e7], by simp -dsimp -implicitDefEqProofs only [go_sem, e8], by simp -dsimp -implicitDefEqProofs only [go_sem, e11], by simp -dsimp -implicitDefEqProofs only [go_sem, e12]⟩ (by (simp -dsimp -implicitDefEqProofs only [go_sem]); first | rfl | done) h'
  | succ j =>
    have hj : j < qa.length := by omega
    obtain ⟨b', o', hb', _, hcell'⟩ := hcl j hj
    simp only [Option.some.injEq, Addr.mk.injEq, and_true] at hb'
    obtain ⟨rfl, rfl⟩ := hb'
    have c1 := hcell' 0 (by decide)
    simp only [atC, Nat.add_zero, List.getElem?_cons_zero] at c1
    have hlt := g2 j rfl qa[j] (by rw [List.getElem?_eq_getElem hj])
    have hlt' : ¬ n ≤ qa[j].1 := by omega
    have hjn : (((j + 1 : Nat) : Int) - 1).toNat = j := by omega
    simp -dsimp -implicitDefEqProofs (disch := omega) only [go_sem, reqD_of, dec_t, dec_f, wrap_i64, wrap_u32, wrap_u64, wrap_u8, hd, e0, e1, e5, e7, e8, e11, e12, e14, c0, c1, g1, hlt', hjn]
    refine keep_23 (B := B) (v := v) (most := most) (i := i) (vb := vb) (vm := vm) hb ha hm lm hk g3 ⟨by simp -dsimp -implicitDefEqProofs only [go_sem, hd], by simp -dsimp -implicitDefEqProofs only [go_sem, e0], by simp -dsimp -implicitDefEqProofs only [go_sem, e1], by simp -dsimp -implicitDefEqProofs only [go_sem, e5], by simp -dsimp -implicitDefEqProofs only [go_sem, e7], by simp -dsimp -implicitDefEqProofs only [go_sem, e8], by simp -dsimp -implicitDefEqProofs only [go_sem, e11], by simp -dsimp -implicitDefEqProofs only [go_sem, e12]⟩ (by simp -dsimp -implicitDefEqProofs only [go_sem, e14]) (by simp -dsimp -implicitDefEqProofs only [go_sem]) h ?_
    intro e' w' hs' e14' h'
    simp -dsimp -implicitDefEqProofs (disch := omega) only [go_sem, reqD_of, dec_t, dec_f, wrap_i64, wrap_u32, wrap_u64, wrap_u8, e14']
    obtain ⟨hd, e0, e1, e5, e7, e8, e11, e12⟩ := hs'
    exact hQ _ _ ⟨by simp -dsimp -implicitDefEqProofs only [go_sem, hd], by simp -dsimp -implicitDefEqProofs only [go_sem, e0], by simp -dsimp -implicitDefEqProofs only [go_sem, e1], by simp -dsimp -implicitDefEqProofs only [go_sem, e5], by simp -dsimp -implicitDefEqProofs only [go_sem, e7], by simp -dsimp -implicitDefEqProofs only [go_sem, e8], by simp -dsimp -implicitDefEqProofs only [go_sem, e11], by simp -dsimp -implicitDefEqProofs only [go_sem, e12]⟩ (by (simp -dsimp -implicitDefEqProofs only [go_sem]); first | rfl | done) h'

end
section
attribute [local go_sem] F4.t23_eq F4.t19_eq F4.t20_eq F4.t29_eq F4.t30_eq F4.t27_eq F4.t17_eq F4.t15_eq F4.t9_eq F4.t10_eq F4.t33_eq F4.t7_eq F4.t5_eq
theorem keep_30 {w0 w : World} {F : HP} {most : Int} {v vb vm va : Value} {B i k : Nat} {qb qa : FPs} {may : List Int} {n : Int} {q : HF} {Q : Post} {e : FA} {θ : Tag (F4.t30, Q, e, w)}
    (hb : ListR F vb qb) (ha : ListR F va qa) (hm : Ent F (Reads 1 vm may.length (may.map encU))) (lm : may.length ≤ 1048576)
    (hk : qb[k]? = some (n, q)) (g : (agt n qa).isSome = true ∨ n ∈ may)
    (hs : K4 e most v B i vb vm va) (e19 : e.ρ 19 = .int .i64 k) (h : St w0 F w)
    (hQ : ∀ e' w', K4 e' most v B i vb vm va → e'.ρ 19 = .int .i64 (k + 1 : Nat) → St w0 F w' → Q .normal e' w') :
    cwE Try.prog F4.t30 Q e w θ := by
  obtain ⟨hd, e0, e1, e5, e7, e8, e11, e12⟩ := hs
  have hkl : k < qb.length := (List.getElem?_eq_some_iff.1 hk).1
  have hke : qb[k] = (n, q) := (List.getElem?_eq_some_iff.1 hk).2
  have hlb := hb.len
  obtain ⟨_, a, c, rfl, _, hcl⟩ := St.rowsAt (k := 15) atC_length (by decide) (h.ent hb.rd)
  obtain ⟨b, o, rfl, _, hcell⟩ := hcl k hkl
  have c0 := hcell 0 (by decide)
  rw [hke] at c0
  simp only [atC, Nat.add_zero, List.getElem?_cons_zero] at c0
  rw [F4.t30_eq]
  simp -dsimp -implicitDefEqProofs (disch := omega) only [go_sem, reqD_of, dec_t, dec_f, wrap_i64, wrap_u32, wrap_u64, wrap_u8, hd, e0, e1, e5, e7, e8, e11, e12, e19, c0]
  refine (find_any (n := n) h ha.rd (fun x hx => (ha.ok x hx).1) ha.len).mono ?_
  rintro e1 w1 ⟨h1, rfl⟩
  simp -dsimp -implicitDefEqProofs (disch := omega) only [go_sem, reqD_of, dec_t, dec_f, wrap_i64, wrap_u32, wrap_u64, wrap_u8, hd, e0, e1, e5, e7, e8, e11, e12, e19]
  refine h1.new fun X w2 h2 => ?_
  simp -dsimp -implicitDefEqProofs (disch := omega) only [go_sem, reqD_of, dec_t, dec_f, wrap_i64, wrap_u32, wrap_u64, wrap_u8]
  refine h2.stoAll (b := X) (cs := fdC ((agt n qa).getD zHF).1 ((agt n qa).getD zHF).2) rfl rfl (fdC_cells ?_) fun w3 h3 => ?_
  · cases hg : agt n qa with
    | none => rfl
    | some y => exact (ha.ok _ (agt_mem hg)).1.1
  obtain ⟨_, a', c', hv, _, hcl'⟩ := St.rowsAt (k := 15) atC_length (by decide) (h3.right.ent hb.rd)
  simp only [Value.slice.injEq, true_and] at hv
  obtain ⟨hv1, rfl⟩ := hv
  subst hv1
  obtain ⟨b', o', hb', _, hcell'⟩ := hcl' k hkl
  simp only [Option.some.injEq, Addr.mk.injEq, and_true] at hb'
  obtain ⟨rfl, rfl⟩ := hb'
  have c3 := hcell' 0 (by decide)
  rw [hke] at c3
  simp only [atC, Nat.add_zero, List.getElem?_cons_zero] at c3
  by_cases hg : (agt n qa).isSome = true
  · simp -dsimp -implicitDefEqProofs (disch := omega) only [go_sem, reqD_of, dec_t, dec_f, wrap_i64, wrap_u32, wrap_u64, wrap_u8, hd, e0, e1, e5, e7, e8, e11, e12, e19, c3, hg]
    exact hQ _ _ ⟨by simp -dsimp -implicitDefEqProofs only [go_sem, hd], by simp -dsimp -implicitDefEqProofs only [go_sem, e0], by simp -dsimp -implicitDefEqProofs only [go_sem, e1], by simp -dsimp -implicitDefEqProofs only [go_sem, e5], by simp -dsimp -implicitDefEqProofs only [go_sem, e7], by simp -dsimp -implicitDefEqProofs only [go_sem, e8], by simp -dsimp -implicitDefEqProofs only [go_sem, e11], by simp -dsimp -implicitDefEqProofs only [go_sem, e12]⟩ (by (simp -dsimp -implicitDefEqProofs only [go_sem, e19]); first | rfl | done) h3.right
  · have hmay : n ∈ may := g.elim (fun h => absurd h hg) id
    have hg : (agt n qa).isSome = false := by simpa using hg
    simp -dsimp -implicitDefEqProofs (disch := omega) only [go_sem, reqD_of, dec_t, dec_f, wrap_i64, wrap_u32, wrap_u64, wrap_u8, hd, e0, e1, e5, e7, e8, e11, e12, e19, c3, hg]
    refine (among_any (n := n) h3.right hm lm).mono ?_
    rintro e1 w6 ⟨h6, rfl⟩
    simp -dsimp -implicitDefEqProofs (disch := omega) only [go_sem, reqD_of, dec_t, dec_f, wrap_i64, wrap_u32, wrap_u64, wrap_u8, hd, e0, e1, e5, e7, e8, e11, e12, e19, hmay]
    exact hQ _ _ ⟨by simp -dsimp -implicitDefEqProofs only [go_sem, hd], by simp -dsimp -implicitDefEqProofs only [go_sem, e0], by simp -dsimp -implicitDefEqProofs only [go_sem, e1], by simp -dsimp -implicitDefEqProofs only [go_sem, e5], by simp -dsimp -implicitDefEqProofs only [go_sem, e7], by simp -dsimp -implicitDefEqProofs only [go_sem, e8], by simp -dsimp -implicitDefEqProofs only [go_sem, e11], by simp -dsimp -implicitDefEqProofs only [go_sem, e12]⟩ (by (simp -dsimp -implicitDefEqProofs only [go_sem, e19]); first | rfl | done) h6

end
section
attribute [local go_sem] F4.t23_eq F4.t19_eq F4.t29_eq F4.t17_eq F4.t15_eq F4.t9_eq F4.t10_eq F4.t33_eq F4.t7_eq F4.t5_eq
theorem keep_27 {w0 w : World} {F : HP} {most : Int} {v vb vm va : Value} {B i : Nat} {qb qa : FPs} {may : List Int} {Q : Post} {e : FA} {θ : Tag (F4.t27, Q, e, w)}
    (hb : ListR F vb qb) (ha : ListR F va qa) (hm : Ent F (Reads 1 vm may.length (may.map encU))) (lm : may.length ≤ 1048576)
    (g : ∀ x ∈ qb, (agt x.1 qa).isSome = true ∨ x.1 ∈ may)
    (hs : K4 e most v B i vb vm va) (h : St w0 F w)
    (hQ : ∀ e' w', K4 e' most v B i vb vm va → St w0 F w' → Q .normal e' w') :
    cwE Try.prog F4.t27 Q e w θ := by
  obtain ⟨hd, e0, e1, e5, e7, e8, e11, e12⟩ := hs
  have hlb := hb.len
  obtain ⟨_, a, c, rfl, _, _⟩ := St.rowsAt (k := 15) atC_length (by decide) (h.ent hb.rd)
  rw [F4.t27_eq]
  simp -dsimp -implicitDefEqProofs (disch := omega) only [go_sem, reqD_of, dec_t, dec_f, wrap_i64, wrap_u32, wrap_u64, wrap_u8, hd, e0, e1, e5, e7, e8, e11, e12]
  refine loop_intro (fun e w' => K4 e most v B i (.slice a qb.length c) vm va ∧ ∃ k : Nat, k ≤ qb.length ∧ e.ρ 19 = .int .i64 k ∧ St w0 F w')
    (fun e _ => match e.ρ 19 with | .int _ n => (qb.length - n).toNat | _ => 0) ?_ ?_
  · exact ⟨⟨by simp -dsimp -implicitDefEqProofs only [go_sem, hd], by simp -dsimp -implicitDefEqProofs only [go_sem, e0], by simp -dsimp -implicitDefEqProofs only [go_sem, e1], by simp -dsimp -implicitDefEqProofs only [go_sem, e5], by simp -dsimp -implicitDefEqProofs only [go_sem, e7], by simp -dsimp -implicitDefEqProofs only [go_sem, e8], by simp -dsimp -implicitDefEqProofs only [go_sem, e11], by simp -dsimp -implicitDefEqProofs only [go_sem, e12]⟩, 0, by omega, by simp -dsimp -implicitDefEqProofs only [go_sem], h⟩
  rintro e w2 ⟨hs, k, hk, e19, h2⟩
  have e8' := hs.e8
  by_cases hlt : (k : Int) < qb.length
  case neg =>
    obtain ⟨hd, e0, e1, e5, e7, e8, e11, e12⟩ := hs
    simp -dsimp -implicitDefEqProofs (disch := omega) only [go_sem, reqD_of, dec_t, dec_f, wrap_i64, wrap_u32, wrap_u64, wrap_u8, e8', e19, hlt]
    exact hQ _ _ ⟨by simp -dsimp -implicitDefEqProofs only [go_sem, hd], by simp -dsimp -implicitDefEqProofs only [go_sem, e0], by simp -dsimp -implicitDefEqProofs only [go_sem, e1], by simp -dsimp -implicitDefEqProofs only [go_sem, e5], by simp -dsimp -implicitDefEqProofs only [go_sem, e7], by simp -dsimp -implicitDefEqProofs only [go_sem, e8], by simp -dsimp -implicitDefEqProofs only [go_sem, e11], by simp -dsimp -implicitDefEqProofs only [go_sem, e12]⟩ h2
  have hkl : k < qb.length := by omega
  obtain ⟨hd, e0, e1, e5, e7, e8, e11, e12⟩ := hs
  simp -dsimp -implicitDefEqProofs (disch := omega) only [go_sem, reqD_of, dec_t, dec_f, wrap_i64, wrap_u32, wrap_u64, wrap_u8, e8', e19, hlt]
  refine keep_30 (B := B) (v := v) (most := most) (i := i) (va := va) (vm := vm) (n := qb[k].1) (q := qb[k].2) hb ha hm lm (List.getElem?_eq_getElem hkl) (g _ (List.getElem_mem hkl)) ⟨by simp -dsimp -implicitDefEqProofs only [go_sem, hd], by simp -dsimp -implicitDefEqProofs only [go_sem, e0], by simp -dsimp -implicitDefEqProofs only [go_sem, e1], by simp -dsimp -implicitDefEqProofs only [go_sem, e5], by simp -dsimp -implicitDefEqProofs only [go_sem, e7], by simp -dsimp -implicitDefEqProofs only [go_sem, e8], by simp -dsimp -implicitDefEqProofs only [go_sem, e11], by simp -dsimp -implicitDefEqProofs only [go_sem, e12]⟩ (by simp -dsimp -implicitDefEqProofs only [go_sem, e19]) h2 ?_
  intro e' w' hs' e19' h'
  simp -dsimp -implicitDefEqProofs (disch := omega) only [go_sem, reqD_of, dec_t, dec_f, wrap_i64, wrap_u32, wrap_u64, wrap_u8, e19, e19']
  exact ⟨⟨hs', k + 1, by omega, rfl, h'⟩, by omega⟩

end
section
attribute [local go_sem] F4.t23_eq F4.t19_eq F4.t29_eq F4.t15_eq F4.t9_eq F4.t10_eq F4.t33_eq F4.t7_eq F4.t5_eq
theorem keep_17 {w0 w : World} {F : HP} {most : Int} {v vb vm va : Value} {B i : Nat} {qb qa : FPs} {may : List Int} {Q : Post} {e : FA} {θ : Tag (F4.t17, Q, e, w)}
    (hb : ListR F vb qb) (ha : ListR F va qa) (hm : Ent F (Reads 1 vm may.length (may.map encU))) (lm : may.length ≤ 1048576)
    (g1 : ∀ (k : Nat) (x : Int × HF), qa[k]? = some x → x.1 ≠ 4294967295 ∧ (∀ j, k = j + 1 → ∀ y, qa[j]? = some y → y.1 < x.1) ∧ (x.1 ∈ may ∨ ∃ y, agt x.1 qb = some y ∧ y.2 = x.2.2))
    (g : ∀ x ∈ qb, (agt x.1 qa).isSome = true ∨ x.1 ∈ may)
    (hs : K4 e most v B i vb vm va) (h : St w0 F w)
    (hQ : ∀ e' w', K4 e' most v B i vb vm va → St w0 F w' → Q .normal e' w') :
    cwE Try.prog F4.t17 Q e w θ := by
  obtain ⟨hd, e0, e1, e5, e7, e8, e11, e12⟩ := hs
  have hla := ha.len
  obtain ⟨_, a, c, rfl, _, _⟩ := St.rowsAt (k := 15) atC_length (by decide) (h.ent ha.rd)
  rw [F4.t17_eq]
  simp -dsimp -implicitDefEqProofs (disch := omega) only [go_sem, reqD_of, dec_t, dec_f, wrap_i64, wrap_u32, wrap_u64, wrap_u8, hd, e0, e1, e5, e7, e8, e11, e12]
  refine loop_intro (fun e w' => K4 e most v B i vb vm (.slice a qa.length c) ∧ ∃ k : Nat, k ≤ qa.length ∧ e.ρ 14 = .int .i64 k ∧ St w0 F w')
    (fun e _ => match e.ρ 14 with | .int _ n => (qa.length - n).toNat | _ => 0) ?_ ?_
  · exact ⟨⟨by simp -dsimp -implicitDefEqProofs only [go_sem, hd], by simp -dsimp -implicitDefEqProofs only [go_sem, e0], by simp -dsimp -implicitDefEqProofs only [go_sem, e1], by simp -dsimp -implicitDefEqProofs only [go_sem, e5], by simp -dsimp -implicitDefEqProofs only [go_sem, e7], by simp -dsimp -implicitDefEqProofs only [go_sem, e8], by simp -dsimp -implicitDefEqProofs only [go_sem, e11], by simp -dsimp -implicitDefEqProofs only [go_sem, e12]⟩, 0, by omega, by simp -dsimp -implicitDefEqProofs only [go_sem], h⟩
  rintro e w2 ⟨hs, k, hk, e14, h2⟩
  have e12' := hs.e12
  by_cases hlt : (k : Int) < qa.length
  case neg =>
    obtain ⟨hd, e0, e1, e5, e7, e8, e11, e12⟩ := hs
    simp -dsimp -implicitDefEqProofs (disch := omega) only [go_sem, reqD_of, dec_t, dec_f, wrap_i64, wrap_u32, wrap_u64, wrap_u8, e12', e14, hlt]
    exact keep_27 (B := B) (v := v) (most := most) (i := i) (vb := vb) (vm := vm) hb ha hm lm g ⟨by simp -dsimp -implicitDefEqProofs only [go_sem, hd], by simp -dsimp -implicitDefEqProofs only [go_sem, e0], by simp -dsimp -implicitDefEqProofs only [go_sem, e1], by simp -dsimp -implicitDefEqProofs only [go_sem, e5], by simp -dsimp -implicitDefEqProofs only [go_sem, e7], by simp -dsimp -implicitDefEqProofs only [go_sem, e8], by simp -dsimp -implicitDefEqProofs only [go_sem, e11], by simp -dsimp -implicitDefEqProofs only [go_sem, e12]⟩ h2 hQ
  have hkl : k < qa.length := by omega
  obtain ⟨g11, g12, g13⟩ := g1 k qa[k] (List.getElem?_eq_getElem hkl)
  obtain ⟨hd, e0, e1, e5, e7, e8, e11, e12⟩ := hs
  simp -dsimp -implicitDefEqProofs (disch := omega) only [go_sem, reqD_of, dec_t, dec_f, wrap_i64, wrap_u32, wrap_u64, wrap_u8, e12', e14, hlt]
  refine keep_20 (B := B) (v := v) (most := most) (i := i) (vb := vb) (vm := vm) (n := qa[k].1) (q := qa[k].2) hb ha hm lm (List.getElem?_eq_getElem hkl) g11 g12 g13 ⟨by simp -dsimp -implicitDefEqProofs only [go_sem, hd], by simp -dsimp -implicitDefEqProofs only [go_sem, e0], by simp -dsimp -implicitDefEqProofs only [go_sem, e1], by simp -dsimp -implicitDefEqProofs only [go_sem, e5], by simp -dsimp -implicitDefEqProofs only [go_sem, e7], by simp -dsimp -implicitDefEqProofs only [go_sem, e8], by simp -dsimp -implicitDefEqProofs only [go_sem, e11], by simp -dsimp -implicitDefEqProofs only [go_sem, e12]⟩ (by simp -dsimp -implicitDefEqProofs only [go_sem, e14]) h2 ?_
  intro e' w' hs' e14' h'
  simp -dsimp -implicitDefEqProofs (disch := omega) only [go_sem, reqD_of, dec_t, dec_f, wrap_i64, wrap_u32, wrap_u64, wrap_u8, e14, e14']
  exact ⟨⟨hs', k + 1, by omega, rfl, h'⟩, by omega⟩

end
end Go.Proofs.Ytljndiligbaljaa
