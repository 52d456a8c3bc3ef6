/- A tree of names out of numbers. -/
import Derived.Test.YtlnlomjdooobdaaDoorNaS
namespace Go.Proofs.YtlnlomjdooobdaaDoor
open Go
set_option linter.unusedVariables false
set_option linter.unusedSimpArgs false
set_option maxRecDepth 100000

structure TreeOk (ts : List (Nat × List UInt8)) : Prop where
  pos : 0 < ts.length
  le : ts.length ≤ 60
  low : ∀ t ∈ ts, t.1 < ts.length
  root : upT ts 0 = 0
theorem TreeOk.one : TreeOk [(0, [])] := ⟨by decide, by decide, by decide, rfl⟩
theorem TreeOk.snoc {ts : List (Nat × List UInt8)} (h : TreeOk ts) (hl : ts.length < 60) {p : Nat} (hp : p < ts.length) (x : List UInt8) : TreeOk (ts ++ [(p, x)]) := by
  refine ⟨by simp, by simp; omega, fun t ht => ?_, ?_⟩
  · rcases List.mem_append.1 ht with ht | ht
    · have := h.low t ht; simp; omega
    · rw [List.mem_singleton.1 ht]; simp; omega
  · have := h.root
    have h0 := h.pos
    simp only [upT, List.getD, List.map_append] at this ⊢
    rw [List.getElem?_append_left (by simpa using h0)]
    exact this

def treeWords : List (List UInt8) := [[97], [98], [99], [97, 98], [46, 46, 46]]
section
attribute [local go_sem] F13.t5_eq F13.t6_eq F13.t15_eq
theorem tree_step {w0 w : World} {A : HP} {ts : List (Nat × List UInt8)} {u v : Value} {n : Nat} {e : FA} {Q : Post} {θ : Tag (F13.t9, Q, e, w)}
    (hd : e.ds = []) (e4 : e.ρ 4 = u) (e5 : e.ρ 5 = v) (e7 : e.ρ 7 = .int .i64 n) (hn : n ≤ 9223372036854775807) (ht : TreeOk ts) (h60 : ts.length < 60)
    (h : St w0 (RowO 9 1 v ts.length (ts.map fun t => sv t.2) * (RowO 3 1 u ts.length (ts.map fun t => nv t.1) * A)) w)
    (hQ : ∀ (e' : FA) (w' : World) (ts' : List (Nat × List UInt8)), e'.ds = [] → e'.ρ 0 = e.ρ 0 → e'.ρ 6 = e.ρ 6 → TreeOk ts' →
      St w0 (RowO 9 1 (e'.ρ 5) ts'.length (ts'.map fun t => sv t.2) * (RowO 3 1 (e'.ρ 4) ts'.length (ts'.map fun t => nv t.1) * A)) w' → Q .normal e' w') :
    cwE Tryd.prog F13.t9 Q e w θ := by
  obtain ⟨au, cu, rfl, _, huc, _⟩ := h.rowForm u
  obtain ⟨av, cv, rfl, _, hvc, _⟩ := h.rowForm v
  have hpos := ht.pos
  have hle := ht.le
  rw [F13.t9_eq]
  have m1 : ((n : Int)).tmod (ts.length : Int) = ((n % ts.length : Nat) : Int) := rfl
  obtain ⟨d, hd0⟩ : ∃ d, d = n / ts.length := ⟨_, rfl⟩
  have hdn : d ≤ 9223372036854775807 := hd0 ▸ Nat.le_trans (Nat.div_le_self _ _) hn
  have m2 : ((n : Int)).tdiv (ts.length : Int) = (d : Int) := hd0 ▸ rfl
  obtain ⟨k, hk⟩ : ∃ k, k = d % 5 := ⟨_, rfl⟩
  have hk5 : k < 5 := hk ▸ Nat.mod_lt _ (by omega)
  have m3 : ((d : Int)).tmod 5 = (k : Int) := hk ▸ rfl
  have hp : n % ts.length < ts.length := Nat.mod_lt _ hpos
  have hz : ¬ ((ts.length : Int) = 0) := by omega
  simp -dsimp -implicitDefEqProofs (disch := omega) only [go_sem, reqD_of, dec_t, dec_f, wrap_i64, wrap_u32, wrap_u64, wrap_u8, hd, e4, e5, e7, m1, m2, m3, hz]
  refine h.lit (t := 24) (cells := treeWords.map sv) fact_rowTy_24 rfl (by decide) (by decide) fun v8 w8 h8 => ?_
  obtain ⟨a8, c8, rfl, _⟩ := h8.rowForm v8
  obtain ⟨b8, o8, rfl, c8'⟩ := h8.atS (a := a8) (n := 5) (c := c8) (xs := treeWords.map sv) (k := k) (by simpa [treeWords] using hk5)
  simp only [List.getElem_map] at c8'
  obtain ⟨x, hx⟩ : ∃ x, x = treeWords[k]'(by simpa [treeWords] using hk5) := ⟨_, rfl⟩
  rw [← hx] at c8'
  have hk5' : (k : Int) < 5 := by omega
  simp -dsimp -implicitDefEqProofs (disch := omega) only [go_sem, reqD_of, dec_t, dec_f, wrap_i64, wrap_u32, wrap_u64, wrap_u8, hd, e4, e5, e7, m1, m2, m3, hz, c8', hk5']
  have hR := h8.right
  refine (child_any hR (ts := ts) (u := .slice au ts.length cu) (v := .slice av ts.length cv) ((Ent.right _ _).trans ((Ent.left _ _).trans (RowO.reads _ _ _ _ _))) ((Ent.left _ _).trans (RowO.reads _ _ _ _ _)) ht.le (n % ts.length) x).mono ?_
  rintro e' w9 ⟨h9, ⟨j, hj, rfl⟩ | ⟨hj, rfl⟩⟩
  · simp -dsimp -implicitDefEqProofs (disch := omega) only [go_sem, reqD_of, dec_t, dec_f, wrap_i64, wrap_u32, wrap_u64, wrap_u8, hd, e4, e5, e7]
    exact hQ _ w9 ts (by simp -dsimp -implicitDefEqProofs only [go_sem, hd]) (by simp -dsimp -implicitDefEqProofs only [go_sem]) (by simp -dsimp -implicitDefEqProofs only [go_sem]) ht (by simp -dsimp -implicitDefEqProofs only [go_sem, e4, e5]; exact h9)
  simp -dsimp -implicitDefEqProofs (disch := omega) only [go_sem, reqD_of, dec_t, dec_f, wrap_i64, wrap_u32, wrap_u64, wrap_u8, hd, e4, e5, e7]
  refine h9.lit (t := 23) (cells := [nv (n % ts.length)]) fact_rowTy_23 rfl (by decide) (by decide) fun v10 w10 h10 => ?_
  obtain ⟨a10, c10, rfl, _⟩ := h10.rowForm v10
  simp -dsimp -implicitDefEqProofs (disch := omega) only [go_sem, reqD_of, dec_t, dec_f, wrap_i64, wrap_u32, wrap_u64, wrap_u8, hd, e4, e5, e7]
  refine h10.appR (v := .slice au ts.length cu) (x := .slice a10 1 c10) fact_rowTy_23 Tryd.underlying23 (fun u hu => by simp at hu; subst hu; rfl) (by simp) (show _ ≤ 9223372036854775807 by omega) (by omega) fun v11 w11 h11 => ?_
  obtain ⟨a11, c11, rfl, _⟩ := h11.rowForm v11
  simp -dsimp -implicitDefEqProofs (disch := omega) only [go_sem, reqD_of, dec_t, dec_f, wrap_i64, wrap_u32, wrap_u64, wrap_u8, hd, e4, e5, e7]
  refine h11.lit (t := 24) (cells := [sv x]) fact_rowTy_24 rfl (by decide) (by decide) fun v12 w12 h12 => ?_
  obtain ⟨a12, c12, rfl, _⟩ := h12.rowForm v12
  simp -dsimp -implicitDefEqProofs (disch := omega) only [go_sem, reqD_of, dec_t, dec_f, wrap_i64, wrap_u32, wrap_u64, wrap_u8, hd, e4, e5, e7]
  refine h12.appR (v := .slice av ts.length cv) (x := .slice a12 1 c12) fact_rowTy_24 Tryd.underlying24 (fun u hu => by simp at hu; subst hu; rfl) (by simp) (show _ ≤ 9223372036854775807 by omega) (by omega) fun v13 w13 h13 => ?_
  simp -dsimp -implicitDefEqProofs (disch := omega) only [go_sem, reqD_of, dec_t, dec_f, wrap_i64, wrap_u32, wrap_u64, wrap_u8, hd, e4, e5, e7]
  refine hQ _ w13 (ts ++ [(n % ts.length, x)]) (by simp -dsimp -implicitDefEqProofs only [go_sem, hd]) (by simp -dsimp -implicitDefEqProofs only [go_sem]) (by simp -dsimp -implicitDefEqProofs only [go_sem]) (ht.snoc h60 hp x) ?_
  simp -dsimp -implicitDefEqProofs only [go_sem]
  rw [show (ts ++ [(n % ts.length, x)]).length = ts.length + 1 by simp, List.map_append, List.map_append]
  exact h13.right.right

theorem tree_any {w0 w : World} {A : HP} (h : St w0 A w) {zs : List Int} {r : Value} (hr : Ent A (Reads 1 r zs.length (zs.map fun z => .int .i64 z))) (hz : ∀ z ∈ zs, -9223372036854775808 ≤ z ∧ z ≤ 9223372036854775807) (hl : zs.length ≤ 4611686018427387904) :
    Calls Tryd.prog 13 #[r] w fun e w' => ∃ (ts : List (Nat × List UInt8)) (u v : Value), TreeOk ts ∧
      St w0 (RowO 3 1 u ts.length (ts.map fun t => nv t.1) * (RowO 9 1 v ts.length (ts.map fun t => sv t.2) * A)) w' ∧ e = .returned (.tuple #[u, v]) := by
  obtain ⟨a, c, rfl, hc⟩ := readForm h hr
  haveI i0 : Gives A (Reads 1 (.slice a zs.length c) zs.length (zs.map fun z => .int .i64 z)) := ⟨hr⟩
  refine F13.calls (by simp) ?_
  unfold F13.code
  simp -dsimp -implicitDefEqProofs (disch := omega) only [go_sem, reqD_of, dec_t, dec_f, wrap_i64, wrap_u32, wrap_u64, wrap_u8]
  refine h.lit (t := 23) (cells := [nv 0]) fact_rowTy_23 rfl (by decide) (by decide) fun v1 w1 h1 => ?_
  simp -dsimp -implicitDefEqProofs (disch := omega) only [go_sem, reqD_of, dec_t, dec_f, wrap_i64, wrap_u32, wrap_u64, wrap_u8]
  refine h1.lit (t := 24) (cells := [sv []]) fact_rowTy_24 rfl (by decide) (by decide) fun v2 w2 h2 => ?_
  simp -dsimp -implicitDefEqProofs (disch := omega) only [go_sem, reqD_of, dec_t, dec_f, wrap_i64, wrap_u32, wrap_u64, wrap_u8]
  refine loop_intro (fun e w' => e.ds = [] ∧ e.ρ 0 = .slice a zs.length c ∧
      ∃ (i : Nat) (ts : List (Nat × List UInt8)) (u v : Value), i ≤ zs.length ∧ e.ρ 6 = .int .i64 i ∧ e.ρ 4 = u ∧ e.ρ 5 = v ∧ TreeOk ts ∧
        St w0 (RowO 9 1 v ts.length (ts.map fun t => sv t.2) * (RowO 3 1 u ts.length (ts.map fun t => nv t.1) * A)) w')
    (fun e _ => match e.ρ 6 with | .int _ n => (zs.length - n).toNat | _ => 0) ?_ ?_
  · exact ⟨by simp -dsimp -implicitDefEqProofs only [go_sem], by simp -dsimp -implicitDefEqProofs only [go_sem], 0, [(0, [])], v1, v2, by omega, by simp -dsimp -implicitDefEqProofs only [go_sem], by simp -dsimp -implicitDefEqProofs only [go_sem], by simp -dsimp -implicitDefEqProofs only [go_sem], TreeOk.one, h2⟩
  clear h h1 h2
  rintro e w3 ⟨hd, e0, i, ts, u, v, hi, e6, e4, e5, ht, h3⟩
  obtain ⟨au, cu, rfl, _, huc, _⟩ := h3.rowForm u
  obtain ⟨av, cv, rfl, _, hvc, _⟩ := h3.rowForm v
  have hpos := ht.pos
  have hle := ht.le
  have fin : i = zs.length ∨ ¬ ts.length < 60 → ∃ (ts' : List (Nat × List UInt8)) (u v : Value), TreeOk ts' ∧
      St w0 (RowO 3 1 u ts'.length (ts'.map fun t => nv t.1) * (RowO 9 1 v ts'.length (ts'.map fun t => sv t.2) * A)) w3 ∧ Value.tuple #[.slice au ts.length cu, .slice av ts.length cv] = .tuple #[u, v] := by
    intro _
    exact ⟨ts, _, _, ht, h3.ac (by ac_rfl), rfl⟩
  by_cases hlt : (i : Int) < (zs.length : Int)
  case neg =>
    simp -dsimp -implicitDefEqProofs (disch := omega) only [go_sem, reqD_of, dec_t, dec_f, wrap_i64, wrap_u32, wrap_u64, wrap_u8, hd, e0, e6, e4, e5, hlt]
    exact fin (.inl (by omega))
  by_cases h60 : (ts.length : Int) < 60
  case neg =>
    simp -dsimp -implicitDefEqProofs (disch := omega) only [go_sem, reqD_of, dec_t, dec_f, wrap_i64, wrap_u32, wrap_u64, wrap_u8, hd, e0, e6, e4, e5, hlt, h60]
    exact fin (.inr (by omega))
  have hil : i < zs.length := by omega
  obtain ⟨b0, o0, rfl, c0⟩ := h3.atS (i := Gives.r) (a := a) (n := zs.length) (c := c) (xs := zs.map fun z => .int .i64 z) (k := i) (by simpa using hil)
  simp only [List.getElem_map] at c0
  obtain ⟨z, hzz⟩ : ∃ z, z = zs[i] := ⟨_, rfl⟩
  have hzb := hz z (hzz ▸ List.getElem_mem hil)
  rw [← hzz] at c0
  by_cases hz0 : z < 0
  · obtain ⟨n, hn⟩ : ∃ n : Nat, 0 - (z + 1) = n := ⟨(0 - (z + 1)).toNat, by omega⟩
    simp -dsimp -implicitDefEqProofs (disch := omega) only [go_sem, reqD_of, dec_t, dec_f, wrap_i64, wrap_u32, wrap_u64, wrap_u8, hd, e0, e6, e4, e5, hlt, h60, c0, hz0, hn]
    refine tree_step (n := n) (by simp -dsimp -implicitDefEqProofs only [go_sem, hd]) (by simp -dsimp -implicitDefEqProofs only [go_sem, e4]) (by simp -dsimp -implicitDefEqProofs only [go_sem, e5]) (by simp -dsimp -implicitDefEqProofs only [go_sem]) (by omega) ht (by omega) h3 ?_
    intro e' w' ts' d' k0 k6 ht' h'
    have k0 : e'.ρ 0 = .slice (some ⟨b0, o0, none⟩) zs.length c := k0.trans (by simp -dsimp -implicitDefEqProofs only [go_sem, e0])
    have k6 : e'.ρ 6 = .int .i64 i := k6.trans (by simp -dsimp -implicitDefEqProofs only [go_sem, e6])
    simp -dsimp -implicitDefEqProofs (disch := omega) only [go_sem, reqD_of, dec_t, dec_f, wrap_i64, wrap_u32, wrap_u64, wrap_u8, d', k0, k6, e6]
    exact ⟨⟨i + 1, ts', _, _, by omega, by omega, rfl, rfl, ht', h'⟩, by omega⟩
  · obtain ⟨n, hn⟩ : ∃ n : Nat, z = n := ⟨z.toNat, by omega⟩
    subst hn
    simp -dsimp -implicitDefEqProofs (disch := omega) only [go_sem, reqD_of, dec_t, dec_f, wrap_i64, wrap_u32, wrap_u64, wrap_u8, hd, e0, e6, e4, e5, hlt, h60, c0, hz0]
    refine tree_step (n := n) (by simp -dsimp -implicitDefEqProofs only [go_sem, hd]) (by simp -dsimp -implicitDefEqProofs only [go_sem, e4]) (by simp -dsimp -implicitDefEqProofs only [go_sem, e5]) (by simp -dsimp -implicitDefEqProofs only [go_sem]) (by omega) ht (by omega) h3 ?_
    intro e' w' ts' d' k0 k6 ht' h'
    have k0 : e'.ρ 0 = .slice (some ⟨b0, o0, none⟩) zs.length c := k0.trans (by simp -dsimp -implicitDefEqProofs only [go_sem, e0])
    have k6 : e'.ρ 6 = .int .i64 i := k6.trans (by simp -dsimp -implicitDefEqProofs only [go_sem, e6])
    simp -dsimp -implicitDefEqProofs (disch := omega) only [go_sem, reqD_of, dec_t, dec_f, wrap_i64, wrap_u32, wrap_u64, wrap_u8, d', k0, k6, e6]
    exact ⟨⟨i + 1, ts', _, _, by omega, by omega, rfl, rfl, ht', h'⟩, by omega⟩
end
end Go.Proofs.YtlnlomjdooobdaaDoor
