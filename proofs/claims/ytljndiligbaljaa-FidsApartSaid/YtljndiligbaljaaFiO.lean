/- FidsOpens: as many as All tells. -/
import Derived.Test.YtljndiligbaljaaFiN
namespace Go.Proofs.Ytljndiligbaljaa
open Go
set_option linter.unusedSimpArgs false
set_option linter.unusedVariables false
set_option maxRecDepth 100000

structure K5 (e : FA) (nd : Int) (v0 : Value) (B i : Nat) : Prop where
  hd : e.ds = []
  e0 : e.ρ 0 = v0
  e1 : e.ρ 1 = .int .u64 nd
  e5 : e.ρ 5 = .pointer (some ⟨B, 0, none⟩)
  e9 : e.ρ 9 = .int .i64 i

theorem opensN_snoc (nd : Int) (l : TL) (x : Int × FidD) : opensN nd (l ++ [x]) = opensN nd l + if x.2.st = 2 ∧ x.2.nd = nd then 1 else 0 := by
  unfold opensN
  rw [List.countP_append]
  congr 1
  by_cases h1 : x.2.st = 2 <;> by_cases h2 : x.2.nd = nd <;> simp [h1, h2, List.countP_cons]

theorem does_tab {most : Int} {l : TL} (h : Tab most l) (o : OpD) : Tab most (doesS o most l) := (does_chg h o).tab h
theorem opC_cells {vo : Value} {op : OpD} (h : isCell vo = true) : ∀ y ∈ opC (vo, op), isCell y = true := by
  intro y hy
  have := fdC_cells (v := vo) (f := op.f) h
  simp only [opC, List.mem_cons, List.mem_append, List.not_mem_nil, or_false] at hy
  rcases hy with rfl | rfl | rfl | hy | rfl | rfl | rfl | rfl
  all_goals first | rfl | exact this _ hy

section
attribute [local go_sem] F5.t22_eq F5.t23_eq F5.t25_eq F5.t13_eq F5.t14_eq F5.t28_eq F5.t11_eq F5.t7_eq F5.t5_eq
theorem opens_17 {w0 w : World} {F : HP} {nd : Int} {B X i : Nat} {l : TL} {v0 vo : Value} {op : OpD} {Q : Post} {e : FA} {θ : Tag (F5.t17, Q, e, w)}
    (ht : Tab 256 l) (hok : Okf (vo, op.f)) (hr : Ent F (HeardR (vo, op.f))) (hs : K5 e nd v0 B i) (e10 : e.ρ 10 = .pointer (some ⟨X, 0, none⟩))
    (h : St w0 (Blk X (opB (vo, op)) * (TabP B 256 l * F)) w)
    (hQ : ∀ e' w' l', K5 e' nd v0 B i → Tab 256 l' → St w0 (TabP B 256 l' * F) w' → Q .normal e' w') :
    cwE Try.prog F5.t17 Q e w θ := by
  have hll := sortK_len_le ht (by decide)
  obtain ⟨hd, e0, e1, e5, e9⟩ := hs
  have r := h.rowH X 21 rfl
  rw [F5.t17_eq]
  simp -dsimp -implicitDefEqProofs (disch := omega) only [go_sem, reqD_of, dec_t, dec_f, wrap_i64, wrap_u32, wrap_u64, wrap_u8, hd, e0, e1, e5, e9, e10, r]
  refine (does_any (v := vo) (o := op) h.right hok hr hll).mono ?_
  rintro e' w1 ⟨u, h1, rfl⟩
  have ht' := does_tab ht op
  have hl := sortK_len_le ht' (by decide)
  have nds := ht'.nd
  generalize doesS op 256 l = l' at h1 ht' hl nds
  have h2 := h1.right
  simp -dsimp -implicitDefEqProofs (disch := omega) only [go_sem, reqD_of, dec_t, dec_f, wrap_i64, wrap_u32, wrap_u64, wrap_u8, hd, e0, e1, e5, e9, e10]
  refine (listed_any h2 hl).mono ?_
  rintro e' w3 ⟨v, qs, hqs, h, rfl⟩
  have hql : qs.length = l'.length := by rw [← amap_length (fun p : HF => p.2) qs, hqs, sortK_length]
  obtain ⟨a, c, rfl⟩ := AtP.form h
  simp -dsimp -implicitDefEqProofs (disch := omega) only [go_sem, reqD_of, dec_t, dec_f, wrap_i64, wrap_u32, wrap_u64, wrap_u8, hd, e0, e1, e5, e9, e10]
  refine loop_intro (fun e w' => K5 e nd v0 B i ∧ e.ρ 11 = .slice a qs.length c ∧ e.ρ 12 = .bool true ∧ ∃ k : Nat, k ≤ qs.length ∧ e.ρ 13 = .int .i64 k ∧ e.ρ 8 = .int .i64 (opensN nd (amap (·.2) (qs.take k))) ∧ St w0 (AtP (.slice a qs.length c) qs * (TabP B 256 l' * F)) w')
    (fun e _ => match e.ρ 13 with | .int _ n => (qs.length - n).toNat | _ => 0) ?_ ?_
  · exact ⟨⟨by simp -dsimp -implicitDefEqProofs only [go_sem, hd], by simp -dsimp -implicitDefEqProofs only [go_sem, e0], by simp -dsimp -implicitDefEqProofs only [go_sem, e1], by simp -dsimp -implicitDefEqProofs only [go_sem, e5], by simp -dsimp -implicitDefEqProofs only [go_sem, e9]⟩, by simp -dsimp -implicitDefEqProofs only [go_sem], by simp -dsimp -implicitDefEqProofs only [go_sem], 0, by omega, by simp -dsimp -implicitDefEqProofs only [go_sem], by (simp -dsimp -implicitDefEqProofs only [go_sem]); rfl, h⟩
  rintro e w2 ⟨⟨hd, e0, e1, e5, e9⟩, e11, e12, k, hk, e13, e8, h2⟩
  by_cases hlt : (k : Int) < qs.length
  case neg =>
    have : k = qs.length := by omega
    subst this
    rw [List.take_length, hqs, opensN_sortK nds] at e8
    simp -dsimp -implicitDefEqProofs (disch := omega) only [go_sem, reqD_of, dec_t, dec_f, wrap_i64, wrap_u32, wrap_u64, wrap_u8, hd, e0, e1, e5, e8, e9, e11, e12, e13, hlt]
    refine (opens_any (nd := nd) h2.right (by omega)).mono ?_
    rintro e' w3 ⟨h3, rfl⟩
    simp -dsimp -implicitDefEqProofs (disch := omega) only [go_sem, reqD_of, dec_t, dec_f, wrap_i64, wrap_u32, wrap_u64, wrap_u8, hd, e0, e1, e5, e8, e9, e11, e12, e13, hlt]
    exact hQ _ _ _ ⟨by simp -dsimp -implicitDefEqProofs only [go_sem, hd], by simp -dsimp -implicitDefEqProofs only [go_sem, e0], by simp -dsimp -implicitDefEqProofs only [go_sem, e1], by simp -dsimp -implicitDefEqProofs only [go_sem, e5], by simp -dsimp -implicitDefEqProofs only [go_sem, e9]⟩ ht' h3
  have hkl : k < qs.length := by omega
  have hR := AtP.listR h2 (by omega)
  obtain ⟨_, a', c', hv, _, hcl⟩ := St.rowsAt (k := 15) atC_length (by decide) (h2.ent hR.rd)
  simp only [Value.slice.injEq, true_and] at hv
  obtain ⟨rfl, rfl⟩ := hv
  obtain ⟨b, o, rfl, _, hcell⟩ := hcl k hkl
  obtain ⟨x, hx⟩ : ∃ x, x = qs[k] := ⟨_, rfl⟩
  rw [← hx] at hcell
  have hbd : (opensN nd (amap (fun p : HF => p.2) (qs.take k)) : Int) ≤ k := by
    have : opensN nd (amap (fun p : HF => p.2) (qs.take k)) ≤ (amap (fun p : HF => p.2) (qs.take k)).length := List.countP_le_length
    rw [amap_length, List.length_take] at this
    omega
  have hsn : opensN nd (amap (fun p : HF => p.2) (qs.take (k + 1))) = opensN nd (amap (fun p : HF => p.2) (qs.take k)) + if x.2.2.st = 2 ∧ x.2.2.nd = nd then 1 else 0 := by
    rw [List.take_succ_eq_append_getElem hkl, ← hx]
    rw [show amap (fun p : HF => p.2) (qs.take k ++ [x]) = amap (fun p : HF => p.2) (qs.take k) ++ [(x.1, x.2.2)] by simp [amap], opensN_snoc]
  obtain ⟨n, vv, f⟩ := x
  have c1 := hcell 1 (by decide)
  have c2 := hcell 2 (by decide)
  simp only [atC, fdC, List.getElem?_cons_zero, List.getElem?_cons_succ] at c1 c2
  generalize opensN nd (amap (fun p : HF => p.2) (qs.take k)) = N at e8 hbd hsn
  simp only at hsn
  by_cases q1 : f.st = 2
  · by_cases q2 : f.nd = nd
    · rw [if_pos ⟨q1, q2⟩] at hsn
      simp -dsimp -implicitDefEqProofs (disch := omega) only [go_sem, reqD_of, dec_t, dec_f, wrap_i64, wrap_u32, wrap_u64, wrap_u8, hd, e0, e1, e5, e8, e9, e11, e12, e13, hlt, c1, c2, q1, q2]
      exact ⟨⟨⟨by simp -dsimp -implicitDefEqProofs only [go_sem, hd], by simp -dsimp -implicitDefEqProofs only [go_sem, e0], by simp -dsimp -implicitDefEqProofs only [go_sem, e1], by simp -dsimp -implicitDefEqProofs only [go_sem, e5], by simp -dsimp -implicitDefEqProofs only [go_sem, e9]⟩, k + 1, by omega, rfl, by rw [hsn]; rfl, h2⟩, by omega⟩
    · rw [if_neg (fun h => q2 h.2)] at hsn
      simp -dsimp -implicitDefEqProofs (disch := omega) only [go_sem, reqD_of, dec_t, dec_f, wrap_i64, wrap_u32, wrap_u64, wrap_u8, hd, e0, e1, e5, e8, e9, e11, e12, e13, hlt, c1, c2, q1, q2]
      exact ⟨⟨⟨by simp -dsimp -implicitDefEqProofs only [go_sem, hd], by simp -dsimp -implicitDefEqProofs only [go_sem, e0], by simp -dsimp -implicitDefEqProofs only [go_sem, e1], by simp -dsimp -implicitDefEqProofs only [go_sem, e5], by simp -dsimp -implicitDefEqProofs only [go_sem, e9]⟩, k + 1, by omega, rfl, by rw [hsn]; rfl, h2⟩, by omega⟩
  · rw [if_neg (fun h => q1 h.1)] at hsn
    simp -dsimp -implicitDefEqProofs (disch := omega) only [go_sem, reqD_of, dec_t, dec_f, wrap_i64, wrap_u32, wrap_u64, wrap_u8, hd, e0, e1, e5, e8, e9, e11, e12, e13, hlt, c1, c2, q1]
    exact ⟨⟨⟨by simp -dsimp -implicitDefEqProofs only [go_sem, hd], by simp -dsimp -implicitDefEqProofs only [go_sem, e0], by simp -dsimp -implicitDefEqProofs only [go_sem, e1], by simp -dsimp -implicitDefEqProofs only [go_sem, e5], by simp -dsimp -implicitDefEqProofs only [go_sem, e9]⟩, k + 1, by omega, rfl, by rw [hsn]; rfl, h2⟩, by omega⟩

end
section
attribute [local go_sem] F5.t22_eq F5.t23_eq F5.t25_eq F5.t13_eq F5.t14_eq F5.t28_eq F5.t11_eq F5.t7_eq F5.t5_eq
theorem opens5_any {w0 w : World} {F : HP} {nd : Int} {v : Value} {ops : List HOp} (h : St w0 F w) (s : ScriptP F v ops) :
    Calls Try.prog 5 #[v, .int .u64 nd] w fun e w' => St w0 F w' ∧ e = .returned (.bool true) := by
  refine F5.calls (by simp) ?_
  unfold F5.code
  simp -dsimp -implicitDefEqProofs (disch := omega) only [go_sem, reqD_of, dec_t, dec_f, wrap_i64, wrap_u32, wrap_u64, wrap_u8]
  refine (made_any (n := 256) h (by decide)).mono ?_
  rintro e w2 ⟨B, h2, rfl⟩
  simp -dsimp -implicitDefEqProofs (disch := omega) only [go_sem, reqD_of, dec_t, dec_f, wrap_i64, wrap_u32, wrap_u64, wrap_u8]
  refine (beyond_any h2 (s.under (Ent.right _ _))).mono ?_
  rintro e w3 ⟨b, h3, rfl, hfar⟩
  cases b with
  | true =>
    simp -dsimp -implicitDefEqProofs (disch := omega) only [go_sem, reqD_of, dec_t, dec_f, wrap_i64, wrap_u32, wrap_u64, wrap_u8]
    exact h3.right
  | false =>
  have hfar := hfar rfl
  obtain ⟨aS, cs, rfl⟩ := s.form h
  simp -dsimp -implicitDefEqProofs (disch := omega) only [go_sem, reqD_of, dec_t, dec_f, wrap_i64, wrap_u32, wrap_u64, wrap_u8]
  refine (open_any (n := 9) (nd := nd) (md := 2) (rm := true) h3).mono ?_
  rintro e w4 ⟨h4, rfl⟩
  obtain ⟨l1, hl1⟩ : ∃ l1, l1 = openS 9 nd (and3 2) true [((9 : Int), fid9)] := ⟨_, rfl⟩
  rw [← hl1] at h4
  have hE : openE 9 [((9 : Int), fid9)] = 0 := rfl
  have hN : opensN nd l1 = 1 := by
    rw [hl1]
    unfold openS
    rw [if_pos hE]
    simp [aset, opensN, openF]
  have ht1 : Tab 256 l1 := by
    have := does_tab (tab9 (n := 256) (by decide)) ⟨7, 9, 0, zFid, nd, 0, 2, true⟩
    rw [hl1]
    simpa [doesS] using this
  simp -dsimp -implicitDefEqProofs (disch := omega) only [go_sem, reqD_of, dec_t, dec_f, wrap_i64, wrap_u32, wrap_u64, wrap_u8]
  refine (opens_any (nd := nd) h4 (by have := ht1.len; omega)).mono ?_
  rintro e w5 ⟨h5, rfl⟩
  simp -dsimp -implicitDefEqProofs (disch := omega) only [go_sem, reqD_of, dec_t, dec_f, wrap_i64, wrap_u32, wrap_u64, wrap_u8, hE, hN]
  refine loop_intro (fun e w' => ∃ (i : Nat) (l : TL), K5 e nd (.slice aS ops.length cs) B i ∧ i ≤ ops.length ∧ Tab 256 l ∧ St w0 (TabP B 256 l * F) w')
    (fun e _ => match e.ρ 9 with | .int _ n => (ops.length - n).toNat | _ => 0) ?_ ?_
  · exact ⟨0, l1, ⟨rfl, by simp -dsimp -implicitDefEqProofs only [go_sem], by simp -dsimp -implicitDefEqProofs only [go_sem], by simp -dsimp -implicitDefEqProofs only [go_sem], by simp -dsimp -implicitDefEqProofs only [go_sem]⟩, by omega, ht1, h5⟩
  rintro e w4 ⟨i, l, ⟨hd, e0, e1, e5, e9⟩, hi, ht, h4⟩
  have hfew := s.few
  by_cases hlt : (i : Int) < ops.length
  case neg =>
    simp -dsimp -implicitDefEqProofs (disch := omega) only [go_sem, reqD_of, dec_t, dec_f, wrap_i64, wrap_u32, wrap_u64, wrap_u8, hd, e0, e1, e5, e9, hlt]
    exact h4.right
  by_cases hle : (i : Int) < 300
  case neg =>
    simp -dsimp -implicitDefEqProofs (disch := omega) only [go_sem, reqD_of, dec_t, dec_f, wrap_i64, wrap_u32, wrap_u64, wrap_u8, hd, e0, e1, e5, e9, hlt, hle]
    exact h4.right
  have hil : i < ops.length := by omega
  obtain ⟨b, o, rfl, hrow⟩ := (s.under (Ent.right (TabP B 256 l) _)).at h4 hil
  obtain ⟨x, hx⟩ : ∃ x, x = ops[i] := ⟨_, rfl⟩
  have hmem : x ∈ ops := by rw [hx]; exact List.getElem_mem hil
  rw [← hx] at hrow
  obtain ⟨vo, op⟩ := x
  simp -dsimp -implicitDefEqProofs (disch := omega) only [go_sem, reqD_of, dec_t, dec_f, wrap_i64, wrap_u32, wrap_u64, wrap_u8, hd, e0, e1, e5, e9, hlt, hle, hrow]
  refine h4.new fun X w5 h5 => ?_
  simp -dsimp -implicitDefEqProofs (disch := omega) only [go_sem, reqD_of, dec_t, dec_f, wrap_i64, wrap_u32, wrap_u64, wrap_u8]
  refine h5.stoAll (b := X) (cs := opC (vo, op)) rfl rfl (opC_cells (s.el _ hmem).1.1) fun w6 h6 => ?_
  have c6 := h6.cl X
  simp only [opC, fdC, List.cons_append, List.nil_append, List.drop_succ_cons, List.drop_zero, List.take_succ_cons, List.take_zero] at c6
  have sk : ∀ (w6 : World), True := fun _ => trivial
  by_cases q1 : op.kind = 7 ∧ op.yes = true
  · obtain ⟨q1, q2⟩ := q1
    simp -dsimp -implicitDefEqProofs (disch := omega) only [go_sem, reqD_of, dec_t, dec_f, wrap_i64, wrap_u32, wrap_u64, wrap_u8, hd, e0, e1, e5, e9, hlt, hle, c6, q1, q2]
    refine h6.sto (b := X) (off := 17) (by simp [opC, fdC]) rfl fun w7 h7 => ?_
    have h8 : St w0 (Blk X (opB (vo, { op with nd := nd })) * (TabP B 256 l * F)) w7 := h7
    simp -dsimp -implicitDefEqProofs (disch := omega) only [go_sem, reqD_of, dec_t, dec_f, wrap_i64, wrap_u32, wrap_u64, wrap_u8]
    refine opens_17 (B := B) (X := X) (nd := nd) (i := i) (v0 := .slice (some ⟨b, o, none⟩) ops.length cs) (op := { op with nd := nd }) ht (hfar _ hmem) (s.el _ hmem).2 ⟨by simp -dsimp -implicitDefEqProofs only [go_sem, hd], by simp -dsimp -implicitDefEqProofs only [go_sem, e0], by simp -dsimp -implicitDefEqProofs only [go_sem, e1], by simp -dsimp -implicitDefEqProofs only [go_sem, e5], by simp -dsimp -implicitDefEqProofs only [go_sem, e9]⟩ (by simp -dsimp -implicitDefEqProofs only [go_sem]) h8 ?_
    rintro e' w' l' ⟨hd, e0, e1, e5, e9'⟩ ht' h'
    simp -dsimp -implicitDefEqProofs (disch := omega) only [go_sem, reqD_of, dec_t, dec_f, wrap_i64, wrap_u32, wrap_u64, wrap_u8, hd, e0, e1, e5, e9, e9']
    exact ⟨⟨i + 1, l', ⟨by simp -dsimp -implicitDefEqProofs only [go_sem, hd], by simp -dsimp -implicitDefEqProofs only [go_sem, e0], by simp -dsimp -implicitDefEqProofs only [go_sem, e1], by simp -dsimp -implicitDefEqProofs only [go_sem, e5], by (simp -dsimp -implicitDefEqProofs only [go_sem, e9']); first | rfl | done⟩, by omega, ht', h'⟩, by omega⟩
  · have go : ∀ (c : Bool), c = (decide (op.kind = 7) && op.yes) → c = false := by
      rintro c rfl
      by_cases k : op.kind = 7
      · cases hy : op.yes with
        | true => exact absurd ⟨k, hy⟩ q1
        | false => simp
      · simp [k]
    have q2 := go _ rfl
    by_cases k : op.kind = 7
    · have hy : op.yes = false := by simpa [k] using q2
      simp -dsimp -implicitDefEqProofs (disch := omega) only [go_sem, reqD_of, dec_t, dec_f, wrap_i64, wrap_u32, wrap_u64, wrap_u8, hd, e0, e1, e5, e9, hlt, hle, c6, k, hy]
      refine opens_17 (B := B) (X := X) (nd := nd) (i := i) (v0 := .slice (some ⟨b, o, none⟩) ops.length cs) (op := op) ht (hfar _ hmem) (s.el _ hmem).2 ⟨by simp -dsimp -implicitDefEqProofs only [go_sem, hd], by simp -dsimp -implicitDefEqProofs only [go_sem, e0], by simp -dsimp -implicitDefEqProofs only [go_sem, e1], by simp -dsimp -implicitDefEqProofs only [go_sem, e5], by simp -dsimp -implicitDefEqProofs only [go_sem, e9]⟩ (by simp -dsimp -implicitDefEqProofs only [go_sem]) h6 ?_
      rintro e' w' l' ⟨hd, e0, e1, e5, e9'⟩ ht' h'
      simp -dsimp -implicitDefEqProofs (disch := omega) only [go_sem, reqD_of, dec_t, dec_f, wrap_i64, wrap_u32, wrap_u64, wrap_u8, hd, e0, e1, e5, e9, e9']
      exact ⟨⟨i + 1, l', ⟨by simp -dsimp -implicitDefEqProofs only [go_sem, hd], by simp -dsimp -implicitDefEqProofs only [go_sem, e0], by simp -dsimp -implicitDefEqProofs only [go_sem, e1], by simp -dsimp -implicitDefEqProofs only [go_sem, e5], by (simp -dsimp -implicitDefEqProofs only [go_sem, e9']); first | rfl | done⟩, by omega, ht', h'⟩, by omega⟩
    · simp -dsimp -implicitDefEqProofs (disch := omega) only [go_sem, reqD_of, dec_t, dec_f, wrap_i64, wrap_u32, wrap_u64, wrap_u8, hd, e0, e1, e5, e9, hlt, hle, c6, k]
      refine opens_17 (B := B) (X := X) (nd := nd) (i := i) (v0 := .slice (some ⟨b, o, none⟩) ops.length cs) (op := op) ht (hfar _ hmem) (s.el _ hmem).2 ⟨by simp -dsimp -implicitDefEqProofs only [go_sem, hd], by simp -dsimp -implicitDefEqProofs only [go_sem, e0], by simp -dsimp -implicitDefEqProofs only [go_sem, e1], by simp -dsimp -implicitDefEqProofs only [go_sem, e5], by simp -dsimp -implicitDefEqProofs only [go_sem, e9]⟩ (by simp -dsimp -implicitDefEqProofs only [go_sem]) h6 ?_
      rintro e' w' l' ⟨hd, e0, e1, e5, e9'⟩ ht' h'
      simp -dsimp -implicitDefEqProofs (disch := omega) only [go_sem, reqD_of, dec_t, dec_f, wrap_i64, wrap_u32, wrap_u64, wrap_u8, hd, e0, e1, e5, e9, e9']
      exact ⟨⟨i + 1, l', ⟨by simp -dsimp -implicitDefEqProofs only [go_sem, hd], by simp -dsimp -implicitDefEqProofs only [go_sem, e0], by simp -dsimp -implicitDefEqProofs only [go_sem, e1], by simp -dsimp -implicitDefEqProofs only [go_sem, e5], by (simp -dsimp -implicitDefEqProofs only [go_sem, e9']); first | rfl | done⟩, by omega, ht', h'⟩, by omega⟩

end
end Go.Proofs.Ytljndiligbaljaa
