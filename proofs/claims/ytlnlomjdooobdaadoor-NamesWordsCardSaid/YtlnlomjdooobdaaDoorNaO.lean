/- names.Match, as a whole. -/
import Derived.Test.YtlnlomjdooobdaaDoorNaN
import Derived.Test.YtlnlomjdooobdaaDoorAx
namespace Go.Proofs.YtlnlomjdooobdaaDoor
open Go
set_option linter.unusedVariables false
set_option linter.unusedSimpArgs false
set_option maxRecDepth 100000

def stepL (ps : List Pc) (was : List Bool) (c : Nat) : List Pc → Nat → List Bool → List Bool
  | [], _, acc => acc
  | p :: l, i, acc => stepL ps was c l (i + 1) (if was.getD i false then (if p.1 then beg ps acc i else if takesF p c then beg ps acc (i + 1) else acc) else acc)
def stepM (ps : List Pc) (was : List Bool) (c : Nat) : List Bool := stepL ps was c ps 0 (List.replicate (ps.length + 1) false)
def runM (ps : List Pc) : List Bool → List Nat → List Bool
  | was, [] => was
  | was, c :: cs => runM ps (stepM ps was c) cs
def matchB (ps : List Pc) (cs : List Nat) : Bool := (runM ps (beg ps (List.replicate (ps.length + 1) false) 0) cs).getD ps.length false
theorem stepL_length (ps : List Pc) (was : List Bool) (c : Nat) : ∀ (l : List Pc) (i : Nat) (acc : List Bool), (stepL ps was c l i acc).length = acc.length
  | [], _, _ => rfl
  | p :: l, i, acc => by
    unfold stepL
    rw [stepL_length ps was c l]
    split
    · split
      · exact beg_length _ _ _
      · split
        · exact beg_length _ _ _
        · rfl
    · rfl
theorem stepM_length (ps : List Pc) (was : List Bool) (c : Nat) : (stepM ps was c).length = ps.length + 1 := by rw [stepM, stepL_length, List.length_replicate]

theorem SpP_mem : ∀ (l : List (Pc × Value)) (B : HP), (∀ x ∈ l, Ent (l.foldl (fun A x => SpR x * A) B) (SpR x)) ∧ Ent (l.foldl (fun A x => SpR x * A) B) B
  | [], B => ⟨fun x hx => absurd hx (by simp), Ent.rfl' _⟩
  | y :: l, B => by
    obtain ⟨h1, h2⟩ := SpP_mem l (SpR y * B)
    refine ⟨fun x hx => ?_, h2.trans (Ent.right _ _)⟩
    rcases List.mem_cons.1 hx with rfl | hx
    · exact h2.trans (Ent.left _ _)
    · exact h1 x hx
theorem SpP_get {l : List (Pc × Value)} {x : Pc × Value} (h : x ∈ l) : Ent (SpP l) (SpR x) := (SpP_mem l EmpH).1 x h

theorem pcF_len : ∀ (n : Nat) (acc r : List Pc) (l : List Nat), pcF n acc l = some r → r.length ≤ acc.length + l.length
  | 0, acc, r, l, h => by cases h; omega
  | n + 1, acc, r, [], h => by cases h; omega
  | n + 1, acc, r, c :: l, h => by
    unfold pcF at h
    split at h
    · have := pcF_len n _ _ _ h; simp at this ⊢; omega
    split at h
    · have := pcF_len n _ _ _ h; simp at this ⊢; omega
    split at h
    · split at h
      · cases h
      · rename_i tn ss l' hc
        have h1 := classL_len hc
        have := pcF_len n _ _ _ h; simp at this ⊢; omega
    split at h
    · split at h
      · cases h
      · have := pcF_len n _ _ _ h; simp at this ⊢; omega
    · have := pcF_len n _ _ _ h; simp at this ⊢; omega
theorem piecesF_len {l : List UInt8} {ps : List Pc} (h : piecesF l = some ps) : ps.length ≤ 255 := by
  unfold piecesF at h
  split at h
  · cases h
  · rename_i hx
    have h1 := pcF_len _ _ _ _ h
    have h2 := runes_length l
    simp at h1
    omega

theorem ok31 : fnOk Tryd.prog 31 = true := by kernel_rfl

/-- What Match tells. -/
def matF (pat name : List UInt8) : Option Bool := (piecesF pat).map fun ps => good name && matchB ps (runes name)

abbrev begV (P8 P6 : Nat) : Value := .func (.func 31) #[] #[.pointer (some ⟨P8, 0, none⟩), .pointer (some ⟨P6, 0, none⟩)]
abbrev MtP (P8 P6 : Nat) (va vl : Value) (ats : List Bool) (ps : List (Pc × Value)) (A : HP) : HP :=
  Blk P8 (.cells #[va] 59 (0, 0)) * (RowO 4 1 va ats.length (ats.map vb) * (Blk P6 (.cells #[vl] 56 (0, 0)) * (PcsP vl ps * A)))

section
attribute [local go_sem] F15.t21_eq F15.t16_eq F15.t11_eq F15.t4_eq
theorem match_any {w0 w : World} {A : HP} (h : St w0 A w) [Gives A Tabs] {pat name : List UInt8} (hp : pat.length ≤ 4294967296) (hn : name.length ≤ 4294967296) :
    Calls Tryd.prog 15 #[.string (strOf pat), .string (strOf name)] w fun e w' => St w0 A w' ∧
      ((∃ b, matF pat name = some b ∧ e = .returned (.tuple #[.bool b, .int .i64 0])) ∨ (matF pat name = none ∧ e = .returned (.tuple #[.bool false, .int .i64 52]))) := by
  refine F15.calls (by simp) ?_
  unfold F15.code
  simp -dsimp -implicitDefEqProofs (disch := omega) only [go_sem, reqD_of, dec_t, dec_f, wrap_i64, wrap_u32, wrap_u64, wrap_u8]
  refine (pieces_any h hp).mono ?_
  rintro e w1 (⟨ps, vl, hps, h1, rfl⟩ | ⟨hps, h1, rfl⟩)
  case inr =>
    have hm : matF pat name = none := by rw [matF, hps]; rfl
    simp -dsimp -implicitDefEqProofs (disch := omega) only [go_sem, reqD_of, dec_t, dec_f, wrap_i64, wrap_u32, wrap_u64, wrap_u8]
    refine h1.new fun P6 w2 h2 => ?_
    simp -dsimp -implicitDefEqProofs (disch := omega) only [go_sem, reqD_of, dec_t, dec_f, wrap_i64, wrap_u32, wrap_u64, wrap_u8]
    refine h2.sto (b := P6) (off := 0) (by simp) rfl fun w3 h3 => ?_
    simp -dsimp -implicitDefEqProofs (disch := omega) only [go_sem, reqD_of, dec_t, dec_f, wrap_i64, wrap_u32, wrap_u64, wrap_u8, hm]
    exact h3.right
  have hlen := piecesF_len hps
  rw [List.length_map] at hlen
  obtain ⟨al, cl, rfl, _⟩ := h1.rowForm vl
  simp -dsimp -implicitDefEqProofs (disch := omega) only [go_sem, reqD_of, dec_t, dec_f, wrap_i64, wrap_u32, wrap_u64, wrap_u8]
  refine h1.new fun P6 w2 h2 => ?_
  simp -dsimp -implicitDefEqProofs (disch := omega) only [go_sem, reqD_of, dec_t, dec_f, wrap_i64, wrap_u32, wrap_u64, wrap_u8]
  refine h2.sto (b := P6) (off := 0) (by simp) rfl fun w3 h3 => ?_
  simp only [List.setIfInBounds_toArray, List.set_cons_zero] at h3
  simp -dsimp -implicitDefEqProofs (disch := omega) only [go_sem, reqD_of, dec_t, dec_f, wrap_i64, wrap_u32, wrap_u64, wrap_u8]
  refine (good_any h3 (by omega)).mono ?_
  rintro e w4 ⟨h4, rfl⟩
  cases hg : good name with
  | false =>
    have hm : matF pat name = some false := by rw [matF, hps]; simp [hg]
    simp -dsimp -implicitDefEqProofs (disch := omega) only [go_sem, reqD_of, dec_t, dec_f, wrap_i64, wrap_u32, wrap_u64, wrap_u8, hm]
    exact ⟨h4.right.right, _, rfl, rfl⟩
  | true =>
  have hm : matF pat name = some (matchB (ps.map Prod.fst) (runes name)) := by rw [matF, hps]; simp [hg]
  rw [hm]
  have c6 := h4.cl P6
  have hlc : ((ps.length : Int) + 1) = ((ps.length + 1 : Nat) : Int) := by omega
  simp -dsimp -implicitDefEqProofs (disch := omega) only [go_sem, reqD_of, dec_t, dec_f, wrap_i64, wrap_u32, wrap_u64, wrap_u8, F15.t6_eq, c6, hlc]
  refine h4.make1 (e := 4) (z := .bool false) (n := ps.length + 1) (c := ps.length + 1) fact_rowTy_59 (Nat.le_refl _) (by omega) (by omega) fun g5 w5 h5 => ?_
  simp -dsimp -implicitDefEqProofs (disch := omega) only [go_sem, reqD_of, dec_t, dec_f, wrap_i64, wrap_u32, wrap_u64, wrap_u8]
  refine h5.new fun P8 w6 h6 => ?_
  simp -dsimp -implicitDefEqProofs (disch := omega) only [go_sem, reqD_of, dec_t, dec_f, wrap_i64, wrap_u32, wrap_u64, wrap_u8]
  refine h6.sto (b := P8) (off := 0) (by simp) rfl fun w7 h7 => ?_
  simp only [List.setIfInBounds_toArray, List.set_cons_zero] at h7
  simp -dsimp -implicitDefEqProofs (disch := omega) only [go_sem, reqD_of, dec_t, dec_f, wrap_i64, wrap_u32, wrap_u64, wrap_u8, callY_clos, ok31, List.append_toArray, List.nil_append, List.cons_append]
  have hrep : List.replicate (ps.length + 1) (Value.bool false) = (List.replicate (ps.length + 1) false).map vb := by simp
  rw [hrep] at h7
  have hrl : (List.replicate (ps.length + 1) false).length = ps.length + 1 := by simp
  obtain ⟨st, hst⟩ : ∃ st, st = List.replicate (ps.length + 1) false := ⟨_, rfl⟩
  rw [← hst] at h7 hrl
  have rdP : ∀ B : HP, Ent (PcsP (.slice al ps.length cl) ps * B) (Reads 3 (.slice al ps.length cl) ps.length (ps.flatMap pcV)) := fun B => (Ent.left _ _).trans ((Ent.left _ _).trans (RowO.reads _ _ _ _ _))
  have h8 : St w0 (Blk P8 (.cells #[.slice (some ⟨g5, 0, none⟩) st.length (ps.length + 1)] 59 (0, 0)) * (RowO 4 1 (.slice (some ⟨g5, 0, none⟩) st.length (ps.length + 1)) st.length (st.map vb) * (Blk P6 (.cells #[.slice al ps.length cl] 56 (0, 0)) * (PcsP (.slice al ps.length cl) ps * A)))) w7 := by
    rw [hrl]; exact h7
  refine (begin_any (i := 0) (by omega) hrl (by omega) h8 (rdP A)).mono ?_
  rintro e w8 ⟨rfl, h9⟩
  have hbl := beg_length (ps.map Prod.fst) st 0
  simp -dsimp -implicitDefEqProofs (disch := omega) only [go_sem, reqD_of, dec_t, dec_f, wrap_i64, wrap_u32, wrap_u64, wrap_u8]
  refine h9.rangeS (by kernel_rfl) fun I w9 h10 => ?_
  simp -dsimp -implicitDefEqProofs (disch := omega) only [go_sem, reqD_of, dec_t, dec_f, wrap_i64, wrap_u32, wrap_u64, wrap_u8]
  have hqs : (ps.map Prod.fst).length = ps.length := by simp
  obtain ⟨qs, hq⟩ : ∃ qs, qs = ps.map Prod.fst := ⟨_, rfl⟩
  rw [← hq] at h10 hbl hqs
  have hmb : matchB qs (runes name) = (runM qs (beg qs st 0) (runes name)).getD ps.length false := by rw [matchB, hqs, hst]
  rw [← hq, hmb]
  refine loop_intro (fun e w' => e.ds = [] ∧ e.ρ 1 = .string (strOf name) ∧ e.ρ 6 = .pointer (some ⟨P6, 0, none⟩) ∧ e.ρ 8 = .pointer (some ⟨P8, 0, none⟩) ∧ e.ρ 9 = begV P8 P6 ∧ e.ρ 33 = .pointer (some ⟨I, 0, none⟩) ∧
      ∃ (pos : Nat) (ats : List Bool) (va : Value), pos ≤ name.length ∧ ats.length = ps.length + 1 ∧ runM qs (beg qs st 0) (runes name) = runM qs ats (runes (name.drop pos)) ∧
        St w0 (Blk I (.stringIter (strOf name) pos) * MtP P8 P6 va (.slice al ps.length cl) ats ps A) w')
    (fun e w' => match w'.heap[I]? with | some (.stringIter _ p) => name.length - p | _ => 0) ?_ ?_
  · refine ⟨rfl, by simp -dsimp -implicitDefEqProofs only [go_sem], by simp -dsimp -implicitDefEqProofs only [go_sem], by simp -dsimp -implicitDefEqProofs only [go_sem], by simp -dsimp -implicitDefEqProofs only [go_sem], by simp -dsimp -implicitDefEqProofs only [go_sem], 0, beg qs st 0, .slice (some ⟨g5, 0, none⟩) st.length (ps.length + 1), by omega, by rw [hbl, hrl], by simp, h10⟩
  clear h h1 h2 h3 h4 h5 h6 h7 h8 h9 h10 c6
  rintro e w2 ⟨hd, e1, e6, e8, e9, e33, pos, ats, va, hpos, hal, hrun, h2⟩
  obtain ⟨ga, ca, rfl, _⟩ := h2.rowForm va
  simp -dsimp -implicitDefEqProofs (disch := omega) only [go_sem, reqD_of, dec_t, dec_f, wrap_i64, wrap_u32, wrap_u64, wrap_u8, hd, e1, e6, e8, e9, e33]
  refine h2.nextS (fun hnn => ?_) fun hm w3 h3 => ?_
  · have hdn : name.drop pos = [] := List.drop_of_length_le (by omega)
    rw [hdn, runes_nil, runM] at hrun
    have c8 := h2.cl P8
    have c6 := h2.cl P6
    have hlt : (ps.length : Int) < (ats.length : Int) := by omega
    obtain ⟨b, o, rfl, ca'⟩ := h2.atS (a := ga) (n := ats.length) (c := ca) (xs := ats.map vb) (k := ps.length) (by simp; omega)
    simp only [List.getElem_map] at ca'
    simp -dsimp -implicitDefEqProofs (disch := omega) only [go_sem, reqD_of, dec_t, dec_f, wrap_i64, wrap_u32, wrap_u64, wrap_u8, hd, e1, e6, e8, e9, e33, F15.t22_eq, c8, c6, hlt, ca']
    refine ⟨h2.right.right.right.right.right, _, rfl, ?_⟩
    rw [hrun]
    simp [hal]
  have hne : name.drop pos ≠ [] := fun e => by have := congrArg List.length e; simp at this; omega
  have hw := decL_width _ hne
  have hdl : (name.drop pos).length = name.length - pos := by simp
  rw [runes_cons hne, List.drop_drop, runM] at hrun
  have m2 := h2.blk
  obtain ⟨c, hc⟩ : ∃ c, c = (decL (name.drop pos)).1 := ⟨_, rfl⟩
  obtain ⟨pos', hpos'⟩ : ∃ p, p = pos + (decL (name.drop pos)).2 := ⟨_, rfl⟩
  rw [← hc, ← hpos'] at hrun
  rw [← hc]
  rw [← hpos'] at h3
  have hpl : pos' ≤ name.length ∧ pos < pos' := by omega
  have c8 := h3.cl P8
  have c6 := h3.cl P6
  simp -dsimp -implicitDefEqProofs (disch := omega) only [go_sem, reqD_of, dec_t, dec_f, wrap_i64, wrap_u32, wrap_u64, wrap_u8, hd, e1, e6, e8, e9, e33, c8, c6, hlc]
  refine h3.make1 (e := 4) (z := .bool false) (n := ps.length + 1) (c := ps.length + 1) fact_rowTy_59 (Nat.le_refl _) (by omega) (by omega) fun g4 w4 h4 => ?_
  simp -dsimp -implicitDefEqProofs (disch := omega) only [go_sem, reqD_of, dec_t, dec_f, wrap_i64, wrap_u32, wrap_u64, wrap_u8, hd, e1, e6, e8, e9, e33]
  refine h4.sto (b := P8) (off := 0) (by simp) rfl fun w5 h5 => ?_
  simp only [List.setIfInBounds_toArray, List.set_cons_zero] at h5
  have c6 := h5.cl P6
  rw [hrep, ← hst] at h5
  simp -dsimp -implicitDefEqProofs (disch := omega) only [go_sem, reqD_of, dec_t, dec_f, wrap_i64, wrap_u32, wrap_u64, wrap_u8, hd, e1, e6, e8, e9, e33, c6]
  have h6 : St w0 (MtP P8 P6 (.slice (some ⟨g4, 0, none⟩) (ps.length + 1) (ps.length + 1)) (.slice al ps.length cl) st ps (RowO 4 1 (.slice ga ats.length ca) ats.length (ats.map vb) * (Blk I (.stringIter (strOf name) pos') * A))) w5 := by
    show St w0 (Blk P8 _ * (RowO 4 1 (.slice (some ⟨g4, 0, none⟩) (ps.length + 1) (ps.length + 1)) st.length (st.map vb) * (Blk P6 _ * (PcsP _ ps * (_ * (_ * A)))))) w5
    rw [hrl]
    exact h5.ac (by ac_rfl)
  refine loop_intro (fun e w' => e.ds = [] ∧ e.ρ 1 = .string (strOf name) ∧ e.ρ 6 = .pointer (some ⟨P6, 0, none⟩) ∧ e.ρ 8 = .pointer (some ⟨P8, 0, none⟩) ∧ e.ρ 9 = begV P8 P6 ∧ e.ρ 33 = .pointer (some ⟨I, 0, none⟩) ∧
      e.ρ 11 = rv c ∧ e.ρ 12 = .slice ga ats.length ca ∧ e.ρ 42 = .slice al ps.length cl ∧ e.ρ 43 = .int .i64 ps.length ∧
      ∃ (i : Nat) (acc : List Bool), i ≤ ps.length ∧ e.ρ 44 = .int .i64 i ∧ acc.length = ps.length + 1 ∧ stepM qs ats c = stepL qs ats c (qs.drop i) i acc ∧
        St w0 (MtP P8 P6 (.slice (some ⟨g4, 0, none⟩) (ps.length + 1) (ps.length + 1)) (.slice al ps.length cl) acc ps (RowO 4 1 (.slice ga ats.length ca) ats.length (ats.map vb) * (Blk I (.stringIter (strOf name) pos') * A))) w')
    (fun e _ => match e.ρ 44 with | .int _ n => (ps.length - n).toNat | _ => 0) ?_ ?_
  · exact ⟨by simp -dsimp -implicitDefEqProofs only [go_sem, hd], by simp -dsimp -implicitDefEqProofs only [go_sem, e1], by simp -dsimp -implicitDefEqProofs only [go_sem, e6], by simp -dsimp -implicitDefEqProofs only [go_sem, e8], by simp -dsimp -implicitDefEqProofs only [go_sem, e9], by simp -dsimp -implicitDefEqProofs only [go_sem, e33], by simp -dsimp -implicitDefEqProofs only [go_sem], by simp -dsimp -implicitDefEqProofs only [go_sem], by simp -dsimp -implicitDefEqProofs only [go_sem], by simp -dsimp -implicitDefEqProofs only [go_sem], 0, st, by omega, by simp -dsimp -implicitDefEqProofs only [go_sem], hrl, by rw [stepM, hqs, hst]; rfl, h6⟩
  clear h3 h4 h5 h6 c8 c6
  rintro e' w6 ⟨kd, k1, k6, k8, k9, k33, k11, k12, k42, k43, i, acc, hi, k44, hacc, hstep, h6⟩
  by_cases hlt : (i : Int) < (ps.length : Int)
  case neg =>
    have hdn : qs.drop i = [] := List.drop_of_length_le (by omega)
    rw [hdn, stepL] at hstep
    have h7 : St w0 (Blk I (.stringIter (strOf name) pos') * (MtP P8 P6 (.slice (some ⟨g4, 0, none⟩) (ps.length + 1) (ps.length + 1)) (.slice al ps.length cl) acc ps A * RowO 4 1 (.slice ga ats.length ca) ats.length (ats.map vb))) w6 := h6.ac (by simp only [MtP]; ac_rfl)
    have m7 := h7.blk
    simp -dsimp -implicitDefEqProofs (disch := omega) only [go_sem, reqD_of, dec_t, dec_f, wrap_i64, wrap_u32, wrap_u64, wrap_u8, kd, k1, k6, k8, k9, k33, k11, k12, k42, k43, k44, hlt, m2, m7]
    exact ⟨⟨pos', acc, .slice (some ⟨g4, 0, none⟩) (ps.length + 1) (ps.length + 1), hpl.1, hacc, by rw [hrun, hstep], h7.ent (Ent.sep (Ent.rfl' _) (Ent.left _ _))⟩, by omega⟩
  have hil : i < ps.length := by omega
  have hiq : i < qs.length := by omega
  have hdr : qs.drop i = qs[i] :: qs.drop (i + 1) := List.drop_eq_getElem_cons hiq
  have hqi : qs[i] = ps[i].1 := by simp [hq]
  rw [hdr, stepL, hqi] at hstep
  have hgd : ats.getD i false = ats[i]'(by omega) := by simp [show i < ats.length by omega]
  rw [hgd] at hstep
  obtain ⟨_, a', c', hv', _, hrow⟩ := St.rowsAt (enc := pcV) (k := 3) (l := ps) (fun _ => rfl) (by decide) (h6.ent ((Ent.right _ _).trans ((Ent.right _ _).trans ((Ent.right _ _).trans (rdP _)))))
  simp only [Value.slice.injEq, true_and] at hv'
  obtain ⟨rfl, rfl⟩ := hv'
  obtain ⟨bl, ol, rfl, hrw, _⟩ := hrow i hil
  obtain ⟨⟨⟨row, tn, ss⟩, u⟩, hx⟩ : ∃ x, x = ps[i] := ⟨_, rfl⟩
  have hmem : ((row, tn, ss), u) ∈ ps := by rw [hx]; exact List.getElem_mem hil
  rw [← hx] at hrw hstep
  have hrw : rowV w6 ⟨bl, ol + i * 3, none⟩ 3 = some (.agg #[.bool row, .bool tn, u]) := hrw
  simp only at hstep
  obtain ⟨bw, ow, rfl, hcw⟩ := h6.atS (a := ga) (n := ats.length) (c := ca) (xs := ats.map vb) (k := i) (by simp; omega)
  simp only [List.getElem_map] at hcw
  have hal' : (i : Int) < (ats.length : Int) := by omega
  have spr : ∀ B : HP, Ent (PcsP (.slice (some ⟨bl, ol, none⟩) ps.length cl) ps * B) (Reads 2 u ss.length (ss.flatMap spV)) := fun B => (Ent.left _ _).trans ((Ent.right _ _).trans ((SpP_get hmem).trans (RowO.reads _ _ _ _ _)))
  have hsl : ss.length ≤ 9223372036854775807 := by
    obtain ⟨x, lx, hr⟩ := (h6.ent ((Ent.right _ _).trans ((Ent.right _ _).trans ((Ent.right _ _).trans ((Ent.left _ _).trans ((Ent.right _ _).trans (SpP_get hmem))))))).sat
    rcases hr with ⟨_, h0, _⟩ | ⟨g, o, cap, cur, _, _, hn1, hn2, _⟩
    · have h0 : ss.length = 0 := h0
      omega
    · have hn1 : ss.length ≤ cap := hn1
      have : cap ≤ 9223372036854775807 := hn2
      omega
  have huc : isCell u = true := by
    obtain ⟨x, lx, _, a, c, hv, _⟩ := (h6.ent ((Ent.right _ _).trans ((Ent.right _ _).trans ((Ent.right _ _).trans (spr _))))).sat
    rw [hv]
    rfl
  simp -dsimp -implicitDefEqProofs (disch := omega) only [go_sem, reqD_of, dec_t, dec_f, wrap_i64, wrap_u32, wrap_u64, wrap_u8, kd, k1, k6, k8, k9, k33, k11, k12, k42, k43, k44, hlt, hrw]
  refine h6.new fun P14 w7 h7 => ?_
  simp -dsimp -implicitDefEqProofs (disch := omega) only [go_sem, reqD_of, dec_t, dec_f, wrap_i64, wrap_u32, wrap_u64, wrap_u8, kd, k1, k6, k8, k9, k33, k11, k12, k42, k43, k44]
  refine h7.stoAll (b := P14) (n := 3) (cs := [.bool row, .bool tn, u]) rfl rfl (fun v hv => by simp at hv; rcases hv with rfl | rfl | rfl; rfl; rfl; exact huc) fun w8 h8 => ?_
  have r14 := h8.rowH P14 3 rfl
  have c14 := h8.cl P14
  obtain ⟨bw', ow', hbw, hcw⟩ := h8.atS (a := some ⟨bw, ow, none⟩) (n := ats.length) (c := ca) (xs := ats.map vb) (k := i) (by simp; omega)
  simp only [Option.some.injEq, Addr.mk.injEq, and_true] at hbw
  obtain ⟨rfl, rfl⟩ := hbw
  simp only [List.getElem_map] at hcw
  have next : ∀ (acc' : List Bool) (e9 : FA) (w9 : World), True := fun _ _ _ => trivial
  have h9 : St w0 (MtP P8 P6 (.slice (some ⟨g4, 0, none⟩) (ps.length + 1) (ps.length + 1)) (.slice (some ⟨bl, ol, none⟩) ps.length cl) acc ps (Blk P14 (.cells #[.bool row, .bool tn, u] 62 (0, 0)) * (RowO 4 1 (.slice (some ⟨bw, ow, none⟩) ats.length ca) ats.length (ats.map vb) * (Blk I (.stringIter (strOf name) pos') * A)))) w8 := h8.ac (by simp only [MtP]; ac_rfl)
  cases hwi : ats[i]'(by omega) with
  | false =>
    rw [hwi] at hcw hstep
    simp -dsimp -implicitDefEqProofs (disch := omega) only [go_sem, reqD_of, dec_t, dec_f, wrap_i64, wrap_u32, wrap_u64, wrap_u8, kd, k1, k6, k8, k9, k33, k11, k12, k42, k43, k44, hcw, hal', c14]
    exact ⟨⟨i + 1, acc, by omega, by omega, hacc, hstep, h8.right⟩, by omega⟩
  | true =>
  rw [hwi] at hcw hstep
  simp only [if_true] at hstep
  have drop14 : ∀ (l : List Bool) (w9 : World), St w0 (MtP P8 P6 (.slice (some ⟨g4, 0, none⟩) (ps.length + 1) (ps.length + 1)) (.slice (some ⟨bl, ol, none⟩) ps.length cl) l ps (Blk P14 (.cells #[.bool row, .bool tn, u] 62 (0, 0)) * (RowO 4 1 (.slice (some ⟨bw, ow, none⟩) ats.length ca) ats.length (ats.map vb) * (Blk I (.stringIter (strOf name) pos') * A)))) w9 →
      St w0 (MtP P8 P6 (.slice (some ⟨g4, 0, none⟩) (ps.length + 1) (ps.length + 1)) (.slice (some ⟨bl, ol, none⟩) ps.length cl) l ps (RowO 4 1 (.slice (some ⟨bw, ow, none⟩) ats.length ca) ats.length (ats.map vb) * (Blk I (.stringIter (strOf name) pos') * A))) w9 := fun l w9 h => h.ent (Ent.sep (Ent.rfl' _) (Ent.sep (Ent.rfl' _) (Ent.sep (Ent.rfl' _) (Ent.sep (Ent.rfl' _) (Ent.right _ _)))))
  cases hrow : row with
  | true =>
    rw [hrow] at hstep c14
    simp only [if_true] at hstep
    simp -dsimp -implicitDefEqProofs (disch := omega) only [go_sem, reqD_of, dec_t, dec_f, wrap_i64, wrap_u32, wrap_u64, wrap_u8, kd, k1, k6, k8, k9, k33, k11, k12, k42, k43, k44, hcw, hal', c14, callY_clos, ok31, List.append_toArray, List.nil_append, List.cons_append]
    refine (begin_any (i := i) (by omega) hacc (by omega) h9 (rdP _)).mono ?_
    rintro e'' w9 ⟨rfl, h10⟩
    have hbl' := beg_length qs acc i
    rw [← hq] at h10
    simp -dsimp -implicitDefEqProofs (disch := omega) only [go_sem, reqD_of, dec_t, dec_f, wrap_i64, wrap_u32, wrap_u64, wrap_u8, kd, k1, k6, k8, k9, k33, k11, k12, k42, k43, k44]
    exact ⟨⟨i + 1, beg qs acc i, by omega, by omega, by rw [hbl', hacc], hstep, drop14 _ _ h10⟩, by omega⟩
  | false =>
    rw [hrow] at hstep c14 r14
    simp only [Bool.false_eq_true, if_false] at hstep
    simp -dsimp -implicitDefEqProofs (disch := omega) only [go_sem, reqD_of, dec_t, dec_f, wrap_i64, wrap_u32, wrap_u64, wrap_u8, kd, k1, k6, k8, k9, k33, k11, k12, k42, k43, k44, hcw, hal', c14, r14]
    refine (takes_any (p := (false, tn, ss)) (u := u) (c := c) h9 ((Ent.right _ _).trans ((Ent.right _ _).trans ((Ent.right _ _).trans (spr _)))) hsl).mono ?_
    rintro e'' w9 ⟨h10, rfl⟩
    have htk : takesF (row, tn, ss) c = takesF (false, tn, ss) c := rfl
    rw [hrow] at htk
    cases htt : takesF (false, tn, ss) c with
    | false =>
      rw [htt] at hstep
      simp only [Bool.false_eq_true, if_false] at hstep
      simp -dsimp -implicitDefEqProofs (disch := omega) only [go_sem, reqD_of, dec_t, dec_f, wrap_i64, wrap_u32, wrap_u64, wrap_u8, kd, k1, k6, k8, k9, k33, k11, k12, k42, k43, k44]
      exact ⟨⟨i + 1, acc, by omega, by omega, hacc, hstep, drop14 _ _ h10⟩, by omega⟩
    | true =>
      rw [htt] at hstep
      simp only [if_true] at hstep
      simp -dsimp -implicitDefEqProofs (disch := omega) only [go_sem, reqD_of, dec_t, dec_f, wrap_i64, wrap_u32, wrap_u64, wrap_u8, kd, k1, k6, k8, k9, k33, k11, k12, k42, k43, k44, callY_clos, ok31, List.append_toArray, List.nil_append, List.cons_append]
      refine (begin_any (i := i + 1) (by omega) hacc (by omega) h10 (rdP _)).mono ?_
      rintro e'' w10 ⟨rfl, h11⟩
      have hbl' := beg_length qs acc (i + 1)
      rw [← hq] at h11
      simp -dsimp -implicitDefEqProofs (disch := omega) only [go_sem, reqD_of, dec_t, dec_f, wrap_i64, wrap_u32, wrap_u64, wrap_u8, kd, k1, k6, k8, k9, k33, k11, k12, k42, k43, k44]
      exact ⟨⟨i + 1, beg qs acc (i + 1), by omega, by omega, by rw [hbl', hacc], hstep, drop14 _ _ h11⟩, by omega⟩

end
end Go.Proofs.YtlnlomjdooobdaaDoor
