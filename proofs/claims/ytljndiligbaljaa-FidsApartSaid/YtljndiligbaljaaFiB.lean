/- The fids package: a fid, a table; own, may, shut, New, free, Get. -/
import Derived.Test.YtljndiligbaljaaSoH
import Derived.Test.YtljndiligbaljaaTx
import Derived.Test.YtljndiligbaljaaMx
import Derived.Test.YtljndiligbaljaaAl
namespace Go.Proofs.Ytljndiligbaljaa
open Go
set_option linter.unusedSimpArgs false
set_option linter.unusedVariables false
set_option maxRecDepth 100000

/-- A fid. -/
structure FidD where
  st : Int
  nd : Int
  user : ByteArray
  mode : Int
  rm : Bool
  last : Int
  told : Int
  tu : ByteArray
  tt : ByteArray
  ours : Int
  theirs : Int
  step : Int
  said : Int
  heard : List UInt8
def zFid : FidD := ⟨0, 0, ⟨#[]⟩, 0, false, 0, 0, ⟨#[]⟩, ⟨#[]⟩, 0, 0, 0, 0, []⟩
/-- Its cells, the bytes of its talk in the slice v. -/
def fdC (v : Value) (f : FidD) : List Value :=
  [.int .u8 f.st, .int .u64 f.nd, .string f.user, .int .u8 f.mode, .bool f.rm, .int .u64 f.last, .int .u64 f.told, .string f.tu, .string f.tt, .int .u64 f.ours, .int .u64 f.theirs, .int .u8 f.step, .int .i64 f.said, v]
abbrev HF := Value × FidD
def fdV (p : HF) : Value := .agg (fdC p.1 p.2).toArray
theorem fdC_length (v : Value) (f : FidD) : (fdC v f).length = 14 := rfl
theorem fdC_cells {v : Value} {f : FidD} (hv : isCell v = true) : ∀ x ∈ fdC v f, isCell x = true := by
  intro x hx
  simp only [fdC, List.mem_cons, List.not_mem_nil, or_false] at hx
  rcases hx with rfl | rfl | rfl | rfl | rfl | rfl | rfl | rfl | rfl | rfl | rfl | rfl | rfl | rfl <;> first | rfl | exact hv
abbrev byR (l : List UInt8) : List Value := l.map bv
theorem byR_cells (l : List UInt8) : ∀ x ∈ byR l, isCell x = true := by
  intro x hx
  obtain ⟨b, _, rfl⟩ := List.mem_map.1 hx
  rfl
abbrev HeardR (p : HF) : HP := Reads 1 p.1 p.2.heard.length (byR p.2.heard)
abbrev HeardP (p : HF) : HP := RowO 5 1 p.1 p.2.heard.length (byR p.2.heard)

section
attribute [local go_sem] F57.t3_eq
theorem cloneB_any {w0 w : World} {F : HP} {v : Value} {l : List UInt8} (h : St w0 F w) (hr : Ent F (Reads 1 v l.length (byR l))) (hl : l.length < 1099511627776) :
    Calls Try.prog 57 #[v] w fun e w' => ∃ v', isCell v' = true ∧ St w0 (RowO 5 1 v' l.length (byR l) * F) w' ∧ e = .returned v' := by
  have r := (h.ent hr).rd
  obtain ⟨a, c, rfl, hnc, hcl⟩ := r.form
  refine F57.calls (by simp) ?_
  unfold F57.code
  cases a with
  | none =>
    have hnil : byR l = [] := by
      rcases hcl with h | ⟨b, o, h, _⟩
      · exact h
      · cases h
    have hl0 : l = [] := by simpa using hnil
    simp -dsimp -implicitDefEqProofs (disch := omega) only [go_sem, reqD_of, dec_t, dec_f, wrap_i64, wrap_u32, wrap_u64, wrap_u8]
    refine ⟨.slice none 0 0, rfl, ?_, rfl⟩
    rw [hl0]
    exact h.nilR 5 1
  | some a =>
    simp -dsimp -implicitDefEqProofs (disch := omega) only [go_sem, reqD_of, dec_t, dec_f, wrap_i64, wrap_u32, wrap_u64, wrap_u8]
    refine h.lit0 fact_rowTy_39 rfl fun v1 w1 h1 => ?_
    simp -dsimp -implicitDefEqProofs (disch := omega) only [go_sem, reqD_of, dec_t, dec_f, wrap_i64, wrap_u32, wrap_u64, wrap_u8]
    refine h1.app (v := v1) fact_rowTy_39 ((Ent.right _ _).trans hr) Try.underlying39 (byR_cells l) (fun h => by simpa using h) (by simp only [maxLen]; omega) (by omega) fun v2 w2 h2 => ?_
    simp -dsimp -implicitDefEqProofs (disch := omega) only [go_sem, reqD_of, dec_t, dec_f, wrap_i64, wrap_u32, wrap_u64, wrap_u8]
    rw [Nat.zero_add, List.nil_append] at h2
    obtain ⟨a2, c2, rfl, _⟩ := h2.rowForm v2
    exact ⟨_, rfl, h2, rfl⟩

end

theorem own_any {w0 w : World} {F : HP} {p : HF} (h : St w0 F w) (hv : isCell p.1 = true) (hr : Ent F (HeardR p)) (hl : p.2.heard.length < 1099511627776) :
    Calls Try.prog 41 #[fdV p] w fun e w' => ∃ v', isCell v' = true ∧ St w0 (HeardP (v', p.2) * F) w' ∧ e = .returned (fdV (v', p.2)) := by
  obtain ⟨v, f⟩ := p
  refine F41.calls (by simp) ?_
  unfold F41.code
  unfold fdV fdC
  simp -dsimp -implicitDefEqProofs (disch := omega) only [go_sem, reqD_of, dec_t, dec_f, wrap_i64, wrap_u32, wrap_u64, wrap_u8]
  refine h.new fun B1 w1 h1 => ?_
  simp -dsimp -implicitDefEqProofs (disch := omega) only [go_sem, reqD_of, dec_t, dec_f, wrap_i64, wrap_u32, wrap_u64, wrap_u8]
  refine h1.new fun B2 w2 h2 => ?_
  have h2' : St w0 (Blk B2 (.cells (fdC (.slice none 0 0) zFid).toArray 43 (0, 0)) * (Blk B1 (.cells (fdC v f).toArray 43 (0, 0)) * F)) w2 := h2
  have c1 := h2'.cl B1
  simp only [fdC] at c1
  simp -dsimp -implicitDefEqProofs (disch := omega) only [go_sem, reqD_of, dec_t, dec_f, wrap_i64, wrap_u32, wrap_u64, wrap_u8, c1]
  refine (cloneB_any (v := v) (l := f.heard) h2' ((Ent.right _ _).trans ((Ent.right _ _).trans hr)) hl).mono ?_
  rintro e w3 ⟨v', hv', h3, rfl⟩
  have c3 := h3.cl B1
  simp only [fdC] at c3
  simp -dsimp -implicitDefEqProofs (disch := omega) only [go_sem, reqD_of, dec_t, dec_f, wrap_i64, wrap_u32, wrap_u64, wrap_u8, c3]
  refine h3.sto (b := B1) (off := 13) (by simp [fdC]) hv' fun w4 h4 => ?_
  have h4' : St w0 (RowO 5 1 v' f.heard.length (byR f.heard) * (Blk B2 (.cells (fdC (.slice none 0 0) zFid).toArray 43 (0, 0)) * (Blk B1 (.cells (fdC v' f).toArray 43 (0, 0)) * F))) w4 := h4
  have hrow := h4'.rowH B1 14 rfl
  simp -dsimp -implicitDefEqProofs (disch := omega) only [go_sem, reqD_of, dec_t, dec_f, wrap_i64, wrap_u32, wrap_u64, wrap_u8, hrow]
  refine h4'.stoAll (b := B2) (cs := fdC v' f) rfl rfl (fdC_cells hv') fun w5 h5 => ?_
  have hrow2 := h5.rowH B2 14 rfl
  simp -dsimp -implicitDefEqProofs (disch := omega) only [go_sem, reqD_of, dec_t, dec_f, wrap_i64, wrap_u32, wrap_u64, wrap_u8]
  refine resC_1 (a := ⟨B2, 0, none⟩) (v := fdV (v', f)) (by simp -dsimp -implicitDefEqProofs only [go_sem]) (run_loadVar_row fact_aggSz_43 (by rw [hrow2]; rfl)) ?_
  exact ⟨v', hv', h5.sub, rfl⟩

def mayB (f : FidD) : Bool := decide (f.st = 1) || decide (f.st = 2) || decide (f.st = 3)
section
attribute [local go_sem] F39.t5_eq F39.t6_eq
theorem may_any {w0 w : World} {F : HP} {p : HF} (h : St w0 F w) : Calls Try.prog 39 #[fdV p] w fun e w' => St w0 F w' ∧ e = .returned (.bool (mayB p.2)) := by
  obtain ⟨v, f⟩ := p
  refine F39.calls (by simp) ?_
  unfold F39.code
  unfold fdV fdC
  simp -dsimp -implicitDefEqProofs (disch := omega) only [go_sem, reqD_of, dec_t, dec_f, wrap_i64, wrap_u32, wrap_u64, wrap_u8]
  refine h.new fun B w1 h1 => ?_
  have hc := h1.cl B
  by_cases q1 : f.st = 1
  · simp -dsimp -implicitDefEqProofs (disch := omega) only [go_sem, reqD_of, dec_t, dec_f, wrap_i64, wrap_u32, wrap_u64, wrap_u8, hc, q1]
    exact ⟨h1.right, by simp [mayB, q1]⟩
  · by_cases q2 : f.st = 2
    · simp -dsimp -implicitDefEqProofs (disch := omega) only [go_sem, reqD_of, dec_t, dec_f, wrap_i64, wrap_u32, wrap_u64, wrap_u8, hc, q1, q2]
      exact ⟨h1.right, by simp [mayB, q2]⟩
    · by_cases q3 : f.st = 3
      · simp -dsimp -implicitDefEqProofs (disch := omega) only [go_sem, reqD_of, dec_t, dec_f, wrap_i64, wrap_u32, wrap_u64, wrap_u8, hc, q1, q2, q3]
        exact ⟨h1.right, by simp [mayB, q3]⟩
      · simp -dsimp -implicitDefEqProofs (disch := omega) only [go_sem, reqD_of, dec_t, dec_f, wrap_i64, wrap_u32, wrap_u64, wrap_u8, hc, q1, q2, q3]
        exact ⟨h1.right, by simp [mayB, q1, q2, q3]⟩

def shutE (f : FidD) : Int := if f.st = 2 then 112 else if f.st = 3 then 116 else 0
end
section
attribute [local go_sem] F37.t6_eq
theorem shut_any {w0 w : World} {F : HP} {p : HF} (h : St w0 F w) : Calls Try.prog 37 #[fdV p] w fun e w' => St w0 F w' ∧ e = .returned (.int .i64 (shutE p.2)) := by
  obtain ⟨v, f⟩ := p
  refine F37.calls (by simp) ?_
  unfold F37.code
  unfold fdV fdC
  simp -dsimp -implicitDefEqProofs (disch := omega) only [go_sem, reqD_of, dec_t, dec_f, wrap_i64, wrap_u32, wrap_u64, wrap_u8]
  refine h.new fun B w1 h1 => ?_
  have hc := h1.cl B
  by_cases q2 : f.st = 2
  · simp -dsimp -implicitDefEqProofs (disch := omega) only [go_sem, reqD_of, dec_t, dec_f, wrap_i64, wrap_u32, wrap_u64, wrap_u8, hc, q2]
    exact ⟨h1.right, by simp [shutE, q2]⟩
  · by_cases q3 : f.st = 3
    · simp -dsimp -implicitDefEqProofs (disch := omega) only [go_sem, reqD_of, dec_t, dec_f, wrap_i64, wrap_u32, wrap_u64, wrap_u8, hc, q2, q3]
      exact ⟨h1.right, by simp [shutE, q3]⟩
    · simp -dsimp -implicitDefEqProofs (disch := omega) only [go_sem, reqD_of, dec_t, dec_f, wrap_i64, wrap_u32, wrap_u64, wrap_u8, hc, q2, q3]
      exact ⟨h1.right, by simp [shutE, q2, q3]⟩

/-! ### A table -/
theorem Ent.empL (F : HP) : Ent F (EmpH * F) := fun h hf => ⟨h, hle.rfl' h, fun _ => none, h, fun _ => .inl rfl, (fun _ _ e => by cases e), hle.rfl' h, trivial, hf⟩
abbrev encU : Int → Value := fun n => .int .u32 n
theorem lawU : KeyLaw Try.prog 35 encU := KeyLaw.int Try.underlying35
abbrev FPs := List (Int × HF)
def Okf (p : HF) : Prop := isCell p.1 = true ∧ p.2.heard.length < 1099511627776
def hearts (ps : FPs) : HP := stars (fun p : Int × HF => HP.fact (Okf p.2) (HeardP p.2)) ps
def TabQ (B m : Nat) (most : Int) (ps : FPs) : HP := Blk B (.cells #[.int .i64 most, .map (some m)] 88 (0, 0)) * (MapP encU m (amap fdV ps) * hearts ps)
def TabP (B : Nat) (most : Int) (l : List (Int × FidD)) : HP := HP.ex fun x : Nat × FPs => HP.fact (amap (·.2) x.2 = l) (TabQ B x.1 most x.2)
instance (B : Nat) (most : Int) (l : List (Int × FidD)) : Face (.obj B) (TabP B most l) := ⟨⟩
theorem TabP.open {w0 w : World} {B : Nat} {most : Int} {l : List (Int × FidD)} {F : HP} (h : St w0 (TabP B most l * F) w) : ∃ m ps, amap (·.2) ps = l ∧ St w0 (Blk B (.cells #[.int .i64 most, .map (some m)] 88 (0, 0)) * (MapP encU m (amap fdV ps) * (hearts ps * F))) w := by
  obtain ⟨⟨m, ps⟩, h⟩ := h.exF
  obtain ⟨e, h⟩ := h.factF
  exact ⟨m, ps, e, h.ac (by unfold TabQ; ac_rfl)⟩
theorem TabP.col {w0 w : World} {A R1 R2 R3 : HP} {B m : Nat} {most : Int} {ps : FPs} {l : List (Int × FidD)} (h : St w0 A w) (hps : amap (·.2) ps = l) [i1 : Pull A (Blk B (.cells #[.int .i64 most, .map (some m)] 88 (0, 0))) R1] [i2 : Pull R1 (MapP encU m (amap fdV ps)) R2] [i3 : Pull R2 (hearts ps) R3] :
    St w0 (TabP B most l * R3) w := by
  have h1 : St w0 (TabQ B m most ps * R3) w := h.ac (by rw [i1.eq, i2.eq, i3.eq]; unfold TabQ; ac_rfl)
  exact h1.ent (Ent.sep ((Ent.fact hps _).trans (Ent.ex (fun x : Nat × FPs => HP.fact (amap (·.2) x.2 = l) (TabQ B x.1 most x.2)) (m, ps))) (Ent.rfl' R3))
theorem hearts_at {ps : FPs} {n : Int} {p : HF} (h : agt n ps = some p) : hearts ps = HP.fact (Okf p) (HeardP p) * hearts (adel n ps) := stars_open _ n p ps h
theorem hearts_set {ps : FPs} {n : Int} {p q : HF} (h : agt n ps = some p) : hearts (aset n q ps) = HP.fact (Okf q) (HeardP q) * hearts (adel n ps) := stars_aset (fun p : Int × HF => HP.fact (Okf p.2) (HeardP p.2)) n p q ps h
theorem hearts_new {ps : FPs} {n : Int} {q : HF} (h : agt n ps = none) : hearts (aset n q ps) = HP.fact (Okf q) (HeardP q) * hearts ps := stars_new _ n q ps h
theorem hearts_del {ps : FPs} {n : Int} : Ent (hearts ps) (hearts (adel n ps)) := by
  cases h : agt n ps with
  | some p => rw [hearts_at h]; exact Ent.right _ _
  | none =>
    have : ∀ ps : FPs, agt n ps = none → adel n ps = ps := fun ps => by
      induction ps with
      | nil => intro _; rfl
      | cons x ps ih =>
        obtain ⟨y, u⟩ := x
        intro h
        simp only [agt] at h
        split at h
        · cases h
        · rename_i hx
          simp only [adel, if_neg hx, ih h]
    rw [this ps h]
    exact Ent.rfl' _
/-- A fid's bytes, put into the hearts under its number. -/
theorem hearts_put {w0 w : World} {ps : FPs} {n : Int} {q : HF} {A : HP} (hq : Okf q) (h : St w0 (HeardP q * (hearts ps * A)) w) : St w0 (hearts (aset n q ps) * A) w := by
  cases hk : agt n ps with
  | some p =>
    rw [hearts_set hk, sep_assoc]
    exact h.ent (Ent.sep (Ent.fact hq _) (Ent.sep hearts_del (Ent.rfl' A)))
  | none =>
    rw [hearts_new hk, sep_assoc]
    exact h.ent (Ent.sep (Ent.fact hq _) (Ent.rfl' _))
theorem hearts_cell {w0 w : World} {ps : FPs} {n : Int} {p : HF} {A : HP} (hk : agt n ps = some p) (h : St w0 (hearts ps * A) w) : Okf p := by
  rw [hearts_at hk, sep_assoc] at h
  exact h.factF.1
theorem hearts_reads {ps : FPs} {n : Int} {p : HF} (hk : agt n ps = some p) : Ent (hearts ps) (HeardR p) := by
  rw [hearts_at hk]
  refine (Ent.left _ _).trans ?_
  exact HP.fact_elim fun _ => RowO.reads _ _ _ _ _

end
section
attribute [local go_sem] F20.t3_eq
theorem new_no {w0 w : World} {F : HP} {n : Int} (h : St w0 F w) (hn : n < 1 ∨ 256 < n) :
    Calls Try.prog 20 #[.int .i64 n] w fun e w' => St w0 F w' ∧ e = .returned (.tuple #[.pointer none, .int .i64 1]) := by
  refine F20.calls (by simp) ?_
  unfold F20.code
  by_cases h1 : n < 1
  · simp -dsimp -implicitDefEqProofs (disch := omega) only [go_sem, reqD_of, dec_t, dec_f, wrap_i64, wrap_u32, wrap_u64, wrap_u8, h1]
    exact h
  have h2 : 256 < n := by omega
  simp -dsimp -implicitDefEqProofs (disch := omega) only [go_sem, reqD_of, dec_t, dec_f, wrap_i64, wrap_u32, wrap_u64, wrap_u8, h1, h2]
  exact h

theorem new_ok {w0 w : World} {F : HP} {n : Int} (h : St w0 F w) (hn : 1 ≤ n ∧ n ≤ 256) :
    Calls Try.prog 20 #[.int .i64 n] w fun e w' => ∃ B, St w0 (TabP B n [] * F) w' ∧ e = .returned (.tuple #[.pointer (some ⟨B, 0, none⟩), .int .i64 0]) := by
  refine F20.calls (by simp) ?_
  unfold F20.code
  have h1 : ¬ n < 1 := by omega
  have h2 : ¬ 256 < n := by omega
  simp -dsimp -implicitDefEqProofs (disch := omega) only [go_sem, reqD_of, dec_t, dec_f, wrap_i64, wrap_u32, wrap_u64, wrap_u8, h1, h2]
  refine St.makeMap (enc := encU) h fun b w1 h3 => ?_
  simp -dsimp -implicitDefEqProofs (disch := omega) only [go_sem, reqD_of, dec_t, dec_f, wrap_i64, wrap_u32, wrap_u64, wrap_u8]
  refine onV_of (v := .agg #[.int .i64 n, .map (some b)]) rfl ?_
  simp -dsimp -implicitDefEqProofs (disch := omega) only [go_sem, reqD_of, dec_t, dec_f, wrap_i64, wrap_u32, wrap_u64, wrap_u8]
  refine h3.new fun B w2 h4 => ?_
  simp -dsimp -implicitDefEqProofs (disch := omega) only [go_sem, reqD_of, dec_t, dec_f, wrap_i64, wrap_u32, wrap_u64, wrap_u8]
  refine ⟨B, ?_, rfl⟩
  have h5 := h4.ent (Ent.empL _)
  exact TabP.col (B := B) (m := b) (ps := []) (most := n) (show St w0 (hearts [] * (Blk B (.cells #[.int .i64 n, .map (some b)] 88 (0, 0)) * (MapP encU b (amap fdV []) * F))) w2 from h5) rfl

def freeE (n most : Int) (l : List (Int × FidD)) : Int := if n = 4294967295 then 103 else if (agt n l).isSome = true then 101 else if most ≤ l.length then 102 else 0
theorem zeroV_fid : zeroV Try.prog 43 = some (fdV (.slice none 0 0, zFid)) := fact_zeroV_43

end
section
attribute [local go_sem] F40.t8_eq F40.t6_eq F40.t3_eq
theorem free_any {w0 w : World} {F : HP} {B : Nat} {most n : Int} {l : List (Int × FidD)} (h : St w0 (TabP B most l * F) w) :
    Calls Try.prog 40 #[.pointer (some ⟨B, 0, none⟩), .int .u32 n] w fun e w' => St w0 (TabP B most l * F) w' ∧ e = .returned (.int .i64 (freeE n most l)) := by
  obtain ⟨m, ps, hps, h1⟩ := TabP.open h
  have hag : agt n l = (agt n ps).map (·.2) := by rw [← hps, agt_amap]
  have hlen : l.length = ps.length := by rw [← hps]; simp [amap]
  refine F40.calls (by simp) ?_
  unfold F40.code
  by_cases q1 : n = 4294967295
  · simp -dsimp -implicitDefEqProofs (disch := omega) only [go_sem, reqD_of, dec_t, dec_f, wrap_i64, wrap_u32, wrap_u64, wrap_u8, q1]
    exact ⟨(TabP.col (B := B) (m := m) (most := most) h1 hps), by simp [freeE, q1]⟩
  simp -dsimp -implicitDefEqProofs (disch := omega) only [go_sem, reqD_of, dec_t, dec_f, wrap_i64, wrap_u32, wrap_u64, wrap_u8, q1, h1.cl B]
  refine h1.lkH (b := m) Try.underlying86 lawU zeroV_fid ?_
  rw [lk_amap, lkV_get]
  simp -dsimp -implicitDefEqProofs (disch := omega) only [go_sem, reqD_of, dec_t, dec_f, wrap_i64, wrap_u32, wrap_u64, wrap_u8]
  refine h1.new fun X w2 h2 => ?_
  simp -dsimp -implicitDefEqProofs (disch := omega) only [go_sem, reqD_of, dec_t, dec_f, wrap_i64, wrap_u32, wrap_u64, wrap_u8]
  cases hk : agt n ps with
  | some p =>
    have hp : isCell p.1 = true := (hearts_cell hk (h1.take (.blk B)).right.sw2).1
    simp only [Option.getD_some, Option.isSome_some]
    refine h2.stoAll (cs := fdC p.1 p.2) rfl rfl (fdC_cells hp) fun w3 h3 => ?_
    simp -dsimp -implicitDefEqProofs (disch := omega) only [go_sem, reqD_of, dec_t, dec_f, wrap_i64, wrap_u32, wrap_u64, wrap_u8]
    refine ⟨(TabP.col (B := B) (m := m) (most := most) h3.right hps), ?_⟩
    rw [hk] at hag
    simp [freeE, q1, hag]
  | none =>
    rw [hk] at hag
    simp only [Option.getD_none, Option.isSome_none]
    refine h2.stoAll (cs := fdC (.slice none 0 0) zFid) rfl rfl (fdC_cells rfl) fun w3 h3 => ?_
    have h4 := h3.drew
    have cB := h4.cl B
    simp -dsimp -implicitDefEqProofs (disch := omega) only [go_sem, reqD_of, dec_t, dec_f, wrap_i64, wrap_u32, wrap_u64, wrap_u8, cB]
    refine h4.lenH (b := m) Try.underlying86 ?_
    have hl2 : (amap fdV ps).length = ps.length := by simp [amap]
    rw [hl2]
    by_cases q3 : most ≤ ps.length
    · simp -dsimp -implicitDefEqProofs (disch := omega) only [go_sem, reqD_of, dec_t, dec_f, wrap_i64, wrap_u32, wrap_u64, wrap_u8, cB, q3]
      refine ⟨(TabP.col (B := B) (m := m) (most := most) h4.right hps), ?_⟩
      simp [freeE, q1, hag, hlen, q3]
    · simp -dsimp -implicitDefEqProofs (disch := omega) only [go_sem, reqD_of, dec_t, dec_f, wrap_i64, wrap_u32, wrap_u64, wrap_u8, cB, q3]
      refine ⟨(TabP.col (B := B) (m := m) (most := most) h4.right hps), ?_⟩
      simp [freeE, q1, hag, hlen, q3]

end
end Go.Proofs.Ytljndiligbaljaa
