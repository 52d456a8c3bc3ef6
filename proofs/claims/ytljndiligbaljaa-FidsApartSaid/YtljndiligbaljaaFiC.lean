/- The fids package: Get, Add, Set, Take, Room, Walk, Open, Told, Count. -/
import Derived.Test.YtljndiligbaljaaFiB
namespace Go.Proofs.Ytljndiligbaljaa
open Go
set_option linter.unusedSimpArgs false
set_option linter.unusedVariables false
set_option maxRecDepth 100000

abbrev tabB (most : Int) (m : Nat) : Obj := .cells #[.int .i64 most, .map (some m)] 88 (0, 0)
abbrev fidB (v : Value) (f : FidD) : Obj := .cells (fdC v f).toArray 43 (0, 0)
abbrev zF : Value := .slice none 0 0

section
attribute [local go_sem] F30.t4_eq
theorem get_none {w0 w : World} {F : HP} {B : Nat} {most n : Int} {l : List (Int × FidD)} (h : St w0 (TabP B most l * F) w) (hg : agt n l = none) :
    Calls Try.prog 30 #[.pointer (some ⟨B, 0, none⟩), .int .u32 n] w fun e w' => St w0 (TabP B most l * F) w' ∧ e = .returned (.tuple #[fdV (zF, zFid), .int .i64 100]) := by
  obtain ⟨m, ps, hps, h1⟩ := TabP.open h
  have hk : agt n ps = none := by rw [← hps, agt_amap] at hg; simpa using hg
  refine F30.calls (by simp) ?_
  unfold F30.code
  simp -dsimp -implicitDefEqProofs (disch := omega) only [go_sem, reqD_of, dec_t, dec_f, wrap_i64, wrap_u32, wrap_u64, wrap_u8]
  refine h1.new fun C w2 h2 => ?_
  simp -dsimp -implicitDefEqProofs (disch := omega) only [go_sem, reqD_of, dec_t, dec_f, wrap_i64, wrap_u32, wrap_u64, wrap_u8, h2.cl B]
  refine h2.lkH (b := m) Try.underlying86 lawU zeroV_fid ?_
  rw [lk_amap, lkV_get, hk]
  simp only [Option.getD_some, Option.getD_none, Option.isSome_some, Option.isSome_none]
  simp -dsimp -implicitDefEqProofs (disch := omega) only [go_sem, reqD_of, dec_t, dec_f, wrap_i64, wrap_u32, wrap_u64, wrap_u8]
  refine h2.new fun X w3 h3 => ?_
  simp -dsimp -implicitDefEqProofs (disch := omega) only [go_sem, reqD_of, dec_t, dec_f, wrap_i64, wrap_u32, wrap_u64, wrap_u8]
  refine h3.stoAll (cs := fdC zF zFid) rfl rfl (fdC_cells rfl) fun w4 h4 => ?_
  simp -dsimp -implicitDefEqProofs (disch := omega) only [go_sem, reqD_of, dec_t, dec_f, wrap_i64, wrap_u32, wrap_u64, wrap_u8]
  refine onV_of (v := fdV (zF, zFid)) rfl ?_
  simp -dsimp -implicitDefEqProofs (disch := omega) only [go_sem, reqD_of, dec_t, dec_f, wrap_i64, wrap_u32, wrap_u64, wrap_u8]
  refine h4.stoAll (b := C) (cs := fdC zF zFid) rfl rfl (fdC_cells rfl) fun w5 h5 => ?_
  simp -dsimp -implicitDefEqProofs (disch := omega) only [go_sem, reqD_of, dec_t, dec_f, wrap_i64, wrap_u32, wrap_u64, wrap_u8]
  have hrow := h5.rowH C 14 rfl
  refine resC_2 (a := ⟨C, 0, none⟩) (v := fdV (zF, zFid)) (by simp -dsimp -implicitDefEqProofs only [go_sem]) (run_loadVar_row fact_aggSz_43 (by rw [hrow]; rfl)) ?_
  simp -dsimp -implicitDefEqProofs (disch := omega) only [go_sem, reqD_of, dec_t, dec_f, wrap_i64, wrap_u32, wrap_u64, wrap_u8]
  exact TabP.col (B := B) (m := m) (most := most) h5.right.right hps

theorem get_some {w0 w : World} {F : HP} {B : Nat} {most n : Int} {l : List (Int × FidD)} {f : FidD} (h : St w0 (TabP B most l * F) w) (hg : agt n l = some f) :
    Calls Try.prog 30 #[.pointer (some ⟨B, 0, none⟩), .int .u32 n] w fun e w' => ∃ v', Okf (v', f) ∧ St w0 (HeardP (v', f) * (TabP B most l * F)) w' ∧ e = .returned (.tuple #[fdV (v', f), .int .i64 0]) := by
  obtain ⟨m, ps, hps, h1⟩ := TabP.open h
  rw [← hps, agt_amap] at hg
  obtain ⟨p, hk, hpf⟩ := Option.map_eq_some_iff.1 hg
  obtain ⟨v, f'⟩ := p
  obtain rfl : f' = f := hpf
  refine F30.calls (by simp) ?_
  unfold F30.code
  simp -dsimp -implicitDefEqProofs (disch := omega) only [go_sem, reqD_of, dec_t, dec_f, wrap_i64, wrap_u32, wrap_u64, wrap_u8]
  refine h1.new fun C w2 h2 => ?_
  simp -dsimp -implicitDefEqProofs (disch := omega) only [go_sem, reqD_of, dec_t, dec_f, wrap_i64, wrap_u32, wrap_u64, wrap_u8, h2.cl B]
  refine h2.lkH (b := m) Try.underlying86 lawU zeroV_fid ?_
  rw [lk_amap, lkV_get, hk]
  simp only [Option.getD_some, Option.getD_none, Option.isSome_some, Option.isSome_none]
  simp -dsimp -implicitDefEqProofs (disch := omega) only [go_sem, reqD_of, dec_t, dec_f, wrap_i64, wrap_u32, wrap_u64, wrap_u8]
  refine h2.new fun X w3 h3 => ?_
  have hp := hearts_cell hk (h1.take (.blk B)).right.sw2
  simp -dsimp -implicitDefEqProofs (disch := omega) only [go_sem, reqD_of, dec_t, dec_f, wrap_i64, wrap_u32, wrap_u64, wrap_u8]
  refine h3.stoAll (cs := fdC v f') rfl rfl (fdC_cells hp.1) fun w4 h4 => ?_
  have hrow := h4.rowH X 14 rfl
  simp -dsimp -implicitDefEqProofs (disch := omega) only [go_sem, reqD_of, dec_t, dec_f, wrap_i64, wrap_u32, wrap_u64, wrap_u8, hrow]
  have h4' : St w0 (hearts ps * (Blk X (fidB v f') * (Blk C (fidB zF zFid) * (Blk B (tabB most m) * (MapP encU m (amap fdV ps) * F))))) w4 := h4.ac (by ac_rfl)
  refine (own_any (p := (v, f')) h4' hp.1 ((Ent.left _ _).trans (hearts_reads hk)) hp.2).mono ?_
  rintro e w5 ⟨v', hv', h5, rfl⟩
  simp -dsimp -implicitDefEqProofs (disch := omega) only [go_sem, reqD_of, dec_t, dec_f, wrap_i64, wrap_u32, wrap_u64, wrap_u8]
  refine h5.stoAll (b := C) (cs := fdC v' f') rfl rfl (fdC_cells hv') fun w6 h6 => ?_
  simp -dsimp -implicitDefEqProofs (disch := omega) only [go_sem, reqD_of, dec_t, dec_f, wrap_i64, wrap_u32, wrap_u64, wrap_u8]
  have hrow2 := h6.rowH C 14 rfl
  refine resC_2 (a := ⟨C, 0, none⟩) (v := fdV (v', f')) (by simp -dsimp -implicitDefEqProofs only [go_sem]) (run_loadVar_row fact_aggSz_43 (by rw [hrow2]; rfl)) ?_
  simp -dsimp -implicitDefEqProofs (disch := omega) only [go_sem, reqD_of, dec_t, dec_f, wrap_i64, wrap_u32, wrap_u64, wrap_u8]
  refine ⟨v', ⟨hv', hp.2⟩, ?_, rfl⟩
  have h7 := TabP.col (B := B) (m := m) (most := most) h6 hps
  exact h7.sub

theorem TabP.put {w0 w : World} {A R0 R1 R2 R3 : HP} {B m : Nat} {most n : Int} {ps : FPs} {l : List (Int × FidD)} {v : Value} {f : FidD} (h : St w0 A w) (hps : amap (·.2) ps = l) (hq : Okf (v, f)) [i0 : Pull A (HeardP (v, f)) R0]
    [i1 : Pull R0 (Blk B (tabB most m)) R1] [i2 : Pull R1 (MapP encU m (upd n (fdV (v, f)) (amap fdV ps))) R2] [i3 : Pull R2 (hearts ps) R3] : St w0 (TabP B most (aset n f l) * R3) w := by
  have h1 : St w0 (HeardP (v, f) * (hearts ps * (Blk B (tabB most m) * (MapP encU m (amap fdV (aset n (v, f) ps)) * R3)))) w := h.ac (by rw [i0.eq, i1.eq, i2.eq, i3.eq, upd_amap]; ac_rfl)
  have h2 := hearts_put (n := n) hq h1
  have h3 := TabP.col (B := B) (m := m) (most := most) (ps := aset n (v, f) ps) h2 rfl
  have e : amap (·.2) (aset n (v, f) ps) = aset n f l := by rw [← hps]; exact (aset_amap (fun x : HF => x.2) n (v, f) ps).symm
  rw [e] at h3
  exact h3

theorem TabP.rem {w0 w : World} {A R1 R2 R3 : HP} {B m : Nat} {most n : Int} {ps : FPs} {l : List (Int × FidD)} (h : St w0 A w) (hps : amap (·.2) ps = l)
    [i1 : Pull A (Blk B (tabB most m)) R1] [i2 : Pull R1 (MapP encU m (del n (amap fdV ps))) R2] [i3 : Pull R2 (hearts ps) R3] : St w0 (TabP B most (adel n l) * R3) w := by
  have h1 : St w0 (hearts ps * (Blk B (tabB most m) * (MapP encU m (amap fdV (adel n ps)) * R3))) w := h.ac (by rw [i1.eq, i2.eq, i3.eq, del_amap]; ac_rfl)
  have h2 := h1.ent (Ent.sep (hearts_del (n := n)) (Ent.rfl' _))
  have h3 := TabP.col (B := B) (m := m) (most := most) (ps := adel n ps) h2 rfl
  have e : amap (·.2) (adel n ps) = adel n l := by rw [← hps]; exact (adel_amap (fun x : HF => x.2) n ps).symm
  rw [e] at h3
  exact h3

def addE (n most : Int) (l : List (Int × FidD)) (f : FidD) : Int := if mayB f = true then freeE n most l else 1
def addS (n most : Int) (l : List (Int × FidD)) (f : FidD) : List (Int × FidD) := if addE n most l f = 0 then aset n f l else l

end
section
attribute [local go_sem] F22.t6_eq F22.t3_eq
theorem add_any {w0 w : World} {F : HP} {B : Nat} {most n : Int} {l : List (Int × FidD)} {p : HF} (h : St w0 (TabP B most l * F) w) (hp : Okf p) (hr : Ent F (HeardR p)) :
    Calls Try.prog 22 #[.pointer (some ⟨B, 0, none⟩), .int .u32 n, fdV p] w fun e w' => St w0 (TabP B most (addS n most l p.2) * F) w' ∧ e = .returned (.int .i64 (addE n most l p.2)) := by
  obtain ⟨v, f⟩ := p
  refine F22.calls (by simp) ?_
  unfold F22.code
  unfold fdV fdC
  simp -dsimp -implicitDefEqProofs (disch := omega) only [go_sem, reqD_of, dec_t, dec_f, wrap_i64, wrap_u32, wrap_u64, wrap_u8]
  refine h.new fun C w1 h1 => ?_
  have h1' : St w0 (TabP B most l * (Blk C (fidB v f) * F)) w1 := h1.sw2
  have hrow := h1'.rowH C 14 rfl
  simp -dsimp -implicitDefEqProofs (disch := omega) only [go_sem, reqD_of, dec_t, dec_f, wrap_i64, wrap_u32, wrap_u64, wrap_u8, hrow]
  refine (may_any (p := (v, f)) h1').mono ?_
  rintro e w2 ⟨h2, rfl⟩
  have hrow2 := h2.rowH C 14 rfl
  cases q1 : mayB f with
  | false =>
    simp -dsimp -implicitDefEqProofs (disch := omega) only [go_sem, reqD_of, dec_t, dec_f, wrap_i64, wrap_u32, wrap_u64, wrap_u8, q1, hrow2]
    have hE : addE n most l f = 1 := by simp [addE, q1]
    have hS : addS n most l f = l := by simp [addS, hE]
    rw [hS, hE]
    exact ⟨h2.sub, rfl⟩
  | true =>
    simp -dsimp -implicitDefEqProofs (disch := omega) only [go_sem, reqD_of, dec_t, dec_f, wrap_i64, wrap_u32, wrap_u64, wrap_u8, q1, hrow2]
    refine (free_any h2).mono ?_
    rintro e w3 ⟨h3, rfl⟩
    have hE : addE n most l f = freeE n most l := by simp [addE, q1]
    by_cases q2 : freeE n most l = 0
    · obtain ⟨m, ps, hps, h4⟩ := TabP.open h3.drew
      have hS : addS n most l f = aset n f l := by simp [addS, hE, q2]
      have hrow4 := h4.rowH C 14 rfl
      have hB4 := h4.cl B
      simp -dsimp -implicitDefEqProofs (disch := omega) only [go_sem, reqD_of, dec_t, dec_f, wrap_i64, wrap_u32, wrap_u64, wrap_u8, q2, hrow4, hB4]
      refine (own_any (p := (v, f)) h4 hp.1 ((Ent.right _ _).trans ((Ent.right _ _).trans ((Ent.right _ _).trans ((Ent.right _ _).trans hr)))) hp.2).mono ?_
      rintro e w5 ⟨v', hv', h5, rfl⟩
      have hrow5 := h5.rowH C 14 rfl
      have hB5 := h5.cl B
      simp -dsimp -implicitDefEqProofs (disch := omega) only [go_sem, reqD_of, dec_t, dec_f, wrap_i64, wrap_u32, wrap_u64, wrap_u8, q2, hrow5, hB5]
      refine h5.updH (b := m) Try.underlying86 lawU fun w6 h6 => ?_
      have hrow6 := h6.rowH C 14 rfl
      have hB6 := h6.cl B
      simp -dsimp -implicitDefEqProofs (disch := omega) only [go_sem, reqD_of, dec_t, dec_f, wrap_i64, wrap_u32, wrap_u64, wrap_u8, q2, hrow6, hB6]
      have h7 := TabP.put (B := B) (m := m) (most := most) (n := n) (v := v') (f := f) h6 hps ⟨hv', hp.2⟩
      rw [hS, hE, q2]
      exact ⟨h7.sub, rfl⟩
    · have hS : addS n most l f = l := by simp [addS, hE, q2]
      simp -dsimp -implicitDefEqProofs (disch := omega) only [go_sem, reqD_of, dec_t, dec_f, wrap_i64, wrap_u32, wrap_u64, wrap_u8, q2]
      rw [hS, hE]
      exact ⟨h3.sub, rfl⟩

def setE (n : Int) (l : List (Int × FidD)) (f : FidD) : Int := if mayB f = true then (if (agt n l).isSome = true then 0 else 100) else 1
def setS (n : Int) (l : List (Int × FidD)) (f : FidD) : List (Int × FidD) := if setE n l f = 0 then aset n f l else l

end
section
attribute [local go_sem] F32.t6_eq F32.t3_eq
theorem set_any {w0 w : World} {F : HP} {B : Nat} {most n : Int} {l : List (Int × FidD)} {p : HF} (h : St w0 (TabP B most l * F) w) (hp : Okf p) (hr : Ent F (HeardR p)) :
    Calls Try.prog 32 #[.pointer (some ⟨B, 0, none⟩), .int .u32 n, fdV p] w fun e w' => St w0 (TabP B most (setS n l p.2) * F) w' ∧ e = .returned (.int .i64 (setE n l p.2)) := by
  obtain ⟨v, f⟩ := p
  refine F32.calls (by simp) ?_
  unfold F32.code
  unfold fdV fdC
  simp -dsimp -implicitDefEqProofs (disch := omega) only [go_sem, reqD_of, dec_t, dec_f, wrap_i64, wrap_u32, wrap_u64, wrap_u8]
  refine h.new fun C w1 h1 => ?_
  have h1' : St w0 (TabP B most l * (Blk C (fidB v f) * F)) w1 := h1.sw2
  have hrow := h1'.rowH C 14 rfl
  simp -dsimp -implicitDefEqProofs (disch := omega) only [go_sem, reqD_of, dec_t, dec_f, wrap_i64, wrap_u32, wrap_u64, wrap_u8, hrow]
  refine (may_any (p := (v, f)) h1').mono ?_
  rintro e w2 ⟨h2, rfl⟩
  cases q1 : mayB f with
  | false =>
    simp -dsimp -implicitDefEqProofs (disch := omega) only [go_sem, reqD_of, dec_t, dec_f, wrap_i64, wrap_u32, wrap_u64, wrap_u8, q1]
    have hE : setE n l f = 1 := by simp [setE, q1]
    have hS : setS n l f = l := by simp [setS, hE]
    rw [hS, hE]
    exact ⟨h2.sub, rfl⟩
  | true =>
    obtain ⟨m, ps, hps, h3⟩ := TabP.open h2
    have hag : agt n l = (agt n ps).map (·.2) := by rw [← hps, agt_amap]
    simp -dsimp -implicitDefEqProofs (disch := omega) only [go_sem, reqD_of, dec_t, dec_f, wrap_i64, wrap_u32, wrap_u64, wrap_u8, q1, h3.cl B]
    refine h3.lkH (b := m) Try.underlying86 lawU zeroV_fid ?_
    rw [lk_amap, lkV_get]
    simp -dsimp -implicitDefEqProofs (disch := omega) only [go_sem, reqD_of, dec_t, dec_f, wrap_i64, wrap_u32, wrap_u64, wrap_u8]
    refine h3.new fun X w4 h4 => ?_
    simp -dsimp -implicitDefEqProofs (disch := omega) only [go_sem, reqD_of, dec_t, dec_f, wrap_i64, wrap_u32, wrap_u64, wrap_u8]
    cases hk : agt n ps with
    | none =>
      rw [hk] at hag
      simp only [Option.getD_none, Option.isSome_none]
      refine h4.stoAll (cs := fdC zF zFid) rfl rfl (fdC_cells rfl) fun w5 h5 => ?_
      simp -dsimp -implicitDefEqProofs (disch := omega) only [go_sem, reqD_of, dec_t, dec_f, wrap_i64, wrap_u32, wrap_u64, wrap_u8]
      have hE : setE n l f = 100 := by simp [setE, q1, hag]
      have hS : setS n l f = l := by simp [setS, hE]
      rw [hS, hE]
      have h6 := TabP.col (B := B) (m := m) (most := most) h5 hps
      exact ⟨h6.sub, rfl⟩
    | some u =>
      rw [hk] at hag
      have hu : Okf u := hearts_cell hk (h3.take (.blk B)).right.sw2
      simp only [Option.getD_some, Option.isSome_some]
      refine h4.stoAll (cs := fdC u.1 u.2) rfl rfl (fdC_cells hu.1) fun w5 h5 => ?_
      have h5 := h5.drew
      have hE : setE n l f = 0 := by simp [setE, q1, hag]
      have hS : setS n l f = aset n f l := by simp [setS, hE]
      have hrow5 := h5.rowH C 14 rfl
      have hB5 := h5.cl B
      simp -dsimp -implicitDefEqProofs (disch := omega) only [go_sem, reqD_of, dec_t, dec_f, wrap_i64, wrap_u32, wrap_u64, wrap_u8, hrow5, hB5]
      refine (own_any (p := (v, f)) h5 hp.1 ((Ent.right _ _).trans ((Ent.right _ _).trans ((Ent.right _ _).trans ((Ent.right _ _).trans ((Ent.right _ _).trans hr))))) hp.2).mono ?_
      rintro e w6 ⟨v', hv', h6, rfl⟩
      have hrow6 := h6.rowH C 14 rfl
      have hB6 := h6.cl B
      simp -dsimp -implicitDefEqProofs (disch := omega) only [go_sem, reqD_of, dec_t, dec_f, wrap_i64, wrap_u32, wrap_u64, wrap_u8, hrow6, hB6]
      refine h6.updH (b := m) Try.underlying86 lawU fun w7 h7 => ?_
      have hrow7 := h7.rowH C 14 rfl
      have hB7 := h7.cl B
      simp -dsimp -implicitDefEqProofs (disch := omega) only [go_sem, reqD_of, dec_t, dec_f, wrap_i64, wrap_u32, wrap_u64, wrap_u8, hrow7, hB7]
      have h8 := TabP.put (B := B) (m := m) (most := most) (n := n) (v := v') (f := f) h7 hps ⟨hv', hp.2⟩
      rw [hS, hE]
      exact ⟨h8.sub, rfl⟩

end

theorem take_any {w0 w : World} {F : HP} {B : Nat} {most n : Int} {l : List (Int × FidD)} (h : St w0 (TabP B most l * F) w) :
    Calls Try.prog 33 #[.pointer (some ⟨B, 0, none⟩), .int .u32 n] w fun e w' => ∃ q : HF, isCell q.1 = true ∧ St w0 (TabP B most (adel n l) * F) w' ∧ e = .returned (.tuple #[fdV q, .int .i64 (if (agt n l).isSome = true then 0 else 100)]) := by
  refine F33.calls (by simp) ?_
  unfold F33.code
  simp -dsimp -implicitDefEqProofs (disch := omega) only [go_sem, reqD_of, dec_t, dec_f, wrap_i64, wrap_u32, wrap_u64, wrap_u8]
  refine h.new fun C w1 h1 => ?_
  have h1' : St w0 (TabP B most l * (Blk C (fidB zF zFid) * F)) w1 := h1.sw2
  simp -dsimp -implicitDefEqProofs (disch := omega) only [go_sem, reqD_of, dec_t, dec_f, wrap_i64, wrap_u32, wrap_u64, wrap_u8]
  cases hg : agt n l with
  | none =>
    refine (get_none h1' hg).mono ?_
    rintro e w2 ⟨h2, rfl⟩
    simp -dsimp -implicitDefEqProofs (disch := omega) only [go_sem, reqD_of, dec_t, dec_f, wrap_i64, wrap_u32, wrap_u64, wrap_u8]
    refine h2.new fun X w3 h3 => ?_
    simp -dsimp -implicitDefEqProofs (disch := omega) only [go_sem, reqD_of, dec_t, dec_f, wrap_i64, wrap_u32, wrap_u64, wrap_u8]
    refine h3.stoAll (cs := fdC zF zFid) rfl rfl (fdC_cells rfl) fun w4 h4 => ?_
    obtain ⟨m, ps, hps, h5⟩ := TabP.open h4.sw2
    simp -dsimp -implicitDefEqProofs (disch := omega) only [go_sem, reqD_of, dec_t, dec_f, wrap_i64, wrap_u32, wrap_u64, wrap_u8, h5.cl B]
    refine h5.delH (b := m) Try.underlying86 lawU fun w6 h6 => ?_
    have hrow6 := h6.rowH X 14 rfl
    simp -dsimp -implicitDefEqProofs (disch := omega) only [go_sem, reqD_of, dec_t, dec_f, wrap_i64, wrap_u32, wrap_u64, wrap_u8, hrow6]
    refine h6.stoAll (b := C) (cs := fdC zF zFid) rfl rfl (fdC_cells rfl) fun w7 h7 => ?_
    have hrow7 := h7.rowH C 14 rfl
    simp -dsimp -implicitDefEqProofs (disch := omega) only [go_sem, reqD_of, dec_t, dec_f, wrap_i64, wrap_u32, wrap_u64, wrap_u8]
    refine resC_2 (a := ⟨C, 0, none⟩) (v := fdV (zF, zFid)) (by simp -dsimp -implicitDefEqProofs only [go_sem]) (run_loadVar_row fact_aggSz_43 (by rw [hrow7]; rfl)) ?_
    refine ⟨(zF, zFid), rfl, ?_, by (simp -dsimp -implicitDefEqProofs only [go_sem]); rfl⟩
    have h8 := TabP.rem (B := B) (m := m) (most := most) (n := n) h7 hps
    exact h8.sub
  | some f =>
    refine (get_some h1' hg).mono ?_
    rintro e w2 ⟨v', hv', h2, rfl⟩
    simp -dsimp -implicitDefEqProofs (disch := omega) only [go_sem, reqD_of, dec_t, dec_f, wrap_i64, wrap_u32, wrap_u64, wrap_u8]
    refine h2.new fun X w3 h3 => ?_
    simp -dsimp -implicitDefEqProofs (disch := omega) only [go_sem, reqD_of, dec_t, dec_f, wrap_i64, wrap_u32, wrap_u64, wrap_u8]
    refine h3.stoAll (cs := fdC v' f) rfl rfl (fdC_cells hv'.1) fun w4 h4 => ?_
    have h4' : St w0 (TabP B most l * (Blk X (fidB v' f) * (HeardP (v', f) * (Blk C (fidB zF zFid) * F)))) w4 := h4.ac (by ac_rfl)
    obtain ⟨m, ps, hps, h5⟩ := TabP.open h4'
    simp -dsimp -implicitDefEqProofs (disch := omega) only [go_sem, reqD_of, dec_t, dec_f, wrap_i64, wrap_u32, wrap_u64, wrap_u8, h5.cl B]
    refine h5.delH (b := m) Try.underlying86 lawU fun w6 h6 => ?_
    have hrow6 := h6.rowH X 14 rfl
    simp -dsimp -implicitDefEqProofs (disch := omega) only [go_sem, reqD_of, dec_t, dec_f, wrap_i64, wrap_u32, wrap_u64, wrap_u8, hrow6]
    refine h6.stoAll (b := C) (cs := fdC v' f) rfl rfl (fdC_cells hv'.1) fun w7 h7 => ?_
    have hrow7 := h7.rowH C 14 rfl
    simp -dsimp -implicitDefEqProofs (disch := omega) only [go_sem, reqD_of, dec_t, dec_f, wrap_i64, wrap_u32, wrap_u64, wrap_u8]
    refine resC_2 (a := ⟨C, 0, none⟩) (v := fdV (v', f)) (by simp -dsimp -implicitDefEqProofs only [go_sem]) (run_loadVar_row fact_aggSz_43 (by rw [hrow7]; rfl)) ?_
    refine ⟨(v', f), hv'.1, ?_, by (simp -dsimp -implicitDefEqProofs only [go_sem]); rfl⟩
    have h8 := TabP.rem (B := B) (m := m) (most := most) (n := n) h7 hps
    exact h8.sub

end Go.Proofs.Ytljndiligbaljaa
