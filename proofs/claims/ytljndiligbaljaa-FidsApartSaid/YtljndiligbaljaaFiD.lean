/- The fids package: Room, Walk, Open, Told, Count, Opens. -/
import Derived.Test.YtljndiligbaljaaFiC
namespace Go.Proofs.Ytljndiligbaljaa
open Go
set_option linter.unusedSimpArgs false
set_option linter.unusedVariables false
set_option maxRecDepth 100000

def roomE (a n most : Int) (l : List (Int × FidD)) : Int := if (agt a l).isSome = true then (if a = n then 0 else freeE n most l) else 100

section
attribute [local go_sem] F36.t6_eq F36.t4_eq
theorem room_any {w0 w : World} {F : HP} {B : Nat} {most a n : Int} {l : List (Int × FidD)} (h : St w0 (TabP B most l * F) w) :
    Calls Try.prog 36 #[.pointer (some ⟨B, 0, none⟩), .int .u32 a, .int .u32 n] w fun e w' => St w0 (TabP B most l * F) w' ∧ e = .returned (.int .i64 (roomE a n most l)) := by
  refine F36.calls (by simp) ?_
  unfold F36.code
  obtain ⟨m, ps, hps, h3⟩ := TabP.open h
  have hag : agt a l = (agt a ps).map (·.2) := by rw [← hps, agt_amap]
  simp -dsimp -implicitDefEqProofs (disch := omega) only [go_sem, reqD_of, dec_t, dec_f, wrap_i64, wrap_u32, wrap_u64, wrap_u8, h3.cl B]
  refine h3.lkH (b := m) Try.underlying86 lawU zeroV_fid ?_
  rw [lk_amap, lkV_get]
  simp -dsimp -implicitDefEqProofs (disch := omega) only [go_sem, reqD_of, dec_t, dec_f, wrap_i64, wrap_u32, wrap_u64, wrap_u8]
  refine h3.new fun X w4 h4 => ?_
  simp -dsimp -implicitDefEqProofs (disch := omega) only [go_sem, reqD_of, dec_t, dec_f, wrap_i64, wrap_u32, wrap_u64, wrap_u8]
  cases hk : agt a ps with
  | none =>
    rw [hk] at hag
    simp only [Option.getD_none, Option.isSome_none]
    refine h4.stoAll (cs := fdC zF zFid) rfl rfl (fdC_cells rfl) fun w5 h5 => ?_
    simp -dsimp -implicitDefEqProofs (disch := omega) only [go_sem, reqD_of, dec_t, dec_f, wrap_i64, wrap_u32, wrap_u64, wrap_u8]
    have hE : roomE a n most l = 100 := by simp [roomE, hag]
    rw [hE]
    have h6 := TabP.col (B := B) (m := m) (most := most) h5 hps
    exact ⟨h6.sub, rfl⟩
  | some u =>
    rw [hk] at hag
    have hu : Okf u := hearts_cell hk (h3.take (.blk B)).right.sw2
    simp only [Option.getD_some, Option.isSome_some]
    refine h4.stoAll (cs := fdC u.1 u.2) rfl rfl (fdC_cells hu.1) fun w5 h5 => ?_
    have h6 := TabP.col (B := B) (m := m) (most := most) h5 hps
    by_cases q : a = n
    · simp -dsimp -implicitDefEqProofs (disch := omega) only [go_sem, reqD_of, dec_t, dec_f, wrap_i64, wrap_u32, wrap_u64, wrap_u8, q]
      rw [← q, show roomE a a most l = 0 by simp [roomE, hag]]
      exact ⟨h6.sub, rfl⟩
    · simp -dsimp -implicitDefEqProofs (disch := omega) only [go_sem, reqD_of, dec_t, dec_f, wrap_i64, wrap_u32, wrap_u64, wrap_u8, q]
      refine (free_any h6).mono ?_
      rintro e w7 ⟨h7, rfl⟩
      simp -dsimp -implicitDefEqProofs (disch := omega) only [go_sem, reqD_of, dec_t, dec_f, wrap_i64, wrap_u32, wrap_u64, wrap_u8]
      have hE : roomE a n most l = freeE n most l := by simp [roomE, hag, q]
      rw [hE]
      exact ⟨h7.sub, rfl⟩

end

theorem count_any {w0 w : World} {F : HP} {B : Nat} {most : Int} {l : List (Int × FidD)} (h : St w0 (TabP B most l * F) w) :
    Calls Try.prog 14 #[.pointer (some ⟨B, 0, none⟩)] w fun e w' => St w0 (TabP B most l * F) w' ∧ e = .returned (.int .i64 l.length) := by
  refine F14.calls (by simp) ?_
  unfold F14.code
  obtain ⟨m, ps, hps, h3⟩ := TabP.open h
  simp -dsimp -implicitDefEqProofs (disch := omega) only [go_sem, reqD_of, dec_t, dec_f, wrap_i64, wrap_u32, wrap_u64, wrap_u8, h3.cl B]
  refine h3.lenH (b := m) Try.underlying86 ?_
  have hl2 : (amap fdV ps).length = l.length := by rw [← hps]; simp [amap]
  rw [hl2]
  simp -dsimp -implicitDefEqProofs (disch := omega) only [go_sem, reqD_of, dec_t, dec_f, wrap_i64, wrap_u32, wrap_u64, wrap_u8]
  have h6 := TabP.col (B := B) (m := m) (most := most) h3 hps
  exact h6.sub

/-- The fid that an open leaves. -/
def openF (f : FidD) (nd mode : Int) (rm : Bool) : FidD := { zFid with st := 2, nd := nd, user := f.user, mode := mode, rm := rm }
def walkF (f : FidD) (nd : Int) : FidD := { zFid with st := 1, nd := nd, user := f.user }
def toldF (f : FidD) (last told : Int) : FidD := { f with last := last, told := told }

theorem St.nilHeard {w0 w : World} {A : HP} {f : FidD} (h : St w0 A w) (hf : f.heard = []) : St w0 (HeardP (zF, f) * A) w := by
  show St w0 (RowO 5 1 (.slice none 0 0) f.heard.length (byR f.heard) * A) w
  rw [hf]
  exact h.nilR 5 1

def walkE (a n most : Int) (l : List (Int × FidD)) : Int := if roomE a n most l = 0 then shutE ((agt a l).getD zFid) else roomE a n most l
def walkS (a n nd most : Int) (l : List (Int × FidD)) : List (Int × FidD) := if walkE a n most l = 0 then aset n (walkF ((agt a l).getD zFid) nd) l else l
theorem roomE_some {a n most : Int} {l : List (Int × FidD)} (h : roomE a n most l = 0) : ∃ f, agt a l = some f := by
  unfold roomE at h
  cases hg : agt a l with
  | some f => exact ⟨f, rfl⟩
  | none => rw [hg] at h; simp at h

section
attribute [local go_sem] F34.t8_eq F34.t4_eq
theorem walk_any {w0 w : World} {F : HP} {B : Nat} {most a n nd : Int} {l : List (Int × FidD)} (h : St w0 (TabP B most l * F) w) :
    Calls Try.prog 34 #[.pointer (some ⟨B, 0, none⟩), .int .u32 a, .int .u32 n, .int .u64 nd] w fun e w' => St w0 (TabP B most (walkS a n nd most l) * F) w' ∧ e = .returned (.int .i64 (walkE a n most l)) := by
  refine F34.calls (by simp) ?_
  unfold F34.code
  simp -dsimp -implicitDefEqProofs (disch := omega) only [go_sem, reqD_of, dec_t, dec_f, wrap_i64, wrap_u32, wrap_u64, wrap_u8]
  refine (room_any h).mono ?_
  rintro e w1 ⟨h1, rfl⟩
  by_cases q1 : roomE a n most l = 0
  · obtain ⟨f, hf⟩ := roomE_some q1
    obtain ⟨m, ps, hps, h3⟩ := TabP.open h1
    rw [← hps, agt_amap] at hf
    obtain ⟨p, hk, hpf⟩ := Option.map_eq_some_iff.1 hf
    obtain ⟨v, f'⟩ := p
    obtain rfl : f' = f := hpf
    have hag : agt a l = some f' := by rw [← hps, agt_amap, hk]; rfl
    have hu : Okf (v, f') := hearts_cell hk (h3.take (.blk B)).right.sw2
    simp -dsimp -implicitDefEqProofs (disch := omega) only [go_sem, reqD_of, dec_t, dec_f, wrap_i64, wrap_u32, wrap_u64, wrap_u8, q1, h3.cl B]
    refine h3.lkH (b := m) Try.underlying86 lawU zeroV_fid ?_
    rw [lk_amap, lkV_get1, hk]
    simp only [Option.getD_some]
    simp -dsimp -implicitDefEqProofs (disch := omega) only [go_sem, reqD_of, dec_t, dec_f, wrap_i64, wrap_u32, wrap_u64, wrap_u8]
    refine h3.new fun X w4 h4 => ?_
    simp -dsimp -implicitDefEqProofs (disch := omega) only [go_sem, reqD_of, dec_t, dec_f, wrap_i64, wrap_u32, wrap_u64, wrap_u8]
    refine h4.stoAll (cs := fdC v f') rfl rfl (fdC_cells hu.1) fun w5 h5 => ?_
    have hrow5 := h5.rowH X 14 rfl
    simp -dsimp -implicitDefEqProofs (disch := omega) only [go_sem, reqD_of, dec_t, dec_f, wrap_i64, wrap_u32, wrap_u64, wrap_u8, hrow5]
    refine (shut_any (p := (v, f')) h5).mono ?_
    rintro e w6 ⟨h6, rfl⟩
    have hE : walkE a n most l = shutE f' := by simp [walkE, q1, hag]
    by_cases q2 : shutE f' = 0
    · have h6 := h6.drew
      have hB6 := h6.cl B
      have hX6 := h6.cl X
      simp only [fdC] at hX6
      simp -dsimp -implicitDefEqProofs (disch := omega) only [go_sem, reqD_of, dec_t, dec_f, wrap_i64, wrap_u32, wrap_u64, wrap_u8, q2, hB6, hX6]
      refine onV_of (v := fdV (zF, walkF f' nd)) rfl ?_
      simp -dsimp -implicitDefEqProofs (disch := omega) only [go_sem, reqD_of, dec_t, dec_f, wrap_i64, wrap_u32, wrap_u64, wrap_u8, hB6, hX6]
      refine h6.updH (b := m) Try.underlying86 lawU fun w7 h7 => ?_
      have hB7 := h7.cl B
      have hX7 := h7.cl X
      simp only [fdC] at hX7
      simp -dsimp -implicitDefEqProofs (disch := omega) only [go_sem, reqD_of, dec_t, dec_f, wrap_i64, wrap_u32, wrap_u64, wrap_u8, hB7, hX7]
      have h7' := h7.nilHeard (f := walkF f' nd) rfl
      have h8 := TabP.put (B := B) (m := m) (most := most) (n := n) (v := zF) (f := walkF f' nd) h7' hps ⟨rfl, by simp [walkF, zFid]⟩
      have hS : walkS a n nd most l = aset n (walkF f' nd) l := by simp [walkS, hE, q2, hag]
      rw [hS, hE, q2]
      exact ⟨h8.sub, rfl⟩
    · simp -dsimp -implicitDefEqProofs (disch := omega) only [go_sem, reqD_of, dec_t, dec_f, wrap_i64, wrap_u32, wrap_u64, wrap_u8, q2]
      have hS : walkS a n nd most l = l := by simp [walkS, hE, q2]
      rw [hS, hE]
      have h8 := TabP.col (B := B) (m := m) (most := most) h6 hps
      exact ⟨h8.sub, rfl⟩
  · simp -dsimp -implicitDefEqProofs (disch := omega) only [go_sem, reqD_of, dec_t, dec_f, wrap_i64, wrap_u32, wrap_u64, wrap_u8, q1]
    have hE : walkE a n most l = roomE a n most l := by simp [walkE, q1]
    have hS : walkS a n nd most l = l := by simp [walkS, hE, q1]
    rw [hS, hE]
    exact ⟨h1.sub, rfl⟩

def and3 (md : Int) : Int := IntKind.u8.wrap ↑(BitVec.ofInt IntKind.u8.bits md &&& BitVec.ofInt IntKind.u8.bits 3).toNat
def openE (n : Int) (l : List (Int × FidD)) : Int := if (agt n l).isSome = true then shutE ((agt n l).getD zFid) else 100
def openS (n nd mode : Int) (rm : Bool) (l : List (Int × FidD)) : List (Int × FidD) := if openE n l = 0 then aset n (openF ((agt n l).getD zFid) nd mode rm) l else l

end
section
attribute [local go_sem] F18.t7_eq F18.t4_eq
theorem open_any {w0 w : World} {F : HP} {B : Nat} {most n nd md : Int} {rm : Bool} {l : List (Int × FidD)} (h : St w0 (TabP B most l * F) w) :
    Calls Try.prog 18 #[.pointer (some ⟨B, 0, none⟩), .int .u32 n, .int .u64 nd, .int .u8 md, .bool rm] w fun e w' => St w0 (TabP B most (openS n nd (and3 md) rm l) * F) w' ∧ e = .returned (.int .i64 (openE n l)) := by
  refine F18.calls (by simp) ?_
  unfold F18.code
  obtain ⟨m, ps, hps, h3⟩ := TabP.open h
  have hag : agt n l = (agt n ps).map (·.2) := by rw [← hps, agt_amap]
  simp -dsimp -implicitDefEqProofs (disch := omega) only [go_sem, reqD_of, dec_t, dec_f, wrap_i64, wrap_u32, wrap_u64, wrap_u8, h3.cl B]
  refine h3.lkH (b := m) Try.underlying86 lawU zeroV_fid ?_
  rw [lk_amap, lkV_get]
  simp -dsimp -implicitDefEqProofs (disch := omega) only [go_sem, reqD_of, dec_t, dec_f, wrap_i64, wrap_u32, wrap_u64, wrap_u8]
  refine h3.new fun X w4 h4 => ?_
  simp -dsimp -implicitDefEqProofs (disch := omega) only [go_sem, reqD_of, dec_t, dec_f, wrap_i64, wrap_u32, wrap_u64, wrap_u8]
  cases hk : agt n ps with
  | none =>
    rw [hk] at hag
    simp only [Option.getD_none, Option.isSome_none]
    refine h4.stoAll (cs := fdC zF zFid) rfl rfl (fdC_cells rfl) fun w5 h5 => ?_
    simp -dsimp -implicitDefEqProofs (disch := omega) only [go_sem, reqD_of, dec_t, dec_f, wrap_i64, wrap_u32, wrap_u64, wrap_u8]
    have hE : openE n l = 100 := by simp [openE, hag]
    have hS : openS n nd (and3 md) rm l = l := by simp [openS, hE]
    rw [hS, hE]
    have h6 := TabP.col (B := B) (m := m) (most := most) h5 hps
    exact ⟨h6.sub, rfl⟩
  | some u =>
    obtain ⟨v, f⟩ := u
    rw [hk] at hag
    simp only [Option.map_some] at hag
    have hu : Okf (v, f) := hearts_cell hk (h3.take (.blk B)).right.sw2
    simp only [Option.getD_some, Option.isSome_some]
    refine h4.stoAll (cs := fdC v f) rfl rfl (fdC_cells hu.1) fun w5 h5 => ?_
    have hrow5 := h5.rowH X 14 rfl
    simp -dsimp -implicitDefEqProofs (disch := omega) only [go_sem, reqD_of, dec_t, dec_f, wrap_i64, wrap_u32, wrap_u64, wrap_u8, hrow5]
    refine (shut_any (p := (v, f)) h5).mono ?_
    rintro e w6 ⟨h6, rfl⟩
    have hE : openE n l = shutE f := by simp [openE, hag]
    by_cases q2 : shutE f = 0
    · have h6 := h6.drew
      have hB6 := h6.cl B
      have hX6 := h6.cl X
      simp only [fdC] at hX6
      simp -dsimp -implicitDefEqProofs (disch := omega) only [go_sem, reqD_of, dec_t, dec_f, wrap_i64, wrap_u32, wrap_u64, wrap_u8, q2, hB6, hX6]
      refine onV_of (v := fdV (zF, openF f nd (and3 md) rm)) rfl ?_
      simp -dsimp -implicitDefEqProofs (disch := omega) only [go_sem, reqD_of, dec_t, dec_f, wrap_i64, wrap_u32, wrap_u64, wrap_u8, hB6, hX6]
      refine h6.updH (b := m) Try.underlying86 lawU fun w7 h7 => ?_
      have hB7 := h7.cl B
      have hX7 := h7.cl X
      simp only [fdC] at hX7
      simp -dsimp -implicitDefEqProofs (disch := omega) only [go_sem, reqD_of, dec_t, dec_f, wrap_i64, wrap_u32, wrap_u64, wrap_u8, hB7, hX7]
      have h7' := h7.nilHeard (f := openF f nd (and3 md) rm) rfl
      have h8 := TabP.put (B := B) (m := m) (most := most) (n := n) (v := zF) (f := openF f nd (and3 md) rm) h7' hps ⟨rfl, by simp [openF, zFid]⟩
      have hS : openS n nd (and3 md) rm l = aset n (openF f nd (and3 md) rm) l := by simp [openS, hE, q2, hag]
      rw [hS, hE, q2]
      exact ⟨h8.sub, rfl⟩
    · simp -dsimp -implicitDefEqProofs (disch := omega) only [go_sem, reqD_of, dec_t, dec_f, wrap_i64, wrap_u32, wrap_u64, wrap_u8, q2]
      have hS : openS n nd (and3 md) rm l = l := by simp [openS, hE, q2]
      rw [hS, hE]
      have h8 := TabP.col (B := B) (m := m) (most := most) h6 hps
      exact ⟨h8.sub, rfl⟩

def toldE (n : Int) (l : List (Int × FidD)) : Int := if (agt n l).isSome = true then (if ((agt n l).getD zFid).st = 2 then 0 else 117) else 100
def toldS (n last told : Int) (l : List (Int × FidD)) : List (Int × FidD) := if toldE n l = 0 then aset n (toldF ((agt n l).getD zFid) last told) l else l

theorem hearts_same {w0 w : World} {ps : FPs} {n : Int} {v : Value} {f g : FidD} {A : HP} (hk : agt n ps = some (v, f)) (hg : g.heard = f.heard) (h : St w0 (hearts ps * A) w) : St w0 (hearts (aset n (v, g) ps) * A) w := by
  rw [hearts_at hk] at h
  rw [hearts_set hk]
  have e : HP.fact (Okf (v, g)) (HeardP (v, g)) = HP.fact (Okf (v, f)) (HeardP (v, f)) := by
    unfold Okf
    show HP.fact (_ ∧ g.heard.length < _) (RowO _ 1 v g.heard.length (byR g.heard)) = _
    rw [hg]
  rw [e]
  exact h

end
section
attribute [local go_sem] F35.t6_eq F35.t4_eq
theorem toldF_any {w0 w : World} {F : HP} {B : Nat} {most n last told : Int} {l : List (Int × FidD)} (h : St w0 (TabP B most l * F) w) :
    Calls Try.prog 35 #[.pointer (some ⟨B, 0, none⟩), .int .u32 n, .int .u64 last, .int .u64 told] w fun e w' => St w0 (TabP B most (toldS n last told l) * F) w' ∧ e = .returned (.int .i64 (toldE n l)) := by
  refine F35.calls (by simp) ?_
  unfold F35.code
  obtain ⟨m, ps, hps, h3⟩ := TabP.open h
  have hag : agt n l = (agt n ps).map (·.2) := by rw [← hps, agt_amap]
  simp -dsimp -implicitDefEqProofs (disch := omega) only [go_sem, reqD_of, dec_t, dec_f, wrap_i64, wrap_u32, wrap_u64, wrap_u8, h3.cl B]
  refine h3.lkH (b := m) Try.underlying86 lawU zeroV_fid ?_
  rw [lk_amap, lkV_get]
  simp -dsimp -implicitDefEqProofs (disch := omega) only [go_sem, reqD_of, dec_t, dec_f, wrap_i64, wrap_u32, wrap_u64, wrap_u8]
  refine h3.new fun X w4 h4 => ?_
  simp -dsimp -implicitDefEqProofs (disch := omega) only [go_sem, reqD_of, dec_t, dec_f, wrap_i64, wrap_u32, wrap_u64, wrap_u8]
  cases hk : agt n ps with
  | none =>
    rw [hk] at hag
    simp only [Option.getD_none, Option.isSome_none]
    refine h4.stoAll (cs := fdC zF zFid) rfl rfl (fdC_cells rfl) fun w5 h5 => ?_
    simp -dsimp -implicitDefEqProofs (disch := omega) only [go_sem, reqD_of, dec_t, dec_f, wrap_i64, wrap_u32, wrap_u64, wrap_u8]
    have hE : toldE n l = 100 := by simp [toldE, hag]
    have hS : toldS n last told l = l := by simp [toldS, hE]
    rw [hS, hE]
    have h6 := TabP.col (B := B) (m := m) (most := most) h5 hps
    exact ⟨h6.sub, rfl⟩
  | some u =>
    obtain ⟨v, f⟩ := u
    rw [hk] at hag
    simp only [Option.map_some] at hag
    have hu : Okf (v, f) := hearts_cell hk (h3.take (.blk B)).right.sw2
    simp only [Option.getD_some, Option.isSome_some]
    refine h4.stoAll (cs := fdC v f) rfl rfl (fdC_cells hu.1) fun w5 h5 => ?_
    have hc5 := h5.cl X
    simp only [fdC] at hc5
    by_cases q : f.st = 2
    · simp -dsimp -implicitDefEqProofs (disch := omega) only [go_sem, reqD_of, dec_t, dec_f, wrap_i64, wrap_u32, wrap_u64, wrap_u8, hc5, q]
      refine h5.sto (b := X) (off := 5) (by simp [fdC]) rfl fun w6 h6 => ?_
      simp -dsimp -implicitDefEqProofs (disch := omega) only [go_sem, reqD_of, dec_t, dec_f, wrap_i64, wrap_u32, wrap_u64, wrap_u8]
      refine h6.sto (b := X) (off := 6) (by simp [fdC]) rfl fun w7 h7 => ?_
      have h7 := h7.drew
      have h7' : St w0 (Blk X (fidB v (toldF f last told)) * (Blk B (tabB most m) * (MapP encU m (amap fdV ps) * (hearts ps * F)))) w7.drew := h7
      have hB7 := h7'.cl B
      have hX7 := h7'.rowH X 14 rfl
      simp -dsimp -implicitDefEqProofs (disch := omega) only [go_sem, reqD_of, dec_t, dec_f, wrap_i64, wrap_u32, wrap_u64, wrap_u8, hB7, hX7]
      refine h7'.updH (b := m) Try.underlying86 lawU fun w8 h8 => ?_
      have hB8 := h8.cl B
      have hX8 := h8.rowH X 14 rfl
      simp -dsimp -implicitDefEqProofs (disch := omega) only [go_sem, reqD_of, dec_t, dec_f, wrap_i64, wrap_u32, wrap_u64, wrap_u8, hB8, hX8]
      have hE : toldE n l = 0 := by simp [toldE, hag, q]
      have hS : toldS n last told l = aset n (toldF f last told) l := by simp [toldS, hE, hag]
      rw [hS, hE]
      rw [show upd n (Value.agg (fdC v (toldF f last told)).toArray) (amap fdV ps) = amap fdV (aset n (v, toldF f last told) ps) from upd_amap fdV n (v, toldF f last told) ps] at h8
      have h9 := hearts_same (g := toldF f last told) hk rfl (h8.ac (by ac_rfl : _ = hearts ps * (Blk B (tabB most m) * (MapP encU m (amap fdV (aset n (v, toldF f last told) ps)) * (Blk X (fidB v (toldF f last told)) * F)))))
      have e : amap (·.2) (aset n (v, toldF f last told) ps) = aset n (toldF f last told) l := by rw [← hps]; exact (aset_amap (fun x : HF => x.2) n (v, toldF f last told) ps).symm
      have h10 := TabP.col (B := B) (m := m) (most := most) h9 e
      exact ⟨h10.sub, rfl⟩
    · simp -dsimp -implicitDefEqProofs (disch := omega) only [go_sem, reqD_of, dec_t, dec_f, wrap_i64, wrap_u32, wrap_u64, wrap_u8, hc5, q]
      have hE : toldE n l = 117 := by simp [toldE, hag, q]
      have hS : toldS n last told l = l := by simp [toldS, hE]
      rw [hS, hE]
      have h6 := TabP.col (B := B) (m := m) (most := most) h5 hps
      exact ⟨h6.sub, rfl⟩

def opensN (nd : Int) (l : List (Int × FidD)) : Nat := l.countP fun x => decide (x.2.st = 2) && decide (x.2.nd = nd)
theorem opensN_perm {nd : Int} {l l' : List (Int × FidD)} (h : l.Perm l') : opensN nd l = opensN nd l' := h.countP_eq _
theorem amap_perm {α β κ : Type} (f : α → β) {l l' : List (κ × α)} (h : l.Perm l') : (amap f l).Perm (amap f l') := h.map _

end
section
attribute [local go_sem] F19.t4_eq F19.t7_eq
theorem opens_any {w0 w : World} {F : HP} {B : Nat} {most nd : Int} {l : List (Int × FidD)} (h : St w0 (TabP B most l * F) w) (hl : l.length < 1099511627776) :
    Calls Try.prog 19 #[.pointer (some ⟨B, 0, none⟩), .int .u64 nd] w fun e w' => St w0 (TabP B most l * F) w' ∧ e = .returned (.int .i64 (opensN nd l)) := by
  refine F19.calls (by simp) ?_
  unfold F19.code
  obtain ⟨m, ps, hps, h3⟩ := TabP.open h
  simp -dsimp -implicitDefEqProofs (disch := omega) only [go_sem, reqD_of, dec_t, dec_f, wrap_i64, wrap_u32, wrap_u64, wrap_u8, h3.cl B]
  refine h3.rangeH (b := m) Try.underlying86 fun r w4 h4 => ?_
  simp -dsimp -implicitDefEqProofs (disch := omega) only [go_sem, reqD_of, dec_t, dec_f, wrap_i64, wrap_u32, wrap_u64, wrap_u8]
  refine loop_intro (fun e w' => e.ds = [] ∧ e.ρ 1 = .int .u64 nd ∧ e.ρ 12 = .pointer (some ⟨r, 0, none⟩) ∧ ∃ (done left : FPs), (done ++ left).Perm ps ∧ e.ρ 5 = .int .i64 (opensN nd (amap (·.2) done)) ∧ St w0 (Blk B (tabB most m) * (IterP encU m r (amap fdV ps) (amap fdV left) * (hearts ps * F))) w')
    (fun _ w => iterLeft m r w) ?_ ?_
  · exact ⟨rfl, by simp -dsimp -implicitDefEqProofs only [go_sem], by simp -dsimp -implicitDefEqProofs only [go_sem], [], ps, by simp, by (simp -dsimp -implicitDefEqProofs only [go_sem]); rfl, h4⟩
  rintro e w5 ⟨hd, e1, e12, done, left, hp, e5, h5⟩
  have hleft := h5.iterLeft m
  simp -dsimp -implicitDefEqProofs (disch := omega) only [go_sem, reqD_of, dec_t, dec_f, wrap_i64, wrap_u32, wrap_u64, wrap_u8, hd, e1, e12, e5]
  refine h5.nextP (lf := left) m (fun hnil => ?_) fun x rest w6 hxr h6 => ?_
  · subst hnil
    simp -dsimp -implicitDefEqProofs (disch := omega) only [go_sem, reqD_of, dec_t, dec_f, wrap_i64, wrap_u32, wrap_u64, wrap_u8, hd, e1, e12, e5]
    have h7 := h5.iterEnd m
    have h8 := TabP.col (B := B) (m := m) (most := most) h7 hps
    have hN : opensN nd l = opensN nd (amap (·.2) done) := by rw [← hps]; exact opensN_perm (amap_perm _ (by simpa using hp.symm))
    rw [hN]
    exact ⟨h8.sub, rfl⟩
  obtain ⟨k, v, f⟩ := x
  simp -dsimp -implicitDefEqProofs (disch := omega) only [go_sem, reqD_of, dec_t, dec_f, wrap_i64, wrap_u32, wrap_u64, wrap_u8, hd, e1, e12, e5]
  refine h6.entryH m ?_
  simp -dsimp -implicitDefEqProofs (disch := omega) only [go_sem, reqD_of, dec_t, dec_f, wrap_i64, wrap_u32, wrap_u64, wrap_u8, hd, e1, e12, e5]
  refine h6.new fun X w7 h7 => ?_
  have hx : ps.Perm ((k, (v, f)) :: (done ++ rest)) := hp.symm.trans ((List.Perm.append_left done hxr.symm).trans List.perm_middle)
  have hu : Okf (v, f) := by
    have hmem : (k, (v, f)) ∈ ps := hx.symm.subset List.mem_cons_self
    have hag : agt k ps = some (v, f) := agt_of_mem (by rw [← amap_keys fdV]; exact h3.mapNodup m) hmem
    exact hearts_cell hag h7.right.right.right
  simp -dsimp -implicitDefEqProofs (disch := omega) only [go_sem, reqD_of, dec_t, dec_f, wrap_i64, wrap_u32, wrap_u64, wrap_u8]
  refine h7.stoAll (b := X) (cs := fdC v f) rfl rfl (fdC_cells hu.1) fun w8 h8 => ?_
  have hc8 := h8.cl X
  simp only [fdC] at hc8
  have h9 := h8.right.iterDone m
  have hl5 := h9.iterLeft m
  have hel : rest.length + 1 = left.length := by have := hxr.length_eq; simpa using this
  have hla : ∀ q : FPs, (amap fdV q).length = q.length := fun q => by simp [amap]
  have hpm : (done ++ [(k, (v, f))] ++ rest).Perm ps := by
    refine List.Perm.trans ?_ hp
    rw [List.append_assoc]
    exact List.Perm.append_left done hxr
  have hbnd : opensN nd (amap (·.2) done) < 1099511627776 := by
    have h1 : opensN nd (amap (·.2) done) ≤ (amap (fun x : HF => x.2) done).length := List.countP_le_length
    have h2 : (amap (fun x : HF => x.2) done).length = done.length := by simp [amap]
    have h3 := hp.length_eq
    have h4 : l.length = ps.length := by rw [← hps]; simp [amap]
    rw [List.length_append] at h3
    omega
  have hcnt : opensN nd (amap (·.2) (done ++ [(k, (v, f))])) = opensN nd (amap (·.2) done) + (if f.st = 2 ∧ f.nd = nd then 1 else 0) := by
    simp only [opensN, amap, List.map_append, List.countP_append, List.map_cons, List.map_nil, List.countP_cons, List.countP_nil]
    by_cases a1 : f.st = 2 <;> by_cases a2 : f.nd = nd <;> simp [a1, a2]
  by_cases q1 : f.st = 2
  · by_cases q2 : f.nd = nd
    · simp -dsimp -implicitDefEqProofs (disch := omega) only [go_sem, reqD_of, dec_t, dec_f, wrap_i64, wrap_u32, wrap_u64, wrap_u8, hd, e1, e12, e5, hc8, q1, q2]
      refine ⟨⟨done ++ [(k, (v, f))], rest, hpm, ?_, h9⟩, ?_⟩
      · rw [hcnt, if_pos ⟨q1, q2⟩]; push_cast; rfl
      · rw [hl5, hleft, hla, hla]; omega
    · simp -dsimp -implicitDefEqProofs (disch := omega) only [go_sem, reqD_of, dec_t, dec_f, wrap_i64, wrap_u32, wrap_u64, wrap_u8, hd, e1, e12, e5, hc8, q1, q2]
      refine ⟨⟨done ++ [(k, (v, f))], rest, hpm, ?_, h9⟩, ?_⟩
      · rw [hcnt, if_neg (fun h => q2 h.2)]; rfl
      · rw [hl5, hleft, hla, hla]; omega
  · simp -dsimp -implicitDefEqProofs (disch := omega) only [go_sem, reqD_of, dec_t, dec_f, wrap_i64, wrap_u32, wrap_u64, wrap_u8, hd, e1, e12, e5, hc8, q1]
    refine ⟨⟨done ++ [(k, (v, f))], rest, hpm, ?_, h9⟩, ?_⟩
    · rw [hcnt, if_neg (fun h => q1 h.1)]; rfl
    · rw [hl5, hleft, hla, hla]; omega

end
end Go.Proofs.Ytljndiligbaljaa
