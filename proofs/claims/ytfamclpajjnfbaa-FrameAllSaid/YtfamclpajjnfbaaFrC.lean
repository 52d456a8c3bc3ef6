/- Walks of the frame package: Next and Feed. -/
import Derived.Test.YtfamclpajjnfbaaFrB
namespace Go.Proofs.Ytfamclpajjnfbaa
open Go
set_option linter.unusedSimpArgs false
set_option linter.unusedVariables false
set_option maxRecDepth 100000

def Cut.frame (m : Cut) : List UInt8 := m.b0 :: m.b1 :: m.b2 :: m.b3 :: m.body
def Cut.next (m : Cut) : Cut := { m with heads := 0, body := [], taken := m.taken + 1 }

section
attribute [local go_sem] F21.t3_eq
theorem next_no {w0 w : World} {F : HP} {c : Nat} {m : Cut} (h : St w0 (CutP c m * F) w) (hb : m.body.length < 4611686018427387904) (hw : m.whole = false) :
    Calls Try.prog 21 #[.pointer (some ⟨c, 0, none⟩)] w fun e w' => St w0 (CutP c m * F) w' ∧ e = .returned (.tuple #[.slice none 0 0, .bool false]) := by
  refine F21.calls (by simp) ?_
  unfold F21.code
  simp -dsimp -implicitDefEqProofs only [go_sem]
  refine (whole_any h hb).mono ?_
  rintro e w' ⟨h1, rfl⟩
  simp -dsimp -implicitDefEqProofs only [go_sem, hw]
  exact h1

theorem next_yes {w0 w : World} {F : HP} {c : Nat} {m : Cut} (h : St w0 (CutP c m * F) w) (hb : m.body.length < 4294967296) (ht : m.taken < 4611686018427387904) (hw : m.whole = true) :
    Calls Try.prog 21 #[.pointer (some ⟨c, 0, none⟩)] w fun e w' => ∃ v, St w0 (CutP c m.next * (Row 5 1 v m.frame.length (m.frame.map bv) * F)) w' ∧ e = .returned (.tuple #[v, .bool true]) := by
  refine F21.calls (by simp) ?_
  unfold F21.code
  simp -dsimp -implicitDefEqProofs only [go_sem]
  refine (whole_any h (by omega)).mono ?_
  rintro e w' ⟨h1, rfl⟩
  obtain ⟨a, cap, h2⟩ := CutP.open h1
  have h3 := h2.drew
  have hc := h3.cells
  unfold Cut.cells cutCells at hc
  simp -dsimp -implicitDefEqProofs (disch := omega) only [go_sem, reqD_of, dec_t, dec_f, wrap_i64, wrap_u32, wrap_u64, wrap_u8, hw, hc]
  have h4 := h3.ent (Ent.nilRow 5 1 _)
  refine h4.append fact_rowTy_35 (m := 4) (news := [bv m.b0, bv m.b1, bv m.b2, bv m.b3]) ?_ (by simp [maxLen]) (by omega) fun v1 w1 h5 => ?_
  · refine Src.ofSlice _ Try.underlying35 _ 4 4 _ (by simp) (fun j u hu => ?_) (by simp [bv, Value.oneCell'])
    rw [add_lit, hc]
    match j, hu with
    | 0, hu => simpa [bv] using hu
    | 1, hu => simpa [bv] using hu
    | 2, hu => simpa [bv] using hu
    | 3, hu => simpa [bv] using hu
  have hc1 := h5.sw2.cells
  unfold Cut.cells cutCells at hc1
  simp -dsimp -implicitDefEqProofs (disch := omega) only [go_sem, reqD_of, dec_t, dec_f, wrap_i64, wrap_u32, wrap_u64, wrap_u8, hc1]
  have h6 := h5.sw3
  refine h5.append fact_rowTy_35 ((h6.left.ent (Row.reads _ _ _ _ _)).rd.src Try.underlying35 (bv_isCell _) (by simp)) (by simp [maxLen]; omega) (by omega) fun v2 w2 h7 => ?_
  have h7 := h7.sw2
  simp -dsimp -implicitDefEqProofs only [go_sem]
  refine h7.store (arr' := Cut.cells { m with heads := 0 } (.slice a m.body.length cap)) rfl (by simp [Cut.cells, cutCells]) rfl fun w3 h8 => ?_
  simp -dsimp -implicitDefEqProofs only [go_sem]
  refine h8.store (arr' := Cut.cells { m with heads := 0, body := [] } (.slice none 0 0)) rfl (by simp [Cut.cells, cutCells]) rfl fun w4 h9 => ?_
  have hc4 := h9.cells
  unfold Cut.cells cutCells at hc4
  simp -dsimp -implicitDefEqProofs (disch := omega) only [go_sem, reqD_of, dec_t, dec_f, wrap_i64, wrap_u32, wrap_u64, wrap_u8, hc4]
  refine h9.store (arr' := Cut.cells m.next (.slice none 0 0)) rfl (by simp [Cut.cells, cutCells]) rfl fun w5 h10 => ?_
  simp -dsimp -implicitDefEqProofs only [go_sem]
  have e1 : 4 + m.body.length = m.frame.length := by simp [Cut.frame]; omega
  have e2 : [] ++ [bv m.b0, bv m.b1, bv m.b2, bv m.b3] ++ m.body.map bv = m.frame.map bv := by simp [Cut.frame]
  rw [e1, e2] at h10
  exact ⟨v2, CutP.shut (m := m.next) ((h10.drop3).ent (Ent.nilRow _ _ _)).sw2, rfl⟩

/-! ### Feed -/

/-- One byte into a hand that has fewer than four. -/
def Cut.setB (m : Cut) (i : Nat) (x : UInt8) : Cut :=
  match i with
  | 0 => { m with b0 := x }
  | 1 => { m with b1 := x }
  | 2 => { m with b2 := x }
  | _ => { m with b3 := x }

/-- What one byte makes of it, the n-th of a call. -/
def Cut.put (m : Cut) (n : Nat) (x : UInt8) : Cut :=
  if m.heads + 1 = 4 ∧ ((m.setB m.heads x).size < 7 ∨ m.limit < (m.setB m.heads x).size) then
    { m.setB m.heads x with heads := m.heads + 1, dead := true, ahead := m.ever + (n + 1) - 4 }
  else { m.setB m.heads x with heads := m.heads + 1 }

/-- The head's bytes out of a call's, the n-th the next one: how many are taken, and what it has become. -/
def Cut.fill (m : Cut) (n : Nat) : List UInt8 → Nat × Cut
  | [] => (n, m)
  | x :: l => if m.heads < 4 ∧ m.dead = false then (m.put n x).fill (n + 1) l else (n, m)

def Cut.finish (m1 : Cut) (n : Nat) (l : List UInt8) : Nat × Cut :=
  if m1.dead = false ∧ m1.heads = 4 then
    (n + min (l.length - n) (m1.size - 4 - m1.body.length), { m1 with body := m1.body ++ (l.drop n).take (min (l.length - n) (m1.size - 4 - m1.body.length)), ever := m1.ever + (n + min (l.length - n) (m1.size - 4 - m1.body.length)) })
  else (n, { m1 with ever := m1.ever + n })

def Cut.feed (m : Cut) (l : List UInt8) : Nat × Cut := (m.fill 0 l).2.finish (m.fill 0 l).1 l

/-- What a cutter keeps. -/
structure Cut.ok (m : Cut) : Prop where
  heads : m.heads ≤ 4
  few : m.heads < 4 → m.dead = false ∧ m.body = []
  whole : m.heads = 4 → m.dead = false → 7 ≤ m.size ∧ 4 + m.body.length ≤ m.size
  ever : m.ever < 1152921504606846976
  cnt : m.heads ≤ m.ever

end
section
attribute [local go_sem] F20.t3_eq F20.t13_eq F20.t9_eq
theorem feed_tail {w0 w : World} {F : HP} {c : Nat} {m : Cut} {pa : Option Addr} {ca n : Nat} {bs : List UInt8} {e : FA} (h : St w0 (CutP c m * F) w) (hr : Ent F (RdB (.slice pa bs.length ca) bs)) (hn : n ≤ bs.length)
    (hb : m.body.length < 4294967296) (hl : bs.length < 1152921504606846976) (hw : m.heads = 4 → m.dead = false → 4 + m.body.length ≤ m.size) (hev : m.ever < 1152921504606846976)
    (hd : e.ds = []) (e0 : e.ρ 0 = .pointer (some ⟨c, 0, none⟩)) (e1 : e.ρ 1 = .slice pa bs.length ca) (e5 : e.ρ 5 = .int .i64 n) :
    cwE Try.prog F20.t9 (fnP Try.prog #[.tmp 4] fun e w' => St w0 (CutP c (m.finish n bs).2 * F) w' ∧ e = .returned (.int .i64 (m.finish n bs).1)) e w := by
  obtain ⟨a, cap, h1⟩ := CutP.open h
  have hc := h1.cells
  unfold Cut.cells cutCells at hc
  by_cases hx : m.dead = false ∧ (m.heads : Int) = 4
  · obtain ⟨hdd, hh⟩ := hx
    have h2 := h1.drew
    have hc2 := h2.cells
    unfold Cut.cells cutCells at hc2
    have hz := m.size_lt
    have hw' := hw (by omega) hdd
    obtain ⟨k, hk⟩ : ∃ k, k = min (bs.length - n) (m.size - 4 - m.body.length) := ⟨_, rfl⟩
    have hki : (if (m.size : Int) - 4 - m.body.length < (bs.length : Int) - n then (m.size : Int) - 4 - m.body.length else (bs.length : Int) - n) = k := by split <;> omega
    have hkn : n + k ≤ bs.length := by omega
    obtain ⟨pa', ca', hv, hca, hra⟩ := (h2.right.right.ent hr).bytes
    simp only [Value.slice.injEq, true_and] at hv
    obtain ⟨rfl, rfl⟩ := hv
    simp -dsimp -implicitDefEqProofs (disch := omega) only [go_sem, reqD_of, dec_t, dec_f, wrap_i64, wrap_u32, wrap_u64, wrap_u8, hd, e0, e1, e5, hc, hc2, hdd, hh]
    refine (size_cut h2).mono ?_
    rintro e' w' ⟨rfl, rfl⟩
    have h3 := h2.drew
    have hc3 := h3.cells
    unfold Cut.cells cutCells at hc3
    simp -dsimp -implicitDefEqProofs (disch := omega) only [go_sem, reqD_of, dec_t, dec_f, wrap_i64, wrap_u32, wrap_u64, wrap_u8, hd, e0, e1, e5, hc2, hc3, hki]
    have hsub := (h3.right.right.ent hr).ent (RdB.sub (lo := n) (k := k) hkn)
    have hl2 : ((bs.drop n).take k).length = k := by simp; omega
    have hk2 : ((n : Int) + (k : Int)).toNat - n = k := by omega
    rw [hk2]
    have h4 := h3.sw2
    refine h4.append fact_rowTy_35 (hsub.rd.src Try.underlying35 (bv_isCell _) (fun h => by simpa using congrArg List.length h)) (by simp [maxLen]; omega) (by rw [hl2]; omega) fun v2 w2 h5 => ?_
    rw [hl2, ← List.map_append] at h5
    obtain ⟨a2, cap2, rfl, _⟩ := Row.form h5
    have h6 := h5.sw2
    simp -dsimp -implicitDefEqProofs only [go_sem]
    refine h6.store (arr' := Cut.cells { m with body := m.body ++ (bs.drop n).take k } (.slice a2 (m.body.length + k) cap2)) rfl (by simp [Cut.cells, cutCells]) rfl fun w3 h7 => ?_
    have hc7 := h7.cells
    unfold Cut.cells cutCells at hc7
    simp -dsimp -implicitDefEqProofs (disch := omega) only [go_sem, reqD_of, dec_t, dec_f, wrap_i64, wrap_u32, wrap_u64, wrap_u8, hd, e0, e1, e5, hc7, hki]
    refine h7.store (arr' := Cut.cells { m with body := m.body ++ (bs.drop n).take k, ever := m.ever + (n + k) } (.slice a2 (m.body.length + k) cap2)) ?_ (by simp [Cut.cells, cutCells]) rfl fun w4 h8 => ?_
    · simp [Cut.cells, cutCells]
    simp -dsimp -implicitDefEqProofs (disch := omega) only [go_sem, reqD_of, dec_t, dec_f, wrap_i64, wrap_u32, wrap_u64, wrap_u8, hd, e0, e1, e5]
    have hf : m.finish n bs = (n + k, { m with body := m.body ++ (bs.drop n).take k, ever := m.ever + (n + k) }) := by
      simp only [Cut.finish, if_pos (And.intro hdd (show m.heads = 4 by omega)), ← hk]
    rw [hf]
    have : m.body.length + k = (m.body ++ (bs.drop n).take k).length := by simp; omega
    rw [this] at h8
    exact ⟨CutP.shut (m := { m with body := m.body ++ (bs.drop n).take k, ever := m.ever + (n + k) }) h8, by simp⟩
  · have hf : m.finish n bs = (n, { m with ever := m.ever + n }) := by
      simp only [Cut.finish, if_neg (show ¬ (m.dead = false ∧ m.heads = 4) from fun h => hx ⟨h.1, by omega⟩)]
    rw [hf]
    by_cases hdd : m.dead = true
    · simp -dsimp -implicitDefEqProofs (disch := omega) only [go_sem, reqD_of, dec_t, dec_f, wrap_i64, wrap_u32, wrap_u64, wrap_u8, hd, e0, e1, e5, hc, hdd]
      refine h1.store (arr' := Cut.cells { m with ever := m.ever + n } (.slice a m.body.length cap)) ?_ (by simp [Cut.cells, cutCells]) rfl fun w4 h8 => ?_
      · simp [Cut.cells, cutCells]
      simp -dsimp -implicitDefEqProofs (disch := omega) only [go_sem, reqD_of, dec_t, dec_f, wrap_i64, wrap_u32, wrap_u64, wrap_u8, hd, e0, e1, e5]
      exact CutP.shut (m := { m with ever := m.ever + n }) h8
    · have hdd : m.dead = false := by simpa using hdd
      have hh : ¬ (m.heads : Int) = 4 := fun h => hx ⟨hdd, h⟩
      simp -dsimp -implicitDefEqProofs (disch := omega) only [go_sem, reqD_of, dec_t, dec_f, wrap_i64, wrap_u32, wrap_u64, wrap_u8, hd, e0, e1, e5, hc, hdd]
      refine h1.store (arr' := Cut.cells { m with ever := m.ever + n } (.slice a m.body.length cap)) ?_ (by simp [Cut.cells, cutCells]) rfl fun w4 h8 => ?_
      · simp [Cut.cells, cutCells]
      simp -dsimp -implicitDefEqProofs (disch := omega) only [go_sem, reqD_of, dec_t, dec_f, wrap_i64, wrap_u32, wrap_u64, wrap_u8, hd, e0, e1, e5]
      exact CutP.shut (m := { m with ever := m.ever + n }) h8

theorem Cut.cells_setB {m : Cut} (hh : m.heads < 4) (x : UInt8) (v : Value) : (m.cells v).setIfInBounds (1 + m.heads) (bv x) = (m.setB m.heads x).cells v := by
  match h : m.heads, hh with
  | 0, _ => simp [Cut.cells, cutCells, Cut.setB, bv, h]
  | 1, _ => simp [Cut.cells, cutCells, Cut.setB, bv, h]
  | 2, _ => simp [Cut.cells, cutCells, Cut.setB, bv, h]
  | 3, _ => simp [Cut.cells, cutCells, Cut.setB, bv, h]

theorem Cut.setB_rest (m : Cut) (i : Nat) (x : UInt8) : (m.setB i x).heads = m.heads ∧ (m.setB i x).body = m.body ∧ (m.setB i x).ever = m.ever ∧ (m.setB i x).dead = m.dead ∧ (m.setB i x).limit = m.limit ∧ (m.setB i x).taken = m.taken ∧ (m.setB i x).ahead = m.ahead := by
  unfold Cut.setB
  split <;> exact ⟨rfl, rfl, rfl, rfl, rfl, rfl, rfl⟩

/-- A call's first n bytes have made m1 of m. -/
structure Fed (m m1 : Cut) (bs : List UInt8) (n : Nat) : Prop where
  fill : m.fill 0 bs = m1.fill n (bs.drop n)
  heads : m1.heads ≤ 4
  body : m1.body = m.body
  ever : m1.ever = m.ever
  few : m1.heads < 4 → m1.dead = false ∧ m1.body = []
  whole : m1.heads = 4 → m1.dead = false → 4 + m1.body.length ≤ m1.size
  cnt : m1.heads ≤ m1.ever + n

theorem Fed.put {m m1 : Cut} {bs : List UInt8} {n : Nat} (h : Fed m m1 bs n) (hn : n < bs.length) (hh : m1.heads < 4) : Fed m (m1.put n (bs.getD n 0)) bs (n + 1) := by
  obtain ⟨hdd, hb⟩ := h.few hh
  obtain ⟨q1, q2, q3, q4, q5, q6, q7⟩ := m1.setB_rest m1.heads (bs.getD n 0)
  have hfill : m.fill 0 bs = (m1.put n (bs.getD n 0)).fill (n + 1) (bs.drop (n + 1)) := by
    rw [h.fill, List.drop_eq_getElem_cons hn]
    simp only [Cut.fill, if_pos (And.intro hh hdd)]
    congr 2
    simp [List.getElem?_eq_getElem hn]
  have e : ∀ b : UInt8, b.toNat < 256 := fun b => b.toNat_lt
  have hcnt := h.cnt
  refine ⟨hfill, ?_, ?_, ?_, ?_, ?_, ?_⟩ <;> unfold Cut.put <;> simp only
  · split <;> simp only <;> omega
  · split <;> exact q2.trans h.body
  · split <;> exact q3.trans h.ever
  · split
    · rename_i hc; intro hx; simp only at hx hc; omega
    · intro hx; exact ⟨q4.trans hdd, q2.trans hb⟩
  · split
    · intro _ hx; cases hx
    · rename_i hc
      intro hx hdx
      simp only at hc hx ⊢
      rw [q2, hb]
      show 4 + 0 ≤ (m1.setB m1.heads (bs.getD n 0)).size
      omega
  · split <;> simp only <;> omega

end
section
attribute [local go_sem] F20.t3_eq F20.t13_eq
theorem feed_any {w0 w : World} {F : HP} {c : Nat} {m : Cut} {v : Value} {bs : List UInt8} (h : St w0 (CutP c m * F) w) (hr : Ent F (RdB v bs)) (hm : m.ok) (hb : m.body.length < 4294967296) (hl : bs.length < 1152921504606846976) :
    Calls Try.prog 20 #[.pointer (some ⟨c, 0, none⟩), v] w fun e w' => St w0 (CutP c (m.feed bs).2 * F) w' ∧ e = .returned (.int .i64 (m.feed bs).1) := by
  obtain ⟨pa, ca, rfl, hca, hra⟩ := (h.right.ent hr).bytes
  refine F20.calls (by simp) ?_
  unfold F20.code
  simp -dsimp -implicitDefEqProofs only [go_sem]
  refine loop_intro (fun e w' => ∃ (n : Nat) (m1 : Cut), e.ds = [] ∧ e.ρ 0 = .pointer (some ⟨c, 0, none⟩) ∧ e.ρ 1 = .slice pa bs.length ca ∧ e.ρ 5 = .int .i64 n ∧ n ≤ bs.length ∧ St w0 (CutP c m1 * F) w' ∧ Fed m m1 bs n)
    (fun e _ => match e.ρ 5 with | .int _ n => (bs.length - n).toNat | _ => 0) ?_ ?_
  · exact ⟨0, m, rfl, rfl, rfl, rfl, by omega, h, rfl, hm.heads, rfl, rfl, hm.few, fun a b => (hm.whole a b).2, hm.cnt⟩
  rintro e w1 ⟨n, m1, hd, e0, e1, e5, hn, h1, hfd⟩
  obtain ⟨a, cap, h2⟩ := CutP.open h1
  have hc := h2.cells
  unfold Cut.cells cutCells at hc
  have hev := hm.ever
  have hev1 := hfd.ever
  have hbd1 := hfd.body
  have hhd1 := hfd.heads
  by_cases hlt : (n : Int) < bs.length
  case neg =>
    have hfin : m.feed bs = m1.finish n bs := by
      have : bs.drop n = [] := by simp; omega
      simp only [Cut.feed, hfd.fill, this, Cut.fill]
    rw [hfin]
    simp -dsimp -implicitDefEqProofs (disch := omega) only [go_sem, reqD_of, dec_t, dec_f, wrap_i64, wrap_u32, wrap_u64, wrap_u8, hd, e0, e1, e5, hc]
    exact feed_tail h1 hr hn (by rw [hbd1]; exact hb) hl hfd.whole (by omega) (by simp -dsimp -implicitDefEqProofs only [go_sem, hd]) (by simp -dsimp -implicitDefEqProofs only [go_sem, e0]) (by simp -dsimp -implicitDefEqProofs only [go_sem, e1]) (by simp -dsimp -implicitDefEqProofs only [go_sem, e5])
  by_cases hh4 : (m1.heads : Int) < 4
  case neg =>
    have hfin : m.feed bs = m1.finish n bs := by
      have : m1.fill n (bs.drop n) = (n, m1) := by
        cases bs.drop n with
        | nil => rfl
        | cons x l => simp only [Cut.fill, if_neg (show ¬ (m1.heads < 4 ∧ m1.dead = false) from fun h => hh4 (by omega))]
      simp only [Cut.feed, hfd.fill, this]
    rw [hfin]
    simp -dsimp -implicitDefEqProofs (disch := omega) only [go_sem, reqD_of, dec_t, dec_f, wrap_i64, wrap_u32, wrap_u64, wrap_u8, hd, e0, e1, e5, hc]
    exact feed_tail h1 hr hn (by rw [hbd1]; exact hb) hl hfd.whole (by omega) (by simp -dsimp -implicitDefEqProofs only [go_sem, hd]) (by simp -dsimp -implicitDefEqProofs only [go_sem, e0]) (by simp -dsimp -implicitDefEqProofs only [go_sem, e1]) (by simp -dsimp -implicitDefEqProofs only [go_sem, e5])
  obtain ⟨hdd, hbn⟩ := hfd.few (by omega)
  have hput := hfd.put (by omega) (by omega)
  have h2d := h2.drew
  have hcd := h2d.cells
  unfold Cut.cells cutCells at hcd
  obtain ⟨pa', ca', hv, _, hra1⟩ := (h2d.right.right.ent hr).bytes
  simp only [Value.slice.injEq, true_and] at hv
  obtain ⟨rfl, rfl⟩ := hv
  rcases hra1 with rfl | ⟨ba, oa, rfl, hra1⟩
  · simp at hlt; omega
  have hx := hra1 n (by omega)
  simp -dsimp -implicitDefEqProofs (disch := omega) only [go_sem, reqD_of, dec_t, dec_f, wrap_i64, wrap_u32, wrap_u64, wrap_u8, hd, e0, e1, e5, hc, hcd, hdd, hx]
  obtain ⟨m2, hm2⟩ : ∃ m2, m2 = m1.setB m1.heads (bs.getD n 0) := ⟨_, rfl⟩
  obtain ⟨q1, q2, q3, q4, q5, q6, q7⟩ := m1.setB_rest m1.heads (bs.getD n 0)
  unfold Cut.put at hput
  rw [← hm2] at q1 q2 q3 q4 q5 q6 q7 hput
  refine h2d.store (arr' := m2.cells (.slice a m1.body.length cap)) (by rw [hm2]; exact Cut.cells_setB (by omega) _ _) (by simp [Cut.cells, cutCells]; omega) rfl fun w2 h3 => ?_
  rw [← q2] at h3
  have hc3 := h3.cells
  unfold Cut.cells cutCells at hc3
  simp -dsimp -implicitDefEqProofs (disch := omega) only [go_sem, reqD_of, dec_t, dec_f, wrap_i64, wrap_u32, wrap_u64, wrap_u8, hd, e0, e1, e5, hc3, q1]
  obtain ⟨m3, hm3⟩ : ∃ m3 : Cut, m3 = { m2 with heads := m1.heads + 1 } := ⟨_, rfl⟩
  simp only at hput
  have r1 : m3.heads = m1.heads + 1 := by rw [hm3]
  have r2 : m3.body = m2.body := by rw [hm3]
  have r3 : m3.ever = m2.ever := by rw [hm3]
  have r4 : m3.dead = m2.dead := by rw [hm3]
  have r5 : m3.limit = m2.limit := by rw [hm3]
  rw [← hm3] at hput
  refine h3.store (arr' := Cut.cells m3 (.slice a m2.body.length cap)) (by rw [hm3]; simp [Cut.cells, cutCells]) (by simp [Cut.cells, cutCells]) rfl fun w3 h4 => ?_
  rw [← r2] at h4
  have h5 := h4.drew
  have hc4 := h4.cells
  have hc5 := h5.cells
  unfold Cut.cells cutCells at hc4 hc5
  have hgo : ∀ (e' : FA) (w' : World), e'.ds = [] → e'.ρ 0 = .pointer (some ⟨c, 0, none⟩) → e'.ρ 1 = .slice (some ⟨ba, oa, none⟩) bs.length ca → e'.ρ 5 = .int .i64 ((n + 1 : Nat) : Int) →
      ∀ m4, St w0 (CutP c m4 * F) w' → Fed m m4 bs (n + 1) → True := fun _ _ _ _ _ _ _ _ _ => trivial
  have hsz : m3.size = m2.size := by rw [hm3]; rfl
  by_cases h3h : (m3.heads : Int) = 4
  case neg =>
    rw [if_neg (by omega)] at hput
    simp -dsimp -implicitDefEqProofs (disch := omega) only [go_sem, reqD_of, dec_t, dec_f, wrap_i64, wrap_u32, wrap_u64, wrap_u8, hd, e0, e1, e5, hc4, hc5, h3h]
    exact ⟨⟨n + 1, m3, rfl, by omega, CutP.shut h5, hput⟩, by omega⟩
  have hcnt := hfd.cnt
  have hah : (m3.ever : Int) + ((n : Int) + 1) - 4 = ((m3.ever + (n + 1) - 4 : Nat) : Int) := by omega
  -- the head is wrong: dead
  have hdead : m3.size < 7 ∨ m3.limit < m3.size → Fed m { m3 with dead := true, ahead := m3.ever + (n + 1) - 4 } bs (n + 1) := by
    intro hx
    rw [if_pos ⟨by omega, by rw [hsz, r5, q5] at hx; exact hx⟩] at hput
    subst hm3
    simp only [q3] at hput ⊢
    exact hput
  have halive : ¬ (m3.size < 7 ∨ m3.limit < m3.size) → Fed m m3 bs (n + 1) := by
    intro hx
    rw [if_neg (fun h => hx (by rw [hsz, r5, q5]; exact h.2))] at hput
    exact hput
  simp -dsimp -implicitDefEqProofs (disch := omega) only [go_sem, reqD_of, dec_t, dec_f, wrap_i64, wrap_u32, wrap_u64, wrap_u8, hd, e0, e1, e5, hc4, hc5, h3h]
  refine (size_cut h5).mono ?_
  rintro e' w' ⟨rfl, rfl⟩
  have hz3 := m3.size_lt
  by_cases hs7 : (m3.size : Int) < 7
  · simp -dsimp -implicitDefEqProofs (disch := omega) only [go_sem, reqD_of, dec_t, dec_f, wrap_i64, wrap_u32, wrap_u64, wrap_u8, hd, e0, e1, e5, hc4, hc5, h3h]
    refine h5.store (arr' := Cut.cells { m3 with dead := true } (.slice a m3.body.length cap)) (by simp [Cut.cells, cutCells]) (by simp [Cut.cells, cutCells]) rfl fun w4 h6 => ?_
    have hc6 := h6.cells
    unfold Cut.cells cutCells at hc6
    simp -dsimp -implicitDefEqProofs (disch := omega) only [go_sem, reqD_of, dec_t, dec_f, wrap_i64, wrap_u32, wrap_u64, wrap_u8, hd, e0, e1, e5, hc6]
    rw [hah]
    refine h6.store (arr' := Cut.cells { m3 with dead := true, ahead := m3.ever + (n + 1) - 4 } (.slice a m3.body.length cap)) (by simp [Cut.cells, cutCells]) (by simp [Cut.cells, cutCells]) rfl fun w5 h7 => ?_
    simp -dsimp -implicitDefEqProofs (disch := omega) only [go_sem, reqD_of, dec_t, dec_f, wrap_i64, wrap_u32, wrap_u64, wrap_u8, hd, e0, e1, e5]
    exact ⟨⟨n + 1, _, rfl, by omega, CutP.shut (m := { m3 with dead := true, ahead := m3.ever + (n + 1) - 4 }) h7, hdead (.inl (by omega))⟩, by omega⟩
  · simp -dsimp -implicitDefEqProofs (disch := omega) only [go_sem, reqD_of, dec_t, dec_f, wrap_i64, wrap_u32, wrap_u64, wrap_u8, hd, e0, e1, e5, hc4, hc5, h3h]
    refine (size_cut h5).mono ?_
    rintro e' w' ⟨rfl, rfl⟩
    by_cases hsl : (m3.limit : Int) < m3.size
    · simp -dsimp -implicitDefEqProofs (disch := omega) only [go_sem, reqD_of, dec_t, dec_f, wrap_i64, wrap_u32, wrap_u64, wrap_u8, hd, e0, e1, e5, hc4, hc5, h3h]
      refine h5.store (arr' := Cut.cells { m3 with dead := true } (.slice a m3.body.length cap)) (by simp [Cut.cells, cutCells]) (by simp [Cut.cells, cutCells]) rfl fun w4 h6 => ?_
      have hc6 := h6.cells
      unfold Cut.cells cutCells at hc6
      simp -dsimp -implicitDefEqProofs (disch := omega) only [go_sem, reqD_of, dec_t, dec_f, wrap_i64, wrap_u32, wrap_u64, wrap_u8, hd, e0, e1, e5, hc6]
      rw [hah]
      refine h6.store (arr' := Cut.cells { m3 with dead := true, ahead := m3.ever + (n + 1) - 4 } (.slice a m3.body.length cap)) (by simp [Cut.cells, cutCells]) (by simp [Cut.cells, cutCells]) rfl fun w5 h7 => ?_
      simp -dsimp -implicitDefEqProofs (disch := omega) only [go_sem, reqD_of, dec_t, dec_f, wrap_i64, wrap_u32, wrap_u64, wrap_u8, hd, e0, e1, e5]
      exact ⟨⟨n + 1, _, rfl, by omega, CutP.shut (m := { m3 with dead := true, ahead := m3.ever + (n + 1) - 4 }) h7, hdead (.inr (by omega))⟩, by omega⟩
    · simp -dsimp -implicitDefEqProofs (disch := omega) only [go_sem, reqD_of, dec_t, dec_f, wrap_i64, wrap_u32, wrap_u64, wrap_u8, hd, e0, e1, e5, hc4, hc5, h3h]
      exact ⟨⟨n + 1, m3, rfl, by omega, CutP.shut h5, halive (by omega)⟩, by omega⟩

end
end Go.Proofs.Ytfamclpajjnfbaa
