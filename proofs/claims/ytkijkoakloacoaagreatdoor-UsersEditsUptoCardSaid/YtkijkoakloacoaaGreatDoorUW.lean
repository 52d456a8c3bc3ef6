/- users: Edit. users: Edit, whole. -/
import Derived.Test.YtkijkoakloacoaaGreatDoorUV
namespace Go.Proofs.YtkijkoakloacoaaGreatDoor
open Go
set_option linter.unusedVariables false
set_option linter.unusedSimpArgs false
set_option maxRecDepth 100000

/-! ### Plain -/

/-- Accounts that a table has. -/
structure TabL (L : List Acc) : Prop where
  nodup : (L.map (·.name)).Nodup
  join : joinF L = true
theorem endE_ok {L M : List Acc} (h : endE L = .ok M) : L = M ∧ joinF M = true := by
  unfold endE at h
  split at h
  · rename_i hj; cases h; exact ⟨rfl, hj⟩
  · cases h
theorem edit_tab {L M : List Acc} {line : List UInt8} (t : TabL L) (h : editF L line = .ok M) : TabL M := by
  refine ⟨edit_nodup t.nodup h, ?_⟩
  unfold editF at h
  split at h
  · split at h
    · exact (endE_ok h).2
    · cases h
  · unfold editA at h
    split at h
    · cases h
    · split at h
      · cases h
      · split at h
        · cases h
        · exact (endE_ok h).2
theorem parse_tab {s : List UInt8} {L : List Acc} (h : parseF s = .ok L) : TabL L := by
  refine ⟨parse_nodup h, ?_⟩
  unfold parseF at h
  split at h
  · cases h
  split at h
  · cases h
  · unfold endF at h
    split at h
    · cases h
    · split at h
      · rename_i hj; cases h; exact hj
      · cases h
theorem text_pos : ∀ L : List Acc, L.length ≤ (textF L).length
  | [] => by simp
  | a :: L => by
    have := text_pos L
    simp only [textF, List.flatMap_cons, List.length_append, List.length_cons, lineF, List.length_nil] at this ⊢
    omega
theorem TabL.few {L : List Acc} (t : TabL L) : L.length ≤ 65536 ∧ (textF L).length ≤ 65536 := by
  have h1 := text_pos L
  have h2 : (textF L).length ≤ 65536 := of_decide_eq_true t.join
  omega
theorem text_left (L : List Acc) (g : List UInt8) : (textF (leftF L g)).length ≤ (textF L).length := by
  induction L with
  | nil => simp [leftF]
  | cons a L ih =>
    unfold leftF at ih ⊢
    rw [List.filter_cons]
    split
    · simp only [textF, List.flatMap_cons, List.length_append] at ih ⊢; omega
    · simp only [textF, List.flatMap_cons, List.length_append] at ih ⊢; omega
theorem text_map (a : Acc) (f : Acc → Acc) (hf : ∀ b, f b = a ∨ f b = b) : ∀ L : List Acc, (textF (L.map f)).length ≤ (textF L).length + L.length * (lineF a).length
  | [] => by simp [textF]
  | b :: L => by
    have := text_map a f hf L
    simp only [textF, List.map_cons, List.flatMap_cons, List.length_append, List.length_cons, Nat.add_mul] at this ⊢
    rcases hf b with e | e <;> rw [e] <;> omega
theorem text_put (L : List Acc) (a : Acc) : (textF (putF L a)).length ≤ (textF L).length + (L.length + 1) * (lineF a).length ∧ (putF L a).length ≤ L.length + 1 := by
  unfold putF
  split
  · have := text_map a (fun b => if b.name = a.name then a else b) (fun b => by by_cases e : b.name = a.name <;> simp [e]) L
    rw [Nat.add_mul]
    exact ⟨by omega, by simp⟩
  · rw [text_snoc, List.length_append, Nat.add_mul]
    exact ⟨by omega, by simp⟩

/-! ### The walk -/

def EditR (w0 : World) (C6 T m : Nat) (x : UT) (A : HP) (line : List UInt8) (e : Ending) (w' : World) : Prop :=
  (e = .returned (.tuple #[]) ∧ ∃ (U mu : Nat) (x' : UT), editF (accs x.L) line = .ok (accs x'.L) ∧ x'.Ok ∧ St w0 (cellT C6 U * (TabW U mu x' * (TabW T m x * A))) w') ∨
  (∃ k : Nat, e = .panicked (trouble k) ∧ (k ≠ 0 ∧ editF (accs x.L) line = .error k) ∧ St w0 (TabW T m x * A) w')

/-- A table is ended. -/
theorem join_new {w0 w : World} {A : HP} {U mu : Nat} {M : List Acc} (h : St w0 (NewT U mu M * A) w) (hl : (textF M).length ≤ 70368744177664) (hn : M.length ≤ 70368744177664) :
    Calls Tryz.prog 35 #[.pointer (some ⟨U, 0, none⟩)] w fun e w' =>
      (joinF M = true ∧ (∃ x' : UT, accs x'.L = M ∧ x'.Ok ∧ St w0 (TabW U mu x' * A) w') ∧ e = .returned (.tuple #[])) ∨
      (joinF M = false ∧ St w0 A w' ∧ e = .panicked (trouble 1)) := by
  obtain ⟨vl, L', B, rfl, hB, h1⟩ := NewT.open h
  rw [List.length_map] at hn
  refine (join_any h1 (hB.weak (Ent.left _ _)) hl hn).mono ?_
  rintro e w1 (⟨hj, ⟨mi, inl, hin, h2⟩, rfl⟩ | ⟨hj, h2, rfl⟩)
  · exact .inl ⟨hj, ⟨⟨vl, mi, inl, L', B⟩, rfl, ⟨hB, hin⟩, h2.ac (by unfold TabW; ac_rfl)⟩, rfl⟩
  · exact .inr ⟨hj, h2.right.right, rfl⟩

theorem gone_pos {line : List UInt8} (h : line.take 1 = [45]) : goneF line = if nameF (line.drop 1) = true then some (line.drop 1) else none := by
  cases line with
  | nil => cases h
  | cons c g =>
    simp only [List.take_succ_cons, List.take_zero, List.cons.injEq, and_true] at h
    subst h
    simp [goneF]
theorem gone_neg {line : List UInt8} (h : ¬ line.take 1 = [45]) : goneF line = none := by
  cases line with
  | nil => rfl
  | cons c g =>
    simp only [List.take_succ_cons, List.take_zero, List.cons.injEq, and_true] at h
    simp [goneF, h]

section
attribute [local go_sem] F54.t10_eq F54.t4_eq
theorem edit_10 {w0 w : World} {A : HP} {C2 C3 C6 P T m U mu D : Nat} {x : UT} {line : List UInt8} {a : Acc} {v : Value} {e : FA} {ar : Array Value} (ok : x.Ok) (t : TabL (accs x.L)) (hl : (lineF a).length ≤ 16777216) (hg : goneF line = none) (ha : accF line = some a) (ho : onceF a = true) (hf : Fit a) (hv : isCell v = true)
    (hd : e.ds = [{ target := .collected D, args := ar }]) (e2 : e.ρ 2 = .pointer (some ⟨C6, 0, none⟩)) (e5 : e.ρ 5 = .pointer (some ⟨P, 0, none⟩))
    (h : St w0 (NewT U mu (accs x.L) * (rowT v a.members * (cellT C6 U * (Blk P (.cells (accL a v).toArray 72 (0, 0)) * (Blk D (.deferred (some [])) * (TabW T m x * A)))))) w) :
    cwE Tryz.prog F54.t10 (fnP Tryz.prog #[] (EditR w0 C6 T m x A line)) e w := by
  have hfew := t.few
  have hxl := hfew.1
  rw [List.length_map] at hxl
  have htp := text_put (accs x.L) a
  rw [List.length_map] at htp
  have hmul : (x.L.length + 1) * (lineF a).length ≤ 65537 * 16777216 := Nat.mul_le_mul (by omega) hl
  obtain ⟨vl, L', B, e1, hB, h1⟩ := NewT.open h
  have hll : L'.length = x.L.length := by have := congrArg List.length e1; simpa using this
  obtain ⟨av, cv, rfl, _⟩ := h1.rowForm v
  rw [F54.t10_eq]
  simp -dsimp -implicitDefEqProofs (disch := omega) only [go_sem, reqD_of, dec_t, dec_f, wrap_i64, wrap_u32, wrap_u64, wrap_u8, hd, e2, e5, h1.cl C6, h1.rowH P 4 rfl, h1.cl P]
  refine (add_put (a := a) (v := .slice av a.members.length cv) h1 (by rw [e1]; exact t.nodup) rfl (by omega)).mono ?_
  rintro e' w1 ⟨vl', L2, e3, hmem, hlen, h2, rfl⟩
  rw [e1] at e3
  have hB2 : MsOk (rowT (.slice av a.members.length cv) a.members * B) L2 := fun y hy => by
    rcases hmem y hy with hy | rfl
    · exact ⟨(Ent.right _ _).trans (hB y hy).1, (hB y hy).2⟩
    · exact ⟨(Ent.left _ _).trans (RowO.reads _ _ _ _ _), hf, rfl⟩
  simp -dsimp -implicitDefEqProofs (disch := omega) only [go_sem, reqD_of, dec_t, dec_f, wrap_i64, wrap_u32, wrap_u64, wrap_u8, hd, e2, e5, h2.cl C6, h2.rowH P 4 rfl, h2.cl P]
  refine (named_any (a := a) (v := .slice av a.members.length cv) h2 ((Ent.right _ _).trans ((Ent.left _ _).trans (RowO.reads _ _ _ _ _))) hf).mono ?_
  rintro e' w2 ⟨h3, ⟨hn, rfl⟩ | ⟨hn, rfl⟩⟩
  case inr =>
    rw [e3] at hn
    simp -dsimp -implicitDefEqProofs (disch := omega) only [go_sem, reqD_of, dec_t, dec_f, wrap_i64, wrap_u32, wrap_u64, wrap_u8, hd]
    refine St.mark1 (D := D) (h3.ac (by ac_rfl : _ = Blk D (.deferred (some [])) * ((TabQ U mu vl' (.map none) L2 * (B * (rowT (.slice av a.members.length cv) a.members * (cellT C6 U * Blk P (.cells (accL a (.slice av a.members.length cv)).toArray 72 (0, 0)))))) * (TabW T m x * A)))) fun w3 h10 => ?_
    refine .inr ⟨62, rfl, ⟨by decide, ?_⟩, h10.right.right⟩
    unfold editF editA
    rw [hg, ha]
    simp only [ho, hn, Bool.not_true, Bool.not_false, Bool.false_eq_true, if_false, if_true]
  rw [e3] at hn
  have h4 : St w0 (NewT U mu (putF (accs x.L) a) * (cellT C6 U * (Blk P (.cells (accL a (.slice av a.members.length cv)).toArray 72 (0, 0)) * (Blk D (.deferred (some [])) * (TabW T m x * A))))) w2 :=
    NewT.mk vl' L2 (rowT (.slice av a.members.length cv) a.members * B) e3 hB2 (h3.ac (by ac_rfl))
  simp -dsimp -implicitDefEqProofs (disch := omega) only [go_sem, reqD_of, dec_t, dec_f, wrap_i64, wrap_u32, wrap_u64, wrap_u8, hd, e2, e5, h4.cl C6]
  refine (join_new h4 (by omega) (by omega)).mono ?_
  have hed : editF (accs x.L) line = endE (putF (accs x.L) a) := by
    unfold editF editA
    rw [hg, ha]
    simp only [ho, hn, Bool.not_true, Bool.false_eq_true, if_false]
  rintro e' w3 (⟨hj, ⟨x', hx', ok', h5⟩, rfl⟩ | ⟨hj, h5, rfl⟩)
  · simp -dsimp -implicitDefEqProofs (disch := omega) only [go_sem, reqD_of, dec_t, dec_f, wrap_i64, wrap_u32, wrap_u64, wrap_u8, hd]
    refine St.mark1 (D := D) (h5.ac (by ac_rfl : _ = Blk D (.deferred (some [])) * (Blk P (.cells (accL a (.slice av a.members.length cv)).toArray 72 (0, 0)) * (cellT C6 U * (TabW U mu x' * (TabW T m x * A)))))) fun w4 h10 => ?_
    exact .inl ⟨rfl, U, mu, x', by rw [hed, hx']; unfold endE; rw [hj]; rfl, ok', h10.right.right⟩
  · simp -dsimp -implicitDefEqProofs (disch := omega) only [go_sem, reqD_of, dec_t, dec_f, wrap_i64, wrap_u32, wrap_u64, wrap_u8, hd]
    refine St.mark1 (D := D) (h5.ac (by ac_rfl : _ = Blk D (.deferred (some [])) * ((cellT C6 U * Blk P (.cells (accL a (.slice av a.members.length cv)).toArray 72 (0, 0))) * (TabW T m x * A)))) fun w4 h10 => ?_
    exact .inr ⟨1, rfl, ⟨by decide, by rw [hed]; unfold endE; rw [hj]; rfl⟩, h10.right.right⟩
end
end Go.Proofs.YtkijkoakloacoaaGreatDoor

namespace Go.Proofs.YtkijkoakloacoaaGreatDoor
open Go
set_option linter.unusedVariables false
set_option linter.unusedSimpArgs false
set_option maxRecDepth 100000

theorem form_head {a : Acc} (h : formF a = true) : ∃ c n, a.name = c :: n ∧ c ≠ 35 := by
  obtain ⟨h1, h2, h3⟩ := nameF_facts (formF_facts h).1
  cases hn : a.name with
  | nil => exact absurd hn h1
  | cons c n => exact ⟨c, n, rfl, (h3 c (by rw [hn]; simp)).2.2.2⟩
theorem accF_form {l : List UInt8} {a : Acc} (h : accF l = some a) : formF a = true := by
  unfold accF at h
  split at h
  · rename_i hc; cases h; exact hc.2
  · cases h

section
attribute [local go_sem] F54.t4_eq
theorem edit_4 {w0 w : World} {A : HP} {C2 C3 C6 T m U mu : Nat} {x : UT} {line : List UInt8} {e : FA} (ok : x.Ok) (t : TabL (accs x.L)) (hl : line.length ≤ 16777215) (hg : goneF line = none) [Gives A Tabs]
    (hd : e.ds = []) (e0 : e.ρ 0 = .pointer (some ⟨C3, 0, none⟩)) (e1 : e.ρ 1 = .pointer (some ⟨C2, 0, none⟩)) (e2 : e.ρ 2 = .pointer (some ⟨C6, 0, none⟩))
    (h : St w0 (NewT U mu [] * (cellT C6 U * (cellS C3 line * (cellT C2 T * (TabW T m x * A))))) w) :
    cwE Tryz.prog F54.t4 (fnP Tryz.prog #[] (EditR w0 C6 T m x A line)) e w := by
  have hfew := t.few
  have hxl := hfew.1
  rw [List.length_map] at hxl
  rw [F54.t4_eq]
  simp -dsimp -implicitDefEqProofs (disch := omega) only [go_sem, reqD_of, dec_t, dec_f, wrap_i64, wrap_u32, wrap_u64, wrap_u8, hd, e0, h.cl C3]
  refine (account_any h (l := line) hl).mono ?_
  rintro e' w1 (⟨a, v, ha, hf, h1, rfl⟩ | ⟨ha, h1, rfl⟩)
  case inr =>
    simp -dsimp -implicitDefEqProofs (disch := omega) only [go_sem, reqD_of, dec_t, dec_f, wrap_i64, wrap_u32, wrap_u64, wrap_u8, hd]
    refine .inr ⟨60, rfl, ⟨by decide, ?_⟩, h1.right.right.right.right⟩
    unfold editF editA
    rw [hg, ha]
  obtain ⟨av, cv, rfl, _⟩ := h1.rowForm v
  obtain ⟨c, nn, hnm, hc35⟩ := form_head (accF_form ha)
  have hrow := row_of ha
  have hll : (lineF a).length ≤ 16777216 := by simp [lineF, hrow]; omega
  simp -dsimp -implicitDefEqProofs (disch := omega) only [go_sem, reqD_of, dec_t, dec_f, wrap_i64, wrap_u32, wrap_u64, wrap_u8, hd, e0, e1, e2]
  refine h1.new fun P w2 h2 => ?_
  simp -dsimp -implicitDefEqProofs (disch := omega) only [go_sem, reqD_of, dec_t, dec_f, wrap_i64, wrap_u32, wrap_u64, wrap_u8, hd, e0, e1, e2]
  refine h2.stoAll (b := P) (n := 4) (cs := accL a (.slice av a.members.length cv)) rfl rfl (fun v hv => by simp at hv; rcases hv with rfl | rfl | rfl | rfl <;> rfl) fun w3 h3 => ?_
  have hlen0 : (0 : Int) < a.name.length := by rw [hnm]; simp
  have hq : ¬ (((a.name.getD (0 : Int).toNat 0).toNat : Int) = 35) := by
    rw [hnm]
    show ¬ ((c.toNat : Int) = 35)
    intro e
    exact hc35 (UInt8.toNat_inj.1 (by show c.toNat = 35; omega))
  simp -dsimp -implicitDefEqProofs (disch := omega) only [go_sem, reqD_of, dec_t, dec_f, wrap_i64, wrap_u32, wrap_u64, wrap_u8, hd, e0, e1, e2, h3.cl P, hlen0, hq]
  refine (need_st h3 _ _).mono ?_
  rintro e' w4 ⟨h4, ⟨_, rfl⟩ | ⟨hb, rfl⟩⟩
  case inr =>
    simp only [Bool.not_eq_false', decide_eq_true_eq] at hb
    exact (hq hb).elim
  have h4 : St w0 (Blk P (.cells (accL a (.slice av a.members.length cv)).toArray 72 (0, 0)) * (rowT (.slice av a.members.length cv) a.members * (NewT U mu [] * (cellT C6 U * (cellS C3 line * (cellT C2 T * (TabW T m x * A))))))) w4 := h4
  simp -dsimp -implicitDefEqProofs (disch := omega) only [go_sem, reqD_of, dec_t, dec_f, wrap_i64, wrap_u32, wrap_u64, wrap_u8, hd, e0, e1, e2, h4.rowH P 4 rfl, h4.cl P]
  refine (once_any h4 (a := a) (v := .slice av a.members.length cv) ((Ent.right _ _).trans ((Ent.left _ _).trans (RowO.reads _ _ _ _ _))) hf).mono ?_
  rintro e' w5 ⟨h5, ⟨ho, rfl⟩ | ⟨ho, rfl⟩⟩
  case inr =>
    simp -dsimp -implicitDefEqProofs (disch := omega) only [go_sem, reqD_of, dec_t, dec_f, wrap_i64, wrap_u32, wrap_u64, wrap_u8, hd]
    refine .inr ⟨61, rfl, ⟨by decide, ?_⟩, h5.right.right.right.right.right.right⟩
    unfold editF editA
    rw [hg, ha]
    simp only [ho, Bool.not_false, if_true]
  simp -dsimp -implicitDefEqProofs (disch := omega) only [go_sem, reqD_of, dec_t, dec_f, wrap_i64, wrap_u32, wrap_u64, wrap_u8, hd, e0, e1, e2, h5.cl C2]
  refine (accounts_any h5).mono ?_
  rintro e' w6 ⟨K, h6, rfl⟩
  simp -dsimp -implicitDefEqProofs (disch := omega) only [go_sem, reqD_of, dec_t, dec_f, wrap_i64, wrap_u32, wrap_u64, wrap_u8, hd, e0, e1, e2]
  have h6 : St w0 (ptrB K T * (Blk P (.cells (accL a (.slice av a.members.length cv)).toArray 72 (0, 0)) * (rowT (.slice av a.members.length cv) a.members * (NewT U mu [] * (cellT C6 U * (cellS C3 line * (cellT C2 T * (TabW T m x * A)))))))) w6 := h6
  have h7 : St w0 ((NewT U mu [] * cellT C6 U) * (ptrB K T * TabW T m x) * (Blk P (.cells (accL a (.slice av a.members.length cv)).toArray 72 (0, 0)) * (rowT (.slice av a.members.length cv) a.members * (cellS C3 line * (cellT C2 T * A))))) w6 := h6.ac (by ac_rfl)
  refine range_introT h7 (gf := 83) (lb := #[.pointer (some ⟨K, 0, none⟩)]) (by simp -dsimp -implicitDefEqProofs only [go_sem]) fact_fnOk_83 (Pass := PassC)
    (fun pre => (NewT U mu pre * cellT C6 U) * AllT K T m x) (fun _ _ => NoneH) (Ent.rfl' _) ?_ (fun pre => NewT U mu pre * cellT C6 U) (AllT K T m x) (fun pre => rfl) (accIter (K := K) (T := T) (m := m) (G := Blk P (.cells (accL a (.slice av a.members.length cv)).toArray 72 (0, 0)) * (rowT (.slice av a.members.length cv) a.members * (cellS C3 line * (cellT C2 T * A)))) ok (by omega)) ?_ ?_
  · intro q pre y args G W1 hpo h8
    obtain ⟨hyn, hya, hpl⟩ := pre_new t.nodup hpo
    have hfy : Fit y := by
      obtain ⟨u, hu, rfl⟩ := List.mem_map.1 hya
      exact (ok.ms u hu).2.1
    have h8 : St w0 ((NewT U mu pre * cellT C6 U) * (ptrB K T * TabW T m x) * (PassC y args * G)) W1 := h8
    obtain ⟨vy, rfl, h9⟩ := PassC.open (h8.ac (by ac_rfl : _ = PassC y args * ((NewT U mu pre * cellT C6 U) * (ptrB K T * TabW T m x) * G)))
    obtain ⟨ay, cy, rfl, _⟩ := h9.rowForm vy
    refine ⟨rfl, ?_⟩
    unfold F54.a0
    simp -dsimp -implicitDefEqProofs (disch := omega) only [go_sem, reqD_of, dec_t, dec_f, wrap_i64, wrap_u32, wrap_u64, wrap_u8, List.toList_toArray]
    refine h8.new fun P2 w8 h10 => ?_
    simp -dsimp -implicitDefEqProofs (disch := omega) only [go_sem, reqD_of, dec_t, dec_f, wrap_i64, wrap_u32, wrap_u64, wrap_u8]
    refine h10.stoAll (b := P2) (n := 4) (cs := accL y (.slice ay y.members.length cy)) rfl rfl (fun v hv => by simp at hv; rcases hv with rfl | rfl | rfl | rfl <;> rfl) fun w9 h11 => ?_
    simp -dsimp -implicitDefEqProofs (disch := omega) only [go_sem, reqD_of, dec_t, dec_f, wrap_i64, wrap_u32, wrap_u64, wrap_u8]
    refine ⟨Blk P2 (.cells (accL y (.slice ay y.members.length cy)).toArray 72 (0, 0)), h11, fun G2 W2 hl2 h12 => ?_⟩
    clear h8 h9 h10 h11
    have h12 : St w0 (Blk P2 (.cells (accL y (.slice ay y.members.length cy)).toArray 72 (0, 0)) * ((NewT U mu pre * cellT C6 U) * (ptrB K T * TabW T m x) * (PassC y #[accV y (.slice ay y.members.length cy)] * G2))) W2 := h12
    obtain ⟨v', e', h13⟩ := PassC.open (h12.ac (by ac_rfl : _ = PassC y #[accV y (.slice ay y.members.length cy)] * ((NewT U mu pre * cellT C6 U) * (Blk P2 (.cells (accL y (.slice ay y.members.length cy)).toArray 72 (0, 0)) * ((ptrB K T * TabW T m x) * G2)))))
    have e' := accV_inj e'
    subst e'
    have h14 : St w0 (NewT U mu pre * (rowT (.slice ay y.members.length cy) y.members * (cellT C6 U * (Blk P2 (.cells (accL y (.slice ay y.members.length cy)).toArray 72 (0, 0)) * ((ptrB K T * TabW T m x) * G2))))) W2 := h13.ac (by ac_rfl)
    unfold F54.b0
    simp -dsimp -implicitDefEqProofs (disch := omega) only [go_sem, reqD_of, dec_t, dec_f, wrap_i64, wrap_u32, wrap_u64, wrap_u8, e2, h14.cl C6, h14.rowH P2 4 rfl, h14.cl P2]
    refine (NewT.add h14 (known_false.2 hyn) rfl hfy (by omega)).mono ?_
    rintro e' w10 ⟨h15, rfl⟩
    simp -dsimp -implicitDefEqProofs (disch := omega) only [go_sem, reqD_of, dec_t, dec_f, wrap_i64, wrap_u32, wrap_u64, wrap_u8]
    exact (h15.ac (by show _ = Blk P2 (.cells (accL y (.slice ay y.members.length cy)).toArray 72 (0, 0)) * ((NewT U mu (pre ++ [y]) * cellT C6 U) * (ptrB K T * TabW T m x) * G2); ac_rfl)).right
  · intro D xs w' hS h8
    subst hS
    have h8 : St w0 (Blk D (.deferred (some [])) * ((NewT U mu (accs x.L) * cellT C6 U) * (ptrB K T * TabW T m x) * (Blk P (.cells (accL a (.slice av a.members.length cv)).toArray 72 (0, 0)) * (rowT (.slice av a.members.length cv) a.members * (cellS C3 line * (cellT C2 T * A)))))) w' := h8
    simp -dsimp -implicitDefEqProofs (disch := omega) only [go_sem, reqD_of, dec_t, dec_f, wrap_i64, wrap_u32, wrap_u64, wrap_u8]
    refine edit_10 (C2 := C2) (C3 := C3) (C6 := C6) (P := P) (U := U) (mu := mu) (D := D) (a := a) (v := .slice av a.members.length cv) (ar := #[]) ok t hll hg ha ho hf rfl (by simp -dsimp -implicitDefEqProofs only [go_sem, hd]) (by simp -dsimp -implicitDefEqProofs only [go_sem, e2]) (by simp -dsimp -implicitDefEqProofs only [go_sem]) ?_
    exact (h8.ac (by ac_rfl : _ = (ptrB K T * (cellS C3 line * cellT C2 T)) * (NewT U mu (accs x.L) * (rowT (.slice av a.members.length cv) a.members * (cellT C6 U * (Blk P (.cells (accL a (.slice av a.members.length cv)).toArray 72 (0, 0)) * (Blk D (.deferred (some [])) * (TabW T m x * A)))))))).right
  · intro D cd pre w' h8
    have h8 : St w0 (Blk D (.deferred (some [])) * (HP.fact False EmpH * (Blk P (.cells (accL a (.slice av a.members.length cv)).toArray 72 (0, 0)) * (rowT (.slice av a.members.length cv) a.members * (cellS C3 line * (cellT C2 T * A)))))) w' := h8
    exact ((h8.ac (by ac_rfl : _ = HP.fact False EmpH * (Blk D (.deferred (some [])) * (Blk P (.cells (accL a (.slice av a.members.length cv)).toArray 72 (0, 0)) * (rowT (.slice av a.members.length cv) a.members * (cellS C3 line * (cellT C2 T * A))))))).factF).1.elim

end
section
attribute [local go_sem] F54.t10_eq
theorem editA_body {w0 w : World} {A : HP} {C2 C3 C6 T m U mu : Nat} {x : UT} {line : List UInt8} (ok : x.Ok) (t : TabL (accs x.L)) (hl : line.length ≤ 16777215) [Gives A Tabs]
    (h : St w0 (NewT U mu [] * (cellT C6 U * (cellS C3 line * (cellT C2 T * (TabW T m x * A))))) w) :
    Calls Tryz.prog 54 #[.pointer (some ⟨C3, 0, none⟩), .pointer (some ⟨C2, 0, none⟩), .pointer (some ⟨C6, 0, none⟩)] w (EditR w0 C6 T m x A line) := by
  have hfew := t.few
  have hxl := hfew.1
  rw [List.length_map] at hxl
  refine F54.calls (by simp) ?_
  unfold F54.code
  simp -dsimp -implicitDefEqProofs (disch := omega) only [go_sem, reqD_of, dec_t, dec_f, wrap_i64, wrap_u32, wrap_u64, wrap_u8, h.cl C3]
  refine (cutP_any h line).mono ?_
  rintro e w1 ⟨h1, rfl⟩
  have gT : Gives (NewT U mu [] * (cellT C6 U * (cellS C3 line * (cellT C2 T * (TabW T m x * A))))) Tabs := inferInstance
  by_cases hc : line.take 1 = [45]
  case neg =>
    rw [if_neg hc]
    simp -dsimp -implicitDefEqProofs (disch := omega) only [go_sem, reqD_of, dec_t, dec_f, wrap_i64, wrap_u32, wrap_u64, wrap_u8]
    exact edit_4 (U := U) (mu := mu) ok t hl (gone_neg hc) (by simp -dsimp -implicitDefEqProofs only [go_sem]) (by simp -dsimp -implicitDefEqProofs only [go_sem]) (by simp -dsimp -implicitDefEqProofs only [go_sem]) (by simp -dsimp -implicitDefEqProofs only [go_sem]) h1
  rw [if_pos hc]
  have hgp := gone_pos hc
  simp -dsimp -implicitDefEqProofs (disch := omega) only [go_sem, reqD_of, dec_t, dec_f, wrap_i64, wrap_u32, wrap_u64, wrap_u8]
  refine (name_any h1 (l := line.drop 1)).mono ?_
  rintro e w2 ⟨h2, rfl⟩
  cases hnm : nameF (line.drop 1)
  · rw [hnm] at hgp
    simp -dsimp -implicitDefEqProofs (disch := omega) only [go_sem, reqD_of, dec_t, dec_f, wrap_i64, wrap_u32, wrap_u64, wrap_u8]
    exact edit_4 (U := U) (mu := mu) ok t hl (by simpa using hgp) (by simp -dsimp -implicitDefEqProofs only [go_sem]) (by simp -dsimp -implicitDefEqProofs only [go_sem]) (by simp -dsimp -implicitDefEqProofs only [go_sem]) (by simp -dsimp -implicitDefEqProofs only [go_sem]) h2
  rw [hnm, if_pos rfl] at hgp
  simp -dsimp -implicitDefEqProofs (disch := omega) only [go_sem, reqD_of, dec_t, dec_f, wrap_i64, wrap_u32, wrap_u64, wrap_u8, h2.cl C2]
  have h3 : St w0 (TabW T m x * (NewT U mu [] * (cellT C6 U * (cellS C3 line * (cellT C2 T * A))))) w2 := h2.ac (by ac_rfl)
  refine (without_any ok (by omega) t.nodup h3 (line.drop 1)).mono ?_
  rintro e w3 (⟨hfr, U2, mu2, h4, rfl⟩ | ⟨hfr, rfl, h4⟩)
  case inr =>
    simp -dsimp -implicitDefEqProofs (disch := omega) only [go_sem, reqD_of, dec_t, dec_f, wrap_i64, wrap_u32, wrap_u64, wrap_u8]
    refine .inr ⟨62, rfl, ⟨by decide, ?_⟩, (h4.ac (by ac_rfl : _ = (NewT U mu [] * (cellT C6 U * (cellS C3 line * cellT C2 T))) * (TabW T m x * A))).right⟩
    unfold editF
    rw [hgp]
    simp only [hfr, Bool.false_eq_true, if_false]
  simp -dsimp -implicitDefEqProofs (disch := omega) only [go_sem, reqD_of, dec_t, dec_f, wrap_i64, wrap_u32, wrap_u64, wrap_u8]
  refine h4.sto (b := C6) (off := 0) (by simp) rfl fun w4 h5 => ?_
  simp only [List.setIfInBounds_toArray, List.set_cons_zero] at h5
  have h5 : St w0 (NewT U2 mu2 (leftF (accs x.L) (line.drop 1)) * (TabW T m x * (NewT U mu [] * (cellT C6 U2 * (cellS C3 line * (cellT C2 T * A)))))) w4 := h5
  simp -dsimp -implicitDefEqProofs (disch := omega) only [go_sem, reqD_of, dec_t, dec_f, wrap_i64, wrap_u32, wrap_u64, wrap_u8, h5.cl C6]
  have hed : editF (accs x.L) line = endE (leftF (accs x.L) (line.drop 1)) := by
    unfold editF
    rw [hgp]
    simp only [hfr, if_true]
  have htl := text_left (accs x.L) (line.drop 1)
  have hfl : (leftF (accs x.L) (line.drop 1)).length ≤ (accs x.L).length := List.length_filter_le _ _
  refine (join_new h5 (by omega) (by omega)).mono ?_
  rintro e w5 (⟨hj, ⟨x', hx', ok', h6⟩, rfl⟩ | ⟨hj, h6, rfl⟩)
  · simp -dsimp -implicitDefEqProofs (disch := omega) only [go_sem, reqD_of, dec_t, dec_f, wrap_i64, wrap_u32, wrap_u64, wrap_u8]
    exact .inl ⟨rfl, U2, mu2, x', by rw [hed, hx']; unfold endE; rw [hj]; rfl, ok', (h6.ac (by ac_rfl : _ = (NewT U mu [] * (cellS C3 line * cellT C2 T)) * (cellT C6 U2 * (TabW U2 mu2 x' * (TabW T m x * A))))).right⟩
  · simp -dsimp -implicitDefEqProofs (disch := omega) only [go_sem, reqD_of, dec_t, dec_f, wrap_i64, wrap_u32, wrap_u64, wrap_u8]
    exact .inr ⟨1, rfl, ⟨by decide, by rw [hed]; unfold endE; rw [hj]; rfl⟩, (h6.ac (by ac_rfl : _ = (NewT U mu [] * (cellT C6 U2 * (cellS C3 line * cellT C2 T))) * (TabW T m x * A))).right⟩

end
section
attribute [local go_sem] F19.t5_eq
theorem edit_any {w0 w : World} {A : HP} {T m : Nat} {x : UT} (ok : x.Ok) (t : TabL (accs x.L)) [Gives A Tabs] (h : St w0 (TabW T m x * A) w) (line : List UInt8) (hl : line.length ≤ 16777215) :
    Calls Tryz.prog 19 #[.pointer (some ⟨T, 0, none⟩), .string (strOf line)] w fun e w' =>
      (∃ (U mu : Nat) (x' : UT), editF (accs x.L) line = .ok (accs x'.L) ∧ x'.Ok ∧ St w0 (TabW U mu x' * (TabW T m x * A)) w' ∧ e = .returned (.tuple #[.pointer (some ⟨U, 0, none⟩), .int .i64 0])) ∨
      (∃ k : Nat, k ≠ 0 ∧ editF (accs x.L) line = .error k ∧ St w0 (TabW T m x * A) w' ∧ e = .returned (.tuple #[.pointer none, .int .i64 (k : Nat)])) := by
  refine F19.calls (by simp) ?_
  unfold F19.code
  simp -dsimp -implicitDefEqProofs (disch := omega) only [go_sem, reqD_of, dec_t, dec_f, wrap_i64, wrap_u32, wrap_u64, wrap_u8]
  refine h.new fun C2 w1 h1 => ?_
  simp -dsimp -implicitDefEqProofs (disch := omega) only [go_sem, reqD_of, dec_t, dec_f, wrap_i64, wrap_u32, wrap_u64, wrap_u8]
  refine h1.new fun C3 w2 h2 => ?_
  simp -dsimp -implicitDefEqProofs (disch := omega) only [go_sem, reqD_of, dec_t, dec_f, wrap_i64, wrap_u32, wrap_u64, wrap_u8]
  refine St.makeMap (enc := sv) h2 fun mu w3 h3 => ?_
  simp -dsimp -implicitDefEqProofs (disch := omega) only [go_sem, reqD_of, dec_t, dec_f, wrap_i64, wrap_u32, wrap_u64, wrap_u8]
  refine onV_of (v := .agg #[.slice none 0 0, .map (some mu), .map none]) (by kernel_rfl) ?_
  simp -dsimp -implicitDefEqProofs (disch := omega) only [go_sem, reqD_of, dec_t, dec_f, wrap_i64, wrap_u32, wrap_u64, wrap_u8]
  refine h3.new fun U w4 h4 => ?_
  simp -dsimp -implicitDefEqProofs (disch := omega) only [go_sem, reqD_of, dec_t, dec_f, wrap_i64, wrap_u32, wrap_u64, wrap_u8]
  refine h4.new fun C6 w5 h5 => ?_
  simp -dsimp -implicitDefEqProofs (disch := omega) only [go_sem, reqD_of, dec_t, dec_f, wrap_i64, wrap_u32, wrap_u64, wrap_u8]
  refine h5.sto (b := C6) (off := 0) (by simp) rfl fun w6 h6 => ?_
  simp only [List.setIfInBounds_toArray, List.set_cons_zero] at h6
  simp -dsimp -implicitDefEqProofs (disch := omega) only [go_sem, reqD_of, dec_t, dec_f, wrap_i64, wrap_u32, wrap_u64, wrap_u8]
  refine (guard_any (α := Nat × Nat × UT) (p := fun p => editF (accs x.L) line = .ok (accs p.2.2.L) ∧ p.2.2.Ok) (B := fun p => cellT C6 p.1 * (TabW p.1 p.2.1 p.2.2 * (TabW T m x * A))) (q := fun _ => True)
    (C := fun k => HP.ex fun p : Nat => HP.fact (k = (p : Nat) ∧ p ≠ 0 ∧ editF (accs x.L) line = .error p) (TabW T m x * A)) h6 fact_fnOk_54 fun P2 w9 h9 => ?_).mono ?_
  · have g9 : Gives (errB P2 0 * A) Tabs := inferInstance
    have h9 : St w0 (errB P2 0 * (cellT C6 U * (Blk U (tabB (.slice none 0 0) mu (.map none)) * (MapP sv mu [] * (cellS C3 line * (cellT C2 T * (TabW T m x * A))))))) w9 := h9
    have h10 : St w0 (NewT U mu [] * (cellT C6 U * (cellS C3 line * (cellT C2 T * (TabW T m x * (errB P2 0 * A)))))) w9 := NewT.nil (h9.ac (by ac_rfl))
    refine (editA_body (A := errB P2 0 * A) ok t hl h10).mono ?_
    rintro e' w10 (⟨rfl, U', mu', x', he, ok', h11⟩ | ⟨k, rfl, ⟨hk0, he⟩, h11⟩)
    · exact .inl ⟨rfl, (U', mu', x'), ⟨he, ok'⟩, h11.ac (by ac_rfl)⟩
    · refine .inr ⟨k, rfl, trivial, ?_⟩
      have h12 : St w0 (errB P2 0 * (TabW T m x * A)) w10 := h11.ac (by ac_rfl)
      exact h12.ent (Ent.sep (Ent.rfl' _) ((Ent.fact (p := ((k : Nat) : Int) = (k : Nat) ∧ k ≠ 0 ∧ editF (accs x.L) line = .error k) ⟨rfl, hk0, he⟩ _).trans (Ent.ex (fun p : Nat => HP.fact (((k : Nat) : Int) = (p : Nat) ∧ p ≠ 0 ∧ editF (accs x.L) line = .error p) (TabW T m x * A)) k)))
  · rintro e' w9 (⟨rfl, ⟨U', mu', x'⟩, ⟨he, ok'⟩, h9⟩ | ⟨k, rfl, _, h9⟩)
    · simp -dsimp -implicitDefEqProofs (disch := omega) only [go_sem, reqD_of, dec_t, dec_f, wrap_i64, wrap_u32, wrap_u64, wrap_u8, h9.cl C6]
      exact .inl ⟨U', mu', x', he, ok', h9.right, rfl⟩
    · obtain ⟨k', h10⟩ := h9.ex
      obtain ⟨⟨e1, e2, e3⟩, h11⟩ := St.factF (F := EmpH) ((h10.ent (empL' _)).ac (by ac_rfl))
      subst e1
      have hk0 : ¬ ((k' : Nat) : Int) = 0 := by omega
      simp -dsimp -implicitDefEqProofs (disch := omega) only [go_sem, reqD_of, dec_t, dec_f, wrap_i64, wrap_u32, wrap_u64, wrap_u8, hk0]
      exact .inr ⟨k', by first | exact e2 | exact e3, by first | exact e3 | exact e2, h11.left.ac (by ac_rfl), rfl⟩
end
end Go.Proofs.YtkijkoakloacoaaGreatDoor
