/- slices.Sort of texts; Groups. -/
import Derived.Test.YtkijkoakloacoaaDoorUzN
import Derived.Test.YtkijkoakloacoaaDoorSrtD
import Derived.Test.YtkijkoakloacoaaDoorLayS
namespace Go.Proofs.YtkijkoakloacoaaDoor
open Go Go.Sort Go.RowKit
set_option linter.unusedVariables false
set_option linter.unusedSimpArgs false
set_option maxRecDepth 100000

theorem sort_any {w0 w : World} {A : HP} {v : Value} {ls : List (List UInt8)} (h : St w0 (rowT v ls * A) w) (hl : ls.length ≤ 16777216) :
    Calls Tryd.prog 54 #[v] w fun e w' => St w0 (rowT v (ls.mergeSort fun x y => decide (x ≤ y)) * A) w' ∧ e = .returned (.tuple #[]) := by
  have hb := sort_bridge (P := Tryd.prog) (fn := 54) (args := fun v => #[v]) (enc := sv) (d := ls.toArray) (d' := (ls.mergeSort fun x y => decide (x ≤ y)).toArray) h (by simp) (by simp)
    (fun p cap => Any.slices_Sort_string_none laySort p cap w) (fun g o cap hv hH hg => ?_)
  · have e : (ls.mergeSort fun x y => decide (x ≤ y)).length = ls.length := List.length_mergeSort _
    unfold rowT
    rw [e]
    simpa using hb
  · exact Any.slices_Sort_string laySort g o cap ls w hH hg (by omega)

/-! ### Groups -/

/-- The groups so far. -/
def AccG (S : Nat) (gs : List (List UInt8)) : HP := HP.ex fun v : Value => Blk S (.cells #[v] 33 (0, 0)) * rowT v gs
theorem AccG.open {w0 w : World} {S : Nat} {gs : List (List UInt8)} {F : HP} (h : St w0 (AccG S gs * F) w) : ∃ v, St w0 (Blk S (.cells #[v] 33 (0, 0)) * (rowT v gs * F)) w := by
  obtain ⟨v, h1⟩ := h.exF
  exact ⟨v, h1.ac (by ac_rfl)⟩
theorem AccG.mk {w0 w : World} {S : Nat} {v : Value} {gs : List (List UInt8)} {F : HP} (h : St w0 (Blk S (.cells #[v] 33 (0, 0)) * (rowT v gs * F)) w) : St w0 (AccG S gs * F) w :=
  (h.ac (by ac_rfl : _ = (Blk S (.cells #[v] 33 (0, 0)) * rowT v gs) * F)).ent (Ent.sep (Ent.ex (fun v : Value => Blk S (.cells #[v] 33 (0, 0)) * rowT v gs) v) (Ent.rfl' F))
def inG (L : List Acc) (u : List UInt8) (pre : List Acc) : List (List UInt8) := (pre.map (·.name)).filter fun g => memberF L u g
theorem inG_snoc (L : List Acc) (u : List UInt8) (pre : List Acc) (a : Acc) : inG L u (pre ++ [a]) = inG L u pre ++ (if memberF L u a.name then [a.name] else []) := by
  unfold inG
  rw [List.map_append, List.filter_append]
  congr 1
  simp only [List.map_cons, List.map_nil, List.filter_cons, List.filter_nil]
theorem inG_len (L : List Acc) (u : List UInt8) (pre : List Acc) : (inG L u pre).length ≤ pre.length := by
  unfold inG
  exact Nat.le_trans (List.length_filter_le _ _) (by simp)

def NoneH : HP := HP.fact False EmpH
abbrev ptrB (b T : Nat) : HP := Blk b (.cells #[.pointer (some ⟨T, 0, none⟩)] 28 (0, 0))
abbrev JG (S C2 C3 T : Nat) (L : List Acc) (u : List UInt8) (pre : List Acc) : HP := AccG S (inG L u pre) * (ptrB C2 T * cellS C3 u)

section
attribute [local go_sem] F24.t6_eq
theorem groups_any {w0 w : World} {A : HP} {T m : Nat} {x : UT} (ok : x.Ok) (hn : x.L.length ≤ 16777216) (h : St w0 (TabW T m x * A) w) (u : List UInt8) :
    Calls Tryd.prog 24 #[.pointer (some ⟨T, 0, none⟩), .string (strOf u)] w fun e w' => ∃ v, St w0 (rowT v (groupsF (accs x.L) u) * (TabW T m x * A)) w' ∧ e = .returned v := by
  refine F24.calls (by simp) ?_
  unfold F24.code
  simp -dsimp -implicitDefEqProofs (disch := omega) only [go_sem, reqD_of, dec_t, dec_f, wrap_i64, wrap_u32, wrap_u64, wrap_u8]
  refine h.new fun C2 w1 h1 => ?_
  simp -dsimp -implicitDefEqProofs (disch := omega) only [go_sem, reqD_of, dec_t, dec_f, wrap_i64, wrap_u32, wrap_u64, wrap_u8]
  refine h1.new fun C3 w2 h2 => ?_
  simp -dsimp -implicitDefEqProofs (disch := omega) only [go_sem, reqD_of, dec_t, dec_f, wrap_i64, wrap_u32, wrap_u64, wrap_u8]
  refine h2.new fun S w3 h3 => ?_
  simp -dsimp -implicitDefEqProofs (disch := omega) only [go_sem, reqD_of, dec_t, dec_f, wrap_i64, wrap_u32, wrap_u64, wrap_u8, h3.cl C2]
  refine (accounts_any h3).mono ?_
  rintro e w4 ⟨K, h4, rfl⟩
  simp -dsimp -implicitDefEqProofs (disch := omega) only [go_sem, reqD_of, dec_t, dec_f, wrap_i64, wrap_u32, wrap_u64, wrap_u8]
  have h4' : St w0 (rowT (.slice none 0 0) [] * (ptrB K T * (Blk S (.cells #[.slice none 0 0] 33 (0, 0)) * (cellS C3 u * (ptrB C2 T * (TabW T m x * A)))))) w4 := h4.nilR 9 1
  have h5 : St w0 (AccG S [] * ((ptrB C2 T * cellS C3 u) * (AllT K T m x * A))) w4 :=
    AccG.mk (v := .slice none 0 0) (h4'.ac (by show _ = Blk S (.cells #[.slice none 0 0] 33 (0, 0)) * (rowT (.slice none 0 0) [] * ((ptrB C2 T * cellS C3 u) * ((ptrB K T * TabW T m x) * A))); ac_rfl))
  refine range_introT (F := AccG S [] * ((ptrB C2 T * cellS C3 u) * (AllT K T m x * A))) h5 (gf := 51) (lb := #[.pointer (some ⟨K, 0, none⟩)]) (by simp -dsimp -implicitDefEqProofs only [go_sem]) fact_fnOk_51 (Pass := PassC)
    (fun pre => JG S C2 C3 T (accs x.L) u pre * AllT K T m x) (fun _ _ => NoneH) (Ent.of_eq (by show _ = (AccG S [] * (ptrB C2 T * cellS C3 u)) * AllT K T m x * A; ac_rfl)) ?_ (fun pre => JG S C2 C3 T (accs x.L) u pre) (AllT K T m x) (fun pre => rfl) (accIter (K := K) (T := T) (m := m) (G := A) ok hn) ?_ ?_
  · intro q pre y args G W1 hok h6
    have h6 : St w0 ((AccG S (inG (accs x.L) u pre) * (ptrB C2 T * cellS C3 u)) * AllT K T m x * (PassC y args * G)) W1 := h6
    obtain ⟨v, rfl, h7⟩ := PassC.open (h6.ac (by ac_rfl : _ = PassC y args * ((AccG S (inG (accs x.L) u pre) * (ptrB C2 T * cellS C3 u)) * AllT K T m x * G)))
    obtain ⟨av, cv, rfl, _⟩ := h7.rowForm v
    refine ⟨rfl, ?_⟩
    unfold F24.a0
    simp -dsimp -implicitDefEqProofs (disch := omega) only [go_sem, reqD_of, dec_t, dec_f, wrap_i64, wrap_u32, wrap_u64, wrap_u8, List.toList_toArray]
    refine h6.new fun P w5 h8 => ?_
    simp -dsimp -implicitDefEqProofs (disch := omega) only [go_sem, reqD_of, dec_t, dec_f, wrap_i64, wrap_u32, wrap_u64, wrap_u8]
    refine h8.stoAll (b := P) (n := 4) (cs := accL y (.slice av y.members.length cv)) rfl rfl (fun v hv => by simp at hv; rcases hv with rfl | rfl | rfl | rfl <;> rfl) fun w6 h9 => ?_
    simp -dsimp -implicitDefEqProofs (disch := omega) only [go_sem, reqD_of, dec_t, dec_f, wrap_i64, wrap_u32, wrap_u64, wrap_u8]
    refine ⟨Blk P (.cells (accL y (.slice av y.members.length cv)).toArray 46 (0, 0)), h9, fun G2 W2 hl2 h10 => ?_⟩
    clear h6 h7 h8 h9
    have hpl : pre.length < 16777216 := by
      obtain ⟨post, hp⟩ := hok
      have := congrArg List.length hp
      simp only [List.length_append, List.length_cons, List.length_nil, List.length_map] at this
      omega
    have h10 : St w0 (Blk P (.cells (accL y (.slice av y.members.length cv)).toArray 46 (0, 0)) * ((AccG S (inG (accs x.L) u pre) * (ptrB C2 T * cellS C3 u)) * (ptrB K T * TabW T m x) * (PassC y #[accV y (.slice av y.members.length cv)] * G2))) W2 := h10
    have h11 : St w0 (TabW T m x * (Blk P (.cells (accL y (.slice av y.members.length cv)).toArray 46 (0, 0)) * (AccG S (inG (accs x.L) u pre) * (ptrB C2 T * (cellS C3 u * (ptrB K T * (PassC y #[accV y (.slice av y.members.length cv)] * G2))))))) W2 := h10.ac (by ac_rfl)
    unfold F24.b0
    simp -dsimp -implicitDefEqProofs (disch := omega) only [go_sem, reqD_of, dec_t, dec_f, wrap_i64, wrap_u32, wrap_u64, wrap_u8, h11.cl C2, h11.cl C3, h11.cl P]
    refine (member_any ok h11 u y.name).mono ?_
    rintro e' w7 ⟨h12, rfl⟩
    simp -dsimp -implicitDefEqProofs (disch := omega) only [go_sem, reqD_of, dec_t, dec_f, wrap_i64, wrap_u32, wrap_u64, wrap_u8]
    have hsn := inG_snoc (accs x.L) u pre y
    cases hmem : memberF (accs x.L) u y.name
    · rw [hmem] at hsn
      simp only [Bool.false_eq_true, if_false, List.append_nil] at hsn
      simp -dsimp -implicitDefEqProofs (disch := omega) only [go_sem, reqD_of, dec_t, dec_f, wrap_i64, wrap_u32, wrap_u64, wrap_u8]
      have h13 := (h12.ac (by ac_rfl : _ = (Blk P (.cells (accL y (.slice av y.members.length cv)).toArray 46 (0, 0)) * PassC y #[accV y (.slice av y.members.length cv)]) * ((AccG S (inG (accs x.L) u pre) * (ptrB C2 T * cellS C3 u)) * (ptrB K T * TabW T m x) * G2))).right
      rw [← hsn] at h13
      exact h13
    · rw [hmem] at hsn
      simp only [if_true] at hsn
      have hgl := inG_len (accs x.L) u pre
      obtain ⟨vg, h13⟩ := AccG.open (h12.ac (by ac_rfl : _ = AccG S (inG (accs x.L) u pre) * (TabW T m x * (Blk P (.cells (accL y (.slice av y.members.length cv)).toArray 46 (0, 0)) * (ptrB C2 T * (cellS C3 u * (ptrB K T * (PassC y #[accV y (.slice av y.members.length cv)] * G2))))))))
      obtain ⟨ag, cg, rfl, _⟩ := h13.rowForm vg
      simp -dsimp -implicitDefEqProofs (disch := omega) only [go_sem, reqD_of, dec_t, dec_f, wrap_i64, wrap_u32, wrap_u64, wrap_u8, h13.cl S, h13.cl P]
      refine h13.lit (t := 33) (cells := [sv y.name]) fact_rowTy_33 rfl (by decide) (by decide) fun v8 w8 h14 => ?_
      obtain ⟨a8, c8, rfl, _⟩ := h14.rowForm v8
      simp -dsimp -implicitDefEqProofs (disch := omega) only [go_sem, reqD_of, dec_t, dec_f, wrap_i64, wrap_u32, wrap_u64, wrap_u8]
      refine h14.appR (v := .slice ag (inG (accs x.L) u pre).length cg) (x := .slice a8 1 c8) fact_rowTy_33 Tryd.underlying33 (fun u hu => by simp at hu; subst hu; rfl) (by simp) (show _ ≤ 9223372036854775807 by omega) (by omega) fun v9 w9 h15 => ?_
      obtain ⟨a9, c9, rfl, _⟩ := h15.rowForm v9
      simp -dsimp -implicitDefEqProofs (disch := omega) only [go_sem, reqD_of, dec_t, dec_f, wrap_i64, wrap_u32, wrap_u64, wrap_u8]
      refine h15.sto (b := S) (off := 0) (by simp) rfl fun w10 h16 => ?_
      simp only [List.setIfInBounds_toArray, List.set_cons_zero] at h16
      simp -dsimp -implicitDefEqProofs (disch := omega) only [go_sem, reqD_of, dec_t, dec_f, wrap_i64, wrap_u32, wrap_u64, wrap_u8]
      have e1 : (inG (accs x.L) u pre ++ [y.name]).length = (inG (accs x.L) u pre).length + 1 := by simp
      have e2 : (inG (accs x.L) u pre ++ [y.name]).map sv = (inG (accs x.L) u pre).map sv ++ [sv y.name] := by simp
      have h17 : St w0 (Blk S (.cells #[.slice a9 ((inG (accs x.L) u pre).length + 1) c9] 33 (0, 0)) * (rowT (.slice a9 ((inG (accs x.L) u pre).length + 1) c9) (inG (accs x.L) u pre ++ [y.name]) * ((ptrB C2 T * cellS C3 u) * (ptrB K T * TabW T m x) * G2))) w10 := by
        unfold rowT
        rw [e1, e2]
        have h18 : St w0 (Blk S (.cells #[.slice a9 ((inG (accs x.L) u pre).length + 1) c9] 33 (0, 0)) * (RowO 9 1 (.slice a9 ((inG (accs x.L) u pre).length + 1) c9) ((inG (accs x.L) u pre).length + 1) ((inG (accs x.L) u pre).map sv ++ [sv y.name]) * (ptrB C2 T * (cellS C3 u * (ptrB K T * (TabW T m x * G2)))))) w10 := h16.sub
        exact h18.ac (by ac_rfl)
      have h19 := AccG.mk h17
      rw [← hsn] at h19
      exact h19.ac (by show _ = (AccG S (inG (accs x.L) u (pre ++ [y])) * (ptrB C2 T * cellS C3 u)) * (ptrB K T * TabW T m x) * G2; ac_rfl)
  · intro D xs w' hS h6
    subst hS
    have h6 : St w0 (Blk D (.deferred (some [])) * ((AccG S (inG (accs x.L) u (accs x.L)) * (ptrB C2 T * cellS C3 u)) * (ptrB K T * TabW T m x) * A)) w' := h6
    obtain ⟨vg, h7⟩ := AccG.open (h6.ac (by ac_rfl : _ = AccG S (inG (accs x.L) u (accs x.L)) * (Blk D (.deferred (some [])) * ((ptrB C2 T * cellS C3 u) * (ptrB K T * TabW T m x) * A))))
    obtain ⟨ag, cg, rfl, _⟩ := h7.rowForm vg
    have hgl := inG_len (accs x.L) u (accs x.L)
    rw [List.length_map] at hgl
    simp -dsimp -implicitDefEqProofs (disch := omega) only [go_sem, reqD_of, dec_t, dec_f, wrap_i64, wrap_u32, wrap_u64, wrap_u8, h7.cl S]
    have h8 : St w0 (rowT (.slice ag (inG (accs x.L) u (accs x.L)).length cg) (inG (accs x.L) u (accs x.L)) * (Blk S (.cells #[.slice ag (inG (accs x.L) u (accs x.L)).length cg] 33 (0, 0)) * (Blk D (.deferred (some [])) * ((ptrB C2 T * cellS C3 u) * (ptrB K T * TabW T m x) * A)))) w' := h7.ac (by ac_rfl)
    refine (sort_any h8 (by omega)).mono ?_
    rintro e' w8 ⟨h9, rfl⟩
    simp -dsimp -implicitDefEqProofs (disch := omega) only [go_sem, reqD_of, dec_t, dec_f, wrap_i64, wrap_u32, wrap_u64, wrap_u8, h9.cl S]
    refine St.mark1 (D := D) (h9.ac (by ac_rfl : _ = Blk D (.deferred (some [])) * (Blk S (.cells #[.slice ag (inG (accs x.L) u (accs x.L)).length cg] 33 (0, 0)) * ((ptrB C2 T * (cellS C3 u * ptrB K T)) * (rowT (.slice ag (inG (accs x.L) u (accs x.L)).length cg) (groupsF (accs x.L) u) * (TabW T m x * A)))))) fun w3 h10 => ?_
    exact ⟨_, h10.right.right.right, rfl⟩
  · intro D cd pre w' h6
    have h6 : St w0 (Blk D (.deferred (some [])) * (HP.fact False EmpH * A)) w' := h6
    exact ((h6.ac (by ac_rfl : _ = HP.fact False EmpH * (Blk D (.deferred (some [])) * A))).factF).1.elim
end
end Go.Proofs.YtkijkoakloacoaaDoor
