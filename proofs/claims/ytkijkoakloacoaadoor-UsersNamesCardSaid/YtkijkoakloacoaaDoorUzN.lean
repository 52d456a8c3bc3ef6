/- users: accounts are gone through. -/
import Derived.Test.YtkijkoakloacoaaDoorUzM
import Derived.Test.YtkijkoakloacoaaDoorRf4
namespace Go.Proofs.YtkijkoakloacoaaDoor
open Go
set_option linter.unusedVariables false
set_option linter.unusedSimpArgs false
set_option maxRecDepth 100000

section
attribute [local go_sem] F65.t3_eq
theorem clone_any {w0 w : World} {A : HP} (h : St w0 A w) {v : Value} {ls : List (List UInt8)} (hv : Ent A (ReadsT v ls)) (hl : ls.length ≤ 16777216) :
    Calls Tryd.prog 65 #[v] w fun e w' => ∃ v', St w0 (rowT v' ls * A) w' ∧ e = .returned v' := by
  obtain ⟨a, c, rfl, hc, hx⟩ := h.texts hv
  refine F65.calls (by simp) ?_
  unfold F65.code
  cases a with
  | none =>
    have hn : ls = [] := by
      rcases hx with hx | ⟨b, o, e, _⟩
      · exact hx
      · cases e
    subst hn
    simp -dsimp -implicitDefEqProofs (disch := omega) only [go_sem, reqD_of, dec_t, dec_f, wrap_i64, wrap_u32, wrap_u64, wrap_u8]
    exact ⟨_, h.nilR 9 1, rfl⟩
  | some a =>
    simp -dsimp -implicitDefEqProofs (disch := omega) only [go_sem, reqD_of, dec_t, dec_f, wrap_i64, wrap_u32, wrap_u64, wrap_u8]
    refine h.lit0 fact_rowTy_33 rfl fun v1 w1 h1 => ?_
    obtain ⟨a1, c1, rfl, _⟩ := h1.rowForm v1
    simp -dsimp -implicitDefEqProofs (disch := omega) only [go_sem, reqD_of, dec_t, dec_f, wrap_i64, wrap_u32, wrap_u64, wrap_u8]
    refine h1.app (v := .slice a1 0 c1) (x := .slice (some a) ls.length c) (m := ls.length) (news := ls.map sv) fact_rowTy_33 ((Ent.right _ _).trans hv) Tryd.underlying33 (fun u hu => by obtain ⟨x, _, rfl⟩ := List.mem_map.1 hu; rfl) (fun e => by simpa using e) (show _ ≤ 9223372036854775807 by omega) (by omega) fun v2 w2 h2 => ?_
    obtain ⟨a2, c2, rfl, _⟩ := h2.rowForm v2
    simp -dsimp -implicitDefEqProofs (disch := omega) only [go_sem, reqD_of, dec_t, dec_f, wrap_i64, wrap_u32, wrap_u64, wrap_u8]
    rw [List.nil_append, Nat.zero_add] at h2
    exact ⟨_, h2, by simp⟩

end

theorem own_any {w0 w : World} {A : HP} (h : St w0 A w) {a : Acc} {v : Value} (hv : Ent A (ReadsT v a.members)) (hf : Fit a) (hc : isCell v = true) :
    Calls Tryd.prog 52 #[accV a v] w fun e w' => ∃ v', St w0 (rowT v' a.members * A) w' ∧ e = .returned (accV a v') := by
  obtain ⟨av, cv, rfl, hcv, hx⟩ := h.texts hv
  refine F52.calls (by simp) ?_
  unfold F52.code
  simp -dsimp -implicitDefEqProofs (disch := omega) only [go_sem, reqD_of, dec_t, dec_f, wrap_i64, wrap_u32, wrap_u64, wrap_u8]
  refine h.new fun P1 w1 h1 => ?_
  simp -dsimp -implicitDefEqProofs (disch := omega) only [go_sem, reqD_of, dec_t, dec_f, wrap_i64, wrap_u32, wrap_u64, wrap_u8]
  refine h1.new fun P2 w2 h2 => ?_
  simp -dsimp -implicitDefEqProofs (disch := omega) only [go_sem, reqD_of, dec_t, dec_f, wrap_i64, wrap_u32, wrap_u64, wrap_u8, h2.cl P1]
  refine (clone_any h2 ((Ent.right _ _).trans ((Ent.right _ _).trans hv)) hf.2).mono ?_
  rintro e w3 ⟨v', h3, rfl⟩
  obtain ⟨a', c', rfl, _⟩ := h3.rowForm v'
  simp -dsimp -implicitDefEqProofs (disch := omega) only [go_sem, reqD_of, dec_t, dec_f, wrap_i64, wrap_u32, wrap_u64, wrap_u8]
  refine h3.sto (b := P1) (off := 2) (by simp) rfl fun w4 h4 => ?_
  simp only [List.setIfInBounds_toArray, List.set_cons_succ, List.set_cons_zero] at h4
  simp -dsimp -implicitDefEqProofs (disch := omega) only [go_sem, reqD_of, dec_t, dec_f, wrap_i64, wrap_u32, wrap_u64, wrap_u8, h4.rowH P1 4 rfl, h4.cl P1]
  refine h4.stoAll (b := P2) (n := 4) (cs := accL a (.slice a' a.members.length c')) rfl rfl (fun v hv => by simp at hv; rcases hv with rfl | rfl | rfl | rfl <;> rfl) fun w5 h5 => ?_
  have r2 := h5.rowH P2 4 rfl
  simp -dsimp -implicitDefEqProofs (disch := omega) only [go_sem, reqD_of, dec_t, dec_f, wrap_i64, wrap_u32, wrap_u64, wrap_u8, r2]
  refine resC_1 (a := ⟨P2, 0, none⟩) (v := accV a (.slice a' a.members.length c')) (by simp -dsimp -implicitDefEqProofs only [go_sem]) (run_loadVar_row (by kernel_rfl) r2) ?_
  exact ⟨_, h5.sub, rfl⟩

/-! ### One by one -/

def PassC (x : Acc) (args : Array Value) : HP := HP.ex fun v : Value => HP.fact (args = #[accV x v]) (rowT v x.members)
theorem PassC.open {w0 w : World} {x : Acc} {args : Array Value} {F : HP} (h : St w0 (PassC x args * F) w) : ∃ v, args = #[accV x v] ∧ St w0 (rowT v x.members * F) w := by
  obtain ⟨v, h1⟩ := h.exF
  obtain ⟨e, h2⟩ := h1.factF
  exact ⟨v, e, h2⟩
theorem PassC.mk (x : Acc) (v : Value) : Ent (rowT v x.members) (PassC x #[accV x v]) :=
  (Ent.fact (p := (#[accV x v] : Array Value) = #[accV x v]) rfl _).trans (Ent.ex (fun v' : Value => HP.fact ((#[accV x v] : Array Value) = #[accV x v']) (rowT v' x.members)) v)
theorem accV_inj {x : Acc} {v v' : Value} (h : (#[accV x v] : Array Value) = #[accV x v']) : v = v' := by
  simpa [accV, accL] using h
abbrev AllT (K T m : Nat) (x : UT) : HP := Blk K (.cells #[.pointer (some ⟨T, 0, none⟩)] 28 (0, 0)) * TabW T m x


theorem accounts_any {w0 w : World} {A : HP} {T : Nat} (h : St w0 A w) :
    Calls Tryd.prog 18 #[.pointer (some ⟨T, 0, none⟩)] w fun e w' => ∃ K, St w0 (Blk K (.cells #[.pointer (some ⟨T, 0, none⟩)] 28 (0, 0)) * A) w' ∧ e = .returned (.func (.func 51) #[] #[.pointer (some ⟨K, 0, none⟩)]) := by
  refine F18.calls (by simp) ?_
  unfold F18.code
  simp -dsimp -implicitDefEqProofs (disch := omega) only [go_sem, reqD_of, dec_t, dec_f, wrap_i64, wrap_u32, wrap_u64, wrap_u8]
  refine h.new fun K w1 h1 => ?_
  simp -dsimp -implicitDefEqProofs (disch := omega) only [go_sem, reqD_of, dec_t, dec_f, wrap_i64, wrap_u32, wrap_u64, wrap_u8]
  exact ⟨K, h1, rfl⟩

section
attribute [local go_sem] F51.t4_eq F51.t2_eq
theorem accIter {w0 : World} {K T m : Nat} {x : UT} {G : HP} (ok : x.Ok) (hn : x.L.length ≤ 16777216) :
    IterOkT Tryd.prog w0 51 #[.pointer (some ⟨K, 0, none⟩)] PassC (fun pre => ∃ post, pre ++ post = accs x.L) (fun xs => xs = accs x.L) (AllT K T m x) G G := by
  rintro q w1 J X ⟨Kf, hJ⟩ hy h
  show Calls _ 51 #[.func (.yield q) #[] #[], .pointer (some ⟨K, 0, none⟩)] w1 _
  have h1 : St w0 (Kf [] * ((Blk K (.cells #[.pointer (some ⟨T, 0, none⟩)] 28 (0, 0)) * TabW T m x) * G)) w1 := h.ac (by rw [hJ]; ac_rfl)
  obtain ⟨av, cv, hvl, hcv⟩ : ∃ a c, x.vl = .slice a x.L.length c ∧ x.L.length ≤ c := by
    obtain ⟨a, c, e, _, hc, _⟩ := h1.rowForm x.vl
    exact ⟨a, c, e, hc⟩
  refine F51.calls (by simp) ?_
  unfold F51.code
  simp -dsimp -implicitDefEqProofs (disch := omega) only [go_sem, reqD_of, dec_t, dec_f, wrap_i64, wrap_u32, wrap_u64, wrap_u8, h1.cl K, h1.cl T, hvl]
  refine loop_intro (fun e w' => e.ds = [] ∧ e.ρ 0 = .func (.yield q) #[] #[] ∧ e.ρ 8 = .slice av x.L.length cv ∧ e.ρ 9 = .int .i64 x.L.length ∧ ∃ i : Nat, i ≤ x.L.length ∧ e.ρ 10 = .int .i64 i ∧ St w0 (J ((accs x.L).take i) * G) w')
    (fun e _ => match e.ρ 10 with | .int _ n => (x.L.length - n).toNat | _ => 0) ?_ ?_
  · exact ⟨rfl, by simp -dsimp -implicitDefEqProofs only [go_sem], by simp -dsimp -implicitDefEqProofs only [go_sem], by simp -dsimp -implicitDefEqProofs only [go_sem], 0, by omega, by simp -dsimp -implicitDefEqProofs only [go_sem], by simpa using h⟩
  clear h h1
  rintro e w2 ⟨hd, e0, e8, e9, i, hi, e10, h2⟩
  by_cases hlt : (i : Int) < (x.L.length : Int)
  case neg =>
    rw [List.take_of_length_le (by simp; omega)] at h2
    simp -dsimp -implicitDefEqProofs (disch := omega) only [go_sem, reqD_of, dec_t, dec_f, wrap_i64, wrap_u32, wrap_u64, wrap_u8, hd, e0, e8, e9, e10, hlt]
    exact ⟨⟨_, rfl⟩, .inl ⟨_, rfl, h2⟩⟩
  have hlt' : i < x.L.length := by omega
  have h3 : St w0 (Kf ((accs x.L).take i) * ((Blk K (.cells #[.pointer (some ⟨T, 0, none⟩)] 28 (0, 0)) * TabW T m x) * G)) w2 := h2.ac (by rw [hJ]; ac_rfl)
  obtain ⟨_, a', c', hv', _, hrow⟩ := St.rowsAt accC_len (by decide) (h3.gives (B := Reads 4 x.vl x.L.length (x.L.flatMap accC)))
  obtain ⟨b, o, rfl, hr, _⟩ := hrow i hlt'
  have he : Value.slice av x.L.length cv = .slice (some ⟨b, o, none⟩) x.L.length c' := hvl.symm.trans hv'
  simp only [Value.slice.injEq, true_and] at he
  obtain ⟨rfl, rfl⟩ := he
  have hx := ok.ms _ (List.getElem_mem hlt')
  have hten : (accs x.L).take (i + 1) = (accs x.L).take i ++ [x.L[i].1] := by
    rw [List.take_succ_eq_append_getElem (by simpa using hlt')]; simp
  have hpost : ∃ post, ((accs x.L).take i ++ [x.L[i].1]) ++ post = accs x.L := ⟨(accs x.L).drop (i + 1), by rw [← hten, List.take_append_drop]⟩
  obtain ⟨y, hye⟩ : ∃ y, y = x.L[i] := ⟨_, rfl⟩
  rw [← hye] at hr hx hten hpost
  obtain ⟨a, v⟩ := y
  obtain ⟨hx1, hx2, hx3⟩ := hx
  simp only at hx1 hx2 hx3 hten hpost
  have g3 : Gives (Kf ((accs x.L).take i) * ((Blk K (.cells #[.pointer (some ⟨T, 0, none⟩)] 28 (0, 0)) * TabW T m x) * G)) x.B := inferInstance
  obtain ⟨cm, am, rfl⟩ : ∃ c x, v = .slice x a.members.length c := by
    obtain ⟨x, c, e, hc, _⟩ := h3.texts (g3.ent.trans hx1)
    exact ⟨c, x, e⟩
  simp -dsimp -implicitDefEqProofs (disch := omega) only [go_sem, reqD_of, dec_t, dec_f, wrap_i64, wrap_u32, wrap_u64, wrap_u8, hd, e0, e8, e9, e10, hlt, hr]
  refine h3.new fun P w4 h4 => ?_
  simp -dsimp -implicitDefEqProofs (disch := omega) only [go_sem, reqD_of, dec_t, dec_f, wrap_i64, wrap_u32, wrap_u64, wrap_u8, hd, e0, e8, e9, e10]
  refine h4.stoAll (b := P) (n := 4) (cs := accL a (.slice am a.members.length cm)) rfl rfl (fun v hv => by simp at hv; rcases hv with rfl | rfl | rfl | rfl <;> rfl) fun w5 h5 => ?_
  simp -dsimp -implicitDefEqProofs (disch := omega) only [go_sem, reqD_of, dec_t, dec_f, wrap_i64, wrap_u32, wrap_u64, wrap_u8, hd, e0, e8, e9, e10, h5.rowH P 4 rfl, h5.cl P]
  refine (own_any h5 (a := a) (v := .slice am a.members.length cm) ((Ent.right _ _).trans (g3.ent.trans hx1)) hx2 rfl).mono ?_
  rintro e' w6 ⟨v', h6, rfl⟩
  have h7 : St w0 (rowT v' a.members * (J ((accs x.L).take i) * G)) w6 := (h6.ent (Ent.sep (Ent.rfl' _) (Ent.right _ _))).ac (by rw [hJ]; unfold AllT; ac_rfl)
  have h8 : St w0 (J ((accs x.L).take i) * (PassC a #[accV a v'] * G)) w6 := (h7.ent (Ent.sep (PassC.mk a v') (Ent.rfl' _))).ac (by ac_rfl)
  simp -dsimp -implicitDefEqProofs (disch := omega) only [go_sem, reqD_of, dec_t, dec_f, wrap_i64, wrap_u32, wrap_u64, wrap_u8, hd, e0, e8, e9, e10]
  refine (hy _ _ a _ _ hpost h8).mono ?_
  rintro e' w7 (⟨rfl, h11⟩ | ⟨rfl, h11⟩)
  · simp -dsimp -implicitDefEqProofs (disch := omega) only [go_sem, reqD_of, dec_t, dec_f, wrap_i64, wrap_u32, wrap_u64, wrap_u8, hd, e0, e8, e9, e10]
    refine ⟨⟨i + 1, by omega, by omega, ?_⟩, by omega⟩
    rw [hten]
    exact h11
  · simp -dsimp -implicitDefEqProofs (disch := omega) only [go_sem, reqD_of, dec_t, dec_f, wrap_i64, wrap_u32, wrap_u64, wrap_u8, hd, e0, e8, e9, e10]
    exact ⟨⟨_, rfl⟩, .inr ⟨_, h11⟩⟩
end
end Go.Proofs.YtkijkoakloacoaaDoor
