/- users: what a table tells: Known, Member, Leads, Key. users: accounts are gone through. slices.Sort of texts; Groups. law06: sameTexts; the chapter's example. -/
import Derived.Test.YtkijkoakloacoaaGreatDoorUD
import Derived.Test.YtkijkoakloacoaaGreatDoorRf4
import Derived.Test.YtkijkoakloacoaaGreatDoorSrtD
import Derived.Test.YtkijkoakloacoaaGreatDoorLayS
import Derived.Test.YtkijkoakloacoaaGreatDoorUA
namespace Go.Proofs.YtkijkoakloacoaaGreatDoor
open Go
set_option linter.unusedVariables false
set_option linter.unusedSimpArgs false
set_option maxRecDepth 100000


theorem known_any {w0 w : World} {A : HP} {T m : Nat} {x : UT} (h : St w0 (TabW T m x * A) w) (n : List UInt8) :
    Calls Tryz.prog 26 #[.pointer (some ⟨T, 0, none⟩), .string (strOf n)] w fun e w' => St w0 (TabW T m x * A) w' ∧ e = .returned (.bool (known (accs x.L) n)) := by
  refine F26.calls (by simp) ?_
  unfold F26.code
  simp -dsimp -implicitDefEqProofs (disch := omega) only [go_sem, reqD_of, dec_t, dec_f, wrap_i64, wrap_u32, wrap_u64, wrap_u8, h.cl T]
  refine h.lkH (b := m) (x := n) Tryz.underlying64 lawS zero_int ?_
  obtain ⟨z, hz⟩ := lkV_at (accs x.L) n
  rw [hz]
  simp -dsimp -implicitDefEqProofs (disch := omega) only [go_sem, reqD_of, dec_t, dec_f, wrap_i64, wrap_u32, wrap_u64, wrap_u8]
  exact h


theorem member_any {w0 w : World} {A : HP} {T m : Nat} {x : UT} (ok : x.Ok) (h : St w0 (TabW T m x * A) w) (u g : List UInt8) :
    Calls Tryz.prog 23 #[.pointer (some ⟨T, 0, none⟩), .string (strOf u), .string (strOf g)] w fun e w' => St w0 (TabW T m x * A) w' ∧ e = .returned (.bool (memberF (accs x.L) u g)) := by
  refine F23.calls (by simp) ?_
  unfold F23.code
  simp -dsimp -implicitDefEqProofs (disch := omega) only [go_sem, reqD_of, dec_t, dec_f, wrap_i64, wrap_u32, wrap_u64, wrap_u8, h.cl T]
  refine onV_of (v := encPr (u, g)) (by kernel_rfl) ?_
  simp -dsimp -implicitDefEqProofs (disch := omega) only [go_sem, reqD_of, dec_t, dec_f, wrap_i64, wrap_u32, wrap_u64, wrap_u8]
  refine h.lkH (b := x.mi) (x := (u, g)) Tryz.underlying65 lawPr zero_int ?_
  have hin := ok.inl u g
  rw [← hin]
  have hz : ∃ z, lkV (.int .i64 0) true (lk (u, g) x.inl) = .tuple #[z, .bool (lk (u, g) x.inl).isSome] := by
    cases lk (u, g) x.inl with
    | none => exact ⟨_, rfl⟩
    | some v => exact ⟨_, rfl⟩
  obtain ⟨z, hz⟩ := hz
  rw [hz]
  simp -dsimp -implicitDefEqProofs (disch := omega) only [go_sem, reqD_of, dec_t, dec_f, wrap_i64, wrap_u32, wrap_u64, wrap_u8]
  exact h

section
attribute [local go_sem] F24.t7_eq
theorem leads_any {w0 w : World} {A : HP} {T m : Nat} {x : UT} (ok : x.Ok) (h : St w0 (TabW T m x * A) w) (u g : List UInt8) :
    Calls Tryz.prog 24 #[.pointer (some ⟨T, 0, none⟩), .string (strOf u), .string (strOf g)] w fun e w' => St w0 (TabW T m x * A) w' ∧ e = .returned (.bool (leadsF (accs x.L) u g)) := by
  refine F24.calls (by simp) ?_
  unfold F24.code
  simp -dsimp -implicitDefEqProofs (disch := omega) only [go_sem, reqD_of, dec_t, dec_f, wrap_i64, wrap_u32, wrap_u64, wrap_u8, h.cl T]
  refine h.lkH (b := m) (x := g) Tryz.underlying64 lawS zero_int ?_
  cases hg : known (accs x.L) g
  · have hl : leadsF (accs x.L) u g = false := by
      rw [known_find] at hg
      unfold leadsF
      cases hf : findF (accs x.L) g
      · rfl
      · rw [hf] at hg; cases hg
    rw [lk_at_none hg, hl]
    simp -dsimp -implicitDefEqProofs (disch := omega) only [go_sem, reqD_of, dec_t, dec_f, wrap_i64, wrap_u32, wrap_u64, wrap_u8, lkV]
    exact h
  obtain ⟨i, hi, hlk, hfind⟩ := lk_at_some hg
  rw [hlk]
  simp -dsimp -implicitDefEqProofs (disch := omega) only [go_sem, reqD_of, dec_t, dec_f, wrap_i64, wrap_u32, wrap_u64, wrap_u8, lkV]
  refine (known_any h u).mono ?_
  rintro e w1 ⟨h1, rfl⟩
  have hi' : i < x.L.length := by simpa using hi
  have ha : (accs x.L)[i] = x.L[i].1 := by simp
  rw [ha] at hfind
  cases hu : known (accs x.L) u
  · have hl : leadsF (accs x.L) u g = false := by unfold leadsF; rw [hfind]; simp [hu]
    rw [hl]
    simp -dsimp -implicitDefEqProofs (disch := omega) only [go_sem, reqD_of, dec_t, dec_f, wrap_i64, wrap_u32, wrap_u64, wrap_u8]
    exact h1
  have hl : leadsF (accs x.L) u g = if x.L[i].1.leader = [] then memberF (accs x.L) u g else x.L[i].1.leader == u := by unfold leadsF; rw [hfind]; simp [hu]
  rw [hl]
  obtain ⟨⟨av, cv, hvl, _⟩, _⟩ : (∃ a c, x.vl = .slice a x.L.length c ∧ True) ∧ True := by
    obtain ⟨a, c, e, _⟩ := h1.rowForm x.vl
    exact ⟨⟨a, c, e, trivial⟩, trivial⟩
  obtain ⟨_, a', c', hv', _, hrow⟩ := St.rowsAt accC_len (by decide) (h1.gives (B := Reads 4 x.vl x.L.length (x.L.flatMap accC)))
  obtain ⟨b, o, rfl, _, hc⟩ := hrow i hi'
  have hc1 := hc 1 (by decide)
  have hil : (i : Int) < x.L.length := by omega
  have hc2 : w1.cell? ⟨b, o + i * 4 + 1, none⟩ = some (sv x.L[i].1.leader) := hc1
  simp -dsimp -implicitDefEqProofs (disch := omega) only [go_sem, reqD_of, dec_t, dec_f, wrap_i64, wrap_u32, wrap_u64, wrap_u8, F24.t4_eq, h1.cl T, hv', hil, hc2]
  by_cases hld : x.L[i].1.leader = []
  · have d0 : decide (x.L[i].1.leader = []) = true := by simp [hld]
    rw [if_pos hld]
    simp -dsimp -implicitDefEqProofs (disch := omega) only [go_sem, reqD_of, dec_t, dec_f, wrap_i64, wrap_u32, wrap_u64, wrap_u8, d0]
    refine (member_any ok h1 u g).mono ?_
    rintro e w2 ⟨h2, rfl⟩
    simp -dsimp -implicitDefEqProofs (disch := omega) only [go_sem, reqD_of, dec_t, dec_f, wrap_i64, wrap_u32, wrap_u64, wrap_u8]
    exact h2
  · rw [if_neg hld, strEq_beq]
    simp -dsimp -implicitDefEqProofs (disch := omega) only [go_sem, reqD_of, dec_t, dec_f, wrap_i64, wrap_u32, wrap_u64, wrap_u8, hld]
    exact h1

end
section
attribute [local go_sem] F25.t4_eq
theorem keyT_any {w0 w : World} {A : HP} {T m : Nat} {x : UT} (h : St w0 (TabW T m x * A) w) (u : List UInt8) :
    Calls Tryz.prog 25 #[.pointer (some ⟨T, 0, none⟩), .string (strOf u)] w fun e w' => St w0 (TabW T m x * A) w' ∧ e = .returned (.string (strOf (keyOf (accs x.L) u))) := by
  refine F25.calls (by simp) ?_
  unfold F25.code
  simp -dsimp -implicitDefEqProofs (disch := omega) only [go_sem, reqD_of, dec_t, dec_f, wrap_i64, wrap_u32, wrap_u64, wrap_u8, h.cl T]
  refine h.lkH (b := m) (x := u) Tryz.underlying64 lawS zero_int ?_
  cases hg : known (accs x.L) u
  · have hl : keyOf (accs x.L) u = [] := by
      rw [known_find] at hg
      unfold keyOf
      cases hf : findF (accs x.L) u
      · rfl
      · rw [hf] at hg; cases hg
    rw [lk_at_none hg, hl]
    simp -dsimp -implicitDefEqProofs (disch := omega) only [go_sem, reqD_of, dec_t, dec_f, wrap_i64, wrap_u32, wrap_u64, wrap_u8, lkV]
    exact h
  obtain ⟨i, hi, hlk, hfind⟩ := lk_at_some hg
  rw [hlk]
  have hi' : i < x.L.length := by simpa using hi
  have ha : (accs x.L)[i] = x.L[i].1 := by simp
  rw [ha] at hfind
  have hl : keyOf (accs x.L) u = x.L[i].1.key := by unfold keyOf; rw [hfind]
  rw [hl]
  obtain ⟨_, a', c', hv', _, hrow⟩ := St.rowsAt accC_len (by decide) (h.gives (B := Reads 4 x.vl x.L.length (x.L.flatMap accC)))
  obtain ⟨b, o, rfl, _, hc⟩ := hrow i hi'
  have hil : (i : Int) < x.L.length := by omega
  have hc2 : w.cell? ⟨b, o + i * 4 + 3, none⟩ = some (sv x.L[i].1.key) := hc 3 (by decide)
  simp -dsimp -implicitDefEqProofs (disch := omega) only [go_sem, reqD_of, dec_t, dec_f, wrap_i64, wrap_u32, wrap_u64, wrap_u8, lkV, h.cl T, hv', hil, hc2]
  exact h
end
end Go.Proofs.YtkijkoakloacoaaGreatDoor

namespace Go.Proofs.YtkijkoakloacoaaGreatDoor
open Go
set_option linter.unusedVariables false
set_option linter.unusedSimpArgs false
set_option maxRecDepth 100000

section
attribute [local go_sem] F97.t3_eq
theorem clone_any {w0 w : World} {A : HP} (h : St w0 A w) {v : Value} {ls : List (List UInt8)} (hv : Ent A (ReadsT v ls)) (hl : ls.length ≤ 16777216) :
    Calls Tryz.prog 97 #[v] w fun e w' => ∃ v', St w0 (rowT v' ls * A) w' ∧ e = .returned v' := by
  obtain ⟨a, c, rfl, hc, hx⟩ := h.texts hv
  refine F97.calls (by simp) ?_
  unfold F97.code
  cases a with
  | none =>
    have hn : ls = [] := by
      rcases hx with hx | ⟨b, o, e, _⟩
      · exact hx
      · cases e
    subst hn
    simp -dsimp -implicitDefEqProofs (disch := omega) only [go_sem, reqD_of, dec_t, dec_f, wrap_i64, wrap_u32, wrap_u64, wrap_u8]
    exact ⟨_, h.nilR 9 1, rfl⟩
  | some a =>
    simp -dsimp -implicitDefEqProofs (disch := omega) only [go_sem, reqD_of, dec_t, dec_f, wrap_i64, wrap_u32, wrap_u64, wrap_u8]
    refine h.lit0 fact_rowTy_22 rfl fun v1 w1 h1 => ?_
    obtain ⟨a1, c1, rfl, _⟩ := h1.rowForm v1
    simp -dsimp -implicitDefEqProofs (disch := omega) only [go_sem, reqD_of, dec_t, dec_f, wrap_i64, wrap_u32, wrap_u64, wrap_u8]
    refine h1.app (v := .slice a1 0 c1) (x := .slice (some a) ls.length c) (m := ls.length) (news := ls.map sv) fact_rowTy_22 ((Ent.right _ _).trans hv) Tryz.underlying22 (fun u hu => by obtain ⟨x, _, rfl⟩ := List.mem_map.1 hu; rfl) (fun e => by simpa using e) (show _ ≤ 9223372036854775807 by omega) (by omega) fun v2 w2 h2 => ?_
    obtain ⟨a2, c2, rfl, _⟩ := h2.rowForm v2
    simp -dsimp -implicitDefEqProofs (disch := omega) only [go_sem, reqD_of, dec_t, dec_f, wrap_i64, wrap_u32, wrap_u64, wrap_u8]
    rw [List.nil_append, Nat.zero_add] at h2
    exact ⟨_, h2, by simp⟩

end

theorem own_any {w0 w : World} {A : HP} (h : St w0 A w) {a : Acc} {v : Value} (hv : Ent A (ReadsT v a.members)) (hf : Fit a) (hc : isCell v = true) :
    Calls Tryz.prog 84 #[accV a v] w fun e w' => ∃ v', St w0 (rowT v' a.members * A) w' ∧ e = .returned (accV a v') := by
  obtain ⟨av, cv, rfl, hcv, hx⟩ := h.texts hv
  refine F84.calls (by simp) ?_
  unfold F84.code
  simp -dsimp -implicitDefEqProofs (disch := omega) only [go_sem, reqD_of, dec_t, dec_f, wrap_i64, wrap_u32, wrap_u64, wrap_u8]
  refine h.new fun P1 w1 h1 => ?_
  simp -dsimp -implicitDefEqProofs (disch := omega) only [go_sem, reqD_of, dec_t, dec_f, wrap_i64, wrap_u32, wrap_u64, wrap_u8]
  refine h1.new fun P2 w2 h2 => ?_
  simp -dsimp -implicitDefEqProofs (disch := omega) only [go_sem, reqD_of, dec_t, dec_f, wrap_i64, wrap_u32, wrap_u64, wrap_u8, h2.cl P1]
  refine (clone_any h2 ((Ent.right _ _).trans ((Ent.right _ _).trans hv)) hf.2).mono ?_
  rintro e w3 ⟨v', h3, rfl⟩
  obtain ⟨a', c', rfl, _⟩ := h3.rowForm v'
  simp -dsimp -implicitDefEqProofs (disch := omega) only [go_sem, reqD_of, dec_t, dec_f, wrap_i64, wrap_u32, wrap_u64, wrap_u8]
  refine h3.sto (b := P1) (off := 2) (by simp) rfl fun w4 h4 => ?_
  simp only [List.setIfInBounds_toArray, List.set_cons_succ, List.set_cons_zero] at h4
  simp -dsimp -implicitDefEqProofs (disch := omega) only [go_sem, reqD_of, dec_t, dec_f, wrap_i64, wrap_u32, wrap_u64, wrap_u8, h4.rowH P1 4 rfl, h4.cl P1]
  refine h4.stoAll (b := P2) (n := 4) (cs := accL a (.slice a' a.members.length c')) rfl rfl (fun v hv => by simp at hv; rcases hv with rfl | rfl | rfl | rfl <;> rfl) fun w5 h5 => ?_
  have r2 := h5.rowH P2 4 rfl
  simp -dsimp -implicitDefEqProofs (disch := omega) only [go_sem, reqD_of, dec_t, dec_f, wrap_i64, wrap_u32, wrap_u64, wrap_u8, r2]
  refine resC_1 (a := ⟨P2, 0, none⟩) (v := accV a (.slice a' a.members.length c')) (by simp -dsimp -implicitDefEqProofs only [go_sem]) (run_loadVar_row (by kernel_rfl) r2) ?_
  exact ⟨_, h5.sub, rfl⟩

/-! ### One by one -/

def PassC (x : Acc) (args : Array Value) : HP := HP.ex fun v : Value => HP.fact (args = #[accV x v]) (rowT v x.members)
theorem PassC.open {w0 w : World} {x : Acc} {args : Array Value} {F : HP} (h : St w0 (PassC x args * F) w) : ∃ v, args = #[accV x v] ∧ St w0 (rowT v x.members * F) w := by
  obtain ⟨v, h1⟩ := h.exF
  obtain ⟨e, h2⟩ := h1.factF
  exact ⟨v, e, h2⟩
theorem PassC.mk (x : Acc) (v : Value) : Ent (rowT v x.members) (PassC x #[accV x v]) :=
  (Ent.fact (p := (#[accV x v] : Array Value) = #[accV x v]) rfl _).trans (Ent.ex (fun v' : Value => HP.fact ((#[accV x v] : Array Value) = #[accV x v']) (rowT v' x.members)) v)
theorem accV_inj {x : Acc} {v v' : Value} (h : (#[accV x v] : Array Value) = #[accV x v']) : v = v' := by
  simpa [accV, accL] using h
abbrev AllT (K T m : Nat) (x : UT) : HP := Blk K (.cells #[.pointer (some ⟨T, 0, none⟩)] 25 (0, 0)) * TabW T m x


theorem accounts_any {w0 w : World} {A : HP} {T : Nat} (h : St w0 A w) :
    Calls Tryz.prog 58 #[.pointer (some ⟨T, 0, none⟩)] w fun e w' => ∃ K, St w0 (Blk K (.cells #[.pointer (some ⟨T, 0, none⟩)] 25 (0, 0)) * A) w' ∧ e = .returned (.func (.func 83) #[] #[.pointer (some ⟨K, 0, none⟩)]) := by
  refine F58.calls (by simp) ?_
  unfold F58.code
  simp -dsimp -implicitDefEqProofs (disch := omega) only [go_sem, reqD_of, dec_t, dec_f, wrap_i64, wrap_u32, wrap_u64, wrap_u8]
  refine h.new fun K w1 h1 => ?_
  simp -dsimp -implicitDefEqProofs (disch := omega) only [go_sem, reqD_of, dec_t, dec_f, wrap_i64, wrap_u32, wrap_u64, wrap_u8]
  exact ⟨K, h1, rfl⟩

section
attribute [local go_sem] F83.t4_eq F83.t2_eq
theorem accIter {w0 : World} {K T m : Nat} {x : UT} {G : HP} (ok : x.Ok) (hn : x.L.length ≤ 16777216) :
    IterOkT Tryz.prog w0 83 #[.pointer (some ⟨K, 0, none⟩)] PassC (fun pre => ∃ post, pre ++ post = accs x.L) (fun xs => xs = accs x.L) (AllT K T m x) G G := by
  rintro q w1 J X ⟨Kf, hJ⟩ hy h
  show Calls _ 83 #[.func (.yield q) #[] #[], .pointer (some ⟨K, 0, none⟩)] w1 _
  have h1 : St w0 (Kf [] * ((Blk K (.cells #[.pointer (some ⟨T, 0, none⟩)] 25 (0, 0)) * TabW T m x) * G)) w1 := h.ac (by rw [hJ]; ac_rfl)
  obtain ⟨av, cv, hvl, hcv⟩ : ∃ a c, x.vl = .slice a x.L.length c ∧ x.L.length ≤ c := by
    obtain ⟨a, c, e, _, hc, _⟩ := h1.rowForm x.vl
    exact ⟨a, c, e, hc⟩
  refine F83.calls (by simp) ?_
  unfold F83.code
  simp -dsimp -implicitDefEqProofs (disch := omega) only [go_sem, reqD_of, dec_t, dec_f, wrap_i64, wrap_u32, wrap_u64, wrap_u8, h1.cl K, h1.cl T, hvl]
  refine loop_intro (fun e w' => e.ds = [] ∧ e.ρ 0 = .func (.yield q) #[] #[] ∧ e.ρ 8 = .slice av x.L.length cv ∧ e.ρ 9 = .int .i64 x.L.length ∧ ∃ i : Nat, i ≤ x.L.length ∧ e.ρ 10 = .int .i64 i ∧ St w0 (J ((accs x.L).take i) * G) w')
    (fun e _ => match e.ρ 10 with | .int _ n => (x.L.length - n).toNat | _ => 0) ?_ ?_
  · exact ⟨rfl, by simp -dsimp -implicitDefEqProofs only [go_sem], by simp -dsimp -implicitDefEqProofs only [go_sem], by simp -dsimp -implicitDefEqProofs only [go_sem], 0, by omega, by simp -dsimp -implicitDefEqProofs only [go_sem], by simpa using h⟩
  clear h h1
  rintro e w2 ⟨hd, e0, e8, e9, i, hi, e10, h2⟩
  by_cases hlt : (i : Int) < (x.L.length : Int)
  case neg =>
    rw [List.take_of_length_le (by simp; omega)] at h2
    simp -dsimp -implicitDefEqProofs (disch := omega) only [go_sem, reqD_of, dec_t, dec_f, wrap_i64, wrap_u32, wrap_u64, wrap_u8, hd, e0, e8, e9, e10, hlt]
    exact ⟨⟨_, rfl⟩, .inl ⟨_, rfl, h2⟩⟩
  have hlt' : i < x.L.length := by omega
  have h3 : St w0 (Kf ((accs x.L).take i) * ((Blk K (.cells #[.pointer (some ⟨T, 0, none⟩)] 25 (0, 0)) * TabW T m x) * G)) w2 := h2.ac (by rw [hJ]; ac_rfl)
  obtain ⟨_, a', c', hv', _, hrow⟩ := St.rowsAt accC_len (by decide) (h3.gives (B := Reads 4 x.vl x.L.length (x.L.flatMap accC)))
  obtain ⟨b, o, rfl, hr, _⟩ := hrow i hlt'
  have he : Value.slice av x.L.length cv = .slice (some ⟨b, o, none⟩) x.L.length c' := hvl.symm.trans hv'
  simp only [Value.slice.injEq, true_and] at he
  obtain ⟨rfl, rfl⟩ := he
  have hx := ok.ms _ (List.getElem_mem hlt')
  have hten : (accs x.L).take (i + 1) = (accs x.L).take i ++ [x.L[i].1] := by
    rw [List.take_succ_eq_append_getElem (by simpa using hlt')]; simp
  have hpost : ∃ post, ((accs x.L).take i ++ [x.L[i].1]) ++ post = accs x.L := ⟨(accs x.L).drop (i + 1), by rw [← hten, List.take_append_drop]⟩
  obtain ⟨y, hye⟩ : ∃ y, y = x.L[i] := ⟨_, rfl⟩
  rw [← hye] at hr hx hten hpost
  obtain ⟨a, v⟩ := y
  obtain ⟨hx1, hx2, hx3⟩ := hx
  simp only at hx1 hx2 hx3 hten hpost
  have g3 : Gives (Kf ((accs x.L).take i) * ((Blk K (.cells #[.pointer (some ⟨T, 0, none⟩)] 25 (0, 0)) * TabW T m x) * G)) x.B := inferInstance
  obtain ⟨cm, am, rfl⟩ : ∃ c x, v = .slice x a.members.length c := by
    obtain ⟨x, c, e, hc, _⟩ := h3.texts (g3.ent.trans hx1)
    exact ⟨c, x, e⟩
  simp -dsimp -implicitDefEqProofs (disch := omega) only [go_sem, reqD_of, dec_t, dec_f, wrap_i64, wrap_u32, wrap_u64, wrap_u8, hd, e0, e8, e9, e10, hlt, hr]
  refine h3.new fun P w4 h4 => ?_
  simp -dsimp -implicitDefEqProofs (disch := omega) only [go_sem, reqD_of, dec_t, dec_f, wrap_i64, wrap_u32, wrap_u64, wrap_u8, hd, e0, e8, e9, e10]
  refine h4.stoAll (b := P) (n := 4) (cs := accL a (.slice am a.members.length cm)) rfl rfl (fun v hv => by simp at hv; rcases hv with rfl | rfl | rfl | rfl <;> rfl) fun w5 h5 => ?_
  simp -dsimp -implicitDefEqProofs (disch := omega) only [go_sem, reqD_of, dec_t, dec_f, wrap_i64, wrap_u32, wrap_u64, wrap_u8, hd, e0, e8, e9, e10, h5.rowH P 4 rfl, h5.cl P]
  refine (own_any h5 (a := a) (v := .slice am a.members.length cm) ((Ent.right _ _).trans (g3.ent.trans hx1)) hx2 rfl).mono ?_
  rintro e' w6 ⟨v', h6, rfl⟩
  have h7 : St w0 (rowT v' a.members * (J ((accs x.L).take i) * G)) w6 := (h6.ent (Ent.sep (Ent.rfl' _) (Ent.right _ _))).ac (by rw [hJ]; unfold AllT; ac_rfl)
  have h8 : St w0 (J ((accs x.L).take i) * (PassC a #[accV a v'] * G)) w6 := (h7.ent (Ent.sep (PassC.mk a v') (Ent.rfl' _))).ac (by ac_rfl)
  simp -dsimp -implicitDefEqProofs (disch := omega) only [go_sem, reqD_of, dec_t, dec_f, wrap_i64, wrap_u32, wrap_u64, wrap_u8, hd, e0, e8, e9, e10]
  refine (hy _ _ a _ _ hpost h8).mono ?_
  rintro e' w7 (⟨rfl, h11⟩ | ⟨rfl, h11⟩)
  · simp -dsimp -implicitDefEqProofs (disch := omega) only [go_sem, reqD_of, dec_t, dec_f, wrap_i64, wrap_u32, wrap_u64, wrap_u8, hd, e0, e8, e9, e10]
    refine ⟨⟨i + 1, by omega, by omega, ?_⟩, by omega⟩
    rw [hten]
    exact h11
  · simp -dsimp -implicitDefEqProofs (disch := omega) only [go_sem, reqD_of, dec_t, dec_f, wrap_i64, wrap_u32, wrap_u64, wrap_u8, hd, e0, e8, e9, e10]
    exact ⟨⟨_, rfl⟩, .inr ⟨_, h11⟩⟩
end
end Go.Proofs.YtkijkoakloacoaaGreatDoor

namespace Go.Proofs.YtkijkoakloacoaaGreatDoor
open Go Go.Sort Go.RowKit
set_option linter.unusedVariables false
set_option linter.unusedSimpArgs false
set_option maxRecDepth 100000

theorem sort_any {w0 w : World} {A : HP} {v : Value} {ls : List (List UInt8)} (h : St w0 (rowT v ls * A) w) (hl : ls.length ≤ 16777216) :
    Calls Tryz.prog 61 #[v] w fun e w' => St w0 (rowT v (ls.mergeSort fun x y => decide (x ≤ y)) * A) w' ∧ e = .returned (.tuple #[]) := by
  have hb := sort_bridge (P := Tryz.prog) (fn := 61) (args := fun v => #[v]) (enc := sv) (d := ls.toArray) (d' := (ls.mergeSort fun x y => decide (x ≤ y)).toArray) h (by simp) (by simp)
    (fun p cap => Any.slices_Sort_string_none laySort p cap w) (fun g o cap hv hH hg => ?_)
  · have e : (ls.mergeSort fun x y => decide (x ≤ y)).length = ls.length := List.length_mergeSort _
    unfold rowT
    rw [e]
    simpa using hb
  · exact Any.slices_Sort_string laySort g o cap ls w hH hg (by omega)

/-! ### Groups -/

/-- The groups so far. -/
def AccG (S : Nat) (gs : List (List UInt8)) : HP := HP.ex fun v : Value => Blk S (.cells #[v] 22 (0, 0)) * rowT v gs
theorem AccG.open {w0 w : World} {S : Nat} {gs : List (List UInt8)} {F : HP} (h : St w0 (AccG S gs * F) w) : ∃ v, St w0 (Blk S (.cells #[v] 22 (0, 0)) * (rowT v gs * F)) w := by
  obtain ⟨v, h1⟩ := h.exF
  exact ⟨v, h1.ac (by ac_rfl)⟩
theorem AccG.mk {w0 w : World} {S : Nat} {v : Value} {gs : List (List UInt8)} {F : HP} (h : St w0 (Blk S (.cells #[v] 22 (0, 0)) * (rowT v gs * F)) w) : St w0 (AccG S gs * F) w :=
  (h.ac (by ac_rfl : _ = (Blk S (.cells #[v] 22 (0, 0)) * rowT v gs) * F)).ent (Ent.sep (Ent.ex (fun v : Value => Blk S (.cells #[v] 22 (0, 0)) * rowT v gs) v) (Ent.rfl' F))
def inG (L : List Acc) (u : List UInt8) (pre : List Acc) : List (List UInt8) := (pre.map (·.name)).filter fun g => memberF L u g
theorem inG_snoc (L : List Acc) (u : List UInt8) (pre : List Acc) (a : Acc) : inG L u (pre ++ [a]) = inG L u pre ++ (if memberF L u a.name then [a.name] else []) := by
  unfold inG
  rw [List.map_append, List.filter_append]
  congr 1
  simp only [List.map_cons, List.map_nil, List.filter_cons, List.filter_nil]
theorem inG_len (L : List Acc) (u : List UInt8) (pre : List Acc) : (inG L u pre).length ≤ pre.length := by
  unfold inG
  exact Nat.le_trans (List.length_filter_le _ _) (by simp)

def NoneH : HP := HP.fact False EmpH
abbrev ptrB (b T : Nat) : HP := Blk b (.cells #[.pointer (some ⟨T, 0, none⟩)] 25 (0, 0))
abbrev JG (S C2 C3 T : Nat) (L : List Acc) (u : List UInt8) (pre : List Acc) : HP := AccG S (inG L u pre) * (ptrB C2 T * cellS C3 u)

section
attribute [local go_sem] F21.t6_eq
theorem groups_any {w0 w : World} {A : HP} {T m : Nat} {x : UT} (ok : x.Ok) (hn : x.L.length ≤ 16777216) (h : St w0 (TabW T m x * A) w) (u : List UInt8) :
    Calls Tryz.prog 21 #[.pointer (some ⟨T, 0, none⟩), .string (strOf u)] w fun e w' => ∃ v, St w0 (rowT v (groupsF (accs x.L) u) * (TabW T m x * A)) w' ∧ e = .returned v := by
  refine F21.calls (by simp) ?_
  unfold F21.code
  simp -dsimp -implicitDefEqProofs (disch := omega) only [go_sem, reqD_of, dec_t, dec_f, wrap_i64, wrap_u32, wrap_u64, wrap_u8]
  refine h.new fun C2 w1 h1 => ?_
  simp -dsimp -implicitDefEqProofs (disch := omega) only [go_sem, reqD_of, dec_t, dec_f, wrap_i64, wrap_u32, wrap_u64, wrap_u8]
  refine h1.new fun C3 w2 h2 => ?_
  simp -dsimp -implicitDefEqProofs (disch := omega) only [go_sem, reqD_of, dec_t, dec_f, wrap_i64, wrap_u32, wrap_u64, wrap_u8]
  refine h2.new fun S w3 h3 => ?_
  simp -dsimp -implicitDefEqProofs (disch := omega) only [go_sem, reqD_of, dec_t, dec_f, wrap_i64, wrap_u32, wrap_u64, wrap_u8, h3.cl C2]
  refine (accounts_any h3).mono ?_
  rintro e w4 ⟨K, h4, rfl⟩
  simp -dsimp -implicitDefEqProofs (disch := omega) only [go_sem, reqD_of, dec_t, dec_f, wrap_i64, wrap_u32, wrap_u64, wrap_u8]
  have h4' : St w0 (rowT (.slice none 0 0) [] * (ptrB K T * (Blk S (.cells #[.slice none 0 0] 22 (0, 0)) * (cellS C3 u * (ptrB C2 T * (TabW T m x * A)))))) w4 := h4.nilR 9 1
  have h5 : St w0 (AccG S [] * ((ptrB C2 T * cellS C3 u) * (AllT K T m x * A))) w4 :=
    AccG.mk (v := .slice none 0 0) (h4'.ac (by show _ = Blk S (.cells #[.slice none 0 0] 22 (0, 0)) * (rowT (.slice none 0 0) [] * ((ptrB C2 T * cellS C3 u) * ((ptrB K T * TabW T m x) * A))); ac_rfl))
  refine range_introT (F := AccG S [] * ((ptrB C2 T * cellS C3 u) * (AllT K T m x * A))) h5 (gf := 83) (lb := #[.pointer (some ⟨K, 0, none⟩)]) (by simp -dsimp -implicitDefEqProofs only [go_sem]) fact_fnOk_83 (Pass := PassC)
    (fun pre => JG S C2 C3 T (accs x.L) u pre * AllT K T m x) (fun _ _ => NoneH) (Ent.of_eq (by show _ = (AccG S [] * (ptrB C2 T * cellS C3 u)) * AllT K T m x * A; ac_rfl)) ?_ (fun pre => JG S C2 C3 T (accs x.L) u pre) (AllT K T m x) (fun pre => rfl) (accIter (K := K) (T := T) (m := m) (G := A) ok hn) ?_ ?_
  · intro q pre y args G W1 hok h6
    have h6 : St w0 ((AccG S (inG (accs x.L) u pre) * (ptrB C2 T * cellS C3 u)) * AllT K T m x * (PassC y args * G)) W1 := h6
    obtain ⟨v, rfl, h7⟩ := PassC.open (h6.ac (by ac_rfl : _ = PassC y args * ((AccG S (inG (accs x.L) u pre) * (ptrB C2 T * cellS C3 u)) * AllT K T m x * G)))
    obtain ⟨av, cv, rfl, _⟩ := h7.rowForm v
    refine ⟨rfl, ?_⟩
    unfold F21.a0
    simp -dsimp -implicitDefEqProofs (disch := omega) only [go_sem, reqD_of, dec_t, dec_f, wrap_i64, wrap_u32, wrap_u64, wrap_u8, List.toList_toArray]
    refine h6.new fun P w5 h8 => ?_
    simp -dsimp -implicitDefEqProofs (disch := omega) only [go_sem, reqD_of, dec_t, dec_f, wrap_i64, wrap_u32, wrap_u64, wrap_u8]
    refine h8.stoAll (b := P) (n := 4) (cs := accL y (.slice av y.members.length cv)) rfl rfl (fun v hv => by simp at hv; rcases hv with rfl | rfl | rfl | rfl <;> rfl) fun w6 h9 => ?_
    simp -dsimp -implicitDefEqProofs (disch := omega) only [go_sem, reqD_of, dec_t, dec_f, wrap_i64, wrap_u32, wrap_u64, wrap_u8]
    refine ⟨Blk P (.cells (accL y (.slice av y.members.length cv)).toArray 72 (0, 0)), h9, fun G2 W2 hl2 h10 => ?_⟩
    clear h6 h7 h8 h9
    have hpl : pre.length < 16777216 := by
      obtain ⟨post, hp⟩ := hok
      have := congrArg List.length hp
      simp only [List.length_append, List.length_cons, List.length_nil, List.length_map] at this
      omega
    have h10 : St w0 (Blk P (.cells (accL y (.slice av y.members.length cv)).toArray 72 (0, 0)) * ((AccG S (inG (accs x.L) u pre) * (ptrB C2 T * cellS C3 u)) * (ptrB K T * TabW T m x) * (PassC y #[accV y (.slice av y.members.length cv)] * G2))) W2 := h10
    have h11 : St w0 (TabW T m x * (Blk P (.cells (accL y (.slice av y.members.length cv)).toArray 72 (0, 0)) * (AccG S (inG (accs x.L) u pre) * (ptrB C2 T * (cellS C3 u * (ptrB K T * (PassC y #[accV y (.slice av y.members.length cv)] * G2))))))) W2 := h10.ac (by ac_rfl)
    unfold F21.b0
    simp -dsimp -implicitDefEqProofs (disch := omega) only [go_sem, reqD_of, dec_t, dec_f, wrap_i64, wrap_u32, wrap_u64, wrap_u8, h11.cl C2, h11.cl C3, h11.cl P]
    refine (member_any ok h11 u y.name).mono ?_
    rintro e' w7 ⟨h12, rfl⟩
    simp -dsimp -implicitDefEqProofs (disch := omega) only [go_sem, reqD_of, dec_t, dec_f, wrap_i64, wrap_u32, wrap_u64, wrap_u8]
    have hsn := inG_snoc (accs x.L) u pre y
    cases hmem : memberF (accs x.L) u y.name
    · rw [hmem] at hsn
      simp only [Bool.false_eq_true, if_false, List.append_nil] at hsn
      simp -dsimp -implicitDefEqProofs (disch := omega) only [go_sem, reqD_of, dec_t, dec_f, wrap_i64, wrap_u32, wrap_u64, wrap_u8]
      have h13 := (h12.ac (by ac_rfl : _ = (Blk P (.cells (accL y (.slice av y.members.length cv)).toArray 72 (0, 0)) * PassC y #[accV y (.slice av y.members.length cv)]) * ((AccG S (inG (accs x.L) u pre) * (ptrB C2 T * cellS C3 u)) * (ptrB K T * TabW T m x) * G2))).right
      rw [← hsn] at h13
      exact h13
    · rw [hmem] at hsn
      simp only [if_true] at hsn
      have hgl := inG_len (accs x.L) u pre
      obtain ⟨vg, h13⟩ := AccG.open (h12.ac (by ac_rfl : _ = AccG S (inG (accs x.L) u pre) * (TabW T m x * (Blk P (.cells (accL y (.slice av y.members.length cv)).toArray 72 (0, 0)) * (ptrB C2 T * (cellS C3 u * (ptrB K T * (PassC y #[accV y (.slice av y.members.length cv)] * G2))))))))
      obtain ⟨ag, cg, rfl, _⟩ := h13.rowForm vg
      simp -dsimp -implicitDefEqProofs (disch := omega) only [go_sem, reqD_of, dec_t, dec_f, wrap_i64, wrap_u32, wrap_u64, wrap_u8, h13.cl S, h13.cl P]
      refine h13.lit (t := 22) (cells := [sv y.name]) fact_rowTy_22 rfl (by decide) (by decide) fun v8 w8 h14 => ?_
      obtain ⟨a8, c8, rfl, _⟩ := h14.rowForm v8
      simp -dsimp -implicitDefEqProofs (disch := omega) only [go_sem, reqD_of, dec_t, dec_f, wrap_i64, wrap_u32, wrap_u64, wrap_u8]
      refine h14.appR (v := .slice ag (inG (accs x.L) u pre).length cg) (x := .slice a8 1 c8) fact_rowTy_22 Tryz.underlying22 (fun u hu => by simp at hu; subst hu; rfl) (by simp) (show _ ≤ 9223372036854775807 by omega) (by omega) fun v9 w9 h15 => ?_
      obtain ⟨a9, c9, rfl, _⟩ := h15.rowForm v9
      simp -dsimp -implicitDefEqProofs (disch := omega) only [go_sem, reqD_of, dec_t, dec_f, wrap_i64, wrap_u32, wrap_u64, wrap_u8]
      refine h15.sto (b := S) (off := 0) (by simp) rfl fun w10 h16 => ?_
      simp only [List.setIfInBounds_toArray, List.set_cons_zero] at h16
      simp -dsimp -implicitDefEqProofs (disch := omega) only [go_sem, reqD_of, dec_t, dec_f, wrap_i64, wrap_u32, wrap_u64, wrap_u8]
      have e1 : (inG (accs x.L) u pre ++ [y.name]).length = (inG (accs x.L) u pre).length + 1 := by simp
      have e2 : (inG (accs x.L) u pre ++ [y.name]).map sv = (inG (accs x.L) u pre).map sv ++ [sv y.name] := by simp
      have h17 : St w0 (Blk S (.cells #[.slice a9 ((inG (accs x.L) u pre).length + 1) c9] 22 (0, 0)) * (rowT (.slice a9 ((inG (accs x.L) u pre).length + 1) c9) (inG (accs x.L) u pre ++ [y.name]) * ((ptrB C2 T * cellS C3 u) * (ptrB K T * TabW T m x) * G2))) w10 := by
        unfold rowT
        rw [e1, e2]
        have h18 : St w0 (Blk S (.cells #[.slice a9 ((inG (accs x.L) u pre).length + 1) c9] 22 (0, 0)) * (RowO 9 1 (.slice a9 ((inG (accs x.L) u pre).length + 1) c9) ((inG (accs x.L) u pre).length + 1) ((inG (accs x.L) u pre).map sv ++ [sv y.name]) * (ptrB C2 T * (cellS C3 u * (ptrB K T * (TabW T m x * G2)))))) w10 := h16.sub
        exact h18.ac (by ac_rfl)
      have h19 := AccG.mk h17
      rw [← hsn] at h19
      exact h19.ac (by show _ = (AccG S (inG (accs x.L) u (pre ++ [y])) * (ptrB C2 T * cellS C3 u)) * (ptrB K T * TabW T m x) * G2; ac_rfl)
  · intro D xs w' hS h6
    subst hS
    have h6 : St w0 (Blk D (.deferred (some [])) * ((AccG S (inG (accs x.L) u (accs x.L)) * (ptrB C2 T * cellS C3 u)) * (ptrB K T * TabW T m x) * A)) w' := h6
    obtain ⟨vg, h7⟩ := AccG.open (h6.ac (by ac_rfl : _ = AccG S (inG (accs x.L) u (accs x.L)) * (Blk D (.deferred (some [])) * ((ptrB C2 T * cellS C3 u) * (ptrB K T * TabW T m x) * A))))
    obtain ⟨ag, cg, rfl, _⟩ := h7.rowForm vg
    have hgl := inG_len (accs x.L) u (accs x.L)
    rw [List.length_map] at hgl
    simp -dsimp -implicitDefEqProofs (disch := omega) only [go_sem, reqD_of, dec_t, dec_f, wrap_i64, wrap_u32, wrap_u64, wrap_u8, h7.cl S]
    have h8 : St w0 (rowT (.slice ag (inG (accs x.L) u (accs x.L)).length cg) (inG (accs x.L) u (accs x.L)) * (Blk S (.cells #[.slice ag (inG (accs x.L) u (accs x.L)).length cg] 22 (0, 0)) * (Blk D (.deferred (some [])) * ((ptrB C2 T * cellS C3 u) * (ptrB K T * TabW T m x) * A)))) w' := h7.ac (by ac_rfl)
    refine (sort_any h8 (by omega)).mono ?_
    rintro e' w8 ⟨h9, rfl⟩
    simp -dsimp -implicitDefEqProofs (disch := omega) only [go_sem, reqD_of, dec_t, dec_f, wrap_i64, wrap_u32, wrap_u64, wrap_u8, h9.cl S]
    refine St.mark1 (D := D) (h9.ac (by ac_rfl : _ = Blk D (.deferred (some [])) * (Blk S (.cells #[.slice ag (inG (accs x.L) u (accs x.L)).length cg] 22 (0, 0)) * ((ptrB C2 T * (cellS C3 u * ptrB K T)) * (rowT (.slice ag (inG (accs x.L) u (accs x.L)).length cg) (groupsF (accs x.L) u) * (TabW T m x * A)))))) fun w3 h10 => ?_
    exact ⟨_, h10.right.right.right, rfl⟩
  · intro D cd pre w' h6
    have h6 : St w0 (Blk D (.deferred (some [])) * (HP.fact False EmpH * A)) w' := h6
    exact ((h6.ac (by ac_rfl : _ = HP.fact False EmpH * (Blk D (.deferred (some [])) * A))).factF).1.elim
end
end Go.Proofs.YtkijkoakloacoaaGreatDoor

namespace Go.Proofs.YtkijkoakloacoaaGreatDoor
open Go
set_option linter.unusedVariables false
set_option linter.unusedSimpArgs false
set_option maxRecDepth 100000

section
attribute [local go_sem] F22.t5_eq F22.t6_eq F22.t8_eq F22.t3_eq
theorem sameTexts_any {w0 w : World} {A : HP} (h : St w0 A w) {u v : Value} {xs ys : List (List UInt8)} (hu : Ent A (ReadsT u xs)) (hv : Ent A (ReadsT v ys)) (hx : xs.length ≤ 1099511627776) (hy : ys.length ≤ 1099511627776) :
    Calls Tryz.prog 22 #[u, v] w fun e w' => St w0 A w' ∧ e = .returned (.bool (decide (xs = ys))) := by
  obtain ⟨a1, c1, rfl, hc1, hk1⟩ := h.texts hu
  obtain ⟨a2, c2, rfl, hc2, hk2⟩ := h.texts hv
  refine F22.calls (by simp) ?_
  unfold F22.code
  by_cases hl : (xs.length : Int) = ys.length
  case neg =>
    have hne : ¬ xs = ys := fun e => hl (by rw [e])
    simp -dsimp -implicitDefEqProofs (disch := omega) only [go_sem, reqD_of, dec_t, dec_f, wrap_i64, wrap_u32, wrap_u64, wrap_u8, hl, hne]
    exact h
  have hl' : xs.length = ys.length := by omega
  simp -dsimp -implicitDefEqProofs (disch := omega) only [go_sem, reqD_of, dec_t, dec_f, wrap_i64, wrap_u32, wrap_u64, wrap_u8, hl]
  refine loop_intro (fun e w' => e.ds = [] ∧ St w0 A w' ∧ e.ρ 0 = .slice a1 xs.length c1 ∧ e.ρ 1 = .slice a2 ys.length c2 ∧ ∃ i : Nat, i ≤ xs.length ∧ e.ρ 5 = .int .i64 i ∧ xs.take i = ys.take i)
    (fun e _ => match e.ρ 5 with | .int _ n => (xs.length - n).toNat | _ => 0) ?_ ?_
  · exact ⟨rfl, h, by simp -dsimp -implicitDefEqProofs only [go_sem], by simp -dsimp -implicitDefEqProofs only [go_sem], 0, by omega, by simp -dsimp -implicitDefEqProofs only [go_sem], by simp⟩
  clear hk1 hk2
  rintro e w2 ⟨hd, h2, e0, e1, i, hi, e5, hk⟩
  by_cases hlt : (i : Int) < (xs.length : Int)
  case neg =>
    rw [List.take_of_length_le (by omega), List.take_of_length_le (by omega)] at hk
    have hd1 : decide (xs = ys) = true := decide_eq_true hk
    rw [hd1]
    simp -dsimp -implicitDefEqProofs (disch := omega) only [go_sem, reqD_of, dec_t, dec_f, wrap_i64, wrap_u32, wrap_u64, wrap_u8, hd, e0, e1, e5, hlt]
    exact h2
  have hi1 : i < xs.length := by omega
  have hi2 : i < ys.length := by omega
  have hlt2 : (i : Int) < (ys.length : Int) := by omega
  obtain ⟨b1, o1, rfl, k1⟩ := (h2.ent hu).atS (a := a1) (n := xs.length) (c := c1) (xs := xs.map sv) (k := i) (by simpa using hi1)
  obtain ⟨b2, o2, rfl, k2⟩ := (h2.ent hv).atS (a := a2) (n := ys.length) (c := c2) (xs := ys.map sv) (k := i) (by simpa using hi2)
  obtain ⟨b1', o1', q1, k3⟩ := (h2.drew.ent hu).atS (a := some ⟨b1, o1, none⟩) (n := xs.length) (c := c1) (xs := xs.map sv) (k := i) (by simpa using hi1)
  obtain ⟨b2', o2', q2, k4⟩ := (h2.drew.ent hv).atS (a := some ⟨b2, o2, none⟩) (n := ys.length) (c := c2) (xs := ys.map sv) (k := i) (by simpa using hi2)
  simp only [Option.some.injEq, Addr.mk.injEq, and_true] at q1 q2
  obtain ⟨rfl, rfl⟩ := q1
  obtain ⟨rfl, rfl⟩ := q2
  rw [List.getElem_map] at k1 k2 k3 k4
  obtain ⟨p, hp⟩ : ∃ p, p = xs[i] := ⟨_, rfl⟩
  obtain ⟨q, hq⟩ : ∃ q, q = ys[i] := ⟨_, rfl⟩
  rw [← hp] at k1 k3
  rw [← hq] at k2 k4
  by_cases hpq : p = q
  · have hd2 : decide (p = q) = true := decide_eq_true hpq
    simp -dsimp -implicitDefEqProofs (disch := omega) only [go_sem, reqD_of, dec_t, dec_f, wrap_i64, wrap_u32, wrap_u64, wrap_u8, hd, e0, e1, e5, hlt, hlt2, k1, k2, k3, k4, hd2]
    refine ⟨⟨h2.drew, i + 1, by omega, by omega, ?_⟩, by omega⟩
    rw [List.take_succ_eq_append_getElem hi1, List.take_succ_eq_append_getElem hi2, hk, ← hp, ← hq, hpq]
  · have hne : ¬ xs = ys := fun e => hpq (by rw [hp, hq]; simp [e])
    simp -dsimp -implicitDefEqProofs (disch := omega) only [go_sem, reqD_of, dec_t, dec_f, wrap_i64, wrap_u32, wrap_u64, wrap_u8, hd, e0, e1, e5, hlt, hlt2, k1, k2, k3, k4, hpq, hne]
    exact h2.drew

/-! ### The example -/

def exText : List UInt8 := [97, 100, 109, 58, 58, 103, 108, 101, 110, 100, 97, 58, 10, 103, 108, 101, 110, 100, 97, 58, 58, 58, 107, 101, 121, 49, 10, 115, 121, 115, 58, 103, 108, 101, 110, 100, 97, 58, 97, 100, 109, 44, 103, 108, 101, 110, 100, 97, 58, 10]
def adm : List UInt8 := [97, 100, 109]
def glenda : List UInt8 := [103, 108, 101, 110, 100, 97]
def sys : List UInt8 := [115, 121, 115]
def key1 : List UInt8 := [107, 101, 121, 49]
def exL : List Acc := [⟨adm, [], [glenda], []⟩, ⟨glenda, [], [], key1⟩, ⟨sys, glenda, [adm, glenda], []⟩]
theorem ex_parse : parseF exText = .ok exL := by kernel_rfl
theorem ex_groups : groupsF exL glenda = [adm, glenda, sys] := by
  have e : ((exL.map (·.name)).filter fun g => memberF exL glenda g) = [adm, glenda, sys] := by decide +kernel
  unfold groupsF
  rw [e]
  exact List.mergeSort_of_pairwise (by decide +kernel)
theorem ex_facts : memberF exL glenda adm = true ∧ memberF exL adm glenda = false ∧ leadsF exL glenda sys = true ∧ leadsF exL adm sys = false ∧ keyOf exL glenda = key1 ∧ known exL adm = true ∧ known exL key1 = false := by decide +kernel

end
section
attribute [local go_sem] F6.t4_eq
theorem example_any {w0 w : World} {A : HP} (h : St w0 A w) [Gives A Tabs] :
    Calls Tryz.prog 6 #[] w fun e w' => St w0 A w' ∧ e = .returned (.bool true) := by
  refine F6.calls (by simp) ?_
  unfold F6.code
  simp -dsimp -implicitDefEqProofs (disch := omega) only [go_sem, reqD_of, dec_t, dec_f, wrap_i64, wrap_u32, wrap_u64, wrap_u8]
  refine (parse_any h exText).mono ?_
  rintro e w1 (⟨T, m, x, hr, ok, h1, rfl⟩ | ⟨k, n, hr, _, _⟩)
  case inr => rw [ex_parse] at hr; cases hr
  rw [ex_parse] at hr
  have hL : accs x.L = exL := by simpa using hr.symm
  have hn : x.L.length ≤ 16777216 := by have := congrArg List.length hL; simp at this; rw [this]; decide
  obtain ⟨f1, f2, f3, f4, f5, f6, f7⟩ := ex_facts
  simp -dsimp -implicitDefEqProofs (disch := omega) only [go_sem, reqD_of, dec_t, dec_f, wrap_i64, wrap_u32, wrap_u64, wrap_u8]
  refine (groups_any ok hn h1 glenda).mono ?_
  rintro e w2 ⟨vg, h2, rfl⟩
  rw [hL, ex_groups] at h2
  obtain ⟨ag, cg, rfl, _⟩ := h2.rowForm vg
  simp -dsimp -implicitDefEqProofs (disch := omega) only [go_sem, reqD_of, dec_t, dec_f, wrap_i64, wrap_u32, wrap_u64, wrap_u8]
  refine h2.lit (t := 22) (n := 3) (cells := [sv adm, sv glenda, sv sys]) fact_rowTy_22 rfl (by decide) (by decide) fun v3 w3 h3 => ?_
  simp -dsimp -implicitDefEqProofs (disch := omega) only [go_sem, reqD_of, dec_t, dec_f, wrap_i64, wrap_u32, wrap_u64, wrap_u8]
  refine (sameTexts_any (xs := [adm, glenda, sys]) (ys := [adm, glenda, sys]) h3 ((Gives.ent (B := rowT (.slice ag [adm, glenda, sys].length cg) [adm, glenda, sys])).trans (RowO.reads _ _ _ _ _)) ((Ent.left _ _).trans (RowO.reads _ _ _ _ _)) (by decide) (by decide)).mono ?_
  rintro e w4 ⟨h4, rfl⟩
  rw [decide_eq_true rfl]
  have h4 : St w0 (TabW T m x * A) w4 := h4.right.right
  simp -dsimp -implicitDefEqProofs (disch := omega) only [go_sem, reqD_of, dec_t, dec_f, wrap_i64, wrap_u32, wrap_u64, wrap_u8]
  refine (member_any ok h4 glenda adm).mono ?_
  rintro e w5 ⟨h5, rfl⟩
  rw [hL, f1]
  simp -dsimp -implicitDefEqProofs (disch := omega) only [go_sem, reqD_of, dec_t, dec_f, wrap_i64, wrap_u32, wrap_u64, wrap_u8]
  refine (member_any ok h5 adm glenda).mono ?_
  rintro e w6 ⟨h6, rfl⟩
  rw [hL, f2]
  simp -dsimp -implicitDefEqProofs (disch := omega) only [go_sem, reqD_of, dec_t, dec_f, wrap_i64, wrap_u32, wrap_u64, wrap_u8]
  refine (leads_any ok h6 glenda sys).mono ?_
  rintro e w7 ⟨h7, rfl⟩
  rw [hL, f3]
  simp -dsimp -implicitDefEqProofs (disch := omega) only [go_sem, reqD_of, dec_t, dec_f, wrap_i64, wrap_u32, wrap_u64, wrap_u8]
  refine (leads_any ok h7 adm sys).mono ?_
  rintro e w8 ⟨h8, rfl⟩
  rw [hL, f4]
  simp -dsimp -implicitDefEqProofs (disch := omega) only [go_sem, reqD_of, dec_t, dec_f, wrap_i64, wrap_u32, wrap_u64, wrap_u8]
  refine (keyT_any h8 glenda).mono ?_
  rintro e w9 ⟨h9, rfl⟩
  have hk : decide (key1 = ([107, 101, 121, 49] : List UInt8)) = true := by decide
  rw [hL, f5]
  simp -dsimp -implicitDefEqProofs (disch := omega) only [go_sem, reqD_of, dec_t, dec_f, wrap_i64, wrap_u32, wrap_u64, wrap_u8, hk]
  refine (known_any h9 adm).mono ?_
  rintro e w10 ⟨h10, rfl⟩
  rw [hL, f6]
  simp -dsimp -implicitDefEqProofs (disch := omega) only [go_sem, reqD_of, dec_t, dec_f, wrap_i64, wrap_u32, wrap_u64, wrap_u8]
  refine (known_any h10 key1).mono ?_
  rintro e w11 ⟨h11, rfl⟩
  rw [hL, f7]
  simp -dsimp -implicitDefEqProofs (disch := omega) only [go_sem, reqD_of, dec_t, dec_f, wrap_i64, wrap_u32, wrap_u64, wrap_u8]
  exact h11.right
end
end Go.Proofs.YtkijkoakloacoaaGreatDoor
