/- The fids package: the numbers of a table, rising. -/
import Derived.Test.YtljndiligbaljaaFiD
namespace Go.Proofs.Ytljndiligbaljaa
open Go
set_option linter.unusedSimpArgs false
set_option linter.unusedVariables false
set_option maxRecDepth 100000

theorem EmpH.of {w0 w : World} {A : HP} (h : St w0 A w) : St w0 (EmpH * A) w := h.ent (Ent.empL _)

/-- A key, handed to a yield. -/
def PassK (x : Int) (args : Array Value) : HP := HP.fact (args = #[encU x]) EmpH
/-- What is collected so far. -/
def AccK (S : Nat) (l : List Int) : HP := HP.ex fun v => Blk S (.cells #[v] 32 (0, 0)) * RowO 35 1 v l.length (l.map encU)
def NoneH : HP := HP.fact False EmpH

section
attribute [local go_sem] F74.t4_eq
theorem appSeq_any {w0 w : World} {F G' : HP} {gf : Nat} {lb : Array Value} {Ok S' : List Int → Prop} (h : St w0 F w) (hf : fnOk Try.prog gf = true)
    (hcall : IterOk Try.prog w0 gf lb PassK Ok S' F G') (hOk : ∀ l, Ok l → l.length ≤ 1099511627776) :
    Calls Try.prog 74 #[.slice none 0 0, .func (.func gf) #[] lb] w fun e w' => ∃ v l, S' l ∧ St w0 (RowO 35 1 v l.length (l.map encU) * G') w' ∧ e = .returned v := by
  refine F74.calls (by simp) ?_
  unfold F74.code
  simp -dsimp -implicitDefEqProofs (disch := omega) only [go_sem, reqD_of, dec_t, dec_f, wrap_i64, wrap_u32, wrap_u64, wrap_u8]
  refine h.new fun S w1 h1 => ?_
  simp -dsimp -implicitDefEqProofs (disch := omega) only [go_sem, reqD_of, dec_t, dec_f, wrap_i64, wrap_u32, wrap_u64, wrap_u8]
  refine range_intro (F := Blk S (.cells #[.slice none 0 0] 32 (0, 0)) * F) h1 (gf := gf) (lb := lb) (by simp -dsimp -implicitDefEqProofs only [go_sem]) hf (Pass := PassK) (fun pre => AccK S pre) (fun _ _ => NoneH) ?_ ?_ hcall ?_ ?_
  · refine Ent.sep ?_ (Ent.rfl' _)
    refine (Ent.nilRowO 35 1 _).trans ?_
    refine (Ent.of_eq (sep_comm _ _)).trans ?_
    exact Ent.ex (fun v => Blk S (.cells #[v] 32 (0, 0)) * RowO 35 1 v ([] : List Int).length (([] : List Int).map encU)) (.slice none 0 0)
  · intro l pre x args G W1 hok h1
    obtain ⟨rfl, _⟩ := (h1.sw2).factF
    refine ⟨rfl, ?_⟩
    unfold F74.a0
    simp -dsimp -implicitDefEqProofs only [go_sem]
    refine ⟨h1, fun G2 W2 hl h2 => ?_⟩
    obtain ⟨v, h3⟩ := h2.exF
    have h4 : St w0 (Blk S (.cells #[v] 32 (0, 0)) * (RowO 35 1 v pre.length (pre.map encU) * G2)) W2 := (h3.ac (show _ = PassK x #[encU x] * (Blk S (.cells #[v] 32 (0, 0)) * (RowO 35 1 v pre.length (pre.map encU) * G2)) by ac_rfl)).right
    have hc := h4.cl S
    unfold F74.b0
    have hb := hOk _ hok
    rw [List.length_append] at hb
    simp only [List.length_cons, List.length_nil] at hb
    simp -dsimp -implicitDefEqProofs (disch := omega) only [go_sem, reqD_of, dec_t, dec_f, wrap_i64, wrap_u32, wrap_u64, wrap_u8, List.toList_toArray, hc]
    refine h4.lit (n := 1) (cells := [encU x]) fact_rowTy_32 rfl (by decide) (by decide) fun v1 w3 h5 => ?_
    simp -dsimp -implicitDefEqProofs (disch := omega) only [go_sem, reqD_of, dec_t, dec_f, wrap_i64, wrap_u32, wrap_u64, wrap_u8]
    refine h5.appR (v := v) (x := v1) fact_rowTy_32 Try.underlying32 (fun u hu => by simp only [List.mem_singleton] at hu; subst hu; rfl) (fun h => by simp at h) (show _ ≤ 9223372036854775807 by omega) (by omega) fun v2 w4 h6 => ?_
    obtain ⟨a2, c2, rfl, _⟩ := h6.rowForm v2
    simp -dsimp -implicitDefEqProofs (disch := omega) only [go_sem, reqD_of, dec_t, dec_f, wrap_i64, wrap_u32, wrap_u64, wrap_u8]
    refine h6.sto (b := S) (off := 0) (by simp) rfl fun w5 h7 => ?_
    simp -dsimp -implicitDefEqProofs (disch := omega) only [go_sem, reqD_of, dec_t, dec_f, wrap_i64, wrap_u32, wrap_u64, wrap_u8]
    have h8 : St w0 (RowO 35 1 v1 1 [encU x] * ((Blk S (.cells #[.slice a2 (pre.length + 1) c2] 32 (0, 0)) * RowO 35 1 (.slice a2 (pre.length + 1) c2) (pre ++ [x]).length ((pre ++ [x]).map encU)) * G2)) w5 := h7.ac (by rw [List.length_append, List.map_append]; ac_rfl)
    exact h8.right.ent (Ent.sep (Ent.ex (fun v => Blk S (.cells #[v] 32 (0, 0)) * RowO 35 1 v (pre ++ [x]).length ((pre ++ [x]).map encU)) _) (Ent.rfl' _))
  · intro D xs w' hS h1
    obtain ⟨v, h2⟩ := h1.sw2.exF
    have h3 : St w0 (Blk D (.deferred (some [])) * (Blk S (.cells #[v] 32 (0, 0)) * (RowO 35 1 v xs.length (xs.map encU) * G'))) w' := h2.ac (by ac_rfl)
    obtain ⟨a, c, rfl, _⟩ := h3.rowForm v
    have hc := h3.cl S
    simp -dsimp -implicitDefEqProofs (disch := omega) only [go_sem, reqD_of, dec_t, dec_f, wrap_i64, wrap_u32, wrap_u64, wrap_u8, hc]
    refine St.mark1 h3 fun w3 h4 => ?_
    exact ⟨_, _, hS, h4.right.right, rfl⟩
  · intro D cd pre w' h1
    exact ((h1.sw2).factF).1.elim

end

theorem collect_any {w0 w : World} {F G' : HP} {gf : Nat} {lb : Array Value} {Ok S' : List Int → Prop} (h : St w0 F w) (hf : fnOk Try.prog gf = true)
    (hcall : IterOk Try.prog w0 gf lb PassK Ok S' F G') (hOk : ∀ l, Ok l → l.length ≤ 1099511627776) :
    Calls Try.prog 69 #[.func (.func gf) #[] lb] w fun e w' => ∃ v l, S' l ∧ St w0 (RowO 35 1 v l.length (l.map encU) * G') w' ∧ e = .returned v := by
  refine F69.calls (by simp) ?_
  unfold F69.code
  simp -dsimp -implicitDefEqProofs (disch := omega) only [go_sem, reqD_of, dec_t, dec_f, wrap_i64, wrap_u32, wrap_u64, wrap_u8]
  refine (appSeq_any h hf hcall hOk).mono ?_
  rintro e w1 ⟨v, l, hS, h1, rfl⟩
  simp -dsimp -implicitDefEqProofs (disch := omega) only [go_sem, reqD_of, dec_t, dec_f, wrap_i64, wrap_u32, wrap_u64, wrap_u8]
  exact ⟨_, _, hS, h1, rfl⟩

abbrev srt (l : List Int) : List Int := l.mergeSort fun x y => decide (x ≤ y)


theorem sorted_any {w0 w : World} {F G' : HP} {gf : Nat} {lb : Array Value} {Ok S' : List Int → Prop} (h : St w0 F w) (hf : fnOk Try.prog gf = true)
    (hcall : IterOk Try.prog w0 gf lb PassK Ok S' F G') (hOk : ∀ l, Ok l → l.length ≤ 1099511627776) (hS' : ∀ l, S' l → l.length ≤ 1099511627776) :
    Calls Try.prog 55 #[.func (.func gf) #[] lb] w fun e w' => ∃ v l, S' l ∧ St w0 (RowO 35 1 v (srt l).length ((srt l).map encU) * G') w' ∧ e = .returned v := by
  refine F55.calls (by simp) ?_
  unfold F55.code
  simp -dsimp -implicitDefEqProofs (disch := omega) only [go_sem, reqD_of, dec_t, dec_f, wrap_i64, wrap_u32, wrap_u64, wrap_u8]
  refine (collect_any h hf hcall hOk).mono ?_
  rintro e w1 ⟨v, l, hS, h1, rfl⟩
  have hl := hS' l hS
  simp -dsimp -implicitDefEqProofs (disch := omega) only [go_sem, reqD_of, dec_t, dec_f, wrap_i64, wrap_u32, wrap_u64, wrap_u8]
  refine (sortW_any h1 (by omega)).mono ?_
  rintro e w2 ⟨h2, rfl⟩
  simp -dsimp -implicitDefEqProofs (disch := omega) only [go_sem, reqD_of, dec_t, dec_f, wrap_i64, wrap_u32, wrap_u64, wrap_u8]
  refine ⟨v, l, hS, ?_, rfl⟩
  have : (srt l).length = l.length := List.length_mergeSort l
  rw [this]
  exact h2

/-- What the keys' function holds on to. -/
def KeysB (K m : Nat) (ps : FPs) : HP := Blk K (.cells #[.map (some m)] 86 (0, 0)) * MapP encU m (amap fdV ps)


theorem keys_any {w0 w : World} {F : HP} {m : Nat} (h : St w0 F w) :
    Calls Try.prog 56 #[.map (some m)] w fun e w' => ∃ K, St w0 (Blk K (.cells #[.map (some m)] 86 (0, 0)) * F) w' ∧ e = .returned (.func (.func 71) #[] #[.pointer (some ⟨K, 0, none⟩)]) := by
  refine F56.calls (by simp) ?_
  unfold F56.code
  simp -dsimp -implicitDefEqProofs (disch := omega) only [go_sem, reqD_of, dec_t, dec_f, wrap_i64, wrap_u32, wrap_u64, wrap_u8]
  refine h.new fun K w1 h1 => ?_
  simp -dsimp -implicitDefEqProofs (disch := omega) only [go_sem, reqD_of, dec_t, dec_f, wrap_i64, wrap_u32, wrap_u64, wrap_u8]
  exact ⟨K, h1, rfl⟩

section
attribute [local go_sem] F71.t2_eq
theorem keysIter {w0 : World} {K m : Nat} {ps : FPs} {R : HP} :
    IterOk Try.prog w0 71 #[.pointer (some ⟨K, 0, none⟩)] PassK (fun pre => ∃ post, (pre ++ post).Perm (ps.map (·.1))) (fun xs => xs.Perm (ps.map (·.1))) (KeysB K m ps * R) (KeysB K m ps * R) := by
  intro l w1 J X hy h
  show Calls _ 71 #[.func (.yield l) #[] #[], .pointer (some ⟨K, 0, none⟩)] w1 _
  have h1 : St w0 (Blk K (.cells #[.map (some m)] 86 (0, 0)) * (MapP encU m (amap fdV ps) * (J [] * R))) w1 := h.ac (by unfold KeysB; ac_rfl)
  refine F71.calls (by simp) ?_
  unfold F71.code
  simp -dsimp -implicitDefEqProofs (disch := omega) only [go_sem, reqD_of, dec_t, dec_f, wrap_i64, wrap_u32, wrap_u64, wrap_u8, h1.cl K]
  refine h1.rangeH (b := m) Try.underlying86 fun r w4 h4 => ?_
  simp -dsimp -implicitDefEqProofs (disch := omega) only [go_sem, reqD_of, dec_t, dec_f, wrap_i64, wrap_u32, wrap_u64, wrap_u8]
  refine loop_intro (fun e w' => e.ds = [] ∧ e.ρ 0 = .func (.yield l) #[] #[] ∧ e.ρ 5 = .pointer (some ⟨r, 0, none⟩) ∧ ∃ (done left : FPs), (done ++ left).Perm ps ∧ St w0 (Blk K (.cells #[.map (some m)] 86 (0, 0)) * (IterP encU m r (amap fdV ps) (amap fdV left) * (J (done.map (·.1)) * R))) w')
    (fun _ w => iterLeft m r w) ?_ ?_
  · exact ⟨rfl, by simp -dsimp -implicitDefEqProofs only [go_sem], by simp -dsimp -implicitDefEqProofs only [go_sem], [], ps, by simp, h4⟩
  rintro e w5 ⟨hd, e0, e5, done, left, hp, h5⟩
  have hleft := h5.iterLeft m
  simp -dsimp -implicitDefEqProofs (disch := omega) only [go_sem, reqD_of, dec_t, dec_f, wrap_i64, wrap_u32, wrap_u64, wrap_u8, hd, e0, e5]
  refine h5.nextP (lf := left) m (fun hnil => ?_) fun x rest w6 hxr h6 => ?_
  · subst hnil
    simp -dsimp -implicitDefEqProofs (disch := omega) only [go_sem, reqD_of, dec_t, dec_f, wrap_i64, wrap_u32, wrap_u64, wrap_u8, hd, e0, e5]
    have h7 := h5.iterEnd m
    exact ⟨⟨_, rfl⟩, .inl ⟨done.map (·.1), by simpa using hp.map (·.1), h7.ac (by unfold KeysB; ac_rfl)⟩⟩
  obtain ⟨k, p⟩ := x
  simp -dsimp -implicitDefEqProofs (disch := omega) only [go_sem, reqD_of, dec_t, dec_f, wrap_i64, wrap_u32, wrap_u64, wrap_u8, hd, e0, e5]
  refine h6.entryH m ?_
  simp -dsimp -implicitDefEqProofs (disch := omega) only [go_sem, reqD_of, dec_t, dec_f, wrap_i64, wrap_u32, wrap_u64, wrap_u8, hd, e0, e5]
  have hpm : (done ++ [(k, p)] ++ rest).Perm ps := by
    refine List.Perm.trans ?_ hp
    rw [List.append_assoc]
    exact List.Perm.append_left done hxr
  have h7 : St w0 (J (done.map (·.1)) * (PassK k #[encU k] * (Blk K (.cells #[.map (some m)] 86 (0, 0)) * (IterAt encU m r (amap fdV ps) (amap fdV rest) k (fdV p) * R)))) w6 :=
    (EmpH.of h6).ent (Ent.sep (Ent.fact rfl _) (Ent.rfl' _)) |>.ac (by unfold PassK; ac_rfl)
  refine (hy _ _ _ _ _ ⟨rest.map (·.1), by simpa using hpm.map (·.1)⟩ h7).mono ?_
  have hla : ∀ q : FPs, (amap fdV q).length = q.length := fun q => by simp [amap]
  have hel : rest.length + 1 = left.length := by have := hxr.length_eq; simpa using this
  rintro e' w7 (⟨rfl, h8⟩ | ⟨rfl, h8⟩)
  · simp -dsimp -implicitDefEqProofs only [go_sem, hd, e0, e5]
    have h9 := h8.iterDone m
    have hl5 := h9.iterLeft m
    refine ⟨⟨done ++ [(k, p)], rest, hpm, ?_⟩, ?_⟩
    · rw [List.map_append]; exact h9.ac (by simp only [List.map_cons, List.map_nil]; ac_rfl)
    · rw [hl5, hleft, hla, hla]; omega
  · simp -dsimp -implicitDefEqProofs only [go_sem, hd, e0, e5]
    have h9 := (h8.iterDone m).iterEnd m
    exact ⟨⟨_, rfl⟩, .inr ⟨_, h9.ac (by unfold KeysB; ac_rfl)⟩⟩

end
end Go.Proofs.Ytljndiligbaljaa
