/- The fids package: a table told one by one; Clear, Clone, Count. -/
import Derived.Test.YtljndiligbaljaaFiG
import Derived.Test.YtljndiligbaljaaRf2
namespace Go.Proofs.Ytljndiligbaljaa
open Go
set_option linter.unusedSimpArgs false
set_option linter.unusedVariables false
set_option maxRecDepth 100000

/-- What is told so far. -/
def AccA (S : Nat) (l : TL) : HP := HP.ex fun p : Value × FPs => HP.fact (amap (·.2) p.2 = l) (Blk S (.cells #[p.1] 28 (0, 0)) * AtP p.1 p.2)
theorem AccA.mk {w0 w : World} {S : Nat} {v : Value} {qs : FPs} {l : TL} {F : HP} (hl : amap (·.2) qs = l) (h : St w0 (Blk S (.cells #[v] 28 (0, 0)) * (RowO 48 15 v qs.length (qs.flatMap atC) * (hearts qs * F))) w) : St w0 (AccA S l * F) w := by
  have h1 : St w0 ((Blk S (.cells #[v] 28 (0, 0)) * AtP v qs) * F) w := h.ac (by unfold AtP; ac_rfl)
  exact h1.ent (Ent.sep ((Ent.fact hl _).trans (Ent.ex (fun p : Value × FPs => HP.fact (amap (·.2) p.2 = l) (Blk S (.cells #[p.1] 28 (0, 0)) * AtP p.1 p.2)) (v, qs))) (Ent.rfl' _))
theorem AccA.open {w0 w : World} {S : Nat} {l : TL} {F : HP} (h : St w0 (AccA S l * F) w) : ∃ v qs, amap (·.2) qs = l ∧ St w0 (Blk S (.cells #[v] 28 (0, 0)) * (RowO 48 15 v qs.length (qs.flatMap atC) * (hearts qs * F))) w := by
  obtain ⟨⟨v, qs⟩, h1⟩ := h.exF
  obtain ⟨e, h2⟩ := h1.factF
  exact ⟨v, qs, e, h2.ac (by unfold AtP; ac_rfl)⟩
theorem PassA.open {w0 w : World} {x : Int × FidD} {args : Array Value} {F : HP} (h : St w0 (PassA x args * F) w) : ∃ v, args = #[encU x.1, fdV (v, x.2)] ∧ Okf (v, x.2) ∧ St w0 (HeardP (v, x.2) * F) w := by
  obtain ⟨v, h1⟩ := h.exF
  obtain ⟨⟨e, hk⟩, h2⟩ := h1.factF
  exact ⟨v, e, hk, h2⟩
theorem fdV_inj {n : Int} {v v' : Value} {f : FidD} (h : (#[encU n, fdV (v, f)] : Array Value) = #[encU n, fdV (v', f)]) : v = v' := by
  simp only [fdV, fdC, Array.mk.injEq, List.cons.injEq, Value.agg.injEq, and_true, true_and] at h
  exact h

section
attribute [local go_sem] F12.t9_eq F12.t5_eq
theorem listed_any {w0 w : World} {F : HP} {B : Nat} {most : Int} {l : TL} (h : St w0 (TabP B most l * F) w) (hl : l.length ≤ 1048576) :
    Calls Try.prog 12 #[.pointer (some ⟨B, 0, none⟩)] w fun e w' => ∃ v qs, amap (·.2) qs = sortK l ∧ St w0 (AtP v qs * (TabP B most l * F)) w' ∧ e = .returned (.tuple #[v, .bool true]) := by
  refine F12.calls (by simp) ?_
  unfold F12.code
  simp -dsimp -implicitDefEqProofs (disch := omega) only [go_sem, reqD_of, dec_t, dec_f, wrap_i64, wrap_u32, wrap_u64, wrap_u8]
  refine h.new fun S w1 h1 => ?_
  simp -dsimp -implicitDefEqProofs (disch := omega) only [go_sem, reqD_of, dec_t, dec_f, wrap_i64, wrap_u32, wrap_u64, wrap_u8]
  refine (all_any h1).mono ?_
  rintro e w2 ⟨K, h2, rfl⟩
  simp -dsimp -implicitDefEqProofs (disch := omega) only [go_sem, reqD_of, dec_t, dec_f, wrap_i64, wrap_u32, wrap_u64, wrap_u8]
  have h3 : St w0 (Blk S (.cells #[.slice none 0 0] 28 (0, 0)) * (AllB K B most l * F)) w2 := h2.ac (by unfold AllB; ac_rfl)
  refine range_introA (F := Blk S (.cells #[.slice none 0 0] 28 (0, 0)) * (AllB K B most l * F)) h3 (gf := 54) (lb := #[.pointer (some ⟨K, 0, none⟩)]) (by simp -dsimp -implicitDefEqProofs only [go_sem]) fact_fnOk_54 (Pass := PassA) (fun pre => AccA S pre) (fun _ _ => NoneH) ?_ ?_ (allIter (K := K) (B := B) (most := most) (R := F) hl) ?_ ?_
  · refine Ent.sep ?_ (Ent.rfl' _)
    refine (Ent.nilRowO 48 15 _).trans ?_
    refine (Ent.empL _).trans ?_
    refine (Ent.of_eq (by show _ = Blk S (.cells #[.slice none 0 0] 28 (0, 0)) * (RowO 48 15 (.slice none 0 0) 0 [] * EmpH); ac_rfl)).trans ?_
    exact (Ent.fact (p := amap (fun x : HF => x.2) ([] : FPs) = []) rfl _).trans (Ent.ex (fun p : Value × FPs => HP.fact (amap (·.2) p.2 = []) (Blk S (.cells #[p.1] 28 (0, 0)) * AtP p.1 p.2)) (.slice none 0 0, []))
  · intro q pre x args G W1 hok h4
    obtain ⟨n, f⟩ := x
    obtain ⟨v', rfl, hk, _⟩ := PassA.open h4.sw2
    refine ⟨rfl, ?_⟩
    unfold F12.a0
    simp -dsimp -implicitDefEqProofs (disch := omega) only [go_sem, reqD_of, dec_t, dec_f, wrap_i64, wrap_u32, wrap_u64, wrap_u8, List.toList_toArray]
    refine h4.new fun X w5 h5 => ?_
    simp -dsimp -implicitDefEqProofs (disch := omega) only [go_sem, reqD_of, dec_t, dec_f, wrap_i64, wrap_u32, wrap_u64, wrap_u8]
    refine h5.stoAll (b := X) (cs := fdC v' f) rfl rfl (fdC_cells hk.1) fun w6 h6 => ?_
    simp -dsimp -implicitDefEqProofs (disch := omega) only [go_sem, reqD_of, dec_t, dec_f, wrap_i64, wrap_u32, wrap_u64, wrap_u8]
    refine ⟨Blk X (fidB v' f), h6, fun G2 W2 hl2 h7 => ?_⟩
    have hpl : pre.length < 1048576 := by
      obtain ⟨post, hp⟩ := hok
      have := congrArg List.length hp
      rw [sortK_length] at this
      simp only [List.length_append, List.length_cons, List.length_nil] at this
      omega
    obtain ⟨v, qs, hqs, h8⟩ := AccA.open (h7.ac (by ac_rfl : _ = AccA S pre * (PassA (n, f) #[encU n, fdV (v', f)] * (Blk X (fidB v' f) * G2))))
    obtain ⟨v'', he, _, h9⟩ := PassA.open (h8.ac (by ac_rfl : _ = PassA (n, f) #[encU n, fdV (v', f)] * (Blk S (.cells #[v] 28 (0, 0)) * (RowO 48 15 v qs.length (qs.flatMap atC) * (hearts qs * (Blk X (fidB v' f) * G2))))))
    obtain rfl := fdV_inj he
    have hql : qs.length = pre.length := by rw [← hqs]; simp [amap]
    have hcS := h9.cl S
    have hX := h9.rowH X 14 rfl
    unfold F12.b0
    simp -dsimp -implicitDefEqProofs (disch := omega) only [go_sem, reqD_of, dec_t, dec_f, wrap_i64, wrap_u32, wrap_u64, wrap_u8, hcS, hX]
    refine onV_of (v := .agg (atC (n, (v', f))).toArray) rfl ?_
    simp -dsimp -implicitDefEqProofs (disch := omega) only [go_sem, reqD_of, dec_t, dec_f, wrap_i64, wrap_u32, wrap_u64, wrap_u8]
    refine h9.lit (n := 1) (cells := atC (n, (v', f))) fact_rowTy_28 rfl (by decide) (by decide) fun v2 w9 h10 => ?_
    simp -dsimp -implicitDefEqProofs (disch := omega) only [go_sem, reqD_of, dec_t, dec_f, wrap_i64, wrap_u32, wrap_u64, wrap_u8]
    refine h10.appR (v := v) (x := v2) fact_rowTy_28 Try.underlying28 (atC_cells hk.1) (fun h => by simp [atC] at h) (show _ ≤ 9223372036854775807 by omega) (by omega) fun v3 w10 h11 => ?_
    obtain ⟨a3, c3, rfl, _⟩ := h11.rowForm v3
    simp -dsimp -implicitDefEqProofs (disch := omega) only [go_sem, reqD_of, dec_t, dec_f, wrap_i64, wrap_u32, wrap_u64, wrap_u8]
    refine h11.sto (b := S) (off := 0) (by simp) rfl fun w11 h12 => ?_
    simp -dsimp -implicitDefEqProofs (disch := omega) only [go_sem, reqD_of, dec_t, dec_f, wrap_i64, wrap_u32, wrap_u64, wrap_u8]
    have h13 : St w0 (HeardP (n, (v', f)).2 * (hearts qs * (RowO 48 15 (.slice a3 (qs.length + 1) c3) (qs.length + 1) (qs.flatMap atC ++ atC (n, (v', f))) * (Blk S (.cells #[.slice a3 (qs.length + 1) c3] 28 (0, 0)) * G2)))) w11 :=
      (h12.ac (by show _ = RowO 48 15 v2 1 (atC (n, (v', f))) * (Blk X (fidB v' f) * (HeardP (n, (v', f)).2 * (hearts qs * (RowO 48 15 (.slice a3 (qs.length + 1) c3) (qs.length + 1) (qs.flatMap atC ++ atC (n, (v', f))) * (Blk S (.cells #[.slice a3 (qs.length + 1) c3] 28 (0, 0)) * G2))))); ac_rfl)).right.right
    have h14 := hearts_snoc hk h13
    refine AccA.mk (v := .slice a3 (qs.length + 1) c3) (qs := qs ++ [(n, (v', f))]) (by rw [← hqs]; simp [amap]) ?_
    rw [List.flatMap_append, List.flatMap_cons, List.flatMap_nil, List.append_nil, List.length_append]
    exact h14.ac (by simp only [List.length_cons, List.length_nil]; ac_rfl)
  · intro D xs w' hS h4
    obtain ⟨v, qs, hqs, h5⟩ := AccA.open (h4.ac (by ac_rfl : _ = AccA S xs * (Blk D (.deferred (some [])) * (AllB K B most l * F))))
    obtain ⟨a, c, rfl, _⟩ := h5.rowForm v
    have hc := h5.cl S
    simp -dsimp -implicitDefEqProofs (disch := omega) only [go_sem, reqD_of, dec_t, dec_f, wrap_i64, wrap_u32, wrap_u64, wrap_u8, hc]
    refine St.mark1 (h5.ac (by unfold AllB; ac_rfl : _ = Blk D (.deferred (some [])) * (Blk S (.cells #[.slice a qs.length c] 28 (0, 0)) * (Blk K (.cells #[.pointer (some ⟨B, 0, none⟩)] 22 (0, 0)) * ((RowO 48 15 (.slice a qs.length c) qs.length (qs.flatMap atC) * hearts qs) * (TabP B most l * F)))))) fun w3 h6 => ?_
    exact ⟨_, qs, by rw [hqs, hS], h6.right.right.right, rfl⟩
  · intro D cd pre w' h4
    exact ((h4.sw2).factF).1.elim

end

theorem clear_any {w0 w : World} {F : HP} {B : Nat} {most : Int} {l : TL} (h : St w0 (TabP B most l * F) w) (hl : l.length ≤ 1048576) :
    Calls Try.prog 21 #[.pointer (some ⟨B, 0, none⟩)] w fun e w' => ∃ v qs, amap (·.2) qs = sortK l ∧ St w0 (AtP v qs * (TabP B most [] * F)) w' ∧ e = .returned v := by
  refine F21.calls (by simp) ?_
  unfold F21.code
  simp -dsimp -implicitDefEqProofs (disch := omega) only [go_sem, reqD_of, dec_t, dec_f, wrap_i64, wrap_u32, wrap_u64, wrap_u8]
  refine (list_any h hl).mono ?_
  rintro e w1 ⟨v, qs, hqs, h1, rfl⟩
  obtain ⟨m, ps, hps, h2⟩ := TabP.open h1.sw2
  simp -dsimp -implicitDefEqProofs (disch := omega) only [go_sem, reqD_of, dec_t, dec_f, wrap_i64, wrap_u32, wrap_u64, wrap_u8, h2.cl B]
  refine h2.clearH (b := m) Try.underlying86 fun w3 h3 => ?_
  simp -dsimp -implicitDefEqProofs (disch := omega) only [go_sem, reqD_of, dec_t, dec_f, wrap_i64, wrap_u32, wrap_u64, wrap_u8]
  refine ⟨v, qs, hqs, ?_, rfl⟩
  have h4 : St w0 (Blk B (tabB most m) * (MapP encU m (amap fdV []) * (AtP v qs * F))) w3 := (h3.ac (by show _ = hearts ps * (Blk B (tabB most m) * (MapP encU m (amap fdV []) * (AtP v qs * F))); ac_rfl)).right
  have h5 := TabP.col (B := B) (m := m) (most := most) (ps := []) (show St w0 (hearts [] * _) w3 from EmpH.of h4) rfl
  exact (show St w0 (TabP B most [] * (AtP v qs * F)) w3 from h5).ac (by ac_rfl)

section
attribute [local go_sem] F25.t4_eq F25.t6_eq
theorem clone_any {w0 w : World} {F : HP} {B : Nat} {most : Int} {l : TL} (h : St w0 (TabP B most l * F) w) :
    Calls Try.prog 25 #[.pointer (some ⟨B, 0, none⟩)] w fun e w' => ∃ C l', l'.Perm l ∧ St w0 (TabP C most l' * (TabP B most l * F)) w' ∧ e = .returned (.pointer (some ⟨C, 0, none⟩)) := by
  obtain ⟨m, ps, hps, h1⟩ := TabP.open h
  refine F25.calls (by simp) ?_
  unfold F25.code
  simp -dsimp -implicitDefEqProofs (disch := omega) only [go_sem, reqD_of, dec_t, dec_f, wrap_i64, wrap_u32, wrap_u64, wrap_u8, h1.cl B]
  refine St.makeMap (enc := encU) h1 fun mc w2 h2 => ?_
  simp -dsimp -implicitDefEqProofs (disch := omega) only [go_sem, reqD_of, dec_t, dec_f, wrap_i64, wrap_u32, wrap_u64, wrap_u8]
  refine onV_of (v := .agg #[.int .i64 most, .map (some mc)]) rfl ?_
  simp -dsimp -implicitDefEqProofs (disch := omega) only [go_sem, reqD_of, dec_t, dec_f, wrap_i64, wrap_u32, wrap_u64, wrap_u8]
  refine h2.new fun C w3 h3 => ?_
  simp -dsimp -implicitDefEqProofs (disch := omega) only [go_sem, reqD_of, dec_t, dec_f, wrap_i64, wrap_u32, wrap_u64, wrap_u8, h3.cl B]
  refine h3.rangeH (b := m) Try.underlying86 fun r w4 h4 => ?_
  simp -dsimp -implicitDefEqProofs (disch := omega) only [go_sem, reqD_of, dec_t, dec_f, wrap_i64, wrap_u32, wrap_u64, wrap_u8]
  have h5 : St w0 (Blk C (tabB most mc) * (MapP encU mc (amap fdV []) * (hearts [] * (Blk B (tabB most m) * (IterP encU m r (amap fdV ps) (amap fdV ps) * (hearts ps * F)))))) w4 :=
    (EmpH.of h4).ac (by show EmpH * _ = Blk C (tabB most mc) * (MapP encU mc (amap fdV []) * (EmpH * _)); ac_rfl)
  refine loop_intro (fun e w' => e.ds = [] ∧ e.ρ 3 = .pointer (some ⟨C, 0, none⟩) ∧ e.ρ 17 = .pointer (some ⟨r, 0, none⟩) ∧ ∃ (done left qs : FPs), (done ++ left).Perm ps ∧ amap (·.2) qs = amap (·.2) done ∧
      St w0 (Blk C (tabB most mc) * (MapP encU mc (amap fdV qs) * (hearts qs * (Blk B (tabB most m) * (IterP encU m r (amap fdV ps) (amap fdV left) * (hearts ps * F)))))) w')
    (fun _ w => iterLeft m r w) ?_ ?_
  · exact ⟨rfl, by simp -dsimp -implicitDefEqProofs only [go_sem], by simp -dsimp -implicitDefEqProofs only [go_sem], [], ps, [], by simp, rfl, h5⟩
  rintro e w5 ⟨hd, e3, e17, done, left, qs, hp, hqs, h5⟩
  have hleft := h5.iterLeft m
  simp -dsimp -implicitDefEqProofs (disch := omega) only [go_sem, reqD_of, dec_t, dec_f, wrap_i64, wrap_u32, wrap_u64, wrap_u8, hd, e3, e17]
  refine h5.nextP (lf := left) m (fun hnil => ?_) fun x rest w6 hxr h6 => ?_
  · subst hnil
    simp -dsimp -implicitDefEqProofs (disch := omega) only [go_sem, reqD_of, dec_t, dec_f, wrap_i64, wrap_u32, wrap_u64, wrap_u8, hd, e3, e17]
    have h7 := h5.iterEnd m
    have h8 := TabP.col (B := B) (m := m) (most := most) (ps := ps) h7 hps
    have h9 := TabP.col (B := C) (m := mc) (most := most) (ps := qs) h8 hqs
    refine ⟨C, amap (·.2) done, ?_, h9.sub, rfl⟩
    rw [← hps]
    exact amap_perm _ (by simpa using hp)
  obtain ⟨k, v, f⟩ := x
  simp -dsimp -implicitDefEqProofs (disch := omega) only [go_sem, reqD_of, dec_t, dec_f, wrap_i64, wrap_u32, wrap_u64, wrap_u8, hd, e3, e17]
  refine h6.entryH m ?_
  simp -dsimp -implicitDefEqProofs (disch := omega) only [go_sem, reqD_of, dec_t, dec_f, wrap_i64, wrap_u32, wrap_u64, wrap_u8, hd, e3, e17]
  refine h6.new fun X w7 h7 => ?_
  have hx : ps.Perm ((k, (v, f)) :: (done ++ rest)) := hp.symm.trans ((List.Perm.append_left done hxr.symm).trans List.perm_middle)
  have hnd : (ps.map (·.1)).Nodup := by rw [← amap_keys fdV]; exact h1.mapNodup m
  have hag : agt k ps = some (v, f) := agt_of_mem hnd (hx.symm.subset List.mem_cons_self)
  have hu : Okf (v, f) := hearts_cell hag h7.right.right.right.right.right.right
  have hkd : agt k (amap (fun x : HF => x.2) qs) = none := by
    rw [hqs]
    refine agt_none_of_notin fun hm => ?_
    rw [amap_keys] at hm
    have h1 := (hx.map (·.1)).nodup_iff.1 hnd
    simp only [List.map_cons, List.nodup_cons] at h1
    exact h1.1 (by rw [List.map_append]; exact List.mem_append_left _ hm)
  simp -dsimp -implicitDefEqProofs (disch := omega) only [go_sem, reqD_of, dec_t, dec_f, wrap_i64, wrap_u32, wrap_u64, wrap_u8]
  refine h7.stoAll (b := X) (cs := fdC v f) rfl rfl (fdC_cells hu.1) fun w8 h8 => ?_
  have h8 := h8.drew
  have hrow := h8.rowH X 14 rfl
  simp -dsimp -implicitDefEqProofs (disch := omega) only [go_sem, reqD_of, dec_t, dec_f, wrap_i64, wrap_u32, wrap_u64, wrap_u8, hd, e3, e17, h8.cl C, hrow]
  refine (own_any (p := (v, f)) h8 hu.1 ((Ent.right _ _).trans ((Ent.right _ _).trans ((Ent.right _ _).trans ((Ent.right _ _).trans ((Ent.right _ _).trans ((Ent.right _ _).trans ((Ent.left _ _).trans (hearts_reads hag)))))))) hu.2).mono ?_
  rintro e' w9 ⟨v', hv', h9, rfl⟩
  have hC9 := h9.cl C
  have hX9 := h9.rowH X 14 rfl
  simp -dsimp -implicitDefEqProofs (disch := omega) only [go_sem, reqD_of, dec_t, dec_f, wrap_i64, wrap_u32, wrap_u64, wrap_u8, hd, e3, e17, hC9, hX9]
  refine h9.updH (b := mc) Try.underlying86 lawU fun w10 h10 => ?_
  have hC10 := h10.cl C
  have hX10 := h10.rowH X 14 rfl
  have hla : ∀ q : FPs, (amap fdV q).length = q.length := fun q => by simp [amap]
  have hel : rest.length + 1 = left.length := by have := hxr.length_eq; simpa using this
  have hpm : (done ++ [(k, (v, f))] ++ rest).Perm ps := by
    refine List.Perm.trans ?_ hp
    rw [List.append_assoc]
    exact List.Perm.append_left done hxr
  rw [upd_amap] at h10
  have h11 := hearts_put (n := k) (q := (v', f)) ⟨hv', hu.2⟩ (h10.ac (by ac_rfl : _ = HeardP (v', f) * (hearts qs * (Blk C (tabB most mc) * (MapP encU mc (amap fdV (aset k (v', f) qs)) * (Blk B (tabB most m) * (IterAt encU m r (amap fdV ps) (amap fdV rest) k (fdV (v, f)) * (hearts ps * (Blk X (fidB v f) * F)))))))))
  have h12 := h11.iterDone m
  have hl5 := h12.iterLeft m
  simp -dsimp -implicitDefEqProofs (disch := omega) only [go_sem, reqD_of, dec_t, dec_f, wrap_i64, wrap_u32, wrap_u64, wrap_u8, hd, e3, e17, hC10, hX10]
  refine ⟨⟨done ++ [(k, (v, f))], rest, aset k (v', f) qs, hpm, ?_, h12.sub⟩, ?_⟩
  · rw [← aset_amap (fun x : HF => x.2) k (v', f) qs, aset_none hkd, hqs]
    simp [amap]
  · rw [hl5, hleft, hla, hla]; omega

end
end Go.Proofs.Ytljndiligbaljaa
