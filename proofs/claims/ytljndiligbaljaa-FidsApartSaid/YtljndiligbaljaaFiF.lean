/- The fids package: a table's list, rising; All, Clear, Clone. -/
import Derived.Test.YtljndiligbaljaaFiE
namespace Go.Proofs.Ytljndiligbaljaa
open Go
set_option linter.unusedSimpArgs false
set_option linter.unusedVariables false
set_option maxRecDepth 100000

abbrev Ent2 := Int × HF
/-- A fid and its number. -/
def atC (x : Int × HF) : List Value := .int .u32 x.1 :: fdC x.2.1 x.2.2
theorem atC_length (x : Int × HF) : (atC x).length = 15 := rfl
theorem atC_cells {x : Int × HF} (h : isCell x.2.1 = true) : ∀ v ∈ atC x, isCell v = true := by
  intro v hv
  rcases List.mem_cons.1 hv with rfl | hv
  · rfl
  · exact fdC_cells h v hv

theorem srt_perm (l : List Int) : (srt l).Perm l := List.mergeSort_perm l _
theorem srt_sorted (l : List Int) : (srt l).Pairwise (· ≤ ·) := by
  have := List.pairwise_mergeSort (le := fun x y : Int => decide (x ≤ y)) (fun a b c h1 h2 => by simp at *; omega) (fun a b => by simp; omega) l
  exact this.imp fun h => by simpa using h
theorem srt_of_perm {l l' : List Int} (h : l.Perm l') : srt l = srt l' :=
  perm_sorted_unique (r := fun x y : Int => x ≤ y) (fun x _ y _ h1 h2 => Int.le_antisymm h1 h2) (((srt_perm l).trans h).trans (srt_perm l').symm) (srt_sorted l) (srt_sorted l') (fun x _ => Int.le_refl x)

/-- A table's fids by their numbers, rising. -/
def sortK (l : List (Int × FidD)) : List (Int × FidD) := (srt (l.map (·.1))).map fun n => (n, (agt n l).getD zFid)
theorem sortK_length (l : List (Int × FidD)) : (sortK l).length = l.length := by simp [sortK, srt]
theorem sortK_keys (l : List (Int × FidD)) : (sortK l).map (·.1) = srt (l.map (·.1)) := by simp [sortK, List.map_map, Function.comp_def]

theorem stars_append {κ α : Type} {w0 w : World} {F : HP} (A : κ × α → HP) : ∀ (l l' : List (κ × α)), St w0 (stars A (l ++ l') * F) w ↔ St w0 (stars A l * (stars A l' * F)) w
  | [], l' => by
    constructor
    · intro h
      exact h.ent (Ent.trans (by
        have : Ent (stars A l' * F) (EmpH * (stars A l' * F)) := Ent.empL _
        exact this) (Ent.rfl' _))
    · intro h; exact h.right
  | x :: l, l' => by
    have ih := fun F' => stars_append (w0 := w0) (w := w) (F := F') A l l'
    constructor
    · intro h
      have h1 : St w0 (stars A (l ++ l') * (A x * F)) w := h.ac (by show A x * stars A (l ++ l') * F = _; ac_rfl)
      exact ((ih _).1 h1).ac (by show _ = A x * stars A l * _; ac_rfl)
    · intro h
      have h1 : St w0 (stars A l * (stars A l' * (A x * F))) w := h.ac (by show A x * stars A l * _ = _; ac_rfl)
      exact ((ih _).2 h1).ac (by show _ = A x * stars A (l ++ l') * F; ac_rfl)

/-- A fid's bytes at the end of the list. -/
theorem hearts_snoc {w0 w : World} {qs : FPs} {x : Int × HF} {F : HP} (hx : Okf x.2) (h : St w0 (HeardP x.2 * (hearts qs * F)) w) : St w0 (hearts (qs ++ [x]) * F) w := by
  refine (stars_append _ qs [x]).2 ?_
  have h1 : St w0 (EmpH * (HeardP x.2 * (hearts qs * F))) w := EmpH.of h
  have h2 : St w0 (HeardP x.2 * (EmpH * (hearts qs * F))) w := h1.ac (by ac_rfl)
  have h3 := h2.ent (Ent.sep (Ent.fact hx (HeardP x.2)) (Ent.rfl' _))
  exact h3.ac (by show _ = hearts qs * ((HP.fact (Okf x.2) (HeardP x.2) * EmpH) * F); ac_rfl)
theorem hearts_cons {w0 w : World} {qs : FPs} {x : Int × HF} {F : HP} (h : St w0 (hearts (x :: qs) * F) w) : Okf x.2 ∧ St w0 (HeardP x.2 * (hearts qs * F)) w := by
  have h1 : St w0 (HP.fact (Okf x.2) (HeardP x.2) * (hearts qs * F)) w := h.ac (by show HP.fact (Okf x.2) (HeardP x.2) * hearts qs * F = _; ac_rfl)
  exact h1.factF

/-- A list of fids of one's own. -/
def AtP (v : Value) (qs : FPs) : HP := RowO 48 15 v qs.length (qs.flatMap atC) * hearts qs

section
attribute [local go_sem] F38.t6_eq F38.t4_eq F38.t7_eq
theorem list_any {w0 w : World} {F : HP} {B : Nat} {most : Int} {l : List (Int × FidD)} (h : St w0 (TabP B most l * F) w) (hl : l.length ≤ 1048576) :
    Calls Try.prog 38 #[.pointer (some ⟨B, 0, none⟩)] w fun e w' => ∃ v qs, amap (·.2) qs = sortK l ∧ St w0 (AtP v qs * (TabP B most l * F)) w' ∧ e = .returned v := by
  obtain ⟨m, ps, hps, h1⟩ := TabP.open h
  have hlen : ps.length = l.length := by rw [← hps]; simp [amap]
  have hkeys : ps.map (·.1) = l.map (·.1) := by rw [← hps, amap_keys]
  refine F38.calls (by simp) ?_
  unfold F38.code
  simp -dsimp -implicitDefEqProofs (disch := omega) only [go_sem, reqD_of, dec_t, dec_f, wrap_i64, wrap_u32, wrap_u64, wrap_u8, h1.cl B]
  refine h1.lenH (b := m) Try.underlying86 ?_
  have hl2 : (amap fdV ps).length = l.length := by rw [← hlen]; simp [amap]
  rw [hl2]
  simp -dsimp -implicitDefEqProofs (disch := omega) only [go_sem, reqD_of, dec_t, dec_f, wrap_i64, wrap_u32, wrap_u64, wrap_u8]
  refine h1.make0 fact_rowTy_28 (by omega) (by omega) (by omega) fun v1 w2 h2 => ?_
  simp -dsimp -implicitDefEqProofs (disch := omega) only [go_sem, reqD_of, dec_t, dec_f, wrap_i64, wrap_u32, wrap_u64, wrap_u8, h2.cl B]
  refine (keys_any h2).mono ?_
  rintro e w3 ⟨K, h3, rfl⟩
  simp -dsimp -implicitDefEqProofs (disch := omega) only [go_sem, reqD_of, dec_t, dec_f, wrap_i64, wrap_u32, wrap_u64, wrap_u8]
  have hnd : (ps.map (·.1)).Nodup := by rw [← amap_keys fdV]; exact h1.mapNodup m
  have h4 : St w0 (KeysB K m ps * (RowO 48 15 v1 0 [] * (Blk B (tabB most m) * (hearts ps * F)))) w3 := h3.ac (by unfold KeysB; ac_rfl)
  refine (sorted_any (S' := fun xs => xs.Perm (ps.map (·.1))) h4 fact_fnOk_71 keysIter (fun l' ⟨post, hp⟩ => by
      have := hp.length_eq
      rw [List.length_append, List.length_map] at this
      omega) (fun l' hp => by
      have := hp.length_eq
      rw [List.length_map] at this
      omega)).mono ?_
  rintro e w5 ⟨vk, xs, hxs, h5, rfl⟩
  have hsr : srt xs = srt (l.map (·.1)) := by rw [← hkeys]; exact srt_of_perm hxs
  rw [hsr] at h5
  obtain ⟨ks, hks⟩ : ∃ ks, ks = srt (l.map (·.1)) := ⟨_, rfl⟩
  have hkl : ks.length = l.length := by rw [hks]; simp [srt]
  rw [← hks] at h5
  have hag : ∀ n, agt n l = (agt n ps).map (·.2) := fun n => by rw [← hps, agt_amap]
  have hin : ∀ i (hi : i < ks.length), ∃ p, agt ks[i] ps = some p := by
    intro i hi
    have hall : ∀ x ∈ ks, x ∈ l.map (·.1) := by rw [hks]; exact fun x hx => (srt_perm _).subset hx
    have h1 := hall _ (List.getElem_mem hi)
    rw [← hkeys] at h1
    have := agt_isSome_iff.2 h1
    exact Option.isSome_iff_exists.1 this
  have hsk : sortK l = ks.map fun n => (n, (agt n l).getD zFid) := by unfold sortK; rw [← hks]
  obtain ⟨ak, ck, rfl, hck, _, _⟩ := h5.rowForm vk
  simp -dsimp -implicitDefEqProofs (disch := omega) only [go_sem, reqD_of, dec_t, dec_f, wrap_i64, wrap_u32, wrap_u64, wrap_u8]
  have h6 : St w0 (RowO 48 15 v1 0 [] * (hearts [] * (RowO 35 1 (.slice ak ks.length ck) ks.length (ks.map encU) * (Blk B (tabB most m) * (MapP encU m (amap fdV ps) * (hearts ps * F)))))) w5 := by
    have h7 : St w0 (Blk K (.cells #[.map (some m)] 86 (0, 0)) * (RowO 48 15 v1 0 [] * (RowO 35 1 (.slice ak ks.length ck) ks.length (ks.map encU) * (Blk B (tabB most m) * (MapP encU m (amap fdV ps) * (hearts ps * F)))))) w5 := h5.ac (by unfold KeysB; ac_rfl)
    exact (EmpH.of h7.right).ac (by show _ = RowO 48 15 v1 0 [] * (EmpH * _); ac_rfl)
  refine loop_intro (fun e w' => e.ds = [] ∧ e.ρ 0 = .pointer (some ⟨B, 0, none⟩) ∧ e.ρ 17 = .slice ak ks.length ck ∧ e.ρ 18 = .int .i64 ks.length ∧ ∃ (i : Nat) (v : Value) (qs : FPs), i ≤ ks.length ∧ e.ρ 19 = .int .i64 i ∧ e.ρ 3 = v ∧ qs.length = i ∧ amap (·.2) qs = (sortK l).take i ∧
      St w0 (RowO 48 15 v i (qs.flatMap atC) * (hearts qs * (RowO 35 1 (.slice ak ks.length ck) ks.length (ks.map encU) * (Blk B (tabB most m) * (MapP encU m (amap fdV ps) * (hearts ps * F)))))) w')
    (fun e _ => match e.ρ 19 with | .int _ n => (ks.length - n).toNat | _ => 0) ?_ ?_
  · exact ⟨rfl, by simp -dsimp -implicitDefEqProofs only [go_sem], by simp -dsimp -implicitDefEqProofs only [go_sem], by simp -dsimp -implicitDefEqProofs only [go_sem], 0, v1, [], by omega, by simp -dsimp -implicitDefEqProofs only [go_sem], by simp -dsimp -implicitDefEqProofs only [go_sem], rfl, by simp [amap], h6⟩
  rintro e w7 ⟨hd, e0, e17, e18, i, v, qs, hi, e19, e3, hq, hqs, h7⟩
  by_cases hlt : (i : Int) < ks.length
  case neg =>
    have : i = ks.length := by omega
    subst this
    simp -dsimp -implicitDefEqProofs (disch := omega) only [go_sem, reqD_of, dec_t, dec_f, wrap_i64, wrap_u32, wrap_u64, wrap_u8, hd, e0, e17, e18, e19, e3, hlt]
    refine ⟨v, qs, ?_, ?_, rfl⟩
    · rw [hqs, List.take_of_length_le (by rw [sortK_length]; omega)]
    · have h8 := TabP.col (B := B) (m := m) (most := most) (ps := ps) (A := Blk B (tabB most m) * (MapP encU m (amap fdV ps) * (hearts ps * (RowO 48 15 v ks.length (qs.flatMap atC) * (hearts qs * (RowO 35 1 (.slice ak ks.length ck) ks.length (ks.map encU) * F)))))) (h7.ac (by ac_rfl)) hps
      have h9 : St w0 (RowO 35 1 (.slice ak ks.length ck) ks.length (ks.map encU) * ((RowO 48 15 v ks.length (qs.flatMap atC) * hearts qs) * (TabP B most l * F))) w7 := h8.ac (by ac_rfl)
      unfold AtP
      rw [hq]
      exact h9.right
  have hil : i < ks.length := by omega
  have hrd : Ent (RowO 48 15 v i (qs.flatMap atC) * (hearts qs * (RowO 35 1 (.slice ak ks.length ck) ks.length (ks.map encU) * (Blk B (tabB most m) * (MapP encU m (amap fdV ps) * (hearts ps * F)))))) (Reads 1 (.slice ak ks.length ck) ks.length (ks.map encU)) := (Ent.right _ _).trans ((Ent.right _ _).trans ((Ent.left _ _).trans (RowO.reads _ _ _ _ _)))
  obtain ⟨gk, ok, rfl, hcell⟩ : ∃ g o, ak = some ⟨g, o, none⟩ ∧ w7.cell? ⟨g, o + i, none⟩ = some (encU ks[i]) := by
    obtain ⟨a', c', hv, _, hr⟩ := ((h7.ent hrd).rd).form
    simp only [Value.slice.injEq, true_and] at hv
    obtain ⟨rfl, rfl⟩ := hv
    rcases hr with hr | ⟨b, o, rfl, hr⟩
    · have := congrArg List.length hr
      simp only [List.length_map, List.length_nil] at this
      omega
    · refine ⟨b, o, rfl, ?_⟩
      have := hr i (by simpa using hil)
      rw [this, List.getElem?_map, List.getElem?_eq_getElem hil]
      rfl
  obtain ⟨⟨vf, f⟩, hp⟩ := hin i hil
  have hu : Okf (vf, f) := hearts_cell hp (h7.right.right.right.right.right)
  simp -dsimp -implicitDefEqProofs (disch := omega) only [go_sem, reqD_of, dec_t, dec_f, wrap_i64, wrap_u32, wrap_u64, wrap_u8, hd, e0, e17, e18, e19, e3, hlt, hcell, h7.cl B]
  refine h7.lkH (b := m) Try.underlying86 lawU zeroV_fid ?_
  rw [lk_amap, lkV_get1, hp]
  simp only [Option.getD_some]
  simp -dsimp -implicitDefEqProofs (disch := omega) only [go_sem, reqD_of, dec_t, dec_f, wrap_i64, wrap_u32, wrap_u64, wrap_u8]
  refine (own_any (p := (vf, f)) h7 hu.1 ((Ent.right _ _).trans ((Ent.right _ _).trans ((Ent.right _ _).trans ((Ent.right _ _).trans ((Ent.right _ _).trans ((Ent.left _ _).trans (hearts_reads hp))))))) hu.2).mono ?_
  rintro e' w8 ⟨v', hv', h8, rfl⟩
  simp -dsimp -implicitDefEqProofs (disch := omega) only [go_sem, reqD_of, dec_t, dec_f, wrap_i64, wrap_u32, wrap_u64, wrap_u8, hd, e0, e17, e18, e19, e3, hlt]
  rw [show fdV (v', f) = .agg (fdC v' f).toArray from rfl]
  refine onV_of (v := .agg (atC (ks[i], (v', f))).toArray) rfl ?_
  simp -dsimp -implicitDefEqProofs (disch := omega) only [go_sem, reqD_of, dec_t, dec_f, wrap_i64, wrap_u32, wrap_u64, wrap_u8]
  refine h8.lit (n := 1) (cells := atC (ks[i], (v', f))) fact_rowTy_28 rfl (by decide) (by decide) fun v2 w9 h9 => ?_
  simp -dsimp -implicitDefEqProofs (disch := omega) only [go_sem, reqD_of, dec_t, dec_f, wrap_i64, wrap_u32, wrap_u64, wrap_u8, hd, e0, e17, e18, e19, e3, hlt]
  refine h9.appR (v := v) (x := v2) fact_rowTy_28 Try.underlying28 (atC_cells hv') (fun h => by simp [atC] at h) (show _ ≤ 9223372036854775807 by omega) (by omega) fun v3 w10 h10 => ?_
  obtain ⟨a3, c3, rfl, _⟩ := h10.rowForm v3
  simp -dsimp -implicitDefEqProofs (disch := omega) only [go_sem, reqD_of, dec_t, dec_f, wrap_i64, wrap_u32, wrap_u64, wrap_u8, hd, e0, e17, e18, e19, e3, hlt]
  refine ⟨⟨i + 1, _, qs ++ [(ks[i], (v', f))], by omega, by omega, rfl, by simp [hq], ?_, ?_⟩, by omega⟩
  · have hs : (sortK l).take (i + 1) = (sortK l).take i ++ [(ks[i], f)] := by
      have hil' : i < (sortK l).length := by rw [sortK_length]; omega
      rw [List.take_succ_eq_append_getElem hil']
      congr 1
      simp only [hsk, List.getElem_map]
      rw [hag, hp]
      rfl
    rw [hs, ← hqs]
    simp [amap]
  · have h11 : St w0 (HeardP (ks[i], (v', f)).2 * (hearts qs * (RowO 48 15 (.slice a3 (i + 1) c3) (i + 1) (qs.flatMap atC ++ atC (ks[i], (v', f))) * (RowO 35 1 (.slice (some ⟨gk, ok, none⟩) ks.length ck) ks.length (ks.map encU) * (Blk B (tabB most m) * (MapP encU m (amap fdV ps) * (hearts ps * F))))))) w10 :=
      (h10.ac (by show _ = RowO 48 15 v2 1 (atC (ks[i], (v', f))) * _; ac_rfl)).right
    have h12 := hearts_snoc ⟨hv', hu.2⟩ h11
    rw [List.flatMap_append, List.flatMap_cons, List.flatMap_nil, List.append_nil]
    exact h12.ac (by ac_rfl)

end
end Go.Proofs.Ytljndiligbaljaa
