/- The table of locks: Held's walk. -/
import Derived.Test.YtacmnfpgimgigaaLkK
namespace Go.Proofs.Ytacmnfpgimgigaa
open Go
set_option linter.unusedSimpArgs false
set_option linter.unusedVariables false
set_option maxRecDepth 100000

theorem heldL_app (who : Int) (a b : List (Nam × LkS)) : heldL who (a ++ b) = heldL who a ++ heldL who b := List.filterMap_append
theorem amap_app {κ α β : Type} (f : α → β) (a b : List (κ × α)) : amap f (a ++ b) = amap f a ++ amap f b := List.map_append
theorem heldL_names (who : Int) : ∀ ls : List (Nam × LkS), ((heldL who ls).map (·.1)).Sublist (ls.map (·.1))
  | [] => .slnil
  | p :: ls => by
    have ih := heldL_names who ls
    simp only [heldL, List.filterMap_cons, List.map_cons] at ih ⊢
    cases h : heldOf who p with
    | none => exact ih.cons _
    | some n =>
      have : n.1 = p.1 := by
        simp only [heldOf] at h
        split at h
        · simp only [Option.some.injEq] at h; rw [← h]
        · cases h
      simp only [List.map_cons, this]
      exact ih.cons_cons _

section
attribute [local go_sem] F22.t4_eq F22.t8_eq
theorem held_any {w0 w : World} {F : HP} {B : Nat} {ls : List (Nam × LkS)} {ws : List (Int × Nee)} {who : Int} (h : St w0 (TabP B ls ws * F) w) (hb : ∀ p ∈ ls, p.2.1.length < 1099511627776) (hn : ls.length < 1099511627776) :
    Calls Try.prog 22 #[.pointer (some ⟨B, 0, none⟩), .int .i64 who] w fun e w' => ∃ v, St w0 (RowO 38 4 v (heldS who ls).length ((heldS who ls).flatMap needC) * (TabP B ls ws * F)) w' ∧ e = .returned v := by
  obtain ⟨m1, m2, ps, hps, h1⟩ := TabP.open h
  rw [TabQ_eq] at h1
  refine F22.calls (by simp) ?_
  unfold F22.code
  simp -dsimp -implicitDefEqProofs (disch := omega) only [go_sem, reqD_of, dec_t, dec_f, wrap_i64, wrap_u32, wrap_u64, wrap_u8, h1.cl]
  have hkeys : (ps.map (·.1)).Nodup := by
    have := h1.mapNodup m1
    rwa [amap_keys] at this
  refine h1.rangeH (b := m1) Try.underlying63 fun r w1 h2 => ?_
  simp -dsimp -implicitDefEqProofs (disch := omega) only [go_sem, reqD_of, dec_t, dec_f, wrap_i64, wrap_u32, wrap_u64, wrap_u8]
  refine loop_intro (fun e w' => e.ds = [] ∧ e.ρ 0 = .pointer (some ⟨B, 0, none⟩) ∧ e.ρ 1 = .int .i64 who ∧ e.ρ 13 = .pointer (some ⟨r, 0, none⟩) ∧ ∃ (v : Value) (done left : Ptrs), e.ρ 5 = v ∧ (done ++ left).Perm ps ∧
      St w0 (RowO 38 4 v (heldL who (amap (·.2) done)).length ((heldL who (amap (·.2) done)).flatMap needC) * (Blk B (.cells #[.map (some m1), .map (some m2)] 66 (0, 0)) * (IterP namV m1 r (amap ptrV ps) (amap ptrV left) * (MapP encI m2 (amap needV ws) * (lksP ps * F))))) w')
    (fun _ w => iterLeft m1 r w) ?_ ?_
  · refine ⟨rfl, by simp -dsimp -implicitDefEqProofs only [go_sem], by simp -dsimp -implicitDefEqProofs only [go_sem], by simp -dsimp -implicitDefEqProofs only [go_sem], .slice none 0 0, [], ps, by simp -dsimp -implicitDefEqProofs only [go_sem], .refl _, ?_⟩
    show St w0 (RowO 38 4 (.slice none 0 0) 0 [] * _) _
    exact (h2.nilR 38 4).sub
  rintro e w2 ⟨hd, e0, e1, e13, v, done, left, e5, hperm, h3⟩
  have hlen : done.length ≤ ls.length := by
    have := hperm.length_eq
    rw [← hps]; simp only [amap, List.length_map]; simp at this; omega
  have hll : (heldL who (amap (·.2) done)).length ≤ done.length := by
    have := List.length_filterMap_le (heldOf who) (amap (·.2) done)
    simpa [heldL, amap] using this
  simp -dsimp -implicitDefEqProofs (disch := omega) only [go_sem, reqD_of, dec_t, dec_f, wrap_i64, wrap_u32, wrap_u64, wrap_u8, hd, e13]
  refine h3.nextP m1 (fun hl => ?_) (fun x rest w3 hx h4 => ?_)
  · -- the end: what was found is sorted
    subst hl
    rw [List.append_nil] at hperm
    have hpl : (heldL who (amap (·.2) done)).Perm (heldL who ls) := by
      rw [← hps]
      exact (hperm.map _).filterMap _
    have hnd : ((heldL who (amap (·.2) done)).map (·.1)).Nodup := by
      refine (heldL_names who _).nodup ?_
      have : (amap (·.2) done).map (·.1) = done.map (·.1) := by simp [amap]
      rw [this]
      exact (hperm.map _).nodup_iff.2 hkeys
    simp -dsimp -implicitDefEqProofs (disch := omega) only [go_sem, reqD_of, dec_t, dec_f, wrap_i64, wrap_u32, wrap_u64, wrap_u8, hd, e5]
    refine (sortNeeds_any h3 (by omega) hnd).mono ?_
    rintro e' w4 ⟨h4, rfl⟩
    simp -dsimp -implicitDefEqProofs (disch := omega) only [go_sem, reqD_of, dec_t, dec_f, wrap_i64, wrap_u32, wrap_u64, wrap_u8, hd, e5]
    refine ⟨v, ?_, rfl⟩
    have hs : (heldL who (amap (·.2) done)).mergeSort leN = heldS who ls := by
      unfold heldS
      refine perm_sorted_unique (r := fun x y => leN x y = true) ?_ ((List.mergeSort_perm _ _).trans (hpl.trans (List.mergeSort_perm _ _).symm)) (leN_sorted _) (leN_sorted _) fun x _ => leN_refl x
      intro x hx y hy h1 h2
      exact leN_anti hnd (List.mem_mergeSort.1 hx) (List.mem_mergeSort.1 hy) h1 h2
    have hlen2 : (heldL who (amap (·.2) done)).length = (heldS who ls).length := by rw [← hs, List.length_mergeSort]
    rw [hs, hlen2] at h4
    have h5 := h4.iterEnd m1
    refine St.ent (A := RowO 38 4 v (heldS who ls).length ((heldS who ls).flatMap needC) * (TabQ B m1 m2 ps ws * F)) ?_ (Ent.sep (Ent.rfl' _) (Ent.sep (TabQ.shut B m1 m2 ps ws hps) (Ent.rfl' F)))
    rw [TabQ_eq]
    exact h5.ac (by ac_rfl)
  · obtain ⟨nm, b, s⟩ := x
    simp -dsimp -implicitDefEqProofs (disch := omega) only [go_sem, reqD_of, dec_t, dec_f, wrap_i64, wrap_u32, wrap_u64, wrap_u8, hd, e13]
    refine h4.entryH m1 ?_
    have h5 := h4.iterDone m1
    simp -dsimp -implicitDefEqProofs (disch := omega) only [go_sem, reqD_of, dec_t, dec_f, wrap_i64, wrap_u32, wrap_u64, wrap_u8, hd]
    refine h5.new fun X w4 h6 => ?_
    simp -dsimp -implicitDefEqProofs (disch := omega) only [go_sem, reqD_of, dec_t, dec_f, wrap_i64, wrap_u32, wrap_u64, wrap_u8, hd]
    refine h6.stoAll (cs := namC nm) rfl rfl (namC_cells _) fun w5 h7 => ?_
    have hmem : (nm, (b, s)) ∈ ps := hperm.mem_iff.1 (List.mem_append_right _ (hx.mem_iff.1 (by simp)))
    have hk := agt_of_mem hkeys hmem
    rw [lks_open hk] at h7
    obtain ⟨v1, v2, h8⟩ := LkP.openH (b := b) h7
    have hsl : s.1.length < 1099511627776 := hb (nm, s) (by rw [← hps]; exact List.mem_map.2 ⟨(nm, (b, s)), hmem, rfl⟩)
    obtain ⟨R, hR, h9⟩ := h8.out (.obj b)
    simp -dsimp -implicitDefEqProofs (disch := omega) only [go_sem, reqD_of, dec_t, dec_f, wrap_i64, wrap_u32, wrap_u64, wrap_u8, hd, e1, ptrV]
    refine (holds_any h9 hsl).mono ?_
    rintro e' w6 ⟨h10, rfl⟩
    rw [← hR] at h10
    have hpm : ((done ++ [(nm, (b, s))]) ++ rest).Perm ps := by
      rw [List.append_assoc]
      exact (List.Perm.append_left done hx).trans hperm
    have hone : heldL who (amap (·.2) (done ++ [(nm, (b, s))])) = heldL who (amap (·.2) done) ++ (heldOf who (nm, s)).toList := by
      rw [amap_app, heldL_app]
      congr 1
    have hmeas : ∀ {A : HP} {C : HP → HP} {w' : World} [Hole (.map m1) A (IterP namV m1 r (amap ptrV ps) (amap ptrV rest)) C], St w0 A w' → iterLeft m1 r w' < iterLeft m1 r w2 := by
      intro A C w' _ hw'
      rw [hw'.iterLeft m1, h3.iterLeft m1]
      have := hx.length_eq
      simp only [amap, List.length_map]
      simp at this
      omega
    by_cases hp : 0 ≤ posC who s.1 0
    · rcases posC_spec who s.1 0 with hpi | ⟨i, hi, hpi⟩
      · omega
      rw [Nat.zero_add] at hpi
      have hsome : heldOf who (nm, s) = some (nm, (s.1[i]).2) := by simp [heldOf, hpi, hi]
      have h11 := h10.drew
      obtain ⟨_, a1, c1, rfl, hc1, hcl⟩ := claimAt (h11.gives (B := Reads 2 v1 s.1.length (clR s.1)))
      obtain ⟨g, o, rfl, hrow, hx0, hx1⟩ := hcl i hi
      have hbk := LkQ.clH h11 b
      have hX := h11.rowH X 3 rfl
      simp -dsimp -implicitDefEqProofs (disch := omega) only [go_sem, reqD_of, dec_t, dec_f, wrap_i64, wrap_u32, wrap_u64, wrap_u8, hd, e0, e1, e13, e5, hpi, hX, hbk, hx1]
      refine onV_of (v := needV (nm, (s.1[i]).2)) rfl ?_
      simp -dsimp -implicitDefEqProofs (disch := omega) only [go_sem, reqD_of, dec_t, dec_f, wrap_i64, wrap_u32, wrap_u64, wrap_u8]
      refine h11.lit fact_rowTy_33 (cells := needC (nm, (s.1[i]).2)) rfl (by decide) (by decide) fun v3 w7 h12 => ?_
      simp -dsimp -implicitDefEqProofs (disch := omega) only [go_sem, reqD_of, dec_t, dec_f, wrap_i64, wrap_u32, wrap_u64, wrap_u8, e5]
      refine h12.appR (v := v) fact_rowTy_33 Try.underlying33 (needC_cells _) (by simp [needC]) (by simp only [maxLen]; omega) (by omega) fun v4 w8 h13 => ?_
      simp -dsimp -implicitDefEqProofs (disch := omega) only [go_sem, reqD_of, dec_t, dec_f, wrap_i64, wrap_u32, wrap_u64, wrap_u8, hd, e0, e1, e13, e5]
      have h14 := LkQ.shutH h13 b
      refine ⟨⟨v4, done ++ [(nm, (b, s))], rest, rfl, hpm, ?_⟩, ?_⟩
      · rw [hone, hsome, lks_open hk]
        simp only [Option.toList_some, List.length_append, List.length_cons, List.length_nil, Nat.zero_add, List.flatMap_append, List.flatMap_cons, List.flatMap_nil, List.append_nil]
        exact h14.sub
      · exact hmeas h14
    · have hno : heldOf who (nm, s) = none := by simp [heldOf, hp]
      simp -dsimp -implicitDefEqProofs (disch := omega) only [go_sem, reqD_of, dec_t, dec_f, wrap_i64, wrap_u32, wrap_u64, wrap_u8, hd, e0, e1, e13, e5, hp]
      have h11 := LkQ.shutH h10 b
      have h12 : St w0 _ w6 := h11
      refine ⟨⟨v, done ++ [(nm, (b, s))], rest, rfl, hpm, ?_⟩, ?_⟩
      · rw [hone, hno, lks_open hk]
        simp only [Option.toList_none, List.append_nil]
        exact h11.sub
      · exact hmeas h11

end
end Go.Proofs.Ytacmnfpgimgigaa
