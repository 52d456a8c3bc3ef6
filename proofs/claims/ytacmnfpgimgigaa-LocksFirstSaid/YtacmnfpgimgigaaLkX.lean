/- The law LocksSound. -/
import Derived.Test.YtacmnfpgimgigaaLkW
import Derived.Test.YtacmnfpgimgigaaAx
namespace Go.Proofs.Ytacmnfpgimgigaa
open Go
set_option linter.unusedSimpArgs false
set_option linter.unusedVariables false
set_option maxRecDepth 100000

theorem toldS_length (ls : List (Nam × LkS)) : (toldS ls).length ≤ 6 * (tot ls + 2) + 8 * (2 * ls.length + 1) := by
  have hbW : ∀ i, (toldW ls i).length ≤ 2 * ls.length + 1 := fun i => by
    have := toldN_length (heldS (1 + i) ls)
    have := heldS_length (1 + i) ls
    simp only [toldW, List.length_append, List.length_cons, List.length_nil]
    omega
  have h1 : (toldA ls 6).length ≤ 6 * (tot ls + 2) := flat_bound (toldK ls) (toldK_length ls) 6
  have h2 : (toldB ls 8).length ≤ 8 * (2 * ls.length + 1) := flat_bound (toldW ls) hbW 8
  simp only [toldS, List.length_append]
  omega

def In8 (l : List Claim) : Prop := ∀ c ∈ l, 1 ≤ c.1 ∧ c.1 ≤ 8
theorem Few.turn {ls : List (Nam × LkS)} {ws : List (Int × Nee)} (f : Few ls) (kn : (ls.map (·.1)).Nodup) {k : Nat} (hk : k < 6) {s : LkS} (h1 : In8 s.1) (h2 : In8 s.2) : Few (turnS (kN k) s ls ws).2.1 := by
  intro y t ht
  rw [turn_L kn] at ht
  obtain ⟨e1, e2⟩ := adm_spec s.1 s.2
  split at ht
  · rename_i hy
    split at ht
    · cases ht
    · simp only [Option.some.injEq] at ht
      subst ht
      refine ⟨⟨k, hk, hy⟩, fun c hc => ?_, fun c hc => ?_⟩
      · simp only at hc
        rw [e1] at hc
        rcases List.mem_append.1 hc with hc | hc
        · exact h1 c hc
        · exact h2 c (by rw [e2]; exact List.mem_append_left _ hc)
      · exact h2 c (by rw [e2]; exact List.mem_append_right _ hc)
  · exact f y t ht
theorem Few.free {ls : List (Nam × LkS)} {ws : List (Int × Nee)} (v : Inv ls ws) (f : Few ls) (who : Int) (x : Nam) : Few (freeS who x ls ws).2.1 := by
  cases hx : agt x ls with
  | none => rw [freeS_no (by simp [hx])]; exact f
  | some s =>
    rcases posC_spec who s.1 0 with hp | ⟨i, hi, hp⟩
    · rw [freeS_no (by intro s' hs'; rw [hx] at hs'; cases hs'; omega)]; exact f
    · rw [Nat.zero_add] at hp
      rw [freeS_turn hx hp]
      obtain ⟨⟨k, hk, rfl⟩, h1, h2⟩ := f _ _ hx
      exact f.turn v.kn hk (fun c hc => h1 c ((List.eraseIdx_sublist _ _).subset hc)) h2
theorem Few.leave1 {ls : List (Nam × LkS)} {ws : List (Int × Nee)} (v : Inv ls ws) (f : Few ls) (who : Int) : Few (leave1 who ls ws).2.1 := by
  unfold Go.Proofs.Ytacmnfpgimgigaa.leave1
  split
  · exact f
  rename_i n hn
  split
  · exact f
  rename_i s hs
  obtain ⟨⟨k, hk, hx⟩, h1, h2⟩ := f _ _ hs
  rw [hx]
  exact f.turn v.kn hk h1 fun c hc => h2 c (List.mem_filter.1 hc).1
theorem Few.leaveL (who : Int) : ∀ (L : List Nee) {ls : List (Nam × LkS)} {ws : List (Int × Nee)}, Inv ls ws → Few ls → Few (leaveL who L ls ws).2.1
  | [], _, _, _, f => f
  | n :: L, _, _, v, f => Few.leaveL who L (v.free who n.1) (Few.free v f who n.1)
theorem Few.ask {ls : List (Nam × LkS)} {ws : List (Int × Nee)} (f : Few ls) {who : Int} (hw : 1 ≤ who ∧ who ≤ 8) {k : Nat} (hk : k < 6) (a : Bool) : Few (askS who (kN k, a) ls ws).2.1 := by
  unfold askS
  split
  · exact f
  have hs : In8 ((agt (kN k) ls).getD ([], [])).1 ∧ In8 ((agt (kN k) ls).getD ([], [])).2 := by
    cases h : agt (kN k) ls with
    | none => exact ⟨fun c hc => (by cases hc), fun c hc => (by cases hc)⟩
    | some s => exact (f _ _ h).2
  simp only
  generalize (agt (kN k) ls).getD ([], []) = s at hs
  intro y t ht
  rw [agt_aset_if] at ht
  split at ht
  · rename_i hy
    simp only [Option.some.injEq] at ht
    subst ht
    refine ⟨⟨k, hk, hy⟩, ?_⟩
    have happ : ∀ l, In8 l → In8 (l ++ [(who, a)]) := fun l hl c hc => by
      rcases List.mem_append.1 hc with hc | hc
      · exact hl c hc
      · simp only [List.mem_singleton] at hc; subst hc; exact hw
    unfold askT
    split
    · exact hs
    · split
      · exact ⟨happ _ hs.1, hs.2⟩
      · exact ⟨hs.1, happ _ hs.2⟩
  · exact f y t ht
theorem mvWho_range (m : Mv) : 1 ≤ mvWho m ∧ mvWho m ≤ 8 := by have := pickI_range (c := m.2.1) (n := 8) (by decide); unfold mvWho; omega
theorem mvLock_kN (m : Mv) : ∃ k : Nat, k < 6 ∧ mvLock m = kN k := by
  have := pickI_range (c := m.2.2.1) (n := 6) (by decide)
  refine ⟨(pickI m.2.2.1 6).toNat, by omega, ?_⟩
  unfold mvLock kN
  rw [Int.toNat_of_nonneg this.1]
theorem Few.move {ls : List (Nam × LkS)} {ws : List (Int × Nee)} (v : Inv ls ws) (f : Few ls) (m : Mv) : Few (moveS m ls ws).2.1 := by
  obtain ⟨k, hk, hm⟩ := mvLock_kN m
  unfold moveS
  rw [hm]
  split
  · exact f.ask (mvWho_range m) hk _
  · split
    · exact Few.free v f _ _
    · exact Few.leaveL _ _ (v.leave1 _) (Few.leave1 v f _)

section
attribute [local go_sem] F6.t9_eq F6.t10_eq F6.t17_eq F6.t7_eq F6.t3_eq
theorem soundLaw_main {w0 w : World} {F : HP} {v0 : Value} {ms : List Mv} {e : FA} (h : St w0 F w) (hr : Ent F (Reads 4 v0 ms.length (ms.flatMap mvC))) (hm : ∀ m ∈ ms, MvOk m) (hlen : ms.length ≤ 1048576) (hd : e.ds = []) (e0 : e.ρ 0 = v0) :
    cwE Try.prog F6.t3 (fnP Try.prog #[.tmp 2] fun e w' => St w0 F w' ∧ e = .returned (.bool true)) e w := by
  obtain ⟨_, a, c, rfl, hnc, _⟩ := St.rowsAt (k := 4) mvC_length (by decide) (h.ent hr)
  rw [F6.t3_eq]
  simp -dsimp -implicitDefEqProofs (disch := omega) only [go_sem, reqD_of, dec_t, dec_f, wrap_i64, wrap_u32, wrap_u64, wrap_u8, hd, e0]
  refine (known_any h).mono ?_
  rintro e' w1 ⟨h1, rfl⟩
  simp -dsimp -implicitDefEqProofs (disch := omega) only [go_sem, reqD_of, dec_t, dec_f, wrap_i64, wrap_u32, wrap_u64, wrap_u8, hd, e0]
  refine (new_any h1).mono ?_
  rintro e' w2 ⟨B, h2, rfl⟩
  simp -dsimp -implicitDefEqProofs (disch := omega) only [go_sem, reqD_of, dec_t, dec_f, wrap_i64, wrap_u32, wrap_u64, wrap_u8, hd, e0]
  refine loop_intro (fun e w' => e.ds = [] ∧ e.ρ 0 = .slice a ms.length c ∧ e.ρ 4 = .pointer (some ⟨B, 0, none⟩) ∧ ∃ (i : Nat) (ls : List (Nam × LkS)) (ws : List (Int × Nee)), i ≤ ms.length ∧ e.ρ 5 = .int .i64 i ∧ Inv ls ws ∧ Few ls ∧ tot ls ≤ i ∧ ls.length ≤ i ∧ St w0 (TabP B ls ws * F) w')
    (fun e _ => match e.ρ 5 with | .int _ n => (ms.length - n).toNat | _ => 0) ?_ ?_
  · exact ⟨by simp -dsimp -implicitDefEqProofs only [go_sem, hd], by simp -dsimp -implicitDefEqProofs only [go_sem, e0], by simp -dsimp -implicitDefEqProofs only [go_sem], 0, [], [], by omega, by simp -dsimp -implicitDefEqProofs only [go_sem], Inv.start, fun x s hx => (by cases hx), by simp [tot], by simp, h2⟩
  rintro e w3 ⟨hd, e0, e4, i, ls, ws, hi, e5, v, f, hT, hL, h3⟩
  by_cases hlt : (i : Int) < ms.length
  case neg =>
    have : i = ms.length := by omega
    subst this
    simp -dsimp -implicitDefEqProofs (disch := omega) only [go_sem, reqD_of, dec_t, dec_f, wrap_i64, wrap_u32, wrap_u64, wrap_u8, hd, e0, e4, e5, hlt]
    exact h3.right
  have hil : i < ms.length := by omega
  simp -dsimp -implicitDefEqProofs (disch := omega) only [go_sem, reqD_of, dec_t, dec_f, wrap_i64, wrap_u32, wrap_u64, wrap_u8, hd, e0, e4, e5, hlt]
  refine (told_any h3 (by omega) (by omega)).mono ?_
  rintro e' w4 ⟨v1, h4, rfl⟩
  obtain ⟨_, _, _, hv, _, hcl⟩ := St.rowsAt (k := 4) mvC_length (by decide) (h4.right.right.ent hr)
  simp only [Value.slice.injEq, true_and] at hv
  obtain ⟨rfl, rfl⟩ := hv
  obtain ⟨g, o, rfl, hrow, hcell⟩ := hcl i hil
  have c0 := hcell 0 (by decide)
  have c1 := hcell 1 (by decide)
  have c2 := hcell 2 (by decide)
  have c3 := hcell 3 (by decide)
  have hmi := hm ms[i] (List.getElem_mem hil)
  generalize ms[i] = m at c0 c1 c2 c3 hmi
  simp only [mvC, Nat.add_zero, List.getElem?_cons_succ, List.getElem?_cons_zero] at c0 c1 c2 c3
  simp -dsimp -implicitDefEqProofs (disch := omega) only [go_sem, reqD_of, dec_t, dec_f, wrap_i64, wrap_u32, wrap_u64, wrap_u8, hd, e0, e4, e5, c0, c1, c2, c3]
  obtain ⟨⟨⟨l, ok⟩, ls', ws'⟩, hR⟩ : ∃ y, moveS m ls ws = y := ⟨_, rfl⟩
  have v' := v.move m
  have f' := Few.move v f m
  have ht' := move_tot m ls ws
  have hrf : ok = false → ls' = ls := fun h0 => by
    have := move_refused (m := m) (ls := ls) (ws := ws) (by rw [hR]; exact h0)
    rw [hR] at this
    simp only [Prod.mk.injEq] at this
    exact this.1
  rw [hR] at v' f' ht'
  simp only at v' f' ht'
  refine (move_any hR hmi (h4.take (.obj B)) (fun n hn => by obtain ⟨s, hs, _⟩ := v.wq _ _ _ hn; exact ⟨s, hs⟩) (by omega) (by omega)).mono ?_
  rintro e' w5 ⟨v2, h5, rfl⟩
  simp -dsimp -implicitDefEqProofs (disch := omega) only [go_sem, reqD_of, dec_t, dec_f, wrap_i64, wrap_u32, wrap_u64, wrap_u8, hd, e0, e4, e5]
  refine (told_any (h5.take (.obj B)) (by omega) (by omega)).mono ?_
  rintro e' w6 ⟨v3, h6, rfl⟩
  simp -dsimp -implicitDefEqProofs (disch := omega) only [go_sem, reqD_of, dec_t, dec_f, wrap_i64, wrap_u32, wrap_u64, wrap_u8, hd, e0, e4, e5]
  refine (sameInts_any (va := v1) (vb := v3) (na := (toldS ls).length) (nb := (toldS ls').length) (xs := toldS ls) (ys := toldS ls') h6 Gives.ent Gives.ent ?_).mono ?_
  · have := toldS_length ls; omega
  rintro e' w7 ⟨h7, rfl⟩
  simp -dsimp -implicitDefEqProofs (disch := omega) only [go_sem, reqD_of, dec_t, dec_f, wrap_i64, wrap_u32, wrap_u64, wrap_u8, hd, e0, e4, e5]
  refine (sound_any v' f' (by omega) (by omega) (h7.take (.obj B))).mono ?_
  rintro e' w8 ⟨h8, rfl⟩
  have hfin : St w0 (TabP B ls' ws' * F) w8 := h8.sub
  cases ok
  · obtain rfl := hrf rfl
    simp -dsimp -implicitDefEqProofs (disch := omega) only [go_sem, reqD_of, dec_t, dec_f, wrap_i64, wrap_u32, wrap_u64, wrap_u8, hd, e0, e4, e5]
    exact ⟨⟨i + 1, ls', ws', by omega, by omega, v', f', by omega, by omega, hfin⟩, by omega⟩
  · simp -dsimp -implicitDefEqProofs (disch := omega) only [go_sem, reqD_of, dec_t, dec_f, wrap_i64, wrap_u32, wrap_u64, wrap_u8, hd, e0, e4, e5]
    exact ⟨⟨i + 1, ls', ws', by omega, by omega, v', f', by omega, by omega, hfin⟩, by omega⟩

end
section
attribute [local go_sem] F6.t9_eq F6.t10_eq F6.t17_eq F6.t7_eq
theorem locksSound_any {w0 w : World} {F : HP} {v0 : Value} {ms : List Mv} (h : St w0 F w) (hr : Ent F (Reads 4 v0 ms.length (ms.flatMap mvC))) (hm : ∀ m ∈ ms, MvOk m) :
    Calls Try.prog 6 #[v0] w fun e w' => St w0 F w' ∧ e = .returned (.bool true) := by
  obtain ⟨_, a, c, rfl, hnc, _⟩ := St.rowsAt (k := 4) mvC_length (by decide) (h.ent hr)
  refine F6.calls (by simp) ?_
  unfold F6.code
  by_cases hlt : (1048576 : Int) < ms.length
  · simp -dsimp -implicitDefEqProofs (disch := omega) only [go_sem, reqD_of, dec_t, dec_f, wrap_i64, wrap_u32, wrap_u64, wrap_u8, hlt]
    have h2 := hr.trans (Reads.takeK (k := 1048576) (by omega))
    rw [flatMap_take mvC_length] at h2
    have hl : (ms.take 1048576).length = 1048576 := by rw [List.length_take]; omega
    exact soundLaw_main (ms := ms.take 1048576) (v0 := .slice (if c = 0 then a else Option.map (fun x => x) a) 1048576 (c - 0)) h (by rw [hl]; exact h2) (fun m hm' => hm m (List.mem_of_mem_take hm')) (by omega) (by simp -dsimp -implicitDefEqProofs only [go_sem]) (by simp -dsimp -implicitDefEqProofs only [go_sem])
  · simp -dsimp -implicitDefEqProofs (disch := omega) only [go_sem, reqD_of, dec_t, dec_f, wrap_i64, wrap_u32, wrap_u64, wrap_u8, hlt]
    exact soundLaw_main h hr hm (by omega) (by simp -dsimp -implicitDefEqProofs only [go_sem]) (by simp -dsimp -implicitDefEqProofs only [go_sem])

/-! ### The moves, as an argument -/
def rMv : Rdr (Int × Int × Int × Bool × Unit) := rCons 1 (rInt .i64) (rCons 1 (rInt .i64) (rCons 1 (rInt .i64) (rCons 1 rBool rEnd)))
def mvOf (x : Int × Int × Int × Bool × Unit) : Mv := (x.1, x.2.1, x.2.2.1, x.2.2.2.1)
theorem rMv_cells {x : Int × Int × Int × Bool × Unit} {cs : List Value} {h : Heap} (r : rMv.rel x cs h) : cs = mvC (mvOf x) ∧ MvOk (mvOf x) := by
  obtain ⟨_, _, rfl, _, ⟨rfl, w1⟩, _, _, rfl, _, ⟨rfl, w2⟩, _, _, rfl, _, ⟨rfl, w3⟩, _, _, rfl, _, rfl, rfl⟩ := r
  exact ⟨rfl, i64_bounds w1, i64_bounds w2, i64_bounds w3⟩
theorem mv_arg {b : Nat} {xs : List (Int × Int × Int × Bool × Unit)} {v : Value} {W : World} (c : (rSlice 4 b rMv).rel xs [v] (heapOf W)) : ∃ ms : List Mv, (∀ m ∈ ms, MvOk m) ∧ Ent (Old W) (Reads 4 v ms.length (ms.flatMap mvC)) := by
  refine ⟨xs.map mvOf, fun m hm => ?_, ?_⟩
  · obtain ⟨x, hx, rfl⟩ := List.mem_map.1 hm
    obtain ⟨a, cap, e, l, _, _, k⟩ := c
    rcases k with k | ⟨g, o, cur, T, fr, ea, hg, hj⟩
    · subst k; cases hx
    · obtain ⟨j, hj', rfl⟩ := List.getElem_of_mem hx
      exact (rMv_cells (hj j hj').2).2
  · have h1 := (Rdr.old (w0 := W) c).trans (rSlice_reads (s := 4) (R := rMv) (enc := fun x => mvC (mvOf x)) (fun x cs h r => (rMv_cells r).1) (fun x => rfl))
    rw [List.length_map, List.flatMap_map]
    exact h1

end
end Go.Proofs.Ytacmnfpgimgigaa
