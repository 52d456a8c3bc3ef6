/- The law LocksSound. · The plain law behind LocksFirst: whom a step lets in, and what is left of each queue. · Who is stuck, as a law of the table's states: the greatest set of people each of whom waits for a lock that one of them holds. · The keys of a map, in rising order: maps.Keys, slices.AppendSeq, Collect, Sorted. · Who is stuck: somebody who holds something and does not wait. · The library's sorts and their like, laid at this program (by the kit's own command, in plain words). · Who is stuck: a table's copy. · Who is stuck: Stuck's walk. · LocksFirst: pointers into the rows; the rows in memory. · LocksFirst: what is left of each queue. · LocksFirst: one who was let in. · LocksFirst: a step that goes through, as the walk needs it. Plain law. · Rounds in which all who can leave do; who asks rising: the plain laws. · Who asks rising: what stays true when a step is done. · The law LocksRising. · The law LocksRising: the end. · The law LocksStuck: the rounds, the count. · The law LocksStuck: whom each of those who are stuck waits for. · The law LocksStuck. -/
import Derived.Test.YtacmnfpgimgigaaZ1
import Derived.Test.YtacmnfpgimgigaaZ2
import Derived.Test.YtacmnfpgimgigaaZ3
import Derived.Test.YtacmnfpgimgigaaZ4
import Derived.Test.YtacmnfpgimgigaaZ5
import Derived.Test.YtacmnfpgimgigaaZ6
import Derived.Test.YtacmnfpgimgigaaZ7
import Derived.Test.YtacmnfpgimgigaaZ8
import Derived.Test.YtacmnfpgimgigaaZ9
import Derived.Test.YtacmnfpgimgigaaZ10
import Derived.Test.YtacmnfpgimgigaaZ11
import Derived.Shelf.SlMaps.Clone
import Derived.Test.YtacmnfpgimgigaaProg
import Derived.KernelRfl
namespace Go.Proofs.Ytacmnfpgimgigaa
open Go
set_option linter.unusedSimpArgs false
set_option linter.unusedVariables false
set_option maxRecDepth 100000

theorem toldS_length (ls : List (Nam × LkS)) : (toldS ls).length ≤ 6 * (tot ls + 2) + 8 * (2 * ls.length + 1) := by
  have hbW : ∀ i, (toldW ls i).length ≤ 2 * ls.length + 1 := fun i => by
    have := toldN_length (heldS (1 + i) ls)
    have := heldS_length (1 + i) ls
    simp only [toldW, List.length_append, List.length_cons, List.length_nil]
    omega
  have h1 : (toldA ls 6).length ≤ 6 * (tot ls + 2) := flat_bound (toldK ls) (toldK_length ls) 6
  have h2 : (toldB ls 8).length ≤ 8 * (2 * ls.length + 1) := flat_bound (toldW ls) hbW 8
  simp only [toldS, List.length_append]
  omega

def In8 (l : List Claim) : Prop := ∀ c ∈ l, 1 ≤ c.1 ∧ c.1 ≤ 8
theorem Few.turn {ls : List (Nam × LkS)} {ws : List (Int × Nee)} (f : Few ls) (kn : (ls.map (·.1)).Nodup) {k : Nat} (hk : k < 6) {s : LkS} (h1 : In8 s.1) (h2 : In8 s.2) : Few (turnS (kN k) s ls ws).2.1 := by
  intro y t ht
  rw [turn_L kn] at ht
  obtain ⟨e1, e2⟩ := adm_spec s.1 s.2
  split at ht
  · rename_i hy
    split at ht
    · cases ht
    · simp only [Option.some.injEq] at ht
      subst ht
      refine ⟨⟨k, hk, hy⟩, fun c hc => ?_, fun c hc => ?_⟩
      · simp only at hc
        rw [e1] at hc
        rcases List.mem_append.1 hc with hc | hc
        · exact h1 c hc
        · exact h2 c (by rw [e2]; exact List.mem_append_left _ hc)
      · exact h2 c (by rw [e2]; exact List.mem_append_right _ hc)
  · exact f y t ht
theorem Few.free {ls : List (Nam × LkS)} {ws : List (Int × Nee)} (v : Inv ls ws) (f : Few ls) (who : Int) (x : Nam) : Few (freeS who x ls ws).2.1 := by
  cases hx : agt x ls with
  | none => rw [freeS_no (by simp [hx])]; exact f
  | some s =>
    rcases posC_spec who s.1 0 with hp | ⟨i, hi, hp⟩
    · rw [freeS_no (by intro s' hs'; rw [hx] at hs'; cases hs'; omega)]; exact f
    · rw [Nat.zero_add] at hp
      rw [freeS_turn hx hp]
      obtain ⟨⟨k, hk, rfl⟩, h1, h2⟩ := f _ _ hx
      exact f.turn v.kn hk (fun c hc => h1 c ((List.eraseIdx_sublist _ _).subset hc)) h2
theorem Few.leave1 {ls : List (Nam × LkS)} {ws : List (Int × Nee)} (v : Inv ls ws) (f : Few ls) (who : Int) : Few (leave1 who ls ws).2.1 := by
  unfold Go.Proofs.Ytacmnfpgimgigaa.leave1
  split
  · exact f
  rename_i n hn
  split
  · exact f
  rename_i s hs
  obtain ⟨⟨k, hk, hx⟩, h1, h2⟩ := f _ _ hs
  rw [hx]
  exact f.turn v.kn hk h1 fun c hc => h2 c (List.mem_filter.1 hc).1
theorem Few.leaveL (who : Int) : ∀ (L : List Nee) {ls : List (Nam × LkS)} {ws : List (Int × Nee)}, Inv ls ws → Few ls → Few (leaveL who L ls ws).2.1
  | [], _, _, _, f => f
  | n :: L, _, _, v, f => Few.leaveL who L (v.free who n.1) (Few.free v f who n.1)
theorem Few.ask {ls : List (Nam × LkS)} {ws : List (Int × Nee)} (f : Few ls) {who : Int} (hw : 1 ≤ who ∧ who ≤ 8) {k : Nat} (hk : k < 6) (a : Bool) : Few (askS who (kN k, a) ls ws).2.1 := by
  unfold askS
  split
  · exact f
  have hs : In8 ((agt (kN k) ls).getD ([], [])).1 ∧ In8 ((agt (kN k) ls).getD ([], [])).2 := by
    cases h : agt (kN k) ls with
    | none => exact ⟨fun c hc => (by cases hc), fun c hc => (by cases hc)⟩
    | some s => exact (f _ _ h).2
  simp only
  generalize (agt (kN k) ls).getD ([], []) = s at hs
  intro y t ht
  rw [agt_aset_if] at ht
  split at ht
  · rename_i hy
    simp only [Option.some.injEq] at ht
    subst ht
    refine ⟨⟨k, hk, hy⟩, ?_⟩
    have happ : ∀ l, In8 l → In8 (l ++ [(who, a)]) := fun l hl c hc => by
      rcases List.mem_append.1 hc with hc | hc
      · exact hl c hc
      · simp only [List.mem_singleton] at hc; subst hc; exact hw
    unfold askT
    split
    · exact hs
    · split
      · exact ⟨happ _ hs.1, hs.2⟩
      · exact ⟨hs.1, happ _ hs.2⟩
  · exact f y t ht
theorem mvWho_range (m : Mv) : 1 ≤ mvWho m ∧ mvWho m ≤ 8 := by have := pickI_range (c := m.2.1) (n := 8) (by decide); unfold mvWho; omega
theorem mvLock_kN (m : Mv) : ∃ k : Nat, k < 6 ∧ mvLock m = kN k := by
  have := pickI_range (c := m.2.2.1) (n := 6) (by decide)
  refine ⟨(pickI m.2.2.1 6).toNat, by omega, ?_⟩
  unfold mvLock kN
  rw [Int.toNat_of_nonneg this.1]
theorem Few.move {ls : List (Nam × LkS)} {ws : List (Int × Nee)} (v : Inv ls ws) (f : Few ls) (m : Mv) : Few (moveS m ls ws).2.1 := by
  obtain ⟨k, hk, hm⟩ := mvLock_kN m
  unfold moveS
  rw [hm]
  split
  · exact f.ask (mvWho_range m) hk _
  · split
    · exact Few.free v f _ _
    · exact Few.leaveL _ _ (v.leave1 _) (Few.leave1 v f _)

section
attribute [local go_sem] F6.t9_eq F6.t10_eq F6.t17_eq F6.t7_eq F6.t3_eq
theorem soundLaw_main {w0 w : World} {F : HP} {v0 : Value} {ms : List Mv} {e : FA} (h : St w0 F w) (hr : Ent F (Reads 4 v0 ms.length (ms.flatMap mvC))) (hm : ∀ m ∈ ms, MvOk m) (hlen : ms.length ≤ 1048576) (hd : e.ds = []) (e0 : e.ρ 0 = v0) :
    cwE Try.prog F6.t3 (fnP Try.prog #[.tmp 2] fun e w' => St w0 F w' ∧ e = .returned (.bool true)) e w := by
  obtain ⟨_, a, c, rfl, hnc, _⟩ := St.rowsAt (k := 4) mvC_length (by decide) (h.ent hr)
  rw [F6.t3_eq]
  simp -dsimp -implicitDefEqProofs (disch := omega) only [go_sem, reqD_of, dec_t, dec_f, wrap_i64, wrap_u32, wrap_u64, wrap_u8, hd, e0]
  refine (known_any h).mono ?_
  rintro e' w1 ⟨h1, rfl⟩
  simp -dsimp -implicitDefEqProofs (disch := omega) only [go_sem, reqD_of, dec_t, dec_f, wrap_i64, wrap_u32, wrap_u64, wrap_u8, hd, e0]
  refine (new_any h1).mono ?_
  rintro e' w2 ⟨B, h2, rfl⟩
  simp -dsimp -implicitDefEqProofs (disch := omega) only [go_sem, reqD_of, dec_t, dec_f, wrap_i64, wrap_u32, wrap_u64, wrap_u8, hd, e0]
  refine loop_intro (fun e w' => e.ds = [] ∧ e.ρ 0 = .slice a ms.length c ∧ e.ρ 4 = .pointer (some ⟨B, 0, none⟩) ∧ ∃ (i : Nat) (ls : List (Nam × LkS)) (ws : List (Int × Nee)), i ≤ ms.length ∧ e.ρ 5 = .int .i64 i ∧ Inv ls ws ∧ Few ls ∧ tot ls ≤ i ∧ ls.length ≤ i ∧ St w0 (TabP B ls ws * F) w')
    (fun e _ => match e.ρ 5 with | .int _ n => (ms.length - n).toNat | _ => 0) ?_ ?_
  · exact ⟨by simp -dsimp -implicitDefEqProofs only [go_sem, hd], by simp -dsimp -implicitDefEqProofs only [go_sem, e0], by simp -dsimp -implicitDefEqProofs only [go_sem], 0, [], [], by omega, by simp -dsimp -implicitDefEqProofs only [go_sem], Inv.start, fun x s hx => (by cases hx), by simp [tot], by simp, h2⟩
  rintro e w3 ⟨hd, e0, e4, i, ls, ws, hi, e5, v, f, hT, hL, h3⟩
  by_cases hlt : (i : Int) < ms.length
  case neg =>
    have : i = ms.length := by omega
    subst this
    simp -dsimp -implicitDefEqProofs (disch := omega) only [go_sem, reqD_of, dec_t, dec_f, wrap_i64, wrap_u32, wrap_u64, wrap_u8, hd, e0, e4, e5, hlt]
    exact h3.right
  have hil : i < ms.length := by omega
  simp -dsimp -implicitDefEqProofs (disch := omega) only [go_sem, reqD_of, dec_t, dec_f, wrap_i64, wrap_u32, wrap_u64, wrap_u8, hd, e0, e4, e5, hlt]
  refine (told_any h3 (by omega) (by omega)).mono ?_
  rintro e' w4 ⟨v1, h4, rfl⟩
  obtain ⟨_, _, _, hv, _, hcl⟩ := St.rowsAt (k := 4) mvC_length (by decide) (h4.right.right.ent hr)
  simp only [Value.slice.injEq, true_and] at hv
  obtain ⟨rfl, rfl⟩ := hv
  obtain ⟨g, o, rfl, hrow, hcell⟩ := hcl i hil
  have c0 := hcell 0 (by decide)
  have c1 := hcell 1 (by decide)
  have c2 := hcell 2 (by decide)
  have c3 := hcell 3 (by decide)
  have hmi := hm ms[i] (List.getElem_mem hil)
  generalize ms[i] = m at c0 c1 c2 c3 hmi
  simp only [mvC, Nat.add_zero, List.getElem?_cons_succ, List.getElem?_cons_zero] at c0 c1 c2 c3
  simp -dsimp -implicitDefEqProofs (disch := omega) only [go_sem, reqD_of, dec_t, dec_f, wrap_i64, wrap_u32, wrap_u64, wrap_u8, hd, e0, e4, e5, c0, c1, c2, c3]
  obtain ⟨⟨⟨l, ok⟩, ls', ws'⟩, hR⟩ : ∃ y, moveS m ls ws = y := ⟨_, rfl⟩
  have v' := v.move m
  have f' := Few.move v f m
  have ht' := move_tot m ls ws
  have hrf : ok = false → ls' = ls := fun h0 => by
    have := move_refused (m := m) (ls := ls) (ws := ws) (by rw [hR]; exact h0)
    rw [hR] at this
    simp only [Prod.mk.injEq] at this
    exact this.1
  rw [hR] at v' f' ht'
  simp only at v' f' ht'
  refine (move_any hR hmi (h4.take (.obj B)) (fun n hn => by obtain ⟨s, hs, _⟩ := v.wq _ _ _ hn; exact ⟨s, hs⟩) (by omega) (by omega)).mono ?_
  rintro e' w5 ⟨v2, h5, rfl⟩
  simp -dsimp -implicitDefEqProofs (disch := omega) only [go_sem, reqD_of, dec_t, dec_f, wrap_i64, wrap_u32, wrap_u64, wrap_u8, hd, e0, e4, e5]
  refine (told_any (h5.take (.obj B)) (by omega) (by omega)).mono ?_
  rintro e' w6 ⟨v3, h6, rfl⟩
  simp -dsimp -implicitDefEqProofs (disch := omega) only [go_sem, reqD_of, dec_t, dec_f, wrap_i64, wrap_u32, wrap_u64, wrap_u8, hd, e0, e4, e5]
  refine (sameInts_any (va := v1) (vb := v3) (na := (toldS ls).length) (nb := (toldS ls').length) (xs := toldS ls) (ys := toldS ls') h6 Gives.ent Gives.ent ?_).mono ?_
  · have := toldS_length ls; omega
  rintro e' w7 ⟨h7, rfl⟩
  simp -dsimp -implicitDefEqProofs (disch := omega) only [go_sem, reqD_of, dec_t, dec_f, wrap_i64, wrap_u32, wrap_u64, wrap_u8, hd, e0, e4, e5]
  refine (sound_any v' f' (by omega) (by omega) (h7.take (.obj B))).mono ?_
  rintro e' w8 ⟨h8, rfl⟩
  have hfin : St w0 (TabP B ls' ws' * F) w8 := h8.sub
  cases ok
  · obtain rfl := hrf rfl
    simp -dsimp -implicitDefEqProofs (disch := omega) only [go_sem, reqD_of, dec_t, dec_f, wrap_i64, wrap_u32, wrap_u64, wrap_u8, hd, e0, e4, e5]
    exact ⟨⟨i + 1, ls', ws', by omega, by omega, v', f', by omega, by omega, hfin⟩, by omega⟩
  · simp -dsimp -implicitDefEqProofs (disch := omega) only [go_sem, reqD_of, dec_t, dec_f, wrap_i64, wrap_u32, wrap_u64, wrap_u8, hd, e0, e4, e5]
    exact ⟨⟨i + 1, ls', ws', by omega, by omega, v', f', by omega, by omega, hfin⟩, by omega⟩

end
section
attribute [local go_sem] F6.t9_eq F6.t10_eq F6.t17_eq F6.t7_eq
theorem locksSound_any {w0 w : World} {F : HP} {v0 : Value} {ms : List Mv} (h : St w0 F w) (hr : Ent F (Reads 4 v0 ms.length (ms.flatMap mvC))) (hm : ∀ m ∈ ms, MvOk m) :
    Calls Try.prog 6 #[v0] w fun e w' => St w0 F w' ∧ e = .returned (.bool true) := by
  obtain ⟨_, a, c, rfl, hnc, _⟩ := St.rowsAt (k := 4) mvC_length (by decide) (h.ent hr)
  refine F6.calls (by simp) ?_
  unfold F6.code
  by_cases hlt : (1048576 : Int) < ms.length
  · simp -dsimp -implicitDefEqProofs (disch := omega) only [go_sem, reqD_of, dec_t, dec_f, wrap_i64, wrap_u32, wrap_u64, wrap_u8, hlt]
    have h2 := hr.trans (Reads.takeK (k := 1048576) (by omega))
    rw [flatMap_take mvC_length] at h2
    have hl : (ms.take 1048576).length = 1048576 := by rw [List.length_take]; omega
    exact soundLaw_main (ms := ms.take 1048576) (v0 := .slice (if c = 0 then a else Option.map (fun x => x) a) 1048576 (c - 0)) h (by rw [hl]; exact h2) (fun m hm' => hm m (List.mem_of_mem_take hm')) (by omega) (by simp -dsimp -implicitDefEqProofs only [go_sem]) (by simp -dsimp -implicitDefEqProofs only [go_sem])
  · simp -dsimp -implicitDefEqProofs (disch := omega) only [go_sem, reqD_of, dec_t, dec_f, wrap_i64, wrap_u32, wrap_u64, wrap_u8, hlt]
    exact soundLaw_main h hr hm (by omega) (by simp -dsimp -implicitDefEqProofs only [go_sem]) (by simp -dsimp -implicitDefEqProofs only [go_sem])

/-! ### The moves, as an argument -/
def rMv : Rdr (Int × Int × Int × Bool × Unit) := rCons 1 (rInt .i64) (rCons 1 (rInt .i64) (rCons 1 (rInt .i64) (rCons 1 rBool rEnd)))
def mvOf (x : Int × Int × Int × Bool × Unit) : Mv := (x.1, x.2.1, x.2.2.1, x.2.2.2.1)
theorem rMv_cells {x : Int × Int × Int × Bool × Unit} {cs : List Value} {h : Heap} (r : rMv.rel x cs h) : cs = mvC (mvOf x) ∧ MvOk (mvOf x) := by
  obtain ⟨_, _, rfl, _, ⟨rfl, w1⟩, _, _, rfl, _, ⟨rfl, w2⟩, _, _, rfl, _, ⟨rfl, w3⟩, _, _, rfl, _, rfl, rfl⟩ := r
  exact ⟨rfl, i64_bounds w1, i64_bounds w2, i64_bounds w3⟩
theorem mv_arg {b : Nat} {xs : List (Int × Int × Int × Bool × Unit)} {v : Value} {W : World} (c : (rSlice 4 b rMv).rel xs [v] (heapOf W)) : ∃ ms : List Mv, (∀ m ∈ ms, MvOk m) ∧ Ent (Old W) (Reads 4 v ms.length (ms.flatMap mvC)) := by
  refine ⟨xs.map mvOf, fun m hm => ?_, ?_⟩
  · obtain ⟨x, hx, rfl⟩ := List.mem_map.1 hm
    obtain ⟨a, cap, e, l, _, _, k⟩ := c
    rcases k with k | ⟨g, o, cur, T, fr, ea, hg, hj⟩
    · subst k; cases hx
    · obtain ⟨j, hj', rfl⟩ := List.getElem_of_mem hx
      exact (rMv_cells (hj j hj').2).2
  · have h1 := (Rdr.old (w0 := W) c).trans (rSlice_reads (s := 4) (R := rMv) (enc := fun x => mvC (mvOf x)) (fun x cs h r => (rMv_cells r).1) (fun x => rfl))
    rw [List.length_map, List.flatMap_map]
    exact h1

end
end Go.Proofs.Ytacmnfpgimgigaa

namespace Go.Proofs.Ytacmnfpgimgigaa
open Go
set_option linter.unusedSimpArgs false
set_option linter.unusedVariables false
set_option maxRecDepth 100000

theorem erase_notWho {who : Int} : ∀ {l : List Claim} {i : Nat}, (l.map (·.1)).Nodup → posC who l 0 = i → i < l.length → l.eraseIdx i = notWho who l := by
  intro l
  have key : ∀ {l : List Claim} {k i : Nat}, (l.map (·.1)).Nodup → posC who l k = ((k + i : Nat) : Int) → i < l.length → l.eraseIdx i = notWho who l := by
    intro l
    induction l with
    | nil => intro k i _ _ hi; simp at hi
    | cons c l ih =>
      intro k i hn h hi
      simp only [List.map_cons, List.nodup_cons] at hn
      simp only [posC] at h
      split at h
      · rename_i hc
        have : i = 0 := by omega
        subst this
        have : notWho who l = l := by
          unfold notWho
          rw [List.filter_eq_self]
          intro d hd
          simp only [Bool.not_eq_true', decide_eq_false_iff_not]
          intro e
          exact hn.1 (by rw [hc, ← e]; exact List.mem_map.2 ⟨d, hd, rfl⟩)
        simp only [notWho] at this
        simp [notWho, hc, this]
      · rename_i hc
        cases i with
        | zero => rcases posC_spec who l (k + 1) with h' | ⟨m, _, h'⟩ <;> omega
        | succ i =>
          have := ih (k := k + 1) (i := i) hn.2 (by rw [h]; omega) (by simpa using hi)
          simp only [notWho] at this
          simp [notWho, hc, this]
  intro i hn h hi
  exact key (k := 0) hn (by simpa using h) hi
theorem notWho_id {who : Int} {l : List Claim} (h : who ∉ l.map (·.1)) : notWho who l = l := by
  unfold notWho
  rw [List.filter_eq_self]
  intro d hd
  simp only [Bool.not_eq_true', decide_eq_false_iff_not]
  intro e
  exact h (e ▸ List.mem_map.2 ⟨d, hd, rfl⟩)
theorem notWho_mem {who : Int} {l : List Claim} {c : Claim} : c ∈ notWho who l ↔ c ∈ l ∧ c.1 ≠ who := by unfold notWho; rw [List.mem_filter]; simp
theorem notWho_map (who : Int) (l : List Claim) : (notWho who l).map (·.1) = (l.map (·.1)).filter fun a => !decide (a = who) := by unfold notWho; rw [List.filter_map]; rfl

/-- A free that goes through, as a turn. -/
theorem freeS_held {who : Int} {x : Nam} {ls : List (Nam × LkS)} {ws : List (Int × Nee)} {s : LkS} (v : Inv ls ws) (h : agt x ls = some s) (hw : who ∈ s.1.map (·.1)) :
    freeS who x ls ws = (((turnS x (notWho who s.1, s.2) ls ws).1, 0), (turnS x (notWho who s.1, s.2) ls ws).2) := by
  have h0 := (posC_mem (l := s.1) (k := 0)).2 hw
  rcases posC_spec who s.1 0 with hp | ⟨i, hi, hp⟩
  · omega
  · rw [Nat.zero_add] at hp
    rw [freeS_turn h hp, erase_notWho (v.ok _ _ h).hn hp hi]

theorem turn_W {x : Nam} {s : LkS} {ls : List (Nam × LkS)} {ws : List (Int × Nee)} (hn : (ws.map (·.1)).Nodup) (w : Int) : agt w (turnS x s ls ws).2.2 = if w ∈ (turnS x s ls ws).1.map (·.1) then none else agt w ws := (delAll_agt _ w hn).1

/-- One who lets go of these, all held: lock by lock. -/
theorem leaveL_spec (who : Int) : ∀ (L : List Nee) {ls : List (Nam × LkS)} {ws : List (Int × Nee)}, Inv ls ws → (L.map (·.1)).Nodup → (∀ n ∈ L, ∃ s, agt n.1 ls = some s ∧ who ∈ s.1.map (·.1)) →
    (∀ y, y ∉ L.map (·.1) → agt y (leaveL who L ls ws).2.1 = agt y ls) ∧
    (∀ n ∈ L, ∀ s, agt n.1 ls = some s → agt n.1 (leaveL who L ls ws).2.1 = if (adm (notWho who s.1) s.2).1 = [] then none else some ((adm (notWho who s.1) s.2).1, (adm (notWho who s.1) s.2).2.1)) ∧
    (leaveL who L ls ws).1 = L.flatMap (fun n => match agt n.1 ls with | some s => (adm (notWho who s.1) s.2).2.2 | none => []) ∧
    (∀ w, w ∈ (leaveL who L ls ws).1.map (·.1) → agt w (leaveL who L ls ws).2.2 = none) ∧ (∀ w, w ∉ (leaveL who L ls ws).1.map (·.1) → agt w (leaveL who L ls ws).2.2 = agt w ws)
  | [], ls, ws, v, _, _ => ⟨fun y _ => rfl, fun n hn => by (cases hn), rfl, fun w h => by (cases h), fun w _ => rfl⟩
  | n :: L, ls, ws, v, hn, hh => by
    obtain ⟨s, hs, hws⟩ := hh n (by simp)
    simp only [List.map_cons, List.nodup_cons] at hn
    have hf := freeS_held v hs hws
    have v1 := v.free who n.1
    have hL1 := turn_L (x := n.1) (s := (notWho who s.1, s.2)) (ws := ws) v.kn
    have hW1 := turn_W (x := n.1) (s := (notWho who s.1, s.2)) (ls := ls) v.wn
    have htl : (turnS n.1 (notWho who s.1, s.2) ls ws).1 = (adm (notWho who s.1) s.2).2.2 := rfl
    have hsame : ∀ m ∈ L, agt m.1 (freeS who n.1 ls ws).2.1 = agt m.1 ls := fun m hm => by
      rw [hf]
      simp only
      rw [hL1, if_neg]
      intro e
      exact hn.1 (e ▸ List.mem_map.2 ⟨m, hm, rfl⟩)
    obtain ⟨i1, i2, i3, i4, i5⟩ := leaveL_spec who L v1 hn.2 (fun m hm => by rw [hsame m hm]; exact hh m (by simp [hm]))
    simp only [leaveL]
    refine ⟨fun y hy => ?_, fun m hm t ht => ?_, ?_, fun w hw => ?_, fun w hw => ?_⟩
    · simp only [List.map_cons, List.mem_cons, not_or] at hy
      rw [i1 y hy.2, hf]
      simp only
      rw [hL1, if_neg hy.1]
    · rcases List.mem_cons.1 hm with rfl | hm
      · rw [i1 _ hn.1, hf]
        simp only
        rw [hL1, if_pos rfl]
        rw [hs] at ht
        simp only [Option.some.injEq] at ht
        subst ht
        rfl
      · exact i2 m hm t (by rw [hsame m hm]; exact ht)
    · rw [i3, List.flatMap_cons, hs]
      congr 1
      · rw [hf]; rfl
      · have : ∀ (M : List Nee), (∀ m ∈ M, agt m.1 (freeS who n.1 ls ws).2.1 = agt m.1 ls) → M.flatMap (fun n_1 => match agt n_1.1 (freeS who n.1 ls ws).2.1 with | some s => (adm (notWho who s.1) s.2).2.2 | none => []) = M.flatMap (fun n_1 => match agt n_1.1 ls with | some s => (adm (notWho who s.1) s.2).2.2 | none => []) := by
          intro M hM
          induction M with
          | nil => rfl
          | cons m M ih => rw [List.flatMap_cons, List.flatMap_cons, hM m (by simp), ih fun k hk => hM k (by simp [hk])]
        exact this L hsame
    · by_cases h2 : w ∈ (leaveL who L (freeS who n.1 ls ws).2.1 (freeS who n.1 ls ws).2.2).1.map (·.1)
      · exact i4 w h2
      · rw [i5 w h2, hf]
        simp only
        have h3 : w ∈ (turnS n.1 (notWho who s.1, s.2) ls ws).1.map (·.1) := by
          rw [List.map_append, List.mem_append] at hw
          rcases hw with h | h
          · rw [hf] at h; exact h
          · exact absurd h h2
        rw [hW1, if_pos h3]
    · rw [List.map_append, List.mem_append, not_or] at hw
      rw [i5 w hw.2]
      have h3 : w ∉ (turnS n.1 (notWho who s.1, s.2) ls ws).1.map (·.1) := by
        have := hw.1
        rw [hf] at this; exact this
      rw [hf]
      simp only
      rw [hW1, if_neg h3]

theorem adm_id {s : LkS} (h : ∀ c q, s.2 = c :: q → letsB s.1 c.2 = false) : adm s.1 s.2 = (s.1, s.2, []) := by
  obtain ⟨hs, q⟩ := s
  cases q with
  | nil => simp [adm]
  | cons c q => exact adm_stop (h c q rfl)

/-- Whom a lock lets in when somebody leaves. -/
def admL (who : Int) (ls : List (Nam × LkS)) (y : Nam) : List Claim := match agt y ls with
  | some s => (adm (notWho who s.1) (notWho who s.2)).2.2
  | none => []
def stripL (who : Int) (ls : List (Nam × LkS)) (y : Nam) : Option LkS := match agt y ls with
  | some s => if (adm (notWho who s.1) (notWho who s.2)).1 = [] then none else some ((adm (notWho who s.1) (notWho who s.2)).1, (adm (notWho who s.1) (notWho who s.2)).2.1)
  | none => none

theorem heldS_names (who : Int) {ls : List (Nam × LkS)} (hn : (ls.map (·.1)).Nodup) : ((heldS who ls).map (·.1)).Nodup := by
  unfold heldS
  exact ((List.mergeSort_perm _ _).map _).nodup_iff.2 ((heldL_names who ls).nodup hn)
theorem heldS_iff {ls : List (Nam × LkS)} {ws : List (Int × Nee)} (v : Inv ls ws) {who : Int} {y : Nam} : y ∈ (heldS who ls).map (·.1) ↔ ∃ s, agt y ls = some s ∧ who ∈ s.1.map (·.1) := by
  constructor
  · intro h
    obtain ⟨n, hn, rfl⟩ := List.mem_map.1 h
    obtain ⟨s, hs, hm⟩ := (mem_heldS v).1 hn
    exact ⟨s, hs, List.mem_map.2 ⟨_, hm, rfl⟩⟩
  · rintro ⟨s, hs, hm⟩
    obtain ⟨c, hc, rfl⟩ := List.mem_map.1 hm
    exact List.mem_map.2 ⟨(y, c.2), (mem_heldS v).2 ⟨s, hs, hc⟩, rfl⟩

theorem leave_spec {ls : List (Nam × LkS)} {ws : List (Int × Nee)} (v : Inv ls ws) (who : Int) : ∃ ord : List Nam, ord.Nodup ∧ (leaveS who ls ws).1 = ord.flatMap (admL who ls) ∧ (∀ y, y ∉ ord → admL who ls y = []) ∧
    (∀ y, agt y (leaveS who ls ws).2.1 = stripL who ls y) ∧ (∀ w, (w = who ∨ w ∈ (leaveS who ls ws).1.map (·.1)) → agt w (leaveS who ls ws).2.2 = none) ∧ ∀ w, w ≠ who → w ∉ (leaveS who ls ws).1.map (·.1) → agt w (leaveS who ls ws).2.2 = agt w ws := by
  have v1 := v.leave1 who
  -- behind the first step
  have h1 : ∃ o1 : List Nam, o1.Nodup ∧ (leave1 who ls ws).1 = o1.flatMap (admL who ls) ∧ (∀ y, y ∉ o1 → agt y (leave1 who ls ws).2.1 = agt y ls) ∧ (∀ y, y ∈ o1 → agt y (leave1 who ls ws).2.1 = stripL who ls y ∧ ∀ s, agt y (leave1 who ls ws).2.1 = some s → who ∉ s.1.map (·.1)) ∧
      (∀ w, (w = who ∨ w ∈ (leave1 who ls ws).1.map (·.1)) → agt w (leave1 who ls ws).2.2 = none) ∧ (∀ w, w ≠ who → w ∉ (leave1 who ls ws).1.map (·.1) → agt w (leave1 who ls ws).2.2 = agt w ws) ∧ ∀ y s, y ∉ o1 → agt y ls = some s → who ∉ s.2.map (·.1) := by
    cases hw : agt who ws with
    | none =>
      have e : leave1 who ls ws = ([], ls, ws) := by simp [leave1, hw]
      rw [e]
      refine ⟨[], .nil, rfl, fun y _ => rfl, fun y hy => by (cases hy), fun w h => ?_, fun w _ _ => rfl, fun y s _ hs hm => ?_⟩
      · rcases h with h | h
        · rw [h]; exact hw
        · cases h
      · obtain ⟨c, hc, rfl⟩ := List.mem_map.1 hm
        have := v.qw y s c.1 c.2 hs hc
        rw [hw] at this; cases this
    | some n =>
      obtain ⟨s, hs, hm⟩ := v.wq who n.1 n.2 hw
      have e : leave1 who ls ws = turnS n.1 (s.1, notWho who s.2) ls (adel who ws) := by simp [leave1, hw, hs]
      have hno : who ∉ s.1.map (·.1) := (v.ok _ _ hs).dj _ hm
      have hL := turn_L (x := n.1) (s := (s.1, notWho who s.2)) (ws := adel who ws) v.kn
      have hW := turn_W (x := n.1) (s := (s.1, notWho who s.2)) (ls := ls) (adel_nodup (x := who) v.wn)
      have htl : (turnS n.1 (s.1, notWho who s.2) ls (adel who ws)).1 = (adm s.1 (notWho who s.2)).2.2 := rfl
      have hadm : admL who ls n.1 = (adm s.1 (notWho who s.2)).2.2 := by simp only [admL, hs]; rw [notWho_id hno]
      rw [e]
      refine ⟨[n.1], by simp, by rw [htl]; simp [hadm], fun y hy => ?_, fun y hy => ?_, fun w h => ?_, fun w h1 h2 => ?_, fun y t hy ht hm2 => ?_⟩
      · rw [hL, if_neg (by simpa using hy)]
      · simp only [List.mem_singleton] at hy
        subst hy
        rw [hL, if_pos rfl]
        refine ⟨by simp only [stripL, hs]; rw [notWho_id hno], fun t ht hm2 => ?_⟩
        split at ht
        · cases ht
        · simp only [Option.some.injEq] at ht
          subst ht
          obtain ⟨a1, a2⟩ := adm_spec s.1 (notWho who s.2)
          simp only at hm2
          rw [a1, List.map_append, List.mem_append] at hm2
          rcases hm2 with h | h
          · exact hno h
          · obtain ⟨c, hc, rfl⟩ := List.mem_map.1 h
            have : c ∈ notWho c.1 s.2 := by rw [a2]; exact List.mem_append_left _ hc
            exact (notWho_mem.1 this).2 rfl
      · by_cases h2 : w ∈ (turnS n.1 (s.1, notWho who s.2) ls (adel who ws)).1.map (·.1)
        · rw [hW, if_pos h2]
        · rw [hW, if_neg h2, agt_adel_if v.wn, if_pos (h.resolve_right h2)]
      · rw [hW, if_neg h2, agt_adel_if v.wn, if_neg h1]
      · simp only [List.mem_singleton] at hy
        obtain ⟨c, hc, rfl⟩ := List.mem_map.1 hm2
        have := v.qw y t c.1 c.2 ht hc
        rw [hw] at this
        simp only [Option.some.injEq] at this
        exact hy (by rw [this])
  obtain ⟨o1, hn1, e1, k1, k2, k3, k5, k4⟩ := h1
  unfold leaveS
  generalize leave1 who ls ws = r1 at v1 e1 k1 k2 k3 k5 ⊢
  obtain ⟨l1, ls1, ws1⟩ := r1
  simp only at v1 e1 k1 k2 k3 k5 ⊢
  have hH := heldS_names who v1.kn
  obtain ⟨i1, i2, i3, i4, i5⟩ := leaveL_spec who (heldS who ls1) v1 hH (fun n hn => (heldS_iff v1).1 (List.mem_map.2 ⟨n, hn, rfl⟩))
  have hdis : ∀ y ∈ (heldS who ls1).map (·.1), y ∉ o1 := fun y hy ho => by
    obtain ⟨s, hs, hm⟩ := (heldS_iff v1).1 hy
    exact (k2 y ho).2 s hs hm
  have hheld : ∀ y ∈ (heldS who ls1).map (·.1), ∃ s, agt y ls1 = some s ∧ agt y ls = some s ∧ notWho who s.2 = s.2 := fun y hy => by
    obtain ⟨s, hs, hm⟩ := (heldS_iff v1).1 hy
    have h2 : agt y ls = some s := by rw [← k1 y (hdis y hy)]; exact hs
    exact ⟨s, hs, h2, notWho_id (k4 y s (hdis y hy) h2)⟩
  have hrest : ∀ y, y ∉ o1 → y ∉ (heldS who ls1).map (·.1) → ∀ s, agt y ls = some s → adm (notWho who s.1) (notWho who s.2) = (s.1, s.2, []) := fun y h1 h2 s hs => by
    have hno : who ∉ s.1.map (·.1) := fun hm => h2 ((heldS_iff v1).2 ⟨s, by rw [k1 y h1]; exact hs, hm⟩)
    rw [notWho_id hno, notWho_id (k4 y s h1 hs)]
    exact adm_id fun c q h => v.hd y s c q hs h
  refine ⟨o1 ++ (heldS who ls1).map (·.1), ?_, ?_, fun y hy => ?_, fun y => ?_, fun w h => ?_, fun w h1 h2 => ?_⟩
  · rw [List.nodup_append]
    exact ⟨hn1, hH, fun a ha b hb => by rintro rfl; exact hdis a hb ha⟩
  · rw [e1, i3, List.flatMap_append, List.flatMap_map]
    congr 1
    have : ∀ (M : List Nee), (∀ m ∈ M, m.1 ∈ (heldS who ls1).map (·.1)) → M.flatMap (fun n => match agt n.1 ls1 with | some s => (adm (notWho who s.1) s.2).2.2 | none => []) = M.flatMap (fun n => admL who ls n.1) := by
      intro M hM
      induction M with
      | nil => rfl
      | cons m M ih =>
        obtain ⟨s, hs1, hs2, hq⟩ := hheld m.1 (hM m (by simp))
        rw [List.flatMap_cons, List.flatMap_cons, ih fun k hk => hM k (by simp [hk])]
        congr 1
        simp only [admL, hs1, hs2, hq]
    exact this _ fun m hm => List.mem_map.2 ⟨m, hm, rfl⟩
  · rw [List.mem_append, not_or] at hy
    simp only [admL]
    split
    · rename_i s hs
      rw [hrest y hy.1 hy.2 s hs]
    · rfl
  · by_cases hy : y ∈ (heldS who ls1).map (·.1)
    · obtain ⟨s, hs1, hs2, hq⟩ := hheld y hy
      obtain ⟨n, hn, rfl⟩ := List.mem_map.1 hy
      rw [i2 n hn s hs1]
      simp only [stripL, hs2, hq]
    · rw [i1 y hy]
      by_cases ho : y ∈ o1
      · exact (k2 y ho).1
      · rw [k1 y ho]
        simp only [stripL]
        split
        · rename_i s hs
          rw [hrest y ho hy s hs]
          simp only [hs]
          rw [if_neg (v.ne y s hs)]
        · rename_i hs
          exact hs
  · by_cases h3 : w ∈ (leaveL who (heldS who ls1) ls1 ws1).1.map (·.1)
    · exact i4 w h3
    · rw [i5 w h3]
      refine k3 w ?_
      rcases h with h | h
      · exact .inl h
      · rw [List.map_append, List.mem_append] at h
        exact .inr (h.resolve_right h3)
  · rw [List.map_append, List.mem_append, not_or] at h2
    rw [i5 w h2.2, k5 w h1 h2.1]

/-! ### A step, as what the law asks of it -/
def lockIs (ws : List (Int × Nee)) (y : Nam) (c : Claim) : Bool := decide ((agt c.1 ws).map (·.1) = some y)

structure Moved (gone : Int) (lv : Bool) (ls : List (Nam × LkS)) (ws : List (Int × Nee)) (l : List Claim) (ls' : List (Nam × LkS)) (ws' : List (Int × Nee)) : Prop where
  who : ∀ c ∈ l, c.1 ≠ gone ∧ agt c.1 ws' = none ∧ ∃ y, agt c.1 ws = some (y, c.2) ∧ ∃ s', agt y ls' = some s' ∧ c ∈ s'.1
  row : ∀ y, ((queueS y ls).filter fun a => !decide (a = gone)) = (l.filter (lockIs ws y)).map (·.1) ++ ((queueS y ls').filter fun a => !decide (a = gone))
  lvt : lv = true → ∀ y, gone ∉ queueS y ls'
  lvf : lv = false → ∀ y, (l.filter (lockIs ws y) = [] → queueS y ls' = queueS y ls) ∧ (l.filter (lockIs ws y) ≠ [] → gone ∉ queueS y ls ∧ gone ∉ queueS y ls')

theorem flat_filter {y : Nam} {p : Claim → Bool} {f : Nam → List Claim} : ∀ {ord : List Nam}, ord.Nodup → (∀ z ∈ ord, ∀ c ∈ f z, p c = decide (z = y)) → (ord.flatMap f).filter p = if y ∈ ord then f y else []
  | [], _, _ => by simp
  | z :: ord, hn, h => by
    have hn' := List.nodup_cons.1 hn
    have ih := flat_filter (y := y) hn'.2 fun z' hz' => h z' (by simp [hz'])
    rw [List.flatMap_cons, List.filter_append, ih]
    by_cases hz : z = y
    · subst hz
      have e : (f z).filter p = f z := by
        rw [List.filter_eq_self]
        intro c hc
        rw [h z (by simp) c hc]; simp
      rw [e, if_neg hn'.1]
      simp
    · have e : (f z).filter p = [] := by
        rw [List.filter_eq_nil_iff]
        intro c hc
        rw [h z (by simp) c hc]; simp [hz]
      rw [e]
      by_cases hy : y ∈ ord
      · simp [hy]
      · rw [if_neg hy, if_neg]
        · rfl
        · simp only [List.mem_cons, not_or]
          exact ⟨Ne.symm hz, hy⟩

theorem admL_in {ls : List (Nam × LkS)} {ws : List (Int × Nee)} (v : Inv ls ws) {who : Int} {y : Nam} {c : Claim} (h : c ∈ admL who ls y) : c.1 ≠ who ∧ agt c.1 ws = some (y, c.2) := by
  simp only [admL] at h
  split at h
  · rename_i s hs
    have h2 := (adm_spec (notWho who s.1) (notWho who s.2)).2
    have h3 : c ∈ notWho who s.2 := by rw [h2]; exact List.mem_append_left _ h
    have := notWho_mem.1 h3
    exact ⟨this.2, v.qw _ _ _ _ hs this.1⟩
  · cases h
theorem admL_lock {ls : List (Nam × LkS)} {ws : List (Int × Nee)} (v : Inv ls ws) {who : Int} {y z : Nam} {c : Claim} (h : c ∈ admL who ls z) : lockIs ws y c = decide (z = y) := by
  simp only [lockIs, (admL_in v h).2, Option.map_some, Option.some.injEq]

theorem Moved.leave {ls : List (Nam × LkS)} {ws : List (Int × Nee)} (v : Inv ls ws) (who : Int) : Moved who true ls ws (leaveS who ls ws).1 (leaveS who ls ws).2.1 (leaveS who ls ws).2.2 := by
  obtain ⟨ord, hn, e1, e2, e3, e4, _⟩ := leave_spec v who
  have hq : ∀ y, ((queueS y ls).filter fun a => !decide (a = who)) = (admL who ls y).map (·.1) ++ queueS y (leaveS who ls ws).2.1 ∧ who ∉ queueS y (leaveS who ls ws).2.1 := by
    intro y
    simp only [queueS, e3 y, stripL, admL]
    cases hs : agt y ls with
    | none => simp
    | some s =>
      simp only [Option.getD_some]
      obtain ⟨a1, a2⟩ := adm_spec (notWho who s.1) (notWho who s.2)
      have hq' : (((if (adm (notWho who s.1) (notWho who s.2)).1 = [] then none else some ((adm (notWho who s.1) (notWho who s.2)).1, (adm (notWho who s.1) (notWho who s.2)).2.1)) : Option LkS).getD ([], [])).2 = (adm (notWho who s.1) (notWho who s.2)).2.1 := by
        split
        · rename_i h; rw [adm_ne h]; rfl
        · rfl
      rw [hq', ← notWho_map]
      refine ⟨by rw [← List.map_append, ← a2], fun h => ?_⟩
      obtain ⟨c, hc, rfl⟩ := List.mem_map.1 h
      have : c ∈ notWho c.1 s.2 := by rw [a2]; exact List.mem_append_right _ hc
      exact (notWho_mem.1 this).2 rfl
  have hlf : ∀ y, (leaveS who ls ws).1.filter (lockIs ws y) = admL who ls y := fun y => by
    rw [e1, flat_filter hn fun z _ c hc => admL_lock v hc]
    split
    · rfl
    · rename_i h; rw [e2 y h]
  refine ⟨fun c hc => ?_, fun y => ?_, fun _ y => (hq y).2, fun h => by (cases h)⟩
  · have hc' := hc
    rw [e1] at hc'
    obtain ⟨y, _, hy⟩ := List.mem_flatMap.1 hc'
    obtain ⟨h1, h2⟩ := admL_in v hy
    refine ⟨h1, e4 _ (.inr (List.mem_map.2 ⟨c, hc, rfl⟩)), y, h2, ?_⟩
    simp only [admL] at hy
    split at hy
    · rename_i s hs
      have a1 := (adm_spec (notWho who s.1) (notWho who s.2)).1
      have hm : c ∈ (adm (notWho who s.1) (notWho who s.2)).1 := by rw [a1]; exact List.mem_append_right _ hy
      refine ⟨_, by rw [e3]; simp only [stripL, hs]; rw [if_neg (fun h => by rw [h] at hm; cases hm)], hm⟩
    · cases hy
  · rw [hlf, (hq y).1, List.filter_eq_self.2]
    intro a ha
    simp only [Bool.not_eq_true', decide_eq_false_iff_not]
    rintro rfl
    exact (hq y).2 ha

theorem Moved.free {ls : List (Nam × LkS)} {ws : List (Int × Nee)} (v : Inv ls ws) (who : Int) (x : Nam) (hok : (freeS who x ls ws).1.2 = 0) : Moved who false ls ws (freeS who x ls ws).1.1 (freeS who x ls ws).2.1 (freeS who x ls ws).2.2 := by
  cases hx : agt x ls with
  | none => rw [freeS_no (by simp [hx])] at hok; cases hok
  | some s =>
    by_cases hm : who ∈ s.1.map (·.1)
    case neg =>
      rw [freeS_no (by intro s' hs'; rw [hx] at hs'; cases hs'; have h9 : ¬ 0 ≤ posC who s.1 0 := fun h => hm (posC_mem.1 h); omega)] at hok
      cases hok
    rw [freeS_held v hx hm]
    have hL := turn_L (x := x) (s := (notWho who s.1, s.2)) (ws := ws) v.kn
    have hW := turn_W (x := x) (s := (notWho who s.1, s.2)) (ls := ls) v.wn
    have htl : (turnS x (notWho who s.1, s.2) ls ws).1 = (adm (notWho who s.1) s.2).2.2 := rfl
    obtain ⟨a1, a2⟩ := adm_spec (notWho who s.1) s.2
    have hno : who ∉ s.2.map (·.1) := fun h => by
      obtain ⟨c, hc, rfl⟩ := List.mem_map.1 h
      exact (v.ok _ _ hx).dj c hc hm
    have hin : ∀ c ∈ (adm (notWho who s.1) s.2).2.2, agt c.1 ws = some (x, c.2) := fun c hc => v.qw _ _ _ _ hx (by rw [a2]; exact List.mem_append_left _ hc)
    have hlf : ∀ y, (turnS x (notWho who s.1, s.2) ls ws).1.filter (lockIs ws y) = if y = x then (adm (notWho who s.1) s.2).2.2 else [] := fun y => by
      rw [htl]
      split
      · rename_i h
        subst h
        rw [List.filter_eq_self]
        intro c hc
        simp [lockIs, hin c hc]
      · rename_i h
        rw [List.filter_eq_nil_iff]
        intro c hc
        simp only [lockIs, hin c hc, Option.map_some, Option.some.injEq, decide_eq_true_eq]
        exact fun e => h e.symm
    have hq : ∀ y, queueS y (turnS x (notWho who s.1, s.2) ls ws).2.1 = if y = x then (adm (notWho who s.1) s.2).2.1.map (·.1) else queueS y ls := fun y => by
      simp only [queueS]
      rw [hL]
      split
      · split
        · rename_i h; rw [adm_ne h]; rfl
        · rfl
      · rfl
    have hqx : queueS x ls = (adm (notWho who s.1) s.2).2.2.map (·.1) ++ (adm (notWho who s.1) s.2).2.1.map (·.1) := by
      simp only [queueS, hx, Option.getD_some]
      rw [← List.map_append, ← a2]
    have hnx : who ∉ queueS x ls := by simp only [queueS, hx, Option.getD_some]; exact hno
    refine ⟨fun c hc => ?_, fun y => ?_, fun h => by (cases h), fun _ y => ⟨fun h => ?_, fun h => ?_⟩⟩
    · have hc' : c ∈ (adm (notWho who s.1) s.2).2.2 := hc
      refine ⟨fun e => hno (e ▸ List.mem_map.2 ⟨c, by rw [a2]; exact List.mem_append_left _ hc', rfl⟩), by rw [hW, if_pos (List.mem_map.2 ⟨c, hc, rfl⟩)], x, hin c hc', ?_⟩
      have hmm : c ∈ (adm (notWho who s.1) s.2).1 := by rw [a1]; exact List.mem_append_right _ hc'
      exact ⟨_, by rw [hL, if_pos rfl, if_neg (fun h => by rw [h] at hmm; cases hmm)], hmm⟩
    · rw [hlf, hq]
      by_cases hy : y = x
      · subst hy
        rw [if_pos rfl, if_pos rfl, hqx, List.filter_append]
        congr 1
        rw [List.filter_eq_self]
        intro a ha
        simp only [Bool.not_eq_true', decide_eq_false_iff_not]
        rintro rfl
        exact hnx (by rw [hqx]; exact List.mem_append_left _ ha)
      · rw [if_neg hy, if_neg hy]
        simp
    · rw [hlf] at h
      rw [hq]
      by_cases hy : y = x
      · subst hy
        rw [if_pos rfl] at h ⊢
        rw [hqx, h]
        simp
      · rw [if_neg hy]
    · rw [hlf] at h
      by_cases hy : y = x
      · subst hy
        refine ⟨hnx, ?_⟩
        rw [hq, if_pos rfl]
        intro h9
        exact hnx (by rw [hqx]; exact List.mem_append_right _ h9)
      · rw [if_neg hy] at h; exact absurd rfl h

end Go.Proofs.Ytacmnfpgimgigaa

namespace Go.Proofs.Ytacmnfpgimgigaa
open Go
set_option linter.unusedSimpArgs false
set_option linter.unusedVariables false
set_option maxRecDepth 100000

def Closed (ls : List (Nam × LkS)) (ws : List (Int × Nee)) (S : Int → Prop) : Prop := ∀ p, S p → ∃ x a q, agt p ws = some (x, a) ∧ S q ∧ q ∈ (hsK ls x).map (·.1)
def Stk (ls : List (Nam × LkS)) (ws : List (Int × Nee)) (p : Int) : Prop := ∃ S : Int → Prop, Closed ls ws S ∧ S p

section
variable {ls : List (Nam × LkS)} {ws : List (Int × Nee)}
theorem Stk.closed : Closed ls ws (Stk ls ws) := by
  rintro p ⟨S, c, hp⟩
  obtain ⟨x, a, q, h1, h2, h3⟩ := c p hp
  exact ⟨x, a, q, h1, ⟨S, c, h2⟩, h3⟩
theorem Stk.waits {p : Int} (h : Stk ls ws p) : (agt p ws).isSome = true := by
  obtain ⟨x, a, q, h1, _⟩ := Stk.closed p h
  rw [h1]; rfl

theorem alone_notWho {who : Int} {hs : List Claim} (ha : Alone1 hs) : Alone1 (notWho who hs) := by
  intro c hc h
  obtain ⟨h1, h2⟩ := notWho_mem.1 hc
  have := ha c h1 h
  rw [this]
  simp [notWho, h2]

/-- Where somebody stays who holds it, nobody is let in. -/
theorem noadm (v : Inv ls ws) {who q : Int} {x : Nam} {s : LkS} (hs : agt x ls = some s) (hq : q ∈ s.1.map (·.1)) (hne : q ≠ who) (hw : agt who ws = none) :
    notWho who s.2 = s.2 ∧ adm (notWho who s.1) s.2 = (notWho who s.1, s.2, []) ∧ q ∈ (notWho who s.1).map (·.1) := by
  obtain ⟨d, hd, rfl⟩ := List.mem_map.1 hq
  have hdn : d ∈ notWho who s.1 := notWho_mem.2 ⟨hd, hne⟩
  refine ⟨notWho_id fun hm => ?_, ?_, List.mem_map.2 ⟨d, hdn, rfl⟩⟩
  · obtain ⟨c, hc, rfl⟩ := List.mem_map.1 hm
    have := v.qw x s c.1 c.2 hs hc
    rw [hw] at this; cases this
  · refine adm_id (s := (notWho who s.1, s.2)) fun c q' h => ?_
    have hlet := v.hd x s c q' hs h
    have hal := (v.ok _ _ hs).al
    cases hx : letsB (notWho who s.1) c.2 with
    | false => rfl
    | true =>
      rcases (letsB_iff (alone_notWho hal)).1 hx with h1 | ⟨h1, h2⟩
      · rw [h1] at hdn; cases hdn
      · have : letsB s.1 c.2 = true := by
          refine (letsB_iff hal).2 (.inr ⟨h1, fun e he => ?_⟩)
          cases h3 : e.2 with
          | false => rfl
          | true =>
            have h4 := hal e he h3
            rw [h4] at hd
            simp only [List.mem_singleton] at hd
            rw [← hd, h2 d hdn] at h3
            cases h3
        rw [hlet] at this; cases this

theorem holdAt {x : Nam} {q : Int} (h : q ∈ (hsK ls x).map (·.1)) : ∃ s, agt x ls = some s ∧ q ∈ s.1.map (·.1) := by
  unfold hsK at h
  cases hx : agt x ls with
  | none => rw [hx] at h; cases h
  | some s => rw [hx] at h; exact ⟨s, rfl, h⟩

/-- Who is of a closed set stays where he is when another one leaves, and the set stays closed. -/
theorem closed_stay (v : Inv ls ws) {S : Int → Prop} (c : Closed ls ws S) {who : Int} (hw : agt who ws = none) : Closed (leaveS who ls ws).2.1 (leaveS who ls ws).2.2 S := by
  obtain ⟨ord, hn, e1, e2, e3, e4, e5⟩ := leave_spec v who
  intro p hp
  obtain ⟨x, a, q, h1, h2, h3⟩ := c p hp
  obtain ⟨x2, a2, q2, h1q, _, _⟩ := c q h2
  have hqw : q ≠ who := by rintro rfl; rw [hw] at h1q; cases h1q
  have hpw : p ≠ who := by rintro rfl; rw [hw] at h1; cases h1
  obtain ⟨s, hs, hq⟩ := holdAt h3
  obtain ⟨n1, n2, n3⟩ := noadm v hs hq hqw hw
  refine ⟨x, a, q, ?_, h2, ?_⟩
  · rw [e5 p hpw fun hm => ?_]
    · exact h1
    · obtain ⟨d, hd, rfl⟩ := List.mem_map.1 hm
      rw [e1] at hd
      obtain ⟨y, hy, hdy⟩ := List.mem_flatMap.1 hd
      have := (admL_in v hdy).2
      rw [h1] at this
      simp only [Option.some.injEq, Prod.mk.injEq] at this
      obtain ⟨rfl, _⟩ := this
      simp only [admL, hs, n1, n2] at hdy
      cases hdy
  · unfold hsK
    rw [e3 x]
    simp only [stripL, hs, n1, n2]
    rw [if_neg]
    · exact n3
    · intro h; rw [h] at n3; cases n3

/-- .. and what is closed then was so before. -/
theorem closed_back (v : Inv ls ws) {S : Int → Prop} {who : Int} (c : Closed (leaveS who ls ws).2.1 (leaveS who ls ws).2.2 S) : Closed ls ws S := by
  obtain ⟨ord, hn, e1, e2, e3, e4, e5⟩ := leave_spec v who
  have hst : ∀ p, S p → p ≠ who ∧ p ∉ (leaveS who ls ws).1.map (·.1) ∧ agt p (leaveS who ls ws).2.2 = agt p ws := fun p hp => by
    obtain ⟨x, a, q, h1, _, _⟩ := c p hp
    have hno : ¬ (p = who ∨ p ∈ (leaveS who ls ws).1.map (·.1)) := fun h => by rw [e4 p h] at h1; cases h1
    rw [not_or] at hno
    exact ⟨hno.1, hno.2, e5 p hno.1 hno.2⟩
  intro p hp
  obtain ⟨x, a, q, h1, h2, h3⟩ := c p hp
  obtain ⟨p1, p2, p3⟩ := hst p hp
  obtain ⟨q1, q2, q3⟩ := hst q h2
  refine ⟨x, a, q, by rw [← p3]; exact h1, h2, ?_⟩
  obtain ⟨s', hs', hq⟩ := holdAt h3
  rw [e3 x] at hs'
  simp only [stripL] at hs'
  cases hs : agt x ls with
  | none => rw [hs] at hs'; cases hs'
  | some s =>
    rw [hs] at hs'
    simp only at hs'
    split at hs'
    · cases hs'
    simp only [Option.some.injEq] at hs'
    subst hs'
    obtain ⟨a1, a2⟩ := adm_spec (notWho who s.1) (notWho who s.2)
    simp only at hq
    rw [a1, List.map_append, List.mem_append] at hq
    rcases hq with hq | hq
    · obtain ⟨d, hd, rfl⟩ := List.mem_map.1 hq
      unfold hsK
      rw [hs]
      exact List.mem_map.2 ⟨d, (notWho_mem.1 hd).1, rfl⟩
    · exfalso
      apply q2
      obtain ⟨d, hd, rfl⟩ := List.mem_map.1 hq
      have had : d ∈ admL who ls x := by simp only [admL, hs]; exact hd
      rw [e1]
      refine List.mem_map.2 ⟨d, List.mem_flatMap.2 ⟨x, ?_, had⟩, rfl⟩
      apply Classical.byContradiction
      intro hno
      rw [e2 x hno] at had
      cases had

theorem stk_leave (v : Inv ls ws) {who : Int} (hw : agt who ws = none) (p : Int) : Stk (leaveS who ls ws).2.1 (leaveS who ls ws).2.2 p ↔ Stk ls ws p :=
  ⟨fun ⟨S, c, h⟩ => ⟨S, closed_back v c, h⟩, fun ⟨S, c, h⟩ => ⟨S, closed_stay v c hw, h⟩⟩

/-- Where nobody can leave any more, all who wait are stuck. -/
theorem stk_end (v : Inv ls ws) (h : ∀ x s, agt x ls = some s → ∀ c ∈ s.1, (agt c.1 ws).isSome = true) (p : Int) : Stk ls ws p ↔ (agt p ws).isSome = true := by
  refine ⟨fun h => h.waits, fun hp => ⟨fun p => (agt p ws).isSome = true, fun p hp => ?_, hp⟩⟩
  obtain ⟨⟨x, a⟩, hx⟩ := Option.isSome_iff_exists.1 hp
  obtain ⟨s, hs, hm⟩ := v.wq p x a hx
  obtain ⟨d, l, hd⟩ := List.exists_cons_of_ne_nil (v.ne _ _ hs)
  have hdm : d ∈ s.1 := by rw [hd]; simp
  refine ⟨x, a, d.1, hx, h x s hs d hdm, ?_⟩
  unfold hsK
  rw [hs]
  exact List.mem_map.2 ⟨d, hdm, rfl⟩

/-! ### Who leaves takes something along -/
theorem turnS_lt {x : Nam} {s s0 : LkS} (h : agt x ls = some s0) : tot (turnS x s ls ws).2.1 + (s0.1.length + s0.2.length) ≤ tot ls + (s.1.length + s.2.length) := by
  obtain ⟨a1, a2⟩ := adm_spec s.1 s.2
  obtain ⟨b1, b2, b3⟩ := tot_aset (s' := s) h
  have hs : agt x (aset x s ls) = some s := agt_aset _ _ _
  have e1 := congrArg List.length a1
  have e2 := congrArg List.length a2
  simp only [List.length_append] at e1 e2
  simp only [turnS]
  split
  · rename_i hn
    obtain ⟨c1, c2, c3⟩ := tot_adel hs
    rw [hn] at e1
    simp only [List.length_nil] at e1
    omega
  · obtain ⟨c1, c2, c3⟩ := tot_aset (s' := ((adm s.1 s.2).1, (adm s.1 s.2).2.1)) hs
    simp only at c1 c2
    omega
theorem freeS_lt {who : Int} {x : Nam} {s : LkS} (h : agt x ls = some s) (hm : who ∈ s.1.map (·.1)) : tot (freeS who x ls ws).2.1 < tot ls := by
  have h0 := (posC_mem (l := s.1) (k := 0)).2 hm
  rcases posC_spec who s.1 0 with hp | ⟨i, hi, hp⟩
  · omega
  · rw [Nat.zero_add] at hp
    rw [freeS_turn h hp]
    have := turnS_lt (s := (s.1.eraseIdx i, s.2)) (ws := ws) h
    simp only [List.length_eraseIdx, if_pos hi] at this
    simp only
    omega
theorem leave_lt (v : Inv ls ws) {who : Int} (hw : agt who ws = none) {x : Nam} {s : LkS} (h : agt x ls = some s) (hm : who ∈ s.1.map (·.1)) : tot (leaveS who ls ws).2.1 < tot ls := by
  have e : leave1 who ls ws = ([], ls, ws) := by simp [leave1, hw]
  have hx := (heldS_iff v (who := who) (y := x)).2 ⟨s, h, hm⟩
  unfold leaveS
  rw [e]
  simp only
  cases hL : heldS who ls with
  | nil => rw [hL] at hx; cases hx
  | cons n L =>
    have hn : n ∈ heldS who ls := by rw [hL]; simp
    obtain ⟨t, ht, htm⟩ := (heldS_iff v).1 (List.mem_map.2 ⟨n, hn, rfl⟩)
    have h1 := freeS_lt (ws := ws) ht htm
    have h2 := (leaveL_tot who L (freeS who n.1 ls ws).2.1 (freeS who n.1 ls ws).2.2).1
    simp only [leaveL]
    omega
end
end Go.Proofs.Ytacmnfpgimgigaa

namespace Go.Proofs.Ytacmnfpgimgigaa
open Go
set_option linter.unusedSimpArgs false
set_option linter.unusedVariables false
set_option maxRecDepth 100000

/-- A key is handed over. -/
def PassK {κ : Type} (enc : κ → Value) (k : κ) (args : Array Value) : HP := HP.fact (args = #[enc k]) EmpH
theorem PassK.mk {κ : Type} {enc : κ → Value} {k : κ} {w0 w : World} {A B : HP} (h : St w0 (A * B) w) : St w0 (A * (PassK enc k #[enc k] * B)) w :=
  h.ent (Ent.sep (Ent.rfl' A) ((Ent.empL B).trans (Ent.sep (Ent.fact rfl EmpH) (Ent.rfl' B))))
theorem PassK.args {κ : Type} {enc : κ → Value} {k : κ} {args : Array Value} {w0 w : World} {A B : HP} (h : St w0 (A * (PassK enc k args * B)) w) : args = #[enc k] ∧ St w0 (A * B) w := by
  have h1 := h.sw2
  obtain ⟨e, h2⟩ := h1.factF
  exact ⟨e, h2.right⟩
theorem St.endMark {P : Program} {w0 w : World} {D : Nat} {F : HP} {ar : Array Value} {A : World → Prop} (h : St w0 (Blk D (.deferred (some [])) * F) w) (hA : ∀ w', St w0 F w' → A w') : retD P [{ target := .collected D, args := ar }] A w :=
  St.mark h fun w' h' => hA w' h'.right

abbrev BoxM (Bx m : Nat) : HP := Blk Bx (.cells #[.map (some m)] 64 (0, 0))

section
attribute [local go_sem] F58.t2_eq
theorem keys1_iter {w0 : World} {Bx m : Nat} {l : List (Int × Value)} {R : HP} :
    IterOk Try.prog w0 58 #[.pointer (some ⟨Bx, 0, none⟩)] (PassK encI) (fun pre => ∃ post, (pre ++ post).Perm (l.map (·.1))) (fun xs => xs.Perm (l.map (·.1))) (BoxM Bx m * (MapP encI m l * R)) (BoxM Bx m * (MapP encI m l * R)) := by
  intro l0 w1 J X hy h
  show Calls _ 58 #[.func (.yield l0) #[] #[], .pointer (some ⟨Bx, 0, none⟩)] w1 _
  refine F58.calls (by simp) ?_
  unfold F58.code
  simp -dsimp -implicitDefEqProofs (disch := omega) only [go_sem, reqD_of, dec_t, dec_f, wrap_i64, wrap_u32, wrap_u64, wrap_u8, h.cl]
  refine h.rangeH Try.underlying64 fun r w2 h2 => ?_
  simp -dsimp -implicitDefEqProofs (disch := omega) only [go_sem, reqD_of, dec_t, dec_f, wrap_i64, wrap_u32, wrap_u64, wrap_u8]
  refine loop_intro (fun e w' => e.ds = [] ∧ e.ρ 0 = .func (.yield l0) #[] #[] ∧ e.ρ 5 = .pointer (some ⟨r, 0, none⟩) ∧ ∃ (pre : List Int) (left : List (Int × Value)), (pre ++ left.map (·.1)).Perm (l.map (·.1)) ∧ St w0 (J pre * (BoxM Bx m * (IterP encI m r l left * R))) w')
    (fun _ w => iterLeft m r w) ?_ ?_
  · exact ⟨rfl, by simp -dsimp -implicitDefEqProofs only [go_sem], by simp -dsimp -implicitDefEqProofs only [go_sem], [], l, by simp, h2⟩
  rintro e w3 ⟨hd, e0, e5, pre, left, hp, h3⟩
  have hleft := h3.iterLeft m
  simp -dsimp -implicitDefEqProofs (disch := omega) only [go_sem, reqD_of, dec_t, dec_f, wrap_i64, wrap_u32, wrap_u64, wrap_u8, hd, e0, e5]
  refine h3.nextH m (fun hnil => ?_) fun j hj w4 h4 => ?_
  · subst hnil
    simp -dsimp -implicitDefEqProofs (disch := omega) only [go_sem, reqD_of, dec_t, dec_f, wrap_i64, wrap_u32, wrap_u64, wrap_u8, hd, e0, e5]
    exact ⟨⟨_, rfl⟩, .inl ⟨pre, by simpa using hp, h3.iterEnd m⟩⟩
  simp -dsimp -implicitDefEqProofs (disch := omega) only [go_sem, reqD_of, dec_t, dec_f, wrap_i64, wrap_u32, wrap_u64, wrap_u8, hd, e0, e5]
  refine h4.entryH m ?_
  simp -dsimp -implicitDefEqProofs (disch := omega) only [go_sem, reqD_of, dec_t, dec_f, wrap_i64, wrap_u32, wrap_u64, wrap_u8, hd, e0, e5]
  have h6 := PassK.mk (enc := encI) (k := (left[j]).1) (h4.iterDone m)
  have hpj : (left[j] :: left.eraseIdx j).Perm left := perm_eraseIdx left j hj
  have hpk : ((pre ++ [(left[j]).1]) ++ (left.eraseIdx j).map (·.1)).Perm (l.map (·.1)) := by
    refine List.Perm.trans ?_ hp
    rw [List.append_assoc]
    exact List.Perm.append_left pre (hpj.map (fun p : Int × Value => p.1))
  refine (hy _ _ _ _ _ ⟨_, hpk⟩ h6).mono ?_
  rintro e' w5 (⟨rfl, h7⟩ | ⟨rfl, h7⟩)
  · have hl5 := h7.iterLeft m
    have hel : (left.eraseIdx j).length + 1 = left.length := by have := hpj.length_eq; simpa using this
    simp -dsimp -implicitDefEqProofs only [go_sem, hd, e0, e5]
    exact ⟨⟨_, _, hpk, h7⟩, by omega⟩
  · simp -dsimp -implicitDefEqProofs only [go_sem, hd, e0, e5]
    exact ⟨⟨_, rfl⟩, .inr ⟨_, h7.iterEnd m⟩⟩

end
section
attribute [local go_sem] F71.t4_eq
theorem appendSeq_any {w0 w : World} {F : HP} {Bx m : Nat} {l : List (Int × Value)} (h : St w0 (BoxM Bx m * (MapP encI m l * F)) w) (hl : l.length < 1099511627776) :
    Calls Try.prog 71 #[.slice none 0 0, .func (.func 58) #[] #[.pointer (some ⟨Bx, 0, none⟩)]] w fun e w' => ∃ v xs, xs.Perm (l.map (·.1)) ∧ St w0 (RowO 3 1 v xs.length (intR xs) * (BoxM Bx m * (MapP encI m l * F))) w' ∧ e = .returned v := by
  refine F71.calls (by simp) ?_
  unfold F71.code
  simp -dsimp -implicitDefEqProofs (disch := omega) only [go_sem, reqD_of, dec_t, dec_f, wrap_i64, wrap_u32, wrap_u64, wrap_u8]
  refine h.new fun S w1 h1 => ?_
  simp -dsimp -implicitDefEqProofs (disch := omega) only [go_sem, reqD_of, dec_t, dec_f, wrap_i64, wrap_u32, wrap_u64, wrap_u8]
  refine range_intro (F := Blk S (.cells #[.slice none 0 0] 34 (0, 0)) * (BoxM Bx m * (MapP encI m l * F))) h1 (gf := 58) (lb := #[.pointer (some ⟨Bx, 0, none⟩)]) (by simp -dsimp -implicitDefEqProofs only [go_sem]) fact_fnOk_58 (Pass := PassK encI)
    (fun pre => HP.ex fun v : Value => Blk S (.cells #[v] 34 (0, 0)) * RowO 3 1 v pre.length (intR pre))
    (fun _ _ => HP.fact False EmpH) ?_ ?_ (keys1_iter (m := m) (l := l) (R := F)) ?_ ?_
  · refine Ent.sep (HP.ex_intro (.slice none 0 0) ?_) (Ent.rfl' _)
    exact (Ent.nilRowO 3 1 _).trans (Ent.of_eq (sep_comm _ _))
  · intro l0 pre x args G W1 hok h2
    obtain ⟨rfl, h3⟩ := PassK.args h2
    refine ⟨rfl, ?_⟩
    unfold F71.a0
    simp -dsimp -implicitDefEqProofs only [go_sem]
    refine ⟨h2, fun G2 W2 hl2 h4 => ?_⟩
    obtain ⟨_, h5⟩ := PassK.args h4
    obtain ⟨v, h6⟩ := h5.exF
    obtain ⟨post, hp⟩ := hok
    have hpl : pre.length + 1 ≤ l.length := by have := hp.length_eq; simp at this; omega
    unfold F71.b0
    simp -dsimp -implicitDefEqProofs (disch := omega) only [go_sem, reqD_of, dec_t, dec_f, wrap_i64, wrap_u32, wrap_u64, wrap_u8, List.toList_toArray, h6.cl]
    refine h6.lit fact_rowTy_34 (cells := intR [x]) rfl (by decide) (by decide) fun v3 w4 h7 => ?_
    simp -dsimp -implicitDefEqProofs (disch := omega) only [go_sem, reqD_of, dec_t, dec_f, wrap_i64, wrap_u32, wrap_u64, wrap_u8]
    refine h7.appR (v := v) (x := v3) fact_rowTy_34 Try.underlying34 (intR_cells [x]) (by simp [intR]) (by simp only [maxLen]; omega) (by omega) fun v4 w5 h8 => ?_
    simp -dsimp -implicitDefEqProofs (disch := omega) only [go_sem, reqD_of, dec_t, dec_f, wrap_i64, wrap_u32, wrap_u64, wrap_u8]
    obtain ⟨a4, c4, rfl, _⟩ := h8.rowForm v4
    refine h8.sto (b := S) (off := 0) (by simp) rfl fun w6 h9 => ?_
    simp -dsimp -implicitDefEqProofs (disch := omega) only [go_sem, reqD_of, dec_t, dec_f, wrap_i64, wrap_u32, wrap_u64, wrap_u8]
    rw [intR_app pre [x]]
    have h10 : St w0 ((Blk S (.cells #[.slice a4 (pre.length + 1) c4] 34 (0, 0)) * RowO 3 1 (.slice a4 (pre.length + 1) c4) (pre.length + 1) (intR pre ++ intR [x])) * G2) w6 := h9.right
    rw [List.length_append]
    exact h10.ent (Ent.sep (Ent.ex (fun v : Value => Blk S (.cells #[v] 34 (0, 0)) * RowO 3 1 v (pre.length + 1) (intR pre ++ intR [x])) _) (Ent.rfl' _))
  · intro D xs w' hS h2
    obtain ⟨v, h3⟩ := h2.sw2.exF
    simp -dsimp -implicitDefEqProofs (disch := omega) only [go_sem, reqD_of, dec_t, dec_f, wrap_i64, wrap_u32, wrap_u64, wrap_u8, h3.cl]
    refine St.endMark (h3.take (.blk D)) fun w4 h4 => ?_
    exact ⟨v, xs, hS, h4.sub, rfl⟩
  · intro D c pre w' h2
    obtain ⟨hf, _⟩ := h2.sw2.factF
    exact hf.elim

end

theorem collect_any {w0 w : World} {F : HP} {Bx m : Nat} {l : List (Int × Value)} (h : St w0 (BoxM Bx m * (MapP encI m l * F)) w) (hl : l.length < 1099511627776) :
    Calls Try.prog 57 #[.func (.func 58) #[] #[.pointer (some ⟨Bx, 0, none⟩)]] w fun e w' => ∃ v xs, xs.Perm (l.map (·.1)) ∧ St w0 (RowO 3 1 v xs.length (intR xs) * (BoxM Bx m * (MapP encI m l * F))) w' ∧ e = .returned v := by
  refine F57.calls (by simp) ?_
  unfold F57.code
  simp -dsimp -implicitDefEqProofs (disch := omega) only [go_sem, reqD_of, dec_t, dec_f, wrap_i64, wrap_u32, wrap_u64, wrap_u8]
  refine (appendSeq_any h hl).mono ?_
  rintro e' w1 ⟨v, xs, hp, h1, rfl⟩
  simp -dsimp -implicitDefEqProofs (disch := omega) only [go_sem, reqD_of, dec_t, dec_f, wrap_i64, wrap_u32, wrap_u64, wrap_u8]
  exact ⟨v, xs, hp, h1, rfl⟩

end Go.Proofs.Ytacmnfpgimgigaa

namespace Go.Proofs.Ytacmnfpgimgigaa
open Go
set_option linter.unusedSimpArgs false
set_option linter.unusedVariables false
set_option maxRecDepth 100000

def FreeOk (ls : List (Nam × LkS)) (ws : List (Int × Nee)) (e : Ending) : Prop :=
  (∃ who x s, e = .returned (.tuple #[.int .i64 who, .bool true]) ∧ agt x ls = some s ∧ who ∈ s.1.map (·.1) ∧ agt who ws = none) ∨
  (e = .returned (.tuple #[.int .i64 0, .bool false]) ∧ ∀ x s, agt x ls = some s → ∀ c ∈ s.1, (agt c.1 ws).isSome = true)

section
attribute [local go_sem] F39.t10_eq F39.t6_eq F39.t3_eq F39.t11_eq
theorem freeSome_any {w0 w : World} {F : HP} {B : Nat} {ls : List (Nam × LkS)} {ws : List (Int × Nee)} (h : St w0 (TabP B ls ws * F) w) (hb : ∀ p ∈ ls, p.2.1.length < 1099511627776) :
    Calls Try.prog 39 #[.pointer (some ⟨B, 0, none⟩)] w fun e w' => St w0 (TabP B ls ws * F) w' ∧ FreeOk ls ws e := by
  obtain ⟨m1, m2, ps, hps, h1⟩ := TabP.open h
  rw [TabQ_eq] at h1
  refine F39.calls (by simp) ?_
  unfold F39.code
  simp -dsimp -implicitDefEqProofs (disch := omega) only [go_sem, reqD_of, dec_t, dec_f, wrap_i64, wrap_u32, wrap_u64, wrap_u8, h1.cl]
  have hkeys : (ps.map (·.1)).Nodup := by
    have := h1.mapNodup m1
    rwa [amap_keys] at this
  refine h1.rangeH (b := m1) Try.underlying63 fun r w1 h2 => ?_
  simp -dsimp -implicitDefEqProofs (disch := omega) only [go_sem, reqD_of, dec_t, dec_f, wrap_i64, wrap_u32, wrap_u64, wrap_u8]
  refine loop_intro (fun e w' => e.ds = [] ∧ e.ρ 0 = .pointer (some ⟨B, 0, none⟩) ∧ e.ρ 14 = .pointer (some ⟨r, 0, none⟩) ∧ ∃ (done left : Ptrs), (done ++ left).Perm ps ∧ (∀ p ∈ done, ∀ c ∈ p.2.2.1, (agt c.1 ws).isSome = true) ∧
      St w0 (Blk B (.cells #[.map (some m1), .map (some m2)] 66 (0, 0)) * (IterP namV m1 r (amap ptrV ps) (amap ptrV left) * (MapP encI m2 (amap needV ws) * (lksP ps * F)))) w')
    (fun _ w => iterLeft m1 r w) ?_ ?_
  · exact ⟨rfl, by simp -dsimp -implicitDefEqProofs only [go_sem], by simp -dsimp -implicitDefEqProofs only [go_sem], [], ps, .refl _, by simp, h2.sub⟩
  rintro eo w2 ⟨hdo, e0o, e14o, done, left, hperm, hok, h3⟩
  simp -dsimp -implicitDefEqProofs (disch := omega) only [go_sem, reqD_of, dec_t, dec_f, wrap_i64, wrap_u32, wrap_u64, wrap_u8, hdo, e14o]
  refine h3.nextP m1 (fun hl => ?_) (fun x rest w3 hx h4 => ?_)
  · subst hl
    rw [List.append_nil] at hperm
    have h5 := h3.iterEnd m1
    simp -dsimp -implicitDefEqProofs (disch := omega) only [go_sem, reqD_of, dec_t, dec_f, wrap_i64, wrap_u32, wrap_u64, wrap_u8, hdo]
    refine ⟨(TabP.col (B := B) (m1 := m1) (m2 := m2) (ws := ws) h5 hps), .inr ⟨rfl, fun x s hxs c hc => ?_⟩⟩
    rw [← hps, agt_amap] at hxs
    cases hk : agt x ps with
    | none => rw [hk] at hxs; cases hxs
    | some bs =>
      rw [hk] at hxs
      simp only [Option.map_some, Option.some.injEq] at hxs
      exact hok (x, bs) (hperm.mem_iff.2 (mem_of_agt hk)) c (by rw [hxs]; exact hc)
  obtain ⟨nm, b, s⟩ := x
  simp -dsimp -implicitDefEqProofs (disch := omega) only [go_sem, reqD_of, dec_t, dec_f, wrap_i64, wrap_u32, wrap_u64, wrap_u8, hdo, e14o]
  refine h4.entryH m1 ?_
  have h5 := h4.iterDone m1
  have hmem : (nm, (b, s)) ∈ ps := hperm.mem_iff.1 (List.mem_append_right _ (hx.mem_iff.1 (by simp)))
  have hk := agt_of_mem hkeys hmem
  have hpm : ((done ++ [(nm, (b, s))]) ++ rest).Perm ps := by
    rw [List.append_assoc]
    exact (List.Perm.append_left done hx).trans hperm
  have hmeas : ∀ {A : HP} {C : HP → HP} {w' : World} [Hole (.map m1) A (IterP namV m1 r (amap ptrV ps) (amap ptrV rest)) C], St w0 A w' → iterLeft m1 r w' < iterLeft m1 r w2 := by
    intro A C w' _ hw'
    rw [hw'.iterLeft m1, h3.iterLeft m1]
    have := hx.length_eq
    simp only [amap, List.length_map]
    simp at this
    omega
  rw [lks_open hk] at h5
  obtain ⟨v1, v2, h6⟩ := LkP.openH (b := b) h5
  have hsl : s.1.length < 1099511627776 := hb (nm, s) (by rw [← hps]; exact List.mem_map.2 ⟨(nm, (b, s)), hmem, rfl⟩)
  obtain ⟨_, a1, c1, rfl, hc1, _⟩ := claimAt (h6.gives (B := Reads 2 v1 s.1.length (clR s.1)))
  have hbk := LkQ.clH h6 b
  have hls : agt nm ls = some s := by rw [← hps, agt_amap, hk]; rfl
  simp -dsimp -implicitDefEqProofs (disch := omega) only [go_sem, reqD_of, dec_t, dec_f, wrap_i64, wrap_u32, wrap_u64, wrap_u8, hdo, e0o, e14o, ptrV, hbk]
  refine loop_intro (fun e w' => e.ds = [] ∧ e.ρ 0 = .pointer (some ⟨B, 0, none⟩) ∧ e.ρ 14 = .pointer (some ⟨r, 0, none⟩) ∧ e.ρ 22 = .slice a1 s.1.length c1 ∧ e.ρ 23 = .int .i64 s.1.length ∧ ∃ i : Nat, i ≤ s.1.length ∧ e.ρ 24 = .int .i64 i ∧ (∀ c ∈ s.1.take i, (agt c.1 ws).isSome = true) ∧
      St w0 (Blk B (.cells #[.map (some m1), .map (some m2)] 66 (0, 0)) * (IterP namV m1 r (amap ptrV ps) (amap ptrV rest) * (MapP encI m2 (amap needV ws) * ((LkQ b (.slice a1 s.1.length c1) v2 s.1 s.2 * lksP (adel nm ps)) * F)))) w')
    (fun e _ => match e.ρ 24 with | .int _ n => (s.1.length - n).toNat | _ => 0) ?_ ?_
  · exact ⟨by simp -dsimp -implicitDefEqProofs only [go_sem, hdo], by simp -dsimp -implicitDefEqProofs only [go_sem, e0o], by simp -dsimp -implicitDefEqProofs only [go_sem, e14o], by simp -dsimp -implicitDefEqProofs only [go_sem], by simp -dsimp -implicitDefEqProofs only [go_sem], 0, by omega, by simp -dsimp -implicitDefEqProofs only [go_sem], by simp, h6⟩
  rintro e w4 ⟨hd, e0, e14, e22, e23, i, hi, e24, hok2, h7⟩
  by_cases hlt : (i : Int) < s.1.length
  case neg =>
    have : i = s.1.length := by omega
    subst this
    rw [List.take_length] at hok2
    have h8 := LkQ.shutH h7 b
    rw [show LkP b (s.1, s.2) = LkP b s from rfl, ← lks_open hk] at h8
    simp -dsimp -implicitDefEqProofs (disch := omega) only [go_sem, reqD_of, dec_t, dec_f, wrap_i64, wrap_u32, wrap_u64, wrap_u8, hd, e0, e14, e22, e23, e24, hlt]
    refine ⟨⟨done ++ [(nm, (b, s))], rest, hpm, fun p hp => ?_, h8⟩, hmeas h8⟩
    rcases List.mem_append.1 hp with hp | hp
    · exact hok p hp
    · simp only [List.mem_singleton] at hp
      subst hp
      exact hok2
  have hil : i < s.1.length := by omega
  obtain ⟨_, _, _, hv, _, hcl⟩ := claimAt (h7.gives (B := Reads 2 (.slice a1 s.1.length c1) s.1.length (clR s.1)))
  simp only [Value.slice.injEq, true_and] at hv
  obtain ⟨rfl, rfl⟩ := hv
  obtain ⟨g, o, rfl, hrow, _, _⟩ := hcl i hil
  simp -dsimp -implicitDefEqProofs (disch := omega) only [go_sem, reqD_of, dec_t, dec_f, wrap_i64, wrap_u32, wrap_u64, wrap_u8, hd, e0, e14, e22, e23, e24, hlt, hrow]
  refine h7.new fun X w5 h8 => ?_
  simp -dsimp -implicitDefEqProofs (disch := omega) only [go_sem, reqD_of, dec_t, dec_f, wrap_i64, wrap_u32, wrap_u64, wrap_u8]
  refine h8.stoAll (cs := clC s.1[i]) rfl rfl (by simp [clC, isCell]) fun w6 h9 => ?_
  have h10 := h9.drew
  have hX := h10.cl X
  have hB := h10.cl B
  simp only [clC] at hX
  simp -dsimp -implicitDefEqProofs (disch := omega) only [go_sem, reqD_of, dec_t, dec_f, wrap_i64, wrap_u32, wrap_u64, wrap_u8, hd, e0, e14, e22, e23, e24, hX, hB]
  refine h10.lkH (b := m2) Try.underlying64 lawI zeroV38 ?_
  rw [lk_amap, lkV_get]
  simp -dsimp -implicitDefEqProofs (disch := omega) only [go_sem, reqD_of, dec_t, dec_f, wrap_i64, wrap_u32, wrap_u64, wrap_u8, hX, hB]
  refine h10.new fun N w7 h11 => ?_
  have hX1 := h11.cl X
  have hB1 := h11.cl B
  simp only [clC] at hX1
  simp -dsimp -implicitDefEqProofs (disch := omega) only [go_sem, reqD_of, dec_t, dec_f, wrap_i64, wrap_u32, wrap_u64, wrap_u8, hX1, hB1]
  refine ⟨h11.lkH (b := m2) Try.underlying64 lawI zeroV38 (by rw [lk_amap, lkV_get]), ?_⟩
  refine h11.stoAll (cs := needC ((agt (s.1[i]).1 ws).getD ((0, 0, 0), false))) rfl rfl (needC_cells _) fun w8 h12 => ?_
  have hX2 := h12.cl X
  simp only [clC] at hX2
  have h13 : St w0 (Blk B (.cells #[.map (some m1), .map (some m2)] 66 (0, 0)) * (IterP namV m1 r (amap ptrV ps) (amap ptrV rest) * (MapP encI m2 (amap needV ws) * ((LkQ b (.slice (some ⟨g, o, none⟩) s.1.length c1) v2 s.1 s.2 * lksP (adel nm ps)) * F)))) w8 := h12.right.right
  cases hw : agt (s.1[i]).1 ws with
  | none =>
    have h14 := LkQ.shutH (h13.iterEnd m1) b
    rw [show LkP b (s.1, s.2) = LkP b s from rfl, ← lks_open hk] at h14
    simp -dsimp -implicitDefEqProofs (disch := omega) only [go_sem, reqD_of, dec_t, dec_f, wrap_i64, wrap_u32, wrap_u64, wrap_u8, hd, e0, e14, e22, e23, e24, hX2, Option.isSome_none, Option.isSome_some]
    exact ⟨(TabP.col (B := B) (m1 := m1) (m2 := m2) (ws := ws) h14 hps), .inl ⟨_, nm, s, rfl, hls, List.mem_map.2 ⟨_, List.getElem_mem hil, rfl⟩, hw⟩⟩
  | some n =>
    simp -dsimp -implicitDefEqProofs (disch := omega) only [go_sem, reqD_of, dec_t, dec_f, wrap_i64, wrap_u32, wrap_u64, wrap_u8, hd, e0, e14, e22, e23, e24, hX2, Option.isSome_none, Option.isSome_some]
    refine ⟨⟨i + 1, by omega, by omega, fun c hc => ?_, h13⟩, by omega⟩
    rw [List.take_succ_eq_append_getElem hil, List.mem_append] at hc
    rcases hc with hc | hc
    · exact hok2 c hc
    · simp only [List.mem_singleton] at hc
      rw [hc, hw]; rfl

end
end Go.Proofs.Ytacmnfpgimgigaa

namespace Go.Proofs.Ytacmnfpgimgigaa
open Go.Shelf
set_option maxRecDepth 100000

def cloneL_ren : Go.Shelf.Ren := ⟨fun | 5 => 55 | 7 => 70 | n => n, fun | 23 => 64 | 25 => 3 | 3 => 38 | 4 => 4 | 20 => 20 | n => n, fun | n => n⟩

theorem cloneL : Go.Proofs.SlLaysW.n5 Try.prog cloneL_ren := {
  mixed := by kernel_rfl,
  f5 := ⟨Try.f55.name, by decide, Try.func55.trans (congrArg some (by kernel_rfl))⟩,
  f7 := Try.func70.trans (congrArg some (by kernel_rfl)),
  t4 := Try.underlying4,
  a4 := Try.isAgg4,
  z4 := Try.sizeOf4,
  v4 := Try.zeroValue4,
  t20 := Try.underlying20,
  a20 := Try.isAgg20,
  z20 := Try.sizeOf20,
  v20 := Try.zeroValue20,
  t23 := Try.underlying64,
  a23 := Try.isAgg64,
  z23 := Try.sizeOf64,
  v23 := Try.zeroValue64 }

end Go.Proofs.Ytacmnfpgimgigaa

namespace Go.Proofs.Ytacmnfpgimgigaa
open Go
set_option linter.unusedSimpArgs false
set_option linter.unusedVariables false
set_option maxRecDepth 100000

section
attribute [local go_sem] F56.t3_eq
theorem cloneClaims_any {w0 w : World} {F : HP} {v : Value} {l : List Claim} (h : St w0 F w) (hr : Ent F (Reads 2 v l.length (clR l))) (hl : l.length < 1099511627776) :
    Calls Try.prog 56 #[v] w fun e w' => ∃ v', St w0 (RowO 74 2 v' l.length (clR l) * F) w' ∧ e = .returned v' := by
  have r := (h.ent hr).rd
  obtain ⟨a, c, rfl, hnc, hcl⟩ := r.form
  refine F56.calls (by simp) ?_
  unfold F56.code
  cases a with
  | none =>
    have hnil : clR l = [] := by
      rcases hcl with h | ⟨b, o, h, _⟩
      · exact h
      · cases h
    have hl0 : l.length = 0 := by have := congrArg List.length hnil; rw [clR_length, List.length_nil] at this; omega
    simp -dsimp -implicitDefEqProofs (disch := omega) only [go_sem, reqD_of, dec_t, dec_f, wrap_i64, wrap_u32, wrap_u64, wrap_u8]
    refine ⟨.slice none 0 0, ?_, rfl⟩
    rw [hnil, hl0]
    exact h.nilR 74 2
  | some a =>
    simp -dsimp -implicitDefEqProofs (disch := omega) only [go_sem, reqD_of, dec_t, dec_f, wrap_i64, wrap_u32, wrap_u64, wrap_u8]
    refine h.lit0 fact_rowTy_69 rfl fun v1 w1 h1 => ?_
    simp -dsimp -implicitDefEqProofs (disch := omega) only [go_sem, reqD_of, dec_t, dec_f, wrap_i64, wrap_u32, wrap_u64, wrap_u8]
    refine h1.app (v := v1) fact_rowTy_69 ((Ent.right _ _).trans hr) Try.underlying69 (clR_cells l) (fun h => by have := congrArg List.length h; rw [clR_length, List.length_nil] at this; omega) (by simp only [maxLen]; omega) (by omega) fun v2 w2 h2 => ?_
    simp -dsimp -implicitDefEqProofs (disch := omega) only [go_sem, reqD_of, dec_t, dec_f, wrap_i64, wrap_u32, wrap_u64, wrap_u8]
    rw [Nat.zero_add, List.nil_append] at h2
    exact ⟨v2, h2, rfl⟩

theorem aset_new {κ α : Type} [DecidableEq κ] {x : κ} {v : α} : ∀ {l : List (κ × α)}, agt x l = none → aset x v l = l ++ [(x, v)]
  | [], _ => rfl
  | (y, u) :: l, h => by
    simp only [agt] at h
    split at h
    · cases h
    · rename_i hx
      simp only [aset, if_neg hx, aset_new h, List.cons_append]

theorem cloneWaits_any {w0 w : World} {A : HP} {C : HP → HP} {b : Nat} {l : List (Int × Value)} (h : St w0 A w) [i : Hole (.map b) A (MapP encI b l) C] :
    Calls Try.prog 55 #[.map (some b)] w fun e w' => ∃ b2, St w0 (MapP encI b2 l * A) w' ∧ e = .returned (.map (some b2)) := by
  obtain ⟨es, clock, hb, h1⟩ := h.copyMap (b := b)
  refine (AnyW.maps_Clone cloneL b es clock w hb).mono ?_
  rintro e w' ⟨rfl, rfl⟩
  exact ⟨_, h1, rfl⟩

end
section
attribute [local go_sem] F38.t4_eq F38.t6_eq
theorem clone_any {w0 w : World} {F : HP} {B : Nat} {ls : List (Nam × LkS)} {ws : List (Int × Nee)} (h : St w0 (TabP B ls ws * F) w) (hT : tot ls < 1099511627776) :
    Calls Try.prog 38 #[.pointer (some ⟨B, 0, none⟩)] w fun e w' => ∃ B2 ls2, ls2.Perm ls ∧ St w0 (TabP B2 ls2 ws * (TabP B ls ws * F)) w' ∧ e = .returned (.pointer (some ⟨B2, 0, none⟩)) := by
  obtain ⟨m1, m2, ps, hps, h1⟩ := TabP.open h
  rw [TabQ_eq] at h1
  refine F38.calls (by simp) ?_
  unfold F38.code
  simp -dsimp -implicitDefEqProofs (disch := omega) only [go_sem, reqD_of, dec_t, dec_f, wrap_i64, wrap_u32, wrap_u64, wrap_u8]
  refine St.makeMap (enc := namV) h1 fun b1 w1 h2 => ?_
  simp -dsimp -implicitDefEqProofs (disch := omega) only [go_sem, reqD_of, dec_t, dec_f, wrap_i64, wrap_u32, wrap_u64, wrap_u8, h2.cl]
  refine (cloneWaits_any (b := m2) h2).mono ?_
  rintro e' w2 ⟨b2, h3, rfl⟩
  simp -dsimp -implicitDefEqProofs (disch := omega) only [go_sem, reqD_of, dec_t, dec_f, wrap_i64, wrap_u32, wrap_u64, wrap_u8]
  refine onV_of (v := .agg #[.map (some b1), .map (some b2)]) rfl ?_
  simp -dsimp -implicitDefEqProofs (disch := omega) only [go_sem, reqD_of, dec_t, dec_f, wrap_i64, wrap_u32, wrap_u64, wrap_u8]
  refine h3.new fun B2 w3 h4 => ?_
  simp -dsimp -implicitDefEqProofs (disch := omega) only [go_sem, reqD_of, dec_t, dec_f, wrap_i64, wrap_u32, wrap_u64, wrap_u8, h4.cl B]
  have hkeys : (ps.map (·.1)).Nodup := by
    have := h4.mapNodup m1
    rwa [amap_keys] at this
  refine h4.rangeH (b := m1) Try.underlying63 fun r w4 h5 => ?_
  simp -dsimp -implicitDefEqProofs (disch := omega) only [go_sem, reqD_of, dec_t, dec_f, wrap_i64, wrap_u32, wrap_u64, wrap_u8]
  refine loop_intro (fun e w' => e.ds = [] ∧ e.ρ 3 = .pointer (some ⟨B2, 0, none⟩) ∧ e.ρ 18 = .pointer (some ⟨r, 0, none⟩) ∧ ∃ (done left ps2 : Ptrs), (done ++ left).Perm ps ∧ amap (·.2) ps2 = amap (·.2) done ∧
      St w0 (Blk B2 (.cells #[.map (some b1), .map (some b2)] 66 (0, 0)) * (MapP namV b1 (amap ptrV ps2) * (MapP encI b2 (amap needV ws) * (lksP ps2 * (Blk B (.cells #[.map (some m1), .map (some m2)] 66 (0, 0)) * (IterP namV m1 r (amap ptrV ps) (amap ptrV left) * (MapP encI m2 (amap needV ws) * (lksP ps * F)))))))) w')
    (fun _ w => iterLeft m1 r w) ?_ ?_
  · refine ⟨rfl, by simp -dsimp -implicitDefEqProofs only [go_sem], by simp -dsimp -implicitDefEqProofs only [go_sem], [], ps, [], .refl _, rfl, ?_⟩
    have h6 := h5.ent (Ent.empL _)
    exact St.sub (B := Blk B2 (.cells #[.map (some b1), .map (some b2)] 66 (0, 0)) * (MapP namV b1 [] * (MapP encI b2 (amap needV ws) * (EmpH * (Blk B (.cells #[.map (some m1), .map (some m2)] 66 (0, 0)) * (IterP namV m1 r (amap ptrV ps) (amap ptrV ps) * (MapP encI m2 (amap needV ws) * (lksP ps * F)))))))) h6
  rintro e w5 ⟨hd, e3, e18, done, left, ps2, hperm, hps2, h6⟩
  simp -dsimp -implicitDefEqProofs (disch := omega) only [go_sem, reqD_of, dec_t, dec_f, wrap_i64, wrap_u32, wrap_u64, wrap_u8, hd, e18]
  refine h6.nextP m1 (fun hl => ?_) (fun x rest w6 hx h7 => ?_)
  · subst hl
    rw [List.append_nil] at hperm
    have h7 := h6.iterEnd m1
    have h8 := TabP.col (B := B2) (m1 := b1) (m2 := b2) (ps := ps2) (ls := amap (·.2) ps2) (ws := ws) h7 rfl
    have h9 := (TabP.col (B := B) (m1 := m1) (m2 := m2) (ws := ws) h8 hps).sw2
    simp -dsimp -implicitDefEqProofs (disch := omega) only [go_sem, reqD_of, dec_t, dec_f, wrap_i64, wrap_u32, wrap_u64, wrap_u8, hd, e3]
    refine ⟨B2, amap (·.2) ps2, ?_, h9.sub, rfl⟩
    rw [hps2, ← hps]
    exact hperm.map _
  obtain ⟨nm, b, s⟩ := x
  simp -dsimp -implicitDefEqProofs (disch := omega) only [go_sem, reqD_of, dec_t, dec_f, wrap_i64, wrap_u32, wrap_u64, wrap_u8, hd, e18]
  refine h7.entryH m1 ?_
  have h8 := h7.iterDone m1
  have hmem : (nm, (b, s)) ∈ ps := hperm.mem_iff.1 (List.mem_append_right _ (hx.mem_iff.1 (by simp)))
  have hk := agt_of_mem hkeys hmem
  have hpm : ((done ++ [(nm, (b, s))]) ++ rest).Perm ps := by
    rw [List.append_assoc]
    exact (List.Perm.append_left done hx).trans hperm
  have hnew : agt nm ps2 = none := by
    have hnd : nm ∉ done.map (·.1) := by
      have h9 := (hpm.map (·.1)).nodup_iff.2 hkeys
      rw [List.map_append, List.map_append] at h9
      have h10 := (List.nodup_append.1 h9).1
      intro hm
      exact (List.nodup_append.1 h10).2.2 nm hm nm (by simp) rfl
    have h9 : agt nm (amap (·.2) done) = none := by rw [agt_amap, agt_none_of_notin hnd]; rfl
    rw [← hps2, agt_amap] at h9
    simpa using h9
  have hmeas : ∀ {A : HP} {C : HP → HP} {w' : World} [Hole (.map m1) A (IterP namV m1 r (amap ptrV ps) (amap ptrV rest)) C], St w0 A w' → iterLeft m1 r w' < iterLeft m1 r w5 := by
    intro A C w' _ hw'
    rw [hw'.iterLeft m1, h6.iterLeft m1]
    have := hx.length_eq
    simp only [amap, List.length_map]
    simp at this
    omega
  have hsl : s.1.length + s.2.length ≤ tot ls := by
    have := tot_mem (p := (nm, s)) (ls := ls) (by rw [← hps]; exact List.mem_map.2 ⟨(nm, (b, s)), hmem, rfl⟩)
    exact this
  simp -dsimp -implicitDefEqProofs (disch := omega) only [go_sem, reqD_of, dec_t, dec_f, wrap_i64, wrap_u32, wrap_u64, wrap_u8, hd]
  refine h8.new fun X w7 h9 => ?_
  simp -dsimp -implicitDefEqProofs (disch := omega) only [go_sem, reqD_of, dec_t, dec_f, wrap_i64, wrap_u32, wrap_u64, wrap_u8, hd]
  refine h9.stoAll (cs := namC nm) rfl rfl (namC_cells _) fun w8 h10 => ?_
  have h11 := h10.drew
  rw [lks_open hk] at h11
  obtain ⟨v1, v2, h12⟩ := LkP.openH (b := b) h11
  have hb := LkQ.clH h12 b
  have hX : rowV w8.drew ⟨X, 0, none⟩ 3 = some (namV nm) := h12.rowH X 3 rfl
  have hB2 := h12.cl B2
  simp -dsimp -implicitDefEqProofs (disch := omega) only [go_sem, reqD_of, dec_t, dec_f, wrap_i64, wrap_u32, wrap_u64, wrap_u8, hd, e3, e18, ptrV, hb, hX, hB2]
  refine (cloneClaims_any (v := v1) (l := s.1) h12 Gives.ent (by omega)).mono ?_
  rintro e' w9 ⟨v1', h13, rfl⟩
  have hb := LkQ.clH h13 b
  have hX := h13.cl X
  simp only [namC] at hX
  have hB2 := h13.cl B2
  simp -dsimp -implicitDefEqProofs (disch := omega) only [go_sem, reqD_of, dec_t, dec_f, wrap_i64, wrap_u32, wrap_u64, wrap_u8, hd, e3, e18, ptrV, hb, hX, hB2]
  refine ⟨rfl, ?_⟩
  refine (cloneClaims_any (v := v2) (l := s.2) h13 Gives.ent (by omega)).mono ?_
  rintro e' w10 ⟨v2', h14, rfl⟩
  have hb := LkQ.clH h14 b
  have hX := h14.cl X
  simp only [namC] at hX
  have hB2 := h14.cl B2
  obtain ⟨a1, c1, rfl, _⟩ := h14.rowForm v1'
  obtain ⟨a2, c2, rfl, _⟩ := h14.rowForm v2'
  simp -dsimp -implicitDefEqProofs (disch := omega) only [go_sem, reqD_of, dec_t, dec_f, wrap_i64, wrap_u32, wrap_u64, wrap_u8, hd, e3, e18, ptrV, hb, hX, hB2]
  refine ⟨rfl, ?_⟩
  refine onV_of (v := .agg #[.slice a1 s.1.length c1, .slice a2 s.2.length c2]) rfl ?_
  simp -dsimp -implicitDefEqProofs (disch := omega) only [go_sem, reqD_of, dec_t, dec_f, wrap_i64, wrap_u32, wrap_u64, wrap_u8]
  refine h14.new fun b' w11 h15 => ?_
  have hX := h15.cl X
  simp only [namC] at hX
  have hB2 := h15.cl B2
  simp -dsimp -implicitDefEqProofs (disch := omega) only [go_sem, reqD_of, dec_t, dec_f, wrap_i64, wrap_u32, wrap_u64, wrap_u8, hd, e3, e18, hX, hB2]
  refine ⟨rfl, ?_⟩
  refine h15.updH (b := b1) Try.underlying63 lawN fun w12 h16 => ?_
  have h17 := LkQ.shutH h16 b
  rw [show LkP b (s.1, s.2) = LkP b s from rfl, ← lks_open hk, show (Value.pointer (some ⟨b', 0, none⟩)) = ptrV (b', s) from rfl, upd_amap] at h17
  simp -dsimp -implicitDefEqProofs (disch := omega) only [go_sem, reqD_of, dec_t, dec_f, wrap_i64, wrap_u32, wrap_u64, wrap_u8, hd, e3, e18]
  refine ⟨⟨done ++ [(nm, (b, s))], rest, aset nm (b', s) ps2, hpm, ?_, ?_⟩, hmeas h17⟩
  · rw [aset_new hnew, amap_app, amap_app, hps2]; rfl
  · have h18 : St w0 ((Blk b' (.cells #[.slice a1 s.1.length c1, .slice a2 s.2.length c2] 71 (0, 0)) * (RowO 74 2 (.slice a1 s.1.length c1) s.1.length (clR s.1) * RowO 74 2 (.slice a2 s.2.length c2) s.2.length (clR s.2))) * (Blk B2 (.cells #[.map (some b1), .map (some b2)] 66 (0, 0)) * (MapP namV b1 (amap ptrV (aset nm (b', s) ps2)) * (MapP encI b2 (amap needV ws) * (lksP ps2 * (Blk B (.cells #[.map (some m1), .map (some m2)] 66 (0, 0)) * (IterP namV m1 r (amap ptrV ps) (amap ptrV rest) * (MapP encI m2 (amap needV ws) * (lksP ps * F))))))))) w12 := by
      refine St.ac (St.sub (B := Blk b' (.cells #[.slice a1 s.1.length c1, .slice a2 s.2.length c2] 71 (0, 0)) * (RowO 74 2 (.slice a1 s.1.length c1) s.1.length (clR s.1) * (RowO 74 2 (.slice a2 s.2.length c2) s.2.length (clR s.2) * (Blk B2 (.cells #[.map (some b1), .map (some b2)] 66 (0, 0)) * (MapP namV b1 (amap ptrV (aset nm (b', s) ps2)) * (MapP encI b2 (amap needV ws) * (lksP ps2 * (Blk B (.cells #[.map (some m1), .map (some m2)] 66 (0, 0)) * (IterP namV m1 r (amap ptrV ps) (amap ptrV rest) * (MapP encI m2 (amap needV ws) * (lksP ps * F))))))))))) h17) ?_
      ac_rfl
    have h19 := h18.ent (Ent.sep (LkQ.shut b' _ _ s.1 s.2) (Ent.rfl' _))
    have e1 : lksP (aset nm (b', s) ps2) = LkP b' s * lksP ps2 := stars_new (fun p : Nam × (Nat × LkS) => LkP p.2.1 p.2.2) nm (b', s) ps2 hnew
    rw [e1]
    exact h19.ac (by ac_rfl)

end
end Go.Proofs.Ytacmnfpgimgigaa

namespace Go.Proofs.Ytacmnfpgimgigaa
open Go
set_option linter.unusedSimpArgs false
set_option linter.unusedVariables false
set_option maxRecDepth 100000

theorem agt_perm {κ α : Type} [DecidableEq κ] {l l' : List (κ × α)} (hp : l.Perm l') (hn : (l'.map (·.1)).Nodup) (x : κ) : agt x l = agt x l' := by
  have hn' : (l.map (·.1)).Nodup := (hp.map (·.1)).nodup_iff.2 hn
  cases h : agt x l' with
  | some v => exact agt_of_mem hn' (hp.mem_iff.2 (mem_of_agt h))
  | none =>
    cases h2 : agt x l with
    | none => rfl
    | some v => rw [agt_of_mem hn (hp.mem_iff.1 (mem_of_agt h2))] at h; cases h
theorem tot_perm {l l' : List (Nam × LkS)} (hp : l.Perm l') : tot l = tot l' := by
  induction hp with
  | nil => rfl
  | cons x _ ih => simp only [tot, List.map_cons, List.sum_cons] at ih ⊢; rw [ih]
  | swap x y l => simp only [tot, List.map_cons, List.sum_cons]; omega
  | trans _ _ h1 h2 => rw [h1, h2]

section
variable {ls ls2 : List (Nam × LkS)} {ws : List (Int × Nee)}
theorem Inv.perm (v : Inv ls ws) (hp : ls2.Perm ls) : Inv ls2 ws := by
  have ha := agt_perm hp v.kn
  refine ⟨(hp.map (·.1)).nodup_iff.2 v.kn, v.wn, fun x s h => v.ok x s (by rw [← ha]; exact h), fun x s h => v.ne x s (by rw [← ha]; exact h), fun x s c q h => v.hd x s c q (by rw [← ha]; exact h), fun x s w a h => v.qw x s w a (by rw [← ha]; exact h), fun w x a h => ?_⟩
  obtain ⟨s, hs, hm⟩ := v.wq w x a h
  exact ⟨s, by rw [ha]; exact hs, hm⟩
theorem Closed.congr (ha : ∀ x, agt x ls2 = agt x ls) {S : Int → Prop} (c : Closed ls ws S) : Closed ls2 ws S := by
  intro p hp
  obtain ⟨x, a, q, h1, h2, h3⟩ := c p hp
  exact ⟨x, a, q, h1, h2, by unfold hsK at h3 ⊢; rw [ha]; exact h3⟩
theorem stk_congr (ha : ∀ x, agt x ls2 = agt x ls) (p : Int) : Stk ls2 ws p ↔ Stk ls ws p :=
  ⟨fun ⟨S, c, h⟩ => ⟨S, c.congr fun x => (ha x).symm, h⟩, fun ⟨S, c, h⟩ => ⟨S, c.congr ha, h⟩⟩
end

/-! ### How many wait -/
theorem adel_len {κ α : Type} [DecidableEq κ] (x : κ) (l : List (κ × α)) : (adel x l).length ≤ l.length := by
  have := (adel_keys x l).length_le
  simpa using this
theorem delAll_len : ∀ (l : List Claim) (ws : List (Int × Nee)), (delAll l ws).length ≤ ws.length
  | [], ws => Nat.le_refl _
  | c :: l, ws => Nat.le_trans (delAll_len l (adel c.1 ws)) (adel_len c.1 ws)
theorem turnS_wlen (x : Nam) (s : LkS) (ls : List (Nam × LkS)) (ws : List (Int × Nee)) : (turnS x s ls ws).2.2.length ≤ ws.length := delAll_len _ _
theorem freeS_wlen (who : Int) (x : Nam) (ls : List (Nam × LkS)) (ws : List (Int × Nee)) : (freeS who x ls ws).2.2.length ≤ ws.length := by
  cases h : agt x ls with
  | none => rw [freeS_no (by simp [h])]; exact Nat.le_refl _
  | some s =>
    rcases posC_spec who s.1 0 with hp | ⟨i, hi, hp⟩
    · rw [freeS_no (by intro s' hs'; rw [h] at hs'; cases hs'; omega)]; exact Nat.le_refl _
    · rw [Nat.zero_add] at hp
      rw [freeS_turn h hp]
      exact turnS_wlen _ _ _ _
theorem leaveL_wlen (who : Int) : ∀ (L : List Nee) (ls : List (Nam × LkS)) (ws : List (Int × Nee)), (leaveL who L ls ws).2.2.length ≤ ws.length
  | [], ls, ws => Nat.le_refl _
  | n :: L, ls, ws => Nat.le_trans (leaveL_wlen who L _ _) (freeS_wlen who n.1 ls ws)
theorem leaveS_wlen (who : Int) (ls : List (Nam × LkS)) (ws : List (Int × Nee)) : (leaveS who ls ws).2.2.length ≤ ws.length := by
  have h1 : (leave1 who ls ws).2.2.length ≤ ws.length := by
    unfold leave1
    split
    · exact Nat.le_refl _
    · split
      · exact Nat.le_refl _
      · exact Nat.le_trans (turnS_wlen _ _ _ _) (adel_len _ _)
  exact Nat.le_trans (leaveL_wlen _ _ _ _) h1

/-! ### Stuck -/
def StuckIs (ls : List (Nam × LkS)) (ws : List (Int × Nee)) (l : List Int) : Prop := l.Pairwise (· < ·) ∧ ∀ p, p ∈ l ↔ Stk ls ws p

theorem sorted_lt {l : List Int} (hn : l.Nodup) : (l.mergeSort fun a b => decide (a ≤ b)).Pairwise (· < ·) := by
  have h1 : (l.mergeSort fun a b => decide (a ≤ b)).Pairwise fun a b => decide (a ≤ b) = true := List.pairwise_mergeSort (fun a b c h1 h2 => by simp at *; omega) (fun a b => by simp; omega) l
  have h2 : (l.mergeSort fun a b => decide (a ≤ b)).Nodup := (List.mergeSort_perm _ _).nodup_iff.2 hn
  exact (h1.and h2).imp fun ⟨h3, h4⟩ => by simp at h3; omega


theorem sorted_any {w0 w : World} {F : HP} {Bx m : Nat} {l : List (Int × Value)} (h : St w0 (BoxM Bx m * (MapP encI m l * F)) w) (hl : l.length < 1099511627776) :
    Calls Try.prog 40 #[.func (.func 58) #[] #[.pointer (some ⟨Bx, 0, none⟩)]] w fun e w' => ∃ (v : Value) (xs : List Int), xs.Perm (l.map (·.1)) ∧ St w0 (RowO 3 1 v xs.length (intR (xs.mergeSort fun a b => decide (a ≤ b))) * (BoxM Bx m * (MapP encI m l * F))) w' ∧ e = .returned v := by
  refine F40.calls (by simp) ?_
  unfold F40.code
  simp -dsimp -implicitDefEqProofs (disch := omega) only [go_sem, reqD_of, dec_t, dec_f, wrap_i64, wrap_u32, wrap_u64, wrap_u8]
  refine (collect_any h hl).mono ?_
  rintro e' w1 ⟨v, xs, hp, h1, rfl⟩
  have hxl : xs.length = l.length := by have := hp.length_eq; simpa using this
  simp -dsimp -implicitDefEqProofs (disch := omega) only [go_sem, reqD_of, dec_t, dec_f, wrap_i64, wrap_u32, wrap_u64, wrap_u8]
  refine (St.sortInts (P := Try.prog) sortIntL (T := 3) (l := xs) (v := v) (by simpa [intR] using h1) (by omega)).mono ?_
  rintro e w3 ⟨h2, rfl⟩
  simp -dsimp -implicitDefEqProofs (disch := omega) only [go_sem, reqD_of, dec_t, dec_f, wrap_i64, wrap_u32, wrap_u64, wrap_u8]
  exact ⟨v, xs, hp, h2, rfl⟩

/-- The play, so far: n claims are left. -/
def PlayI (w0 : World) (B2 : Nat) (ls : List (Nam × LkS)) (ws : List (Int × Nee)) (G : HP) (n : Nat) (e : FA) (w : World) : Prop :=
  e.ds = [] ∧ e.ρ 3 = .pointer (some ⟨B2, 0, none⟩) ∧ ∃ (ls' : List (Nam × LkS)) (ws' : List (Int × Nee)) (a b : Value), tot ls' = n ∧ Inv ls' ws' ∧ (∀ p, Stk ls' ws' p ↔ Stk ls ws p) ∧ tot ls' ≤ tot ls ∧ ls'.length ≤ ls.length ∧ ws'.length ≤ ws.length ∧ e.ρ 4 = a ∧ e.ρ 5 = b ∧ FreeOk ls' ws' (.returned (.tuple #[a, b])) ∧ St w0 (TabP B2 ls' ws' * G) w

section
attribute [local go_sem] F23.t4_eq F23.t5_eq F23.t6_eq
theorem stuck_any {w0 w : World} {F : HP} {B : Nat} {ls : List (Nam × LkS)} {ws : List (Int × Nee)} (v : Inv ls ws) (h : St w0 (TabP B ls ws * F) w) (hT : tot ls < 1073741824) (hL : ls.length < 1073741824) (hW : ws.length < 1073741824) :
    Calls Try.prog 23 #[.pointer (some ⟨B, 0, none⟩)] w fun e w' => ∃ v l, StuckIs ls ws l ∧ St w0 (RowO 3 1 v l.length (intR l) * (TabP B ls ws * F)) w' ∧ e = .returned v := by
  refine F23.calls (by simp) ?_
  unfold F23.code
  simp -dsimp -implicitDefEqProofs (disch := omega) only [go_sem, reqD_of, dec_t, dec_f, wrap_i64, wrap_u32, wrap_u64, wrap_u8]
  refine (clone_any h (by omega)).mono ?_
  rintro e' w1 ⟨B2, ls2, hp, h1, rfl⟩
  have ht2 := tot_perm hp
  have hl2 := hp.length_eq
  have v2 := v.perm hp
  simp -dsimp -implicitDefEqProofs (disch := omega) only [go_sem, reqD_of, dec_t, dec_f, wrap_i64, wrap_u32, wrap_u64, wrap_u8]
  refine (freeSome_any h1 (fun p hp => by have := tot_mem hp; omega)).mono ?_
  rintro e' w2 ⟨h2, hf⟩
  obtain ⟨a, b, rfl⟩ : ∃ a b, e' = .returned (.tuple #[a, b]) := by
    rcases hf with ⟨who, x, s, h, _⟩ | ⟨h, _⟩
    · exact ⟨_, _, h⟩
    · exact ⟨_, _, h⟩
  simp -dsimp -implicitDefEqProofs (disch := omega) only [go_sem, reqD_of, dec_t, dec_f, wrap_i64, wrap_u32, wrap_u64, wrap_u8]
  refine loop_rank (PlayI w0 B2 ls2 ws (TabP B ls ws * F)) (tot ls2) ⟨by simp -dsimp -implicitDefEqProofs only [go_sem], by simp -dsimp -implicitDefEqProofs only [go_sem], ls2, ws, a, b, rfl, v2, fun _ => Iff.rfl, Nat.le_refl _, Nat.le_refl _, Nat.le_refl _, by simp -dsimp -implicitDefEqProofs only [go_sem], by simp -dsimp -implicitDefEqProofs only [go_sem], hf, h2⟩ ?_
  rintro e w3 ⟨hd, e3, ls', ws', a, b, hn, v', hst, ht', hl', hw', e4, e5, hf', h3⟩
  rcases hf' with ⟨who, x, s, hab, hs, hm, hwn⟩ | ⟨hab, hend⟩
  · simp only [Ending.returned.injEq, Value.tuple.injEq, Array.mk.injEq, List.cons.injEq, and_true] at hab
    obtain ⟨rfl, rfl⟩ := hab
    simp -dsimp -implicitDefEqProofs (disch := omega) only [go_sem, reqD_of, dec_t, dec_f, wrap_i64, wrap_u32, wrap_u64, wrap_u8, hd, e3, e4, e5]
    refine (leave_any h3 (fun n hn => by rw [hwn] at hn; cases hn) (by omega) (by omega)).mono ?_
    rintro e' w4 hq
    obtain ⟨va, h4, rfl⟩ := hq
    obtain ⟨t1, _, t3⟩ := leaveS_tot who ls' ws'
    have t4 := leaveS_wlen who ls' ws'
    have h5 : St w0 (TabP B2 (leaveS who ls' ws').2.1 (leaveS who ls' ws').2.2 * (TabP B ls ws * F)) w4 := h4.right
    simp -dsimp -implicitDefEqProofs (disch := omega) only [go_sem, reqD_of, dec_t, dec_f, wrap_i64, wrap_u32, wrap_u64, wrap_u8, hd, e3, e4, e5]
    refine (freeSome_any h5 (fun p hp => by have := tot_mem hp; omega)).mono ?_
    rintro e' w5 ⟨h6, hf⟩
    obtain ⟨a, b, rfl⟩ : ∃ a b, e' = .returned (.tuple #[a, b]) := by
      rcases hf with ⟨who, x, s, h, _⟩ | ⟨h, _⟩
      · exact ⟨_, _, h⟩
      · exact ⟨_, _, h⟩
    simp -dsimp -implicitDefEqProofs (disch := omega) only [go_sem, reqD_of, dec_t, dec_f, wrap_i64, wrap_u32, wrap_u64, wrap_u8, hd, e3, e4, e5]
    refine rank_down (m := tot (leaveS who ls' ws').2.1) ⟨by simp -dsimp -implicitDefEqProofs only [go_sem, hd], by simp -dsimp -implicitDefEqProofs only [go_sem, e3], _, _, a, b, rfl, v'.leave who, fun p => (stk_leave v' hwn p).trans (hst p), by omega, by omega, by omega, by simp -dsimp -implicitDefEqProofs only [go_sem], by simp -dsimp -implicitDefEqProofs only [go_sem], hf, h6⟩ ?_
    rw [← hn]
    exact leave_lt v' hwn hs hm
  · simp only [Ending.returned.injEq, Value.tuple.injEq, Array.mk.injEq, List.cons.injEq, and_true] at hab
    obtain ⟨rfl, rfl⟩ := hab
    obtain ⟨m1, m2, ps, hps, h4⟩ := TabP.open h3
    rw [TabQ_eq] at h4
    simp -dsimp -implicitDefEqProofs (disch := omega) only [go_sem, reqD_of, dec_t, dec_f, wrap_i64, wrap_u32, wrap_u64, wrap_u8, hd, e3, e4, e5, h4.cl B2]
    refine F41.calls (by simp) ?_
    unfold F41.code
    simp -dsimp -implicitDefEqProofs (disch := omega) only [go_sem, reqD_of, dec_t, dec_f, wrap_i64, wrap_u32, wrap_u64, wrap_u8]
    refine h4.new fun Bx w4 h5 => ?_
    simp -dsimp -implicitDefEqProofs (disch := omega) only [go_sem, reqD_of, dec_t, dec_f, wrap_i64, wrap_u32, wrap_u64, wrap_u8]
    have h6 : St w0 (BoxM Bx m2 * (MapP encI m2 (amap needV ws') * (TabP B ls ws * F))) w4 := h5.sub
    refine (sorted_any h6 (by simp only [amap, List.length_map]; omega)).mono ?_
    rintro e' w5 ⟨va, xs, hpx, h7, rfl⟩
    simp -dsimp -implicitDefEqProofs (disch := omega) only [go_sem, reqD_of, dec_t, dec_f, wrap_i64, wrap_u32, wrap_u64, wrap_u8, hd]
    rw [amap_keys] at hpx
    have hxn : xs.Nodup := hpx.nodup_iff.2 v'.wn
    refine ⟨va, xs.mergeSort fun a b => decide (a ≤ b), ⟨sorted_lt hxn, fun p => ?_⟩, ?_, rfl⟩
    · rw [List.mem_mergeSort, hpx.mem_iff, ← stk_congr (agt_perm hp v.kn) p, ← hst p, stk_end v' hend p, agt_isSome_iff]
    · rw [List.length_mergeSort]
      exact h7.sub

end
end Go.Proofs.Ytacmnfpgimgigaa

namespace Go.Proofs.Ytacmnfpgimgigaa
open Go
set_option linter.unusedSimpArgs false
set_option linter.unusedVariables false
set_option maxRecDepth 100000

/-- The pointer moves over one who is gone, then over the next. -/
theorem skip_step {g c : Int} {row p more : List Int} {at' : Nat} (hn : row.Nodup) (h : (row.filter fun a => !decide (a = g)) = p ++ c :: more) (hl : at' ≤ row.length) (hat : ((row.take at').filter fun a => !decide (a = g)) = p) :
    (row[at']? = some g → row[at' + 1]? = some c ∧ ((row.take (at' + 2)).filter fun a => !decide (a = g)) = p ++ [c]) ∧ (row[at']? ≠ some g → row[at']? = some c ∧ ((row.take (at' + 1)).filter fun a => !decide (a = g)) = p ++ [c]) := by
  have hsp : row = row.take at' ++ row.drop at' := (List.take_append_drop at' row).symm
  have hd : ((row.drop at').filter fun a => !decide (a = g)) = c :: more := by
    rw [hsp, List.filter_append, hat] at h
    exact List.append_cancel_left h
  have hnd : (row.drop at').Nodup := (List.drop_sublist at' row).nodup hn
  have hcg : c ≠ g := by
    have : c ∈ (row.drop at').filter fun a => !decide (a = g) := by rw [hd]; simp
    simpa using (List.mem_filter.1 this).2
  have h0 : row[at']? = (row.drop at')[0]? := by rw [List.getElem?_drop]; rfl
  have h1 : row[at' + 1]? = (row.drop at')[1]? := by rw [List.getElem?_drop]
  have t1 : ∀ n, row.take (at' + n) = row.take at' ++ (row.drop at').take n := fun n => by
    rw [List.take_add]
  rw [h0, h1, t1 2, t1 1]
  cases hr : row.drop at' with
  | nil => rw [hr] at hd; cases hd
  | cons x l =>
    rw [hr] at hd hnd
    simp only [List.getElem?_cons_zero, Option.some.injEq, List.getElem?_cons_succ, ne_eq]
    have hnd' := List.nodup_cons.1 hnd
    refine ⟨fun hx => ?_, fun hx => ?_⟩
    · subst hx
      rw [List.filter_cons, if_neg (by simp)] at hd
      cases l with
      | nil => cases hd
      | cons y l =>
        have hy : y ≠ x := fun e => hnd'.1 (by simp [e])
        rw [List.filter_cons, if_pos (by simpa using hy)] at hd
        simp only [List.cons.injEq] at hd
        refine ⟨by simp [hd.1], ?_⟩
        rw [List.filter_append, hat]
        simp [hd.1, hcg]
    · rw [List.filter_cons, if_pos (by simpa using hx)] at hd
      simp only [List.cons.injEq] at hd
      refine ⟨hd.1, ?_⟩
      rw [List.filter_append, hat]
      simp [hd.1, hcg]

/-- Six rows of numbers, the last made first. -/
def rowsP : List (Value × List Int) → HP
  | [] => EmpH
  | (v, xs) :: l => RowO 3 1 v xs.length (intR xs) * rowsP l
theorem rowsP_reads : ∀ {rs : List (Value × List Int)} {v : Value} {xs : List Int}, (v, xs) ∈ rs → Ent (rowsP rs) (Reads 1 v xs.length (intR xs))
  | p :: rs, v, xs, h => by
    rcases List.mem_cons.1 h with rfl | h
    · exact (Ent.left _ _).trans (RowO.reads _ _ _ _ _)
    · exact (Ent.right _ _).trans (rowsP_reads h)

def cellsV (rs : List (Value × List Int)) : List Value := rs.reverse.map (·.1)
theorem cellsV_cons (p : Value × List Int) (rs : List (Value × List Int)) : cellsV (p :: rs) = cellsV rs ++ [p.1] := by simp [cellsV]
theorem cellsV_length (rs : List (Value × List Int)) : (cellsV rs).length = rs.length := by simp [cellsV]

/-- A cell of a row that is read. -/
theorem St.readAt {w0 w : World} {s n : Nat} {v : Value} {xs : List Value} (h : St w0 (Reads s v n xs) w) : xs.length = n * s ∧ ∃ a c, v = .slice a n c ∧ n ≤ c ∧ ∀ j x, xs[j]? = some x → ∃ b o, a = some ⟨b, o, none⟩ ∧ w.cell? ⟨b, o + j, none⟩ = some x := by
  have r := h.rd
  obtain ⟨a, c, rfl, hnc, hr⟩ := r.form
  refine ⟨r.length, a, c, rfl, hnc, fun j x hj => ?_⟩
  rcases hr with hr | ⟨b, o, rfl, hr⟩
  · rw [hr] at hj; cases hj
  · have hjl := (List.getElem?_eq_some_iff.1 hj).1
    exact ⟨b, o, rfl, by rw [hr j hjl]; exact hj⟩

/-- What the law asks of each row in the end. -/
def sk (gone what : Int) (a : Int) : Bool := !(decide (a = gone) && decide (what = 3))
def FinRow (gone what : Int) (row : List Int) (at' : Nat) (q : List Int) : Prop := at' ≤ row.length ∧ ∃ extra, ((row.drop at').filter (sk gone what)) ++ extra = q ∧ (2 ≤ what → extra = [])

end Go.Proofs.Ytacmnfpgimgigaa

namespace Go.Proofs.Ytacmnfpgimgigaa
open Go
set_option linter.unusedSimpArgs false
set_option linter.unusedVariables false
set_option maxRecDepth 100000

theorem filter_at {α : Type} {p : α → Bool} {l : List α} {j : Nat} {x : α} (h : l[j]? = some x) (hp : p x = true) : (l.filter p)[((l.take j).filter p).length]? = some x ∧ ((l.take (j + 1)).filter p).length = ((l.take j).filter p).length + 1 := by
  obtain ⟨hj, rfl⟩ := List.getElem?_eq_some_iff.1 h
  have e : l = l.take j ++ l[j] :: l.drop (j + 1) := by rw [← List.drop_eq_getElem_cons hj, List.take_append_drop]
  constructor
  · rw [show (l.filter p) = (l.take j).filter p ++ l[j] :: (l.drop (j + 1)).filter p by
      conv => lhs; rw [e]
      rw [List.filter_append, List.filter_cons, if_pos hp]]
    rw [List.getElem?_append_right (Nat.le_refl _), Nat.sub_self]; rfl
  · rw [List.take_succ_eq_append_getElem hj, List.filter_append, List.length_append]
    simp [hp]
theorem filter_not {α : Type} {p : α → Bool} {l : List α} {j : Nat} {x : α} (h : l[j]? = some x) (hp : p x = false) : ((l.take (j + 1)).filter p).length = ((l.take j).filter p).length := by
  obtain ⟨hj, rfl⟩ := List.getElem?_eq_some_iff.1 h
  rw [List.take_succ_eq_append_getElem hj, List.filter_append, List.length_append]
  simp [hp]

/-- The slots that count. -/
def S5 (e : FA) (v0 : Value) (B i : Nat) (vR : Value) (gone : Int) (vA : Value) : Prop :=
  e.ds = [] ∧ e.ρ 0 = v0 ∧ e.ρ 4 = .pointer (some ⟨B, 0, none⟩) ∧ e.ρ 5 = .int .i64 i ∧ e.ρ 6 = vR ∧ e.ρ 14 = .int .i64 gone ∧ e.ρ 15 = vA
def G5 (B : Nat) (ls : List (Nam × LkS)) (ws : List (Int × Nee)) (vR vA : Value) (rs : List (Value × List Int)) (ats : List Int) (F : HP) : HP :=
  RowO 3 1 vA 6 (intR ats) * (TabP B ls ws * (RowO 34 1 vR 6 (cellsV rs) * (rowsP rs * F)))
instance (B : Nat) (ls : List (Nam × LkS)) (ws : List (Int × Nee)) (vR vA : Value) (rs : List (Value × List Int)) (ats : List Int) (F : HP) : Face (.obj 0) (G5 B ls ws vR vA rs ats F) := ⟨⟩

theorem rows_at {rs : List (Value × List Int)} {k : Nat} {v : Value} {xs : List Int} (h : rs.reverse[k]? = some (v, xs)) : (v, xs) ∈ rs ∧ (cellsV rs)[k]? = some v := by
  refine ⟨by have := List.mem_of_getElem? h; simpa using this, ?_⟩
  unfold cellsV
  rw [List.getElem?_map, h]; rfl

section
attribute [local go_sem] F5.t14_eq F5.t15_eq F5.t18_eq F5.t19_eq F5.t41_eq F5.t37_eq F5.t34_eq F5.t30_eq F5.t27_eq F5.t28_eq F5.t55_eq F5.t53_eq F5.t51_eq F5.t52_eq F5.t56_eq F5.t44_eq F5.t45_eq F5.t42_eq F5.t23_eq F5.t21_eq F5.t16_eq F5.t9_eq F5.t10_eq F5.t58_eq F5.t7_eq F5.t3_eq
theorem first_53 {Q : Post} {e : FA} {w : World} {θ : Tag (F5.t53, Q, e, w)} {bq oq nq cq bl ol nl cl n j : Nat} {x : Int} (e25 : e.ρ 25 = .slice (some ⟨bq, oq, none⟩) nq cq) (e26 : e.ρ 26 = .slice (some ⟨bl, ol, none⟩) nl cl) (e27 : e.ρ 27 = .int .i64 n) (e28 : e.ρ 28 = .int .i64 j)
    (hn : n < nq) (hj : j < nl) (hq : w.drew.cell? ⟨bq, oq + n, none⟩ = some (.int .i64 x)) (hl : w.drew.cell? ⟨bl, ol + j, none⟩ = some (.int .i64 x)) (hn6 : n < 1099511627776)
    (hQ : ∀ e' : FA, e'.ds = e.ds → e'.ρ 0 = e.ρ 0 → e'.ρ 4 = e.ρ 4 → e'.ρ 5 = e.ρ 5 → e'.ρ 6 = e.ρ 6 → e'.ρ 14 = e.ρ 14 → e'.ρ 15 = e.ρ 15 → e'.ρ 23 = e.ρ 23 → e'.ρ 25 = e.ρ 25 → e'.ρ 26 = e.ρ 26 → e'.ρ 28 = e.ρ 28 → e'.ρ 27 = .int .i64 ((n : Int) + 1) → Q .normal e' w.drew) :
    cwE Try.prog F5.t53 Q e w θ := by
  rw [F5.t53_eq]
  have h1 : ¬ (nq : Int) ≤ n := by omega
  simp -dsimp -implicitDefEqProofs (disch := omega) only [go_sem, reqD_of, dec_t, dec_f, wrap_i64, wrap_u32, wrap_u64, wrap_u8, e25, e26, e27, e28, hq, hl, h1]
  exact hQ _ (by simp -dsimp -implicitDefEqProofs only [go_sem]) (by simp -dsimp -implicitDefEqProofs only [go_sem]) (by simp -dsimp -implicitDefEqProofs only [go_sem]) (by simp -dsimp -implicitDefEqProofs only [go_sem]) (by simp -dsimp -implicitDefEqProofs only [go_sem]) (by simp -dsimp -implicitDefEqProofs only [go_sem]) (by simp -dsimp -implicitDefEqProofs only [go_sem]) (by simp -dsimp -implicitDefEqProofs only [go_sem]) (by simp -dsimp -implicitDefEqProofs only [go_sem, e25]) (by simp -dsimp -implicitDefEqProofs only [go_sem, e26]) (by simp -dsimp -implicitDefEqProofs only [go_sem, e28]) (by simp -dsimp -implicitDefEqProofs only [go_sem])

end
section
attribute [local go_sem] F5.t14_eq F5.t15_eq F5.t18_eq F5.t19_eq F5.t41_eq F5.t37_eq F5.t34_eq F5.t30_eq F5.t27_eq F5.t28_eq F5.t55_eq F5.t51_eq F5.t52_eq F5.t56_eq F5.t44_eq F5.t45_eq F5.t42_eq F5.t23_eq F5.t21_eq F5.t16_eq F5.t9_eq F5.t10_eq F5.t58_eq F5.t7_eq F5.t3_eq
theorem first_45 {w0 w : World} {F : HP} {B i k : Nat} {ls : List (Nam × LkS)} {ws : List (Int × Nee)} {v0 vR vA : Value} {gone : Int} {rs : List (Value × List Int)} {ats : List Int} {ms : List Mv} {m : Mv} {v : Value} {row : List Int} {at' : Nat} {Q : Post} {e : FA} {θ : Tag (F5.t45, Q, e, w)}
    (hT : tot ls < 1073741824) (hr : Ent F (Reads 4 v0 ms.length (ms.flatMap mvC))) (hi : ms[i]? = some m) (hm : MvOk m) (hk : k < 6) (hrk : rs.reverse[k]? = some (v, row)) (hak : ats[k]? = some (at' : Int)) (hrl : row.length < 1073741824) (hmi : i < 1073741824)
    (hfin : FinRow gone (pickI m.1 4) row at' (queueS (kN k) ls)) (hs : S5 e v0 B i vR gone vA) (e23 : e.ρ 23 = .int .i64 k) (h : St w0 (G5 B ls ws vR vA rs ats F) w)
    (hQ : ∀ (e' : FA) (w' : World), S5 e' v0 B i vR gone vA → e'.ρ 23 = .int .i64 ((k : Int) + 1) → St w0 (G5 B ls ws vR vA rs ats F) w' → Q .normal e' w') :
    cwE Try.prog F5.t45 Q e w θ := by
  obtain ⟨hd, e0, e4, e5, e6, e14, e15⟩ := hs
  obtain ⟨hal, extra, hex, hex2⟩ := hfin
  obtain ⟨hmem, hcv⟩ := rows_at hrk
  have hG : ∀ {w : World}, St w0 (G5 B ls ws vR vA rs ats F) w → St w0 (RowO 3 1 vA 6 (intR ats) * (TabP B ls ws * (RowO 34 1 vR 6 (cellsV rs) * (rowsP rs * F)))) w := fun h => h
  have h0 := hG h
  obtain ⟨_, aR, cR, rfl, _, hRc⟩ := St.readAt (h0.gives (B := Reads 1 vR 6 (cellsV rs)))
  obtain ⟨bR, oR, rfl, hRk⟩ := hRc k v hcv
  rw [F5.t45_eq]
  simp -dsimp -implicitDefEqProofs (disch := omega) only [go_sem, reqD_of, dec_t, dec_f, wrap_i64, wrap_u32, wrap_u64, wrap_u8, hd, e0, e4, e5, e6, e14, e15, e23, hRk]
  refine (oneN_any h0 (by omega) (by omega)).mono ?_
  rintro e' w1 ⟨h1, rfl⟩
  simp -dsimp -implicitDefEqProofs (disch := omega) only [go_sem, reqD_of, dec_t, dec_f, wrap_i64, wrap_u32, wrap_u64, wrap_u8, hd, e0, e4, e5, e6, e14, e15, e23]
  refine (queueN_any (x := kN k) (h1.take (.obj B)) hT).mono ?_
  rintro e' w2 ⟨vq, h2, rfl⟩
  obtain ⟨_, aq, cq, rfl, hnq, _⟩ := intAt (h2.gives (B := Reads 1 vq (queueS (kN k) ls).length (intR (queueS (kN k) ls))))
  obtain ⟨_, aA, cA, rfl, _, hAc⟩ := St.readAt (h2.gives (B := Reads 1 vA 6 (intR ats)))
  obtain ⟨bA, oA, rfl, hAk⟩ := hAc k (.int .i64 at') (by simp [intR, hak])
  have hrd := (h2.gives (B := rowsP rs)).ent (rowsP_reads hmem)
  obtain ⟨_, ar, cr, rfl, hnr, _⟩ := intAt hrd
  simp -dsimp -implicitDefEqProofs (disch := omega) only [go_sem, reqD_of, dec_t, dec_f, wrap_i64, wrap_u32, wrap_u64, wrap_u8, hd, e0, e4, e5, e6, e14, e15, e23, hAk]
  have hsub : Ent (rowsP rs) (Reads 1 (.slice (if cr = at' then ar else Option.map (fun x => x.add at') ar) (row.length - at') (cr - at')) (row.drop at').length (intR (row.drop at'))) := by
    have h9 := (rowsP_reads hmem).trans (Reads.sub (lo := at') (k := row.length - at') (by omega))
    rw [Nat.mul_one, Nat.mul_one] at h9
    have e1 : ((intR row).drop at').take (row.length - at') = intR (row.drop at') := by
      unfold intR
      rw [← List.map_drop, List.take_of_length_le (by simp)]
    rw [e1] at h9
    rw [List.length_drop]
    exact h9
  have hll : (row.drop at').length = row.length - at' := List.length_drop
  rw [← hll] at hsub ⊢
  generalize (if cr = at' then ar else Option.map (fun x => x.add at') ar) = aL at hsub ⊢
  generalize cr - at' = cL at hsub ⊢
  have hlrow : (row.drop at').length ≤ row.length := by omega
  have hfl : ∀ j x, (row.drop at')[j]? = some x → sk gone (pickI m.1 4) x = true → (queueS (kN k) ls)[(((row.drop at').take j).filter (sk gone (pickI m.1 4))).length]? = some x := fun j x hj hp => by
    rw [← hex]
    have h1 := (filter_at hj hp).1
    rw [List.getElem?_append_left (List.getElem?_eq_some_iff.1 h1).1]
    exact h1
  generalize hlf : row.drop at' = left at hsub hlrow hfl hex hll ⊢
  have hqT := queueS_length (kN k) ls
  have hta := tot_agt (x := kN k) (ls := ls)
  refine loop_intro (fun e w' => S5 e v0 B i (.slice (some ⟨bR, oR, none⟩) 6 cR) gone (.slice (some ⟨bA, oA, none⟩) 6 cA) ∧ e.ρ 23 = .int .i64 k ∧ e.ρ 25 = .slice aq (queueS (kN k) ls).length cq ∧ e.ρ 26 = .slice aL left.length cL ∧ ∃ j : Nat, j ≤ left.length ∧ e.ρ 28 = .int .i64 j ∧ e.ρ 27 = .int .i64 ((left.take j).filter (sk gone (pickI m.1 4))).length ∧
      St w0 (RowO 3 1 (.slice aq (queueS (kN k) ls).length cq) (queueS (kN k) ls).length (intR (queueS (kN k) ls)) * (RowO 3 1 (.slice (some ⟨bA, oA, none⟩) 6 cA) 6 (intR ats) * (TabP B ls ws * (RowO 34 1 (.slice (some ⟨bR, oR, none⟩) 6 cR) 6 (cellsV rs) * (rowsP rs * F))))) w')
    (fun e _ => match e.ρ 28 with | .int _ n => (left.length - n).toNat | _ => 0) ?_ ?_
  · exact ⟨⟨by simp -dsimp -implicitDefEqProofs only [go_sem, hd], by simp -dsimp -implicitDefEqProofs only [go_sem, e0], by simp -dsimp -implicitDefEqProofs only [go_sem, e4], by simp -dsimp -implicitDefEqProofs only [go_sem, e5], by simp -dsimp -implicitDefEqProofs only [go_sem, e6], by simp -dsimp -implicitDefEqProofs only [go_sem, e14], by simp -dsimp -implicitDefEqProofs only [go_sem, e15]⟩, by simp -dsimp -implicitDefEqProofs only [go_sem, e23], by simp -dsimp -implicitDefEqProofs only [go_sem], by simp -dsimp -implicitDefEqProofs only [go_sem], 0, by omega, by simp -dsimp -implicitDefEqProofs only [go_sem], by simp -dsimp -implicitDefEqProofs only [go_sem]; simp, h2.sub⟩
  rintro e w3 ⟨⟨hd, e0, e4, e5, e6, e14, e15⟩, e23, e25, e26, j, hj, e28, e27, h3⟩
  have hfj : ((left.take j).filter (sk gone (pickI m.1 4))).length ≤ j := Nat.le_trans (List.length_filter_le _ _) (by rw [List.length_take]; exact Nat.min_le_left _ _)
  obtain ⟨_, am, cm, rfl, _, hcm⟩ := St.rowsAt (k := 4) mvC_length (by decide) ((h3.gives (B := F)).ent hr)
  obtain ⟨him, hmi2⟩ := List.getElem?_eq_some_iff.1 hi
  obtain ⟨bm, om, rfl, _, hcell⟩ := hcm i him
  have c0 := hcell 0 (by decide)
  rw [hmi2] at c0
  simp only [mvC, Nat.add_zero, List.getElem?_cons_zero] at c0
  have hp4 := pickI_range (c := m.1) (n := 4) (by decide)
  by_cases hlt : (j : Int) < left.length
  case neg =>
    have : j = left.length := by omega
    subst this
    rw [List.take_length] at e27
    simp -dsimp -implicitDefEqProofs (disch := omega) only [go_sem, reqD_of, dec_t, dec_f, wrap_i64, wrap_u32, wrap_u64, wrap_u8, hd, e0, e4, e5, e6, e14, e15, e23, e25, e26, e27, e28, hlt, c0]
    refine (pick_any (c := m.1) (n := 4) h3 hm.1 (by decide)).mono ?_
    rintro e' w4 ⟨h4, rfl⟩
    have hG4 : St w0 (G5 B ls ws (.slice (some ⟨bR, oR, none⟩) 6 cR) (.slice (some ⟨bA, oA, none⟩) 6 cA) rs ats F) w4 := h4.right
    by_cases hw : (1 : Int) < pickI m.1 4
    · have he := hex2 (by omega)
      subst he
      rw [List.append_nil] at hex
      have hqn : ((left.filter (sk gone (pickI m.1 4))).length : Int) = (queueS (kN k) ls).length := by rw [hex]
      simp -dsimp -implicitDefEqProofs (disch := omega) only [go_sem, reqD_of, dec_t, dec_f, wrap_i64, wrap_u32, wrap_u64, wrap_u8, hd, e0, e4, e5, e6, e14, e15, e23, e25, e26, e27, e28, hw, hqn]
      exact hQ _ _ ⟨by simp -dsimp -implicitDefEqProofs only [go_sem, hd], by simp -dsimp -implicitDefEqProofs only [go_sem, e0], by simp -dsimp -implicitDefEqProofs only [go_sem, e4], by simp -dsimp -implicitDefEqProofs only [go_sem, e5], by simp -dsimp -implicitDefEqProofs only [go_sem, e6], by simp -dsimp -implicitDefEqProofs only [go_sem, e14], by simp -dsimp -implicitDefEqProofs only [go_sem, e15]⟩ (by simp -dsimp -implicitDefEqProofs only [go_sem]) hG4
    · simp -dsimp -implicitDefEqProofs (disch := omega) only [go_sem, reqD_of, dec_t, dec_f, wrap_i64, wrap_u32, wrap_u64, wrap_u8, hd, e0, e4, e5, e6, e14, e15, e23, e25, e26, e27, e28, hw]
      exact hQ _ _ ⟨by simp -dsimp -implicitDefEqProofs only [go_sem, hd], by simp -dsimp -implicitDefEqProofs only [go_sem, e0], by simp -dsimp -implicitDefEqProofs only [go_sem, e4], by simp -dsimp -implicitDefEqProofs only [go_sem, e5], by simp -dsimp -implicitDefEqProofs only [go_sem, e6], by simp -dsimp -implicitDefEqProofs only [go_sem, e14], by simp -dsimp -implicitDefEqProofs only [go_sem, e15]⟩ (by simp -dsimp -implicitDefEqProofs only [go_sem]) hG4
  have hjl : j < left.length := by omega
  have hlR := fun {w : World} (h : St w0 (RowO 3 1 (.slice aq (queueS (kN k) ls).length cq) (queueS (kN k) ls).length (intR (queueS (kN k) ls)) * (RowO 3 1 (.slice (some ⟨bA, oA, none⟩) 6 cA) 6 (intR ats) * (TabP B ls ws * (RowO 34 1 (.slice (some ⟨bR, oR, none⟩) 6 cR) 6 (cellsV rs) * (rowsP rs * F))))) w) => intAt ((h.gives (B := rowsP rs)).ent hsub)
  obtain ⟨_, _, _, hv, _, hLc⟩ := hlR h3
  simp only [Value.slice.injEq, true_and] at hv
  obtain ⟨rfl, rfl⟩ := hv
  obtain ⟨bl, ol, rfl, hlx⟩ := hLc j hjl
  have hxj : left[j]? = some left[j] := List.getElem?_eq_getElem hjl
  generalize left[j] = x at hlx hxj
  by_cases hskip : sk gone (pickI m.1 4) x = true
  · have hqn := hfl j x hxj hskip
    have hnq' := (List.getElem?_eq_some_iff.1 hqn).1
    have hnx := (filter_at hxj hskip).2
    have go : ∀ {Q : Post} {e' : FA} {w : World} {θ : Tag (F5.t53, Q, e', w)}, e'.ρ 25 = e.ρ 25 → e'.ρ 26 = e.ρ 26 → e'.ρ 27 = e.ρ 27 → e'.ρ 28 = e.ρ 28 →
        St w0 (RowO 3 1 (.slice aq (queueS (kN k) ls).length cq) (queueS (kN k) ls).length (intR (queueS (kN k) ls)) * (RowO 3 1 (.slice (some ⟨bA, oA, none⟩) 6 cA) 6 (intR ats) * (TabP B ls ws * (RowO 34 1 (.slice (some ⟨bR, oR, none⟩) 6 cR) 6 (cellsV rs) * (rowsP rs * F))))) w →
        (∀ e'' : FA, e''.ds = e'.ds → e''.ρ 0 = e'.ρ 0 → e''.ρ 4 = e'.ρ 4 → e''.ρ 5 = e'.ρ 5 → e''.ρ 6 = e'.ρ 6 → e''.ρ 14 = e'.ρ 14 → e''.ρ 15 = e'.ρ 15 → e''.ρ 23 = e'.ρ 23 → e''.ρ 25 = e'.ρ 25 → e''.ρ 26 = e'.ρ 26 → e''.ρ 28 = e'.ρ 28 → e''.ρ 27 = .int .i64 (((((left.take j).filter (sk gone (pickI m.1 4))).length : Nat) : Int) + 1) → Q .normal e'' w.drew) →
        cwE Try.prog F5.t53 Q e' w θ := by
      intro Q e' w θ f25 f26 f27 f28 h5 hQ5
      obtain ⟨_, _, _, hv5, _, hL5⟩ := hlR h5.drew
      simp only [Value.slice.injEq, true_and] at hv5
      obtain ⟨rfl, rfl⟩ := hv5
      obtain ⟨bl', ol', hbl, hl5⟩ := hL5 j hjl
      simp only [Option.some.injEq, Addr.mk.injEq, and_true] at hbl
      obtain ⟨rfl, rfl⟩ := hbl
      obtain ⟨_, _, _, hv6, _, hq5⟩ := intAt (h5.drew.gives (B := Reads 1 (.slice aq (queueS (kN k) ls).length cq) (queueS (kN k) ls).length (intR (queueS (kN k) ls))))
      simp only [Value.slice.injEq, true_and] at hv6
      obtain ⟨rfl, rfl⟩ := hv6
      obtain ⟨bq, oq, rfl, hqx⟩ := hq5 _ hnq'
      rw [(List.getElem?_eq_some_iff.1 hqn).2] at hqx
      have hlj : left[j] = x := (List.getElem?_eq_some_iff.1 hxj).2
      rw [hlj] at hl5
      exact first_53 (by rw [f25, e25]) (by rw [f26, e26]) (by rw [f27, e27]) (by rw [f28, e28]) hnq' hjl hqx hl5 (by omega) hQ5
    by_cases hg : x = gone
    · simp -dsimp -implicitDefEqProofs (disch := omega) only [go_sem, reqD_of, dec_t, dec_f, wrap_i64, wrap_u32, wrap_u64, wrap_u8, hd, e0, e4, e5, e6, e14, e15, e23, e25, e26, e27, e28, hlt, hlx, hg, c0]
      refine (pick_any (c := m.1) (n := 4) h3 hm.1 (by decide)).mono ?_
      rintro e' w4 ⟨h4, rfl⟩
      have h33 : ¬ pickI m.1 4 = 3 := fun h => by simp [sk, hg, h] at hskip
      simp -dsimp -implicitDefEqProofs (disch := omega) only [go_sem, reqD_of, dec_t, dec_f, wrap_i64, wrap_u32, wrap_u64, wrap_u8, hd, e0, e4, e5, e6, e14, e15, e23, e25, e26, e27, e28, h33]
      refine go (by simp -dsimp -implicitDefEqProofs only [go_sem]) (by simp -dsimp -implicitDefEqProofs only [go_sem]) (by simp -dsimp -implicitDefEqProofs only [go_sem]) (by simp -dsimp -implicitDefEqProofs only [go_sem]) h4 ?_
      intro e'' g0 g1 g2 g3 g4 g5 g6 g7 g8 g9 g10 g11
      have k0 := g0.trans (show _ = ([] : List Deferred) by simp -dsimp -implicitDefEqProofs only [go_sem, hd])
      have k1 := g1.trans (show _ = Value.slice (some ⟨bm, om, none⟩) ms.length cm by simp -dsimp -implicitDefEqProofs only [go_sem, e0])
      have k2 := g2.trans (show _ = Value.pointer (some ⟨B, 0, none⟩) by simp -dsimp -implicitDefEqProofs only [go_sem, e4])
      have k3 := g3.trans (show _ = Value.int .i64 i by simp -dsimp -implicitDefEqProofs only [go_sem, e5])
      have k4 := g4.trans (show _ = Value.slice (some ⟨bR, oR, none⟩) 6 cR by simp -dsimp -implicitDefEqProofs only [go_sem, e6])
      have k5 := g5.trans (show _ = Value.int .i64 gone by simp -dsimp -implicitDefEqProofs only [go_sem, e14])
      have k6 := g6.trans (show _ = Value.slice (some ⟨bA, oA, none⟩) 6 cA by simp -dsimp -implicitDefEqProofs only [go_sem, e15])
      have k7 := g7.trans (show _ = Value.int .i64 k by simp -dsimp -implicitDefEqProofs only [go_sem, e23])
      have k8 := g8.trans (show _ = Value.slice aq (queueS (kN k) ls).length cq by simp -dsimp -implicitDefEqProofs only [go_sem, e25])
      have k9 := g9.trans (show _ = Value.slice (some ⟨bl, ol, none⟩) left.length cL by simp -dsimp -implicitDefEqProofs only [go_sem, e26])
      have k10 := g10.trans (show _ = Value.int .i64 j by simp -dsimp -implicitDefEqProofs only [go_sem, e28])
      simp -dsimp -implicitDefEqProofs (disch := omega) only [go_sem, reqD_of, dec_t, dec_f, wrap_i64, wrap_u32, wrap_u64, wrap_u8, k0, k1, k2, k3, k4, k5, k6, k7, k8, k9, k10, g11, e28]
      refine ⟨⟨⟨k0, k1, k2, k3, k4, k5, k6⟩, j + 1, by omega, by omega, by rw [hnx]; omega, h4.drew⟩, by omega⟩
    · simp -dsimp -implicitDefEqProofs (disch := omega) only [go_sem, reqD_of, dec_t, dec_f, wrap_i64, wrap_u32, wrap_u64, wrap_u8, hd, e0, e4, e5, e6, e14, e15, e23, e25, e26, e27, e28, hlt, hlx, hg, c0]
      refine go (by simp -dsimp -implicitDefEqProofs only [go_sem]) (by simp -dsimp -implicitDefEqProofs only [go_sem]) (by simp -dsimp -implicitDefEqProofs only [go_sem]) (by simp -dsimp -implicitDefEqProofs only [go_sem]) h3 ?_
      intro e'' g0 g1 g2 g3 g4 g5 g6 g7 g8 g9 g10 g11
      have k0 := g0.trans (show _ = ([] : List Deferred) by simp -dsimp -implicitDefEqProofs only [go_sem, hd])
      have k1 := g1.trans (show _ = Value.slice (some ⟨bm, om, none⟩) ms.length cm by simp -dsimp -implicitDefEqProofs only [go_sem, e0])
      have k2 := g2.trans (show _ = Value.pointer (some ⟨B, 0, none⟩) by simp -dsimp -implicitDefEqProofs only [go_sem, e4])
      have k3 := g3.trans (show _ = Value.int .i64 i by simp -dsimp -implicitDefEqProofs only [go_sem, e5])
      have k4 := g4.trans (show _ = Value.slice (some ⟨bR, oR, none⟩) 6 cR by simp -dsimp -implicitDefEqProofs only [go_sem, e6])
      have k5 := g5.trans (show _ = Value.int .i64 gone by simp -dsimp -implicitDefEqProofs only [go_sem, e14])
      have k6 := g6.trans (show _ = Value.slice (some ⟨bA, oA, none⟩) 6 cA by simp -dsimp -implicitDefEqProofs only [go_sem, e15])
      have k7 := g7.trans (show _ = Value.int .i64 k by simp -dsimp -implicitDefEqProofs only [go_sem, e23])
      have k8 := g8.trans (show _ = Value.slice aq (queueS (kN k) ls).length cq by simp -dsimp -implicitDefEqProofs only [go_sem, e25])
      have k9 := g9.trans (show _ = Value.slice (some ⟨bl, ol, none⟩) left.length cL by simp -dsimp -implicitDefEqProofs only [go_sem, e26])
      have k10 := g10.trans (show _ = Value.int .i64 j by simp -dsimp -implicitDefEqProofs only [go_sem, e28])
      simp -dsimp -implicitDefEqProofs (disch := omega) only [go_sem, reqD_of, dec_t, dec_f, wrap_i64, wrap_u32, wrap_u64, wrap_u8, k0, k1, k2, k3, k4, k5, k6, k7, k8, k9, k10, g11, e28]
      refine ⟨⟨⟨k0, k1, k2, k3, k4, k5, k6⟩, j + 1, by omega, by omega, by rw [hnx]; omega, h3.drew⟩, by omega⟩
  · have hx2 : x = gone ∧ pickI m.1 4 = 3 := by simpa [sk] using hskip
    obtain ⟨hg, h33⟩ := hx2
    have hnx := filter_not hxj (by simpa using hskip)
    simp -dsimp -implicitDefEqProofs (disch := omega) only [go_sem, reqD_of, dec_t, dec_f, wrap_i64, wrap_u32, wrap_u64, wrap_u8, hd, e0, e4, e5, e6, e14, e15, e23, e25, e26, e27, e28, hlt, hlx, hg, c0]
    refine (pick_any (c := m.1) (n := 4) h3 hm.1 (by decide)).mono ?_
    rintro e' w4 ⟨h4, rfl⟩
    simp -dsimp -implicitDefEqProofs (disch := omega) only [go_sem, reqD_of, dec_t, dec_f, wrap_i64, wrap_u32, wrap_u64, wrap_u8, hd, e0, e4, e5, e6, e14, e15, e23, e25, e26, e27, e28, h33]
    refine ⟨⟨⟨by simp -dsimp -implicitDefEqProofs only [go_sem, hd], by simp -dsimp -implicitDefEqProofs only [go_sem, e0], by simp -dsimp -implicitDefEqProofs only [go_sem, e4], by simp -dsimp -implicitDefEqProofs only [go_sem, e5], by simp -dsimp -implicitDefEqProofs only [go_sem, e6], by simp -dsimp -implicitDefEqProofs only [go_sem, e14], by simp -dsimp -implicitDefEqProofs only [go_sem, e15]⟩, j + 1, by omega, by omega, by rw [h33] at hnx; rw [hnx], h4⟩, by omega⟩

end
end Go.Proofs.Ytacmnfpgimgigaa

namespace Go.Proofs.Ytacmnfpgimgigaa
open Go
set_option linter.unusedSimpArgs false
set_option linter.unusedVariables false
set_option maxRecDepth 100000

theorem intR_set (l : List Int) (k : Nat) (x : Int) : (intR l).set k (.int .i64 x) = intR (l.set k x) := by unfold intR; rw [List.map_set]
theorem intR_get {l : List Int} {k : Nat} {x : Int} (h : l[k]? = some x) : (intR l)[k]? = some (.int .i64 x) := by simp [intR, h]

def F6 (vIn : Value) (l : List Claim) (vW : Value) (W : List Nee) (F : HP) : HP := RowO 3 1 vIn l.length (intR (l.map (·.1))) * (RowO 38 4 vW 8 (W.flatMap needC) * F)
/-- The slots that count. -/
def S6 (e : FA) (v0 : Value) (B i : Nat) (vR vW vIn : Value) (gone : Int) (vA : Value) : Prop := S5 e v0 B i vR gone vA ∧ e.ρ 7 = vW ∧ e.ρ 12 = vIn

def atNext (row : List Int) (gone : Int) (at' : Nat) : Nat := if row[at']? = some gone then at' + 2 else at' + 1

section
attribute [local go_sem] F5.t14_eq F5.t15_eq F5.t18_eq F5.t19_eq F5.t41_eq F5.t37_eq F5.t34_eq F5.t30_eq F5.t27_eq F5.t28_eq F5.t55_eq F5.t53_eq F5.t51_eq F5.t52_eq F5.t56_eq F5.t44_eq F5.t45_eq F5.t42_eq F5.t23_eq F5.t21_eq F5.t16_eq F5.t9_eq F5.t10_eq F5.t58_eq F5.t7_eq F5.t3_eq
theorem first_37 {w0 w : World} {F : HP} {B i j k u : Nat} {ls : List (Nam × LkS)} {ws : List (Int × Nee)} {v0 vR vW vIn : Value} {bA oA cA N : Nat} {gone : Int} {rs : List (Value × List Int)} {ats : List Int} {l : List Claim} {W : List Nee} {a : Bool} {v : Value} {row : List Int} {at2 : Nat} {Q : Post} {e : FA} {θ : Tag (F5.t37, Q, e, w)}
    (hT : tot ls < 1073741824) (hL : ls.length < 1073741824) (hj : l[j]? = some (1 + (u : Int), a)) (hu : u < 8) (hjl : j < 9223372036854775807) (hk : k < 6) (hrk : rs.reverse[k]? = some (v, row)) (hak : ats[k]? = some (at2 : Int)) (hra : row[at2]? = some (1 + (u : Int))) (hrl : row.length < 1073741824)
    (hheld : (kN k, a) ∈ heldS (1 + (u : Int)) ls) (hwait : agt (1 + (u : Int)) ws = none)
    (hs : S6 e v0 B i vR vW vIn gone (.slice (some ⟨bA, oA, none⟩) 6 cA)) (e16 : e.ρ 16 = .int .i64 j) (e17 : e.ρ 17 = .pointer (some ⟨N, 0, none⟩)) (e18 : e.ρ 18 = .int .i64 k) (e19 : e.ρ 19 = v) (hal : ats.length = 6)
    (h : St w0 (Blk N (.cells (needC (kN k, a)).toArray 38 (0, 0)) * G5 B ls ws vR (.slice (some ⟨bA, oA, none⟩) 6 cA) rs ats (F6 vIn l vW W F)) w)
    (hQ : ∀ (e' : FA) (w' : World), S6 e' v0 B i vR vW vIn gone (.slice (some ⟨bA, oA, none⟩) 6 cA) → e'.ρ 16 = .int .i64 j → St w0 (G5 B ls ws vR (.slice (some ⟨bA, oA, none⟩) 6 cA) rs (ats.set k ((at2 : Int) + 1)) (F6 vIn l vW W F)) w' → Q .normal e' w') :
    cwE Try.prog F5.t37 Q e w θ := by
  obtain ⟨⟨hd, e0, e4, e5, e6, e14, e15⟩, e7, e12⟩ := hs
  obtain ⟨hmem, hcv⟩ := rows_at hrk
  have hat2 := (List.getElem?_eq_some_iff.1 hra).1
  unfold G5 F6 at h
  have h0 := h.drew
  obtain ⟨hjl2, hjx⟩ := List.getElem?_eq_some_iff.1 hj
  obtain ⟨_, aI, cI, rfl, hnI, hIc⟩ := St.readAt (h0.gives (B := Reads 1 vIn l.length (intR (l.map (·.1)))))
  obtain ⟨bI, oI, rfl, hIj⟩ := hIc j (.int .i64 (1 + (u : Int))) (by simp [intR, hj])
  have hN := h0.rowH N 4 rfl
  rw [F5.t37_eq]
  simp -dsimp -implicitDefEqProofs (disch := omega) only [go_sem, reqD_of, dec_t, dec_f, wrap_i64, wrap_u32, wrap_u64, wrap_u8, hd, e0, e4, e5, e6, e7, e12, e14, e15, e16, e17, e18, e19, hIj, hN]
  refine (holdsLaw_any (n := (kN k, a)) (who := 1 + (u : Int)) (h0.take (.obj B)) (by omega) (by omega)).mono ?_
  rintro e' w1 ⟨h1, rfl⟩
  rw [dec_t hheld]
  obtain ⟨_, _, _, hvI, _, hIc1⟩ := St.readAt (h1.gives (B := Reads 1 (.slice (some ⟨bI, oI, none⟩) l.length cI) l.length (intR (l.map (·.1)))))
  simp only [Value.slice.injEq, true_and] at hvI
  obtain ⟨rfl, rfl⟩ := hvI
  obtain ⟨_, _, hbI, hIj1⟩ := hIc1 j (.int .i64 (1 + (u : Int))) (by simp [intR, hj])
  simp only [Option.some.injEq, Addr.mk.injEq, and_true] at hbI
  obtain ⟨rfl, rfl⟩ := hbI
  simp -dsimp -implicitDefEqProofs (disch := omega) only [go_sem, reqD_of, dec_t, dec_f, wrap_i64, wrap_u32, wrap_u64, wrap_u8, hd, e0, e4, e5, e6, e7, e12, e14, e15, e16, e17, e18, e19, hIj1]
  refine (waits_any (who := 1 + (u : Int)) (h1.take (.obj B))).mono ?_
  rintro e' w2 ⟨h2, rfl⟩
  rw [hwait]
  simp -dsimp -implicitDefEqProofs (disch := omega) only [go_sem, reqD_of, dec_t, dec_f, wrap_i64, wrap_u32, wrap_u64, wrap_u8, hd, e0, e4, e5, e6, e7, e12, e14, e15, e16, e17, e18, e19, Option.isSome_none]
  refine h2.new fun M w3 h3 => ?_
  simp -dsimp -implicitDefEqProofs (disch := omega) only [go_sem, reqD_of, dec_t, dec_f, wrap_i64, wrap_u32, wrap_u64, wrap_u8]
  refine h3.stoAll (cs := needC ((none : Option Nee).getD noNeed)) rfl rfl (needC_cells _) fun w4 h4 => ?_
  have h5 := h4.drew
  obtain ⟨_, _, _, hvI, _, hIc1⟩ := St.readAt (h5.gives (B := Reads 1 (.slice (some ⟨bI, oI, none⟩) l.length cI) l.length (intR (l.map (·.1)))))
  simp only [Value.slice.injEq, true_and] at hvI
  obtain ⟨rfl, rfl⟩ := hvI
  obtain ⟨_, _, hbI, hIj5⟩ := hIc1 j (.int .i64 (1 + (u : Int))) (by simp [intR, hj])
  simp only [Option.some.injEq, Addr.mk.injEq, and_true] at hbI
  obtain ⟨rfl, rfl⟩ := hbI
  obtain ⟨_, _, _, hvA, _, hAc⟩ := St.readAt (h5.gives (B := Reads 1 (.slice (some ⟨bA, oA, none⟩) 6 cA) 6 (intR ats)))
  simp only [Value.slice.injEq, true_and] at hvA
  obtain ⟨rfl, rfl⟩ := hvA
  obtain ⟨_, _, hbA, hAk⟩ := hAc k (.int .i64 at2) (intR_get hak)
  simp only [Option.some.injEq, Addr.mk.injEq, and_true] at hbA
  obtain ⟨rfl, rfl⟩ := hbA
  obtain ⟨_, ar, cr, rfl, _, hrc⟩ := St.readAt ((h5.gives (B := rowsP rs)).ent (rowsP_reads hmem))
  obtain ⟨br, or, rfl, hrx⟩ := hrc at2 (.int .i64 (1 + (u : Int))) (intR_get hra)
  have hnr : ¬ (row.length : Int) ≤ at2 := by omega
  simp -dsimp -implicitDefEqProofs (disch := omega) only [go_sem, reqD_of, dec_t, dec_f, wrap_i64, wrap_u32, wrap_u64, wrap_u8, hd, e0, e4, e5, e6, e7, e12, e14, e15, e16, e17, e18, e19, hIj5, hAk, hrx, hnr]
  refine h5.rowSet1 (n := 6) (c := cA) (xs := intR ats) (by simp [intR]; omega) rfl fun w5 h6 => ?_
  rw [intR_set] at h6
  simp -dsimp -implicitDefEqProofs (disch := omega) only [go_sem, reqD_of, dec_t, dec_f, wrap_i64, wrap_u32, wrap_u64, wrap_u8]
  have h7 : St w0 (RowO 3 1 (.slice (some ⟨bA, oA, none⟩) 6 cA) 6 (intR (ats.set k ((at2 : Int) + 1))) * (TabP B ls ws * (RowO 34 1 vR 6 (cellsV rs) * (rowsP rs * (RowO 3 1 (.slice (some ⟨bI, oI, none⟩) l.length cI) l.length (intR (l.map (·.1))) * (RowO 38 4 vW 8 (W.flatMap needC) * F)))))) w5 := h6.sub
  exact hQ _ _ ⟨⟨by simp -dsimp -implicitDefEqProofs only [go_sem, hd], by simp -dsimp -implicitDefEqProofs only [go_sem, e0], by simp -dsimp -implicitDefEqProofs only [go_sem, e4], by simp -dsimp -implicitDefEqProofs only [go_sem, e5], by simp -dsimp -implicitDefEqProofs only [go_sem, e6], by simp -dsimp -implicitDefEqProofs only [go_sem, e14], by simp -dsimp -implicitDefEqProofs only [go_sem, e15]⟩, by simp -dsimp -implicitDefEqProofs only [go_sem, e7], by simp -dsimp -implicitDefEqProofs only [go_sem, e12]⟩ (by simp -dsimp -implicitDefEqProofs only [go_sem, e16]) h7

end
section
attribute [local go_sem] F5.t14_eq F5.t15_eq F5.t18_eq F5.t19_eq F5.t41_eq F5.t34_eq F5.t30_eq F5.t27_eq F5.t28_eq F5.t55_eq F5.t53_eq F5.t51_eq F5.t52_eq F5.t56_eq F5.t44_eq F5.t45_eq F5.t42_eq F5.t23_eq F5.t21_eq F5.t16_eq F5.t9_eq F5.t10_eq F5.t58_eq F5.t7_eq F5.t3_eq
theorem first_28 {w0 w : World} {F : HP} {B i j k u : Nat} {ls : List (Nam × LkS)} {ws : List (Int × Nee)} {v0 vR vW vIn : Value} {bA oA cA : Nat} {gone : Int} {rs : List (Value × List Int)} {ats : List Int} {l : List Claim} {W : List Nee} {a : Bool} {v : Value} {row : List Int} {at' : Nat} {Q : Post} {e : FA} {θ : Tag (F5.t28, Q, e, w)}
    (hT : tot ls < 1073741824) (hL : ls.length < 1073741824) (hj : l[j]? = some (1 + (u : Int), a)) (hu : u < 8) (hjl : j < 9223372036854775807) (hk : k < 6) (hrk : rs.reverse[k]? = some (v, row)) (hak : ats[k]? = some (at' : Int)) (hrl : row.length < 1073741824)
    (hskip : (row[at']? = some gone → row[at' + 1]? = some (1 + (u : Int))) ∧ (row[at']? ≠ some gone → row[at']? = some (1 + (u : Int)))) (hg : 1 + (u : Int) ≠ gone) (hWu : W[u]? = some (kN k, a)) (hWl : W.length = 8)
    (hheld : (kN k, a) ∈ heldS (1 + (u : Int)) ls) (hwait : agt (1 + (u : Int)) ws = none)
    (hs : S6 e v0 B i vR vW vIn gone (.slice (some ⟨bA, oA, none⟩) 6 cA)) (e16 : e.ρ 16 = .int .i64 j) (hal : ats.length = 6)
    (h : St w0 (G5 B ls ws vR (.slice (some ⟨bA, oA, none⟩) 6 cA) rs ats (F6 vIn l vW W F)) w)
    (hQ : ∀ (e' : FA) (w' : World), S6 e' v0 B i vR vW vIn gone (.slice (some ⟨bA, oA, none⟩) 6 cA) → e'.ρ 16 = .int .i64 ((j : Int) + 1) → St w0 (G5 B ls ws vR (.slice (some ⟨bA, oA, none⟩) 6 cA) rs (ats.set k ((atNext row gone at' : Nat) : Int)) (F6 vIn l vW W F)) w' → Q .normal e' w') :
    cwE Try.prog F5.t28 Q e w θ := by
  obtain ⟨⟨hd, e0, e4, e5, e6, e14, e15⟩, e7, e12⟩ := hs
  obtain ⟨hmem, hcv⟩ := rows_at hrk
  have hatl : at' < row.length := by
    by_cases hgo : row[at']? = some gone
    · exact (List.getElem?_eq_some_iff.1 hgo).1
    · exact (List.getElem?_eq_some_iff.1 (hskip.2 hgo)).1
  unfold G5 F6 at h
  obtain ⟨hjl2, hjx⟩ := List.getElem?_eq_some_iff.1 hj
  obtain ⟨_, aI, cI, rfl, hnI, hIc⟩ := St.readAt (h.gives (B := Reads 1 vIn l.length (intR (l.map (·.1)))))
  obtain ⟨bI, oI, rfl, hIj⟩ := hIc j (.int .i64 (1 + (u : Int))) (by simp [intR, hj])
  obtain ⟨_, aW, cW, rfl, _, hWc⟩ := St.rowsAt (k := 4) needC_length (by decide) (h.gives (B := Reads 4 vW 8 (W.flatMap needC)))
  obtain ⟨hul, hux⟩ := List.getElem?_eq_some_iff.1 hWu
  obtain ⟨bW, oW, rfl, _, hWcell⟩ := hWc u hul
  rw [hux] at hWcell
  have d0 := hWcell 0 (by decide)
  have d1 := hWcell 1 (by decide)
  have d2 := hWcell 2 (by decide)
  have d3 := hWcell 3 (by decide)
  simp only [needC, kN, Nat.add_zero, List.getElem?_cons_succ, List.getElem?_cons_zero] at d0 d1 d2 d3
  obtain ⟨_, aR, cR, rfl, _, hRc⟩ := St.readAt (h.gives (B := Reads 1 vR 6 (cellsV rs)))
  obtain ⟨bR, oR, rfl, hRk⟩ := hRc k v hcv
  have g1 : ¬ 1 + (u : Int) < 1 := by omega
  have g2 : ¬ (8 : Int) < 1 + (u : Int) := by omega
  have hu1 : 1 + (u : Int) - 1 = u := by omega
  rw [F5.t28_eq]
  simp -dsimp -implicitDefEqProofs (disch := omega) only [go_sem, reqD_of, dec_t, dec_f, wrap_i64, wrap_u32, wrap_u64, wrap_u8, hd, e0, e4, e5, e6, e7, e12, e14, e15, e16, hIj, g1, g2, hg, hu1, d0, d1, d2, d3]
  refine h.new fun N w1 h1 => ?_
  simp -dsimp -implicitDefEqProofs (disch := omega) only [go_sem, reqD_of, dec_t, dec_f, wrap_i64, wrap_u32, wrap_u64, wrap_u8]
  refine h1.stoAll (cs := needC (kN k, a)) rfl rfl (needC_cells _) fun w2 h2 => ?_
  have hNc := h2.cl N
  simp only [needC, kN] at hNc
  have k1 : ¬ (k : Int) < 0 := by omega
  have k2 : ¬ (6 : Int) ≤ k := by omega
  obtain ⟨_, _, _, hvR, _, hRc2⟩ := St.readAt (h2.gives (B := Reads 1 (.slice (some ⟨bR, oR, none⟩) 6 cR) 6 (cellsV rs)))
  simp only [Value.slice.injEq, true_and] at hvR
  obtain ⟨rfl, rfl⟩ := hvR
  obtain ⟨_, _, hbR, hRk2⟩ := hRc2 k v hcv
  simp only [Option.some.injEq, Addr.mk.injEq, and_true] at hbR
  obtain ⟨rfl, rfl⟩ := hbR
  obtain ⟨_, _, _, hvA, _, hAc⟩ := St.readAt (h2.gives (B := Reads 1 (.slice (some ⟨bA, oA, none⟩) 6 cA) 6 (intR ats)))
  simp only [Value.slice.injEq, true_and] at hvA
  obtain ⟨rfl, rfl⟩ := hvA
  obtain ⟨_, _, hbA, hAk⟩ := hAc k (.int .i64 at') (intR_get hak)
  simp only [Option.some.injEq, Addr.mk.injEq, and_true] at hbA
  obtain ⟨rfl, rfl⟩ := hbA
  obtain ⟨_, ar, cr, hvr, _, hrc⟩ := St.readAt ((h2.gives (B := rowsP rs)).ent (rowsP_reads hmem))
  subst hvr
  have hx : ∃ x, row[at']? = some x := ⟨_, List.getElem?_eq_getElem hatl⟩
  obtain ⟨x, hx⟩ := hx
  obtain ⟨br, or, rfl, hrx⟩ := hrc at' (.int .i64 x) (intR_get hx)
  have hlt : (at' : Int) < row.length := by omega
  have hend : ∀ {P2 : Nat}, St w0 (RowO 3 1 (.slice (some ⟨bA, oA, none⟩) 6 cA) 6 (intR (ats.set k (P2 : Int))) * (TabP B ls ws * (RowO 34 1 (.slice (some ⟨bR, oR, none⟩) 6 cR) 6 (cellsV rs) * (rowsP rs * (RowO 3 1 (.slice (some ⟨bI, oI, none⟩) l.length cI) l.length (intR (l.map (·.1))) * (RowO 38 4 (.slice (some ⟨bW, oW, none⟩) 8 cW) 8 (W.flatMap needC) * F)))))) w2 → True := fun _ => trivial
  by_cases hxg : x = gone
  · have hnext : atNext row gone at' = at' + 1 + 1 := by unfold atNext; rw [if_pos (by rw [hx, hxg])]
    have hra := hskip.1 (by rw [hx, hxg])
    simp -dsimp -implicitDefEqProofs (disch := omega) only [go_sem, reqD_of, dec_t, dec_f, wrap_i64, wrap_u32, wrap_u64, wrap_u8, hd, e0, e4, e5, e6, e7, e12, e14, e15, e16, hNc, k1, k2, hRk2, hAk, hlt, hrx, hxg]
    refine h2.rowSet1 (n := 6) (c := cA) (xs := intR ats) (by simp [intR]; omega) rfl fun w3 h3 => ?_
    rw [intR_set] at h3
    simp -dsimp -implicitDefEqProofs (disch := omega) only [go_sem, reqD_of, dec_t, dec_f, wrap_i64, wrap_u32, wrap_u64, wrap_u8, hd, e0, e4, e5, e6, e7, e12, e14, e15, e16]
    have h4 : St w0 (Blk N (.cells (needC (kN k, a)).toArray 38 (0, 0)) * G5 B ls ws (.slice (some ⟨bR, oR, none⟩) 6 cR) (.slice (some ⟨bA, oA, none⟩) 6 cA) rs (ats.set k ((at' : Int) + 1)) (F6 (.slice (some ⟨bI, oI, none⟩) l.length cI) l (.slice (some ⟨bW, oW, none⟩) 8 cW) W F)) w3 := by
      unfold G5 F6; exact h3.sub
    refine first_37 (v0 := v0) (i := i) (gone := gone) (N := N) hT hL hj hu hjl hk hrk (at2 := at' + 1) (by rw [List.getElem?_set_self (by omega)]; simp) hra hrl hheld hwait ⟨⟨by simp -dsimp -implicitDefEqProofs only [go_sem, hd], by simp -dsimp -implicitDefEqProofs only [go_sem, e0], by simp -dsimp -implicitDefEqProofs only [go_sem, e4], by simp -dsimp -implicitDefEqProofs only [go_sem, e5], by simp -dsimp -implicitDefEqProofs only [go_sem, e6], by simp -dsimp -implicitDefEqProofs only [go_sem, e14], by simp -dsimp -implicitDefEqProofs only [go_sem, e15]⟩, by simp -dsimp -implicitDefEqProofs only [go_sem, e7], by simp -dsimp -implicitDefEqProofs only [go_sem, e12]⟩ (by simp -dsimp -implicitDefEqProofs only [go_sem, e16]) (by simp -dsimp -implicitDefEqProofs only [go_sem]) (by simp -dsimp -implicitDefEqProofs (disch := omega) only [go_sem, reqD_of, dec_t, dec_f, wrap_i64, wrap_u32, wrap_u64, wrap_u8]) (by simp -dsimp -implicitDefEqProofs only [go_sem]) (by simpa using hal) h4 ?_
    intro e' w' hs' e16' h'
    obtain ⟨⟨f0, f1, f2, f3, f4, f5, f6⟩, f7, f8⟩ := hs'
    simp -dsimp -implicitDefEqProofs (disch := omega) only [go_sem, reqD_of, dec_t, dec_f, wrap_i64, wrap_u32, wrap_u64, wrap_u8, e16']
    refine hQ _ _ ⟨⟨by simp -dsimp -implicitDefEqProofs only [go_sem, f0], by simp -dsimp -implicitDefEqProofs only [go_sem, f1], by simp -dsimp -implicitDefEqProofs only [go_sem, f2], by simp -dsimp -implicitDefEqProofs only [go_sem, f3], by simp -dsimp -implicitDefEqProofs only [go_sem, f4], by simp -dsimp -implicitDefEqProofs only [go_sem, f5], by simp -dsimp -implicitDefEqProofs only [go_sem, f6]⟩, by simp -dsimp -implicitDefEqProofs only [go_sem, f7], by simp -dsimp -implicitDefEqProofs only [go_sem, f8]⟩ (by simp -dsimp -implicitDefEqProofs only [go_sem]) ?_
    rw [List.set_set] at h'
    rw [hnext]
    have : (((at' + 1 : Nat) : Int) + 1) = ((at' + 1 + 1 : Nat) : Int) := by omega
    rw [← this]
    exact h'
  · have hnext : atNext row gone at' = at' + 1 := by unfold atNext; rw [if_neg (by rw [hx]; simpa using hxg)]
    have hra := hskip.2 (by rw [hx]; simpa using hxg)
    simp -dsimp -implicitDefEqProofs (disch := omega) only [go_sem, reqD_of, dec_t, dec_f, wrap_i64, wrap_u32, wrap_u64, wrap_u8, hd, e0, e4, e5, e6, e7, e12, e14, e15, e16, hNc, k1, k2, hRk2, hAk, hlt, hrx, hxg]
    have h4 : St w0 (Blk N (.cells (needC (kN k, a)).toArray 38 (0, 0)) * G5 B ls ws (.slice (some ⟨bR, oR, none⟩) 6 cR) (.slice (some ⟨bA, oA, none⟩) 6 cA) rs ats (F6 (.slice (some ⟨bI, oI, none⟩) l.length cI) l (.slice (some ⟨bW, oW, none⟩) 8 cW) W F)) w2 := by
      unfold G5 F6; exact h2.sub
    refine first_37 (v0 := v0) (i := i) (gone := gone) (N := N) hT hL hj hu hjl hk hrk (at2 := at') hak hra hrl hheld hwait ⟨⟨by simp -dsimp -implicitDefEqProofs only [go_sem, hd], by simp -dsimp -implicitDefEqProofs only [go_sem, e0], by simp -dsimp -implicitDefEqProofs only [go_sem, e4], by simp -dsimp -implicitDefEqProofs only [go_sem, e5], by simp -dsimp -implicitDefEqProofs only [go_sem, e6], by simp -dsimp -implicitDefEqProofs only [go_sem, e14], by simp -dsimp -implicitDefEqProofs only [go_sem, e15]⟩, by simp -dsimp -implicitDefEqProofs only [go_sem, e7], by simp -dsimp -implicitDefEqProofs only [go_sem, e12]⟩ (by simp -dsimp -implicitDefEqProofs only [go_sem, e16]) (by simp -dsimp -implicitDefEqProofs only [go_sem]) (by simp -dsimp -implicitDefEqProofs (disch := omega) only [go_sem, reqD_of, dec_t, dec_f, wrap_i64, wrap_u32, wrap_u64, wrap_u8]) (by simp -dsimp -implicitDefEqProofs only [go_sem]) hal h4 ?_
    intro e' w' hs' e16' h'
    obtain ⟨⟨f0, f1, f2, f3, f4, f5, f6⟩, f7, f8⟩ := hs'
    simp -dsimp -implicitDefEqProofs (disch := omega) only [go_sem, reqD_of, dec_t, dec_f, wrap_i64, wrap_u32, wrap_u64, wrap_u8, e16']
    refine hQ _ _ ⟨⟨by simp -dsimp -implicitDefEqProofs only [go_sem, f0], by simp -dsimp -implicitDefEqProofs only [go_sem, f1], by simp -dsimp -implicitDefEqProofs only [go_sem, f2], by simp -dsimp -implicitDefEqProofs only [go_sem, f3], by simp -dsimp -implicitDefEqProofs only [go_sem, f4], by simp -dsimp -implicitDefEqProofs only [go_sem, f5], by simp -dsimp -implicitDefEqProofs only [go_sem, f6]⟩, by simp -dsimp -implicitDefEqProofs only [go_sem, f7], by simp -dsimp -implicitDefEqProofs only [go_sem, f8]⟩ (by simp -dsimp -implicitDefEqProofs only [go_sem]) ?_
    rw [hnext]
    have : ((at' : Int) + 1) = ((at' + 1 : Nat) : Int) := by omega
    rw [← this]
    exact h'

end
end Go.Proofs.Ytacmnfpgimgigaa

namespace Go.Proofs.Ytacmnfpgimgigaa
open Go
set_option linter.unusedSimpArgs false
set_option linter.unusedVariables false
set_option maxRecDepth 100000

theorem ask_queue (who : Int) (n : Nee) (ls : List (Nam × LkS)) (ws : List (Int × Nee)) (y : Nam) : ∃ extra, queueS y ls ++ extra = queueS y (askS who n ls ws).2.1 := by
  unfold askS
  split
  · exact ⟨[], by simp⟩
  · simp only
    simp only [queueS]
    rw [agt_aset_if]
    by_cases hy : y = n.1
    · subst hy
      rw [if_pos rfl]
      generalize (agt n.1 ls).getD ([], []) = s
      unfold askT
      split
      · exact ⟨[], by simp⟩
      · split
        · exact ⟨[], by simp⟩
        · exact ⟨[who], by simp⟩
    · rw [if_neg hy]; exact ⟨[], by simp⟩

section step
variable {ls ls' : List (Nam × LkS)} {ws ws' : List (Int × Nee)} {m : Mv} {l : List Claim}
theorem moved_of (v : Inv ls ws) (hR : moveS m ls ws = ((l, true), ls', ws')) (hw : ¬ pickI m.1 4 < 2) : Moved (mvWho m) (decide (pickI m.1 4 = 3)) ls ws l ls' ws' := by
  have hp := pickI_range (c := m.1) (n := 4) (by decide)
  unfold moveS at hR
  rw [if_neg hw] at hR
  split at hR
  · rename_i h2
    have := Moved.free v (mvWho m) (mvLock m) (by
      have := congrArg (fun z => z.1.2) hR
      simpa using this)
    simp only [Prod.mk.injEq] at hR
    obtain ⟨⟨h1, _⟩, h3⟩ := hR
    have e1 : ls' = (freeS (mvWho m) (mvLock m) ls ws).2.1 := by rw [h3]
    have e2 : ws' = (freeS (mvWho m) (mvLock m) ls ws).2.2 := by rw [h3]
    rw [← h1, e1, e2, show decide (pickI m.1 4 = 3) = false by rw [h2]; rfl]
    exact this
  · rename_i h2
    simp only [Prod.mk.injEq] at hR
    obtain ⟨⟨h1, _⟩, h3⟩ := hR
    have e1 : ls' = (leaveS (mvWho m) ls ws).2.1 := by rw [h3]
    have e2 : ws' = (leaveS (mvWho m) ls ws).2.2 := by rw [h3]
    rw [← h1, e1, e2, show decide (pickI m.1 4 = 3) = true by rw [decide_eq_true_iff]; omega]
    exact Moved.leave v (mvWho m)
theorem asked_of (hR : moveS m ls ws = ((l, true), ls', ws')) (hw : pickI m.1 4 < 2) : l = [] ∧ ∀ y, ∃ extra, queueS y ls ++ extra = queueS y ls' := by
  unfold moveS at hR
  rw [if_pos hw] at hR
  simp only [Prod.mk.injEq] at hR
  refine ⟨hR.1.1.symm, fun y => ?_⟩
  have := ask_queue (mvWho m) (mvLock m, m.2.2.2) ls ws y
  rw [hR.2] at this
  exact this

/-- One who was let in. -/
theorem step_in (v : Inv ls ws) (f : Few ls) (hR : moveS m ls ws = ((l, true), ls', ws')) {c : Claim} (hc : c ∈ l) : ∃ (u k : Nat), u < 8 ∧ k < 6 ∧ c.1 = 1 + (u : Int) ∧ agt c.1 ws = some (kN k, c.2) ∧ c.1 ≠ mvWho m ∧ (kN k, c.2) ∈ heldS c.1 ls' ∧ agt c.1 ws' = none := by
  by_cases hw : pickI m.1 4 < 2
  · rw [(asked_of hR hw).1] at hc; cases hc
  have hM := moved_of v hR hw
  obtain ⟨h1, h2, y, h3, s', h4, h5⟩ := hM.who c hc
  obtain ⟨s, hs, hm⟩ := v.wq _ _ _ h3
  obtain ⟨⟨k, hk, rfl⟩, _, h8⟩ := f _ _ hs
  have := h8 _ hm
  simp only at this
  have v' : Inv ls' ws' := by have := v.move m; rw [hR] at this; exact this
  exact ⟨(c.1 - 1).toNat, k, by omega, hk, by omega, h3, h1, (mem_heldS v').2 ⟨s', h4, h5⟩, h2⟩

theorem queue_nodup (v : Inv ls ws) (y : Nam) : (queueS y ls).Nodup := by
  unfold queueS
  cases h : agt y ls with
  | none => simp
  | some s => exact (v.ok _ _ h).qn

/-- Where the pointers stand when p of those let in are done. -/
def PtrOk (gone : Int) (ls : List (Nam × LkS)) (ws : List (Int × Nee)) (p : List Claim) (k a : Nat) : Prop :=
  a ≤ (queueS (kN k) ls).length ∧ (((queueS (kN k) ls).take a).filter fun x => !decide (x = gone)) = (p.filter (lockIs ws (kN k))).map (·.1) ∧ (p.filter (lockIs ws (kN k)) = [] → a = 0)

theorem ptr_start (gone : Int) (k : Nat) : PtrOk gone ls ws [] k 0 := ⟨by omega, by simp, fun _ => rfl⟩

theorem kN_inj {a b : Nat} (h : kN a = kN b) : a = b := by
  simp only [kN, Prod.mk.injEq, true_and] at h
  omega

theorem ptr_step (v : Inv ls ws) (f : Few ls) (hR : moveS m ls ws = ((l, true), ls', ws')) {p rest : List Claim} {c : Claim} (hl : l = p ++ c :: rest) {k a : Nat} (hk : agt c.1 ws = some (kN k, c.2)) (hp : PtrOk (mvWho m) ls ws p k a) :
    ((queueS (kN k) ls)[a]? = some (mvWho m) → (queueS (kN k) ls)[a + 1]? = some c.1) ∧ ((queueS (kN k) ls)[a]? ≠ some (mvWho m) → (queueS (kN k) ls)[a]? = some c.1) ∧ PtrOk (mvWho m) ls ws (p ++ [c]) k (atNext (queueS (kN k) ls) (mvWho m) a) := by
  have hw : ¬ pickI m.1 4 < 2 := fun hw => by have := (asked_of hR hw).1; rw [hl] at this; simp at this
  have hM := moved_of v hR hw
  have hlc : lockIs ws (kN k) c = true := by simp [lockIs, hk]
  have hrow := hM.row (kN k)
  rw [hl, List.filter_append, List.filter_cons, if_pos hlc, List.map_append, List.map_cons, List.append_assoc, List.cons_append] at hrow
  obtain ⟨s1, s2⟩ := skip_step (queue_nodup v (kN k)) hrow hp.1 hp.2.1
  refine ⟨fun h => (s1 h).1, fun h => (s2 h).1, ?_⟩
  have hpf : (p ++ [c]).filter (lockIs ws (kN k)) = p.filter (lockIs ws (kN k)) ++ [c] := by rw [List.filter_append]; simp [hlc]
  unfold PtrOk
  rw [hpf]
  unfold atNext
  by_cases h : (queueS (kN k) ls)[a]? = some (mvWho m)
  · rw [if_pos h]
    obtain ⟨q1, q2⟩ := s1 h
    have := (List.getElem?_eq_some_iff.1 q1).1
    refine ⟨by omega, by rw [q2]; simp, fun h => by simp at h⟩
  · rw [if_neg h]
    obtain ⟨q1, q2⟩ := s2 h
    have := (List.getElem?_eq_some_iff.1 q1).1
    refine ⟨by omega, by rw [q2]; simp, fun h => by simp at h⟩
theorem ptr_other {gone : Int} {p : List Claim} {c : Claim} {k k' a : Nat} (hk : agt c.1 ws = some (kN k, c.2)) (hne : k' ≠ k) (hp : PtrOk gone ls ws p k' a) : PtrOk gone ls ws (p ++ [c]) k' a := by
  have hlc : lockIs ws (kN k') c = false := by
    simp only [lockIs, hk, Option.map_some, Option.some.injEq, decide_eq_false_iff_not]
    exact fun e => hne (kN_inj e).symm
  have hpf : (p ++ [c]).filter (lockIs ws (kN k')) = p.filter (lockIs ws (kN k')) := by rw [List.filter_append]; simp [hlc]
  unfold PtrOk
  rw [hpf]
  exact hp

theorem fin_row (v : Inv ls ws) (f : Few ls) (hR : moveS m ls ws = ((l, true), ls', ws')) {k a : Nat} (hp : PtrOk (mvWho m) ls ws l k a) : FinRow (mvWho m) (pickI m.1 4) (queueS (kN k) ls) a (queueS (kN k) ls') := by
  obtain ⟨p1, p2, p3⟩ := hp
  have hpr := pickI_range (c := m.1) (n := 4) (by decide)
  refine ⟨p1, ?_⟩
  by_cases hw : pickI m.1 4 < 2
  · obtain ⟨e1, e2⟩ := asked_of hR hw
    obtain ⟨extra, he⟩ := e2 (kN k)
    have ha := p3 (by rw [e1]; rfl)
    subst ha
    have hsk : ((queueS (kN k) ls).drop 0).filter (sk (mvWho m) (pickI m.1 4)) = queueS (kN k) ls := by
      rw [List.drop_zero, List.filter_eq_self]
      intro x _
      have : ¬ pickI m.1 4 = 3 := by omega
      simp [sk, this]
    exact ⟨extra, by rw [hsk]; exact he, fun h => by omega⟩
  have hM := moved_of v hR hw
  have hrow := hM.row (kN k)
  have hsp : queueS (kN k) ls = (queueS (kN k) ls).take a ++ (queueS (kN k) ls).drop a := (List.take_append_drop a _).symm
  by_cases h3 : pickI m.1 4 = 3
  · have hg := hM.lvt (by rw [decide_eq_true_iff]; exact h3) (kN k)
    rw [hsp, List.filter_append, p2] at hrow
    have hdr := List.append_cancel_left hrow
    have hq : ((queueS (kN k) ls').filter fun x => !decide (x = mvWho m)) = queueS (kN k) ls' := by
      rw [List.filter_eq_self]
      intro x hx
      simp only [Bool.not_eq_true', decide_eq_false_iff_not]
      rintro rfl
      exact hg hx
    rw [hq] at hdr
    refine ⟨[], ?_, fun _ => rfl⟩
    rw [List.append_nil, ← hdr]
    apply List.filter_congr
    intro x _
    simp [sk, h3]
  · have hlf := hM.lvf (by rw [decide_eq_false_iff_not]; exact h3) (kN k)
    have hsk : ((queueS (kN k) ls).drop a).filter (sk (mvWho m) (pickI m.1 4)) = (queueS (kN k) ls).drop a := by
      rw [List.filter_eq_self]
      intro x _
      simp [sk, h3]
    refine ⟨[], ?_, fun _ => rfl⟩
    rw [List.append_nil, hsk]
    by_cases hl : l.filter (lockIs ws (kN k)) = []
    · have ha := p3 hl
      subst ha
      rw [List.drop_zero]
      exact (hlf.1 hl).symm
    · obtain ⟨g1, g2⟩ := hlf.2 hl
      have hno : ∀ q : List Int, mvWho m ∉ q → (q.filter fun x => !decide (x = mvWho m)) = q := fun q hq => by
        rw [List.filter_eq_self]
        intro x hx
        simp only [Bool.not_eq_true', decide_eq_false_iff_not]
        rintro rfl
        exact hq hx
      rw [hno _ g1, hno _ g2] at hrow
      rw [hno _ (fun h => g1 (List.mem_of_mem_take h))] at p2
      rw [hsp, p2] at hrow
      exact List.append_cancel_left hrow
end step

end Go.Proofs.Ytacmnfpgimgigaa

namespace Go.Proofs.Ytacmnfpgimgigaa
open Go
set_option linter.unusedSimpArgs false
set_option linter.unusedVariables false
set_option maxRecDepth 100000

abbrev Sta := List (Nam × LkS) × List (Int × Nee)
/-- Somebody leaves, if he can. -/
def goS (who : Int) (t : Sta) : Sta := if agt who t.2 = none then (leaveS who t.1 t.2).2 else t
def passS : Nat → Sta → Sta
  | 0, t => t
  | n + 1, t => goS (1 + (n : Int)) (passS n t)
def roundsS : Nat → Sta → Sta
  | 0, t => t
  | k + 1, t => passS 8 (roundsS k t)

def noHold (who : Int) (ls : List (Nam × LkS)) : Prop := ∀ x s, agt x ls = some s → who ∉ s.1.map (·.1)
def SInv (t : Sta) : Prop := Inv t.1 t.2 ∧ Few t.1
/-- The one comes of the other by leaving. -/
structure Less (t u : Sta) : Prop where
  stk : ∀ p, Stk u.1 u.2 p ↔ Stk t.1 t.2 p
  wt : ∀ p n, agt p u.2 = some n → agt p t.2 = some n
  keep : ∀ p, agt p t.2 = none → noHold p t.1 → noHold p u.1
  tot : tot u.1 ≤ tot t.1
  len : u.1.length ≤ t.1.length
theorem Less.refl (t : Sta) : Less t t := ⟨fun _ => Iff.rfl, fun _ _ h => h, fun _ _ h => h, Nat.le_refl _, Nat.le_refl _⟩
theorem Less.none {t u : Sta} (l : Less t u) {p : Int} (h : agt p t.2 = none) : agt p u.2 = none := by
  cases h2 : agt p u.2 with
  | none => rfl
  | some n => rw [l.wt p n h2] at h; cases h
theorem Less.trans {t u v : Sta} (a : Less t u) (b : Less u v) : Less t v :=
  ⟨fun p => (b.stk p).trans (a.stk p), fun p n h => a.wt p n (b.wt p n h), fun p h1 h2 => b.keep p (a.none h1) (a.keep p h1 h2), Nat.le_trans b.tot a.tot, Nat.le_trans b.len a.len⟩

theorem leave_held {ls : List (Nam × LkS)} {ws : List (Int × Nee)} (v : Inv ls ws) (who : Int) {x : Nam} {s' : LkS} (h : agt x (leaveS who ls ws).2.1 = some s') {p : Int} (hp : p ∈ s'.1.map (·.1)) :
    p ≠ who ∧ ∃ s, agt x ls = some s ∧ (p ∈ s.1.map (·.1) ∨ p ∈ (leaveS who ls ws).1.map (·.1) ∧ ∃ a, agt p ws = some (x, a)) := by
  obtain ⟨ord, hn, e1, e2, e3, e4, e5⟩ := leave_spec v who
  rw [e3 x] at h
  simp only [stripL] at h
  cases hs : agt x ls with
  | none => rw [hs] at h; cases h
  | some s =>
    rw [hs] at h
    simp only at h
    split at h
    · cases h
    simp only [Option.some.injEq] at h
    subst h
    obtain ⟨a1, a2⟩ := adm_spec (notWho who s.1) (notWho who s.2)
    simp only at hp
    rw [a1, List.map_append, List.mem_append] at hp
    rcases hp with hp | hp
    · obtain ⟨d, hd, rfl⟩ := List.mem_map.1 hp
      exact ⟨(notWho_mem.1 hd).2, s, rfl, .inl (List.mem_map.2 ⟨d, (notWho_mem.1 hd).1, rfl⟩)⟩
    · obtain ⟨d, hd, rfl⟩ := List.mem_map.1 hp
      have had : d ∈ admL who ls x := by simp only [admL, hs]; exact hd
      obtain ⟨q1, q2⟩ := admL_in v had
      refine ⟨q1, s, rfl, .inr ⟨?_, d.2, q2⟩⟩
      rw [e1]
      refine List.mem_map.2 ⟨d, List.mem_flatMap.2 ⟨x, ?_, had⟩, rfl⟩
      apply Classical.byContradiction
      intro hno
      rw [e2 x hno] at had
      cases had
theorem leave_wait {ls : List (Nam × LkS)} {ws : List (Int × Nee)} (v : Inv ls ws) (who : Int) {p : Int} {n : Nee} (h : agt p (leaveS who ls ws).2.2 = some n) : p ≠ who ∧ p ∉ (leaveS who ls ws).1.map (·.1) ∧ agt p ws = some n := by
  obtain ⟨ord, hn, e1, e2, e3, e4, e5⟩ := leave_spec v who
  have hno : ¬ (p = who ∨ p ∈ (leaveS who ls ws).1.map (·.1)) := fun hh => by rw [e4 p hh] at h; cases h
  rw [not_or] at hno
  exact ⟨hno.1, hno.2, by rw [← e5 p hno.1 hno.2]; exact h⟩

theorem goS_less {t : Sta} (i : SInv t) (who : Int) : Less t (goS who t) ∧ SInv (goS who t) ∧ (agt who t.2 = none → noHold who (goS who t).1) := by
  unfold goS
  by_cases h : agt who t.2 = none
  · rw [if_pos h]
    obtain ⟨q1, q2, q3⟩ := leaveS_tot who t.1 t.2
    refine ⟨⟨fun p => stk_leave i.1 h p, fun p n hp => (leave_wait i.1 who hp).2.2, fun p hp hno x s hs hm => ?_, q1, q3⟩, ⟨i.1.leave who, Few.leaveL _ _ (i.1.leave1 _) (Few.leave1 i.1 i.2 _)⟩, fun _ x s hs hm => (leave_held i.1 who hs hm).1 rfl⟩
    obtain ⟨_, s0, hs0, hor⟩ := leave_held i.1 who hs hm
    rcases hor with hor | ⟨_, a, ha⟩
    · exact hno x s0 hs0 hor
    · rw [hp] at ha; cases ha
  · rw [if_neg h]
    exact ⟨Less.refl t, i, fun h2 => absurd h2 h⟩

theorem passS_less {t : Sta} (i : SInv t) : ∀ n, Less t (passS n t) ∧ SInv (passS n t) ∧ ∀ k, k < n → agt (1 + (k : Int)) t.2 = none → noHold (1 + (k : Int)) (passS n t).1
  | 0 => ⟨Less.refl t, i, fun k hk => absurd hk (by omega)⟩
  | n + 1 => by
    obtain ⟨l, j, hh⟩ := passS_less i n
    obtain ⟨l2, j2, h2⟩ := goS_less j (1 + (n : Int))
    refine ⟨l.trans l2, j2, fun k hk hw => ?_⟩
    by_cases hkn : k = n
    · subst hkn
      exact h2 (l.none hw)
    · exact l2.keep _ (l.none hw) (hh k (by omega) hw)
theorem roundsS_less {t : Sta} (i : SInv t) : ∀ k, Less t (roundsS k t) ∧ SInv (roundsS k t)
  | 0 => ⟨Less.refl t, i⟩
  | k + 1 => by
    obtain ⟨l, j⟩ := roundsS_less i k
    obtain ⟨l2, j2, _⟩ := passS_less j 8
    exact ⟨l.trans l2, j2⟩

/-- How many wait. -/
def nW (ws : List (Int × Nee)) : Nat := ((List.range 8).filter fun k : Nat => (agt (1 + (k : Int)) ws).isSome).length
def Done (t : Sta) : Prop := ∀ p, (agt p t.2).isSome = true → Stk t.1 t.2 p

theorem filter_len_lt {α : Type} {p q : α → Bool} : ∀ {l : List α}, (∀ x ∈ l, p x = true → q x = true) → (∃ x ∈ l, q x = true ∧ p x = false) → (l.filter p).length < (l.filter q).length
  | [], _, ⟨x, h, _⟩ => by cases h
  | a :: l, hpq, ⟨x, hx, hq, hp⟩ => by
    have hle : ∀ {l : List α}, (∀ x ∈ l, p x = true → q x = true) → (l.filter p).length ≤ (l.filter q).length := by
      intro l
      induction l with
      | nil => intro _; simp
      | cons b l ih =>
        intro h
        have h1 := ih fun x hx => h x (by simp [hx])
        simp only [List.filter_cons]
        cases hb : p b with
        | true => rw [h b (by simp) hb]; simp; omega
        | false => cases q b <;> simp <;> omega
    rcases List.mem_cons.1 hx with rfl | hx'
    · have h1 := hle (l := l) fun y hy => hpq y (by simp [hy])
      simp only [List.filter_cons, hq, hp]
      simp
      omega
    · have h1 := filter_len_lt (l := l) (fun y hy => hpq y (by simp [hy])) ⟨x, hx', hq, hp⟩
      simp only [List.filter_cons]
      cases ha : p a with
      | true => rw [hpq a (by simp) ha]; simp; omega
      | false => cases q a <;> simp <;> omega

theorem SInv.wait8 {t : Sta} (i : SInv t) {p : Int} (h : (agt p t.2).isSome = true) : ∃ k : Nat, k < 8 ∧ p = 1 + (k : Int) := by
  obtain ⟨⟨x, a⟩, hx⟩ := Option.isSome_iff_exists.1 h
  obtain ⟨s, hs, hm⟩ := i.1.wq p x a hx
  have := (i.2 x s hs).2.2 _ hm
  simp only at this
  exact ⟨(p - 1).toNat, by omega, by omega⟩

theorem pass_or {t : Sta} (i : SInv t) : Done (passS 8 t) ∨ nW (passS 8 t).2 < nW t.2 := by
  obtain ⟨l, j, hh⟩ := passS_less i 8
  by_cases hall : ∀ p, (agt p t.2).isSome = true → (agt p (passS 8 t).2).isSome = true
  · left
    intro p hp
    refine (stk_end j.1 (fun x s hs c hc => ?_) p).2 hp
    have hr := (j.2 x s hs).2.1 c hc
    apply hall
    cases hw : agt c.1 t.2 with
    | some n => rfl
    | none =>
      have h9 := hh (c.1 - 1).toNat (by omega) (by rw [show 1 + ((c.1 - 1).toNat : Int) = c.1 by omega]; exact hw)
      rw [show 1 + ((c.1 - 1).toNat : Int) = c.1 by omega] at h9
      exact absurd (List.mem_map.2 ⟨c, hc, rfl⟩) (h9 x s hs)
  · right
    simp only [Classical.not_forall] at hall
    obtain ⟨p, hp, hno⟩ := hall
    obtain ⟨k, hk, rfl⟩ := i.wait8 hp
    refine filter_len_lt (fun x hx h => ?_) ⟨k, List.mem_range.2 hk, hp, by simpa using hno⟩
    obtain ⟨n, hn⟩ := Option.isSome_iff_exists.1 h
    rw [l.wt _ n hn]; rfl
theorem done_less {t u : Sta} (l : Less t u) (h : Done t) : Done u := by
  intro p hp
  obtain ⟨n, hn⟩ := Option.isSome_iff_exists.1 hp
  exact (l.stk p).2 (h p (by rw [l.wt p n hn]; rfl))
theorem rounds_or {t : Sta} (i : SInv t) : ∀ k, Done (roundsS k t) ∨ nW (roundsS k t).2 + k ≤ 8
  | 0 => .inr (by have := List.length_filter_le (fun k : Nat => (agt (1 + (k : Int)) (roundsS 0 t).2).isSome) (List.range 8); simp only [List.length_range] at this; unfold nW; omega)
  | k + 1 => by
    obtain ⟨l, j⟩ := roundsS_less i k
    rcases rounds_or i k with h | h
    · exact .inl (done_less (passS_less j 8).1 h)
    · rcases pass_or j with h2 | h2
      · exact .inl h2
      · right
        show nW (passS 8 (roundsS k t)).2 + (k + 1) ≤ 8
        omega
theorem rounds_done {t : Sta} (i : SInv t) : Done (roundsS 8 t) := by
  rcases rounds_or i 8 with h | h
  · exact h
  · intro p hp
    obtain ⟨k, hk, rfl⟩ := (roundsS_less i 8).2.wait8 hp
    have h0 : nW (roundsS 8 t).2 = 0 := by omega
    have h1 := List.eq_nil_of_length_eq_zero h0
    rw [List.filter_eq_nil_iff] at h1
    exact absurd hp (h1 k (List.mem_range.2 hk))
/-- Behind nine rounds just those wait who are stuck. -/
theorem rounds_end {t : Sta} (i : SInv t) (p : Int) : (agt p (roundsS 9 t).2).isSome = true ↔ Stk t.1 t.2 p := by
  obtain ⟨l, j⟩ := roundsS_less i 8
  obtain ⟨l9, _⟩ := roundsS_less i 9
  have hd : Done (roundsS 9 t) := done_less (passS_less j 8).1 (rounds_done i)
  exact ⟨fun h => (l9.stk p).1 (hd p h), fun h => ((l9.stk p).2 h).waits⟩
/-- Where nobody is stuck, all is let go in the end. -/
theorem rounds_empty {t : Sta} (i : SInv t) (hno : ∀ p, ¬ Stk t.1 t.2 p) : (roundsS 9 t).1 = [] := by
  obtain ⟨l, j⟩ := roundsS_less i 8
  obtain ⟨l9, j9, hh⟩ := passS_less j 8
  have hd := rounds_done i
  have hw : ∀ p, agt p (roundsS 8 t).2 = none := fun p => by
    cases h : agt p (roundsS 8 t).2 with
    | none => rfl
    | some n => exact absurd ((l.stk p).1 (hd p (by rw [h]; rfl))) (hno p)
  show (passS 8 (roundsS 8 t)).1 = []
  apply Classical.byContradiction
  intro hne
  obtain ⟨q, ll, hq⟩ := List.exists_cons_of_ne_nil hne
  have hk := agt_of_mem j9.1.kn (show (q.1, q.2) ∈ (passS 8 (roundsS 8 t)).1 by rw [hq]; simp)
  obtain ⟨c, hs, hc⟩ := List.exists_cons_of_ne_nil (j9.1.ne _ _ hk)
  have hr := (j9.2 _ _ hk).2.1 c (by rw [hc]; simp)
  have h9 := hh (c.1 - 1).toNat (by omega) (hw _)
  rw [show 1 + ((c.1 - 1).toNat : Int) = c.1 by omega] at h9
  exact h9 _ _ hk (List.mem_map.2 ⟨c, by rw [hc]; simp, rfl⟩)

/-! ### Who asks rising never sticks -/
def Rise (t : Sta) : Prop := ∀ p x a, agt p t.2 = some (x, a) → ∀ y s, agt y t.1 = some s → p ∈ s.1.map (·.1) → cmpN y x < 0

theorem rise_none {t : Sta} (i : SInv t) (r : Rise t) (p : Int) : ¬ Stk t.1 t.2 p := by
  have key : ∀ (n : Nat) (p : Int) (k : Nat) (a : Bool), k < 6 → 6 - k ≤ n → agt p t.2 = some (kN k, a) → ¬ Stk t.1 t.2 p := by
    intro n
    induction n with
    | zero => intro p k a hk hn; omega
    | succ n ih =>
      intro p k a hk hn hp hs
      obtain ⟨x, a2, q, h1, h2, h3⟩ := Stk.closed p hs
      rw [hp] at h1
      simp only [Option.some.injEq, Prod.mk.injEq] at h1
      obtain ⟨rfl, rfl⟩ := h1
      obtain ⟨x3, a3, q3, h4, _, _⟩ := Stk.closed q h2
      obtain ⟨s, hs1, hq⟩ := holdAt h3
      have hlt := r q x3 a3 h4 (kN k) s hs1 hq
      obtain ⟨s3, hs3, _⟩ := i.1.wq q x3 a3 h4
      obtain ⟨⟨k3, hk3, rfl⟩, _⟩ := i.2 _ _ hs3
      rw [cmpN_neg] at hlt
      simp only [kN] at hlt
      exact ih q k3 a3 hk3 (by omega) h4 h2
  intro hs
  obtain ⟨x, a, q, h1, _, _⟩ := Stk.closed p hs
  obtain ⟨s, hs1, _⟩ := i.1.wq p x a h1
  obtain ⟨⟨k, hk, rfl⟩, _⟩ := i.2 _ _ hs1
  exact key 6 p k a hk (by omega) h1 hs

end Go.Proofs.Ytacmnfpgimgigaa

namespace Go.Proofs.Ytacmnfpgimgigaa
open Go
set_option linter.unusedSimpArgs false
set_option linter.unusedVariables false
set_option maxRecDepth 100000

theorem rise_leave {t : Sta} (i : SInv t) (r : Rise t) (who : Int) : Rise (leaveS who t.1 t.2).2 := by
  intro p x a hp y s' hs' hm
  obtain ⟨p1, p2, p3⟩ := leave_wait i.1 who hp
  obtain ⟨_, s, hs, hor⟩ := leave_held i.1 who hs' hm
  rcases hor with hor | ⟨hor, _⟩
  · exact r p x a p3 y s hs hor
  · exact absurd hor p2

theorem rise_free {t : Sta} (i : SInv t) (r : Rise t) (who : Int) (x : Nam) : Rise (freeS who x t.1 t.2).2 := by
  cases hx : agt x t.1 with
  | none => rw [freeS_no (by simp [hx])]; exact r
  | some s =>
    by_cases hm : who ∈ s.1.map (·.1)
    case neg =>
      rw [freeS_no (by intro s' hs'; rw [hx] at hs'; cases hs'; have h9 : ¬ 0 ≤ posC who s.1 0 := fun h => hm (posC_mem.1 h); omega)]
      exact r
    rw [freeS_held i.1 hx hm]
    have hL := turn_L (x := x) (s := (notWho who s.1, s.2)) (ws := t.2) i.1.kn
    have hW := turn_W (x := x) (s := (notWho who s.1, s.2)) (ls := t.1) i.1.wn
    obtain ⟨a1, a2⟩ := adm_spec (notWho who s.1) s.2
    have htl : (turnS x (notWho who s.1, s.2) t.1 t.2).1 = (adm (notWho who s.1) s.2).2.2 := rfl
    intro p z a hp y s' hs' hpm
    simp only at hp hs'
    rw [hW] at hp
    split at hp
    · cases hp
    rename_i hno
    rw [hL] at hs'
    by_cases hy : y = x
    · subst hy
      rw [if_pos rfl] at hs'
      split at hs'
      · cases hs'
      simp only [Option.some.injEq] at hs'
      subst hs'
      simp only at hpm
      rw [a1, List.map_append, List.mem_append] at hpm
      rcases hpm with hpm | hpm
      · obtain ⟨d, hd, rfl⟩ := List.mem_map.1 hpm
        exact r _ z a hp _ s hx (List.mem_map.2 ⟨d, (notWho_mem.1 hd).1, rfl⟩)
      · rw [htl] at hno
        exact absurd hpm hno
    · rw [if_neg hy] at hs'
      exact r p z a hp y s' hs' hpm

theorem rise_ask {t : Sta} (i : SInv t) (r : Rise t) {who : Int} {n : Nee} (hr : ∀ y s, agt y t.1 = some s → who ∈ s.1.map (·.1) → cmpN y n.1 < 0) : Rise (askS who n t.1 t.2).2 := by
  unfold askS
  cases hw : agt who t.2 with
  | some _ => exact r
  | none =>
    simp only
    have hs0 : ∀ p, p ∈ ((agt n.1 t.1).getD ([], [])).1.map (·.1) → ∃ s, agt n.1 t.1 = some s ∧ p ∈ s.1.map (·.1) := fun p hp => by
      cases h : agt n.1 t.1 with
      | none => rw [h] at hp; cases hp
      | some s => rw [h] at hp; exact ⟨s, rfl, hp⟩
    generalize (agt n.1 t.1).getD ([], []) = s at hs0
    intro p x a hp y s' hs' hpm
    rw [agt_aset_if] at hs'
    unfold askT at hp hs'
    by_cases hpos : 0 ≤ posC who s.1 0
    · rw [if_pos hpos] at hp hs'
      simp only [Bool.false_eq_true, if_false] at hp hs'
      by_cases hy : y = n.1
      · rw [if_pos hy] at hs'
        simp only [Option.some.injEq] at hs'
        subst hs' hy
        obtain ⟨s0, h1, h2⟩ := hs0 p hpm
        exact r p x a hp _ s0 h1 h2
      · rw [if_neg hy] at hs'
        exact r p x a hp y s' hs' hpm
    rw [if_neg hpos] at hp hs'
    have hnot : who ∉ s.1.map (·.1) := fun h => hpos (posC_mem.2 h)
    by_cases hg : s.2 = [] ∧ letsB s.1 n.2 = true
    · rw [if_pos hg] at hp hs'
      simp only [Bool.false_eq_true, if_false] at hp hs'
      have hpw : p ≠ who := by rintro rfl; rw [hw] at hp; cases hp
      by_cases hy : y = n.1
      · rw [if_pos hy] at hs'
        simp only [Option.some.injEq] at hs'
        subst hs' hy
        simp only [List.map_append, List.mem_append, List.map_cons, List.map_nil, List.mem_singleton] at hpm
        obtain ⟨s0, h1, h2⟩ := hs0 p (hpm.resolve_right hpw)
        exact r p x a hp _ s0 h1 h2
      · rw [if_neg hy] at hs'
        exact r p x a hp y s' hs' hpm
    · rw [if_neg hg] at hp hs'
      simp only [if_true] at hp hs'
      rw [agt_aset_if] at hp
      by_cases hpw : p = who
      · subst hpw
        rw [if_pos rfl] at hp
        simp only [Option.some.injEq] at hp
        subst hp
        by_cases hy : y = x
        · rw [if_pos hy] at hs'
          simp only [Option.some.injEq] at hs'
          subst hs'
          exact absurd hpm hnot
        · rw [if_neg hy] at hs'
          exact hr y s' hs' hpm
      · rw [if_neg hpw] at hp
        by_cases hy : y = n.1
        · rw [if_pos hy] at hs'
          simp only [Option.some.injEq] at hs'
          subst hs' hy
          obtain ⟨s0, h1, h2⟩ := hs0 p hpm
          exact r p x a hp _ s0 h1 h2
        · rw [if_neg hy] at hs'
          exact r p x a hp y s' hs' hpm

theorem askS_wlen (who : Int) (n : Nee) (ls : List (Nam × LkS)) (ws : List (Int × Nee)) : (askS who n ls ws).2.2.length ≤ ws.length + 1 := by
  unfold askS
  cases hw : agt who ws with
  | some _ => simp
  | none =>
    simp only
    split
    · have hk : aset who n ws = ws ++ [(who, n)] := aset_new hw
      rw [hk]; simp
    · omega
theorem move_wlen (m : Mv) (ls : List (Nam × LkS)) (ws : List (Int × Nee)) : (moveS m ls ws).2.2.length ≤ ws.length + 1 := by
  unfold moveS
  split
  · exact askS_wlen _ _ _ _
  · split
    · exact Nat.le_succ_of_le (freeS_wlen _ _ _ _)
    · exact Nat.le_succ_of_le (leaveS_wlen _ _ _)

theorem rise_move {ls : List (Nam × LkS)} {ws : List (Int × Nee)} (i : SInv (ls, ws)) (r : Rise (ls, ws)) (m : Mv) (hr : pickI m.1 4 < 2 → ∀ y s, agt y ls = some s → mvWho m ∈ s.1.map (·.1) → cmpN y (mvLock m) < 0) : Rise (moveS m ls ws).2 := by
  unfold moveS
  split
  · rename_i h
    exact rise_ask (t := (ls, ws)) i r (hr h)
  · split
    · exact rise_free (t := (ls, ws)) i r _ _
    · exact rise_leave (t := (ls, ws)) i r _
theorem SInv.move {ls : List (Nam × LkS)} {ws : List (Int × Nee)} (i : SInv (ls, ws)) (m : Mv) : SInv (moveS m ls ws).2 := ⟨i.1.move m, Few.move i.1 i.2 m⟩

/-- Of what somebody holds the last is the highest. -/
theorem held_last {ls : List (Nam × LkS)} {ws : List (Int × Nee)} (v : Inv ls ws) {who : Int} {j : Nat} (hj : j + 1 = (heldS who ls).length) {x : Nam} (hx : 0 < cmpN x ((heldS who ls)[j]'(by omega)).1) :
    ∀ y s, agt y ls = some s → who ∈ s.1.map (·.1) → cmpN y x < 0 := by
  intro y s hs hm
  obtain ⟨n, hn, rfl⟩ := List.mem_map.1 ((heldS_iff v).2 ⟨s, hs, hm⟩)
  obtain ⟨k, hk, rfl⟩ := List.getElem_of_mem hn
  have hle : leN ((heldS who ls)[k]) ((heldS who ls)[j]'(by omega)) = true := by
    by_cases hkj : k = j
    · subst hkj; exact leN_refl _
    · have := leN_sorted (heldL who ls)
      rw [List.pairwise_iff_getElem] at this
      exact this k j hk (by show j < (heldS who ls).length; omega) (by omega)
  generalize (heldS who ls)[k] = a at hle
  generalize ((heldS who ls)[j]'(by omega)) = b at hle hx
  have hx' : cmpN b.1 x < 0 := by
    rcases cmpN_cases x b.1 with ⟨h, _⟩ | ⟨h, _⟩ | ⟨_, h⟩
    · omega
    · omega
    · rw [cmpN_neg]; omega
  simp only [leN, Bool.not_eq_true', decide_eq_false_iff_not, cmpN_neg] at hle
  rw [cmpN_neg] at hx' ⊢
  omega
theorem held_none {ls : List (Nam × LkS)} {ws : List (Int × Nee)} (v : Inv ls ws) {who : Int} (h0 : (heldS who ls).length = 0) {x : Nam} :
    ∀ y s, agt y ls = some s → who ∈ s.1.map (·.1) → cmpN y x < 0 := by
  intro y s hs hm
  have := (heldS_iff v).2 ⟨s, hs, hm⟩
  rw [List.eq_nil_of_length_eq_zero h0] at this
  cases this

end Go.Proofs.Ytacmnfpgimgigaa

namespace Go.Proofs.Ytacmnfpgimgigaa
open Go
set_option linter.unusedSimpArgs false
set_option linter.unusedVariables false
set_option maxRecDepth 100000

section
attribute [local go_sem] F7.t16_eq F7.t9_eq F7.t10_eq F7.t25_eq F7.t26_eq F7.t22_eq F7.t23_eq F7.t31_eq F7.t32_eq F7.t35_eq F7.t29_eq F7.t20_eq F7.t7_eq F7.t3_eq
theorem rise_16 {w0 w : World} {F : HP} {B M i : Nat} {ls : List (Nam × LkS)} {ws : List (Int × Nee)} {v0 : Value} {m : Mv} {Q : Post} {e : FA} {θ : Tag (F7.t16, Q, e, w)}
    (v : SInv (ls, ws)) (r' : Rise (moveS m ls ws).2) (hT : tot ls < 536870912) (hL : ls.length < 536870912) (hW : ws.length < 536870912) (hm : MvOk m)
    (hd : e.ds = []) (e0 : e.ρ 0 = v0) (e4 : e.ρ 4 = .pointer (some ⟨B, 0, none⟩)) (e5 : e.ρ 5 = .int .i64 i) (e6 : e.ρ 6 = .pointer (some ⟨M, 0, none⟩))
    (h : St w0 (Blk M (.cells (mvC m).toArray 44 (0, 0)) * (TabP B ls ws * F)) w)
    (hQ : ∀ (e' : FA) (w' : World), e'.ds = [] → e'.ρ 0 = v0 → e'.ρ 4 = .pointer (some ⟨B, 0, none⟩) → e'.ρ 5 = .int .i64 i → St w0 (TabP B (moveS m ls ws).2.1 (moveS m ls ws).2.2 * F) w' → Q .normal e' w') :
    cwE Try.prog F7.t16 Q e w θ := by
  rw [F7.t16_eq]
  have hrow : rowV w ⟨M, 0, none⟩ 4 = some (.agg (mvC m).toArray) := h.rowH M 4 rfl
  obtain ⟨⟨⟨l, ok⟩, ls', ws'⟩, hR⟩ : ∃ y, moveS m ls ws = y := ⟨_, rfl⟩
  have v' := v.move m
  have ht' := move_tot m ls ws
  have hw' := move_wlen m ls ws
  rw [hR] at v' ht' hw' hQ r'
  simp only at v' ht' hw' hQ r'
  simp -dsimp -implicitDefEqProofs (disch := omega) only [go_sem, reqD_of, dec_t, dec_f, wrap_i64, wrap_u32, wrap_u64, wrap_u8, hd, e0, e4, e5, e6, hrow]
  refine (move_any hR hm (h.take (.obj B)) (fun n hn => by obtain ⟨s, hs, _⟩ := v.1.wq _ _ _ hn; exact ⟨s, hs⟩) (by omega) (by omega)).mono ?_
  rintro e' w1 ⟨v2, h1, rfl⟩
  simp -dsimp -implicitDefEqProofs (disch := omega) only [go_sem, reqD_of, dec_t, dec_f, wrap_i64, wrap_u32, wrap_u64, wrap_u8, hd, e0, e4, e5, e6]
  refine (stuck_any (ls := ls') (ws := ws') v'.1 (h1.take (.obj B)) (by omega) (by omega) (by omega)).mono ?_
  rintro e' w2 ⟨v3, l3, hs3, h2, rfl⟩
  have hl3 : l3 = [] := by
    rw [List.eq_nil_iff_forall_not_mem]
    exact fun p hp => rise_none v' r' p ((hs3.2 p).1 hp)
  subst hl3
  obtain ⟨a3, c3, rfl, _⟩ := h2.rowForm v3
  simp -dsimp -implicitDefEqProofs (disch := omega) only [go_sem, reqD_of, dec_t, dec_f, wrap_i64, wrap_u32, wrap_u64, wrap_u8, hd, e0, e4, e5, e6, List.length_nil]
  exact hQ _ _ (by simp -dsimp -implicitDefEqProofs only [go_sem, hd]) (by simp -dsimp -implicitDefEqProofs only [go_sem, e0]) (by simp -dsimp -implicitDefEqProofs only [go_sem, e4]) (by simp -dsimp -implicitDefEqProofs only [go_sem, e5]) h2.sub

end
section
attribute [local go_sem] F7.t9_eq F7.t10_eq F7.t25_eq F7.t26_eq F7.t22_eq F7.t23_eq F7.t31_eq F7.t32_eq F7.t35_eq F7.t29_eq F7.t20_eq F7.t7_eq F7.t3_eq
theorem rise_10 {w0 w : World} {F : HP} {B i : Nat} {ls : List (Nam × LkS)} {ws : List (Int × Nee)} {v0 : Value} {ms : List Mv} {m : Mv} {Q : Post} {e : FA} {θ : Tag (F7.t10, Q, e, w)}
    (v : SInv (ls, ws)) (r : Rise (ls, ws)) (hT : tot ls < 536870912) (hL : ls.length < 536870912) (hW : ws.length < 536870912) (hr : Ent F (Reads 4 v0 ms.length (ms.flatMap mvC))) (hi : ms[i]? = some m) (hm : MvOk m) (hmi : i < 1073741824)
    (hd : e.ds = []) (e0 : e.ρ 0 = v0) (e4 : e.ρ 4 = .pointer (some ⟨B, 0, none⟩)) (e5 : e.ρ 5 = .int .i64 i)
    (h : St w0 (TabP B ls ws * F) w)
    (hQ : ∀ (e' : FA) (w' : World) (ls' : List (Nam × LkS)) (ws' : List (Int × Nee)), e'.ds = [] → e'.ρ 0 = v0 → e'.ρ 4 = .pointer (some ⟨B, 0, none⟩) → e'.ρ 5 = .int .i64 ((i : Int) + 1) → SInv (ls', ws') → Rise (ls', ws') → tot ls' ≤ tot ls + 1 → ls'.length ≤ ls.length + 1 → ws'.length ≤ ws.length + 1 → St w0 (TabP B ls' ws' * F) w' → Q .normal e' w') :
    cwE Try.prog F7.t10 Q e w θ := by
  obtain ⟨_, am, cm, rfl, _, hcm⟩ := St.rowsAt (k := 4) mvC_length (by decide) ((h.gives (B := F)).ent hr)
  obtain ⟨him, hmi2⟩ := List.getElem?_eq_some_iff.1 hi
  obtain ⟨bm, om, rfl, hrow, _⟩ := hcm i him
  rw [hmi2] at hrow
  have hp8 := pickI_range (c := m.2.1) (n := 8) (by decide)
  have hp6 := pickI_range (c := m.2.2.1) (n := 6) (by decide)
  rw [F7.t10_eq]
  simp -dsimp -implicitDefEqProofs (disch := omega) only [go_sem, reqD_of, dec_t, dec_f, wrap_i64, wrap_u32, wrap_u64, wrap_u8, hd, e0, e4, e5, hrow]
  refine h.new fun M w1 h1 => ?_
  simp -dsimp -implicitDefEqProofs (disch := omega) only [go_sem, reqD_of, dec_t, dec_f, wrap_i64, wrap_u32, wrap_u64, wrap_u8]
  refine h1.stoAll (cs := mvC m) rfl rfl (by simp [mvC, isCell]) fun w2 h2 => ?_
  have hM := h2.cl M
  simp only [mvC] at hM
  simp -dsimp -implicitDefEqProofs (disch := omega) only [go_sem, reqD_of, dec_t, dec_f, wrap_i64, wrap_u32, wrap_u64, wrap_u8, hd, e0, e4, e5, hM]
  refine (pick_any (c := m.2.1) (n := 8) h2 hm.2.1 (by decide)).mono ?_
  rintro e' w3 ⟨h3, rfl⟩
  simp -dsimp -implicitDefEqProofs (disch := omega) only [go_sem, reqD_of, dec_t, dec_f, wrap_i64, wrap_u32, wrap_u64, wrap_u8, hd, e0, e4, e5]
  refine (held_any (who := mvWho m) (h3.take (.obj B)) (fun p hp => by have := tot_mem hp; omega) (by omega)).mono ?_
  rintro e' w4 ⟨vl, h4, rfl⟩
  have hM4 := h4.cl M
  simp only [mvC] at hM4
  obtain ⟨_, al, cl, hvl, _, hcl⟩ := St.rowsAt (k := 4) needC_length (by decide) (h4.gives (B := Reads 4 vl (heldS (mvWho m) ls).length ((heldS (mvWho m) ls).flatMap needC)))
  subst hvl
  simp -dsimp -implicitDefEqProofs (disch := omega) only [go_sem, reqD_of, dec_t, dec_f, wrap_i64, wrap_u32, wrap_u64, wrap_u8, hd, e0, e4, e5, hM4]
  refine (pick_any (c := m.1) (n := 4) h4 hm.1 (by decide)).mono ?_
  rintro e' w5 ⟨h5, rfl⟩
  have go : ∀ {Q' : Post} {e' : FA} {w' : World} {θ : Tag (F7.t16, Q', e', w')}, (pickI m.1 4 < 2 → ∀ y s, agt y ls = some s → mvWho m ∈ s.1.map (·.1) → cmpN y (mvLock m) < 0) →
      e'.ds = [] → e'.ρ 0 = .slice (some ⟨bm, om, none⟩) ms.length cm → e'.ρ 4 = .pointer (some ⟨B, 0, none⟩) → e'.ρ 5 = .int .i64 i → e'.ρ 6 = .pointer (some ⟨M, 0, none⟩) →
      St w0 (Blk M (.cells (mvC m).toArray 44 (0, 0)) * (TabP B ls ws * F)) w' →
      (∀ (e'' : FA) (w'' : World), e''.ds = [] → e''.ρ 0 = .slice (some ⟨bm, om, none⟩) ms.length cm → e''.ρ 4 = .pointer (some ⟨B, 0, none⟩) → e''.ρ 5 = .int .i64 i → St w0 (TabP B (moveS m ls ws).2.1 (moveS m ls ws).2.2 * F) w'' → Q' .normal e'' w'') → cwE Try.prog F7.t16 Q' e' w' θ :=
    fun hx f0 f1 f2 f3 f4 hh hq => rise_16 v (rise_move v r m hx) hT hL hW hm f0 f1 f2 f3 f4 hh hq
  have ht' := move_tot m ls ws
  have hw' := move_wlen m ls ws
  by_cases hlt : pickI m.1 4 < 2
  case neg =>
    simp -dsimp -implicitDefEqProofs (disch := omega) only [go_sem, reqD_of, dec_t, dec_f, wrap_i64, wrap_u32, wrap_u64, wrap_u8, hd, e0, e4, e5, hlt]
    refine go (fun h => absurd h hlt) (by simp -dsimp -implicitDefEqProofs only [go_sem, hd]) (by simp -dsimp -implicitDefEqProofs only [go_sem, e0]) (by simp -dsimp -implicitDefEqProofs only [go_sem, e4]) (by simp -dsimp -implicitDefEqProofs only [go_sem, e5]) (by simp -dsimp -implicitDefEqProofs only [go_sem]) h5.sub ?_
    intro e'' w'' f0 f1 f2 f3 h6
    simp -dsimp -implicitDefEqProofs (disch := omega) only [go_sem, reqD_of, dec_t, dec_f, wrap_i64, wrap_u32, wrap_u64, wrap_u8, f0, f1, f2, f3]
    exact hQ _ _ _ _ (by simp -dsimp -implicitDefEqProofs only [go_sem, f0]) (by simp -dsimp -implicitDefEqProofs only [go_sem, f1]) (by simp -dsimp -implicitDefEqProofs only [go_sem, f2]) (by simp -dsimp -implicitDefEqProofs only [go_sem, f3]) (v.move m) (rise_move v r m fun h => absurd h hlt) ht'.1 ht'.2 hw' h6
  by_cases hlen : (0 : Int) < (heldS (mvWho m) ls).length
  case neg =>
    have h0 : (heldS (mvWho m) ls).length = 0 := by omega
    have hx := held_none v.1 h0 (x := mvLock m)
    simp -dsimp -implicitDefEqProofs (disch := omega) only [go_sem, reqD_of, dec_t, dec_f, wrap_i64, wrap_u32, wrap_u64, wrap_u8, hd, e0, e4, e5, hlt, hlen]
    refine go (fun _ => hx) (by simp -dsimp -implicitDefEqProofs only [go_sem, hd]) (by simp -dsimp -implicitDefEqProofs only [go_sem, e0]) (by simp -dsimp -implicitDefEqProofs only [go_sem, e4]) (by simp -dsimp -implicitDefEqProofs only [go_sem, e5]) (by simp -dsimp -implicitDefEqProofs only [go_sem]) h5.sub ?_
    intro e'' w'' f0 f1 f2 f3 h6
    simp -dsimp -implicitDefEqProofs (disch := omega) only [go_sem, reqD_of, dec_t, dec_f, wrap_i64, wrap_u32, wrap_u64, wrap_u8, f0, f1, f2, f3]
    exact hQ _ _ _ _ (by simp -dsimp -implicitDefEqProofs only [go_sem, f0]) (by simp -dsimp -implicitDefEqProofs only [go_sem, f1]) (by simp -dsimp -implicitDefEqProofs only [go_sem, f2]) (by simp -dsimp -implicitDefEqProofs only [go_sem, f3]) (v.move m) (rise_move v r m fun _ => hx) ht'.1 ht'.2 hw' h6
  obtain ⟨j, hj⟩ : ∃ j, j + 1 = (heldS (mvWho m) ls).length := ⟨(heldS (mvWho m) ls).length - 1, by omega⟩
  obtain ⟨_, _, _, hv5, _, hcl5⟩ := St.rowsAt (k := 4) needC_length (by decide) (h5.gives (B := Reads 4 (.slice al (heldS (mvWho m) ls).length cl) (heldS (mvWho m) ls).length ((heldS (mvWho m) ls).flatMap needC)))
  simp only [Value.slice.injEq, true_and] at hv5
  obtain ⟨rfl, rfl⟩ := hv5
  obtain ⟨g, o, rfl, _, hcell⟩ := hcl5 j (by omega)
  have hlast := held_last v.1 hj (x := mvLock m)
  generalize (heldS (mvWho m) ls)[j]'(by omega) = N at hcell hlast
  have c0 := hcell 0 (by decide)
  have c1 := hcell 1 (by decide)
  have c2 := hcell 2 (by decide)
  simp only [needC, Nat.add_zero, List.getElem?_cons_succ, List.getElem?_cons_zero] at c0 c1 c2
  have hHl := heldS_length (mvWho m) ls
  have hjI : ((heldS (mvWho m) ls).length : Int) - 1 = j := by omega
  simp -dsimp -implicitDefEqProofs (disch := omega) only [go_sem, reqD_of, dec_t, dec_f, wrap_i64, wrap_u32, wrap_u64, wrap_u8, hd, e0, e4, e5, hlt, hlen, hjI, c0, c1, c2]
  refine h5.new fun X w6 h6 => ?_
  simp -dsimp -implicitDefEqProofs (disch := omega) only [go_sem, reqD_of, dec_t, dec_f, wrap_i64, wrap_u32, wrap_u64, wrap_u8]
  refine h6.stoAll (cs := namC N.1) rfl rfl (namC_cells _) fun w7 h7 => ?_
  have h8 := h7.drew
  have hM8 := h8.cl M
  simp only [mvC] at hM8
  have hX8 : rowV w7.drew ⟨X, 0, none⟩ 3 = some (namV N.1) := h8.rowH X 3 rfl
  simp -dsimp -implicitDefEqProofs (disch := omega) only [go_sem, reqD_of, dec_t, dec_f, wrap_i64, wrap_u32, wrap_u64, wrap_u8, hd, e0, e4, e5, hM8, hX8]
  refine (pick_any (c := m.2.2.1) (n := 6) h8 hm.2.2 (by decide)).mono ?_
  rintro e' w8 ⟨h9, rfl⟩
  have hX9 := h9.cl X
  simp only [namC] at hX9
  have hM9 := h9.cl M
  simp only [mvC] at hM9
  simp -dsimp -implicitDefEqProofs (disch := omega) only [go_sem, reqD_of, dec_t, dec_f, wrap_i64, wrap_u32, wrap_u64, wrap_u8, hd, e0, e4, e5, hX9, hM9]
  refine ⟨rfl, ?_⟩
  refine (oneN_any h9 hp6.1 (by omega)).mono ?_
  rintro e' w9 ⟨h10, rfl⟩
  have hX10 := h10.cl X
  simp only [namC] at hX10
  simp -dsimp -implicitDefEqProofs (disch := omega) only [go_sem, reqD_of, dec_t, dec_f, wrap_i64, wrap_u32, wrap_u64, wrap_u8, hX10]
  refine ⟨rfl, ?_⟩
  refine (compare_any (a := mvLock m) (b := N.1) h10).mono ?_
  rintro e' w10 ⟨h11, rfl⟩
  by_cases hc : cmpN (mvLock m) N.1 ≤ 0
  · simp -dsimp -implicitDefEqProofs (disch := omega) only [go_sem, reqD_of, dec_t, dec_f, wrap_i64, wrap_u32, wrap_u64, wrap_u8, hd, e0, e4, e5, hc]
    exact hQ _ _ ls ws (by simp -dsimp -implicitDefEqProofs only [go_sem, hd]) (by simp -dsimp -implicitDefEqProofs only [go_sem, e0]) (by simp -dsimp -implicitDefEqProofs only [go_sem, e4]) (by simp -dsimp -implicitDefEqProofs only [go_sem]) v r (by omega) (by omega) (by omega) h11.sub
  · simp -dsimp -implicitDefEqProofs (disch := omega) only [go_sem, reqD_of, dec_t, dec_f, wrap_i64, wrap_u32, wrap_u64, wrap_u8, hd, e0, e4, e5, hc]
    refine go (fun _ => hlast (by omega)) (by simp -dsimp -implicitDefEqProofs only [go_sem, hd]) (by simp -dsimp -implicitDefEqProofs only [go_sem, e0]) (by simp -dsimp -implicitDefEqProofs only [go_sem, e4]) (by simp -dsimp -implicitDefEqProofs only [go_sem, e5]) (by simp -dsimp -implicitDefEqProofs only [go_sem]) h11.sub ?_
    intro e'' w'' f0 f1 f2 f3 h6
    simp -dsimp -implicitDefEqProofs (disch := omega) only [go_sem, reqD_of, dec_t, dec_f, wrap_i64, wrap_u32, wrap_u64, wrap_u8, f0, f1, f2, f3]
    exact hQ _ _ _ _ (by simp -dsimp -implicitDefEqProofs only [go_sem, f0]) (by simp -dsimp -implicitDefEqProofs only [go_sem, f1]) (by simp -dsimp -implicitDefEqProofs only [go_sem, f2]) (by simp -dsimp -implicitDefEqProofs only [go_sem, f3]) (v.move m) (rise_move v r m fun _ => hlast (by omega)) ht'.1 ht'.2 hw' h6

end
end Go.Proofs.Ytacmnfpgimgigaa

namespace Go.Proofs.Ytacmnfpgimgigaa
open Go
set_option linter.unusedSimpArgs false
set_option linter.unusedVariables false
set_option maxRecDepth 100000

def StaP (B : Nat) (t : Sta) : HP := TabP B t.1 t.2
instance (B : Nat) (t : Sta) : Face (.obj B) (StaP B t) := ⟨⟩
def Small (t : Sta) : Prop := tot t.1 < 536870912 ∧ t.1.length < 536870912
theorem Small.less {t u : Sta} (s : Small t) (l : Less t u) : Small u := ⟨Nat.lt_of_le_of_lt l.tot s.1, Nat.lt_of_le_of_lt l.len s.2⟩

section
attribute [local go_sem] F7.t16_eq F7.t9_eq F7.t10_eq F7.t25_eq F7.t26_eq F7.t22_eq F7.t23_eq F7.t31_eq F7.t32_eq F7.t35_eq F7.t29_eq F7.t20_eq F7.t7_eq F7.t3_eq
theorem rise_26 {w0 w : World} {F : HP} {B k n : Nat} {t : Sta} {Q : Post} {e : FA} {θ : Tag (F7.t26, Q, e, w)} (i : SInv t) (sm : Small t) (hn : n < 8)
    (hd : e.ds = []) (e4 : e.ρ 4 = .pointer (some ⟨B, 0, none⟩)) (e11 : e.ρ 11 = .int .i64 k) (e12 : e.ρ 12 = .int .i64 (1 + (n : Int)))
    (h : St w0 (StaP B t * F) w)
    (hQ : ∀ (e' : FA) (w' : World), e'.ds = [] → e'.ρ 4 = .pointer (some ⟨B, 0, none⟩) → e'.ρ 11 = .int .i64 k → e'.ρ 12 = .int .i64 (1 + (n : Int) + 1) → St w0 (StaP B (goS (1 + (n : Int)) t) * F) w' → Q .normal e' w') :
    cwE Try.prog F7.t26 Q e w θ := by
  rw [F7.t26_eq]
  simp -dsimp -implicitDefEqProofs (disch := omega) only [go_sem, reqD_of, dec_t, dec_f, wrap_i64, wrap_u32, wrap_u64, wrap_u8, hd, e4, e11, e12]
  refine (waits_any (who := 1 + (n : Int)) h).mono ?_
  rintro e' w1 ⟨h1, rfl⟩
  simp -dsimp -implicitDefEqProofs (disch := omega) only [go_sem, reqD_of, dec_t, dec_f, wrap_i64, wrap_u32, wrap_u64, wrap_u8, hd, e4, e11, e12]
  refine h1.new fun X w2 h2 => ?_
  simp -dsimp -implicitDefEqProofs (disch := omega) only [go_sem, reqD_of, dec_t, dec_f, wrap_i64, wrap_u32, wrap_u64, wrap_u8]
  refine h2.stoAll (cs := needC ((agt (1 + (n : Int)) t.2).getD noNeed)) rfl rfl (needC_cells _) fun w3 h3 => ?_
  have h4 : St w0 (TabP B t.1 t.2 * F) w3 := h3.right
  cases hw : agt (1 + (n : Int)) t.2 with
  | some m =>
    simp -dsimp -implicitDefEqProofs (disch := omega) only [go_sem, reqD_of, dec_t, dec_f, wrap_i64, wrap_u32, wrap_u64, wrap_u8, hd, e4, e11, e12, Option.isSome_some]
    refine hQ _ _ (by simp -dsimp -implicitDefEqProofs only [go_sem, hd]) (by simp -dsimp -implicitDefEqProofs only [go_sem, e4]) (by simp -dsimp -implicitDefEqProofs only [go_sem, e11]) (by simp -dsimp -implicitDefEqProofs only [go_sem]) ?_
    unfold goS
    rw [if_neg (by rw [hw]; simp)]
    exact h4
  | none =>
    simp -dsimp -implicitDefEqProofs (disch := omega) only [go_sem, reqD_of, dec_t, dec_f, wrap_i64, wrap_u32, wrap_u64, wrap_u8, hd, e4, e11, e12, Option.isSome_none]
    refine (leave_any h4 (fun n hn => by rw [hw] at hn; cases hn) (by have := sm.1; omega) (by have := sm.2; omega)).mono ?_
    rintro e' w4 ⟨va, h5, rfl⟩
    simp -dsimp -implicitDefEqProofs (disch := omega) only [go_sem, reqD_of, dec_t, dec_f, wrap_i64, wrap_u32, wrap_u64, wrap_u8, hd, e4, e11, e12]
    refine hQ _ _ (by simp -dsimp -implicitDefEqProofs only [go_sem, hd]) (by simp -dsimp -implicitDefEqProofs only [go_sem, e4]) (by simp -dsimp -implicitDefEqProofs only [go_sem, e11]) (by simp -dsimp -implicitDefEqProofs only [go_sem]) ?_
    unfold goS
    rw [if_pos hw]
    exact h5.right

end
section
attribute [local go_sem] F7.t16_eq F7.t9_eq F7.t10_eq F7.t25_eq F7.t22_eq F7.t23_eq F7.t31_eq F7.t32_eq F7.t35_eq F7.t29_eq F7.t20_eq F7.t7_eq F7.t3_eq
theorem rise_23 {w0 w : World} {F : HP} {B k : Nat} {t : Sta} {Q : Post} {e : FA} {θ : Tag (F7.t23, Q, e, w)} (i : SInv t) (sm : Small t) (hk : k < 1000)
    (hd : e.ds = []) (e4 : e.ρ 4 = .pointer (some ⟨B, 0, none⟩)) (e11 : e.ρ 11 = .int .i64 k)
    (h : St w0 (StaP B t * F) w)
    (hQ : ∀ (e' : FA) (w' : World), e'.ds = [] → e'.ρ 4 = .pointer (some ⟨B, 0, none⟩) → e'.ρ 11 = .int .i64 ((k : Int) + 1) → St w0 (StaP B (passS 8 t) * F) w' → Q .normal e' w') :
    cwE Try.prog F7.t23 Q e w θ := by
  rw [F7.t23_eq]
  simp -dsimp -implicitDefEqProofs (disch := omega) only [go_sem, reqD_of, dec_t, dec_f, wrap_i64, wrap_u32, wrap_u64, wrap_u8, hd, e4, e11]
  refine loop_intro (fun e w' => e.ds = [] ∧ e.ρ 4 = .pointer (some ⟨B, 0, none⟩) ∧ e.ρ 11 = .int .i64 k ∧ ∃ n : Nat, n ≤ 8 ∧ e.ρ 12 = .int .i64 (1 + (n : Int)) ∧ St w0 (StaP B (passS n t) * F) w')
    (fun e _ => match e.ρ 12 with | .int _ n => (9 - n).toNat | _ => 0) ?_ ?_
  · exact ⟨by simp -dsimp -implicitDefEqProofs only [go_sem, hd], by simp -dsimp -implicitDefEqProofs only [go_sem, e4], by simp -dsimp -implicitDefEqProofs only [go_sem, e11], 0, by omega, by simp -dsimp -implicitDefEqProofs only [go_sem], h⟩
  rintro e w1 ⟨hd, e4, e11, n, hn, e12, h1⟩
  by_cases hlt : 1 + (n : Int) ≤ 8
  case neg =>
    have : n = 8 := by omega
    subst this
    simp -dsimp -implicitDefEqProofs (disch := omega) only [go_sem, reqD_of, dec_t, dec_f, wrap_i64, wrap_u32, wrap_u64, wrap_u8, e11, e12, hlt]
    exact hQ _ _ (by simp -dsimp -implicitDefEqProofs only [go_sem, hd]) (by simp -dsimp -implicitDefEqProofs only [go_sem, e4]) (by simp -dsimp -implicitDefEqProofs only [go_sem]) h1
  obtain ⟨l, j, _⟩ := passS_less i n
  simp -dsimp -implicitDefEqProofs (disch := omega) only [go_sem, reqD_of, dec_t, dec_f, wrap_i64, wrap_u32, wrap_u64, wrap_u8, e12, hlt]
  refine rise_26 (k := k) (n := n) j (sm.less l) (by omega) (by simp -dsimp -implicitDefEqProofs only [go_sem, hd]) (by simp -dsimp -implicitDefEqProofs only [go_sem, e4]) (by simp -dsimp -implicitDefEqProofs only [go_sem, e11]) (by simp -dsimp -implicitDefEqProofs only [go_sem, e12]) h1 ?_
  intro e' w' f0 f1 f2 f3 h2
  simp -dsimp -implicitDefEqProofs (disch := omega) only [go_sem, reqD_of, dec_t, dec_f, wrap_i64, wrap_u32, wrap_u64, wrap_u8, f0, f1, f2, f3, e12]
  exact ⟨⟨n + 1, by omega, by omega, h2⟩, by omega⟩

end
section
attribute [local go_sem] F7.t16_eq F7.t9_eq F7.t10_eq F7.t25_eq F7.t26_eq F7.t22_eq F7.t31_eq F7.t32_eq F7.t35_eq F7.t29_eq F7.t20_eq F7.t7_eq F7.t3_eq
theorem rise_20 {w0 w : World} {F : HP} {B : Nat} {t : Sta} {e : FA} (i : SInv t) (sm : Small t) (hno : ∀ p, ¬ Stk t.1 t.2 p)
    (hd : e.ds = []) (e4 : e.ρ 4 = .pointer (some ⟨B, 0, none⟩)) (h : St w0 (StaP B t * F) w) :
    cwE Try.prog F7.t20 (fnP Try.prog #[.tmp 2] fun e w' => St w0 F w' ∧ e = .returned (.bool true)) e w := by
  rw [F7.t20_eq]
  simp -dsimp -implicitDefEqProofs (disch := omega) only [go_sem, reqD_of, dec_t, dec_f, wrap_i64, wrap_u32, wrap_u64, wrap_u8, hd, e4]
  refine loop_intro (fun e w' => e.ds = [] ∧ e.ρ 4 = .pointer (some ⟨B, 0, none⟩) ∧ ∃ k : Nat, k ≤ 9 ∧ e.ρ 11 = .int .i64 k ∧ St w0 (StaP B (roundsS k t) * F) w')
    (fun e _ => match e.ρ 11 with | .int _ n => (9 - n).toNat | _ => 0) ?_ ?_
  · exact ⟨by simp -dsimp -implicitDefEqProofs only [go_sem, hd], by simp -dsimp -implicitDefEqProofs only [go_sem, e4], 0, by omega, by simp -dsimp -implicitDefEqProofs only [go_sem], h⟩
  rintro e w1 ⟨hd, e4, k, hk, e11, h1⟩
  by_cases hlt : (k : Int) ≤ 8
  case pos =>
    obtain ⟨l, j⟩ := roundsS_less i k
    simp -dsimp -implicitDefEqProofs (disch := omega) only [go_sem, reqD_of, dec_t, dec_f, wrap_i64, wrap_u32, wrap_u64, wrap_u8, e11, hlt]
    refine rise_23 (k := k) j (sm.less l) (by omega) (by simp -dsimp -implicitDefEqProofs only [go_sem, hd]) (by simp -dsimp -implicitDefEqProofs only [go_sem, e4]) (by simp -dsimp -implicitDefEqProofs only [go_sem, e11]) h1 ?_
    intro e' w' f0 f1 f2 h2
    simp -dsimp -implicitDefEqProofs (disch := omega) only [go_sem, reqD_of, dec_t, dec_f, wrap_i64, wrap_u32, wrap_u64, wrap_u8, f0, f1, f2, e11]
    exact ⟨⟨k + 1, by omega, by omega, h2⟩, by omega⟩
  have : k = 9 := by omega
  subst this
  have hw : ∀ p, agt p (roundsS 9 t).2 = none := fun p => by
    cases h2 : agt p (roundsS 9 t).2 with
    | none => rfl
    | some n => exact absurd ((rounds_end i p).1 (by rw [h2]; rfl)) (hno p)
  have hemp := rounds_empty i hno
  simp -dsimp -implicitDefEqProofs (disch := omega) only [go_sem, reqD_of, dec_t, dec_f, wrap_i64, wrap_u32, wrap_u64, wrap_u8, hd, e4, e11, hlt]
  refine loop_intro (fun e w' => e.ds = [] ∧ e.ρ 4 = .pointer (some ⟨B, 0, none⟩) ∧ ∃ n : Nat, n ≤ 8 ∧ e.ρ 15 = .int .i64 (1 + (n : Int)) ∧ St w0 (StaP B (roundsS 9 t) * F) w')
    (fun e _ => match e.ρ 15 with | .int _ n => (9 - n).toNat | _ => 0) ?_ ?_
  · exact ⟨by simp -dsimp -implicitDefEqProofs only [go_sem, hd], by simp -dsimp -implicitDefEqProofs only [go_sem, e4], 0, by omega, by simp -dsimp -implicitDefEqProofs only [go_sem], h1⟩
  rintro e w2 ⟨hd, e4, n, hn, e15, h2⟩
  by_cases hlt2 : 1 + (n : Int) ≤ 8
  case pos =>
    simp -dsimp -implicitDefEqProofs (disch := omega) only [go_sem, reqD_of, dec_t, dec_f, wrap_i64, wrap_u32, wrap_u64, wrap_u8, hd, e4, e15, hlt2]
    refine (waits_any (who := 1 + (n : Int)) h2).mono ?_
    rintro e' w3 ⟨h3, rfl⟩
    rw [hw]
    simp -dsimp -implicitDefEqProofs (disch := omega) only [go_sem, reqD_of, dec_t, dec_f, wrap_i64, wrap_u32, wrap_u64, wrap_u8, hd, e4, e15, Option.isSome_none, Option.getD_none]
    refine h3.new fun X w4 h4 => ?_
    simp -dsimp -implicitDefEqProofs (disch := omega) only [go_sem, reqD_of, dec_t, dec_f, wrap_i64, wrap_u32, wrap_u64, wrap_u8]
    refine h4.stoAll (cs := needC noNeed) rfl rfl (needC_cells _) fun w5 h5 => ?_
    simp -dsimp -implicitDefEqProofs (disch := omega) only [go_sem, reqD_of, dec_t, dec_f, wrap_i64, wrap_u32, wrap_u64, wrap_u8, hd, e4, e15]
    exact ⟨⟨n + 1, by omega, by omega, h5.right⟩, by omega⟩
  have : n = 8 := by omega
  subst this
  simp -dsimp -implicitDefEqProofs (disch := omega) only [go_sem, reqD_of, dec_t, dec_f, wrap_i64, wrap_u32, wrap_u64, wrap_u8, hd, e4, e15, hlt2]
  refine (idle_any h2).mono ?_
  rintro e' w3 ⟨h3, rfl⟩
  simp -dsimp -implicitDefEqProofs (disch := omega) only [go_sem, reqD_of, dec_t, dec_f, wrap_i64, wrap_u32, wrap_u64, wrap_u8, hd, e4, e15, hemp]
  exact h3.right

end
section
attribute [local go_sem] F7.t16_eq F7.t9_eq F7.t25_eq F7.t26_eq F7.t22_eq F7.t23_eq F7.t31_eq F7.t32_eq F7.t35_eq F7.t29_eq F7.t7_eq F7.t3_eq
theorem rise_main {w0 w : World} {F : HP} {v0 : Value} {ms : List Mv} {e : FA} (h : St w0 F w) (hr : Ent F (Reads 4 v0 ms.length (ms.flatMap mvC))) (hm : ∀ m ∈ ms, MvOk m) (hlen : ms.length ≤ 1048576) (hd : e.ds = []) (e0 : e.ρ 0 = v0) :
    cwE Try.prog F7.t3 (fnP Try.prog #[.tmp 2] fun e w' => St w0 F w' ∧ e = .returned (.bool true)) e w := by
  obtain ⟨_, a, c, rfl, hnc, _⟩ := St.rowsAt (k := 4) mvC_length (by decide) (h.ent hr)
  rw [F7.t3_eq]
  simp -dsimp -implicitDefEqProofs (disch := omega) only [go_sem, reqD_of, dec_t, dec_f, wrap_i64, wrap_u32, wrap_u64, wrap_u8, hd, e0]
  refine (known_any h).mono ?_
  rintro e' w1 ⟨h1, rfl⟩
  simp -dsimp -implicitDefEqProofs (disch := omega) only [go_sem, reqD_of, dec_t, dec_f, wrap_i64, wrap_u32, wrap_u64, wrap_u8, hd, e0]
  refine (new_any h1).mono ?_
  rintro e' w2 ⟨B, h2, rfl⟩
  simp -dsimp -implicitDefEqProofs (disch := omega) only [go_sem, reqD_of, dec_t, dec_f, wrap_i64, wrap_u32, wrap_u64, wrap_u8, hd, e0]
  refine loop_intro (fun e w' => e.ds = [] ∧ e.ρ 0 = .slice a ms.length c ∧ e.ρ 4 = .pointer (some ⟨B, 0, none⟩) ∧ ∃ (i : Nat) (ls : List (Nam × LkS)) (ws : List (Int × Nee)), i ≤ ms.length ∧ e.ρ 5 = .int .i64 i ∧ SInv (ls, ws) ∧ Rise (ls, ws) ∧ tot ls ≤ i ∧ ls.length ≤ i ∧ ws.length ≤ i ∧ St w0 (TabP B ls ws * F) w')
    (fun e _ => match e.ρ 5 with | .int _ n => (ms.length - n).toNat | _ => 0) ?_ ?_
  · exact ⟨by simp -dsimp -implicitDefEqProofs only [go_sem, hd], by simp -dsimp -implicitDefEqProofs only [go_sem, e0], by simp -dsimp -implicitDefEqProofs only [go_sem], 0, [], [], by omega, by simp -dsimp -implicitDefEqProofs only [go_sem], ⟨Inv.start, fun x s hx => (by cases hx)⟩, fun p x a hp => (by cases hp), by simp [tot], by simp, by simp, h2⟩
  rintro e w3 ⟨hd, e0, e4, i, ls, ws, hi, e5, v, r, hT, hL, hW, h3⟩
  by_cases hlt : (i : Int) < ms.length
  case neg =>
    have : i = ms.length := by omega
    subst this
    simp -dsimp -implicitDefEqProofs (disch := omega) only [go_sem, reqD_of, dec_t, dec_f, wrap_i64, wrap_u32, wrap_u64, wrap_u8, hd, e0, e4, e5, hlt]
    exact rise_20 (t := (ls, ws)) v ⟨by simp only; omega, by simp only; omega⟩ (rise_none v r) (by simp -dsimp -implicitDefEqProofs only [go_sem, hd]) (by simp -dsimp -implicitDefEqProofs only [go_sem, e4]) h3
  have hil : i < ms.length := by omega
  simp -dsimp -implicitDefEqProofs (disch := omega) only [go_sem, reqD_of, dec_t, dec_f, wrap_i64, wrap_u32, wrap_u64, wrap_u8, hd, e0, e4, e5, hlt]
  refine rise_10 (i := i) (m := ms[i]) v r (by omega) (by omega) (by omega) hr (List.getElem?_eq_getElem hil) (hm _ (List.getElem_mem hil)) (by omega) (by simp -dsimp -implicitDefEqProofs only [go_sem, hd]) (by simp -dsimp -implicitDefEqProofs only [go_sem, e0]) (by simp -dsimp -implicitDefEqProofs only [go_sem, e4]) (by simp -dsimp -implicitDefEqProofs only [go_sem, e5]) h3 ?_
  intro e' w4 ls' ws' f0 f1 f2 f3 v' r' t1 t2 t3 h4
  simp -dsimp -implicitDefEqProofs (disch := omega) only [go_sem, reqD_of, dec_t, dec_f, wrap_i64, wrap_u32, wrap_u64, wrap_u8, f0, f1, f2, f3, e5]
  exact ⟨⟨i + 1, ls', ws', by omega, by omega, v', r', by omega, by omega, by omega, h4⟩, by omega⟩

end
section
attribute [local go_sem] F7.t16_eq F7.t9_eq F7.t10_eq F7.t25_eq F7.t26_eq F7.t22_eq F7.t23_eq F7.t31_eq F7.t32_eq F7.t35_eq F7.t29_eq F7.t20_eq F7.t7_eq
theorem locksRising_any {w0 w : World} {F : HP} {v0 : Value} {ms : List Mv} (h : St w0 F w) (hr : Ent F (Reads 4 v0 ms.length (ms.flatMap mvC))) (hm : ∀ m ∈ ms, MvOk m) :
    Calls Try.prog 7 #[v0] w fun e w' => St w0 F w' ∧ e = .returned (.bool true) := by
  obtain ⟨_, a, c, rfl, hnc, _⟩ := St.rowsAt (k := 4) mvC_length (by decide) (h.ent hr)
  refine F7.calls (by simp) ?_
  unfold F7.code
  by_cases hlt : (1048576 : Int) < ms.length
  · simp -dsimp -implicitDefEqProofs (disch := omega) only [go_sem, reqD_of, dec_t, dec_f, wrap_i64, wrap_u32, wrap_u64, wrap_u8, hlt]
    have h2 := hr.trans (Reads.takeK (k := 1048576) (by omega))
    rw [flatMap_take mvC_length] at h2
    have hl : (ms.take 1048576).length = 1048576 := by rw [List.length_take]; omega
    exact rise_main (ms := ms.take 1048576) (v0 := .slice (if c = 0 then a else Option.map (fun x => x) a) 1048576 (c - 0)) h (by rw [hl]; exact h2) (fun m hm' => hm m (List.mem_of_mem_take hm')) (by omega) (by simp -dsimp -implicitDefEqProofs only [go_sem]) (by simp -dsimp -implicitDefEqProofs only [go_sem])
  · simp -dsimp -implicitDefEqProofs (disch := omega) only [go_sem, reqD_of, dec_t, dec_f, wrap_i64, wrap_u32, wrap_u64, wrap_u8, hlt]
    exact rise_main h hr hm (by omega) (by simp -dsimp -implicitDefEqProofs only [go_sem]) (by simp -dsimp -implicitDefEqProofs only [go_sem])

end
end Go.Proofs.Ytacmnfpgimgigaa

namespace Go.Proofs.Ytacmnfpgimgigaa
open Go
set_option linter.unusedSimpArgs false
set_option linter.unusedVariables false
set_option maxRecDepth 100000

def StkP (v7 : Value) (l : List Int) (F : HP) : HP := RowO 3 1 v7 l.length (intR l) * F

section
attribute [local go_sem] F8.t9_eq F8.t10_eq F8.t28_eq F8.t26_eq F8.t27_eq F8.t31_eq F8.t23_eq F8.t19_eq F8.t20_eq F8.t38_eq F8.t39_eq F8.t35_eq F8.t36_eq F8.t50_eq F8.t48_eq F8.t45_eq F8.t46_eq F8.t51_eq F8.t42_eq F8.t33_eq F8.t17_eq F8.t11_eq F8.t7_eq F8.t3_eq
theorem stuck_39 {w0 w : World} {F : HP} {B k n : Nat} {t : Sta} {v7 : Value} {Q : Post} {e : FA} {θ : Tag (F8.t39, Q, e, w)} (i : SInv t) (sm : Small t) (hn : n < 8)
    (hd : e.ds = []) (e4 : e.ρ 4 = .pointer (some ⟨B, 0, none⟩)) (e7 : e.ρ 7 = v7) (e11 : e.ρ 17 = .int .i64 k) (e12 : e.ρ 18 = .int .i64 (1 + (n : Int)))
    (h : St w0 (StaP B t * F) w)
    (hQ : ∀ (e' : FA) (w' : World), e'.ds = [] → e'.ρ 4 = .pointer (some ⟨B, 0, none⟩) → e'.ρ 7 = v7 → e'.ρ 17 = .int .i64 k → e'.ρ 18 = .int .i64 (1 + (n : Int) + 1) → St w0 (StaP B (goS (1 + (n : Int)) t) * F) w' → Q .normal e' w') :
    cwE Try.prog F8.t39 Q e w θ := by
  rw [F8.t39_eq]
  simp -dsimp -implicitDefEqProofs (disch := omega) only [go_sem, reqD_of, dec_t, dec_f, wrap_i64, wrap_u32, wrap_u64, wrap_u8, hd, e4, e11, e12]
  refine (waits_any (who := 1 + (n : Int)) h).mono ?_
  rintro e' w1 ⟨h1, rfl⟩
  simp -dsimp -implicitDefEqProofs (disch := omega) only [go_sem, reqD_of, dec_t, dec_f, wrap_i64, wrap_u32, wrap_u64, wrap_u8, hd, e4, e11, e12]
  refine h1.new fun X w2 h2 => ?_
  simp -dsimp -implicitDefEqProofs (disch := omega) only [go_sem, reqD_of, dec_t, dec_f, wrap_i64, wrap_u32, wrap_u64, wrap_u8]
  refine h2.stoAll (cs := needC ((agt (1 + (n : Int)) t.2).getD noNeed)) rfl rfl (needC_cells _) fun w3 h3 => ?_
  have h4 : St w0 (TabP B t.1 t.2 * F) w3 := h3.right
  cases hw : agt (1 + (n : Int)) t.2 with
  | some m =>
    simp -dsimp -implicitDefEqProofs (disch := omega) only [go_sem, reqD_of, dec_t, dec_f, wrap_i64, wrap_u32, wrap_u64, wrap_u8, hd, e4, e11, e12, Option.isSome_some]
    refine hQ _ _ (by simp -dsimp -implicitDefEqProofs only [go_sem, hd]) (by simp -dsimp -implicitDefEqProofs only [go_sem, e4]) (by simp -dsimp -implicitDefEqProofs only [go_sem, e7]) (by simp -dsimp -implicitDefEqProofs only [go_sem, e11]) (by simp -dsimp -implicitDefEqProofs only [go_sem]) ?_
    unfold goS
    rw [if_neg (by rw [hw]; simp)]
    exact h4
  | none =>
    simp -dsimp -implicitDefEqProofs (disch := omega) only [go_sem, reqD_of, dec_t, dec_f, wrap_i64, wrap_u32, wrap_u64, wrap_u8, hd, e4, e11, e12, Option.isSome_none]
    refine (leave_any h4 (fun n hn => by rw [hw] at hn; cases hn) (by have := sm.1; omega) (by have := sm.2; omega)).mono ?_
    rintro e' w4 ⟨va, h5, rfl⟩
    simp -dsimp -implicitDefEqProofs (disch := omega) only [go_sem, reqD_of, dec_t, dec_f, wrap_i64, wrap_u32, wrap_u64, wrap_u8, hd, e4, e11, e12]
    refine hQ _ _ (by simp -dsimp -implicitDefEqProofs only [go_sem, hd]) (by simp -dsimp -implicitDefEqProofs only [go_sem, e4]) (by simp -dsimp -implicitDefEqProofs only [go_sem, e7]) (by simp -dsimp -implicitDefEqProofs only [go_sem, e11]) (by simp -dsimp -implicitDefEqProofs only [go_sem]) ?_
    unfold goS
    rw [if_pos hw]
    exact h5.right

end
section
attribute [local go_sem] F8.t9_eq F8.t10_eq F8.t28_eq F8.t26_eq F8.t27_eq F8.t31_eq F8.t23_eq F8.t19_eq F8.t20_eq F8.t38_eq F8.t35_eq F8.t36_eq F8.t50_eq F8.t48_eq F8.t45_eq F8.t46_eq F8.t51_eq F8.t42_eq F8.t33_eq F8.t17_eq F8.t11_eq F8.t7_eq F8.t3_eq
theorem stuck_36 {w0 w : World} {F : HP} {B k : Nat} {t : Sta} {v7 : Value} {Q : Post} {e : FA} {θ : Tag (F8.t36, Q, e, w)} (i : SInv t) (sm : Small t) (hk : k < 1000)
    (hd : e.ds = []) (e4 : e.ρ 4 = .pointer (some ⟨B, 0, none⟩)) (e7 : e.ρ 7 = v7) (e11 : e.ρ 17 = .int .i64 k)
    (h : St w0 (StaP B t * F) w)
    (hQ : ∀ (e' : FA) (w' : World), e'.ds = [] → e'.ρ 4 = .pointer (some ⟨B, 0, none⟩) → e'.ρ 7 = v7 → e'.ρ 17 = .int .i64 ((k : Int) + 1) → St w0 (StaP B (passS 8 t) * F) w' → Q .normal e' w') :
    cwE Try.prog F8.t36 Q e w θ := by
  rw [F8.t36_eq]
  simp -dsimp -implicitDefEqProofs (disch := omega) only [go_sem, reqD_of, dec_t, dec_f, wrap_i64, wrap_u32, wrap_u64, wrap_u8, hd, e4, e11]
  refine loop_intro (fun e w' => e.ds = [] ∧ e.ρ 4 = .pointer (some ⟨B, 0, none⟩) ∧ e.ρ 7 = v7 ∧ e.ρ 17 = .int .i64 k ∧ ∃ n : Nat, n ≤ 8 ∧ e.ρ 18 = .int .i64 (1 + (n : Int)) ∧ St w0 (StaP B (passS n t) * F) w')
    (fun e _ => match e.ρ 18 with | .int _ n => (9 - n).toNat | _ => 0) ?_ ?_
  · exact ⟨by simp -dsimp -implicitDefEqProofs only [go_sem, hd], by simp -dsimp -implicitDefEqProofs only [go_sem, e4], by simp -dsimp -implicitDefEqProofs only [go_sem, e7], by simp -dsimp -implicitDefEqProofs only [go_sem, e11], 0, by omega, by simp -dsimp -implicitDefEqProofs only [go_sem], h⟩
  rintro e w1 ⟨hd, e4, e7, e11, n, hn, e12, h1⟩
  by_cases hlt : 1 + (n : Int) ≤ 8
  case neg =>
    have : n = 8 := by omega
    subst this
    simp -dsimp -implicitDefEqProofs (disch := omega) only [go_sem, reqD_of, dec_t, dec_f, wrap_i64, wrap_u32, wrap_u64, wrap_u8, e11, e12, hlt]
    exact hQ _ _ (by simp -dsimp -implicitDefEqProofs only [go_sem, hd]) (by simp -dsimp -implicitDefEqProofs only [go_sem, e4]) (by simp -dsimp -implicitDefEqProofs only [go_sem, e7]) (by simp -dsimp -implicitDefEqProofs only [go_sem]) h1
  obtain ⟨l, j, _⟩ := passS_less i n
  simp -dsimp -implicitDefEqProofs (disch := omega) only [go_sem, reqD_of, dec_t, dec_f, wrap_i64, wrap_u32, wrap_u64, wrap_u8, e12, hlt]
  refine stuck_39 (v7 := v7) (k := k) (n := n) j (sm.less l) (by omega) (by simp -dsimp -implicitDefEqProofs only [go_sem, hd]) (by simp -dsimp -implicitDefEqProofs only [go_sem, e4]) (by simp -dsimp -implicitDefEqProofs only [go_sem, e7]) (by simp -dsimp -implicitDefEqProofs only [go_sem, e11]) (by simp -dsimp -implicitDefEqProofs only [go_sem, e12]) h1 ?_
  intro e' w' f0 f1 f4 f2 f3 h2
  simp -dsimp -implicitDefEqProofs (disch := omega) only [go_sem, reqD_of, dec_t, dec_f, wrap_i64, wrap_u32, wrap_u64, wrap_u8, f0, f1, f2, f3, f4, e12]
  exact ⟨⟨n + 1, by omega, by omega, h2⟩, by omega⟩

end
section
attribute [local go_sem] F8.t9_eq F8.t10_eq F8.t28_eq F8.t26_eq F8.t27_eq F8.t31_eq F8.t23_eq F8.t19_eq F8.t20_eq F8.t38_eq F8.t39_eq F8.t35_eq F8.t50_eq F8.t48_eq F8.t45_eq F8.t46_eq F8.t51_eq F8.t42_eq F8.t33_eq F8.t17_eq F8.t11_eq F8.t7_eq F8.t3_eq
theorem stuck_33 {w0 w : World} {F : HP} {B : Nat} {t : Sta} {v7 : Value} {l : List Int} {e : FA} (i : SInv t) (sm : Small t) (hl : StuckIs t.1 t.2 l)
    (hd : e.ds = []) (e4 : e.ρ 4 = .pointer (some ⟨B, 0, none⟩)) (e7 : e.ρ 7 = v7) (h : St w0 (StaP B t * StkP v7 l F) w) :
    cwE Try.prog F8.t33 (fnP Try.prog #[.tmp 2] fun e w' => St w0 F w' ∧ e = .returned (.bool true)) e w := by
  have hin : ∀ p ∈ l, 1 ≤ p ∧ p < 9 := fun p hp => by
    obtain ⟨k, hk, rfl⟩ := i.wait8 ((hl.2 p).1 hp).waits
    omega
  rw [F8.t33_eq]
  simp -dsimp -implicitDefEqProofs (disch := omega) only [go_sem, reqD_of, dec_t, dec_f, wrap_i64, wrap_u32, wrap_u64, wrap_u8, hd, e4]
  refine loop_intro (fun e w' => e.ds = [] ∧ e.ρ 4 = .pointer (some ⟨B, 0, none⟩) ∧ e.ρ 7 = v7 ∧ ∃ k : Nat, k ≤ 9 ∧ e.ρ 17 = .int .i64 k ∧ St w0 (StaP B (roundsS k t) * StkP v7 l F) w')
    (fun e _ => match e.ρ 17 with | .int _ n => (9 - n).toNat | _ => 0) ?_ ?_
  · exact ⟨by simp -dsimp -implicitDefEqProofs only [go_sem, hd], by simp -dsimp -implicitDefEqProofs only [go_sem, e4], by simp -dsimp -implicitDefEqProofs only [go_sem, e7], 0, by omega, by simp -dsimp -implicitDefEqProofs only [go_sem], h⟩
  rintro e w1 ⟨hd, e4, e7, k, hk, e11, h1⟩
  by_cases hlt : (k : Int) ≤ 8
  case pos =>
    obtain ⟨l, j⟩ := roundsS_less i k
    simp -dsimp -implicitDefEqProofs (disch := omega) only [go_sem, reqD_of, dec_t, dec_f, wrap_i64, wrap_u32, wrap_u64, wrap_u8, e11, hlt]
    refine stuck_36 (v7 := v7) (k := k) j (sm.less l) (by omega) (by simp -dsimp -implicitDefEqProofs only [go_sem, hd]) (by simp -dsimp -implicitDefEqProofs only [go_sem, e4]) (by simp -dsimp -implicitDefEqProofs only [go_sem, e7]) (by simp -dsimp -implicitDefEqProofs only [go_sem, e11]) h1 ?_
    intro e' w' f0 f1 f3 f2 h2
    simp -dsimp -implicitDefEqProofs (disch := omega) only [go_sem, reqD_of, dec_t, dec_f, wrap_i64, wrap_u32, wrap_u64, wrap_u8, f0, f1, f2, f3, e11]
    exact ⟨⟨k + 1, by omega, by omega, h2⟩, by omega⟩
  have : k = 9 := by omega
  subst this
  have hw : ∀ p, (agt p (roundsS 9 t).2).isSome = true ↔ p ∈ l := fun p => (rounds_end i p).trans (hl.2 p).symm
  have h1r : St w0 (RowO 3 1 v7 l.length (intR l) * F) w1 := h1.right
  obtain ⟨a7, c7, rfl, _, hc7, hm7⟩ := h1r.rowForm v7
  have hl7 : l.length ≤ 9223372036854775807 := Nat.le_trans hc7 hm7
  simp -dsimp -implicitDefEqProofs (disch := omega) only [go_sem, reqD_of, dec_t, dec_f, wrap_i64, wrap_u32, wrap_u64, wrap_u8, hd, e4, e7, e11, hlt]
  refine loop_intro (fun e w' => e.ds = [] ∧ e.ρ 4 = .pointer (some ⟨B, 0, none⟩) ∧ e.ρ 7 = .slice a7 l.length c7 ∧ ∃ n : Nat, n ≤ 8 ∧ e.ρ 22 = .int .i64 (1 + (n : Int)) ∧ e.ρ 21 = .int .i64 (l.filter fun a => decide (a < 1 + (n : Int))).length ∧ St w0 (StaP B (roundsS 9 t) * (RowO 3 1 (.slice a7 l.length c7) l.length (intR l) * F)) w')
    (fun e _ => match e.ρ 22 with | .int _ n => (9 - n).toNat | _ => 0) ?_ ?_
  · refine ⟨by simp -dsimp -implicitDefEqProofs only [go_sem, hd], by simp -dsimp -implicitDefEqProofs only [go_sem, e4], by simp -dsimp -implicitDefEqProofs only [go_sem, e7], 0, by omega, by simp -dsimp -implicitDefEqProofs only [go_sem], ?_, h1⟩
    have h0 : (l.filter fun a => decide (a < 1 + ((0 : Nat) : Int))) = [] := below_none fun a ha => by have := hin a ha; omega
    rw [h0]
    simp -dsimp -implicitDefEqProofs only [go_sem]
    rfl
  rintro e w2 ⟨hd, e4, e7, n, hn, e22, e21, h2⟩
  have hfl : (l.filter fun a => decide (a < 1 + (n : Int))).length ≤ l.length := List.length_filter_le _ _
  by_cases hlt2 : 1 + (n : Int) ≤ 8
  case neg =>
    have : n = 8 := by omega
    subst this
    have hall : (l.filter fun a => decide (a < 1 + ((8 : Nat) : Int))) = l := rise_all fun a ha => by have := hin a ha; omega
    rw [hall] at e21
    simp -dsimp -implicitDefEqProofs (disch := omega) only [go_sem, reqD_of, dec_t, dec_f, wrap_i64, wrap_u32, wrap_u64, wrap_u8, hd, e4, e7, e21, e22, hlt2]
    exact h2.right.right
  simp -dsimp -implicitDefEqProofs (disch := omega) only [go_sem, reqD_of, dec_t, dec_f, wrap_i64, wrap_u32, wrap_u64, wrap_u8, hd, e4, e22, hlt2]
  refine (waits_any (who := 1 + (n : Int)) h2).mono ?_
  rintro e' w3 ⟨h3, rfl⟩
  simp -dsimp -implicitDefEqProofs (disch := omega) only [go_sem, reqD_of, dec_t, dec_f, wrap_i64, wrap_u32, wrap_u64, wrap_u8, hd, e4, e22]
  refine h3.new fun X w4 h4 => ?_
  simp -dsimp -implicitDefEqProofs (disch := omega) only [go_sem, reqD_of, dec_t, dec_f, wrap_i64, wrap_u32, wrap_u64, wrap_u8]
  refine h4.stoAll (cs := needC ((agt (1 + (n : Int)) (roundsS 9 t).2).getD noNeed)) rfl rfl (needC_cells _) fun w5 h5 => ?_
  have h6 : St w0 (StaP B (roundsS 9 t) * (RowO 3 1 (.slice a7 l.length c7) l.length (intR l) * F)) w5 := h5.right
  cases hag : agt (1 + (n : Int)) (roundsS 9 t).2 with
  | none =>
    have hno : 1 + (n : Int) ∉ l := fun hm => by have := (hw _).2 hm; rw [hag] at this; cases this
    have hrn := rise_not hno
    simp -dsimp -implicitDefEqProofs (disch := omega) only [go_sem, reqD_of, dec_t, dec_f, wrap_i64, wrap_u32, wrap_u64, wrap_u8, hd, e4, e7, e21, e22, hlt2, Option.isSome_none]
    refine ⟨⟨n + 1, by omega, by omega, ?_, h6⟩, by omega⟩
    rw [show (1 + ((n + 1 : Nat) : Int)) = 1 + (n : Int) + 1 by omega, hrn]
  | some m =>
    have hmem : 1 + (n : Int) ∈ l := (hw _).1 (by rw [hag]; rfl)
    obtain ⟨r1, r2⟩ := rise_at hl.1 hmem
    obtain ⟨hlen, hget⟩ := List.getElem?_eq_some_iff.1 r1
    obtain ⟨_, _, _, hv, _, hcl⟩ := intAt (h6.right.gives (B := Reads 1 (.slice a7 l.length c7) l.length (intR l)))
    simp only [Value.slice.injEq, true_and] at hv
    obtain ⟨rfl, rfl⟩ := hv
    obtain ⟨b, o, rfl, hx⟩ := hcl _ hlen
    rw [hget] at hx
    have hge : ¬ (l.length : Int) ≤ (l.filter fun a => decide (a < 1 + (n : Int))).length := by omega
    simp -dsimp -implicitDefEqProofs (disch := omega) only [go_sem, reqD_of, dec_t, dec_f, wrap_i64, wrap_u32, wrap_u64, wrap_u8, hd, e4, e7, e21, e22, hlt2, hx, hge, Option.isSome_some]
    refine ⟨⟨n + 1, by omega, by omega, ?_, h6⟩, by omega⟩
    rw [show (1 + ((n + 1 : Nat) : Int)) = 1 + (n : Int) + 1 by omega, r2]
    omega

end
end Go.Proofs.Ytacmnfpgimgigaa

namespace Go.Proofs.Ytacmnfpgimgigaa
open Go
set_option linter.unusedSimpArgs false
set_option linter.unusedVariables false
set_option maxRecDepth 100000

section
attribute [local go_sem] F26.t6_eq F26.t3_eq F26.t4_eq F26.t8_eq
theorem ahead_any {w0 w : World} {F : HP} {v : Value} {n : Nat} {l : List Int} {a b : Int} (h : St w0 F w) (hr : Ent F (Reads 1 v n (intR l))) (hl : l.length < 9223372036854775807) :
    Calls Try.prog 26 #[v, .int .i64 a, .int .i64 b] w fun e w' => St w0 F w' ∧ ∃ bb, e = .returned (.bool bb) := by
  obtain ⟨rfl, av, cv, rfl, hnc, _⟩ := intAt (h.ent hr)
  refine F26.calls (by simp) ?_
  unfold F26.code
  simp -dsimp -implicitDefEqProofs (disch := omega) only [go_sem, reqD_of, dec_t, dec_f, wrap_i64, wrap_u32, wrap_u64, wrap_u8]
  refine loop_intro (fun e w' => e.ds = [] ∧ e.ρ 0 = .slice av l.length cv ∧ e.ρ 1 = .int .i64 a ∧ e.ρ 2 = .int .i64 b ∧ ∃ i : Nat, i ≤ l.length ∧ e.ρ 7 = .int .i64 i ∧ St w0 F w')
    (fun e _ => match e.ρ 7 with | .int _ n => (l.length - n).toNat | _ => 0) ?_ ?_
  · exact ⟨rfl, by simp -dsimp -implicitDefEqProofs only [go_sem], by simp -dsimp -implicitDefEqProofs only [go_sem], by simp -dsimp -implicitDefEqProofs only [go_sem], 0, by omega, by simp -dsimp -implicitDefEqProofs only [go_sem], h⟩
  rintro e w1 ⟨hd, e0, e1, e2, i, hi, e7, h1⟩
  by_cases hlt : (i : Int) < l.length
  case neg =>
    simp -dsimp -implicitDefEqProofs (disch := omega) only [go_sem, reqD_of, dec_t, dec_f, wrap_i64, wrap_u32, wrap_u64, wrap_u8, hd, e0, e1, e2, e7, hlt]
    exact ⟨h1, _, rfl⟩
  have hil : i < l.length := by omega
  obtain ⟨_, _, _, hv, _, hcl⟩ := intAt (h1.ent hr)
  simp only [Value.slice.injEq, true_and] at hv
  obtain ⟨rfl, rfl⟩ := hv
  obtain ⟨bb, o, rfl, hx⟩ := hcl i hil
  by_cases hb : l[i] = b
  · simp -dsimp -implicitDefEqProofs (disch := omega) only [go_sem, reqD_of, dec_t, dec_f, wrap_i64, wrap_u32, wrap_u64, wrap_u8, hd, e0, e1, e2, e7, hlt, hx, hb]
    exact ⟨h1, _, rfl⟩
  · by_cases ha : l[i] = a
    · simp -dsimp -implicitDefEqProofs (disch := omega) only [go_sem, reqD_of, dec_t, dec_f, wrap_i64, wrap_u32, wrap_u64, wrap_u8, hd, e0, e1, e2, e7, hlt, hx, hb, ha]
      exact ⟨h1, _, rfl⟩
    · simp -dsimp -implicitDefEqProofs (disch := omega) only [go_sem, reqD_of, dec_t, dec_f, wrap_i64, wrap_u32, wrap_u64, wrap_u8, hd, e0, e1, e2, e7, hlt, hx, hb, ha]
      exact ⟨⟨i + 1, by omega, by omega, h1⟩, by omega⟩

/-- The slots that count. -/
def S8 (e : FA) (B i : Nat) (v7 : Value) (N : Nat) (way : Bool) (k : Nat) : Prop :=
  e.ds = [] ∧ e.ρ 4 = .pointer (some ⟨B, 0, none⟩) ∧ e.ρ 7 = v7 ∧ e.ρ 10 = .int .i64 i ∧ e.ρ 11 = .pointer (some ⟨N, 0, none⟩) ∧ e.ρ 13 = .bool way ∧ e.ρ 14 = .int .i64 k
def G8 (B N : Nat) (ls : List (Nam × LkS)) (ws : List (Int × Nee)) (n : Nee) (v7 : Value) (l : List Int) (F : HP) : HP :=
  Blk N (.cells (needC n).toArray 38 (0, 0)) * (TabP B ls ws * (RowO 3 1 v7 l.length (intR l) * F))

end
section
attribute [local go_sem] F8.t9_eq F8.t10_eq F8.t28_eq F8.t26_eq F8.t27_eq F8.t31_eq F8.t23_eq F8.t19_eq F8.t20_eq F8.t38_eq F8.t39_eq F8.t35_eq F8.t36_eq F8.t50_eq F8.t48_eq F8.t45_eq F8.t46_eq F8.t51_eq F8.t42_eq F8.t33_eq F8.t17_eq F8.t11_eq F8.t7_eq F8.t3_eq
theorem stuck_28 {w0 w : World} {F : HP} {B N i k : Nat} {ls : List (Nam × LkS)} {ws : List (Int × Nee)} {n : Nee} {v7 : Value} {l : List Int} {way : Bool} {Q : Post} {e : FA} {θ : Tag (F8.t28, Q, e, w)}
    (hT : tot ls < 536870912) (hL : ls.length < 536870912) (hi : i < l.length) (hk : k < l.length) (hs : S8 e B i v7 N way k) (h : St w0 (G8 B N ls ws n v7 l F) w)
    (hQ : ∀ (e' : FA) (w' : World) (way' : Bool), (way = true ∨ (∃ al, (n.1, al) ∈ heldS l[k] ls) → way' = true) → S8 e' B i v7 N way' k → St w0 (G8 B N ls ws n v7 l F) w' → Q .normal e' w') :
    cwE Try.prog F8.t28 Q e w θ := by
  obtain ⟨hd, e4, e7, e10, e11, e13, e14⟩ := hs
  have cells : ∀ {w : World}, St w0 (Blk N (.cells (needC n).toArray 38 (0, 0)) * (TabP B ls ws * (RowO 3 1 v7 l.length (intR l) * F))) w → ∃ b o c, v7 = .slice (some ⟨b, o, none⟩) l.length c ∧ (∀ j (hj : j < l.length), w.cell? ⟨b, o + j, none⟩ = some (.int .i64 l[j])) ∧ rowV w ⟨N, 0, none⟩ 3 = some (namV n.1) := by
    intro w h
    obtain ⟨_, a, c, rfl, _, hcl⟩ := intAt (h.gives (B := Reads 1 v7 l.length (intR l)))
    obtain ⟨b, o, rfl, _⟩ := hcl i hi
    refine ⟨b, o, c, rfl, fun j hj => ?_, h.rowAtH N 0 3 (by simp [needC])⟩
    obtain ⟨b', o', hbo, hx⟩ := hcl j hj
    simp only [Option.some.injEq, Addr.mk.injEq, and_true] at hbo
    obtain ⟨rfl, rfl⟩ := hbo
    exact hx
  have h0 : St w0 (Blk N (.cells (needC n).toArray 38 (0, 0)) * (TabP B ls ws * (RowO 3 1 v7 l.length (intR l) * F))) w.drew := h.drew
  obtain ⟨b, o, c, rfl, hc, hN⟩ := cells h0
  have hck := hc k hk
  rw [F8.t28_eq]
  simp -dsimp -implicitDefEqProofs (disch := omega) only [go_sem, reqD_of, dec_t, dec_f, wrap_i64, wrap_u32, wrap_u64, wrap_u8, hd, e4, e7, e10, e11, e13, e14, hck, hN]
  refine onV_of (v := needV (n.1, true)) rfl ?_
  simp -dsimp -implicitDefEqProofs (disch := omega) only [go_sem, reqD_of, dec_t, dec_f, wrap_i64, wrap_u32, wrap_u64, wrap_u8]
  refine (holdsLaw_any (who := l[k]) (n := (n.1, true)) (h0.take (.obj B)) (by omega) (by omega)).mono ?_
  rintro e' w1 ⟨h1, rfl⟩
  have h1' : St w0 (Blk N (.cells (needC n).toArray 38 (0, 0)) * (TabP B ls ws * (RowO 3 1 (.slice (some ⟨b, o, none⟩) l.length c) l.length (intR l) * F))) w1 := h1.sub
  have h2 := h1'.drew
  obtain ⟨_, _, _, hv, hc2, hN2⟩ := cells h2
  simp only [Value.slice.injEq, Option.some.injEq, Addr.mk.injEq, and_true, true_and] at hv
  obtain ⟨⟨rfl, rfl⟩, rfl⟩ := hv
  have hck2 := hc2 k hk
  simp -dsimp -implicitDefEqProofs (disch := omega) only [go_sem, reqD_of, dec_t, dec_f, wrap_i64, wrap_u32, wrap_u64, wrap_u8, hd, e4, e7, e10, e11, e13, e14, hck2, hN2]
  refine onV_of (v := needV (n.1, false)) rfl ?_
  simp -dsimp -implicitDefEqProofs (disch := omega) only [go_sem, reqD_of, dec_t, dec_f, wrap_i64, wrap_u32, wrap_u64, wrap_u8]
  refine (holdsLaw_any (who := l[k]) (n := (n.1, false)) (h2.take (.obj B)) (by omega) (by omega)).mono ?_
  rintro e' w2 ⟨h3, rfl⟩
  have h3' : St w0 (Blk N (.cells (needC n).toArray 38 (0, 0)) * (TabP B ls ws * (RowO 3 1 (.slice (some ⟨b, o, none⟩) l.length c) l.length (intR l) * F))) w2 := h3.sub
  have h4 := h3'.drew
  obtain ⟨_, _, _, hv, hc4, hN4⟩ := cells h4
  simp only [Value.slice.injEq, Option.some.injEq, Addr.mk.injEq, and_true, true_and] at hv
  obtain ⟨⟨rfl, rfl⟩, rfl⟩ := hv
  have hck4 := hc4 k hk
  have hci4 := hc4 i hi
  by_cases hyes : way = true ∨ (n.1, true) ∈ heldS l[k] ls ∨ (n.1, false) ∈ heldS l[k] ls
  · have fin : ∀ (e' : FA), S8 e' B i (.slice (some ⟨b, o, none⟩) l.length c) N true k → Q .normal e' w2.drew := fun e' hs' => hQ e' _ true (fun _ => rfl) hs' h4
    rcases Bool.eq_false_or_eq_true way with hw | hw
    · subst hw
      simp -dsimp -implicitDefEqProofs (disch := omega) only [go_sem, reqD_of, dec_t, dec_f, wrap_i64, wrap_u32, wrap_u64, wrap_u8, hd, e4, e7, e10, e11, e13, e14]
      exact fin _ ⟨by simp -dsimp -implicitDefEqProofs only [go_sem, hd], by simp -dsimp -implicitDefEqProofs only [go_sem, e4], by simp -dsimp -implicitDefEqProofs only [go_sem, e7], by simp -dsimp -implicitDefEqProofs only [go_sem, e10], by simp -dsimp -implicitDefEqProofs only [go_sem, e11], by simp -dsimp -implicitDefEqProofs only [go_sem], by simp -dsimp -implicitDefEqProofs only [go_sem, e14]⟩
    · subst hw
      by_cases h5 : (n.1, true) ∈ heldS l[k] ls
      · rw [dec_t h5]
        simp -dsimp -implicitDefEqProofs (disch := omega) only [go_sem, reqD_of, dec_t, dec_f, wrap_i64, wrap_u32, wrap_u64, wrap_u8, hd, e4, e7, e10, e11, e13, e14]
        exact fin _ ⟨by simp -dsimp -implicitDefEqProofs only [go_sem, hd], by simp -dsimp -implicitDefEqProofs only [go_sem, e4], by simp -dsimp -implicitDefEqProofs only [go_sem, e7], by simp -dsimp -implicitDefEqProofs only [go_sem, e10], by simp -dsimp -implicitDefEqProofs only [go_sem, e11], by simp -dsimp -implicitDefEqProofs only [go_sem], by simp -dsimp -implicitDefEqProofs only [go_sem, e14]⟩
      · have h6 : (n.1, false) ∈ heldS l[k] ls := by
          rcases hyes with h | h | h
          · cases h
          · exact absurd h h5
          · exact h
        rw [dec_f h5, dec_t h6]
        simp -dsimp -implicitDefEqProofs (disch := omega) only [go_sem, reqD_of, dec_t, dec_f, wrap_i64, wrap_u32, wrap_u64, wrap_u8, hd, e4, e7, e10, e11, e13, e14]
        exact fin _ ⟨by simp -dsimp -implicitDefEqProofs only [go_sem, hd], by simp -dsimp -implicitDefEqProofs only [go_sem, e4], by simp -dsimp -implicitDefEqProofs only [go_sem, e7], by simp -dsimp -implicitDefEqProofs only [go_sem, e10], by simp -dsimp -implicitDefEqProofs only [go_sem, e11], by simp -dsimp -implicitDefEqProofs only [go_sem], by simp -dsimp -implicitDefEqProofs only [go_sem, e14]⟩
  · simp only [not_or] at hyes
    obtain ⟨hw, h5, h6⟩ := hyes
    have hw : way = false := by simpa using hw
    subst hw
    rw [dec_f h5, dec_f h6]
    have hta := tot_agt (x := n.1) (ls := ls)
    have hql := queueS_length n.1 ls
    simp -dsimp -implicitDefEqProofs (disch := omega) only [go_sem, reqD_of, dec_t, dec_f, wrap_i64, wrap_u32, wrap_u64, wrap_u8, hd, e4, e7, e10, e11, e13, e14, hck4, hci4, hN4]
    refine (queueN_any (x := n.1) (h4.take (.obj B)) (by omega)).mono ?_
    rintro e' w3 ⟨vq, h7, rfl⟩
    have h8 : St w0 (RowO 3 1 vq (queueS n.1 ls).length (intR (queueS n.1 ls)) * (Blk N (.cells (needC n).toArray 38 (0, 0)) * (TabP B ls ws * (RowO 3 1 (.slice (some ⟨b, o, none⟩) l.length c) l.length (intR l) * F)))) w3 := h7.sub
    obtain ⟨_, _, _, hv, hc8, hN8⟩ := cells h8.right
    simp only [Value.slice.injEq, Option.some.injEq, Addr.mk.injEq, and_true, true_and] at hv
    obtain ⟨⟨rfl, rfl⟩, rfl⟩ := hv
    have hck8 := hc8 k hk
    have hci8 := hc8 i hi
    simp -dsimp -implicitDefEqProofs (disch := omega) only [go_sem, reqD_of, dec_t, dec_f, wrap_i64, wrap_u32, wrap_u64, wrap_u8, hd, e4, e7, e10, e11, e13, e14, hck8, hci8, hN8]
    refine (ahead_any (l := queueS n.1 ls) (a := l[k]) (b := l[i]) h8 ((Ent.left _ _).trans (RowO.reads _ _ _ _ _)) (by omega)).mono ?_
    rintro e' w4 ⟨h9, bb, rfl⟩
    simp -dsimp -implicitDefEqProofs (disch := omega) only [go_sem, reqD_of, dec_t, dec_f, wrap_i64, wrap_u32, wrap_u64, wrap_u8, hd, e4, e7, e10, e11, e13, e14]
    refine hQ _ _ bb (fun hor => ?_) ⟨by simp -dsimp -implicitDefEqProofs only [go_sem, hd], by simp -dsimp -implicitDefEqProofs only [go_sem, e4], by simp -dsimp -implicitDefEqProofs only [go_sem, e7], by simp -dsimp -implicitDefEqProofs only [go_sem, e10], by simp -dsimp -implicitDefEqProofs only [go_sem, e11], by simp -dsimp -implicitDefEqProofs only [go_sem], by simp -dsimp -implicitDefEqProofs only [go_sem, e14]⟩ h9.right
    rcases hor with h | ⟨al, h⟩
    · cases h
    · cases al
      · exact absurd h h6
      · exact absurd h h5

end
section
attribute [local go_sem] F8.t9_eq F8.t10_eq F8.t26_eq F8.t27_eq F8.t31_eq F8.t23_eq F8.t19_eq F8.t20_eq F8.t38_eq F8.t39_eq F8.t35_eq F8.t36_eq F8.t50_eq F8.t48_eq F8.t45_eq F8.t46_eq F8.t51_eq F8.t42_eq F8.t33_eq F8.t17_eq F8.t11_eq F8.t7_eq F8.t3_eq
theorem stuck_23 {w0 w : World} {F : HP} {B N i : Nat} {ls : List (Nam × LkS)} {ws : List (Int × Nee)} {n : Nee} {v7 : Value} {l : List Int} {q : Int} {al : Bool} {Q : Post} {e : FA} {θ : Tag (F8.t23, Q, e, w)}
    (hT : tot ls < 536870912) (hL : ls.length < 536870912) (hll : l.length ≤ 9223372036854775807) (hi : i < l.length) (hq : q ∈ l) (hne : q ≠ l[i]) (hh : (n.1, al) ∈ heldS q ls)
    (hd : e.ds = []) (e4 : e.ρ 4 = .pointer (some ⟨B, 0, none⟩)) (e7 : e.ρ 7 = v7) (e10 : e.ρ 10 = .int .i64 i) (e11 : e.ρ 11 = .pointer (some ⟨N, 0, none⟩)) (h : St w0 (G8 B N ls ws n v7 l F) w)
    (hQ : ∀ (e' : FA) (w' : World), e'.ds = [] → e'.ρ 4 = .pointer (some ⟨B, 0, none⟩) → e'.ρ 7 = v7 → e'.ρ 10 = .int .i64 i → St w0 (G8 B N ls ws n v7 l F) w' → Q .normal e' w') :
    cwE Try.prog F8.t23 Q e w θ := by
  have hrd : ∀ {w : World}, St w0 (G8 B N ls ws n v7 l F) w → St w0 (Reads 1 v7 l.length (intR l)) w := fun {w} h => by
    have h' : St w0 (Blk N (.cells (needC n).toArray 38 (0, 0)) * (TabP B ls ws * (RowO 3 1 v7 l.length (intR l) * F))) w := h
    exact h'.gives (B := Reads 1 v7 l.length (intR l))
  obtain ⟨_, a7, c7, rfl, _, _⟩ := intAt (hrd h)
  rw [F8.t23_eq]
  simp -dsimp -implicitDefEqProofs (disch := omega) only [go_sem, reqD_of, dec_t, dec_f, wrap_i64, wrap_u32, wrap_u64, wrap_u8, hd, e4, e7, e10, e11]
  refine loop_intro (fun e w' => ∃ (way : Bool) (k : Nat), k ≤ l.length ∧ S8 e B i (.slice a7 l.length c7) N way k ∧ (q ∈ l.take k → way = true) ∧ St w0 (G8 B N ls ws n (.slice a7 l.length c7) l F) w')
    (fun e _ => match e.ρ 14 with | .int _ n => (l.length - n).toNat | _ => 0) ?_ ?_
  · exact ⟨false, 0, by omega, ⟨by simp -dsimp -implicitDefEqProofs only [go_sem, hd], by simp -dsimp -implicitDefEqProofs only [go_sem, e4], by simp -dsimp -implicitDefEqProofs only [go_sem, e7], by simp -dsimp -implicitDefEqProofs only [go_sem, e10], by simp -dsimp -implicitDefEqProofs only [go_sem, e11], by simp -dsimp -implicitDefEqProofs only [go_sem], by simp -dsimp -implicitDefEqProofs only [go_sem]⟩, by simp, h⟩
  rintro e w1 ⟨way, k, hk, hs, hway, h1⟩
  by_cases hlt : (k : Int) < l.length
  case neg =>
    have : k = l.length := by omega
    subst this
    rw [List.take_length] at hway
    have hw := hway hq
    subst hw
    obtain ⟨hd, e4, e7, e10, e11, e13, e14⟩ := hs
    simp -dsimp -implicitDefEqProofs (disch := omega) only [go_sem, reqD_of, dec_t, dec_f, wrap_i64, wrap_u32, wrap_u64, wrap_u8, hd, e4, e7, e10, e11, e13, e14, hlt]
    exact hQ _ _ (by simp -dsimp -implicitDefEqProofs only [go_sem, hd]) (by simp -dsimp -implicitDefEqProofs only [go_sem, e4]) (by simp -dsimp -implicitDefEqProofs only [go_sem, e7]) (by simp -dsimp -implicitDefEqProofs only [go_sem, e10]) h1
  have hkl : k < l.length := by omega
  have hs' := hs
  obtain ⟨hd, e4, e7, e10, e11, e13, e14⟩ := hs
  obtain ⟨_, _, _, hv, _, hcl⟩ := intAt (hrd h1.drew)
  simp only [Value.slice.injEq, true_and] at hv
  obtain ⟨rfl, rfl⟩ := hv
  obtain ⟨b, o, rfl, hck⟩ := hcl k hkl
  obtain ⟨b', o', hbo, hci⟩ := hcl i hi
  simp only [Option.some.injEq, Addr.mk.injEq, and_true] at hbo
  obtain ⟨rfl, rfl⟩ := hbo
  by_cases hsame : l[k] = l[i]
  · simp -dsimp -implicitDefEqProofs (disch := omega) only [go_sem, reqD_of, dec_t, dec_f, wrap_i64, wrap_u32, wrap_u64, wrap_u8, hd, e4, e7, e10, e11, e13, e14, hlt, hck, hci, hsame]
    refine ⟨⟨way, k + 1, by omega, ⟨by simp -dsimp -implicitDefEqProofs only [go_sem, hd], by simp -dsimp -implicitDefEqProofs only [go_sem, e4], by simp -dsimp -implicitDefEqProofs only [go_sem, e7], by simp -dsimp -implicitDefEqProofs only [go_sem, e10], by simp -dsimp -implicitDefEqProofs only [go_sem, e11], by simp -dsimp -implicitDefEqProofs only [go_sem, e13], by simp -dsimp -implicitDefEqProofs only [go_sem]; omega⟩, fun hm => ?_, h1.drew⟩, by omega⟩
    rw [List.take_succ_eq_append_getElem hkl, List.mem_append] at hm
    rcases hm with hm | hm
    · exact hway hm
    · simp only [List.mem_singleton] at hm
      exact absurd (hm.trans hsame) hne
  · simp -dsimp -implicitDefEqProofs (disch := omega) only [go_sem, reqD_of, dec_t, dec_f, wrap_i64, wrap_u32, wrap_u64, wrap_u8, hd, e4, e7, e10, e11, e13, e14, hlt, hck, hci, hsame]
    refine stuck_28 (w0 := w0) (F := F) (B := B) (N := N) (i := i) (k := k) (ls := ls) (ws := ws) (n := n) (v7 := .slice (some ⟨b, o, none⟩) l.length c7) (l := l) (way := way) hT hL hi hkl ⟨by simp -dsimp -implicitDefEqProofs only [go_sem, hd], by simp -dsimp -implicitDefEqProofs only [go_sem, e4], by simp -dsimp -implicitDefEqProofs only [go_sem, e7], by simp -dsimp -implicitDefEqProofs only [go_sem, e10], by simp -dsimp -implicitDefEqProofs only [go_sem, e11], by simp -dsimp -implicitDefEqProofs only [go_sem, e13], by simp -dsimp -implicitDefEqProofs only [go_sem, e14]⟩ h1.drew ?_
    rintro e' w' way' hw' ⟨f0, f1, f2, f3, f4, f5, f6⟩ h2
    simp -dsimp -implicitDefEqProofs (disch := omega) only [go_sem, reqD_of, dec_t, dec_f, wrap_i64, wrap_u32, wrap_u64, wrap_u8, f0, f1, f2, f3, f4, f5, f6, e14]
    refine ⟨⟨way', k + 1, by omega, ⟨by simp -dsimp -implicitDefEqProofs only [go_sem, f0], by simp -dsimp -implicitDefEqProofs only [go_sem, f1], by simp -dsimp -implicitDefEqProofs only [go_sem, f2], by simp -dsimp -implicitDefEqProofs only [go_sem, f3], by simp -dsimp -implicitDefEqProofs only [go_sem, f4], by simp -dsimp -implicitDefEqProofs only [go_sem, f5], by simp -dsimp -implicitDefEqProofs only [go_sem]; omega⟩, fun hm => ?_, h2⟩, by omega⟩
    rw [List.take_succ_eq_append_getElem hkl, List.mem_append] at hm
    rcases hm with hm | hm
    · exact hw' (.inl (hway hm))
    · simp only [List.mem_singleton] at hm
      subst hm
      exact hw' (.inr ⟨al, hh⟩)

end
end Go.Proofs.Ytacmnfpgimgigaa

namespace Go.Proofs.Ytacmnfpgimgigaa
open Go
set_option linter.unusedSimpArgs false
set_option linter.unusedVariables false
set_option maxRecDepth 100000

section
attribute [local go_sem] F8.t9_eq F8.t10_eq F8.t28_eq F8.t26_eq F8.t27_eq F8.t31_eq F8.t19_eq F8.t20_eq F8.t38_eq F8.t39_eq F8.t35_eq F8.t36_eq F8.t50_eq F8.t48_eq F8.t45_eq F8.t46_eq F8.t51_eq F8.t42_eq F8.t33_eq F8.t17_eq F8.t11_eq F8.t7_eq F8.t3_eq
theorem stuck_20 {w0 w : World} {F : HP} {B i : Nat} {ls : List (Nam × LkS)} {ws : List (Int × Nee)} {v7 : Value} {l : List Int} {Q : Post} {e : FA} {θ : Tag (F8.t20, Q, e, w)}
    (v : SInv (ls, ws)) (hl : StuckIs ls ws l) (hT : tot ls < 536870912) (hL : ls.length < 536870912) (hll : l.length ≤ 9223372036854775807) (hi : i < l.length)
    (hd : e.ds = []) (e4 : e.ρ 4 = .pointer (some ⟨B, 0, none⟩)) (e7 : e.ρ 7 = v7) (e10 : e.ρ 10 = .int .i64 i) (h : St w0 (TabP B ls ws * (RowO 3 1 v7 l.length (intR l) * F)) w)
    (hQ : ∀ (e' : FA) (w' : World), e'.ds = [] → e'.ρ 4 = .pointer (some ⟨B, 0, none⟩) → e'.ρ 7 = v7 → e'.ρ 10 = .int .i64 ((i : Int) + 1) → St w0 (TabP B ls ws * (RowO 3 1 v7 l.length (intR l) * F)) w' → Q .normal e' w') :
    cwE Try.prog F8.t20 Q e w θ := by
  obtain ⟨x, a, q, h1, h2, h3⟩ := Stk.closed l[i] ((hl.2 _).1 (List.getElem_mem hi))
  obtain ⟨c, hc, rfl⟩ := List.mem_map.1 h3
  have hh := (mem_held v.1 (who := c.1) (x := x) (a := c.2)).2 hc
  have hne : c.1 ≠ l[i] := by
    intro he
    obtain ⟨s, hs, hm⟩ := v.1.wq _ _ _ h1
    obtain ⟨s', hs', hq'⟩ := holdAt h3
    rw [hs] at hs'
    cases hs'
    exact (v.1.ok _ _ hs).dj _ hm (by simp only; rw [← he]; exact hq')
  obtain ⟨_, a7, c7, rfl, _, hcl⟩ := intAt (h.gives (B := Reads 1 v7 l.length (intR l)))
  obtain ⟨b, o, rfl, hci⟩ := hcl i hi
  rw [F8.t20_eq]
  simp -dsimp -implicitDefEqProofs (disch := omega) only [go_sem, reqD_of, dec_t, dec_f, wrap_i64, wrap_u32, wrap_u64, wrap_u8, hd, e4, e7, e10, hci]
  refine (waits_any (who := l[i]) h).mono ?_
  rintro e' w1 ⟨h4, rfl⟩
  rw [h1]
  simp -dsimp -implicitDefEqProofs (disch := omega) only [go_sem, reqD_of, dec_t, dec_f, wrap_i64, wrap_u32, wrap_u64, wrap_u8, hd, e4, e7, e10, Option.isSome_some, Option.getD_some]
  refine h4.new fun N w2 h5 => ?_
  simp -dsimp -implicitDefEqProofs (disch := omega) only [go_sem, reqD_of, dec_t, dec_f, wrap_i64, wrap_u32, wrap_u64, wrap_u8]
  refine h5.stoAll (cs := needC (x, a)) rfl rfl (needC_cells _) fun w3 h6 => ?_
  have h7 := h6.drew
  have hG : St w0 (G8 B N ls ws (x, a) (.slice (some ⟨b, o, none⟩) l.length c7) l F) w3.drew := h7
  obtain ⟨_, _, _, hv, _, hcl7⟩ := intAt (h7.gives (B := Reads 1 (.slice (some ⟨b, o, none⟩) l.length c7) l.length (intR l)))
  simp only [Value.slice.injEq, true_and] at hv
  obtain ⟨rfl, rfl⟩ := hv
  obtain ⟨b', o', hbo, hci7⟩ := hcl7 i hi
  simp only [Option.some.injEq, Addr.mk.injEq, and_true] at hbo
  obtain ⟨rfl, rfl⟩ := hbo
  have go : ∀ {Q' : Post} {e' : FA} {θ : Tag (F8.t23, Q', e', w3.drew)}, e'.ds = [] → e'.ρ 4 = .pointer (some ⟨B, 0, none⟩) → e'.ρ 7 = .slice (some ⟨b, o, none⟩) l.length c7 → e'.ρ 10 = .int .i64 i → e'.ρ 11 = .pointer (some ⟨N, 0, none⟩) →
      (∀ (e'' : FA) (w'' : World), e''.ds = [] → e''.ρ 4 = .pointer (some ⟨B, 0, none⟩) → e''.ρ 7 = .slice (some ⟨b, o, none⟩) l.length c7 → e''.ρ 10 = .int .i64 i → St w0 (G8 B N ls ws (x, a) (.slice (some ⟨b, o, none⟩) l.length c7) l F) w'' → Q' .normal e'' w'') → cwE Try.prog F8.t23 Q' e' w3.drew θ :=
    fun f0 f1 f2 f3 f4 hq => stuck_23 hT hL hll hi ((hl.2 _).2 h2) hne hh f0 f1 f2 f3 f4 hG hq
  have fin : ∀ {w'' : World}, St w0 (G8 B N ls ws (x, a) (.slice (some ⟨b, o, none⟩) l.length c7) l F) w'' → St w0 (TabP B ls ws * (RowO 3 1 (.slice (some ⟨b, o, none⟩) l.length c7) l.length (intR l) * F)) w'' := fun hh => St.right (A := Blk N (.cells (needC (x, a)).toArray 38 (0, 0))) hh
  by_cases hi0 : (0 : Int) < i
  · have hj := hcl7 (i - 1) (by omega)
    obtain ⟨b', o', hbo, hcj⟩ := hj
    simp only [Option.some.injEq, Addr.mk.injEq, and_true] at hbo
    obtain ⟨rfl, rfl⟩ := hbo
    have hlt : ¬ l[i] ≤ l[i - 1]'(by omega) := by
      have := (List.pairwise_iff_getElem.1 hl.1) (i - 1) i (by omega) hi (by omega)
      omega
    have hij : (i : Int) - 1 = ((i - 1 : Nat) : Int) := by omega
    simp -dsimp -implicitDefEqProofs (disch := omega) only [go_sem, reqD_of, dec_t, dec_f, wrap_i64, wrap_u32, wrap_u64, wrap_u8, hd, e4, e7, e10, hi0, hij, hci7, hcj, hlt]
    refine go (by simp -dsimp -implicitDefEqProofs only [go_sem, hd]) (by simp -dsimp -implicitDefEqProofs only [go_sem, e4]) (by simp -dsimp -implicitDefEqProofs only [go_sem, e7]) (by simp -dsimp -implicitDefEqProofs only [go_sem, e10]) (by simp -dsimp -implicitDefEqProofs only [go_sem]) ?_
    intro e'' w'' f0 f1 f2 f3 h8
    simp -dsimp -implicitDefEqProofs (disch := omega) only [go_sem, reqD_of, dec_t, dec_f, wrap_i64, wrap_u32, wrap_u64, wrap_u8, f0, f1, f2, f3]
    exact hQ _ _ (by simp -dsimp -implicitDefEqProofs only [go_sem, f0]) (by simp -dsimp -implicitDefEqProofs only [go_sem, f1]) (by simp -dsimp -implicitDefEqProofs only [go_sem, f2]) (by simp -dsimp -implicitDefEqProofs only [go_sem, f3]) (fin h8)
  · simp -dsimp -implicitDefEqProofs (disch := omega) only [go_sem, reqD_of, dec_t, dec_f, wrap_i64, wrap_u32, wrap_u64, wrap_u8, hd, e4, e7, e10, hi0]
    refine go (by simp -dsimp -implicitDefEqProofs only [go_sem, hd]) (by simp -dsimp -implicitDefEqProofs only [go_sem, e4]) (by simp -dsimp -implicitDefEqProofs only [go_sem, e7]) (by simp -dsimp -implicitDefEqProofs only [go_sem, e10]) (by simp -dsimp -implicitDefEqProofs only [go_sem]) ?_
    intro e'' w'' f0 f1 f2 f3 h8
    simp -dsimp -implicitDefEqProofs (disch := omega) only [go_sem, reqD_of, dec_t, dec_f, wrap_i64, wrap_u32, wrap_u64, wrap_u8, f0, f1, f2, f3]
    exact hQ _ _ (by simp -dsimp -implicitDefEqProofs only [go_sem, f0]) (by simp -dsimp -implicitDefEqProofs only [go_sem, f1]) (by simp -dsimp -implicitDefEqProofs only [go_sem, f2]) (by simp -dsimp -implicitDefEqProofs only [go_sem, f3]) (fin h8)

end
section
attribute [local go_sem] F8.t9_eq F8.t10_eq F8.t28_eq F8.t26_eq F8.t27_eq F8.t31_eq F8.t23_eq F8.t19_eq F8.t38_eq F8.t39_eq F8.t35_eq F8.t36_eq F8.t50_eq F8.t48_eq F8.t45_eq F8.t46_eq F8.t51_eq F8.t42_eq F8.t17_eq F8.t11_eq F8.t7_eq F8.t3_eq
theorem stuck_11 {w0 w : World} {F : HP} {B : Nat} {ls : List (Nam × LkS)} {ws : List (Int × Nee)} {e : FA}
    (v : SInv (ls, ws)) (hT : tot ls < 536870912) (hL : ls.length < 536870912) (hW : ws.length < 536870912)
    (hd : e.ds = []) (e4 : e.ρ 4 = .pointer (some ⟨B, 0, none⟩)) (h : St w0 (TabP B ls ws * F) w) :
    cwE Try.prog F8.t11 (fnP Try.prog #[.tmp 2] fun e w' => St w0 F w' ∧ e = .returned (.bool true)) e w := by
  have htl := toldS_length ls
  rw [F8.t11_eq]
  simp -dsimp -implicitDefEqProofs (disch := omega) only [go_sem, reqD_of, dec_t, dec_f, wrap_i64, wrap_u32, wrap_u64, wrap_u8, hd, e4]
  refine (told_any h (by omega) (by omega)).mono ?_
  rintro e' w1 ⟨v6, h1, rfl⟩
  simp -dsimp -implicitDefEqProofs (disch := omega) only [go_sem, reqD_of, dec_t, dec_f, wrap_i64, wrap_u32, wrap_u64, wrap_u8, hd, e4]
  refine (stuck_any (ls := ls) (ws := ws) v.1 (h1.take (.obj B)) (by omega) (by omega) (by omega)).mono ?_
  rintro e' w2 ⟨v7, l, hl, h2, rfl⟩
  simp -dsimp -implicitDefEqProofs (disch := omega) only [go_sem, reqD_of, dec_t, dec_f, wrap_i64, wrap_u32, wrap_u64, wrap_u8, hd, e4]
  refine (told_any (h2.take (.obj B)) (by omega) (by omega)).mono ?_
  rintro e' w3 ⟨v8, h3, rfl⟩
  simp -dsimp -implicitDefEqProofs (disch := omega) only [go_sem, reqD_of, dec_t, dec_f, wrap_i64, wrap_u32, wrap_u64, wrap_u8, hd, e4]
  have h3' : St w0 (RowO 3 1 v8 (toldS ls).length (intR (toldS ls)) * (RowO 3 1 v6 (toldS ls).length (intR (toldS ls)) * (TabP B ls ws * (RowO 3 1 v7 l.length (intR l) * F)))) w3 := h3.sub
  refine (sameInts_any (va := v6) (vb := v8) (na := (toldS ls).length) (nb := (toldS ls).length) (xs := toldS ls) (ys := toldS ls) h3' ((Ent.right _ _).trans ((Ent.left _ _).trans (RowO.reads _ _ _ _ _))) ((Ent.left _ _).trans (RowO.reads _ _ _ _ _)) (by omega)).mono ?_
  rintro e' w4 ⟨h4, rfl⟩
  have h5 : St w0 (TabP B ls ws * (RowO 3 1 v7 l.length (intR l) * F)) w4 := h4.right.right
  obtain ⟨a7, c7, rfl, _, hc7, hm7⟩ := h5.rowForm v7
  have hll : l.length ≤ 9223372036854775807 := Nat.le_trans hc7 hm7
  simp -dsimp -implicitDefEqProofs (disch := omega) only [go_sem, reqD_of, dec_t, dec_f, wrap_i64, wrap_u32, wrap_u64, wrap_u8, hd, e4]
  refine loop_intro (fun e w' => e.ds = [] ∧ e.ρ 4 = .pointer (some ⟨B, 0, none⟩) ∧ e.ρ 7 = .slice a7 l.length c7 ∧ ∃ i : Nat, i ≤ l.length ∧ e.ρ 10 = .int .i64 i ∧ St w0 (TabP B ls ws * (RowO 3 1 (.slice a7 l.length c7) l.length (intR l) * F)) w')
    (fun e _ => match e.ρ 10 with | .int _ n => (l.length - n).toNat | _ => 0) ?_ ?_
  · exact ⟨by simp -dsimp -implicitDefEqProofs only [go_sem, hd], by simp -dsimp -implicitDefEqProofs only [go_sem, e4], by simp -dsimp -implicitDefEqProofs only [go_sem], 0, by omega, by simp -dsimp -implicitDefEqProofs only [go_sem], h5⟩
  rintro e w5 ⟨hd, e4, e7, i, hi, e10, h6⟩
  by_cases hlt : (i : Int) < l.length
  case neg =>
    simp -dsimp -implicitDefEqProofs (disch := omega) only [go_sem, reqD_of, dec_t, dec_f, wrap_i64, wrap_u32, wrap_u64, wrap_u8, hd, e4, e7, e10, hlt]
    exact stuck_33 (t := (ls, ws)) v ⟨hT, hL⟩ hl (by simp -dsimp -implicitDefEqProofs only [go_sem, hd]) (by simp -dsimp -implicitDefEqProofs only [go_sem, e4]) (by simp -dsimp -implicitDefEqProofs only [go_sem, e7]) h6
  simp -dsimp -implicitDefEqProofs (disch := omega) only [go_sem, reqD_of, dec_t, dec_f, wrap_i64, wrap_u32, wrap_u64, wrap_u8, hd, e4, e7, e10, hlt]
  refine stuck_20 (i := i) v hl hT hL hll (by omega) (by simp -dsimp -implicitDefEqProofs only [go_sem, hd]) (by simp -dsimp -implicitDefEqProofs only [go_sem, e4]) (by simp -dsimp -implicitDefEqProofs only [go_sem, e7]) (by simp -dsimp -implicitDefEqProofs only [go_sem, e10]) h6 ?_
  intro e' w' f0 f1 f2 f3 h7
  simp -dsimp -implicitDefEqProofs (disch := omega) only [go_sem, reqD_of, dec_t, dec_f, wrap_i64, wrap_u32, wrap_u64, wrap_u8, f0, f1, f2, f3, e10]
  exact ⟨⟨i + 1, by omega, by omega, h7⟩, by omega⟩

end
section
attribute [local go_sem] F8.t9_eq F8.t10_eq F8.t28_eq F8.t26_eq F8.t27_eq F8.t31_eq F8.t23_eq F8.t19_eq F8.t20_eq F8.t38_eq F8.t39_eq F8.t35_eq F8.t36_eq F8.t50_eq F8.t48_eq F8.t45_eq F8.t46_eq F8.t51_eq F8.t42_eq F8.t33_eq F8.t17_eq F8.t7_eq F8.t3_eq
theorem stuck_main {w0 w : World} {F : HP} {v0 : Value} {ms : List Mv} {e : FA} (h : St w0 F w) (hr : Ent F (Reads 4 v0 ms.length (ms.flatMap mvC))) (hm : ∀ m ∈ ms, MvOk m) (hlen : ms.length ≤ 1048576) (hd : e.ds = []) (e0 : e.ρ 0 = v0) :
    cwE Try.prog F8.t3 (fnP Try.prog #[.tmp 2] fun e w' => St w0 F w' ∧ e = .returned (.bool true)) e w := by
  obtain ⟨_, a, c, rfl, hnc, _⟩ := St.rowsAt (k := 4) mvC_length (by decide) (h.ent hr)
  rw [F8.t3_eq]
  simp -dsimp -implicitDefEqProofs (disch := omega) only [go_sem, reqD_of, dec_t, dec_f, wrap_i64, wrap_u32, wrap_u64, wrap_u8, hd, e0]
  refine (known_any h).mono ?_
  rintro e' w1 ⟨h1, rfl⟩
  simp -dsimp -implicitDefEqProofs (disch := omega) only [go_sem, reqD_of, dec_t, dec_f, wrap_i64, wrap_u32, wrap_u64, wrap_u8, hd, e0]
  refine (new_any h1).mono ?_
  rintro e' w2 ⟨B, h2, rfl⟩
  simp -dsimp -implicitDefEqProofs (disch := omega) only [go_sem, reqD_of, dec_t, dec_f, wrap_i64, wrap_u32, wrap_u64, wrap_u8, hd, e0]
  refine loop_intro (fun e w' => e.ds = [] ∧ e.ρ 0 = .slice a ms.length c ∧ e.ρ 4 = .pointer (some ⟨B, 0, none⟩) ∧ ∃ (i : Nat) (ls : List (Nam × LkS)) (ws : List (Int × Nee)), i ≤ ms.length ∧ e.ρ 5 = .int .i64 i ∧ SInv (ls, ws) ∧ tot ls ≤ i ∧ ls.length ≤ i ∧ ws.length ≤ i ∧ St w0 (TabP B ls ws * F) w')
    (fun e _ => match e.ρ 5 with | .int _ n => (ms.length - n).toNat | _ => 0) ?_ ?_
  · exact ⟨by simp -dsimp -implicitDefEqProofs only [go_sem, hd], by simp -dsimp -implicitDefEqProofs only [go_sem, e0], by simp -dsimp -implicitDefEqProofs only [go_sem], 0, [], [], by omega, by simp -dsimp -implicitDefEqProofs only [go_sem], ⟨Inv.start, fun x s hx => (by cases hx)⟩, by simp [tot], by simp, by simp, h2⟩
  rintro e w3 ⟨hd, e0, e4, i, ls, ws, hi, e5, v, hT, hL, hW, h3⟩
  by_cases hlt : (i : Int) < ms.length
  case neg =>
    simp -dsimp -implicitDefEqProofs (disch := omega) only [go_sem, reqD_of, dec_t, dec_f, wrap_i64, wrap_u32, wrap_u64, wrap_u8, hd, e0, e4, e5, hlt]
    exact stuck_11 v (by omega) (by omega) (by omega) (by simp -dsimp -implicitDefEqProofs only [go_sem, hd]) (by simp -dsimp -implicitDefEqProofs only [go_sem, e4]) h3
  have hil : i < ms.length := by omega
  obtain ⟨_, _, _, hv, _, hcl⟩ := St.rowsAt (k := 4) mvC_length (by decide) (h3.right.ent hr)
  simp only [Value.slice.injEq, true_and] at hv
  obtain ⟨rfl, rfl⟩ := hv
  obtain ⟨g, o, rfl, hrow, _⟩ := hcl i hil
  have ht' := move_tot ms[i] ls ws
  have hw' := move_wlen ms[i] ls ws
  obtain ⟨⟨⟨l, ok⟩, ls', ws'⟩, hR⟩ : ∃ y, moveS ms[i] ls ws = y := ⟨_, rfl⟩
  have v' := v.move ms[i]
  rw [hR] at ht' hw' v'
  simp only at ht' hw' v'
  simp -dsimp -implicitDefEqProofs (disch := omega) only [go_sem, reqD_of, dec_t, dec_f, wrap_i64, wrap_u32, wrap_u64, wrap_u8, hd, e0, e4, e5, hlt, hrow]
  refine (move_any hR (hm _ (List.getElem_mem hil)) h3 (fun n hn => by obtain ⟨s, hs, _⟩ := v.1.wq _ _ _ hn; exact ⟨s, hs⟩) (by omega) (by omega)).mono ?_
  rintro e' w4 ⟨v2, h4, rfl⟩
  simp -dsimp -implicitDefEqProofs (disch := omega) only [go_sem, reqD_of, dec_t, dec_f, wrap_i64, wrap_u32, wrap_u64, wrap_u8, hd, e0, e4, e5]
  exact ⟨⟨i + 1, ls', ws', by omega, by omega, v', by omega, by omega, by omega, h4.right⟩, by omega⟩

end
section
attribute [local go_sem] F8.t9_eq F8.t10_eq F8.t28_eq F8.t26_eq F8.t27_eq F8.t31_eq F8.t23_eq F8.t19_eq F8.t20_eq F8.t38_eq F8.t39_eq F8.t35_eq F8.t36_eq F8.t50_eq F8.t48_eq F8.t45_eq F8.t46_eq F8.t51_eq F8.t42_eq F8.t33_eq F8.t17_eq F8.t11_eq F8.t7_eq
theorem locksStuck_any {w0 w : World} {F : HP} {v0 : Value} {ms : List Mv} (h : St w0 F w) (hr : Ent F (Reads 4 v0 ms.length (ms.flatMap mvC))) (hm : ∀ m ∈ ms, MvOk m) :
    Calls Try.prog 8 #[v0] w fun e w' => St w0 F w' ∧ e = .returned (.bool true) := by
  obtain ⟨_, a, c, rfl, hnc, _⟩ := St.rowsAt (k := 4) mvC_length (by decide) (h.ent hr)
  refine F8.calls (by simp) ?_
  unfold F8.code
  by_cases hlt : (1048576 : Int) < ms.length
  · simp -dsimp -implicitDefEqProofs (disch := omega) only [go_sem, reqD_of, dec_t, dec_f, wrap_i64, wrap_u32, wrap_u64, wrap_u8, hlt]
    have h2 := hr.trans (Reads.takeK (k := 1048576) (by omega))
    rw [flatMap_take mvC_length] at h2
    have hl : (ms.take 1048576).length = 1048576 := by rw [List.length_take]; omega
    exact stuck_main (ms := ms.take 1048576) (v0 := .slice (if c = 0 then a else Option.map (fun x => x) a) 1048576 (c - 0)) h (by rw [hl]; exact h2) (fun m hm' => hm m (List.mem_of_mem_take hm')) (by omega) (by simp -dsimp -implicitDefEqProofs only [go_sem]) (by simp -dsimp -implicitDefEqProofs only [go_sem])
  · simp -dsimp -implicitDefEqProofs (disch := omega) only [go_sem, reqD_of, dec_t, dec_f, wrap_i64, wrap_u32, wrap_u64, wrap_u8, hlt]
    exact stuck_main h hr hm (by omega) (by simp -dsimp -implicitDefEqProofs only [go_sem]) (by simp -dsimp -implicitDefEqProofs only [go_sem])

end
end Go.Proofs.Ytacmnfpgimgigaa
