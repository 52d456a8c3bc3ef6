/- law06: UsersUndo: the line that is added. law06: UsersUndo. law06: UsersUndo, whole. -/
import Derived.Test.YtkijkoakloacoaaDoorUH
import Derived.Test.YtkijkoakloacoaaDoorUP
namespace Go.Proofs.YtkijkoakloacoaaDoor
open Go
set_option linter.unusedVariables false
set_option linter.unusedSimpArgs false
set_option maxRecDepth 100000

/-! ### Plain -/

theorem joinD_snoc (d : UInt8) : ∀ (ls : List (List UInt8)) (x : List UInt8), joinD d (ls ++ [x]) = (if ls = [] then x else joinD d ls ++ d :: x)
  | [], x => by rw [if_pos rfl, List.nil_append, joinD, Lib.join_one]
  | [p], x => by
    rw [if_neg (by simp)]
    show joinD d [p, x] = _
    rw [joinD_two, joinD, Lib.join_one, joinD, Lib.join_one]
  | p :: q :: ls, x => by
    have ih := joinD_snoc d (q :: ls) x
    rw [if_neg (by simp)] at ih
    rw [if_neg (by simp)]
    show joinD d (p :: q :: (ls ++ [x])) = _
    rw [joinD_two, joinD_two, show q :: (ls ++ [x]) = (q :: ls) ++ [x] from rfl, ih, List.append_assoc, List.cons_append]
/-- The members of the new account. -/
def undoM (n p c : Nat) : List (List UInt8) := (List.range c).map fun i => nm ((p + i) % n)
theorem undoM_snoc (n p c : Nat) : undoM n p (c + 1) = undoM n p c ++ [nm ((p + c) % n)] := by
  unfold undoM; rw [List.range_succ, List.map_append]; rfl
theorem undoM_nil {n p c : Nat} : undoM n p c = [] ↔ c = 0 := by
  unfold undoM; simp
theorem mod_inj {n p i k : Nat} (hi : i < n) (hk : k < n) (e : (p + i) % n = (p + k) % n) : i = k := by
  have h1 := Nat.div_add_mod (p + i) n
  have h2 := Nat.div_add_mod (p + k) n
  rw [e] at h1
  rcases Nat.lt_trichotomy ((p + i) / n) ((p + k) / n) with h | h | h
  · have := Nat.mul_le_mul_left n (show (p + i) / n + 1 ≤ (p + k) / n from h)
    rw [Nat.mul_add] at this
    omega
  · rw [h] at h1; omega
  · have := Nat.mul_le_mul_left n (show (p + k) / n + 1 ≤ (p + i) / n from h)
    rw [Nat.mul_add] at this
    omega
theorem undoM_ok {L : List Acc} (h : Made L) {ld : List UInt8} {p c : Nat} (hl : ld = [] ∨ ∃ k, k < L.length ∧ ld = nm k) (hc : c ≤ L.length) : FreshOk L ld (undoM L.length p c) := by
  have hf := h.few
  refine ⟨hl, fun m hm => ?_, ?_⟩
  · obtain ⟨i, hi, rfl⟩ := List.mem_map.1 hm
    have hi := List.mem_range.1 hi
    exact ⟨_, Nat.mod_lt _ (by omega), rfl⟩
  · unfold undoM
    rw [List.nodup_iff_pairwise_ne, List.pairwise_map]
    have := List.nodup_range (n := c)
    rw [List.nodup_iff_pairwise_ne] at this
    refine List.Pairwise.imp_of_mem (fun {a b} ha hb hne e => ?_) this
    have ha := List.mem_range.1 ha
    have hb := List.mem_range.1 hb
    have hn : 0 < L.length := by omega
    exact hne (mod_inj (by omega) (by omega) (nm_inj (by have := Nat.mod_lt (p + a) hn; omega) (by have := Nat.mod_lt (p + b) hn; omega) e))
theorem Made.tab {L : List Acc} (h : Made L) : TabL L := ⟨h.nodup, h.join⟩

theorem textW_any {w0 w : World} {A : HP} {T m : Nat} {x : UT} (ok : x.Ok) (t : TabL (accs x.L)) (h : St w0 (TabW T m x * A) w) :
    Calls Tryd.prog 17 #[.pointer (some ⟨T, 0, none⟩)] w fun e w' => St w0 (TabW T m x * A) w' ∧ e = .returned (.string (strOf (textF (accs x.L)))) := by
  have hf := t.few
  rw [List.length_map] at hf
  have h1 : St w0 (TabQ T m x.vl (.map (some x.mi)) x.L * ((MapP encPr x.mi x.inl * x.B) * A)) w := h.ac (by unfold TabW TabQ; ac_rfl)
  refine (text_any h1 (ok.ms.weak ((Ent.left _ _).trans (Ent.right _ _))) (by omega) (by omega)).mono ?_
  rintro e w1 ⟨h2, rfl⟩
  exact ⟨h2.ac (by unfold TabW TabQ; ac_rfl), rfl⟩

section
attribute [local go_sem] F32.t4_eq
theorem leader_any {w0 w : World} {A : HP} (h : St w0 A w) {v : Value} {L : List AV} (hv : Ent A (ReadsA v L)) (hn : L.length ≤ 30) (M : Made (accs L)) {c : Int} (hc : InI c) :
    Calls Tryd.prog 32 #[v, .int .i64 c] w fun e w' => ∃ ld : List UInt8, St w0 A w' ∧ (ld = [] ∨ ∃ k, k < (accs L).length ∧ ld = nm k) ∧ e = .returned (.string (strOf ld)) := by
  obtain ⟨a1, c1, rfl, hao⟩ : ∃ a c, v = .slice a L.length c ∧ ∀ k, k < L.length → ∃ b o, a = some ⟨b, o, none⟩ := by
    obtain ⟨_, a, c, e, _, hrow⟩ := St.rowsAt accC_len (by decide) (h.ent hv)
    refine ⟨a, c, e, fun k hk => ?_⟩
    obtain ⟨b, o, e2, _⟩ := hrow k hk
    exact ⟨b, o, e2⟩
  obtain ⟨k, hk, hpk⟩ := pick_nat (c := c) (n := 2 * L.length + 1) (by omega)
  rw [show ((2 * L.length + 1 : Nat) : Int) = 2 * (L.length : Int) + 1 by omega] at hpk
  refine F32.calls (by simp) ?_
  unfold F32.code
  simp -dsimp -implicitDefEqProofs (disch := omega) only [go_sem, reqD_of, dec_t, dec_f, wrap_i64, wrap_u32, wrap_u64, wrap_u8]
  refine (pick_any h hc (n := 2 * (L.length : Int) + 1) (by omega) (by omega)).mono ?_
  rintro e w1 ⟨h1, rfl⟩
  rw [hpk]
  by_cases hlt : (k : Int) < L.length
  · have hk' : k < L.length := by omega
    obtain ⟨b, o, rfl⟩ := hao k hk'
    obtain ⟨_, _, _, hv', _, hrow⟩ := St.rowsAt accC_len (by decide) (h1.ent hv)
    simp only [Value.slice.injEq, true_and] at hv'
    obtain ⟨q1, rfl⟩ := hv'
    obtain ⟨b', o', q2, _, hcell⟩ := hrow k hk'
    rw [← q1] at q2
    simp only [Option.some.injEq, Addr.mk.injEq, and_true] at q2
    obtain ⟨rfl, rfl⟩ := q2
    have h0 : w1.cell? ⟨b, o + k * 4 + 0, none⟩ = some (sv L[k].1.name) := hcell 0 (by decide)
    have hm := (M.each k (by simpa using hk')).name
    rw [List.getElem_map] at hm
    rw [hm, Nat.add_zero] at h0
    simp -dsimp -implicitDefEqProofs (disch := omega) only [go_sem, reqD_of, dec_t, dec_f, wrap_i64, wrap_u32, wrap_u64, wrap_u8, hlt, h0]
    exact ⟨nm k, h1, .inr ⟨k, by simpa using hk', rfl⟩, rfl⟩
  · simp -dsimp -implicitDefEqProofs (disch := omega) only [go_sem, reqD_of, dec_t, dec_f, wrap_i64, wrap_u32, wrap_u64, wrap_u8, hlt]
    exact ⟨[], h1, .inl rfl, rfl⟩
end
end Go.Proofs.YtkijkoakloacoaaDoor

namespace Go.Proofs.YtkijkoakloacoaaDoor
open Go
set_option linter.unusedVariables false
set_option linter.unusedSimpArgs false
set_option maxRecDepth 100000

abbrev whoB (C4 : Nat) (lead : Int) (vm : Value) (key : List UInt8) : HP := Blk C4 (.cells #[.int .i64 lead, vm, sv key] 63 (0, 0))
abbrev UndF (T m C4 : Nat) (x : UT) (lead : Int) (vm : Value) (key : List UInt8) (vo : Value) (L : List AV) (B A : HP) : HP := TabW T m x * (whoB C4 lead vm key * (rowA vo L * (B * A)))
structure UndE (e : FA) (C4 T : Nat) (vo : Value) (which : Int) (was : List UInt8) : Prop where
  ds : e.ds = []
  which : e.ρ 2 = .int .i64 which
  who : e.ρ 4 = .pointer (some ⟨C4, 0, none⟩)
  l : e.ρ 8 = vo
  t : e.ρ 9 = .pointer (some ⟨T, 0, none⟩)
  was : e.ρ 10 = sv was
def lineI (ld : List UInt8) (ms : List (List UInt8)) : List UInt8 := fresh ++ 58 :: (ld ++ 58 :: joinD 44 ms)
theorem lineI_end (ld : List UInt8) (ms : List (List UInt8)) : lineI ld ms ++ [58] = freshLine ld ms := by simp [lineI, freshLine]
theorem lineI_len {L : List Acc} (h : Made L) {ld : List UInt8} {p c : Nat} (hl : ld = [] ∨ ∃ k, k < L.length ∧ ld = nm k) (hc : c ≤ L.length) : (lineI ld (undoM L.length p c)).length ≤ 200 := by
  have h1 := (undoM_ok h (p := p) hl hc).line h
  rw [← lineI_end, List.length_append] at h1
  omega
theorem lineI_snoc (ld : List UInt8) (n p c : Nat) : lineI ld (undoM n p (c + 1)) = (if c = 0 then lineI ld (undoM n p c) else lineI ld (undoM n p c) ++ [44]) ++ nm ((p + c) % n) := by
  rw [undoM_snoc, lineI, joinD_snoc]
  by_cases e : c = 0
  · rw [if_pos (undoM_nil.2 e), if_pos e]
    subst e
    simp [lineI, undoM, joinD, Lib.join]
  · rw [if_neg (fun x => e (undoM_nil.1 x)), if_neg e]
    simp [lineI]

section
attribute [local go_sem] F9.t13_eq F9.t10_eq F9.t11_eq F9.t30_eq F9.t31_eq F9.t36_eq F9.t33_eq F9.t26_eq F9.t24_eq F9.t21_eq F9.t18_eq F9.t6_eq
/-- The line is made. -/
theorem undo_6 {w0 w : World} {A B : HP} {T m C4 : Nat} {x : UT} {lead which : Int} {vm : Value} {key : List UInt8} {vo : Value} {L : List AV} {zs : List Int} {e : FA} {R : Ending → World → Prop} (ok : x.Ok) (hL : accs x.L = accs L) (M : Made (accs L)) (hlead : InI lead)
    (hm : Ent A (Reads 1 vm zs.length (zs.map fun z => .int .i64 z))) (hz : ∀ z ∈ zs, InI z)
    (hd : e.ds = []) (e2 : e.ρ 2 = .int .i64 which) (e4 : e.ρ 4 = .pointer (some ⟨C4, 0, none⟩)) (e8 : e.ρ 8 = vo) (e9 : e.ρ 9 = .pointer (some ⟨T, 0, none⟩)) (h : St w0 (UndF T m C4 x lead vm key vo L B A) w)
    (hQ : ∀ (e' : FA) (w' : World) (ld : List UInt8) (p c : Nat), (ld = [] ∨ ∃ k, k < (accs L).length ∧ ld = nm k) → c ≤ (accs L).length → UndE e' C4 T vo which (textF (accs L)) → e'.ρ 11 = sv (lineI ld (undoM (accs L).length p c)) → St w0 (UndF T m C4 x lead vm key vo L B A) w' → cwE Tryd.prog F9.t14 (fnP Tryd.prog #[.tmp 6] R) e' w') : cwE Tryd.prog F9.t6 (fnP Tryd.prog #[.tmp 6] R) e w := by
  have hfew := M.few
  rw [List.length_map] at hfew
  obtain ⟨ao, co, rfl, hao⟩ := row_form (vo := vo) (L := L) h
  obtain ⟨am, cm, rfl, _, hmc⟩ : ∃ a c, vm = .slice a zs.length c ∧ zs.length ≤ c ∧ ∀ i (hi : i < zs.length), ∃ b o, a = some ⟨b, o, none⟩ := by
    obtain ⟨a, c, hv, hc, hr⟩ := (h.ent ((Gives.ent (B := A)).trans hm)).rd.form
    refine ⟨a, c, hv, hc, fun i hi => ?_⟩
    rcases hr with hr | ⟨b, o, e, _⟩
    · simp only [List.map_eq_nil_iff] at hr
      subst hr
      simp at hi
    · exact ⟨b, o, e⟩
  rw [F9.t6_eq]
  simp -dsimp -implicitDefEqProofs (disch := omega) only [go_sem, reqD_of, dec_t, dec_f, wrap_i64, wrap_u32, wrap_u64, wrap_u8, hd, e9]
  refine (textW_any ok (by rw [hL]; exact M.tab) h).mono ?_
  rintro e' w1 ⟨h1, rfl⟩
  rw [hL]
  simp -dsimp -implicitDefEqProofs (disch := omega) only [go_sem, reqD_of, dec_t, dec_f, wrap_i64, wrap_u32, wrap_u64, wrap_u8, hd, e2, e4, e8, e9, h1.cl C4]
  refine (leader_any h1 ((Ent.right _ _).trans ((Ent.right _ _).trans ((Ent.left _ _).trans (RowO.reads _ _ _ _ _)))) hfew M hlead).mono ?_
  rintro e' w2 ⟨ld, h2, hld, rfl⟩
  have hldl : ld.length ≤ 3 := by
    rcases hld with e | ⟨k, _, e⟩
    · rw [e]; simp
    · rw [e, nm_len]; exact Nat.le_refl _
  have a1 := binV_sadd (P := Tryd.prog) (T := 9) (a := [102, 114, 101, 115, 104, 58]) (b := ld) (by simp; omega)
  have a2 := binV_sadd (P := Tryd.prog) (T := 9) (a := [102, 114, 101, 115, 104, 58] ++ ld) (b := [58]) (by simp; omega)
  simp -dsimp -implicitDefEqProofs (disch := omega) only [go_sem, reqD_of, dec_t, dec_f, wrap_i64, wrap_u32, wrap_u64, wrap_u8, hd, e2, e4, e8, e9, a1, a2]
  have h0 : [102, 114, 101, 115, 104, 58] ++ ld ++ [58] = lineI ld [] := by simp [lineI, fresh, joinD, Lib.join]
  obtain ⟨p, hp30, hp⟩ : ∃ p : Nat, p ≤ 30 ∧ ∀ (hz0 : 0 < zs.length), 0 < L.length → pickI zs[0] L.length = (p : Int) := by
    by_cases hz0 : 0 < zs.length
    · by_cases hl0 : 0 < L.length
      · obtain ⟨k, hkb, hk⟩ := pick_nat (c := zs[0]) (n := L.length) hl0
        exact ⟨k, by omega, fun _ _ => hk⟩
      · exact ⟨0, by omega, fun _ h => absurd h hl0⟩
    · exact ⟨0, by omega, fun h => absurd h hz0⟩
  refine loop_intro (fun e w' => ∃ i : Nat, UndE e C4 T (.slice ao L.length co) which (textF (accs L)) ∧ i ≤ L.length ∧ e.ρ 12 = .int .i64 i ∧ e.ρ 11 = sv (lineI ld (undoM (accs L).length p i)) ∧ St w0 (UndF T m C4 x lead (.slice am zs.length cm) key (.slice ao L.length co) L B A) w')
    (fun e _ => match e.ρ 12 with | .int _ n => (L.length - n).toNat | _ => 0) ?_ ?_
  · exact ⟨0, ⟨by simp -dsimp -implicitDefEqProofs only [go_sem, hd], by simp -dsimp -implicitDefEqProofs only [go_sem, e2], by simp -dsimp -implicitDefEqProofs only [go_sem, e4], by simp -dsimp -implicitDefEqProofs only [go_sem, e8], by simp -dsimp -implicitDefEqProofs only [go_sem, e9], by simp -dsimp -implicitDefEqProofs only [go_sem]⟩, by omega, by simp -dsimp -implicitDefEqProofs only [go_sem], by (simp -dsimp -implicitDefEqProofs only [go_sem]; rw [h0]; rfl), h2⟩
  clear h h1 h2 hd e2 e4 e8 e9 e w
  rintro e w ⟨i, ⟨hd, e2, e4, e8, e9, e10⟩, hi, e12, e11, h⟩
  have cC := h.cl C4
  have done : ∀ {e' : FA}, UndE e' C4 T (.slice ao L.length co) which (textF (accs L)) → e'.ρ 11 = sv (lineI ld (undoM (accs L).length p i)) → cwE Tryd.prog F9.t14 (fnP Tryd.prog #[.tmp 6] R) e' w := fun he h11 => hQ _ _ ld p i hld (by simpa using hi) he h11 h
  by_cases hiz : (i : Int) < zs.length
  case neg =>
    simp -dsimp -implicitDefEqProofs (disch := omega) only [go_sem, reqD_of, dec_t, dec_f, wrap_i64, wrap_u32, wrap_u64, wrap_u8, hd, e2, e4, e8, e9, e10, e11, e12, cC, hiz]
    exact done ⟨by simp -dsimp -implicitDefEqProofs only [go_sem, hd], by simp -dsimp -implicitDefEqProofs only [go_sem, e2], by simp -dsimp -implicitDefEqProofs only [go_sem, e4], by simp -dsimp -implicitDefEqProofs only [go_sem, e8], by simp -dsimp -implicitDefEqProofs only [go_sem, e9], by simp -dsimp -implicitDefEqProofs only [go_sem, e10]⟩ (by simp -dsimp -implicitDefEqProofs only [go_sem, e11])
  by_cases hil : (i : Int) < L.length
  case neg =>
    simp -dsimp -implicitDefEqProofs (disch := omega) only [go_sem, reqD_of, dec_t, dec_f, wrap_i64, wrap_u32, wrap_u64, wrap_u8, hd, e2, e4, e8, e9, e10, e11, e12, cC, hiz, hil]
    exact done ⟨by simp -dsimp -implicitDefEqProofs only [go_sem, hd], by simp -dsimp -implicitDefEqProofs only [go_sem, e2], by simp -dsimp -implicitDefEqProofs only [go_sem, e4], by simp -dsimp -implicitDefEqProofs only [go_sem, e8], by simp -dsimp -implicitDefEqProofs only [go_sem, e9], by simp -dsimp -implicitDefEqProofs only [go_sem, e10]⟩ (by simp -dsimp -implicitDefEqProofs only [go_sem, e11])
  have hl0 : 0 < L.length := by omega
  have hz0 : 0 < zs.length := by omega
  have hpk := hp hz0 hl0
  obtain ⟨bm, om, rfl⟩ := hmc 0 hz0
  obtain ⟨b, o, rfl⟩ := hao 0 hl0
  have hz1 : (0 : Int) < zs.length := by omega
  obtain ⟨k, hk⟩ : ∃ k, k = (p + i) % L.length := ⟨_, rfl⟩
  have hkl : k < L.length := by rw [hk]; exact Nat.mod_lt _ hl0
  have hrem : Int.tmod ((p : Int) + i) L.length = (k : Nat) := by
    rw [Int.tmod_eq_emod_of_nonneg (by omega), hk]
    simp
  have hkn : ((k : Nat) : Int) < L.length := by omega
  have hL0 : ¬ ((L.length : Nat) : Int) = 0 := by omega
  have hll := lineI_len M (p := p) (c := i) hld (by simpa using hi)
  have hsn := lineI_snoc ld (accs L).length p i
  rw [List.length_map, ← hk] at hsn
  rw [List.length_map] at e11 hll
  have hzz := hz _ (List.getElem_mem hz0)
  obtain ⟨_, _, q1, hcm⟩ := (h.ent ((Gives.ent (B := A)).trans hm)).atS (a := some ⟨bm, om, none⟩) (n := zs.length) (c := cm) (xs := zs.map fun z => .int .i64 z) (k := 0) (by simpa using hz0)
  simp only [Option.some.injEq, Addr.mk.injEq, and_true] at q1
  obtain ⟨rfl, rfl⟩ := q1
  rw [List.getElem_map, Nat.add_zero] at hcm
  obtain ⟨z0, hz0e⟩ : ∃ z, z = zs[0] := ⟨_, rfl⟩
  rw [← hz0e] at hcm hzz hpk
  have hname : L[k].1.name = nm k := by
    have := (M.each k (by simpa using hkl)).name
    rwa [List.getElem_map] at this
  by_cases hi0 : (0 : Int) < i
  · have hi0' : ¬ i = 0 := by omega
    rw [if_neg hi0'] at hsn
    have a3 := binV_sadd (P := Tryd.prog) (T := 9) (a := lineI ld (undoM L.length p i)) (b := [44]) (by simp; omega)
    simp -dsimp -implicitDefEqProofs (disch := omega) only [go_sem, reqD_of, dec_t, dec_f, wrap_i64, wrap_u32, wrap_u64, wrap_u8, hd, e2, e4, e8, e9, e10, e11, e12, cC, hiz, hil, hi0, a3, hz1, hcm]
    refine (pick_any h hzz (n := (L.length : Nat)) (by omega) (by omega)).mono ?_
    rintro e' w5 ⟨h5, rfl⟩
    rw [hpk]
    obtain ⟨k1, _, _, _⟩ := row_cells (o := o) (b := b) (cv := co) h5 hkl
    rw [hname] at k1
    have a4 := binV_sadd (P := Tryd.prog) (T := 9) (a := (lineI ld (undoM L.length p i) ++ [44])) (b := nm k) (by simp [nm_len]; omega)
    simp -dsimp -implicitDefEqProofs (disch := omega) only [go_sem, reqD_of, dec_t, dec_f, wrap_i64, wrap_u32, wrap_u64, wrap_u8, hd, e2, e4, e8, e9, e10, e11, e12, hrem, hL0, hkn, k1, a4]
    refine ⟨⟨i + 1, ⟨by simp -dsimp -implicitDefEqProofs only [go_sem, hd], by simp -dsimp -implicitDefEqProofs only [go_sem, e2], by simp -dsimp -implicitDefEqProofs only [go_sem, e4], by simp -dsimp -implicitDefEqProofs only [go_sem, e8], by simp -dsimp -implicitDefEqProofs only [go_sem, e9], by simp -dsimp -implicitDefEqProofs only [go_sem, e10]⟩, by omega, by first | omega | rfl | (simp -dsimp -implicitDefEqProofs only [go_sem, e12]; done), ?_, h5⟩, by omega⟩
    rw [List.length_map, hsn]
  · have hi0' : i = 0 := by omega
    rw [if_pos hi0'] at hsn
    simp -dsimp -implicitDefEqProofs (disch := omega) only [go_sem, reqD_of, dec_t, dec_f, wrap_i64, wrap_u32, wrap_u64, wrap_u8, hd, e2, e4, e8, e9, e10, e11, e12, cC, hiz, hil, hi0, hz1, hcm]
    refine (pick_any h hzz (n := (L.length : Nat)) (by omega) (by omega)).mono ?_
    rintro e' w5 ⟨h5, rfl⟩
    rw [hpk]
    obtain ⟨k1, _, _, _⟩ := row_cells (o := o) (b := b) (cv := co) h5 hkl
    rw [hname] at k1
    have a4 := binV_sadd (P := Tryd.prog) (T := 9) (a := (lineI ld (undoM L.length p i))) (b := nm k) (by simp [nm_len]; omega)
    simp -dsimp -implicitDefEqProofs (disch := omega) only [go_sem, reqD_of, dec_t, dec_f, wrap_i64, wrap_u32, wrap_u64, wrap_u8, hd, e2, e4, e8, e9, e10, e11, e12, hrem, hL0, hkn, k1, a4]
    refine ⟨⟨i + 1, ⟨by simp -dsimp -implicitDefEqProofs only [go_sem, hd], by simp -dsimp -implicitDefEqProofs only [go_sem, e2], by simp -dsimp -implicitDefEqProofs only [go_sem, e4], by simp -dsimp -implicitDefEqProofs only [go_sem, e8], by simp -dsimp -implicitDefEqProofs only [go_sem, e9], by simp -dsimp -implicitDefEqProofs only [go_sem, e10]⟩, by omega, by first | omega | rfl | (simp -dsimp -implicitDefEqProofs only [go_sem, e12]; done), ?_, h5⟩, by omega⟩
    rw [List.length_map, hsn]

end
section
attribute [local go_sem] F9.t13_eq F9.t10_eq F9.t11_eq F9.t30_eq F9.t31_eq F9.t36_eq F9.t33_eq F9.t26_eq F9.t21_eq F9.t18_eq F9.t14_eq F9.t6_eq
/-- It is added, and taken away again. -/
theorem undo_14 {w0 w : World} {A B : HP} {T m C4 p c : Nat} {x : UT} {lead which : Int} {vm : Value} {key ld : List UInt8} {vo : Value} {L : List AV} {e : FA} {R : Ending → World → Prop} (ok : x.Ok) (hL : accs x.L = accs L) (M : Made (accs L)) [Gives A Tabs]
    (hld : ld = [] ∨ ∃ k, k < (accs L).length ∧ ld = nm k) (hc : c ≤ (accs L).length) (he : UndE e C4 T vo which (textF (accs L))) (e11 : e.ρ 11 = sv (lineI ld (undoM (accs L).length p c))) (h : St w0 (UndF T m C4 x lead vm key vo L B A) w)
    (hQ : ∀ (e' : FA) (w' : World), UndE e' C4 T vo which (textF (accs L)) → St w0 (UndF T m C4 x lead vm key vo L B A) w' → cwE Tryd.prog F9.t24 (fnP Tryd.prog #[.tmp 6] R) e' w') : cwE Tryd.prog F9.t14 (fnP Tryd.prog #[.tmp 6] R) e w := by
  obtain ⟨hd, e2, e4, e8, e9, e10⟩ := he
  have F := undoM_ok M (p := p) hld hc
  have hll := lineI_len M (p := p) hld hc
  have hfl := F.line M
  have htx := M.text
  have tL : TabL (accs x.L) := by rw [hL]; exact M.tab
  obtain ⟨ms, hms⟩ : ∃ ms, ms = undoM (accs L).length p c := ⟨_, rfl⟩
  rw [← hms] at F hll hfl e11
  have hadd := undo_add F M
  have htake := undo_take F M
  have hnone := undo_none M
  have a1 := binV_sadd (P := Tryd.prog) (T := 9) (a := lineI ld ms) (b := [58]) (by simp; omega)
  rw [lineI_end] at a1
  have a2 := binV_sadd (P := Tryd.prog) (T := 9) (a := textF (accs L)) (b := freshLine ld ms) (by omega)
  have a3 := binV_sadd (P := Tryd.prog) (T := 9) (a := textF (accs L) ++ freshLine ld ms) (b := [10]) (by simp; omega)
  rw [F9.t14_eq]
  simp -dsimp -implicitDefEqProofs (disch := omega) only [go_sem, reqD_of, dec_t, dec_f, wrap_i64, wrap_u32, wrap_u64, wrap_u8, hd, e11, e9, a1]
  refine (edit_any ok tL h (freshLine ld ms) (by omega)).mono ?_
  rintro e' w1 (⟨U, mu, xu, hed, oku, h1, rfl⟩ | ⟨k, _, hed, _, _⟩)
  case inr => rw [hL, hadd] at hed; cases hed
  rw [hL, hadd] at hed
  have hU : accs xu.L = accs L ++ [freshA ld ms] := by simpa using hed.symm
  have tU : TabL (accs xu.L) := by rw [hU]; exact edit_tab M.tab hadd
  have hUt : textF (accs xu.L) = textF (accs L) ++ freshLine ld ms ++ [10] := by rw [hU]; exact undo_text
  simp -dsimp -implicitDefEqProofs (disch := omega) only [go_sem, reqD_of, dec_t, dec_f, wrap_i64, wrap_u32, wrap_u64, wrap_u8, hd]
  refine (textW_any oku tU h1).mono ?_
  rintro e' w2 ⟨h2, rfl⟩
  have d1 : decide (textF (accs xu.L) = textF (accs L) ++ freshLine ld ms ++ [10]) = true := decide_eq_true hUt
  simp -dsimp -implicitDefEqProofs (disch := omega) only [go_sem, reqD_of, dec_t, dec_f, wrap_i64, wrap_u32, wrap_u64, wrap_u8, hd, e10, a2, a3, d1, e9]
  have h2 : St w0 (TabW T m x * (TabW U mu xu * (whoB C4 lead vm key * (rowA vo L * (B * A))))) w2 := h2.ac (by ac_rfl)
  refine (textW_any ok tL h2).mono ?_
  rintro e' w3 ⟨h3, rfl⟩
  have d2 : decide (textF (accs x.L) = textF (accs L)) = true := decide_eq_true (by rw [hL])
  simp -dsimp -implicitDefEqProofs (disch := omega) only [go_sem, reqD_of, dec_t, dec_f, wrap_i64, wrap_u32, wrap_u64, wrap_u8, hd, e10, d2]
  have h3 : St w0 (TabW U mu xu * (TabW T m x * (whoB C4 lead vm key * (rowA vo L * (B * A))))) w3 := h3.ac (by ac_rfl)
  refine (edit_any oku tU h3 (45 :: fresh) (by decide)).mono ?_
  rintro e' w4 (⟨V, mv, xv, hed2, okv, h4, rfl⟩ | ⟨k, _, hed2, _, _⟩)
  case inr => rw [hU, htake] at hed2; cases hed2
  rw [hU, htake] at hed2
  have hV : accs xv.L = accs L := by simpa using hed2.symm
  have tV : TabL (accs xv.L) := by rw [hV]; exact M.tab
  simp -dsimp -implicitDefEqProofs (disch := omega) only [go_sem, reqD_of, dec_t, dec_f, wrap_i64, wrap_u32, wrap_u64, wrap_u8, hd]
  refine (textW_any okv tV h4).mono ?_
  rintro e' w5 ⟨h5, rfl⟩
  have d3 : decide (textF (accs xv.L) = textF (accs L)) = true := decide_eq_true (by rw [hV])
  simp -dsimp -implicitDefEqProofs (disch := omega) only [go_sem, reqD_of, dec_t, dec_f, wrap_i64, wrap_u32, wrap_u64, wrap_u8, hd, e10, d3]
  have h5 : St w0 (TabW U mu xu * (TabW V mv xv * (TabW T m x * (whoB C4 lead vm key * (rowA vo L * (B * A)))))) w5 := h5.ac (by ac_rfl)
  refine (textW_any oku tU h5).mono ?_
  rintro e' w6 ⟨h6, rfl⟩
  simp -dsimp -implicitDefEqProofs (disch := omega) only [go_sem, reqD_of, dec_t, dec_f, wrap_i64, wrap_u32, wrap_u64, wrap_u8, hd, e10, a2, a3, d1, e9]
  have h6 : St w0 (TabW T m x * (TabW U mu xu * (TabW V mv xv * (whoB C4 lead vm key * (rowA vo L * (B * A)))))) w6 := h6.ac (by ac_rfl)
  refine (edit_any ok tL h6 (45 :: fresh) (by decide)).mono ?_
  rintro e' w7 (⟨_, _, _, hed3, _, _, _⟩ | ⟨k, hk0, hed3, h7, rfl⟩)
  · rw [hL, hnone] at hed3; cases hed3
  rw [hL, hnone] at hed3
  have hk : k = 62 := by simpa using hed3.symm
  subst hk
  simp -dsimp -implicitDefEqProofs (disch := omega) only [go_sem, reqD_of, dec_t, dec_f, wrap_i64, wrap_u32, wrap_u64, wrap_u8, hd]
  refine hQ _ _ ⟨by simp -dsimp -implicitDefEqProofs only [go_sem, hd], by simp -dsimp -implicitDefEqProofs only [go_sem, e2], by simp -dsimp -implicitDefEqProofs only [go_sem, e4], by simp -dsimp -implicitDefEqProofs only [go_sem, e8], by simp -dsimp -implicitDefEqProofs only [go_sem, e9], by simp -dsimp -implicitDefEqProofs only [go_sem, e10]⟩ ?_
  exact (h7.ac (by ac_rfl : _ = (TabW U mu xu * TabW V mv xv) * (TabW T m x * (whoB C4 lead vm key * (rowA vo L * (B * A)))))).right
end
end Go.Proofs.YtkijkoakloacoaaDoor

namespace Go.Proofs.YtkijkoakloacoaaDoor
open Go
set_option linter.unusedVariables false
set_option linter.unusedSimpArgs false
set_option maxRecDepth 100000

def otherF (g : List UInt8) (a : Acc) : Bool := !(a.name == g) && mentF g a
theorem namedBy_eq (L : List Acc) (g : List UInt8) : namedBy L g = L.any (otherF g) := rfl
theorem any_take {L : List Acc} {i : Nat} (f : Acc → Bool) (h : i < L.length) : (L.take (i + 1)).any f = ((L.take i).any f || f L[i]) := by
  rw [List.take_succ_eq_append_getElem h, List.any_append]; simp

section
attribute [local go_sem] F9.t13_eq F9.t10_eq F9.t11_eq F9.t30_eq F9.t31_eq F9.t36_eq F9.t26_eq F9.t24_eq F9.t21_eq F9.t18_eq F9.t14_eq F9.t6_eq
theorem undo_26 {w0 w : World} {A B : HP} {T m C4 : Nat} {x : UT} {lead which : Int} {vm : Value} {key was : List UInt8} {vo : Value} {L : List AV} {e : FA} {R : Ending → World → Prop} (ok : x.Ok) (hL : accs x.L = accs L) (M : Made (accs L)) (hB : MsOk B L) (hw : InI which) (hl0 : 0 < L.length)
    (he : UndE e C4 T vo which was) (h : St w0 (UndF T m C4 x lead vm key vo L B A) w)
    (hQ : ∀ (e' : FA) (w' : World) (P j : Nat) (hj : j < (accs L).length) (v : Value), e'.ds = [] → e'.ρ 9 = .pointer (some ⟨T, 0, none⟩) → e'.ρ 19 = .pointer (some ⟨P, 0, none⟩) → e'.ρ 20 = .bool (namedBy (accs L) (accs L)[j].name) → St w0 (bkA P (accs L)[j] v * UndF T m C4 x lead vm key vo L B A) w' → cwE Tryd.prog F9.t33 (fnP Tryd.prog #[.tmp 6] R) e' w') : cwE Tryd.prog F9.t26 (fnP Tryd.prog #[.tmp 6] R) e w := by
  obtain ⟨hd, e2, e4, e8, e9, e10⟩ := he
  have hfew := M.few
  rw [List.length_map] at hfew
  obtain ⟨ao, co, rfl, hao⟩ := row_form (vo := vo) (L := L) h
  obtain ⟨b, o, rfl⟩ := hao 0 hl0
  obtain ⟨j, hj, hpj⟩ := pick_nat (c := which) (n := L.length) hl0
  have hjn : ((j : Nat) : Int) < L.length := by omega
  rw [F9.t26_eq]
  simp -dsimp -implicitDefEqProofs (disch := omega) only [go_sem, reqD_of, dec_t, dec_f, wrap_i64, wrap_u32, wrap_u64, wrap_u8, hd, e2, e8]
  refine (pick_any h hw (n := (L.length : Nat)) (by omega) (by omega)).mono ?_
  rintro e' w1 ⟨h1, rfl⟩
  rw [hpj]
  obtain ⟨_, _, _, hv', _, hrow⟩ := St.rowsAt accC_len (by decide) (h1.gives (B := Reads 4 (.slice (some ⟨b, o, none⟩) L.length co) L.length (L.flatMap accC)))
  simp only [Value.slice.injEq, true_and] at hv'
  obtain ⟨q1, rfl⟩ := hv'
  obtain ⟨b', o', q2, hr, _⟩ := hrow j hj
  rw [← q1] at q2
  simp only [Option.some.injEq, Addr.mk.injEq, and_true] at q2
  obtain ⟨rfl, rfl⟩ := q2
  have hms := hB _ (List.getElem_mem hj)
  have hgj : (accs L)[j]'(by simpa using hj) = L[j].1 := by simp
  have hQ' := hQ
  specialize hQ' (j := j) (hj := by simpa using hj)
  rw [hgj] at hQ'
  obtain ⟨y, hy⟩ : ∃ y, y = L[j] := ⟨_, rfl⟩
  rw [← hy] at hr hms hQ'
  obtain ⟨a, va⟩ := y
  obtain ⟨hm1, hm2, hm3⟩ := hms
  simp only at hm1 hm2 hm3 hr hQ'
  obtain ⟨am, cm, rfl⟩ := ms_slice h1 ((Gives.ent (B := B)).trans hm1)
  simp -dsimp -implicitDefEqProofs (disch := omega) only [go_sem, reqD_of, dec_t, dec_f, wrap_i64, wrap_u32, wrap_u64, wrap_u8, hd, hjn, hr]
  refine h1.new fun P w2 h2 => ?_
  simp -dsimp -implicitDefEqProofs (disch := omega) only [go_sem, reqD_of, dec_t, dec_f, wrap_i64, wrap_u32, wrap_u64, wrap_u8, hd]
  refine h2.stoAll (b := P) (n := 4) (cs := accL a (.slice am a.members.length cm)) rfl rfl (fun v hv => by simp at hv; rcases hv with rfl | rfl | rfl | rfl <;> rfl) fun w3 h3 => ?_
  have h3 : St w0 (bkA P a (.slice am a.members.length cm) * UndF T m C4 x lead vm key (.slice (some ⟨b, o, none⟩) L.length co) L B A) w3 := h3
  simp -dsimp -implicitDefEqProofs (disch := omega) only [go_sem, reqD_of, dec_t, dec_f, wrap_i64, wrap_u32, wrap_u64, wrap_u8, hd]
  refine loop_intro (fun e w' => ∃ i : Nat, e.ds = [] ∧ e.ρ 8 = .slice (some ⟨b, o, none⟩) L.length co ∧ e.ρ 9 = .pointer (some ⟨T, 0, none⟩) ∧ e.ρ 19 = .pointer (some ⟨P, 0, none⟩) ∧ e.ρ 20 = .bool (((accs L).take i).any (otherF a.name)) ∧ i ≤ L.length ∧ e.ρ 21 = .int .i64 i ∧ St w0 (bkA P a (.slice am a.members.length cm) * UndF T m C4 x lead vm key (.slice (some ⟨b, o, none⟩) L.length co) L B A) w')
    (fun e _ => match e.ρ 21 with | .int _ n => (L.length - n).toNat | _ => 0) ?_ ?_
  · exact ⟨0, by simp -dsimp -implicitDefEqProofs only [go_sem, hd], by simp -dsimp -implicitDefEqProofs only [go_sem, e8], by simp -dsimp -implicitDefEqProofs only [go_sem, e9], by simp -dsimp -implicitDefEqProofs only [go_sem], by (simp -dsimp -implicitDefEqProofs only [go_sem]; rfl), by omega, by simp -dsimp -implicitDefEqProofs only [go_sem], h3⟩
  clear h h1 h2 h3 hr hd e2 e4 e8 e9 e10 e w
  rintro e w ⟨i, hd, e8, e9, e19, e20, hi, e21, h⟩
  by_cases hlt : (i : Int) < L.length
  case neg =>
    have hil : i = L.length := by omega
    rw [List.take_of_length_le (by simp; omega), ← namedBy_eq] at e20
    simp -dsimp -implicitDefEqProofs (disch := omega) only [go_sem, reqD_of, dec_t, dec_f, wrap_i64, wrap_u32, wrap_u64, wrap_u8, hd, e8, e21, hlt]
    exact hQ' _ _ P _ (by simp -dsimp -implicitDefEqProofs only [go_sem, hd]) (by simp -dsimp -implicitDefEqProofs only [go_sem, e9]) (by simp -dsimp -implicitDefEqProofs only [go_sem, e19]) (by simp -dsimp -implicitDefEqProofs only [go_sem, e20]) h
  have hi' : i < L.length := by omega
  have cells : ∀ {w : World} {C : HP}, St w0 C w → Gives C (rowA (.slice (some ⟨b, o, none⟩) L.length co) L) → _ := fun h g => row_cells (g := g) (o := o) (b := b) (cv := co) h hi'
  have hmi := hB _ (List.getElem_mem hi')
  have hgi : (accs L)[i]'(by simpa using hi') = L[i].1 := by simp
  have hat := any_take (otherF a.name) (show i < (accs L).length by simpa using hi')
  rw [hgi] at hat
  obtain ⟨z, hz⟩ : ∃ z, z = L[i] := ⟨_, rfl⟩
  simp only [← hz] at cells hmi hat
  obtain ⟨y, vy⟩ := z
  obtain ⟨hy1, hy2, hy3⟩ := hmi
  simp only at cells hy1 hy2 hy3 hat
  have gB : Gives (bkA P a (.slice am a.members.length cm) * UndF T m C4 x lead vm key (.slice (some ⟨b, o, none⟩) L.length co) L B A) B := inferInstance
  obtain ⟨ay, cy, rfl⟩ := ms_slice h (gB.ent.trans hy1)
  obtain ⟨c1, c2, c3, _⟩ := cells h inferInstance
  obtain ⟨d1, d2, d3, _⟩ := cells h.drew inferInstance
  simp -dsimp -implicitDefEqProofs (disch := omega) only [go_sem, reqD_of, dec_t, dec_f, wrap_i64, wrap_u32, wrap_u64, wrap_u8, hd, e8, e9, e19, e20, e21, hlt, c3, d3, h.cl P, h.drew.cl P]
  have hyl := hy2.2
  refine (among_any h.drew (gB.ent.trans hy1) (by omega) a.name).mono ?_
  rintro e' w4 ⟨h4, rfl⟩
  obtain ⟨k1, k2, _, _⟩ := cells h4 inferInstance
  obtain ⟨l1, l2, _, _⟩ := cells h4.drew inferInstance
  obtain ⟨nb, hnb⟩ : ∃ nb, nb = ((accs L).take i).any (otherF a.name) := ⟨_, rfl⟩
  rw [← hnb] at e20 hat
  cases nb
  case true =>
    rw [Bool.true_or] at hat
    simp -dsimp -implicitDefEqProofs (disch := omega) only [go_sem, reqD_of, dec_t, dec_f, wrap_i64, wrap_u32, wrap_u64, wrap_u8, hd, e8, e9, e19, e20, e21]
    exact ⟨⟨i + 1, by rw [hat], by omega, by omega, by first | exact h4 | exact h4.drew⟩, by omega⟩
  rw [Bool.false_or] at hat
  by_cases hn : y.name = a.name
  · have hd1 : decide (y.name = a.name) = true := decide_eq_true hn
    simp -dsimp -implicitDefEqProofs (disch := omega) only [go_sem, reqD_of, dec_t, dec_f, wrap_i64, wrap_u32, wrap_u64, wrap_u8, hd, e8, e9, e19, e20, e21, hlt, k1, l1, h4.cl P, h4.drew.cl P, hd1]
    exact ⟨⟨i + 1, by rw [hat]; simp [otherF, hn], by omega, by omega, by first | exact h4 | exact h4.drew⟩, by omega⟩
  have hd1 : decide (y.name = a.name) = false := decide_eq_false hn
  by_cases hin : a.name ∈ y.members
  · have hd2 : decide (a.name ∈ y.members) = true := decide_eq_true hin
    simp -dsimp -implicitDefEqProofs (disch := omega) only [go_sem, reqD_of, dec_t, dec_f, wrap_i64, wrap_u32, wrap_u64, wrap_u8, hd, e8, e9, e19, e20, e21, hlt, k1, l1, h4.cl P, h4.drew.cl P, hd1, hd2]
    exact ⟨⟨i + 1, by rw [hat]; simp [otherF, mentF, hn, hin], by omega, by omega, by first | exact h4 | exact h4.drew⟩, by omega⟩
  have hd2 : decide (a.name ∈ y.members) = false := decide_eq_false hin
  by_cases hld : y.leader = a.name
  · have hd3 : decide (y.leader = a.name) = true := decide_eq_true hld
    simp -dsimp -implicitDefEqProofs (disch := omega) only [go_sem, reqD_of, dec_t, dec_f, wrap_i64, wrap_u32, wrap_u64, wrap_u8, hd, e8, e9, e19, e20, e21, hlt, k1, l1, k2, l2, h4.cl P, h4.drew.cl P, hd1, hd2, hd3]
    exact ⟨⟨i + 1, by rw [hat]; simp [otherF, mentF, hn, hld], by omega, by omega, by first | exact h4 | exact h4.drew⟩, by omega⟩
  have hd3 : decide (y.leader = a.name) = false := decide_eq_false hld
  simp -dsimp -implicitDefEqProofs (disch := omega) only [go_sem, reqD_of, dec_t, dec_f, wrap_i64, wrap_u32, wrap_u64, wrap_u8, hd, e8, e9, e19, e20, e21, hlt, k1, l1, k2, l2, h4.cl P, h4.drew.cl P, hd1, hd2, hd3]
  exact ⟨⟨i + 1, by rw [hat]; simp [otherF, mentF, hn, hin, hld], by omega, by omega, by first | exact h4 | exact h4.drew⟩, by omega⟩

end
section
attribute [local go_sem] F9.t13_eq F9.t10_eq F9.t11_eq F9.t30_eq F9.t31_eq F9.t36_eq F9.t33_eq F9.t26_eq F9.t24_eq F9.t21_eq F9.t18_eq F9.t14_eq F9.t6_eq
/-- An account is taken away. -/
theorem undo_33 {w0 w : World} {A B : HP} {T m C4 P j : Nat} {x : UT} {lead : Int} {vm v : Value} {key : List UInt8} {vo : Value} {L : List AV} {e : FA} (ok : x.Ok) (hL : accs x.L = accs L) (M : Made (accs L)) [Gives A Tabs] (hj : j < (accs L).length)
    (hd : e.ds = []) (e9 : e.ρ 9 = .pointer (some ⟨T, 0, none⟩)) (e19 : e.ρ 19 = .pointer (some ⟨P, 0, none⟩)) (e20 : e.ρ 20 = .bool (namedBy (accs L) (accs L)[j].name))
    (h : St w0 (bkA P (accs L)[j] v * UndF T m C4 x lead vm key vo L B A) w) :
    cwE Tryd.prog F9.t33 (fnP Tryd.prog #[.tmp 6] fun e w' => St w0 A w' ∧ e = .returned (.bool true)) e w := by
  have tL : TabL (accs x.L) := by rw [hL]; exact M.tab
  have hdel := undo_del M hj
  have hnm := (M.each j hj).name
  have hkn : known (accs L) (accs L)[j].name = true := by rw [hnm]; exact M.knows hj
  obtain ⟨a, ha⟩ : ∃ a, a = (accs L)[j] := ⟨_, rfl⟩
  rw [← ha] at h e20 hdel hnm hkn
  have hal : a.name.length = 3 := by rw [hnm, nm_len]
  have a1 := binV_sadd (P := Tryd.prog) (T := 9) (a := [45]) (b := a.name) (by simp; omega)
  have h : St w0 (bkA P a v * (TabW T m x * (whoB C4 lead vm key * (rowA vo L * (B * A))))) w := h
  have h1 : St w0 (TabW T m x * (bkA P a v * (whoB C4 lead vm key * (rowA vo L * (B * A))))) w := h.ac (by ac_rfl)
  rw [F9.t33_eq]
  simp -dsimp -implicitDefEqProofs (disch := omega) only [go_sem, reqD_of, dec_t, dec_f, wrap_i64, wrap_u32, wrap_u64, wrap_u8, hd, e9, e19, h1.cl P, a1]
  refine (edit_any ok tL h1 ([45] ++ a.name) (by simp; omega)).mono ?_
  rw [hL, show [45] ++ a.name = 45 :: a.name from rfl, hdel]
  cases hnb : namedBy (accs L) a.name
  · rw [hnb] at e20
    rintro e' w1 (⟨U, mu, xu, hed, oku, h2, rfl⟩ | ⟨k, _, hed, _, _⟩)
    case inr => cases hed
    have hU : accs xu.L = leftF (accs L) a.name := by simpa using hed.symm
    simp -dsimp -implicitDefEqProofs (disch := omega) only [go_sem, reqD_of, dec_t, dec_f, wrap_i64, wrap_u32, wrap_u64, wrap_u8, hd, e9, e19, e20, h2.cl P]
    refine (known_any h2 a.name).mono ?_
    rintro e' w2 ⟨h3, rfl⟩
    rw [hU, left_known]
    have h4 : St w0 (TabW T m x * (TabW U mu xu * (bkA P a v * (whoB C4 lead vm key * (rowA vo L * (B * A)))))) w2 := h3.ac (by ac_rfl)
    simp -dsimp -implicitDefEqProofs (disch := omega) only [go_sem, reqD_of, dec_t, dec_f, wrap_i64, wrap_u32, wrap_u64, wrap_u8, hd, e9, e19, h4.cl P]
    refine (known_any h4 a.name).mono ?_
    rintro e' w3 ⟨h5, rfl⟩
    rw [hL, hkn]
    simp -dsimp -implicitDefEqProofs (disch := omega) only [go_sem, reqD_of, dec_t, dec_f, wrap_i64, wrap_u32, wrap_u64, wrap_u8, hd]
    exact h5.right.right.right.right.right.right
  · rw [hnb] at e20
    rintro e' w1 (⟨U, mu, xu, hed, oku, h2, rfl⟩ | ⟨k, _, hed, h2, rfl⟩)
    · cases hed
    have hk : k = 62 := by simpa using hed.symm
    subst hk
    simp -dsimp -implicitDefEqProofs (disch := omega) only [go_sem, reqD_of, dec_t, dec_f, wrap_i64, wrap_u32, wrap_u64, wrap_u8, hd, e9, e19, e20]
    exact h2.right.right.right.right.right

end
section
attribute [local go_sem] F9.t13_eq F9.t10_eq F9.t11_eq F9.t30_eq F9.t31_eq F9.t36_eq F9.t33_eq F9.t24_eq F9.t21_eq F9.t18_eq F9.t14_eq
theorem usersUndo_law {w0 w : World} {A : HP} (h : St w0 A w) [Gives A Tabs] {ar : Option Addr} {cr : Nat} {ws : List WhoD} (hw : WhosP A (.slice ar ws.length cr) ws) {lead which : Int} {vm : Value} {key : List UInt8} {zs : List Int} (hlead : InI lead) (hwhich : InI which)
    (hm : Ent A (Reads 1 vm zs.length (zs.map fun z => .int .i64 z))) (hz : ∀ z ∈ zs, InI z) (hcell : isCell vm = true) :
    Calls Tryd.prog 9 #[.slice ar ws.length cr, .agg #[.int .i64 lead, vm, sv key], .int .i64 which] w fun e w' => St w0 A w' ∧ e = .returned (.bool true) := by
  obtain ⟨am, cm, rfl⟩ : ∃ a c, vm = .slice a zs.length c := by
    obtain ⟨a, c, hv, _⟩ := (h.ent hm).rd.form
    exact ⟨a, c, hv⟩
  refine F9.calls (by simp) ?_
  unfold F9.code
  simp -dsimp -implicitDefEqProofs (disch := omega) only [go_sem, reqD_of, dec_t, dec_f, wrap_i64, wrap_u32, wrap_u64, wrap_u8]
  refine h.new fun C4 w1 h1 => ?_
  simp -dsimp -implicitDefEqProofs (disch := omega) only [go_sem, reqD_of, dec_t, dec_f, wrap_i64, wrap_u32, wrap_u64, wrap_u8]
  refine (example_any h1).mono ?_
  rintro e w2 ⟨h2, rfl⟩
  simp -dsimp -implicitDefEqProofs (disch := omega) only [go_sem, reqD_of, dec_t, dec_f, wrap_i64, wrap_u32, wrap_u64, wrap_u8]
  have hw2 : WhosP (whoB C4 lead (.slice am zs.length cm) key * A) (.slice ar ws.length cr) ws := ⟨(Ent.right _ _).trans hw.rd, fun y hy => by
    have o := hw.el y hy
    exact ⟨o.lead, (Ent.right _ _).trans o.rd, o.each, o.few, o.key, o.cell⟩, hw.few⟩
  refine (made_any h2 hw2).mono ?_
  rintro e w3 ⟨L, vo, B, M, hB, hlen, h3, rfl⟩
  have hfew := M.few
  simp only [List.length_map] at hfew
  simp -dsimp -implicitDefEqProofs (disch := omega) only [go_sem, reqD_of, dec_t, dec_f, wrap_i64, wrap_u32, wrap_u64, wrap_u8]
  refine (table_any h3 (v := vo) (L := L) ((Ent.left _ _).trans (RowO.reads _ _ _ _ _)) (hB.weak (Gives.ent (B := B))) (by omega) (by have := M.text; omega) M.print).mono ?_
  rintro e w4 ⟨T, m, x, hL, ok, h4, rfl⟩
  have h4 : St w0 (TabW T m x * (rowA vo L * (B * (whoB C4 lead (.slice am zs.length cm) key * A)))) w4 := h4
  have h4 : St w0 (UndF T m C4 x lead (.slice am zs.length cm) key vo L B A) w4 := h4.ac (by show _ = TabW T m x * (whoB C4 lead (.slice am zs.length cm) key * (rowA vo L * (B * A))); ac_rfl)
  simp -dsimp -implicitDefEqProofs (disch := omega) only [go_sem, reqD_of, dec_t, dec_f, wrap_i64, wrap_u32, wrap_u64, wrap_u8]
  refine undo_6 (zs := zs) (which := which) ok hL M hlead hm hz (by simp -dsimp -implicitDefEqProofs only [go_sem]) (by simp -dsimp -implicitDefEqProofs only [go_sem]) (by simp -dsimp -implicitDefEqProofs only [go_sem]) (by simp -dsimp -implicitDefEqProofs only [go_sem]) (by simp -dsimp -implicitDefEqProofs only [go_sem]) h4 ?_
  intro e' w' ld p c hld hc he e11 h5
  refine undo_14 ok hL M hld hc he e11 h5 ?_
  intro e2 w2 he2 h6
  obtain ⟨ao, co, rfl, _⟩ := row_form (vo := vo) (L := L) h6
  have he2' := he2
  obtain ⟨hd, f2, f4, f8, f9, f10⟩ := he2
  rw [F9.t24_eq]
  by_cases hl0 : (L.length : Int) = 0
  · simp -dsimp -implicitDefEqProofs (disch := omega) only [go_sem, reqD_of, dec_t, dec_f, wrap_i64, wrap_u32, wrap_u64, wrap_u8, hd, f8, hl0]
    exact h6.right.right.right.right
  simp -dsimp -implicitDefEqProofs (disch := omega) only [go_sem, reqD_of, dec_t, dec_f, wrap_i64, wrap_u32, wrap_u64, wrap_u8, hd, f8, hl0]
  refine undo_26 (was := textF (accs L)) ok hL M hB hwhich (by omega) ⟨by simp -dsimp -implicitDefEqProofs only [go_sem, hd], by simp -dsimp -implicitDefEqProofs only [go_sem, f2], by simp -dsimp -implicitDefEqProofs only [go_sem, f4], by simp -dsimp -implicitDefEqProofs only [go_sem, f8], by simp -dsimp -implicitDefEqProofs only [go_sem, f9], by simp -dsimp -implicitDefEqProofs only [go_sem, f10]⟩ h6 ?_
  intro e3 w5 P j hj v g1 g2 g3 g4 h7
  exact undo_33 ok hL M hj g1 g2 g3 g4 h7
end
end Go.Proofs.YtkijkoakloacoaaDoor
