/- law06: UsersGroups. law06: UsersGroups, whole; its argument. -/
import Derived.Test.YtkijkoakloacoaaDoorUG
import Derived.Test.YtkijkoakloacoaaDoorUE
import Derived.Test.YtkijkoakloacoaaDoorArgs
import Derived.Test.YtkijkoakloacoaaDoorAr
import Derived.Test.YtkijkoakloacoaaDoorDr2
namespace Go.Proofs.YtkijkoakloacoaaDoor
open Go
set_option linter.unusedVariables false
set_option linter.unusedSimpArgs false
set_option maxRecDepth 100000

theorem binV_sgeq {P : Program} {T : TypeId} {a b : List UInt8} : binV P .geq T (.string (strOf a)) (.string (strOf b)) = some (.bool (!(decide (a < b)))) := by
  simp [binV, strV, strOf_toList, bytesLess_eq]
theorem beqT : (true == true) = true := rfl
theorem beqF : (false == false) = true := rfl
/-- How many of the first k a user belongs to. -/
def cntF (L : List Acc) (u : List UInt8) (k : Nat) : Nat := ((L.take k).filter fun a => memberF L u a.name).length
theorem cntF_succ {L : List Acc} {u : List UInt8} {k : Nat} (hk : k < L.length) : cntF L u (k + 1) = cntF L u k + if memberF L u L[k].name then 1 else 0 := by
  unfold cntF
  rw [List.take_succ_eq_append_getElem hk, List.filter_append, List.length_append]
  congr 1
  cases h : memberF L u L[k].name <;> simp [h]
theorem cntF_all {L : List Acc} {u : List UInt8} {k : Nat} (hk : L.length ≤ k) : cntF L u k = (groupsF L u).length := by
  unfold cntF
  rw [List.take_of_length_le hk, groups_length, List.filter_map, List.length_map]
  rfl
theorem cntF_le (L : List Acc) (u : List UInt8) (k : Nat) : cntF L u k ≤ k := by
  unfold cntF
  exact Nat.le_trans (List.length_filter_le _ _) (by simp; omega)
theorem Made.nameAt {L : List Acc} (h : Made L) {i : Nat} (hi : i < L.length) : L[i].name = nm i := (h.each i hi).name
theorem Made.same {L : List Acc} (h : Made L) {i k : Nat} (hi : i < L.length) (hk : k < L.length) : L[i].name = L[k].name ↔ i = k := by
  rw [h.nameAt hi, h.nameAt hk]
  have := h.few
  exact ⟨fun e => nm_inj (by omega) (by omega) e, fun e => by rw [e]⟩
theorem Made.member {L : List Acc} (h : Made L) {i k : Nat} (hi : i < L.length) (hk : k < L.length) : memberF L L[i].name L[k].name = (decide (i = k) || decide (L[i].name ∈ L[k].members)) := by
  rw [memberF_of h.nodup (List.getElem_mem hk)]
  congr 1
  · rw [strEq_beq]; exact decide_eq_decide.2 (h.same hi hk)
  · rw [Bool.eq_iff_iff, List.contains_iff_mem, decide_eq_true_iff]
theorem Made.leads {L : List Acc} (h : Made L) {i k : Nat} (hi : i < L.length) (hk : k < L.length) : leadsF L L[i].name L[k].name = if L[k].leader = [] then memberF L L[i].name L[k].name else decide (L[k].leader = L[i].name) := by
  rw [leadsF_of h.nodup (List.getElem_mem hk) (by rw [known_iff]; exact List.mem_map_of_mem (f := (·.name)) (List.getElem_mem hi))]
  split
  · rfl
  · exact strEq_beq _ _
theorem Made.name_len {L : List Acc} (h : Made L) {i : Nat} (hi : i < L.length) : L[i].name.length = 3 := by rw [h.nameAt hi, nm_len]
theorem Made.far {L : List Acc} (h : Made L) {n u : List UInt8} (hn : n.length ≠ 3) : memberF L u n = false ∧ leadsF L n u = false := by
  refine ⟨?_, ?_⟩
  · cases hm : memberF L u n
    · rfl
    · obtain ⟨a, ha, e, _⟩ := memberF_iff.1 hm
      obtain ⟨i, hi, rfl⟩ := List.getElem_of_mem ha
      rw [← e, h.name_len hi] at hn
      exact absurd rfl hn
  · unfold leadsF
    cases findF L u with
    | none => rfl
    | some a => simp [h.unknown hn]

/-- The frame: a table; the accounts. -/
abbrev GrF (T m : Nat) (x : UT) (vo : Value) (L : List AV) (B A : HP) : HP := TabW T m x * (rowA vo L * (B * A))
structure GrE (e : FA) (vo : Value) (T i : Nat) : Prop where
  ds : e.ds = []
  l : e.ρ 4 = vo
  t : e.ρ 5 = .pointer (some ⟨T, 0, none⟩)
  i : e.ρ 6 = .int .i64 i

/-- Row k of a list of accounts, field by field. -/
theorem row_cells {w0 w : World} {C : HP} (h : St w0 C w) {b o cv : Nat} {L : List AV} [g : Gives C (rowA (.slice (some ⟨b, o, none⟩) L.length cv) L)] {k : Nat} (hk : k < L.length) :
    w.cell? ⟨b, o + k * 4, none⟩ = some (sv L[k].1.name) ∧ w.cell? ⟨b, o + k * 4 + 1, none⟩ = some (sv L[k].1.leader) ∧ w.cell? ⟨b, o + k * 4 + 2, none⟩ = some L[k].2 ∧ w.cell? ⟨b, o + k * 4 + 3, none⟩ = some (sv L[k].1.key) := by
  obtain ⟨_, _, _, hv', _, hrow⟩ := St.rowsAt accC_len (by decide) (h.ent (g.ent.trans (RowO.reads _ _ _ _ _)))
  simp only [Value.slice.injEq, true_and] at hv'
  obtain ⟨e1, rfl⟩ := hv'
  obtain ⟨b', o', e2, _, hc⟩ := hrow k hk
  rw [← e1] at e2
  simp only [Option.some.injEq, Addr.mk.injEq, and_true] at e2
  obtain ⟨rfl, rfl⟩ := e2
  exact ⟨hc 0 (by decide), hc 1 (by decide), hc 2 (by decide), hc 3 (by decide)⟩
theorem row_form {w0 w : World} {C : HP} (h : St w0 C w) {vo : Value} {L : List AV} [g : Gives C (rowA vo L)] : ∃ a c, vo = .slice a L.length c ∧ ∀ k, k < L.length → ∃ b o, a = some ⟨b, o, none⟩ := by
  obtain ⟨_, a, c, e, _, hrow⟩ := St.rowsAt accC_len (by decide) (h.ent (g.ent.trans (RowO.reads _ _ _ _ _)))
  refine ⟨a, c, e, fun k hk => ?_⟩
  obtain ⟨b, o, e2, _⟩ := hrow k hk
  exact ⟨b, o, e2⟩

section
attribute [local go_sem] F6.t23_eq F6.t20_eq F6.t14_eq F6.t15_eq F6.t29_eq F6.t30_eq F6.t27_eq F6.t25_eq F6.t8_eq F6.t9_eq F6.t32_eq F6.t6_eq
theorem groupsLaw_end {w0 w : World} {A : HP} {gs : List (List UInt8)} {vg vo : Value} {T i : Nat} {e : FA} {Q : Post} (he : GrE e vo T i) (e8 : e.ρ 8 = vg) (hr : gs.Pairwise fun x y => x < y) (hn : gs.length ≤ 16777216)
    (h : St w0 (rowT vg gs * A) w) (hQ : ∀ (e' : FA) (w' : World), GrE e' vo T i → St w0 A w' → Q .normal e' w') : cwE Tryd.prog F6.t27 Q e w := by
  rw [F6.t27_eq]
  obtain ⟨hd, e4, e5, e6⟩ := he
  obtain ⟨ag, cg, rfl, _⟩ := h.rowForm vg
  simp -dsimp -implicitDefEqProofs (disch := omega) only [go_sem, reqD_of, dec_t, dec_f, wrap_i64, wrap_u32, wrap_u64, wrap_u8]
  refine loop_intro (fun e' w' => GrE e' vo T i ∧ e'.ρ 8 = .slice ag gs.length cg ∧ ∃ k : Nat, 1 ≤ k ∧ k ≤ gs.length + 1 ∧ e'.ρ 15 = .int .i64 k ∧ St w0 (rowT (.slice ag gs.length cg) gs * A) w')
    (fun e _ => match e.ρ 15 with | .int _ n => (gs.length - n).toNat | _ => 0) ?_ ?_
  · exact ⟨⟨by simp -dsimp -implicitDefEqProofs only [go_sem, hd], by simp -dsimp -implicitDefEqProofs only [go_sem, e4], by simp -dsimp -implicitDefEqProofs only [go_sem, e5], by simp -dsimp -implicitDefEqProofs only [go_sem, e6]⟩, by simp -dsimp -implicitDefEqProofs only [go_sem, e8], 1, by omega, by omega, by simp -dsimp -implicitDefEqProofs only [go_sem], h⟩
  clear h w hd e4 e5 e6 e8 e
  rintro e w ⟨⟨hd, e4, e5, e6⟩, e8, k, hk1, hk, e15, h⟩
  by_cases hlt : (k : Int) < gs.length
  case neg =>
    simp -dsimp -implicitDefEqProofs (disch := omega) only [go_sem, reqD_of, dec_t, dec_f, wrap_i64, wrap_u32, wrap_u64, wrap_u8, hd, e15, e8, hlt]
    exact hQ _ _ ⟨by simp -dsimp -implicitDefEqProofs only [go_sem, hd], by simp -dsimp -implicitDefEqProofs only [go_sem, e4], by simp -dsimp -implicitDefEqProofs only [go_sem, e5], by simp -dsimp -implicitDefEqProofs only [go_sem, e6]⟩ h.right
  have hlt' : k < gs.length := by omega
  obtain ⟨b, o, rfl, hc1⟩ := h.atS (a := ag) (n := gs.length) (c := cg) (xs := gs.map sv) (k := k) (by simpa using hlt')
  have hc2 := h.atG (g := b) (o := o) (n := gs.length) (c := cg) (xs := gs.map sv) (k := k - 1) (by simp; omega)
  have hc3 := h.drew.atG (g := b) (o := o) (n := gs.length) (c := cg) (xs := gs.map sv) (k := k) (by simp; omega)
  have hc4 := h.drew.atG (g := b) (o := o) (n := gs.length) (c := cg) (xs := gs.map sv) (k := k - 1) (by simp; omega)
  rw [List.getElem_map] at hc1 hc2 hc3 hc4
  have hp := List.pairwise_iff_getElem.1 hr (k - 1) k (by omega) (by omega) (by omega)
  have hto : ((k : Int) - 1).toNat = k - 1 := by omega
  obtain ⟨p, hpe⟩ : ∃ p, p = gs[k - 1] := ⟨_, rfl⟩
  obtain ⟨q, hqe⟩ : ∃ q, q = gs[k] := ⟨_, rfl⟩
  rw [← hqe] at hc1 hc3
  rw [← hpe] at hc2 hc4
  rw [← hpe, ← hqe] at hp
  have hcmp := binV_sgeq (P := Tryd.prog) (T := 9) (a := p) (b := q)
  rw [decide_eq_true hp] at hcmp
  simp -dsimp -implicitDefEqProofs (disch := omega) only [go_sem, reqD_of, dec_t, dec_f, wrap_i64, wrap_u32, wrap_u64, wrap_u8, hd, e15, e8, hlt]
  rw [hto]
  simp -dsimp -implicitDefEqProofs (disch := omega) only [go_sem, reqD_of, dec_t, dec_f, wrap_i64, wrap_u32, wrap_u64, wrap_u8, hc3, hc4, hcmp, e15, hd]
  exact ⟨⟨⟨by simp -dsimp -implicitDefEqProofs only [go_sem, hd], by simp -dsimp -implicitDefEqProofs only [go_sem, e4], by simp -dsimp -implicitDefEqProofs only [go_sem, e5], by simp -dsimp -implicitDefEqProofs only [go_sem, e6]⟩, by simp -dsimp -implicitDefEqProofs only [go_sem, e8], k + 1, by omega, by omega, by omega, h.drew⟩, by omega⟩

end
section
attribute [local go_sem] F6.t23_eq F6.t20_eq F6.t14_eq F6.t15_eq F6.t29_eq F6.t30_eq F6.t25_eq F6.t8_eq F6.t9_eq F6.t32_eq F6.t6_eq
theorem groupsLaw_25 {w0 w : World} {A B : HP} {m : Nat} {x : UT} {L : List AV} {gs : List (List UInt8)} {vg vo : Value} {T i : Nat} {e : FA} {Q : Post} (hL : accs x.L = accs L) (ok : x.Ok) (M : Made (accs L)) (hi : i < L.length) (he : GrE e vo T i)
    (e7 : e.ρ 7 = sv L[i].1.name) (e8 : e.ρ 8 = vg) (e9 : e.ρ 9 = .int .i64 gs.length) (hgs : gs = groupsF (accs L) L[i].1.name)
    (h : St w0 (rowT vg gs * GrF T m x vo L B A) w) (hQ : ∀ (e' : FA) (w' : World), GrE e' vo T i → St w0 (GrF T m x vo L B A) w' → Q .normal e' w') : cwE Tryd.prog F6.t25 Q e w := by
  have he' := he
  obtain ⟨hd, e4, e5, e6⟩ := he
  obtain ⟨ag, cg, rfl, _⟩ := h.rowForm vg
  obtain ⟨ao, co, rfl, hao⟩ := row_form (vo := vo) (L := L) h
  obtain ⟨b, o, rfl⟩ := hao i hi
  have hil : (i : Int) < L.length := by omega
  have hla : i < (accs L).length := by simpa using hi
  have hge : (accs L)[i] = L[i].1 := by simp
  have hlen := M.name_len hla
  rw [hge] at hlen
  have hrise := groups_rise M.nodup L[i].1.name
  rw [← hgs] at hrise
  have hgn : gs.length ≤ 16777216 := by
    have h1 := cntF_all (L := accs L) (u := L[i].1.name) (k := L.length) (by simp)
    have h2 := cntF_le (accs L) L[i].1.name L.length
    have h3 := M.few
    rw [hgs]
    simp at h3
    omega
  have hkey : keyOf (accs L) L[i].1.name = L[i].1.key := by
    have := keyOf_of M.nodup (List.getElem_mem hla)
    rwa [hge] at this
  have hkn : known (accs L) L[i].1.name = true := by
    rw [known_iff, ← hge]
    exact List.mem_map_of_mem (f := (·.name)) (List.getElem_mem hla)
  obtain ⟨u, hu⟩ : ∃ u, u = L[i].1.name := ⟨_, rfl⟩
  rw [← hu] at e7 hlen hkey hkn
  have hux : (u ++ [120]).length ≠ 3 := by simp [hlen]
  have hkx := M.unknown hux
  have hfar := M.far (u := u) hux
  have hadd := binV_sadd (P := Tryd.prog) (T := 9) (a := u) (b := [120]) (by simp [hlen])
  have cells : ∀ {C : HP} {w' : World}, St w0 C w' → Gives C (rowA (.slice (some ⟨b, o, none⟩) L.length co) L) → w'.cell? ⟨b, o + i * 4 + 3, none⟩ = some (sv L[i].1.key) := fun {C w'} hs g => (row_cells (g := g) hs hi).2.2.2
  obtain ⟨key, hke⟩ : ∃ k, k = L[i].1.key := ⟨_, rfl⟩
  rw [← hke] at hkey
  simp only [← hke] at cells
  rw [F6.t25_eq]
  simp -dsimp -implicitDefEqProofs (disch := omega) only [go_sem, reqD_of, dec_t, dec_f, wrap_i64, wrap_u32, wrap_u64, wrap_u8, hd, e4, e5, e6, e7, e8, e9, hil, cells h inferInstance, cells h.drew inferInstance]
  have h1 : St w0 (TabW T m x * (rowT (.slice ag gs.length cg) gs * (rowA (.slice (some ⟨b, o, none⟩) L.length co) L * (B * A)))) w.drew := h.drew.ac (by unfold GrF; ac_rfl)
  refine (keyT_any h1 u).mono ?_
  rintro e' w2 ⟨h2, rfl⟩
  rw [hL, hkey]
  simp -dsimp -implicitDefEqProofs (disch := omega) only [go_sem, reqD_of, dec_t, dec_f, wrap_i64, wrap_u32, wrap_u64, wrap_u8, hd, e4, e5, e6, e7, cells h2 inferInstance]
  have hkk : decide (key = key) = true := decide_eq_true rfl
  refine (known_any h2 u).mono ?_
  rintro e' w3 ⟨h3, rfl⟩
  rw [hL, hkn]
  simp -dsimp -implicitDefEqProofs (disch := omega) only [go_sem, reqD_of, dec_t, dec_f, wrap_i64, wrap_u32, wrap_u64, wrap_u8, hd, e4, e5, e6, e7, cells h3 inferInstance, hadd]
  refine (known_any h3 (u ++ [120])).mono ?_
  rintro e' w4 ⟨h4, rfl⟩
  rw [hL, hkx]
  simp -dsimp -implicitDefEqProofs (disch := omega) only [go_sem, reqD_of, dec_t, dec_f, wrap_i64, wrap_u32, wrap_u64, wrap_u8, hd, e4, e5, e6, e7, cells h4 inferInstance, hadd]
  refine (member_any ok h4 u (u ++ [120])).mono ?_
  rintro e' w5 ⟨h5, rfl⟩
  rw [hL, hfar.1]
  simp -dsimp -implicitDefEqProofs (disch := omega) only [go_sem, reqD_of, dec_t, dec_f, wrap_i64, wrap_u32, wrap_u64, wrap_u8, hd, e4, e5, e6, e7, cells h5 inferInstance, hadd]
  refine (leads_any ok h5 (u ++ [120]) u).mono ?_
  rintro e' w6 ⟨h6, rfl⟩
  rw [hL, hfar.2]
  simp -dsimp -implicitDefEqProofs (disch := omega) only [go_sem, reqD_of, dec_t, dec_f, wrap_i64, wrap_u32, wrap_u64, wrap_u8, hd, e4, e5, e6, e7, cells h6 inferInstance, hadd]
  refine groupsLaw_end (vg := .slice ag gs.length cg) (gs := gs) (A := GrF T m x (.slice (some ⟨b, o, none⟩) L.length co) L B A) ⟨by simp -dsimp -implicitDefEqProofs only [go_sem, hd], by simp -dsimp -implicitDefEqProofs only [go_sem, e4], by simp -dsimp -implicitDefEqProofs only [go_sem, e5], by simp -dsimp -implicitDefEqProofs only [go_sem, e6]⟩ (by simp -dsimp -implicitDefEqProofs only [go_sem, e8]) hrise hgn (h6.ac (by unfold GrF; ac_rfl)) hQ

/-- .. and of the loop within it. -/
structure GrI (e : FA) (vo : Value) (T i : Nat) (u : List UInt8) (vg : Value) : Prop where
  g : GrE e vo T i
  u : e.ρ 7 = sv u
  vg : e.ρ 8 = vg

end
section
attribute [local go_sem] F6.t23_eq F6.t20_eq F6.t14_eq F6.t15_eq F6.t29_eq F6.t30_eq F6.t27_eq F6.t25_eq F6.t8_eq F6.t9_eq F6.t32_eq F6.t6_eq
set_option maxHeartbeats 4000000 in
theorem groupsLaw_15 {w0 w : World} {A B : HP} {m : Nat} {x : UT} {L : List AV} {gs : List (List UInt8)} {vg vo : Value} {T i k : Nat} {e : FA} {Q : Post} (hL : accs x.L = accs L) (ok : x.Ok) (M : Made (accs L)) (hm : MsOk B L) (hi : i < L.length) (hk : k < L.length)
    (he : GrI e vo T i L[i].1.name vg) (e10 : e.ρ 10 = .int .i64 k) (e9 : e.ρ 9 = .int .i64 (cntF (accs L) L[i].1.name k)) (hgs : gs = groupsF (accs L) L[i].1.name)
    (h : St w0 (rowT vg gs * GrF T m x vo L B A) w)
    (hQ : ∀ (e' : FA) (w' : World), GrI e' vo T i L[i].1.name vg → e'.ρ 10 = .int .i64 (k + 1 : Nat) → e'.ρ 9 = .int .i64 (cntF (accs L) L[i].1.name (k + 1)) → St w0 (rowT vg gs * GrF T m x vo L B A) w' → Q .normal e' w') : cwE Tryd.prog F6.t15 Q e w := by
  obtain ⟨⟨hd, e4, e5, e6⟩, e7, e8⟩ := he
  obtain ⟨ag, cg, rfl, _⟩ := h.rowForm vg
  obtain ⟨ao, co, rfl, hao⟩ := row_form (vo := vo) (L := L) h
  obtain ⟨b, o, rfl⟩ := hao i hi
  have hil : (i : Int) < L.length := by omega
  have hkl : (k : Int) < L.length := by omega
  have hla : i < (accs L).length := by simpa using hi
  have hka : k < (accs L).length := by simpa using hk
  have hge : (accs L)[i] = L[i].1 := by simp
  have hgk : (accs L)[k] = L[k].1 := by simp
  have hmem := M.member hla hka
  have hled := M.leads hla hka
  have hcnt := cntF_succ (L := accs L) (u := L[i].1.name) hka
  have hcle := cntF_le (accs L) L[i].1.name k
  have hfew := M.few
  have hgn : gs.length ≤ 4294967296 := by
    have h1 := cntF_all (L := accs L) (u := L[i].1.name) (k := L.length) (by simp)
    have h2 := cntF_le (accs L) L[i].1.name L.length
    rw [hgs]
    simp at hfew
    omega
  have hamo : decide (L[k].1.name ∈ gs) = memberF (accs L) L[i].1.name L[k].1.name := by
    rw [Bool.eq_iff_iff, decide_eq_true_iff, hgs, mem_groups]
    exact ⟨fun h => h.2, fun h => ⟨by rw [← hgk]; exact List.mem_map_of_mem (f := (·.name)) (List.getElem_mem hka), h⟩⟩
  simp only [List.length_map] at hfew
  rw [hge, hgk] at hmem hled
  rw [hgk] at hcnt
  have cells : ∀ {C : HP} {w' : World}, St w0 C w' → Gives C (rowA (.slice (some ⟨b, o, none⟩) L.length co) L) → w'.cell? ⟨b, o + k * 4, none⟩ = some (sv L[k].1.name) ∧ w'.cell? ⟨b, o + k * 4 + 1, none⟩ = some (sv L[k].1.leader) ∧ w'.cell? ⟨b, o + k * 4 + 2, none⟩ = some L[k].2 := fun {C w'} hs g => by
    obtain ⟨q1, q2, q3, _⟩ := row_cells (g := g) hs hk
    exact ⟨q1, q2, q3⟩
  have hms := hm _ (List.getElem_mem hk)
  obtain ⟨u, hu⟩ : ∃ u, u = L[i].1.name := ⟨_, rfl⟩
  obtain ⟨y, hy⟩ : ∃ y, y = L[k] := ⟨_, rfl⟩
  rw [← hu] at e7 hmem hled hcnt hcle hamo e9 hQ hgs
  rw [← hy] at hmem hled hcnt hamo hms
  simp only [← hy] at cells
  obtain ⟨a, va⟩ := y
  obtain ⟨hm1, hm2, hm3⟩ := hms
  simp only at hm1 hm2 hm3 hmem hled hcnt hamo cells
  have hled2 : leadsF (accs L) u a.name = if a.leader = [] then memberF (accs L) u a.name else decide (a.leader = u) := by
    have := M.leads hla hka
    rw [hge, hgk, ← hu, ← hy] at this
    exact this
  obtain ⟨am, cm, rfl⟩ := ms_slice h ((Gives.ent (B := B)).trans hm1)
  rw [F6.t15_eq]
  obtain ⟨c1, c2, c3⟩ := cells h inferInstance
  simp -dsimp -implicitDefEqProofs (disch := omega) only [go_sem, reqD_of, dec_t, dec_f, wrap_i64, wrap_u32, wrap_u64, wrap_u8, hd, e4, e5, e6, e7, e8, e9, e10, hil, hkl, c1, c2, c3]
  refine (among_any h (ls := a.members) ((Gives.ent (B := B)).trans hm1) (by have := hm2.2; omega) u).mono ?_
  rintro e' w1 ⟨h1, rfl⟩
  obtain ⟨c1, c2, c3⟩ := cells h1 inferInstance
  have h2 : St w0 (TabW T m x * (rowT (.slice ag gs.length cg) gs * (rowA (.slice (some ⟨b, o, none⟩) L.length co) L * (B * A)))) w1 := h1.ac (by unfold GrF; ac_rfl)
  have hne : ¬ u = [] := fun e => by have := M.name_len hla; rw [hge, ← hu, e] at this; cases this
  have hc1 : ((i : Int) = k ∧ memberF (accs L) u a.name = true) ∨ (¬ (i : Int) = k ∧ decide (u ∈ a.members) = true ∧ memberF (accs L) u a.name = true) ∨ (¬ (i : Int) = k ∧ decide (u ∈ a.members) = false ∧ memberF (accs L) u a.name = false) := by
    by_cases e : i = k
    · exact .inl ⟨by omega, by rw [hmem, decide_eq_true e, Bool.true_or]⟩
    · have e' : ¬ (i : Int) = k := by omega
      cases hb : decide (u ∈ a.members)
      · exact .inr (.inr ⟨e', rfl, by rw [hmem, hb, decide_eq_false e]; rfl⟩)
      · exact .inr (.inl ⟨e', rfl, by rw [hmem, hb, Bool.or_true]⟩)
  have hc2 : (decide (a.leader = u) = true ∧ leadsF (accs L) u a.name = true) ∨ (decide (a.leader = u) = false ∧ decide (a.leader = []) = true ∧ leadsF (accs L) u a.name = memberF (accs L) u a.name) ∨ (decide (a.leader = u) = false ∧ decide (a.leader = []) = false ∧ leadsF (accs L) u a.name = false) := by
    rw [hled2]
    by_cases e : a.leader = []
    · have e2 : decide (a.leader = u) = false := decide_eq_false fun x => hne (x ▸ e)
      exact .inr (.inl ⟨e2, decide_eq_true e, by rw [if_pos e]⟩)
    · rw [if_neg e]
      cases hb : decide (a.leader = u)
      · exact .inr (.inr ⟨rfl, decide_eq_false e, rfl⟩)
      · exact .inl ⟨rfl, rfl⟩
  clear hmem hled hled2
  rcases hc1 with ⟨hik, hmv⟩ | ⟨hik, hin, hmv⟩ | ⟨hik, hin, hmv⟩
  · rcases hc2 with ⟨l1, hlv⟩ | ⟨l1, l2, hlv⟩ | ⟨l1, l2, hlv⟩
    · skip
      simp -dsimp -implicitDefEqProofs (disch := omega) only [go_sem, reqD_of, dec_t, dec_f, wrap_i64, wrap_u32, wrap_u64, wrap_u8, hd, e4, e5, e6, e7, e8, e9, e10, hil, hkl, c1, c2, c3, beqT, beqF, hik, l1]
      refine (member_any ok h2 u a.name).mono ?_
      rintro e' w3 ⟨h3, rfl⟩
      obtain ⟨c1, c2, c3⟩ := cells h3 inferInstance
      rw [hL, hmv]
      simp -dsimp -implicitDefEqProofs (disch := omega) only [go_sem, reqD_of, dec_t, dec_f, wrap_i64, wrap_u32, wrap_u64, wrap_u8, hd, e4, e5, e6, e7, e8, e9, e10, hil, hkl, c1, c2, c3, beqT, beqF, hik, l1]
      refine (leads_any ok h3 u a.name).mono ?_
      rintro e' w4 ⟨h4, rfl⟩
      obtain ⟨c1, c2, c3⟩ := cells h4 inferInstance
      rw [hL, hlv]
      simp -dsimp -implicitDefEqProofs (disch := omega) only [go_sem, reqD_of, dec_t, dec_f, wrap_i64, wrap_u32, wrap_u64, wrap_u8, hd, e4, e5, e6, e7, e8, e9, e10, hil, hkl, c1, c2, c3, beqT, beqF, hik, l1]
      refine (among_any h4 (ls := gs) ((Gives.ent (B := rowT (.slice ag gs.length cg) gs)).trans (RowO.reads _ _ _ _ _)) hgn a.name).mono ?_
      rintro e' w5 ⟨h5, rfl⟩
      rw [hamo, hmv]
      rw [hmv] at hcnt
      simp -dsimp -implicitDefEqProofs (disch := omega) only [go_sem, reqD_of, dec_t, dec_f, wrap_i64, wrap_u32, wrap_u64, wrap_u8, hd, e4, e5, e6, e7, e8, e9, e10, hil, hkl, c1, c2, c3, beqT, beqF, hik, l1]
      refine hQ _ _ ⟨⟨by simp -dsimp -implicitDefEqProofs only [go_sem, hd], by simp -dsimp -implicitDefEqProofs only [go_sem, e4], by simp -dsimp -implicitDefEqProofs only [go_sem, e5], by simp -dsimp -implicitDefEqProofs only [go_sem, e6]⟩, by simp -dsimp -implicitDefEqProofs only [go_sem, e7], by simp -dsimp -implicitDefEqProofs only [go_sem, e8]⟩ (by simp -dsimp -implicitDefEqProofs only [go_sem, e10]; omega) (by rw [hcnt]; simp -dsimp -implicitDefEqProofs only [go_sem, e9]; omega) (h5.ac (by unfold GrF; ac_rfl))
    · skip
      rw [hmv] at hlv
      simp -dsimp -implicitDefEqProofs (disch := omega) only [go_sem, reqD_of, dec_t, dec_f, wrap_i64, wrap_u32, wrap_u64, wrap_u8, hd, e4, e5, e6, e7, e8, e9, e10, hil, hkl, c1, c2, c3, beqT, beqF, hik, l1, l2]
      refine (member_any ok h2 u a.name).mono ?_
      rintro e' w3 ⟨h3, rfl⟩
      obtain ⟨c1, c2, c3⟩ := cells h3 inferInstance
      rw [hL, hmv]
      simp -dsimp -implicitDefEqProofs (disch := omega) only [go_sem, reqD_of, dec_t, dec_f, wrap_i64, wrap_u32, wrap_u64, wrap_u8, hd, e4, e5, e6, e7, e8, e9, e10, hil, hkl, c1, c2, c3, beqT, beqF, hik, l1, l2]
      refine (leads_any ok h3 u a.name).mono ?_
      rintro e' w4 ⟨h4, rfl⟩
      obtain ⟨c1, c2, c3⟩ := cells h4 inferInstance
      rw [hL, hlv]
      simp -dsimp -implicitDefEqProofs (disch := omega) only [go_sem, reqD_of, dec_t, dec_f, wrap_i64, wrap_u32, wrap_u64, wrap_u8, hd, e4, e5, e6, e7, e8, e9, e10, hil, hkl, c1, c2, c3, beqT, beqF, hik, l1, l2]
      refine (among_any h4 (ls := gs) ((Gives.ent (B := rowT (.slice ag gs.length cg) gs)).trans (RowO.reads _ _ _ _ _)) hgn a.name).mono ?_
      rintro e' w5 ⟨h5, rfl⟩
      rw [hamo, hmv]
      rw [hmv] at hcnt
      simp -dsimp -implicitDefEqProofs (disch := omega) only [go_sem, reqD_of, dec_t, dec_f, wrap_i64, wrap_u32, wrap_u64, wrap_u8, hd, e4, e5, e6, e7, e8, e9, e10, hil, hkl, c1, c2, c3, beqT, beqF, hik, l1, l2]
      refine hQ _ _ ⟨⟨by simp -dsimp -implicitDefEqProofs only [go_sem, hd], by simp -dsimp -implicitDefEqProofs only [go_sem, e4], by simp -dsimp -implicitDefEqProofs only [go_sem, e5], by simp -dsimp -implicitDefEqProofs only [go_sem, e6]⟩, by simp -dsimp -implicitDefEqProofs only [go_sem, e7], by simp -dsimp -implicitDefEqProofs only [go_sem, e8]⟩ (by simp -dsimp -implicitDefEqProofs only [go_sem, e10]; omega) (by rw [hcnt]; simp -dsimp -implicitDefEqProofs only [go_sem, e9]; omega) (h5.ac (by unfold GrF; ac_rfl))
    · skip
      simp -dsimp -implicitDefEqProofs (disch := omega) only [go_sem, reqD_of, dec_t, dec_f, wrap_i64, wrap_u32, wrap_u64, wrap_u8, hd, e4, e5, e6, e7, e8, e9, e10, hil, hkl, c1, c2, c3, beqT, beqF, hik, l1, l2]
      refine (member_any ok h2 u a.name).mono ?_
      rintro e' w3 ⟨h3, rfl⟩
      obtain ⟨c1, c2, c3⟩ := cells h3 inferInstance
      rw [hL, hmv]
      simp -dsimp -implicitDefEqProofs (disch := omega) only [go_sem, reqD_of, dec_t, dec_f, wrap_i64, wrap_u32, wrap_u64, wrap_u8, hd, e4, e5, e6, e7, e8, e9, e10, hil, hkl, c1, c2, c3, beqT, beqF, hik, l1, l2]
      refine (leads_any ok h3 u a.name).mono ?_
      rintro e' w4 ⟨h4, rfl⟩
      obtain ⟨c1, c2, c3⟩ := cells h4 inferInstance
      rw [hL, hlv]
      simp -dsimp -implicitDefEqProofs (disch := omega) only [go_sem, reqD_of, dec_t, dec_f, wrap_i64, wrap_u32, wrap_u64, wrap_u8, hd, e4, e5, e6, e7, e8, e9, e10, hil, hkl, c1, c2, c3, beqT, beqF, hik, l1, l2]
      refine (among_any h4 (ls := gs) ((Gives.ent (B := rowT (.slice ag gs.length cg) gs)).trans (RowO.reads _ _ _ _ _)) hgn a.name).mono ?_
      rintro e' w5 ⟨h5, rfl⟩
      rw [hamo, hmv]
      rw [hmv] at hcnt
      simp -dsimp -implicitDefEqProofs (disch := omega) only [go_sem, reqD_of, dec_t, dec_f, wrap_i64, wrap_u32, wrap_u64, wrap_u8, hd, e4, e5, e6, e7, e8, e9, e10, hil, hkl, c1, c2, c3, beqT, beqF, hik, l1, l2]
      refine hQ _ _ ⟨⟨by simp -dsimp -implicitDefEqProofs only [go_sem, hd], by simp -dsimp -implicitDefEqProofs only [go_sem, e4], by simp -dsimp -implicitDefEqProofs only [go_sem, e5], by simp -dsimp -implicitDefEqProofs only [go_sem, e6]⟩, by simp -dsimp -implicitDefEqProofs only [go_sem, e7], by simp -dsimp -implicitDefEqProofs only [go_sem, e8]⟩ (by simp -dsimp -implicitDefEqProofs only [go_sem, e10]; omega) (by rw [hcnt]; simp -dsimp -implicitDefEqProofs only [go_sem, e9]; omega) (h5.ac (by unfold GrF; ac_rfl))
  · rcases hc2 with ⟨l1, hlv⟩ | ⟨l1, l2, hlv⟩ | ⟨l1, l2, hlv⟩
    · skip
      simp -dsimp -implicitDefEqProofs (disch := omega) only [go_sem, reqD_of, dec_t, dec_f, wrap_i64, wrap_u32, wrap_u64, wrap_u8, hd, e4, e5, e6, e7, e8, e9, e10, hil, hkl, c1, c2, c3, beqT, beqF, hik, hin, l1]
      refine (member_any ok h2 u a.name).mono ?_
      rintro e' w3 ⟨h3, rfl⟩
      obtain ⟨c1, c2, c3⟩ := cells h3 inferInstance
      rw [hL, hmv]
      simp -dsimp -implicitDefEqProofs (disch := omega) only [go_sem, reqD_of, dec_t, dec_f, wrap_i64, wrap_u32, wrap_u64, wrap_u8, hd, e4, e5, e6, e7, e8, e9, e10, hil, hkl, c1, c2, c3, beqT, beqF, hik, hin, l1]
      refine (leads_any ok h3 u a.name).mono ?_
      rintro e' w4 ⟨h4, rfl⟩
      obtain ⟨c1, c2, c3⟩ := cells h4 inferInstance
      rw [hL, hlv]
      simp -dsimp -implicitDefEqProofs (disch := omega) only [go_sem, reqD_of, dec_t, dec_f, wrap_i64, wrap_u32, wrap_u64, wrap_u8, hd, e4, e5, e6, e7, e8, e9, e10, hil, hkl, c1, c2, c3, beqT, beqF, hik, hin, l1]
      refine (among_any h4 (ls := gs) ((Gives.ent (B := rowT (.slice ag gs.length cg) gs)).trans (RowO.reads _ _ _ _ _)) hgn a.name).mono ?_
      rintro e' w5 ⟨h5, rfl⟩
      rw [hamo, hmv]
      rw [hmv] at hcnt
      simp -dsimp -implicitDefEqProofs (disch := omega) only [go_sem, reqD_of, dec_t, dec_f, wrap_i64, wrap_u32, wrap_u64, wrap_u8, hd, e4, e5, e6, e7, e8, e9, e10, hil, hkl, c1, c2, c3, beqT, beqF, hik, hin, l1]
      refine hQ _ _ ⟨⟨by simp -dsimp -implicitDefEqProofs only [go_sem, hd], by simp -dsimp -implicitDefEqProofs only [go_sem, e4], by simp -dsimp -implicitDefEqProofs only [go_sem, e5], by simp -dsimp -implicitDefEqProofs only [go_sem, e6]⟩, by simp -dsimp -implicitDefEqProofs only [go_sem, e7], by simp -dsimp -implicitDefEqProofs only [go_sem, e8]⟩ (by simp -dsimp -implicitDefEqProofs only [go_sem, e10]; omega) (by rw [hcnt]; simp -dsimp -implicitDefEqProofs only [go_sem, e9]; omega) (h5.ac (by unfold GrF; ac_rfl))
    · skip
      rw [hmv] at hlv
      simp -dsimp -implicitDefEqProofs (disch := omega) only [go_sem, reqD_of, dec_t, dec_f, wrap_i64, wrap_u32, wrap_u64, wrap_u8, hd, e4, e5, e6, e7, e8, e9, e10, hil, hkl, c1, c2, c3, beqT, beqF, hik, hin, l1, l2]
      refine (member_any ok h2 u a.name).mono ?_
      rintro e' w3 ⟨h3, rfl⟩
      obtain ⟨c1, c2, c3⟩ := cells h3 inferInstance
      rw [hL, hmv]
      simp -dsimp -implicitDefEqProofs (disch := omega) only [go_sem, reqD_of, dec_t, dec_f, wrap_i64, wrap_u32, wrap_u64, wrap_u8, hd, e4, e5, e6, e7, e8, e9, e10, hil, hkl, c1, c2, c3, beqT, beqF, hik, hin, l1, l2]
      refine (leads_any ok h3 u a.name).mono ?_
      rintro e' w4 ⟨h4, rfl⟩
      obtain ⟨c1, c2, c3⟩ := cells h4 inferInstance
      rw [hL, hlv]
      simp -dsimp -implicitDefEqProofs (disch := omega) only [go_sem, reqD_of, dec_t, dec_f, wrap_i64, wrap_u32, wrap_u64, wrap_u8, hd, e4, e5, e6, e7, e8, e9, e10, hil, hkl, c1, c2, c3, beqT, beqF, hik, hin, l1, l2]
      refine (among_any h4 (ls := gs) ((Gives.ent (B := rowT (.slice ag gs.length cg) gs)).trans (RowO.reads _ _ _ _ _)) hgn a.name).mono ?_
      rintro e' w5 ⟨h5, rfl⟩
      rw [hamo, hmv]
      rw [hmv] at hcnt
      simp -dsimp -implicitDefEqProofs (disch := omega) only [go_sem, reqD_of, dec_t, dec_f, wrap_i64, wrap_u32, wrap_u64, wrap_u8, hd, e4, e5, e6, e7, e8, e9, e10, hil, hkl, c1, c2, c3, beqT, beqF, hik, hin, l1, l2]
      refine hQ _ _ ⟨⟨by simp -dsimp -implicitDefEqProofs only [go_sem, hd], by simp -dsimp -implicitDefEqProofs only [go_sem, e4], by simp -dsimp -implicitDefEqProofs only [go_sem, e5], by simp -dsimp -implicitDefEqProofs only [go_sem, e6]⟩, by simp -dsimp -implicitDefEqProofs only [go_sem, e7], by simp -dsimp -implicitDefEqProofs only [go_sem, e8]⟩ (by simp -dsimp -implicitDefEqProofs only [go_sem, e10]; omega) (by rw [hcnt]; simp -dsimp -implicitDefEqProofs only [go_sem, e9]; omega) (h5.ac (by unfold GrF; ac_rfl))
    · skip
      simp -dsimp -implicitDefEqProofs (disch := omega) only [go_sem, reqD_of, dec_t, dec_f, wrap_i64, wrap_u32, wrap_u64, wrap_u8, hd, e4, e5, e6, e7, e8, e9, e10, hil, hkl, c1, c2, c3, beqT, beqF, hik, hin, l1, l2]
      refine (member_any ok h2 u a.name).mono ?_
      rintro e' w3 ⟨h3, rfl⟩
      obtain ⟨c1, c2, c3⟩ := cells h3 inferInstance
      rw [hL, hmv]
      simp -dsimp -implicitDefEqProofs (disch := omega) only [go_sem, reqD_of, dec_t, dec_f, wrap_i64, wrap_u32, wrap_u64, wrap_u8, hd, e4, e5, e6, e7, e8, e9, e10, hil, hkl, c1, c2, c3, beqT, beqF, hik, hin, l1, l2]
      refine (leads_any ok h3 u a.name).mono ?_
      rintro e' w4 ⟨h4, rfl⟩
      obtain ⟨c1, c2, c3⟩ := cells h4 inferInstance
      rw [hL, hlv]
      simp -dsimp -implicitDefEqProofs (disch := omega) only [go_sem, reqD_of, dec_t, dec_f, wrap_i64, wrap_u32, wrap_u64, wrap_u8, hd, e4, e5, e6, e7, e8, e9, e10, hil, hkl, c1, c2, c3, beqT, beqF, hik, hin, l1, l2]
      refine (among_any h4 (ls := gs) ((Gives.ent (B := rowT (.slice ag gs.length cg) gs)).trans (RowO.reads _ _ _ _ _)) hgn a.name).mono ?_
      rintro e' w5 ⟨h5, rfl⟩
      rw [hamo, hmv]
      rw [hmv] at hcnt
      simp -dsimp -implicitDefEqProofs (disch := omega) only [go_sem, reqD_of, dec_t, dec_f, wrap_i64, wrap_u32, wrap_u64, wrap_u8, hd, e4, e5, e6, e7, e8, e9, e10, hil, hkl, c1, c2, c3, beqT, beqF, hik, hin, l1, l2]
      refine hQ _ _ ⟨⟨by simp -dsimp -implicitDefEqProofs only [go_sem, hd], by simp -dsimp -implicitDefEqProofs only [go_sem, e4], by simp -dsimp -implicitDefEqProofs only [go_sem, e5], by simp -dsimp -implicitDefEqProofs only [go_sem, e6]⟩, by simp -dsimp -implicitDefEqProofs only [go_sem, e7], by simp -dsimp -implicitDefEqProofs only [go_sem, e8]⟩ (by simp -dsimp -implicitDefEqProofs only [go_sem, e10]; omega) (by rw [hcnt]; simp -dsimp -implicitDefEqProofs only [go_sem, e9]; omega) (h5.ac (by unfold GrF; ac_rfl))
  · rcases hc2 with ⟨l1, hlv⟩ | ⟨l1, l2, hlv⟩ | ⟨l1, l2, hlv⟩
    · skip
      simp -dsimp -implicitDefEqProofs (disch := omega) only [go_sem, reqD_of, dec_t, dec_f, wrap_i64, wrap_u32, wrap_u64, wrap_u8, hd, e4, e5, e6, e7, e8, e9, e10, hil, hkl, c1, c2, c3, beqT, beqF, hik, hin, l1]
      refine (member_any ok h2 u a.name).mono ?_
      rintro e' w3 ⟨h3, rfl⟩
      obtain ⟨c1, c2, c3⟩ := cells h3 inferInstance
      rw [hL, hmv]
      simp -dsimp -implicitDefEqProofs (disch := omega) only [go_sem, reqD_of, dec_t, dec_f, wrap_i64, wrap_u32, wrap_u64, wrap_u8, hd, e4, e5, e6, e7, e8, e9, e10, hil, hkl, c1, c2, c3, beqT, beqF, hik, hin, l1]
      refine (leads_any ok h3 u a.name).mono ?_
      rintro e' w4 ⟨h4, rfl⟩
      obtain ⟨c1, c2, c3⟩ := cells h4 inferInstance
      rw [hL, hlv]
      simp -dsimp -implicitDefEqProofs (disch := omega) only [go_sem, reqD_of, dec_t, dec_f, wrap_i64, wrap_u32, wrap_u64, wrap_u8, hd, e4, e5, e6, e7, e8, e9, e10, hil, hkl, c1, c2, c3, beqT, beqF, hik, hin, l1]
      refine (among_any h4 (ls := gs) ((Gives.ent (B := rowT (.slice ag gs.length cg) gs)).trans (RowO.reads _ _ _ _ _)) hgn a.name).mono ?_
      rintro e' w5 ⟨h5, rfl⟩
      rw [hamo, hmv]
      rw [hmv] at hcnt
      simp -dsimp -implicitDefEqProofs (disch := omega) only [go_sem, reqD_of, dec_t, dec_f, wrap_i64, wrap_u32, wrap_u64, wrap_u8, hd, e4, e5, e6, e7, e8, e9, e10, hil, hkl, c1, c2, c3, beqT, beqF, hik, hin, l1]
      refine hQ _ _ ⟨⟨by simp -dsimp -implicitDefEqProofs only [go_sem, hd], by simp -dsimp -implicitDefEqProofs only [go_sem, e4], by simp -dsimp -implicitDefEqProofs only [go_sem, e5], by simp -dsimp -implicitDefEqProofs only [go_sem, e6]⟩, by simp -dsimp -implicitDefEqProofs only [go_sem, e7], by simp -dsimp -implicitDefEqProofs only [go_sem, e8]⟩ (by simp -dsimp -implicitDefEqProofs only [go_sem, e10]; omega) (by rw [hcnt]; simp -dsimp -implicitDefEqProofs only [go_sem, e9]) (h5.ac (by unfold GrF; ac_rfl))
    · skip
      rw [hmv] at hlv
      simp -dsimp -implicitDefEqProofs (disch := omega) only [go_sem, reqD_of, dec_t, dec_f, wrap_i64, wrap_u32, wrap_u64, wrap_u8, hd, e4, e5, e6, e7, e8, e9, e10, hil, hkl, c1, c2, c3, beqT, beqF, hik, hin, l1, l2]
      refine (member_any ok h2 u a.name).mono ?_
      rintro e' w3 ⟨h3, rfl⟩
      obtain ⟨c1, c2, c3⟩ := cells h3 inferInstance
      rw [hL, hmv]
      simp -dsimp -implicitDefEqProofs (disch := omega) only [go_sem, reqD_of, dec_t, dec_f, wrap_i64, wrap_u32, wrap_u64, wrap_u8, hd, e4, e5, e6, e7, e8, e9, e10, hil, hkl, c1, c2, c3, beqT, beqF, hik, hin, l1, l2]
      refine (leads_any ok h3 u a.name).mono ?_
      rintro e' w4 ⟨h4, rfl⟩
      obtain ⟨c1, c2, c3⟩ := cells h4 inferInstance
      rw [hL, hlv]
      simp -dsimp -implicitDefEqProofs (disch := omega) only [go_sem, reqD_of, dec_t, dec_f, wrap_i64, wrap_u32, wrap_u64, wrap_u8, hd, e4, e5, e6, e7, e8, e9, e10, hil, hkl, c1, c2, c3, beqT, beqF, hik, hin, l1, l2]
      refine (among_any h4 (ls := gs) ((Gives.ent (B := rowT (.slice ag gs.length cg) gs)).trans (RowO.reads _ _ _ _ _)) hgn a.name).mono ?_
      rintro e' w5 ⟨h5, rfl⟩
      rw [hamo, hmv]
      rw [hmv] at hcnt
      simp -dsimp -implicitDefEqProofs (disch := omega) only [go_sem, reqD_of, dec_t, dec_f, wrap_i64, wrap_u32, wrap_u64, wrap_u8, hd, e4, e5, e6, e7, e8, e9, e10, hil, hkl, c1, c2, c3, beqT, beqF, hik, hin, l1, l2]
      refine hQ _ _ ⟨⟨by simp -dsimp -implicitDefEqProofs only [go_sem, hd], by simp -dsimp -implicitDefEqProofs only [go_sem, e4], by simp -dsimp -implicitDefEqProofs only [go_sem, e5], by simp -dsimp -implicitDefEqProofs only [go_sem, e6]⟩, by simp -dsimp -implicitDefEqProofs only [go_sem, e7], by simp -dsimp -implicitDefEqProofs only [go_sem, e8]⟩ (by simp -dsimp -implicitDefEqProofs only [go_sem, e10]; omega) (by rw [hcnt]; simp -dsimp -implicitDefEqProofs only [go_sem, e9]) (h5.ac (by unfold GrF; ac_rfl))
    · skip
      simp -dsimp -implicitDefEqProofs (disch := omega) only [go_sem, reqD_of, dec_t, dec_f, wrap_i64, wrap_u32, wrap_u64, wrap_u8, hd, e4, e5, e6, e7, e8, e9, e10, hil, hkl, c1, c2, c3, beqT, beqF, hik, hin, l1, l2]
      refine (member_any ok h2 u a.name).mono ?_
      rintro e' w3 ⟨h3, rfl⟩
      obtain ⟨c1, c2, c3⟩ := cells h3 inferInstance
      rw [hL, hmv]
      simp -dsimp -implicitDefEqProofs (disch := omega) only [go_sem, reqD_of, dec_t, dec_f, wrap_i64, wrap_u32, wrap_u64, wrap_u8, hd, e4, e5, e6, e7, e8, e9, e10, hil, hkl, c1, c2, c3, beqT, beqF, hik, hin, l1, l2]
      refine (leads_any ok h3 u a.name).mono ?_
      rintro e' w4 ⟨h4, rfl⟩
      obtain ⟨c1, c2, c3⟩ := cells h4 inferInstance
      rw [hL, hlv]
      simp -dsimp -implicitDefEqProofs (disch := omega) only [go_sem, reqD_of, dec_t, dec_f, wrap_i64, wrap_u32, wrap_u64, wrap_u8, hd, e4, e5, e6, e7, e8, e9, e10, hil, hkl, c1, c2, c3, beqT, beqF, hik, hin, l1, l2]
      refine (among_any h4 (ls := gs) ((Gives.ent (B := rowT (.slice ag gs.length cg) gs)).trans (RowO.reads _ _ _ _ _)) hgn a.name).mono ?_
      rintro e' w5 ⟨h5, rfl⟩
      rw [hamo, hmv]
      rw [hmv] at hcnt
      simp -dsimp -implicitDefEqProofs (disch := omega) only [go_sem, reqD_of, dec_t, dec_f, wrap_i64, wrap_u32, wrap_u64, wrap_u8, hd, e4, e5, e6, e7, e8, e9, e10, hil, hkl, c1, c2, c3, beqT, beqF, hik, hin, l1, l2]
      refine hQ _ _ ⟨⟨by simp -dsimp -implicitDefEqProofs only [go_sem, hd], by simp -dsimp -implicitDefEqProofs only [go_sem, e4], by simp -dsimp -implicitDefEqProofs only [go_sem, e5], by simp -dsimp -implicitDefEqProofs only [go_sem, e6]⟩, by simp -dsimp -implicitDefEqProofs only [go_sem, e7], by simp -dsimp -implicitDefEqProofs only [go_sem, e8]⟩ (by simp -dsimp -implicitDefEqProofs only [go_sem, e10]; omega) (by rw [hcnt]; simp -dsimp -implicitDefEqProofs only [go_sem, e9]) (h5.ac (by unfold GrF; ac_rfl))
end
end Go.Proofs.YtkijkoakloacoaaDoor

namespace Go.Proofs.YtkijkoakloacoaaDoor
open Go
set_option linter.unusedVariables false
set_option linter.unusedSimpArgs false
set_option maxRecDepth 100000

theorem MsOk.fit {B : HP} {L : List AV} (h : Made (accs L)) : L.length ≤ 30 := by simpa using h.few

section
attribute [local go_sem] F6.t23_eq F6.t20_eq F6.t14_eq F6.t29_eq F6.t30_eq F6.t27_eq F6.t8_eq F6.t9_eq F6.t32_eq F6.t6_eq
theorem usersGroups_law {w0 w : World} {A : HP} (h : St w0 A w) [Gives A Tabs] {ar : Option Addr} {cr : Nat} {ws : List WhoD} (hw : WhosP A (.slice ar ws.length cr) ws) :
    Calls Tryd.prog 6 #[.slice ar ws.length cr] w fun e w' => St w0 A w' ∧ e = .returned (.bool true) := by
  refine F6.calls (by simp) ?_
  unfold F6.code
  simp -dsimp -implicitDefEqProofs (disch := omega) only [go_sem, reqD_of, dec_t, dec_f, wrap_i64, wrap_u32, wrap_u64, wrap_u8]
  refine (example_any h).mono ?_
  rintro e w1 ⟨h1, rfl⟩
  simp -dsimp -implicitDefEqProofs (disch := omega) only [go_sem, reqD_of, dec_t, dec_f, wrap_i64, wrap_u32, wrap_u64, wrap_u8]
  refine (made_any h1 hw).mono ?_
  rintro e w2 ⟨L, vo, B, M, hm, hlen, h2, rfl⟩
  have hfew := M.few
  simp only [List.length_map] at hfew
  simp -dsimp -implicitDefEqProofs (disch := omega) only [go_sem, reqD_of, dec_t, dec_f, wrap_i64, wrap_u32, wrap_u64, wrap_u8]
  refine (table_any h2 (v := vo) (L := L) ((Ent.left _ _).trans (RowO.reads _ _ _ _ _)) (hm.weak (Gives.ent (B := B))) (by omega) (by have := M.text; omega) M.print).mono ?_
  rintro e w3 ⟨T, m, x, hL, ok, h3, rfl⟩
  have hxl : x.L.length = L.length := by have := congrArg List.length hL; simpa using this
  obtain ⟨ao, co, rfl, hao⟩ := row_form (vo := vo) (L := L) h3
  simp -dsimp -implicitDefEqProofs (disch := omega) only [go_sem, reqD_of, dec_t, dec_f, wrap_i64, wrap_u32, wrap_u64, wrap_u8]
  refine loop_intro (fun e w' => ∃ i : Nat, GrE e (.slice ao L.length co) T i ∧ i ≤ L.length ∧ St w0 (GrF T m x (.slice ao L.length co) L B A) w')
    (fun e _ => match e.ρ 6 with | .int _ n => (L.length - n).toNat | _ => 0) ?_ ?_
  · exact ⟨0, ⟨by simp -dsimp -implicitDefEqProofs only [go_sem], by simp -dsimp -implicitDefEqProofs only [go_sem], by simp -dsimp -implicitDefEqProofs only [go_sem], by simp -dsimp -implicitDefEqProofs only [go_sem]⟩, by omega, h3⟩
  clear h h1 h2 h3
  rintro e w4 ⟨i, ⟨hd, e4, e5, e6⟩, hi, h4⟩
  by_cases hlt : (i : Int) < L.length
  case neg =>
    simp -dsimp -implicitDefEqProofs (disch := omega) only [go_sem, reqD_of, dec_t, dec_f, wrap_i64, wrap_u32, wrap_u64, wrap_u8, hd, e4, e5, e6, hlt]
    exact h4.right.right.right
  have hi' : i < L.length := by omega
  obtain ⟨b, o, rfl⟩ := hao i hi'
  obtain ⟨c1, _, _, _⟩ := row_cells (o := o) (b := b) (cv := co) h4 hi'
  simp -dsimp -implicitDefEqProofs (disch := omega) only [go_sem, reqD_of, dec_t, dec_f, wrap_i64, wrap_u32, wrap_u64, wrap_u8, hd, e4, e5, e6, hlt, c1]
  refine (groups_any ok (by omega) h4 L[i].1.name).mono ?_
  rintro e' w5 ⟨vg, h5, rfl⟩
  rw [hL] at h5
  simp -dsimp -implicitDefEqProofs (disch := omega) only [go_sem, reqD_of, dec_t, dec_f, wrap_i64, wrap_u32, wrap_u64, wrap_u8, hd]
  refine loop_intro (fun e w' => ∃ k : Nat, GrI e (.slice (some ⟨b, o, none⟩) L.length co) T i L[i].1.name vg ∧ k ≤ L.length ∧ e.ρ 10 = .int .i64 k ∧ e.ρ 9 = .int .i64 (cntF (accs L) L[i].1.name k) ∧ St w0 (rowT vg (groupsF (accs L) L[i].1.name) * GrF T m x (.slice (some ⟨b, o, none⟩) L.length co) L B A) w')
    (fun e _ => match e.ρ 10 with | .int _ n => (L.length - n).toNat | _ => 0) ?_ ?_
  · exact ⟨0, ⟨⟨by simp -dsimp -implicitDefEqProofs only [go_sem, hd], by simp -dsimp -implicitDefEqProofs only [go_sem, e4], by simp -dsimp -implicitDefEqProofs only [go_sem, e5], by simp -dsimp -implicitDefEqProofs only [go_sem, e6]⟩, by simp -dsimp -implicitDefEqProofs only [go_sem], by simp -dsimp -implicitDefEqProofs only [go_sem]⟩, by omega, by simp -dsimp -implicitDefEqProofs only [go_sem], by simp -dsimp -implicitDefEqProofs only [go_sem]; rfl, h5⟩
  clear h4 h5 c1
  rintro e2 w6 ⟨k, ⟨⟨fd, f4, f5, f6⟩, f7, f8⟩, hk, f10, f9, h6⟩
  by_cases hkl : (k : Int) < L.length
  case neg =>
    have hc := cntF_all (L := accs L) (u := L[i].1.name) (k := k) (by simp; omega)
    rw [hc] at f9
    simp -dsimp -implicitDefEqProofs (disch := omega) only [go_sem, reqD_of, dec_t, dec_f, wrap_i64, wrap_u32, wrap_u64, wrap_u8, fd, f4, f10, hkl]
    refine groupsLaw_25 (gs := groupsF (accs L) L[i].1.name) (vg := vg) (i := i) (L := L) hL ok M hi' ⟨by simp -dsimp -implicitDefEqProofs only [go_sem, fd], by simp -dsimp -implicitDefEqProofs only [go_sem, f4], by simp -dsimp -implicitDefEqProofs only [go_sem, f5], by simp -dsimp -implicitDefEqProofs only [go_sem, f6]⟩ (by simp -dsimp -implicitDefEqProofs only [go_sem, f7]) (by simp -dsimp -implicitDefEqProofs only [go_sem, f8]) (by simp -dsimp -implicitDefEqProofs only [go_sem, f9]) rfl h6 ?_
    rintro e' w' ⟨gd, g4, g5, g6⟩ h'
    simp -dsimp -implicitDefEqProofs (disch := omega) only [go_sem, reqD_of, dec_t, dec_f, wrap_i64, wrap_u32, wrap_u64, wrap_u8, gd, g6, e6]
    exact ⟨⟨i + 1, ⟨by simp -dsimp -implicitDefEqProofs only [go_sem, gd], by simp -dsimp -implicitDefEqProofs only [go_sem, g4], by simp -dsimp -implicitDefEqProofs only [go_sem, g5], by simp -dsimp -implicitDefEqProofs only [go_sem]; omega⟩, by omega, h'⟩, by omega⟩
  have hk' : k < L.length := by omega
  simp -dsimp -implicitDefEqProofs (disch := omega) only [go_sem, reqD_of, dec_t, dec_f, wrap_i64, wrap_u32, wrap_u64, wrap_u8, fd, f4, f10, hkl]
  refine groupsLaw_15 (gs := groupsF (accs L) L[i].1.name) (vg := vg) (i := i) (k := k) (L := L) hL ok M hm hi' hk' ⟨⟨by simp -dsimp -implicitDefEqProofs only [go_sem, fd], by simp -dsimp -implicitDefEqProofs only [go_sem, f4], by simp -dsimp -implicitDefEqProofs only [go_sem, f5], by simp -dsimp -implicitDefEqProofs only [go_sem, f6]⟩, by simp -dsimp -implicitDefEqProofs only [go_sem, f7], by simp -dsimp -implicitDefEqProofs only [go_sem, f8]⟩ (by simp -dsimp -implicitDefEqProofs only [go_sem, f10]) (by simp -dsimp -implicitDefEqProofs only [go_sem, f9]) rfl h6 ?_
  rintro e' w' g g10 g9 h'
  simp -dsimp -implicitDefEqProofs (disch := omega) only [go_sem, reqD_of, dec_t, dec_f, wrap_i64, wrap_u32, wrap_u64, wrap_u8, g10, f10]
  exact ⟨⟨k + 1, g, by omega, by first | rfl | exact g10, g9, h'⟩, by omega⟩

/-! ### The argument -/

abbrev rWho : Rdr (Int × List Int × ByteArray × Unit) := rCons 1 (rInt .i64) (rCons 1 (rSlice 1 8 (rInt .i64)) (rCons 1 rStr rEnd))
theorem InI.of {z : Int} (h : -9223372036854775808 ≤ z ∧ z ≤ 9223372036854775807) : InI z := ⟨h.1, by omega⟩
theorem who_one {W : World} {y : WhoD} (h1 : InI y.lead) (h2 : (rSlice 1 8 (rInt .i64)).rel y.ms [y.v] (heapOf W)) (h3 : y.key.length ≤ 140737488355328) : WhoOk (Old W) y := by
  obtain ⟨i1, i2, i3⟩ := ints_arg h2
  have hl := rSlice_len h2
  have hq : reachBytes = 140737488351232 := rfl
  obtain ⟨a, cap, e, _⟩ := Rdr.slice h2
  exact ⟨h1, i1, fun z hz => InI.of (i2 z hz), by omega, h3, by rw [e]; rfl⟩
theorem rWho_cells {x : Int × List Int × ByteArray × Unit} {cs : List Value} {h : Heap} (r : rWho.rel x cs h) : ∃ y : WhoD, cs = whoC y ∧ (InI y.lead ∧ (rSlice 1 8 (rInt .i64)).rel y.ms [y.v] h ∧ y.key.length ≤ 140737488355328) := by
  obtain ⟨_, _, rfl, _, ⟨rfl, w1⟩, c1, _, rfl, hl, r2, _, _, rfl, _, ⟨rfl, w3⟩, rfl⟩ := r
  obtain ⟨v, rfl⟩ : ∃ v, c1 = [v] := by
    match c1, hl with
    | [v], _ => exact ⟨v, rfl⟩
  refine ⟨⟨x.1, v, x.2.1, x.2.2.1.data.toList⟩, by simp [whoC, sv, strOf_eta], InI.of (wf_i64 w1), r2, ?_⟩
  have hq : reachBytes = 140737488351232 := rfl
  rw [Lib.size_eq] at w3
  show x.2.2.1.data.toList.length ≤ _
  omega
theorem whos_arg {xs : List (Int × List Int × ByteArray × Unit)} {v : Value} {W : World} (c : (rSlice 3 48 rWho).rel xs [v] (heapOf W)) : ∃ ws : List WhoD, (∃ a c, v = .slice a ws.length c) ∧ WhosP (Old W) v ws := by
  obtain ⟨ws, hl, h1, h2⟩ := rSlice_choose (β := WhoD) (enc := whoC) (p := fun y h => InI y.lead ∧ (rSlice 1 8 (rInt .i64)).rel y.ms [y.v] h ∧ y.key.length ≤ 140737488355328) (fun x cs h r => rWho_cells r) whoC_len c
  have hb := rSlice_len c
  have hq : reachBytes = 140737488351232 := rfl
  have hr : Ent (Old W) (Reads 3 v ws.length (ws.flatMap whoC)) := Ent.of fun _ ho => Reads.mono (fun b o e => ho b o e) h2
  obtain ⟨_, a, c', e, _⟩ := St.rowsAt whoC_len (by decide) ((St.start W).ent hr)
  exact ⟨ws, ⟨a, c', e⟩, hr, fun y hy => who_one (h1 y hy).1 (h1 y hy).2.1 (h1 y hy).2.2, by omega⟩
end
end Go.Proofs.YtkijkoakloacoaaDoor
