/- law06: accounts are made of raw numbers. law06: accounts are made, all. -/
import Derived.Test.YtkijkoakloacoaaDoorUF
namespace Go.Proofs.YtkijkoakloacoaaDoor
open Go
set_option linter.unusedVariables false
set_option linter.unusedSimpArgs false
set_option maxRecDepth 100000

/-! ### Raw numbers -/

structure WhoD where
  lead : Int
  v : Value
  ms : List Int
  key : List UInt8
abbrev whoC (x : WhoD) : List Value := [.int .i64 x.lead, x.v, sv x.key]
theorem whoC_len (x : WhoD) : (whoC x).length = 3 := rfl
structure WhoOk (F : HP) (x : WhoD) : Prop where
  lead : InI x.lead
  rd : Ent F (Reads 1 x.v x.ms.length (x.ms.map fun z => .int .i64 z))
  each : ∀ z ∈ x.ms, InI z
  few : x.ms.length ≤ 140737488355328
  key : x.key.length ≤ 140737488355328
  cell : isCell x.v = true
structure WhosP (F : HP) (v : Value) (ws : List WhoD) : Prop where
  rd : Ent F (Reads 3 v ws.length (ws.flatMap whoC))
  el : ∀ x ∈ ws, WhoOk F x
  few : ws.length ≤ 140737488355328

abbrev rowA (v : Value) (L : List AV) : HP := RowO 46 4 v L.length (L.flatMap accC)
abbrev bkA (P : Nat) (a : Acc) (v : Value) : HP := Blk P (.cells (accL a v).toArray 46 (0, 0))
/-- What the loop's variables are. -/
structure MadeE (e : FA) (vr vo : Value) (n i : Nat) : Prop where
  ds : e.ds = []
  raw : e.ρ 0 = vr
  out : e.ρ 3 = vo
  n : e.ρ 4 = .int .i64 n
  i : e.ρ 5 = .int .i64 i

section
attribute [local go_sem] F22.t17_eq F22.t13_eq F22.t14_eq F22.t20_eq F22.t21_eq F22.t18_eq F22.t10_eq F22.t5_eq F22.t6_eq F22.t25_eq
theorem made_24 {w0 w : World} {A : HP} {P n i : Nat} {vr vo v : Value} {L : List AV} {a : Acc} {e : FA} {Q : Post} (he : MadeE e vr vo n i) (e6 : e.ρ 6 = .pointer (some ⟨P, 0, none⟩)) (hn : L.length ≤ 30)
    (h : St w0 (bkA P a v * (rowT v a.members * (rowA vo L * A))) w)
    (hQ : ∀ (e' : FA) (w' : World) (vo' : Value), MadeE e' vr vo' n i → St w0 (rowA vo' (L ++ [(a, v)]) * (rowT v a.members * A)) w' → Q .normal e' w') : cwE Tryd.prog F22.t24 Q e w := by
  obtain ⟨hd, e0, e3, e4, e5⟩ := he
  obtain ⟨av, cv, rfl, _⟩ := h.rowForm v
  obtain ⟨ao, co, rfl, _⟩ := h.rowForm vo
  rw [F22.t24_eq]
  simp -dsimp -implicitDefEqProofs (disch := omega) only [go_sem, reqD_of, dec_t, dec_f, wrap_i64, wrap_u32, wrap_u64, wrap_u8, hd, e3, e6, h.rowH P 4 rfl, h.cl P]
  refine h.lit (t := 23) (n := 1) (cells := accL a (.slice av a.members.length cv)) fact_rowTy_23 rfl (by decide) (by decide) fun v3 w3 h3 => ?_
  obtain ⟨a3, c3, rfl, _⟩ := h3.rowForm v3
  simp -dsimp -implicitDefEqProofs (disch := omega) only [go_sem, reqD_of, dec_t, dec_f, wrap_i64, wrap_u32, wrap_u64, wrap_u8, hd, e3, e6]
  refine h3.appR (v := .slice ao L.length co) (x := .slice a3 1 c3) fact_rowTy_23 Tryd.underlying23 (fun u hu => by simp at hu; rcases hu with rfl | rfl | rfl | rfl <;> rfl) (by simp) (show _ ≤ 9223372036854775807 by omega) (by omega) fun v4 w4 h4 => ?_
  obtain ⟨a4, c4, rfl, _⟩ := h4.rowForm v4
  simp -dsimp -implicitDefEqProofs (disch := omega) only [go_sem, reqD_of, dec_t, dec_f, wrap_i64, wrap_u32, wrap_u64, wrap_u8, hd, e3, e6]
  refine hQ _ _ (.slice a4 (L.length + 1) c4) ⟨by simp -dsimp -implicitDefEqProofs only [go_sem, hd], by simp -dsimp -implicitDefEqProofs only [go_sem, e0], by simp -dsimp -implicitDefEqProofs only [go_sem], by simp -dsimp -implicitDefEqProofs only [go_sem, e4], by simp -dsimp -implicitDefEqProofs only [go_sem, e5]⟩ ?_
  have e1 : (L ++ [(a, Value.slice av a.members.length cv)]).length = L.length + 1 := by simp
  have e2 : (L ++ [(a, Value.slice av a.members.length cv)]).flatMap accC = L.flatMap accC ++ accL a (.slice av a.members.length cv) := by simp
  unfold rowA
  rw [e1, e2]
  exact h4.sub

theorem key_step : ∀ n : Fin 256, (33 + Int.tmod (n.val : Nat) 94 : Int) = ((UInt8.ofNat (33 + n.val % 94)).toNat : Int) ∧ 33 ≤ (UInt8.ofNat (33 + n.val % 94)).toNat ∧ (UInt8.ofNat (33 + n.val % 94)).toNat ≤ 126 := by decide +kernel
theorem keyF_snoc {k : List UInt8} {c : UInt8} (h : keyF k = true) (h1 : 33 ≤ c.toNat) (h2 : c.toNat ≤ 126) (h3 : c.toNat ≠ 58) (hl : k.length < 32) : keyF (k ++ [c]) = true := by
  simp only [keyF, Bool.and_eq_true, List.all_eq_true, decide_eq_true_eq] at h ⊢
  refine ⟨fun x hx => ?_, by simp; omega⟩
  rcases List.mem_append.1 hx with hx | hx
  · exact h.1 x hx
  · simp only [List.mem_singleton] at hx
    subst hx
    simp [h1, h2, h3]

end
section
attribute [local go_sem] F22.t17_eq F22.t13_eq F22.t14_eq F22.t20_eq F22.t21_eq F22.t10_eq F22.t5_eq F22.t6_eq F22.t25_eq
theorem made_18 {w0 w : World} {A : HP} {P n i : Nat} {ar : Option Addr} {cr : Nat} {vo v : Value} {L : List AV} {ws : List WhoD} {nam lead : List UInt8} {Ms : List (List UInt8)} {e : FA} {Q : Post} (he : MadeE e (.slice ar ws.length cr) vo n i) (e6 : e.ρ 6 = .pointer (some ⟨P, 0, none⟩)) (hn : L.length ≤ 30)
    (hw : WhosP A (.slice ar ws.length cr) ws) (hi : i < ws.length)
    (h : St w0 (bkA P ⟨nam, lead, Ms, []⟩ v * (rowT v Ms * (rowA vo L * A))) w)
    (hQ : ∀ (e' : FA) (w' : World) (vo' : Value) (key : List UInt8), keyF key = true → MadeE e' (.slice ar ws.length cr) vo' n i → St w0 (rowA vo' (L ++ [(⟨nam, lead, Ms, key⟩, v)]) * (rowT v Ms * A)) w' → Q .normal e' w') : cwE Tryd.prog F22.t18 Q e w := by
  obtain ⟨hd, e0, e3, e4, e5⟩ := he
  obtain ⟨av, cv, rfl, _⟩ := h.rowForm v
  rw [F22.t18_eq]
  simp -dsimp -implicitDefEqProofs (disch := omega) only [go_sem, reqD_of, dec_t, dec_f, wrap_i64, wrap_u32, wrap_u64, wrap_u8, hd]
  refine loop_intro (fun e w' => MadeE e (.slice ar ws.length cr) vo n i ∧ e.ρ 6 = .pointer (some ⟨P, 0, none⟩) ∧ ∃ (j : Nat) (key : List UInt8), j ≤ 32 ∧ e.ρ 11 = .int .i64 j ∧ keyF key = true ∧ key.length ≤ j ∧
      St w0 (bkA P ⟨nam, lead, Ms, key⟩ (.slice av Ms.length cv) * (rowT (.slice av Ms.length cv) Ms * (rowA vo L * A))) w')
    (fun e _ => match e.ρ 11 with | .int _ n => (32 - n).toNat | _ => 0) ?_ ?_
  · exact ⟨⟨by simp -dsimp -implicitDefEqProofs only [go_sem, hd], by simp -dsimp -implicitDefEqProofs only [go_sem, e0], by simp -dsimp -implicitDefEqProofs only [go_sem, e3], by simp -dsimp -implicitDefEqProofs only [go_sem, e4], by simp -dsimp -implicitDefEqProofs only [go_sem, e5]⟩, by simp -dsimp -implicitDefEqProofs only [go_sem, e6], 0, [], by omega, by simp -dsimp -implicitDefEqProofs only [go_sem], by decide, by simp, h⟩
  clear h hd e0 e3 e4 e5 e6 e w
  rintro e w ⟨he, e6, j, key, hj, e11, hk, hkl, h⟩
  have he' := he
  obtain ⟨hd, e0, e3, e4, e5⟩ := he
  have gA : Gives (bkA P ⟨nam, lead, Ms, key⟩ (.slice av Ms.length cv) * (rowT (.slice av Ms.length cv) Ms * (rowA vo L * A))) A := inferInstance
  obtain ⟨_, a', c', hv', _, hrow⟩ := St.rowsAt whoC_len (by decide) (h.ent (gA.ent.trans hw.rd))
  simp only [Value.slice.injEq, true_and] at hv'
  obtain ⟨rfl, rfl⟩ := hv'
  obtain ⟨b, o, rfl, _, hc⟩ := hrow i hi
  have hc2 : w.cell? ⟨b, o + i * 3 + 2, none⟩ = some (sv ws[i].key) := hc 2 (by decide)
  have hx := hw.el _ (List.getElem_mem hi)
  have hil : (i : Int) < ws.length := by omega
  obtain ⟨x, hxe⟩ : ∃ x, x = ws[i] := ⟨_, rfl⟩
  rw [← hxe] at hc2 hx
  have hkey := hx.key
  have done : cwE Tryd.prog F22.t24 Q e w := made_24 (v := .slice av Ms.length cv) (a := ⟨nam, lead, Ms, key⟩) he' e6 hn h fun e' w' vo' he h' => hQ e' w' vo' key hk he h'
  by_cases hlt : (j : Int) < x.key.length
  case neg =>
    simp -dsimp -implicitDefEqProofs (disch := omega) only [go_sem, reqD_of, dec_t, dec_f, wrap_i64, wrap_u32, wrap_u64, wrap_u8, hd, e0, e3, e4, e5, e6, e11, hil, hc2, hlt]
    refine made_24 (v := .slice av Ms.length cv) (a := ⟨nam, lead, Ms, key⟩) ⟨by simp -dsimp -implicitDefEqProofs only [go_sem, hd], by simp -dsimp -implicitDefEqProofs only [go_sem, e0], by simp -dsimp -implicitDefEqProofs only [go_sem, e3], by simp -dsimp -implicitDefEqProofs only [go_sem, e4], by simp -dsimp -implicitDefEqProofs only [go_sem, e5]⟩ (by simp -dsimp -implicitDefEqProofs only [go_sem, e6]) hn h fun e' w' vo' he h' => hQ e' w' vo' key hk he h'
  by_cases hlt2 : (j : Int) < 32
  case neg =>
    simp -dsimp -implicitDefEqProofs (disch := omega) only [go_sem, reqD_of, dec_t, dec_f, wrap_i64, wrap_u32, wrap_u64, wrap_u8, hd, e0, e3, e4, e5, e6, e11, hil, hc2, hlt, hlt2]
    refine made_24 (v := .slice av Ms.length cv) (a := ⟨nam, lead, Ms, key⟩) ⟨by simp -dsimp -implicitDefEqProofs only [go_sem, hd], by simp -dsimp -implicitDefEqProofs only [go_sem, e0], by simp -dsimp -implicitDefEqProofs only [go_sem, e3], by simp -dsimp -implicitDefEqProofs only [go_sem, e4], by simp -dsimp -implicitDefEqProofs only [go_sem, e5]⟩ (by simp -dsimp -implicitDefEqProofs only [go_sem, e6]) hn h fun e' w' vo' he h' => hQ e' w' vo' key hk he h'
  obtain ⟨m, hm⟩ : ∃ m, m = (x.key.getD j 0).toNat := ⟨_, rfl⟩
  have hm256 : m < 256 := hm ▸ UInt8.toNat_lt _
  obtain ⟨k1, k2, k3⟩ := key_step ⟨m, hm256⟩
  simp only at k1 k2 k3
  obtain ⟨c, hcc⟩ : ∃ c, c = UInt8.ofNat (33 + m % 94) := ⟨_, rfl⟩
  rw [← hcc] at k1 k2 k3
  have t1 : 0 ≤ Int.tmod (m : Int) 94 ∧ Int.tmod (m : Int) 94 < 94 := ⟨Int.tmod_nonneg _ (by omega), Int.tmod_lt_of_pos _ (by omega)⟩
  by_cases hy : (c.toNat : Int) = 58
  · simp -dsimp -implicitDefEqProofs (disch := omega) only [go_sem, reqD_of, dec_t, dec_f, wrap_i64, wrap_u32, wrap_u64, wrap_u8, hd, e0, e3, e4, e5, e6, e11, hil, hc2, hlt, hlt2, ← hm, k1, hy]
    exact ⟨⟨⟨by simp -dsimp -implicitDefEqProofs only [go_sem, hd], by simp -dsimp -implicitDefEqProofs only [go_sem, e0], by simp -dsimp -implicitDefEqProofs only [go_sem, e3], by simp -dsimp -implicitDefEqProofs only [go_sem, e4], by simp -dsimp -implicitDefEqProofs only [go_sem, e5]⟩, j + 1, key, by omega, by omega, hk, by omega, h⟩, by omega⟩
  · have hbv : (Value.int .u8 (c.toNat : Int)) = bv c := rfl
    simp -dsimp -implicitDefEqProofs (disch := omega) only [go_sem, reqD_of, dec_t, dec_f, wrap_i64, wrap_u32, wrap_u64, wrap_u8, hd, e0, e3, e4, e5, e6, e11, hil, hc2, hlt, hlt2, ← hm, k1, hy, h.cl P]
    refine h.lit (t := 82) (n := 1) (cells := [bv c]) fact_rowTy_82 rfl (by decide) (by decide) fun v1 w1 h1 => ?_
    simp -dsimp -implicitDefEqProofs (disch := omega) only [go_sem, reqD_of, dec_t, dec_f, wrap_i64, wrap_u32, wrap_u64, wrap_u8, hd, e6]
    refine h1.str (src := 82) (e := 5) (dst := 9) (bs := [c]) ?_ Tryd.underlying82 Tryd.underlying5 Tryd.underlying9 ?_
    · exact (Ent.left _ _).trans (RowO.reads _ _ _ _ _)
    simp -dsimp -implicitDefEqProofs (disch := omega) only [go_sem, reqD_of, dec_t, dec_f, wrap_i64, wrap_u32, wrap_u64, wrap_u8, hd, e6, binV_sadd (P := Tryd.prog) (T := 9) (a := key) (b := [c]) (by simp; omega)]
    refine h1.sto (b := P) (off := 3) (by simp) rfl fun w2 h2 => ?_
    simp only [List.setIfInBounds_toArray, List.set_cons_succ, List.set_cons_zero] at h2
    simp -dsimp -implicitDefEqProofs (disch := omega) only [go_sem, reqD_of, dec_t, dec_f, wrap_i64, wrap_u32, wrap_u64, wrap_u8, hd, e0, e3, e4, e5, e6, e11]
    exact ⟨⟨⟨by simp -dsimp -implicitDefEqProofs only [go_sem, hd], by simp -dsimp -implicitDefEqProofs only [go_sem, e0], by simp -dsimp -implicitDefEqProofs only [go_sem, e3], by simp -dsimp -implicitDefEqProofs only [go_sem, e4], by simp -dsimp -implicitDefEqProofs only [go_sem, e5]⟩, j + 1, key ++ [c], by omega, by omega, keyF_snoc hk k2 k3 (by omega) (by omega), by simp; omega, h2.right⟩, by omega⟩

/-- Which of the n have been put among the members. -/
structure Has (n : Nat) (hs : List Bool) (Ms : List (List UInt8)) : Prop where
  len : hs.length = n
  mem : ∀ m ∈ Ms, ∃ k, k < n ∧ m = nm k
  is : ∀ k, k < n → (hs[k]? = some true ↔ nm k ∈ Ms)
  once : Ms.Nodup
theorem Has.nil {n : Nat} : Has n (List.replicate n false) [] := ⟨by simp, by simp, fun k hk => by simp [List.getElem?_replicate, hk], by simp⟩
theorem Has.set {n k : Nat} {hs : List Bool} {Ms : List (List UInt8)} (h : Has n hs Ms) (hk : k < n) (hm : nm k ∈ Ms) : Has n (hs.set k true) Ms := by
  refine ⟨by simp [h.len], h.mem, fun j hj => ?_, h.once⟩
  rw [List.getElem?_set]
  by_cases e : k = j
  · subst e
    rw [if_pos rfl, if_pos (by rw [h.len]; exact hk)]
    simp [hm]
  · rw [if_neg e]; exact h.is j hj
theorem Has.add {n k : Nat} {hs : List Bool} {Ms : List (List UInt8)} (h : Has n hs Ms) (hn : n ≤ 30) (hk : k < n) (hm : nm k ∉ Ms) : Has n (hs.set k true) (Ms ++ [nm k]) := by
  refine ⟨by simp [h.len], fun m hx => ?_, fun j hj => ?_, ?_⟩
  · rcases List.mem_append.1 hx with hx | hx
    · exact h.mem m hx
    · exact ⟨k, hk, by simpa using hx⟩
  · rw [List.getElem?_set]
    by_cases e : k = j
    · subst e
      rw [if_pos rfl, if_pos (by rw [h.len]; exact hk)]
      simp
    · rw [if_neg e, h.is j hj]
      simp only [List.mem_append, List.mem_singleton]
      exact ⟨.inl, fun x => x.resolve_right fun y => e (nm_inj (by omega) (by omega) y.symm)⟩
  · rw [List.nodup_append]
    refine ⟨h.once, by simp, fun x hx y hy => ?_⟩
    simp only [List.mem_singleton] at hy
    subst hy
    rintro rfl
    exact hm hx
theorem Has.few {n : Nat} {hs : List Bool} {Ms : List (List UInt8)} (h : Has n hs Ms) : Ms.length ≤ n := by
  have := nodup_len (m := (List.range n).map nm) h.once fun m hm => by
    obtain ⟨k, hk, e⟩ := h.mem m hm
    exact List.mem_map.2 ⟨k, List.mem_range.2 hk, e.symm⟩
  simpa using this

abbrev rowB (v : Value) (n : Nat) (hs : List Bool) : HP := RowO 4 1 v n (hs.map .bool)
end
section
attribute [local go_sem] F22.t17_eq F22.t13_eq F22.t14_eq F22.t20_eq F22.t21_eq F22.t5_eq F22.t6_eq F22.t25_eq
theorem made_10 {w0 w : World} {A : HP} {P n i : Nat} {ar : Option Addr} {cr : Nat} {vo : Value} {L : List AV} {ws : List WhoD} {nam lead : List UInt8} {e : FA} {Q : Post} (he : MadeE e (.slice ar ws.length cr) vo n i) (e6 : e.ρ 6 = .pointer (some ⟨P, 0, none⟩)) (hn : L.length ≤ 30) (hn30 : n ≤ 30) (hn0 : 0 < n)
    (hw : WhosP A (.slice ar ws.length cr) ws) (hi : i < ws.length)
    (h : St w0 (bkA P ⟨nam, lead, [], []⟩ (.slice none 0 0) * (rowA vo L * A)) w)
    (hQ : ∀ (e' : FA) (w' : World) (vo' v : Value) (Ms : List (List UInt8)) (key : List UInt8), keyF key = true → (∀ m ∈ Ms, ∃ k, k < n ∧ m = nm k) → Ms.Nodup → Ms.length ≤ n → isCell v = true → MadeE e' (.slice ar ws.length cr) vo' n i → St w0 (rowA vo' (L ++ [(⟨nam, lead, Ms, key⟩, v)]) * (rowT v Ms * A)) w' → Q .normal e' w') : cwE Tryd.prog F22.t10 Q e w := by
  obtain ⟨hd, e0, e3, e4, e5⟩ := he
  rw [F22.t10_eq]
  simp -dsimp -implicitDefEqProofs (disch := omega) only [go_sem, reqD_of, dec_t, dec_f, wrap_i64, wrap_u32, wrap_u64, wrap_u8, hd, e4]
  refine h.make1 fact_rowTy_93 (n := n) (c := n) (by omega) (by omega) (by omega) fun bh w1 h1 => ?_
  simp -dsimp -implicitDefEqProofs (disch := omega) only [go_sem, reqD_of, dec_t, dec_f, wrap_i64, wrap_u32, wrap_u64, wrap_u8, hd, e4]
  have h2 : St w0 (rowB (.slice (some ⟨bh, 0, none⟩) n n) n (List.replicate n false) * (rowT (.slice none 0 0) [] * (bkA P ⟨nam, lead, [], []⟩ (.slice none 0 0) * (rowA vo L * A)))) w1 := by
    have h3 : St w0 (rowT (.slice none 0 0) [] * (RowO 4 1 (.slice (some ⟨bh, 0, none⟩) n n) n (List.replicate n (.bool false)) * (bkA P ⟨nam, lead, [], []⟩ (.slice none 0 0) * (rowA vo L * A)))) w1 := h1.nilR 9 1
    have e2 : (List.replicate n false).map Value.bool = List.replicate n (.bool false) := by simp
    unfold rowB
    rw [e2]
    exact h3.ac (by ac_rfl)
  refine loop_intro (fun e w' => MadeE e (.slice ar ws.length cr) vo n i ∧ e.ρ 6 = .pointer (some ⟨P, 0, none⟩) ∧ e.ρ 8 = .slice (some ⟨bh, 0, none⟩) n n ∧ ∃ (j : Nat) (hs : List Bool) (Ms : List (List UInt8)) (v : Value), j ≤ (ws[i].ms).length ∧ e.ρ 9 = .int .i64 j ∧ Has n hs Ms ∧
      St w0 (rowB (.slice (some ⟨bh, 0, none⟩) n n) n hs * (rowT v Ms * (bkA P ⟨nam, lead, Ms, []⟩ v * (rowA vo L * A)))) w')
    (fun e _ => match e.ρ 9 with | .int _ n => (ws[i].ms.length - n).toNat | _ => 0) ?_ ?_
  · exact ⟨⟨by simp -dsimp -implicitDefEqProofs only [go_sem, hd], by simp -dsimp -implicitDefEqProofs only [go_sem, e0], by simp -dsimp -implicitDefEqProofs only [go_sem, e3], by simp -dsimp -implicitDefEqProofs only [go_sem, e4], by simp -dsimp -implicitDefEqProofs only [go_sem, e5]⟩, by simp -dsimp -implicitDefEqProofs only [go_sem, e6], by simp -dsimp -implicitDefEqProofs only [go_sem], 0, _, [], _, by omega, by simp -dsimp -implicitDefEqProofs only [go_sem], Has.nil, h2⟩
  clear h h1 h2 hd e0 e3 e4 e5 e6 e w w1
  rintro e w ⟨he, e6, e8, j, hs, Ms, v, hj, e9, hh, h⟩
  obtain ⟨hd, e0, e3, e4, e5⟩ := he
  obtain ⟨av, cv, rfl, _⟩ := h.rowForm v
  have hfew := hh.few
  have hlen := hh.len
  have gA : Gives (rowB (.slice (some ⟨bh, 0, none⟩) n n) n hs * (rowT (.slice av Ms.length cv) Ms * (bkA P ⟨nam, lead, Ms, []⟩ (.slice av Ms.length cv) * (rowA vo L * A)))) A := inferInstance
  obtain ⟨_, a', c', hv', _, hrow⟩ := St.rowsAt whoC_len (by decide) (h.ent (gA.ent.trans hw.rd))
  simp only [Value.slice.injEq, true_and] at hv'
  obtain ⟨rfl, rfl⟩ := hv'
  obtain ⟨b, o, rfl, _, hc⟩ := hrow i hi
  have hc1 : w.cell? ⟨b, o + i * 3 + 1, none⟩ = some ws[i].v := hc 1 (by decide)
  have hx := hw.el _ (List.getElem_mem hi)
  have hil : (i : Int) < ws.length := by omega
  obtain ⟨x, hxe⟩ : ∃ x, x = ws[i] := ⟨_, rfl⟩
  rw [← hxe] at hc1 hx hj
  rw [← hxe]
  obtain ⟨am, cm, hxv⟩ : ∃ a c, x.v = .slice a x.ms.length c := by
    obtain ⟨_, _, _, a, c, e, _⟩ := (h.ent (gA.ent.trans hx.rd)).sat
    exact ⟨a, c, e⟩
  rw [hxv] at hc1
  have hrd := hx.rd
  rw [hxv] at hrd
  have hfx := hx.few
  by_cases hlt : (j : Int) < x.ms.length
  case neg =>
    simp -dsimp -implicitDefEqProofs (disch := omega) only [go_sem, reqD_of, dec_t, dec_f, wrap_i64, wrap_u32, wrap_u64, wrap_u8, hd, e0, e3, e4, e5, e6, e8, e9, hil, hc1, hlt]
    refine made_18 (P := P) (v := .slice av Ms.length cv) (nam := nam) (lead := lead) (Ms := Ms) (vo := vo) (L := L) ⟨by simp -dsimp -implicitDefEqProofs only [go_sem, hd], by simp -dsimp -implicitDefEqProofs only [go_sem, e0], by simp -dsimp -implicitDefEqProofs only [go_sem, e3], by simp -dsimp -implicitDefEqProofs only [go_sem, e4], by simp -dsimp -implicitDefEqProofs only [go_sem, e5]⟩ (by simp -dsimp -implicitDefEqProofs only [go_sem, e6]) hn hw hi (h.right.ac (by ac_rfl)) fun e' w' vo' key hk he h' => hQ e' w' vo' _ Ms key hk hh.mem hh.once hfew rfl he h'
  have hlt' : j < x.ms.length := by omega
  obtain ⟨bm, om, rfl, hcm⟩ := (h.ent (gA.ent.trans hrd)).atS (a := am) (n := x.ms.length) (c := cm) (xs := x.ms.map fun z => .int .i64 z) (k := j) (by simpa using hlt')
  rw [List.getElem_map] at hcm
  have hz := hx.each _ (List.getElem_mem hlt')
  obtain ⟨z, hze⟩ : ∃ z, z = x.ms[j] := ⟨_, rfl⟩
  rw [← hze] at hcm hz
  obtain ⟨k, hk, hpk⟩ := pick_nat (c := z) (n := n) hn0
  simp -dsimp -implicitDefEqProofs (disch := omega) only [go_sem, reqD_of, dec_t, dec_f, wrap_i64, wrap_u32, wrap_u64, wrap_u8, hd, e0, e3, e4, e5, e6, e8, e9, hil, hc1, hlt, hcm]
  refine (pick_any h hz (n := (n : Nat)) (by omega) (by omega)).mono ?_
  rintro e' w1 ⟨h1, rfl⟩
  rw [hpk]
  have hkn : (k : Int) < n := by omega
  have hch := h1.atG (g := bh) (o := 0) (n := n) (c := n) (xs := hs.map Value.bool) (k := k) (by simp; omega)
  rw [List.getElem_map, Nat.zero_add] at hch
  have hbk := hh.is k hk
  rw [List.getElem?_eq_getElem (by omega)] at hbk
  cases hb : hs[k]
  case true =>
    rw [hb] at hbk hch
    have hm : nm k ∈ Ms := hbk.1 rfl
    simp -dsimp -implicitDefEqProofs (disch := omega) only [go_sem, reqD_of, dec_t, dec_f, wrap_i64, wrap_u32, wrap_u64, wrap_u8, hd, e0, e3, e4, e5, e6, e8, e9, hkn, hch]
    rw [show (⟨bh, k, none⟩ : Addr) = ⟨bh, 0 + k, none⟩ by rw [Nat.zero_add]]
    refine h1.rowSet1 (g := bh) (o := 0) (n := n) (c := n) (k := k) (v := .bool true) (by simp; omega) rfl fun w2 h2 => ?_
    rw [show (hs.map Value.bool).set k (.bool true) = (hs.set k true).map Value.bool by rw [List.map_set]] at h2
    simp -dsimp -implicitDefEqProofs (disch := omega) only [go_sem, reqD_of, dec_t, dec_f, wrap_i64, wrap_u32, wrap_u64, wrap_u8, hd, e0, e3, e4, e5, e6, e8, e9]
    exact ⟨⟨⟨by simp -dsimp -implicitDefEqProofs only [go_sem, hd], by simp -dsimp -implicitDefEqProofs only [go_sem, e0], by simp -dsimp -implicitDefEqProofs only [go_sem, e3], by simp -dsimp -implicitDefEqProofs only [go_sem, e4], by simp -dsimp -implicitDefEqProofs only [go_sem, e5]⟩, j + 1, hs.set k true, Ms, _, by omega, by omega, hh.set hk hm, h2⟩, by omega⟩
  case false =>
    rw [hb] at hbk hch
    have hm : nm k ∉ Ms := fun x => by cases hbk.2 x
    simp -dsimp -implicitDefEqProofs (disch := omega) only [go_sem, reqD_of, dec_t, dec_f, wrap_i64, wrap_u32, wrap_u64, wrap_u8, hd, e0, e3, e4, e5, e6, e8, e9, hkn, hch, h1.cl P, h1.drew.cl P]
    refine (nameU_any h1.drew (i := k) (by omega)).mono ?_
    rintro e' w2 ⟨h2, rfl⟩
    simp -dsimp -implicitDefEqProofs (disch := omega) only [go_sem, reqD_of, dec_t, dec_f, wrap_i64, wrap_u32, wrap_u64, wrap_u8, hd, e6, h2.cl P]
    refine h2.lit (t := 33) (cells := [sv (nm k)]) fact_rowTy_33 rfl (by decide) (by decide) fun v8 w8 h8 => ?_
    obtain ⟨a8, c8, rfl, _⟩ := h8.rowForm v8
    simp -dsimp -implicitDefEqProofs (disch := omega) only [go_sem, reqD_of, dec_t, dec_f, wrap_i64, wrap_u32, wrap_u64, wrap_u8, hd, e6, h8.cl P]
    refine h8.appR (v := .slice av Ms.length cv) (x := .slice a8 1 c8) fact_rowTy_33 Tryd.underlying33 (fun u hu => by simp at hu; subst hu; rfl) (by simp) (show _ ≤ 9223372036854775807 by omega) (by omega) fun v9 w9 h9 => ?_
    obtain ⟨a9, c9, rfl, _⟩ := h9.rowForm v9
    simp -dsimp -implicitDefEqProofs (disch := omega) only [go_sem, reqD_of, dec_t, dec_f, wrap_i64, wrap_u32, wrap_u64, wrap_u8, hd, e6, h9.cl P]
    refine h9.sto (b := P) (off := 2) (by simp) rfl fun w10 h10 => ?_
    simp only [List.setIfInBounds_toArray, List.set_cons_succ, List.set_cons_zero] at h10
    simp -dsimp -implicitDefEqProofs (disch := omega) only [go_sem, reqD_of, dec_t, dec_f, wrap_i64, wrap_u32, wrap_u64, wrap_u8, hd, e0, e3, e4, e5, e6, e8, e9, hkn]
    rw [show (⟨bh, k, none⟩ : Addr) = ⟨bh, 0 + k, none⟩ by rw [Nat.zero_add]]
    refine h10.rowSet1 (g := bh) (o := 0) (n := n) (c := n) (k := k) (v := .bool true) (by simp; omega) rfl fun w11 h11 => ?_
    rw [show (hs.map Value.bool).set k (.bool true) = (hs.set k true).map Value.bool by rw [List.map_set]] at h11
    simp -dsimp -implicitDefEqProofs (disch := omega) only [go_sem, reqD_of, dec_t, dec_f, wrap_i64, wrap_u32, wrap_u64, wrap_u8, hd, e0, e3, e4, e5, e6, e8, e9]
    have el : (Ms ++ [nm k]).length = Ms.length + 1 := by simp
    have em : (Ms ++ [nm k]).map sv = Ms.map sv ++ [sv (nm k)] := by simp
    refine ⟨⟨⟨by simp -dsimp -implicitDefEqProofs only [go_sem, hd], by simp -dsimp -implicitDefEqProofs only [go_sem, e0], by simp -dsimp -implicitDefEqProofs only [go_sem, e3], by simp -dsimp -implicitDefEqProofs only [go_sem, e4], by simp -dsimp -implicitDefEqProofs only [go_sem, e5]⟩, j + 1, hs.set k true, Ms ++ [nm k], .slice a9 (Ms.length + 1) c9, by omega, by omega, hh.add hn30 hk hm, ?_⟩, by omega⟩
    unfold rowT
    rw [el, em]
    exact h11.sub
end
end Go.Proofs.YtkijkoakloacoaaDoor

namespace Go.Proofs.YtkijkoakloacoaaDoor
open Go
set_option linter.unusedVariables false
set_option linter.unusedSimpArgs false
set_option maxRecDepth 100000

theorem WhosP.form {w0 w : World} {F : HP} {v : Value} {ws : List WhoD} (s : WhosP F v ws) (h : St w0 F w) : ∃ a c, v = .slice a ws.length c := by
  obtain ⟨_, a, c, e, _⟩ := St.rowsAt whoC_len (by decide) (h.ent s.rd)
  exact ⟨a, c, e⟩
theorem WhosP.weak {F A : HP} {v : Value} {ws : List WhoD} (s : WhosP F v ws) (k : Ent A F) : WhosP A v ws :=
  ⟨k.trans s.rd, fun x hx => { s.el x hx with rd := k.trans (s.el x hx).rd }, s.few⟩

section
attribute [local go_sem] F22.t17_eq F22.t13_eq F22.t14_eq F22.t20_eq F22.t21_eq F22.t24_eq F22.t18_eq F22.t5_eq F22.t6_eq F22.t25_eq
theorem made_any {w0 w : World} {A : HP} {ar : Option Addr} {cr : Nat} {ws : List WhoD} (h : St w0 A w) (hw : WhosP A (.slice ar ws.length cr) ws) :
    Calls Tryd.prog 22 #[.slice ar ws.length cr] w fun e w' => ∃ (L : List AV) (vo : Value) (B : HP), Made (accs L) ∧ MsOk B L ∧ L.length = min ws.length 30 ∧ St w0 (rowA vo L * (B * A)) w' ∧ e = .returned vo := by
  refine F22.calls (by simp) ?_
  unfold F22.code
  obtain ⟨n, hn⟩ : ∃ n : Nat, n = min ws.length 30 := ⟨_, rfl⟩
  rw [← hn]
  have hn30 : n ≤ 30 := by omega
  have hnw : n ≤ ws.length := by omega
  have hmin : (if (ws.length : Int) ≤ 30 then (ws.length : Int) else 30) = (n : Nat) := by split <;> omega
  have hmin2 : (if (30 : Int) < (ws.length : Int) then (30 : Int) else (ws.length : Int)) = (n : Nat) := by split <;> omega
  have hmin3 : min (ws.length : Int) 30 = (n : Nat) := by omega
  simp -dsimp -implicitDefEqProofs (disch := omega) only [go_sem, reqD_of, dec_t, dec_f, wrap_i64, wrap_u32, wrap_u64, wrap_u8, hmin, hmin2, hmin3]
  have h0 : St w0 (rowA (.slice none 0 0) [] * (EmpH * A)) w := (h.ent (empL' _)).nilR 46 4
  refine loop_intro (fun e w' => ∃ (i : Nat) (L : List AV) (vo : Value) (B : HP), MadeE e (.slice ar ws.length cr) vo n i ∧ i ≤ n ∧ L.length = i ∧ (∀ j (hj : j < L.length), MadeA n j L[j].1) ∧ MsOk B L ∧ St w0 (rowA vo L * (B * A)) w')
    (fun e _ => match e.ρ 5 with | .int _ i => (n - i).toNat | _ => 0) ?_ ?_
  · exact ⟨0, [], .slice none 0 0, EmpH, ⟨by simp -dsimp -implicitDefEqProofs only [go_sem], by simp -dsimp -implicitDefEqProofs only [go_sem], by simp -dsimp -implicitDefEqProofs only [go_sem], by simp -dsimp -implicitDefEqProofs only [go_sem], by simp -dsimp -implicitDefEqProofs only [go_sem]⟩, by omega, rfl, fun j hj => (by simp at hj), fun x hx => (by cases hx), h0⟩
  clear h h0 w
  rintro e w ⟨i, L, vo, B, ⟨hd, e0, e3, e4, e5⟩, hi, hLi, hma, hms, h⟩
  obtain ⟨ao, co, rfl, _⟩ := h.rowForm vo
  by_cases hlt : (i : Int) < (n : Int)
  case neg =>
    simp -dsimp -implicitDefEqProofs (disch := omega) only [go_sem, reqD_of, dec_t, dec_f, wrap_i64, wrap_u32, wrap_u64, wrap_u8, hd, e0, e3, e4, e5, hlt]
    refine ⟨L, _, B, ⟨by simp; omega, fun j hj => ?_⟩, hms, by omega, h, rfl⟩
    have := hma j (by simpa using hj)
    have e1 : (accs L).length = n := by simp; omega
    rw [e1]
    simpa using this
  have hin : i < ws.length := by omega
  have hil : (i : Int) < ws.length := by omega
  have gA : Gives (rowA (.slice ao L.length co) L * (B * A)) A := inferInstance
  obtain ⟨_, a', c', hv', _, hrow⟩ := St.rowsAt whoC_len (by decide) (h.ent (gA.ent.trans hw.rd))
  simp only [Value.slice.injEq, true_and] at hv'
  obtain ⟨rfl, rfl⟩ := hv'
  obtain ⟨b, o, rfl, _, _⟩ := hrow i hin
  have hx := hw.el _ (List.getElem_mem hin)
  -- the cell of a row, in any such world
  have lead : ∀ {F : HP} {w' : World}, St w0 (F * (rowA (.slice ao L.length co) L * (B * A))) w' → w'.cell? ⟨b, o + i * 3, none⟩ = some (.int .i64 ws[i].lead) := fun {F w'} hs => by
    obtain ⟨_, _, _, hv', _, hrow⟩ := St.rowsAt whoC_len (by decide) (hs.ent ((Ent.right _ _).trans (gA.ent.trans hw.rd)))
    simp only [Value.slice.injEq, true_and] at hv'
    obtain ⟨e1, rfl⟩ := hv'
    obtain ⟨b', o', e2, _, hc⟩ := hrow i hin
    rw [← e1] at e2
    simp only [Option.some.injEq, Addr.mk.injEq, and_true] at e2
    obtain ⟨rfl, rfl⟩ := e2
    exact hc 0 (by decide)
  simp -dsimp -implicitDefEqProofs (disch := omega) only [go_sem, reqD_of, dec_t, dec_f, wrap_i64, wrap_u32, wrap_u64, wrap_u8, hd, e0, e3, e4, e5, hlt]
  refine (nameU_any h (i := i) (by omega)).mono ?_
  rintro e' w1 ⟨h1, rfl⟩
  simp -dsimp -implicitDefEqProofs (disch := omega) only [go_sem, reqD_of, dec_t, dec_f, wrap_i64, wrap_u32, wrap_u64, wrap_u8, hd]
  refine onV_of (v := accV ⟨nm i, [], [], []⟩ (.slice none 0 0)) (by kernel_rfl) ?_
  simp -dsimp -implicitDefEqProofs (disch := omega) only [go_sem, reqD_of, dec_t, dec_f, wrap_i64, wrap_u32, wrap_u64, wrap_u8, hd]
  refine h1.new fun P w2 h2 => ?_
  simp -dsimp -implicitDefEqProofs (disch := omega) only [go_sem, reqD_of, dec_t, dec_f, wrap_i64, wrap_u32, wrap_u64, wrap_u8, hd, e0, e4, e5]
  refine h2.stoAll (b := P) (n := 4) (cs := accL ⟨nm i, [], [], []⟩ (.slice none 0 0)) rfl rfl (fun v hv => by simp at hv; rcases hv with rfl | rfl | rfl | rfl <;> rfl) fun w3 h3 => ?_
  simp -dsimp -implicitDefEqProofs (disch := omega) only [go_sem, reqD_of, dec_t, dec_f, wrap_i64, wrap_u32, wrap_u64, wrap_u8, hd, e0, e4, e5, hil, lead h3]
  obtain ⟨k, hk, hpk⟩ := pick_nat (c := ws[i].lead) (n := 2 * n) (by omega)
  rw [show ((2 * n : Nat) : Int) = 2 * (n : Int) by omega] at hpk
  refine (pick_any h3 hx.lead (n := 2 * (n : Int)) (by omega) (by omega)).mono ?_
  rintro e' w4 ⟨h4, rfl⟩
  rw [hpk]
  by_cases hkn : (k : Int) < n
  case' pos =>
    simp -dsimp -implicitDefEqProofs (disch := omega) only [go_sem, reqD_of, dec_t, dec_f, wrap_i64, wrap_u32, wrap_u64, wrap_u8, hd, e0, e3, e4, e5, hkn]
    refine (nameU_any h4 (i := k) (by omega)).mono ?_
    rintro e' w5 ⟨h5, rfl⟩
    simp -dsimp -implicitDefEqProofs (disch := omega) only [go_sem, reqD_of, dec_t, dec_f, wrap_i64, wrap_u32, wrap_u64, wrap_u8, hd]
    refine h5.sto (b := P) (off := 1) (by simp) rfl fun w6 h6 => ?_
    simp only [List.setIfInBounds_toArray, List.set_cons_succ, List.set_cons_zero] at h6
    simp -dsimp -implicitDefEqProofs (disch := omega) only [go_sem, reqD_of, dec_t, dec_f, wrap_i64, wrap_u32, wrap_u64, wrap_u8, hd]
    obtain ⟨ld, hld, h7⟩ : ∃ ld, (ld = [] ∨ ∃ k, k < n ∧ ld = nm k) ∧ St w0 (bkA P ⟨nm i, ld, [], []⟩ (.slice none 0 0) * (rowA (.slice ao L.length co) L * (B * A))) w6 := ⟨nm k, .inr ⟨k, by omega, rfl⟩, h6⟩
    clear h6
  case' neg =>
    simp -dsimp -implicitDefEqProofs (disch := omega) only [go_sem, reqD_of, dec_t, dec_f, wrap_i64, wrap_u32, wrap_u64, wrap_u8, hd, e0, e3, e4, e5, hkn]
    obtain ⟨ld, hld, h7⟩ : ∃ ld, (ld = [] ∨ ∃ k, k < n ∧ ld = nm k) ∧ St w0 (bkA P ⟨nm i, ld, [], []⟩ (.slice none 0 0) * (rowA (.slice ao L.length co) L * (B * A))) w4 := ⟨[], .inl rfl, h4⟩
  all_goals
    clear h1 h2 h3 h4 lead
    refine made_10 (P := P) (nam := nm i) (lead := ld) (L := L) (ws := ws) (A := B * A) (ar := some ⟨b, o, none⟩) (cr := cr) (n := n) (i := i) (vo := .slice ao L.length co) ⟨by simp -dsimp -implicitDefEqProofs only [go_sem, hd], by simp -dsimp -implicitDefEqProofs only [go_sem, e0], by simp -dsimp -implicitDefEqProofs only [go_sem, e3], by simp -dsimp -implicitDefEqProofs only [go_sem, e4], by simp -dsimp -implicitDefEqProofs only [go_sem, e5]⟩ (by simp -dsimp -implicitDefEqProofs only [go_sem]) (by omega) hn30 (by omega) (hw.weak (Ent.right _ _)) hin h7 ?_
    rintro e' w' vo' v Ms key hkey hmem honce hfew hcell ⟨fd, f0, f3, f4, f5⟩ h'
    simp -dsimp -implicitDefEqProofs (disch := omega) only [go_sem, reqD_of, dec_t, dec_f, wrap_i64, wrap_u32, wrap_u64, wrap_u8, fd, f5, e5]
    refine ⟨⟨i + 1, L ++ [(⟨nm i, ld, Ms, key⟩, v)], vo', rowT v Ms * B, ⟨by simp -dsimp -implicitDefEqProofs only [go_sem, fd], by simp -dsimp -implicitDefEqProofs only [go_sem, f0], by simp -dsimp -implicitDefEqProofs only [go_sem, f3], by simp -dsimp -implicitDefEqProofs only [go_sem, f4], by simp -dsimp -implicitDefEqProofs only [go_sem]; omega⟩, by omega, by simp [hLi], fun j hj => ?_, hms.snoc (Ent.right _ _) ((Ent.left _ _).trans (RowO.reads _ _ _ _ _)) ⟨by have := (keyF_facts hkey).1; show key.length ≤ _; omega, by show Ms.length ≤ _; omega⟩ hcell, h'.ac (by ac_rfl)⟩, by omega⟩
    rw [List.getElem_append]
    split
    · rename_i hj'; exact hma j hj'
    · rename_i hj'
      have : j = i := by simp at hj; omega
      subst this
      simp only [hLi, Nat.sub_self, List.getElem_cons_zero]
      exact ⟨rfl, hld, hmem, honce, hkey⟩
end
end Go.Proofs.YtkijkoakloacoaaDoor
