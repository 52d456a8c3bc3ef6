/- NamesLead. -/
import Derived.Test.YtlnlomjdooobdaaDoorNaT
import Derived.Test.YtlnlomjdooobdaaDoorNaR
namespace Go.Proofs.YtlnlomjdooobdaaDoor
open Go
set_option linter.unusedVariables false
set_option linter.unusedSimpArgs false
set_option maxRecDepth 100000

section
attribute [local go_sem] F4.t18_eq F4.t22_eq F4.t13_eq F4.t10_eq F4.t8_eq F4.t4_eq
theorem namesLead_tail {w0 w : World} {A : HP} {ts : List (Nat × List UInt8)} {ps q : List (List UInt8)} {r : Bool} {u v vp vq : Value} {P8 P12 y : Nat} {e : FA} {R : Ending → World → Prop} {θ : Tag (F4.t19, fnP Tryd.prog #[.tmp 6] R, e, w)}
    (hd : e.ds = []) (e8 : e.ρ 8 = .pointer (some ⟨P8, 0, none⟩)) (e12 : e.ρ 12 = .pointer (some ⟨P12, 0, none⟩)) (e14 : e.ρ 14 = u) (e15 : e.ρ 15 = v) (e16 : e.ρ 16 = .int .i64 y)
    (ht : TreeOk ts) (hy : y < ts.length) (hr : r = true → y = 0) (hps : ∀ p ∈ ps, Part p) (hq : q = redF r ps) (hpl : ps.length ≤ 4294967280) (hql : q.length ≤ 4294967280)
    (h : St w0 (RowO 3 1 u ts.length (ts.map fun t => nv t.1) * (RowO 9 1 v ts.length (ts.map fun t => sv t.2) *
      (Blk P12 (.cells #[.bool r, vq] 26 (0, 0)) * (RowO 9 1 vq q.length (q.map sv) * (Blk P8 (.cells #[.bool r, vp] 26 (0, 0)) * (RowO 9 1 vp ps.length (ps.map sv) * A)))))) w)
    (hQ : ∀ w', St w0 A w' → R (.returned (.bool true)) w') :
    cwE Tryd.prog F4.t19 (fnP Tryd.prog #[.tmp 6] R) e w θ := by
  obtain ⟨au, cu, rfl, _, huc, _⟩ := h.rowForm u
  obtain ⟨av, cv, rfl, _, hvc, _⟩ := h.rowForm v
  obtain ⟨ap, cp, rfl, _, hpc, _⟩ := h.rowForm vp
  obtain ⟨aq, cq, rfl, _, hqc, _⟩ := h.rowForm vq
  rw [F4.t19_eq]
  have c8 := h.cl P8
  have c12 := h.cl P12
  simp -dsimp -implicitDefEqProofs (disch := omega) only [go_sem, reqD_of, dec_t, dec_f, wrap_i64, wrap_u32, wrap_u64, wrap_u8, hd, e8, e12, e14, e15, e16, c8]
  refine (leads_any h (ts := ts) (q := ps) (u := .slice au ts.length cu) (v := .slice av ts.length cv) (x := .slice ap ps.length cp) Gives.ent Gives.ent Gives.ent ht.le hpl hy ht.low).mono ?_
  rintro e' w1 ⟨h1, ⟨k, hk, rfl⟩ | ⟨hk, rfl⟩⟩
  case inr =>
    simp -dsimp -implicitDefEqProofs (disch := omega) only [go_sem, reqD_of, dec_t, dec_f, wrap_i64, wrap_u32, wrap_u64, wrap_u8, hd]
    exact hQ _ h1.right.right.right.right.right.right
  have c8 := h1.cl P8
  have c12 := h1.cl P12
  simp -dsimp -implicitDefEqProofs (disch := omega) only [go_sem, reqD_of, dec_t, dec_f, wrap_i64, wrap_u32, wrap_u64, wrap_u8, hd, e8, e12, e14, e15, e16, c12]
  refine (leads_any h1 (ts := ts) (q := q) (u := .slice au ts.length cu) (v := .slice av ts.length cv) (x := .slice aq q.length cq) Gives.ent Gives.ent Gives.ent ht.le hql hy ht.low).mono ?_
  have key := lead_law hr ht.root (fun m p k hk => (childT_at hk).2) hps hk
  rw [← hq] at key
  rintro e' w2 ⟨h2, ⟨k', hk', rfl⟩ | ⟨hk', rfl⟩⟩
  case inr => rw [key] at hk'; cases hk'
  obtain rfl : k = k' := Option.some.inj (key.symm.trans hk')
  have c8 := h2.cl P8
  have c12 := h2.cl P12
  have rr : (r == r) = true := by cases r <;> rfl
  simp -dsimp -implicitDefEqProofs (disch := omega) only [go_sem, reqD_of, dec_t, dec_f, wrap_i64, wrap_u32, wrap_u64, wrap_u8, hd, e8, e12, e14, e15, e16, c12, c8, rr]
  exact hQ _ h2.right.right.right.right.right.right

theorem namesLead_any {w0 w : World} {A : HP} (h : St w0 A w) [Gives A Tabs] {zs : List Int} {r : Value} (hr : Ent A (Reads 1 r zs.length (zs.map fun z => .int .i64 z))) (hz : ∀ z ∈ zs, -9223372036854775808 ≤ z ∧ z ≤ 9223372036854775807) (hzl : zs.length ≤ 4611686018427387904)
    (f : Int) (hf : -9223372036854775808 ≤ f ∧ f ≤ 9223372036854775807) (l : List UInt8) (hm : l.length ≤ 9223372036854775807) :
    Calls Tryd.prog 4 #[r, .int .i64 f, .string (strOf l)] w fun e w' => St w0 A w' ∧ e = .returned (.bool true) := by
  obtain ⟨a0, cc0, rfl, _⟩ := readForm h hr
  haveI i0 : Gives A (Reads 1 (.slice a0 zs.length cc0) zs.length (zs.map fun z => .int .i64 z)) := ⟨hr⟩
  refine F4.calls (by simp) ?_
  unfold F4.code
  simp -dsimp -implicitDefEqProofs (disch := omega) only [go_sem, reqD_of, dec_t, dec_f, wrap_i64, wrap_u32, wrap_u64, wrap_u8]
  refine (awake_any h).mono ?_
  rintro e w1 ⟨h1, rfl⟩
  simp -dsimp -implicitDefEqProofs (disch := omega) only [go_sem, reqD_of, dec_t, dec_f, wrap_i64, wrap_u32, wrap_u64, wrap_u8]
  by_cases hb : (268435456 : Int) < l.length
  · simp -dsimp -implicitDefEqProofs (disch := omega) only [go_sem, reqD_of, dec_t, dec_f, wrap_i64, wrap_u32, wrap_u64, wrap_u8, hb]
    exact h1
  have hl : l.length ≤ 268435456 := by omega
  simp -dsimp -implicitDefEqProofs (disch := omega) only [go_sem, reqD_of, dec_t, dec_f, wrap_i64, wrap_u32, wrap_u64, wrap_u8, hb]
  refine (split_any h1 (l := l) (by omega)).mono ?_
  rintro e w2 (⟨ps, vp, hs, h2, rfl⟩ | ⟨hs, h2, rfl⟩)
  · obtain ⟨s, hcs⟩ : ∃ s, cleanF l = some s := ⟨_, by rw [cleanF, hs]; rfl⟩
    obtain ⟨ps', q, hps, hq, hsj, hok, hsp, hro, hcc⟩ := clean_law hcs
    obtain rfl : ps = ps' := Option.some.inj (hs.symm.trans hps)
    have sl := (clean_len hcs).1
    have hpl := (split_small hs).2
    have hql := (split_small hsp).2
    have hpp := partsF_part _ _ hs
    simp -dsimp -implicitDefEqProofs (disch := omega) only [go_sem, reqD_of, dec_t, dec_f, wrap_i64, wrap_u32, wrap_u64, wrap_u8]
    refine h2.new fun P8 w3 h3 => ?_
    simp -dsimp -implicitDefEqProofs (disch := omega) only [go_sem, reqD_of, dec_t, dec_f, wrap_i64, wrap_u32, wrap_u64, wrap_u8]
    refine h3.stoAll (b := P8) (n := 2) (cs := [.bool (rooted l), vp]) rfl rfl (fun u hu => ?_) fun w4 h4 => ?_
    · obtain ⟨a, c, rfl, _⟩ := h2.rowForm vp
      simp at hu; rcases hu with rfl | rfl <;> rfl
    simp -dsimp -implicitDefEqProofs (disch := omega) only [go_sem, reqD_of, dec_t, dec_f, wrap_i64, wrap_u32, wrap_u64, wrap_u8]
    refine (clean_any h4 (l := l) (by omega)).mono ?_
    rintro e w5 (⟨s', hs', h5, rfl⟩ | ⟨hs', h5, rfl⟩)
    case inr => rw [hcs] at hs'; cases hs'
    obtain rfl : s = s' := Option.some.inj (hcs.symm.trans hs')
    simp -dsimp -implicitDefEqProofs (disch := omega) only [go_sem, reqD_of, dec_t, dec_f, wrap_i64, wrap_u32, wrap_u64, wrap_u8]
    refine (split_any h5 (l := s) (by omega)).mono ?_
    rintro e w6 (⟨q', vq, hx7, h6, rfl⟩ | ⟨hx7, h6, rfl⟩)
    case inr => rw [hsp] at hx7; cases hx7
    obtain rfl : q = q' := Option.some.inj (hsp.symm.trans hx7)
    simp -dsimp -implicitDefEqProofs (disch := omega) only [go_sem, reqD_of, dec_t, dec_f, wrap_i64, wrap_u32, wrap_u64, wrap_u8]
    refine h6.new fun P12 w7 h7 => ?_
    simp -dsimp -implicitDefEqProofs (disch := omega) only [go_sem, reqD_of, dec_t, dec_f, wrap_i64, wrap_u32, wrap_u64, wrap_u8]
    refine h7.stoAll (b := P12) (n := 2) (cs := [.bool (rooted s), vq]) rfl rfl (fun u hu => ?_) fun w8 h8 => ?_
    · obtain ⟨a, c, rfl, _⟩ := h6.rowForm vq
      simp at hu; rcases hu with rfl | rfl <;> rfl
    rw [hro] at h8
    simp -dsimp -implicitDefEqProofs (disch := omega) only [go_sem, reqD_of, dec_t, dec_f, wrap_i64, wrap_u32, wrap_u64, wrap_u8]
    refine (tree_any h8 (r := .slice a0 zs.length cc0) (zs := zs) Gives.ent hz hzl).mono ?_
    rintro e w9 ⟨ts, u, v, ht, h9, rfl⟩
    obtain ⟨au, cu, hau, _, huc, _⟩ := h9.rowForm u
    have hpos := ht.pos
    have hle := ht.le
    have c8 := h9.cl P8
    cases hrt : rooted l with
    | true =>
      rw [hrt] at c8 h9 hq
      simp -dsimp -implicitDefEqProofs (disch := omega) only [go_sem, reqD_of, dec_t, dec_f, wrap_i64, wrap_u32, wrap_u64, wrap_u8, c8, hrt]
      exact namesLead_tail (y := 0) (by simp -dsimp -implicitDefEqProofs only [go_sem]) (by simp -dsimp -implicitDefEqProofs only [go_sem]) (by simp -dsimp -implicitDefEqProofs only [go_sem]) (by simp -dsimp -implicitDefEqProofs only [go_sem]) (by simp -dsimp -implicitDefEqProofs only [go_sem]) (by simp -dsimp -implicitDefEqProofs only [go_sem]) ht hpos (fun _ => rfl) hpp hq (by omega) (by omega) h9 fun w' h' => ⟨h', rfl⟩
    | false =>
      rw [hrt] at c8 h9 hq
      subst hau
      have hz' : ¬ ((ts.length : Int) = 0) := by omega
      by_cases hf0 : f < 0
      · obtain ⟨n, hn⟩ : ∃ n : Nat, 0 - (f + 1) = n := ⟨(0 - (f + 1)).toNat, by omega⟩
        have m1 : ((n : Int)).tmod (ts.length : Int) = ((n % ts.length : Nat) : Int) := rfl
        simp -dsimp -implicitDefEqProofs (disch := omega) only [go_sem, reqD_of, dec_t, dec_f, wrap_i64, wrap_u32, wrap_u64, wrap_u8, c8, hrt, hf0, hn, m1, hz']
        exact namesLead_tail (y := n % ts.length) (by simp -dsimp -implicitDefEqProofs only [go_sem]) (by simp -dsimp -implicitDefEqProofs only [go_sem]) (by simp -dsimp -implicitDefEqProofs only [go_sem]) (by simp -dsimp -implicitDefEqProofs only [go_sem]) (by simp -dsimp -implicitDefEqProofs only [go_sem]) (by simp -dsimp -implicitDefEqProofs only [go_sem]) ht (Nat.mod_lt _ hpos) (fun h => by cases h) hpp hq (by omega) (by omega) h9 fun w' h' => ⟨h', rfl⟩
      · obtain ⟨n, rfl⟩ : ∃ n : Nat, f = n := ⟨f.toNat, by omega⟩
        have m1 : ((n : Int)).tmod (ts.length : Int) = ((n % ts.length : Nat) : Int) := rfl
        simp -dsimp -implicitDefEqProofs (disch := omega) only [go_sem, reqD_of, dec_t, dec_f, wrap_i64, wrap_u32, wrap_u64, wrap_u8, c8, hrt, hf0, m1, hz']
        exact namesLead_tail (y := n % ts.length) (by simp -dsimp -implicitDefEqProofs only [go_sem]) (by simp -dsimp -implicitDefEqProofs only [go_sem]) (by simp -dsimp -implicitDefEqProofs only [go_sem]) (by simp -dsimp -implicitDefEqProofs only [go_sem]) (by simp -dsimp -implicitDefEqProofs only [go_sem]) (by simp -dsimp -implicitDefEqProofs only [go_sem]) ht (Nat.mod_lt _ hpos) (fun h => by cases h) hpp hq (by omega) (by omega) h9 fun w' h' => ⟨h', rfl⟩
  · have hcn : cleanF l = none := by rw [cleanF, hs]; rfl
    simp -dsimp -implicitDefEqProofs (disch := omega) only [go_sem, reqD_of, dec_t, dec_f, wrap_i64, wrap_u32, wrap_u64, wrap_u8]
    refine h2.new fun P8 w3 h3 => ?_
    simp -dsimp -implicitDefEqProofs (disch := omega) only [go_sem, reqD_of, dec_t, dec_f, wrap_i64, wrap_u32, wrap_u64, wrap_u8]
    refine h3.stoAll (b := P8) (n := 2) (cs := [.bool false, .slice none 0 0]) rfl rfl (fun u hu => by simp at hu; rcases hu with rfl | rfl <;> rfl) fun w4 h4 => ?_
    simp -dsimp -implicitDefEqProofs (disch := omega) only [go_sem, reqD_of, dec_t, dec_f, wrap_i64, wrap_u32, wrap_u64, wrap_u8]
    refine (clean_any h4 (l := l) (by omega)).mono ?_
    rintro e w5 (⟨s', hs', h5, rfl⟩ | ⟨hs', h5, rfl⟩)
    case inl => rw [hcn] at hs'; cases hs'
    simp -dsimp -implicitDefEqProofs (disch := omega) only [go_sem, reqD_of, dec_t, dec_f, wrap_i64, wrap_u32, wrap_u64, wrap_u8]
    exact h5.right
end
end Go.Proofs.YtlnlomjdooobdaaDoor
