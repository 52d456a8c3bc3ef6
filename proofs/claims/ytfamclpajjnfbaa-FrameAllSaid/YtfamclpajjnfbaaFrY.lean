/- Bytes poured into two cutters; one step of a script. -/
import Derived.Test.YtfamclpajjnfbaaFrX
namespace Go.Proofs.Ytfamclpajjnfbaa
open Go
set_option linter.unusedSimpArgs false
set_option linter.unusedVariables false
set_option maxRecDepth 100000

theorem RC.feed_hand (l : List UInt8) : ∀ r : RC, (r.feed l).2.hand.length = r.hand.length + (r.feed l).1 := by
  induction l with
  | nil => intro r; rfl
  | cons x l ih =>
    intro r
    rw [RC.feed]
    split
    · have h1 : (r.put x).hand.length = r.hand.length + 1 := by unfold RC.put; split <;> simp
      have := ih (r.put x)
      simp only
      omega
    · rfl

def flagq (q : RC) : Nat := if q.hand = [] then 0 else 1

structure PourI (w0 : World) (F : HP) (c d B n : Nat) (r : RC) (bs : List UInt8) (e : FA) (w : World) (q : RC) (k : Nat) (bs' : List UInt8) (a : Option Addr) (cp : Nat) : Prop where
  ds : e.ds = []
  e0 : e.ρ 0 = .pointer (some ⟨c, 0, none⟩)
  e1 : e.ρ 1 = .pointer (some ⟨d, 0, none⟩)
  e3 : e.ρ 3 = .pointer (some ⟨B, 0, none⟩)
  e2 : e.ρ 2 = .slice a bs'.length cp
  ok : q.ok
  by' : q.bytes + bs'.length ≤ r.bytes + bs.length
  kk : k + bs'.length + flagq q ≤ n + bs.length + 1
  rd : Ent F (RdB (.slice a bs'.length cp) bs')
  cp' : bs'.length ≤ cp
  st : St w0 (CutR c q * (RefP d q * (BookP B k * F))) w
open Classical in
noncomputable def pourM (w0 : World) (F : HP) (c d B n : Nat) (r : RC) (bs : List UInt8) (e : FA) (w : World) : Nat :=
  (match e.ρ 2 with | .slice _ l _ => l | _ => 0) + if ∃ q k bs' a cp, PourI w0 F c d B n r bs e w q k bs' a cp ∧ q.hand = [] then 0 else 1

section
attribute [local go_sem] F37.t8_eq F37.t4_eq
theorem pours_any {w0 w : World} {F : HP} {c d B n : Nat} {r : RC} {v : Value} {bs : List UInt8} (h : St w0 (CutR c r * (RefP d r * (BookP B n * F))) w) (hr : Ent F (RdB v bs)) (ok : r.ok) (hl : bs.length ≤ 1073741824) (hb : r.bytes + bs.length < 1152921504606846976) (hn : n + bs.length + 2 < 100000000) :
    Calls Try.prog 37 #[.pointer (some ⟨c, 0, none⟩), .pointer (some ⟨d, 0, none⟩), v, .pointer (some ⟨B, 0, none⟩)] w fun e w' => ∃ q n', q.ok ∧ q.bytes ≤ r.bytes + bs.length ∧ n' ≤ n + bs.length + 2 ∧ St w0 (CutR c q * (RefP d q * (BookP B n' * F))) w' ∧ e = .returned (.bool true) := by
  obtain ⟨a, cv, rfl, hcv, _⟩ := (h.ent ((Ent.right _ _).trans ((Ent.right _ _).trans ((Ent.right _ _).trans hr)))).bytes
  refine F37.calls (by simp) ?_
  unfold F37.code
  simp -dsimp -implicitDefEqProofs (disch := omega) only [go_sem, reqD_of, dec_t, dec_f, wrap_i64, wrap_u32, wrap_u64, wrap_u8]
  refine loop_intro (fun e w' => ∃ q k bs' a cp, PourI w0 F c d B n r bs e w' q k bs' a cp) (pourM w0 F c d B n r bs) ?_ ?_
  · exact ⟨r, n, bs, a, cv, rfl, by simp -dsimp -implicitDefEqProofs only [go_sem], by simp -dsimp -implicitDefEqProofs only [go_sem], by simp -dsimp -implicitDefEqProofs only [go_sem], by simp -dsimp -implicitDefEqProofs only [go_sem], ok, by omega, by unfold flagq; split <;> omega, hr, hcv, h⟩
  · clear h
    intro e w1 hex
    have hch : ∃ q k bs' a cp, PourI w0 F c d B n r bs e w1 q k bs' a cp ∧ pourM w0 F c d B n r bs e w1 = bs'.length + flagq q := by
      by_cases hx : ∃ q k bs' a cp, PourI w0 F c d B n r bs e w1 q k bs' a cp ∧ q.hand = []
      · have hx' := hx
        obtain ⟨q, k, bs', a, cp, i, hq⟩ := hx'
        refine ⟨q, k, bs', a, cp, i, ?_⟩
        unfold pourM flagq
        rw [if_pos hx, if_pos hq, i.e2]
      · obtain ⟨q, k, bs', a, cp, i⟩ := hex
        refine ⟨q, k, bs', a, cp, i, ?_⟩
        unfold pourM flagq
        rw [if_neg hx, if_neg (fun hq => hx ⟨q, k, bs', a, cp, i, hq⟩), i.e2]
    obtain ⟨q, k, bs', a1, cp, ⟨hd, e0, e1, e3, e2, okq, hby, hkk, hrd, hcp, h1⟩, hM⟩ := hch
    clear hex
    have hf : flagq q ≤ 1 := by unfold flagq; split <;> omega
    obtain ⟨f1, f2, f3, f4⟩ := RC.feed_le bs' q
    have fh := RC.feed_hand bs' q
    have okf := RC.ok_feed bs' q okq (by omega)
    have hbs' : bs'.length ≤ 1073741824 := by have := hkk; omega
    simp -dsimp -implicitDefEqProofs (disch := omega) only [go_sem, reqD_of, dec_t, dec_f, wrap_i64, wrap_u32, wrap_u64, wrap_u8, hd, e0, e1, e2, e3]
    have h1' : St w0 (CutR c q * (RefP d q * (BookP B k * F))) w1 := h1
    refine (fed_any h1' ((Ent.right _ _).trans hrd) okq hbs' (by omega)).mono ?_
    rintro e' w2 ⟨h2, rfl⟩
    have hle : ((q.feed bs').1 : Int) ≤ bs'.length := by omega
    simp -dsimp -implicitDefEqProofs (disch := omega) only [go_sem, reqD_of, dec_t, dec_f, wrap_i64, wrap_u32, wrap_u64, wrap_u8, hd, e0, e1, e2, e3, hle]
    cases hw : (q.feed bs').2.whole with
    | false =>
      refine (taken_no h2 okf (by omega) hw).mono ?_
      rintro e' w3 ⟨h3, rfl⟩
      simp -dsimp -implicitDefEqProofs (disch := omega) only [go_sem, reqD_of, dec_t, dec_f, wrap_i64, wrap_u32, wrap_u64, wrap_u8, hd, e0, e1, e2, e3]
      exact ⟨(q.feed bs').2, k + 1, okf, by rw [f2]; omega, by omega, h3⟩
    | true =>
      refine (taken_yes h2 okf (by omega) hw).mono ?_
      rintro e' w3 ⟨h3, rfl⟩
      simp -dsimp -implicitDefEqProofs (disch := omega) only [go_sem, reqD_of, dec_t, dec_f, wrap_i64, wrap_u32, wrap_u64, wrap_u8, hd, e0, e1, e2, e3]
      have hm1 : 1 ≤ (q.feed bs').1 + flagq q := by
        simp only [RC.whole, Bool.and_eq_true, decide_eq_true_eq] at hw
        obtain ⟨⟨_, h4⟩, _⟩ := hw
        unfold flagq
        split
        · rename_i hq
          rw [hq] at fh
          simp only [List.length_nil] at fh
          omega
        · omega
      have hdl : (bs'.drop (q.feed bs').1).length = bs'.length - (q.feed bs').1 := by simp
      have key : ∀ e', PourI w0 F c d B n r bs e' w3 (q.feed bs').2.next (k + 1) (bs'.drop (q.feed bs').1) (if cp = (q.feed bs').1 then a1 else a1.map (·.add (q.feed bs').1)) (cp - (q.feed bs').1) →
          (∃ q k bs' a cp, PourI w0 F c d B n r bs e' w3 q k bs' a cp) ∧ pourM w0 F c d B n r bs e' w3 < pourM w0 F c d B n r bs e w1 := fun e' i => by
        refine ⟨⟨_, _, _, _, _, i⟩, ?_⟩
        rw [hM]
        unfold pourM
        rw [if_pos ⟨_, _, _, _, _, i, rfl⟩, i.e2]
        show (bs'.drop (q.feed bs').1).length + 0 < _
        omega
      have hsub : Ent F (RdB (.slice (if cp = (q.feed bs').1 then a1 else a1.map (·.add (q.feed bs').1)) (bs'.drop (q.feed bs').1).length (cp - (q.feed bs').1)) (bs'.drop (q.feed bs').1)) := by
        have := hrd.trans (RdB.sub (a := a1) (c := cp) (lo := (q.feed bs').1) (k := bs'.length - (q.feed bs').1) (bs := bs') (by omega))
        rw [hdl]
        rwa [List.take_of_length_le (by simp)] at this
      refine key _ ⟨by simp -dsimp -implicitDefEqProofs only [go_sem, hd], by simp -dsimp -implicitDefEqProofs only [go_sem, e0], by simp -dsimp -implicitDefEqProofs only [go_sem, e1], by simp -dsimp -implicitDefEqProofs only [go_sem, e3], ?_, RC.ok_next okf hw, by simp only [RC.next]; rw [f2, hdl]; omega, by rw [hdl]; simp only [flagq, RC.next, if_true]; omega, hsub, by omega, h3⟩
      rw [hdl]
      simp -dsimp -implicitDefEqProofs (disch := omega) only [go_sem, reqD_of, dec_t, dec_f, wrap_i64, wrap_u32, wrap_u64, wrap_u8]

def costS (kind : Int) (bs : List UInt8) : Nat := bs.length + if kind = 6 then 70000 else 0
abbrev stC (who kind : Int) (v : Value) (arg : Nat) : List Value := [.int .i64 who, .int .i64 kind, v, .int .u32 arg]

end
section
attribute [local go_sem] F14.t9_eq F14.t10_eq F14.t11_eq F14.t25_eq
theorem does_any {w0 w : World} {F : HP} {c d B n arg : Nat} {who kind : Int} {r : RC} {v : Value} {bs : List UInt8} (h : St w0 (CutR c r * (RefP d r * (BookP B n * F))) w) (hr : Ent F (RdB v bs)) (ok : r.ok) (hl : bs.length ≤ 1073741824) (ha : arg < 4294967296) (hb : r.bytes + costS kind bs < 1152921504606846976) (hn : n + costS kind bs + 2 < 100000000) :
    Calls Try.prog 14 #[.pointer (some ⟨c, 0, none⟩), .pointer (some ⟨d, 0, none⟩), .agg (stC who kind v arg).toArray, .pointer (some ⟨B, 0, none⟩)] w fun e w' => ∃ q n', q.ok ∧ q.bytes ≤ r.bytes + costS kind bs ∧ n' ≤ n + costS kind bs + 2 ∧ St w0 (CutR c q * (RefP d q * (BookP B n' * F))) w' ∧ e = .returned (.bool true) := by
  obtain ⟨a, cv, rfl, hcv, _⟩ := (h.ent ((Ent.right _ _).trans ((Ent.right _ _).trans ((Ent.right _ _).trans hr)))).bytes
  have hcost : bs.length ≤ costS kind bs := by unfold costS; omega
  have hk6 : kind = 6 → costS kind bs = bs.length + 70000 := fun hk => by unfold costS; rw [if_pos hk]
  refine F14.calls (by simp) ?_
  unfold F14.code
  simp -dsimp -implicitDefEqProofs (disch := omega) only [go_sem, reqD_of, dec_t, dec_f, wrap_i64, wrap_u32, wrap_u64, wrap_u8]
  refine h.new fun O w1 h1 => ?_
  have cO := h1.cl O
  obtain ⟨f1, f2, f3, f4⟩ := RC.feed_le bs r
  have okf := RC.ok_feed bs r ok (by omega)
  by_cases k1 : kind = 1
  · subst k1
    simp -dsimp -implicitDefEqProofs (disch := omega) only [go_sem, reqD_of, dec_t, dec_f, wrap_i64, wrap_u32, wrap_u64, wrap_u8, cO]
    have h2 : St w0 (CutR c r * (RefP d r * (BookP B n * F))) w1 := h1.right
    refine (fed_any h2 ((Ent.right _ _).trans hr) ok hl (by omega)).mono ?_
    rintro e w3 ⟨h3, rfl⟩
    simp -dsimp -implicitDefEqProofs (disch := omega) only [go_sem, reqD_of, dec_t, dec_f, wrap_i64, wrap_u32, wrap_u64, wrap_u8]
    exact ⟨_, n, okf, by rw [f2]; omega, by omega, h3⟩
  by_cases k6 : kind = 6
  · subst k6
    simp -dsimp -implicitDefEqProofs (disch := omega) only [go_sem, reqD_of, dec_t, dec_f, wrap_i64, wrap_u32, wrap_u64, wrap_u8, cO]
    have hmod : ((arg : Int)).tmod 70000 = ((arg % 70000 : Nat) : Int) := by rw [Int.tmod_eq_emod_of_nonneg (by omega)]; omega
    have hA : arg % 70000 < 70000 := Nat.mod_lt _ (by omega)
    have hcs := hk6 rfl
    refine loop_intro (fun e w' => e.ds = [] ∧ e.ρ 0 = .pointer (some ⟨c, 0, none⟩) ∧ e.ρ 1 = .pointer (some ⟨d, 0, none⟩) ∧ e.ρ 3 = .pointer (some ⟨B, 0, none⟩) ∧ e.ρ 6 = .pointer (some ⟨O, 0, none⟩) ∧ ∃ (k : Nat) (a1 : Option Addr) (c1 : Nat), k ≤ arg % 70000 ∧ e.ρ 12 = .int .u32 k ∧ e.ρ 11 = .slice a1 k c1 ∧ St w0 (RowO 5 1 (.slice a1 k c1) k (List.replicate k (bv 1)) * (Blk O (.cells (stC who 6 (.slice a bs.length cv) arg).toArray 40 (0, 0)) * (CutR c r * (RefP d r * (BookP B n * F))))) w')
      (fun e _ => match e.ρ 12 with | .int _ n => (arg % 70000 - n).toNat | _ => 0) ?_ ?_
    · exact ⟨rfl, by simp -dsimp -implicitDefEqProofs only [go_sem], by simp -dsimp -implicitDefEqProofs only [go_sem], by simp -dsimp -implicitDefEqProofs only [go_sem], by simp -dsimp -implicitDefEqProofs only [go_sem], 0, none, 0, by omega, rfl, by simp -dsimp -implicitDefEqProofs only [go_sem], h1.nilR 5 1⟩
    · clear h1 cO
      rintro e w2 ⟨hd, e0, e1, e3, e6, k, a1, c1, hk, e12, e11, h2⟩
      have cO := h2.cl O
      by_cases hlt : (k : Int) < ((arg % 70000 : Nat) : Int)
      · simp -dsimp -implicitDefEqProofs (disch := omega) only [go_sem, reqD_of, dec_t, dec_f, wrap_i64, wrap_u32, wrap_u64, wrap_u8, hd, e0, e1, e3, e6, e11, e12, cO, hmod, hlt, F14.t10_eq]
        refine h2.lit (n := 1) (cells := [bv 1]) fact_rowTy_35 rfl (by decide) (by decide) fun v3 w3 h3 => ?_
        simp -dsimp -implicitDefEqProofs (disch := omega) only [go_sem, reqD_of, dec_t, dec_f, wrap_i64, wrap_u32, wrap_u64, wrap_u8, hd, e0, e1, e3, e6, e11, e12]
        refine h3.app (v := .slice a1 k c1) fact_rowTy_35 ((Ent.left _ _).trans (RowO.reads _ _ _ _ _)) Try.underlying35 (by intro u hu; simp only [List.mem_singleton] at hu; subst hu; rfl) (fun h => by simp at h) (by simp only [maxLen]; omega) (by omega) fun v4 w4 h4 => ?_
        obtain ⟨a4, c4, rfl, _⟩ := h4.rowForm v4
        rw [← List.replicate_succ'] at h4
        have hw : IntKind.u32.wrap ((k : Int) + 1) = (k : Int) + 1 := wrap_u32 (by omega) (by omega)
        simp -dsimp -implicitDefEqProofs (disch := omega) only [go_sem, reqD_of, dec_t, dec_f, wrap_i64, wrap_u32, wrap_u64, wrap_u8, hd, e0, e1, e3, e6, e11, e12, hw]
        exact ⟨⟨k + 1, a4, c4, by omega, by omega, ⟨rfl, rfl, rfl⟩, h4.sub⟩, by omega⟩
      · have : k = arg % 70000 := by omega
        subst this
        simp -dsimp -implicitDefEqProofs (disch := omega) only [go_sem, reqD_of, dec_t, dec_f, wrap_i64, wrap_u32, wrap_u64, wrap_u8, hd, e0, e1, e3, e6, e11, e12, cO, hmod, hlt, F14.t11_eq]
        obtain ⟨g1, g2, g3, g4⟩ := RC.feed_le (List.replicate (arg % 70000) 1) r
        simp only [List.length_replicate] at g1
        have hlr : (List.replicate (arg % 70000) (1 : UInt8)).length = arg % 70000 := by simp
        have okg := RC.ok_feed (List.replicate (arg % 70000) 1) r ok (by omega)
        have h3 : St w0 (CutR c r * (RefP d r * (RowO 5 1 (.slice a1 (arg % 70000) c1) (arg % 70000) (List.replicate (arg % 70000) (bv 1)) * (Blk O (.cells (stC who 6 (.slice a bs.length cv) arg).toArray 40 (0, 0)) * (BookP B n * F))))) w2 := h2.ac (by ac_rfl)
        have hrow : RowO 5 1 (.slice a1 (arg % 70000) c1) (arg % 70000) (List.replicate (arg % 70000) (bv 1)) = RowO 5 1 (.slice a1 (arg % 70000) c1) (List.replicate (arg % 70000) (1 : UInt8)).length ((List.replicate (arg % 70000) (1 : UInt8)).map bv) := by simp
        rw [hrow] at h3
        refine (fed_any (bs := List.replicate (arg % 70000) 1) h3 ((Ent.left _ _).trans (RowO.reads _ _ _ _ _)) ok (by omega) (by omega)).mono ?_
        rintro e' w5 ⟨h5, rfl⟩
        simp -dsimp -implicitDefEqProofs (disch := omega) only [go_sem, reqD_of, dec_t, dec_f, wrap_i64, wrap_u32, wrap_u64, wrap_u8, hd, e0, e1, e3, e6, e11, e12]
        exact ⟨(r.feed (List.replicate (arg % 70000) 1)).2, n, okg, by rw [g2]; omega, by omega, h5.sub⟩
  by_cases k2 : kind = 2
  · subst k2
    simp -dsimp -implicitDefEqProofs (disch := omega) only [go_sem, reqD_of, dec_t, dec_f, wrap_i64, wrap_u32, wrap_u64, wrap_u8, cO]
    have h2 : St w0 (CutR c r * (RefP d r * (BookP B n * F))) w1 := h1.right
    cases hw : r.whole with
    | false =>
      refine (taken_no h2 ok (by omega) hw).mono ?_
      rintro e w3 ⟨h3, rfl⟩
      simp -dsimp -implicitDefEqProofs (disch := omega) only [go_sem, reqD_of, dec_t, dec_f, wrap_i64, wrap_u32, wrap_u64, wrap_u8]
      refine (taken_no h3 ok (by omega) hw).mono ?_
      rintro e w4 ⟨h4, rfl⟩
      simp -dsimp -implicitDefEqProofs (disch := omega) only [go_sem, reqD_of, dec_t, dec_f, wrap_i64, wrap_u32, wrap_u64, wrap_u8]
      exact ⟨r, n + 1 + 1, ok, by omega, by omega, h4⟩
    | true =>
      refine (taken_yes h2 ok (by omega) hw).mono ?_
      rintro e w3 ⟨h3, rfl⟩
      simp -dsimp -implicitDefEqProofs (disch := omega) only [go_sem, reqD_of, dec_t, dec_f, wrap_i64, wrap_u32, wrap_u64, wrap_u8]
      have hw2 : r.next.whole = false := by simp [RC.whole, RC.next]
      refine (taken_no h3 (RC.ok_next ok hw) (by omega) hw2).mono ?_
      rintro e w4 ⟨h4, rfl⟩
      simp -dsimp -implicitDefEqProofs (disch := omega) only [go_sem, reqD_of, dec_t, dec_f, wrap_i64, wrap_u32, wrap_u64, wrap_u8]
      exact ⟨r.next, n + 1 + 1, RC.ok_next ok hw, by simp only [RC.next]; omega, by omega, h4⟩
  by_cases k3 : kind = 3
  · subst k3
    simp -dsimp -implicitDefEqProofs (disch := omega) only [go_sem, reqD_of, dec_t, dec_f, wrap_i64, wrap_u32, wrap_u64, wrap_u8, cO]
    have h2 : St w0 (CutR c r * (RefP d r * (BookP B n * F))) w1 := h1.right
    refine (asked_any h2 ok).mono ?_
    rintro e w3 ⟨h3, rfl⟩
    simp -dsimp -implicitDefEqProofs (disch := omega) only [go_sem, reqD_of, dec_t, dec_f, wrap_i64, wrap_u32, wrap_u64, wrap_u8]
    exact ⟨r, n, ok, by omega, by omega, h3⟩
  by_cases k4 : kind = 4
  · subst k4
    simp -dsimp -implicitDefEqProofs (disch := omega) only [go_sem, reqD_of, dec_t, dec_f, wrap_i64, wrap_u32, wrap_u64, wrap_u8, cO]
    have h2 : St w0 (CutR c r * (RefP d r * (BookP B n * (Blk O (.cells (stC who 4 (.slice a bs.length cv) arg).toArray 40 (0, 0)) * F)))) w1 := h1.sub
    refine (limitR h2 arg).mono ?_
    rintro e w3 ⟨h3, rfl⟩
    have cO := h3.cl O
    simp -dsimp -implicitDefEqProofs (disch := omega) only [go_sem, reqD_of, dec_t, dec_f, wrap_i64, wrap_u32, wrap_u64, wrap_u8, cO]
    have h3' : St w0 (RefP d r * (CutR c (if okLimit arg = true then { r with most := arg } else r) * (BookP B n * (Blk O (.cells (stC who 4 (.slice a bs.length cv) arg).toArray 40 (0, 0)) * F)))) w3 := h3.ac (by ac_rfl)
    refine (limitRef_any h3' arg).mono ?_
    rintro e w4 ⟨h4, rfl⟩
    simp -dsimp -implicitDefEqProofs (disch := omega) only [go_sem, reqD_of, dec_t, dec_f, wrap_i64, wrap_u32, wrap_u64, wrap_u8]
    refine ⟨if okLimit arg = true then { r with most := arg } else r, n, ?_, ?_, by omega, h4.sub⟩
    · split
      · rename_i hq
        have hq2 : arg ≤ 65536 := by simp [okLimit] at hq; omega
        exact ⟨hq2, ok.over, ok.good, ok.bytes, ok.cnt⟩
      · exact ok
    · split <;> (try simp only) <;> omega
  by_cases k5 : kind = 5
  · subst k5
    simp -dsimp -implicitDefEqProofs (disch := omega) only [go_sem, reqD_of, dec_t, dec_f, wrap_i64, wrap_u32, wrap_u64, wrap_u8, cO]
    have h2 : St w0 (CutR c r * (RefP d r * (BookP B n * F))) w1 := h1.right
    refine (pours_any h2 hr ok hl (by omega) (by omega)).mono ?_
    rintro e w3 ⟨q, n', okq, hq, hn', h3, rfl⟩
    simp -dsimp -implicitDefEqProofs (disch := omega) only [go_sem, reqD_of, dec_t, dec_f, wrap_i64, wrap_u32, wrap_u64, wrap_u8]
    exact ⟨q, n', okq, by omega, by omega, h3⟩
  · simp -dsimp -implicitDefEqProofs (disch := omega) only [go_sem, reqD_of, dec_t, dec_f, wrap_i64, wrap_u32, wrap_u64, wrap_u8, cO, k1, k2, k3, k4, k5, k6]
    exact ⟨r, n, ok, by omega, by omega, h1.right⟩

end
end Go.Proofs.Ytfamclpajjnfbaa
