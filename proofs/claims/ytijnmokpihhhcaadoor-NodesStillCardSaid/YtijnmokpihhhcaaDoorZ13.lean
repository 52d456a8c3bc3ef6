/- NodesStill: the walk. · Operations handed in, their data as bytes. -/
import Derived.Test.YtijnmokpihhhcaaDoorZ1
import Derived.Test.YtijnmokpihhhcaaDoorZ2
import Derived.Test.YtijnmokpihhhcaaDoorZ3
import Derived.Test.YtijnmokpihhhcaaDoorZ4
import Derived.Test.YtijnmokpihhhcaaDoorZ5
import Derived.Test.YtijnmokpihhhcaaDoorZ6
import Derived.Test.YtijnmokpihhhcaaDoorZ7
import Derived.Test.YtijnmokpihhhcaaDoorZ8
import Derived.Test.YtijnmokpihhhcaaDoorZ9
import Derived.Test.YtijnmokpihhhcaaDoorZ10
import Derived.Test.YtijnmokpihhhcaaDoorZ11
import Derived.Test.YtijnmokpihhhcaaDoorZ12
namespace Go.Proofs.YtijnmokpihhhcaaDoor
open Go
set_option linter.unusedVariables false
set_option linter.unusedSimpArgs false
set_option maxRecDepth 100000

def withKids (i : Inf) (k : Int) : Inf := { i with kids := k }
/-- How many of the first so many stay. -/
def nth (s : SD) (o : OpD) (e i : Nat) : Nat := ((s.L.take i).filter (keepB o e)).length
theorem nth_drop {s : SD} {o : OpD} {e i : Nat} (hi : i < s.L.length) (hk : keepB o e s.L[i] = false) : nth s o e (i + 1) = nth s o e i := by
  unfold nth
  rw [List.take_succ_eq_append_getElem hi, List.filter_append]
  simp [hk]
theorem nth_keep {s : SD} {o : OpD} {e i : Nat} (hi : i < s.L.length) (hk : keepB o e s.L[i] = true) : nth s o e (i + 1) = nth s o e i + 1 := by
  unfold nth
  rw [List.take_succ_eq_append_getElem hi, List.filter_append]
  simp [hk]
theorem nth_at {s s' : SD} {o : OpD} {e : Nat} {f : NodeD → NodeD} {extra : List NodeD} (h : Still s s' o e f extra) {i : Nat} (hi : i < s.L.length) (hk : keepB o e s.L[i] = true) :
    ∃ hn : nth s o e i < s'.L.length, s'.L[nth s o e i] = f s.L[i] := by
  have hs : s.L.filter (keepB o e) = (s.L.take i).filter (keepB o e) ++ s.L[i] :: (s.L.drop (i + 1)).filter (keepB o e) := by
    conv => lhs; rw [← List.take_append_drop i s.L, List.drop_eq_getElem_cons hi, List.filter_append, List.filter_cons, if_pos hk]
  have hg : s'.L[nth s o e i]? = some (f s.L[i]) := by
    rw [h.list, hs, List.map_append, List.map_cons, List.append_assoc, List.getElem?_append_right (by simp [nth])]
    simp [nth]
  obtain ⟨hn, hx⟩ := List.getElem?_eq_some_iff.1 hg
  exact ⟨hn, hx⟩

section
variable {w0 w : World} {A : HP} {ops : List OpV} {x : OpV} {a : Option Addr} {c : Nat} {e : FA}

theorem but_any {i : Inf} {k : Int} (h : St w0 A w) :
    Calls Tryd.prog 33 #[.agg (infL i).toArray, .int .i64 k] w fun e w' => St w0 A w' ∧ e = .returned (.agg (infL (withKids i k)).toArray) := by
  refine F33.calls (by simp) ?_
  unfold F33.code
  simp -dsimp -implicitDefEqProofs (disch := omega) only [go_sem, reqD_of, dec_t, dec_f, wrap_i64, wrap_u32, wrap_u64, wrap_u8]
  refine h.new fun B w1 h1 => ?_
  simp -dsimp -implicitDefEqProofs (disch := omega) only [go_sem, reqD_of, dec_t, dec_f, wrap_i64, wrap_u32, wrap_u64, wrap_u8]
  refine h1.new fun C w2 h2 => ?_
  simp -dsimp -implicitDefEqProofs (disch := omega) only [go_sem, reqD_of, dec_t, dec_f, wrap_i64, wrap_u32, wrap_u64, wrap_u8]
  refine h2.sto (b := B) (off := 12) (by simp) rfl fun w3 h3 => ?_
  simp only [List.setIfInBounds_toArray, List.set_cons_succ, List.set_cons_zero] at h3
  have h3 : St w0 (Blk C _ * (infB B (withKids i k) * A)) w3 := h3
  simp -dsimp -implicitDefEqProofs (disch := omega) only [go_sem, reqD_of, dec_t, dec_f, wrap_i64, wrap_u32, wrap_u64, wrap_u8, h3.rowH B 13 rfl]
  refine h3.stoAll (b := C) (cs := infL (withKids i k)) rfl rfl (infL_cells _) fun w4 h4 => ?_
  simp -dsimp -implicitDefEqProofs (disch := omega) only [go_sem, reqD_of, dec_t, dec_f, wrap_i64, wrap_u32, wrap_u64, wrap_u8]
  refine resC_1 (a := ⟨C, 0, none⟩) (v := .agg (infL (withKids i k)).toArray) (by simp -dsimp -implicitDefEqProofs only [go_sem]) (run_loadVar_row fact_aggSz_41 (h4.rowH C 13 rfl)) ?_
  exact ⟨h4.right.right, rfl⟩


section
attribute [local go_sem] F8.t35_eq F8.t33_eq F8.t28_eq F8.t26_eq F8.t23_eq F8.t24_eq F8.t41_eq F8.t17_eq F8.t10_eq F8.t7_eq F8.t4_eq
/-- The end. -/
theorem still_t38 {b B D pr er : Nat} {S S' : SD} {f : NodeD → NodeD} {extra : List NodeD} {ab : Inf} {a1 a2 : Option Addr} {c1 c2 : Nat} {l l' : List Inf} (wS : Wf S) (wS' : Wf S') (hl : l = tellL S) (hl' : l' = tellL S') (hs : Still S S' x.o er f extra) (hpe : er = 0 ↔ pr ≠ 0)
    (hd : e.ds = []) (e3 : e.ρ 3 = .pointer (some ⟨B, 0, none⟩)) (e5 : e.ρ 5 = .bool true) (e6 : e.ρ 6 = .pointer (some ⟨b, 0, none⟩)) (e8 : e.ρ 8 = .slice a1 l.length c1) (e9 : e.ρ 9 = .int .u64 pr) (e10 : e.ρ 10 = .int .i64 er) (e11 : e.ρ 11 = .slice a2 l'.length c2) (e12 : e.ρ 12 = .pointer (some ⟨D, 0, none⟩)) (e16 : e.ρ 16 = .int .i64 (nth S x.o er S.L.length)) (h : St w0 (infB D ab * (opW B x * (NodeL (.slice a1 l.length c1) l * (NodeL (.slice a2 l'.length c2) l' * (StoreP b 0 0 S * A))))) w) :
    cwE Tryd.prog F8.t38 (fnP Tryd.prog #[.tmp 4] fun e w' => St w0 A w' ∧ e = .returned (.bool true)) e w := by
  rw [F8.t38_eq]
  have hlen := tell_len S
  have hlen' := tell_len S'
  rw [← hl] at hlen
  rw [← hl'] at hlen'
  have hf := wS.few
  have hm := wS.most
  have hf' := wS'.few
  have hm' := wS'.most
  have htot : S'.L.length = nth S x.o er S.L.length + extra.length := by rw [hs.list]; simp [nth]
  have hmade := hs.made
  have k0 : w.cell? ⟨B, 0, none⟩ = some (.int .u8 x.o.kind) := (h.cl B) 0
  have fin : ∀ {e' : FA}, True := fun {_} => trivial
  rcases (by omega : er = 0 ∧ x.o.kind = 1 ∨ er = 0 ∧ ¬ x.o.kind = 1 ∨ ¬ er = 0) with ⟨he, hk⟩ | ⟨he, hk⟩ | he
  · have he' : (er : Int) = 0 := by omega
    have hk' : (x.o.kind : Int) = 1 := by omega
    rw [if_pos ⟨he, hk⟩] at hmade
    have hp : ¬ (pr : Int) = 0 := by have := hpe.1 he; omega
    simp -dsimp -implicitDefEqProofs (disch := omega) only [go_sem, reqD_of, dec_t, dec_f, wrap_i64, wrap_u32, wrap_u64, wrap_u8, hd, e3, e5, e6, e8, e9, e10, e11, e12, e16, k0, he' , hk']
    refine (list_any (b := b) wS (h.ac (show _ = StoreP b 0 0 S * (infB D ab * (opW B x * (NodeL (.slice a1 l.length c1) l * (NodeL (.slice a2 l'.length c2) l' * A)))) by ac_rfl))).mono ?_
    rintro e' w1 ⟨v, h1, rfl⟩
    rw [← hl] at h1
    obtain ⟨a3, c3, rfl, _⟩ := h1.rowForm v
    have q1 : (l'.length : Int) = (nth S x.o er S.L.length : Int) + 1 := by omega
    simp -dsimp -implicitDefEqProofs (disch := omega) only [go_sem, reqD_of, dec_t, dec_f, wrap_i64, wrap_u32, wrap_u64, wrap_u8, hd, e3, e5, e6, e8, e9, e10, e11, e12, e16, he' , hk', q1, hp, beq_self_eq_true]
    exact h1.right.right.right.right.right.right
  · have he' : (er : Int) = 0 := by omega
    have hk' : ¬ (x.o.kind : Int) = 1 := by omega
    rw [if_neg (fun hh => hk hh.2)] at hmade
    have hp : ¬ (pr : Int) = 0 := by have := hpe.1 he; omega
    simp -dsimp -implicitDefEqProofs (disch := omega) only [go_sem, reqD_of, dec_t, dec_f, wrap_i64, wrap_u32, wrap_u64, wrap_u8, hd, e3, e5, e6, e8, e9, e10, e11, e12, e16, k0, he', hk']
    refine (list_any (b := b) wS (h.ac (show _ = StoreP b 0 0 S * (infB D ab * (opW B x * (NodeL (.slice a1 l.length c1) l * (NodeL (.slice a2 l'.length c2) l' * A)))) by ac_rfl))).mono ?_
    rintro e' w1 ⟨v, h1, rfl⟩
    rw [← hl] at h1
    obtain ⟨a3, c3, rfl, _⟩ := h1.rowForm v
    have q1 : (l'.length : Int) = (nth S x.o er S.L.length : Int) + 0 := by omega
    simp -dsimp -implicitDefEqProofs (disch := omega) only [go_sem, reqD_of, dec_t, dec_f, wrap_i64, wrap_u32, wrap_u64, wrap_u8, hd, e3, e5, e6, e8, e9, e10, e11, e12, e16, he', hk', q1, hp, beq_self_eq_true]
    exact h1.right.right.right.right.right.right
  · have he' : ¬ (er : Int) = 0 := by omega
    rw [if_neg (fun hh => he hh.1)] at hmade
    have hp : (pr : Int) = 0 := by
      have : ¬ pr ≠ 0 := fun hh => he (hpe.2 hh)
      omega
    simp -dsimp -implicitDefEqProofs (disch := omega) only [go_sem, reqD_of, dec_t, dec_f, wrap_i64, wrap_u32, wrap_u64, wrap_u8, hd, e3, e5, e6, e8, e9, e10, e11, e12, e16, k0, he']
    refine (list_any (b := b) wS (h.ac (show _ = StoreP b 0 0 S * (infB D ab * (opW B x * (NodeL (.slice a1 l.length c1) l * (NodeL (.slice a2 l'.length c2) l' * A)))) by ac_rfl))).mono ?_
    rintro e' w1 ⟨v, h1, rfl⟩
    rw [← hl] at h1
    obtain ⟨a3, c3, rfl, _⟩ := h1.rowForm v
    have q1 : (l'.length : Int) = (nth S x.o er S.L.length : Int) + 0 := by omega
    simp -dsimp -implicitDefEqProofs (disch := omega) only [go_sem, reqD_of, dec_t, dec_f, wrap_i64, wrap_u32, wrap_u64, wrap_u8, hd, e3, e5, e6, e8, e9, e10, e11, e12, e16, he', q1, hp, beq_self_eq_true]
    exact h1.right.right.right.right.right.right

set_option maxHeartbeats 4000000 in
/-- Node by node. -/
theorem still_t20 {b B D pr er : Nat} {S S' : SD} {f : NodeD → NodeD} {extra : List NodeD} {a1 a2 : Option Addr} {c1 c2 : Nat} {l l' : List Inf} (wS : Wf S) (wS' : Wf S') (hl : l = tellL S) (hl' : l' = tellL S') (hs : Still S S' x.o er f extra) (hpe : er = 0 ↔ pr ≠ 0) {ab : Inf} (hab : ab = toldI S x.o.path)
    (hd : e.ds = []) (e3 : e.ρ 3 = .pointer (some ⟨B, 0, none⟩)) (e5 : e.ρ 5 = .bool true) (e6 : e.ρ 6 = .pointer (some ⟨b, 0, none⟩)) (e8 : e.ρ 8 = .slice a1 l.length c1) (e9 : e.ρ 9 = .int .u64 pr) (e10 : e.ρ 10 = .int .i64 er) (e11 : e.ρ 11 = .slice a2 l'.length c2) (e12 : e.ρ 12 = .pointer (some ⟨D, 0, none⟩)) (h : St w0 (infB D ab * (opW B x * (NodeL (.slice a1 l.length c1) l * (NodeL (.slice a2 l'.length c2) l' * (StoreP b 0 0 S * A))))) w) :
    cwE Tryd.prog F8.t20 (fnP Tryd.prog #[.tmp 4] fun e w' => St w0 A w' ∧ e = .returned (.bool true)) e w := by
  rw [F8.t20_eq]
  have hlen := tell_len S
  have hlen' := tell_len S'
  rw [← hl] at hlen
  rw [← hl'] at hlen'
  have hf := wS.few
  have hm := wS.most
  have hf' := wS'.few
  have hm' := wS'.most
  simp -dsimp -implicitDefEqProofs (disch := omega) only [go_sem, reqD_of, dec_t, dec_f, wrap_i64, wrap_u32, wrap_u64, wrap_u8, hd, e3, e5, e6, e8, e9, e10, e11, e12]
  refine loop_intro (fun e w' => e.ds = [] ∧ e.ρ 3 = .pointer (some ⟨B, 0, none⟩) ∧ e.ρ 5 = .bool true ∧ e.ρ 6 = .pointer (some ⟨b, 0, none⟩) ∧ e.ρ 8 = .slice a1 l.length c1 ∧ e.ρ 9 = .int .u64 pr ∧ e.ρ 10 = .int .i64 er ∧ e.ρ 11 = .slice a2 l'.length c2 ∧ e.ρ 12 = .pointer (some ⟨D, 0, none⟩) ∧ ∃ i : Nat, i ≤ l.length ∧ e.ρ 17 = .int .i64 i ∧ e.ρ 16 = .int .i64 (nth S x.o er i) ∧ St w0 (infB D ab * (opW B x * (NodeL (.slice a1 l.length c1) l * (NodeL (.slice a2 l'.length c2) l' * (StoreP b 0 0 S * A))))) w')
    (fun e _ => match e.ρ 17 with | .int _ k => (l.length - k).toNat | _ => 0) ?_ ?_
  · exact ⟨by simp -dsimp -implicitDefEqProofs only [go_sem, hd], by simp -dsimp -implicitDefEqProofs only [go_sem, e3], by simp -dsimp -implicitDefEqProofs only [go_sem, e5], by simp -dsimp -implicitDefEqProofs only [go_sem, e6], by simp -dsimp -implicitDefEqProofs only [go_sem, e8], by simp -dsimp -implicitDefEqProofs only [go_sem, e9], by simp -dsimp -implicitDefEqProofs only [go_sem, e10], by simp -dsimp -implicitDefEqProofs only [go_sem, e11], by simp -dsimp -implicitDefEqProofs only [go_sem, e12], 0, by omega, by simp -dsimp -implicitDefEqProofs only [go_sem], by simp -dsimp -implicitDefEqProofs only [go_sem]; rfl, h⟩
  clear h hd e3 e5 e6 e8 e9 e10 e11 e12
  rintro e w ⟨hd, e3, e5, e6, e8, e9, e10, e11, e12, i, hi, e17, e16, h⟩
  by_cases hlt : (i : Int) < l.length
  case neg =>
    have : i = S.L.length := by omega
    rw [this] at e16
    simp -dsimp -implicitDefEqProofs (disch := omega) only [go_sem, reqD_of, dec_t, dec_f, wrap_i64, wrap_u32, wrap_u64, wrap_u8, hd, e3, e5, e6, e8, e9, e10, e11, e12, e16, e17, hlt]
    exact still_t38 (b := b) (B := B) (D := D) (pr := pr) (er := er) (S := S) (S' := S') (f := f) (extra := extra) (ab := ab) (a1 := a1) (a2 := a2) (c1 := c1) (c2 := c2) (l := l) (l' := l') wS wS' hl hl' hs hpe (by simp -dsimp -implicitDefEqProofs only [go_sem, hd]) (by simp -dsimp -implicitDefEqProofs only [go_sem, e3]) (by simp -dsimp -implicitDefEqProofs only [go_sem, e5]) (by simp -dsimp -implicitDefEqProofs only [go_sem, e6]) (by simp -dsimp -implicitDefEqProofs only [go_sem, e8]) (by simp -dsimp -implicitDefEqProofs only [go_sem, e9]) (by simp -dsimp -implicitDefEqProofs only [go_sem, e10]) (by simp -dsimp -implicitDefEqProofs only [go_sem, e11]) (by simp -dsimp -implicitDefEqProofs only [go_sem, e12]) (by simp -dsimp -implicitDefEqProofs only [go_sem, e16]) h
  have hil : i < l.length := by omega
  have hiS : i < S.L.length := by omega
  obtain ⟨nd, hnd⟩ : ∃ nd, nd = S.L[i] := ⟨_, rfl⟩
  obtain ⟨xi, hxi⟩ : ∃ xi, xi = l[i] := ⟨_, rfl⟩
  have hxt : xi = tellF S.L nd := by rw [hxi, hnd]; subst hl; simp [tellL]
  have hxp : xi.path = nd.i.path := by rw [hxt]; rfl
  have hxk : xi.kids = ((kidsF S.L nd.i.path).length : Nat) := by rw [hxt]; rfl
  have hkl := kids_len S.L nd.i.path
  have hndm : nd ∈ S.L := by rw [hnd]; exact List.getElem_mem hiS
  have r1 : Ent (infB D ab * (opW B x * (NodeL (.slice a1 l.length c1) l * (NodeL (.slice a2 l'.length c2) l' * (StoreP b 0 0 S * A))))) (Reads 13 (.slice a1 l.length c1) l.length (l.flatMap infL)) := (Ent.right _ _).trans ((Ent.right _ _).trans ((Ent.left _ _).trans (RowO.reads _ _ _ _ _)))
  obtain ⟨g1, o1, rfl, p1, _⟩ := h.nodeAt r1 hil
  rw [← hxi] at p1
  simp -dsimp -implicitDefEqProofs (disch := omega) only [go_sem, reqD_of, dec_t, dec_f, wrap_i64, wrap_u32, wrap_u64, wrap_u8, hd, e3, e5, e6, e8, e9, e10, e11, e12, e16, e17, hlt, p1]
  refine h.new fun X w1 h1 => ?_
  simp -dsimp -implicitDefEqProofs (disch := omega) only [go_sem, reqD_of, dec_t, dec_f, wrap_i64, wrap_u32, wrap_u64, wrap_u8, hd, e3, e5, e6, e8, e9, e10, e11, e12, e16, e17]
  refine h1.stoAll (b := X) (cs := infL xi) rfl rfl (infL_cells _) fun w2 h2 => ?_
  have k0 : ∀ {w F}, St w0 (infB X xi * (infB D ab * (opW B x * F))) w → w.cell? ⟨B, 0, none⟩ = some (.int .u8 x.o.kind) := fun h => (h.right.right.cells) 0
  have k1 : ∀ {w F}, St w0 (infB X xi * (infB D ab * (opW B x * F))) w → w.cell? ⟨B, 1, none⟩ = some (.int .u64 x.o.path) := fun h => (h.right.right.cells) 1
  have kp : ∀ {w F}, St w0 (infB X xi * (infB D ab * F)) w → w.cell? ⟨D, 1, none⟩ = some (.int .u64 ab.parent) := fun h => (h.right.cells) 1
  have kx : ∀ {w F}, St w0 (infB X xi * F) w → w.cell? ⟨X, 0, none⟩ = some (.int .u64 nd.i.path) := fun h => by rw [← hxp]; exact (h.cells) 0
  have kk : ∀ {w F}, St w0 (infB X xi * F) w → w.cell? ⟨X, 12, none⟩ = some (.int .i64 ((kidsF S.L nd.i.path).length : Nat)) := fun h => by rw [← hxk]; exact (h.cells) 12
  have goOn : ∀ {K : Bool}, keepB x.o er nd = K → keepB x.o er S.L[i] = K := fun hh => by rw [← hnd]; exact hh
  rcases (by omega : (¬ er = 0) ∨ (er = 0 ∧ x.o.kind = 1 ∧ nd.i.path = x.o.path) ∨ (er = 0 ∧ x.o.kind = 1 ∧ ¬ nd.i.path = x.o.path) ∨ (er = 0 ∧ x.o.kind = 2 ∧ nd.i.path = x.o.path) ∨ (er = 0 ∧ x.o.kind = 2 ∧ (¬ nd.i.path = x.o.path) ∧ nd.i.path = ab.parent) ∨ (er = 0 ∧ x.o.kind = 2 ∧ (¬ nd.i.path = x.o.path) ∧ ¬ nd.i.path = ab.parent) ∨ (er = 0 ∧ (¬ x.o.kind = 1) ∧ (¬ x.o.kind = 2) ∧ nd.i.path = x.o.path) ∨ (er = 0 ∧ (¬ x.o.kind = 1) ∧ (¬ x.o.kind = 2) ∧ ¬ nd.i.path = x.o.path)) with q | q | q | q | q | q | q | q
  · have he : ¬ (er : Int) = 0 := by omega
    have hkeep : keepB x.o er nd = true := by simp [keepB, show ¬ er = 0 by omega]
    obtain ⟨hn, hfn⟩ := nth_at hs hiS (goOn hkeep)
    have hnth := nth_keep (o := x.o) (e := er) hiS (goOn hkeep)
    have hn' : nth S x.o er i < l'.length := by omega
    obtain ⟨yi, hyi⟩ : ∃ yi, yi = l'[nth S x.o er i] := ⟨_, rfl⟩
    have hyt : yi = tellF S'.L (f nd) := by rw [hyi, hnd, ← hfn]; subst hl'; simp [tellL]
    have hyp : yi.path = nd.i.path := by rw [hyt]; exact hs.path nd hndm
    have hyk := hs.told nd hndm hkeep (fun hh => by omega)
    have hadj : kidsAdj S x.o er nd = ((kidsF S.L nd.i.path).length : Nat) + (0) := by
      unfold kidsAdj
      rw [← hab, if_neg (fun hh => by omega), if_neg (fun hh => by omega)]
      omega
    have hyw : yi = withKids xi ((kidsF S.L nd.i.path).length : Nat) := by rw [hyt, hyk, hadj, hxt, show (((kidsF S.L nd.i.path).length : Nat) : Int) + (0) = ((kidsF S.L nd.i.path).length : Nat) by omega]; rfl
    have hd2 := h2.drew
    have r2 : Ent (infB X xi * (infB D ab * (opW B x * (NodeL (.slice (some ⟨g1, o1, none⟩) l.length c1) l * (NodeL (.slice a2 l'.length c2) l' * (StoreP b 0 0 S * A)))))) (Reads 13 (.slice a2 l'.length c2) l'.length (l'.flatMap infL)) := (Ent.right _ _).trans ((Ent.right _ _).trans ((Ent.right _ _).trans ((Ent.right _ _).trans ((Ent.left _ _).trans (RowO.reads _ _ _ _ _)))))
    obtain ⟨g2, o2, rfl, p2, pc⟩ := hd2.nodeAt r2 hn'
    rw [← hyi] at p2 pc
    have p0 : w2.drew.cell? ⟨g2, o2 + nth S x.o er i * 13, none⟩ = some (.int .u64 nd.i.path) := by rw [← hyp]; exact pc 0 (by decide)
    rw [hyw] at p2
    have hge : ¬ (l'.length : Int) ≤ (nth S x.o er i : Int) := by omega
    simp -dsimp -implicitDefEqProofs (disch := omega) only [go_sem, reqD_of, dec_t, dec_f, wrap_i64, wrap_u32, wrap_u64, wrap_u8, hd, e3, e5, e6, e8, e9, e10, e11, e12, e16, e17, k0 h2, k1 h2, kp h2, kx h2, k0 hd2, k1 hd2, kp hd2, kx hd2, p0, p2, hge, he]
    refine hd2.new fun Y w3 h3 => ?_
    simp -dsimp -implicitDefEqProofs (disch := omega) only [go_sem, reqD_of, dec_t, dec_f, wrap_i64, wrap_u32, wrap_u64, wrap_u8, hd, e3, e5, e6, e8, e9, e10, e11, e12, e16, e17]
    refine h3.stoAll (b := Y) (cs := infL (withKids xi ((kidsF S.L nd.i.path).length : Nat))) rfl rfl (infL_cells _) fun w4 h4 => ?_
    have h5 := h4.right
    have h6 := h4.drew
    simp -dsimp -implicitDefEqProofs (disch := omega) only [go_sem, reqD_of, dec_t, dec_f, wrap_i64, wrap_u32, wrap_u64, wrap_u8, hd, e3, e5, e6, e8, e9, e10, e11, e12, e16, e17, k0 h5, k1 h5, kp h5, kx h5, kk h5, h6.rowH Y 13 rfl, h6.rowH X 13 rfl, he]
    refine (but_any (i := xi) (k := ((kidsF S.L nd.i.path).length : Nat)) h6).mono ?_
    rintro e' w5 ⟨h7, rfl⟩
    simp -dsimp -implicitDefEqProofs (disch := omega) only [go_sem, reqD_of, dec_t, dec_f, wrap_i64, wrap_u32, wrap_u64, wrap_u8, hd, e3, e5, e6, e8, e9, e10, e11, e12, e16, e17, h7.cl Y, h7.cl X, withKids, he]
    exact ⟨⟨i + 1, by omega, by omega, by omega, h7.right.right⟩, by omega⟩
  · have he : (er : Int) = 0 := by omega
    have hk1 : (x.o.kind : Int) = 1 := by omega
    have hk2 : ¬ (x.o.kind : Int) = 2 := by omega
    have hp : (nd.i.path : Int) = x.o.path := by omega
    have hkeep : keepB x.o er nd = true := by simp [keepB, show ¬ x.o.kind = 2 by omega]
    obtain ⟨hn, hfn⟩ := nth_at hs hiS (goOn hkeep)
    have hnth := nth_keep (o := x.o) (e := er) hiS (goOn hkeep)
    have hn' : nth S x.o er i < l'.length := by omega
    obtain ⟨yi, hyi⟩ : ∃ yi, yi = l'[nth S x.o er i] := ⟨_, rfl⟩
    have hyt : yi = tellF S'.L (f nd) := by rw [hyi, hnd, ← hfn]; subst hl'; simp [tellL]
    have hyp : yi.path = nd.i.path := by rw [hyt]; exact hs.path nd hndm
    have hyk := hs.told nd hndm hkeep (fun hh => by omega)
    have hadj : kidsAdj S x.o er nd = ((kidsF S.L nd.i.path).length : Nat) + (1) := by
      unfold kidsAdj
      rw [← hab, if_pos ⟨by omega, by omega, by omega⟩, if_neg (fun hh => by omega)]
      omega
    have hyw : yi = withKids xi (((kidsF S.L nd.i.path).length : Nat) + 1) := by rw [hyt, hyk, hadj, hxt, show (((kidsF S.L nd.i.path).length : Nat) : Int) + (1) = (((kidsF S.L nd.i.path).length : Nat) + 1) by omega]; rfl
    have hd2 := h2.drew
    have r2 : Ent (infB X xi * (infB D ab * (opW B x * (NodeL (.slice (some ⟨g1, o1, none⟩) l.length c1) l * (NodeL (.slice a2 l'.length c2) l' * (StoreP b 0 0 S * A)))))) (Reads 13 (.slice a2 l'.length c2) l'.length (l'.flatMap infL)) := (Ent.right _ _).trans ((Ent.right _ _).trans ((Ent.right _ _).trans ((Ent.right _ _).trans ((Ent.left _ _).trans (RowO.reads _ _ _ _ _)))))
    obtain ⟨g2, o2, rfl, p2, pc⟩ := hd2.nodeAt r2 hn'
    rw [← hyi] at p2 pc
    have p0 : w2.drew.cell? ⟨g2, o2 + nth S x.o er i * 13, none⟩ = some (.int .u64 nd.i.path) := by rw [← hyp]; exact pc 0 (by decide)
    rw [hyw] at p2
    have hge : ¬ (l'.length : Int) ≤ (nth S x.o er i : Int) := by omega
    simp -dsimp -implicitDefEqProofs (disch := omega) only [go_sem, reqD_of, dec_t, dec_f, wrap_i64, wrap_u32, wrap_u64, wrap_u8, hd, e3, e5, e6, e8, e9, e10, e11, e12, e16, e17, k0 h2, k1 h2, kp h2, kx h2, k0 hd2, k1 hd2, kp hd2, kx hd2, p0, p2, hge, he, hk1, hk2, hp]
    refine hd2.new fun Y w3 h3 => ?_
    simp -dsimp -implicitDefEqProofs (disch := omega) only [go_sem, reqD_of, dec_t, dec_f, wrap_i64, wrap_u32, wrap_u64, wrap_u8, hd, e3, e5, e6, e8, e9, e10, e11, e12, e16, e17]
    refine h3.stoAll (b := Y) (cs := infL (withKids xi (((kidsF S.L nd.i.path).length : Nat) + 1))) rfl rfl (infL_cells _) fun w4 h4 => ?_
    have h5 := h4.right
    have h6 := h4.drew
    simp -dsimp -implicitDefEqProofs (disch := omega) only [go_sem, reqD_of, dec_t, dec_f, wrap_i64, wrap_u32, wrap_u64, wrap_u8, hd, e3, e5, e6, e8, e9, e10, e11, e12, e16, e17, k0 h5, k1 h5, kp h5, kx h5, kk h5, h6.rowH Y 13 rfl, h6.rowH X 13 rfl, he, hk1, hk2, hp]
    refine (but_any (i := xi) (k := (((kidsF S.L nd.i.path).length : Nat) + 1)) h6).mono ?_
    rintro e' w5 ⟨h7, rfl⟩
    simp -dsimp -implicitDefEqProofs (disch := omega) only [go_sem, reqD_of, dec_t, dec_f, wrap_i64, wrap_u32, wrap_u64, wrap_u8, hd, e3, e5, e6, e8, e9, e10, e11, e12, e16, e17, h7.cl Y, h7.cl X, withKids, he, hk1, hk2, hp]
    exact ⟨⟨i + 1, by omega, by omega, by omega, h7.right.right⟩, by omega⟩
  · have he : (er : Int) = 0 := by omega
    have hk1 : (x.o.kind : Int) = 1 := by omega
    have hk2 : ¬ (x.o.kind : Int) = 2 := by omega
    have hp : ¬ (nd.i.path : Int) = x.o.path := by omega
    have hkeep : keepB x.o er nd = true := by simp [keepB, show ¬ x.o.kind = 2 by omega]
    obtain ⟨hn, hfn⟩ := nth_at hs hiS (goOn hkeep)
    have hnth := nth_keep (o := x.o) (e := er) hiS (goOn hkeep)
    have hn' : nth S x.o er i < l'.length := by omega
    obtain ⟨yi, hyi⟩ : ∃ yi, yi = l'[nth S x.o er i] := ⟨_, rfl⟩
    have hyt : yi = tellF S'.L (f nd) := by rw [hyi, hnd, ← hfn]; subst hl'; simp [tellL]
    have hyp : yi.path = nd.i.path := by rw [hyt]; exact hs.path nd hndm
    have hyk := hs.told nd hndm hkeep (fun hh => by omega)
    have hadj : kidsAdj S x.o er nd = ((kidsF S.L nd.i.path).length : Nat) + (0) := by
      unfold kidsAdj
      rw [← hab, if_neg (fun hh => by omega), if_neg (fun hh => by omega)]
      omega
    have hyw : yi = withKids xi ((kidsF S.L nd.i.path).length : Nat) := by rw [hyt, hyk, hadj, hxt, show (((kidsF S.L nd.i.path).length : Nat) : Int) + (0) = ((kidsF S.L nd.i.path).length : Nat) by omega]; rfl
    have hd2 := h2.drew
    have r2 : Ent (infB X xi * (infB D ab * (opW B x * (NodeL (.slice (some ⟨g1, o1, none⟩) l.length c1) l * (NodeL (.slice a2 l'.length c2) l' * (StoreP b 0 0 S * A)))))) (Reads 13 (.slice a2 l'.length c2) l'.length (l'.flatMap infL)) := (Ent.right _ _).trans ((Ent.right _ _).trans ((Ent.right _ _).trans ((Ent.right _ _).trans ((Ent.left _ _).trans (RowO.reads _ _ _ _ _)))))
    obtain ⟨g2, o2, rfl, p2, pc⟩ := hd2.nodeAt r2 hn'
    rw [← hyi] at p2 pc
    have p0 : w2.drew.cell? ⟨g2, o2 + nth S x.o er i * 13, none⟩ = some (.int .u64 nd.i.path) := by rw [← hyp]; exact pc 0 (by decide)
    rw [hyw] at p2
    have hge : ¬ (l'.length : Int) ≤ (nth S x.o er i : Int) := by omega
    simp -dsimp -implicitDefEqProofs (disch := omega) only [go_sem, reqD_of, dec_t, dec_f, wrap_i64, wrap_u32, wrap_u64, wrap_u8, hd, e3, e5, e6, e8, e9, e10, e11, e12, e16, e17, k0 h2, k1 h2, kp h2, kx h2, k0 hd2, k1 hd2, kp hd2, kx hd2, p0, p2, hge, he, hk1, hk2, hp]
    refine hd2.new fun Y w3 h3 => ?_
    simp -dsimp -implicitDefEqProofs (disch := omega) only [go_sem, reqD_of, dec_t, dec_f, wrap_i64, wrap_u32, wrap_u64, wrap_u8, hd, e3, e5, e6, e8, e9, e10, e11, e12, e16, e17]
    refine h3.stoAll (b := Y) (cs := infL (withKids xi ((kidsF S.L nd.i.path).length : Nat))) rfl rfl (infL_cells _) fun w4 h4 => ?_
    have h5 := h4.right
    have h6 := h4.drew
    simp -dsimp -implicitDefEqProofs (disch := omega) only [go_sem, reqD_of, dec_t, dec_f, wrap_i64, wrap_u32, wrap_u64, wrap_u8, hd, e3, e5, e6, e8, e9, e10, e11, e12, e16, e17, k0 h5, k1 h5, kp h5, kx h5, kk h5, h6.rowH Y 13 rfl, h6.rowH X 13 rfl, he, hk1, hk2, hp]
    refine (but_any (i := xi) (k := ((kidsF S.L nd.i.path).length : Nat)) h6).mono ?_
    rintro e' w5 ⟨h7, rfl⟩
    simp -dsimp -implicitDefEqProofs (disch := omega) only [go_sem, reqD_of, dec_t, dec_f, wrap_i64, wrap_u32, wrap_u64, wrap_u8, hd, e3, e5, e6, e8, e9, e10, e11, e12, e16, e17, h7.cl Y, h7.cl X, withKids, he, hk1, hk2, hp]
    exact ⟨⟨i + 1, by omega, by omega, by omega, h7.right.right⟩, by omega⟩
  · have he : (er : Int) = 0 := by omega
    have hk1 : ¬ (x.o.kind : Int) = 1 := by omega
    have hk2 : (x.o.kind : Int) = 2 := by omega
    have hp : (nd.i.path : Int) = x.o.path := by omega
    have hkeep : keepB x.o er nd = false := by simp [keepB, show er = 0 by omega, show x.o.kind = 2 by omega, show nd.i.path = x.o.path by omega]
    simp -dsimp -implicitDefEqProofs (disch := omega) only [go_sem, reqD_of, dec_t, dec_f, wrap_i64, wrap_u32, wrap_u64, wrap_u8, hd, e3, e5, e6, e8, e9, e10, e11, e12, e16, e17, k0 h2, k1 h2, kp h2, kx h2, he, hk1, hk2, hp]
    have hnth := nth_drop (o := x.o) (e := er) hiS (goOn hkeep)
    exact ⟨⟨i + 1, by omega, by omega, by rw [hnth], h2.right⟩, by omega⟩
  · have he : (er : Int) = 0 := by omega
    have hk1 : ¬ (x.o.kind : Int) = 1 := by omega
    have hk2 : (x.o.kind : Int) = 2 := by omega
    have hp : ¬ (nd.i.path : Int) = x.o.path := by omega
    have hpp : (nd.i.path : Int) = ab.parent := by omega
    have hkeep : keepB x.o er nd = true := by simp [keepB, show ¬ nd.i.path = x.o.path by omega]
    obtain ⟨hn, hfn⟩ := nth_at hs hiS (goOn hkeep)
    have hnth := nth_keep (o := x.o) (e := er) hiS (goOn hkeep)
    have hn' : nth S x.o er i < l'.length := by omega
    obtain ⟨yi, hyi⟩ : ∃ yi, yi = l'[nth S x.o er i] := ⟨_, rfl⟩
    have hyt : yi = tellF S'.L (f nd) := by rw [hyi, hnd, ← hfn]; subst hl'; simp [tellL]
    have hyp : yi.path = nd.i.path := by rw [hyt]; exact hs.path nd hndm
    have hyk := hs.told nd hndm hkeep (fun hh => by omega)
    have hadj : kidsAdj S x.o er nd = ((kidsF S.L nd.i.path).length : Nat) + (-1) := by
      unfold kidsAdj
      rw [← hab, if_neg (fun hh => by omega), if_pos ⟨by omega, by omega, by omega⟩]
      omega
    have hyw : yi = withKids xi (((kidsF S.L nd.i.path).length : Nat) - 1) := by rw [hyt, hyk, hadj, hxt, show (((kidsF S.L nd.i.path).length : Nat) : Int) + (-1) = (((kidsF S.L nd.i.path).length : Nat) - 1) by omega]; rfl
    have hd2 := h2.drew
    have r2 : Ent (infB X xi * (infB D ab * (opW B x * (NodeL (.slice (some ⟨g1, o1, none⟩) l.length c1) l * (NodeL (.slice a2 l'.length c2) l' * (StoreP b 0 0 S * A)))))) (Reads 13 (.slice a2 l'.length c2) l'.length (l'.flatMap infL)) := (Ent.right _ _).trans ((Ent.right _ _).trans ((Ent.right _ _).trans ((Ent.right _ _).trans ((Ent.left _ _).trans (RowO.reads _ _ _ _ _)))))
    obtain ⟨g2, o2, rfl, p2, pc⟩ := hd2.nodeAt r2 hn'
    rw [← hyi] at p2 pc
    have p0 : w2.drew.cell? ⟨g2, o2 + nth S x.o er i * 13, none⟩ = some (.int .u64 nd.i.path) := by rw [← hyp]; exact pc 0 (by decide)
    rw [hyw] at p2
    have hge : ¬ (l'.length : Int) ≤ (nth S x.o er i : Int) := by omega
    simp -dsimp -implicitDefEqProofs (disch := omega) only [go_sem, reqD_of, dec_t, dec_f, wrap_i64, wrap_u32, wrap_u64, wrap_u8, hd, e3, e5, e6, e8, e9, e10, e11, e12, e16, e17, k0 h2, k1 h2, kp h2, kx h2, k0 hd2, k1 hd2, kp hd2, kx hd2, p0, p2, hge, he, hk1, hk2, hp, hpp]
    refine hd2.new fun Y w3 h3 => ?_
    simp -dsimp -implicitDefEqProofs (disch := omega) only [go_sem, reqD_of, dec_t, dec_f, wrap_i64, wrap_u32, wrap_u64, wrap_u8, hd, e3, e5, e6, e8, e9, e10, e11, e12, e16, e17]
    refine h3.stoAll (b := Y) (cs := infL (withKids xi (((kidsF S.L nd.i.path).length : Nat) - 1))) rfl rfl (infL_cells _) fun w4 h4 => ?_
    have h5 := h4.right
    have h6 := h4.drew
    simp -dsimp -implicitDefEqProofs (disch := omega) only [go_sem, reqD_of, dec_t, dec_f, wrap_i64, wrap_u32, wrap_u64, wrap_u8, hd, e3, e5, e6, e8, e9, e10, e11, e12, e16, e17, k0 h5, k1 h5, kp h5, kx h5, kk h5, h6.rowH Y 13 rfl, h6.rowH X 13 rfl, he, hk1, hk2, hp, hpp]
    refine (but_any (i := xi) (k := (((kidsF S.L nd.i.path).length : Nat) - 1)) h6).mono ?_
    rintro e' w5 ⟨h7, rfl⟩
    simp -dsimp -implicitDefEqProofs (disch := omega) only [go_sem, reqD_of, dec_t, dec_f, wrap_i64, wrap_u32, wrap_u64, wrap_u8, hd, e3, e5, e6, e8, e9, e10, e11, e12, e16, e17, h7.cl Y, h7.cl X, withKids, he, hk1, hk2, hp, hpp]
    exact ⟨⟨i + 1, by omega, by omega, by omega, h7.right.right⟩, by omega⟩
  · have he : (er : Int) = 0 := by omega
    have hk1 : ¬ (x.o.kind : Int) = 1 := by omega
    have hk2 : (x.o.kind : Int) = 2 := by omega
    have hp : ¬ (nd.i.path : Int) = x.o.path := by omega
    have hpp : ¬ (nd.i.path : Int) = ab.parent := by omega
    have hkeep : keepB x.o er nd = true := by simp [keepB, show ¬ nd.i.path = x.o.path by omega]
    obtain ⟨hn, hfn⟩ := nth_at hs hiS (goOn hkeep)
    have hnth := nth_keep (o := x.o) (e := er) hiS (goOn hkeep)
    have hn' : nth S x.o er i < l'.length := by omega
    obtain ⟨yi, hyi⟩ : ∃ yi, yi = l'[nth S x.o er i] := ⟨_, rfl⟩
    have hyt : yi = tellF S'.L (f nd) := by rw [hyi, hnd, ← hfn]; subst hl'; simp [tellL]
    have hyp : yi.path = nd.i.path := by rw [hyt]; exact hs.path nd hndm
    have hyk := hs.told nd hndm hkeep (fun hh => by omega)
    have hadj : kidsAdj S x.o er nd = ((kidsF S.L nd.i.path).length : Nat) + (0) := by
      unfold kidsAdj
      rw [← hab, if_neg (fun hh => by omega), if_neg (fun hh => by omega)]
      omega
    have hyw : yi = withKids xi ((kidsF S.L nd.i.path).length : Nat) := by rw [hyt, hyk, hadj, hxt, show (((kidsF S.L nd.i.path).length : Nat) : Int) + (0) = ((kidsF S.L nd.i.path).length : Nat) by omega]; rfl
    have hd2 := h2.drew
    have r2 : Ent (infB X xi * (infB D ab * (opW B x * (NodeL (.slice (some ⟨g1, o1, none⟩) l.length c1) l * (NodeL (.slice a2 l'.length c2) l' * (StoreP b 0 0 S * A)))))) (Reads 13 (.slice a2 l'.length c2) l'.length (l'.flatMap infL)) := (Ent.right _ _).trans ((Ent.right _ _).trans ((Ent.right _ _).trans ((Ent.right _ _).trans ((Ent.left _ _).trans (RowO.reads _ _ _ _ _)))))
    obtain ⟨g2, o2, rfl, p2, pc⟩ := hd2.nodeAt r2 hn'
    rw [← hyi] at p2 pc
    have p0 : w2.drew.cell? ⟨g2, o2 + nth S x.o er i * 13, none⟩ = some (.int .u64 nd.i.path) := by rw [← hyp]; exact pc 0 (by decide)
    rw [hyw] at p2
    have hge : ¬ (l'.length : Int) ≤ (nth S x.o er i : Int) := by omega
    simp -dsimp -implicitDefEqProofs (disch := omega) only [go_sem, reqD_of, dec_t, dec_f, wrap_i64, wrap_u32, wrap_u64, wrap_u8, hd, e3, e5, e6, e8, e9, e10, e11, e12, e16, e17, k0 h2, k1 h2, kp h2, kx h2, k0 hd2, k1 hd2, kp hd2, kx hd2, p0, p2, hge, he, hk1, hk2, hp, hpp]
    refine hd2.new fun Y w3 h3 => ?_
    simp -dsimp -implicitDefEqProofs (disch := omega) only [go_sem, reqD_of, dec_t, dec_f, wrap_i64, wrap_u32, wrap_u64, wrap_u8, hd, e3, e5, e6, e8, e9, e10, e11, e12, e16, e17]
    refine h3.stoAll (b := Y) (cs := infL (withKids xi ((kidsF S.L nd.i.path).length : Nat))) rfl rfl (infL_cells _) fun w4 h4 => ?_
    have h5 := h4.right
    have h6 := h4.drew
    simp -dsimp -implicitDefEqProofs (disch := omega) only [go_sem, reqD_of, dec_t, dec_f, wrap_i64, wrap_u32, wrap_u64, wrap_u8, hd, e3, e5, e6, e8, e9, e10, e11, e12, e16, e17, k0 h5, k1 h5, kp h5, kx h5, kk h5, h6.rowH Y 13 rfl, h6.rowH X 13 rfl, he, hk1, hk2, hp, hpp]
    refine (but_any (i := xi) (k := ((kidsF S.L nd.i.path).length : Nat)) h6).mono ?_
    rintro e' w5 ⟨h7, rfl⟩
    simp -dsimp -implicitDefEqProofs (disch := omega) only [go_sem, reqD_of, dec_t, dec_f, wrap_i64, wrap_u32, wrap_u64, wrap_u8, hd, e3, e5, e6, e8, e9, e10, e11, e12, e16, e17, h7.cl Y, h7.cl X, withKids, he, hk1, hk2, hp, hpp]
    exact ⟨⟨i + 1, by omega, by omega, by omega, h7.right.right⟩, by omega⟩
  · have he : (er : Int) = 0 := by omega
    have hk1 : ¬ (x.o.kind : Int) = 1 := by omega
    have hk2 : ¬ (x.o.kind : Int) = 2 := by omega
    have hp : (nd.i.path : Int) = x.o.path := by omega
    have hkeep : keepB x.o er nd = true := by simp [keepB, show ¬ x.o.kind = 2 by omega]
    obtain ⟨hn, hfn⟩ := nth_at hs hiS (goOn hkeep)
    have hnth := nth_keep (o := x.o) (e := er) hiS (goOn hkeep)
    have hn' : nth S x.o er i < l'.length := by omega
    obtain ⟨yi, hyi⟩ : ∃ yi, yi = l'[nth S x.o er i] := ⟨_, rfl⟩
    have hyt : yi = tellF S'.L (f nd) := by rw [hyi, hnd, ← hfn]; subst hl'; simp [tellL]
    have hyp : yi.path = nd.i.path := by rw [hyt]; exact hs.path nd hndm
    have hd2 := h2.drew
    have r2 : Ent (infB X xi * (infB D ab * (opW B x * (NodeL (.slice (some ⟨g1, o1, none⟩) l.length c1) l * (NodeL (.slice a2 l'.length c2) l' * (StoreP b 0 0 S * A)))))) (Reads 13 (.slice a2 l'.length c2) l'.length (l'.flatMap infL)) := (Ent.right _ _).trans ((Ent.right _ _).trans ((Ent.right _ _).trans ((Ent.right _ _).trans ((Ent.left _ _).trans (RowO.reads _ _ _ _ _)))))
    obtain ⟨g2, o2, rfl, p2, pc⟩ := hd2.nodeAt r2 hn'
    rw [← hyi] at p2 pc
    have p0 : w2.drew.cell? ⟨g2, o2 + nth S x.o er i * 13, none⟩ = some (.int .u64 nd.i.path) := by rw [← hyp]; exact pc 0 (by decide)
    have hge : ¬ (l'.length : Int) ≤ (nth S x.o er i : Int) := by omega
    simp -dsimp -implicitDefEqProofs (disch := omega) only [go_sem, reqD_of, dec_t, dec_f, wrap_i64, wrap_u32, wrap_u64, wrap_u8, hd, e3, e5, e6, e8, e9, e10, e11, e12, e16, e17, k0 h2, k1 h2, kp h2, kx h2, k0 hd2, k1 hd2, kp hd2, kx hd2, p0, p2, hge, he, hk1, hk2, hp]
    refine hd2.new fun Y w3 h3 => ?_
    simp -dsimp -implicitDefEqProofs (disch := omega) only [go_sem, reqD_of, dec_t, dec_f, wrap_i64, wrap_u32, wrap_u64, wrap_u8, hd, e3, e5, e6, e8, e9, e10, e11, e12, e16, e17]
    refine h3.stoAll (b := Y) (cs := infL yi) rfl rfl (infL_cells _) fun w4 h4 => ?_
    have h5 := h4.right
    have h6 := h4.drew
    simp -dsimp -implicitDefEqProofs (disch := omega) only [go_sem, reqD_of, dec_t, dec_f, wrap_i64, wrap_u32, wrap_u64, wrap_u8, hd, e3, e5, e6, e8, e9, e10, e11, e12, e16, e17, k0 h5, k1 h5, kp h5, kx h5, kk h5, h6.rowH Y 13 rfl, h6.rowH X 13 rfl, he, hk1, hk2, hp]
    exact ⟨⟨i + 1, by omega, by omega, by omega, h6.right.right⟩, by omega⟩
  · have he : (er : Int) = 0 := by omega
    have hk1 : ¬ (x.o.kind : Int) = 1 := by omega
    have hk2 : ¬ (x.o.kind : Int) = 2 := by omega
    have hp : ¬ (nd.i.path : Int) = x.o.path := by omega
    have hkeep : keepB x.o er nd = true := by simp [keepB, show ¬ x.o.kind = 2 by omega]
    obtain ⟨hn, hfn⟩ := nth_at hs hiS (goOn hkeep)
    have hnth := nth_keep (o := x.o) (e := er) hiS (goOn hkeep)
    have hn' : nth S x.o er i < l'.length := by omega
    obtain ⟨yi, hyi⟩ : ∃ yi, yi = l'[nth S x.o er i] := ⟨_, rfl⟩
    have hyt : yi = tellF S'.L (f nd) := by rw [hyi, hnd, ← hfn]; subst hl'; simp [tellL]
    have hyp : yi.path = nd.i.path := by rw [hyt]; exact hs.path nd hndm
    have hyk := hs.told nd hndm hkeep (fun hh => by omega)
    have hadj : kidsAdj S x.o er nd = ((kidsF S.L nd.i.path).length : Nat) + (0) := by
      unfold kidsAdj
      rw [← hab, if_neg (fun hh => by omega), if_neg (fun hh => by omega)]
      omega
    have hyw : yi = withKids xi ((kidsF S.L nd.i.path).length : Nat) := by rw [hyt, hyk, hadj, hxt, show (((kidsF S.L nd.i.path).length : Nat) : Int) + (0) = ((kidsF S.L nd.i.path).length : Nat) by omega]; rfl
    have hd2 := h2.drew
    have r2 : Ent (infB X xi * (infB D ab * (opW B x * (NodeL (.slice (some ⟨g1, o1, none⟩) l.length c1) l * (NodeL (.slice a2 l'.length c2) l' * (StoreP b 0 0 S * A)))))) (Reads 13 (.slice a2 l'.length c2) l'.length (l'.flatMap infL)) := (Ent.right _ _).trans ((Ent.right _ _).trans ((Ent.right _ _).trans ((Ent.right _ _).trans ((Ent.left _ _).trans (RowO.reads _ _ _ _ _)))))
    obtain ⟨g2, o2, rfl, p2, pc⟩ := hd2.nodeAt r2 hn'
    rw [← hyi] at p2 pc
    have p0 : w2.drew.cell? ⟨g2, o2 + nth S x.o er i * 13, none⟩ = some (.int .u64 nd.i.path) := by rw [← hyp]; exact pc 0 (by decide)
    rw [hyw] at p2
    have hge : ¬ (l'.length : Int) ≤ (nth S x.o er i : Int) := by omega
    simp -dsimp -implicitDefEqProofs (disch := omega) only [go_sem, reqD_of, dec_t, dec_f, wrap_i64, wrap_u32, wrap_u64, wrap_u8, hd, e3, e5, e6, e8, e9, e10, e11, e12, e16, e17, k0 h2, k1 h2, kp h2, kx h2, k0 hd2, k1 hd2, kp hd2, kx hd2, p0, p2, hge, he, hk1, hk2, hp]
    refine hd2.new fun Y w3 h3 => ?_
    simp -dsimp -implicitDefEqProofs (disch := omega) only [go_sem, reqD_of, dec_t, dec_f, wrap_i64, wrap_u32, wrap_u64, wrap_u8, hd, e3, e5, e6, e8, e9, e10, e11, e12, e16, e17]
    refine h3.stoAll (b := Y) (cs := infL (withKids xi ((kidsF S.L nd.i.path).length : Nat))) rfl rfl (infL_cells _) fun w4 h4 => ?_
    have h5 := h4.right
    have h6 := h4.drew
    simp -dsimp -implicitDefEqProofs (disch := omega) only [go_sem, reqD_of, dec_t, dec_f, wrap_i64, wrap_u32, wrap_u64, wrap_u8, hd, e3, e5, e6, e8, e9, e10, e11, e12, e16, e17, k0 h5, k1 h5, kp h5, kx h5, kk h5, h6.rowH Y 13 rfl, h6.rowH X 13 rfl, he, hk1, hk2, hp]
    refine (but_any (i := xi) (k := ((kidsF S.L nd.i.path).length : Nat)) h6).mono ?_
    rintro e' w5 ⟨h7, rfl⟩
    simp -dsimp -implicitDefEqProofs (disch := omega) only [go_sem, reqD_of, dec_t, dec_f, wrap_i64, wrap_u32, wrap_u64, wrap_u8, hd, e3, e5, e6, e8, e9, e10, e11, e12, e16, e17, h7.cl Y, h7.cl X, withKids, he, hk1, hk2, hp]
    exact ⟨⟨i + 1, by omega, by omega, by omega, h7.right.right⟩, by omega⟩

theorem still_any [Gives A Tabs] (hP : OpsP A (.slice a ops.length c) ops) (ox : OpA A x) (h : St w0 A w) :
    Calls Tryd.prog 8 #[.slice a ops.length c, .agg (opVL x).toArray] w fun e w' => St w0 A w' ∧ e = .returned (.bool true) := by
  refine F8.calls (by simp) ?_
  unfold F8.code
  have hwx := ox.wt
  simp -dsimp -implicitDefEqProofs (disch := omega) only [go_sem, reqD_of, dec_t, dec_f, wrap_i64, wrap_u32, wrap_u64, wrap_u8]
  refine h.new fun B w1 h1 => ?_
  simp -dsimp -implicitDefEqProofs (disch := omega) only [go_sem, reqD_of, dec_t, dec_f, wrap_i64, wrap_u32, wrap_u64, wrap_u8]
  refine (works_any h1).mono ?_
  rintro e w2 ⟨h2, rfl⟩
  have h2 : St w0 (opW B x * A) w2 := h2
  have hE : Ent (opW B x * A) A := Ent.right _ _
  simp -dsimp -implicitDefEqProofs (disch := omega) only [go_sem, reqD_of, dec_t, dec_f, wrap_i64, wrap_u32, wrap_u64, wrap_u8, h2.cl B, opVL, opL]
  refine (ofOp_any (ox.up hE) h2).mono ?_
  rintro e w3 ⟨h3, rfl⟩
  simp -dsimp -implicitDefEqProofs (disch := omega) only [go_sem, reqD_of, dec_t, dec_f, wrap_i64, wrap_u32, wrap_u64, wrap_u8]
  refine (ofOps_any (hP.up hE) (n := wtO x.o) (by omega) h3).mono ?_
  rintro e w4 ⟨h4, k, rfl, hk⟩
  by_cases hbig : (8388608 : Int) < k
  · simp -dsimp -implicitDefEqProofs (disch := omega) only [go_sem, reqD_of, dec_t, dec_f, wrap_i64, wrap_u32, wrap_u64, wrap_u8, hbig]
    exact h4.right
  have hw := hk (by omega)
  haveI : Gives (opW B x * A) (RdB x.v x.o.data) := ⟨hE.trans ox.data⟩
  obtain ⟨S, hS⟩ : ∃ S, S = runF (storeF 100) ops := ⟨_, rfl⟩
  have wS : Wf S := by rw [hS]; exact run_wf (store_wf (by decide)) hP.each
  have nS : S.next ≤ 83888 := by
    have h1 := run_next (storeF 100) ops
    have h2 : (storeF 100).next = 2 := rfl
    have h3 := wt_len ops
    rw [hS]; omega
  have wS' := do_wf wS ox.ok
  obtain ⟨⟨f, extra, hs⟩, hpe⟩ := still_law wS ox.ok
  simp -dsimp -implicitDefEqProofs (disch := omega) only [go_sem, reqD_of, dec_t, dec_f, wrap_i64, wrap_u32, wrap_u64, wrap_u8, hbig]
  refine (grown_any (hP.up hE) (by omega) h4).mono ?_
  rintro e w5 ⟨b, h5, rfl⟩
  rw [← hS] at h5
  simp -dsimp -implicitDefEqProofs (disch := omega) only [go_sem, reqD_of, dec_t, dec_f, wrap_i64, wrap_u32, wrap_u64, wrap_u8]
  refine (clone_any h5).mono ?_
  rintro e w6 ⟨b1, h6, rfl⟩
  simp -dsimp -implicitDefEqProofs (disch := omega) only [go_sem, reqD_of, dec_t, dec_f, wrap_i64, wrap_u32, wrap_u64, wrap_u8]
  refine (list_any wS h6.sw2).mono ?_
  rintro e w7 ⟨v1, h7, rfl⟩
  obtain ⟨a1, c1, rfl, _⟩ := h7.rowForm v1
  obtain ⟨l, hl⟩ : ∃ l, l = tellL S := ⟨_, rfl⟩
  rw [← hl] at h7 ⊢
  simp -dsimp -implicitDefEqProofs (disch := omega) only [go_sem, reqD_of, dec_t, dec_f, wrap_i64, wrap_u32, wrap_u64, wrap_u8, h7.cl B, opVL, opL]
  refine (do_any (o := x.o) (vd := x.v) (ox.in_ (by omega)) ox.kind (by omega) (h7.sw3)).mono ?_
  rintro e w8 ⟨h8, rfl⟩
  obtain ⟨S', hS'⟩ : ∃ S', S' = (doF S x.o).1 := ⟨_, rfl⟩
  obtain ⟨pr, hpr⟩ : ∃ pr, pr = (doF S x.o).2.1 := ⟨_, rfl⟩
  obtain ⟨er, her⟩ : ∃ er, er = (doF S x.o).2.2 := ⟨_, rfl⟩
  rw [← hS'] at h8 wS' hs
  rw [← her] at hs hpe
  rw [← hpr] at hpe
  rw [← hpr, ← her]
  simp -dsimp -implicitDefEqProofs (disch := omega) only [go_sem, reqD_of, dec_t, dec_f, wrap_i64, wrap_u32, wrap_u64, wrap_u8]
  refine (list_any wS' h8).mono ?_
  rintro e w9 ⟨v2, h9, rfl⟩
  obtain ⟨a2, c2, rfl, _⟩ := h9.rowForm v2
  obtain ⟨l', hl'⟩ : ∃ l', l' = tellL S' := ⟨_, rfl⟩
  rw [← hl'] at h9 ⊢
  have h10 : St w0 (StoreP b 0 0 S * (StoreP b1 0 0 S' * (NodeL (.slice a1 l.length c1) l * (NodeL (.slice a2 l'.length c2) l' * (opW B x * A))))) w9 := h9.ac (by ac_rfl)
  have k1 : w9.cell? ⟨B, 1, none⟩ = some (.int .u64 x.o.path) := (h9.cl B) 1
  simp -dsimp -implicitDefEqProofs (disch := omega) only [go_sem, reqD_of, dec_t, dec_f, wrap_i64, wrap_u32, wrap_u64, wrap_u8, k1]
  refine (node_any (p := x.o.path) h10).mono ?_
  rintro e w10 ⟨h11, rfl⟩
  rw [toldV]
  simp -dsimp -implicitDefEqProofs (disch := omega) only [go_sem, reqD_of, dec_t, dec_f, wrap_i64, wrap_u32, wrap_u64, wrap_u8]
  refine h11.new fun D w11 h12 => ?_
  simp -dsimp -implicitDefEqProofs (disch := omega) only [go_sem, reqD_of, dec_t, dec_f, wrap_i64, wrap_u32, wrap_u64, wrap_u8]
  refine h12.stoAll (b := D) (cs := infL (toldI S x.o.path)) rfl rfl (infL_cells _) fun w12 h13 => ?_
  have k1 : w12.cell? ⟨B, 1, none⟩ = some (.int .u64 x.o.path) := (h13.cl B) 1
  have h14 : St w0 (StoreP b 0 0 S * (StoreP b1 0 0 S' * (infB D (toldI S x.o.path) * (NodeL (.slice a1 l.length c1) l * (NodeL (.slice a2 l'.length c2) l' * (opW B x * A)))))) w12 := h13.ac (by simp only [infB]; ac_rfl)
  have hlen := tell_len S
  rw [← hl] at hlen
  have hf := wS.few
  have hm := wS.most
  have heq : ∀ y ∈ l, y.path ≠ (if er = 0 then x.o.path else 0) → readS S y.path 0 65536 = readS S' y.path 0 65536 := fun y hy hne => by
    rw [hl] at hy
    obtain ⟨nd, hnd, rfl⟩ := List.mem_map.1 hy
    exact hs.same nd hnd hne
  have hre : Ent (infB D (toldI S x.o.path) * (NodeL (.slice a1 l.length c1) l * (NodeL (.slice a2 l'.length c2) l' * (opW B x * A)))) (Reads 13 (.slice a1 l.length c1) l.length (l.flatMap infL)) := (Ent.right _ _).trans ((Ent.left _ _).trans (RowO.reads _ _ _ _ _))
  by_cases he : er = 0
  · have he' : (er : Int) = 0 := by omega
    rw [if_pos he] at heq
    simp -dsimp -implicitDefEqProofs (disch := omega) only [go_sem, reqD_of, dec_t, dec_f, wrap_i64, wrap_u32, wrap_u64, wrap_u8, k1, he']
    refine (same_any (b := b) (b2 := b1) (s := S) (t := S') (l := l) (p := x.o.path) hre (by omega) heq h14).mono ?_
    rintro e w13 ⟨h15, rfl⟩
    simp -dsimp -implicitDefEqProofs (disch := omega) only [go_sem, reqD_of, dec_t, dec_f, wrap_i64, wrap_u32, wrap_u64, wrap_u8]
    exact still_t20 (b := b) (B := B) (D := D) (pr := pr) (er := er) (S := S) (S' := S') (f := f) (extra := extra) (a1 := a1) (a2 := a2) (c1 := c1) (c2 := c2) (l := l) (l' := l') wS wS' hl hl' hs hpe rfl (by simp -dsimp -implicitDefEqProofs only [go_sem]) (by simp -dsimp -implicitDefEqProofs only [go_sem]) (by simp -dsimp -implicitDefEqProofs only [go_sem]) (by simp -dsimp -implicitDefEqProofs only [go_sem]) (by simp -dsimp -implicitDefEqProofs only [go_sem]) (by simp -dsimp -implicitDefEqProofs only [go_sem]) (by simp -dsimp -implicitDefEqProofs only [go_sem]) (by simp -dsimp -implicitDefEqProofs only [go_sem]) (by simp -dsimp -implicitDefEqProofs only [go_sem]) (h15.drop2.ac (by simp only [infB]; ac_rfl))
  · have he' : ¬ (er : Int) = 0 := by omega
    rw [if_neg he] at heq
    simp -dsimp -implicitDefEqProofs (disch := omega) only [go_sem, reqD_of, dec_t, dec_f, wrap_i64, wrap_u32, wrap_u64, wrap_u8, k1, he']
    refine (same_any (b := b) (b2 := b1) (s := S) (t := S') (l := l) (p := 0) hre (by omega) heq h14).mono ?_
    rintro e w13 ⟨h15, rfl⟩
    simp -dsimp -implicitDefEqProofs (disch := omega) only [go_sem, reqD_of, dec_t, dec_f, wrap_i64, wrap_u32, wrap_u64, wrap_u8]
    exact still_t20 (b := b) (B := B) (D := D) (pr := pr) (er := er) (S := S) (S' := S') (f := f) (extra := extra) (a1 := a1) (a2 := a2) (c1 := c1) (c2 := c2) (l := l) (l' := l') wS wS' hl hl' hs hpe rfl (by simp -dsimp -implicitDefEqProofs only [go_sem]) (by simp -dsimp -implicitDefEqProofs only [go_sem]) (by simp -dsimp -implicitDefEqProofs only [go_sem]) (by simp -dsimp -implicitDefEqProofs only [go_sem]) (by simp -dsimp -implicitDefEqProofs only [go_sem]) (by simp -dsimp -implicitDefEqProofs only [go_sem]) (by simp -dsimp -implicitDefEqProofs only [go_sem]) (by simp -dsimp -implicitDefEqProofs only [go_sem]) (by simp -dsimp -implicitDefEqProofs only [go_sem]) (h15.drop2.ac (by simp only [infB]; ac_rfl))
end
end
end Go.Proofs.YtijnmokpihhhcaaDoor


namespace Go.Proofs.YtijnmokpihhhcaaDoor
open Go
set_option linter.unusedVariables false
set_option linter.unusedSimpArgs false
set_option maxRecDepth 100000

abbrev rOq := rCons 1 (rInt .u8) (rCons 1 (rInt .u64) (rCons 1 rStr (rCons 1 (rInt .u8) (rCons 13 rInf (rCons 1 (rInt .u64) (rCons 1 rBytes (rCons 1 (rInt .i64) (rEnd))))))))
theorem rOq_cells {x} {cs : List Value} {h : Heap} (r : rOq.rel x cs h) : ∃ y : OpV, cs = opVL y ∧ OpIs y h := by
  obtain ⟨x1, x2, x3, x4, ⟨y1, y2, y3, y4, y5, y6, y7, y8, y9, y10, y11, y12, y13, _⟩, x6, bs, x8, _⟩ := x
  obtain ⟨_, _, rfl, _, ⟨rfl, w1⟩, _, _, rfl, _, ⟨rfl, w2⟩, _, _, rfl, _, ⟨rfl, w3⟩, _, _, rfl, _, ⟨rfl, w4⟩, ci, _, rfl, _, ri, _, _, rfl, _, ⟨rfl, w6⟩, cd, _, rfl, hl7, ⟨v, rfl, hb, hbl⟩, _, _, rfl, _, ⟨rfl, w8⟩, rfl⟩ := r
  obtain ⟨_, _, rfl, _, ⟨rfl, i1⟩, _, _, rfl, _, ⟨rfl, i2⟩, _, _, rfl, _, ⟨rfl, i3⟩, _, _, rfl, _, ⟨rfl, i4⟩, _, _, rfl, _, ⟨rfl, i5⟩, _, _, rfl, _, ⟨rfl, i6⟩, _, _, rfl, _, ⟨rfl, i7⟩, _, _, rfl, _, ⟨rfl, i8⟩, _, _, rfl, _, ⟨rfl, i9⟩, _, _, rfl, _, ⟨rfl, i10⟩, _, _, rfl, _, ⟨rfl, i11⟩, _, _, rfl, _, ⟨rfl, i12⟩, _, _, rfl, _, ⟨rfl, i13⟩, rfl⟩ := ri
  obtain ⟨a1, a2⟩ := wf_u8 w1
  obtain ⟨b1, b2⟩ := wf_u64 w2
  obtain ⟨c1, c2⟩ := wf_u8 w4
  obtain ⟨d1, d2⟩ := wf_u64 w6
  obtain ⟨e1, e2⟩ := wf_i64 w8
  obtain ⟨f1, f2⟩ := wf_u64 i1
  obtain ⟨g1, g2⟩ := wf_u64 i2
  obtain ⟨h1, h2⟩ := wf_u32 i4
  obtain ⟨k1, k2⟩ := wf_u32 i8
  obtain ⟨l1, l2⟩ := wf_u32 i9
  obtain ⟨m1, m2⟩ := wf_u32 i10
  obtain ⟨n1, n2⟩ := wf_u64 i11
  have hq : reachBytes = 140737488351232 := rfl
  have hbl : bs.length ≤ reachBytes := hbl
  refine ⟨⟨⟨x1.toNat, x2.toNat, x3.data.toList, x4.toNat, ⟨y1.toNat, y2.toNat, y3.data.toList, y4.toNat, y5.data.toList, y6.data.toList, y7.data.toList, y8.toNat, y9.toNat, y10.toNat, y11.toNat, y12, y13⟩, x6.toNat, bs, x8⟩, v⟩, ?_, ⟨a2, c2, d2, h2, k2, l2, e1, e2, hb, (by show bs.length ≤ 140737488355328; omega), str_reach w3, str_reach i3, str_reach i5, str_reach i6, str_reach i7⟩⟩
  simp only [opVL, opL, strOf_eta, a1, b1, c1, d1, f1, g1, h1, k1, l1, m1, n1, List.cons_append, List.nil_append]
theorem ops_arq {W : World} {xs} {v : Value} (c : (rSlice 20 208 rOq).rel xs [v] (heapOf W)) : ∃ ops : List OpV, (∃ a c, v = .slice a ops.length c) ∧ OpsP (Old W) v ops := by
  obtain ⟨ops, hl, h1, h2⟩ := rSlice_choose (β := OpV) (enc := opVL) (p := OpIs) (fun x cs h r => rOq_cells r) opVL_len c
  have hb := rSlice_len c
  have hq : reachBytes = 140737488351232 := rfl
  have hr : Ent (Old W) (Reads 20 v ops.length (ops.flatMap opVL)) := Ent.of fun _ ho => Reads.mono (fun b o e => ho b o e) h2
  obtain ⟨_, a, c', e, _⟩ := St.rowsAt opVL_len (by decide) ((St.start W).ent hr)
  exact ⟨ops, ⟨a, c', e⟩, hr, fun y hy => (h1 y hy).a, by omega⟩
end Go.Proofs.YtijnmokpihhhcaaDoor
