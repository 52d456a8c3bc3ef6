/- part 12 -/
import Derived.Test.YtijnmokpihhhcaaGreatDoorZ1
import Derived.Test.YtijnmokpihhhcaaGreatDoorZ2
import Derived.Test.YtijnmokpihhhcaaGreatDoorZ3
import Derived.Test.YtijnmokpihhhcaaGreatDoorZ4
import Derived.Test.YtijnmokpihhhcaaGreatDoorZ5
import Derived.Test.YtijnmokpihhhcaaGreatDoorZ6
import Derived.Test.YtijnmokpihhhcaaGreatDoorZ7
import Derived.Test.YtijnmokpihhhcaaGreatDoorZ8
import Derived.Test.YtijnmokpihhhcaaGreatDoorZ9
import Derived.Test.YtijnmokpihhhcaaGreatDoorZ10
import Derived.Test.YtijnmokpihhhcaaGreatDoorZ11
namespace Go.Proofs.YtijnmokpihhhcaaGreatDoor
open Go
def RoundOkA {α : Type} (P : Program) (w0 : World) (e : FA) (ps : Array Tmp) (asg body : Cd) (Pass : α → Array Value → HP) (Ok : List α → Prop) (J : List α → HP) (X : Code → List α → HP) : Prop :=
  ∀ (l : Nat) (pre : List α) (x : α) (args : Array Value) (G : HP) (W : World), Ok (pre ++ [x]) → St w0 (J pre * (Pass x args * G)) W →
    args.size = ps.size ∧ cwRE P l asg (onlyP fun e1 W1 => ∃ A : HP, St w0 (A * (J pre * (Pass x args * G))) W1 ∧
      ∀ (G2 : HP) (W2 : World), Ent G2 (LoopHere l) → St w0 (A * (J pre * (Pass x args * G2))) W2 → cwRE P l body (roundQ w0 (J (pre ++ [x]) * G2) fun c => X c (pre ++ [x]) * G2) e1 W2) (putArgs ps.toList args.toList { e with ds := [] }) W
theorem mk_yieldsA {α : Type} {P : Program} {w0 : World} {e : FA} {ps : Array Tmp} {asg body : Cd} {Pass : α → Array Value → HP} {Ok : List α → Prop} {J : List α → HP} {X : Code → List α → HP} {l : Nat} {Rec : LoopState → Option Code → Obj} {Dp : HP}
    (hro : RoundOkA P w0 e ps asg body Pass Ok J X)
    (hrec : LoopRec P l Rec fun args W R => args.size = ps.size ∧ cw P (some l) asg (onlyP fun e1 W1 => W1.heap[l]? = some (Rec .ready none) ∧
      cw P (some l) body (roundP l Rec R) e1 (W1.putObj l (Rec .busy none))) (putArgs ps.toList args.toList { e with ds := [] }) W) :
    YieldsTo P w0 l Pass Ok (fun pre => Blk l (Rec .ready none) * (Dp * J pre)) (fun pre => HP.ex fun c => Blk l (Rec .done (some c)) * (Dp * X c pre)) := by
  intro G pre x args w hok h
  simp only at h ⊢
  refine hrec.yield args w _ h.left.blk ?_
  have h1 : St w0 (J pre * (Pass x args * (Blk l (Rec .ready none) * (Dp * G)))) w := h.ac (by ac_rfl)
  obtain ⟨hsz, hcode⟩ := hro l pre x args _ w hok h1
  refine ⟨hsz, ?_⟩
  refine cw_of_cwD _ _ _ _ _ _ (fun ex e1 W1 hx => ?_) hcode
  cases ex with
  | normal =>
    obtain ⟨A, h2, hb⟩ := hx
    have h3 : St w0 (Blk l (Rec .ready none) * (A * (J pre * (Pass x args * (Dp * G))))) W1 := h2.ac (by ac_rfl)
    refine ⟨h3.blk, ?_⟩
    have h4 := h3.putObj (Rec .busy none)
    have h5 : St w0 (A * (J pre * (Pass x args * (Blk l (Rec .busy none) * (Dp * G))))) (W1.putObj l (Rec .busy none)) := h4.ac (by ac_rfl)
    have hl : Ent (Blk l (Rec .busy none) * (Dp * G)) (LoopHere l) := (Ent.left _ _).trans (Ent.of fun h hb => by
      obtain ⟨r, hr⟩ := hrec.isLoop .busy none
      exact ⟨r, by rw [← hr]; exact hb⟩)
    refine cw_of_cwD _ _ _ _ _ _ (fun ex e2 W2 hx => ?_) (hb _ _ hl h5)
    have stop : ∀ c, St w0 (X c (pre ++ [x]) * (Blk l (Rec .busy none) * (Dp * G))) W2 → W2.heap[l]? = some (Rec .busy none) ∧
        ((Ending.returned (.bool false) = .returned (.bool true) ∧ St w0 ((Blk l (Rec .ready none) * (Dp * J (pre ++ [x]))) * G) (W2.putObj l (Rec .done (some c)))) ∨
          (Ending.returned (.bool false) = .returned (.bool false) ∧ St w0 ((HP.ex fun c => Blk l (Rec .done (some c)) * (Dp * X c (pre ++ [x]))) * G) (W2.putObj l (Rec .done (some c))))) := fun c hx => by
      have h6 : St w0 (Blk l (Rec .busy none) * (Dp * X c (pre ++ [x]) * G)) W2 := hx.ac (by ac_rfl)
      refine ⟨h6.blk, .inr ⟨rfl, ?_⟩⟩
      have h7 := h6.putObj (Rec .done (some c))
      exact (h7.ac (by ac_rfl : _ = (Blk l (Rec .done (some c)) * (Dp * X c (pre ++ [x]))) * G)).ent (Ent.sep (Ent.ex (fun c => Blk l (Rec .done (some c)) * (Dp * X c (pre ++ [x]))) c) (Ent.rfl' _))
    cases ex with
    | normal =>
      have h6 : St w0 (Blk l (Rec .busy none) * (Dp * J (pre ++ [x]) * G)) W2 := St.ac hx (by ac_rfl)
      refine ⟨h6.blk, .inl ⟨rfl, ?_⟩⟩
      exact (h6.putObj (Rec .ready none)).ac (by ac_rfl)
    | ret => exact stop _ hx
    | exit i => exact stop _ hx
    | goto t => exact stop _ hx
    | panic c => exact hx.elim
    | outgrown => exact hx.elim
  | exit i => exact hx.elim
  | goto t => exact hx.elim
  | ret => exact hx.elim
  | panic c => exact hx.elim
  | outgrown => exact hx.elim
theorem range_introA {α : Type} {P : Program} {w0 w : World} {F G G' : HP} {e : FA} {g : Operand} {ps : Array Tmp} {asg body : Cd} {Q : Post} {θ : Tag ((.rangeFunc g ps asg body : Cd), Q, e, w)} (h : St w0 F w) {gf : Nat} {lb : Array Value}
    (hg : e.ev g = .func (.func gf) #[] lb) (hf : fnOk P gf = true) {Pass : α → Array Value → HP} {Ok S : List α → Prop} (J : List α → HP) (X : Code → List α → HP) (h0 : Ent F (J [] * G))
    (hround : RoundOkA P w0 e ps asg body Pass Ok J X) (hcall : IterOk P w0 gf lb Pass Ok S G G')
    (hdone : ∀ (D : Nat) (xs : List α) (w' : World), S xs → St w0 (Blk D (.deferred (some [])) * (J xs * G')) w' → Q .normal { e with ds := { target := .collected D, args := #[] } :: e.ds } w')
    (hstop : ∀ (D : Nat) (c : Code) (pre : List α) (w' : World), St w0 (Blk D (.deferred (some [])) * (X c pre * G')) w' → jumpP Q (some c) { e with ds := { target := .collected D, args := #[] } :: e.ds } w') :
    cwE P (.rangeFunc g ps asg body) Q e w θ := by
  refine ⟨fun l h => (by cases h), gf, lb, hg, hf, fun Rec hrec => ?_⟩
  have h1 := (h.ent h0).alloc (.deferred (some []))
  have h2 := h1.alloc (Rec .ready none)
  have hs : (w.alloc (.deferred (some []))).heap.size = w.heap.size + 1 := World.size_alloc _ _
  rw [hs] at h2
  have hy := mk_yieldsA (Dp := Blk w.heap.size (.deferred (some []))) hround hrec
  refine (hcall _ _ _ _ hy (h2.ac ?_)).mono ?_
  · simp only [loopAt]; ac_rfl
  · rintro ex W ⟨⟨v, rfl⟩, hq⟩
    rcases hq with ⟨xs, hS, hq⟩ | ⟨pre, hq⟩
    · have h3 : St w0 (Blk (w.heap.size + 1) (Rec .ready none) * (Blk w.heap.size (.deferred (some [])) * (J xs * G'))) W := hq.ac (by simp only [loopAt]; ac_rfl)
      exact ⟨.ready, none, h3.blk, by simp, hdone _ xs _ hS (h3.putObj (Rec .exhausted none)).right⟩
    · have hq := hq
      obtain ⟨c, hq⟩ := St.exF hq
      have h3 : St w0 (Blk (w.heap.size + 1) (Rec .done (some c)) * (Blk w.heap.size (.deferred (some [])) * (X c pre * G'))) W := hq.ac (by simp only [loopAt]; ac_rfl)
      exact ⟨.done, some c, h3.blk, by simp, hstop _ c pre _ (h3.putObj (Rec .exhausted (some c))).right⟩
set_option linter.unusedVariables false
set_option linter.unusedSimpArgs false
set_option maxRecDepth 100000
def tellL (s : SD) : List Inf := s.L.map (tellF s.L)
theorem tell_len (s : SD) : (tellL s).length = s.L.length := by simp [tellL]
theorem least_at {s : SD} (h : Wf s) {j last : Nat} (hj : ∀ k (hk : k < s.L.length), k < j → s.L[k].i.path ≤ last) (hb : ∀ k (hk : k < s.L.length), j ≤ k → last < s.L[k].i.path) :
    leastV s last = .tuple #[.agg (infL ((tellL s).getD j infZ)).toArray, .bool (decide (j < s.L.length))] := by
  have hf : leastS s last = (s.L.map (·.i.path))[j]? := by
    unfold leastS
    refine rise_find (rise_paths.1 h.rise) (fun k hk hkj => ?_) fun k hk hkj => ?_
    · rw [List.length_map] at hk; simp only [List.getElem_map]; exact hj k hk hkj
    · rw [List.length_map] at hk; simp only [List.getElem_map]; exact hb k hk hkj
  unfold leastV
  rw [hf]
  by_cases hlt : j < s.L.length
  · have e1 : (s.L.map (·.i.path))[j]? = some s.L[j].i.path := by simp [hlt]
    have e2 := find_of h.rise (List.getElem_mem hlt)
    rw [e1]
    simp only [toldV, toldI_some e2, e2, Option.isSome_some]
    have e3 : (tellL s).getD j infZ = tellF s.L s.L[j] := by simp [tellL, List.getD_eq_getElem?_getD, hlt]
    rw [e3, decide_eq_true hlt]
  · have e1 : (s.L.map (·.i.path))[j]? = none := List.getElem?_eq_none (by simpa using Nat.le_of_not_lt hlt)
    rw [e1]
    have e3 : (tellL s).getD j infZ = infZ := by
      rw [List.getD_eq_getElem?_getD, List.getElem?_eq_none (by rw [tell_len]; omega)]; rfl
    rw [e3, decide_eq_false hlt]
theorem least_0 {s : SD} (h : Wf s) : leastV s 0 = .tuple #[.agg (infL ((tellL s).getD 0 infZ)).toArray, .bool (decide (0 < s.L.length))] :=
  least_at h (fun k hk hkj => absurd hkj (by omega)) fun k hk _ => (h.below _ (List.getElem_mem hk)).1
theorem least_s {s : SD} (h : Wf s) {i : Nat} (hi : i < s.L.length) : leastV s ((tellL s).getD i infZ).path = .tuple #[.agg (infL ((tellL s).getD (i + 1) infZ)).toArray, .bool (decide (i + 1 < s.L.length))] := by
  have e3 : ((tellL s).getD i infZ).path = s.L[i].i.path := by simp [tellL, List.getD_eq_getElem?_getD, hi, tellF]
  rw [e3]
  have hr := List.pairwise_iff_getElem.1 h.rise
  refine least_at h (fun k hk hkj => ?_) fun k hk hkj => hr i k hi hk (by omega)
  rcases Nat.lt_or_ge k i with hlt | hge
  · exact Nat.le_of_lt (hr k i hk hi hlt)
  · have : k = i := by omega
    subst this; exact Nat.le_refl _
abbrev ptrS (K b : Nat) : HP := Blk K (.cells #[.pointer (some ⟨b, 0, none⟩)] 27 (0, 0))
def PassI (x : Inf) (args : Array Value) : HP := HP.fact (args = #[.agg (infL x).toArray]) EmpH
theorem PassI.open {w0 w : World} {x : Inf} {args : Array Value} {F : HP} (h : St w0 (PassI x args * F) w) : args = #[.agg (infL x).toArray] ∧ St w0 F w := by
  obtain ⟨e, h2⟩ := h.factF
  exact ⟨e, h2.right⟩
theorem PassI.mk {w0 w : World} {F : HP} (x : Inf) (h : St w0 F w) : St w0 (PassI x #[.agg (infL x).toArray] * F) w :=
  (h.ent (Ent.embL F)).ent (Ent.sep (Ent.fact (p := (#[.agg (infL x).toArray] : Array Value) = #[.agg (infL x).toArray]) rfl _) (Ent.rfl' _))
section
variable {w0 w : World} {A : HP}
theorem all_any {b : Nat} (h : St w0 A w) :
    Calls Tryz.prog 12 #[.pointer (some ⟨b, 0, none⟩)] w fun e w' => ∃ K, St w0 (ptrS K b * A) w' ∧ e = .returned (.func (.func 46) #[] #[.pointer (some ⟨K, 0, none⟩)]) := by
  refine F12.calls (by simp) ?_
  unfold F12.code
  simp -dsimp -implicitDefEqProofs (disch := omega) only [go_sem]
  refine h.new fun K w1 h1 => ?_
  simp -dsimp -implicitDefEqProofs (disch := omega) only [go_sem]
  exact ⟨K, h1, rfl⟩
def AllI (w0 : World) (s : SD) (b K q : Nat) (J : List Inf → HP) (R : HP) (m : Nat) (e : FA) (w' : World) : Prop :=
  e.ds = [] ∧ e.ρ 0 = .func (.yield q) #[] #[] ∧ e.ρ 1 = .pointer (some ⟨K, 0, none⟩) ∧ ∃ i P : Nat, i ≤ s.L.length ∧ m = s.L.length - i ∧ e.ρ 4 = .bool (decide (i < s.L.length)) ∧ e.ρ 3 = .pointer (some ⟨P, 0, none⟩) ∧
      St w0 (Blk P (.cells (infL ((tellL s).getD i infZ)).toArray 42 (0, 0)) * (StoreP b 0 0 s * (ptrS K b * (J ((tellL s).take i) * R)))) w'
section
attribute [local go_sem] F46.t3_eq
theorem allIter {K b : Nat} {s : SD} {R : HP} (hs : Wf s) :
    IterOk Tryz.prog w0 46 #[.pointer (some ⟨K, 0, none⟩)] PassI (fun pre => ∃ post, pre ++ post = tellL s) (fun xs => xs = tellL s) (StoreP b 0 0 s * (ptrS K b * R)) (StoreP b 0 0 s * (ptrS K b * R)) := by
  intro q w1 J X hy h
  show Calls _ 46 #[.func (.yield q) #[] #[], .pointer (some ⟨K, 0, none⟩)] w1 _
  have hlen := tell_len s
  have hmost := hs.few
  have hm2 := hs.most
  refine F46.calls (by simp) ?_
  unfold F46.code
  have h1 : St w0 (StoreP b 0 0 s * (ptrS K b * (J [] * R))) w1 := h.ac (by ac_rfl)
  simp -dsimp -implicitDefEqProofs (disch := omega) only [go_sem, h1.right.cl K]
  refine (least_any (last := 0) h1).mono ?_
  rintro e w2 ⟨h2, rfl⟩
  rw [least_0 hs]
  simp -dsimp -implicitDefEqProofs (disch := omega) only [go_sem]
  refine h2.new fun P w3 h3 => ?_
  simp -dsimp -implicitDefEqProofs (disch := omega) only [go_sem]
  refine h3.stoAll (b := P) (cs := infL ((tellL s).getD 0 infZ)) rfl rfl (infL_cells _) fun w4 h4 => ?_
  simp -dsimp -implicitDefEqProofs (disch := omega) only [go_sem]
  refine loop_rank (AllI w0 s b K q J R) s.L.length ?_ ?_
  · exact ⟨by simp -dsimp -implicitDefEqProofs only [go_sem], by simp -dsimp -implicitDefEqProofs only [go_sem], by simp -dsimp -implicitDefEqProofs only [go_sem], 0, P, by omega, rfl, by simp -dsimp -implicitDefEqProofs only [go_sem], by simp -dsimp -implicitDefEqProofs only [go_sem], h4⟩
  clear h h1 h2 h3 h4
  rintro e w ⟨hd, e0, e1, i, P, hi, hm, e4, e3, h⟩
  by_cases hlt : i < s.L.length
  case neg =>
    have hd4 : decide (i < s.L.length) = false := decide_eq_false hlt
    rw [hd4] at e4
    rw [List.take_of_length_le (by omega)] at h
    simp -dsimp -implicitDefEqProofs (disch := omega) only [go_sem, hd, e0, e1, e3, e4]
    exact ⟨⟨_, rfl⟩, .inl ⟨_, rfl, h.right.ac (by ac_rfl)⟩⟩
  have hd4 : decide (i < s.L.length) = true := decide_eq_true hlt
  rw [hd4] at e4
  obtain ⟨x, hx⟩ : ∃ x, x = (tellL s).getD i infZ := ⟨_, rfl⟩
  have hten : (tellL s).take (i + 1) = (tellL s).take i ++ [x] := by
    rw [List.take_succ_eq_append_getElem (by omega), hx, List.getD_eq_getElem?_getD, List.getElem?_eq_getElem (by omega)]; rfl
  have hpost : ∃ post, ((tellL s).take i ++ [x]) ++ post = tellL s := ⟨(tellL s).drop (i + 1), by rw [← hten, List.take_append_drop]⟩
  have hls := least_s hs hlt
  rw [← hx] at hls h
  have hxL : ∀ {w : World} {F : HP}, St w0 (Blk P (.cells (infL x).toArray 42 (0, 0)) * F) w → w.cell? ⟨P, 0, none⟩ = some (.int .u64 x.path) := fun h => h.cells 0
  simp -dsimp -implicitDefEqProofs (disch := omega) only [go_sem, hd, e0, e1, e3, e4, h.rowH P 13 rfl]
  have h5 : St w0 (J ((tellL s).take i) * (PassI x #[.agg (infL x).toArray] * (Blk P (.cells (infL x).toArray 42 (0, 0)) * (StoreP b 0 0 s * (ptrS K b * R))))) w := (PassI.mk x h).ac (by ac_rfl)
  refine (hy _ _ x _ _ hpost h5).mono ?_
  rintro e' w7 (⟨rfl, h6⟩ | ⟨rfl, h6⟩)
  · rw [← hten] at h6
    have h7 := h6.ac (show _ = Blk P (.cells (infL x).toArray 42 (0, 0)) * (StoreP b 0 0 s * (ptrS K b * (J ((tellL s).take (i + 1)) * R))) by ac_rfl)
    simp -dsimp -implicitDefEqProofs (disch := omega) only [go_sem, hd, e0, e1, e3, e4, h7.rowH P 13 rfl]
    refine h7.right.new fun P' w8 h8 => ?_
    simp -dsimp -implicitDefEqProofs (disch := omega) only [go_sem, hd, e0, e1, e3, e4]
    refine h8.stoAll (b := P') (cs := infL x) rfl rfl (infL_cells _) fun w9 h9 => ?_
    simp -dsimp -implicitDefEqProofs (disch := omega) only [go_sem, hd, e0, e1, e3, e4, h9.right.right.cl K, h9.cells]
    refine (least_any (last := x.path) (h9.sw2)).mono ?_
    rintro e' w10 ⟨h10, rfl⟩
    rw [hls]
    simp -dsimp -implicitDefEqProofs (disch := omega) only [go_sem, hd, e0, e1, e3, e4]
    refine (h10.sw2).stoAll (b := P') (cs := infL ((tellL s).getD (i + 1) infZ)) rfl rfl (infL_cells _) fun w11 h11 => ?_
    simp -dsimp -implicitDefEqProofs (disch := omega) only [go_sem, hd, e0, e1, e3, e4]
    refine rank_down (m := s.L.length - (i + 1)) ⟨by simp -dsimp -implicitDefEqProofs only [go_sem, hd], by simp -dsimp -implicitDefEqProofs only [go_sem, e0], by simp -dsimp -implicitDefEqProofs only [go_sem, e1], i + 1, P', by omega, rfl, by simp -dsimp -implicitDefEqProofs only [go_sem], by simp -dsimp -implicitDefEqProofs only [go_sem], h11⟩ (by omega)
  · simp -dsimp -implicitDefEqProofs (disch := omega) only [go_sem, hd, e0, e1, e3, e4]
    exact ⟨⟨_, rfl⟩, .inr ⟨_, h6.sw2.right⟩⟩
end
end
def wi (l : List UInt8) (k lo hi : Nat) : Bool := decide (k < l.length ∧ lo ≤ (l.getD k 0).toNat ∧ (l.getD k 0).toNat ≤ hi)
def ch4 (l : List UInt8) (k lo hi : Nat) : Nat := if wi l k 240 244 && wi l (k + 1) lo hi && wi l (k + 2) 128 191 && wi l (k + 3) 128 191 then 4 else 0
def ch3 (l : List UInt8) (k lo hi : Nat) : Nat := ch4 l k (if wi l k 240 240 then 144 else lo) (if wi l k 244 244 then 143 else hi)
def ch2 (l : List UInt8) (k lo hi : Nat) : Nat := if wi l k 224 239 && wi l (k + 1) lo hi && wi l (k + 2) 128 191 then 3 else ch3 l k lo hi
def ch1 (l : List UInt8) (k : Nat) : Nat := ch2 l k (if wi l k 224 224 then 160 else 128) (if wi l k 237 237 then 159 else 191)
def chW (l : List UInt8) (k : Nat) : Nat := if wi l k 0 127 then 1 else if wi l k 194 223 && wi l (k + 1) 128 191 then 2 else ch1 l k
def chB (n b0 b1 b2 b3 : Nat) : Nat :=
  if b0 ≤ 127 then 1 else if (194 ≤ b0 ∧ b0 ≤ 223) ∧ 1 < n ∧ 128 ≤ b1 ∧ b1 ≤ 191 then 2
  else if (224 ≤ b0 ∧ b0 ≤ 239) ∧ (1 < n ∧ (b0 = 224 ∧ 160 ≤ b1 ∨ b0 ≠ 224 ∧ 128 ≤ b1) ∧ (b0 = 237 ∧ b1 ≤ 159 ∨ b0 ≠ 237 ∧ b1 ≤ 191)) ∧ 2 < n ∧ 128 ≤ b2 ∧ b2 ≤ 191 then 3
  else if (240 ≤ b0 ∧ b0 ≤ 244) ∧ (1 < n ∧ (b0 = 240 ∧ 144 ≤ b1 ∨ b0 ≠ 240 ∧ 128 ≤ b1) ∧ (b0 = 244 ∧ b1 ≤ 143 ∨ b0 ≠ 244 ∧ b1 ≤ 191)) ∧ (2 < n ∧ 128 ≤ b2 ∧ b2 ≤ 191) ∧ 3 < n ∧ 128 ≤ b3 ∧ b3 ≤ 191 then 4 else 0
theorem chB_eq (n b0 b1 b2 b3 : Nat) (h0 : b0 < 256) (h1 : b1 < 256) (h2 : b2 < 256) (h3 : b3 < 256) :
    if chB n b0 b1 b2 b3 = 0 then Lib.decodeN n b0 b1 b2 b3 = (65533, 1) else (Lib.decodeN n b0 b1 b2 b3).2 = chB n b0 b1 b2 b3 ∧ ¬ ((Lib.decodeN n b0 b1 b2 b3).1 = 65533 ∧ chB n b0 b1 b2 b3 = 1) ∧ ((Lib.decodeN n b0 b1 b2 b3).1 = 0 ↔ b0 = 0) := by
  by_cases a1 : b0 ≤ 127
  · have e1 : chB n b0 b1 b2 b3 = 1 := by rw [chB, if_pos a1]
    have e2 : Lib.decodeN n b0 b1 b2 b3 = (b0, 1) := by rw [Lib.decodeN, if_pos (by omega)]
    rw [e1, e2]
    simp
    omega
  by_cases a2 : (194 ≤ b0 ∧ b0 ≤ 223) ∧ 1 < n ∧ 128 ≤ b1 ∧ b1 ≤ 191
  · have e1 : chB n b0 b1 b2 b3 = 2 := by rw [chB, if_neg a1, if_pos a2]
    have e2 : Lib.decodeN n b0 b1 b2 b3 = (b0 % 32 * 64 + b1 % 64, 2) := by rw [Lib.decodeN, if_neg (by omega), if_pos (by omega), if_pos (by omega)]
    rw [e1, e2]
    simp
    omega
  by_cases a3 : (224 ≤ b0 ∧ b0 ≤ 239) ∧ (1 < n ∧ (b0 = 224 ∧ 160 ≤ b1 ∨ b0 ≠ 224 ∧ 128 ≤ b1) ∧ (b0 = 237 ∧ b1 ≤ 159 ∨ b0 ≠ 237 ∧ b1 ≤ 191)) ∧ 2 < n ∧ 128 ≤ b2 ∧ b2 ≤ 191
  · have e1 : chB n b0 b1 b2 b3 = 3 := by rw [chB, if_neg a1, if_neg a2, if_pos a3]
    have e2 : Lib.decodeN n b0 b1 b2 b3 = (b0 % 16 * 4096 + b1 % 64 * 64 + b2 % 64, 3) := by
      rw [Lib.decodeN, if_neg (by omega), if_neg (by omega), if_pos (by omega), if_pos (by omega)]
    rw [e1, e2]
    simp
    omega
  by_cases a4 : (240 ≤ b0 ∧ b0 ≤ 244) ∧ (1 < n ∧ (b0 = 240 ∧ 144 ≤ b1 ∨ b0 ≠ 240 ∧ 128 ≤ b1) ∧ (b0 = 244 ∧ b1 ≤ 143 ∨ b0 ≠ 244 ∧ b1 ≤ 191)) ∧ (2 < n ∧ 128 ≤ b2 ∧ b2 ≤ 191) ∧ 3 < n ∧ 128 ≤ b3 ∧ b3 ≤ 191
  · have e1 : chB n b0 b1 b2 b3 = 4 := by rw [chB, if_neg a1, if_neg a2, if_neg a3, if_pos a4]
    have e2 : Lib.decodeN n b0 b1 b2 b3 = (b0 % 8 * 262144 + b1 % 64 * 4096 + b2 % 64 * 64 + b3 % 64, 4) := by
      rw [Lib.decodeN, if_neg (by omega), if_neg (by omega), if_neg (by omega), if_pos (by omega), if_pos (by omega)]
    rw [e1, e2]
    simp
    omega
  · have e1 : chB n b0 b1 b2 b3 = 0 := by rw [chB, if_neg a1, if_neg a2, if_neg a3, if_neg a4]
    rw [if_pos e1, Lib.decodeN, if_neg (by omega)]
    split
    · rw [if_neg (by omega)]
    split
    · rw [if_neg (by omega)]
    split
    · rw [if_neg (by omega)]
    · rfl
theorem chW_eq (l : List UInt8) (k : Nat) (hk : k < l.length) : chW l k = chB (l.drop k).length ((l.drop k).getD 0 0).toNat ((l.drop k).getD 1 0).toNat ((l.drop k).getD 2 0).toNat ((l.drop k).getD 3 0).toNat := by
  simp only [List.length_drop, List.getD_eq_getElem?_getD, List.getElem?_drop, Nat.add_zero]
  have w0 : ∀ a b, wi l k a b = decide (a ≤ (l[k]?.getD 0).toNat ∧ (l[k]?.getD 0).toNat ≤ b) := fun a b => by
    simp only [wi, List.getD_eq_getElem?_getD, hk, true_and]
  have w1 : ∀ j a b, wi l (k + j) a b = decide (j < l.length - k ∧ a ≤ (l[k + j]?.getD 0).toNat ∧ (l[k + j]?.getD 0).toNat ≤ b) := fun j a b => by
    simp only [wi, List.getD_eq_getElem?_getD]
    congr 1
    exact propext ⟨fun h => ⟨by omega, h.2⟩, fun h => ⟨by omega, h.2⟩⟩
  simp only [chW, ch1, ch2, ch3, ch4, w0, w1]
  generalize (l[k]?.getD 0).toNat = b0
  generalize (l[k + 1]?.getD 0).toNat = b1
  generalize (l[k + 2]?.getD 0).toNat = b2
  generalize (l[k + 3]?.getD 0).toNat = b3
  generalize l.length - k = n
  simp only [Bool.and_eq_true, decide_eq_true_eq]
  unfold chB
  by_cases a1 : b0 ≤ 127
  · rw [if_pos (by omega), if_pos a1]
  rw [if_neg (by omega), if_neg a1]
  by_cases a2 : (194 ≤ b0 ∧ b0 ≤ 223) ∧ 1 < n ∧ 128 ≤ b1 ∧ b1 ≤ 191
  · rw [if_pos a2, if_pos a2]
  rw [if_neg a2, if_neg a2]
  have j1 : ∀ m, ((if 224 ≤ b0 ∧ b0 ≤ 224 then 160 else 128) ≤ m ↔ (b0 = 224 ∧ 160 ≤ m ∨ b0 ≠ 224 ∧ 128 ≤ m)) := fun m => by split <;> omega
  have j2 : ∀ m, (m ≤ (if 237 ≤ b0 ∧ b0 ≤ 237 then 159 else 191) ↔ (b0 = 237 ∧ m ≤ 159 ∨ b0 ≠ 237 ∧ m ≤ 191)) := fun m => by split <;> omega
  simp only [j1, j2]
  by_cases a3 : (224 ≤ b0 ∧ b0 ≤ 239) ∧ (1 < n ∧ (b0 = 224 ∧ 160 ≤ b1 ∨ b0 ≠ 224 ∧ 128 ≤ b1) ∧ (b0 = 237 ∧ b1 ≤ 159 ∨ b0 ≠ 237 ∧ b1 ≤ 191)) ∧ 2 < n ∧ 128 ≤ b2 ∧ b2 ≤ 191
  · rw [if_pos ⟨⟨a3.1, a3.2.1⟩, a3.2.2⟩, if_pos a3]
  rw [if_neg (fun h => a3 ⟨h.1.1, h.1.2, h.2⟩), if_neg a3]
  by_cases h240 : 240 ≤ b0
  case neg => rw [if_neg (by omega), if_neg (by omega)]
  have n224 : ¬ (224 ≤ b0 ∧ b0 ≤ 224) := by omega
  have n237 : ¬ (237 ≤ b0 ∧ b0 ≤ 237) := by omega
  rw [if_neg n224, if_neg n237]
  have j3 : ∀ m, ((if 240 ≤ b0 ∧ b0 ≤ 240 then 144 else 128) ≤ m ↔ (b0 = 240 ∧ 144 ≤ m ∨ b0 ≠ 240 ∧ 128 ≤ m)) := fun m => by split <;> omega
  have j4 : ∀ m, (m ≤ (if 244 ≤ b0 ∧ b0 ≤ 244 then 143 else 191) ↔ (b0 = 244 ∧ m ≤ 143 ∨ b0 ≠ 244 ∧ m ≤ 191)) := fun m => by split <;> omega
  simp only [j3, j4]
  by_cases a4 : (240 ≤ b0 ∧ b0 ≤ 244) ∧ (1 < n ∧ (b0 = 240 ∧ 144 ≤ b1 ∨ b0 ≠ 240 ∧ 128 ≤ b1) ∧ (b0 = 244 ∧ b1 ≤ 143 ∨ b0 ≠ 244 ∧ b1 ≤ 191)) ∧ (2 < n ∧ 128 ≤ b2 ∧ b2 ≤ 191) ∧ 3 < n ∧ 128 ≤ b3 ∧ b3 ≤ 191
  · rw [if_pos ⟨⟨⟨a4.1, a4.2.1⟩, a4.2.2.1⟩, a4.2.2.2⟩, if_pos a4]
  · rw [if_neg (fun h => a4 ⟨h.1.1.1, h.1.1.2, h.1.2, h.2⟩), if_neg a4]
theorem ch_law (l : List UInt8) (k : Nat) (hk : k < l.length) :
    if chW l k = 0 then decL (l.drop k) = (65533, 1) else (decL (l.drop k)).2 = chW l k ∧ ¬ ((decL (l.drop k)).1 = 65533 ∧ chW l k = 1) ∧ ((decL (l.drop k)).1 = 0 ↔ (l.getD k 0).toNat = 0) := by
  have h := chB_eq (l.drop k).length ((l.drop k).getD 0 0).toNat ((l.drop k).getD 1 0).toNat ((l.drop k).getD 2 0).toNat ((l.drop k).getD 3 0).toNat (UInt8.toNat_lt _) (UInt8.toNat_lt _) (UInt8.toNat_lt _) (UInt8.toNat_lt _)
  rw [← chW_eq l k hk] at h
  have e : ((l.drop k).getD 0 0) = l.getD k 0 := by simp [List.getD]
  rw [e] at h
  unfold decL
  rw [e]
  exact h
theorem good_step (l : List UInt8) (k : Nat) (hk : k < l.length) : if chW l k = 0 ∨ (l.getD k 0).toNat = 0 then good (l.drop k) = false else good (l.drop k) = good (l.drop (k + chW l k)) := by
  have hne : l.drop k ≠ [] := by
    intro e
    have := congrArg List.length e
    simp at this
    omega
  have h := ch_law l k hk
  rw [good_cons hne]
  by_cases h0 : chW l k = 0
  · rw [if_pos h0] at h
    rw [if_pos (.inl h0), h]
    simp
  · rw [if_neg h0] at h
    obtain ⟨h1, h2, h3⟩ := h
    by_cases h4 : (l.getD k 0).toNat = 0
    · rw [if_pos (.inr h4)]
      simp [h3.2 h4]
    · rw [if_neg (fun h => h.elim h0 h4), h1, List.drop_drop]
      have e1 : ((decL (l.drop k)).1 == 0) = false := by simpa using fun e => h4 (h3.1 e)
      have e2 : ((decL (l.drop k)).1 == 65533 && chW l k == 1) = false := by
        by_cases hx : (decL (l.drop k)).1 = 65533
        · have : ¬ chW l k = 1 := fun e => h2 ⟨hx, e⟩
          simp [this]
        · simp [hx]
      rw [e1, e2]; simp
theorem chW_le (l : List UInt8) (k : Nat) (hk : k < l.length) : k + chW l k ≤ l.length := by
  have h := ch_law l k hk
  have hne : l.drop k ≠ [] := by
    intro e
    have := congrArg List.length e
    simp at this
    omega
  have hw := decL_width (l.drop k) hne
  simp only [List.length_drop] at hw
  split at h
  · omega
  · omega
theorem within_any {w0 w : World} {A : HP} (h : St w0 A w) (l : List UInt8) (hl : l.length ≤ 9223372036854775800) (k lo hi : Nat) :
    Calls Tryz.prog 114 #[.string (strOf l), .int .i64 k, .int .u8 lo, .int .u8 hi] w fun e w' => St w0 A w' ∧ e = .returned (.bool (wi l k lo hi)) := by
  refine F114.calls (by simp) ?_
  unfold F114.code
  by_cases h1 : (k : Int) < l.length
  case neg =>
    have e0 : wi l k lo hi = false := by simp [wi]; omega
    simp -dsimp -implicitDefEqProofs (disch := omega) only [go_sem, h1, e0]
    exact h
  obtain ⟨c, hc⟩ : ∃ c, c = (l.getD k 0).toNat := ⟨_, rfl⟩
  by_cases h2 : (lo : Int) ≤ (c : Int)
  case neg =>
    have e0 : wi l k lo hi = false := decide_eq_false (by rw [← hc]; omega)
    simp -dsimp -implicitDefEqProofs (disch := omega) only [go_sem, h1, e0, ← hc, h2]
    exact h
  by_cases h3 : (c : Int) ≤ hi
  case neg =>
    have e0 : wi l k lo hi = false := decide_eq_false (by rw [← hc]; omega)
    simp -dsimp -implicitDefEqProofs (disch := omega) only [go_sem, h1, e0, ← hc, h2, h3]
    exact h
  have e0 : wi l k lo hi = true := decide_eq_true (by rw [← hc]; omega)
  simp -dsimp -implicitDefEqProofs (disch := omega) only [go_sem, h1, e0, ← hc, h2, h3]
  exact h
section
attribute [local go_sem] F101.t18_eq
end
section
variable {w0 w : World} {A : HP} {l : List UInt8} {k : Nat} {e : FA} {R : Ending → World → Prop}
theorem ch_t16 {θ : Tag (F101.t16, fnP Tryz.prog #[.tmp 4] R, e, w)} {lo hi : Nat} (h : St w0 A w) (hl : l.length ≤ 9223372036854775800) (hk : k < l.length)
    (hd : e.ds = []) (e0 : e.ρ 0 = .string (strOf l)) (e1 : e.ρ 1 = .int .i64 k) (e5 : e.ρ 5 = .int .u8 lo) (e6 : e.ρ 6 = .int .u8 hi)
    (hQ : ∀ w', St w0 A w' → R (.returned (.int .i64 (ch4 l k lo hi))) w') : cwE Tryz.prog F101.t16 (fnP Tryz.prog #[.tmp 4] R) e w θ := by
  rw [F101.t16_eq]
  unfold F101.t18
  simp -dsimp -implicitDefEqProofs (disch := omega) only [go_sem, hd, e0, e1, e5, e6]
  refine (within_any h l hl k 240 244).mono ?_
  rintro e' w1 ⟨h1, rfl⟩
  cases b1 : wi l k 240 244
  · have hr : ch4 l k lo hi = 0 := by simp [ch4, b1]
    rw [hr] at hQ
    simp -dsimp -implicitDefEqProofs (disch := omega) only [go_sem, hd, e0, e1, e5, e6]
    exact hQ _ h1
  simp -dsimp -implicitDefEqProofs (disch := omega) only [go_sem, hd, e0, e1, e5, e6]
  refine (within_any h1 l hl (k + 1) lo hi).mono ?_
  rintro e' w2 ⟨h2, rfl⟩
  cases b2 : wi l (k + 1) lo hi
  · have hr : ch4 l k lo hi = 0 := by simp [ch4, b2]
    rw [hr] at hQ
    simp -dsimp -implicitDefEqProofs (disch := omega) only [go_sem, hd, e0, e1, e5, e6]
    exact hQ _ h2
  simp -dsimp -implicitDefEqProofs (disch := omega) only [go_sem, hd, e0, e1, e5, e6]
  refine (within_any h2 l hl (k + 2) 128 191).mono ?_
  rintro e' w3 ⟨h3, rfl⟩
  cases b3 : wi l (k + 2) 128 191
  · have hr : ch4 l k lo hi = 0 := by simp [ch4, b3]
    rw [hr] at hQ
    simp -dsimp -implicitDefEqProofs (disch := omega) only [go_sem, hd, e0, e1, e5, e6]
    exact hQ _ h3
  simp -dsimp -implicitDefEqProofs (disch := omega) only [go_sem, hd, e0, e1, e5, e6]
  refine (within_any h3 l hl (k + 3) 128 191).mono ?_
  rintro e' w4 ⟨h4, rfl⟩
  cases b4 : wi l (k + 3) 128 191
  · have hr : ch4 l k lo hi = 0 := by simp [ch4, b4]
    rw [hr] at hQ
    simp -dsimp -implicitDefEqProofs (disch := omega) only [go_sem, hd, e0, e1, e5, e6]
    exact hQ _ h4
  have hr : ch4 l k lo hi = 4 := by simp [ch4, b1, b2, b3, b4]
  rw [hr] at hQ
  simp -dsimp -implicitDefEqProofs (disch := omega) only [go_sem, hd, e0, e1, e5, e6]
  exact hQ _ h4
theorem ch_t14 {θ : Tag (F101.t14, fnP Tryz.prog #[.tmp 4] R, e, w)} {lo hi : Nat} (h : St w0 A w) (hl : l.length ≤ 9223372036854775800) (hk : k < l.length)
    (hd : e.ds = []) (e0 : e.ρ 0 = .string (strOf l)) (e1 : e.ρ 1 = .int .i64 k) (e5 : e.ρ 5 = .int .u8 lo) (e6 : e.ρ 6 = .int .u8 hi)
    (hQ : ∀ w', St w0 A w' → R (.returned (.int .i64 (ch4 l k lo (if wi l k 244 244 then 143 else hi)))) w') : cwE Tryz.prog F101.t14 (fnP Tryz.prog #[.tmp 4] R) e w θ := by
  rw [F101.t14_eq]
  simp -dsimp -implicitDefEqProofs (disch := omega) only [go_sem, hd, e0, e1, e5, e6]
  refine (within_any h l hl k 244 244).mono ?_
  rintro e' w1 ⟨h1, rfl⟩
  cases b1 : wi l k 244 244 <;> rw [b1] at hQ
  · simp -dsimp -implicitDefEqProofs (disch := omega) only [go_sem, hd, e0, e1, e5, e6]
    exact ch_t16 (lo := lo) (hi := hi) h1 hl hk (by simp -dsimp -implicitDefEqProofs only [go_sem, hd]) (by simp -dsimp -implicitDefEqProofs only [go_sem, e0]) (by simp -dsimp -implicitDefEqProofs only [go_sem, e1]) (by simp -dsimp -implicitDefEqProofs only [go_sem, e5]) (by simp -dsimp -implicitDefEqProofs only [go_sem, e6]) hQ
  · simp -dsimp -implicitDefEqProofs (disch := omega) only [go_sem, hd, e0, e1, e5, e6]
    exact ch_t16 (lo := lo) (hi := 143) h1 hl hk (by simp -dsimp -implicitDefEqProofs only [go_sem, hd]) (by simp -dsimp -implicitDefEqProofs only [go_sem, e0]) (by simp -dsimp -implicitDefEqProofs only [go_sem, e1]) (by simp -dsimp -implicitDefEqProofs only [go_sem, e5]) (by simp -dsimp -implicitDefEqProofs only [go_sem]) hQ
theorem ch_t12 {θ : Tag (F101.t12, fnP Tryz.prog #[.tmp 4] R, e, w)} {lo hi : Nat} (h : St w0 A w) (hl : l.length ≤ 9223372036854775800) (hk : k < l.length)
    (hd : e.ds = []) (e0 : e.ρ 0 = .string (strOf l)) (e1 : e.ρ 1 = .int .i64 k) (e5 : e.ρ 5 = .int .u8 lo) (e6 : e.ρ 6 = .int .u8 hi)
    (hQ : ∀ w', St w0 A w' → R (.returned (.int .i64 (ch3 l k lo hi))) w') : cwE Tryz.prog F101.t12 (fnP Tryz.prog #[.tmp 4] R) e w θ := by
  rw [F101.t12_eq]
  unfold ch3 at hQ
  simp -dsimp -implicitDefEqProofs (disch := omega) only [go_sem, hd, e0, e1, e5, e6]
  refine (within_any h l hl k 240 240).mono ?_
  rintro e' w1 ⟨h1, rfl⟩
  cases b1 : wi l k 240 240 <;> rw [b1] at hQ
  · simp -dsimp -implicitDefEqProofs (disch := omega) only [go_sem, hd, e0, e1, e5, e6]
    exact ch_t14 (lo := lo) (hi := hi) h1 hl hk (by simp -dsimp -implicitDefEqProofs only [go_sem, hd]) (by simp -dsimp -implicitDefEqProofs only [go_sem, e0]) (by simp -dsimp -implicitDefEqProofs only [go_sem, e1]) (by simp -dsimp -implicitDefEqProofs only [go_sem, e5]) (by simp -dsimp -implicitDefEqProofs only [go_sem, e6]) hQ
  · simp -dsimp -implicitDefEqProofs (disch := omega) only [go_sem, hd, e0, e1, e5, e6]
    exact ch_t14 (lo := 144) (hi := hi) h1 hl hk (by simp -dsimp -implicitDefEqProofs only [go_sem, hd]) (by simp -dsimp -implicitDefEqProofs only [go_sem, e0]) (by simp -dsimp -implicitDefEqProofs only [go_sem, e1]) (by simp -dsimp -implicitDefEqProofs only [go_sem]) (by simp -dsimp -implicitDefEqProofs only [go_sem, e6]) hQ
theorem ch_t10 {θ : Tag (F101.t10, fnP Tryz.prog #[.tmp 4] R, e, w)} {lo hi : Nat} (h : St w0 A w) (hl : l.length ≤ 9223372036854775800) (hk : k < l.length)
    (hd : e.ds = []) (e0 : e.ρ 0 = .string (strOf l)) (e1 : e.ρ 1 = .int .i64 k) (e5 : e.ρ 5 = .int .u8 lo) (e6 : e.ρ 6 = .int .u8 hi)
    (hQ : ∀ w', St w0 A w' → R (.returned (.int .i64 (ch2 l k lo hi))) w') : cwE Tryz.prog F101.t10 (fnP Tryz.prog #[.tmp 4] R) e w θ := by
  rw [F101.t10_eq]
  simp -dsimp -implicitDefEqProofs (disch := omega) only [go_sem, hd, e0, e1, e5, e6]
  refine (within_any h l hl k 224 239).mono ?_
  rintro e' w1 ⟨h1, rfl⟩
  cases b1 : wi l k 224 239
  · have hr : ch2 l k lo hi = ch3 l k lo hi := by simp [ch2, b1]
    rw [hr] at hQ
    simp -dsimp -implicitDefEqProofs (disch := omega) only [go_sem, hd, e0, e1, e5, e6]
    exact ch_t12 (lo := lo) (hi := hi) h1 hl hk (by simp -dsimp -implicitDefEqProofs only [go_sem, hd]) (by simp -dsimp -implicitDefEqProofs only [go_sem, e0]) (by simp -dsimp -implicitDefEqProofs only [go_sem, e1]) (by simp -dsimp -implicitDefEqProofs only [go_sem, e5]) (by simp -dsimp -implicitDefEqProofs only [go_sem, e6]) hQ
  simp -dsimp -implicitDefEqProofs (disch := omega) only [go_sem, hd, e0, e1, e5, e6]
  refine (within_any h1 l hl (k + 1) lo hi).mono ?_
  rintro e' w2 ⟨h2, rfl⟩
  cases b2 : wi l (k + 1) lo hi
  · have hr : ch2 l k lo hi = ch3 l k lo hi := by simp [ch2, b2]
    rw [hr] at hQ
    simp -dsimp -implicitDefEqProofs (disch := omega) only [go_sem, hd, e0, e1, e5, e6]
    exact ch_t12 (lo := lo) (hi := hi) h2 hl hk (by simp -dsimp -implicitDefEqProofs only [go_sem, hd]) (by simp -dsimp -implicitDefEqProofs only [go_sem, e0]) (by simp -dsimp -implicitDefEqProofs only [go_sem, e1]) (by simp -dsimp -implicitDefEqProofs only [go_sem, e5]) (by simp -dsimp -implicitDefEqProofs only [go_sem, e6]) hQ
  simp -dsimp -implicitDefEqProofs (disch := omega) only [go_sem, hd, e0, e1, e5, e6]
  refine (within_any h2 l hl (k + 2) 128 191).mono ?_
  rintro e' w3 ⟨h3, rfl⟩
  cases b3 : wi l (k + 2) 128 191
  · have hr : ch2 l k lo hi = ch3 l k lo hi := by simp [ch2, b3]
    rw [hr] at hQ
    simp -dsimp -implicitDefEqProofs (disch := omega) only [go_sem, hd, e0, e1, e5, e6]
    exact ch_t12 (lo := lo) (hi := hi) h3 hl hk (by simp -dsimp -implicitDefEqProofs only [go_sem, hd]) (by simp -dsimp -implicitDefEqProofs only [go_sem, e0]) (by simp -dsimp -implicitDefEqProofs only [go_sem, e1]) (by simp -dsimp -implicitDefEqProofs only [go_sem, e5]) (by simp -dsimp -implicitDefEqProofs only [go_sem, e6]) hQ
  have hr : ch2 l k lo hi = 3 := by simp [ch2, b1, b2, b3]
  rw [hr] at hQ
  simp -dsimp -implicitDefEqProofs (disch := omega) only [go_sem, hd, e0, e1, e5, e6]
  exact hQ _ h3
theorem ch_t8 {θ : Tag (F101.t8, fnP Tryz.prog #[.tmp 4] R, e, w)} {lo hi : Nat} (h : St w0 A w) (hl : l.length ≤ 9223372036854775800) (hk : k < l.length)
    (hd : e.ds = []) (e0 : e.ρ 0 = .string (strOf l)) (e1 : e.ρ 1 = .int .i64 k) (e5 : e.ρ 5 = .int .u8 lo) (e6 : e.ρ 6 = .int .u8 hi)
    (hQ : ∀ w', St w0 A w' → R (.returned (.int .i64 (ch2 l k lo (if wi l k 237 237 then 159 else hi)))) w') : cwE Tryz.prog F101.t8 (fnP Tryz.prog #[.tmp 4] R) e w θ := by
  rw [F101.t8_eq]
  simp -dsimp -implicitDefEqProofs (disch := omega) only [go_sem, hd, e0, e1, e5, e6]
  refine (within_any h l hl k 237 237).mono ?_
  rintro e' w1 ⟨h1, rfl⟩
  cases b1 : wi l k 237 237 <;> rw [b1] at hQ
  · simp -dsimp -implicitDefEqProofs (disch := omega) only [go_sem, hd, e0, e1, e5, e6]
    exact ch_t10 (lo := lo) (hi := hi) h1 hl hk (by simp -dsimp -implicitDefEqProofs only [go_sem, hd]) (by simp -dsimp -implicitDefEqProofs only [go_sem, e0]) (by simp -dsimp -implicitDefEqProofs only [go_sem, e1]) (by simp -dsimp -implicitDefEqProofs only [go_sem, e5]) (by simp -dsimp -implicitDefEqProofs only [go_sem, e6]) hQ
  · simp -dsimp -implicitDefEqProofs (disch := omega) only [go_sem, hd, e0, e1, e5, e6]
    exact ch_t10 (lo := lo) (hi := 159) h1 hl hk (by simp -dsimp -implicitDefEqProofs only [go_sem, hd]) (by simp -dsimp -implicitDefEqProofs only [go_sem, e0]) (by simp -dsimp -implicitDefEqProofs only [go_sem, e1]) (by simp -dsimp -implicitDefEqProofs only [go_sem, e5]) (by simp -dsimp -implicitDefEqProofs only [go_sem]) hQ
theorem ch_t5 {θ : Tag (F101.t5, fnP Tryz.prog #[.tmp 4] R, e, w)} (h : St w0 A w) (hl : l.length ≤ 9223372036854775800) (hk : k < l.length)
    (hd : e.ds = []) (e0 : e.ρ 0 = .string (strOf l)) (e1 : e.ρ 1 = .int .i64 k)
    (hQ : ∀ w', St w0 A w' → R (.returned (.int .i64 (ch1 l k))) w') : cwE Tryz.prog F101.t5 (fnP Tryz.prog #[.tmp 4] R) e w θ := by
  rw [F101.t5_eq]
  unfold ch1 at hQ
  simp -dsimp -implicitDefEqProofs (disch := omega) only [go_sem, hd, e0, e1]
  refine (within_any h l hl k 224 224).mono ?_
  rintro e' w1 ⟨h1, rfl⟩
  cases b1 : wi l k 224 224 <;> rw [b1] at hQ
  · simp -dsimp -implicitDefEqProofs (disch := omega) only [go_sem, hd, e0, e1]
    exact ch_t8 (lo := 128) (hi := 191) h1 hl hk (by simp -dsimp -implicitDefEqProofs only [go_sem, hd]) (by simp -dsimp -implicitDefEqProofs only [go_sem, e0]) (by simp -dsimp -implicitDefEqProofs only [go_sem, e1]) (by simp -dsimp -implicitDefEqProofs only [go_sem]) (by simp -dsimp -implicitDefEqProofs only [go_sem]) hQ
  · simp -dsimp -implicitDefEqProofs (disch := omega) only [go_sem, hd, e0, e1]
    exact ch_t8 (lo := 160) (hi := 191) h1 hl hk (by simp -dsimp -implicitDefEqProofs only [go_sem, hd]) (by simp -dsimp -implicitDefEqProofs only [go_sem, e0]) (by simp -dsimp -implicitDefEqProofs only [go_sem, e1]) (by simp -dsimp -implicitDefEqProofs only [go_sem]) (by simp -dsimp -implicitDefEqProofs only [go_sem]) hQ
end
theorem character_any {w0 w : World} {A : HP} (h : St w0 A w) (l : List UInt8) (hl : l.length ≤ 9223372036854775800) (k : Nat) (hk : k < l.length) :
    Calls Tryz.prog 101 #[.string (strOf l), .int .i64 k] w fun e w' => St w0 A w' ∧ e = .returned (.int .i64 (chW l k)) := by
  refine F101.calls (by simp) ?_
  unfold F101.code
  simp -dsimp -implicitDefEqProofs (disch := omega) only [go_sem]
  refine (within_any h l hl k 0 127).mono ?_
  rintro e' w1 ⟨h1, rfl⟩
  cases b1 : wi l k 0 127
  case true =>
    have hr : chW l k = 1 := by simp [chW, b1]
    rw [hr]
    simp -dsimp -implicitDefEqProofs (disch := omega) only [go_sem]
    exact h1
  unfold F101.t3
  simp -dsimp -implicitDefEqProofs (disch := omega) only [go_sem]
  refine (within_any h1 l hl k 194 223).mono ?_
  rintro e' w2 ⟨h2, rfl⟩
  cases b2 : wi l k 194 223
  · have hr : chW l k = ch1 l k := by simp [chW, b1, b2]
    rw [hr]
    simp -dsimp -implicitDefEqProofs (disch := omega) only [go_sem]
    exact ch_t5 h2 hl hk (by simp -dsimp -implicitDefEqProofs only [go_sem]) (by simp -dsimp -implicitDefEqProofs only [go_sem]) (by simp -dsimp -implicitDefEqProofs only [go_sem]) fun w' h' => ⟨h', rfl⟩
  simp -dsimp -implicitDefEqProofs (disch := omega) only [go_sem]
  refine (within_any h2 l hl (k + 1) 128 191).mono ?_
  rintro e' w3 ⟨h3, rfl⟩
  cases b3 : wi l (k + 1) 128 191
  · have hr : chW l k = ch1 l k := by simp [chW, b1, b3]
    rw [hr]
    simp -dsimp -implicitDefEqProofs (disch := omega) only [go_sem]
    exact ch_t5 h3 hl hk (by simp -dsimp -implicitDefEqProofs only [go_sem]) (by simp -dsimp -implicitDefEqProofs only [go_sem]) (by simp -dsimp -implicitDefEqProofs only [go_sem]) fun w' h' => ⟨h', rfl⟩
  have hr : chW l k = 2 := by simp [chW, b1, b2, b3]
  rw [hr]
  simp -dsimp -implicitDefEqProofs (disch := omega) only [go_sem]
  exact h3
section
attribute [local go_sem] F88.t6_eq F88.t3_eq F88.t7_eq
theorem refBad_any {w0 w : World} {A : HP} (h : St w0 A w) (l : List UInt8) (hl : l.length ≤ 9223372036854775800) :
    Calls Tryz.prog 88 #[.string (strOf l)] w fun e w' => St w0 A w' ∧ ∃ k : Nat, e = .returned (.int .i64 k) ∧ decide ((k : Int) = l.length) = good l := by
  refine F88.calls (by simp) ?_
  unfold F88.code
  simp -dsimp -implicitDefEqProofs (disch := omega) only [go_sem]
  refine loop_intro (fun e w' => St w0 A w' ∧ e.ds = [] ∧ e.ρ 0 = .string (strOf l) ∧ ∃ k : Nat, k ≤ l.length ∧ e.ρ 3 = .int .i64 k ∧ good l = good (l.drop k))
    (fun e _ => match e.ρ 3 with | .int _ n => (l.length - n).toNat | _ => 0) ?_ ?_
  · exact ⟨h, by simp -dsimp -implicitDefEqProofs only [go_sem], by simp -dsimp -implicitDefEqProofs only [go_sem], 0, by omega, by simp -dsimp -implicitDefEqProofs only [go_sem], rfl⟩
  rintro e w1 ⟨h1, hd, e0, k, hk, e3, hg⟩
  by_cases hlt : (k : Int) < l.length
  case neg =>
    simp -dsimp -implicitDefEqProofs (disch := omega) only [go_sem, hd, e0, e3, hlt]
    refine ⟨h1, l.length, rfl, ?_⟩
    rw [hg, List.drop_of_length_le (by omega)]
    simp [good_nil]
  have hkl : k < l.length := by omega
  have hs := good_step l k hkl
  have hle := chW_le l k hkl
  simp -dsimp -implicitDefEqProofs (disch := omega) only [go_sem, hd, e0, e3, hlt]
  refine (character_any h1 l hl k hkl).mono ?_
  rintro e' w2 ⟨h2, rfl⟩
  by_cases h0 : chW l k = 0
  · rw [if_pos (.inl h0)] at hs
    rw [h0]
    simp -dsimp -implicitDefEqProofs (disch := omega) only [go_sem, hd, e0, e3, hlt]
    refine ⟨h2, k, rfl, ?_⟩
    rw [hg, hs]
    exact decide_eq_false (by omega)
  have h0' : ¬ ((chW l k : Nat) : Int) = 0 := by omega
  obtain ⟨c, hc⟩ : ∃ c, c = (l.getD k 0).toNat := ⟨_, rfl⟩
  by_cases h4 : (c : Int) = 0
  · rw [if_pos (.inr (by rw [← hc]; omega))] at hs
    simp -dsimp -implicitDefEqProofs (disch := omega) only [go_sem, hd, e0, e3, hlt, h0', ← hc, h4]
    refine ⟨h2, k, rfl, ?_⟩
    rw [hg, hs]
    exact decide_eq_false (by omega)
  · rw [if_neg (by rw [← hc]; omega)] at hs
    simp -dsimp -implicitDefEqProofs (disch := omega) only [go_sem, hd, e0, e3, hlt, h0', ← hc, h4]
    exact ⟨⟨h2, k + chW l k, hle, by omega, by rw [hg, hs]⟩, by omega⟩
end
theorem refGood_any {w0 w : World} {A : HP} (h : St w0 A w) (l : List UInt8) (hl : l.length ≤ 9223372036854775800) :
    Calls Tryz.prog 62 #[.string (strOf l)] w fun e w' => St w0 A w' ∧ e = .returned (.bool (good l)) := by
  refine F62.calls (by simp) ?_
  unfold F62.code
  simp -dsimp -implicitDefEqProofs (disch := omega) only [go_sem]
  refine (refBad_any h l hl).mono ?_
  rintro e' w1 ⟨h1, k, rfl, hk⟩
  simp -dsimp -implicitDefEqProofs (disch := omega) only [go_sem, hk]
  exact h1
theorem perm_law {p : Nat} (h : p < 4294967296) : (p &&& 4294966784 = 0) ↔ p ≤ 511 := by
  have e : p &&& 4294966784 = (p >>> 9) <<< 9 := by
    refine Nat.eq_of_testBit_eq fun i => ?_
    rw [show (4294966784 : Nat) = (2 ^ 23 - 1) <<< 9 from rfl, Nat.testBit_and, Nat.testBit_shiftLeft, Nat.testBit_two_pow_sub_one, Nat.testBit_shiftLeft, Nat.testBit_shiftRight]
    by_cases hi : 9 ≤ i
    · rw [show 9 + (i - 9) = i by omega]
      by_cases h2 : i < 32
      · simp [hi]; intro _; omega
      · have : p.testBit i = false := Nat.testBit_lt_two_pow (Nat.lt_of_lt_of_le h (show 2 ^ 32 ≤ 2 ^ i from Nat.pow_le_pow_right (by decide) (by omega)))
        simp [this]
    · simp [hi]
  rw [e, Nat.shiftLeft_eq, Nat.shiftRight_eq_div_pow]
  omega
def newOk (c : CfgD) : Bool := userF c.owner && userF c.group && decide (¬ (c.nodes < 1 ∨ 4096 < c.nodes ∨ 511 < c.perm) ∧ c.owner ≠ [] ∧ c.group ≠ [])
theorem newF_eq {c : CfgD} (h : CfgIn c) : newF c = if newOk c then .ok ⟨c.nodes.toNat, 2, [rootD c]⟩ else .error 1 := by
  have hp := perm_law h.perm
  unfold newF newOk
  by_cases h1 : c.nodes < 1 ∨ 4096 < c.nodes ∨ ¬ c.perm &&& 4294966784 = 0
  · rw [if_pos h1, if_neg]
    rw [hp] at h1
    have : ¬ (¬ (c.nodes < 1 ∨ 4096 < c.nodes ∨ 511 < c.perm) ∧ c.owner ≠ [] ∧ c.group ≠ []) := fun h2 => by omega
    rw [decide_eq_false this]; simp
  · rw [if_neg h1]
    rw [hp] at h1
    have h1' : ¬ (c.nodes < 1 ∨ 4096 < c.nodes ∨ 511 < c.perm) := by omega
    by_cases h2 : c.owner = [] ∨ c.group = [] ∨ userF c.owner = false ∨ userF c.group = false
    · rw [if_pos h2, if_neg]
      rcases h2 with h2 | h2 | h2 | h2
      · rw [decide_eq_false (fun h3 => h3.2.1 h2)]; simp
      · rw [decide_eq_false (fun h3 => h3.2.2 h2)]; simp
      · rw [h2]; simp
      · rw [h2]; simp
    · simp only [not_or, Bool.not_eq_false] at h2
      rw [if_neg (by simp only [not_or, Bool.not_eq_false]; exact h2), if_pos]
      rw [h2.2.2.1, h2.2.2.2, decide_eq_true ⟨h1', h2.1, h2.2.1⟩]
      rfl
section
variable {w0 w : World} {A : HP} {c : CfgD}
theorem ofConfig_any (h : St w0 A w) (h1 : c.users.length ≤ 140737488355328) (h2 : c.owner.length ≤ 140737488355328) (h3 : c.group.length ≤ 140737488355328) :
    Calls Tryz.prog 16 #[.agg (cfgL c).toArray] w fun e w' => St w0 A w' ∧ e = .returned (.int .i64 ((100 + c.users.length + c.owner.length + c.group.length : Nat) : Int)) := by
  refine F16.calls (by simp) ?_
  unfold F16.code
  simp -dsimp -implicitDefEqProofs (disch := omega) only [go_sem]
  refine h.new fun B w1 h1 => ?_
  simp -dsimp -implicitDefEqProofs (disch := omega) only [go_sem, h1.cl B]
  exact ⟨h1.right, by omega⟩
theorem refUser_any (h : St w0 A w) {l : List UInt8} (hl : l.length ≤ 9223372036854775800) :
    Calls Tryz.prog 28 #[.string (strOf l)] w fun e w' => St w0 A w' ∧ e = .returned (.bool (userF l)) := by
  refine F28.calls (by simp) ?_
  unfold F28.code
  simp -dsimp -implicitDefEqProofs (disch := omega) only [go_sem]
  refine (refGood_any h l hl).mono ?_
  rintro e w1 ⟨h1, rfl⟩
  unfold userF
  cases hg : good l
  · simp -dsimp -implicitDefEqProofs (disch := omega) only [go_sem]
    exact h1
  · by_cases h32 : (l.length : Int) ≤ 32
    · have e1 : decide (l.length ≤ 32) = true := decide_eq_true (by omega)
      simp -dsimp -implicitDefEqProofs (disch := omega) only [go_sem, h32, e1]
      exact h1
    · have e1 : decide (l.length ≤ 32) = false := decide_eq_false (by omega)
      simp -dsimp -implicitDefEqProofs (disch := omega) only [go_sem, h32, e1]
      exact h1
def entL (n : Inf) (vb : Value) : List Value := infL n ++ [vb]
abbrev RefOne (b : Nat) (v : Value) (c : CfgD) : HP :=
  Blk b (.cells #[.int .i64 c.nodes, .int .u64 2, v] 84 (0, 0)) * RowO 81 14 v 1 (entL (rootD c).i (.slice none 0 0))
theorem RefOne.as {b : Nat} {v : Value} {c : CfgD} {X : HP} : RefOne b v c * X = Blk b (.cells #[.int .i64 c.nodes, .int .u64 2, v] 84 (0, 0)) * (RowO 81 14 v 1 (entL (rootD c).i (.slice none 0 0)) * X) := by ac_rfl
theorem rowTy_ent : rowTy Tryz.prog 82 = some (81, 14, 152, entL infZ (.slice none 0 0)) := by kernel_rfl
section
attribute [local go_sem] F9.t5_eq
theorem refNew_any (hc : CfgIn c) (h : St w0 A w) :
    Calls Tryz.prog 9 #[.agg (cfgL c).toArray] w fun e w' =>
      if newOk c then ∃ b v, St w0 (RefOne b v c * A) w' ∧ e = .returned (.tuple #[.pointer (some ⟨b, 0, none⟩), .int .i64 0])
      else St w0 A w' ∧ e = .returned (.tuple #[.pointer none, .int .i64 1]) := by
  refine F9.calls (by simp) ?_
  unfold F9.code
  have ho := hc.owner
  have hg := hc.group
  simp -dsimp -implicitDefEqProofs (disch := omega) only [go_sem]
  refine h.new fun B w1 h1 => ?_
  simp -dsimp -implicitDefEqProofs (disch := omega) only [go_sem, h1.cl B]
  refine (refUser_any h1 (l := c.owner) (by omega)).mono ?_
  rintro e w2 ⟨h2, rfl⟩
  simp -dsimp -implicitDefEqProofs (disch := omega) only [go_sem, h2.cl B]
  refine (refUser_any h2 (l := c.group) (by omega)).mono ?_
  rintro e w3 ⟨h3, rfl⟩
  by_cases c1 : c.nodes < 1
  · have hr : newOk c = false := by unfold newOk; rw [decide_eq_false (fun hh => hh.1 (.inl c1))]; simp
    rw [hr]
    simp -dsimp -implicitDefEqProofs (disch := omega) only [go_sem, h3.cl B, c1]
    exact h3.right
  by_cases c2 : 4096 < c.nodes
  · have hr : newOk c = false := by unfold newOk; rw [decide_eq_false (fun hh => hh.1 (.inr (.inl c2)))]; simp
    rw [hr]
    simp -dsimp -implicitDefEqProofs (disch := omega) only [go_sem, h3.cl B, c1, c2]
    exact h3.right
  by_cases c3 : (511 : Int) < c.perm
  · have hr : newOk c = false := by unfold newOk; rw [decide_eq_false (fun hh => hh.1 (.inr (.inr (by omega))))]; simp
    rw [hr]
    simp -dsimp -implicitDefEqProofs (disch := omega) only [go_sem, h3.cl B, c1, c2, c3]
    exact h3.right
  cases g1 : userF c.owner
  case false =>
    have hr : newOk c = false := by unfold newOk; rw [g1]; rfl
    rw [hr]
    simp -dsimp -implicitDefEqProofs (disch := omega) only [go_sem, h3.cl B, c1, c2, c3]
    exact h3.right
  cases g2 : userF c.group
  case false =>
    have hr : newOk c = false := by unfold newOk; rw [g2]; simp
    rw [hr]
    simp -dsimp -implicitDefEqProofs (disch := omega) only [go_sem, h3.cl B, c1, c2, c3]
    exact h3.right
  by_cases c4 : c.owner = []
  · have hr : newOk c = false := by unfold newOk; rw [decide_eq_false (fun hh => hh.2.1 c4)]; simp
    have e4 : decide (c.owner = []) = true := decide_eq_true c4
    rw [hr]
    simp -dsimp -implicitDefEqProofs (disch := omega) only [go_sem, h3.cl B, c1, c2, c3, e4]
    exact h3.right
  by_cases c5 : c.group = []
  · have hr : newOk c = false := by unfold newOk; rw [decide_eq_false (fun hh => hh.2.2 c5)]; simp
    have e5 : decide (c.group = []) = true := decide_eq_true c5
    rw [hr]
    simp -dsimp -implicitDefEqProofs (disch := omega) only [go_sem, h3.cl B, c1, c2, c3, c4, e5]
    exact h3.right
  have hr : newOk c = true := by unfold newOk; rw [g1, g2, decide_eq_true ⟨by omega, c4, c5⟩]; rfl
  rw [hr]
  have hd := bDirO (P := Tryz.prog) (T := 33) hc.perm
  simp -dsimp -implicitDefEqProofs (disch := omega) only [go_sem, h3.cl B, c1, c2, c3, c4, c5, hd]
  refine onV_of (v := .agg (infL (rootD c).i).toArray) (by kernel_rfl) ?_
  simp -dsimp -implicitDefEqProofs (disch := omega) only [go_sem, h3.cl B, c1, c2, c3, c4, c5, hd]
  refine h3.new fun D w4 h4 => ?_
  simp -dsimp -implicitDefEqProofs (disch := omega) only [go_sem]
  refine h4.stoAll (b := D) (cs := infL (rootD c).i) rfl rfl (infL_cells _) fun w5 h5 => ?_
  simp -dsimp -implicitDefEqProofs (disch := omega) only [go_sem, h5.right.cl B, h5.rowH D 13 rfl]
  refine onV_of (v := .agg (entL (rootD c).i (.slice none 0 0)).toArray) (by kernel_rfl) ?_
  simp -dsimp -implicitDefEqProofs (disch := omega) only [go_sem, h5.right.cl B, h5.rowH D 13 rfl]
  refine h5.lit (t := 82) (n := 1) (cells := entL (rootD c).i (.slice none 0 0)) rowTy_ent (by kernel_rfl) (by decide) (by decide) fun v w6 h6 => ?_
  obtain ⟨a6, c6, rfl, _⟩ := h6.rowForm v
  simp -dsimp -implicitDefEqProofs (disch := omega) only [go_sem, h6.right.right.cl B]
  refine onV_of (v := .agg #[.int .i64 c.nodes, .int .u64 2, .slice a6 1 c6]) (by kernel_rfl) ?_
  simp -dsimp -implicitDefEqProofs (disch := omega) only [go_sem]
  refine h6.new fun E w7 h7 => ?_
  simp -dsimp -implicitDefEqProofs (disch := omega) only [go_sem]
  exact ⟨E, _, h7.ent (Ent.sep (Ent.rfl' _) (Ent.sep (Ent.rfl' _) ((Ent.right _ _).trans (Ent.right _ _)))) |>.ac (by ac_rfl), rfl⟩
end
section
attribute [local go_sem] F38.t3_eq F38.t4_eq F38.t6_eq
end
section
attribute [local go_sem] F50.t4_eq
end
end
structure EV where
  d : NodeD
  v : Value
def entC (L : List NodeD) (x : EV) : List Value := infL (tellF L x.d) ++ [x.v]
theorem entC_len (L : List NodeD) (x : EV) : (entC L x).length = 14 := rfl
abbrev RefB (b : Nat) (s : SD) (v : Value) : HP := Blk b (.cells #[.int .i64 s.most, .int .u64 s.next, v] 84 (0, 0))
abbrev RefL (L : List NodeD) (v : Value) (X : List EV) : HP := RowO 81 14 v X.length (X.flatMap (entC L))
def bytesP (x : EV) : HP := RowBy x.v x.d.b
abbrev RefQ (b : Nat) (s : SD) (v : Value) (X : List EV) : HP := RefB b s v * (RefL s.L v X * starL bytesP X)
structure RefOk (s : SD) (X : List EV) : Prop where
  wf : Wf s
  list : X.map (·.d) = s.L
def RefP (b : Nat) (s : SD) : HP := HP.ex fun y : Value × List EV => HP.fact (RefOk s y.2) (RefQ b s y.1 y.2)
theorem RefP.shut {b : Nat} {s : SD} {v : Value} {X : List EV} (ok : RefOk s X) : Ent (RefQ b s v X) (RefP b s) :=
  (Ent.fact (p := RefOk s (v, X).2) ok _).trans (Ent.ex (fun y : Value × List EV => HP.fact (RefOk s y.2) (RefQ b s y.1 y.2)) (v, X))
theorem St.refO {w0 w : World} {A : HP} {b : Nat} {s : SD} (h : St w0 (RefP b s * A) w) : ∃ v X, RefOk s X ∧ St w0 (RefB b s v * (RefL s.L v X * (starL bytesP X * A))) w := by
  obtain ⟨⟨v, X⟩, h⟩ := h.exF
  obtain ⟨ok, h⟩ := h.factF
  have h : St w0 (RefQ b s v X * A) w := h
  exact ⟨v, X, ok, h.ac (by ac_rfl)⟩
theorem RefQ.as {b : Nat} {s : SD} {v : Value} {X : List EV} {A : HP} : RefB b s v * (RefL s.L v X * (starL bytesP X * A)) = RefQ b s v X * A := by ac_rfl
theorem RefOk.len {s : SD} {X : List EV} (ok : RefOk s X) : X.length = s.L.length := by have := congrArg List.length ok.list; simpa using this
theorem RefOk.at_ {s : SD} {X : List EV} (ok : RefOk s X) {i : Nat} (hi : i < X.length) : X[i].d = s.L[i]'(by rw [← ok.len]; exact hi) := by
  have := ok.list
  simp only [← this, List.getElem_map]
theorem path_at {s : SD} (h : Wf s) {p : Nat} {n : NodeD} (hf : findN s.L p = some n) : ∃ j, ∃ hj : j < s.L.length, s.L[j] = n ∧ n.i.path = p ∧ ∀ k (hk : k < s.L.length), k < j → s.L[k].i.path ≠ p := by
  obtain ⟨hn, hp⟩ := find_some hf
  obtain ⟨j, hj, hjn⟩ := List.getElem_of_mem hn
  refine ⟨j, hj, hjn, hp, fun k hk hkj e => ?_⟩
  have := List.pairwise_iff_getElem.1 h.rise k j hk hj hkj
  rw [hjn, hp] at this
  omega
section
variable {w0 w : World} {A : HP} {b : Nat} {s : SD} {v : Value} {X : List EV}
theorem St.entAt (h : St w0 (RefB b s v * (RefL s.L v X * A)) w) {i : Nat} (hi : i < X.length) : ∃ g o c, v = .slice (some ⟨g, o, none⟩) X.length c ∧ rowV w ⟨g, o + i * 14, none⟩ 14 = some (.agg (entC s.L X[i]).toArray) ∧ ∀ j, j < 14 → w.cell? ⟨g, o + i * 14 + j, none⟩ = (entC s.L X[i])[j]? := by
  obtain ⟨_, a, c, hv, _, hat⟩ := St.rowsAt (enc := entC s.L) (l := X) (k := 14) (entC_len s.L) (by decide) (h.right.left.ent (RowO.reads _ _ _ _ _))
  obtain ⟨g, o, ha, h1, h2⟩ := hat i hi
  exact ⟨g, o, c, by rw [hv, ha], h1, h2⟩
section
attribute [local go_sem] F38.t3_eq F38.t4_eq F38.t6_eq
theorem refAt_any (ok : RefOk s X) {p : Nat} (h : St w0 (RefB b s v * (RefL s.L v X * A)) w) :
    Calls Tryz.prog 38 #[.pointer (some ⟨b, 0, none⟩), .int .u64 p] w fun e w' => St w0 (RefB b s v * (RefL s.L v X * A)) w' ∧
      ((findN s.L p = none ∧ e = .returned (.int .i64 (-1))) ∨ ∃ j, ∃ hj : j < s.L.length, findN s.L p = some s.L[j] ∧ s.L[j].i.path = p ∧ e = .returned (.int .i64 j)) := by
  have hlen := ok.len
  have hf := ok.wf.few
  have hm := ok.wf.most
  obtain ⟨a, c, rfl, _⟩ := h.sw2.rowForm v
  refine F38.calls (by simp) ?_
  unfold F38.code
  simp -dsimp -implicitDefEqProofs (disch := omega) only [go_sem]
  refine loop_intro (fun e w' => e.ds = [] ∧ e.ρ 0 = .pointer (some ⟨b, 0, none⟩) ∧ e.ρ 1 = .int .u64 p ∧ ∃ i : Nat, i ≤ X.length ∧ e.ρ 5 = .int .i64 i ∧ (∀ k (hk : k < s.L.length), k < i → s.L[k].i.path ≠ p) ∧ St w0 (RefB b s (.slice a X.length c) * (RefL s.L (.slice a X.length c) X * A)) w')
    (fun e _ => match e.ρ 5 with | .int _ k => (X.length - k).toNat | _ => 0) ?_ ?_
  · exact ⟨by simp -dsimp -implicitDefEqProofs only [go_sem], by simp -dsimp -implicitDefEqProofs only [go_sem], by simp -dsimp -implicitDefEqProofs only [go_sem], 0, by omega, by simp -dsimp -implicitDefEqProofs only [go_sem], fun k _ hk => absurd hk (by omega), h⟩
  clear h
  rintro e w ⟨hd, e0, e1, i, hi, e5, hno, h⟩
  by_cases hlt : (i : Int) < X.length
  case neg =>
    have hnone : findN s.L p = none := by
      cases hfp : findN s.L p with
      | none => rfl
      | some n =>
        obtain ⟨j, hj, hjn, hp, _⟩ := path_at ok.wf hfp
        exact absurd (by rw [hjn]; exact hp) (hno j hj (by omega))
    simp -dsimp -implicitDefEqProofs (disch := omega) only [go_sem, hd, e0, e1, e5, hlt, h.cl b]
    first | exact ⟨h, .inl hnone⟩ | exact ⟨h, .inl ⟨hnone, rfl⟩⟩
  have hil : i < X.length := by omega
  have hiS : i < s.L.length := by omega
  obtain ⟨g, o, c', hv, _, hc⟩ := h.entAt hil
  simp only [Value.slice.injEq, true_and] at hv
  obtain ⟨rfl, rfl⟩ := hv
  have c0 : w.cell? ⟨g, o + i * 14, none⟩ = some (.int .u64 s.L[i].i.path) := by have := hc 0 (by decide); rw [show entC s.L X[i] = infL (tellF s.L X[i].d) ++ [X[i].v] from rfl, ok.at_ hil] at this; exact this
  by_cases hp : ((s.L[i].i.path : Nat) : Int) = p
  · simp -dsimp -implicitDefEqProofs (disch := omega) only [go_sem, hd, e0, e1, e5, hlt, h.cl b, c0, hp]
    have hp' : s.L[i].i.path = p := by omega
    have hff := find_of ok.wf.rise (List.getElem_mem hiS)
    rw [hp'] at hff
    exact ⟨h, i, hiS, hff, hp', rfl⟩
  · simp -dsimp -implicitDefEqProofs (disch := omega) only [go_sem, hd, e0, e1, e5, hlt, h.cl b, c0, hp]
    refine ⟨⟨i + 1, by omega, by omega, fun k hk hki => ?_, h⟩, by omega⟩
    rcases Nat.lt_or_ge k i with h1 | h1
    · exact hno k hk h1
    · have : k = i := by omega
      subst this; omega
end
section
attribute [local go_sem] F50.t4_eq
theorem refNode_any {p : Nat} (h : St w0 (RefP b s * A) w) :
    Calls Tryz.prog 50 #[.pointer (some ⟨b, 0, none⟩), .int .u64 p] w fun e w' => St w0 (RefP b s * A) w' ∧ e = .returned (toldV s p) := by
  obtain ⟨v, X, ok, h⟩ := h.refO
  obtain ⟨a, c, rfl, _⟩ := h.sw2.rowForm v
  refine F50.calls (by simp) ?_
  unfold F50.code
  simp -dsimp -implicitDefEqProofs (disch := omega) only [go_sem]
  refine h.new fun D w1 h1 => ?_
  simp -dsimp -implicitDefEqProofs (disch := omega) only [go_sem]
  have h2 := h1.ac (show _ = RefB b s (.slice a X.length c) * (RefL s.L (.slice a X.length c) X * (Blk D _ * (starL bytesP X * A))) by ac_rfl)
  refine (refAt_any (p := p) ok h2).mono ?_
  rintro e w2 ⟨h3, ⟨hf, rfl⟩ | ⟨j, hj, hf, hp, rfl⟩⟩
  · rw [toldV, toldI_none hf, hf]
    simp -dsimp -implicitDefEqProofs (disch := omega) only [go_sem]
    refine onV_of (v := .agg (infL infZ).toArray) (by kernel_rfl) ?_
    simp -dsimp -implicitDefEqProofs (disch := omega) only [go_sem]
    refine h3.stoAll (b := D) (cs := infL infZ) rfl rfl (infL_cells _) fun w3 h4 => ?_
    simp -dsimp -implicitDefEqProofs (disch := omega) only [go_sem]
    refine resC_2 (a := ⟨D, 0, none⟩) (v := .agg (infL infZ).toArray) (by simp -dsimp -implicitDefEqProofs only [go_sem]) (run_loadVar_row fact_aggSz_42 (h4.rowH D 13 rfl)) ?_
    refine ⟨?_, by simp -dsimp -implicitDefEqProofs only [go_sem]; rfl⟩
    have h5 := h4.ent (Ent.sep (Ent.rfl' _) (Ent.sep (Ent.rfl' _) (Ent.right _ _)))
    rw [RefQ.as] at h5
    exact h5.ent (Ent.sep (RefP.shut ok) (Ent.rfl' _))
  · rw [toldV, toldI_some hf, hf]
    have hjX : j < X.length := by rw [ok.len]; exact hj
    obtain ⟨g, o, c', hv, _, hc⟩ := h3.entAt hjX
    simp only [Value.slice.injEq, true_and] at hv
    obtain ⟨rfl, rfl⟩ := hv
    have p1 : rowV w2 ⟨g, o + j * 14, none⟩ 13 = some (.agg (infL (tellF s.L s.L[j])).toArray) := by
      have := rowV_part (lo := 0) (k := 14) (n := 13) (cs := entC s.L X[j]) rfl (o := o + j * 14) hc (by decide)
      rw [show entC s.L X[j] = infL (tellF s.L X[j].d) ++ [X[j].v] from rfl, ok.at_ hjX] at this
      exact this
    simp -dsimp -implicitDefEqProofs (disch := omega) only [go_sem, h3.cl b, p1]
    refine h3.stoAll (b := D) (cs := infL (tellF s.L s.L[j])) rfl rfl (infL_cells _) fun w3 h4 => ?_
    simp -dsimp -implicitDefEqProofs (disch := omega) only [go_sem]
    refine resC_2 (a := ⟨D, 0, none⟩) (v := .agg (infL (tellF s.L s.L[j])).toArray) (by simp -dsimp -implicitDefEqProofs only [go_sem]) (run_loadVar_row fact_aggSz_42 (h4.rowH D 13 rfl)) ?_
    refine ⟨?_, by simp -dsimp -implicitDefEqProofs only [go_sem]; rfl⟩
    have h5 := h4.ent (Ent.sep (Ent.rfl' _) (Ent.sep (Ent.rfl' _) (Ent.right _ _)))
    rw [RefQ.as] at h5
    exact h5.ent (Ent.sep (RefP.shut ok) (Ent.rfl' _))
end
end
theorem find_first {α : Type} {f : α → Bool} {l : List α} {i : Nat} (hi : i < l.length) (h : f l[i] = true) (hb : ∀ k (hk : k < l.length), k < i → f l[k] = false) : l.find? f = some l[i] := by
  induction l generalizing i with
  | nil => simp at hi
  | cons x l ih =>
    cases i with
    | zero => simp only [List.getElem_cons_zero] at h ⊢; rw [List.find?_cons, h]
    | succ i =>
      have h0 := hb 0 (by simp) (by omega)
      simp only [List.getElem_cons_zero] at h0
      simp only [List.getElem_cons_succ] at h ⊢
      rw [List.find?_cons, h0]
      refine ih (by simpa using hi) h fun k hk hki => ?_
      have := hb (k + 1) (by simpa using hk) (by omega)
      simpa using this
theorem find_nothing {α : Type} {f : α → Bool} {l : List α} (hb : ∀ k (hk : k < l.length), f l[k] = false) : l.find? f = none := by
  rw [List.find?_eq_none]
  intro x hx
  obtain ⟨k, hk, rfl⟩ := List.getElem_of_mem hx
  simp [hb k hk]
theorem filter_find {α : Type} (f g : α → Bool) : ∀ l : List α, (l.filter f).find? g = l.find? fun x => f x && g x
  | [] => rfl
  | x :: l => by
    rw [List.filter_cons, List.find?_cons]
    by_cases hf : f x = true
    · rw [if_pos hf, List.find?_cons, hf, filter_find f g l]; rfl
    · rw [if_neg hf, filter_find f g l]
      have : f x = false := by simpa using hf
      rw [this]; rfl
theorem after_law {s : SD} (h : Wf s) (p last : Nat) : afterS s p last = (s.L.find? fun n => isKid p n && decide (last < n.i.path)).map (·.i.path) := by
  have h1 : afterF s.L p last = (s.L.find? fun n => isKid p n && decide (last < n.i.path)).map (·.i.path) := by
    unfold afterF kidsF
    rw [List.find?_map, filter_find]
    rfl
  unfold afterS
  cases hf : findN s.L p with
  | some n => exact h1
  | none =>
    symm
    rw [Option.map_eq_none_iff, List.find?_eq_none]
    intro n hn hk
    simp only [Bool.and_eq_true] at hk
    obtain ⟨hp, hn1⟩ := (isKid_iff h hn).1 hk.1
    obtain ⟨_, d, hd, _⟩ := h.up n hn hn1
    rw [hp, hf] at hd
    cases hd
def isChild (p : Nat) (nm : List UInt8) (n : NodeD) : Bool := isKid p n && n.i.name == nm
def isLater (p last : Nat) (n : NodeD) : Bool := isKid p n && decide (last < n.i.path)
def NoYet (f : NodeD → Bool) (L : List NodeD) (i : Nat) : Prop := ∀ k (hk : k < L.length), k < i → f L[k] = false
theorem NoYet.zero (f : NodeD → Bool) (L : List NodeD) : NoYet f L 0 := fun k _ hk => absurd hk (by omega)
theorem NoYet.succ {f : NodeD → Bool} {L : List NodeD} {i : Nat} (h : NoYet f L i) (hi : i < L.length) (hf : f L[i] = false) : NoYet f L (i + 1) := fun k hk hki => by
  rcases Nat.lt_or_ge k i with h1 | h1
  · exact h k hk h1
  · have : k = i := by omega
    subst this; exact hf
section
variable {w0 w : World} {A : HP} {b : Nat} {s : SD} {v : Value} {X : List EV}
theorem St.entF (h : St w0 (RefB b s v * (RefL s.L v X * A)) w) (ok : RefOk s X) {i : Nat} (hi : i < X.length) : ∃ g o c, ∃ hs : i < s.L.length, v = .slice (some ⟨g, o, none⟩) X.length c ∧ rowV w ⟨g, o + i * 14, none⟩ 13 = some (.agg (infL (tellF s.L s.L[i])).toArray) ∧ (∀ j, j < 13 → w.cell? ⟨g, o + i * 14 + j, none⟩ = (infL (tellF s.L s.L[i]))[j]?) ∧ w.cell? ⟨g, o + i * 14 + 13, none⟩ = some X[i].v := by
  obtain ⟨g, o, c, hv, _, hc⟩ := h.entAt hi
  have hs : i < s.L.length := by rw [← ok.len]; exact hi
  have he : entC s.L X[i] = infL (tellF s.L s.L[i]) ++ [X[i].v] := by rw [show entC s.L X[i] = infL (tellF s.L X[i].d) ++ [X[i].v] from rfl, ok.at_ hi]
  rw [he] at hc
  refine ⟨g, o, c, hs, hv, ?_, fun j hj => ?_, hc 13 (by decide)⟩
  · exact rowV_part (lo := 0) (k := 14) (n := 13) (cs := infL (tellF s.L s.L[i]) ++ [X[i].v]) rfl (o := o + i * 14) hc (by decide)
  · rw [hc j (by omega), List.getElem?_append_left (by show j < 13; exact hj)]
theorem refNext_any (h : St w0 (RefP b s * A) w) : Calls Tryz.prog 56 #[.pointer (some ⟨b, 0, none⟩)] w fun e w' => St w0 (RefP b s * A) w' ∧ e = .returned (.int .u64 s.next) := by
  obtain ⟨v, X, ok, h⟩ := h.refO
  obtain ⟨a, c, rfl, _⟩ := h.sw2.rowForm v
  refine F56.calls (by simp) ?_
  unfold F56.code
  simp -dsimp -implicitDefEqProofs (disch := omega) only [go_sem, h.cl b]
  rw [RefQ.as] at h
  exact h.ent (Ent.sep (RefP.shut ok) (Ent.rfl' _))
theorem refCount_any (h : St w0 (RefP b s * A) w) : Calls Tryz.prog 57 #[.pointer (some ⟨b, 0, none⟩)] w fun e w' => St w0 (RefP b s * A) w' ∧ e = .returned (.int .i64 s.L.length) := by
  obtain ⟨v, X, ok, h⟩ := h.refO
  obtain ⟨a, c, rfl, _⟩ := h.sw2.rowForm v
  refine F57.calls (by simp) ?_
  unfold F57.code
  have hl := ok.len
  simp -dsimp -implicitDefEqProofs (disch := omega) only [go_sem, h.cl b, hl]
  rw [hl] at h
  have h' : St w0 (RefQ b s (.slice a s.L.length c) X * A) w := by rw [← RefQ.as]; rw [← hl] at h ⊢; exact h
  exact h'.ent (Ent.sep (RefP.shut ok) (Ent.rfl' _))
section
attribute [local go_sem] F52.t3_eq F52.t4_eq F52.t7_eq
theorem refChild_any (ok : RefOk s X) {p : Nat} {nm : List UInt8} (h : St w0 (RefB b s v * (RefL s.L v X * A)) w) :
    Calls Tryz.prog 52 #[.pointer (some ⟨b, 0, none⟩), .int .u64 p, .string (strOf nm)] w fun e w' => St w0 (RefB b s v * (RefL s.L v X * A)) w' ∧ e = .returned (match childF s.L p nm with | some q => .tuple #[.int .u64 q, .bool true] | none => .tuple #[.int .u64 0, .bool false]) := by
  have hlen := ok.len
  have hf := ok.wf.few
  have hm := ok.wf.most
  obtain ⟨a, c, rfl, _⟩ := h.sw2.rowForm v
  refine F52.calls (by simp) ?_
  unfold F52.code
  simp -dsimp -implicitDefEqProofs (disch := omega) only [go_sem]
  refine loop_intro (fun e w' => e.ds = [] ∧ e.ρ 0 = .pointer (some ⟨b, 0, none⟩) ∧ e.ρ 1 = .int .u64 p ∧ e.ρ 2 = .string (strOf nm) ∧ ∃ i : Nat, i ≤ X.length ∧ e.ρ 8 = .int .i64 i ∧ NoYet (isChild p nm) s.L i ∧ St w0 (RefB b s (.slice a X.length c) * (RefL s.L (.slice a X.length c) X * A)) w')
    (fun e _ => match e.ρ 8 with | .int _ k => (X.length - k).toNat | _ => 0) ?_ ?_
  · exact ⟨by simp -dsimp -implicitDefEqProofs only [go_sem], by simp -dsimp -implicitDefEqProofs only [go_sem], by simp -dsimp -implicitDefEqProofs only [go_sem], by simp -dsimp -implicitDefEqProofs only [go_sem], 0, by omega, by simp -dsimp -implicitDefEqProofs only [go_sem], NoYet.zero _ _, h⟩
  clear h
  rintro e w ⟨hd, e0, e1, e2, i, hi, e8, hno, h⟩
  by_cases hlt : (i : Int) < X.length
  case neg =>
    have hnone : childF s.L p nm = none := by
      unfold childF
      rw [Option.map_eq_none_iff]
      exact find_nothing (f := isChild p nm) fun k hk => hno k hk (by omega)
    rw [hnone]
    simp -dsimp -implicitDefEqProofs (disch := omega) only [go_sem, hd, e0, e1, e2, e8, hlt, h.cl b]
    exact h
  have hil : i < X.length := by omega
  obtain ⟨g, o, c', hiS, hv, prow, hc, _⟩ := h.entF ok hil
  simp only [Value.slice.injEq, true_and] at hv
  obtain ⟨rfl, rfl⟩ := hv
  simp -dsimp -implicitDefEqProofs (disch := omega) only [go_sem, hd, e0, e1, e2, e8, hlt, h.cl b, prow]
  refine h.new fun D w1 h1 => ?_
  simp -dsimp -implicitDefEqProofs (disch := omega) only [go_sem, hd, e0, e1, e2, e8]
  refine h1.stoAll (b := D) (cs := infL (tellF s.L s.L[i])) rfl rfl (infL_cells _) fun w2 h2 => ?_
  have d0 : w2.cell? ⟨D, 0, none⟩ = some (.int .u64 s.L[i].i.path) := (h2.cells) 0
  have d1 : w2.cell? ⟨D, 1, none⟩ = some (.int .u64 s.L[i].i.parent) := (h2.cells) 1
  have d2 : w2.cell? ⟨D, 2, none⟩ = some (.string (strOf s.L[i].i.name)) := (h2.cells) 2
  have hnext : (isKid p s.L[i] && s.L[i].i.name == nm) = false → NoYet (isChild p nm) s.L (i + 1) := fun hh => hno.succ hiS hh
  by_cases c1 : ((s.L[i].i.parent : Nat) : Int) = p
  case neg =>
    have hh : (isKid p s.L[i] && s.L[i].i.name == nm) = false := by
      have : (s.L[i].i.parent == p) = false := by simp; omega
      simp [isKid, this]
    simp -dsimp -implicitDefEqProofs (disch := omega) only [go_sem, hd, e0, e1, e2, e8, d0, d1, d2, c1]
    exact ⟨⟨i + 1, by omega, by omega, hnext hh, h2.right⟩, by omega⟩
  by_cases c2 : ((s.L[i].i.path : Nat) : Int) = (p : Int)
  · have hh : (isKid p s.L[i] && s.L[i].i.name == nm) = false := by
      have : (s.L[i].i.path == s.L[i].i.parent) = true := by simp; omega
      simp [isKid, this]
    simp -dsimp -implicitDefEqProofs (disch := omega) only [go_sem, hd, e0, e1, e2, e8, d0, d1, d2, c1, c2]
    exact ⟨⟨i + 1, by omega, by omega, hnext hh, h2.right⟩, by omega⟩
  have hk : isKid p s.L[i] = true := by
    have h1 : (s.L[i].i.parent == p) = true := by simp; omega
    have h2 : (s.L[i].i.path == s.L[i].i.parent) = false := by simp; omega
    simp [isKid, h1, h2]
  by_cases c3 : s.L[i].i.name = nm
  · have hch : childF s.L p nm = some s.L[i].i.path := by
      unfold childF
      rw [show (s.L.find? fun n => isKid p n && n.i.name == nm) = some s.L[i] from find_first (f := isChild p nm) hiS (by unfold isChild; rw [hk, c3]; simp) hno]; rfl
    rw [hch]
    simp -dsimp -implicitDefEqProofs (disch := omega) only [go_sem, hd, e0, e1, e2, e8, d0, d1, d2, c1, c2, c3]
    exact h2.right
  · have hh : (isKid p s.L[i] && s.L[i].i.name == nm) = false := by simp [c3]
    simp -dsimp -implicitDefEqProofs (disch := omega) only [go_sem, hd, e0, e1, e2, e8, d0, d1, d2, c1, c2, c3]
    exact ⟨⟨i + 1, by omega, by omega, hnext hh, h2.right⟩, by omega⟩
end
section
attribute [local go_sem] F54.t3_eq F54.t4_eq F54.t7_eq
theorem refAfter_any {p last : Nat} (h : St w0 (RefP b s * A) w) :
    Calls Tryz.prog 54 #[.pointer (some ⟨b, 0, none⟩), .int .u64 p, .int .u64 last] w fun e w' => St w0 (RefP b s * A) w' ∧ e = .returned (aftV (afterS s p last)) := by
  obtain ⟨v, X, ok, h⟩ := h.refO
  have hlen := ok.len
  have hf := ok.wf.few
  have hm := ok.wf.most
  have hla := after_law ok.wf p last
  obtain ⟨a, c, rfl, _⟩ := h.sw2.rowForm v
  refine F54.calls (by simp) ?_
  unfold F54.code
  simp -dsimp -implicitDefEqProofs (disch := omega) only [go_sem]
  refine loop_intro (fun e w' => e.ds = [] ∧ e.ρ 0 = .pointer (some ⟨b, 0, none⟩) ∧ e.ρ 1 = .int .u64 p ∧ e.ρ 2 = .int .u64 last ∧ ∃ i : Nat, i ≤ X.length ∧ e.ρ 8 = .int .i64 i ∧ NoYet (isLater p last) s.L i ∧ St w0 (RefB b s (.slice a X.length c) * (RefL s.L (.slice a X.length c) X * (starL bytesP X * A))) w')
    (fun e _ => match e.ρ 8 with | .int _ k => (X.length - k).toNat | _ => 0) ?_ ?_
  · exact ⟨by simp -dsimp -implicitDefEqProofs only [go_sem], by simp -dsimp -implicitDefEqProofs only [go_sem], by simp -dsimp -implicitDefEqProofs only [go_sem], by simp -dsimp -implicitDefEqProofs only [go_sem], 0, by omega, by simp -dsimp -implicitDefEqProofs only [go_sem], NoYet.zero _ _, h⟩
  clear h
  rintro e w ⟨hd, e0, e1, e2, i, hi, e8, hno, h⟩
  have shut : ∀ {w}, St w0 (RefB b s (.slice a X.length c) * (RefL s.L (.slice a X.length c) X * (starL bytesP X * A))) w → St w0 (RefP b s * A) w := fun h => by
    rw [RefQ.as] at h
    exact h.ent (Ent.sep (RefP.shut ok) (Ent.rfl' _))
  by_cases hlt : (i : Int) < X.length
  case neg =>
    rw [show (s.L.find? fun n => isKid p n && decide (last < n.i.path)) = none from find_nothing (f := isLater p last) fun k hk => hno k hk (by omega)] at hla
    rw [hla]
    simp -dsimp -implicitDefEqProofs (disch := omega) only [go_sem, hd, e0, e1, e2, e8, hlt, h.cl b]
    exact ⟨shut h, rfl⟩
  have hil : i < X.length := by omega
  obtain ⟨g, o, c', hiS, hv, prow, hc, _⟩ := h.entF ok hil
  simp only [Value.slice.injEq, true_and] at hv
  obtain ⟨rfl, rfl⟩ := hv
  simp -dsimp -implicitDefEqProofs (disch := omega) only [go_sem, hd, e0, e1, e2, e8, hlt, h.cl b, prow]
  refine h.new fun D w1 h1 => ?_
  simp -dsimp -implicitDefEqProofs (disch := omega) only [go_sem, hd, e0, e1, e2, e8]
  refine h1.stoAll (b := D) (cs := infL (tellF s.L s.L[i])) rfl rfl (infL_cells _) fun w2 h2 => ?_
  have d0 : w2.cell? ⟨D, 0, none⟩ = some (.int .u64 s.L[i].i.path) := (h2.cells) 0
  have d1 : w2.cell? ⟨D, 1, none⟩ = some (.int .u64 s.L[i].i.parent) := (h2.cells) 1
  have hnext : (isKid p s.L[i] && decide (last < s.L[i].i.path)) = false → NoYet (isLater p last) s.L (i + 1) := fun hh => hno.succ hiS hh
  by_cases c1 : ((s.L[i].i.parent : Nat) : Int) = p
  case neg =>
    have hh : (isKid p s.L[i] && decide (last < s.L[i].i.path)) = false := by
      have : (s.L[i].i.parent == p) = false := by simp; omega
      simp [isKid, this]
    simp -dsimp -implicitDefEqProofs (disch := omega) only [go_sem, hd, e0, e1, e2, e8, d0, d1, c1]
    exact ⟨⟨i + 1, by omega, by omega, hnext hh, h2.right⟩, by omega⟩
  by_cases c2 : ((s.L[i].i.path : Nat) : Int) = (p : Int)
  · have hh : (isKid p s.L[i] && decide (last < s.L[i].i.path)) = false := by
      have : (s.L[i].i.path == s.L[i].i.parent) = true := by simp; omega
      simp [isKid, this]
    simp -dsimp -implicitDefEqProofs (disch := omega) only [go_sem, hd, e0, e1, e2, e8, d0, d1, c1, c2]
    exact ⟨⟨i + 1, by omega, by omega, hnext hh, h2.right⟩, by omega⟩
  have hk : isKid p s.L[i] = true := by
    have h1 : (s.L[i].i.parent == p) = true := by simp; omega
    have h2 : (s.L[i].i.path == s.L[i].i.parent) = false := by simp; omega
    simp [isKid, h1, h2]
  by_cases c3 : (last : Int) < (s.L[i].i.path : Nat)
  · rw [show (s.L.find? fun n => isKid p n && decide (last < n.i.path)) = some s.L[i] from find_first (f := isLater p last) hiS (by unfold isLater; rw [hk]; simp; omega) hno] at hla
    rw [hla]
    simp -dsimp -implicitDefEqProofs (disch := omega) only [go_sem, hd, e0, e1, e2, e8, d0, d1, c1, c2, c3]
    exact ⟨shut h2.right, rfl⟩
  · have hh : (isKid p s.L[i] && decide (last < s.L[i].i.path)) = false := by simp; intro _; omega
    simp -dsimp -implicitDefEqProofs (disch := omega) only [go_sem, hd, e0, e1, e2, e8, d0, d1, c1, c2, c3]
    exact ⟨⟨i + 1, by omega, by omega, hnext hh, h2.right⟩, by omega⟩
end
section
attribute [local go_sem] F14.t4_eq F14.t5_eq F14.t6_eq
theorem refAll_any (h : St w0 (RefP b s * A) w) :
    Calls Tryz.prog 14 #[.pointer (some ⟨b, 0, none⟩)] w fun e w' => ∃ v, St w0 (RowO 42 13 v (tellL s).length ((tellL s).flatMap infL) * (RefP b s * A)) w' ∧ e = .returned v := by
  obtain ⟨v, X, ok, h⟩ := h.refO
  have hlen := ok.len
  have hf := ok.wf.few
  have hm := ok.wf.most
  have htl := tell_len s
  obtain ⟨a, c, rfl, _⟩ := h.sw2.rowForm v
  refine F14.calls (by simp) ?_
  unfold F14.code
  simp -dsimp -implicitDefEqProofs (disch := omega) only [go_sem]
  refine loop_intro (fun e w' => e.ds = [] ∧ e.ρ 0 = .pointer (some ⟨b, 0, none⟩) ∧ ∃ (i : Nat) (vl : Value), i ≤ X.length ∧ e.ρ 4 = .int .i64 i ∧ e.ρ 3 = vl ∧ St w0 (RefB b s (.slice a X.length c) * (RefL s.L (.slice a X.length c) X * (RowO 42 13 vl i (((tellL s).take i).flatMap infL) * (starL bytesP X * A)))) w')
    (fun e _ => match e.ρ 4 with | .int _ k => (X.length - k).toNat | _ => 0) ?_ ?_
  · exact ⟨by simp -dsimp -implicitDefEqProofs only [go_sem], by simp -dsimp -implicitDefEqProofs only [go_sem], 0, .slice none 0 0, by omega, by simp -dsimp -implicitDefEqProofs only [go_sem], by simp -dsimp -implicitDefEqProofs only [go_sem], (h.nilR 42 13).ac (by show _ = RefB b s (.slice a X.length c) * (RefL s.L (.slice a X.length c) X * (RowO 42 13 (.slice none 0 0) 0 [] * (starL bytesP X * A))); ac_rfl)⟩
  clear h
  rintro e w ⟨hd, e0, i, vl, hi, e4, e3, h⟩
  by_cases hlt : (i : Int) < X.length
  case neg =>
    have hi' : i = (tellL s).length := by omega
    rw [hi', List.take_length] at h
    simp -dsimp -implicitDefEqProofs (disch := omega) only [go_sem, hd, e0, e4, e3, hlt, h.cl b]
    refine ⟨vl, ?_, rfl⟩
    have h2 := h.ac (show _ = RowO 42 13 vl (tellL s).length ((tellL s).flatMap infL) * (RefB b s (.slice a X.length c) * (RefL s.L (.slice a X.length c) X * (starL bytesP X * A))) by ac_rfl)
    rw [RefQ.as] at h2
    exact h2.ent (Ent.sep (Ent.rfl' _) (Ent.sep (RefP.shut ok) (Ent.rfl' _)))
  have hil : i < X.length := by omega
  obtain ⟨al, cl, rfl, _⟩ := h.right.right.left.ent (Ent.rfl' _) |>.ac rfl |> fun hh => (h.ac (show _ = RowO 42 13 vl i (((tellL s).take i).flatMap infL) * (RefB b s (.slice a X.length c) * (RefL s.L (.slice a X.length c) X * (starL bytesP X * A))) by ac_rfl)).rowForm vl
  obtain ⟨g, o, c', hiS, hv, prow, hc, _⟩ := h.entF ok hil
  simp only [Value.slice.injEq, true_and] at hv
  obtain ⟨rfl, rfl⟩ := hv
  have htt : (tellL s).take (i + 1) = (tellL s).take i ++ [tellF s.L s.L[i]] := by
    rw [List.take_succ_eq_append_getElem (by omega)]
    simp [tellL]
  simp -dsimp -implicitDefEqProofs (disch := omega) only [go_sem, hd, e0, e4, e3, hlt, h.cl b, prow]
  refine h.lit (t := 50) (n := 1) (cells := infL (tellF s.L s.L[i])) (by kernel_rfl : rowTy Tryz.prog 50 = some (42, 13, 128, infL infZ)) rfl (by decide) (by decide) fun v2 w2 h2 => ?_
  simp -dsimp -implicitDefEqProofs (disch := omega) only [go_sem, hd, e0, e4, e3]
  refine h2.appR (v := .slice al i cl) (x := v2) (by kernel_rfl : rowTy Tryz.prog 50 = some (42, 13, 128, infL infZ)) Tryz.underlying50 (infL_cells _) (by simp) (show _ ≤ 9223372036854775807 by omega) (by omega) fun v3 w3 h3 => ?_
  simp -dsimp -implicitDefEqProofs (disch := omega) only [go_sem, hd, e0, e4, e3]
  refine ⟨⟨i + 1, v3, by omega, by omega, rfl, ?_⟩, by omega⟩
  rw [htt, List.flatMap_append, List.flatMap_cons, List.flatMap_nil, List.append_nil]
  exact h3.right
end
end
theorem flat_set {α β : Type} {enc : α → List Value} {enc' : β → List Value} {k : Nat} (hk : ∀ x, (enc x).length = k) (hk' : ∀ x, (enc' x).length = k) {l : List α} {l' : List β} (hl : l'.length = l.length) {i j : Nat} (hi : i < l.length) (hj : j < k) {v : Value}
    (hne : ∀ m (hm : m < l.length), m ≠ i → enc' (l'[m]'(by omega)) = enc l[m]) (he : enc' (l'[i]'(by omega)) = (enc l[i]).set j v) : (l.flatMap enc).set (i * k + j) v = l'.flatMap enc' := by
  refine List.ext_getElem? fun t => ?_
  rw [List.getElem?_set]
  by_cases ht : t < l.length * k
  · obtain ⟨m, q, hm, hq, rfl, hf⟩ := flatMap_at_all hk l t ht
    have hf' := flatMap_at hk' l' m q (by omega) hq
    rw [hf', flatMap_length hk]
    by_cases hmi : m = i
    · subst hmi
      rw [he, List.getElem?_set]
      by_cases hqj : q = j
      · subst hqj
        rw [if_pos rfl, if_pos ht, if_pos rfl, if_pos (by rw [hk]; exact hj)]
      · rw [if_neg (by omega), if_neg (fun e => hqj e.symm)]
        exact flatMap_at hk l m q hm hq
    · rw [hne m hm hmi]
      have : ¬ i * k + j = m * k + q := fun e => by
        have h1 : (i * k + j) / k = i := by rw [Nat.mul_comm, Nat.mul_add_div (by omega), Nat.div_eq_of_lt hj]; omega
        have h2 : (m * k + q) / k = m := by rw [Nat.mul_comm, Nat.mul_add_div (by omega), Nat.div_eq_of_lt hq]; omega
        rw [e, h2] at h1
        exact hmi h1
      rw [if_neg this]
      exact flatMap_at hk l m q hm hq
  · have h1 : (l.flatMap enc).length = l.length * k := flatMap_length hk l
    have h2 : (l'.flatMap enc').length = l.length * k := by rw [flatMap_length hk' l', hl]
    have h3 : i * k + j < l.length * k := by
      have : (i + 1) * k ≤ l.length * k := Nat.mul_le_mul_right k hi
      rw [Nat.add_mul] at this; omega
    rw [if_neg (by omega), List.getElem?_eq_none (by omega), List.getElem?_eq_none (by omega)]
theorem upd_set {L : List NodeD} (hr : L.Pairwise fun a b => a.i.path < b.i.path) {i : Nat} (hi : i < L.length) (n' : NodeD) : updN L L[i].i.path (fun _ => n') = L.set i n' := by
  refine List.ext_getElem (by simp [updN]) fun m h1 h2 => ?_
  have hm : m < L.length := by simpa [updN] using h1
  simp only [updN, List.getElem_map, List.getElem_set]
  by_cases hmi : i = m
  · subst hmi; simp
  · rw [if_neg hmi, if_neg]
    intro e
    rcases Nat.lt_trichotomy i m with h3 | h3 | h3
    · have := List.pairwise_iff_getElem.1 hr i m hi hm h3; omega
    · exact hmi h3
    · have := List.pairwise_iff_getElem.1 hr m i hm hi h3; omega
theorem RefOk.upd {s : SD} {X : List EV} (ok : RefOk s X) {i : Nat} (hi : i < s.L.length) {n' : NodeD} {v' : Value} (hw : Wf { s with L := updN s.L s.L[i].i.path fun _ => n' }) : RefOk { s with L := updN s.L s.L[i].i.path fun _ => n' } (X.set i ⟨n', v'⟩) := by
  refine ⟨hw, ?_⟩
  show (X.set i ⟨n', v'⟩).map (·.d) = updN s.L s.L[i].i.path fun _ => n'
  rw [upd_set ok.wf.rise hi, List.map_set, ok.list]
theorem ents_set {s : SD} {X : List EV} (ok : RefOk s X) {i j : Nat} (hi : i < s.L.length) (hj : j < 14) {n' : NodeD} (k : Keeps s.L[i] n') {v v' : Value} (hx : ∀ hX : i < X.length, infL (tellF s.L n') ++ [v'] = (entC s.L X[i]).set j v) :
    (X.flatMap (entC s.L)).set (i * 14 + j) v = (X.set i ⟨n', v'⟩).flatMap (entC (updN s.L s.L[i].i.path fun _ => n')) := by
  have hX : i < X.length := by rw [ok.len]; exact hi
  have ht : ∀ y, tellF (updN s.L s.L[i].i.path fun _ => n') y = tellF s.L y := fun y => by
    unfold tellF
    rw [kids_upd ok.wf.rise (List.getElem_mem hi) rfl k]
  refine flat_set (entC_len _) (entC_len _) (by simp) hX hj (fun m hm hmi => ?_) ?_
  · rw [List.getElem_set_ne (by omega)]
    unfold entC
    rw [ht]
  · rw [List.getElem_set_self, ← hx hX]
    unfold entC
    rw [ht]
theorem starL_set' {α : Type} (f : α → HP) {l : List α} {i : Nat} (hi : i < l.length) {y : α} (h : f y = f l[i]) : starL f (l.set i y) = starL f l := by
  induction l generalizing i with
  | nil => simp at hi
  | cons x l ih =>
    cases i with
    | zero => show f y * starL f l = f x * starL f l; rw [h]; rfl
    | succ i => show f x * starL f (l.set i y) = f x * starL f l; rw [ih (by simpa using hi) h]
section
variable {w0 w : World} {A : HP} {b i : Nat} {s : SD} {v : Value} {X : List EV}
theorem ref_cell (ok : RefOk s X) (hi : i < s.L.length) {g o c j : Nat} (hj : j < 14) {j' : Inf} {u : Value} (hw : Wf { s with L := updN s.L s.L[i].i.path fun _ => ⟨j', s.L[i].b⟩ }) (k : Keeps s.L[i] ⟨j', s.L[i].b⟩)
    (hx : ∀ hX : i < X.length, infL (tellF s.L ⟨j', s.L[i].b⟩) ++ [X[i].v] = (entC s.L X[i]).set j u)
    (h : St w0 (RefB b s (.slice (some ⟨g, o, none⟩) X.length c) * (RowO 81 14 (.slice (some ⟨g, o, none⟩) X.length c) X.length ((X.flatMap (entC s.L)).set (i * 14 + j) u) * (starL bytesP X * A))) w) :
    St w0 (RefP b { s with L := updN s.L s.L[i].i.path fun _ => ⟨j', s.L[i].b⟩ } * A) w := by
  have hX : i < X.length := by rw [ok.len]; exact hi
  have hsb : starL bytesP (X.set i ⟨⟨j', s.L[i].b⟩, X[i].v⟩) = starL bytesP X := starL_set' bytesP hX (by unfold bytesP; rw [ok.at_ hX])
  rw [ents_set ok hi hj k (v' := X[i].v) hx] at h
  have hlen : (X.set i ⟨⟨j', s.L[i].b⟩, X[i].v⟩).length = X.length := by simp
  have h2 : St w0 (RefQ b { s with L := updN s.L s.L[i].i.path fun _ => ⟨j', s.L[i].b⟩ } (.slice (some ⟨g, o, none⟩) X.length c) (X.set i ⟨⟨j', s.L[i].b⟩, X[i].v⟩) * A) w := by
    rw [← RefQ.as]
    show St w0 (_ * (RowO _ _ _ (X.set i _).length _ * (starL bytesP (X.set i _) * A))) w
    rw [hsb, hlen]
    exact h
  exact h2.ent (Ent.sep (RefP.shut (ok.upd hi hw)) (Ent.rfl' _))
section
attribute [local go_sem] F45.t4_eq
theorem refOpens_any (ok : RefOk s X) (hi : i < s.L.length) {k : Int} (hk : -9223372036854775808 ≤ k ∧ k ≤ 9223372036854775807) (h : St w0 (RefB b s v * (RefL s.L v X * (starL bytesP X * A))) w) :
    Calls Tryz.prog 45 #[.pointer (some ⟨b, 0, none⟩), .int .i64 i, .int .i64 k] w fun e w' => match opensF k s.L[i].i with
      | .error x => St w0 (RefP b s * A) w' ∧ e = .returned (.int .i64 x)
      | .ok j => St w0 (RefP b { s with L := updN s.L s.L[i].i.path fun _ => ⟨j, s.L[i].b⟩ } * A) w' ∧ e = .returned (.int .i64 0) := by
  have hX : i < X.length := by rw [ok.len]; exact hi
  have oki := ok.wf.ok _ (List.getElem_mem hi)
  have o0 := oki.op0
  have o1 := oki.op1
  obtain ⟨g, o, c, hiS, rfl, prow, hc, _⟩ := h.entF ok hX
  have c11 : w.cell? ⟨g, o + i * 14 + 11, none⟩ = some (.int .i64 s.L[i].i.opens) := hc 11 (by decide)
  refine F45.calls (by simp) ?_
  unfold F45.code
  by_cases c1 : k < -s.L[i].i.opens ∨ 2147483647 - s.L[i].i.opens < k
  · have hr : opensF k s.L[i].i = .error 87 := by unfold opensF; rw [if_pos c1]
    rw [hr]
    rw [RefQ.as] at h
    have hfin := h.ent (Ent.sep (RefP.shut ok) (Ent.rfl' _))
    rw [← RefQ.as] at h
    by_cases c2 : k < 0 - s.L[i].i.opens
    · simp -dsimp -implicitDefEqProofs (disch := omega) only [go_sem, h.cl b, c11, c2]
      exact hfin
    · have c3 : 2147483647 - s.L[i].i.opens < k := by omega
      simp -dsimp -implicitDefEqProofs (disch := omega) only [go_sem, h.cl b, c11, c2, c3]
      exact hfin
  · have hr : opensF k s.L[i].i = .ok { s.L[i].i with opens := s.L[i].i.opens + k } := by unfold opensF; rw [if_neg c1]
    have hok := opens_ok hr oki
    have hw := one_wf ok.wf (List.getElem_mem hi) (r := .ok ⟨{ s.L[i].i with opens := s.L[i].i.opens + k }, s.L[i].b⟩) (fun n' e => by cases e; exact hok)
    rw [hr]
    have c2 : ¬ k < 0 - s.L[i].i.opens := by omega
    have c3 : ¬ 2147483647 - s.L[i].i.opens < k := by omega
    simp -dsimp -implicitDefEqProofs (disch := omega) only [go_sem, h.cl b, c11, c2, c3]
    rw [Nat.add_assoc o]
    refine h.rowSet1 (g := g) (o := o) (n := X.length) (c := c) (k := i * 14 + 11) (v := .int .i64 (s.L[i].i.opens + k)) (by rw [flatMap_length (entC_len _)]; omega) rfl fun w1 h1 => ?_
    simp -dsimp -implicitDefEqProofs (disch := omega) only [go_sem]
    refine ref_cell ok hi (j := 11) (by decide) hw hok.1 (fun hX => ?_) h1
    rw [show entC s.L X[i] = infL (tellF s.L X[i].d) ++ [X[i].v] from rfl, ok.at_ hX]
    rfl
end
end
section
variable {w0 w : World} {A : HP} {b i : Nat} {s : SD} {v : Value} {X : List EV}
theorem refDir_any {n : Inf} (h : St w0 A w) : Calls Tryz.prog 79 #[.agg (infL n).toArray] w fun e w' => St w0 A w' ∧ e = .returned (.bool (dirF n.mode)) := by
  refine F79.calls (by simp) ?_
  unfold F79.code
  simp -dsimp -implicitDefEqProofs (disch := omega) only [go_sem]
  refine h.new fun B w1 h1 => ?_
  have hd : decide ((2147483648 : Int) ≤ (n.mode : Nat)) = dirF n.mode := by unfold dirF; rw [decide_eq_decide]; omega
  simp -dsimp -implicitDefEqProofs (disch := omega) only [go_sem, h1.cl B, hd]
  exact h1.right
theorem refMode_any {m : Nat} (hm : m < 4294967296) (h : St w0 A w) : Calls Tryz.prog 80 #[.int .u32 m] w fun e w' => St w0 A w' ∧ e = .returned (.bool (modeF m)) := by
  refine F80.calls (by simp) ?_
  unfold F80.code
  have hb := bMode (P := Tryz.prog) (T := 33) hm
  have hd : decide (((m &&& 469761536 : Nat) : Int) = 0) = modeF m := by unfold modeF; rw [decide_eq_decide]; omega
  simp -dsimp -implicitDefEqProofs (disch := omega) only [go_sem, hb, hd]
  exact h
theorem refHas_any {m k : Nat} (hm : m < 256) (hk : k < 8) {c : Int} (hc : c = ((2 ^ k : Nat) : Int)) (h : St w0 A w) : Calls Tryz.prog 82 #[.int .u8 m, .int .u8 c] w fun e w' => St w0 A w' ∧ e = .returned (.bool (m.testBit k)) := by
  refine F82.calls (by simp) ?_
  unfold F82.code
  have hb := bMask (P := Tryz.prog) (T := 40) hm k hk hc
  have hc0 : ¬ c = 0 := by have := Nat.two_pow_pos k; omega
  cases ht : m.testBit k
  · rw [ht] at hb
    simp only [Bool.false_eq_true, if_false] at hb
    simp -dsimp -implicitDefEqProofs (disch := omega) only [go_sem, hb]
    exact h
  · rw [ht] at hb
    simp only [if_true] at hb
    simp -dsimp -implicitDefEqProofs (disch := omega) only [go_sem, hb, hc0]
    exact h
section
attribute [local go_sem] F81.t6_eq F81.t7_eq F81.t9_eq F81.t4_eq
theorem refCheckN_any (h : St w0 A w) (l : List UInt8) (hl : l.length ≤ 9223372036854775800) :
    Calls Tryz.prog 81 #[.string (strOf l)] w fun e w' => St w0 A w' ∧ e = .returned (.int .i64 (if okName l then 0 else 50)) := by
  refine F81.calls (by simp) ?_
  unfold F81.code
  simp -dsimp -implicitDefEqProofs (disch := omega) only [go_sem]
  refine (refGood_any h l hl).mono ?_
  rintro e' w1 ⟨h1, rfl⟩
  by_cases c1 : l = []
  · have ho : okName l = false := by simp [okName, dots, c1]
    have d1 : decide (l = []) = true := decide_eq_true c1
    rw [ho]
    simp -dsimp -implicitDefEqProofs (disch := omega) only [go_sem, d1]
    exact h1
  have d1 : decide (l = []) = false := decide_eq_false c1
  by_cases c2 : l = [46]
  · have ho : okName l = false := by simp [okName, dots, c2]
    have d2 : decide (l = [46]) = true := decide_eq_true c2
    rw [ho]
    simp -dsimp -implicitDefEqProofs (disch := omega) only [go_sem, d1, d2]
    exact h1
  have d2 : decide (l = [46]) = false := decide_eq_false c2
  by_cases c3 : l = [46, 46]
  · have ho : okName l = false := by simp [okName, dots, c3]
    have d3 : decide (l = [46, 46]) = true := decide_eq_true c3
    rw [ho]
    simp -dsimp -implicitDefEqProofs (disch := omega) only [go_sem, d1, d2, d3]
    exact h1
  have d3 : decide (l = [46, 46]) = false := decide_eq_false c3
  cases c4 : good l
  · have ho : okName l = false := by simp [okName, c4]
    rw [ho]
    simp -dsimp -implicitDefEqProofs (disch := omega) only [go_sem, d1, d2, d3]
    exact h1
  by_cases c5 : (255 : Int) < l.length
  · have ho : okName l = false := by simp [okName]; omega
    rw [ho]
    simp -dsimp -implicitDefEqProofs (disch := omega) only [go_sem, d1, d2, d3, c5]
    exact h1
  simp -dsimp -implicitDefEqProofs (disch := omega) only [go_sem, d1, d2, d3, c5]
  refine loop_intro (fun e w' => w' = w1 ∧ e.ds = [] ∧ e.ρ 0 = .string (strOf l) ∧ ∃ k : Nat, k ≤ l.length ∧ e.ρ 4 = .int .i64 k ∧ (47 : UInt8) ∉ l.take k)
    (fun e _ => match e.ρ 4 with | .int _ n => (l.length - n).toNat | _ => 0) ?_ ?_
  · exact ⟨rfl, by simp -dsimp -implicitDefEqProofs only [go_sem], by simp -dsimp -implicitDefEqProofs only [go_sem], 0, by omega, by simp -dsimp -implicitDefEqProofs only [go_sem], by simp⟩
  rintro e w2 ⟨rfl, hd, e0, k, hk, e4, hg⟩
  by_cases hlt : (k : Int) < l.length
  case neg =>
    rw [List.take_of_length_le (by omega)] at hg
    have ho : okName l = true := by simp [okName, dots, c1, c2, c3, c4, hg]; omega
    rw [ho]
    simp -dsimp -implicitDefEqProofs (disch := omega) only [go_sem, hd, e0, e4, hlt]
    exact h1
  have hkl : k < l.length := by omega
  by_cases hc : ((l.getD k 0).toNat : Int) = 47
  · have hm : (47 : UInt8) ∈ l := by
      have : l.getD k 0 = 47 := UInt8.toNat_inj.1 (by simp only [UInt8.toNat_ofNat]; omega)
      rw [← this]
      simp only [List.getD_eq_getElem?_getD, List.getElem?_eq_getElem hkl, Option.getD_some]
      exact List.getElem_mem hkl
    have ho : okName l = false := by simp [okName, hm]
    rw [ho]
    simp -dsimp -implicitDefEqProofs (disch := omega) only [go_sem, hd, e0, e4, hlt, hc]
    exact h1
  · simp -dsimp -implicitDefEqProofs (disch := omega) only [go_sem, hd, e0, e4, hlt, hc]
    refine ⟨⟨k + 1, by omega, by omega, ?_⟩, by omega⟩
    rw [List.take_add_one]
    simp only [List.mem_append, not_or]
    refine ⟨hg, ?_⟩
    rw [List.getElem?_eq_getElem hkl]
    simp only [Option.toList_some, List.mem_singleton]
    intro e47
    apply hc
    simp only [List.getD_eq_getElem?_getD, List.getElem?_eq_getElem hkl, Option.getD_some]
    rw [← e47]; rfl
end
section
attribute [local go_sem] F41.t10_eq F41.t7_eq F41.t4_eq
theorem refName_any (ok : RefOk s X) (hi : i < s.L.length) {nm : List UInt8} (hn : nm.length ≤ 4294967296) (hw : Wf (callF s s.L[i] nm).1) (h : St w0 (RefB b s v * (RefL s.L v X * (starL bytesP X * A))) w) :
    Calls Tryz.prog 41 #[.pointer (some ⟨b, 0, none⟩), .int .i64 i, .string (strOf nm)] w fun e w' => St w0 (RefP b (callF s s.L[i] nm).1 * A) w' ∧ e = .returned (.int .i64 (callF s s.L[i] nm).2.2) := by
  have hX : i < X.length := by rw [ok.len]; exact hi
  have shut : ∀ {w} {B : HP}, St w0 (RefB b s v * (RefL s.L v X * (B * (starL bytesP X * A)))) w → St w0 (RefP b s * A) w := fun h => by
    have h2 := h.ent (Ent.sep (Ent.rfl' _) (Ent.sep (Ent.rfl' _) (Ent.right _ _)))
    rw [RefQ.as] at h2
    exact h2.ent (Ent.sep (RefP.shut ok) (Ent.rfl' _))
  obtain ⟨g, o, c, hiS, hv, prow, hc, _⟩ := h.entF ok hX
  refine F41.calls (by simp) ?_
  unfold F41.code
  subst hv
  simp -dsimp -implicitDefEqProofs (disch := omega) only [go_sem, h.cl b, prow]
  refine h.new fun D w1 h1 => ?_
  simp -dsimp -implicitDefEqProofs (disch := omega) only [go_sem]
  refine h1.stoAll (b := D) (cs := infL (tellF s.L s.L[i])) rfl rfl (infL_cells _) fun w2 h2 => ?_
  have d0 : w2.cell? ⟨D, 0, none⟩ = some (.int .u64 s.L[i].i.path) := (h2.cells) 0
  have h3 : St w0 (RefB b s (.slice (some ⟨g, o, none⟩) X.length c) * (RefL s.L (.slice (some ⟨g, o, none⟩) X.length c) X * (infB D (tellF s.L s.L[i]) * (starL bytesP X * A)))) w2 := h2.ac (by simp only [infB]; ac_rfl)
  by_cases c1 : ((s.L[i].i.path : Nat) : Int) = 1
  · have hr : callF s s.L[i] nm = (s, 0, 81) := by unfold callF; rw [if_pos (by omega)]
    rw [hr]
    simp -dsimp -implicitDefEqProofs (disch := omega) only [go_sem, d0, c1]
    exact shut h3
  have hc1 : ¬ s.L[i].i.path = 1 := by omega
  simp -dsimp -implicitDefEqProofs (disch := omega) only [go_sem, d0, c1]
  refine (refCheckN_any h3 nm (by omega)).mono ?_
  rintro e w3 ⟨h4, rfl⟩
  cases hok : okName nm with
  | false =>
    have hr : callF s s.L[i] nm = (s, 0, 50) := by unfold callF; rw [if_neg hc1, hok]; rfl
    rw [hr]
    simp only [Bool.false_eq_true, if_false]
    simp -dsimp -implicitDefEqProofs (disch := omega) only [go_sem]
    exact shut h4
  | true =>
    simp only [if_true]
    have d1 : w3.cell? ⟨D, 1, none⟩ = some (.int .u64 s.L[i].i.parent) := (h4.right.right.cells) 1
    simp -dsimp -implicitDefEqProofs (disch := omega) only [go_sem, d1]
    refine (refChild_any (p := s.L[i].i.parent) (nm := nm) ok h4).mono ?_
    rintro e w4 ⟨h5, rfl⟩
    have e0 : w4.cell? ⟨D, 0, none⟩ = some (.int .u64 s.L[i].i.path) := (h5.right.right.cells) 0
    have hgo : ((childF s.L s.L[i].i.parent nm = none) ∨ (childF s.L s.L[i].i.parent nm = some s.L[i].i.path)) → callF s s.L[i] nm = ({ s with L := updN s.L s.L[i].i.path fun _ => ⟨{ s.L[i].i with name := nm }, s.L[i].b⟩ }, s.L[i].i.path, 0) := fun hh => by
      unfold callF
      rw [if_neg hc1, hok]
      simp only [Bool.not_true, Bool.false_eq_true, if_false]
      have hu := upd_fun ok.wf.rise (List.getElem_mem hi) (fun n => ⟨{ n.i with name := nm }, n.b⟩)
      rw [hu]
      rcases hh with hh | hh <;> rw [hh]
      simp only [if_true]
    have fin : ∀ {w}, callF s s.L[i] nm = ({ s with L := updN s.L s.L[i].i.path fun _ => ⟨{ s.L[i].i with name := nm }, s.L[i].b⟩ }, s.L[i].i.path, 0) → St w0 (RefB b s (.slice (some ⟨g, o, none⟩) X.length c) * (RowO 81 14 (.slice (some ⟨g, o, none⟩) X.length c) X.length ((X.flatMap (entC s.L)).set (i * 14 + 2) (.string (strOf nm))) * (infB D (tellF s.L s.L[i]) * (starL bytesP X * A)))) w → St w0 (RefP b (callF s s.L[i] nm).1 * A) w := fun hr h => by
      rw [hr] at hw ⊢
      refine ref_cell ok hi (j := 2) (by decide) hw ⟨rfl, rfl, rfl⟩ (fun hX => ?_) (h.ent (Ent.sep (Ent.rfl' _) (Ent.sep (Ent.rfl' _) (Ent.right _ _))))
      rw [show entC s.L X[i] = infL (tellF s.L X[i].d) ++ [X[i].v] from rfl, ok.at_ hX]
      rfl
    have hfl : i * 14 + 2 < (X.flatMap (entC s.L)).length := by rw [flatMap_length (entC_len _)]; omega
    cases hch : childF s.L s.L[i].i.parent nm with
    | none =>
      have hr := hgo (.inl hch)
      simp only
      simp -dsimp -implicitDefEqProofs (disch := omega) only [go_sem, h5.cl b]
      rw [Nat.add_assoc o]
      refine h5.rowSet1 (g := g) (o := o) (n := X.length) (c := c) (k := i * 14 + 2) (v := .string (strOf nm)) hfl rfl fun w5 h6 => ?_
      simp -dsimp -implicitDefEqProofs (disch := omega) only [go_sem]
      refine ⟨fin hr h6, ?_⟩
      rw [hr]; rfl
    | some q =>
      simp only
      by_cases hq : (q : Int) = (s.L[i].i.path : Nat)
      · have hr := hgo (.inr (by rw [hch]; congr 1; omega))
        simp -dsimp -implicitDefEqProofs (disch := omega) only [go_sem, h5.cl b, e0, hq]
        rw [Nat.add_assoc o]
        refine h5.rowSet1 (g := g) (o := o) (n := X.length) (c := c) (k := i * 14 + 2) (v := .string (strOf nm)) hfl rfl fun w5 h6 => ?_
        simp -dsimp -implicitDefEqProofs (disch := omega) only [go_sem]
        refine ⟨fin hr h6, ?_⟩
        rw [hr]; rfl
      · have hr : callF s s.L[i] nm = (s, 0, 82) := by
          unfold callF
          rw [if_neg hc1, hok, hch]
          simp only [Bool.not_true, Bool.false_eq_true, if_false]
          rw [if_neg (by omega)]
        rw [hr]
        simp -dsimp -implicitDefEqProofs (disch := omega) only [go_sem, h5.cl b, e0, hq]
        exact shut h5
end
end
def enc2 (p : Inf × Value) : List Value := infL p.1 ++ [p.2]
theorem enc2_len (p : Inf × Value) : (enc2 p).length = 14 := rfl
def prOf (L : List NodeD) (x : EV) : Inf × Value := (tellF L x.d, x.v)
theorem ents_pairs (L : List NodeD) (X : List EV) : X.flatMap (entC L) = (X.map (prOf L)).flatMap enc2 := by
  rw [List.flatMap_map]; rfl
theorem pair_set {ps : List (Inf × Value)} {i j : Nat} (hi : i < ps.length) (hj : j < 14) {p' : Inf × Value} {u : Value} (h : enc2 p' = (enc2 ps[i]).set j u) : (ps.flatMap enc2).set (i * 14 + j) u = (ps.set i p').flatMap enc2 :=
  flat_set enc2_len enc2_len (by simp) hi hj (fun m hm hmi => by rw [List.getElem_set_ne (by omega)]) (by rw [List.getElem_set_self]; exact h)
theorem starL_out {α : Type} (f : α → HP) {l : List α} {i : Nat} (hi : i < l.length) : starL f l = f l[i] * starL f (l.eraseIdx i) := by
  have hs : l = l.take i ++ l[i] :: l.drop (i + 1) := by
    conv => lhs; rw [← List.take_append_drop i l, List.drop_eq_getElem_cons hi]
  conv => lhs; rw [hs]
  rw [starL_split, List.eraseIdx_eq_take_drop_succ]
theorem starL_in {α : Type} (f : α → HP) {l : List α} {i : Nat} (hi : i < l.length) (y : α) : starL f (l.set i y) = f y * starL f (l.eraseIdx i) := by
  rw [starL_out f (l := l.set i y) (i := i) (by simpa using hi), List.getElem_set_self]
  congr 2
  rw [List.eraseIdx_eq_take_drop_succ, List.eraseIdx_eq_take_drop_succ, List.take_set_of_le (Nat.le_refl _), List.drop_set_of_lt (by omega)]
section
variable {w0 w : World} {A : HP} {b i : Nat} {s : SD} {v : Value} {X : List EV}
theorem ref_two (ok : RefOk s X) (hi : i < s.L.length) {g o c : Nat} {n' : NodeD} {v' : Value} (hw : Wf { s with L := updN s.L s.L[i].i.path fun _ => n' }) (k : Keeps s.L[i] n') {xs : List Value}
    (hx : xs = ((X.map (prOf s.L)).set i (tellF s.L n', v')).flatMap enc2)
    (h : St w0 (RefB b s (.slice (some ⟨g, o, none⟩) X.length c) * (RowO 81 14 (.slice (some ⟨g, o, none⟩) X.length c) X.length xs * (RowBy v' n'.b * (starL bytesP (X.eraseIdx i) * A)))) w) :
    St w0 (RefP b { s with L := updN s.L s.L[i].i.path fun _ => n' } * A) w := by
  have hX : i < X.length := by rw [ok.len]; exact hi
  have ht : ∀ y, tellF (updN s.L s.L[i].i.path fun _ => n') y = tellF s.L y := fun y => by
    unfold tellF
    rw [kids_upd ok.wf.rise (List.getElem_mem hi) rfl k]
  have hrow : xs = (X.set i ⟨n', v'⟩).flatMap (entC (updN s.L s.L[i].i.path fun _ => n')) := by
    rw [hx, ents_pairs, List.map_set]
    have : prOf (updN s.L s.L[i].i.path fun _ => n') = prOf s.L := by funext y; unfold prOf; rw [ht]
    rw [this]
    rfl
  have hsb := starL_in bytesP hX ⟨n', v'⟩
  have hlen : (X.set i (⟨n', v'⟩ : EV)).length = X.length := by simp
  have h2 : St w0 (RefQ b { s with L := updN s.L s.L[i].i.path fun _ => n' } (.slice (some ⟨g, o, none⟩) X.length c) (X.set i ⟨n', v'⟩) * A) w := by
    rw [← RefQ.as, hsb]
    show St w0 (_ * (RowO _ _ _ (X.set i _).length _ * ((RowBy v' n'.b * _) * A))) w
    rw [hlen, ← hrow]
    exact h.ac (by ac_rfl)
  exact h2.ent (Ent.sep (RefP.shut (ok.upd hi hw)) (Ent.rfl' _))
theorem pad_row (old : List UInt8) (k : Nat) : setRowL (List.replicate k (Value.int .u8 0)) 0 ((old.map bv).take k) = (padF old k).map bv := by
  unfold padF
  refine List.ext_getElem (by rw [length_setRowL]; simp; omega) fun j h2 h3 => ?_
  have hjk : j < k := by rw [length_setRowL] at h2; simpa using h2
  apply Option.some.inj
  rw [← List.getElem?_eq_getElem, ← List.getElem?_eq_getElem]
  by_cases hj : j < ((old.map bv).take k).length
  · have := getElem?_setRowL_in ((old.map bv).take k) (List.replicate k (Value.int .u8 0)) 0 j hj (by simp at hj ⊢; omega)
    rw [Nat.zero_add] at this
    rw [this, List.getElem?_take_of_lt hjk, List.getElem?_map, List.getElem?_map, List.getElem?_take_of_lt hjk, List.getElem?_append_left (by simp at hj; omega)]
  · rw [getElem?_setRowL_ge _ _ _ _ (by omega), List.getElem?_map, List.getElem?_take_of_lt hjk, List.getElem?_append_right (by simp at hj; omega), List.getElem?_replicate, List.getElem?_replicate, if_pos hjk, if_pos (by simp at hj; omega)]
    rfl
section
attribute [local go_sem] F43.t5_eq F43.t3_eq
theorem refCut_any (ok : RefOk s X) (hi : i < s.L.length) {k : Nat} (hk : k < 18446744073709551616) (h : St w0 (RefB b s v * (RefL s.L v X * (starL bytesP X * A))) w) :
    Calls Tryz.prog 43 #[.pointer (some ⟨b, 0, none⟩), .int .i64 i, .int .u64 k] w fun e w' => match cutF k s.L[i] with
      | .error x => St w0 (RefP b s * A) w' ∧ e = .returned (.int .i64 x)
      | .ok n' => St w0 (RefP b { s with L := updN s.L s.L[i].i.path fun _ => n' } * A) w' ∧ e = .returned (.int .i64 0) := by
  have hX : i < X.length := by rw [ok.len]; exact hi
  have oki := ok.wf.ok _ (List.getElem_mem hi)
  have shut : ∀ {w}, St w0 (RefB b s v * (RefL s.L v X * (starL bytesP X * A))) w → St w0 (RefP b s * A) w := fun h => by
    rw [RefQ.as] at h
    exact h.ent (Ent.sep (RefP.shut ok) (Ent.rfl' _))
  obtain ⟨g, o, c, hiS, hv, prow, hc, c13⟩ := h.entF ok hX
  refine F43.calls (by simp) ?_
  unfold F43.code
  subst hv
  simp -dsimp -implicitDefEqProofs (disch := omega) only [go_sem, h.cl b, prow]
  refine (refDir_any h).mono ?_
  rintro e w1 ⟨h1, rfl⟩
  rw [show (tellF s.L s.L[i]).mode = s.L[i].i.mode from rfl]
  cases hd : dirF s.L[i].i.mode with
  | true =>
    have hr : cutF k s.L[i] = .error 81 := by unfold cutF; rw [if_pos hd]
    rw [hr]
    simp -dsimp -implicitDefEqProofs (disch := omega) only [go_sem]
    exact shut h1
  | false =>
    by_cases c1 : (65536 : Int) < k
    · have hr : cutF k s.L[i] = .error 86 := by unfold cutF; rw [if_neg (by simp [hd]), if_pos (by omega)]
      rw [hr]
      simp -dsimp -implicitDefEqProofs (disch := omega) only [go_sem, c1]
      exact shut h1
    have hr : cutF k s.L[i] = .ok ⟨{ s.L[i].i with length := k }, padF s.L[i].b k⟩ := by unfold cutF; rw [if_neg (by simp [hd]), if_neg (by omega)]
    have hok := cut_ok hr oki
    have hw := one_wf ok.wf (List.getElem_mem hi) (r := .ok ⟨{ s.L[i].i with length := k }, padF s.L[i].b k⟩) (fun n' e => by cases e; exact hok)
    rw [hr]
    simp -dsimp -implicitDefEqProofs (disch := omega) only [go_sem, c1]
    refine St.make1 h1 (n := k) (c := k) rowTy_bytes (Nat.le_refl _) (by omega) (by omega) fun d w2 h2 => ?_
    have hst := starL_out bytesP hX
    have hvi : bytesP X[i] = RowBy X[i].v s.L[i].b := by unfold bytesP; rw [ok.at_ hX]
    rw [hvi] at hst
    have h3 := h2.ac (show _ = RefB b s (.slice (some ⟨g, o, none⟩) X.length c) * (RefL s.L (.slice (some ⟨g, o, none⟩) X.length c) X * (RowO 5 1 (.slice (some ⟨d, 0, none⟩) k k) k (List.replicate k (.int .u8 0)) * (RowBy X[i].v s.L[i].b * (starL bytesP (X.eraseIdx i) * A)))) by rw [hst]; ac_rfl)
    obtain ⟨g', o', c', _, hv', _, _, c13'⟩ := h3.entF ok hX
    simp only [Value.slice.injEq, Option.some.injEq, Addr.mk.injEq, and_true, true_and] at hv'
    obtain ⟨⟨rfl, rfl⟩, rfl⟩ := hv'
    have hrd := (h3.right.right.right.left.ent (RowO.reads _ _ _ _ _)).rd
    obtain ⟨ai, ci, hvv, _⟩ := h3.right.right.right.rowForm X[i].v
    rw [hvv] at c13' hrd h3
    simp -dsimp -implicitDefEqProofs (disch := omega) only [go_sem, h3.cl b, c13']
    rw [show (⟨d, 0, none⟩ : Addr) = ⟨d, 0 + 0, none⟩ from rfl]
    refine h3.copyRow (g := d) (o := 0) (k := 0) (n := k) (c := k) (dl := k) (m := s.L[i].b.length) (ys := s.L[i].b.map bv) Tryz.underlying43 (by kernel_rfl) hrd (bv_isCell _) (by omega) fun w4 h4 => ?_
    rw [pad_row] at h4
    simp -dsimp -implicitDefEqProofs (disch := omega) only [go_sem, h4.cl b]
    rw [Nat.add_assoc o]
    refine h4.rowSet1 (g := g) (o := o) (n := X.length) (c := c) (k := i * 14 + 13) (v := .slice (some ⟨d, 0, none⟩) k k) (by rw [flatMap_length (entC_len _)]; omega) rfl fun w5 h5 => ?_
    simp -dsimp -implicitDefEqProofs (disch := omega) only [go_sem, h5.cl b]
    rw [Nat.add_assoc o]
    refine h5.rowSet1 (g := g) (o := o) (n := X.length) (c := c) (k := i * 14 + 10) (v := .int .u64 (k : Int)) (by rw [List.length_set, flatMap_length (entC_len _)]; omega) rfl fun w6 h6 => ?_
    simp -dsimp -implicitDefEqProofs (disch := omega) only [go_sem]
    have hpl : (padF s.L[i].b k).length = k := padF_len _ _
    refine ref_two ok hi (n' := ⟨{ s.L[i].i with length := k }, padF s.L[i].b k⟩) (v' := .slice (some ⟨d, 0, none⟩) k k) hw hok.1 ?_ ((h6.ent (Ent.sep (Ent.rfl' _) (Ent.sep (Ent.rfl' _) (Ent.sep ?_ (Ent.right _ _))))))
    · have hpi : (X.map (prOf s.L))[i]'(by simpa using hX) = (tellF s.L s.L[i], X[i].v) := by rw [List.getElem_map, prOf, ok.at_ hX]
      rw [ents_pairs, pair_set (i := i) (j := 13) (by simpa using hX) (by decide) (p' := (tellF s.L s.L[i], .slice (some ⟨d, 0, none⟩) k k)) (by rw [hpi]; rfl), pair_set (i := i) (j := 10) (by simpa using hX) (by decide) (p' := (tellF s.L ⟨{ s.L[i].i with length := k }, padF s.L[i].b k⟩, .slice (some ⟨d, 0, none⟩) k k)) (by rw [List.getElem_set_self]; rfl), List.set_set]
    · show Ent _ (RowO _ _ _ (padF s.L[i].b k).length _)
      rw [hpl]
      exact Ent.rfl' _
end
end
theorem bytes_cells (l : List UInt8) : ∀ x ∈ l.map bv, isCell x = true := by
  intro x hx
  obtain ⟨b, _, rfl⟩ := List.mem_map.1 hx
  rfl
section
variable {w0 w : World} {A : HP} {b : Nat} {s : SD}
theorem St.refOne {c : CfgD} {v : Value} (hc : CfgIn c) (hok : newOk c = true) (h : St w0 (RefOne b v c * A) w) : St w0 (RefP b ⟨c.nodes.toNat, 2, [rootD c]⟩ * A) w := by
  obtain ⟨g1, g2, g3⟩ : userF c.owner = true ∧ userF c.group = true ∧ (¬ (c.nodes < 1 ∨ 4096 < c.nodes ∨ 511 < c.perm) ∧ c.owner ≠ [] ∧ c.group ≠ []) := by
    unfold newOk at hok
    simp only [Bool.and_eq_true, decide_eq_true_eq] at hok
    exact ⟨hok.1.1, hok.1.2, hok.2⟩
  have hw := root_wf hc (by intro hh; exact g3.1 (by omega)) g1 g2
  have ok : RefOk ⟨c.nodes.toNat, 2, [rootD c]⟩ [⟨rootD c, .slice none 0 0⟩] := ⟨hw, rfl⟩
  have hk : (tellF [rootD c] (rootD c)) = (rootD c).i := rfl
  have hn : ((c.nodes.toNat : Nat) : Int) = c.nodes := by omega
  have h1 : St w0 ((RowO 5 1 (.slice none 0 0) 0 [] * EmpH) * (RefOne b v c * A)) w := ((h.ent (Ent.embL _)).nilR 5 1).ac (by ac_rfl)
  have h2 : St w0 (RefQ b ⟨c.nodes.toNat, 2, [rootD c]⟩ v [⟨rootD c, .slice none 0 0⟩] * A) w := by
    have e : RefQ b ⟨c.nodes.toNat, 2, [rootD c]⟩ v [⟨rootD c, .slice none 0 0⟩] = RefOne b v c * (RowO 5 1 (.slice none 0 0) 0 [] * EmpH) := by
      show (Blk b (.cells #[.int .i64 (c.nodes.toNat : Nat), .int .u64 2, v] 84 (0, 0)) * (RowO 81 14 v 1 (entC [rootD c] ⟨rootD c, .slice none 0 0⟩ ++ []) * (RowO 5 1 (.slice none 0 0) 0 [] * EmpH))) = _
      rw [hn, List.append_nil]
      show _ = (Blk b _ * RowO 81 14 v 1 (entC [rootD c] ⟨rootD c, .slice none 0 0⟩)) * _
      rw [sep_assoc]
    rw [e]
    exact h1.ac (by ac_rfl)
  exact h2.ent (Ent.sep (RefP.shut ok) (Ent.rfl' _))
theorem refNew_full {c : CfgD} (hc : CfgIn c) (h : St w0 A w) :
    Calls Tryz.prog 9 #[.agg (cfgL c).toArray] w fun e w' =>
      if newOk c then ∃ b, St w0 (RefP b ⟨c.nodes.toNat, 2, [rootD c]⟩ * A) w' ∧ e = .returned (.tuple #[.pointer (some ⟨b, 0, none⟩), .int .i64 0])
      else St w0 A w' ∧ e = .returned (.tuple #[.pointer none, .int .i64 1]) := by
  refine (refNew_any hc h).mono ?_
  intro e w1 hq
  cases hok : newOk c with
  | false => rw [hok] at hq; exact hq
  | true =>
    rw [hok] at hq
    obtain ⟨b, v, h1, rfl⟩ := hq
    exact ⟨b, h1.refOne hc hok, rfl⟩
section
attribute [local go_sem] F85.t7_eq F85.t4_eq
theorem refRead_any {p off : Nat} {k : Int} (hoff : off < 18446744073709551616) (hk : -9223372036854775808 ≤ k ∧ k ≤ 9223372036854775807) (h : St w0 (RefP b s * A) w) :
    Calls Tryz.prog 85 #[.pointer (some ⟨b, 0, none⟩), .int .u64 p, .int .u64 off, .int .i64 k] w fun e w' => ∃ v', St w0 (RowBy v' (readS s p off k) * (RefP b s * A)) w' ∧ e = .returned v' := by
  obtain ⟨v, X, ok, h⟩ := h.refO
  have shut : ∀ {w} {Y : HP}, St w0 (RefB b s v * (RefL s.L v X * (starL bytesP X * Y))) w → St w0 (RefP b s * Y) w := fun h => by
    rw [RefQ.as] at h
    exact h.ent (Ent.sep (RefP.shut ok) (Ent.rfl' _))
  refine F85.calls (by simp) ?_
  unfold F85.code
  simp -dsimp -implicitDefEqProofs (disch := omega) only [go_sem]
  refine (refAt_any (p := p) ok h).mono ?_
  rintro e w2 ⟨h3, ⟨hf, rfl⟩ | ⟨j, hj, hf, hp, rfl⟩⟩
  · have hr : readS s p off k = [] := by unfold readS; rw [hf]
    rw [hr]
    simp -dsimp -implicitDefEqProofs (disch := omega) only [go_sem]
    exact ⟨.slice none 0 0, (shut h3).nilR _ _, rfl⟩
  have hjX : j < X.length := by rw [ok.len]; exact hj
  have hr : readS s p off k = readF s.L[j] off k := by unfold readS; rw [hf]
  rw [hr]
  have hf1 := ok.wf.few
  have hf2 := ok.wf.most
  have hfb := (ok.wf.ok _ (List.getElem_mem hj)).few
  by_cases hk0 : k ≤ 0
  · have hn : readF s.L[j] off k = [] := by unfold readF; rw [if_pos hk0]
    rw [hn]
    simp -dsimp -implicitDefEqProofs (disch := omega) only [go_sem, hk0]
    exact ⟨.slice none 0 0, (shut h3).nilR _ _, rfl⟩
  obtain ⟨g, o, c, hiS, hv, _, _, c13⟩ := h3.entF ok hjX
  subst hv
  have hst := starL_out bytesP hjX
  have hvi : bytesP X[j] = RowBy X[j].v s.L[j].b := by unfold bytesP; rw [ok.at_ hjX]
  rw [hvi] at hst
  obtain ⟨u, hu⟩ : ∃ u, u = X[j].v := ⟨_, rfl⟩
  rw [← hu] at hst c13
  have h4 : St w0 (RowBy u s.L[j].b * (RefB b s (.slice (some ⟨g, o, none⟩) X.length c) * (RefL s.L (.slice (some ⟨g, o, none⟩) X.length c) X * (starL bytesP (X.eraseIdx j) * A)))) w2 := h3.ac (by rw [hst]; ac_rfl)
  obtain ⟨au, cu, hvu, _, hcu, hcm⟩ := h4.rowForm u
  rw [hvu] at c13 h4
  by_cases ho : (s.L[j].b.length : Int) ≤ off
  · have hn : readF s.L[j] off k = [] := by
      unfold readF
      rw [if_neg hk0, List.drop_eq_nil_of_le (by omega), List.take_nil]
    rw [hn]
    simp -dsimp -implicitDefEqProofs (disch := omega) only [go_sem, hk0, h3.cl b, c13, ho]
    exact ⟨.slice none 0 0, (shut h3).nilR _ _, rfl⟩
  have hlo : off < s.L[j].b.length := by omega
  have hrow : St w0 (Reads 1 (.slice au s.L[j].b.length cu) s.L[j].b.length (s.L[j].b.map bv)) w2 := h4.left.ent (RowO.reads _ _ _ _ _)
  have back : ∀ {w} {Y : HP}, St w0 (Y * (RowBy (.slice au s.L[j].b.length cu) s.L[j].b * (RefB b s (.slice (some ⟨g, o, none⟩) X.length c) * (RefL s.L (.slice (some ⟨g, o, none⟩) X.length c) X * (starL bytesP (X.eraseIdx j) * A))))) w → St w0 (Y * (RefP b s * A)) w := fun h => by
    have h := h.ac (show _ = RefB b s (.slice (some ⟨g, o, none⟩) X.length c) * (RefL s.L (.slice (some ⟨g, o, none⟩) X.length c) X * (starL bytesP X * (_ * A))) by rw [hst, ← hvu]; ac_rfl)
    exact (shut h).ac (by ac_rfl)
  simp -dsimp -implicitDefEqProofs (disch := omega) only [go_sem, hk0, h3.cl b, c13, ho]
  by_cases c1 : k < (s.L[j].b.length - off : Nat)
  · have hn : readF s.L[j] off k = (s.L[j].b.drop off).take k.toNat := by unfold readF; rw [if_neg hk0]
    have r := Reads.sub (s := 1) (n := s.L[j].b.length) (lo := off) (k := k.toNat) (c := cu) (a := au) (xs := s.L[j].b.map bv) (by omega)
    rw [Nat.mul_one, Nat.mul_one, ← List.map_drop, ← List.map_take] at r
    have hl : ((s.L[j].b.drop off).take k.toNat).length = k.toNat := by simp; omega
    rw [hn]
    simp -dsimp -implicitDefEqProofs (disch := omega) only [go_sem, c1]
    have h5 := h4.nilR 5 1
    refine h5.app (v := .slice none 0 0) (m := k.toNat) (news := ((s.L[j].b.drop off).take k.toNat).map bv) fact_rowTy_43 ((Ent.right _ _).trans ((Ent.left _ _).trans ((RowO.reads _ _ _ _ _).trans r))) Tryz.underlying43 (bytes_cells _) (fun hh => by have := congrArg List.length hh; rw [List.length_map, hl] at this; exact this) (by simp only [maxLen]; omega) (by omega) fun v2 w3 h6 => ?_
    simp -dsimp -implicitDefEqProofs (disch := omega) only [go_sem]
    refine ⟨v2, back ?_, rfl⟩
    rw [Nat.zero_add, List.nil_append] at h6
    show St w0 (RowO _ _ _ ((s.L[j].b.drop off).take k.toNat).length _ * _) w3
    rw [hl]
    exact h6
  · have hn : readF s.L[j] off k = s.L[j].b.drop off := by unfold readF; rw [if_neg hk0, List.take_of_length_le (by simp; omega)]
    have r := Reads.sub (s := 1) (n := s.L[j].b.length) (lo := off) (k := s.L[j].b.length - off) (c := cu) (a := au) (xs := s.L[j].b.map bv) (by omega)
    rw [Nat.mul_one, Nat.mul_one, ← List.map_drop, ← List.map_take, List.take_of_length_le (by simp)] at r
    have hl : (s.L[j].b.drop off).length = s.L[j].b.length - off := by simp
    rw [hn]
    simp -dsimp -implicitDefEqProofs (disch := omega) only [go_sem, c1]
    have h5 := h4.nilR 5 1
    refine h5.app (v := .slice none 0 0) (m := s.L[j].b.length - off) (news := (s.L[j].b.drop off).map bv) fact_rowTy_43 ((Ent.right _ _).trans ((Ent.left _ _).trans ((RowO.reads _ _ _ _ _).trans r))) Tryz.underlying43 (bytes_cells _) (fun hh => by have := congrArg List.length hh; rw [List.length_map, hl] at this; exact this) (by simp only [maxLen]; omega) (by omega) fun v2 w3 h6 => ?_
    simp -dsimp -implicitDefEqProofs (disch := omega) only [go_sem]
    refine ⟨v2, back ?_, rfl⟩
    rw [Nat.zero_add, List.nil_append] at h6
    show St w0 (RowO _ _ _ (s.L[j].b.drop off).length _ * _) w3
    rw [hl]
    exact h6
end
end
abbrev ptV (b : Nat) : Value := .pointer (some ⟨b, 0, none⟩)
abbrev wB (W b0 b1 r0 r1 : Nat) (v : Value) : HP := Blk W (.cells #[ptV b0, ptV b1, ptV r0, ptV r1, v] 66 (0, 0))
abbrev heldR (v : Value) (E : EL) : HP := RowO 43 1 v E.length (eV E)
def mkB (i : Nat) : UInt8 := UInt8.ofNat (1 + i / 2)
structure BkOk (E : EL) (Gs : GL) : Prop where
  e : EOk E Gs
  mark : ∀ i (hi : i < E.length), E[i].2.2 = mkB i
  few : E.length ≤ 64
  even : E.length % 2 = 0
def HeldP (W b0 b1 r0 r1 : Nat) : HP := HP.ex fun x : Value × EL × GL => HP.fact (BkOk x.2.1 x.2.2) (wB W b0 b1 r0 r1 x.1 * (heldR x.1 x.2.1 * grps x.2.2))
theorem HeldP.shut {W b0 b1 r0 r1 : Nat} {v : Value} {E : EL} {Gs : GL} (ok : BkOk E Gs) : Ent (wB W b0 b1 r0 r1 v * (heldR v E * grps Gs)) (HeldP W b0 b1 r0 r1) :=
  (Ent.fact (p := BkOk (v, E, Gs).2.1 (v, E, Gs).2.2) ok _).trans (Ent.ex (fun x : Value × EL × GL => HP.fact (BkOk x.2.1 x.2.2) (wB W b0 b1 r0 r1 x.1 * (heldR x.1 x.2.1 * grps x.2.2))) (v, E, Gs))
theorem St.heldO {w0 w : World} {A : HP} {W b0 b1 r0 r1 : Nat} (h : St w0 (HeldP W b0 b1 r0 r1 * A) w) : ∃ v E Gs, BkOk E Gs ∧ St w0 (wB W b0 b1 r0 r1 v * (heldR v E * (grps Gs * A))) w := by
  obtain ⟨⟨v, E, Gs⟩, h⟩ := h.exF
  obtain ⟨ok, h⟩ := h.factF
  have h : St w0 ((wB W b0 b1 r0 r1 v * (heldR v E * grps Gs)) * A) w := h
  exact ⟨v, E, Gs, ok, h.ac (by ac_rfl)⟩
theorem St.heldS {w0 w : World} {A : HP} {W b0 b1 r0 r1 : Nat} {v : Value} {E : EL} {Gs : GL} (ok : BkOk E Gs) (h : St w0 (wB W b0 b1 r0 r1 v * (heldR v E * (grps Gs * A))) w) : St w0 (HeldP W b0 b1 r0 r1 * A) w :=
  (h.ac (show _ = (wB W b0 b1 r0 r1 v * (heldR v E * grps Gs)) * A by ac_rfl)).ent (Ent.sep (HeldP.shut ok) (Ent.rfl' _))
theorem mk_nat {i : Nat} (h : i ≤ 100) : (mkB i).toNat = 1 + i / 2 := by
  unfold mkB
  rw [UInt8.toNat_ofNat']
  exact Nat.mod_eq_of_lt (by omega)
theorem mk_bv {i : Nat} (h : i ≤ 100) : bv (mkB i) = .int .u8 ((1 + i / 2 : Nat) : Int) := by
  show Value.int .u8 (((mkB i).toNat : Nat) : Int) = _
  rw [mk_nat h]
theorem quo2 (i : Nat) : (i : Int).tdiv 2 = ((i / 2 : Nat) : Int) := (Int.ofNat_tdiv i 2).symm
section
variable {w0 w : World} {A : HP} {W b0 b1 r0 r1 : Nat}
section
attribute [local go_sem] F20.t6_eq F20.t7_eq F20.t3_eq F20.t4_eq F20.t9_eq
theorem looks_any (h : St w0 (HeldP W b0 b1 r0 r1 * A) w) :
    Calls Tryz.prog 20 #[.pointer (some ⟨W, 0, none⟩)] w fun e w' => St w0 (HeldP W b0 b1 r0 r1 * A) w' ∧ e = .returned (.bool true) := by
  obtain ⟨v, E, Gs, ok, h⟩ := h.heldO
  have hfew := ok.few
  obtain ⟨a, c, rfl, _⟩ := h.rowForm v
  have hlen : (eV E).length = E.length := by simp
  refine F20.calls (by simp) ?_
  unfold F20.code
  simp -dsimp -implicitDefEqProofs (disch := omega) only [go_sem]
  refine loop_intro (fun e w' => St w0 (wB W b0 b1 r0 r1 (.slice a E.length c) * (heldR (.slice a E.length c) E * (grps Gs * A))) w' ∧ e.ds = [] ∧ e.ρ 0 = .pointer (some ⟨W, 0, none⟩) ∧ ∃ i : Nat, i ≤ E.length ∧ e.ρ 3 = .int .i64 i)
    (fun e _ => match e.ρ 3 with | .int _ n => (E.length - n).toNat | _ => 0) ?_ ?_
  · exact ⟨h, by simp -dsimp -implicitDefEqProofs only [go_sem], by simp -dsimp -implicitDefEqProofs only [go_sem], 0, by omega, by simp -dsimp -implicitDefEqProofs only [go_sem]⟩
  clear h
  rintro e w ⟨h, hd, e0, i, hi, e3⟩
  by_cases hlt : (i : Int) < E.length
  case neg =>
    simp -dsimp -implicitDefEqProofs (disch := omega) only [go_sem, hd, e0, e3, hlt, h.cl W]
    exact h.heldS ok
  have hiE : i < E.length := by omega
  obtain ⟨bl, ol, rfl, hl⟩ := h.at1 (a := a) (n := E.length) (c := c) (xs := eV E) (k := i) (by omega)
  simp only [eV, List.getElem_map] at hl
  obtain ⟨g, hg, hgm, hgx⟩ := ok.e.gr E[i] (List.getElem_mem hiE)
  obtain ⟨hxc, hxl⟩ := ok.e.ce E[i] (List.getElem_mem hiE)
  have hmk := ok.mark i hiE
  rcases hx : E[i] with ⟨xv, xn, xm⟩
  rw [hx] at hl hgm hgx hxc hxl hmk
  simp only at hl hgm hgx hxc hxl hmk
  subst hgm
  have hbv := mk_bv (i := i) (by omega)
  rw [← hmk] at hbv
  obtain ⟨_, ax, cx, rfl, _, _⟩ := (grp_reads (g := g) (v := xv) (n := xn) hg hgx h).cell1
  simp -dsimp -implicitDefEqProofs (disch := omega) only [go_sem, hd, e0, e3, hlt, hlen, h.cl W]
  refine loop_intro (fun e w' => St w0 (wB W b0 b1 r0 r1 (.slice (some ⟨bl, ol, none⟩) E.length c) * (heldR (.slice (some ⟨bl, ol, none⟩) E.length c) E * (grps Gs * A))) w' ∧ e.ds = [] ∧ e.ρ 0 = .pointer (some ⟨W, 0, none⟩) ∧ e.ρ 3 = .int .i64 i ∧ ∃ k : Nat, k ≤ xn ∧ e.ρ 4 = .int .i64 k)
    (fun e _ => match e.ρ 4 with | .int _ n => (xn - n).toNat | _ => 0) ?_ ?_
  · exact ⟨h, by simp -dsimp -implicitDefEqProofs only [go_sem, hd], by simp -dsimp -implicitDefEqProofs only [go_sem, e0], by simp -dsimp -implicitDefEqProofs only [go_sem, e3], 0, by omega, by simp -dsimp -implicitDefEqProofs only [go_sem]⟩
  have E3 := e3
  clear h hl hd e0 e3
  rintro e w ⟨h, hd, e0, e3, k, hk, e4⟩
  obtain ⟨_, _, hq, hl⟩ := h.at1 (a := some ⟨bl, ol, none⟩) (n := E.length) (c := c) (xs := eV E) (k := i) (by omega)
  simp only [Option.some.injEq, Addr.mk.injEq] at hq
  obtain ⟨rfl, rfl, _⟩ := hq
  simp only [eV, List.getElem_map, hx] at hl
  by_cases hkl : (k : Int) < xn
  · obtain ⟨_, ax', cx', hv, _, hcA⟩ := (grp_reads (g := g) (v := .slice ax xn cx) (n := xn) hg hgx h).cell1
    simp only [Value.slice.injEq, true_and] at hv
    obtain ⟨rfl, rfl⟩ := hv
    obtain ⟨bx, ox, rfl, hc⟩ := hcA k (by simp only [List.length_replicate]; omega)
    simp only [List.getElem_replicate] at hc
    rw [hbv] at hc
    simp -dsimp -implicitDefEqProofs (disch := omega) only [go_sem, hd, e0, e3, e4, hkl, hlt, h.cl W, hl, hc, quo2]
    exact ⟨⟨h, k + 1, by omega, by omega⟩, by omega⟩
  · simp -dsimp -implicitDefEqProofs (disch := omega) only [go_sem, hd, e0, e3, e4, hkl, hlt, h.cl W, hl, E3]
    exact ⟨⟨h, i + 1, by omega, by omega⟩, by omega⟩
end
end
theorem fill_set {α : Type} (m : α) {xs : List α} {k : Nat} (h : k < xs.length) : (List.replicate k m ++ xs.drop k).set k m = List.replicate (k + 1) m ++ xs.drop (k + 1) := by
  refine List.ext_getElem? fun j => ?_
  rw [List.getElem?_set, List.getElem?_append, List.getElem?_append]
  simp only [List.length_append, List.length_replicate, List.length_drop, List.getElem?_replicate, List.getElem?_drop]
  by_cases h1 : k = j
  · subst h1
    rw [if_pos rfl, if_pos (by omega), if_pos (by omega), if_pos (by omega)]
  · rw [if_neg h1]
    by_cases h2 : j < k
    · rw [if_pos h2, if_pos h2, if_pos (by omega), if_pos (by omega)]
    · rw [if_neg h2, if_neg (by omega)]
      congr 1
      omega
def mrk (j : Nat) : UInt8 := UInt8.ofNat (1 + j)
theorem mrk_bv {j : Nat} (h : j ≤ 100) : bv (mrk j) = .int .u8 ((1 + j : Nat) : Int) := by
  show Value.int .u8 (((mrk j).toNat : Nat) : Int) = _
  unfold mrk
  rw [UInt8.toNat_ofNat', Nat.mod_eq_of_lt (by omega)]
section
variable {w0 w : World} {A : HP} {W b0 b1 r0 r1 : Nat}
section
attribute [local go_sem] F86.t8_eq F86.t9_eq F86.t5_eq F86.t16_eq F86.t17_eq F86.t18_eq F86.t12_eq F86.t13_eq F86.t10_eq F86.t2_eq
theorem own_t6 {gl ol cl f i n : Nat} {L : List Value} {vi : Value} {xs : List Value} {e : FA} {Q : Post} (hf : f ≤ 40) (hn : n ≤ 1000000) (hL : L.length = 2) (hi : i < L.length) (hv : L[i] = vi)
    [Gives A (Reads 1 (.slice (some ⟨gl, ol, none⟩) 2 cl) 2 L)] (hd : e.ds = []) (e0 : e.ρ 0 = .pointer (some ⟨W, 0, none⟩)) (e1 : e.ρ 1 = .slice (some ⟨gl, ol, none⟩) 2 cl) (e4 : e.ρ 4 = .int .i64 f) (e5 : e.ρ 5 = .int .i64 i)
    (h : St w0 (RowO 5 1 vi n xs * A) w)
    (hQ : ∀ e' w', e'.ds = [] → e'.ρ 0 = .pointer (some ⟨W, 0, none⟩) → e'.ρ 1 = .slice (some ⟨gl, ol, none⟩) 2 cl → e'.ρ 4 = .int .i64 f → e'.ρ 5 = .int .i64 ((i : Int) + 1) → St w0 (RowO 5 1 vi n (List.replicate n (bv (mrk (f + i)))) * A) w' → Q .normal e' w') :
    cwE Tryz.prog F86.t6 Q e w := by
  rw [F86.t6_eq]
  obtain ⟨au, cu, rfl, hxl, _⟩ := h.rowForm vi
  rw [Nat.mul_one] at hxl
  have hm := mrk_bv (j := f + i) (by omega)
  have h0 : St w0 (RowO 5 1 (.slice au n cu) n (List.replicate 0 (bv (mrk (f + i))) ++ xs.drop 0) * A) w := h
  simp -dsimp -implicitDefEqProofs (disch := omega) only [go_sem, hd, e0, e1, e4, e5]
  refine loop_intro (fun e w' => e.ds = [] ∧ e.ρ 0 = .pointer (some ⟨W, 0, none⟩) ∧ e.ρ 1 = .slice (some ⟨gl, ol, none⟩) 2 cl ∧ e.ρ 4 = .int .i64 f ∧ e.ρ 5 = .int .i64 i ∧ ∃ k : Nat, k ≤ n ∧ e.ρ 6 = .int .i64 k ∧ St w0 (RowO 5 1 (.slice au n cu) n (List.replicate k (bv (mrk (f + i))) ++ xs.drop k) * A) w')
    (fun e _ => match e.ρ 6 with | .int _ x => (n - x).toNat | _ => 0) ?_ ?_
  · exact ⟨by simp -dsimp -implicitDefEqProofs only [go_sem, hd], by simp -dsimp -implicitDefEqProofs only [go_sem, e0], by simp -dsimp -implicitDefEqProofs only [go_sem, e1], by simp -dsimp -implicitDefEqProofs only [go_sem, e4], by simp -dsimp -implicitDefEqProofs only [go_sem, e5], 0, by omega, by simp -dsimp -implicitDefEqProofs only [go_sem], h0⟩
  clear h h0 hd e0 e1 e4 e5
  rintro e w ⟨hd, e0, e1, e4, e5, k, hk, e6, h⟩
  obtain ⟨_, _, hq, hcl⟩ := h.right.at1 (a := some ⟨gl, ol, none⟩) (n := 2) (c := cl) (xs := L) (k := i) hi
  simp only [Option.some.injEq, Addr.mk.injEq] at hq
  obtain ⟨rfl, rfl, _⟩ := hq
  rw [hv] at hcl
  have hi2 : (i : Int) < 2 := by omega
  by_cases hlt : (k : Int) < n
  case neg =>
    have : k = n := by omega
    subst this
    rw [List.drop_eq_nil_of_le (by omega), List.append_nil] at h
    simp -dsimp -implicitDefEqProofs (disch := omega) only [go_sem, hd, e0, e1, e4, e5, e6, hlt, hcl]
    exact hQ _ _ (by simp -dsimp -implicitDefEqProofs only [go_sem, hd]) (by simp -dsimp -implicitDefEqProofs only [go_sem, e0]) (by simp -dsimp -implicitDefEqProofs only [go_sem, e1]) (by simp -dsimp -implicitDefEqProofs only [go_sem, e4]) (by simp -dsimp -implicitDefEqProofs only [go_sem, e5]) h
  have hkn : k < n := by omega
  obtain ⟨gu, qu, rfl, _⟩ := (h.left.ent (RowO.reads _ _ _ _ _)).atS (a := au) (n := n) (c := cu) (xs := List.replicate k (bv (mrk (f + i))) ++ xs.drop k) (k := k) (by simp; omega)
  simp -dsimp -implicitDefEqProofs (disch := omega) only [go_sem, hd, e0, e1, e4, e5, e6, hlt, hcl]
  rw [show (Value.int .u8 (1 + (f : Int) + (i : Int))) = bv (mrk (f + i)) by rw [hm]; congr 1; omega]
  refine h.rowSet1 (g := gu) (o := qu) (n := n) (c := cu) (k := k) (v := bv (mrk (f + i))) (by simp; omega) rfl fun w2 h2 => ?_
  rw [fill_set _ (by omega)] at h2
  simp -dsimp -implicitDefEqProofs (disch := omega) only [go_sem, hd, e0, e1, e4, e5, e6]
  exact ⟨⟨k + 1, by omega, by omega, h2⟩, by omega⟩
theorem grps_new {w0 w : World} {F : HP} {v : Value} {n : Nat} {m : UInt8} {Gs : GL} (h : St w0 (RowO 5 1 v n (List.replicate n (bv m)) * (grps Gs * F)) w) : St w0 (grps ((m, [(v, n)]) :: Gs) * F) w := by
  have h1 : St w0 ((GroupP 5 (bv m) [(v, n)] * grps Gs) * F) w := (h.ent (Ent.sep (GroupP.one _ _ _ _) (Ent.rfl' _))).ac (sep_assoc _ _ _).symm
  exact h1
theorem GLe.cons {Gs : GL} (g : UInt8 × List (Value × Nat)) : GLe Gs (g :: Gs) := fun y hy => ⟨y, List.mem_cons_of_mem _ hy, rfl, fun _ h => h⟩
theorem GLe.trans {A B C : GL} (h1 : GLe A B) (h2 : GLe B C) : GLe A C := fun y hy => by
  obtain ⟨y1, a1, a2, a3⟩ := h1 y hy
  obtain ⟨y2, c1, c2, c3⟩ := h2 y1 a1
  exact ⟨y2, c1, c2.trans a2, fun p hp => c3 p (a3 p hp)⟩
end
section
attribute [local go_sem] F86.t8_eq F86.t9_eq F86.t5_eq F86.t6_eq F86.t16_eq F86.t17_eq F86.t18_eq F86.t12_eq F86.t10_eq F86.t2_eq
theorem own_t13 {gl ol cl f i n : Nat} {L : List Value} {vi vh : Value} {E : EL} {Gs : GL} {e : FA} {Q : Post} (ok : EOk E Gs) (hf : f ≤ 40) (hn : n ≤ 1000000) (hE : E.length ≤ 1000) (hL : L.length = 2) (hi : i < L.length) (hv : L[i] = vi)
    [Gives A (Reads 1 (.slice (some ⟨gl, ol, none⟩) 2 cl) 2 L)] (hd : e.ds = []) (e0 : e.ρ 0 = .pointer (some ⟨W, 0, none⟩)) (e1 : e.ρ 1 = .slice (some ⟨gl, ol, none⟩) 2 cl) (e4 : e.ρ 4 = .int .i64 f) (e7 : e.ρ 7 = .int .i64 i)
    (h : St w0 (wB W b0 b1 r0 r1 vh * (heldR vh E * (grps Gs * (RowO 5 1 vi n (List.replicate n (bv (mrk (f + i)))) * A)))) w)
    (hQ : ∀ e' w' vh' vj Gs', EOk (E ++ [(vi, n, mrk (f + i)), (vj, n + 64, mrk (f + i))]) Gs' → e'.ds = [] → e'.ρ 0 = .pointer (some ⟨W, 0, none⟩) → e'.ρ 1 = .slice (some ⟨gl, ol, none⟩) 2 cl → e'.ρ 4 = .int .i64 f → e'.ρ 7 = .int .i64 ((i : Int) + 1) →
      St w0 (wB W b0 b1 r0 r1 vh' * (heldR vh' (E ++ [(vi, n, mrk (f + i)), (vj, n + 64, mrk (f + i))]) * (grps Gs' * A))) w' → Q .normal e' w') :
    cwE Tryz.prog F86.t13 Q e w := by
  rw [F86.t13_eq]
  have hm := mrk_bv (j := f + i) (by omega)
  have hi2 : (i : Int) < 2 := by omega
  obtain ⟨m, hmm⟩ : ∃ m, m = mrk (f + i) := ⟨_, rfl⟩
  rw [← hmm] at hm h hQ
  obtain ⟨_, _, hq, hcl⟩ := h.right.right.right.right.at1 (a := some ⟨gl, ol, none⟩) (n := 2) (c := cl) (xs := L) (k := i) hi
  simp only [Option.some.injEq, Addr.mk.injEq] at hq
  obtain ⟨rfl, rfl, _⟩ := hq
  rw [hv] at hcl
  have h1 := grps_new (h.ac (show _ = RowO 5 1 vi n (List.replicate n (bv m)) * (grps Gs * (wB W b0 b1 r0 r1 vh * (heldR vh E * A))) by ac_rfl))
  have ok1 : EOk E ((m, [(vi, n)]) :: Gs) := ok.mono (GLe.cons _)
  obtain ⟨au, cu, rfl, _⟩ := h.right.right.right.rowForm vi
  simp -dsimp -implicitDefEqProofs (disch := omega) only [go_sem, hd, e0, e1, e4, e7, hcl]
  refine loop_intro (fun e w' => e.ds = [] ∧ e.ρ 0 = .pointer (some ⟨W, 0, none⟩) ∧ e.ρ 1 = .slice (some ⟨gl, ol, none⟩) 2 cl ∧ e.ρ 4 = .int .i64 f ∧ e.ρ 7 = .int .i64 i ∧ ∃ (k : Nat) (vj : Value) (Gs' : GL), k ≤ 64 ∧ e.ρ 9 = .int .i64 k ∧ e.ρ 8 = vj ∧ GLe ((m, [(.slice au n cu, n)]) :: Gs) Gs' ∧ (∃ g ∈ Gs', g.1 = m ∧ (vj, n + k) ∈ g.2) ∧ St w0 (grps Gs' * (wB W b0 b1 r0 r1 vh * (heldR vh E * A))) w')
    (fun e _ => match e.ρ 9 with | .int _ x => (64 - x).toNat | _ => 0) ?_ ?_
  · exact ⟨by simp -dsimp -implicitDefEqProofs only [go_sem, hd], by simp -dsimp -implicitDefEqProofs only [go_sem, e0], by simp -dsimp -implicitDefEqProofs only [go_sem, e1], by simp -dsimp -implicitDefEqProofs only [go_sem, e4], by simp -dsimp -implicitDefEqProofs only [go_sem, e7], 0, _, _, by omega, by simp -dsimp -implicitDefEqProofs only [go_sem], by simp -dsimp -implicitDefEqProofs only [go_sem], GLe.rfl' _, ⟨_, List.mem_cons_self, rfl, List.mem_cons_self⟩, h1⟩
  clear h h1 hd e0 e1 e4 hcl
  have E7 := e7
  clear e7
  rintro e w ⟨hd, e0, e1, e4, e7, k, vj, Gs', hk, e9, e8, hle, ⟨g, hg, hgm, hgx⟩, h⟩
  by_cases hlt : (k : Int) < 64
  · subst hgm
    simp -dsimp -implicitDefEqProofs (disch := omega) only [go_sem, hd, e0, e1, e4, e7, e8, e9, hlt]
    rw [show (Value.int .u8 (1 + (f : Int) + (i : Int))) = bv g.1 by rw [hm]; congr 1; omega]
    refine h.lit (t := 43) (n := 1) (cells := [bv g.1]) fact_rowTy_43 rfl (by decide) (by decide) fun v3 w3 h3 => ?_
    simp -dsimp -implicitDefEqProofs (disch := omega) only [go_sem, hd, e0, e1, e4, e7, e8, e9]
    refine h3.appMarkG (g := g) (v := vj) (n := n + k) hg hgx fact_rowTy_43 ((Ent.left _ _).trans (RowO.reads _ _ _ _ _)) Tryz.underlying43 (by simp only [maxLen]; omega) (by omega) fun v4 w4 Gs4 hG hg4 hc4 h4 => ?_
    obtain ⟨a4, c4, rfl⟩ := hc4
    simp -dsimp -implicitDefEqProofs (disch := omega) only [go_sem, hd, e0, e1, e4, e7, e8, e9]
    exact ⟨⟨k + 1, .slice a4 (n + k + 1) c4, Gs4, by omega, by omega, rfl, hle.trans hG, hg4, h4.sub⟩, by omega⟩
  · have : k = 64 := by omega
    subst this
    obtain ⟨av, cv, rfl, _⟩ := h.rowForm vh
    obtain ⟨_, aj, cj, rfl, _, _⟩ := (grp_reads hg hgx h).cell1
    have tab : ∀ {w : World}, St w0 A w → w.cell? ⟨gl, ol + i, none⟩ = some (.slice au n cu) := fun h => by
      obtain ⟨_, _, hq, hcl⟩ := h.at1 (a := some ⟨gl, ol, none⟩) (n := 2) (c := cl) (xs := L) (k := i) hi
      simp only [Option.some.injEq, Addr.mk.injEq] at hq
      obtain ⟨rfl, rfl, _⟩ := hq
      rw [hv] at hcl
      exact hcl
    have hD := h.drew
    simp -dsimp -implicitDefEqProofs (disch := omega) only [go_sem, hd, e0, e1, e4, e7, e8, e9, hlt, h.cl W, hD.cl W, tab h.right.right.right, tab hD.right.right.right]
    refine hD.lit (t := 64) (n := 2) (cells := [.slice au n cu, .slice aj (n + 64) cj]) fact_rowTy_64 rfl (by decide) (by decide) fun v5 w5 h5 => ?_
    simp -dsimp -implicitDefEqProofs (disch := omega) only [go_sem, hd, e0, e1, e4, e7, e8, e9, h5.cl W, tab h5.right.right.right.right]
    refine h5.appR (v := .slice av E.length cv) (x := v5) fact_rowTy_64 Tryz.underlying64 (by intro u hu; simp only [List.mem_cons, List.not_mem_nil, or_false] at hu; rcases hu with rfl | rfl <;> rfl) (by simp) (by simp only [maxLen]; omega) (by omega) fun v6 w6 h6 => ?_
    obtain ⟨a6, c6, rfl, _⟩ := h6.rowForm v6
    simp -dsimp -implicitDefEqProofs (disch := omega) only [go_sem, hd, e0, e1, e4, e7, e8, e9, h6.cl W, tab h6.right.right.right.right]
    refine h6.sto (b := W) (off := 4) (by simp) rfl fun w7 h7 => ?_
    simp only [List.setIfInBounds_toArray, List.set_cons_succ, List.set_cons_zero] at h7
    simp -dsimp -implicitDefEqProofs (disch := omega) only [go_sem, hd, e0, e1, e4, e7, e8, e9]
    obtain ⟨g0, hg0, hgm0, hgx0⟩ := hle _ List.mem_cons_self
    have ok2 : EOk (E ++ [(.slice au n cu, n, m), (.slice aj (n + 64) cj, n + 64, m)]) Gs' := by
      have o1 := (ok1.mono hle).snoc (v := .slice au n cu) (n := n) (m := m) ⟨g0, hg0, hgm0, hgx0 _ List.mem_cons_self⟩ rfl (by omega)
      have o2 := o1.snoc (v := .slice aj (n + 64) cj) (n := n + 64) (m := m) ⟨g, hg, hgm, hgx⟩ rfl (by omega)
      rwa [List.append_assoc] at o2
    refine hQ _ _ (.slice a6 (E.length + 2) c6) (.slice aj (n + 64) cj) Gs' ok2 (by simp -dsimp -implicitDefEqProofs only [go_sem, hd]) (by simp -dsimp -implicitDefEqProofs only [go_sem, e0]) (by simp -dsimp -implicitDefEqProofs only [go_sem, e1]) (by simp -dsimp -implicitDefEqProofs only [go_sem, e4]) (by simp -dsimp -implicitDefEqProofs only [go_sem, e7]) ?_
    have e1 : heldR (.slice a6 (E.length + 2) c6) (E ++ [(.slice au n cu, n, m), (.slice aj (n + 64) cj, n + 64, m)]) = RowO 43 1 (.slice a6 (E.length + 2) c6) (E.length + 2) (eV E ++ [.slice au n cu, .slice aj (n + 64) cj]) := by
      unfold heldR eV
      rw [List.length_append, List.map_append]; rfl
    rw [e1]
    exact h7.right.ac (by unfold wB; ac_rfl)
end
end
theorem mkB_mrk {i j f : Nat} (h : i = 2 * (f + j) ∨ i = 2 * (f + j) + 1) : mkB i = mrk (f + j) := by
  unfold mkB mrk
  rw [show i / 2 = f + j by omega]
theorem mark_snoc {E : EL} {f j : Nat} {v1 v2 : Value} {n1 n2 : Nat} (hl : E.length = 2 * (f + j)) (hm : ∀ i (hi : i < E.length), E[i].2.2 = mkB i) :
    ∀ i (hi : i < (E ++ [(v1, n1, mrk (f + j)), (v2, n2, mrk (f + j))]).length), (E ++ [(v1, n1, mrk (f + j)), (v2, n2, mrk (f + j))])[i].2.2 = mkB i := by
  intro i hi
  simp only [List.length_append, List.length_cons, List.length_nil] at hi
  by_cases h1 : i < E.length
  · rw [List.getElem_append_left h1]; exact hm i h1
  · rw [List.getElem_append_right (by omega)]
    rcases (by omega : i = E.length ∨ i = E.length + 1) with rfl | rfl
    · simp only [Nat.sub_self, List.getElem_cons_zero]
      exact (mkB_mrk (by omega)).symm
    · simp only [Nat.add_sub_cancel_left, List.getElem_cons_succ, List.getElem_cons_zero]
      exact (mkB_mrk (by omega)).symm
section
variable {w0 w : World} {A : HP} {W b0 b1 r0 r1 : Nat}
def restR (va vb : Value) (na nb : Nat) (xa xb : List Value) : Nat → HP
  | 0 => RowO 5 1 va na xa * RowO 5 1 vb nb xb
  | 1 => RowO 5 1 vb nb xb
  | _ => EmpH
theorem restR_0 {va vb : Value} {na nb : Nat} {xa xb : List Value} : restR va vb na nb xa xb 0 = RowO 5 1 va na xa * RowO 5 1 vb nb xb := rfl
theorem restR_1 {va vb : Value} {na nb : Nat} {xa xb : List Value} : restR va vb na nb xa xb 1 = RowO 5 1 vb nb xb := rfl
section
attribute [local go_sem] F86.t8_eq F86.t9_eq F86.t5_eq F86.t16_eq F86.t17_eq F86.t18_eq F86.t12_eq
theorem own_t10 {gl ol cl f na nb : Nat} {va vb vh : Value} {E : EL} {Gs : GL} {e : FA} (ok : BkOk E Gs) (hE : E.length = 2 * f) (hf : f ≤ 30) (hna : na ≤ 1000000) (hnb : nb ≤ 1000000)
    [Gives A (Reads 1 (.slice (some ⟨gl, ol, none⟩) 2 cl) 2 [va, vb])] (hd : e.ds = []) (e0 : e.ρ 0 = .pointer (some ⟨W, 0, none⟩)) (e1 : e.ρ 1 = .slice (some ⟨gl, ol, none⟩) 2 cl) (e4 : e.ρ 4 = .int .i64 f)
    (h : St w0 (wB W b0 b1 r0 r1 vh * (heldR vh E * (grps Gs * (RowO 5 1 va na (List.replicate na (bv (mrk f))) * (RowO 5 1 vb nb (List.replicate nb (bv (mrk (f + 1)))) * A))))) w) :
    cwE Tryz.prog F86.t10 (fnP Tryz.prog #[] fun e w' => St w0 (HeldP W b0 b1 r0 r1 * A) w' ∧ e = .returned (.tuple #[])) e w := by
  rw [F86.t10_eq]
  have hfew := ok.few
  have h0 : St w0 (wB W b0 b1 r0 r1 vh * (heldR vh E * (grps Gs * (restR va vb na nb (List.replicate na (bv (mrk f))) (List.replicate nb (bv (mrk (f + 1)))) 0 * A)))) w := h.ac (by rw [restR_0]; ac_rfl)
  simp -dsimp -implicitDefEqProofs (disch := omega) only [go_sem, hd, e0, e1, e4]
  refine loop_intro (fun e w' => e.ds = [] ∧ e.ρ 0 = .pointer (some ⟨W, 0, none⟩) ∧ e.ρ 1 = .slice (some ⟨gl, ol, none⟩) 2 cl ∧ e.ρ 4 = .int .i64 f ∧ ∃ (i : Nat) (vh : Value) (E' : EL) (Gs' : GL), i ≤ 2 ∧ e.ρ 7 = .int .i64 i ∧ EOk E' Gs' ∧ E'.length = 2 * (f + i) ∧ (∀ j (hj : j < E'.length), E'[j].2.2 = mkB j) ∧
      St w0 (wB W b0 b1 r0 r1 vh * (heldR vh E' * (grps Gs' * (restR va vb na nb (List.replicate na (bv (mrk f))) (List.replicate nb (bv (mrk (f + 1)))) i * A)))) w')
    (fun e _ => match e.ρ 7 with | .int _ x => (2 - x).toNat | _ => 0) ?_ ?_
  · exact ⟨by simp -dsimp -implicitDefEqProofs only [go_sem, hd], by simp -dsimp -implicitDefEqProofs only [go_sem, e0], by simp -dsimp -implicitDefEqProofs only [go_sem, e1], by simp -dsimp -implicitDefEqProofs only [go_sem, e4], 0, vh, E, Gs, by omega, by simp -dsimp -implicitDefEqProofs only [go_sem], ok.e, by omega, ok.mark, h0⟩
  clear h h0 hd e0 e1 e4
  rintro e w ⟨hd, e0, e1, e4, i, vh, E', Gs', hi, e7, okE, hl, hmk, h⟩
  by_cases hlt : (i : Int) < 2
  case neg =>
    have : i = 2 := by omega
    subst this
    simp -dsimp -implicitDefEqProofs (disch := omega) only [go_sem, hd, e0, e1, e4, e7, hlt]
    exact St.heldS (E := E') (Gs := Gs') ⟨okE, hmk, by omega, by omega⟩ (h.ent (Ent.sep (Ent.rfl' _) (Ent.sep (Ent.rfl' _) (Ent.sep (Ent.rfl' _) (Ent.right _ _)))))
  simp -dsimp -implicitDefEqProofs (disch := omega) only [go_sem, hd, e0, e1, e4, e7, hlt]
  rcases (by omega : i = 0 ∨ i = 1) with rfl | rfl
  · have h1 : St w0 (wB W b0 b1 r0 r1 vh * (heldR vh E' * (grps Gs' * (RowO 5 1 va na (List.replicate na (bv (mrk (f + 0)))) * (restR va vb na nb (List.replicate na (bv (mrk f))) (List.replicate nb (bv (mrk (f + 1)))) 1 * A))))) w := h.ac (by rw [restR_0, restR_1]; ac_rfl)
    refine own_t13 (gl := gl) (ol := ol) (cl := cl) (i := 0) (L := [va, vb]) okE (by omega) hna (by omega) rfl (by simp) rfl (by simp -dsimp -implicitDefEqProofs only [go_sem, hd]) (by simp -dsimp -implicitDefEqProofs only [go_sem, e0]) (by simp -dsimp -implicitDefEqProofs only [go_sem, e1]) (by simp -dsimp -implicitDefEqProofs only [go_sem, e4]) (by simp -dsimp -implicitDefEqProofs only [go_sem, e7]) h1 ?_
    intro e' w' vh' vj Gs2 ok2 hd' e0' e1' e4' e7' h2
    simp -dsimp -implicitDefEqProofs (disch := omega) only [go_sem]
    exact ⟨⟨hd', e0', e1', e4', 1, vh', _, Gs2, by omega, e7', ok2, by simp; omega, mark_snoc hl hmk, h2⟩, by rw [e7', e7]; decide⟩
  · have h1 : St w0 (wB W b0 b1 r0 r1 vh * (heldR vh E' * (grps Gs' * (RowO 5 1 vb nb (List.replicate nb (bv (mrk (f + 1)))) * A)))) w := h
    refine own_t13 (gl := gl) (ol := ol) (cl := cl) (i := 1) (L := [va, vb]) okE (by omega) hnb (by omega) rfl (by simp) rfl (by simp -dsimp -implicitDefEqProofs only [go_sem, hd]) (by simp -dsimp -implicitDefEqProofs only [go_sem, e0]) (by simp -dsimp -implicitDefEqProofs only [go_sem, e1]) (by simp -dsimp -implicitDefEqProofs only [go_sem, e4]) (by simp -dsimp -implicitDefEqProofs only [go_sem, e7]) h1 ?_
    intro e' w' vh' vj Gs2 ok2 hd' e0' e1' e4' e7' h2
    simp -dsimp -implicitDefEqProofs (disch := omega) only [go_sem]
    refine ⟨⟨hd', e0', e1', e4', 2, vh', _, Gs2, by omega, e7', ok2, by simp; omega, mark_snoc hl hmk, ?_⟩, by rw [e7', e7]; decide⟩
    exact (h2.ent (Ent.sep (Ent.rfl' _) (Ent.sep (Ent.rfl' _) (Ent.sep (Ent.rfl' _) (Ent.embL _)))))
end
section
attribute [local go_sem] F86.t8_eq F86.t9_eq F86.t5_eq F86.t16_eq F86.t17_eq F86.t18_eq F86.t12_eq
theorem own_t2 {gl ol cl f na nb : Nat} {va vb vh : Value} {xa xb : List Value} {E : EL} {Gs : GL} {e : FA} (ok : BkOk E Gs) (hE : E.length = 2 * f) (hf : f ≤ 30) (hna : na ≤ 1000000) (hnb : nb ≤ 1000000)
    [Gives A (Reads 1 (.slice (some ⟨gl, ol, none⟩) 2 cl) 2 [va, vb])] (hd : e.ds = []) (e0 : e.ρ 0 = .pointer (some ⟨W, 0, none⟩)) (e1 : e.ρ 1 = .slice (some ⟨gl, ol, none⟩) 2 cl)
    (h : St w0 (wB W b0 b1 r0 r1 vh * (heldR vh E * (grps Gs * (RowO 5 1 va na xa * (RowO 5 1 vb nb xb * A))))) w) :
    cwE Tryz.prog F86.t2 (fnP Tryz.prog #[] fun e w' => St w0 (HeldP W b0 b1 r0 r1 * A) w' ∧ e = .returned (.tuple #[])) e w := by
  rw [F86.t2_eq]
  have hfew := ok.few
  obtain ⟨ah, ch, rfl, _⟩ := h.rowForm vh
  have hq : (E.length : Int).tdiv 2 = f := by rw [quo2]; omega
  simp -dsimp -implicitDefEqProofs (disch := omega) only [go_sem, hd, e0, e1, h.cl W, hq]
  refine loop_intro (fun e w' => e.ds = [] ∧ e.ρ 0 = .pointer (some ⟨W, 0, none⟩) ∧ e.ρ 1 = .slice (some ⟨gl, ol, none⟩) 2 cl ∧ e.ρ 4 = .int .i64 f ∧ ∃ (i : Nat), i ≤ 2 ∧ e.ρ 5 = .int .i64 i ∧
      St w0 (wB W b0 b1 r0 r1 (.slice ah E.length ch) * (heldR (.slice ah E.length ch) E * (grps Gs * (RowO 5 1 va na (if 0 < i then List.replicate na (bv (mrk f)) else xa) * (RowO 5 1 vb nb (if 1 < i then List.replicate nb (bv (mrk (f + 1))) else xb) * A))))) w')
    (fun e _ => match e.ρ 5 with | .int _ x => (2 - x).toNat | _ => 0) ?_ ?_
  · exact ⟨by simp -dsimp -implicitDefEqProofs only [go_sem, hd], by simp -dsimp -implicitDefEqProofs only [go_sem, e0], by simp -dsimp -implicitDefEqProofs only [go_sem, e1], by simp -dsimp -implicitDefEqProofs only [go_sem], 0, by omega, by simp -dsimp -implicitDefEqProofs only [go_sem], h⟩
  clear h hd e0 e1
  rintro e w ⟨hd, e0, e1, e4, i, hi, e5, h⟩
  by_cases hlt : (i : Int) < 2
  case neg =>
    have : i = 2 := by omega
    subst this
    simp -dsimp -implicitDefEqProofs (disch := omega) only [go_sem, hd, e0, e1, e4, e5, hlt]
    exact own_t10 (gl := gl) (ol := ol) (cl := cl) ok hE hf hna hnb (by simp -dsimp -implicitDefEqProofs only [go_sem, hd]) (by simp -dsimp -implicitDefEqProofs only [go_sem, e0]) (by simp -dsimp -implicitDefEqProofs only [go_sem, e1]) (by simp -dsimp -implicitDefEqProofs only [go_sem, e4]) h
  simp -dsimp -implicitDefEqProofs (disch := omega) only [go_sem, hd, e0, e1, e4, e5, hlt]
  rcases (by omega : i = 0 ∨ i = 1) with rfl | rfl
  · have h1 : St w0 (RowO 5 1 va na xa * (wB W b0 b1 r0 r1 (.slice ah E.length ch) * (heldR (.slice ah E.length ch) E * (grps Gs * (RowO 5 1 vb nb xb * A))))) w := h.ac (by show _ * (_ * (_ * (RowO 5 1 va na xa * (RowO 5 1 vb nb xb * A)))) = _; ac_rfl)
    refine own_t6 (W := W) (vi := va) (gl := gl) (ol := ol) (cl := cl) (i := 0) (L := [va, vb]) (f := f) (by omega) hna rfl (by simp) rfl (by simp -dsimp -implicitDefEqProofs only [go_sem, hd]) (by simp -dsimp -implicitDefEqProofs only [go_sem, e0]) (by simp -dsimp -implicitDefEqProofs only [go_sem, e1]) (by simp -dsimp -implicitDefEqProofs only [go_sem, e4]) (by simp -dsimp -implicitDefEqProofs only [go_sem, e5]) h1 ?_
    intro e' w' hd' e0' e1' e4' e5' h2
    simp -dsimp -implicitDefEqProofs (disch := omega) only [go_sem]
    refine ⟨⟨hd', e0', e1', e4', 1, by omega, e5', ?_⟩, by rw [e5', e5]; decide⟩
    exact h2.ac (by show _ = _ * (_ * (_ * (RowO 5 1 va na (List.replicate na (bv (mrk f))) * (RowO 5 1 vb nb xb * A)))); ac_rfl)
  · have h1 : St w0 (RowO 5 1 vb nb xb * (wB W b0 b1 r0 r1 (.slice ah E.length ch) * (heldR (.slice ah E.length ch) E * (grps Gs * (RowO 5 1 va na (List.replicate na (bv (mrk f))) * A))))) w := h.ac (by show _ * (_ * (_ * (RowO 5 1 va na (List.replicate na (bv (mrk f))) * (RowO 5 1 vb nb xb * A)))) = _; ac_rfl)
    refine own_t6 (W := W) (vi := vb) (gl := gl) (ol := ol) (cl := cl) (i := 1) (L := [va, vb]) (f := f) (by omega) hnb rfl (by simp) rfl (by simp -dsimp -implicitDefEqProofs only [go_sem, hd]) (by simp -dsimp -implicitDefEqProofs only [go_sem, e0]) (by simp -dsimp -implicitDefEqProofs only [go_sem, e1]) (by simp -dsimp -implicitDefEqProofs only [go_sem, e4]) (by simp -dsimp -implicitDefEqProofs only [go_sem, e5]) h1 ?_
    intro e' w' hd' e0' e1' e4' e5' h2
    simp -dsimp -implicitDefEqProofs (disch := omega) only [go_sem]
    refine ⟨⟨hd', e0', e1', e4', 2, by omega, e5', ?_⟩, by rw [e5', e5]; decide⟩
    exact h2.ac (by show _ = _ * (_ * (_ * (RowO 5 1 va na (List.replicate na (bv (mrk f))) * (RowO 5 1 vb nb (List.replicate nb (bv (mrk (f + 1)))) * A)))); ac_rfl)
end
section
attribute [local go_sem] F86.t8_eq F86.t9_eq F86.t5_eq F86.t16_eq F86.t17_eq F86.t18_eq F86.t12_eq
theorem own_any {gl ol cl na nb : Nat} {va vb : Value} {xa xb : List Value} (hna : na ≤ 1000000) (hnb : nb ≤ 1000000) [Gives A (Reads 1 (.slice (some ⟨gl, ol, none⟩) 2 cl) 2 [va, vb])]
    (h : St w0 (HeldP W b0 b1 r0 r1 * (RowO 5 1 va na xa * (RowO 5 1 vb nb xb * A))) w) :
    Calls Tryz.prog 86 #[.pointer (some ⟨W, 0, none⟩), .slice (some ⟨gl, ol, none⟩) 2 cl] w fun e w' => St w0 (HeldP W b0 b1 r0 r1 * A) w' ∧ e = .returned (.tuple #[]) := by
  obtain ⟨v, E, Gs, ok, h⟩ := h.heldO
  have hfew := ok.few
  have hev := ok.even
  obtain ⟨a, c, rfl, _⟩ := h.rowForm v
  refine F86.calls (by simp) ?_
  unfold F86.code
  by_cases hbig : (60 : Int) < E.length
  · simp -dsimp -implicitDefEqProofs (disch := omega) only [go_sem, h.cl W, hbig]
    refine h.sto (b := W) (off := 4) (by simp) rfl fun w1 h1 => ?_
    simp only [List.setIfInBounds_toArray, List.set_cons_succ, List.set_cons_zero] at h1
    simp -dsimp -implicitDefEqProofs (disch := omega) only [go_sem]
    have ok0 : BkOk [] [] := ⟨⟨fun x hx => by simp at hx, fun x hx => by simp at hx⟩, fun i hi => by simp at hi, by decide, rfl⟩
    have h2 := (h1.ent (Ent.embL _)).nilR 43 1
    exact own_t2 (gl := gl) (ol := ol) (cl := cl) (vh := .slice none 0 0) (f := 0) (Gs := []) ok0 rfl (by decide) hna hnb (by simp -dsimp -implicitDefEqProofs only [go_sem]) (by simp -dsimp -implicitDefEqProofs only [go_sem]) (by simp -dsimp -implicitDefEqProofs only [go_sem]) (h2.ac (show _ = wB W b0 b1 r0 r1 (.slice none 0 0) * (heldR (.slice none 0 0) [] * (grps [] * (RowO 5 1 va na xa * (RowO 5 1 vb nb xb * (A * (heldR (.slice a E.length c) E * grps Gs)))))) by unfold wB; show _ = _ * (RowO 43 1 (.slice none 0 0) 0 [] * (EmpH * _)); ac_rfl) |>.ent (Ent.sep (Ent.rfl' _) (Ent.sep (Ent.rfl' _) (Ent.sep (Ent.rfl' _) (Ent.sep (Ent.rfl' _) (Ent.sep (Ent.rfl' _) (Ent.left _ _)))))))
  · simp -dsimp -implicitDefEqProofs (disch := omega) only [go_sem, h.cl W, hbig]
    exact own_t2 (gl := gl) (ol := ol) (cl := cl) (f := E.length / 2) ok (by omega) (by omega) hna hnb (by simp -dsimp -implicitDefEqProofs only [go_sem]) (by simp -dsimp -implicitDefEqProofs only [go_sem]) (by simp -dsimp -implicitDefEqProofs only [go_sem]) h
end
end
theorem over_step' {c d : List UInt8} {at_ j : Nat} {y : UInt8} (hj : at_ + j < c.length) (hd : d.length = j) : (overF c at_ d).set (at_ + j) y = overF c at_ (d ++ [y]) := by
  unfold overF
  rw [List.append_assoc, List.set_append_right _ _ (by simp; omega), List.set_append_right _ _ (by simp; omega)]
  have h1 : at_ + j - (c.take at_).length - d.length = 0 := by simp; omega
  have h2 : at_ + d.length < c.length := by omega
  rw [h1, List.length_append, List.length_singleton, List.drop_eq_getElem_cons h2, List.set_cons_zero]
  simp [Nat.add_assoc]
theorem over_nil' (c : List UInt8) (at_ : Nat) : overF c at_ [] = c := by simp [overF]
section
variable {w0 w : World} {A : HP} {b i B : Nat} {s : SD} {v vd : Value} {X : List EV} {o : OpD} {e : FA}
theorem ref_bytes (ok : RefOk s X) (hi : i < s.L.length) {g q c : Nat} {bs : List UInt8} (hw : Wf { s with L := updN s.L s.L[i].i.path fun _ => ⟨s.L[i].i, bs⟩ })
    (h : ∀ hX : i < X.length, St w0 (RefB b s (.slice (some ⟨g, q, none⟩) X.length c) * (RefL s.L (.slice (some ⟨g, q, none⟩) X.length c) X * (RowBy X[i].v bs * (starL bytesP (X.eraseIdx i) * A)))) w) :
    St w0 (RefP b { s with L := updN s.L s.L[i].i.path fun _ => ⟨s.L[i].i, bs⟩ } * A) w := by
  have hX : i < X.length := by rw [ok.len]; exact hi
  refine ref_two ok hi (n' := ⟨s.L[i].i, bs⟩) (v' := X[i].v) hw ⟨rfl, rfl, rfl⟩ ?_ (h hX)
  rw [ents_pairs]
  congr 1
  refine (List.set_getElem_self (i := i) (by simpa using hX)).symm.trans ?_
  congr 1
  rw [List.getElem_map, prOf, ok.at_ hX]
  rfl
section
attribute [local go_sem] F44.t13_eq F44.t14_eq F44.t15_eq F44.t8_eq F44.t6_eq F44.t3_eq
theorem refBytes_t11 [Gives A (RdB vd o.data)] (ok : RefOk s X) (hi : i < s.L.length) (hin : OpIn o) (hne : o.data ≠ []) (hlen : s.L[i].i.length = s.L[i].b.length) (hfit : o.offset + o.data.length ≤ s.L[i].b.length) (hfew : s.L[i].b.length ≤ 65536)
    (hw : Wf { s with L := updN s.L s.L[i].i.path fun _ => ⟨s.L[i].i, overF s.L[i].b o.offset o.data⟩ })
    (hd : e.ds = []) (e0 : e.ρ 0 = .pointer (some ⟨b, 0, none⟩)) (e1 : e.ρ 1 = .int .i64 i) (e5 : e.ρ 5 = .pointer (some ⟨B, 0, none⟩)) (e7 : e.ρ 7 = .int .i64 o.data.length)
    (h : St w0 (RefB b s v * (RefL s.L v X * (starL bytesP X * (opB B o vd * A)))) w) {R : Ending → World → Prop} (hR : ∀ w', St w0 (RefP b { s with L := updN s.L s.L[i].i.path fun _ => ⟨s.L[i].i, overF s.L[i].b o.offset o.data⟩ } * A) w' → R (.returned (.int .i64 0)) w') :
    cwE Tryz.prog F44.t11 (fnP Tryz.prog #[.tmp 6] R) e w := by
  rw [F44.t11_eq]
  have hX : i < X.length := by rw [ok.len]; exact hi
  obtain ⟨g, q, c, hiS, hv, _, _, _⟩ := h.entF ok hX
  subst hv
  have hst := starL_out bytesP hX
  have hvi : bytesP X[i] = RowBy X[i].v s.L[i].b := by unfold bytesP; rw [ok.at_ hX]
  rw [hvi] at hst
  obtain ⟨u, hu⟩ : ∃ u, u = X[i].v := ⟨_, rfl⟩
  rw [← hu] at hst
  obtain ⟨Rs, hRs⟩ : ∃ Rs, Rs = starL bytesP (X.eraseIdx i) := ⟨_, rfl⟩
  rw [← hRs] at hst
  have h2 : St w0 (RefB b s (.slice (some ⟨g, q, none⟩) X.length c) * (RefL s.L (.slice (some ⟨g, q, none⟩) X.length c) X * (RowBy u s.L[i].b * (Rs * (opB B o vd * A))))) w := h.ac (by rw [hst]; ac_rfl)
  obtain ⟨au, cu, hvu, _⟩ := h2.right.right.rowForm u
  have hdl : 0 < o.data.length := List.length_pos_iff.2 hne
  obtain ⟨N, hN⟩ : ∃ N, N = s.L[i].b.length := ⟨_, rfl⟩
  have hxv : X[i].v = .slice au s.L[i].b.length cu := by rw [← hu, hvu]
  rw [hvu] at h2
  have hr0 : St w0 (Reads 1 (.slice au s.L[i].b.length cu) s.L[i].b.length (s.L[i].b.map bv)) w := h2.right.right.left.ent (RowO.reads _ _ _ _ _)
  obtain ⟨gu, qu, rfl, _⟩ := hr0.atS (a := au) (n := s.L[i].b.length) (c := cu) (xs := s.L[i].b.map bv) (k := 0) (by simp; omega)
  have h3 : St w0 (RefB b s (.slice (some ⟨g, q, none⟩) X.length c) * (RefL s.L (.slice (some ⟨g, q, none⟩) X.length c) X * (RowO 5 1 (.slice (some ⟨gu, qu, none⟩) N cu) N ((overF s.L[i].b o.offset (o.data.take 0)).map bv) * (Rs * (opB B o vd * A))))) w := by
    rw [List.take_zero, over_nil', hN]; exact h2
  rw [← hN] at hfit hfew hxv
  have hk : o.offset < 65536 := by omega
  simp -dsimp -implicitDefEqProofs (disch := omega) only [go_sem, hd, e0, e1, e5, e7]
  refine loop_intro (fun e w' => e.ds = [] ∧ e.ρ 0 = .pointer (some ⟨b, 0, none⟩) ∧ e.ρ 1 = .int .i64 i ∧ e.ρ 5 = .pointer (some ⟨B, 0, none⟩) ∧ e.ρ 7 = .int .i64 o.data.length ∧ ∃ k : Nat, k ≤ o.data.length ∧ e.ρ 9 = .int .i64 k ∧ St w0 (RefB b s (.slice (some ⟨g, q, none⟩) X.length c) * (RefL s.L (.slice (some ⟨g, q, none⟩) X.length c) X * (RowO 5 1 (.slice (some ⟨gu, qu, none⟩) N cu) N ((overF s.L[i].b o.offset (o.data.take k)).map bv) * (Rs * (opB B o vd * A))))) w')
    (fun e _ => match e.ρ 9 with | .int _ x => (o.data.length - x).toNat | _ => 0) ?_ ?_
  · exact ⟨by simp -dsimp -implicitDefEqProofs only [go_sem, hd], by simp -dsimp -implicitDefEqProofs only [go_sem, e0], by simp -dsimp -implicitDefEqProofs only [go_sem, e1], by simp -dsimp -implicitDefEqProofs only [go_sem, e5], by simp -dsimp -implicitDefEqProofs only [go_sem, e7], 0, by omega, by simp -dsimp -implicitDefEqProofs only [go_sem], h3⟩
  clear h h2 h3 hr0 hd e0 e1 e5 e7
  rintro e w ⟨hd, e0, e1, e5, e7, k, hk', e9, h⟩
  by_cases hlt : (k : Int) < o.data.length
  case neg =>
    have : k = o.data.length := by omega
    rw [this, List.take_length] at h
    simp -dsimp -implicitDefEqProofs (disch := omega) only [go_sem, hd, e7, e9, hlt]
    refine hR _ (ref_bytes ok hi (g := g) (q := q) (c := c) hw fun hX => ?_)
    have hol : (overF s.L[i].b o.offset o.data).length = N := by rw [overF_len (by omega), hN]
    show St w0 (_ * (_ * (RowO _ _ _ (overF s.L[i].b o.offset o.data).length _ * _))) w
    rw [hol, hxv]
    rw [hRs] at h
    exact h.ent (Ent.sep (Ent.rfl' _) (Ent.sep (Ent.rfl' _) (Ent.sep (Ent.rfl' _) (Ent.sep (Ent.rfl' _) (Ent.right _ _)))))
  have hkl : k < o.data.length := by omega
  have hD := h.drew
  obtain ⟨g', q', c', _, hv', _, _, c13⟩ := hD.entF ok hX
  simp only [Value.slice.injEq, Option.some.injEq, Addr.mk.injEq, and_true, true_and] at hv'
  obtain ⟨⟨rfl, rfl⟩, rfl⟩ := hv'
  rw [hxv] at c13
  have hdA : St w0 (RdB vd o.data) w.drew := hD.right.right.right.right.right.ent (‹Gives A (RdB vd o.data)›).ent
  obtain ⟨ad, cd, rfl, _, _⟩ := hdA.bytes
  obtain ⟨gd, qd, rfl, hcd⟩ := St.atS (A := Reads 1 (.slice ad o.data.length cd) o.data.length (o.data.map bv)) hdA (a := ad) (n := o.data.length) (c := cd) (xs := o.data.map bv) (k := k) (by simpa using hkl)
  rw [List.getElem_map] at hcd
  have b17 : w.drew.cell? ⟨B, 17, none⟩ = some (.int .u64 o.offset) := (hD.cl B) 17
  have b18 : w.drew.cell? ⟨B, 18, none⟩ = some (.slice (some ⟨gd, qd, none⟩) o.data.length cd) := (hD.cl B) 18
  simp -dsimp -implicitDefEqProofs (disch := omega) only [go_sem, hd, e0, e1, e5, e7, e9, hlt, hD.cl b, c13, b17, b18, hcd]
  have htk : (o.data.take k).length = k := by simp; omega
  have hol : (overF s.L[i].b o.offset (o.data.take k)).length = N := by rw [overF_len (by omega), hN]
  rw [show ((o.offset : Int) + (k : Int)).toNat = o.offset + k by omega]
  refine hD.rowSet1 (g := gu) (o := qu) (n := N) (c := cu) (k := o.offset + k) (v := bv o.data[k]) (by rw [List.length_map]; omega) rfl fun w2 h2 => ?_
  rw [← List.map_set, over_step' (by omega) htk, ← List.take_succ_eq_append_getElem hkl] at h2
  obtain ⟨g', q', c', _, hv', _, _, c13⟩ := h2.entF ok hX
  simp only [Value.slice.injEq, Option.some.injEq, Addr.mk.injEq, and_true, true_and] at hv'
  obtain ⟨⟨rfl, rfl⟩, rfl⟩ := hv'
  rw [hxv] at c13
  have hdA2 : St w0 (RdB (.slice (some ⟨gd, qd, none⟩) o.data.length cd) o.data) w2 := h2.right.right.right.right.right.ent (‹Gives A (RdB (.slice (some ⟨gd, qd, none⟩) o.data.length cd) o.data)›).ent
  obtain ⟨gd', qd', hge, hcd2⟩ := St.atS (A := Reads 1 (.slice (some ⟨gd, qd, none⟩) o.data.length cd) o.data.length (o.data.map bv)) hdA2 (a := some ⟨gd, qd, none⟩) (n := o.data.length) (c := cd) (xs := o.data.map bv) (k := k) (by simpa using hkl)
  simp only [Option.some.injEq, Addr.mk.injEq, and_true] at hge
  obtain ⟨rfl, rfl⟩ := hge
  rw [List.getElem_map] at hcd2
  have b17 : w2.cell? ⟨B, 17, none⟩ = some (.int .u64 o.offset) := (h2.cl B) 17
  have b18 : w2.cell? ⟨B, 18, none⟩ = some (.slice (some ⟨gd, qd, none⟩) o.data.length cd) := (h2.cl B) 18
  simp -dsimp -implicitDefEqProofs (disch := omega) only [go_sem, hd, e0, e1, e5, e7, e9, hlt, h2.cl b, c13, b17, b18, hcd2]
  exact ⟨⟨k + 1, by omega, by omega, h2⟩, by omega⟩
theorem upd_upd {L : List NodeD} {p : Nat} {a b : NodeD} (ha : a.i.path = p) : (updN (updN L p fun _ => a) p fun _ => b) = updN L p fun _ => b := by
  unfold updN
  rw [List.map_map]
  refine List.map_congr_left fun x _ => ?_
  simp only [Function.comp]
  by_cases h : x.i.path = p
  · rw [if_pos h, if_pos ha, if_pos h]
  · simp [h]
theorem padF_self (b : List UInt8) : padF b b.length = b := by simp [padF]
theorem lay_over_in {b d : List UInt8} {off : Nat} (h : off + d.length ≤ b.length) : layF b off d = overF b off d := by
  unfold layF overF
  rw [Nat.max_eq_left h, padF_self]
theorem lay_over_out {b d : List UInt8} {off : Nat} (h : b.length ≤ off + d.length) : layF b off d = overF (padF b (off + d.length)) off d := by
  unfold layF overF
  rw [Nat.max_eq_right h]
end
section
attribute [local go_sem] F44.t13_eq F44.t14_eq F44.t15_eq F44.t8_eq F44.t6_eq F44.t3_eq
theorem refBytes_any [Gives A (RdB vd o.data)] (ok : RefOk s X) (hi : i < s.L.length) (hin : OpIn o) (h : St w0 (RefB b s v * (RefL s.L v X * (starL bytesP X * A))) w) :
    Calls Tryz.prog 44 #[.pointer (some ⟨b, 0, none⟩), .int .i64 i, .agg (opL o vd).toArray] w fun e w' => match bytesF o.offset o.data s.L[i] with
      | .error x => St w0 (RefP b s * A) w' ∧ e = .returned (.int .i64 x)
      | .ok n' => St w0 (RefP b { s with L := updN s.L s.L[i].i.path fun _ => n' } * A) w' ∧ e = .returned (.int .i64 0) := by
  have hX : i < X.length := by rw [ok.len]; exact hi
  have oki := ok.wf.ok _ (List.getElem_mem hi)
  have hoff := hin.offset
  have hdat := hin.data
  have shut : ∀ {w} {Y : HP}, St w0 (RefB b s v * (RefL s.L v X * (starL bytesP X * (Y * A)))) w → St w0 (RefP b s * A) w := fun h => by
    have h := h.ent (Ent.sep (Ent.rfl' _) (Ent.sep (Ent.rfl' _) (Ent.sep (Ent.rfl' _) (Ent.right _ _))))
    rw [RefQ.as] at h
    exact h.ent (Ent.sep (RefP.shut ok) (Ent.rfl' _))
  obtain ⟨ad, cd, hvd, _⟩ := (h.ent (Gives.ent (A := RefB b s v * (RefL s.L v X * (starL bytesP X * A))) (B := RdB vd o.data))).bytes
  refine F44.calls (by simp) ?_
  unfold F44.code
  simp -dsimp -implicitDefEqProofs (disch := omega) only [go_sem]
  refine h.new fun B w1 h1 => ?_
  have h2 : St w0 (RefB b s v * (RefL s.L v X * (starL bytesP X * (opB B o vd * A)))) w1 := h1.ac (by simp only [opB]; ac_rfl)
  obtain ⟨g, q, c, hiS, hv, prow, hc, _⟩ := h2.entF ok hX
  subst hv
  simp -dsimp -implicitDefEqProofs (disch := omega) only [go_sem, h2.cl b, prow]
  refine (refDir_any h2).mono ?_
  rintro e w2 ⟨h3, rfl⟩
  rw [show (tellF s.L s.L[i]).mode = s.L[i].i.mode from rfl]
  cases hdir : dirF s.L[i].i.mode with
  | true =>
    have hr : bytesF o.offset o.data s.L[i] = .error 81 := by unfold bytesF; rw [if_pos hdir]
    rw [hr]
    simp -dsimp -implicitDefEqProofs (disch := omega) only [go_sem]
    exact shut h3
  | false =>
    have b17 : w2.cell? ⟨B, 17, none⟩ = some (.int .u64 o.offset) := (h3.cl B) 17
    have b18 : w2.cell? ⟨B, 18, none⟩ = some (.slice ad o.data.length cd) := by rw [← hvd]; exact (h3.cl B) 18
    have hrem : (o.offset : Int).tmod 256 = ((o.offset % 256 : Nat) : Int) := (Int.ofNat_tmod o.offset 256).symm
    by_cases c1 : (o.data.length : Int) = 0
    · have hr : bytesF o.offset o.data s.L[i] = .error 84 := by
        unfold bytesF
        rw [if_neg (by simp [hdir]), if_pos (.inl (List.eq_nil_of_length_eq_zero (by omega)))]
      rw [hr]
      simp -dsimp -implicitDefEqProofs (disch := omega) only [go_sem, b17, b18, hrem, c1]
      exact shut h3
    by_cases c2 : (256 : Int) < o.data.length
    · have hr : bytesF o.offset o.data s.L[i] = .error 84 := by
        unfold bytesF
        rw [if_neg (by simp [hdir]), if_pos (.inr (by omega))]
      rw [hr]
      simp -dsimp -implicitDefEqProofs (disch := omega) only [go_sem, b17, b18, hrem, c1, c2]
      exact shut h3
    by_cases c3 : (256 : Int) < ((o.offset % 256 : Nat) : Int) + o.data.length
    · have hr : bytesF o.offset o.data s.L[i] = .error 84 := by
        unfold bytesF
        rw [if_neg (by simp [hdir]), if_pos (.inr (by omega))]
      rw [hr]
      simp -dsimp -implicitDefEqProofs (disch := omega) only [go_sem, b17, b18, hrem, c1, c2, c3]
      exact shut h3
    have hne : o.data ≠ [] := fun hh => by rw [hh] at c1; simp at c1
    by_cases c4 : (65536 : Int) - o.data.length < o.offset
    · have hr : bytesF o.offset o.data s.L[i] = .error 86 := by
        unfold bytesF
        rw [if_neg (by simp [hdir]), if_neg (by rw [not_or]; exact ⟨hne, by omega⟩), if_pos (by omega)]
      rw [hr]
      simp -dsimp -implicitDefEqProofs (disch := omega) only [go_sem, b17, b18, hrem, c1, c2, c3, c4]
      exact shut h3
    have hr : bytesF o.offset o.data s.L[i] = .ok ⟨{ s.L[i].i with length := max s.L[i].i.length (o.offset + o.data.length) }, layF s.L[i].b o.offset o.data⟩ := by
      unfold bytesF
      rw [if_neg (by simp [hdir]), if_neg (by rw [not_or]; exact ⟨hne, by omega⟩), if_neg (by omega)]
    have hok := bytes_ok hr oki
    have hw := one_wf ok.wf (List.getElem_mem hi) (r := .ok ⟨{ s.L[i].i with length := max s.L[i].i.length (o.offset + o.data.length) }, layF s.L[i].b o.offset o.data⟩) (fun n' e => by cases e; exact hok)
    have hlen := oki.len
    have hfew := oki.few
    rw [hr]
    obtain ⟨g', q', c', _, hv', _, hc', _⟩ := h3.entF ok hX
    simp only [Value.slice.injEq, Option.some.injEq, Addr.mk.injEq, and_true, true_and] at hv'
    obtain ⟨⟨rfl, rfl⟩, rfl⟩ := hv'
    have c10 : w2.cell? ⟨g, q + i * 14 + 10, none⟩ = some (.int .u64 s.L[i].i.length) := hc' 10 (by decide)
    by_cases c5 : (s.L[i].i.length : Int) < (o.offset : Int) + o.data.length
    · have hcut : cutF (o.offset + o.data.length) s.L[i] = .ok ⟨{ s.L[i].i with length := o.offset + o.data.length }, padF s.L[i].b (o.offset + o.data.length)⟩ := by unfold cutF; rw [if_neg (by simp [hdir]), if_neg (by omega)]
      simp -dsimp -implicitDefEqProofs (disch := omega) only [go_sem, b17, b18, hrem, c1, c2, c3, c4, h3.cl b, c10, c5]
      rw [show (o.offset : Int) + (o.data.length : Int) = ((o.offset + o.data.length : Nat) : Int) by omega]
      refine (refCut_any ok hi (by omega) h3).mono ?_
      intro e w3 hq
      rw [hcut] at hq
      obtain ⟨h4, rfl⟩ := hq
      obtain ⟨n1, hn1⟩ : ∃ n1, n1 = (⟨{ s.L[i].i with length := o.offset + o.data.length }, padF s.L[i].b (o.offset + o.data.length)⟩ : NodeD) := ⟨_, rfl⟩
      have hn1p : n1.i.path = s.L[i].i.path := by rw [hn1]
      have hn1b : n1.b = padF s.L[i].b (o.offset + o.data.length) := by rw [hn1]
      have hn1l : n1.i.length = n1.b.length := by rw [hn1]; exact (padF_len _ _).symm
      have hbl : n1.b.length = o.offset + o.data.length := by rw [hn1b, padF_len]
      rw [← hn1] at h4
      obtain ⟨s1, hs1⟩ : ∃ s1, s1 = ({ s with L := updN s.L s.L[i].i.path fun _ => n1 } : SD) := ⟨_, rfl⟩
      rw [← hs1] at h4
      have hsl : s1.L = s.L.set i n1 := by rw [hs1]; exact upd_set ok.wf.rise hi n1
      have hi1 : i < s1.L.length := by rw [hsl]; simpa using hi
      have e1 : s1.L[i] = n1 := by simp only [hsl, List.getElem_set_self]
      have hfin : ({ s1 with L := updN s1.L s1.L[i].i.path fun _ => ⟨s1.L[i].i, overF s1.L[i].b o.offset o.data⟩ } : SD) = { s with L := updN s.L s.L[i].i.path fun _ => ⟨{ s.L[i].i with length := max s.L[i].i.length (o.offset + o.data.length) }, layF s.L[i].b o.offset o.data⟩ } := by
        rw [e1, hn1p, hs1]
        show SD.mk _ _ _ = SD.mk _ _ _
        congr 1
        rw [upd_upd hn1p, lay_over_out (by omega), hn1b]
        have hmx : max s.L[i].i.length (o.offset + o.data.length) = o.offset + o.data.length := by omega
        rw [hmx, hn1]
      have hw' : Wf ({ s with L := updN s.L s.L[i].i.path fun _ => ⟨{ s.L[i].i with length := max s.L[i].i.length (o.offset + o.data.length) }, layF s.L[i].b o.offset o.data⟩ } : SD) := hw
      rw [← hfin] at hw'
      obtain ⟨v', X', ok', h5⟩ := h4.refO
      simp -dsimp -implicitDefEqProofs (disch := omega) only [go_sem]
      refine refBytes_t11 (s := s1) (X := X') (v := v') (o := o) (vd := vd) (B := B) ok' hi1 hin hne (by rw [e1]; exact hn1l) (by rw [e1, hbl]; exact Nat.le_refl _) (by rw [e1, hbl]; omega) hw' (by simp -dsimp -implicitDefEqProofs only [go_sem]) (by simp -dsimp -implicitDefEqProofs only [go_sem]) (by simp -dsimp -implicitDefEqProofs only [go_sem]) (by simp -dsimp -implicitDefEqProofs only [go_sem]) (by simp -dsimp -implicitDefEqProofs only [go_sem]) h5 fun w' h' => ?_
      rw [hfin] at h'
      exact ⟨h', rfl⟩
    · simp -dsimp -implicitDefEqProofs (disch := omega) only [go_sem, b17, b18, hrem, c1, c2, c3, c4, h3.cl b, c10, c5]
      have hin2 : o.offset + o.data.length ≤ s.L[i].b.length := by omega
      have hmx : max s.L[i].i.length (o.offset + o.data.length) = s.L[i].i.length := by omega
      rw [hmx, lay_over_in hin2] at hw ⊢
      refine refBytes_t11 (o := o) (vd := vd) (B := B) ok hi hin hne hlen hin2 hfew hw (by simp -dsimp -implicitDefEqProofs only [go_sem]) (by simp -dsimp -implicitDefEqProofs only [go_sem]) (by simp -dsimp -implicitDefEqProofs only [go_sem]) (by simp -dsimp -implicitDefEqProofs only [go_sem]) (by simp -dsimp -implicitDefEqProofs only [go_sem]) h3 fun w' h' => ?_
      exact ⟨h', rfl⟩
end
end
theorem pair_row {ps : List (Inf × Value)} {i : Nat} (hi : i < ps.length) (j : Inf) : setRowL (ps.flatMap enc2) (i * 14) (infL j) = (ps.set i (j, ps[i].2)).flatMap enc2 := by
  have hl : (ps.flatMap enc2).length = ps.length * 14 := flatMap_length enc2_len ps
  have h1 : (i + 1) * 14 ≤ ps.length * 14 := Nat.mul_le_mul_right 14 hi
  refine List.ext_getElem? fun t => ?_
  by_cases ht : t < ps.length * 14
  · obtain ⟨m, q, hm, hq, rfl, hf⟩ := flatMap_at_all enc2_len ps t ht
    rw [flatMap_at enc2_len (ps.set i (j, ps[i].2)) m q (by simpa using hm) hq]
    by_cases hmi : i = m
    · subst hmi
      rw [List.getElem_set_self]
      by_cases hq2 : q < 13
      · rw [getElem?_setRowL_in (infL j) _ _ q hq2 (by show _ + 13 ≤ _; omega)]
        exact (List.getElem?_append_left (show q < (infL j).length from hq2)).symm
      · have : q = 13 := by omega
        subst this
        rw [getElem?_setRowL_ge (infL j) _ _ _ (by show i * 14 + 13 ≤ _; omega), hf]
        rfl
    · rw [List.getElem_set_ne hmi, ← hf]
      rcases Nat.lt_or_ge m i with h2 | h2
      · exact getElem?_setRowL_lt _ _ _ _ (by omega)
      · exact getElem?_setRowL_ge _ _ _ _ (by show i * 14 + 13 ≤ _; omega)
  · rw [List.getElem?_eq_none (by rw [length_setRowL, hl]; omega), List.getElem?_eq_none (by rw [flatMap_length enc2_len]; simp; omega)]
section
variable {w0 w : World} {A F : HP} {b i m E D : Nat} {s : SD} {v : Value} {X : List EV} {t x : Inf} {e : FA} {R : Ending → World → Prop}
theorem ref_info (ok : RefOk s X) (hi : i < s.L.length) {g o c : Nat} {j' : Inf} (hw : Wf { s with L := updN s.L s.L[i].i.path fun _ => ⟨j', s.L[i].b⟩ }) (k : Keeps s.L[i] ⟨j', s.L[i].b⟩)
    (h : St w0 (RefB b s (.slice (some ⟨g, o, none⟩) X.length c) * (RowO 81 14 (.slice (some ⟨g, o, none⟩) X.length c) X.length (setRowL (X.flatMap (entC s.L)) (i * 14) (infL (tellF s.L ⟨j', s.L[i].b⟩))) * (starL bytesP X * A))) w) :
    St w0 (RefP b { s with L := updN s.L s.L[i].i.path fun _ => ⟨j', s.L[i].b⟩ } * A) w := by
  have hX : i < X.length := by rw [ok.len]; exact hi
  have hst := starL_out bytesP hX
  have hvi : bytesP X[i] = RowBy X[i].v s.L[i].b := by unfold bytesP; rw [ok.at_ hX]
  rw [hvi] at hst
  rw [hst] at h
  refine ref_two ok hi (g := g) (o := o) (c := c) (n' := ⟨j', s.L[i].b⟩) (v' := X[i].v) hw k rfl ?_
  rw [ents_pairs, pair_row (by simpa using hX)] at h
  have : ((X.map (prOf s.L))[i]'(by simpa using hX)).2 = X[i].v := by rw [List.getElem_map]; rfl
  rw [this] at h
  exact h.ac (by ac_rfl)
section
attribute [local go_sem] F42.t25_eq F42.t23_eq F42.t21_eq F42.t19_eq F42.t17_eq F42.t15_eq F42.t13_eq F42.t11_eq F42.t8_eq
theorem rset_t25 (ok : RefOk s X) (hi : i < s.L.length) {g o c : Nat} {j' : Inf} (hw : Wf { s with L := updN s.L s.L[i].i.path fun _ => ⟨j', s.L[i].b⟩ }) (k : Keeps s.L[i] ⟨j', s.L[i].b⟩)
    (hd : e.ds = []) (e0 : e.ρ 0 = .pointer (some ⟨b, 0, none⟩)) (e1 : e.ρ 1 = .int .i64 i) (e12 : e.ρ 12 = .pointer (some ⟨E, 0, none⟩))
    (h : St w0 (infB E (tellF s.L ⟨j', s.L[i].b⟩) * (infB D t * (RefB b s (.slice (some ⟨g, o, none⟩) X.length c) * (RefL s.L (.slice (some ⟨g, o, none⟩) X.length c) X * (starL bytesP X * A))))) w)
    (hR : ∀ w', St w0 (RefP b { s with L := updN s.L s.L[i].i.path fun _ => ⟨j', s.L[i].b⟩ } * A) w' → R (.returned (.int .i64 0)) w') :
    cwE Tryz.prog F42.t25 (fnP Tryz.prog #[.tmp 6] R) e w := by
  have hX : i < X.length := by rw [ok.len]; exact hi
  rw [F42.t25_eq]
  have hD := h.drew
  simp -dsimp -implicitDefEqProofs (disch := omega) only [go_sem, hd, e0, e1, e12, hD.cl b, hD.rowH E 13 rfl]
  refine hD.rowSet (g := g) (o := o) (n := X.length) (c := c) (k := i * 14) (m := 13) (cs := infL (tellF s.L ⟨j', s.L[i].b⟩)) rfl (by rw [flatMap_length (entC_len _)]; omega) (infL_cells _) fun w1 h1 => ?_
  simp -dsimp -implicitDefEqProofs (disch := omega) only [go_sem, hd]
  exact hR _ (ref_info ok hi hw k h1.right.right)
end
section
attribute [local go_sem] F42.t23_eq F42.t21_eq F42.t19_eq F42.t17_eq F42.t15_eq F42.t13_eq F42.t11_eq F42.t8_eq
theorem rset_t23 (hm : m < 256) (hd : e.ds = []) (e0 : e.ρ 0 = .pointer (some ⟨b, 0, none⟩)) (e1 : e.ρ 1 = .int .i64 i) (e7 : e.ρ 7 = .pointer (some ⟨D, 0, none⟩)) (e8 : e.ρ 8 = .int .u8 m) (e12 : e.ρ 12 = .pointer (some ⟨E, 0, none⟩))
    (h : St w0 (infB E x * (infB D t * F)) w)
    (hR : ∀ (e : FA) (w : World), e.ds = [] → e.ρ 0 = .pointer (some ⟨b, 0, none⟩) → e.ρ 1 = .int .i64 i → e.ρ 12 = .pointer (some ⟨E, 0, none⟩) → St w0 (infB E (g6 m x) * (infB D t * F)) w → cwE Tryz.prog F42.t25 (fnP Tryz.prog #[.tmp 6] R) e w) :
    cwE Tryz.prog F42.t23 (fnP Tryz.prog #[.tmp 6] R) e w := by
  rw [F42.t23_eq]
  simp -dsimp -implicitDefEqProofs (disch := omega) only [go_sem, hd, e0, e1, e7, e8, e12]
  refine (refHas_any hm (k := 6) (by omega) (c := 64) rfl h).mono ?_
  rintro e' w1 ⟨h1, rfl⟩
  cases k : m.testBit 6
  · have hg : g6 m x = x := by simp [g6, k]
    rw [hg] at hR
    simp -dsimp -implicitDefEqProofs (disch := omega) only [go_sem, hd, e0, e1, e7, e8, e12]
    exact hR _ _ (by simp -dsimp -implicitDefEqProofs only [go_sem, hd]) (by simp -dsimp -implicitDefEqProofs only [go_sem, e0]) (by simp -dsimp -implicitDefEqProofs only [go_sem, e1]) (by simp -dsimp -implicitDefEqProofs only [go_sem, e12]) h1
  · have hg : g6 m x = { x with vers := (x.vers + 1) % 4294967296 } := by simp [g6, k]
    have hw : IntKind.u32.wrap ((x.vers : Int) + 1) = (((x.vers + 1) % 4294967296 : Nat) : Int) := by
      simp only [IntKind.wrap, IntKind.signed, IntKind.bits, Bool.false_and, Bool.false_eq_true, if_false]
      omega
    rw [hg] at hR
    simp -dsimp -implicitDefEqProofs (disch := omega) only [go_sem, hd, e0, e1, e7, e8, e12, h1.cl E, h1.cl D]
    rw [hw]
    refine h1.sto (by simp) rfl fun w2 h2 => ?_
    simp only [List.setIfInBounds_toArray, List.set_cons_succ, List.set_cons_zero] at h2
    simp -dsimp -implicitDefEqProofs (disch := omega) only [go_sem]
    exact hR _ _ (by simp -dsimp -implicitDefEqProofs only [go_sem, hd]) (by simp -dsimp -implicitDefEqProofs only [go_sem, e0]) (by simp -dsimp -implicitDefEqProofs only [go_sem, e1]) (by simp -dsimp -implicitDefEqProofs only [go_sem, e12]) h2
end
section
attribute [local go_sem] F42.t25_eq F42.t21_eq F42.t19_eq F42.t17_eq F42.t15_eq F42.t13_eq F42.t11_eq F42.t8_eq
theorem rset_t21 (hm : m < 256) (hd : e.ds = []) (e0 : e.ρ 0 = .pointer (some ⟨b, 0, none⟩)) (e1 : e.ρ 1 = .int .i64 i) (e7 : e.ρ 7 = .pointer (some ⟨D, 0, none⟩)) (e8 : e.ρ 8 = .int .u8 m) (e12 : e.ρ 12 = .pointer (some ⟨E, 0, none⟩))
    (h : St w0 (infB E x * (infB D t * F)) w)
    (hR : ∀ (e : FA) (w : World), e.ds = [] → e.ρ 0 = .pointer (some ⟨b, 0, none⟩) → e.ρ 1 = .int .i64 i → e.ρ 12 = .pointer (some ⟨E, 0, none⟩) → St w0 (infB E (g6 m (g5 m t x)) * (infB D t * F)) w → cwE Tryz.prog F42.t25 (fnP Tryz.prog #[.tmp 6] R) e w) :
    cwE Tryz.prog F42.t21 (fnP Tryz.prog #[.tmp 6] R) e w := by
  rw [F42.t21_eq]
  simp -dsimp -implicitDefEqProofs (disch := omega) only [go_sem, hd, e0, e1, e7, e8, e12]
  refine (refHas_any hm (k := 5) (by omega) (c := 32) rfl h).mono ?_
  rintro e' w1 ⟨h1, rfl⟩
  cases k : m.testBit 5
  · have hg : g5 m t x = x := by simp [g5, k]
    rw [hg] at hR
    simp -dsimp -implicitDefEqProofs (disch := omega) only [go_sem, hd, e0, e1, e7, e8, e12]
    exact rset_t23 hm (by simp -dsimp -implicitDefEqProofs only [go_sem, hd]) (by simp -dsimp -implicitDefEqProofs only [go_sem, e0]) (by simp -dsimp -implicitDefEqProofs only [go_sem, e1]) (by simp -dsimp -implicitDefEqProofs only [go_sem, e7]) (by simp -dsimp -implicitDefEqProofs only [go_sem, e8]) (by simp -dsimp -implicitDefEqProofs only [go_sem, e12]) h1 hR
  · have hg : g5 m t x = { x with mtime := t.mtime } := by simp [g5, k]
    rw [hg] at hR
    simp -dsimp -implicitDefEqProofs (disch := omega) only [go_sem, hd, e0, e1, e7, e8, e12, h1.cl E, h1.cl D]
    refine h1.sto (by simp) rfl fun w2 h2 => ?_
    simp only [List.setIfInBounds_toArray, List.set_cons_succ, List.set_cons_zero] at h2
    simp -dsimp -implicitDefEqProofs (disch := omega) only [go_sem]
    exact rset_t23 hm (by simp -dsimp -implicitDefEqProofs only [go_sem, hd]) (by simp -dsimp -implicitDefEqProofs only [go_sem, e0]) (by simp -dsimp -implicitDefEqProofs only [go_sem, e1]) (by simp -dsimp -implicitDefEqProofs only [go_sem, e7]) (by simp -dsimp -implicitDefEqProofs only [go_sem, e8]) (by simp -dsimp -implicitDefEqProofs only [go_sem, e12]) h2 hR
end
section
attribute [local go_sem] F42.t25_eq F42.t23_eq F42.t19_eq F42.t17_eq F42.t15_eq F42.t13_eq F42.t11_eq F42.t8_eq
theorem rset_t19 (hm : m < 256) (hd : e.ds = []) (e0 : e.ρ 0 = .pointer (some ⟨b, 0, none⟩)) (e1 : e.ρ 1 = .int .i64 i) (e7 : e.ρ 7 = .pointer (some ⟨D, 0, none⟩)) (e8 : e.ρ 8 = .int .u8 m) (e12 : e.ρ 12 = .pointer (some ⟨E, 0, none⟩))
    (h : St w0 (infB E x * (infB D t * F)) w)
    (hR : ∀ (e : FA) (w : World), e.ds = [] → e.ρ 0 = .pointer (some ⟨b, 0, none⟩) → e.ρ 1 = .int .i64 i → e.ρ 12 = .pointer (some ⟨E, 0, none⟩) → St w0 (infB E (g6 m (g5 m t (g4 m t x))) * (infB D t * F)) w → cwE Tryz.prog F42.t25 (fnP Tryz.prog #[.tmp 6] R) e w) :
    cwE Tryz.prog F42.t19 (fnP Tryz.prog #[.tmp 6] R) e w := by
  rw [F42.t19_eq]
  simp -dsimp -implicitDefEqProofs (disch := omega) only [go_sem, hd, e0, e1, e7, e8, e12]
  refine (refHas_any hm (k := 4) (by omega) (c := 16) rfl h).mono ?_
  rintro e' w1 ⟨h1, rfl⟩
  cases k : m.testBit 4
  · have hg : g4 m t x = x := by simp [g4, k]
    rw [hg] at hR
    simp -dsimp -implicitDefEqProofs (disch := omega) only [go_sem, hd, e0, e1, e7, e8, e12]
    exact rset_t21 hm (by simp -dsimp -implicitDefEqProofs only [go_sem, hd]) (by simp -dsimp -implicitDefEqProofs only [go_sem, e0]) (by simp -dsimp -implicitDefEqProofs only [go_sem, e1]) (by simp -dsimp -implicitDefEqProofs only [go_sem, e7]) (by simp -dsimp -implicitDefEqProofs only [go_sem, e8]) (by simp -dsimp -implicitDefEqProofs only [go_sem, e12]) h1 hR
  · have hg : g4 m t x = { x with atime := t.atime } := by simp [g4, k]
    rw [hg] at hR
    simp -dsimp -implicitDefEqProofs (disch := omega) only [go_sem, hd, e0, e1, e7, e8, e12, h1.cl E, h1.cl D]
    refine h1.sto (by simp) rfl fun w2 h2 => ?_
    simp only [List.setIfInBounds_toArray, List.set_cons_succ, List.set_cons_zero] at h2
    simp -dsimp -implicitDefEqProofs (disch := omega) only [go_sem]
    exact rset_t21 hm (by simp -dsimp -implicitDefEqProofs only [go_sem, hd]) (by simp -dsimp -implicitDefEqProofs only [go_sem, e0]) (by simp -dsimp -implicitDefEqProofs only [go_sem, e1]) (by simp -dsimp -implicitDefEqProofs only [go_sem, e7]) (by simp -dsimp -implicitDefEqProofs only [go_sem, e8]) (by simp -dsimp -implicitDefEqProofs only [go_sem, e12]) h2 hR
end
section
attribute [local go_sem] F42.t25_eq F42.t23_eq F42.t21_eq F42.t17_eq F42.t15_eq F42.t13_eq F42.t11_eq F42.t8_eq
theorem rset_t17 (hm : m < 256) (hd : e.ds = []) (e0 : e.ρ 0 = .pointer (some ⟨b, 0, none⟩)) (e1 : e.ρ 1 = .int .i64 i) (e7 : e.ρ 7 = .pointer (some ⟨D, 0, none⟩)) (e8 : e.ρ 8 = .int .u8 m) (e12 : e.ρ 12 = .pointer (some ⟨E, 0, none⟩))
    (h : St w0 (infB E x * (infB D t * F)) w)
    (hR : ∀ (e : FA) (w : World), e.ds = [] → e.ρ 0 = .pointer (some ⟨b, 0, none⟩) → e.ρ 1 = .int .i64 i → e.ρ 12 = .pointer (some ⟨E, 0, none⟩) → St w0 (infB E (g6 m (g5 m t (g4 m t (g3 m t x)))) * (infB D t * F)) w → cwE Tryz.prog F42.t25 (fnP Tryz.prog #[.tmp 6] R) e w) :
    cwE Tryz.prog F42.t17 (fnP Tryz.prog #[.tmp 6] R) e w := by
  rw [F42.t17_eq]
  simp -dsimp -implicitDefEqProofs (disch := omega) only [go_sem, hd, e0, e1, e7, e8, e12]
  refine (refHas_any hm (k := 3) (by omega) (c := 8) rfl h).mono ?_
  rintro e' w1 ⟨h1, rfl⟩
  cases k : m.testBit 3
  · have hg : g3 m t x = x := by simp [g3, k]
    rw [hg] at hR
    simp -dsimp -implicitDefEqProofs (disch := omega) only [go_sem, hd, e0, e1, e7, e8, e12]
    exact rset_t19 hm (by simp -dsimp -implicitDefEqProofs only [go_sem, hd]) (by simp -dsimp -implicitDefEqProofs only [go_sem, e0]) (by simp -dsimp -implicitDefEqProofs only [go_sem, e1]) (by simp -dsimp -implicitDefEqProofs only [go_sem, e7]) (by simp -dsimp -implicitDefEqProofs only [go_sem, e8]) (by simp -dsimp -implicitDefEqProofs only [go_sem, e12]) h1 hR
  · have hg : g3 m t x = { x with muid := t.muid } := by simp [g3, k]
    rw [hg] at hR
    simp -dsimp -implicitDefEqProofs (disch := omega) only [go_sem, hd, e0, e1, e7, e8, e12, h1.cl E, h1.cl D]
    refine h1.sto (by simp) rfl fun w2 h2 => ?_
    simp only [List.setIfInBounds_toArray, List.set_cons_succ, List.set_cons_zero] at h2
    simp -dsimp -implicitDefEqProofs (disch := omega) only [go_sem]
    exact rset_t19 hm (by simp -dsimp -implicitDefEqProofs only [go_sem, hd]) (by simp -dsimp -implicitDefEqProofs only [go_sem, e0]) (by simp -dsimp -implicitDefEqProofs only [go_sem, e1]) (by simp -dsimp -implicitDefEqProofs only [go_sem, e7]) (by simp -dsimp -implicitDefEqProofs only [go_sem, e8]) (by simp -dsimp -implicitDefEqProofs only [go_sem, e12]) h2 hR
end
section
attribute [local go_sem] F42.t25_eq F42.t23_eq F42.t21_eq F42.t19_eq F42.t15_eq F42.t13_eq F42.t11_eq F42.t8_eq
theorem rset_t15 (hm : m < 256) (hd : e.ds = []) (e0 : e.ρ 0 = .pointer (some ⟨b, 0, none⟩)) (e1 : e.ρ 1 = .int .i64 i) (e7 : e.ρ 7 = .pointer (some ⟨D, 0, none⟩)) (e8 : e.ρ 8 = .int .u8 m) (e12 : e.ρ 12 = .pointer (some ⟨E, 0, none⟩))
    (h : St w0 (infB E x * (infB D t * F)) w)
    (hR : ∀ (e : FA) (w : World), e.ds = [] → e.ρ 0 = .pointer (some ⟨b, 0, none⟩) → e.ρ 1 = .int .i64 i → e.ρ 12 = .pointer (some ⟨E, 0, none⟩) → St w0 (infB E (g6 m (g5 m t (g4 m t (g3 m t (g2 m t x))))) * (infB D t * F)) w → cwE Tryz.prog F42.t25 (fnP Tryz.prog #[.tmp 6] R) e w) :
    cwE Tryz.prog F42.t15 (fnP Tryz.prog #[.tmp 6] R) e w := by
  rw [F42.t15_eq]
  simp -dsimp -implicitDefEqProofs (disch := omega) only [go_sem, hd, e0, e1, e7, e8, e12]
  refine (refHas_any hm (k := 2) (by omega) (c := 4) rfl h).mono ?_
  rintro e' w1 ⟨h1, rfl⟩
  cases k : m.testBit 2
  · have hg : g2 m t x = x := by simp [g2, k]
    rw [hg] at hR
    simp -dsimp -implicitDefEqProofs (disch := omega) only [go_sem, hd, e0, e1, e7, e8, e12]
    exact rset_t17 hm (by simp -dsimp -implicitDefEqProofs only [go_sem, hd]) (by simp -dsimp -implicitDefEqProofs only [go_sem, e0]) (by simp -dsimp -implicitDefEqProofs only [go_sem, e1]) (by simp -dsimp -implicitDefEqProofs only [go_sem, e7]) (by simp -dsimp -implicitDefEqProofs only [go_sem, e8]) (by simp -dsimp -implicitDefEqProofs only [go_sem, e12]) h1 hR
  · have hg : g2 m t x = { x with gid := t.gid } := by simp [g2, k]
    rw [hg] at hR
    simp -dsimp -implicitDefEqProofs (disch := omega) only [go_sem, hd, e0, e1, e7, e8, e12, h1.cl E, h1.cl D]
    refine h1.sto (by simp) rfl fun w2 h2 => ?_
    simp only [List.setIfInBounds_toArray, List.set_cons_succ, List.set_cons_zero] at h2
    simp -dsimp -implicitDefEqProofs (disch := omega) only [go_sem]
    exact rset_t17 hm (by simp -dsimp -implicitDefEqProofs only [go_sem, hd]) (by simp -dsimp -implicitDefEqProofs only [go_sem, e0]) (by simp -dsimp -implicitDefEqProofs only [go_sem, e1]) (by simp -dsimp -implicitDefEqProofs only [go_sem, e7]) (by simp -dsimp -implicitDefEqProofs only [go_sem, e8]) (by simp -dsimp -implicitDefEqProofs only [go_sem, e12]) h2 hR
end
section
attribute [local go_sem] F42.t25_eq F42.t23_eq F42.t21_eq F42.t19_eq F42.t17_eq F42.t13_eq F42.t11_eq F42.t8_eq
theorem rset_t13 (hm : m < 256) (hd : e.ds = []) (e0 : e.ρ 0 = .pointer (some ⟨b, 0, none⟩)) (e1 : e.ρ 1 = .int .i64 i) (e7 : e.ρ 7 = .pointer (some ⟨D, 0, none⟩)) (e8 : e.ρ 8 = .int .u8 m) (e12 : e.ρ 12 = .pointer (some ⟨E, 0, none⟩))
    (h : St w0 (infB E x * (infB D t * F)) w)
    (hR : ∀ (e : FA) (w : World), e.ds = [] → e.ρ 0 = .pointer (some ⟨b, 0, none⟩) → e.ρ 1 = .int .i64 i → e.ρ 12 = .pointer (some ⟨E, 0, none⟩) → St w0 (infB E (g6 m (g5 m t (g4 m t (g3 m t (g2 m t (g1 m t x)))))) * (infB D t * F)) w → cwE Tryz.prog F42.t25 (fnP Tryz.prog #[.tmp 6] R) e w) :
    cwE Tryz.prog F42.t13 (fnP Tryz.prog #[.tmp 6] R) e w := by
  rw [F42.t13_eq]
  simp -dsimp -implicitDefEqProofs (disch := omega) only [go_sem, hd, e0, e1, e7, e8, e12]
  refine (refHas_any hm (k := 1) (by omega) (c := 2) rfl h).mono ?_
  rintro e' w1 ⟨h1, rfl⟩
  cases k : m.testBit 1
  · have hg : g1 m t x = x := by simp [g1, k]
    rw [hg] at hR
    simp -dsimp -implicitDefEqProofs (disch := omega) only [go_sem, hd, e0, e1, e7, e8, e12]
    exact rset_t15 hm (by simp -dsimp -implicitDefEqProofs only [go_sem, hd]) (by simp -dsimp -implicitDefEqProofs only [go_sem, e0]) (by simp -dsimp -implicitDefEqProofs only [go_sem, e1]) (by simp -dsimp -implicitDefEqProofs only [go_sem, e7]) (by simp -dsimp -implicitDefEqProofs only [go_sem, e8]) (by simp -dsimp -implicitDefEqProofs only [go_sem, e12]) h1 hR
  · have hg : g1 m t x = { x with uid := t.uid } := by simp [g1, k]
    rw [hg] at hR
    simp -dsimp -implicitDefEqProofs (disch := omega) only [go_sem, hd, e0, e1, e7, e8, e12, h1.cl E, h1.cl D]
    refine h1.sto (by simp) rfl fun w2 h2 => ?_
    simp only [List.setIfInBounds_toArray, List.set_cons_succ, List.set_cons_zero] at h2
    simp -dsimp -implicitDefEqProofs (disch := omega) only [go_sem]
    exact rset_t15 hm (by simp -dsimp -implicitDefEqProofs only [go_sem, hd]) (by simp -dsimp -implicitDefEqProofs only [go_sem, e0]) (by simp -dsimp -implicitDefEqProofs only [go_sem, e1]) (by simp -dsimp -implicitDefEqProofs only [go_sem, e7]) (by simp -dsimp -implicitDefEqProofs only [go_sem, e8]) (by simp -dsimp -implicitDefEqProofs only [go_sem, e12]) h2 hR
end
section
attribute [local go_sem] F42.t25_eq F42.t23_eq F42.t21_eq F42.t19_eq F42.t17_eq F42.t15_eq F42.t11_eq F42.t8_eq
theorem rset_t11 (hm : m < 256) (hd : e.ds = []) (e0 : e.ρ 0 = .pointer (some ⟨b, 0, none⟩)) (e1 : e.ρ 1 = .int .i64 i) (e7 : e.ρ 7 = .pointer (some ⟨D, 0, none⟩)) (e8 : e.ρ 8 = .int .u8 m) (e12 : e.ρ 12 = .pointer (some ⟨E, 0, none⟩))
    (h : St w0 (infB E x * (infB D t * F)) w)
    (hR : ∀ (e : FA) (w : World), e.ds = [] → e.ρ 0 = .pointer (some ⟨b, 0, none⟩) → e.ρ 1 = .int .i64 i → e.ρ 12 = .pointer (some ⟨E, 0, none⟩) → St w0 (infB E (g6 m (g5 m t (g4 m t (g3 m t (g2 m t (g1 m t (g0 m t x))))))) * (infB D t * F)) w → cwE Tryz.prog F42.t25 (fnP Tryz.prog #[.tmp 6] R) e w) :
    cwE Tryz.prog F42.t11 (fnP Tryz.prog #[.tmp 6] R) e w := by
  rw [F42.t11_eq]
  simp -dsimp -implicitDefEqProofs (disch := omega) only [go_sem, hd, e0, e1, e7, e8, e12]
  refine (refHas_any hm (k := 0) (by omega) (c := 1) rfl h).mono ?_
  rintro e' w1 ⟨h1, rfl⟩
  cases k : m.testBit 0
  · have hg : g0 m t x = x := by simp [g0, k]
    rw [hg] at hR
    simp -dsimp -implicitDefEqProofs (disch := omega) only [go_sem, hd, e0, e1, e7, e8, e12]
    exact rset_t13 hm (by simp -dsimp -implicitDefEqProofs only [go_sem, hd]) (by simp -dsimp -implicitDefEqProofs only [go_sem, e0]) (by simp -dsimp -implicitDefEqProofs only [go_sem, e1]) (by simp -dsimp -implicitDefEqProofs only [go_sem, e7]) (by simp -dsimp -implicitDefEqProofs only [go_sem, e8]) (by simp -dsimp -implicitDefEqProofs only [go_sem, e12]) h1 hR
  · have hg : g0 m t x = { x with mode := t.mode } := by simp [g0, k]
    rw [hg] at hR
    simp -dsimp -implicitDefEqProofs (disch := omega) only [go_sem, hd, e0, e1, e7, e8, e12, h1.cl E, h1.cl D]
    refine h1.sto (by simp) rfl fun w2 h2 => ?_
    simp only [List.setIfInBounds_toArray, List.set_cons_succ, List.set_cons_zero] at h2
    simp -dsimp -implicitDefEqProofs (disch := omega) only [go_sem]
    exact rset_t13 hm (by simp -dsimp -implicitDefEqProofs only [go_sem, hd]) (by simp -dsimp -implicitDefEqProofs only [go_sem, e0]) (by simp -dsimp -implicitDefEqProofs only [go_sem, e1]) (by simp -dsimp -implicitDefEqProofs only [go_sem, e7]) (by simp -dsimp -implicitDefEqProofs only [go_sem, e8]) (by simp -dsimp -implicitDefEqProofs only [go_sem, e12]) h2 hR
end
end
section
variable {w0 w : World} {A F : HP} {b i m E D : Nat} {s : SD} {v : Value} {X : List EV} {t x : Inf} {e : FA} {R : Ending → World → Prop}
def SetR (w0 : World) (b i m : Nat) (t : Inf) (s : SD) (hi : i < s.L.length) (A : HP) (e : Ending) (w : World) : Prop := match setF m t s.L[i].i with
  | .error x => St w0 (RefP b s * A) w ∧ e = .returned (.int .i64 x)
  | .ok j => St w0 (RefP b { s with L := updN s.L s.L[i].i.path fun _ => ⟨j, s.L[i].b⟩ } * A) w ∧ e = .returned (.int .i64 0)
theorem SetR.err {hi : i < s.L.length} {x : Nat} (hr : setF m t s.L[i].i = .error x) (h : St w0 (RefP b s * A) w) : SetR w0 b i m t s hi A (.returned (.int .i64 x)) w := by
  unfold SetR
  rw [hr]
  exact ⟨h, rfl⟩
theorem SetR.ok {hi : i < s.L.length} {j : Inf} (hr : setF m t s.L[i].i = .ok j) (h : St w0 (RefP b { s with L := updN s.L s.L[i].i.path fun _ => ⟨j, s.L[i].b⟩ } * A) w) : SetR w0 b i m t s hi A (.returned (.int .i64 0)) w := by
  unfold SetR
  rw [hr]
  exact ⟨h, rfl⟩
theorem SetR.drop {hi : i < s.L.length} {B : HP} {e : Ending} (h : SetR w0 b i m t s hi (B * A) e w) : SetR w0 b i m t s hi A e w := by
  unfold SetR at h ⊢
  cases hr : setF m t s.L[i].i with
  | error x => rw [hr] at h; exact ⟨h.1.ent (Ent.sep (Ent.rfl' _) (Ent.right _ _)), h.2⟩
  | ok j => rw [hr] at h; exact ⟨h.1.ent (Ent.sep (Ent.rfl' _) (Ent.right _ _)), h.2⟩
theorem tg0 (L : List NodeD) (n : Inf) (b : List UInt8) : tellF L ⟨g0 m t n, b⟩ = g0 m t (tellF L ⟨n, b⟩) := rfl
theorem tg1 (L : List NodeD) (n : Inf) (b : List UInt8) : tellF L ⟨g1 m t n, b⟩ = g1 m t (tellF L ⟨n, b⟩) := rfl
theorem tg2 (L : List NodeD) (n : Inf) (b : List UInt8) : tellF L ⟨g2 m t n, b⟩ = g2 m t (tellF L ⟨n, b⟩) := rfl
theorem tg3 (L : List NodeD) (n : Inf) (b : List UInt8) : tellF L ⟨g3 m t n, b⟩ = g3 m t (tellF L ⟨n, b⟩) := rfl
theorem tg4 (L : List NodeD) (n : Inf) (b : List UInt8) : tellF L ⟨g4 m t n, b⟩ = g4 m t (tellF L ⟨n, b⟩) := rfl
theorem tg5 (L : List NodeD) (n : Inf) (b : List UInt8) : tellF L ⟨g5 m t n, b⟩ = g5 m t (tellF L ⟨n, b⟩) := rfl
theorem tg6 (L : List NodeD) (n : Inf) (b : List UInt8) : tellF L ⟨g6 m n, b⟩ = g6 m (tellF L ⟨n, b⟩) := rfl
theorem set_is {t n : Inf} (in1 : (m.testBit 7 || m.testBit 0 && !modeF t.mode || m.testBit 1 && !userF t.uid || m.testBit 2 && !userF t.gid || m.testBit 3 && !userF t.muid) = false) (hk : (m.testBit 0 && !(dirF t.mode == dirF n.mode)) = false) : setF m t n = .ok (g6 m (g5 m t (g4 m t (g3 m t (g2 m t (g1 m t (g0 m t n))))))) := by
  unfold setF
  rw [in1, hk]
  rfl
theorem tg_is (L : List NodeD) (n : NodeD) : (g6 m (g5 m t (g4 m t (g3 m t (g2 m t (g1 m t (g0 m t (tellF L n)))))))) = tellF L ⟨(g6 m (g5 m t (g4 m t (g3 m t (g2 m t (g1 m t (g0 m t n.i))))))), n.b⟩ := by
  rw [tg6, tg5, tg4, tg3, tg2, tg1, tg0]
section
attribute [local go_sem] F42.t25_eq F42.t23_eq F42.t21_eq F42.t19_eq F42.t17_eq F42.t15_eq F42.t13_eq F42.t8_eq
theorem rset_t8 (ok : RefOk s X) (hi : i < s.L.length) (hm : m < 256) (h1 : t.mode < 4294967296) (h2 : t.atime < 4294967296) (h3 : t.mtime < 4294967296) (in1 : (m.testBit 7 || m.testBit 0 && !modeF t.mode || m.testBit 1 && !userF t.uid || m.testBit 2 && !userF t.gid || m.testBit 3 && !userF t.muid) = false)
    (hd : e.ds = []) (e0 : e.ρ 0 = .pointer (some ⟨b, 0, none⟩)) (e1 : e.ρ 1 = .int .i64 i) (e7 : e.ρ 7 = .pointer (some ⟨D, 0, none⟩)) (e8 : e.ρ 8 = .int .u8 m)
    (h : St w0 (infB D t * (RefB b s v * (RefL s.L v X * (starL bytesP X * A)))) w) (hR : ∀ e' w', SetR w0 b i m t s hi A e' w' → R e' w') :
    cwE Tryz.prog F42.t8 (fnP Tryz.prog #[.tmp 6] R) e w := by
  have hX : i < X.length := by rw [ok.len]; exact hi
  rw [F42.t8_eq]
  have hq := h.ac (show _ = RefB b s v * (RefL s.L v X * (infB D t * (starL bytesP X * A))) by ac_rfl)
  obtain ⟨g, o, c, hiS, hv, prow, hc, _⟩ := hq.entF ok hX
  subst hv
  have hlen := ok.len
  have hfw := ok.wf.few
  have hms := ok.wf.most
  simp -dsimp -implicitDefEqProofs (disch := omega) only [go_sem, hd, e0, e1, e7, e8, hq.cl b, prow]
  refine hq.new fun E w1 k1 => ?_
  simp -dsimp -implicitDefEqProofs (disch := omega) only [go_sem, hd, e0, e1, e7, e8]
  refine k1.stoAll (b := E) (cs := infL (tellF s.L s.L[i])) rfl rfl (infL_cells _) fun w2 k2 => ?_
  have k3 : St w0 (infB E (tellF s.L s.L[i]) * (infB D t * (RefB b s (.slice (some ⟨g, o, none⟩) X.length c) * (RefL s.L (.slice (some ⟨g, o, none⟩) X.length c) X * (starL bytesP X * A))))) w2 := k2.ac (by simp only [infB]; ac_rfl)
  have fin : (m.testBit 0 && !(dirF t.mode == dirF s.L[i].i.mode)) = false → ∀ (e : FA) (w : World), e.ds = [] → e.ρ 0 = .pointer (some ⟨b, 0, none⟩) → e.ρ 1 = .int .i64 i → e.ρ 12 = .pointer (some ⟨E, 0, none⟩) → St w0 (infB E (g6 m (g5 m t (g4 m t (g3 m t (g2 m t (g1 m t (g0 m t (tellF s.L s.L[i])))))))) * (infB D t * (RefB b s (.slice (some ⟨g, o, none⟩) X.length c) * (RefL s.L (.slice (some ⟨g, o, none⟩) X.length c) X * (starL bytesP X * A))))) w → cwE Tryz.prog F42.t25 (fnP Tryz.prog #[.tmp 6] R) e w := by
    intro hk e w hd e0 e1 e12 h
    have hr := set_is in1 hk
    rw [tg_is] at h
    obtain ⟨j, hj⟩ : ∃ j, j = (g6 m (g5 m t (g4 m t (g3 m t (g2 m t (g1 m t (g0 m t s.L[i].i))))))) := ⟨_, rfl⟩
    rw [← hj] at h hr
    have hok := set_ok hr (ok.wf.ok _ (List.getElem_mem hi)) h1 h2 h3
    have hw := one_wf ok.wf (List.getElem_mem hi) (r := .ok ⟨j, s.L[i].b⟩) (fun n' e => by cases e; exact hok)
    exact rset_t25 ok hi hw hok.1 hd e0 e1 e12 h fun w' h' => hR _ _ (SetR.ok hr h')
  simp -dsimp -implicitDefEqProofs (disch := omega) only [go_sem, hd, e0, e1, e7, e8]
  refine (refHas_any hm (k := 0) (by omega) (c := 1) rfl k3.drew).mono ?_
  rintro e' w3 ⟨k4, rfl⟩
  cases x0 : m.testBit 0
  · simp -dsimp -implicitDefEqProofs (disch := omega) only [go_sem, hd, e0, e1, e7, e8]
    exact rset_t11 hm (by simp -dsimp -implicitDefEqProofs only [go_sem, hd]) (by simp -dsimp -implicitDefEqProofs only [go_sem, e0]) (by simp -dsimp -implicitDefEqProofs only [go_sem, e1]) (by simp -dsimp -implicitDefEqProofs only [go_sem, e7]) (by simp -dsimp -implicitDefEqProofs only [go_sem, e8]) (by simp -dsimp -implicitDefEqProofs only [go_sem]) k4 (fin (by rw [x0]; rfl))
  · simp -dsimp -implicitDefEqProofs (disch := omega) only [go_sem, hd, e0, e1, e7, e8, k4.cl E, k4.cl D]
    refine (refDir_any (n := t) k4).mono ?_
    rintro e' w4 ⟨k5, rfl⟩
    simp -dsimp -implicitDefEqProofs (disch := omega) only [go_sem, hd, e0, e1, e7, e8, k5.cl E, k5.cl D]
    refine (refDir_any (n := tellF s.L s.L[i]) k5).mono ?_
    rintro e' w5 ⟨k6, rfl⟩
    rw [show (tellF s.L s.L[i]).mode = s.L[i].i.mode from rfl]
    have bad : dirF t.mode ≠ dirF s.L[i].i.mode → setF m t s.L[i].i = .error 81 := fun hk => by
      unfold setF
      rw [in1, x0]
      have : (dirF t.mode == dirF s.L[i].i.mode) = false := by simpa using hk
      rw [this]
      rfl
    have shut : ∀ {w}, St w0 (infB E (tellF s.L s.L[i]) * (infB D t * (RefB b s (.slice (some ⟨g, o, none⟩) X.length c) * (RefL s.L (.slice (some ⟨g, o, none⟩) X.length c) X * (starL bytesP X * A))))) w → St w0 (RefP b s * A) w := fun h => by
      have h := h.right.right
      rw [RefQ.as] at h
      exact h.ent (Ent.sep (RefP.shut ok) (Ent.rfl' _))
    cases c1 : dirF t.mode <;> cases c2 : dirF s.L[i].i.mode
    case' false.false => (
      simp -dsimp -implicitDefEqProofs (disch := omega) only [go_sem, hd, e0, e1, e7, e8, k6.cl E, k6.cl D]
      rw [show (!(false == false)) = false from rfl]
      simp -dsimp -implicitDefEqProofs (disch := omega) only [go_sem, hd]
      exact rset_t11 hm (by simp -dsimp -implicitDefEqProofs only [go_sem, hd]) (by simp -dsimp -implicitDefEqProofs only [go_sem, e0]) (by simp -dsimp -implicitDefEqProofs only [go_sem, e1]) (by simp -dsimp -implicitDefEqProofs only [go_sem, e7]) (by simp -dsimp -implicitDefEqProofs only [go_sem, e8]) (by simp -dsimp -implicitDefEqProofs only [go_sem]) k6 (fin (by rw [c1, c2]; simp)))
    case' true.true => (
      simp -dsimp -implicitDefEqProofs (disch := omega) only [go_sem, hd, e0, e1, e7, e8, k6.cl E, k6.cl D]
      rw [show (!(true == true)) = false from rfl]
      simp -dsimp -implicitDefEqProofs (disch := omega) only [go_sem, hd]
      exact rset_t11 hm (by simp -dsimp -implicitDefEqProofs only [go_sem, hd]) (by simp -dsimp -implicitDefEqProofs only [go_sem, e0]) (by simp -dsimp -implicitDefEqProofs only [go_sem, e1]) (by simp -dsimp -implicitDefEqProofs only [go_sem, e7]) (by simp -dsimp -implicitDefEqProofs only [go_sem, e8]) (by simp -dsimp -implicitDefEqProofs only [go_sem]) k6 (fin (by rw [c1, c2]; simp)))
    all_goals (
      simp -dsimp -implicitDefEqProofs (disch := omega) only [go_sem, hd, e0, e1, e7, e8, k6.cl E, k6.cl D]
      first | rw [show (!(false == true)) = true from rfl] | rw [show (!(true == false)) = true from rfl]
      simp -dsimp -implicitDefEqProofs (disch := omega) only [go_sem, hd]
      exact hR _ _ (SetR.err (bad (by rw [c1, c2]; simp)) (shut k6)))
end
end
theorem bit7 {m : Nat} (hm : m < 256) : m.testBit 7 = decide (127 < m) := by
  rw [Nat.testBit_eq_decide_div_mod_eq, decide_eq_decide]
  omega
section
variable {w0 w : World} {A : HP} {b i : Nat} {s : SD} {v vd : Value} {X : List EV} {o : OpD}
section
attribute [local go_sem] F42.t25_eq F42.t23_eq F42.t21_eq F42.t19_eq F42.t17_eq F42.t15_eq F42.t13_eq F42.t11_eq
theorem refSet_any (ok : RefOk s X) (hi : i < s.L.length) (hin : OpIn o) (h : St w0 (RefB b s v * (RefL s.L v X * (starL bytesP X * A))) w) :
    Calls Tryz.prog 42 #[.pointer (some ⟨b, 0, none⟩), .int .i64 i, .agg (opL o vd).toArray] w fun e w' => SetR w0 b i o.mask o.node s hi A e w' := by
  have hm := hin.mask
  have q1 := hin.uid
  have q2 := hin.gid
  have q3 := hin.muid
  have k7 := bit7 hm
  refine F42.calls (by simp) ?_
  unfold F42.code
  simp -dsimp -implicitDefEqProofs (disch := omega) only [go_sem]
  refine h.new fun B w1 h1 => ?_
  have p1 : rowV w1 ⟨B, 4, none⟩ 13 = some (.agg (infL o.node).toArray) := h1.rowAtH B 4 13 (Nat.le_of_ble_eq_true rfl)
  simp -dsimp -implicitDefEqProofs (disch := omega) only [go_sem, p1]
  refine h1.new fun D w2 h2 => ?_
  simp -dsimp -implicitDefEqProofs (disch := omega) only [go_sem]
  refine h2.stoAll (b := D) (cs := infL o.node) rfl rfl (infL_cells _) fun w3 h3 => ?_
  have h4 : St w0 (infB D o.node * (RefB b s v * (RefL s.L v X * (starL bytesP X * (opB B o vd * A))))) w3 := h3.ac (by simp only [infB, opB]; ac_rfl)
  have b3 : w3.cell? ⟨B, 3, none⟩ = some (.int .u8 o.mask) := (h4.cl B) 3
  simp -dsimp -implicitDefEqProofs (disch := omega) only [go_sem, b3, h4.cl D]
  refine (refUser_any h4 (l := o.node.uid) (by omega)).mono ?_
  rintro e w4 ⟨h5, rfl⟩
  simp -dsimp -implicitDefEqProofs (disch := omega) only [go_sem, h5.cl D]
  refine (refUser_any h5 (l := o.node.gid) (by omega)).mono ?_
  rintro e w5 ⟨h6, rfl⟩
  simp -dsimp -implicitDefEqProofs (disch := omega) only [go_sem, h6.cl D]
  refine (refUser_any h6 (l := o.node.muid) (by omega)).mono ?_
  rintro e w6 ⟨h, rfl⟩
  have shut : ∀ {w}, St w0 (infB D o.node * (RefB b s v * (RefL s.L v X * (starL bytesP X * (opB B o vd * A))))) w → St w0 (RefP b s * (opB B o vd * A)) w := fun h => by
    have h := h.right
    rw [RefQ.as] at h
    exact h.ent (Ent.sep (RefP.shut ok) (Ent.rfl' _))
  have out : (o.mask.testBit 7 || o.mask.testBit 0 && !modeF o.node.mode || o.mask.testBit 1 && !userF o.node.uid || o.mask.testBit 2 && !userF o.node.gid || o.mask.testBit 3 && !userF o.node.muid) = true → setF o.mask o.node s.L[i].i = .error 1 := fun hx => by
    unfold setF
    rw [hx]
    rfl
  by_cases c7 : (127 : Int) < o.mask
  · have b7 : o.mask.testBit 7 = true := by rw [k7]; exact decide_eq_true (by omega)
    simp -dsimp -implicitDefEqProofs (disch := omega) only [go_sem, c7]
    exact SetR.drop (SetR.err (out (by simp only [b7, Bool.true_or])) (shut h))
  have b7 : o.mask.testBit 7 = false := by rw [k7]; exact decide_eq_false (by omega)
  simp -dsimp -implicitDefEqProofs (disch := omega) only [go_sem, c7]
  refine (refHas_any hm (k := 0) (by omega) (c := 1) rfl h).mono ?_
  rintro e' w ⟨h, rfl⟩
  cases x0 : o.mask.testBit 0
  · simp -dsimp -implicitDefEqProofs (disch := omega) only [go_sem]
    refine (refHas_any hm (k := 1) (by omega) (c := 2) rfl h).mono ?_
    rintro e' w ⟨h, rfl⟩
    cases x1 : o.mask.testBit 1
    · simp -dsimp -implicitDefEqProofs (disch := omega) only [go_sem]
      refine (refHas_any hm (k := 2) (by omega) (c := 4) rfl h).mono ?_
      rintro e' w ⟨h, rfl⟩
      cases x2 : o.mask.testBit 2
      · simp -dsimp -implicitDefEqProofs (disch := omega) only [go_sem]
        refine (refHas_any hm (k := 3) (by omega) (c := 8) rfl h).mono ?_
        rintro e' w ⟨h, rfl⟩
        cases x3 : o.mask.testBit 3
        · simp -dsimp -implicitDefEqProofs (disch := omega) only [go_sem]
          exact rset_t8 ok hi hm hin.ok.mode hin.ok.atime hin.ok.mtime (by simp only [b7, x0, Bool.false_and, Bool.or_false, Bool.false_or, x1, Bool.false_and, Bool.or_false, Bool.false_or, x2, Bool.false_and, Bool.or_false, Bool.false_or, x3, Bool.false_and, Bool.or_false, Bool.false_or]) (by simp -dsimp -implicitDefEqProofs only [go_sem]) (by simp -dsimp -implicitDefEqProofs only [go_sem]) (by simp -dsimp -implicitDefEqProofs only [go_sem]) (by simp -dsimp -implicitDefEqProofs only [go_sem]) (by simp -dsimp -implicitDefEqProofs only [go_sem]) h fun e w h => SetR.drop h
        · skip
          cases y3 : userF o.node.muid
          · simp -dsimp -implicitDefEqProofs (disch := omega) only [go_sem]
            exact SetR.drop (SetR.err (out (by simp only [b7, x0, Bool.false_and, Bool.or_false, Bool.false_or, x1, Bool.false_and, Bool.or_false, Bool.false_or, x2, Bool.false_and, Bool.or_false, Bool.false_or, x3, y3, Bool.not_false, Bool.true_and, Bool.or_true, Bool.true_or])) (shut h))
          · simp -dsimp -implicitDefEqProofs (disch := omega) only [go_sem]
            exact rset_t8 ok hi hm hin.ok.mode hin.ok.atime hin.ok.mtime (by simp only [b7, x0, Bool.false_and, Bool.or_false, Bool.false_or, x1, Bool.false_and, Bool.or_false, Bool.false_or, x2, Bool.false_and, Bool.or_false, Bool.false_or, x3, y3, Bool.not_true, Bool.and_false, Bool.or_false]) (by simp -dsimp -implicitDefEqProofs only [go_sem]) (by simp -dsimp -implicitDefEqProofs only [go_sem]) (by simp -dsimp -implicitDefEqProofs only [go_sem]) (by simp -dsimp -implicitDefEqProofs only [go_sem]) (by simp -dsimp -implicitDefEqProofs only [go_sem]) h fun e w h => SetR.drop h
      · skip
        cases y2 : userF o.node.gid
        · simp -dsimp -implicitDefEqProofs (disch := omega) only [go_sem]
          exact SetR.drop (SetR.err (out (by simp only [b7, x0, Bool.false_and, Bool.or_false, Bool.false_or, x1, Bool.false_and, Bool.or_false, Bool.false_or, x2, y2, Bool.not_false, Bool.true_and, Bool.or_true, Bool.true_or])) (shut h))
        · simp -dsimp -implicitDefEqProofs (disch := omega) only [go_sem]
          refine (refHas_any hm (k := 3) (by omega) (c := 8) rfl h).mono ?_
          rintro e' w ⟨h, rfl⟩
          cases x3 : o.mask.testBit 3
          · simp -dsimp -implicitDefEqProofs (disch := omega) only [go_sem]
            exact rset_t8 ok hi hm hin.ok.mode hin.ok.atime hin.ok.mtime (by simp only [b7, x0, Bool.false_and, Bool.or_false, Bool.false_or, x1, Bool.false_and, Bool.or_false, Bool.false_or, x2, y2, Bool.not_true, Bool.and_false, Bool.or_false, x3, Bool.false_and, Bool.or_false, Bool.false_or]) (by simp -dsimp -implicitDefEqProofs only [go_sem]) (by simp -dsimp -implicitDefEqProofs only [go_sem]) (by simp -dsimp -implicitDefEqProofs only [go_sem]) (by simp -dsimp -implicitDefEqProofs only [go_sem]) (by simp -dsimp -implicitDefEqProofs only [go_sem]) h fun e w h => SetR.drop h
          · skip
            cases y3 : userF o.node.muid
            · simp -dsimp -implicitDefEqProofs (disch := omega) only [go_sem]
              exact SetR.drop (SetR.err (out (by simp only [b7, x0, Bool.false_and, Bool.or_false, Bool.false_or, x1, Bool.false_and, Bool.or_false, Bool.false_or, x2, y2, Bool.not_true, Bool.and_false, Bool.or_false, x3, y3, Bool.not_false, Bool.true_and, Bool.or_true, Bool.true_or])) (shut h))
            · simp -dsimp -implicitDefEqProofs (disch := omega) only [go_sem]
              exact rset_t8 ok hi hm hin.ok.mode hin.ok.atime hin.ok.mtime (by simp only [b7, x0, Bool.false_and, Bool.or_false, Bool.false_or, x1, Bool.false_and, Bool.or_false, Bool.false_or, x2, y2, Bool.not_true, Bool.and_false, Bool.or_false, x3, y3, Bool.not_true, Bool.and_false, Bool.or_false]) (by simp -dsimp -implicitDefEqProofs only [go_sem]) (by simp -dsimp -implicitDefEqProofs only [go_sem]) (by simp -dsimp -implicitDefEqProofs only [go_sem]) (by simp -dsimp -implicitDefEqProofs only [go_sem]) (by simp -dsimp -implicitDefEqProofs only [go_sem]) h fun e w h => SetR.drop h
    · skip
      cases y1 : userF o.node.uid
      · simp -dsimp -implicitDefEqProofs (disch := omega) only [go_sem]
        exact SetR.drop (SetR.err (out (by simp only [b7, x0, Bool.false_and, Bool.or_false, Bool.false_or, x1, y1, Bool.not_false, Bool.true_and, Bool.or_true, Bool.true_or])) (shut h))
      · simp -dsimp -implicitDefEqProofs (disch := omega) only [go_sem]
        refine (refHas_any hm (k := 2) (by omega) (c := 4) rfl h).mono ?_
        rintro e' w ⟨h, rfl⟩
        cases x2 : o.mask.testBit 2
        · simp -dsimp -implicitDefEqProofs (disch := omega) only [go_sem]
          refine (refHas_any hm (k := 3) (by omega) (c := 8) rfl h).mono ?_
          rintro e' w ⟨h, rfl⟩
          cases x3 : o.mask.testBit 3
          · simp -dsimp -implicitDefEqProofs (disch := omega) only [go_sem]
            exact rset_t8 ok hi hm hin.ok.mode hin.ok.atime hin.ok.mtime (by simp only [b7, x0, Bool.false_and, Bool.or_false, Bool.false_or, x1, y1, Bool.not_true, Bool.and_false, Bool.or_false, x2, Bool.false_and, Bool.or_false, Bool.false_or, x3, Bool.false_and, Bool.or_false, Bool.false_or]) (by simp -dsimp -implicitDefEqProofs only [go_sem]) (by simp -dsimp -implicitDefEqProofs only [go_sem]) (by simp -dsimp -implicitDefEqProofs only [go_sem]) (by simp -dsimp -implicitDefEqProofs only [go_sem]) (by simp -dsimp -implicitDefEqProofs only [go_sem]) h fun e w h => SetR.drop h
          · skip
            cases y3 : userF o.node.muid
            · simp -dsimp -implicitDefEqProofs (disch := omega) only [go_sem]
              exact SetR.drop (SetR.err (out (by simp only [b7, x0, Bool.false_and, Bool.or_false, Bool.false_or, x1, y1, Bool.not_true, Bool.and_false, Bool.or_false, x2, Bool.false_and, Bool.or_false, Bool.false_or, x3, y3, Bool.not_false, Bool.true_and, Bool.or_true, Bool.true_or])) (shut h))
            · simp -dsimp -implicitDefEqProofs (disch := omega) only [go_sem]
              exact rset_t8 ok hi hm hin.ok.mode hin.ok.atime hin.ok.mtime (by simp only [b7, x0, Bool.false_and, Bool.or_false, Bool.false_or, x1, y1, Bool.not_true, Bool.and_false, Bool.or_false, x2, Bool.false_and, Bool.or_false, Bool.false_or, x3, y3, Bool.not_true, Bool.and_false, Bool.or_false]) (by simp -dsimp -implicitDefEqProofs only [go_sem]) (by simp -dsimp -implicitDefEqProofs only [go_sem]) (by simp -dsimp -implicitDefEqProofs only [go_sem]) (by simp -dsimp -implicitDefEqProofs only [go_sem]) (by simp -dsimp -implicitDefEqProofs only [go_sem]) h fun e w h => SetR.drop h
        · skip
          cases y2 : userF o.node.gid
          · simp -dsimp -implicitDefEqProofs (disch := omega) only [go_sem]
            exact SetR.drop (SetR.err (out (by simp only [b7, x0, Bool.false_and, Bool.or_false, Bool.false_or, x1, y1, Bool.not_true, Bool.and_false, Bool.or_false, x2, y2, Bool.not_false, Bool.true_and, Bool.or_true, Bool.true_or])) (shut h))
          · simp -dsimp -implicitDefEqProofs (disch := omega) only [go_sem]
            refine (refHas_any hm (k := 3) (by omega) (c := 8) rfl h).mono ?_
            rintro e' w ⟨h, rfl⟩
            cases x3 : o.mask.testBit 3
            · simp -dsimp -implicitDefEqProofs (disch := omega) only [go_sem]
              exact rset_t8 ok hi hm hin.ok.mode hin.ok.atime hin.ok.mtime (by simp only [b7, x0, Bool.false_and, Bool.or_false, Bool.false_or, x1, y1, Bool.not_true, Bool.and_false, Bool.or_false, x2, y2, Bool.not_true, Bool.and_false, Bool.or_false, x3, Bool.false_and, Bool.or_false, Bool.false_or]) (by simp -dsimp -implicitDefEqProofs only [go_sem]) (by simp -dsimp -implicitDefEqProofs only [go_sem]) (by simp -dsimp -implicitDefEqProofs only [go_sem]) (by simp -dsimp -implicitDefEqProofs only [go_sem]) (by simp -dsimp -implicitDefEqProofs only [go_sem]) h fun e w h => SetR.drop h
            · skip
              cases y3 : userF o.node.muid
              · simp -dsimp -implicitDefEqProofs (disch := omega) only [go_sem]
                exact SetR.drop (SetR.err (out (by simp only [b7, x0, Bool.false_and, Bool.or_false, Bool.false_or, x1, y1, Bool.not_true, Bool.and_false, Bool.or_false, x2, y2, Bool.not_true, Bool.and_false, Bool.or_false, x3, y3, Bool.not_false, Bool.true_and, Bool.or_true, Bool.true_or])) (shut h))
              · simp -dsimp -implicitDefEqProofs (disch := omega) only [go_sem]
                exact rset_t8 ok hi hm hin.ok.mode hin.ok.atime hin.ok.mtime (by simp only [b7, x0, Bool.false_and, Bool.or_false, Bool.false_or, x1, y1, Bool.not_true, Bool.and_false, Bool.or_false, x2, y2, Bool.not_true, Bool.and_false, Bool.or_false, x3, y3, Bool.not_true, Bool.and_false, Bool.or_false]) (by simp -dsimp -implicitDefEqProofs only [go_sem]) (by simp -dsimp -implicitDefEqProofs only [go_sem]) (by simp -dsimp -implicitDefEqProofs only [go_sem]) (by simp -dsimp -implicitDefEqProofs only [go_sem]) (by simp -dsimp -implicitDefEqProofs only [go_sem]) h fun e w h => SetR.drop h
  · skip
    simp -dsimp -implicitDefEqProofs (disch := omega) only [go_sem, h.cl D]
    refine (refMode_any hin.ok.mode h).mono ?_
    rintro e' w ⟨h, rfl⟩
    cases y0 : modeF o.node.mode
    · simp -dsimp -implicitDefEqProofs (disch := omega) only [go_sem]
      exact SetR.drop (SetR.err (out (by simp only [b7, x0, y0, Bool.not_false, Bool.true_and, Bool.or_true, Bool.true_or])) (shut h))
    · simp -dsimp -implicitDefEqProofs (disch := omega) only [go_sem]
      refine (refHas_any hm (k := 1) (by omega) (c := 2) rfl h).mono ?_
      rintro e' w ⟨h, rfl⟩
      cases x1 : o.mask.testBit 1
      · simp -dsimp -implicitDefEqProofs (disch := omega) only [go_sem]
        refine (refHas_any hm (k := 2) (by omega) (c := 4) rfl h).mono ?_
        rintro e' w ⟨h, rfl⟩
        cases x2 : o.mask.testBit 2
        · simp -dsimp -implicitDefEqProofs (disch := omega) only [go_sem]
          refine (refHas_any hm (k := 3) (by omega) (c := 8) rfl h).mono ?_
          rintro e' w ⟨h, rfl⟩
          cases x3 : o.mask.testBit 3
          · simp -dsimp -implicitDefEqProofs (disch := omega) only [go_sem]
            exact rset_t8 ok hi hm hin.ok.mode hin.ok.atime hin.ok.mtime (by simp only [b7, x0, y0, Bool.not_true, Bool.and_false, Bool.or_false, x1, Bool.false_and, Bool.or_false, Bool.false_or, x2, Bool.false_and, Bool.or_false, Bool.false_or, x3, Bool.false_and, Bool.or_false, Bool.false_or]) (by simp -dsimp -implicitDefEqProofs only [go_sem]) (by simp -dsimp -implicitDefEqProofs only [go_sem]) (by simp -dsimp -implicitDefEqProofs only [go_sem]) (by simp -dsimp -implicitDefEqProofs only [go_sem]) (by simp -dsimp -implicitDefEqProofs only [go_sem]) h fun e w h => SetR.drop h
          · skip
            cases y3 : userF o.node.muid
            · simp -dsimp -implicitDefEqProofs (disch := omega) only [go_sem]
              exact SetR.drop (SetR.err (out (by simp only [b7, x0, y0, Bool.not_true, Bool.and_false, Bool.or_false, x1, Bool.false_and, Bool.or_false, Bool.false_or, x2, Bool.false_and, Bool.or_false, Bool.false_or, x3, y3, Bool.not_false, Bool.true_and, Bool.or_true, Bool.true_or])) (shut h))
            · simp -dsimp -implicitDefEqProofs (disch := omega) only [go_sem]
              exact rset_t8 ok hi hm hin.ok.mode hin.ok.atime hin.ok.mtime (by simp only [b7, x0, y0, Bool.not_true, Bool.and_false, Bool.or_false, x1, Bool.false_and, Bool.or_false, Bool.false_or, x2, Bool.false_and, Bool.or_false, Bool.false_or, x3, y3, Bool.not_true, Bool.and_false, Bool.or_false]) (by simp -dsimp -implicitDefEqProofs only [go_sem]) (by simp -dsimp -implicitDefEqProofs only [go_sem]) (by simp -dsimp -implicitDefEqProofs only [go_sem]) (by simp -dsimp -implicitDefEqProofs only [go_sem]) (by simp -dsimp -implicitDefEqProofs only [go_sem]) h fun e w h => SetR.drop h
        · skip
          cases y2 : userF o.node.gid
          · simp -dsimp -implicitDefEqProofs (disch := omega) only [go_sem]
            exact SetR.drop (SetR.err (out (by simp only [b7, x0, y0, Bool.not_true, Bool.and_false, Bool.or_false, x1, Bool.false_and, Bool.or_false, Bool.false_or, x2, y2, Bool.not_false, Bool.true_and, Bool.or_true, Bool.true_or])) (shut h))
          · simp -dsimp -implicitDefEqProofs (disch := omega) only [go_sem]
            refine (refHas_any hm (k := 3) (by omega) (c := 8) rfl h).mono ?_
            rintro e' w ⟨h, rfl⟩
            cases x3 : o.mask.testBit 3
            · simp -dsimp -implicitDefEqProofs (disch := omega) only [go_sem]
              exact rset_t8 ok hi hm hin.ok.mode hin.ok.atime hin.ok.mtime (by simp only [b7, x0, y0, Bool.not_true, Bool.and_false, Bool.or_false, x1, Bool.false_and, Bool.or_false, Bool.false_or, x2, y2, Bool.not_true, Bool.and_false, Bool.or_false, x3, Bool.false_and, Bool.or_false, Bool.false_or]) (by simp -dsimp -implicitDefEqProofs only [go_sem]) (by simp -dsimp -implicitDefEqProofs only [go_sem]) (by simp -dsimp -implicitDefEqProofs only [go_sem]) (by simp -dsimp -implicitDefEqProofs only [go_sem]) (by simp -dsimp -implicitDefEqProofs only [go_sem]) h fun e w h => SetR.drop h
            · skip
              cases y3 : userF o.node.muid
              · simp -dsimp -implicitDefEqProofs (disch := omega) only [go_sem]
                exact SetR.drop (SetR.err (out (by simp only [b7, x0, y0, Bool.not_true, Bool.and_false, Bool.or_false, x1, Bool.false_and, Bool.or_false, Bool.false_or, x2, y2, Bool.not_true, Bool.and_false, Bool.or_false, x3, y3, Bool.not_false, Bool.true_and, Bool.or_true, Bool.true_or])) (shut h))
              · simp -dsimp -implicitDefEqProofs (disch := omega) only [go_sem]
                exact rset_t8 ok hi hm hin.ok.mode hin.ok.atime hin.ok.mtime (by simp only [b7, x0, y0, Bool.not_true, Bool.and_false, Bool.or_false, x1, Bool.false_and, Bool.or_false, Bool.false_or, x2, y2, Bool.not_true, Bool.and_false, Bool.or_false, x3, y3, Bool.not_true, Bool.and_false, Bool.or_false]) (by simp -dsimp -implicitDefEqProofs only [go_sem]) (by simp -dsimp -implicitDefEqProofs only [go_sem]) (by simp -dsimp -implicitDefEqProofs only [go_sem]) (by simp -dsimp -implicitDefEqProofs only [go_sem]) (by simp -dsimp -implicitDefEqProofs only [go_sem]) h fun e w h => SetR.drop h
      · skip
        cases y1 : userF o.node.uid
        · simp -dsimp -implicitDefEqProofs (disch := omega) only [go_sem]
          exact SetR.drop (SetR.err (out (by simp only [b7, x0, y0, Bool.not_true, Bool.and_false, Bool.or_false, x1, y1, Bool.not_false, Bool.true_and, Bool.or_true, Bool.true_or])) (shut h))
        · simp -dsimp -implicitDefEqProofs (disch := omega) only [go_sem]
          refine (refHas_any hm (k := 2) (by omega) (c := 4) rfl h).mono ?_
          rintro e' w ⟨h, rfl⟩
          cases x2 : o.mask.testBit 2
          · simp -dsimp -implicitDefEqProofs (disch := omega) only [go_sem]
            refine (refHas_any hm (k := 3) (by omega) (c := 8) rfl h).mono ?_
            rintro e' w ⟨h, rfl⟩
            cases x3 : o.mask.testBit 3
            · simp -dsimp -implicitDefEqProofs (disch := omega) only [go_sem]
              exact rset_t8 ok hi hm hin.ok.mode hin.ok.atime hin.ok.mtime (by simp only [b7, x0, y0, Bool.not_true, Bool.and_false, Bool.or_false, x1, y1, Bool.not_true, Bool.and_false, Bool.or_false, x2, Bool.false_and, Bool.or_false, Bool.false_or, x3, Bool.false_and, Bool.or_false, Bool.false_or]) (by simp -dsimp -implicitDefEqProofs only [go_sem]) (by simp -dsimp -implicitDefEqProofs only [go_sem]) (by simp -dsimp -implicitDefEqProofs only [go_sem]) (by simp -dsimp -implicitDefEqProofs only [go_sem]) (by simp -dsimp -implicitDefEqProofs only [go_sem]) h fun e w h => SetR.drop h
            · skip
              cases y3 : userF o.node.muid
              · simp -dsimp -implicitDefEqProofs (disch := omega) only [go_sem]
                exact SetR.drop (SetR.err (out (by simp only [b7, x0, y0, Bool.not_true, Bool.and_false, Bool.or_false, x1, y1, Bool.not_true, Bool.and_false, Bool.or_false, x2, Bool.false_and, Bool.or_false, Bool.false_or, x3, y3, Bool.not_false, Bool.true_and, Bool.or_true, Bool.true_or])) (shut h))
              · simp -dsimp -implicitDefEqProofs (disch := omega) only [go_sem]
                exact rset_t8 ok hi hm hin.ok.mode hin.ok.atime hin.ok.mtime (by simp only [b7, x0, y0, Bool.not_true, Bool.and_false, Bool.or_false, x1, y1, Bool.not_true, Bool.and_false, Bool.or_false, x2, Bool.false_and, Bool.or_false, Bool.false_or, x3, y3, Bool.not_true, Bool.and_false, Bool.or_false]) (by simp -dsimp -implicitDefEqProofs only [go_sem]) (by simp -dsimp -implicitDefEqProofs only [go_sem]) (by simp -dsimp -implicitDefEqProofs only [go_sem]) (by simp -dsimp -implicitDefEqProofs only [go_sem]) (by simp -dsimp -implicitDefEqProofs only [go_sem]) h fun e w h => SetR.drop h
          · skip
            cases y2 : userF o.node.gid
            · simp -dsimp -implicitDefEqProofs (disch := omega) only [go_sem]
              exact SetR.drop (SetR.err (out (by simp only [b7, x0, y0, Bool.not_true, Bool.and_false, Bool.or_false, x1, y1, Bool.not_true, Bool.and_false, Bool.or_false, x2, y2, Bool.not_false, Bool.true_and, Bool.or_true, Bool.true_or])) (shut h))
            · simp -dsimp -implicitDefEqProofs (disch := omega) only [go_sem]
              refine (refHas_any hm (k := 3) (by omega) (c := 8) rfl h).mono ?_
              rintro e' w ⟨h, rfl⟩
              cases x3 : o.mask.testBit 3
              · simp -dsimp -implicitDefEqProofs (disch := omega) only [go_sem]
                exact rset_t8 ok hi hm hin.ok.mode hin.ok.atime hin.ok.mtime (by simp only [b7, x0, y0, Bool.not_true, Bool.and_false, Bool.or_false, x1, y1, Bool.not_true, Bool.and_false, Bool.or_false, x2, y2, Bool.not_true, Bool.and_false, Bool.or_false, x3, Bool.false_and, Bool.or_false, Bool.false_or]) (by simp -dsimp -implicitDefEqProofs only [go_sem]) (by simp -dsimp -implicitDefEqProofs only [go_sem]) (by simp -dsimp -implicitDefEqProofs only [go_sem]) (by simp -dsimp -implicitDefEqProofs only [go_sem]) (by simp -dsimp -implicitDefEqProofs only [go_sem]) h fun e w h => SetR.drop h
              · skip
                cases y3 : userF o.node.muid
                · simp -dsimp -implicitDefEqProofs (disch := omega) only [go_sem]
                  exact SetR.drop (SetR.err (out (by simp only [b7, x0, y0, Bool.not_true, Bool.and_false, Bool.or_false, x1, y1, Bool.not_true, Bool.and_false, Bool.or_false, x2, y2, Bool.not_true, Bool.and_false, Bool.or_false, x3, y3, Bool.not_false, Bool.true_and, Bool.or_true, Bool.true_or])) (shut h))
                · simp -dsimp -implicitDefEqProofs (disch := omega) only [go_sem]
                  exact rset_t8 ok hi hm hin.ok.mode hin.ok.atime hin.ok.mtime (by simp only [b7, x0, y0, Bool.not_true, Bool.and_false, Bool.or_false, x1, y1, Bool.not_true, Bool.and_false, Bool.or_false, x2, y2, Bool.not_true, Bool.and_false, Bool.or_false, x3, y3, Bool.not_true, Bool.and_false, Bool.or_false]) (by simp -dsimp -implicitDefEqProofs only [go_sem]) (by simp -dsimp -implicitDefEqProofs only [go_sem]) (by simp -dsimp -implicitDefEqProofs only [go_sem]) (by simp -dsimp -implicitDefEqProofs only [go_sem]) (by simp -dsimp -implicitDefEqProofs only [go_sem]) h fun e w h => SetR.drop h
end
end
theorem map_erase {α β : Type} (f : α → β) : ∀ (l : List α) (i : Nat), (l.eraseIdx i).map f = (l.map f).eraseIdx i
  | [], i => by simp
  | x :: l, 0 => rfl
  | x :: l, i + 1 => by simp only [List.eraseIdx_cons_succ, List.map_cons, map_erase f l i]
theorem drop_erase {L : List NodeD} (hr : L.Pairwise fun a b => a.i.path < b.i.path) {i : Nat} (hi : i < L.length) : dropN L L[i].i.path = L.eraseIdx i := by
  have hs : L = L.take i ++ L[i] :: L.drop (i + 1) := by
    conv => lhs; rw [← List.take_append_drop i L, List.drop_eq_getElem_cons hi]
  have hne : ∀ m (hm : m < L.length), m ≠ i → (!(L[m].i.path == L[i].i.path)) = true := fun m hm hmi => by
    simp only [Bool.not_eq_true', beq_eq_false_iff_ne, ne_eq]
    intro e
    rcases Nat.lt_trichotomy m i with h | h | h
    · have := List.pairwise_iff_getElem.1 hr m i hm hi h; omega
    · exact hmi h
    · have := List.pairwise_iff_getElem.1 hr i m hi hm h; omega
  rw [List.eraseIdx_eq_take_drop_succ]
  obtain ⟨q, hq⟩ : ∃ q, q = L[i].i.path := ⟨_, rfl⟩
  rw [← hq] at hne ⊢
  have hf : ∀ (p : NodeD → Bool), L.filter p = (L.take i ++ L[i] :: L.drop (i + 1)).filter p := fun p => by rw [← hs]
  show L.filter _ = _
  rw [hf, List.filter_append, List.filter_cons_of_neg (by simp [hq])]
  congr 1
  · rw [List.filter_eq_self]
    intro x hx
    obtain ⟨m, hm, rfl⟩ := List.getElem_of_mem hx
    rw [List.getElem_take]
    exact hne m (by simp at hm; omega) (by simp at hm; omega)
  · rw [List.filter_eq_self]
    intro x hx
    obtain ⟨m, hm, rfl⟩ := List.getElem_of_mem hx
    rw [List.getElem_drop]
    exact hne _ (by simp at hm; omega) (by omega)
theorem without_len : ∀ {l : List Nat} {p : Nat}, l.Nodup → (l.filter fun k => !(k == p)).length = l.length - (if p ∈ l then 1 else 0)
  | [], p, _ => rfl
  | x :: l, p, h => by
    rw [List.nodup_cons] at h
    have ih := without_len (p := p) h.2
    by_cases hx : x = p
    · subst hx
      rw [List.filter_cons_of_neg (by simp), ih, if_neg h.1, if_pos List.mem_cons_self]
      simp
    · rw [List.filter_cons_of_pos (by simpa using hx), List.length_cons, ih]
      by_cases hp : p ∈ l
      · rw [if_pos hp, if_pos (List.mem_cons_of_mem _ hp)]
        have := List.length_pos_of_mem hp
        simp; omega
      · rw [if_neg hp, if_neg (by simp [hp]; exact fun e => hx e.symm)]; simp
theorem kids_left {s : SD} (h : Wf s) {n : NodeD} (hn : n ∈ s.L) (h1 : n.i.path ≠ 1) (q : Nat) : (((kidsF (dropN s.L n.i.path) q).length : Nat) : Int) = (kidsF s.L q).length - (if q = n.i.parent then 1 else 0) := by
  have hnd : (kidsF s.L q).Nodup := (kids_rise h q).imp (fun h => Nat.ne_of_lt h)
  have hm : n.i.path ∈ kidsF s.L q ↔ q = n.i.parent := by
    unfold kidsF
    rw [List.mem_map]
    constructor
    · rintro ⟨m, hm, e⟩
      rw [List.mem_filter] at hm
      have := rise_inj h.rise hm.1 hn e
      subst this
      exact ((isKid_iff h hn).1 hm.2).1.symm
    · rintro rfl
      exact ⟨n, List.mem_filter.2 ⟨hn, (isKid_iff h hn).2 ⟨rfl, h1⟩⟩, rfl⟩
  rw [kids_drop, without_len hnd]
  by_cases hq : q = n.i.parent
  · have := List.length_pos_of_mem (hm.2 hq)
    rw [if_pos (hm.2 hq), if_pos hq]
    omega
  · rw [if_neg (fun e => hq (hm.1 e)), if_neg hq]
    omega
theorem pairs_drop {s : SD} {X : List EV} (ok : RefOk s X) {i j : Nat} (hi : i < s.L.length) (hj : j < s.L.length) (h1 : s.L[i].i.path ≠ 1) (hp : s.L[j].i.path = s.L[i].i.parent) (hjX : j < X.length) :
    ((X.map (prOf s.L)).set j ({ (tellF s.L s.L[j]) with kids := (tellF s.L s.L[j]).kids - 1 }, X[j].v)).eraseIdx i = (X.eraseIdx i).map (prOf (dropN s.L s.L[i].i.path)) := by
  have hlen := ok.len
  have hXi : i < X.length := by omega
  rw [map_erase]
  refine List.ext_getElem (by rw [List.length_eraseIdx, List.length_eraseIdx]; simp) fun m h2 h3 => ?_
  have key : ∀ m (hm : m < X.length), m ≠ i → ((X.map (prOf s.L)).set j ({ (tellF s.L s.L[j]) with kids := (tellF s.L s.L[j]).kids - 1 }, X[j].v))[m]'(by simpa using hm) = (X.map (prOf (dropN s.L s.L[i].i.path)))[m]'(by simpa using hm) := fun m hm hmi => by
    have hmL : m < s.L.length := by omega
    have hk := kids_left ok.wf (List.getElem_mem hi) h1 s.L[m].i.path
    rw [List.getElem_set]
    by_cases hjm : j = m
    · subst hjm
      rw [if_pos rfl, List.getElem_map]
      unfold prOf
      rw [ok.at_ hm]
      rw [if_pos hp] at hk
      unfold tellF
      rw [hk]
    · rw [if_neg hjm, List.getElem_map, List.getElem_map]
      unfold prOf
      rw [ok.at_ hm]
      have hne : ¬ s.L[m].i.path = s.L[i].i.parent := fun e => by
        rw [← hp] at e
        rcases Nat.lt_trichotomy m j with h | h | h
        · have := List.pairwise_iff_getElem.1 ok.wf.rise m j hmL hj h; omega
        · exact hjm h.symm
        · have := List.pairwise_iff_getElem.1 ok.wf.rise j m hj hmL h; omega
      rw [if_neg hne] at hk
      unfold tellF
      rw [hk, Int.sub_zero]
  rw [List.getElem_eraseIdx, List.getElem_eraseIdx]
  have hm2 : m < X.length - 1 := by rw [List.length_eraseIdx] at h2; simp at h2; split at h2 <;> omega
  split
  · exact key m (by omega) (by omega)
  · exact key (m + 1) (by omega) (by omega)
theorem RefOk.drop {s : SD} {X : List EV} (ok : RefOk s X) {i : Nat} (hi : i < s.L.length) (hw : Wf { s with L := dropN s.L s.L[i].i.path }) : RefOk { s with L := dropN s.L s.L[i].i.path } (X.eraseIdx i) := by
  refine ⟨hw, ?_⟩
  show (X.eraseIdx i).map (·.d) = dropN s.L s.L[i].i.path
  rw [drop_erase ok.wf.rise hi, map_erase, ok.list]
theorem enc2_cells (ps : List (Inf × Value)) (h : ∀ p ∈ ps, isCell p.2 = true) : ∀ u ∈ ps.flatMap enc2, isCell u = true := by
  intro u hu
  rw [List.mem_flatMap] at hu
  obtain ⟨p, hp, hu⟩ := hu
  unfold enc2 at hu
  rcases List.mem_append.1 hu with h1 | h1
  · exact infL_cells _ u h1
  · rw [List.mem_singleton] at h1; rw [h1]; exact h p hp
theorem enc2_take (ps : List (Inf × Value)) (k : Nat) : (ps.flatMap enc2).take (k * 14) = (ps.take k).flatMap enc2 := flatMap_take enc2_len ps k
theorem enc2_drop : ∀ (ps : List (Inf × Value)) (k : Nat), (ps.flatMap enc2).drop (k * 14) = (ps.drop k).flatMap enc2
  | [], k => by simp
  | p :: ps, 0 => by simp
  | p :: ps, k + 1 => by
    rw [List.flatMap_cons, show (k + 1) * 14 = (enc2 p).length + k * 14 by rw [enc2_len]; omega, List.drop_append, List.drop_eq_nil_of_le (by omega), List.nil_append, Nat.add_sub_cancel_left, enc2_drop ps k]
    rfl
section
variable {w0 w : World} {A : HP} {b i : Nat} {s : SD} {v : Value} {X : List EV}
theorem pair_cell (hlen : (X.length : Nat) ≤ 4096) (h : St w0 (starL bytesP X * A) w) : ∀ x ∈ X, isCell x.v = true := fun x hx => by
  obtain ⟨k, hk, rfl⟩ := List.getElem_of_mem hx
  rw [starL_out bytesP hk] at h
  have h2 : St w0 (RowBy X[k].v X[k].d.b * (starL bytesP (X.eraseIdx k) * A)) w := h.ac (by unfold bytesP; ac_rfl)
  obtain ⟨a, c, hv, _⟩ := h2.rowForm X[k].v
  rw [hv]; rfl
section
attribute [local go_sem] F40.t6_eq F40.t4_eq
theorem refDrop_any (ok : RefOk s X) (hi : i < s.L.length) (h : St w0 (RefB b s v * (RefL s.L v X * (starL bytesP X * A))) w) :
    Calls Tryz.prog 40 #[.pointer (some ⟨b, 0, none⟩), .int .i64 i] w fun e w' => St w0 (RefP b (delF s s.L[i]).1 * A) w' ∧ e = .returned (.int .i64 (delF s s.L[i]).2.2) := by
  have hlen := ok.len
  have hX : i < X.length := by rw [ok.len]; exact hi
  have hfw := ok.wf.few
  have hms := ok.wf.most
  have hcv : ∀ x ∈ X, isCell x.v = true := pair_cell (by omega) h.right.right
  have shut : ∀ {w} {B : HP}, St w0 (RefB b s v * (RefL s.L v X * (B * (starL bytesP X * A)))) w → St w0 (RefP b s * A) w := fun h => by
    have h2 := h.ent (Ent.sep (Ent.rfl' _) (Ent.sep (Ent.rfl' _) (Ent.right _ _)))
    rw [RefQ.as] at h2
    exact h2.ent (Ent.sep (RefP.shut ok) (Ent.rfl' _))
  obtain ⟨g, o, c, hiS, hv, prow, hc, _⟩ := h.entF ok hX
  refine F40.calls (by simp) ?_
  unfold F40.code
  subst hv
  simp -dsimp -implicitDefEqProofs (disch := omega) only [go_sem, h.cl b, prow]
  refine h.new fun D w1 h1 => ?_
  simp -dsimp -implicitDefEqProofs (disch := omega) only [go_sem]
  refine h1.stoAll (b := D) (cs := infL (tellF s.L s.L[i])) rfl rfl (infL_cells _) fun w2 h2 => ?_
  have d0 : w2.cell? ⟨D, 0, none⟩ = some (.int .u64 s.L[i].i.path) := (h2.cells) 0
  have d1 : w2.cell? ⟨D, 1, none⟩ = some (.int .u64 s.L[i].i.parent) := (h2.cells) 1
  have d12 : w2.cell? ⟨D, 12, none⟩ = some (.int .i64 ((kidsF s.L s.L[i].i.path).length : Nat)) := (h2.cells) 12
  have h3 : St w0 (RefB b s (.slice (some ⟨g, o, none⟩) X.length c) * (RefL s.L (.slice (some ⟨g, o, none⟩) X.length c) X * (infB D (tellF s.L s.L[i]) * (starL bytesP X * A)))) w2 := h2.ac (by simp only [infB]; ac_rfl)
  by_cases c1 : ((s.L[i].i.path : Nat) : Int) = 1
  · have hr : delF s s.L[i] = (s, 0, 81) := by unfold delF; rw [if_pos (by omega)]
    rw [hr]
    simp -dsimp -implicitDefEqProofs (disch := omega) only [go_sem, d0, c1]
    exact shut h3
  have hc1 : ¬ s.L[i].i.path = 1 := by omega
  by_cases c2 : (0 : Int) < ((kidsF s.L s.L[i].i.path).length : Nat)
  · have hr : delF s s.L[i] = (s, 0, 85) := by unfold delF; rw [if_neg hc1, if_pos (by omega)]
    rw [hr]
    simp -dsimp -implicitDefEqProofs (disch := omega) only [go_sem, d0, d12, c1, c2]
    exact shut h3
  have hc2 : ¬ 0 < (kidsF s.L s.L[i].i.path).length := by omega
  have hr : delF s s.L[i] = ({ s with L := dropN s.L s.L[i].i.path }, s.L[i].i.path, 0) := by unfold delF; rw [if_neg hc1, if_neg hc2]
  have hw := drop_wf ok.wf (List.getElem_mem hi) hc1 hc2
  rw [hr]
  simp -dsimp -implicitDefEqProofs (disch := omega) only [go_sem, d0, d1, d12, c1, c2]
  refine (refAt_any (p := s.L[i].i.parent) ok h3).mono ?_
  rintro e w3 ⟨h4, hq⟩
  obtain ⟨_, dd, hdd, _⟩ := ok.wf.up _ (List.getElem_mem hi) hc1
  rcases hq with ⟨hf, _⟩ | ⟨j, hj, hf, hp, rfl⟩
  · rw [hf] at hdd; cases hdd
  have hjX : j < X.length := by omega
  obtain ⟨g', o', c', _, hv', _, hcj, _⟩ := h4.entF ok hjX
  simp only [Value.slice.injEq, Option.some.injEq, Addr.mk.injEq, and_true, true_and] at hv'
  obtain ⟨⟨rfl, rfl⟩, rfl⟩ := hv'
  have c12 : w3.cell? ⟨g, o + j * 14 + 12, none⟩ = some (.int .i64 ((kidsF s.L s.L[j].i.path).length : Nat)) := hcj 12 (by decide)
  have hkl : (kidsF s.L s.L[j].i.path).length ≤ 4096 := by
    have : (kidsF s.L s.L[j].i.path).length ≤ s.L.length := by unfold kidsF; rw [List.length_map]; exact List.length_filter_le _ _
    omega
  simp -dsimp -implicitDefEqProofs (disch := omega) only [go_sem, h4.cl b, c12]
  rw [Nat.add_assoc o]
  refine h4.rowSet1 (g := g) (o := o) (n := X.length) (c := c) (k := j * 14 + 12) (v := .int .i64 (((kidsF s.L s.L[j].i.path).length : Nat) - 1)) (by rw [flatMap_length (entC_len _)]; omega) rfl fun w4 h5 => ?_
  have hpj : (X.map (prOf s.L))[j]'(by simpa using hjX) = (tellF s.L s.L[j], X[j].v) := by rw [List.getElem_map, prOf, ok.at_ hjX]
  rw [ents_pairs, pair_set (i := j) (j := 12) (by simpa using hjX) (by decide) (p' := ({ (tellF s.L s.L[j]) with kids := (tellF s.L s.L[j]).kids - 1 }, X[j].v)) (by rw [hpj]; rfl)] at h5
  obtain ⟨ps, hps⟩ : ∃ ps, ps = (X.map (prOf s.L)).set j ({ (tellF s.L s.L[j]) with kids := (tellF s.L s.L[j]).kids - 1 }, X[j].v) := ⟨_, rfl⟩
  have hpd := pairs_drop ok hi hj hc1 hp hjX
  rw [← hps] at h5 hpd
  have hpl : ps.length = X.length := by rw [hps]; simp
  have hpc : ∀ p ∈ ps, isCell p.2 = true := fun p hp => by
    rw [hps] at hp
    rcases List.mem_or_eq_of_mem_set hp with h | h
    · rw [List.mem_map] at h
      obtain ⟨x, hx, rfl⟩ := h
      exact hcv x hx
    · rw [h]; exact hcv _ (List.getElem_mem hjX)
  obtain ⟨ar, cr, hvr, hcap⟩ := h5.right.rowForm (.slice (some ⟨g, o, none⟩) X.length c)
  simp only [Value.slice.injEq, true_and] at hvr
  obtain ⟨rfl, rfl⟩ := hvr
  simp -dsimp -implicitDefEqProofs (disch := omega) only [go_sem, h5.cl b]
  have r1 := (h5.right.left.ent (RowO.reads _ _ _ _ _)).ent (Reads.sub (lo := 0) (k := i) (by omega))
  simp only [Nat.zero_mul, Option.map_some, add_lit, Nat.add_zero, Nat.sub_zero, List.drop_zero] at r1
  rw [enc2_take] at r1
  have hil : (ps.take i).length = i := by simp; omega
  refine (h5.nilR 81 14).appendO rowTy_ent (r1.rd.src Tryz.underlying82 (enc2_cells _ fun p hp => hpc p (List.mem_of_mem_take hp)) (fun hh => ?_)) (by simp [maxLen]; omega) (by omega) fun v5 w5 h6 => ?_
  · have := congrArg List.length hh
    rw [flatMap_length enc2_len, hil] at this
    simp at this; omega
  rw [Nat.zero_add, List.nil_append] at h6
  obtain ⟨al, cl, hvl, _⟩ := h6.rowForm v5
  simp -dsimp -implicitDefEqProofs (disch := omega) only [go_sem, h6.cl b]
  have r2 := (h6.right.right.left.ent (RowO.reads _ _ _ _ _)).ent (Reads.sub (lo := i + 1) (k := X.length - (i + 1)) (by omega))
  rw [enc2_drop, List.take_of_length_le (by rw [flatMap_length enc2_len]; simp; omega)] at r2
  simp only [Option.map_some, add_lit] at r2
  have e1 : ((i : Int) + 1).toNat = i + 1 := by omega
  rw [e1]
  refine h6.appendO rowTy_ent (r2.rd.src Tryz.underlying82 (enc2_cells _ fun p hp => hpc p (List.mem_of_mem_drop hp)) (fun hh => ?_)) (by simp [maxLen]; omega) (by omega) fun v6 w6 h7 => ?_
  · have := congrArg List.length hh
    rw [flatMap_length enc2_len] at this
    simp at this; omega
  have hn : i + (X.length - (i + 1)) = (X.eraseIdx i).length := by rw [List.length_eraseIdx, if_pos hX]; omega
  rw [← List.flatMap_append, ← List.eraseIdx_eq_take_drop_succ, hpd, ← ents_pairs, hn] at h7
  obtain ⟨a6, c6, hv6, _⟩ := h7.rowForm v6
  simp -dsimp -implicitDefEqProofs (disch := omega) only [go_sem, h7.cl b]
  refine h7.sto (by simp) (by rw [hv6]; rfl) fun w7 h8 => ?_
  simp only [List.setIfInBounds_toArray, List.set_cons_succ, List.set_cons_zero] at h8
  simp -dsimp -implicitDefEqProofs (disch := omega) only [go_sem]
  rw [starL_out bytesP hX] at h8
  have h9 : St w0 (RefQ b { s with L := dropN s.L s.L[i].i.path } v6 (X.eraseIdx i) * A) w7 := by
    rw [← RefQ.as]
    have h10 := h8.ent (Ent.sep (Ent.rfl' _) (Ent.sep (Ent.rfl' _) ((Ent.right _ _).trans ((Ent.right _ _).trans (Ent.sep (Ent.right _ _) (Ent.rfl' _))))))
    exact h10.sw2
  exact h9.ent (Ent.sep (RefP.shut (ok.drop hi hw)) (Ent.rfl' _))
end
end
end Go.Proofs.YtijnmokpihhhcaaGreatDoor
