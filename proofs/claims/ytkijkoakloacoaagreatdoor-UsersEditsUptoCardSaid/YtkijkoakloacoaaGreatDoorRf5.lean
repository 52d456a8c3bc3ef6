/- Loops over functions that read what the loop's state holds, where a round may panic. -/
import Derived.Test.YtkijkoakloacoaaGreatDoorRf4
namespace Go.Proofs.YtkijkoakloacoaaGreatDoor
open Go
set_option linter.unusedVariables false

def YieldsToP {α : Type} (P : Program) (w0 : World) (l : Nat) (Pass : α → Array Value → HP) (Ok : List α → Prop) (J X : List α → HP) (Xp : List PanicEntry → List α → HP) : Prop :=
  ∀ (G : HP) (pre : List α) (x : α) (args : Array Value) (w : World), Ok (pre ++ [x]) → St w0 (J pre * (Pass x args * G)) w →
    YieldC P l args w fun e w' => (e = .returned (.bool true) ∧ St w0 (J (pre ++ [x]) * G) w') ∨ (e = .returned (.bool false) ∧ St w0 (X (pre ++ [x]) * G) w') ∨ (∃ c, e = .panicked c ∧ St w0 (Xp c (pre ++ [x]) * G) w')

/-- How a round's body ends, by a panic too. -/
def roundQP (w0 : World) (A : HP) (B : Code → HP) (Bp : List PanicEntry → HP) : Post
  | .normal, _, w => St w0 A w
  | .ret, _, w => St w0 (B .ret) w
  | .exit id, _, w => St w0 (B (.exit id)) w
  | .goto t, _, w => St w0 (B (.goto t)) w
  | .panic c, e, w => e.ds = [] ∧ St w0 (Bp c) w
  | _, _, _ => False
theorem roundQP_normal {w0 : World} {A : HP} {B : Code → HP} {Bp : List PanicEntry → HP} {e : FA} {w : World} : roundQP w0 A B Bp .normal e w = St w0 A w := rfl
theorem roundQP_ret {w0 : World} {A : HP} {B : Code → HP} {Bp : List PanicEntry → HP} {e : FA} {w : World} : roundQP w0 A B Bp .ret e w = St w0 (B .ret) w := rfl
theorem roundQP_exit {w0 : World} {A : HP} {B : Code → HP} {Bp : List PanicEntry → HP} {i : Nat} {e : FA} {w : World} : roundQP w0 A B Bp (.exit i) e w = St w0 (B (.exit i)) w := rfl
theorem roundQP_panic {w0 : World} {A : HP} {B : Code → HP} {Bp : List PanicEntry → HP} {c : List PanicEntry} {e : FA} {w : World} : roundQP w0 A B Bp (.panic c) e w = (e.ds = [] ∧ St w0 (Bp c) w) := rfl

def RoundOkP {α : Type} (P : Program) (w0 : World) (e : FA) (ps : Array Tmp) (asg body : Cd) (Pass : α → Array Value → HP) (Ok : List α → Prop) (J : List α → HP) (X : Code → List α → HP) (Xp : List PanicEntry → List α → HP) : Prop :=
  ∀ (l : Nat) (pre : List α) (x : α) (args : Array Value) (G : HP) (W : World), Ok (pre ++ [x]) → St w0 (J pre * (Pass x args * G)) W →
    args.size = ps.size ∧ cwRE P l asg (onlyP fun e1 W1 => ∃ A : HP, St w0 (A * (J pre * (Pass x args * G))) W1 ∧
      ∀ (G2 : HP) (W2 : World), Ent G2 (LoopHere l) → St w0 (A * (J pre * (Pass x args * G2))) W2 → cwRE P l body (roundQP w0 (J (pre ++ [x]) * G2) (fun c => X c (pre ++ [x]) * G2) (fun c => Xp c (pre ++ [x]) * G2)) e1 W2) (putArgs ps.toList args.toList { e with ds := [] }) W

theorem mk_yieldsP {α : Type} {P : Program} {w0 : World} {e : FA} {ps : Array Tmp} {asg body : Cd} {Pass : α → Array Value → HP} {Ok : List α → Prop} {J : List α → HP} {X : Code → List α → HP} {Xp : List PanicEntry → List α → HP} {l : Nat} {Rec : LoopState → Option Code → Obj} {Dp : HP}
    (hro : RoundOkP P w0 e ps asg body Pass Ok J X Xp)
    (hrec : LoopRec P l Rec fun args W R => args.size = ps.size ∧ cw P (some l) asg (onlyP fun e1 W1 => W1.heap[l]? = some (Rec .ready none) ∧
      cw P (some l) body (roundP l Rec R) e1 (W1.putObj l (Rec .busy none))) (putArgs ps.toList args.toList { e with ds := [] }) W) :
    YieldsToP P w0 l Pass Ok (fun pre => Blk l (Rec .ready none) * (Dp * J pre)) (fun pre => HP.ex fun c => Blk l (Rec .done (some c)) * (Dp * X c pre)) (fun c pre => Blk l (Rec .busy none) * (Dp * Xp c pre)) := by
  intro G pre x args w hok h
  simp only at h ⊢
  refine hrec.yield args w _ h.left.blk ?_
  have h1 : St w0 (J pre * (Pass x args * (Blk l (Rec .ready none) * (Dp * G)))) w := h.ac (by ac_rfl)
  obtain ⟨hsz, hcode⟩ := hro l pre x args _ w hok h1
  refine ⟨hsz, ?_⟩
  refine cw_of_cwD _ _ _ _ _ _ (fun ex e1 W1 hx => ?_) hcode
  cases ex with
  | normal =>
    obtain ⟨A, h2, hb⟩ := hx
    have h3 : St w0 (Blk l (Rec .ready none) * (A * (J pre * (Pass x args * (Dp * G))))) W1 := h2.ac (by ac_rfl)
    refine ⟨h3.blk, ?_⟩
    have h4 := h3.putObj (Rec .busy none)
    have h5 : St w0 (A * (J pre * (Pass x args * (Blk l (Rec .busy none) * (Dp * G))))) (W1.putObj l (Rec .busy none)) := h4.ac (by ac_rfl)
    have hl : Ent (Blk l (Rec .busy none) * (Dp * G)) (LoopHere l) := (Ent.left _ _).trans (Ent.of fun h hb => by
      obtain ⟨r, hr⟩ := hrec.isLoop .busy none
      exact ⟨r, by rw [← hr]; exact hb⟩)
    refine cw_of_cwD _ _ _ _ _ _ (fun ex e2 W2 hx => ?_) (hb _ _ hl h5)
    have stop : ∀ c, St w0 (X c (pre ++ [x]) * (Blk l (Rec .busy none) * (Dp * G))) W2 → W2.heap[l]? = some (Rec .busy none) ∧ St w0 ((HP.ex fun c => Blk l (Rec .done (some c)) * (Dp * X c (pre ++ [x]))) * G) (W2.putObj l (Rec .done (some c))) := fun c hx => by
      have h6 : St w0 (Blk l (Rec .busy none) * (Dp * X c (pre ++ [x]) * G)) W2 := hx.ac (by ac_rfl)
      refine ⟨h6.blk, ?_⟩
      have h7 := h6.putObj (Rec .done (some c))
      exact (h7.ac (by ac_rfl : _ = (Blk l (Rec .done (some c)) * (Dp * X c (pre ++ [x]))) * G)).ent (Ent.sep (Ent.ex (fun c => Blk l (Rec .done (some c)) * (Dp * X c (pre ++ [x]))) c) (Ent.rfl' _))
    cases ex with
    | normal =>
      have h6 : St w0 (Blk l (Rec .busy none) * (Dp * J (pre ++ [x]) * G)) W2 := St.ac hx (by ac_rfl)
      refine ⟨h6.blk, .inl ⟨rfl, ?_⟩⟩
      exact (h6.putObj (Rec .ready none)).ac (by ac_rfl)
    | ret => exact ⟨(stop _ hx).1, .inr (.inl ⟨rfl, (stop _ hx).2⟩)⟩
    | exit i => exact ⟨(stop _ hx).1, .inr (.inl ⟨rfl, (stop _ hx).2⟩)⟩
    | goto t => exact ⟨(stop _ hx).1, .inr (.inl ⟨rfl, (stop _ hx).2⟩)⟩
    | panic c => exact ⟨hx.1, .inr (.inr ⟨c, rfl, St.ac hx.2 (by ac_rfl)⟩)⟩
    | outgrown => exact hx.elim
  | exit i => exact hx.elim
  | goto t => exact hx.elim
  | ret => exact hx.elim
  | panic c => exact hx.elim
  | outgrown => exact hx.elim

def IterOkP {α : Type} (P : Program) (w0 : World) (gf : Nat) (lb : Array Value) (Pass : α → Array Value → HP) (Ok S : List α → Prop) (Tb G G' : HP) : Prop :=
  ∀ (l : Nat) (w1 : World) (J X : List α → HP) (Xp : List PanicEntry → List α → HP), (∃ K : List α → HP, ∀ pre, J pre = K pre * Tb) → YieldsToP P w0 l Pass Ok J X Xp → St w0 (J [] * G) w1 →
    Calls P gf (#[.func (.yield l) #[] #[]] ++ lb) w1 fun e w' => ((∃ v, e = .returned v) ∧ ((∃ xs, S xs ∧ St w0 (J xs * G') w') ∨ ∃ pre, St w0 (X pre * G') w')) ∨ ∃ c pre, e = .panicked c ∧ St w0 (Xp c pre * G') w'

theorem range_introP {α : Type} {P : Program} {w0 w : World} {F G G' : HP} {e : FA} {g : Operand} {ps : Array Tmp} {asg body : Cd} {Q : Post} {θ : Tag ((.rangeFunc g ps asg body : Cd), Q, e, w)} (h : St w0 F w) {gf : Nat} {lb : Array Value}
    (hg : e.ev g = .func (.func gf) #[] lb) (hf : fnOk P gf = true) {Pass : α → Array Value → HP} {Ok S : List α → Prop} (J : List α → HP) (X : Code → List α → HP) (Xp : List PanicEntry → List α → HP) (h0 : Ent F (J [] * G))
    (hround : RoundOkP P w0 e ps asg body Pass Ok J X Xp) (K : List α → HP) (Tb : HP) (hJ : ∀ pre, J pre = K pre * Tb) (hcall : IterOkP P w0 gf lb Pass Ok S Tb G G')
    (hdone : ∀ (D : Nat) (xs : List α) (w' : World), S xs → St w0 (Blk D (.deferred (some [])) * (J xs * G')) w' → Q .normal { e with ds := { target := .collected D, args := #[] } :: e.ds } w')
    (hstop : ∀ (D : Nat) (c : Code) (pre : List α) (w' : World), St w0 (Blk D (.deferred (some [])) * (X c pre * G')) w' → jumpP Q (some c) { e with ds := { target := .collected D, args := #[] } :: e.ds } w')
    (hpanic : ∀ (D : Nat) (c : List PanicEntry) (pre : List α) (w' : World), St w0 (Blk D (.deferred (some [])) * (Xp c pre * G')) w' → Q (.panic c) { e with ds := { target := .collected D, args := #[] } :: e.ds } w') :
    cwE P (.rangeFunc g ps asg body) Q e w θ := by
  refine ⟨fun l h => (by cases h), gf, lb, hg, hf, fun Rec hrec => ?_⟩
  have h1 := (h.ent h0).alloc (.deferred (some []))
  have h2 := h1.alloc (Rec .ready none)
  have hs : (w.alloc (.deferred (some []))).heap.size = w.heap.size + 1 := World.size_alloc _ _
  rw [hs] at h2
  have hy := mk_yieldsP (Dp := Blk w.heap.size (.deferred (some []))) hround hrec
  refine (hcall _ _ _ _ _ ⟨fun pre => Blk (loopAt none w Rec).1 (Rec .ready none) * (Blk w.heap.size (.deferred (some [])) * K pre), fun pre => by rw [hJ]; ac_rfl⟩ hy (h2.ac ?_)).mono ?_
  · simp only [loopAt]; ac_rfl
  · rintro ex W (⟨⟨v, rfl⟩, hq⟩ | ⟨c, pre, rfl, hq⟩)
    · rcases hq with ⟨xs, hS, hq⟩ | ⟨pre, hq⟩
      · have h3 : St w0 (Blk (w.heap.size + 1) (Rec .ready none) * (Blk w.heap.size (.deferred (some [])) * (J xs * G'))) W := hq.ac (by simp only [loopAt]; ac_rfl)
        exact ⟨.ready, none, h3.blk, by simp, hdone _ xs _ hS (h3.putObj (Rec .exhausted none)).right⟩
      · have hq := hq
        obtain ⟨c, hq⟩ := St.exF hq
        have h3 : St w0 (Blk (w.heap.size + 1) (Rec .done (some c)) * (Blk w.heap.size (.deferred (some [])) * (X c pre * G'))) W := hq.ac (by simp only [loopAt]; ac_rfl)
        exact ⟨.done, some c, h3.blk, by simp, hstop _ c pre _ (h3.putObj (Rec .exhausted (some c))).right⟩
    · have h3 : St w0 (Blk (w.heap.size + 1) (Rec .busy none) * (Blk w.heap.size (.deferred (some [])) * (Xp c pre * G'))) W := hq.ac (by simp only [loopAt]; ac_rfl)
      exact hpanic _ c pre _ h3.right
attribute [go_sem ↓] roundQP_normal roundQP_ret roundQP_exit roundQP_panic
end Go.Proofs.YtkijkoakloacoaaGreatDoor
