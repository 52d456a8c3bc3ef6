/- An engine over the kit's 'Calls' and 'Code.wp': the frame as a function, the code stripped to what counts, regions that draw by a plan. -/
import Derived.WalkKit
import Derived.OrdersHeld
import Derived.OrdersIn
import Derived.TacticsIn
import Derived.RangeFuncNested
namespace Go.Proofs.YtacmnfpgimgigaaGreat
open Go

/-! ### The frame as a function -/

structure FA where
  ρ : Nat → Value
  ds : List Deferred

def FA.put (e : FA) : Option Nat → Value → FA
  | some d, v => { e with ρ := fun i => if i = d then v else e.ρ i }
  | none, _ => e

def FA.ev (e : FA) : Operand → Value
  | .tmp t => e.ρ t
  | .const v => v
  | .global g => .pointer (some ⟨g, 0, none⟩)
  | .func f => .func (.func f) #[] #[]

structure Rel (N : Nat) (a : Act) (e : FA) : Prop where
  size : a.tmps.size = N
  val : ∀ t, a.tmps.getD t undef = e.ρ t
  ds : a.defers = e.ds

theorem Rel.eval {N : Nat} {a : Act} {e : FA} (h : Rel N a e) : a.eval = e.ev := by
  funext x
  cases x with
  | tmp t => exact h.val t
  | _ => rfl

def dstOk (N : Nat) : Option Nat → Bool
  | some d => decide (d < N)
  | none => true

theorem Rel.put {N : Nat} {a : Act} {e : FA} (h : Rel N a e) {d : Option Nat} (hd : dstOk N d = true) (v : Value) : Rel N (a.put d v) (e.put d v) := by
  cases d with
  | none => exact h
  | some d =>
    have hd' : d < a.tmps.size := by rw [h.size]; simpa [dstOk] using hd
    refine ⟨by simp [Act.put, h.size], fun t => ?_, h.ds⟩
    by_cases ht : t = d
    · subst ht
      simp [Act.put, FA.put, hd']
    · have hne : d ≠ t := fun e => ht e.symm
      have := h.val t
      simp only [Act.put, FA.put, if_neg ht]
      simpa [Array.getElem?_setIfInBounds_ne hne] using this

/-! ### Operations, stripped -/

def strip (ops : Array Oper) (after : Array Edge) (o : Oper) : Oper :=
  { dst := o.dst, op := o.op, type := o.type, pos := "", after := after, guard := o.guard.bind fun x => ((ops[x.1]?).bind (·.dst)).map fun s => (s, x.2) }

def gdOk (ops : Array Oper) (o : Oper) : Bool :=
  match o.guard with
  | none => true
  | some x => ((ops[x.1]?).bind (·.dst)).isSome

def yb : Value → Option Bool
  | .bool b => some b
  | _ => none

def gd (e : FA) : Option (Nat × Bool) → Bool
  | none => true
  | some x => yb (e.ρ x.1) == some x.2

theorem gd_strip {N : Nat} {a : Act} {e : FA} (h : Rel N a e) {ops : Array Oper} {af : Array Edge} {o : Oper} (ho : gdOk ops o = true) :
    Region.wanted o (yielded ops a.tmps) = gd e (strip ops af o).guard := by
  unfold Region.wanted gdOk strip gd at *
  cases hg : o.guard with
  | none => rfl
  | some x =>
    obtain ⟨j, want⟩ := x
    simp only [hg] at ho
    obtain ⟨s, hs⟩ := Option.isSome_iff_exists.1 ho
    simp only [Option.bind_some, hs, Option.map_some]
    congr 1
    unfold yielded
    simp only [hs, Option.bind_some]
    have hv := h.val s
    rcases Nat.lt_or_ge s a.tmps.size with hlt | hge
    · rw [Array.getElem?_eq_getElem hlt]
      have : a.tmps[s] = e.ρ s := by simpa [hlt] using hv
      rw [this]
      cases e.ρ s <;> rfl
    · rw [Array.getElem?_eq_none hge]
      have : e.ρ s = undef := by rw [← hv]; simp [Array.getElem?_eq_none hge]
      rw [this]; rfl

def opS (o : Oper) (e : FA) : Sem Next := execOp e.ev o

theorem execOp_strip (ρ : Operand → Value) (ops : Array Oper) (af : Array Edge) (o : Oper) : execOp ρ (strip ops af o) = execOp ρ o := rfl

def retK (K : Value → World → Prop) (Pc : List PanicEntry → World → Prop) : Ending → World → Prop
  | .returned v, w => K v w
  | .panicked c, w => Pc c w
  | .outgrown, _ => False

/-- What is asked once an operation has come to this. -/
def upon (P : Program) (K : Value → World → Prop) (D : Deferred → World → Prop) (Pc : List PanicEntry → World → Prop) : Result Next → Prop
  | .ok (.value v) w => K v w
  | .ok .skip w => K undef w
  | .ok (.defer d) w => D d w
  | .ok (.enter f args) w => Calls P f args w (retK K Pc)
  | .halt (.panic v) w => Pc [{ v, recovered := false }] w
  | _ => False

theorem wp_of_upon {P : Program} {o : Oper} {a : Act} {w : World} {N : Nat} {e : FA} (hr : Rel N a e) {ops : Array Oper} {af : Array Edge}
    {K : Value → World → Prop} {D : Deferred → World → Prop} {Pc : List PanicEntry → World → Prop} {next : Act → World → Prop} {Q : Exit → Act → World → Prop}
    (h : upon P K D Pc ((opS (strip ops af o) e).run P w))
    (hK : ∀ v w, K v w → next (a.put o.dst v) w) (hD : ∀ d w, D d w → next ({ a with defers := d :: a.defers }.put o.dst undef) w)
    (hP : ∀ c w, Pc c w → Q (.panic c) a w) : o.wp P a w next Q := by
  unfold Oper.wp
  unfold opS at h
  rw [execOp_strip, ← hr.eval] at h
  generalize (execOp a.eval o).run P w = r at h
  cases r with
  | ok n w' =>
    cases n <;> simp only [upon, Oper.upon] at h ⊢
    case value v => exact hK _ _ h
    case skip => exact hK _ _ h
    case defer d => exact hD _ _ h
    case enter f args =>
      refine Calls.mono h fun e w'' he => ?_
      cases e with
      | returned v => exact hK _ _ he
      | panicked c => exact hP _ _ he
      | outgrown => exact he.elim
  | halt x w' =>
    cases x <;> simp only [upon, Oper.upon] at h ⊢
    case panic v => exact hP _ _ h

/-! ### Regions in one order -/

/-- The fence that shuts nothing out, in a round of the loop l (or in none). -/
def Fr (ro : Option Nat) : Fence := { Fence.wide with round := ro }

theorem Fr_about (ro : Option Nat) (f : FuncId) : (Fr ro).fn f := trivial
theorem Fr_depth (ro : Option Nat) (n : Nat) : (Fr ro).depth.isSome = true → 1 ≤ n := fun h => by cases h

/-- A round of a loop over a function, whatever the fence's word. -/
def RoundC (P : Program) (l : Nat) (f : FuncId) (tmps : Array Value) (assign body : Code) (w : World) (R : Ending → World → Prop) : Prop := RoundIn Fence.wide 0 P l f tmps assign body w R

theorem RoundC.of {P : Program} {l : Nat} {f : FuncId} {tmps : Array Value} {assign body : Code} {w : World} {R : Ending → World → Prop} {ro : Option Nat} {n : Nat} (h : RoundC P l f tmps assign body w R) : RoundIn (Fr ro) n P l f tmps assign body w R :=
  ⟨trivial, fun c cs _ => h.2 c cs (room_wide _)⟩
theorem RoundC.to {P : Program} {l : Nat} {f : FuncId} {tmps : Array Value} {assign body : Code} {w : World} {R : Ending → World → Prop} {ro : Option Nat} {n : Nat} (h : RoundIn (Fr ro) n P l f tmps assign body w R) : RoundC P l f tmps assign body w R :=
  ⟨trivial, fun c cs _ => h.2 c cs (fun _ hd => by cases hd)⟩
theorem callsC_of {P : Program} {f : FuncId} {args : Array Value} {w : World} {R : Ending → World → Prop} {ro : Option Nat} {n : Nat} (h : Calls P f args w R) : CallsIn (Fr ro) n P f args w R :=
  ⟨trivial, fun cs _ => (callsIn_wide (n := n).2 h).2 cs (room_wide _)⟩
theorem callsC_to {P : Program} {f : FuncId} {args : Array Value} {w : World} {R : Ending → World → Prop} {ro : Option Nat} {n : Nat} (h : CallsIn (Fr ro) n P f args w R) : Calls P f args w R :=
  callsIn_wide (n := n).1 ⟨trivial, fun cs _ => h.2 cs (fun _ hd => by cases hd)⟩

/-- As 'upon', where a round of a loop over a function may be asked for, too. -/
def uponR (P : Program) (K : Value → World → Prop) (D : Deferred → World → Prop) (Pc : List PanicEntry → World → Prop) : Result Next → Prop
  | .ok (.round l f tmps assign body) w => RoundC P l f tmps assign body w (retK K Pc)
  | .ok (.value v) w => K v w
  | .ok .skip w => K undef w
  | .ok (.defer d) w => D d w
  | .ok (.enter f args) w => Calls P f args w (retK K Pc)
  | .halt (.panic v) w => Pc [{ v, recovered := false }] w
  | _ => False

theorem uponR_of {P : Program} {K : Value → World → Prop} {D : Deferred → World → Prop} {Pc : List PanicEntry → World → Prop} {r : Result Next} (h : upon P K D Pc r) : uponR P K D Pc r := by
  cases r with
  | ok n w => cases n <;> first | exact h | exact h.elim
  | halt x w => cases x <;> first | exact h | exact h.elim

def notDefer (o : Oper) : Bool := match o.op with | .defer _ => false | _ => true

theorem wpIn_of_uponR {P : Program} {o : Oper} {a : Act} {w : World} {N n : Nat} {ro : Option Nat} {e : FA} (hr : Rel N a e) (hnd : ro.isSome = true → notDefer o = true) {ops : Array Oper} {af : Array Edge}
    {K : Value → World → Prop} {D : Deferred → World → Prop} {Pc : List PanicEntry → World → Prop} {next : Act → World → Prop} {Q : Exit → Act → World → Prop}
    (h : uponR P K D Pc ((opS (strip ops af o) e).run P w))
    (hK : ∀ v w, K v w → next (a.put o.dst v) w) (hD : ∀ d w, D d w → next ({ a with defers := d :: a.defers }.put o.dst undef) w)
    (hP : ∀ c w, Pc c w → Q (.panic c) a w) : o.wpIn (Fr ro) n P a w next Q := by
  unfold Oper.wpIn
  refine ⟨fun _ _ => trivial, ?_⟩
  have hs : Oper.semAt (Fr ro).round a.eval o = execOp a.eval o := by
    cases ro with
    | none => rfl
    | some l =>
      refine Oper.semAt_eq _ _ _ fun c hc => ?_
      have := hnd rfl
      simp [notDefer, hc] at this
  rw [hs]
  unfold opS at h
  rw [execOp_strip, ← hr.eval] at h
  generalize (execOp a.eval o).run P w = r at h
  have ret : ∀ e w, retK K Pc e w → (match e, w with
      | .returned v, w'' => next (a.put o.dst v) w''
      | .panicked chain, w'' => Q (.panic chain) a w''
      | .outgrown, _ => LetsOut Q) := fun e w he => by
    cases e with
    | returned v => exact hK _ _ he
    | panicked c => exact hP _ _ he
    | outgrown => exact he.elim
  cases r with
  | ok x w' =>
    cases x <;> simp only [uponR, Oper.uponIn] at h ⊢
    case value v => exact hK _ _ h
    case skip => exact hK _ _ h
    case defer d => exact hD _ _ h
    case enter f args => exact ⟨Fr_depth _ _, (callsC_of h).mono fun e w he => by
      have := ret e w he
      cases e <;> exact this⟩
    case round l f tmps assign body => exact ⟨Fr_depth _ _, (RoundC.of h).mono fun e w he => by
      have := ret e w he
      cases e <;> exact this⟩
  | halt x w' =>
    cases x <;> simp only [uponR, Oper.uponIn] at h ⊢
    case panic v => exact hP _ _ h

def ow (P : Program) (Pc : List PanicEntry → FA → World → Prop) (K : FA → World → Prop) : List Oper → FA → World → Prop
  | [], e, w => K e w
  | o :: l, e, w =>
    if gd e o.guard = true then
      uponR P (fun v w' => ow P Pc K l (e.put o.dst v) w') (fun d w' => ow P Pc K l (({ e with ds := d :: e.ds } : FA).put o.dst undef) w') (fun c w' => Pc c e w') ((opS o e).run P w)
    else ow P Pc K l (e.put o.dst undef) w

theorem wpListIn_of_ow {P : Program} {ops : Array Oper} {N n : Nat} {ro : Option Nat} {Q : Exit → Act → World → Prop} {Pc : List PanicEntry → FA → World → Prop} {K : FA → World → Prop}
    (hQ : ∀ a e w, Rel N a e → K e w → Q .normal a w) (hP : ∀ c a e w, Rel N a e → Pc c e w → Q (.panic c) a w) (fl : Oper → Array Edge) :
    ∀ (l : List Oper), (∀ o ∈ l, dstOk N o.dst = true ∧ gdOk ops o = true) → (ro.isSome = true → ∀ o ∈ l, notDefer o = true) → ∀ (a : Act) (e : FA) (w : World), Rel N a e → ow P Pc K (l.map fun o => strip ops (fl o) o) e w → wpListIn (Fr ro) n P ops Q l a w
  | [], _, _, a, e, w, hr, h => hQ a e w hr h
  | o :: l, hl, hn, a, e, w, hr, h => by
    obtain ⟨hd, hg⟩ := hl o (by simp)
    have ih := wpListIn_of_ow (P := P) (n := n) (ro := ro) hQ hP fl l (fun o ho => hl o (by simp [ho])) (fun hr o ho => hn hr o (by simp [ho]))
    unfold wpListIn
    rw [gd_strip hr (af := fl o) hg]
    simp only [List.map_cons, ow] at h
    split
    · rename_i hw
      rw [if_pos hw] at h
      exact wpIn_of_uponR hr (fun hs => hn hs o (by simp)) h (fun v w hk => ih _ _ _ (hr.put hd v) hk) (fun d w hk => ih _ _ _ (Rel.put (a := { a with defers := d :: a.defers }) (e := { e with ds := d :: e.ds }) ⟨hr.size, hr.val, by rw [hr.ds]⟩ hd undef) hk) (fun c w hp => hP _ _ _ _ hr hp)
    · rename_i hw
      rw [if_neg hw] at h
      exact ⟨fun _ _ => trivial, ih _ _ _ (hr.put hd undef) h⟩

/-! ### From the plain calculus into a round: where nothing is deferred -/

theorem wpIn_of_wp {P : Program} {o : Oper} {a : Act} {w : World} {n : Nat} {ro : Option Nat} {next : Act → World → Prop} {Q : Exit → Act → World → Prop} (hnd : ro.isSome = true → notDefer o = true) (h : o.wp P a w next Q) : o.wpIn (Fr ro) n P a w next Q := by
  unfold Oper.wpIn
  refine ⟨fun _ _ => trivial, ?_⟩
  have hs : Oper.semAt (Fr ro).round a.eval o = execOp a.eval o := by
    cases ro with
    | none => rfl
    | some l =>
      refine Oper.semAt_eq _ _ _ fun c hc => ?_
      have := hnd rfl
      simp [notDefer, hc] at this
  rw [hs]
  unfold Oper.wp at h
  generalize (execOp a.eval o).run P w = r at h
  cases r with
  | ok x w' =>
    cases x <;> simp only [Oper.upon, Oper.uponIn] at h ⊢ <;> first | exact h | exact ⟨Fr_depth _ _, callsC_of h⟩ | (exact ⟨Fr_depth _ _, fun c cs _ => by obtain ⟨v, w2, q1, q2⟩ := h c cs; exact ⟨v, w2, q1, (StepsIn.of_steps q2).mono fun m _ => fenced_wide P m⟩⟩) | exact h.elim
  | halt x w' => cases x <;> simp only [Oper.upon, Oper.uponIn] at h ⊢ <;> first | exact h | exact h.elim

theorem wpAnyIn_of_wpAny {P : Program} {md : Region.Mode} {ops : Array Oper} {n : Nat} {ro : Option Nat} {Q : Exit → Act → World → Prop} (hL : ¬ LetsOut Q) (hnd : ro.isSome = true → ∀ o ∈ ops.toList, notDefer o = true) :
    ∀ (f : Nat) (listed : Array Bool) (a : Act) (w : World), wpAny P md ops Q f listed a w → wpAnyIn (Fr ro) n P md ops Q f listed a w
  | 0, _, _, _, h => h
  | f + 1, listed, a, w, h => ⟨h.1, fun i hi => by
    have hx := h.2 i hi
    unfold wpOp at hx
    unfold wpOpIn
    split
    · rename_i ho
      simp only [ho] at hx
      exact wpAnyIn_of_wpAny hL hnd f _ _ _ hx
    · rename_i o ho
      simp only [ho] at hx
      have ho' : o ∈ ops.toList := by have := (Array.getElem?_eq_some_iff.1 ho).2; rw [← this]; simp
      split
      · rename_i hw
        rw [if_pos hw] at hx
        exact Oper.wpIn_mono (fun a w h => wpAnyIn_of_wpAny hL hnd f _ _ _ h) (wpIn_of_wp (fun hs => hnd hs o ho') (hx.resolve_right fun h => hL h.2))
      · rename_i hw
        rw [if_neg hw] at hx
        exact ⟨fun _ _ => trivial, wpAnyIn_of_wpAny hL hnd f _ _ _ hx⟩⟩

/-! ### Whatever order, with conditions that are kept -/

def live (m : Nat) (listed : Array Bool) : Prop := ∀ k, m.testBit k = true → listed.getD k false = false

theorem live_set {m i : Nat} {listed : Array Bool} (hm : m.testBit i = false) (h : live m listed) : live m (listed.setIfInBounds i true) := by
  intro k hk
  have hne : i ≠ k := fun e => by subst e; rw [hk] at hm; cases hm
  rw [getD_set_ne false hne]; exact h k hk

theorem live_of_set {m i : Nat} {listed : Array Bool} (h : live m (listed.setIfInBounds i true)) : live m listed := by
  intro k hk
  have := h k hk
  cases hl : listed.getD k false with
  | false => rfl
  | true => rw [getD_set_true hl] at this; cases this

section any
variable (P : Program) (md : Region.Mode) (ops : Array Oper) (Q : Exit → Act → World → Prop) (rq : List (Nat × (World → Prop)))

def Held (listed : Array Bool) (w : World) : Prop := ∀ x ∈ rq, live x.1 listed → x.2 w

def wpAnyR : Nat → Array Bool → Act → World → Prop
  | 0, listed, a, w => Held rq listed w ∧ Region.ready md ops listed = [] ∧ Q .normal a w
  | f + 1, listed, a, w => Held rq listed w ∧ (Region.ready md ops listed = [] → Q .normal a w) ∧
      ∀ i ∈ Region.ready md ops listed, wpOp P ops Q i (wpAnyR f (listed.setIfInBounds i true)) a w
end any

section anyR
variable {P : Program} {md : Region.Mode} {ops : Array Oper} {Q : Exit → Act → World → Prop} {rq : List (Nat × (World → Prop))}

theorem wpAnyR.held : ∀ {f : Nat} {listed : Array Bool} {a : Act} {w : World}, wpAnyR P md ops Q rq f listed a w → Held rq listed w
  | 0, _, _, _, h => h.1
  | _ + 1, _, _, _, h => h.1

theorem wpAny_of_R : ∀ (f : Nat) (listed : Array Bool) (a : Act) (w : World), wpAnyR P md ops Q rq f listed a w → wpAny P md ops Q f listed a w
  | 0, _, _, _, h => h.2
  | f + 1, _, _, _, h => ⟨h.2.1, fun i hi => wpOp_mono (fun a' w' h' => wpAny_of_R f _ a' w' h') (h.2.2 i hi)⟩

theorem wpAnyR_weaken {x : Nat × (World → Prop)} : ∀ (f : Nat) (listed : Array Bool) (a : Act) (w : World), wpAnyR P md ops Q (x :: rq) f listed a w → wpAnyR P md ops Q rq f listed a w
  | 0, _, _, _, h => ⟨fun y hy => h.1 y (by simp [hy]), h.2⟩
  | f + 1, _, _, _, h => ⟨fun y hy => h.1 y (by simp [hy]), h.2.1, fun i hi => wpOp_mono (fun a' w' h' => wpAnyR_weaken f _ a' w' h') (h.2.2 i hi)⟩

theorem unlisted_false {listed : Array Bool} {i : Nat} (h : listed.getD i true = false) : listed.getD i false = false := by
  rcases Nat.lt_or_ge i listed.size with h' | h'
  · simp [h'] at h ⊢; exact h
  · simp [Array.getElem?_eq_none h'] at h

theorem wpAnyR_pure {i : Nat} {oi : Oper} {v : Value} (hi : ops[i]? = some oi) (hsel : ∀ (j : Nat) (o : Oper) cs b, ops[j]? = some o → o.op ≠ .select cs b)
    (hQ : ∀ (c : List PanicEntry) (a : Act) (u : Value) (w : World), Q (.panic c) (a.put oi.dst u) w → Q (.panic c) a w) (hm : ∀ x ∈ rq, x.1.testBit i = false) :
    ∀ (fuel : Nat) (listed : Array Bool) (a : Act) (w : World),
      (∀ j oj, ops[j]? = some oj → j ≠ i → listed.getD j true = false → (∀ e ∈ oj.after, Region.binds md e = true → e.on ≠ i) → oi.apart ops oj = true) →
      i ∈ Region.ready md ops listed → Yields P ops oi v a → Held rq listed w →
      wpAnyR P md ops Q rq fuel (listed.setIfInBounds i true) (a.put oi.dst v) w → wpAnyR P md ops Q rq (fuel + 1) listed a w := by
  intro fuel
  induction fuel with
  | zero =>
    intro listed a w _ hr hy hst H
    refine ⟨hst, fun h => (by rw [h] at hr; cases hr), fun j hj => ?_⟩
    by_cases hji : j = i
    · subst hji; exact hy.wpOp hi H
    · have := ready_mono hj hji
      rw [H.2.1] at this
      cases this
  | succ fuel ih =>
    intro listed a w hfree hr hy hst H
    refine ⟨hst, fun h => (by rw [h] at hr; cases hr), fun j hj => ?_⟩
    by_cases hji : j = i
    · subst hji; exact hy.wpOp hi H
    · have h1 := H.2.2 j (ready_mono hj hji)
      obtain ⟨hjun, oj, hoj, hall⟩ := mem_ready.1 hj
      have hnot : ∀ e ∈ oj.after, Region.binds md e = true → e.on ≠ i := fun e he hb heq => by
        have h1 := hall e he hb
        rw [heq, unlisted_false (mem_ready.1 hr).1] at h1
        cases h1
      have h2 := wpOp_put hoj (hfree j oj hoj hji hjun hnot) (fun cs b => hsel i oi cs b hi) (fun cs b => hsel j oj cs b hoj) (fun c a w h => hQ _ _ _ _ h) hy h1
      have hfree' : ∀ k ok, ops[k]? = some ok → k ≠ i → (listed.setIfInBounds j true).getD k true = false →
          (∀ e ∈ ok.after, Region.binds md e = true → e.on ≠ i) → oi.apart ops ok = true := fun k ok hk hki hun hno => by
        refine hfree k ok hk hki ?_ hno
        by_cases hjk : j = k
        · subst hjk; exact hjun
        · rw [getD_set_ne true hjk] at hun; exact hun
      refine wpOp_mono (fun a' w' h3 => ih (listed.setIfInBounds j true) a' w' hfree' (ready_mono hr (Ne.symm hji)) h3.1 ?_ ?_) h2
      · intro x hx hl
        refine h3.2.held x hx ?_
        rw [Array.setIfInBounds_comm _ _ (Ne.symm hji)]
        exact live_set (hm x hx) hl
      · rw [Array.setIfInBounds_comm _ _ hji]
        exact h3.2

theorem wpAnyR_read {i : Nat} {oi : Oper} {v : Value} {S : World → Prop} {m D : Nat} (hi : ops[i]? = some oi) (hsel : ∀ (j : Nat) (o : Oper) cs b, ops[j]? = some o → o.op ≠ .select cs b)
    (hQ : ∀ (c : List PanicEntry) (a : Act) (u : Value) (w : World), Q (.panic c) (a.put oi.dst u) w → Q (.panic c) a w) (hm : ∀ x ∈ rq, x.1.testBit i = false) (hmi : m.testBit i = false) (hmD : ∀ k, m.testBit k = true → D.testBit k = true)
    (hD : ∀ j oj, ops[j]? = some oj → D.testBit j = true → ∃ e ∈ oj.after, Region.binds md e = true ∧ (e.on = i ∨ D.testBit e.on = true)) :
    ∀ (fuel : Nat) (listed : Array Bool) (a : Act) (w : World),
      (∀ j oj, ops[j]? = some oj → j ≠ i → listed.getD j true = false → (∀ e ∈ oj.after, Region.binds md e = true → e.on ≠ i) → oi.apart ops oj = true) →
      i ∈ Region.ready md ops listed → live D listed → YieldsIf P ops S oi v a → S w → Held rq listed w →
      wpAnyR P md ops Q ((m, S) :: rq) fuel (listed.setIfInBounds i true) (a.put oi.dst v) w → wpAnyR P md ops Q rq (fuel + 1) listed a w := by
  intro fuel
  induction fuel with
  | zero =>
    intro listed a w _ hr _ hy hS hst H
    refine ⟨hst, fun h => (by rw [h] at hr; cases hr), fun j hj => ?_⟩
    by_cases hji : j = i
    · subst hji; exact hy.wpOp hi hS (wpAnyR_weaken _ _ _ _ H)
    · have := ready_mono hj hji
      rw [H.2.1] at this
      cases this
  | succ fuel ih =>
    intro listed a w hfree hr hun hy hS hst H
    refine ⟨hst, fun h => (by rw [h] at hr; cases hr), fun j hj => ?_⟩
    by_cases hji : j = i
    · subst hji; exact hy.wpOp hi hS (wpAnyR_weaken _ _ _ _ H)
    · have h1 := H.2.2 j (ready_mono hj hji)
      obtain ⟨hjun, oj, hoj, hall⟩ := mem_ready.1 hj
      have hif := unlisted_false (mem_ready.1 hr).1
      have hnot : ∀ e ∈ oj.after, Region.binds md e = true → e.on ≠ i := fun e he hb heq => by
        have h1 := hall e he hb
        rw [heq, hif] at h1
        cases h1
      have hjD : D.testBit j = false := by
        cases hd : D.testBit j with
        | false => rfl
        | true =>
          obtain ⟨e, he, hb, h4⟩ := hD j oj hoj hd
          have h5 := hall e he hb
          rcases h4 with h4 | h4
          · rw [h4, hif] at h5; cases h5
          · rw [hun _ h4] at h5; cases h5
      have h2 := wpOp_putIf hoj (hfree j oj hoj hji hjun hnot) (fun cs b => hsel i oi cs b hi) (fun cs b => hsel j oj cs b hoj) (fun c a w h => hQ _ _ _ _ h) hy h1
      have hfree' : ∀ k ok, ops[k]? = some ok → k ≠ i → (listed.setIfInBounds j true).getD k true = false →
          (∀ e ∈ ok.after, Region.binds md e = true → e.on ≠ i) → oi.apart ops ok = true := fun k ok hk hki hun hno => by
        refine hfree k ok hk hki ?_ hno
        by_cases hjk : j = k
        · subst hjk; exact hjun
        · rw [getD_set_ne true hjk] at hun; exact hun
      have hmj : m.testBit j = false := by
        cases hd : m.testBit j with
        | false => rfl
        | true => rw [hmD _ hd] at hjD; cases hjD
      refine wpOp_mono (fun a' w' h3 => ih (listed.setIfInBounds j true) a' w' hfree' (ready_mono hr (Ne.symm hji)) (live_set hjD hun) h3.1 ?_ ?_ ?_) h2
      · refine h3.2.held (m, S) (by simp) ?_
        exact live_set hmj (live_set hmi (fun k hk => hun k (hmD k hk)))
      · intro x hx hl
        refine h3.2.held x (by simp [hx]) ?_
        rw [Array.setIfInBounds_comm _ _ (Ne.symm hji)]
        exact live_set (hm x hx) hl
      · rw [Array.setIfInBounds_comm _ _ hji]
        exact h3.2

theorem wpAnyR_only {i : Nat} {f : Nat} {listed : Array Bool} {a : Act} {w : World} (hr : Region.ready md ops listed = [i]) (hst : Held rq listed w)
    (h : wpOp P ops Q i (wpAnyR P md ops Q rq f (listed.setIfInBounds i true)) a w) : wpAnyR P md ops Q rq (f + 1) listed a w :=
  ⟨hst, fun h0 => (by rw [hr] at h0; cases h0), fun j hj => (by rw [hr] at hj; simp only [List.mem_singleton] at hj; rw [hj]; exact h)⟩

end anyR
end Go.Proofs.YtacmnfpgimgigaaGreat
