/- Panics, deferred calls, recover. -/
import Derived.Test.YtkijkoakloacoaaGreatDoorEv
import Derived.RecoverIn
import Derived.RangeFuncLeaves
import Derived.Laws.Build
namespace Go.Proofs.YtkijkoakloacoaaGreatDoor
open Go
set_option linter.unusedVariables false
set_option linter.unusedSimpArgs false

section
variable {P : Program}

/-- panic(x). -/
def panicD (v : Value) (Pc : List PanicEntry → World → Prop) (w : World) : Prop := ∃ T u, v = .iface T u ∧ Pc [{ v := .iface T u, recovered := false }] w
theorem panicD_iface {T : TypeId} {u : Value} {Pc : List PanicEntry → World → Prop} {w : World} : panicD (.iface T u) Pc w = Pc [{ v := .iface T u, recovered := false }] w := by
  apply propext
  constructor
  · rintro ⟨T', u', h, k⟩; cases h; exact k
  · exact fun h => ⟨T, u, rfl, h⟩

theorem panic_of {K : Value → World → Prop} {D : Deferred → World → Prop} {Pc : List PanicEntry → World → Prop} {d : Option Nat} {x : Operand} {ty : TypeId} {p : String} {af : Array Edge} {g : Option (Nat × Bool)} {e : FA} {w : World} {θ : Tag (K, D, Pc)}
    (h : panicD (e.ev x) Pc w) : rawD P K D Pc (opS ⟨d, .panic x, ty, p, af, g⟩ e) w θ := by
  obtain ⟨T, u, hv, h⟩ := h
  show upon P K D Pc ((execOp e.ev _).run P w)
  have : (execOp e.ev ⟨d, .panic x, ty, p, af, g⟩).run P w = .halt (.panic (.iface T u)) w := by
    simp [execOp, hv, Instr.panic, goPanic, go_sem]
  rw [this]
  exact h

theorem mkI_of {T : TypeId} {v : Value} {w : World} {K : Value → Prop} {θ : Tag K} (hc : P.concrete T = true) (hK : K (.iface T v)) : readR P (kMakeInterface T v) w K θ :=
  ⟨_, run_makeInterface w T v hc, hK⟩

/-- v, ok := x.(T), of a type that is no interface. -/
theorem assert_of {T T' : TypeId} {v : Value} {w : World} {K : Value → Prop} {θ : Tag K} {u : TypeDesc} (hu : P.underlying T' = some u) (hn : ∀ m, u ≠ .interface m) (hK : K (.tuple #[v, .bool true])) : readR P (kTypeAssert (.iface T' v) T T' true) w K θ := by
  refine ⟨_, ?_, hK⟩
  show (Instr.typeAssert _ _ _ _).run P w = _
  unfold Instr.typeAssert
  simp only [Sem.run_bind, run_underlying hu, Result.andThen]
  cases u <;> first | exact absurd rfl (hn _) | simp

/-- A call is put off. -/
theorem defer_of {K : Value → World → Prop} {D : Deferred → World → Prop} {Pc : List PanicEntry → World → Prop} {d : Option Nat} {t : Nat} {f : Nat} {cap : Array Value} {ty : TypeId} {p : String} {af : Array Edge} {g : Option (Nat × Bool)} {e : FA} {w : World} {θ : Tag (K, D, Pc)}
    (hv : e.ρ t = .func (.func f) #[] cap) (h : D { target := .fn (.func f) cap, args := #[] } w) : rawD P K D Pc (opS ⟨d, .defer { callee := .value (.tmp t), args := #[], argTypes := #[] }, ty, p, af, g⟩ e) w θ := by
  show upon P K D Pc ((execOp e.ev _).run P w)
  have : (execOp e.ev ⟨d, .defer { callee := .value (.tmp t), args := #[], argTypes := #[] }, ty, p, af, g⟩).run P w = .ok (.defer { target := .fn (.func f) cap, args := #[] }) w := by
    simp [execOp, resolve, FA.ev, hv, go_sem]
  rw [this]
  exact h

theorem resC_CC {x y : Nat} {T U : TypeId} {a b : Addr} {v u : Value} {R : Ending → World → Prop} {e : FA} {w : World} (hx : e.ρ x = .pointer (some a)) (hv : (loadVar T a).run P w = .ok v w) (hy : e.ρ y = .pointer (some b)) (hu : (loadVar U b).run P w = .ok u w) (h : R (.returned (.tuple #[v, u])) w) : resC P #[.cell x T, .cell y U] e R w :=
  ⟨.tuple #[v, u], by simp [resF, hx, hy, asAddr, hv, hu], h⟩
theorem eqV_nilI : eqV (some (.interface #[])) .nilIface .nilIface = some true := rfl
theorem eqV_ifaceNil {m : Array (String × TypeId)} {T : TypeId} {v : Value} : eqV (some (.interface m)) (.iface T v) .nilIface = some false := rfl
theorem binV_ieql {T : TypeId} {y : Value} : binV P .eql T .nilIface y = (eqV (P.underlying T) .nilIface y).map .bool := by simp [binV]
theorem binV_jeql {T t : TypeId} {v y : Value} : binV P .eql T (.iface t v) y = (eqV (P.underlying T) (.iface t v) y).map .bool := by simp [binV]

/-! ### Leaving a function that has put off calls -/

/-- What is asked of the calls that were put off, one by one. -/
def leaveD (P : Program) : List Deferred → FrameMode → World → (FrameMode → World → Prop) → Prop
  | [], u, w, K => K u w
  | d :: ds, u, w, K => u ≠ .run ∧ ∃ fv cap f args, d.target = .fn fv cap ∧ (invoke d.target d.args).run P w = .ok (.enter f args) w ∧
      CallsDIn (Fr none) 0 P f args u w fun
        | .returned _, u', w' => leaveD P ds (settle u') w' K
        | .panicked chain, u', w' => leaveD P ds (raised u' chain) w' K
        | .outgrown, _, _ => False

def endM (P : Program) (rs : Array ResultVar) (e : FA) (R : Ending → World → Prop) : FrameMode → World → Prop
  | .returning, w => resC P rs e R w
  | .panicking chain, w => R (.panicked chain) w
  | .run, _ => False

def fnM (P : Program) (rs : Array ResultVar) (R : Ending → World → Prop) : Post
  | .normal, e, w | .ret, e, w => leaveD P e.ds .returning w (endM P rs e R)
  | .panic chain, e, w => leaveD P e.ds (.panicking chain) w (endM P rs e R)
  | _, _, _ => False

theorem fnM_ret {rs : Array ResultVar} {R : Ending → World → Prop} {e : FA} {w : World} : fnM P rs R .ret e w = leaveD P e.ds .returning w (endM P rs e R) := rfl
theorem fnM_normal {rs : Array ResultVar} {R : Ending → World → Prop} {e : FA} {w : World} : fnM P rs R .normal e w = leaveD P e.ds .returning w (endM P rs e R) := rfl
theorem fnM_panic {rs : Array ResultVar} {R : Ending → World → Prop} {c : List PanicEntry} {e : FA} {w : World} : fnM P rs R (.panic c) e w = leaveD P e.ds (.panicking c) w (endM P rs e R) := rfl

theorem CallsDIn.mono' {F : Fence} {n : Nat} {f : FuncId} {args : Array Value} {u : FrameMode} {w : World} {R R' : Ending → FrameMode → World → Prop} (h : CallsDIn F n P f args u w R) (hr : ∀ e u' w', R e u' w' → R' e u' w') : CallsDIn F n P f args u w R' :=
  ⟨h.1, fun c cs hu hroom => let ⟨e, u', w', fr, r, rest⟩ := h.2 c cs hu hroom; ⟨e, u', w', fr, hr _ _ _ r, rest⟩⟩

theorem leave1 {f : Nat} {cap : Array Value} {ds : List Deferred} {u : FrameMode} {w : World} {K : FrameMode → World → Prop} (hu : u ≠ .run) (hf : fnOk0 P f = true)
    (h : CallsDIn (Fr none) 0 P f cap u w fun
        | .returned _, u', w' => leaveD P ds (settle u') w' K
        | .panicked chain, u', w' => leaveD P ds (raised u' chain) w' K
        | .outgrown, _, _ => False) : leaveD P ({ target := .fn (.func f) cap, args := #[] } :: ds) u w K :=
  ⟨hu, .func f, cap, f, cap, rfl, by
    show (invoke (.fn (.func f) cap) #[]).run P w = _
    simp only [invoke, Array.empty_append]
    exact fnOk0_run hf _ _, h⟩

theorem leaves_of_leaveD {fn : Func} {tmps : Array Value} {R : Ending → World → Prop} {K : FrameMode → World → Prop} (hK : ∀ u w, K u w → LeavesInM (Fr none) 0 P fn tmps R [] u w) :
    ∀ (ds : List Deferred) (u : FrameMode) (w : World), leaveD P ds u w K → LeavesInM (Fr none) 0 P fn tmps R ds u w
  | [], u, w, h => hK u w h
  | d :: ds, u, w, ⟨hu, fv, cap, f, args, ht, hi, hc⟩ => by
    refine ⟨hu, .inr ⟨Fr_depth _ _, fv, cap, f, args, ht, hi, fun _ _ => trivial, ?_⟩⟩
    refine CallsDIn.mono' hc fun e u' w' h => ?_
    cases e with
    | returned v => exact leaves_of_leaveD hK ds _ _ h
    | panicked c => exact leaves_of_leaveD hK ds _ _ h
    | outgrown => exact h.elim

theorem calls_of_cwM {f : FuncId} {fn : Func} {c : Code} {types : Array TypeInfo} {args : Array Value} {w : World} {R : Ending → World → Prop}
    (hm : P.follows .mixedOrders = true) (hf : P.funcs[f]? = some fn) (c' : Cd) (hb : fn.body = some c) (hc : comp types fn.ntmps c = c') (hn : args.size ≤ fn.ntmps)
    (h : cwE P c' (fnM P fn.results R) (entry args) w) : Calls P f args w R := by
  subst hc
  have h1 : cw P none (comp types fn.ntmps c) (fnM P fn.results R) (entry args) w := cw_of_cwD _ _ _ _ _ _ (fun _ _ _ h => h) h
  refine callsC_to (ro := none) (n := 0) (callsIn_of_wpB hf hb (wpB_mono (cw_soundB hm c none _ _ w (fun h => by cases h) h1 _ (N := fn.ntmps) ⟨by simp; omega, fun t => ?_, rfl⟩) ?_))
  · simp only [entry]
    rcases Nat.lt_or_ge t args.size with h1 | h1
    · simp [Array.getElem?_append, h1]
    · have : (args ++ Array.replicate (fn.ntmps - args.size) undef).getD t undef = undef := by
        rw [Array.getD_eq_getD_getElem?, Array.getElem?_append, if_neg (by omega)]
        rcases Nat.lt_or_ge (t - args.size) (fn.ntmps - args.size) with h2 | h2
        · simp [h2]
        · rw [Array.getElem?_eq_none (by simpa using h2)]; rfl
      rw [this]
      simp [Array.getElem?_eq_none h1]
  · rintro x a w ⟨e, hr, hq⟩
    have main : ∀ u, leaveD P e.ds u w (endM P fn.results e R) → LeavesInM (Fr none) 0 P fn a.tmps R a.defers u w := fun u hq => by
      rw [hr.ds]
      refine leaves_of_leaveD (fun u w h => ?_) _ _ _ hq
      cases u with
      | run => exact h.elim
      | returning =>
        obtain ⟨v, h1, h2⟩ := h
        exact ⟨v, by rw [results_eq hr]; exact h1, h2⟩
      | panicking c => exact h
    cases x with
    | normal => exact main _ hq
    | ret => exact main _ hq
    | panic c => exact main _ hq
    | exit id => exact hq.elim
    | goto l => exact hq.elim
    | outgrown => exact hq.elim

/-! ### A function that is put off and recovers first of all -/

/-- What recover finds, and the caller's way behind it. -/
def recM : FrameMode → Value × FrameMode
  | .panicking ({ v, recovered := false, goexit := false } :: older) => (v, .panicking ({ v, recovered := true } :: older))
  | u => (.nilIface, u)

def fnR (P : Program) (rs : Array ResultVar) (u : FrameMode) (R : Ending → FrameMode → World → Prop) : Post
  | .normal, e, w | .ret, e, w => e.ds = [] ∧ resC P rs e (fun x w => R x u w) w
  | .panic chain, e, w => e.ds = [] ∧ R (.panicked chain) u w
  | _, _, _ => False

theorem recoverD_recM (c : Frame) (cs : List Frame) : recoverD (c :: cs) = some ((recM c.mode).1, { c with mode := (recM c.mode).2 } :: cs) ∨ (recoverD (c :: cs) = none ∧ recM c.mode = (.nilIface, c.mode)) := by
  cases hm : c.mode with
  | run => right; simp [recoverD, recM, hm]
  | returning => right; simp [recoverD, recM, hm]
  | panicking l =>
    cases l with
    | nil => right; simp [recoverD, recM, hm]
    | cons x l =>
      obtain ⟨v, r, g⟩ := x
      cases r <;> cases g <;> simp [recoverD, recM, hm]

theorem callsD_recover {f : FuncId} {fn : Func} {i d : Nat} {ops : Array Oper} {o : Oper} {c : Code} {types : Array TypeInfo} {x c' : Cd} {args : Array Value} {u : FrameMode} {w : World} {R : Ending → FrameMode → World → Prop} {ts : Array TypeId}
    (hm : P.follows .mixedOrders = true) (hf : P.funcs[f]? = some fn) (hb : fn.body = some (.seq (.region i ops false) c)) (hs : ops.size = 1) (ho : ops[0]? = some o) (hop : o.op = .call { callee := .builtin .recover, args := #[], argTypes := ts }) (hg : o.guard = none) (hd : o.dst = some d) (hdn : d < fn.ntmps)
    (hc : comp types fn.ntmps (.seq (.region i ops false) c) = .seq x c') (hn : args.size ≤ fn.ntmps) (hnr : noRange c = true)
    (h : cwE P c' (fnR P fn.results (recM u).2 R) ((entry args).put (some d) (recM u).1) w) : CallsDIn (Fr none) 0 P f args u w R := by
  have hcc : comp types fn.ntmps c = c' := by
    simp only [comp, Cd.seq.injEq] at hc
    exact hc.2
  subst hcc
  have h1 : cw P none (comp types fn.ntmps c) (fnR P fn.results (recM u).2 R) ((entry args).put (some d) (recM u).1) w := cw_of_cwD _ _ _ _ _ _ (fun _ _ _ h => h) h
  refine callsDIn_of_wpSIn hf hb trivial fun c₀ cs hu => ?_
  refine wpSIn_seq (wpSIn_region ?_)
  have hrel : Rel fn.ntmps { tmps := args ++ Array.replicate (fn.ntmps - args.size) undef, defers := [] } (entry args) := ⟨by simp; omega, fun t => by
    simp only [entry]
    rcases Nat.lt_or_ge t args.size with h1 | h1
    · simp [Array.getElem?_append, h1]
    · have : (args ++ Array.replicate (fn.ntmps - args.size) undef).getD t undef = undef := by
        rw [Array.getD_eq_getD_getElem?, Array.getElem?_append, if_neg (by omega)]
        rcases Nat.lt_or_ge (t - args.size) (fn.ntmps - args.size) with h2 | h2
        · simp [h2]
        · rw [Array.getElem?_eq_none (by simpa using h2)]; rfl
      rw [this]
      simp [Array.getElem?_eq_none h1], rfl⟩
  rw [hs]
  have hr1 : List.range 1 = [0] := rfl
  rw [hr1]
  unfold wpOpsSIn
  rw [ho]
  simp only
  refine ⟨fun _ _ => trivial, ?_⟩
  have hw : Region.wanted o (yielded ops (args ++ Array.replicate (fn.ntmps - args.size) undef)) = true := by unfold Region.wanted; rw [hg]
  rw [if_pos hw]
  have hx : ∀ ρ, (execOp ρ o).run P w = .ok .recover w := fun ρ => by
    unfold execOp
    rw [hop]
    simp [resolve, invoke, go_sem]
  rw [hx]
  have fin : ∀ (v : Value) (u' : FrameMode), recM u = (v, u') → Exit.thenS (c.wpSIn (Fr none) 0 P (bodyPostS P fn c₀ cs R)) (bodyPostS P fn c₀ cs R) .normal (({ tmps := args ++ Array.replicate (fn.ntmps - args.size) undef, defers := [] } : Act).put (some d) v) ({ c₀ with mode := u' } :: cs) w := by
    intro v u' he
    show c.wpSIn _ _ _ _ _ _ _
    rw [he] at h1
    refine wpSIn_of_wpIn rfl (wpIn_mono (cw_sound hm c none _ _ w hnr (fun h => by cases h) h1 _ (hrel.put (d := some d) (by simpa [dstOk] using hdn) v) 0) ?_)
    rintro y a w ⟨e, hr, hq⟩
    have ret : e.ds = [] ∧ resC P fn.results e (fun x w => R x u' w) w → a.defers = [] ∧ ∃ u'', { c₀ with mode := u' } :: cs = { c₀ with mode := u'' } :: cs ∧ ∃ v, (results fn a.tmps).run P w = .ok v w ∧ R (.returned v) u'' w := by
      rintro ⟨hd, v, h1, h2⟩
      exact ⟨by rw [hr.ds, hd], u', rfl, v, by rw [results_eq hr]; exact h1, h2⟩
    cases y with
    | normal => exact ret hq
    | ret => exact ret hq
    | panic ch => exact ⟨by rw [hr.ds, hq.1], u', rfl, hq.2⟩
    | exit id => exact hq.elim
    | goto l => exact hq.elim
    | outgrown => exact hq.elim
  have hrm := recoverD_recM c₀ cs
  rw [hu] at hrm
  rw [hd]
  unfold wpOpsSIn
  rcases hrm with hrm | ⟨hrm, he⟩
  · rw [hrm]
    exact fin _ _ rfl
  · rw [hrm]
    have := fin _ _ he
    have hcc : ({ c₀ with mode := u } : Frame) = c₀ := by rw [← hu]
    rw [hcc] at this
    exact this
end

theorem fnR_normal {P : Program} {rs : Array ResultVar} {u : FrameMode} {R : Ending → FrameMode → World → Prop} {e : FA} {w : World} : fnR P rs u R .normal e w = (e.ds = [] ∧ resC P rs e (fun x w => R x u w) w) := rfl
attribute [go_sem] eqV_nilI eqV_ifaceNil binV_ieql binV_jeql fnR_normal panicD_iface fnM_ret fnM_normal fnM_panic
end Go.Proofs.YtkijkoakloacoaaGreatDoor
