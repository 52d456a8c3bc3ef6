/- A function that is put off, recovers first of all, and keeps what it found in a variable. -/
import Derived.Test.YtkijkoakloacoaaGreatDoorPn
namespace Go.Proofs.YtkijkoakloacoaaGreatDoor
open Go
set_option linter.unusedVariables false
set_option linter.unusedSimpArgs false

section
variable {P : Program}
theorem binV_ineq {T : TypeId} {y : Value} : binV P .neq T .nilIface y = (eqV (P.underlying T) .nilIface y).map fun b => .bool (!b) := by simp [binV]
theorem binV_jneq {T t : TypeId} {v y : Value} : binV P .neq T (.iface t v) y = (eqV (P.underlying T) (.iface t v) y).map fun b => .bool (!b) := by simp [binV]
theorem callsD_recover2 {f : FuncId} {fn : Func} {i d d2 : Nat} {ops : Array Oper} {o o2 : Oper} {c : Code} {types : Array TypeInfo} {x c' : Cd} {args : Array Value} {u : FrameMode} {w : World} {R : Ending → FrameMode → World → Prop} {ts : Array TypeId}
    (hm : P.follows .mixedOrders = true) (hf : P.funcs[f]? = some fn) (hb : fn.body = some (.seq (.region i ops false) c)) (hs : ops.size = 2) (ho : ops[0]? = some o) (hop : o.op = .call { callee := .builtin .recover, args := #[], argTypes := ts }) (hg : o.guard = none) (hd : o.dst = some d) (hdn : d < fn.ntmps)
    (ho2 : ops[1]? = some o2) (hop2 : o2.op = .assign (.tmp d)) (hg2 : o2.guard = none) (hd2 : o2.dst = some d2) (hdn2 : d2 < fn.ntmps)
    (hc : comp types fn.ntmps (.seq (.region i ops false) c) = .seq x c') (hn : args.size ≤ fn.ntmps) (hnr : noRange c = true)
    (h : cwE P c' (fnR P fn.results (recM u).2 R) (((entry args).put (some d) (recM u).1).put (some d2) (recM u).1) w) : CallsDIn (Fr none) 0 P f args u w R := by
  have hcc : comp types fn.ntmps c = c' := by
    simp only [comp, Cd.seq.injEq] at hc
    exact hc.2
  subst hcc
  have h1 : cw P none (comp types fn.ntmps c) (fnR P fn.results (recM u).2 R) (((entry args).put (some d) (recM u).1).put (some d2) (recM u).1) w := cw_of_cwD _ _ _ _ _ _ (fun _ _ _ h => h) h
  refine callsDIn_of_wpSIn hf hb trivial fun c₀ cs hu => ?_
  refine wpSIn_seq (wpSIn_region ?_)
  have hrel : Rel fn.ntmps { tmps := args ++ Array.replicate (fn.ntmps - args.size) undef, defers := [] } (entry args) := ⟨by simp; omega, fun t => by
    simp only [entry]
    rcases Nat.lt_or_ge t args.size with h1 | h1
    · simp [Array.getElem?_append, h1]
    · have : (args ++ Array.replicate (fn.ntmps - args.size) undef).getD t undef = undef := by
        rw [Array.getD_eq_getD_getElem?, Array.getElem?_append, if_neg (by omega)]
        rcases Nat.lt_or_ge (t - args.size) (fn.ntmps - args.size) with h2 | h2
        · simp [h2]
        · rw [Array.getElem?_eq_none (by simpa using h2)]; rfl
      rw [this]
      simp [Array.getElem?_eq_none h1], rfl⟩
  rw [hs]
  have hr1 : List.range 2 = [0, 1] := rfl
  rw [hr1]
  unfold wpOpsSIn
  rw [ho]
  simp only
  refine ⟨fun _ _ => trivial, ?_⟩
  have hw : Region.wanted o (yielded ops (args ++ Array.replicate (fn.ntmps - args.size) undef)) = true := by unfold Region.wanted; rw [hg]
  rw [if_pos hw]
  have hx : ∀ ρ, (execOp ρ o).run P w = .ok .recover w := fun ρ => by
    unfold execOp
    rw [hop]
    simp [resolve, invoke, go_sem]
  rw [hx]
  have two : ∀ {Q : Exit → Act → List Frame → World → Prop} {a : Act} {v : Value} {cs : List Frame}, d < a.tmps.size → Q .normal ((a.put (some d) v).put (some d2) v) cs w → wpOpsSIn (Fr none) 0 P ops Q [1] (a.put (some d) v) cs w := by
    intro Q a v cs ha hq
    unfold wpOpsSIn
    rw [ho2]
    simp only
    refine ⟨fun _ _ => trivial, ?_⟩
    have hw2 : Region.wanted o2 (yielded ops (a.put (some d) v).tmps) = true := by unfold Region.wanted; rw [hg2]
    rw [if_pos hw2]
    have he : (a.put (some d) v).eval (.tmp d) = v := by simp [Act.put, Act.eval, ha]
    have hx2 : (execOp (a.put (some d) v).eval o2).run P w = .ok (.value v) w := by
      unfold execOp
      rw [hop2]
      simp [he, go_sem]
      omega
    rw [hx2, hd2]
    unfold wpOpsSIn
    exact hq
  have fin : ∀ (v : Value) (u' : FrameMode), recM u = (v, u') → Exit.thenS (c.wpSIn (Fr none) 0 P (bodyPostS P fn c₀ cs R)) (bodyPostS P fn c₀ cs R) .normal ((({ tmps := args ++ Array.replicate (fn.ntmps - args.size) undef, defers := [] } : Act).put (some d) v).put (some d2) v) ({ c₀ with mode := u' } :: cs) w := by
    intro v u' he
    show c.wpSIn _ _ _ _ _ _ _
    rw [he] at h1
    refine wpSIn_of_wpIn rfl (wpIn_mono (cw_sound hm c none _ _ w hnr (fun h => by cases h) h1 _ ((hrel.put (d := some d) (by simpa [dstOk] using hdn) v).put (d := some d2) (by simpa [dstOk] using hdn2) v) 0) ?_)
    rintro y a w ⟨e, hr, hq⟩
    have ret : e.ds = [] ∧ resC P fn.results e (fun x w => R x u' w) w → a.defers = [] ∧ ∃ u'', { c₀ with mode := u' } :: cs = { c₀ with mode := u'' } :: cs ∧ ∃ v, (results fn a.tmps).run P w = .ok v w ∧ R (.returned v) u'' w := by
      rintro ⟨hd, v, h1, h2⟩
      exact ⟨by rw [hr.ds, hd], u', rfl, v, by rw [results_eq hr]; exact h1, h2⟩
    cases y with
    | normal => exact ret hq
    | ret => exact ret hq
    | panic ch => exact ⟨by rw [hr.ds, hq.1], u', rfl, hq.2⟩
    | exit id => exact hq.elim
    | goto l => exact hq.elim
    | outgrown => exact hq.elim
  have hsz : d < (args ++ Array.replicate (fn.ntmps - args.size) undef).size := by simp; omega
  have hrm := recoverD_recM c₀ cs
  rw [hu] at hrm
  rw [hd]
  rcases hrm with hrm | ⟨hrm, he⟩
  · rw [hrm]
    exact two hsz (fin _ _ rfl)
  · rw [hrm]
    have := fin _ _ he
    have hcc : ({ c₀ with mode := u } : Frame) = c₀ := by rw [← hu]
    rw [hcc] at this
    exact two hsz this
end
attribute [go_sem] binV_ineq binV_jneq
end Go.Proofs.YtkijkoakloacoaaGreatDoor
