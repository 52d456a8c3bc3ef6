/- The engine's fifth part: operations that read or act; the evaluator; its soundness. -/
import Derived.Test.YtacmnfpgimgigaaGreatZ1
import Derived.Test.YtacmnfpgimgigaaGreatZ2
import Derived.Test.YtacmnfpgimgigaaGreatZ3
import Derived.Test.YtacmnfpgimgigaaGreatZ4
namespace Go.Proofs.YtacmnfpgimgigaaGreat
open Go

/-! ### Reads -/

def cellsFrom (w : World) (a : Addr) (i : Nat) : Nat → Option (List Value)
  | 0 => some []
  | n + 1 => match w.cell? (a.add i), cellsFrom w a (i + 1) n with
    | some v, some l => some (v :: l)
    | _, _ => none

def rowV (w : World) (a : Addr) (n : Nat) : Option Value := (cellsFrom w a 0 n).map fun l => .agg l.toArray

def loadD (sz : Option (Option Nat)) (v : Value) (w : World) (K : Value → Prop) (_t : Tag K := ⟨⟩) : Prop :=
  match sz, v with
  | some none, .pointer (some a) => onV (w.cell? a) K
  | some (some n), .pointer (some a) => onV (rowV w a n) K
  | _, _ => False
theorem loadD_cell (a : Addr) (w : World) (K : Value → Prop) (t : Tag K) : loadD (some none) (.pointer (some a)) w K t = onV (w.cell? a) K := rfl
theorem loadD_row (n : Nat) (a : Addr) (w : World) (K : Value → Prop) (t : Tag K) : loadD (some (some n)) (.pointer (some a)) w K t = onV (rowV w a n) K := rfl

/-- Any other read, by the model's own run. -/
def readR (P : Program) (s : Sem Value) (w : World) (K : Value → Prop) (_t : Tag K := ⟨⟩) : Prop := ∃ v, s.run P w = .ok v w ∧ K v

def readD (P : Program) (o : Oper) (e : FA) (w : World) (K : Value → Prop) : Prop :=
  match o.op with
  | .load T x => loadD (aggSz P T) (e.ev x) w K
  | .lookup T x i ok => readR P (Instr.lookup T (e.ev x) (e.ev i) ok) w K
  | .entry x => readR P (Instr.entry (e.ev x)) w K
  | .typeAssert x T T' ok => readR P (Instr.typeAssert (e.ev x) T T' ok) w K
  | .makeInterface T x => readR P (Instr.makeInterface T (e.ev x)) w K
  | .convert s d x => readR P (convert s d (e.ev x)) w K
  | .call { callee := .builtin .len, args, argTypes } => readR P (Builtin.len_ argTypes o.type (args.map e.ev)) w K
  | _ => False

/-! ### Acts -/

def isCell : Value → Bool
  | .agg _ | .tuple _ => false
  | _ => true

def stD (w : World) (a : Addr) (K : World → Prop) : Nat → List Value → Prop
  | _, [] => K w
  | i, v :: l => ((w.cell? (a.add i)).isSome = true ∧ w.frozen? (a.add i) = false) ∧ stD (w.setCell (a.add i) v) a K (i + 1) l

def szO (P : Program) (T : TypeId) : Option Nat := (P.info? T).map (·.size)

def storeD (n : Option Nat) (v x : Value) (w : World) (K : World → Prop) (_t : Tag K := ⟨⟩) : Prop :=
  match v with
  | .pointer (some a) => (n = some x.cells.size ∧ x.cells.all isCell = true) ∧ stD w a K 0 x.cells.toList
  | _ => False

/-- A value of the model's own run; the world may have turned. -/
def semD (P : Program) (s : Sem Value) (w : World) (K : Value → World → Prop) (_t : Tag K := ⟨⟩) : Prop := ∃ v w', s.run P w = .ok v w' ∧ K v w'
def semU (P : Program) (s : Sem Unit) (w : World) (K : World → Prop) (_t : Tag K := ⟨⟩) : Prop := ∃ w', s.run P w = .ok () w' ∧ K w'

def newD (T : TypeId) (cells : Array Value) (w : World) (K : Value → World → Prop) (_t : Tag K := ⟨⟩) : Prop := K (.pointer (some ⟨w.heap.size, 0, none⟩)) (w.alloc (.cells cells T))

def zeroV (P : Program) (T : TypeId) : Option Value := (P.info? T).bind (·.zero)

def allocD (z : Option Value) (T : TypeId) (w : World) (K : Value → World → Prop) (_t : Tag K := ⟨⟩) : Prop := onV z fun v => newD T v.cells w K
theorem allocD_some (v : Value) (T : TypeId) (w : World) (K : Value → World → Prop) (t : Tag K) : allocD (some v) T w K t = newD T v.cells w K := by rw [allocD, onV_some]

def fnOk (P : Program) (g : FuncId) : Bool :=
  match P.funcs[g]? with
  | some fn => fn.body.isSome && !(fn.name == "runtime.NumGoroutine")
  | none => false

/-- A call of a function value. -/
def callD (P : Program) (f : Value) (args : Array Value) (w : World) (R : Ending → World → Prop) (_t : Tag R := ⟨⟩) : Prop :=
  match f with
  | .func (.func g) first cap => fnOk P g = true ∧ Calls P g (first ++ args ++ cap) w R
  | _ => False

/-- A call of a function value that may be a loop's yield. -/
def callY (P : Program) (f : Value) (args : Array Value) (w : World) (R : Ending → World → Prop) (_t : Tag (w, R) := ⟨⟩) : Prop :=
  match f with
  | .func (.func g) first cap => fnOk P g = true ∧ Calls P g (first ++ args ++ cap) w R
  | .func (.yield l) first cap => first = #[] ∧ cap = #[] ∧ YieldC P l args w R
  | _ => False

/-- Anything else, by the model's own run. -/
def rawD (P : Program) (K : Value → World → Prop) (D : Deferred → World → Prop) (Pc : List PanicEntry → World → Prop) (s : Sem Next) (w : World) (_t : Tag (K, D, Pc) := ⟨⟩) : Prop := upon P K D Pc (s.run P w)

def effD (P : Program) (o : Oper) (e : FA) (w : World) (K : Value → World → Prop) (D : Deferred → World → Prop) (Pc : List PanicEntry → World → Prop) : Prop :=
  match o.op with
  | .store T x y => storeD (szO P T) (e.ev x) (e.ev y) w (K undef)
  | .alloc T => allocD (zeroV P T) T w K
  | .box T x => newD T (e.ev x).cells w K
  | .buildSlice T n ps => semD P (Instr.buildSlice T n (ps.map fun p => (p.1, e.ev p.2))) w K
  | .makeSlice T l c => semD P (Instr.makeSlice T (e.ev l) (e.ev c)) w K
  | .makeMap T r => semD P (Instr.makeMap T (r.map e.ev)) w K
  | .mapUpdate T m k v => semU P (Instr.mapUpdate T (e.ev m) (e.ev k) (e.ev v)) w (K undef)
  | .insert T m k v => semU P (Instr.mapUpdate T (e.ev m) (e.ev k) (e.ev v)) w (K undef)
  | .mapEntry T m k => semD P (Instr.mapEntry T (e.ev m) (e.ev k)) w K
  | .entryStore T m s v => semU P (Instr.entryStore T (e.ev m) (e.ev s) (e.ev v)) w (K undef)
  | .range T x => semD P (Instr.range T (e.ev x)) w K
  | .next x b => semD P (Instr.next (e.ev x) b o.type) w K
  | .convert s d x => semD P (convert s d (e.ev x)) w K
  | .call { callee := .builtin .append, args, argTypes } => semD P (Builtin.append_ argTypes o.type (args.map e.ev)) w K
  | .call { callee := .builtin .copy, args, argTypes } => semD P (Builtin.copy_ argTypes o.type (args.map e.ev)) w K
  | .call { callee := .builtin .delete, args, argTypes } => semD P (Builtin.delete_ argTypes o.type (args.map e.ev)) w K
  | .call { callee := .builtin .clear, args, argTypes } => semD P (Builtin.clear_ argTypes o.type (args.map e.ev)) w K
  | .call { callee := .value f, args, argTypes := _ } => callD P (e.ev f) (args.map e.ev) w (retK K Pc)
  | _ => rawD P K D Pc (opS o e) w

/-! ### The evaluator -/

/-- Two pointers to something are compared, by the model's own run. -/
def ptrW (P : Program) (op : BinOp) (T : TypeId) (a b : Addr) (w : World) (K : Value → Prop) (_t : Tag (w, K) := ⟨⟩) : Prop := ∃ v, (binOp op T (.pointer (some a)) (.pointer (some b))).run P w = .ok v w ∧ K v
def binW (P : Program) (op : BinOp) (T : TypeId) (x y : Value) (w : World) (K : Value → Prop) (_t : Tag (w, K) := ⟨⟩) : Prop :=
  match x, y with
  | .pointer (some a), .pointer (some b) => ptrW P op T a b w K
  | x, y => onV (binV P op T x y) K
/-- What an operation asks that looks at the world at most to tell two pointers apart. -/
def pureW (P : Program) (o : Oper) (e : FA) (w : World) (K : Value → Prop) : Prop :=
  match o.op with
  | .binOp op T x y _ => binW P op T (e.ev x) (e.ev y) w K
  | _ => pureD P o e K

/-- One operation (the second argument: 0 pure, 1 read, 2 else: as 'ok3' tells). -/
def opD (P : Program) (k : Nat) (o : Oper) (e : FA) (w : World) (K : Value → World → Prop) (D : Deferred → World → Prop) (Pc : List PanicEntry → World → Prop) : Prop :=
  match k with
  | 0 => pureW P o e w fun v => K v w
  | 1 => readD P o e w fun v => K v w
  | 3 => match o.op with
    | .call { callee := .value f, args, argTypes := _ } => callY P (e.ev f) (args.map e.ev) w (retK K Pc)
    | _ => False
  | _ => effD P o e w K D Pc

def owD (P : Program) (Pc : List PanicEntry → FA → World → Prop) (K : FA → World → Prop) : List Oper → FA → World → Prop
  | [], e, w => K e w
  | o :: l, e, w => gdD (gd e o.guard) (opD P (ok3 o).1 o e w (fun v w' => owD P Pc K l (e.put o.dst v) w') (fun d w' => owD P Pc K l (({ e with ds := d :: e.ds } : FA).put o.dst undef) w') (fun c w' => Pc c e w'))
      (owD P Pc K l (e.put o.dst undef) w)

/-- The reads that must hold still. -/
def chkD (P : Program) (w : World) : List RQ → Prop
  | [] => True
  | x :: l => (readD P x.o x.e w fun v => v = x.v) ∧ chkD P w l

def dwD (P : Program) (Pn : List PanicEntry → FA → World → Prop) (K : FA → World → Prop) : List Oper → List RQ → FA → World → Prop
  | [], _, e, w => K e w
  | o :: l, rq, e, w => gdD (gd e o.guard)
      (match ok3 o with
      | (0, _) => pureD P o e fun v => dwD P Pn K l rq (e.put o.dst v) w
      | (1, m) => readD P o e w fun v => dwD P Pn K l (⟨m, o, e, v⟩ :: rq) (e.put o.dst v) w
      | (_, j) => effD P o e w (fun v w' => chkD P w' (alive j rq) ∧ dwD P Pn K l (alive j rq) (e.put o.dst v) w') (fun _ _ => False) (fun c w' => Pn c e w'))
      (dwD P Pn K l rq (e.put o.dst undef) w)

def dwTD (P : Program) (Pn : List PanicEntry → FA → World → Prop) (K : FA → World → Prop) : PT → List RQ → FA → World → Prop
  | .done, _, e, w => K e w
  | .stop, _, _, _ => True
  | .alt a b, rq, e, w => dwTD P Pn K a rq e w ∧ dwTD P Pn K b rq e w
  | .op o t, rq, e, w => gdD (gd e o.guard)
      (match ok3 o with
      | (0, _) => pureD P o e fun v => dwTD P Pn K t rq (e.put o.dst v) w
      | (1, m) => readD P o e w fun v => dwTD P Pn K t (⟨m, o, e, v⟩ :: rq) (e.put o.dst v) w
      | (_, j) => effD P o e w (fun v w' => chkD P w' (alive j rq) ∧ dwTD P Pn K t (alive j rq) (e.put o.dst v) w') (fun _ _ => False) (fun c w' => Pn c e w'))
      (dwTD P Pn K t rq (e.put o.dst undef) w)

def condD (v : Value) (A B : Prop) (_t : Tag (A, B) := ⟨⟩) : Prop :=
  match v with
  | .bool b => gdD b A B
  | _ => False
theorem condD_bool (b : Bool) (A B : Prop) (t : Tag (A, B)) : condD (.bool b) A B t = gdD b A B := rfl

def cwD (P : Program) (ro : Option Nat) : Cd → Post → FA → World → Prop
  | .skip, Q, e, w => Q .normal e w
  | .label _, Q, e, w => Q .normal e w
  | .exit id, Q, e, w => Q (.exit id) e w
  | .goto l, Q, e, w => Q (.goto l) e w
  | .ret, Q, e, w => Q .ret e w
  | .seq a b, Q, e, w => cwD P ro a (thenP (cwD P ro b Q) Q) e w
  | .cond c a b, Q, e, w => condD (e.ev c) (cwD P ro a Q e w) (cwD P ro b Q e w)
  | .block id c, Q, e, w => cwD P ro c (blockP id Q) e w
  | .loop c, Q, e, w => ∃ (I : FA → World → Prop) (μ : FA → World → Nat), I e w ∧ ∀ e w, I e w → cwD P ro c (loopP I μ e w Q) e w
  | .region _ ops true, Q, e, w => dwD P (pnD (dstsOf ops.toList) Q) (Q .normal) ops.toList [] e w.drew
  | .region _ ops false, Q, e, w => owD P (fun c => Q (.panic c)) (Q .normal) ops.toList e w
  | .tree t, Q, e, w => dwTD P (pnP Q) (Q .normal) t [] e w.drew
  | .scope c, Q, e, w => cwD P ro c (scopeP Q) e w
  | .rangeFunc g ps as body, Q, e, w => outerOk ro w ∧ ∃ gf lb, e.ev g = .func (.func gf) #[] lb ∧ fnOk P gf = true ∧ ∀ Rec : LoopState → Option Code → Obj,
      LoopRec P (loopAt ro w Rec).1 Rec (fun args W R => args.size = ps.size ∧
        cw P (some (loopAt ro w Rec).1) as (onlyP fun e1 W1 => W1.heap[(loopAt ro w Rec).1]? = some (Rec .ready none) ∧
          cw P (some (loopAt ro w Rec).1) body (roundP (loopAt ro w Rec).1 Rec R) e1 (W1.putObj (loopAt ro w Rec).1 (Rec .busy none))) (putArgs ps.toList args.toList { e with ds := [] }) W) →
      Calls P gf (#[.func (.yield (loopAt ro w Rec).1) #[] #[]] ++ lb) (loopAt ro w Rec).2.1
        (retK (fun _ W => ∃ st pe, W.heap[(loopAt ro w Rec).1]? = some (Rec st pe) ∧ st ≠ .busy ∧ jumpP Q pe { e with ds := (loopAt ro w Rec).2.2 ++ e.ds } (W.putObj (loopAt ro w Rec).1 (Rec .exhausted pe)))
          (fun c W => Q (.panic c) { e with ds := (loopAt ro w Rec).2.2 ++ e.ds } W))
  | .refuse _, _, _, _ => False

section sound
variable {P : Program}

theorem run_cellsFrom : ∀ (n i : Nat) (w : World) (a : Addr) (l : List Value) (acc : Array Value), cellsFrom w a i n = some l → (loadCellsFrom a i n acc).run P w = .ok (acc ++ l.toArray) w
  | 0, i, w, a, l, acc, h => by simp only [cellsFrom, Option.some.injEq] at h; subst h; simp [loadCellsFrom]
  | n + 1, i, w, a, l, acc, h => by
    simp only [cellsFrom] at h
    split at h
    · rename_i v l' hv hl
      simp only [Option.some.injEq] at h
      subst h
      simp only [loadCellsFrom, Sem.run_bind, run_load, hv, Result.andThen, run_cellsFrom n (i + 1) w a l' _ hl]
      simp
    · cases h

theorem readD_sound {o : Oper} {e : FA} {w : World} {K : Value → Prop} (h : readD P o e w K) : ∃ v, (opS o e).run P w = .ok (.value v) w ∧ K v := by
  obtain ⟨dst, op, ty, pos, af, g⟩ := o
  have val : ∀ (s : Sem Value) (v : Value), s.run P w = .ok v w → (do pure (Next.value (← s)) : Sem Next).run P w = .ok (.value v) w := fun s v h => by
    simp only [Sem.run_bind, h, Result.andThen_ok]; rfl
  unfold readD at h
  unfold opS execOp
  cases op <;> simp only at h ⊢ <;> try (exact h.elim)
  case load T x =>
    unfold loadD at h
    split at h
    · rename_i a hs hx
      obtain ⟨v, hv, hK⟩ := h
      refine ⟨v, val _ _ ?_, hK⟩
      simp only [Instr.loadAt, Instr.sureAddr, hx, loadVar, Sem.run_bind, Sem.run_pure, Result.andThen_ok, run_isAgg hs, Option.isSome_none, Bool.false_eq_true, if_false, run_load, hv]
    · rename_i n a hs hx
      obtain ⟨v, hv, hK⟩ := h
      obtain ⟨l, hl, rfl⟩ := Option.map_eq_some_iff.1 hv
      obtain ⟨i, hi, rfl⟩ := aggSz_info hs
      refine ⟨_, val _ _ ?_, hK⟩
      have := run_cellsFrom (P := P) i.size 0 w a l #[] hl
      simp only [Instr.loadAt, Instr.sureAddr, hx, loadVar, Sem.run_bind, Sem.run_pure, Result.andThen_ok, run_isAgg hs, Option.isSome_some, if_true, run_sizeOf' hi, loadCells, this]
      simp
    · exact h.elim
  case lookup => obtain ⟨v, hv, hK⟩ := h; exact ⟨v, val _ _ hv, hK⟩
  case entry => obtain ⟨v, hv, hK⟩ := h; exact ⟨v, val _ _ hv, hK⟩
  case typeAssert => obtain ⟨v, hv, hK⟩ := h; exact ⟨v, val _ _ hv, hK⟩
  case makeInterface => obtain ⟨v, hv, hK⟩ := h; exact ⟨v, val _ _ hv, hK⟩
  case convert => obtain ⟨v, hv, hK⟩ := h; exact ⟨v, val _ _ hv, hK⟩
  case call c =>
    obtain ⟨callee, args, argTypes⟩ := c
    cases callee <;> first | exact False.elim h | skip
    rename_i b
    cases b <;> first | exact False.elim h | skip
    have h : readR P (Builtin.len_ argTypes ty (args.map e.ev)) w K := h
    obtain ⟨v, hv, hK⟩ := h
    refine ⟨v, ?_, hK⟩
    have := val _ _ hv
    simpa only [resolve, invoke, builtin, Sem.run_bind, Sem.run_pure, Result.andThen_ok] using this

theorem isCell_eq (v : Value) : isCell v = v.oneCell' := by cases v <;> rfl

theorem run_stD {K : World → Prop} : ∀ (l : List Value) (i : Nat) (w : World) (a : Addr), (∀ v ∈ l, isCell v = true) → stD w a K i l → ∃ w', (storeCells a l i).run P w = .ok () w' ∧ K w'
  | [], i, w, a, _, h => ⟨w, rfl, h⟩
  | v :: l, i, w, a, hc, h => by
    obtain ⟨⟨h1, h2⟩, h⟩ := h
    obtain ⟨u, hu⟩ := Option.isSome_iff_exists.1 h1
    obtain ⟨w', hw, hK⟩ := run_stD l (i + 1) _ a (fun x hx => hc x (by simp [hx])) h
    refine ⟨w', ?_, hK⟩
    have hs : (store (a.add i) v).run P w = .ok () (w.setCell (a.add i) v) := by
      rw [run_store P w _ v _ (by rw [← isCell_eq]; exact hc v (by simp)), hu]
      simp only [h2, Bool.false_eq_true, if_false]
    simp only [storeCells, Sem.run_bind, hs, Result.andThen_ok, hw]

theorem effD_sound {o : Oper} {e : FA} {w : World} {K : Value → World → Prop} {D : Deferred → World → Prop} {Pc : List PanicEntry → World → Prop} (h : effD P o e w K D Pc) : upon P K D Pc ((opS o e).run P w) := by
  obtain ⟨dst, op, ty, pos, af, gu⟩ := o
  have val : ∀ (s : Sem Value), semD P s w K → upon P K D Pc ((do pure (Next.value (← s)) : Sem Next).run P w) := fun s h => by
    obtain ⟨v, w', hv, hK⟩ := h
    simp only [Sem.run_bind, hv, Result.andThen_ok]; exact hK
  have unt : ∀ (s : Sem Unit), semU P s w (K undef) → upon P K D Pc ((do s; pure Next.skip : Sem Next).run P w) := fun s h => by
    obtain ⟨w', hv, hK⟩ := h
    simp only [Sem.run_bind, hv, Result.andThen_ok]; exact hK
  unfold effD at h
  cases op <;> simp only at h <;> try (exact h)
  case alloc T =>
    obtain ⟨z, hz, hK⟩ := h
    unfold zeroV at hz
    obtain ⟨t, ht, hz⟩ := Option.bind_eq_some_iff.1 hz
    refine val (Instr.alloc T true (.tuple #[])) ⟨_, _, ?_, hK⟩
    simp only [Instr.alloc, zeroValue, Sem.run_bind, run_typeInfo' ht, hz, Result.andThen_ok, Sem.run_pure]
    rfl
  case store T x y =>
    refine unt (Instr.storeAt T (e.ev x) (e.ev y)) ?_
    unfold storeD at h
    split at h
    · rename_i a hx
      obtain ⟨⟨h1, h2⟩, h⟩ := h
      obtain ⟨w', hw, hK⟩ := run_stD (P := P) _ 0 w a (fun v hv => by have := Array.all_eq_true_iff_forall_mem.1 h2 v (by simpa using hv); exact this) h
      refine ⟨w', ?_, hK⟩
      obtain ⟨i, hi, hsz⟩ := Option.map_eq_some_iff.1 h1
      simp only [Instr.storeAt, Instr.sureAddr, hx, storeVar, Sem.run_bind, Sem.run_pure, Result.andThen_ok, run_sizeOf' hi, hsz, ne_eq, not_true, if_false, hw]
    · exact h.elim
  case buildSlice => exact val _ h
  case makeSlice => exact val _ h
  case makeMap T r => exact val _ h
  case mapUpdate => exact unt _ h
  case insert => exact unt _ h
  case mapEntry => exact val _ h
  case entryStore => exact unt _ h
  case range => exact val _ h
  case next => exact val _ h
  case convert => exact val _ h
  case call c =>
    obtain ⟨callee, args, argTypes⟩ := c
    cases callee with
    | invoke r m => exact h
    | builtin b =>
      have bval : ∀ (s : Sem Value), semD P s w K → upon P K D Pc ((do pure (Next.value (← s)) : Sem Next).run P w) := val
      cases b <;> first
        | exact h
        | (have := bval _ h
           simpa only [opS, execOp, resolve, invoke, builtin, Sem.run_bind, Sem.run_pure, Result.andThen_ok] using this)
    | value f =>
      have h : callD P (e.ev f) (args.map e.ev) w (retK K Pc) := h
      unfold callD at h
      split at h
      · rename_i g first cap hf
        obtain ⟨hg, h⟩ := h
        unfold fnOk at hg
        split at hg <;> try (cases hg; done)
        rename_i fn hfn
        simp only [Bool.and_eq_true, Bool.not_eq_true'] at hg
        have hnn : fn.body.isNone = false := by cases hb : fn.body <;> simp_all
        have : (opS { dst, op := .call { callee := .value f, args, argTypes }, type := ty, pos, after := af, guard := gu } e).run P w = .ok (.enter g (first ++ args.map e.ev ++ cap)) w := by
          simp only [opS, execOp, resolve, hf, Deferred.ofValue, Sem.run_bind, Sem.run_pure, Result.andThen_ok, invoke, callFunc, program, Sem.run, hfn, hg.2, hnn, Bool.false_eq_true, if_false]
        rw [this]
        exact h
      · exact h.elim

theorem chkD_sound {w : World} : ∀ {l : List RQ}, chkD P w l → allHold P w l
  | [], _ => trivial
  | x :: l, h => by
    obtain ⟨v, hv, rfl⟩ := readD_sound h.1
    exact ⟨hv, chkD_sound h.2⟩

theorem callY_sound {dst : Option Tmp} {ty : TypeId} {pos : String} {af : Array Edge} {gu : Option (Nat × Bool)} {f : Operand} {args : Array Operand} {argTypes : Array TypeId} {e : FA} {w : World} {K : Value → World → Prop} {D : Deferred → World → Prop} {Pc : List PanicEntry → World → Prop}
    (h : callY P (e.ev f) (args.map e.ev) w (retK K Pc)) : uponR P K D Pc ((opS { dst, op := .call { callee := .value f, args, argTypes }, type := ty, pos, after := af, guard := gu } e).run P w) := by
  unfold callY at h
  split at h
  · rename_i g first cap hf
    have : callD P (e.ev f) (args.map e.ev) w (retK K Pc) := by rw [hf]; exact h
    exact uponR_of (effD_sound (D := D) (o := { dst, op := .call { callee := .value f, args, argTypes }, type := ty, pos, after := af, guard := gu }) this)
  · rename_i l first cap hf
    obtain ⟨rfl, rfl, fn, tmps, assign, body, hy, hr⟩ := h
    have : (opS { dst, op := .call { callee := .value f, args, argTypes }, type := ty, pos, after := af, guard := gu } e).run P w = .ok (.round l fn tmps assign body) w := by
      simp only [opS, execOp, resolve, hf, Deferred.ofValue, Sem.run_bind, Sem.run_pure, Result.andThen_ok, invoke]
      simpa using hy
    rw [this]
    exact hr
  · exact h.elim

theorem pureW_sound {P : Program} {o : Oper} {e : FA} {w : World} {K : Value → Prop} (h : pureW P o e w K) : ∃ v, (opS o e).run P w = .ok (.value v) w ∧ K v := by
  unfold pureW at h
  split at h
  · rename_i op T x y T' ho
    obtain ⟨dst, op', ty, pos, af, g⟩ := o
    simp only at ho
    subst ho
    unfold binW at h
    split at h
    · rename_i a b hx hy
      obtain ⟨v, hv, hK⟩ := h
      refine ⟨v, ?_, hK⟩
      have hg : (eqGuard op T x y (.pointer (some a)) (.pointer (some b))).run P w = .ok () w := by cases op <;> rfl
      unfold opS execOp
      simp only [hx, hy, Sem.run_bind, hg, Result.andThen_ok, hv]
      rfl
    · obtain ⟨v, hv, hK⟩ := pureD_sound (o := ⟨dst, .binOp op T x y T', ty, pos, af, g⟩) (e := e) (K := K) h
      exact ⟨v, hv w, hK⟩
  · obtain ⟨v, hv, hK⟩ := pureD_sound h
    exact ⟨v, hv w, hK⟩

theorem opD_sound {k : Nat} {o : Oper} {e : FA} {w : World} {K : Value → World → Prop} {D : Deferred → World → Prop} {Pc : List PanicEntry → World → Prop} (h : opD P k o e w K D Pc) : uponR P K D Pc ((opS o e).run P w) := by
  unfold opD at h
  split at h
  · obtain ⟨v, hv, hK⟩ := pureW_sound h
    rw [hv]; exact hK
  · obtain ⟨v, hv, hK⟩ := readD_sound h
    rw [hv]; exact hK
  · obtain ⟨dst, op, ty, pos, af, gu⟩ := o
    split at h
    · rename_i heq
      simp only at heq
      subst heq
      exact callY_sound h
    · exact h.elim
  · exact uponR_of (effD_sound h)

theorem upon_mono {K K' : Value → World → Prop} {D D' : Deferred → World → Prop} {Pc Pc' : List PanicEntry → World → Prop} (hK : ∀ v w, K v w → K' v w) (hD : ∀ v w, D v w → D' v w) (hP : ∀ v w, Pc v w → Pc' v w)
    {r : Result Next} (h : upon P K D Pc r) : upon P K' D' Pc' r := by
  cases r with
  | ok n w => cases n <;> first | exact h.elim | exact hK _ _ h | exact hD _ _ h | skip
              exact Calls.mono h fun e w he => by cases e <;> first | exact hK _ _ he | exact hP _ _ he | exact he
  | halt x w => cases x <;> first | exact hP _ _ h | exact h.elim

theorem uponR_mono {K K' : Value → World → Prop} {D D' : Deferred → World → Prop} {Pc Pc' : List PanicEntry → World → Prop} (hK : ∀ v w, K v w → K' v w) (hD : ∀ v w, D v w → D' v w) (hP : ∀ v w, Pc v w → Pc' v w)
    {r : Result Next} (h : uponR P K D Pc r) : uponR P K' D' Pc' r := by
  cases r with
  | ok n w =>
    cases n with
    | round l f t a b => exact RoundIn.mono h fun e w he => by cases e <;> first | exact hK _ _ he | exact hP _ _ he | exact he
    | enter f args => exact Calls.mono h fun e w he => by cases e <;> first | exact hK _ _ he | exact hP _ _ he | exact he
    | value v => exact hK _ _ h
    | skip => exact hK _ _ h
    | defer d => exact hD _ _ h
    | _ => exact h.elim
  | halt x w => cases x <;> first | exact hP _ _ h | exact h.elim

theorem ow_of_owD {Pc Pc' : List PanicEntry → FA → World → Prop} {K K' : FA → World → Prop} (hK : ∀ e w, K e w → K' e w) (hP : ∀ c e w, Pc c e w → Pc' c e w) : ∀ (l : List Oper) (e : FA) (w : World), owD P Pc K l e w → ow P Pc' K' l e w
  | [], _, _, h => hK _ _ h
  | o :: l, e, w, h => by
    unfold ow
    simp only [owD, gdD] at h
    split
    · rename_i hg
      rw [if_pos hg] at h
      exact uponR_mono (fun v w => ow_of_owD hK hP l _ w) (fun d w => ow_of_owD hK hP l _ w) (fun _ _ h => hP _ _ _ h) (opD_sound h)
    · rename_i hg
      rw [if_neg hg] at h
      exact ow_of_owD hK hP l _ _ h

theorem dw_of_dwD {Pn Pn' : List PanicEntry → FA → World → Prop} {K K' : FA → World → Prop} (hP : ∀ c e w, Pn c e w → Pn' c e w) (hK : ∀ e w, K e w → K' e w) : ∀ (l : List Oper) (rq : List RQ) (e : FA) (w : World), dwD P Pn K l rq e w → dw P Pn' K' l rq e w
  | [], _, _, _, h => hK _ _ h
  | o :: l, rq, e, w, h => by
    unfold dw
    simp only [dwD, gdD] at h
    split
    · rename_i hg
      rw [if_pos hg] at h
      split at h
      · rename_i hk
        simp only [hk]
        obtain ⟨v, hv, hK'⟩ := pureD_sound h
        exact ⟨v, hv, dw_of_dwD hP hK l _ _ _ hK'⟩
      · rename_i hk
        simp only [hk]
        obtain ⟨v, hv, hK'⟩ := readD_sound h
        exact ⟨v, hv, dw_of_dwD hP hK l _ _ _ hK'⟩
      · rename_i _ _ j h0 h1 hk
        split
        · rename_i hk'; rw [hk'] at hk; simp only [Prod.mk.injEq] at hk; exact (h0 hk.1.symm).elim
        · rename_i hk'; rw [hk'] at hk; simp only [Prod.mk.injEq] at hk; exact (h1 hk.1.symm).elim
        · rename_i hk'
          rw [hk'] at hk
          simp only [Prod.mk.injEq] at hk
          obtain ⟨_, rfl⟩ := hk
          exact upon_mono (fun v w h => ⟨chkD_sound h.1, dw_of_dwD hP hK l _ _ _ h.2⟩) (fun _ _ h => h) (fun _ _ h => hP _ _ _ h) (effD_sound h)
    · rename_i hg
      rw [if_neg hg] at h
      exact dw_of_dwD hP hK l _ _ _ h

theorem dwT_of_dwTD {Pn Pn' : List PanicEntry → FA → World → Prop} {K K' : FA → World → Prop} (hP : ∀ c e w, Pn c e w → Pn' c e w) (hK : ∀ e w, K e w → K' e w) : ∀ (l : PT) (rq : List RQ) (e : FA) (w : World), dwTD P Pn K l rq e w → dwT P Pn' K' l rq e w
  | .done, _, _, _, h => hK _ _ h
  | .stop, _, _, _, _ => trivial
  | .alt a b, _, _, _, h => ⟨dwT_of_dwTD hP hK a _ _ _ h.1, dwT_of_dwTD hP hK b _ _ _ h.2⟩
  | .op o l, rq, e, w, h => by
    unfold dwT
    simp only [dwTD, gdD] at h
    split
    · rename_i hg
      rw [if_pos hg] at h
      split at h
      · rename_i hk
        simp only [hk]
        obtain ⟨v, hv, hK'⟩ := pureD_sound h
        exact ⟨v, hv, dwT_of_dwTD hP hK l _ _ _ hK'⟩
      · rename_i hk
        simp only [hk]
        obtain ⟨v, hv, hK'⟩ := readD_sound h
        exact ⟨v, hv, dwT_of_dwTD hP hK l _ _ _ hK'⟩
      · rename_i _ _ j h0 h1 hk
        split
        · rename_i hk'; rw [hk'] at hk; simp only [Prod.mk.injEq] at hk; exact (h0 hk.1.symm).elim
        · rename_i hk'; rw [hk'] at hk; simp only [Prod.mk.injEq] at hk; exact (h1 hk.1.symm).elim
        · rename_i hk'
          rw [hk'] at hk
          simp only [Prod.mk.injEq] at hk
          obtain ⟨_, rfl⟩ := hk
          exact upon_mono (fun v w h => ⟨chkD_sound h.1, dwT_of_dwTD hP hK l _ _ _ h.2⟩) (fun _ _ h => h) (fun _ _ h => hP _ _ _ h) (effD_sound h)
    · rename_i hg
      rw [if_neg hg] at h
      exact dwT_of_dwTD hP hK l _ _ _ h

theorem cw_of_cwD : ∀ (c : Cd) (ro : Option Nat) (Q Q' : Post) (e : FA) (w : World), (∀ x e w, Q x e w → Q' x e w) → cwD P ro c Q e w → cw P ro c Q' e w
  | .skip, _, _, _, _, _, hq, h => hq _ _ _ h
  | .label _, _, _, _, _, _, hq, h => hq _ _ _ h
  | .exit _, _, _, _, _, _, hq, h => hq _ _ _ h
  | .goto _, _, _, _, _, _, hq, h => hq _ _ _ h
  | .ret, _, _, _, _, _, hq, h => hq _ _ _ h
  | .seq a b, ro, Q, Q', e, w, hq, h => cw_of_cwD a ro _ _ e w (fun x e w h => by cases x <;> first | exact hq _ _ _ h | exact cw_of_cwD b ro _ _ _ _ hq h) h
  | .cond c a b, ro, Q, Q', e, w, hq, h => by
    unfold cwD condD at h
    unfold cw
    split at h
    · rename_i t ht
      rw [ht]
      cases t
      · exact cw_of_cwD b ro _ _ _ _ hq h
      · exact cw_of_cwD a ro _ _ _ _ hq h
    · exact h.elim
  | .block id c, ro, Q, Q', e, w, hq, h => cw_of_cwD c ro _ _ e w (fun x e w h => by
      cases x <;> first
        | exact hq _ _ _ h
        | (simp only [blockP] at h ⊢; split <;> rename_i hid <;> simp only [hid, if_true, if_false] at h <;> exact hq _ _ _ h)) h
  | .loop c, ro, Q, Q', e, w, hq, h => by
    obtain ⟨I, μ, h0, h1⟩ := h
    exact ⟨I, μ, h0, fun e w hI => cw_of_cwD c ro _ _ e w (fun x e w h => by cases x <;> first | exact h | exact hq _ _ _ h) (h1 e w hI)⟩
  | .region _ ops true, _, Q, Q', e, w, hq, h => dw_of_dwD (fun c e w h e' he ht => hq _ _ _ (h e' he ht)) (hq .normal) _ _ _ _ h
  | .tree t, _, Q, Q', e, w, hq, h => dwT_of_dwTD (fun c e w h e' he => hq _ _ _ (h e' he)) (hq .normal) _ _ _ _ h
  | .region _ ops false, _, Q, Q', e, w, hq, h => ow_of_owD (hq .normal) (fun c => hq (.panic c)) _ _ _ h
  | .scope c, ro, Q, Q', e, w, hq, h => cw_of_cwD c ro _ _ e w (fun x e w h => by cases x <;> first | exact hq _ _ _ h | exact h) h
  | .rangeFunc g ps as body, ro, Q, Q', e, w, hq, h => by
    obtain ⟨hout, gf, lb, hg, hf, h⟩ := h
    refine ⟨hout, gf, lb, hg, hf, fun Rec hrec => Calls.mono (h Rec hrec) ?_⟩
    · rintro x W hx
      cases x with
      | returned v =>
        obtain ⟨st, pe, h1, h2, h3⟩ := hx
        refine ⟨st, pe, h1, h2, ?_⟩
        cases pe with
        | none => exact hq _ _ _ h3
        | some c => cases c <;> first | exact hq _ _ _ h3 | exact h3
      | panicked c => exact hq _ _ _ hx
      | outgrown => exact hx
  | .refuse _, _, _, _, _, _, _, h => h.elim

end sound

theorem calls_of_cwD {P : Program} {f : FuncId} {fn : Func} {c : Code} {types : Array TypeInfo} {args : Array Value} {w : World} {R : Ending → World → Prop}
    (hm : P.follows .mixedOrders = true) (hf : P.funcs[f]? = some fn) (c' : Cd) (hb : fn.body = some c) (hc : comp types fn.ntmps c = c') (hn : args.size ≤ fn.ntmps)
    (h : cwD P none c' (fnP P fn.results R) (entry args) w) : Calls P f args w R :=
  calls_of_cw hm hf c' hb hc hn (cw_of_cwD _ _ _ _ _ _ (fun _ _ _ h => h) h)

end Go.Proofs.YtacmnfpgimgigaaGreat
