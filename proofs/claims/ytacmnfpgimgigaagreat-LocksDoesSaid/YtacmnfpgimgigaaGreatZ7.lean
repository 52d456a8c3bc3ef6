/- The equations by which 'simp only' evaluates compiled code from the front. -/
import Derived.Test.YtacmnfpgimgigaaGreatZ1
import Derived.Test.YtacmnfpgimgigaaGreatZ2
import Derived.Test.YtacmnfpgimgigaaGreatZ3
import Derived.Test.YtacmnfpgimgigaaGreatZ4
import Derived.Test.YtacmnfpgimgigaaGreatZ5
import Derived.Test.YtacmnfpgimgigaaGreatZ6
namespace Go.Proofs.YtacmnfpgimgigaaGreat
open Go

def cwE (P : Program) (c : Cd) (Q : Post) (e : FA) (w : World) (_t : Tag (c, Q, e, w) := ⟨⟩) : Prop := cwD P none c Q e w
/-- .. in a round of the loop l. -/
def cwRE (P : Program) (l : Nat) (c : Cd) (Q : Post) (e : FA) (w : World) (_t : Tag (c, Q, e, w) := ⟨⟩) : Prop := cwD P (some l) c Q e w
def dwTE (P : Program) (Pn : List PanicEntry → FA → World → Prop) (K : FA → World → Prop) (t : PT) (rq : List RQ) (e : FA) (w : World) (_t : Tag (K, e, w) := ⟨⟩) : Prop := dwTD P Pn K t rq e w
def owE (P : Program) (Pc : List PanicEntry → FA → World → Prop) (K : FA → World → Prop) (l : List Oper) (e : FA) (w : World) (_t : Tag (Pc, K, e, w) := ⟨⟩) : Prop := owD P Pc K l e w
def dwE (P : Program) (Pn : List PanicEntry → FA → World → Prop) (K : FA → World → Prop) (l : List Oper) (rq : List RQ) (e : FA) (w : World) (_t : Tag (K, e, w) := ⟨⟩) : Prop := dwD P Pn K l rq e w
def pureE (P : Program) (o : Oper) (e : FA) (K : Value → Prop) (_t : Tag (o, e, K) := ⟨⟩) : Prop := pureD P o e K
def pureWE (P : Program) (o : Oper) (e : FA) (w : World) (K : Value → Prop) (_t : Tag (o, e, w, K) := ⟨⟩) : Prop := pureW P o e w K
def readE (P : Program) (o : Oper) (e : FA) (w : World) (K : Value → Prop) (_t : Tag (o, e, w, K) := ⟨⟩) : Prop := readD P o e w K
def effE (P : Program) (o : Oper) (e : FA) (w : World) (K : Value → World → Prop) (D : Deferred → World → Prop) (Pc : List PanicEntry → World → Prop) (_t : Tag (o, e, w, K, D, Pc) := ⟨⟩) : Prop := effD P o e w K D Pc
/-- A call of a yield, of which only the arguments are looked at. -/
@[reducible] def yieldE (P : Program) (l : Nat) (args : Array Value) (w : World) (R : Ending → World → Prop) (_t : Tag (w, R) := ⟨⟩) : Prop := YieldC P l args w R
/-- A call, of which only the arguments are looked at. -/
@[reducible] def callE (P : Program) (f : FuncId) (args : Array Value) (w : World) (R : Ending → World → Prop) (_t : Tag (w, R) := ⟨⟩) : Prop := Calls P f args w R

theorem calls_of_cwE {P : Program} {f : FuncId} {fn : Func} {c : Code} {types : Array TypeInfo} {args : Array Value} {w : World} {R : Ending → World → Prop}
    (hm : P.follows .mixedOrders = true) (hf : P.funcs[f]? = some fn) (c' : Cd) (hb : fn.body = some c) (hc : comp types fn.ntmps c = c') (hn : args.size ≤ fn.ntmps)
    (h : cwE P c' (fnP P fn.results R) (entry args) w) : Calls P f args w R := calls_of_cwD hm hf c' hb hc hn h

def slcD (u : Option TypeDesc) (k : Option (Option Nat × Nat)) (x : Value) (lo hi mx : Option Value) (K : Value → Prop) (_t : Tag K := ⟨⟩) : Prop :=
  match k with
  | some a => sliceD (some a) x lo hi mx K
  | none => u = some .string ∧ mx = none ∧ strSliceD x lo hi K
theorem slcD_some {u : Option TypeDesc} {a : Option Nat × Nat} {x : Value} {lo hi mx : Option Value} {K : Value → Prop} {θ : Tag K} : slcD u (some a) x lo hi mx K θ = sliceD (some a) x lo hi mx K := rfl
theorem slcD_str {x : Value} {lo hi : Option Value} {K : Value → Prop} {θ : Tag K} : slcD (some .string) none x lo hi none K θ = strSliceD x lo hi K := by simp [slcD]
theorem strSliceD_str {s : ByteArray} {lo hi : Option Value} {K : Value → Prop} {θ : Tag K} : strSliceD (.string s) lo hi K θ = onII (bnd lo 0) (bnd hi s.size) fun l h => reqD (0 ≤ l ∧ l ≤ h ∧ h ≤ s.size) (K (.string (s.extract l.toNat h.toNat))) := by
  simp only [strSliceD, onII]
  cases bnd lo 0 <;> cases bnd hi s.size <;> simp [reqD]

/-! What the kit's simp set must not open. -/
def kAppend := @Builtin.append_
def kClear := @Builtin.clear_
def kCopy := @Builtin.copy_
def kDelete := @Builtin.delete_
def kLen := @Builtin.len_
def kBuildSlice := @Instr.buildSlice
def kEntry := @Instr.entry
def kLookup := @Instr.lookup
def kMakeInterface := @Instr.makeInterface
def kMakeMap := @Instr.makeMap
def kMakeSlice := @Instr.makeSlice
def kMapUpdate := @Instr.mapUpdate
def kNext := @Instr.next
def kRange := @Instr.range
def kTypeAssert := @Instr.typeAssert
def kConvert := @convert

section
variable {P : Program} {Q : Post} {e : FA} {w : World} {Pc Pn : List PanicEntry → FA → World → Prop} {K : FA → World → Prop} {l : List Oper}
  {d : Option Nat} {ty : TypeId} {p : String} {g : Option (Nat × Bool)} {af : Array Edge} {KV : Value → Prop} {KW : Value → World → Prop}
  {D : Deferred → World → Prop} {Pp : List PanicEntry → World → Prop}


theorem cwE_skip {θ : Tag ((.skip : Cd), Q, e, w)} : cwE P .skip Q e w θ = Q .normal e w := rfl
theorem cwE_exit {i : Nat} {θ : Tag (((.exit i) : Cd), Q, e, w)} : cwE P (.exit i) Q e w θ = Q (.exit i) e w := rfl
theorem cwE_ret {θ : Tag ((.ret : Cd), Q, e, w)} : cwE P .ret Q e w θ = Q .ret e w := rfl
theorem cwE_seq {a b : Cd} {θ : Tag (((.seq a b) : Cd), Q, e, w)} : cwE P (.seq a b) Q e w θ = cwE P a (thenP (cwD P none b Q) Q) e w := rfl
theorem cwE_cond {c : Operand} {a b : Cd} {θ : Tag (((.cond c a b) : Cd), Q, e, w)} : cwE P (.cond c a b) Q e w θ = condD (e.ev c) (cwE P a Q e w) (cwE P b Q e w) := rfl
theorem cwE_block {i : Nat} {c : Cd} {θ : Tag (((.block i c) : Cd), Q, e, w)} : cwE P (.block i c) Q e w θ = cwE P c (blockP i Q) e w := rfl
theorem cwE_regf {i : Nat} {ops : List Oper} {θ : Tag (((.region i ops.toArray false) : Cd), Q, e, w)} : cwE P (.region i ops.toArray false) Q e w θ = owE P (fun c => Q (.panic c)) (Q .normal) ops e w := by simp [cwE, cwD, owE]
theorem cwE_regt {i : Nat} {ops : List Oper} {θ : Tag (((.region i ops.toArray true) : Cd), Q, e, w)} : cwE P (.region i ops.toArray true) Q e w θ = dwE P (pnD (dstsOf ops) Q) (Q .normal) ops [] e w.drew := by simp [cwE, cwD, dwE]

theorem cwE_scope {c : Cd} {θ : Tag ((.scope c : Cd), Q, e, w)} : cwE P (.scope c) Q e w θ = cwE P c (scopeP Q) e w := rfl
theorem cwE_label {l : Nat} {θ : Tag ((.label l : Cd), Q, e, w)} : cwE P (.label l) Q e w θ = Q .normal e w := rfl
theorem scopeP_normal : scopeP Q .normal e w = Q .normal e w := rfl
theorem scopeP_ret : scopeP Q .ret e w = Q .ret e w := rfl
theorem scopeP_exit {i : Nat} : scopeP Q (.exit i) e w = Q (.exit i) e w := rfl
theorem scopeP_panic {c : List PanicEntry} : scopeP Q (.panic c) e w = Q (.panic c) e w := rfl
theorem onlyP_normal {K' : FA → World → Prop} : onlyP K' .normal e w = K' e w := rfl
theorem cwRE_skip {n : Nat} {θ : Tag ((.skip : Cd), Q, e, w)} : cwRE P n .skip Q e w θ = Q .normal e w := rfl
theorem cwRE_exit {n : Nat} {i : Nat} {θ : Tag (((.exit i) : Cd), Q, e, w)} : cwRE P n (.exit i) Q e w θ = Q (.exit i) e w := rfl
theorem cwRE_ret {n : Nat} {θ : Tag ((.ret : Cd), Q, e, w)} : cwRE P n .ret Q e w θ = Q .ret e w := rfl
theorem cwRE_seq {n : Nat} {a b : Cd} {θ : Tag (((.seq a b) : Cd), Q, e, w)} : cwRE P n (.seq a b) Q e w θ = cwRE P n a (thenP (cwD P (some n) b Q) Q) e w := rfl
theorem cwRE_cond {n : Nat} {c : Operand} {a b : Cd} {θ : Tag (((.cond c a b) : Cd), Q, e, w)} : cwRE P n (.cond c a b) Q e w θ = condD (e.ev c) (cwRE P n a Q e w) (cwRE P n b Q e w) := rfl
theorem cwRE_block {n : Nat} {i : Nat} {c : Cd} {θ : Tag (((.block i c) : Cd), Q, e, w)} : cwRE P n (.block i c) Q e w θ = cwRE P n c (blockP i Q) e w := rfl
theorem cwRE_scope {n : Nat} {c : Cd} {θ : Tag ((.scope c : Cd), Q, e, w)} : cwRE P n (.scope c) Q e w θ = cwRE P n c (scopeP Q) e w := rfl
theorem cwRE_regf {n : Nat} {i : Nat} {ops : List Oper} {θ : Tag (((.region i ops.toArray false) : Cd), Q, e, w)} : cwRE P n (.region i ops.toArray false) Q e w θ = owE P (fun c => Q (.panic c)) (Q .normal) ops e w := by simp [cwRE, cwD, owE]
theorem cwRE_regt {n : Nat} {i : Nat} {ops : List Oper} {θ : Tag (((.region i ops.toArray true) : Cd), Q, e, w)} : cwRE P n (.region i ops.toArray true) Q e w θ = dwE P (pnD (dstsOf ops) Q) (Q .normal) ops [] e w.drew := by simp [cwRE, cwD, dwE]

theorem thenP_cw {c : Cd} {Q' : Post} : thenP (cwD P none c Q') Q .normal e w = cwE P c Q' e w := rfl
theorem thenP_cwR {l : Nat} {c : Cd} {Q' : Post} : thenP (cwD P (some l) c Q') Q .normal e w = cwRE P l c Q' e w := rfl
theorem thenP_normal {n : FA → World → Prop} : thenP n Q .normal e w = n e w := rfl
theorem thenP_ret {n : FA → World → Prop} : thenP n Q .ret e w = Q .ret e w := rfl
theorem thenP_exit {n : FA → World → Prop} {i : Nat} : thenP n Q (.exit i) e w = Q (.exit i) e w := rfl
theorem thenP_panic {n : FA → World → Prop} {c : List PanicEntry} : thenP n Q (.panic c) e w = Q (.panic c) e w := rfl
theorem blockP_normal {i : Nat} : blockP i Q .normal e w = Q .normal e w := rfl
theorem blockP_ret {i : Nat} : blockP i Q .ret e w = Q .ret e w := rfl
theorem blockP_panic {i : Nat} {c : List PanicEntry} : blockP i Q (.panic c) e w = Q (.panic c) e w := rfl
theorem blockP_exit {i j : Nat} : blockP i Q (.exit j) e w = if j = i then Q .normal e w else Q (.exit j) e w := rfl
theorem loopP_normal {I : FA → World → Prop} {μ : FA → World → Nat} {e0 : FA} {w0 : World} : loopP I μ e0 w0 Q .normal e w = (I e w ∧ μ e w < μ e0 w0) := rfl
theorem loopP_ret {I : FA → World → Prop} {μ : FA → World → Nat} {e0 : FA} {w0 : World} : loopP I μ e0 w0 Q .ret e w = Q .ret e w := rfl
theorem loopP_panic {I : FA → World → Prop} {μ : FA → World → Nat} {e0 : FA} {w0 : World} {c : List PanicEntry} : loopP I μ e0 w0 Q (.panic c) e w = Q (.panic c) e w := rfl
theorem loopP_exit {I : FA → World → Prop} {μ : FA → World → Nat} {e0 : FA} {w0 : World} {i : Nat} : loopP I μ e0 w0 Q (.exit i) e w = Q (.exit i) e w := rfl

theorem owE_nil {θ : Tag (Pc, K, e, w)} : owE P Pc K [] e w θ = K e w := rfl
theorem owE_pure {op : Op} {θ : Tag (Pc, K, e, w)} : owE P Pc K (⟨d, op, ty, p, #[], g⟩ :: l) e w θ = gdD (gd e g) (pureWE P ⟨d, op, ty, p, #[], g⟩ e w fun v => owE P Pc K l (e.put d v) w) (owE P Pc K l (e.put d undef) w) := rfl
theorem owE_read {op : Op} {m : Nat} {θ : Tag (Pc, K, e, w)} : owE P Pc K (⟨d, op, ty, p, #[⟨m, .data⟩], g⟩ :: l) e w θ = gdD (gd e g) (readE P ⟨d, op, ty, p, #[⟨m, .data⟩], g⟩ e w fun v => owE P Pc K l (e.put d v) w) (owE P Pc K l (e.put d undef) w) := rfl
theorem owE_eff {op : Op} {m : Nat} {θ : Tag (Pc, K, e, w)} : owE P Pc K (⟨d, op, ty, p, #[⟨m, .chain⟩], g⟩ :: l) e w θ = gdD (gd e g)
    (effE P ⟨d, op, ty, p, #[⟨m, .chain⟩], g⟩ e w (fun v w' => owE P Pc K l (e.put d v) w') (fun x w' => owE P Pc K l (({ e with ds := x :: e.ds } : FA).put d undef) w') (fun c w' => Pc c e w')) (owE P Pc K l (e.put d undef) w) := rfl
theorem owE_dyn {m : Nat} {f : Operand} {args : Array Operand} {ts : Array TypeId} {θ : Tag (Pc, K, e, w)} : owE P Pc K (⟨d, .call { callee := .value f, args := args, argTypes := ts }, ty, p, #[⟨m, .phase⟩], g⟩ :: l) e w θ = gdD (gd e g)
    (callY P (e.ev f) (args.map e.ev) w (retK (fun v w' => owE P Pc K l (e.put d v) w') (fun c w' => Pc c e w'))) (owE P Pc K l (e.put d undef) w) := rfl
theorem dwE_nil {rq : List RQ} {θ : Tag (K, e, w)} : dwE P Pn K [] rq e w θ = K e w := rfl
theorem dwE_pure {op : Op} {rq : List RQ} {θ : Tag (K, e, w)} : dwE P Pn K (⟨d, op, ty, p, #[], g⟩ :: l) rq e w θ = gdD (gd e g) (pureE P ⟨d, op, ty, p, #[], g⟩ e fun v => dwE P Pn K l rq (e.put d v) w) (dwE P Pn K l rq (e.put d undef) w) := rfl
theorem dwE_read {op : Op} {m : Nat} {rq : List RQ} {θ : Tag (K, e, w)} : dwE P Pn K (⟨d, op, ty, p, #[⟨m, .data⟩], g⟩ :: l) rq e w θ = gdD (gd e g)
    (readE P ⟨d, op, ty, p, #[⟨m, .data⟩], g⟩ e w fun v => dwE P Pn K l (⟨m, ⟨d, op, ty, p, #[⟨m, .data⟩], g⟩, e, v⟩ :: rq) (e.put d v) w) (dwE P Pn K l rq (e.put d undef) w) := rfl
theorem dwE_eff {op : Op} {m : Nat} {rq : List RQ} {θ : Tag (K, e, w)} : dwE P Pn K (⟨d, op, ty, p, #[⟨m, .chain⟩], g⟩ :: l) rq e w θ = gdD (gd e g)
    (effE P ⟨d, op, ty, p, #[⟨m, .chain⟩], g⟩ e w (fun v w' => chkD P w' (alive m rq) ∧ dwE P Pn K l (alive m rq) (e.put d v) w') (fun _ _ => False) (fun c w' => Pn c e w')) (dwE P Pn K l rq (e.put d undef) w) := rfl

theorem cwE_tree {t : PT} {θ : Tag ((.tree t : Cd), Q, e, w)} : cwE P (.tree t) Q e w θ = dwTE P (pnP Q) (Q .normal) t [] e w.drew := rfl
theorem cwRE_tree {n : Nat} {t : PT} {θ : Tag ((.tree t : Cd), Q, e, w)} : cwRE P n (.tree t) Q e w θ = dwTE P (pnP Q) (Q .normal) t [] e w.drew := rfl
theorem dwTE_done {rq : List RQ} {θ : Tag (K, e, w)} : dwTE P Pn K .done rq e w θ = K e w := rfl
theorem dwTE_stop {rq : List RQ} {θ : Tag (K, e, w)} : dwTE P Pn K .stop rq e w θ = True := rfl
theorem dwTE_alt {a b : PT} {rq : List RQ} {θ : Tag (K, e, w)} : dwTE P Pn K (.alt a b) rq e w θ = (dwTE P Pn K a rq e w ∧ dwTE P Pn K b rq e w) := rfl
theorem dwTE_pure {t : PT} {op : Op} {rq : List RQ} {θ : Tag (K, e, w)} : dwTE P Pn K (.op ⟨d, op, ty, p, #[], g⟩ t) rq e w θ = gdD (gd e g) (pureE P ⟨d, op, ty, p, #[], g⟩ e fun v => dwTE P Pn K t rq (e.put d v) w) (dwTE P Pn K t rq (e.put d undef) w) := rfl
theorem dwTE_read {t : PT} {op : Op} {m : Nat} {rq : List RQ} {θ : Tag (K, e, w)} : dwTE P Pn K (.op ⟨d, op, ty, p, #[⟨m, .data⟩], g⟩ t) rq e w θ = gdD (gd e g)
    (readE P ⟨d, op, ty, p, #[⟨m, .data⟩], g⟩ e w fun v => dwTE P Pn K t (⟨m, ⟨d, op, ty, p, #[⟨m, .data⟩], g⟩, e, v⟩ :: rq) (e.put d v) w) (dwTE P Pn K t rq (e.put d undef) w) := rfl
theorem dwTE_eff {t : PT} {op : Op} {m : Nat} {rq : List RQ} {θ : Tag (K, e, w)} : dwTE P Pn K (.op ⟨d, op, ty, p, #[⟨m, .chain⟩], g⟩ t) rq e w θ = gdD (gd e g)
    (effE P ⟨d, op, ty, p, #[⟨m, .chain⟩], g⟩ e w (fun v w' => chkD P w' (alive m rq) ∧ dwTE P Pn K t (alive m rq) (e.put d v) w') (fun _ _ => False) (fun c w' => Pn c e w')) (dwTE P Pn K t rq (e.put d undef) w) := rfl

theorem alive_nil {j : Nat} : alive j [] = [] := rfl
theorem retK_returned {v : Value} {K : Value → World → Prop} {Pc' : List PanicEntry → World → Prop} : retK K Pc' (.returned v) w = K v w := rfl
theorem retK_panicked {c : List PanicEntry} {K : Value → World → Prop} {Pc' : List PanicEntry → World → Prop} : retK K Pc' (.panicked c) w = Pc' c w := rfl
theorem alive_cons {j m : Nat} {o : Oper} {v : Value} {rq : List RQ} : alive j (⟨m, o, e, v⟩ :: rq) = if m / 2 ^ j % 2 = 1 then alive j rq else ⟨m, o, e, v⟩ :: alive j rq := by
  have : m.testBit j = decide (m / 2 ^ j % 2 = 1) := Nat.testBit_eq_decide_div_mod_eq
  by_cases h : m / 2 ^ j % 2 = 1 <;> simp [alive, this, h]
theorem chkD_nil : chkD P w [] = True := rfl
theorem chkD_cons {m : Nat} {o : Oper} {v : Value} {rq : List RQ} : chkD P w (⟨m, o, e, v⟩ :: rq) = ((readE P o e w fun x => x = v) ∧ chkD P w rq) := rfl

theorem pureWE_move {x : Operand} {θ : Tag ((⟨d, .move x, ty, p, af, g⟩ : Oper), e, w, KV)} : pureWE P ⟨d, .move x, ty, p, af, g⟩ e w KV θ = pureE P ⟨d, .move x, ty, p, af, g⟩ e KV := rfl
theorem pureWE_assign {x : Operand} {θ : Tag ((⟨d, .assign x, ty, p, af, g⟩ : Oper), e, w, KV)} : pureWE P ⟨d, .assign x, ty, p, af, g⟩ e w KV θ = pureE P ⟨d, .assign x, ty, p, af, g⟩ e KV := rfl
theorem pureWE_pick {c a b : Operand} {θ : Tag ((⟨d, .pick c a b, ty, p, af, g⟩ : Oper), e, w, KV)} : pureWE P ⟨d, .pick c a b, ty, p, af, g⟩ e w KV θ = pureE P ⟨d, .pick c a b, ty, p, af, g⟩ e KV := rfl
theorem pureWE_nilCheck {x : Operand} {θ : Tag ((⟨d, .nilCheck x, ty, p, af, g⟩ : Oper), e, w, KV)} : pureWE P ⟨d, .nilCheck x, ty, p, af, g⟩ e w KV θ = pureE P ⟨d, .nilCheck x, ty, p, af, g⟩ e KV := rfl
theorem pureWE_unOp {op : UnOp} {T : TypeId} {x : Operand} {θ : Tag ((⟨d, .unOp op T x, ty, p, af, g⟩ : Oper), e, w, KV)} : pureWE P ⟨d, .unOp op T x, ty, p, af, g⟩ e w KV θ = pureE P ⟨d, .unOp op T x, ty, p, af, g⟩ e KV := rfl
theorem pureWE_convert {s t : TypeId} {x : Operand} {θ : Tag ((⟨d, .convert s t x, ty, p, af, g⟩ : Oper), e, w, KV)} : pureWE P ⟨d, .convert s t x, ty, p, af, g⟩ e w KV θ = pureE P ⟨d, .convert s t x, ty, p, af, g⟩ e KV := rfl
theorem pureWE_fieldAddr {T : TypeId} {i : Nat} {x : Operand} {θ : Tag ((⟨d, .fieldAddr T x i, ty, p, af, g⟩ : Oper), e, w, KV)} : pureWE P ⟨d, .fieldAddr T x i, ty, p, af, g⟩ e w KV θ = pureE P ⟨d, .fieldAddr T x i, ty, p, af, g⟩ e KV := rfl
theorem pureWE_field {T : TypeId} {i : Nat} {x : Operand} {θ : Tag ((⟨d, .field T x i, ty, p, af, g⟩ : Oper), e, w, KV)} : pureWE P ⟨d, .field T x i, ty, p, af, g⟩ e w KV θ = pureE P ⟨d, .field T x i, ty, p, af, g⟩ e KV := rfl
theorem pureWE_indexAddr {T : TypeId} {x i : Operand} {θ : Tag ((⟨d, .indexAddr T x i, ty, p, af, g⟩ : Oper), e, w, KV)} : pureWE P ⟨d, .indexAddr T x i, ty, p, af, g⟩ e w KV θ = pureE P ⟨d, .indexAddr T x i, ty, p, af, g⟩ e KV := rfl
theorem pureWE_index {T : TypeId} {x i : Operand} {θ : Tag ((⟨d, .index T x i, ty, p, af, g⟩ : Oper), e, w, KV)} : pureWE P ⟨d, .index T x i, ty, p, af, g⟩ e w KV θ = pureE P ⟨d, .index T x i, ty, p, af, g⟩ e KV := rfl
theorem pureWE_extract {i : Nat} {x : Operand} {θ : Tag ((⟨d, .extract x i, ty, p, af, g⟩ : Oper), e, w, KV)} : pureWE P ⟨d, .extract x i, ty, p, af, g⟩ e w KV θ = pureE P ⟨d, .extract x i, ty, p, af, g⟩ e KV := rfl
theorem pureWE_slice {T : TypeId} {x : Operand} {lo hi mx : Option Operand} {θ : Tag ((⟨d, .slice T x lo hi mx, ty, p, af, g⟩ : Oper), e, w, KV)} : pureWE P ⟨d, .slice T x lo hi mx, ty, p, af, g⟩ e w KV θ = pureE P ⟨d, .slice T x lo hi mx, ty, p, af, g⟩ e KV := rfl
theorem pureWE_build {T : TypeId} {ps : Array (Nat × Operand)} {θ : Tag ((⟨d, .build T ps, ty, p, af, g⟩ : Oper), e, w, KV)} : pureWE P ⟨d, .build T ps, ty, p, af, g⟩ e w KV θ = pureE P ⟨d, .build T ps, ty, p, af, g⟩ e KV := rfl
theorem pureWE_makeFunc {f : Fn} {a b : Array Operand} {θ : Tag ((⟨d, .makeFunc f a b, ty, p, af, g⟩ : Oper), e, w, KV)} : pureWE P ⟨d, .makeFunc f a b, ty, p, af, g⟩ e w KV θ = pureE P ⟨d, .makeFunc f a b, ty, p, af, g⟩ e KV := rfl
theorem pureWE_call {c : Builtin} {as : Array Operand} {ts : Array TypeId} {θ : Tag ((⟨d, .call { callee := .builtin c, args := as, argTypes := ts }, ty, p, af, g⟩ : Oper), e, w, KV)} : pureWE P ⟨d, .call { callee := .builtin c, args := as, argTypes := ts }, ty, p, af, g⟩ e w KV θ = pureE P ⟨d, .call { callee := .builtin c, args := as, argTypes := ts }, ty, p, af, g⟩ e KV := rfl
theorem pureWE_binOp {op : BinOp} {T T' : TypeId} {x y : Operand} {θ : Tag ((⟨d, .binOp op T x y T', ty, p, af, g⟩ : Oper), e, w, KV)} : pureWE P ⟨d, .binOp op T x y T', ty, p, af, g⟩ e w KV θ = binW P op T (e.ev x) (e.ev y) w KV := rfl
theorem binW_int {op : BinOp} {T : TypeId} {k : IntKind} {n : Int} {y : Value} {θ : Tag (w, KV)} : binW P op T (.int k n) y w KV θ = onV (binV P op T (.int k n) y) KV := rfl
theorem binW_bool {op : BinOp} {T : TypeId} {a : Bool} {y : Value} {θ : Tag (w, KV)} : binW P op T (.bool a) y w KV θ = onV (binV P op T (.bool a) y) KV := rfl
theorem binW_string {op : BinOp} {T : TypeId} {s : ByteArray} {y : Value} {θ : Tag (w, KV)} : binW P op T (.string s) y w KV θ = onV (binV P op T (.string s) y) KV := rfl
theorem binW_slice {op : BinOp} {T : TypeId} {a : Option Addr} {n c : Nat} {y : Value} {θ : Tag (w, KV)} : binW P op T (.slice a n c) y w KV θ = onV (binV P op T (.slice a n c) y) KV := rfl
theorem binW_map {op : BinOp} {T : TypeId} {a : Option Nat} {y : Value} {θ : Tag (w, KV)} : binW P op T (.map a) y w KV θ = onV (binV P op T (.map a) y) KV := rfl
theorem binW_func {op : BinOp} {T : TypeId} {f : Fn} {a b : Array Value} {y : Value} {θ : Tag (w, KV)} : binW P op T (.func f a b) y w KV θ = onV (binV P op T (.func f a b) y) KV := rfl
theorem binW_nilFunc {op : BinOp} {T : TypeId}  {y : Value} {θ : Tag (w, KV)} : binW P op T (.nilFunc) y w KV θ = onV (binV P op T (.nilFunc) y) KV := rfl
theorem binW_agg {op : BinOp} {T : TypeId} {a : Array Value} {y : Value} {θ : Tag (w, KV)} : binW P op T (.agg a) y w KV θ = onV (binV P op T (.agg a) y) KV := rfl
theorem binW_iface {op : BinOp} {T : TypeId} {t : TypeId} {v : Value} {y : Value} {θ : Tag (w, KV)} : binW P op T (.iface t v) y w KV θ = onV (binV P op T (.iface t v) y) KV := rfl
theorem binW_nilIface {op : BinOp} {T : TypeId}  {y : Value} {θ : Tag (w, KV)} : binW P op T (.nilIface) y w KV θ = onV (binV P op T (.nilIface) y) KV := rfl
theorem binW_nilp {op : BinOp} {T : TypeId}  {y : Value} {θ : Tag (w, KV)} : binW P op T (.pointer none) y w KV θ = onV (binV P op T (.pointer none) y) KV := rfl
theorem binW_ptrN {op : BinOp} {T : TypeId} {a : Option Addr} {θ : Tag (w, KV)} : binW P op T (.pointer a) (.pointer none) w KV θ = onV (binV P op T (.pointer a) (.pointer none)) KV := by cases a <;> rfl
theorem binW_ptr {op : BinOp} {T : TypeId} {a b : Addr} {θ : Tag (w, KV)} : binW P op T (.pointer (some a)) (.pointer (some b)) w KV θ = ptrW P op T a b w KV := rfl

theorem pureE_move {x : Operand} {θ : Tag ((⟨d, .move x, ty, p, af, g⟩ : Oper), e, KV)} : pureE P ⟨d, .move x, ty, p, af, g⟩ e KV θ = onV (some (e.ev x)) KV := by rw [onV_some]; rfl
theorem pureE_assign {x : Operand} {θ : Tag ((⟨d, .assign x, ty, p, af, g⟩ : Oper), e, KV)} : pureE P ⟨d, .assign x, ty, p, af, g⟩ e KV θ = onV (some (e.ev x)) KV := by rw [onV_some]; rfl
theorem pureE_pick {c a b : Operand} {θ : Tag ((⟨d, .pick c a b, ty, p, af, g⟩ : Oper), e, KV)} : pureE P ⟨d, .pick c a b, ty, p, af, g⟩ e KV θ = onV (pickV (e.ev c) (e.ev a) (e.ev b)) KV := rfl
theorem pureE_nilCheck {x : Operand} {θ : Tag ((⟨d, .nilCheck x, ty, p, af, g⟩ : Oper), e, KV)} : pureE P ⟨d, .nilCheck x, ty, p, af, g⟩ e KV θ = onV (nilV (e.ev x)) KV := rfl
theorem pureE_binOp {op : BinOp} {T T' : TypeId} {x y : Operand} {θ : Tag ((⟨d, .binOp op T x y T', ty, p, af, g⟩ : Oper), e, KV)} : pureE P ⟨d, .binOp op T x y T', ty, p, af, g⟩ e KV θ = onV (binV P op T (e.ev x) (e.ev y)) KV := rfl
theorem pureE_unOp {op : UnOp} {T : TypeId} {x : Operand} {θ : Tag ((⟨d, .unOp op T x, ty, p, af, g⟩ : Oper), e, KV)} : pureE P ⟨d, .unOp op T x, ty, p, af, g⟩ e KV θ = onV (unV op (e.ev x)) KV := rfl
theorem pureE_convert {s t : TypeId} {x : Operand} {θ : Tag ((⟨d, .convert s t x, ty, p, af, g⟩ : Oper), e, KV)} : pureE P ⟨d, .convert s t x, ty, p, af, g⟩ e KV θ = onV (convV (P.underlying s) (P.underlying t) (e.ev x)) KV := rfl
theorem pureE_fieldAddr {T : TypeId} {i : Nat} {x : Operand} {θ : Tag ((⟨d, .fieldAddr T x i, ty, p, af, g⟩ : Oper), e, KV)} : pureE P ⟨d, .fieldAddr T x i, ty, p, af, g⟩ e KV θ = onV (fieldV (fieldOff P T i) (e.ev x)) KV := rfl
theorem pureE_field {T : TypeId} {i : Nat} {x : Operand} {θ : Tag ((⟨d, .field T x i, ty, p, af, g⟩ : Oper), e, KV)} : pureE P ⟨d, .field T x i, ty, p, af, g⟩ e KV θ = onV (fldV P (fieldTy P T i) (e.ev x)) KV := rfl
theorem pureE_indexAddr {T : TypeId} {x i : Operand} {θ : Tag ((⟨d, .indexAddr T x i, ty, p, af, g⟩ : Oper), e, KV)} : pureE P ⟨d, .indexAddr T x i, ty, p, af, g⟩ e KV θ = idxD (elemOf? P T) (e.ev x) (e.ev i) KV := rfl
theorem pureE_index {T : TypeId} {x i : Operand} {θ : Tag ((⟨d, .index T x i, ty, p, af, g⟩ : Oper), e, KV)} : pureE P ⟨d, .index T x i, ty, p, af, g⟩ e KV θ = idxV (P.underlying T) (arrEx P T) (e.ev x) (e.ev i) KV := rfl
theorem pureE_extract {i : Nat} {x : Operand} {θ : Tag ((⟨d, .extract x i, ty, p, af, g⟩ : Oper), e, KV)} : pureE P ⟨d, .extract x i, ty, p, af, g⟩ e KV θ = onV (tupV (e.ev x) i) KV := rfl
theorem pureE_slice {T : TypeId} {x : Operand} {lo hi mx : Option Operand} {θ : Tag ((⟨d, .slice T x lo hi mx, ty, p, af, g⟩ : Oper), e, KV)} :
    pureE P ⟨d, .slice T x lo hi mx, ty, p, af, g⟩ e KV θ = slcD (P.underlying T) (elemOf? P T) (e.ev x) (lo.map e.ev) (hi.map e.ev) (mx.map e.ev) KV := by
  simp only [pureE, pureD, slcD]
  split
  · rename_i hu
    have : elemOf? P T = none := by simp [elemOf?, hu]
    simp [this, hu]
  · rename_i hu
    cases he : elemOf? P T with
    | some a => rfl
    | none => simp only [sliceD]; exact propext ⟨fun h => h.elim, fun h => (hu h.1).elim⟩
theorem pureE_build {T : TypeId} {ps : List (Nat × Operand)} {θ : Tag ((⟨d, .build T ps.toArray, ty, p, af, g⟩ : Oper), e, KV)} : pureE P ⟨d, .build T ps.toArray, ty, p, af, g⟩ e KV θ = onV (bldV (bldP P T) (ps.map fun q => (q.1, e.ev q.2))) KV := by simp [pureE, pureD]
theorem pureE_makeFunc {f : Fn} {a b : Array Operand} {θ : Tag ((⟨d, .makeFunc f a b, ty, p, af, g⟩ : Oper), e, KV)} : pureE P ⟨d, .makeFunc f a b, ty, p, af, g⟩ e KV θ = KV (.func f (a.map e.ev) (b.map e.ev)) := rfl
theorem pureE_len {x : Operand} {t : TypeId} {θ : Tag ((⟨d, .call { callee := .builtin .len, args := #[x], argTypes := #[t] }, ty, p, af, g⟩ : Oper), e, KV)} : pureE P ⟨d, .call { callee := .builtin .len, args := #[x], argTypes := #[t] }, ty, p, af, g⟩ e KV θ = onV (lenV (P.underlying t) (e.ev x)) KV := rfl
theorem pureE_cap {x : Operand} {t : TypeId} {θ : Tag ((⟨d, .call { callee := .builtin .cap, args := #[x], argTypes := #[t] }, ty, p, af, g⟩ : Oper), e, KV)} : pureE P ⟨d, .call { callee := .builtin .cap, args := #[x], argTypes := #[t] }, ty, p, af, g⟩ e KV θ = onV (capV (P.underlying t) (e.ev x)) KV := rfl
theorem pureE_min {x y : Operand} {ts : Array TypeId} {θ : Tag ((⟨d, .call { callee := .builtin .min, args := #[x, y], argTypes := ts }, ty, p, af, g⟩ : Oper), e, KV)} : pureE P ⟨d, .call { callee := .builtin .min, args := #[x, y], argTypes := ts }, ty, p, af, g⟩ e KV θ = onV (minV (e.ev x) (e.ev y)) KV := rfl
theorem pureE_max {x y : Operand} {ts : Array TypeId} {θ : Tag ((⟨d, .call { callee := .builtin .max, args := #[x, y], argTypes := ts }, ty, p, af, g⟩ : Oper), e, KV)} : pureE P ⟨d, .call { callee := .builtin .max, args := #[x, y], argTypes := ts }, ty, p, af, g⟩ e KV θ = onV (maxV (e.ev x) (e.ev y)) KV := rfl

theorem readE_load {T : TypeId} {x : Operand} {θ : Tag ((⟨d, .load T x, ty, p, af, g⟩ : Oper), e, w, KV)} : readE P ⟨d, .load T x, ty, p, af, g⟩ e w KV θ = loadD (aggSz P T) (e.ev x) w KV := rfl
theorem readE_lookup {T : TypeId} {x i : Operand} {b : Bool} {θ : Tag ((⟨d, .lookup T x i b, ty, p, af, g⟩ : Oper), e, w, KV)} : readE P ⟨d, .lookup T x i b, ty, p, af, g⟩ e w KV θ = readR P (kLookup T (e.ev x) (e.ev i) b) w KV := rfl
theorem readE_entry {x : Operand} {θ : Tag ((⟨d, .entry x, ty, p, af, g⟩ : Oper), e, w, KV)} : readE P ⟨d, .entry x, ty, p, af, g⟩ e w KV θ = readR P (kEntry (e.ev x)) w KV := rfl
theorem readE_typeAssert {x : Operand} {T T' : TypeId} {b : Bool} {θ : Tag ((⟨d, .typeAssert x T T' b, ty, p, af, g⟩ : Oper), e, w, KV)} : readE P ⟨d, .typeAssert x T T' b, ty, p, af, g⟩ e w KV θ = readR P (kTypeAssert (e.ev x) T T' b) w KV := rfl
theorem readE_makeInterface {x : Operand} {T : TypeId} {θ : Tag ((⟨d, .makeInterface T x, ty, p, af, g⟩ : Oper), e, w, KV)} : readE P ⟨d, .makeInterface T x, ty, p, af, g⟩ e w KV θ = readR P (kMakeInterface T (e.ev x)) w KV := rfl
theorem readE_convert {x : Operand} {s t : TypeId} {θ : Tag ((⟨d, .convert s t x, ty, p, af, g⟩ : Oper), e, w, KV)} : readE P ⟨d, .convert s t x, ty, p, af, g⟩ e w KV θ = readR P (kConvert s t (e.ev x)) w KV := rfl
theorem readE_len {x : Operand} {ts : Array TypeId} {θ : Tag ((⟨d, .call { callee := .builtin .len, args := #[x], argTypes := ts }, ty, p, af, g⟩ : Oper), e, w, KV)} : readE P ⟨d, .call { callee := .builtin .len, args := #[x], argTypes := ts }, ty, p, af, g⟩ e w KV θ = readR P (kLen ts ty #[e.ev x]) w KV := by simp [readE, readD, kLen]

theorem effE_store {T : TypeId} {x y : Operand} {θ : Tag ((⟨d, .store T x y, ty, p, af, g⟩ : Oper), e, w, KW, D, Pp)} : effE P ⟨d, .store T x y, ty, p, af, g⟩ e w KW D Pp θ = storeD (szO P T) (e.ev x) (e.ev y) w (KW undef) := rfl
theorem effE_alloc {T : TypeId} {θ : Tag ((⟨d, .alloc T, ty, p, af, g⟩ : Oper), e, w, KW, D, Pp)} : effE P ⟨d, .alloc T, ty, p, af, g⟩ e w KW D Pp θ = allocD (zeroV P T) T w KW := rfl
theorem effE_box {T : TypeId} {x : Operand} {θ : Tag ((⟨d, .box T x, ty, p, af, g⟩ : Oper), e, w, KW, D, Pp)} : effE P ⟨d, .box T x, ty, p, af, g⟩ e w KW D Pp θ = newD T (e.ev x).cells w KW := rfl
theorem effE_buildSlice {T : TypeId} {n : Nat} {ps : List (Nat × Operand)} {θ : Tag ((⟨d, .buildSlice T n ps.toArray, ty, p, af, g⟩ : Oper), e, w, KW, D, Pp)} : effE P ⟨d, .buildSlice T n ps.toArray, ty, p, af, g⟩ e w KW D Pp θ = semD P (kBuildSlice T n (ps.map fun q => (q.1, e.ev q.2)).toArray) w KW := by simp [effE, effD, kBuildSlice]
theorem effE_makeSlice {T : TypeId} {a b : Operand} {θ : Tag ((⟨d, .makeSlice T a b, ty, p, af, g⟩ : Oper), e, w, KW, D, Pp)} : effE P ⟨d, .makeSlice T a b, ty, p, af, g⟩ e w KW D Pp θ = semD P (kMakeSlice T (e.ev a) (e.ev b)) w KW := rfl
theorem effE_makeMap {T : TypeId} {r : Option Operand} {θ : Tag ((⟨d, .makeMap T r, ty, p, af, g⟩ : Oper), e, w, KW, D, Pp)} : effE P ⟨d, .makeMap T r, ty, p, af, g⟩ e w KW D Pp θ = semD P (kMakeMap T (r.map e.ev)) w KW := rfl
theorem effE_mapUpdate {T : TypeId} {m k v : Operand} {θ : Tag ((⟨d, .mapUpdate T m k v, ty, p, af, g⟩ : Oper), e, w, KW, D, Pp)} : effE P ⟨d, .mapUpdate T m k v, ty, p, af, g⟩ e w KW D Pp θ = semU P (kMapUpdate T (e.ev m) (e.ev k) (e.ev v)) w (KW undef) := rfl
theorem effE_insert {T : TypeId} {m k v : Operand} {θ : Tag ((⟨d, .insert T m k v, ty, p, af, g⟩ : Oper), e, w, KW, D, Pp)} : effE P ⟨d, .insert T m k v, ty, p, af, g⟩ e w KW D Pp θ = semU P (kMapUpdate T (e.ev m) (e.ev k) (e.ev v)) w (KW undef) := rfl
theorem effE_range {T : TypeId} {x : Operand} {θ : Tag ((⟨d, .range T x, ty, p, af, g⟩ : Oper), e, w, KW, D, Pp)} : effE P ⟨d, .range T x, ty, p, af, g⟩ e w KW D Pp θ = semD P (kRange T (e.ev x)) w KW := rfl
theorem effE_next {b : Bool} {x : Operand} {θ : Tag ((⟨d, .next x b, ty, p, af, g⟩ : Oper), e, w, KW, D, Pp)} : effE P ⟨d, .next x b, ty, p, af, g⟩ e w KW D Pp θ = semD P (kNext (e.ev x) b ty) w KW := rfl
theorem effE_convert {s t : TypeId} {x : Operand} {θ : Tag ((⟨d, .convert s t x, ty, p, af, g⟩ : Oper), e, w, KW, D, Pp)} : effE P ⟨d, .convert s t x, ty, p, af, g⟩ e w KW D Pp θ = semD P (kConvert s t (e.ev x)) w KW := rfl
theorem effE_append {args : Array Operand} {ts : Array TypeId} {θ : Tag ((⟨d, .call { callee := .builtin .append, args := args, argTypes := ts }, ty, p, af, g⟩ : Oper), e, w, KW, D, Pp)} : effE P ⟨d, .call { callee := .builtin .append, args := args, argTypes := ts }, ty, p, af, g⟩ e w KW D Pp θ = semD P (kAppend ts ty (args.map e.ev)) w KW := rfl
theorem effE_copy {args : Array Operand} {ts : Array TypeId} {θ : Tag ((⟨d, .call { callee := .builtin .copy, args := args, argTypes := ts }, ty, p, af, g⟩ : Oper), e, w, KW, D, Pp)} : effE P ⟨d, .call { callee := .builtin .copy, args := args, argTypes := ts }, ty, p, af, g⟩ e w KW D Pp θ = semD P (kCopy ts ty (args.map e.ev)) w KW := rfl
theorem effE_delete {args : Array Operand} {ts : Array TypeId} {θ : Tag ((⟨d, .call { callee := .builtin .delete, args := args, argTypes := ts }, ty, p, af, g⟩ : Oper), e, w, KW, D, Pp)} : effE P ⟨d, .call { callee := .builtin .delete, args := args, argTypes := ts }, ty, p, af, g⟩ e w KW D Pp θ = semD P (kDelete ts ty (args.map e.ev)) w KW := rfl
theorem effE_clear {args : Array Operand} {ts : Array TypeId} {θ : Tag ((⟨d, .call { callee := .builtin .clear, args := args, argTypes := ts }, ty, p, af, g⟩ : Oper), e, w, KW, D, Pp)} : effE P ⟨d, .call { callee := .builtin .clear, args := args, argTypes := ts }, ty, p, af, g⟩ e w KW D Pp θ = semD P (kClear ts ty (args.map e.ev)) w KW := rfl
theorem effE_call {f : Operand} {args : Array Operand} {ts : Array TypeId} {θ : Tag ((⟨d, .call { callee := .value f, args := args, argTypes := ts }, ty, p, af, g⟩ : Oper), e, w, KW, D, Pp)} : effE P ⟨d, .call { callee := .value f, args := args, argTypes := ts }, ty, p, af, g⟩ e w KW D Pp θ = callD P (e.ev f) (args.map e.ev) w (retK KW Pp) := rfl
theorem effE_invoke {r : Operand} {m : String} {args : Array Operand} {ts : Array TypeId} {θ : Tag ((⟨d, .call { callee := .invoke r m, args := args, argTypes := ts }, ty, p, af, g⟩ : Oper), e, w, KW, D, Pp)} : effE P ⟨d, .call { callee := .invoke r m, args := args, argTypes := ts }, ty, p, af, g⟩ e w KW D Pp θ = rawD P KW D Pp (opS ⟨d, .call { callee := .invoke r m, args := args, argTypes := ts }, ty, p, af, g⟩ e) w := rfl
theorem effE_defer {c : Call} {θ : Tag ((⟨d, .defer c, ty, p, af, g⟩ : Oper), e, w, KW, D, Pp)} : effE P ⟨d, .defer c, ty, p, af, g⟩ e w KW D Pp θ = rawD P KW D Pp (opS ⟨d, .defer c, ty, p, af, g⟩ e) w := rfl
theorem effE_panic {x : Operand} {θ : Tag ((⟨d, .panic x, ty, p, af, g⟩ : Oper), e, w, KW, D, Pp)} : effE P ⟨d, .panic x, ty, p, af, g⟩ e w KW D Pp θ = rawD P KW D Pp (opS ⟨d, .panic x, ty, p, af, g⟩ e) w := rfl

theorem callD_func {f : FuncId} {args : Array Value} {R : Ending → World → Prop} {θ : Tag R} : callD P (.func (.func f) #[] #[]) args w R θ = reqD (fnOk P f = true) (callE P f args w R) := by simp [callD, reqD]
theorem callD_clos {f : FuncId} {first cap args : Array Value} {R : Ending → World → Prop} {θ : Tag R} : callD P (.func (.func f) first cap) args w R θ = reqD (fnOk P f = true) (callE P f (first ++ args ++ cap) w R) := by simp [callD, reqD]

theorem callY_func {f : FuncId} {args : Array Value} {R : Ending → World → Prop} {θ : Tag (w, R)} : callY P (.func (.func f) #[] #[]) args w R θ = reqD (fnOk P f = true) (callE P f args w R) := by simp [callY, reqD]
theorem callY_yield {n : Nat} {args : Array Value} {R : Ending → World → Prop} {θ : Tag (w, R)} : callY P (.func (.yield n) #[] #[]) args w R θ = yieldE P n args w R := by simp [callY]
theorem callY_clos {f : FuncId} {first cap args : Array Value} {R : Ending → World → Prop} {θ : Tag (w, R)} : callY P (.func (.func f) first cap) args w R θ = reqD (fnOk P f = true) (callE P f (first ++ args ++ cap) w R) := by simp [callY, reqD]

theorem storeD_cell {a : Addr} {x : Value} {K : World → Prop} {θ : Tag K} (hc : isCell x = true) (h1 : (w.cell? a).isSome = true) (h2 : w.frozen? a = false) : storeD (some 1) (.pointer (some a)) x w K θ = K (w.setCell a x) := by
  have hx : x.cells = #[x] := by cases x <;> first | rfl | cases hc
  have ha : a.add 0 = a := rfl
  simp [storeD, stD, hx, hc, ha, h1, h2]

/-! ### Values -/
theorem binV_add {T : TypeId} {k : IntKind} {a b : Int} : binV P .add T (.int k a) (.int k b) = some (.int k (k.wrap (a + b))) := by simp [binV, intV]
theorem binV_sub {T : TypeId} {k : IntKind} {a b : Int} : binV P .sub T (.int k a) (.int k b) = some (.int k (k.wrap (a - b))) := by simp [binV, intV]
theorem binV_mul {T : TypeId} {k : IntKind} {a b : Int} : binV P .mul T (.int k a) (.int k b) = some (.int k (k.wrap (a * b))) := by simp [binV, intV]
theorem binV_quo {T : TypeId} {k : IntKind} {a b : Int} (h : b ≠ 0) : binV P .quo T (.int k a) (.int k b) = some (.int k (k.wrap (a.tdiv b))) := by simp [binV, intV, h]
theorem binV_rem {T : TypeId} {k : IntKind} {a b : Int} (h : b ≠ 0) : binV P .rem T (.int k a) (.int k b) = some (.int k (a.tmod b)) := by simp [binV, intV, h]
theorem binV_and {T : TypeId} {k : IntKind} {a b : Int} : binV P .and T (.int k a) (.int k b) = some (.int k (k.wrap (BitVec.ofInt k.bits a &&& BitVec.ofInt k.bits b).toNat)) := by simp [binV, intV]
theorem binV_or {T : TypeId} {k : IntKind} {a b : Int} : binV P .or T (.int k a) (.int k b) = some (.int k (k.wrap (BitVec.ofInt k.bits a ||| BitVec.ofInt k.bits b).toNat)) := by simp [binV, intV]
theorem binV_xor {T : TypeId} {k : IntKind} {a b : Int} : binV P .xor T (.int k a) (.int k b) = some (.int k (k.wrap (BitVec.ofInt k.bits a ^^^ BitVec.ofInt k.bits b).toNat)) := by simp [binV, intV]
theorem binV_eql {T : TypeId} {k : IntKind} {a b : Int} : binV P .eql T (.int k a) (.int k b) = some (.bool (decide (a = b))) := by simp [binV, intV]; rw [Bool.eq_iff_iff]; simp
theorem binV_neq {T : TypeId} {k : IntKind} {a b : Int} : binV P .neq T (.int k a) (.int k b) = some (.bool (!decide (a = b))) := by simp only [binV, intV, if_true, bne, Option.some.injEq, Value.bool.injEq]; congr 1
theorem binV_lss {T : TypeId} {k : IntKind} {a b : Int} : binV P .lss T (.int k a) (.int k b) = some (.bool (decide (a < b))) := by simp [binV, intV]
theorem binV_leq {T : TypeId} {k : IntKind} {a b : Int} : binV P .leq T (.int k a) (.int k b) = some (.bool (decide (a ≤ b))) := by simp [binV, intV]
theorem binV_gtr {T : TypeId} {k : IntKind} {a b : Int} : binV P .gtr T (.int k a) (.int k b) = some (.bool (decide (b < a))) := by simp [binV, intV]
theorem binV_geq {T : TypeId} {k : IntKind} {a b : Int} : binV P .geq T (.int k a) (.int k b) = some (.bool (decide (b ≤ a))) := by simp [binV, intV]
theorem binV_shl {T : TypeId} {k k' : IntKind} {a b : Int} (h : 0 ≤ b) : binV P .shl T (.int k a) (.int k' b) = some (.int k (k.wrap (a * 2 ^ (min b.toNat k.bits)))) := by simp [binV, shV, show ¬ b < 0 by omega]
theorem binV_shr {T : TypeId} {k k' : IntKind} {a b : Int} (h : 0 ≤ b) : binV P .shr T (.int k a) (.int k' b) = some (.int k (a.fdiv (2 ^ (min b.toNat k.bits)))) := by simp [binV, shV, show ¬ b < 0 by omega]
theorem binV_beql {T : TypeId} {a b : Bool} : binV P .eql T (.bool a) (.bool b) = (eqV (P.underlying T) (.bool a) (.bool b)).map .bool := by simp [binV]
theorem binV_bneq {T : TypeId} {a b : Bool} : binV P .neq T (.bool a) (.bool b) = (eqV (P.underlying T) (.bool a) (.bool b)).map fun b => .bool (!b) := by simp [binV]
theorem binV_aeql {T : TypeId} {xs ys : Array Value} : binV P .eql T (.agg xs) (.agg ys) = (aggEq (flatE P T) xs ys).map .bool := rfl
theorem binV_aneq {T : TypeId} {xs ys : Array Value} : binV P .neq T (.agg xs) (.agg ys) = (aggEq (flatE P T) xs ys).map fun b => .bool (!b) := rfl
theorem aggEq_lists {ks : List Leaf} {xs ys : List Value} : aggEq (some ks) xs.toArray ys.toArray = leafEq ks xs ys := rfl
theorem leafEq_nils : leafEq [] [] [] = some true := rfl
theorem leafEq_ints {ks : List Leaf} {k : IntKind} {a b : Int} {xs ys : List Value} : leafEq (.int :: ks) (.int k a :: xs) (.int k b :: ys) = (leafEq ks xs ys).map (decide (a = b) && ·) := by simp [leafEq]
theorem leafEq_bools {ks : List Leaf} {a b : Bool} {xs ys : List Value} : leafEq (.bool :: ks) (.bool a :: xs) (.bool b :: ys) = (leafEq ks xs ys).map ((a == b) && ·) := by simp [leafEq]
theorem leafEq_strs {ks : List Leaf} {a b : ByteArray} {xs ys : List Value} : leafEq (.str :: ks) (.string a :: xs) (.string b :: ys) = (leafEq ks xs ys).map ((a.toList == b.toList) && ·) := by simp [leafEq]
theorem binV_peql {T : TypeId} {a : Option Addr} {y : Value} : binV P .eql T (.pointer a) y = (eqV (P.underlying T) (.pointer a) y).map .bool := by simp [binV]
theorem binV_pneq {T : TypeId} {a : Option Addr} {y : Value} : binV P .neq T (.pointer a) y = (eqV (P.underlying T) (.pointer a) y).map fun b => .bool (!b) := by simp [binV]
theorem binV_leql {T : TypeId} {a : Option Addr} {m n : Nat} {y : Value} : binV P .eql T (.slice a m n) y = (eqV (P.underlying T) (.slice a m n) y).map .bool := by simp [binV]
theorem binV_lneq {T : TypeId} {a : Option Addr} {m n : Nat} {y : Value} : binV P .neq T (.slice a m n) y = (eqV (P.underlying T) (.slice a m n) y).map fun b => .bool (!b) := by simp [binV]
theorem binV_feql {T : TypeId} {f : Fn} {a b : Array Value} {y : Value} : binV P .eql T (.func f a b) y = (eqV (P.underlying T) (.func f a b) y).map .bool := by simp [binV]
theorem binV_fneq {T : TypeId} {f : Fn} {a b : Array Value} {y : Value} : binV P .neq T (.func f a b) y = (eqV (P.underlying T) (.func f a b) y).map fun b => .bool (!b) := by simp [binV]
theorem binV_neql {T : TypeId} {y : Value} : binV P .eql T .nilFunc y = (eqV (P.underlying T) .nilFunc y).map .bool := by simp [binV]
theorem binV_meql {T : TypeId} {a : Option Nat} {y : Value} : binV P .eql T (.map a) y = (eqV (P.underlying T) (.map a) y).map .bool := by simp [binV]
theorem eqV_bool {a b : Bool} : eqV (some .bool) (.bool a) (.bool b) = some (a == b) := rfl
theorem eqV_ptr {E : TypeId} {a : Option Addr} : eqV (some (.pointer E)) (.pointer a) (.pointer none) = some a.isNone := by cases a <;> rfl
theorem eqV_ptr2 {E : TypeId} {a : Option Addr} : eqV (some (.pointer E)) (.pointer none) (.pointer a) = some a.isNone := rfl
theorem eqV_slice {E : TypeId} {a : Option Addr} {m n : Nat} : eqV (some (.slice E)) (.slice a m n) (.slice none 0 0) = some a.isNone := by cases a <;> rfl
theorem eqV_map {A B : TypeId} {a : Option Nat} : eqV (some (.map A B)) (.map a) (.map none) = some a.isNone := by cases a <;> rfl
theorem eqV_func {as bs : Array TypeId} {v : Bool} {f : Fn} {a b : Array Value} : eqV (some (.func as bs v)) (.func f a b) .nilFunc = some false := rfl
theorem eqV_nilfunc {as bs : Array TypeId} {v : Bool} : eqV (some (.func as bs v)) .nilFunc .nilFunc = some true := rfl
theorem binV_seql {T : TypeId} {a b : ByteArray} : binV P .eql T (.string a) (.string b) = some (.bool (a.toList == b.toList)) := by simp [binV, strV]
theorem binV_sneq {T : TypeId} {a b : ByteArray} : binV P .neq T (.string a) (.string b) = some (.bool (!(a.toList == b.toList))) := by simp [binV, strV]
theorem unV_not {b : Bool} : unV .not (.bool b) = some (.bool (!b)) := rfl
theorem unV_neg {k : IntKind} {n : Int} : unV .neg (.int k n) = some (.int k (k.wrap (0 - n))) := rfl
theorem convV_int {u : TypeDesc} {k k' : IntKind} {n : Int} : convV (some u) (some (.int k)) (.int k' n) = some (.int k (k.wrap n)) := by cases u <;> rfl
theorem convV_rune {k k' : IntKind} {n : Int} : convV (some (.int k)) (some .string) (.int k' n) = some (.string (Utf8.encode n)) := rfl
theorem fieldV_some {o : Nat} {a : Addr} : fieldV (some o) (.pointer (some a)) = some (.pointer (some (a.add o))) := rfl
theorem fldV_agg {t off : Nat} {cs : Array Value} : fldV P (some (t, off)) (.agg cs) = partV (aggSz P t) off cs := rfl
theorem partV_cell {off : Nat} {cs : Array Value} : partV (some none) off cs = cs[off]? := rfl
theorem partV_row {off n : Nat} {cs : Array Value} : partV (some (some n)) off cs = some (.agg (cs.extract off (off + n))) := rfl
theorem nilV_ptr {a : Addr} : nilV (.pointer (some a)) = some (.pointer (some a)) := rfl
theorem nilV_func {f : Nat} {a b : Array Value} : nilV (.func (.func f) a b) = some (.func (.func f) a b) := rfl
theorem nilV_yield {f : Nat} {a b : Array Value} : nilV (.func (.yield f) a b) = some (.func (.yield f) a b) := rfl
theorem pickV_true {a b : Value} : pickV (.bool true) a b = some a := rfl
theorem pickV_false {a b : Value} : pickV (.bool false) a b = some b := rfl
theorem tupV_tup {vs : Array Value} {i : Nat} : tupV (.tuple vs) i = vs[i]? := rfl
theorem lenV_slice {E : TypeId} {a : Option Addr} {m n : Nat} : lenV (some (.slice E)) (.slice a m n) = some (.int .i64 m) := rfl
theorem lenV_string {s : ByteArray} : lenV (some .string) (.string s) = some (.int .i64 s.size) := rfl
theorem lenV_array {E n : Nat} {v : Value} : lenV (some (.array n E)) v = some (.int .i64 n) := rfl
theorem capV_slice {E : TypeId} {a : Option Addr} {m n : Nat} : capV (some (.slice E)) (.slice a m n) = some (.int .i64 n) := rfl
theorem minV_int {k k' : IntKind} {a b : Int} : minV (.int k a) (.int k' b) = some (.int k (if b < a then b else a)) := rfl
theorem maxV_int {k k' : IntKind} {a b : Int} : maxV (.int k a) (.int k' b) = some (.int k (if a < b then b else a)) := rfl
theorem bnd_none {n : Nat} : bnd none n = some (n : Int) := rfl
theorem bnd_int {k : IntKind} {n : Nat} {i : Int} : bnd (some (.int k i)) n = some i := rfl
theorem add_lit {b o n : Nat} : (⟨b, o, none⟩ : Addr).add n = ⟨b, o + n, none⟩ := by unfold Addr.add; split <;> simp_all
theorem some_beq_true {b : Bool} : (some b == some true) = b := by cases b <;> rfl
theorem some_beq_false {b : Bool} : (some b == some false) = !b := by cases b <;> rfl
theorem undef_yb : yb undef = none := rfl
theorem none_beq {b : Bool} : ((none : Option Bool) == some b) = false := rfl
theorem map_none' {f : Operand → Value} : Option.map f (none : Option Operand) = none := rfl
theorem map_some' {f : Operand → Value} {x : Operand} : Option.map f (some x) = some (f x) := rfl

theorem entry_evl {args : List Value} {t : Nat} : (entry args.toArray).ev (.tmp t) = args.getD t undef := by simp [entry, FA.ev]
theorem entry_ρl {args : List Value} {t : Nat} : (entry args.toArray).ρ t = args.getD t undef := by simp [entry]
theorem getD0 {a : Value} {l : List Value} {d : Value} : (a :: l).getD 0 d = a := rfl
theorem getDs {a : Value} {l : List Value} {d : Value} {n : Nat} : (a :: l).getD (n + 1) d = l.getD n d := rfl
theorem getDn {d : Value} {n : Nat} : ([] : List Value).getD n d = d := rfl

theorem fin1 {t : Nat} : (resF #[.tmp t] e).run P w = .ok (e.ρ t) w := by simp [resF]
theorem fin2 {t u : Nat} : (resF #[.tmp t, .tmp u] e).run P w = .ok (.tuple #[e.ρ t, e.ρ u]) w := by simp [resF]
theorem fin3 {t u v : Nat} : (resF #[.tmp t, .tmp u, .tmp v] e).run P w = .ok (.tuple #[e.ρ t, e.ρ u, e.ρ v]) w := by simp [resF]
theorem fin0 : (resF #[] e).run P w = .ok (.tuple #[]) w := by simp [resF]
theorem retD_nil {A : World → Prop} : retD P [] A w = A w := rfl
theorem retD_mark {r : Nat} {as : Array Value} {ds : List Deferred} {A : World → Prop} : retD P ({ target := .collected r, args := as } :: ds) A w = (w.heap[r]? = some (.deferred (some [])) ∧ retD P ds A (w.putObj r (.deferred none))) := by simp [retD]
theorem fnP_ret0 {R : Ending → World → Prop} : fnP P #[] R .ret e w = retD P e.ds (fun w => R (.returned (.tuple #[])) w) w := by simp [fnP, fin0]
theorem fnP_ret1 {t : Nat} {R : Ending → World → Prop} : fnP P #[.tmp t] R .ret e w = retD P e.ds (fun w => R (.returned (e.ρ t)) w) w := by simp [fnP, fin1]
theorem fnP_ret2 {t u : Nat} {R : Ending → World → Prop} : fnP P #[.tmp t, .tmp u] R .ret e w = retD P e.ds (fun w => R (.returned (.tuple #[e.ρ t, e.ρ u])) w) w := by simp [fnP, fin2]
theorem fnP_ret3 {t u v : Nat} {R : Ending → World → Prop} : fnP P #[.tmp t, .tmp u, .tmp v] R .ret e w = retD P e.ds (fun w => R (.returned (.tuple #[e.ρ t, e.ρ u, e.ρ v])) w) w := by simp [fnP, fin3]
theorem run_loadVar_cell {T : TypeId} {a : Addr} {v : Value} (hs : aggSz P T = some none) (hv : w.cell? a = some v) : (loadVar T a).run P w = .ok v w := by
  simp only [loadVar, Sem.run_bind, run_isAgg hs, Result.andThen_ok, Option.isSome_none, Bool.false_eq_true, if_false, run_load, hv]
theorem run_loadVar_row {T : TypeId} {n : Nat} {a : Addr} {v : Value} (hs : aggSz P T = some (some n)) (hv : rowV w a n = some v) : (loadVar T a).run P w = .ok v w := by
  obtain ⟨l, hl, rfl⟩ := Option.map_eq_some_iff.1 hv
  obtain ⟨i, hi, rfl⟩ := aggSz_info hs
  have := run_cellsFrom (P := P) i.size 0 w a l #[] hl
  simp only [loadVar, Sem.run_bind, Sem.run_pure, Result.andThen_ok, run_isAgg hs, Option.isSome_some, if_true, run_sizeOf' hi, loadCells, this]
  simp
/-- Results that lie in cells. -/
def resC (P : Program) (rs : Array ResultVar) (e : FA) (R : Ending → World → Prop) (w : World) : Prop := ∃ v, (resF rs e).run P w = .ok v w ∧ R (.returned v) w
theorem fnP_retC {x : Nat} {T : TypeId} {R : Ending → World → Prop} : fnP P #[.cell x T] R .ret e w = retD P e.ds (fun w => resC P #[.cell x T] e R w) w := rfl
theorem fnP_retC1 {x : Nat} {T : TypeId} {u : Nat} {R : Ending → World → Prop} : fnP P #[.cell x T, .tmp u] R .ret e w = retD P e.ds (fun w => resC P #[.cell x T, .tmp u] e R w) w := rfl
theorem resC_1 {x : Nat} {T : TypeId} {a : Addr} {v : Value} {R : Ending → World → Prop} (hx : e.ρ x = .pointer (some a)) (hv : (loadVar T a).run P w = .ok v w) (h : R (.returned v) w) : resC P #[.cell x T] e R w :=
  ⟨v, by simp [resF, hx, asAddr, hv], h⟩
theorem resC_2 {x : Nat} {T : TypeId} {u : Nat} {a : Addr} {v : Value} {R : Ending → World → Prop} (hx : e.ρ x = .pointer (some a)) (hv : (loadVar T a).run P w = .ok v w) (h : R (.returned (.tuple #[v, e.ρ u])) w) : resC P #[.cell x T, .tmp u] e R w :=
  ⟨.tuple #[v, e.ρ u], by simp [resF, hx, asAddr, hv], h⟩
theorem fnP_retC2 {x : Nat} {T : TypeId} {u u2 : Nat} {R : Ending → World → Prop} : fnP P #[.cell x T, .tmp u, .tmp u2] R .ret e w = retD P e.ds (fun w => resC P #[.cell x T, .tmp u, .tmp u2] e R w) w := rfl
theorem resC_3 {x : Nat} {T : TypeId} {u u2 : Nat} {a : Addr} {v : Value} {R : Ending → World → Prop} (hx : e.ρ x = .pointer (some a)) (hv : (loadVar T a).run P w = .ok v w) (h : R (.returned (.tuple #[v, e.ρ u, e.ρ u2])) w) : resC P #[.cell x T, .tmp u, .tmp u2] e R w :=
  ⟨.tuple #[v, e.ρ u, e.ρ u2], by simp [resF, hx, asAddr, hv], h⟩
theorem fnP_nor0 {R : Ending → World → Prop} : fnP P #[] R .normal e w = retD P e.ds (fun w => R (.returned (.tuple #[])) w) w := by simp [fnP, fin0]
theorem fnP_panic {rs : Array ResultVar} {R : Ending → World → Prop} {c : List PanicEntry} : fnP P rs R (.panic c) e w = retD P e.ds (fun w => R (.panicked c) w) w := rfl

end

theorem cellsFrom_z {w : World} {a : Addr} {i : Nat} : cellsFrom w a i 0 = some [] := rfl
theorem cellsFrom_s {w : World} {a : Addr} {i n : Nat} : cellsFrom w a i (n + 1) = (w.cell? (a.add i)).bind fun v => (cellsFrom w a (i + 1) n).map fun l => v :: l := by
  simp only [cellsFrom]
  cases w.cell? (a.add i) <;> cases cellsFrom w a (i + 1) n <;> rfl
theorem rowV_def {w : World} {a : Addr} {n : Nat} : rowV w a n = (cellsFrom w a 0 n).map fun l => .agg l.toArray := rfl
theorem bind_some' {α β : Type} {x : α} {f : α → Option β} : (some x).bind f = f x := rfl
theorem map_some2 {α β : Type} {x : α} {f : α → β} : Option.map f (some x) = some (f x) := rfl

/-- A loop, by what holds at each round's head and what each round lowers. -/
theorem loop_intro {P : Program} {c : Cd} {Q : Post} {e : FA} {w : World} {θ : Tag ((.loop c : Cd), Q, e, w)} (I : FA → World → Prop) (μ : FA → World → Nat) (h0 : I e w) (h1 : ∀ e w, I e w → cwE P c (loopP I μ e w Q) e w) : cwE P (.loop c) Q e w θ :=
  ⟨I, μ, h0, h1⟩

theorem onV_of {o : Option Value} {v : Value} {K : Value → Prop} {θ : Tag K} (h : o = some v) (hK : K v) : onV o K θ := ⟨v, h, hK⟩

/-- For 'gvo': what omega decides. -/
theorem reqD_of {p A : Prop} {θ : Tag A} (h : p) : reqD p A θ = A := by simp [reqD, h]
theorem dec_t {p : Prop} [Decidable p] (h : p) : decide p = true := by simp [h]
theorem dec_f {p : Prop} [Decidable p] (h : ¬ p) : decide p = false := by simp [h]

theorem wrap_i64 {n : Int} (h1 : -9223372036854775808 ≤ n) (h2 : n < 9223372036854775808) : IntKind.i64.wrap n = n := by
  have : IntKind.i64.bits = 64 := rfl
  have hs : IntKind.i64.signed = true := rfl
  simp only [IntKind.wrap, this, hs]
  simp only [Bool.true_and, decide_eq_true_eq]
  omega
theorem wrap_u32 {n : Int} (h1 : 0 ≤ n) (h2 : n < 4294967296) : IntKind.u32.wrap n = n := by
  have : IntKind.u32.bits = 32 := rfl
  have hs : IntKind.u32.signed = false := rfl
  simp only [IntKind.wrap, this, hs]
  simp only [Bool.false_and, Bool.false_eq_true, if_false]
  omega
theorem wrap_u64 {n : Int} (h1 : 0 ≤ n) (h2 : n < 18446744073709551616) : IntKind.u64.wrap n = n := by
  have : IntKind.u64.bits = 64 := rfl
  have hs : IntKind.u64.signed = false := rfl
  simp only [IntKind.wrap, this, hs]
  simp only [Bool.false_and, Bool.false_eq_true, if_false]
  omega
theorem wrap_u8 {n : Int} (h1 : 0 ≤ n) (h2 : n < 256) : IntKind.u8.wrap n = n := by
  have : IntKind.u8.bits = 8 := rfl
  have hs : IntKind.u8.signed = false := rfl
  simp only [IntKind.wrap, this, hs]
  simp only [Bool.false_and, Bool.false_eq_true, if_false]
  omega

attribute [go_sem] FA.ev_tmp
attribute [go_sem] FA.ρ_put
attribute [go_sem] FA.put_none
attribute [go_sem] FA.ev_const
attribute [go_sem] FA.ev_global
attribute [go_sem] FA.ev_func
attribute [go_sem] FA.ds_put
attribute [go_sem] entry_ds
attribute [go_sem] gd_none
attribute [go_sem] gd_some
attribute [go_sem] yb_bool
attribute [go_sem] gdD_true
attribute [go_sem] gdD_false
attribute [go_sem] onV_some
attribute [go_sem] reqD_true
attribute [go_sem] idxD_slice
attribute [go_sem] idxD_array
attribute [go_sem] sliceD_slice
attribute [go_sem] sliceD_array
attribute [go_sem] sliceD_slice3
attribute [go_sem] onII_some
attribute [go_sem] Option.isNone_none
attribute [go_sem] Option.isNone_some
attribute [go_sem] idxV_string
attribute [go_sem] idxV_array
attribute [go_sem] loadD_cell
attribute [go_sem] loadD_row
attribute [go_sem] allocD_some
attribute [go_sem] condD_bool
attribute [go_sem ↓] reduceIte
attribute [go_sem] if_true
attribute [go_sem] if_false
attribute [go_sem] decide_true
attribute [go_sem] decide_false
attribute [go_sem] Nat.reduceEqDiff
attribute [go_sem] Bool.not_true
attribute [go_sem] Bool.not_false
attribute [go_sem] reduceCtorEq
attribute [go_sem] Bool.true_and
attribute [go_sem] Bool.and_true
attribute [go_sem] Bool.false_eq_true
attribute [go_sem] List.map_toArray
attribute [go_sem] List.map_cons
attribute [go_sem] List.map_nil
attribute [go_sem] List.getElem?_toArray
attribute [go_sem] List.getElem?_cons_zero
attribute [go_sem] List.getElem?_cons_succ
attribute [go_sem] not_true
attribute [go_sem] not_false_eq_true
attribute [go_sem] true_and
attribute [go_sem] and_true
attribute [go_sem] Nat.reduceAdd
attribute [go_sem] Nat.zero_add
attribute [go_sem] Nat.add_zero
attribute [go_sem] eq_self
attribute [go_sem] Int.reduceMul
attribute [go_sem] Int.reduceAdd
attribute [go_sem] Int.reduceSub
attribute [go_sem] Int.reduceLT
attribute [go_sem] Int.reduceLE
attribute [go_sem] Int.reduceEq
attribute [go_sem] Int.reduceToNat
attribute [go_sem] Int.reduceNeg
attribute [go_sem] Nat.reduceLT
attribute [go_sem] Nat.reduceDiv
attribute [go_sem] Nat.reduceMod
attribute [go_sem] Nat.reduceMul
attribute [go_sem] Nat.reduceSub
attribute [go_sem] Nat.reduceLeDiff
attribute [go_sem] Nat.reduceBEq
attribute [go_sem] false_and
attribute [go_sem] and_false
attribute [go_sem] false_or
attribute [go_sem] or_false
attribute [go_sem] true_or
attribute [go_sem] or_true
attribute [go_sem] Value.int.injEq
attribute [go_sem] Ending.returned.injEq
attribute [go_sem] Value.bool.injEq
attribute [go_sem] Value.slice.injEq
attribute [go_sem] Value.pointer.injEq
attribute [go_sem] Option.some.injEq
attribute [go_sem] Bool.false_and
attribute [go_sem] Bool.and_false
attribute [go_sem] Bool.and_self
attribute [go_sem] Bool.true_or
attribute [go_sem] Bool.false_or
attribute [go_sem] and_self
attribute [go_sem] Int.lt_irrefl
attribute [go_sem] Int.le_refl
attribute [go_sem] IntKind.bits
attribute [go_sem] Int.cast_ofNat_Int
attribute [go_sem] Int.toNat_zero
attribute [go_sem] Int.toNat_one
attribute [go_sem] Int.toNat_natCast
attribute [go_sem] Nat.zero_mul
attribute [go_sem] Nat.mul_one
attribute [go_sem] Nat.min_def
attribute [go_sem] Nat.reduceLeDiff
attribute [go_sem] Nat.reducePow
attribute [go_sem] Int.reducePow
attribute [go_sem] slcD_some
attribute [go_sem] slcD_str
attribute [go_sem] strSliceD_str
attribute [go_sem] cwE_skip
attribute [go_sem] cwE_exit
attribute [go_sem] cwE_ret
attribute [go_sem] cwE_seq
attribute [go_sem] cwE_cond
attribute [go_sem] cwE_block
attribute [go_sem] cwE_regf
attribute [go_sem] cwE_regt
attribute [go_sem] cwE_scope
attribute [go_sem] cwE_label
attribute [go_sem ↓] scopeP_normal
attribute [go_sem ↓] scopeP_ret
attribute [go_sem ↓] scopeP_exit
attribute [go_sem ↓] scopeP_panic
attribute [go_sem ↓] onlyP_normal
attribute [go_sem] cwRE_skip
attribute [go_sem] cwRE_exit
attribute [go_sem] cwRE_ret
attribute [go_sem] cwRE_seq
attribute [go_sem] cwRE_cond
attribute [go_sem] cwRE_block
attribute [go_sem] cwRE_scope
attribute [go_sem] cwRE_regf
attribute [go_sem] cwRE_regt
attribute [go_sem ↓] thenP_cw
attribute [go_sem ↓] thenP_cwR
attribute [go_sem ↓] thenP_ret
attribute [go_sem ↓] thenP_exit
attribute [go_sem ↓] thenP_panic
attribute [go_sem ↓] blockP_normal
attribute [go_sem ↓] blockP_ret
attribute [go_sem ↓] blockP_panic
attribute [go_sem ↓] blockP_exit
attribute [go_sem ↓] loopP_normal
attribute [go_sem ↓] loopP_ret
attribute [go_sem ↓] loopP_panic
attribute [go_sem ↓] loopP_exit
attribute [go_sem] owE_nil
attribute [go_sem] owE_pure
attribute [go_sem] owE_read
attribute [go_sem] owE_eff
attribute [go_sem] owE_dyn
attribute [go_sem] dwE_nil
attribute [go_sem] dwE_pure
attribute [go_sem] dwE_read
attribute [go_sem] dwE_eff
attribute [go_sem] cwE_tree
attribute [go_sem] cwRE_tree
attribute [go_sem] dwTE_done
attribute [go_sem] dwTE_stop
attribute [go_sem] dwTE_alt
attribute [go_sem] dwTE_pure
attribute [go_sem] dwTE_read
attribute [go_sem] dwTE_eff
attribute [go_sem] alive_nil
attribute [go_sem] retK_returned
attribute [go_sem] retK_panicked
attribute [go_sem] alive_cons
attribute [go_sem] chkD_nil
attribute [go_sem] chkD_cons
attribute [go_sem] pureWE_move
attribute [go_sem] pureWE_assign
attribute [go_sem] pureWE_pick
attribute [go_sem] pureWE_nilCheck
attribute [go_sem] pureWE_unOp
attribute [go_sem] pureWE_convert
attribute [go_sem] pureWE_fieldAddr
attribute [go_sem] pureWE_field
attribute [go_sem] pureWE_indexAddr
attribute [go_sem] pureWE_index
attribute [go_sem] pureWE_extract
attribute [go_sem] pureWE_slice
attribute [go_sem] pureWE_build
attribute [go_sem] pureWE_makeFunc
attribute [go_sem] pureWE_call
attribute [go_sem] pureWE_binOp
attribute [go_sem] binW_int
attribute [go_sem] binW_bool
attribute [go_sem] binW_string
attribute [go_sem] binW_slice
attribute [go_sem] binW_map
attribute [go_sem] binW_func
attribute [go_sem] binW_nilFunc
attribute [go_sem] binW_agg
attribute [go_sem] binW_iface
attribute [go_sem] binW_nilIface
attribute [go_sem] binW_nilp
attribute [go_sem] binW_ptrN
attribute [go_sem] binW_ptr
attribute [go_sem] pureE_move
attribute [go_sem] pureE_assign
attribute [go_sem] pureE_pick
attribute [go_sem] pureE_nilCheck
attribute [go_sem] pureE_binOp
attribute [go_sem] pureE_unOp
attribute [go_sem] pureE_convert
attribute [go_sem] pureE_fieldAddr
attribute [go_sem] pureE_field
attribute [go_sem] pureE_indexAddr
attribute [go_sem] pureE_index
attribute [go_sem] pureE_extract
attribute [go_sem] pureE_slice
attribute [go_sem] pureE_build
attribute [go_sem] pureE_makeFunc
attribute [go_sem] pureE_len
attribute [go_sem] pureE_cap
attribute [go_sem] pureE_min
attribute [go_sem] pureE_max
attribute [go_sem] readE_load
attribute [go_sem] readE_lookup
attribute [go_sem] readE_entry
attribute [go_sem] readE_typeAssert
attribute [go_sem] readE_makeInterface
attribute [go_sem] readE_convert
attribute [go_sem] readE_len
attribute [go_sem] effE_store
attribute [go_sem] effE_alloc
attribute [go_sem] effE_box
attribute [go_sem] effE_buildSlice
attribute [go_sem] effE_makeSlice
attribute [go_sem] effE_makeMap
attribute [go_sem] effE_mapUpdate
attribute [go_sem] effE_insert
attribute [go_sem] effE_range
attribute [go_sem] effE_next
attribute [go_sem] effE_convert
attribute [go_sem] effE_append
attribute [go_sem] effE_copy
attribute [go_sem] effE_delete
attribute [go_sem] effE_clear
attribute [go_sem] effE_call
attribute [go_sem] effE_invoke
attribute [go_sem] effE_defer
attribute [go_sem] effE_panic
attribute [go_sem] callD_func
attribute [go_sem] callY_func
attribute [go_sem] callY_yield
attribute [go_sem] binV_add
attribute [go_sem] binV_sub
attribute [go_sem] binV_mul
attribute [go_sem] binV_quo
attribute [go_sem] binV_rem
attribute [go_sem] binV_and
attribute [go_sem] binV_or
attribute [go_sem] binV_xor
attribute [go_sem] binV_eql
attribute [go_sem] binV_neq
attribute [go_sem] binV_lss
attribute [go_sem] binV_leq
attribute [go_sem] binV_gtr
attribute [go_sem] binV_geq
attribute [go_sem] binV_shl
attribute [go_sem] binV_shr
attribute [go_sem] binV_beql
attribute [go_sem] binV_bneq
attribute [go_sem] binV_aeql
attribute [go_sem] binV_aneq
attribute [go_sem] aggEq_lists
attribute [go_sem] leafEq_nils
attribute [go_sem] leafEq_ints
attribute [go_sem] leafEq_bools
attribute [go_sem] leafEq_strs
attribute [go_sem] binV_peql
attribute [go_sem] binV_pneq
attribute [go_sem] binV_leql
attribute [go_sem] binV_lneq
attribute [go_sem] binV_feql
attribute [go_sem] binV_fneq
attribute [go_sem] binV_neql
attribute [go_sem] binV_meql
attribute [go_sem] eqV_bool
attribute [go_sem] eqV_ptr
attribute [go_sem] eqV_ptr2
attribute [go_sem] eqV_slice
attribute [go_sem] eqV_map
attribute [go_sem] eqV_func
attribute [go_sem] eqV_nilfunc
attribute [go_sem] binV_seql
attribute [go_sem] binV_sneq
attribute [go_sem] unV_not
attribute [go_sem] unV_neg
attribute [go_sem] convV_int
attribute [go_sem] convV_rune
attribute [go_sem] fieldV_some
attribute [go_sem] fldV_agg
attribute [go_sem] partV_cell
attribute [go_sem] partV_row
attribute [go_sem] nilV_ptr
attribute [go_sem] nilV_func
attribute [go_sem] nilV_yield
attribute [go_sem] pickV_true
attribute [go_sem] pickV_false
attribute [go_sem] tupV_tup
attribute [go_sem] lenV_slice
attribute [go_sem] lenV_string
attribute [go_sem] lenV_array
attribute [go_sem] capV_slice
attribute [go_sem] minV_int
attribute [go_sem] maxV_int
attribute [go_sem] bnd_none
attribute [go_sem] bnd_int
attribute [go_sem] add_lit
attribute [go_sem] some_beq_true
attribute [go_sem] some_beq_false
attribute [go_sem] undef_yb
attribute [go_sem] none_beq
attribute [go_sem] map_none'
attribute [go_sem] map_some'
attribute [go_sem] entry_ρl
attribute [go_sem] getD0
attribute [go_sem] getDs
attribute [go_sem] getDn
attribute [go_sem] retD_nil
attribute [go_sem ↓] fnP_ret0
attribute [go_sem ↓] fnP_ret1
attribute [go_sem ↓] fnP_ret2
attribute [go_sem ↓] fnP_ret3
attribute [go_sem ↓] fnP_retC
attribute [go_sem ↓] fnP_retC1
attribute [go_sem ↓] fnP_retC2
attribute [go_sem ↓] fnP_nor0
attribute [go_sem ↓] fnP_panic
attribute [go_sem] cellsFrom_z
attribute [go_sem] cellsFrom_s
attribute [go_sem] rowV_def
attribute [go_sem] bind_some'
attribute [go_sem] map_some2
attribute [go_sem] thenP_normal

end Go.Proofs.YtacmnfpgimgigaaGreat
