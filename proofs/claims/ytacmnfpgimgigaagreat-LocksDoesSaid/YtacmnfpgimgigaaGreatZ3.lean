/- The engine's third part: what each operation asks, so spelt that 'simp only' evaluates it from the front; and that it suffices. -/
import Derived.Test.YtacmnfpgimgigaaGreatZ1
import Derived.Test.YtacmnfpgimgigaaGreatZ2
import Derived.Laws.StructEq
import Derived.ChangeKeysEq
namespace Go.Proofs.YtacmnfpgimgigaaGreat
open Go

/-! ### Frames: what is asked is looked at, what follows is not -/

/-- A mark on what 'simp' shall pass by: an argument on which another one's type depends is left as it is. -/
structure Tag {α : Type} (a : α) : Type where

def onV (o : Option Value) (K : Value → Prop) (_t : Tag K := ⟨⟩) : Prop := ∃ v, o = some v ∧ K v
theorem onV_some (v : Value) (K : Value → Prop) (t : Tag K) : onV (some v) K t = K v := by simp [onV]

def reqD (p : Prop) (A : Prop) (_t : Tag A := ⟨⟩) : Prop := p ∧ A
theorem reqD_true (A : Prop) (t : Tag A) : reqD True A t = A := by simp [reqD]

def gdD (b : Bool) (A B : Prop) (_t : Tag (A, B) := ⟨⟩) : Prop := if b = true then A else B
theorem gdD_true (A B : Prop) (t : Tag (A, B)) : gdD true A B t = A := rfl
theorem gdD_false (A B : Prop) (t : Tag (A, B)) : gdD false A B t = B := rfl

theorem FA.ev_put (e : FA) (d : Nat) (v : Value) (t : Nat) : (e.put (some d) v).ev (.tmp t) = if t = d then v else e.ev (.tmp t) := rfl
theorem FA.ρ_put (e : FA) (d : Nat) (v : Value) (t : Nat) : (e.put (some d) v).ρ t = if t = d then v else e.ρ t := rfl
theorem FA.put_none (e : FA) (v : Value) : e.put none v = e := rfl
theorem FA.ev_tmp (e : FA) (t : Nat) : e.ev (.tmp t) = e.ρ t := rfl
theorem FA.ev_const (e : FA) (v : Value) : e.ev (.const v) = v := rfl
theorem FA.ev_global (e : FA) (g : Nat) : e.ev (.global g) = .pointer (some ⟨g, 0, .none⟩) := rfl
theorem FA.ev_func (e : FA) (f : Nat) : e.ev (.func f) = .func (.func f) #[] #[] := rfl
theorem FA.ds_put (e : FA) (d : Option Nat) (v : Value) : (e.put d v).ds = e.ds := by cases d <;> rfl
theorem entry_ev (args : Array Value) (t : Nat) : (entry args).ev (.tmp t) = args.getD t undef := rfl
theorem entry_ρ (args : Array Value) (t : Nat) : (entry args).ρ t = args.getD t undef := rfl
theorem entry_ds (args : Array Value) : (entry args).ds = [] := rfl
theorem gd_none (e : FA) : gd e none = true := rfl
theorem gd_some (e : FA) (s : Nat) (b : Bool) : gd e (some (s, b)) = (yb (e.ρ s) == some b) := rfl
theorem yb_bool (b : Bool) : yb (.bool b) = some b := rfl

/-! ### Values -/

def intV (op : BinOp) (k : IntKind) (a b : Int) : Option Value :=
  match op with
  | .add => some (.int k (k.wrap (a + b)))
  | .sub => some (.int k (k.wrap (a - b)))
  | .mul => some (.int k (k.wrap (a * b)))
  | .quo => if b = 0 then none else some (.int k (k.wrap (a.tdiv b)))
  | .rem => if b = 0 then none else some (.int k (a.tmod b))
  | .and => some (.int k (k.wrap (BitVec.ofInt k.bits a &&& BitVec.ofInt k.bits b).toNat))
  | .or => some (.int k (k.wrap (BitVec.ofInt k.bits a ||| BitVec.ofInt k.bits b).toNat))
  | .xor => some (.int k (k.wrap (BitVec.ofInt k.bits a ^^^ BitVec.ofInt k.bits b).toNat))
  | .andNot => some (.int k (k.wrap (BitVec.ofInt k.bits a &&& ~~~BitVec.ofInt k.bits b).toNat))
  | .eql => some (.bool (a == b))
  | .neq => some (.bool (a != b))
  | .lss => some (.bool (a < b))
  | .leq => some (.bool (a ≤ b))
  | .gtr => some (.bool (a > b))
  | .geq => some (.bool (a ≥ b))
  | _ => none

def shV (op : BinOp) (k : IntKind) (a b : Int) : Option Value :=
  if b < 0 then none else
  match op with
  | .shl => some (.int k (k.wrap (a * 2 ^ (min b.toNat k.bits))))
  | .shr => some (.int k (a.fdiv (2 ^ (min b.toNat k.bits))))
  | _ => none

def strV (op : BinOp) (x y : ByteArray) : Option Value :=
  match op with
  | .add => if x.size + y.size ≤ 9223372036854775807 then some (.string (x ++ y)) else none
  | .eql => some (.bool (x.toList == y.toList))
  | .neq => some (.bool !(x.toList == y.toList))
  | .lss => some (.bool (Op.bytesLess x.toList y.toList))
  | .leq => some (.bool (Op.bytesLess x.toList y.toList || x.toList == y.toList))
  | .gtr => some (.bool !(Op.bytesLess x.toList y.toList || x.toList == y.toList))
  | .geq => some (.bool !(Op.bytesLess x.toList y.toList))
  | _ => none

/-- Equality where it looks at no memory. -/
def eqV (u : Option TypeDesc) (x y : Value) : Option Bool :=
  match u, x, y with
  | some .bool, .bool a, .bool b => some (a == b)
  | some (.pointer _), .pointer none, .pointer b => some b.isNone
  | some (.pointer _), .pointer (some _), .pointer none => some false
  | some (.slice _), .slice none _ _, .slice b _ _ => some b.isNone
  | some (.slice _), .slice (some _) _ _, .slice none _ _ => some false
  | some (.map _ _), .map none, .map b => some b.isNone
  | some (.map _ _), .map (some _), .map none => some false
  | some (.func _ _ _), .nilFunc, .nilFunc => some true
  | some (.func _ _ _), .nilFunc, .func _ _ _ => some false
  | some (.func _ _ _), .func _ _ _, .nilFunc => some false
  | some (.interface ms), .nilIface, .nilIface => if ms.isEmpty then some true else none
  | some (.interface _), .nilIface, .iface _ _ => some false
  | some (.interface _), .iface _ _, .nilIface => some false
  | _, _, _ => none

/-! ### Rows of plain cells are compared cell by cell -/

inductive Leaf where
  | int | bool | str

def flatFs (P : Program) (flat : TypeId → Option (List Leaf)) : List Field → Nat → Option (List Leaf)
  | [], _ => some []
  | f :: fs, off =>
    if f.name = "_" ∨ f.offset ≠ off then none else
      match flat f.type with
      | none => none
      | some ks => if (P.info? f.type).map (·.size) = some ks.length then (flatFs P flat fs (off + ks.length)).map (ks ++ ·) else none

def flatK (P : Program) : Nat → TypeId → Option (List Leaf)
  | 0, _ => none
  | d + 1, T =>
    match P.underlying T with
    | some (.int _) => some [.int]
    | some .bool => some [.bool]
    | some .string => some [.str]
    | some (.struct fs) => if P.stoodInHeld T = true then none else flatFs P (flatK P d) fs.toList 0
    | _ => none

def flatE (P : Program) (T : TypeId) : Option (List Leaf) :=
  match P.underlying T with
  | some (.struct _) => if P.eqGuardType P.depth T = true then none else flatK P 20 T
  | _ => none

def leafEq : List Leaf → List Value → List Value → Option Bool
  | [], [], [] => some true
  | .int :: ks, .int k a :: xs, .int k' b :: ys => if k = k' then (leafEq ks xs ys).map (decide (a = b) && ·) else none
  | .bool :: ks, .bool a :: xs, .bool b :: ys => (leafEq ks xs ys).map ((a == b) && ·)
  | .str :: ks, .string a :: xs, .string b :: ys => (leafEq ks xs ys).map ((a.toList == b.toList) && ·)
  | _, _, _ => none

def aggEq (ks : Option (List Leaf)) (xs ys : Array Value) : Option Bool := ks.bind fun ks => leafEq ks xs.toList ys.toList

def binV (P : Program) (op : BinOp) (T : TypeId) (x y : Value) : Option Value :=
  match x, y with
  | .int k a, .int k' b => match op with
    | .shl => shV op k a b
    | .shr => shV op k a b
    | op => if k = k' then intV op k a b else none
  | .string a, .string b => strV op a b
  | .agg xs, .agg ys => match op with
    | .eql => (aggEq (flatE P T) xs ys).map .bool
    | .neq => (aggEq (flatE P T) xs ys).map fun b => .bool !b
    | _ => none
  | x, y => match op with
    | .eql => (eqV (P.underlying T) x y).map .bool
    | .neq => (eqV (P.underlying T) x y).map fun b => .bool !b
    | _ => none

def unV (op : UnOp) (x : Value) : Option Value :=
  match op, x with
  | .neg, .int k n => some (.int k (k.wrap (0 - n)))
  | .not, .bool b => some (.bool !b)
  | _, _ => none

def convV (u v : Option TypeDesc) (x : Value) : Option Value :=
  match u, v, x with
  | some _, some (.int k), .int _ n => some (.int k (k.wrap n))
  | some .string, some .string, .string s => some (.string s)
  | some (.int _), some .string, .int _ n => some (.string (Utf8.encode n))
  | _, _, _ => none

/-- A field's place, of a type that has cells. -/
def fieldOff (P : Program) (T : TypeId) (i : Nat) : Option Nat :=
  match P.underlying T with
  | some (.struct fs) => match fs[i]? with
    | some f => match P.info? f.type with
      | some t => if t.size = 0 then none else some f.offset
      | none => none
    | none => none
  | _ => none

def fieldV (off : Option Nat) (x : Value) : Option Value :=
  match off, x with
  | some o, .pointer (some a) => some (.pointer (some (a.add o)))
  | _, _ => none

/-- A field of a struct by value: its place, and how many cells if it is itself a row of cells. -/
def aggSz (P : Program) (T : TypeId) : Option (Option Nat) :=
  match P.underlying T, P.info? T with
  | some (.struct _), some t => some (some t.size)
  | some (.array _ _), some t => some (some t.size)
  | some _, some _ => some none
  | _, _ => none

def partV (sz : Option (Option Nat)) (off : Nat) (cs : Array Value) : Option Value :=
  match sz with
  | some (some n) => some (.agg (cs.extract off (off + n)))
  | some none => cs[off]?
  | none => none

def fieldTy (P : Program) (T : TypeId) (i : Nat) : Option (TypeId × Nat) :=
  match P.underlying T with
  | some (.struct fs) => (fs[i]?).map fun f => (f.type, f.offset)
  | _ => none

def nilV (x : Value) : Option Value :=
  match x with
  | .pointer (some a) => some (.pointer (some a))
  | .func (.func f) a b => some (.func (.func f) a b)
  | .func (.yield f) a b => some (.func (.yield f) a b)
  | .slice a b c => some (.slice a b c)
  | .iface t v => some (.iface t v)
  | .map r => some (.map r)
  | _ => none

def tupV (x : Value) (i : Nat) : Option Value :=
  match x with
  | .tuple vs => vs[i]?
  | _ => none

/-- The kind of an indexed thing: a slice's element's cells; an array's length and element's cells. -/
def elemOf? (P : Program) (T : TypeId) : Option (Option Nat × Nat) :=
  match P.underlying T with
  | some (.slice e) => (P.info? e).map fun t => (none, t.size)
  | some (.array n e) => (P.info? e).map fun t => (some n, t.size)
  | _ => none

def idxD (k : Option (Option Nat × Nat)) (x i : Value) (K : Value → Prop) (_t : Tag K := ⟨⟩) : Prop :=
  match k, x, i with
  | some (none, sz), .slice (some a) len _, .int _ i => reqD (0 ≤ i ∧ i < len) (K (.pointer (some (a.add (i.toNat * sz)))))
  | some (some n, sz), .pointer (some a), .int _ i => reqD (0 ≤ i ∧ i < n) (K (.pointer (some (a.add (i.toNat * sz)))))
  | _, _, _ => False
theorem idxD_slice (sz : Nat) (a : Addr) (len cap : Nat) (ki : IntKind) (i : Int) (K : Value → Prop) (t : Tag K) :
    idxD (some (none, sz)) (.slice (some a) len cap) (.int ki i) K t = reqD (0 ≤ i ∧ i < len) (K (.pointer (some (a.add (i.toNat * sz))))) := rfl
theorem idxD_array (n sz : Nat) (a : Addr) (ki : IntKind) (i : Int) (K : Value → Prop) (t : Tag K) :
    idxD (some (some n, sz)) (.pointer (some a)) (.int ki i) K t = reqD (0 ≤ i ∧ i < n) (K (.pointer (some (a.add (i.toNat * sz))))) := rfl

/-- An element by value: of a string, or of an array (its element's cells, and its shape). -/
def idxV (u : Option TypeDesc) (ex : Nat × Option (Option Nat)) (x i : Value) (K : Value → Prop) (_t : Tag K := ⟨⟩) : Prop :=
  match u, x, i with
  | some .string, .string s, .int _ i => reqD (0 ≤ i ∧ i < s.size) (K (.int .u8 ((s.data.toList.getD i.toNat 0).toNat : Int)))
  | some (.array n _), .agg cs, .int _ i => reqD (0 ≤ i ∧ i < n) (onV (partV ex.2 (i.toNat * ex.1) cs) K)
  | _, _, _ => False
theorem idxV_string (ex : Nat × Option (Option Nat)) (s : ByteArray) (k : IntKind) (i : Int) (K : Value → Prop) (t : Tag K) :
    idxV (some .string) ex (.string s) (.int k i) K t = reqD (0 ≤ i ∧ i < s.size) (K (.int .u8 ((s.data.toList.getD i.toNat 0).toNat : Int))) := rfl
theorem idxV_array (n el sz : Nat) (ag : Option (Option Nat)) (cs : Array Value) (k : IntKind) (i : Int) (K : Value → Prop) (t : Tag K) :
    idxV (some (.array n el)) (sz, ag) (.agg cs) (.int k i) K t = reqD (0 ≤ i ∧ i < n) (onV (partV ag (i.toNat * sz) cs) K) := rfl

/-- 'x[lo:hi]', 'x[lo:hi:max]': bounds that are not there are none. -/
def bnd (x : Option Value) (d : Nat) : Option Int :=
  match x with
  | none => some d
  | some (.int _ n) => some n
  | _ => none

def sliceD (k : Option (Option Nat × Nat)) (x : Value) (lo hi mx : Option Value) (K : Value → Prop) (_t : Tag K := ⟨⟩) : Prop :=
  match k, x, mx with
  | some (none, sz), .slice a len cap, none => match bnd lo 0, bnd hi len with
    | some l, some h => reqD (0 ≤ l ∧ l ≤ h ∧ h ≤ cap) (K (.slice (if cap = l.toNat then a else a.map (·.add (l.toNat * sz))) (h.toNat - l.toNat) (cap - l.toNat)))
    | _, _ => False
  | some (none, sz), .slice a len cap, some mx => match bnd lo 0, bnd hi len, bnd (some mx) cap with
    | some l, some h, some m => reqD (hi.isSome = true ∧ 0 ≤ l ∧ l ≤ h ∧ h ≤ m ∧ m ≤ cap) (K (.slice (if m.toNat = l.toNat then a else a.map (·.add (l.toNat * sz))) (h.toNat - l.toNat) (m.toNat - l.toNat)))
    | _, _, _ => False
  | some (some n, sz), .pointer (some a), none => match bnd lo 0, bnd hi n with
    | some l, some h => reqD (0 ≤ l ∧ l ≤ h ∧ h ≤ n) (K (.slice (some (if n = l.toNat then a else a.add (l.toNat * sz))) (h.toNat - l.toNat) (n - l.toNat)))
    | _, _ => False
  | _, _, _ => False
def onII (l h : Option Int) (K : Int → Int → Prop) (_t : Tag K := ⟨⟩) : Prop := ∃ a b, l = some a ∧ h = some b ∧ K a b
theorem onII_some (a b : Int) (K : Int → Int → Prop) (t : Tag K) : onII (some a) (some b) K t = K a b := by simp [onII]

theorem sliceD_slice (sz : Nat) (a : Option Addr) (len cap : Nat) (lo hi : Option Value) (K : Value → Prop) (t : Tag K) :
    sliceD (some (none, sz)) (.slice a len cap) lo hi none K t = onII (bnd lo 0) (bnd hi len) fun l h =>
      reqD (0 ≤ l ∧ l ≤ h ∧ h ≤ cap) (K (.slice (if cap = l.toNat then a else a.map (·.add (l.toNat * sz))) (h.toNat - l.toNat) (cap - l.toNat))) := by
  simp only [sliceD, onII]
  cases bnd lo 0 <;> cases bnd hi len <;> simp [reqD]
theorem sliceD_array (n sz : Nat) (a : Addr) (lo hi : Option Value) (K : Value → Prop) (t : Tag K) :
    sliceD (some (some n, sz)) (.pointer (some a)) lo hi none K t = onII (bnd lo 0) (bnd hi n) fun l h =>
      reqD (0 ≤ l ∧ l ≤ h ∧ h ≤ n) (K (.slice (some (if n = l.toNat then a else a.add (l.toNat * sz))) (h.toNat - l.toNat) (n - l.toNat))) := by
  simp only [sliceD, onII]
  cases bnd lo 0 <;> cases bnd hi n <;> simp [reqD]
theorem sliceD_slice3 (sz : Nat) (a : Option Addr) (len cap : Nat) (lo hi : Value) (m : Int) (k : IntKind) (K : Value → Prop) (t : Tag K) :
    sliceD (some (none, sz)) (.slice a len cap) (some lo) (some hi) (some (.int k m)) K t = onII (bnd (some lo) 0) (bnd (some hi) len) fun l h =>
      reqD (0 ≤ l ∧ l ≤ h ∧ h ≤ m ∧ m ≤ cap) (K (.slice (if m.toNat = l.toNat then a else a.map (·.add (l.toNat * sz))) (h.toNat - l.toNat) (m.toNat - l.toNat))) := by
  simp only [sliceD, onII, bnd]
  cases lo <;> cases hi <;> simp [reqD]

def strSliceD (x : Value) (lo hi : Option Value) (K : Value → Prop) (_t : Tag K := ⟨⟩) : Prop :=
  match x with
  | .string s => match bnd lo 0, bnd hi s.size with
    | some l, some h => reqD (0 ≤ l ∧ l ≤ h ∧ h ≤ s.size) (K (.string (s.extract l.toNat h.toNat)))
    | _, _ => False
  | _ => False

def lenV (u : Option TypeDesc) (x : Value) : Option Value :=
  match u, x with
  | some .string, .string s => some (.int .i64 s.size)
  | some (.slice _), .slice _ n _ => some (.int .i64 n)
  | some (.array n _), _ => some (.int .i64 n)
  | _, _ => none

def capV (u : Option TypeDesc) (x : Value) : Option Value :=
  match u, x with
  | some (.slice _), .slice _ _ n => some (.int .i64 n)
  | _, _ => none

def minV (x y : Value) : Option Value :=
  match x, y with
  | .int k a, .int _ b => some (.int k (if b < a then b else a))
  | _, _ => none

def maxV (x y : Value) : Option Value :=
  match x, y with
  | .int k a, .int _ b => some (.int k (if a < b then b else a))
  | _, _ => none

def pickV (c a b : Value) : Option Value :=
  match c with
  | .bool t => some (if t = true then a else b)
  | _ => none

def fldV (P : Program) (f : Option (TypeId × Nat)) (x : Value) : Option Value :=
  match f, x with
  | some (t, off), .agg cs => partV (aggSz P t) off cs
  | _, _ => none

/-- A type's zero cells, and where its parts lie. -/
def bldP (P : Program) (T : TypeId) : Option (List Value × Option (List (Nat × Nat)) × Nat) :=
  match P.info? T, P.underlying T with
  | some it, some (.array _ el) =>
    match it.zero, P.info? el with
    | some z, some ie => some (z.cells.toList, none, ie.size)
    | _, _ => none
  | some it, some (.struct fields) =>
    match it.zero, fields.toList.mapM (fun f => (P.info? f.type).map fun i => (f.offset, i.size)) with
    | some z, some places => some (z.cells.toList, some places, 0)
    | _, _ => none
  | _, _ => none

def plc (x : Option (List (Nat × Nat)) × Nat) (i : Nat) : Option (Nat × Nat) :=
  match x.1 with
  | some ps => ps[i]?
  | none => some (i * x.2, x.2)

def setRowL (cs : List Value) (off : Nat) : List Value → List Value
  | [] => cs
  | v :: l => setRowL (cs.set off v) (off + 1) l

/-- As 'Instr.fill', on lists. -/
def fillL (place : Nat → Option (Nat × Nat)) (cells : List Value) : List (Nat × Value) → Option (List Value)
  | [] => some cells
  | (i, v) :: rest =>
    match place i with
    | none => none
    | some (off, size) => if v.cells.size ≠ size ∨ off + v.cells.size > cells.length then none else fillL place (setRowL cells off v.cells.toList) rest

def bldV (x : Option (List Value × Option (List (Nat × Nat)) × Nat)) (parts : List (Nat × Value)) : Option Value :=
  match x with
  | some (z, p) => (fillL (plc p) z parts).map fun l => .agg l.toArray
  | none => none

def arrEx (P : Program) (T : TypeId) : Nat × Option (Option Nat) :=
  match P.underlying T with
  | some (.array _ el) => (P.cellsOf el, aggSz P el)
  | _ => (0, none)

/-- What an operation asks that does not look at the world. -/
def pureD (P : Program) (o : Oper) (e : FA) (K : Value → Prop) : Prop :=
  match o.op with
  | .move x => K (e.ev x)
  | .assign x => K (e.ev x)
  | .pick c a b => onV (pickV (e.ev c) (e.ev a) (e.ev b)) K
  | .nilCheck x => onV (nilV (e.ev x)) K
  | .binOp op T x y _ => onV (binV P op T (e.ev x) (e.ev y)) K
  | .unOp op _ x => onV (unV op (e.ev x)) K
  | .convert s d x => onV (convV (P.underlying s) (P.underlying d) (e.ev x)) K
  | .fieldAddr T x i => onV (fieldV (fieldOff P T i) (e.ev x)) K
  | .field T x i => onV (fldV P (fieldTy P T i) (e.ev x)) K
  | .indexAddr T x i => idxD (elemOf? P T) (e.ev x) (e.ev i) K
  | .index T x i => idxV (P.underlying T) (arrEx P T) (e.ev x) (e.ev i) K
  | .extract x i => onV (tupV (e.ev x) i) K
  | .slice T x lo hi mx => match P.underlying T with
    | some .string => mx = none ∧ strSliceD (e.ev x) (lo.map e.ev) (hi.map e.ev) K
    | _ => sliceD (elemOf? P T) (e.ev x) (lo.map e.ev) (hi.map e.ev) (mx.map e.ev) K
  | .build T ps => onV (bldV (bldP P T) (ps.toList.map fun p => (p.1, e.ev p.2))) K
  | .makeFunc f first cap => K (.func f (first.map e.ev) (cap.map e.ev))
  | .call { callee := .builtin b, args, argTypes } => match b, args.toList, argTypes[0]? with
    | .len, [x], some t => onV (lenV (P.underlying t) (e.ev x)) K
    | .cap, [x], some t => onV (capV (P.underlying t) (e.ev x)) K
    | .min, [x, y], _ => onV (minV (e.ev x) (e.ev y)) K
    | .max, [x, y], _ => onV (maxV (e.ev x) (e.ev y)) K
    | _, _, _ => False
  | _ => False

section sound
variable {P : Program}

theorem run_underlying' {T : TypeId} {d : TypeDesc} (h : P.underlying T = some d) (w : World) : (underlying T).run P w = .ok d w := by
  simp [underlying, program, Sem.run, h, go_sem]

theorem onV_ex {o : Option Value} {K : Value → Prop} (h : onV o K) : ∃ v, o = some v ∧ K v := h

theorem run_intV {op : BinOp} {k : IntKind} {a b : Int} {v : Value} (h : intV op k a b = some v) (T : TypeId) (w : World) : (binOp op T (.int k a) (.int k b)).run P w = .ok v w := by
  cases op <;> simp only [intV, Option.some.injEq] at h <;> (try cases h) <;>
    (try (split at h <;> simp only [reduceCtorEq, Option.some.injEq] at h)) <;> (try subst h) <;>
    simp [binOp, Op.intArith, Op.intDiv, Op.intBits, Op.intCmp, go_sem, *]

theorem run_shV {op : BinOp} {k k' : IntKind} {a b : Int} {v : Value} (hop : op = .shl ∨ op = .shr) (h : shV op k a b = some v) (T : TypeId) (w : World) : (binOp op T (.int k a) (.int k' b)).run P w = .ok v w := by
  unfold shV at h
  by_cases hb : b < 0
  · simp [hb] at h
  · rw [if_neg hb] at h
    rcases hop with rfl | rfl <;> simp only [Option.some.injEq] at h <;> subst h <;> simp [binOp, Op.shift, hb, go_sem]

theorem run_strV {op : BinOp} {a b : ByteArray} {v : Value} (h : strV op a b = some v) (T : TypeId) (w : World) : (binOp op T (.string a) (.string b)).run P w = .ok v w := by
  cases op <;> simp only [strV, Option.some.injEq, reduceCtorEq] at h <;> (try subst h) <;> (try (simp [binOp, Op.stringOp, go_sem]; done))
  split at h
  · rename_i hs
    simp only [Option.some.injEq] at h
    subst h
    have : ¬ (((a.size + b.size : Nat) : Int) > IntKind.i64.max) := by
      have : IntKind.i64.max = 9223372036854775807 := by decide
      omega
    simp only [binOp, Op.stringOp, if_neg this]
    rfl
  · cases h

theorem run_eqV {T : TypeId} {x y : Value} {b : Bool} (h : eqV (P.underlying T) x y = some b) (w : World) : (Op.equal T x y).run P w = .ok b w := by
  unfold eqV at h
  cases hu : P.underlying T with
  | none => simp [hu] at h
  | some d =>
    rw [hu] at h
    have hd : Op.equal T x y = Op.equalIn (9999 + 1) T x y := rfl
    rw [hd, Op.equalIn]
    simp only [Sem.run_bind, run_underlying' hu, Result.andThen_ok]
    split at h <;> first | (cases h; done) | (simp only [Option.some.injEq] at h; subst h; rename_i h1 ; simp only [Option.some.injEq] at h1; subst h1; simp [go_sem]; done) | (
      have hu2 := ‹some d = some (TypeDesc.interface _)›
      split at h
      · simp only [Option.some.injEq] at h
        subst h
        simp only [Option.some.injEq] at hu2
        subst hu2
        simp [go_sem]
      · cases h)

theorem leafEq_app : ∀ (ks ks' : List Leaf) (l1 l2 : List Value) (b : Bool), leafEq (ks ++ ks') l1 l2 = some b → ∃ b1 b2, leafEq ks (l1.take ks.length) (l2.take ks.length) = some b1 ∧ leafEq ks' (l1.drop ks.length) (l2.drop ks.length) = some b2 ∧ b = (b1 && b2)
  | [], ks', l1, l2, b, h => ⟨true, b, by simp [leafEq], by simpa using h, by simp⟩
  | k :: ks, ks', l1, l2, b, h => by
    rw [List.cons_append] at h
    unfold leafEq at h
    split at h
    · simp_all
    · rename_i ks0 k1 a xs k2 b' ys e1
      simp only [List.cons.injEq] at e1
      obtain ⟨rfl, rfl⟩ := e1
      split at h
      · rename_i hk
        obtain ⟨c, hc, rfl⟩ := Option.map_eq_some_iff.1 h
        obtain ⟨b1, b2, h1, h2, rfl⟩ := leafEq_app ks ks' xs ys c hc
        exact ⟨decide (a = b') && b1, b2, by simp [leafEq, hk, h1], by simpa using h2, by simp [Bool.and_assoc]⟩
      · cases h
    · rename_i ks0 a xs b' ys e1
      simp only [List.cons.injEq] at e1
      obtain ⟨rfl, rfl⟩ := e1
      obtain ⟨c, hc, rfl⟩ := Option.map_eq_some_iff.1 h
      obtain ⟨b1, b2, h1, h2, rfl⟩ := leafEq_app ks ks' xs ys c hc
      exact ⟨(a == b') && b1, b2, by simp [leafEq, h1], by simpa using h2, by simp [Bool.and_assoc]⟩
    · rename_i ks0 a xs b' ys e1
      simp only [List.cons.injEq] at e1
      obtain ⟨rfl, rfl⟩ := e1
      obtain ⟨c, hc, rfl⟩ := Option.map_eq_some_iff.1 h
      obtain ⟨b1, b2, h1, h2, rfl⟩ := leafEq_app ks ks' xs ys c hc
      exact ⟨(a.toList == b'.toList) && b1, b2, by simp [leafEq, h1], by simpa using h2, by simp [Bool.and_assoc]⟩
    · cases h

def FlatOk (P : Program) (d : Nat) (T : TypeId) (ks : List Leaf) : Prop :=
  ∀ (w : World) (m : Nat) (xs ys : Array Value) (off : Nat) (b : Bool), leafEq ks ((xs.toList.drop off).take ks.length) ((ys.toList.drop off).take ks.length) = some b →
    ∃ u v, (part T xs off).run P w = .ok u w ∧ (part T ys off).run P w = .ok v w ∧ (Op.equalIn (d + m) T u v).run P w = .ok b w

theorem run_flatFs {P : Program} {d : Nat} (ih : ∀ T ks, flatK P d T = some ks → (P.info? T).map (·.size) = some ks.length → FlatOk P d T ks) (w : World) (m : Nat) (X Y : Array Value) :
    ∀ (fs : List Field) (o : Nat) (ks : List Leaf) (b : Bool), flatFs P (flatK P d) fs o = some ks → leafEq ks ((X.toList.drop o).take ks.length) ((Y.toList.drop o).take ks.length) = some b → (Op.eqFields (d + m) X Y fs).run P w = .ok b w
  | [], o, ks, b, h, hb => by
    simp only [flatFs, Option.some.injEq] at h
    subst h
    simp only [leafEq, List.length_nil, List.take_zero, Option.some.injEq] at hb
    subst hb
    simp [Op.eqFields]
  | f :: fs, o, ks, b, h, hb => by
    unfold flatFs at h
    split at h
    · cases h
    · rename_i hn
      simp only [not_or, Decidable.not_not] at hn
      obtain ⟨hn, ho⟩ := hn
      split at h
      · cases h
      · rename_i ks1 hk
        split at h
        · rename_i hsz
          obtain ⟨ks2, h2, rfl⟩ := Option.map_eq_some_iff.1 h
          obtain ⟨b1, b2, e1, e2, rfl⟩ := leafEq_app ks1 ks2 _ _ b hb
          rw [List.take_take, List.take_take, List.length_append, Nat.min_eq_left (by omega)] at e1
          rw [List.drop_take, List.drop_take, List.drop_drop, List.drop_drop, List.length_append, show ks1.length + ks2.length - ks1.length = ks2.length by omega] at e2
          obtain ⟨u, v, p1, p2, p3⟩ := ih f.type ks1 hk hsz w m X Y o b1 e1
          have r := run_flatFs ih w m X Y fs (o + ks1.length) ks2 b2 h2 e2
          rw [ho.symm] at p1 p2
          simp only [Op.eqFields, hn, ne_eq, not_false_eq_true, if_true, Sem.run_bind, p1, p2, p3, Result.andThen_ok]
          cases b1
          · simp
          · simpa using r
        · cases h

theorem run_part_struct {P : Program} {T : TypeId} {fs : Array Field} {n : Nat} (hu : P.underlying T = some (.struct fs)) (hs : (P.info? T).map (·.size) = some n) (w : World) (xs : Array Value) (off : Nat) : (part T xs off).run P w = .ok (.agg (xs.extract off (off + n))) w := by
  obtain ⟨i, hi, rfl⟩ := Option.map_eq_some_iff.1 hs
  have hsz : (sizeOf T).run P w = .ok i.size w := by
    rw [run_sizeOf w hi, Program.cellsOf, hi]; rfl
  simp only [part, isAgg, Sem.run_bind, run_underlying hu, Result.andThen_ok, Sem.run_pure, if_true, hsz]

theorem leafEq_nil {l1 l2 : List Value} {b : Bool} (h : leafEq [] l1 l2 = some b) : l1 = [] ∧ l2 = [] ∧ b = true := by
  rcases l1 with _ | ⟨u, l1⟩ <;> rcases l2 with _ | ⟨v, l2⟩ <;> simp [leafEq] at h ⊢
  exact h

theorem leafEq_int {l1 l2 : List Value} {b : Bool} (h : leafEq [.int] l1 l2 = some b) : ∃ k x y, l1 = [.int k x] ∧ l2 = [.int k y] ∧ b = (x == y) := by
  rcases l1 with _ | ⟨u, l1⟩ <;> rcases l2 with _ | ⟨v, l2⟩ <;> try (simp [leafEq] at h; done)
  · cases u <;> cases v <;> try (simp [leafEq] at h; done)
    rename_i k a k' b'
    simp only [leafEq] at h
    split at h
    · rename_i hk
      subst hk
      obtain ⟨c, hc, rfl⟩ := Option.map_eq_some_iff.1 h
      obtain ⟨rfl, rfl, rfl⟩ := leafEq_nil hc
      exact ⟨k, a, b', rfl, rfl, by rw [Bool.and_true, Bool.eq_iff_iff]; simp⟩
    · cases h

theorem leafEq_bool {l1 l2 : List Value} {b : Bool} (h : leafEq [.bool] l1 l2 = some b) : ∃ x y, l1 = [.bool x] ∧ l2 = [.bool y] ∧ b = (x == y) := by
  rcases l1 with _ | ⟨u, l1⟩ <;> rcases l2 with _ | ⟨v, l2⟩ <;> try (simp [leafEq] at h; done)
  · cases u <;> cases v <;> try (simp [leafEq] at h; done)
    rename_i a b'
    simp only [leafEq] at h
    obtain ⟨c, hc, rfl⟩ := Option.map_eq_some_iff.1 h
    obtain ⟨rfl, rfl, rfl⟩ := leafEq_nil hc
    exact ⟨a, b', rfl, rfl, by rw [Bool.and_true]⟩

theorem leafEq_str {l1 l2 : List Value} {b : Bool} (h : leafEq [.str] l1 l2 = some b) : ∃ x y, l1 = [.string x] ∧ l2 = [.string y] ∧ b = (x.toList == y.toList) := by
  rcases l1 with _ | ⟨u, l1⟩ <;> rcases l2 with _ | ⟨v, l2⟩ <;> try (simp [leafEq] at h; done)
  · cases u <;> cases v <;> try (simp [leafEq] at h; done)
    rename_i a b'
    simp only [leafEq] at h
    obtain ⟨c, hc, rfl⟩ := Option.map_eq_some_iff.1 h
    obtain ⟨rfl, rfl, rfl⟩ := leafEq_nil hc
    exact ⟨a, b', rfl, rfl, by rw [Bool.and_true]⟩

theorem run_flatK {P : Program} : ∀ (d : Nat) (T : TypeId) (ks : List Leaf), flatK P d T = some ks → (P.info? T).map (·.size) = some ks.length → FlatOk P d T ks
  | 0, _, _, h, _ => by cases h
  | d + 1, T, ks, h, hs => by
    intro w m xs ys off b hb
    rw [show d + 1 + m = d + m + 1 by omega]
    unfold flatK at h
    split at h
    · rename_i k hu
      simp only [Option.some.injEq] at h
      subst h
      have hp : P.plainKey T = true := by simp [Program.plainKey, hu]
      obtain ⟨k1, x, y, e1, e2, rfl⟩ := leafEq_int hb
      exact ⟨_, _, run_part_plain w hp (getElem?_of_chunk e1), run_part_plain w hp (getElem?_of_chunk e2), run_equalIn_int w _ _ _ _ _ _ hu⟩
    · rename_i hu
      simp only [Option.some.injEq] at h
      subst h
      have hp : P.plainKey T = true := by simp [Program.plainKey, hu]
      obtain ⟨x, y, e1, e2, rfl⟩ := leafEq_bool hb
      exact ⟨_, _, run_part_plain w hp (getElem?_of_chunk e1), run_part_plain w hp (getElem?_of_chunk e2), run_equalIn_bool' w _ _ _ _ hu⟩
    · rename_i hu
      simp only [Option.some.injEq] at h
      subst h
      have hp : P.plainKey T = true := by simp [Program.plainKey, hu]
      obtain ⟨x, y, e1, e2, rfl⟩ := leafEq_str hb
      exact ⟨_, _, run_part_plain w hp (getElem?_of_chunk e1), run_part_plain w hp (getElem?_of_chunk e2), run_equalIn_string w _ _ _ _ hu⟩
    · rename_i fs hu
      split at h
      · cases h
      · rename_i hst
        refine ⟨_, _, run_part_struct hu hs w xs off, run_part_struct hu hs w ys off, ?_⟩
        have hfs : P.fieldsOf T = fs := by simp [Program.fieldsOf, hu]
        rw [run_equalIn_struct w (d + m) T _ _ (by rw [hfs]; exact hu) (by simpa using hst), hfs]
        refine run_flatFs (run_flatK d) w m _ _ fs.toList 0 ks b h ?_
        have hx : ∀ zs : Array Value, ((zs.extract off (off + ks.length)).toList.drop 0).take ks.length = (zs.toList.drop off).take ks.length := by
          intro zs
          rw [Array.toList_extract, List.drop_zero, List.extract_eq_take_drop, Nat.add_sub_cancel_left, List.take_take, Nat.min_self]
        rw [hx, hx]
        exact hb
    · cases h

theorem run_aggEq {P : Program} {T : TypeId} {xs ys : Array Value} {b : Bool} (h : aggEq (flatE P T) xs ys = some b) (w : World) : (Op.equal T (.agg xs) (.agg ys)).run P w = .ok b w ∧ P.eqGuardType P.depth T = false := by
  obtain ⟨ks, hk, h⟩ := Option.bind_eq_some_iff.1 h
  unfold flatE at hk
  split at hk
  · rename_i fs hu
    split at hk
    · cases hk
    · rename_i hg
      refine ⟨?_, by simpa using hg⟩
      unfold flatK at hk
      rw [hu] at hk
      simp only at hk
      split at hk
      · cases hk
      · rename_i hst
        show (Op.equalIn (9999 + 1) T (.agg xs) (.agg ys)).run P w = .ok b w
        have hfs : P.fieldsOf T = fs := by simp [Program.fieldsOf, hu]
        rw [run_equalIn_struct w 9999 T _ _ (by rw [hfs]; exact hu) (by simpa using hst), hfs]
        have hl : ∀ (ks : List Leaf) (l1 l2 : List Value) (b : Bool), leafEq ks l1 l2 = some b → l1.length = ks.length ∧ l2.length = ks.length := by
          intro ks
          induction ks with
          | nil => intro l1 l2 b h; obtain ⟨rfl, rfl, _⟩ := leafEq_nil h; simp
          | cons k ks ih =>
            intro l1 l2 b h
            obtain ⟨b1, b2, h1, h2, _⟩ := leafEq_app [k] ks l1 l2 b h
            obtain ⟨e1, e2⟩ := ih _ _ _ h2
            have : (l1.take 1).length = 1 ∧ (l2.take 1).length = 1 := by
              cases k
              · obtain ⟨_, _, _, e1, e2, _⟩ := leafEq_int h1; exact ⟨congrArg List.length e1, congrArg List.length e2⟩
              · obtain ⟨_, _, e1, e2, _⟩ := leafEq_bool h1; exact ⟨congrArg List.length e1, congrArg List.length e2⟩
              · obtain ⟨_, _, e1, e2, _⟩ := leafEq_str h1; exact ⟨congrArg List.length e1, congrArg List.length e2⟩
            simp only [List.length_drop, List.length_cons, List.length_nil, List.length_take] at e1 e2 this ⊢
            omega
        obtain ⟨n1, n2⟩ := hl _ _ _ _ h
        have r := run_flatFs (run_flatK 19) w 9980 xs ys fs.toList 0 ks b hk (by rw [List.drop_zero, List.drop_zero, List.take_of_length_le (by omega), List.take_of_length_le (by omega)]; exact h)
        exact r
  · cases hk

theorem run_binV {op : BinOp} {T : TypeId} {x y : Value} {v : Value} (h : binV P op T x y = some v) (w : World) : (binOp op T x y).run P w = .ok v w := by
  unfold binV at h
  split at h
  · rename_i k a k' b
    cases op <;> simp only at h
    case shl => exact run_shV (.inl rfl) h T w
    case shr => exact run_shV (.inr rfl) h T w
    all_goals
      split at h
      · rename_i hk; subst hk; exact run_intV h T w
      · cases h
  · exact run_strV h T w
  · rename_i xs ys
    cases op <;> simp only [reduceCtorEq] at h
    case eql =>
      obtain ⟨b, hb, rfl⟩ := Option.map_eq_some_iff.1 h
      rw [run_eql_struct]
      have := (run_aggEq hb w).1
      simp only [Op.equal, Op.maxDepth] at this
      rw [this]; rfl
    case neq =>
      obtain ⟨b, hb, rfl⟩ := Option.map_eq_some_iff.1 h
      rw [run_neq_struct]
      have := (run_aggEq hb w).1
      simp only [Op.equal, Op.maxDepth] at this
      rw [this]; rfl
  · rename_i hni hns hna
    have key : ∀ b, eqV (P.underlying T) x y = some b → (binOp .eql T x y).run P w = .ok (.bool b) w ∧ (binOp .neq T x y).run P w = .ok (.bool !b) w := by
      intro b hb
      have he := run_eqV hb w
      unfold eqV at hb
      constructor <;>
      · split at hb <;> first | (cases hb; done) | (simp only [binOp, Sem.run_bind, he, Result.andThen_ok]; rfl)
    cases op <;> simp only [reduceCtorEq] at h
    case eql =>
      obtain ⟨b, hb, rfl⟩ := Option.map_eq_some_iff.1 h
      exact (key b hb).1
    case neq =>
      obtain ⟨b, hb, rfl⟩ := Option.map_eq_some_iff.1 h
      exact (key b hb).2

theorem run_eqGuard {op : BinOp} {T : TypeId} {xo yo : Operand} {x y : Value} {v : Value} (h : binV P op T x y = some v) (w : World) : (eqGuard op T xo yo x y).run P w = .ok () w := by
  unfold eqGuard
  by_cases ho : op = .eql ∨ op = .neq
  · have hne : (!(op matches .eql | .neq)) = false := by rcases ho with rfl | rfl <;> rfl
    unfold binV at h
    split at h
    · rcases ho with rfl | rfl <;> rfl
    · rcases ho with rfl | rfl <;> rfl
    · rename_i xs ys
      have : ∃ b, aggEq (flatE P T) xs ys = some b := by
        rcases ho with rfl | rfl <;> simp only at h <;> obtain ⟨b, hb, _⟩ := Option.map_eq_some_iff.1 h <;> exact ⟨b, hb⟩
      obtain ⟨b, hb⟩ := this
      exact run_eqGuard_agg w op T xo yo xs ys (run_aggEq hb w).2
    · have : ∃ b, eqV (P.underlying T) x y = some b := by
        rcases ho with rfl | rfl <;> simp only at h <;> obtain ⟨b, hb, _⟩ := Option.map_eq_some_iff.1 h <;> exact ⟨b, hb⟩
      obtain ⟨b, hb⟩ := this
      unfold eqV at hb
      have hnil : ∀ ms : Array (String × TypeId), P.underlying T = some (.interface ms) → ms.isEmpty = true → (Op.eqGuardIn Op.maxDepth T .nilIface .nilIface).run P w = .ok false w := fun ms hu he => by
        show (Op.eqGuardIn (9999 + 1) T .nilIface .nilIface).run P w = _
        unfold Op.eqGuardIn
        simp only [Sem.run_bind, run_underlying' hu, Result.andThen_ok, he]
        rfl
      rcases ho with rfl | rfl <;> split at hb <;> first | (cases hb; done) | rfl | (
        have hu := ‹P.underlying T = some (TypeDesc.interface _)›
        split at hb
        case isFalse => cases hb
        rename_i he
        have hg := hnil _ hu he
        refine Eq.trans (b := (if (xo matches .const _) || (yo matches .const _) then (pure () : Sem Unit) else do if ← Op.eqGuardIn Op.maxDepth T .nilIface .nilIface then unsupported (.noEntry "binop/eql: two nil values of an interface type with methods, neither of them the literal nil")).run P w) rfl ?_
        by_cases hx : ((xo matches .const _) || (yo matches .const _)) = true
        · rw [if_pos hx]; rfl
        · rw [if_neg hx]
          simp only [Sem.run_bind, hg, Result.andThen_ok]
          rfl)
  · have hne : (!(op matches .eql | .neq)) = true := by cases op <;> first | rfl | simp at ho
    cases op <;> first | rfl | simp at ho

end sound

end Go.Proofs.YtacmnfpgimgigaaGreat
