/- The engine's second part: plans of regions that draw; the code compiled; its soundness; a function's contract out of its compiled code. -/
import Derived.Test.YtacmnfpgimgigaaGreatZ1
namespace Go.Proofs.YtacmnfpgimgigaaGreat
open Go

/-! ### Plans -/

structure RQ where
  mask : Nat
  o : Oper
  e : FA
  v : Value

def RQ.holds (P : Program) (x : RQ) (w : World) : Prop := (opS x.o x.e).run P w = .ok (.value x.v) w

def alive (j : Nat) (rq : List RQ) : List RQ := rq.filter fun x => !x.mask.testBit j

def allHold (P : Program) (w : World) : List RQ → Prop
  | [] => True
  | x :: l => x.holds P w ∧ allHold P w l

theorem allHold_mem {P : Program} {w : World} : ∀ {l : List RQ}, allHold P w l → ∀ x ∈ l, x.holds P w
  | [], _, _, hx => by cases hx
  | y :: l, h, x, hx => by
    rcases List.mem_cons.1 hx with rfl | hx
    · exact h.1
    · exact allHold_mem h.2 x hx

/-- (0, _): it does not look at the world; (1, mask): it reads; (2, j): anything else, number j. -/
def ok3 (o : Oper) : Nat × Nat :=
  match o.after.toList with
  | [] => (0, 0)
  | x :: _ => match x.ground with
    | .data => (1, x.on)
    | .phase => (3, x.on)
    | _ => (2, x.on)

/-- A region that draws, walked by its plan. -/
def dw (P : Program) (Pn : List PanicEntry → FA → World → Prop) (K : FA → World → Prop) : List Oper → List RQ → FA → World → Prop
  | [], _, e, w => K e w
  | o :: l, rq, e, w =>
    if gd e o.guard = true then
      match ok3 o with
      | (0, _) => ∃ v, (∀ w', (opS o e).run P w' = .ok (.value v) w') ∧ dw P Pn K l rq (e.put o.dst v) w
      | (1, m) => ∃ v, (opS o e).run P w = .ok (.value v) w ∧ dw P Pn K l (⟨m, o, e, v⟩ :: rq) (e.put o.dst v) w
      | (_, j) => upon P (fun v w' => allHold P w' (alive j rq) ∧ dw P Pn K l (alive j rq) (e.put o.dst v) w') (fun _ _ => False) (fun c w' => Pn c e w') ((opS o e).run P w)
    else dw P Pn K l rq (e.put o.dst undef) w

/-- Of the operations, those that wait for number i, through whatever others. -/
def depMask (ops : Array Oper) (i : Nat) : Nat :=
  (List.range ops.size).foldl (fun D j => match ops[j]? with
    | some oj => if oj.after.any fun e => Region.binds .any e && (e.on == i || D.testBit e.on) then D ||| 2 ^ j else D
    | none => D) 0

def depOk (ops : Array Oper) (i D : Nat) : Bool :=
  (List.range ops.size).all fun j => !D.testBit j || match ops[j]? with
    | some oj => oj.after.any fun e => Region.binds .any e && (e.on == i || D.testBit e.on)
    | none => true

def unlistedB (ops : Array Oper) (D : Nat) (listed : Array Bool) : Bool :=
  decide (listed.size = ops.size) && (List.range ops.size).all fun k => !D.testBit k || !listed.getD k false

/-- plan: (number, kind (0 pure, 1 read, 2 effect), mask) -/
def planOk (ops : Array Oper) : List (Nat × Nat × Nat) → Array Bool → List Nat → Bool
  | [], listed, _ => (Region.ready .any ops listed).isEmpty
  | (i, k, m) :: pl, listed, ms =>
    (Region.ready .any ops listed).contains i &&
    match k with
    | 0 => Region.free .any ops listed i && ms.all (fun x => !x.testBit i) && planOk ops pl (listed.setIfInBounds i true) ms
    | 1 => Region.free .any ops listed i && ms.all (fun x => !x.testBit i) && !m.testBit i && decide (m &&& depMask ops i = m) && depOk ops i (depMask ops i) &&
        unlistedB ops (depMask ops i) listed && planOk ops pl (listed.setIfInBounds i true) (m :: ms)
    | _ => (Region.ready .any ops listed == [i]) && planOk ops pl (listed.setIfInBounds i true) ms

def flag (x : Nat × Nat × Nat) : Array Edge :=
  match x.2.1 with
  | 0 => #[]
  | 1 => #[{ on := x.2.2, ground := .data }]
  | _ => #[{ on := x.1, ground := .chain }]

def planOps (ops : Array Oper) (pl : List (Nat × Nat × Nat)) : List Oper := pl.map fun x => strip ops (flag x) (ops.getD x.1 default)

theorem ok3_flag0 (ops : Array Oper) (i m : Nat) (o : Oper) : ok3 (strip ops (flag (i, 0, m)) o) = (0, 0) := rfl
theorem ok3_flag1 (ops : Array Oper) (i m : Nat) (o : Oper) : ok3 (strip ops (flag (i, 1, m)) o) = (1, m) := rfl
theorem ok3_flag2 (ops : Array Oper) (i k m : Nat) (o : Oper) : ok3 (strip ops (flag (i, k + 2, m)) o) = (2, i) := rfl

/-- What is owed is covered by what the walk keeps. -/
def Cov (P : Program) (rqA : List (Nat × (World → Prop))) (rq : List RQ) (listed : Array Bool) : Prop :=
  ∀ x ∈ rqA, live x.1 listed → (∀ w, x.2 w) ∨ ∃ y ∈ rq, y.mask = x.1 ∧ ∀ w, y.holds P w → x.2 w

theorem Cov.held {P : Program} {rqA : List (Nat × (World → Prop))} {rq : List RQ} {listed : Array Bool} {w : World} (h : Cov P rqA rq listed) (hh : ∀ y ∈ rq, y.holds P w) : Held rqA listed w := by
  intro x hx hl
  rcases h x hx hl with h | ⟨y, hy, _, h⟩
  · exact h w
  · exact h w (hh y hy)

theorem Cov.set {P : Program} {rqA : List (Nat × (World → Prop))} {rq : List RQ} {listed : Array Bool} (h : Cov P rqA rq listed) (i : Nat) : Cov P rqA rq (listed.setIfInBounds i true) :=
  fun x hx hl => h x hx (live_of_set hl)

theorem testBit_and_self {m D : Nat} (h : m &&& D = m) (k : Nat) (hk : m.testBit k = true) : D.testBit k = true := by
  have : (m &&& D).testBit k = true := by rw [h]; exact hk
  rw [Nat.testBit_and] at this
  simp only [Bool.and_eq_true] at this
  exact this.2

theorem wpAnyR_of_dw {P : Program} {ops : Array Oper} {N : Nat} {Q : Exit → Act → World → Prop} {K : FA → World → Prop} {Pn : List PanicEntry → FA → World → Prop} (hsel : Region.noSelect ops = true)
    (hops : ∀ o ∈ ops, dstOk N o.dst = true ∧ gdOk ops o = true) (hQ : ∀ a e w, Rel N a e → K e w → Q .normal a w) (hPn : ∀ c a e w, Rel N a e → Pn c e w → Q (.panic c) a w) :
    ∀ (pl : List (Nat × Nat × Nat)), (∀ x ∈ pl, ∀ (c : List PanicEntry) (a : Act) (u : Value) (w : World), Q (.panic c) (a.put (ops.getD x.1 default).dst u) w → Q (.panic c) a w) → ∀ (listed : Array Bool) (rqA : List (Nat × (World → Prop))) (rq : List RQ) (a : Act) (e : FA) (w : World),
      listed.size = ops.size → planOk ops pl listed (rqA.map (·.1)) = true → Rel N a e → Cov P rqA rq listed → (∀ y ∈ rq, y.holds P w) →
      dw P Pn K (planOps ops pl) rq e w → wpAnyR P .any ops Q rqA pl.length listed a w
  | [], _, listed, rqA, rq, a, e, w, _, hp, hr, hc, hh, h => ⟨hc.held hh, by simpa [planOk] using hp, hQ a e w hr h⟩
  | (i, k, m) :: pl, hnp, listed, rqA, rq, a, e, w, hsz, hp, hr, hc, hh, h => by
    simp only [planOk, Bool.and_eq_true] at hp
    obtain ⟨hrd, hp⟩ := hp
    have hrd' : i ∈ Region.ready .any ops listed := by simpa using hrd
    obtain ⟨_, oi, hoi, _⟩ := mem_ready.1 hrd'
    have hmem : oi ∈ ops := Array.mem_of_getElem? hoi
    obtain ⟨hd, hg⟩ := hops oi hmem
    have hgetD : ops.getD i default = oi := by simp [Array.getD_eq_getD_getElem?, hoi]
    have hsz' : (listed.setIfInBounds i true).size = ops.size := by simp [hsz]
    have ih := fun rqA rq a e w => wpAnyR_of_dw (P := P) hsel hops hQ hPn pl (fun x hx => hnp x (List.mem_cons_of_mem _ hx)) (listed.setIfInBounds i true) rqA rq a e w hsz'
    simp only [planOps, List.map_cons, dw, hgetD] at h
    have hgs := gd_strip hr (af := flag (i, k, m)) hg
    have hnp1 : ∀ (c : List PanicEntry) (a : Act) (u : Value) (w : World), Q (.panic c) (a.put oi.dst u) w → Q (.panic c) a w := by
      have := hnp (i, k, m) List.mem_cons_self
      simp only [hgetD] at this
      exact this
    match k, hp, h, hgs with
    | 0, hp, h, hgs =>
      simp only [Bool.and_eq_true, List.all_eq_true] at hp
      obtain ⟨⟨hf, hms⟩, hpl⟩ := hp
      have hms' : ∀ x ∈ rqA, x.1.testBit i = false := fun x hx => by simpa using hms x.1 (List.mem_map.2 ⟨x, hx, rfl⟩)
      rw [ok3_flag0] at h
      split at h
      · rename_i hw
        obtain ⟨v, hv, h⟩ := h
        refine wpAnyR_pure hoi (Region.noSelect_spec hsel) hnp1 hms' _ listed a w (Region.free_spec hoi hf) hrd' (v := v) (.inl ⟨by rw [hgs, hw], fun w' => ?_⟩) (hc.held hh) (ih _ _ _ _ _ hpl (hr.put hd v) (hc.set i) hh h)
        have := hv w'
        unfold opS at this
        rwa [execOp_strip, ← hr.eval] at this
      · rename_i hw
        exact wpAnyR_pure hoi (Region.noSelect_spec hsel) hnp1 hms' _ listed a w (Region.free_spec hoi hf) hrd' (v := undef) (.inr ⟨by rw [hgs]; simpa using hw, rfl⟩) (hc.held hh) (ih _ _ _ _ _ hpl (hr.put hd undef) (hc.set i) hh h)
    | 1, hp, h, hgs =>
      simp only [Bool.and_eq_true, List.all_eq_true, Bool.not_eq_true', decide_eq_true_eq] at hp
      obtain ⟨⟨⟨⟨⟨⟨hf, hms⟩, hmi⟩, hmD⟩, hdep⟩, hunl⟩, hpl⟩ := hp
      have hms' : ∀ x ∈ rqA, x.1.testBit i = false := fun x hx => by simpa using hms x.1 (List.mem_map.2 ⟨x, hx, rfl⟩)
      have hD : ∀ j oj, ops[j]? = some oj → (depMask ops i).testBit j = true → ∃ e ∈ oj.after, Region.binds .any e = true ∧ (e.on = i ∨ (depMask ops i).testBit e.on = true) := by
        intro j oj hj hb
        have h1 := List.all_eq_true.1 hdep j (List.mem_range.2 (Array.getElem?_eq_some_iff.1 hj).1)
        simp only [hb, Bool.not_true, Bool.false_or, hj] at h1
        obtain ⟨e, he, h2⟩ := Array.any_eq_true'.1 h1
        simp only [Bool.and_eq_true, Bool.or_eq_true, beq_iff_eq] at h2
        exact ⟨e, he, h2.1, h2.2⟩
      have hun : live (depMask ops i) listed := by
        intro k hk
        simp only [unlistedB, Bool.and_eq_true, List.all_eq_true, List.mem_range] at hunl
        rcases Nat.lt_or_ge k ops.size with hlt | hge
        · have := hunl.2 k hlt
          simpa only [hk, Bool.not_true, Bool.false_or, Bool.not_eq_true'] using this
        · simp [Array.getElem?_eq_none (show listed.size ≤ k by omega)]
      rw [ok3_flag1] at h
      split at h
      · rename_i hw
        obtain ⟨v, hv, h⟩ := h
        have hv0 := hv
        unfold opS at hv
        rw [execOp_strip, ← hr.eval] at hv
        refine wpAnyR_read (S := fun w => (execOp a.eval oi).run P w = .ok (.value v) w) (D := depMask ops i) (m := m) hoi (Region.noSelect_spec hsel) hnp1 hms' hmi (fun k hk => testBit_and_self hmD k hk) hD _ listed a w (Region.free_spec hoi hf) hrd' hun
          (v := v) (.inl ⟨by rw [hgs, hw], fun w' hw' => hw'⟩) hv (hc.held hh) (ih ((m, _) :: rqA) (⟨m, strip ops (flag (i, 1, m)) oi, e, v⟩ :: rq) _ _ _ (by simpa using hpl) (hr.put hd v) ?_ ?_ h)
        · intro x hx hl
          rcases List.mem_cons.1 hx with rfl | hx
          · refine .inr ⟨_, List.mem_cons_self, rfl, fun w hw' => ?_⟩
            unfold RQ.holds opS at hw'
            rwa [execOp_strip, ← hr.eval] at hw'
          · rcases hc x hx (live_of_set hl) with h | ⟨y, hy, h⟩
            · exact .inl h
            · exact .inr ⟨y, List.mem_cons_of_mem _ hy, h⟩
        · intro y hy
          rcases List.mem_cons.1 hy with rfl | hy
          · exact hv0
          · exact hh y hy
      · rename_i hw
        refine wpAnyR_read (S := fun _ => True) (D := depMask ops i) (m := m) hoi (Region.noSelect_spec hsel) hnp1 hms' hmi (fun k hk => testBit_and_self hmD k hk) hD _ listed a w (Region.free_spec hoi hf) hrd' hun
          (v := undef) (.inr ⟨by rw [hgs]; simpa using hw, rfl⟩) trivial (hc.held hh) (ih ((m, _) :: rqA) rq _ _ _ (by simpa using hpl) (hr.put hd undef) ?_ hh h)
        intro x hx hl
        rcases List.mem_cons.1 hx with rfl | hx
        · exact .inl fun _ => trivial
        · exact hc x hx (live_of_set hl)
    | k + 2, hp, h, hgs =>
      simp only [Bool.and_eq_true, beq_iff_eq] at hp
      obtain ⟨hrdy, hpl⟩ := hp
      rw [ok3_flag2] at h
      have hil : i < listed.size := by rw [hsz]; exact (Array.getElem?_eq_some_iff.1 hoi).1
      have hcv : Cov P rqA (alive i rq) (listed.setIfInBounds i true) := by
        intro x hx hl
        rcases hc x hx (live_of_set hl) with h | ⟨y, hy, hm, h⟩
        · exact .inl h
        · refine .inr ⟨y, ?_, hm, h⟩
          unfold alive
          rw [List.mem_filter]
          refine ⟨hy, ?_⟩
          cases hb : y.mask.testBit i with
          | false => rfl
          | true =>
            have := hl i (hm ▸ hb)
            simp [hil] at this
      refine wpAnyR_only hrdy (hc.held hh) ?_
      unfold wpOp
      simp only [hoi]
      rw [hgs]
      split at h
      · rename_i hw
        rw [if_pos hw]
        exact .inl (wp_of_upon hr h (fun v w' hk => ih _ _ _ _ _ hpl (hr.put hd v) hcv (allHold_mem hk.1) hk.2) (fun _ _ h => h.elim) (fun _ _ hp => hPn _ _ _ _ hr hp))
      · rename_i hw
        rw [if_neg hw]
        exact ih _ _ _ _ _ hpl (hr.put hd undef) (hc.set i) hh h

/-! ### The plan's making -/

def pureB (types : Array TypeInfo) : Op → Bool
  | .move _ | .assign _ | .pick .. | .nilCheck _ | .binOp .. | .unOp .. | .fieldAddr .. | .field .. | .indexAddr .. | .extract .. | .slice .. | .build .. | .index .. | .makeFunc .. => true
  | .convert src dst _ => match Region.shape types src, Region.shape types dst with | some (.slice _), _ => false | _, some (.slice _) => false | none, _ => false | _, _ => true
  | .call { callee := .builtin b, argTypes, .. } => match b with
    | .min | .max => true
    | .len | .cap => match (argTypes[0]?).bind (Region.shape types) with | some .string | some (.slice _) | some (.array ..) => true | _ => false
    | _ => false
  | _ => false

def readB (types : Array TypeInfo) : Op → Bool
  | .load .. | .lookup .. | .entry _ | .typeAssert .. | .makeInterface .. => true
  | .convert src dst _ => match Region.shape types src, Region.shape types dst with | some (.slice _), some .string => true | _, _ => false
  | .call { callee := .builtin b, .. } => match b with
    | .len => true
    | _ => false
  | _ => false

def effMask (types : Array TypeInfo) (ops : Array Oper) (i : Nat) : Nat :=
  (List.range ops.size).foldl (fun m j => match ops[j]? with
    | some oj => if (depMask ops i).testBit j && !pureB types oj.op && !readB types oj.op then m ||| 2 ^ j else m
    | none => m) 0

def mkPlan (types : Array TypeInfo) (ops : Array Oper) : Nat → Array Bool → List (Nat × Nat × Nat)
  | 0, _ => []
  | f + 1, listed =>
    let rs := Region.ready .any ops listed
    match rs.find? fun i => (match ops[i]? with | some o => pureB types o.op | none => false) && Region.free .any ops listed i with
    | some i => (i, 0, 0) :: mkPlan types ops f (listed.setIfInBounds i true)
    | none =>
      match rs.find? fun i => (match ops[i]? with | some o => readB types o.op | none => false) && Region.free .any ops listed i with
      | some i => (i, 1, effMask types ops i) :: mkPlan types ops f (listed.setIfInBounds i true)
      | none =>
        match rs with
        | [i] => (i, 2, 0) :: mkPlan types ops f (listed.setIfInBounds i true)
        | _ => []

def opsOk (N : Nat) (ops : Array Oper) : Bool := Region.noSelect ops && ops.all fun o => dstOk N o.dst && gdOk ops o

/-- How an operation is looked at in a region of one order. -/
def dynB : Op → Bool
  | .call { callee := .value (.tmp _), .. } => true
  | _ => false
def kflag (types : Array TypeInfo) (o : Op) : Array Edge := if pureB types o then #[] else if readB types o then #[⟨0, .data⟩] else if dynB o then #[⟨0, .phase⟩] else #[⟨0, .chain⟩]

/-- No 'defer' statement in it: so a round of a loop over a function goes as plain code does. -/
def nodef : Code → Bool
  | .region _ ops _ => ops.toList.all notDefer
  | .seq a b => nodef a && nodef b
  | .cond _ a b => nodef a && nodef b
  | .block _ c => nodef c
  | .loop c => nodef c
  | .scope c => nodef c
  | .rangeFunc _ _ a b => nodef a && nodef b
  | _ => true

/-- No loop over a function in it. -/
def noRange : Code → Bool
  | .seq a b => noRange a && noRange b
  | .cond _ a b => noRange a && noRange b
  | .block _ c => noRange c
  | .loop c => noRange c
  | .scope c => noRange c
  | .rangeFunc _ _ _ _ => false
  | _ => true

def compR (types : Array TypeInfo) (N : Nat) (ops : Array Oper) (draw : Bool) : Option (List Oper) :=
  if opsOk N ops then
    if draw then
      let pl := mkPlan types ops ops.size (Array.replicate ops.size false)
      if planOk ops pl (Array.replicate ops.size false) [] && pl.length == ops.size then some (planOps ops pl) else none
    else some (ops.toList.map fun o => strip ops (kflag types o.op) o)
  else none

/-! ### Where several effects are ready at once: every order, as a tree -/

/-- A region's code, every order of it. -/
inductive PT where
  | done | stop
  | op (o : Oper) (t : PT)
  | alt (a b : PT)

/-- A plan that is a tree: (number), (number and mask), an effect, and the other choices in its place. -/
inductive PP where
  | done | none
  | pur (i : Nat) (t : PP)
  | rd (i m : Nat) (t : PP)
  | eff (i : Nat) (t more : PP)

def dwT (P : Program) (Pn : List PanicEntry → FA → World → Prop) (K : FA → World → Prop) : PT → List RQ → FA → World → Prop
  | .done, _, e, w => K e w
  | .stop, _, _, _ => True
  | .alt a b, rq, e, w => dwT P Pn K a rq e w ∧ dwT P Pn K b rq e w
  | .op o t, rq, e, w =>
    if gd e o.guard = true then
      match ok3 o with
      | (0, _) => ∃ v, (∀ w', (opS o e).run P w' = .ok (.value v) w') ∧ dwT P Pn K t rq (e.put o.dst v) w
      | (1, m) => ∃ v, (opS o e).run P w = .ok (.value v) w ∧ dwT P Pn K t (⟨m, o, e, v⟩ :: rq) (e.put o.dst v) w
      | (_, j) => upon P (fun v w' => allHold P w' (alive j rq) ∧ dwT P Pn K t (alive j rq) (e.put o.dst v) w') (fun _ _ => False) (fun c w' => Pn c e w') ((opS o e).run P w)
    else dwT P Pn K t rq (e.put o.dst undef) w

def PP.depth : PP → Nat
  | .done => 0
  | .none => 0
  | .pur _ t => t.depth + 1
  | .rd _ _ t => t.depth + 1
  | .eff _ t more => max (t.depth + 1) more.depth

def planOkT (ops : Array Oper) : PP → Array Bool → List Nat → Option (List Nat) → Bool
  | .done, listed, _, none => (Region.ready .any ops listed).isEmpty
  | .done, _, _, some _ => false
  | .none, _, _, none => false
  | .none, listed, _, some acc => (Region.ready .any ops listed).all acc.contains
  | .pur i t, listed, ms, none => (Region.ready .any ops listed).contains i && Region.free .any ops listed i && ms.all (fun x => !x.testBit i) && planOkT ops t (listed.setIfInBounds i true) ms none
  | .pur _ _, _, _, some _ => false
  | .rd i m t, listed, ms, none => (Region.ready .any ops listed).contains i && Region.free .any ops listed i && ms.all (fun x => !x.testBit i) && !m.testBit i && decide (m &&& depMask ops i = m) && depOk ops i (depMask ops i) &&
        unlistedB ops (depMask ops i) listed && planOkT ops t (listed.setIfInBounds i true) (m :: ms) none
  | .rd _ _ _, _, _, some _ => false
  | .eff i t more, listed, ms, acc => (Region.ready .any ops listed).contains i && planOkT ops t (listed.setIfInBounds i true) ms none && planOkT ops more listed ms (some (i :: acc.getD []))

def planOpsT (ops : Array Oper) : PP → PT
  | .done => .done
  | .none => .stop
  | .pur i t => .op (strip ops (flag (i, 0, 0)) (ops.getD i default)) (planOpsT ops t)
  | .rd i m t => .op (strip ops (flag (i, 1, m)) (ops.getD i default)) (planOpsT ops t)
  | .eff i t more => .alt (.op (strip ops (flag (i, 2, 0)) (ops.getD i default)) (planOpsT ops t)) (planOpsT ops more)

theorem wpAnyR_of_dwT {P : Program} {ops : Array Oper} {N : Nat} {Q : Exit → Act → World → Prop} {K : FA → World → Prop} {Pn : List PanicEntry → FA → World → Prop} (hsel : Region.noSelect ops = true)
    (hops : ∀ o ∈ ops, dstOk N o.dst = true ∧ gdOk ops o = true) (hQ : ∀ a e w, Rel N a e → K e w → Q .normal a w) (hnp : ∀ (c : List PanicEntry) (a : Act) (d : Option Nat) (v : Value) (w : World), Q (.panic c) (a.put d v) w → Q (.panic c) a w) (hPn : ∀ c a e w, Rel N a e → Pn c e w → Q (.panic c) a w) :
    ∀ (pl : PP) (fuel : Nat) (listed : Array Bool) (rqA : List (Nat × (World → Prop))) (rq : List RQ) (a : Act) (e : FA) (w : World),
      listed.size = ops.size → pl.depth ≤ fuel → Rel N a e → Cov P rqA rq listed → (∀ y ∈ rq, y.holds P w) → dwT P Pn K (planOpsT ops pl) rq e w →
      (planOkT ops pl listed (rqA.map (·.1)) none = true → wpAnyR P .any ops Q rqA fuel listed a w) ∧
      (∀ acc, planOkT ops pl listed (rqA.map (·.1)) (some acc) = true → ∀ j ∈ Region.ready .any ops listed, j ∉ acc → wpOp P ops Q j (wpAnyR P .any ops Q rqA (fuel - 1) (listed.setIfInBounds j true)) a w)
  | .done, fuel, listed, rqA, rq, a, e, w, _, _, hr, hc, hh, h => by
    refine ⟨fun hp => ?_, fun acc hp => by simp [planOkT] at hp⟩
    have hp' : Region.ready .any ops listed = [] := by simpa [planOkT] using hp
    cases fuel with
    | zero => exact ⟨hc.held hh, hp', hQ a e w hr h⟩
    | succ f => exact ⟨hc.held hh, fun _ => hQ a e w hr h, fun i hi => by rw [hp'] at hi; cases hi⟩
  | .none, fuel, listed, rqA, rq, a, e, w, _, _, _, _, _, _ => by
    refine ⟨fun hp => by simp [planOkT] at hp, fun acc hp j hj hn => ?_⟩
    simp only [planOkT, List.all_eq_true] at hp
    exact absurd (by simpa using hp j hj) hn
  | .pur i t, fuel, listed, rqA, rq, a, e, w, hsz, hdep, hr, hc, hh, h => by
    refine ⟨fun hp => ?_, fun acc hp => by simp [planOkT] at hp⟩
    simp only [planOkT, Bool.and_eq_true, List.all_eq_true] at hp
    obtain ⟨⟨⟨hrd, hf⟩, hms⟩, hpl⟩ := hp
    have hrd' : i ∈ Region.ready .any ops listed := by simpa using hrd
    obtain ⟨_, oi, hoi, _⟩ := mem_ready.1 hrd'
    obtain ⟨hd, hg⟩ := hops oi (Array.mem_of_getElem? hoi)
    have hgetD : ops.getD i default = oi := by simp [Array.getD_eq_getD_getElem?, hoi]
    have hsz' : (listed.setIfInBounds i true).size = ops.size := by simp [hsz]
    simp only [PP.depth] at hdep
    obtain ⟨f, rfl⟩ : ∃ f, fuel = f + 1 := ⟨fuel - 1, by omega⟩
    simp only [planOpsT, dwT, hgetD] at h
    have hgs := gd_strip hr (af := flag (i, 0, 0)) hg
    have hms' : ∀ x ∈ rqA, x.1.testBit i = false := fun x hx => by simpa using hms x.1 (List.mem_map.2 ⟨x, hx, rfl⟩)
    rw [ok3_flag0] at h
    split at h
    · rename_i hw
      obtain ⟨v, hv, h⟩ := h
      refine wpAnyR_pure hoi (Region.noSelect_spec hsel) (fun c a u w => hnp c a _ u w) hms' _ listed a w (Region.free_spec hoi hf) hrd' (v := v) (.inl ⟨by rw [hgs, hw], fun w' => ?_⟩) (hc.held hh) ((wpAnyR_of_dwT hsel hops hQ hnp hPn t f _ _ _ _ _ _ hsz' (by omega) (hr.put hd v) (hc.set i) hh h).1 hpl)
      have := hv w'
      unfold opS at this
      rwa [execOp_strip, ← hr.eval] at this
    · rename_i hw
      exact wpAnyR_pure hoi (Region.noSelect_spec hsel) (fun c a u w => hnp c a _ u w) hms' _ listed a w (Region.free_spec hoi hf) hrd' (v := undef) (.inr ⟨by rw [hgs]; simpa using hw, rfl⟩) (hc.held hh) ((wpAnyR_of_dwT hsel hops hQ hnp hPn t f _ _ _ _ _ _ hsz' (by omega) (hr.put hd undef) (hc.set i) hh h).1 hpl)
  | .rd i m t, fuel, listed, rqA, rq, a, e, w, hsz, hdep, hr, hc, hh, h => by
    refine ⟨fun hp => ?_, fun acc hp => by simp [planOkT] at hp⟩
    simp only [planOkT, Bool.and_eq_true, List.all_eq_true, Bool.not_eq_true', decide_eq_true_eq] at hp
    obtain ⟨⟨⟨⟨⟨⟨⟨hrd, hf⟩, hms⟩, hmi⟩, hmD⟩, hdepo⟩, hunl⟩, hpl⟩ := hp
    have hrd' : i ∈ Region.ready .any ops listed := by simpa using hrd
    obtain ⟨_, oi, hoi, _⟩ := mem_ready.1 hrd'
    obtain ⟨hd, hg⟩ := hops oi (Array.mem_of_getElem? hoi)
    have hgetD : ops.getD i default = oi := by simp [Array.getD_eq_getD_getElem?, hoi]
    have hsz' : (listed.setIfInBounds i true).size = ops.size := by simp [hsz]
    simp only [PP.depth] at hdep
    obtain ⟨f, rfl⟩ : ∃ f, fuel = f + 1 := ⟨fuel - 1, by omega⟩
    simp only [planOpsT, dwT, hgetD] at h
    have hgs := gd_strip hr (af := flag (i, 1, m)) hg
    have hms' : ∀ x ∈ rqA, x.1.testBit i = false := fun x hx => by simpa using hms x.1 (List.mem_map.2 ⟨x, hx, rfl⟩)
    have hD : ∀ j oj, ops[j]? = some oj → (depMask ops i).testBit j = true → ∃ e ∈ oj.after, Region.binds .any e = true ∧ (e.on = i ∨ (depMask ops i).testBit e.on = true) := by
      intro j oj hj hb
      have h1 := List.all_eq_true.1 hdepo j (List.mem_range.2 (Array.getElem?_eq_some_iff.1 hj).1)
      simp only [hb, Bool.not_true, Bool.false_or, hj] at h1
      obtain ⟨e, he, h2⟩ := Array.any_eq_true'.1 h1
      simp only [Bool.and_eq_true, Bool.or_eq_true, beq_iff_eq] at h2
      exact ⟨e, he, h2.1, h2.2⟩
    have hun : live (depMask ops i) listed := by
      intro k hk
      simp only [unlistedB, Bool.and_eq_true, List.all_eq_true, List.mem_range] at hunl
      rcases Nat.lt_or_ge k ops.size with hlt | hge
      · have := hunl.2 k hlt
        simpa only [hk, Bool.not_true, Bool.false_or, Bool.not_eq_true'] using this
      · simp [Array.getElem?_eq_none (show listed.size ≤ k by omega)]
    rw [ok3_flag1] at h
    split at h
    · rename_i hw
      obtain ⟨v, hv, h⟩ := h
      have hv0 := hv
      unfold opS at hv
      rw [execOp_strip, ← hr.eval] at hv
      refine wpAnyR_read (S := fun w => (execOp a.eval oi).run P w = .ok (.value v) w) (D := depMask ops i) (m := m) hoi (Region.noSelect_spec hsel) (fun c a u w => hnp c a _ u w) hms' hmi (fun k hk => testBit_and_self hmD k hk) hD _ listed a w (Region.free_spec hoi hf) hrd' hun
        (v := v) (.inl ⟨by rw [hgs, hw], fun w' hw' => hw'⟩) hv (hc.held hh) ((wpAnyR_of_dwT hsel hops hQ hnp hPn t f _ ((m, _) :: rqA) (⟨m, strip ops (flag (i, 1, m)) oi, e, v⟩ :: rq) _ _ _ hsz' (by omega) (hr.put hd v) ?_ ?_ h).1 (by simpa using hpl))
      · intro x hx hl
        rcases List.mem_cons.1 hx with rfl | hx
        · refine .inr ⟨_, List.mem_cons_self, rfl, fun w hw' => ?_⟩
          unfold RQ.holds opS at hw'
          rwa [execOp_strip, ← hr.eval] at hw'
        · rcases hc x hx (live_of_set hl) with h | ⟨y, hy, h⟩
          · exact .inl h
          · exact .inr ⟨y, List.mem_cons_of_mem _ hy, h⟩
      · intro y hy
        rcases List.mem_cons.1 hy with rfl | hy
        · exact hv0
        · exact hh y hy
    · rename_i hw
      refine wpAnyR_read (S := fun _ => True) (D := depMask ops i) (m := m) hoi (Region.noSelect_spec hsel) (fun c a u w => hnp c a _ u w) hms' hmi (fun k hk => testBit_and_self hmD k hk) hD _ listed a w (Region.free_spec hoi hf) hrd' hun
        (v := undef) (.inr ⟨by rw [hgs]; simpa using hw, rfl⟩) trivial (hc.held hh) ((wpAnyR_of_dwT hsel hops hQ hnp hPn t f _ ((m, _) :: rqA) rq _ _ _ hsz' (by omega) (hr.put hd undef) ?_ hh h).1 (by simpa using hpl))
      intro x hx hl
      rcases List.mem_cons.1 hx with rfl | hx
      · exact .inl fun _ => trivial
      · exact hc x hx (live_of_set hl)
  | .eff i t more, fuel, listed, rqA, rq, a, e, w, hsz, hdep, hr, hc, hh, h => by
    simp only [PP.depth] at hdep
    obtain ⟨f, rfl⟩ : ∃ f, fuel = f + 1 := ⟨fuel - 1, by omega⟩
    simp only [planOpsT, dwT] at h
    obtain ⟨h, hmore⟩ := h
    have ihm := wpAnyR_of_dwT hsel hops hQ hnp hPn more (f + 1) listed rqA rq a e w hsz (by omega) hr hc hh hmore
    -- the one that comes first here
    have one : (Region.ready .any ops listed).contains i = true → planOkT ops t (listed.setIfInBounds i true) (rqA.map (·.1)) none = true → wpOp P ops Q i (wpAnyR P .any ops Q rqA f (listed.setIfInBounds i true)) a w := by
      intro hrd hpl
      have hrd' : i ∈ Region.ready .any ops listed := by simpa using hrd
      obtain ⟨_, oi, hoi, _⟩ := mem_ready.1 hrd'
      obtain ⟨hd, hg⟩ := hops oi (Array.mem_of_getElem? hoi)
      have hgetD : ops.getD i default = oi := by simp [Array.getD_eq_getD_getElem?, hoi]
      have hsz' : (listed.setIfInBounds i true).size = ops.size := by simp [hsz]
      have hgs := gd_strip hr (af := flag (i, 2, 0)) hg
      rw [hgetD] at h
      rw [ok3_flag2] at h
      have hil : i < listed.size := by rw [hsz]; exact (Array.getElem?_eq_some_iff.1 hoi).1
      have hcv : Cov P rqA (alive i rq) (listed.setIfInBounds i true) := by
        intro x hx hl
        rcases hc x hx (live_of_set hl) with h | ⟨y, hy, hm, h⟩
        · exact .inl h
        · refine .inr ⟨y, ?_, hm, h⟩
          unfold alive
          rw [List.mem_filter]
          refine ⟨hy, ?_⟩
          cases hb : y.mask.testBit i with
          | false => rfl
          | true =>
            have := hl i (hm ▸ hb)
            simp [hil] at this
      unfold wpOp
      simp only [hoi]
      rw [hgs]
      split at h
      · rename_i hw
        rw [if_pos hw]
        exact .inl (wp_of_upon hr h (fun v w' hk => (wpAnyR_of_dwT hsel hops hQ hnp hPn t f _ _ _ _ _ _ hsz' (by omega) (hr.put hd v) hcv (allHold_mem hk.1) hk.2).1 hpl) (fun _ _ h => h.elim) (fun _ _ hp => hPn _ _ _ _ hr hp))
      · rename_i hw
        rw [if_neg hw]
        exact (wpAnyR_of_dwT hsel hops hQ hnp hPn t f _ _ _ _ _ _ hsz' (by omega) (hr.put hd undef) (hc.set i) hh h).1 hpl
    constructor
    · intro hp
      simp only [planOkT, Bool.and_eq_true, Option.getD_none] at hp
      obtain ⟨⟨hrd, hpl⟩, hpm⟩ := hp
      refine ⟨hc.held hh, fun h0 => (by rw [h0] at hrd; simp at hrd), fun j hj => ?_⟩
      by_cases hji : j = i
      · subst hji; exact one hrd hpl
      · exact ihm.2 [i] hpm j hj (by simpa using hji)
    · intro acc hp j hj hn
      simp only [planOkT, Bool.and_eq_true, Option.getD_some] at hp
      obtain ⟨⟨hrd, hpl⟩, hpm⟩ := hp
      by_cases hji : j = i
      · subst hji; exact one hrd hpl
      · exact ihm.2 (i :: acc) hpm j hj (by simp [hji, hn])

def mkPlanT (types : Array TypeInfo) (ops : Array Oper) : Nat → Array Bool → PP
  | 0, _ => .done
  | f + 1, listed =>
    let rs := Region.ready .any ops listed
    match rs.find? fun i => (match ops[i]? with | some o => pureB types o.op | none => false) && Region.free .any ops listed i with
    | some i => .pur i (mkPlanT types ops f (listed.setIfInBounds i true))
    | none =>
      match rs.find? fun i => (match ops[i]? with | some o => readB types o.op | none => false) && Region.free .any ops listed i with
      | some i => .rd i (effMask types ops i) (mkPlanT types ops f (listed.setIfInBounds i true))
      | none =>
        match rs with
        | [] => .done
        | rs => rs.foldr (fun i more => .eff i (mkPlanT types ops f (listed.setIfInBounds i true)) more) .none

def compT (types : Array TypeInfo) (N : Nat) (ops : Array Oper) : Option PT :=
  if opsOk N ops then
    let pl := mkPlanT types ops (ops.size + 1) (Array.replicate ops.size false)
    if planOkT ops pl (Array.replicate ops.size false) [] none && decide (pl.depth ≤ ops.size) then some (planOpsT ops pl) else none
  else none

/-- The compiled code. -/
inductive Cd where
  | region (id : Nat) (ops : Array Oper) (draw : Bool)
  | tree (t : PT)
  | seq (a b : Cd)
  | cond (c : Operand) (a b : Cd)
  | block (id : Nat) (c : Cd)
  | loop (c : Cd)
  | skip
  | exit (id : Nat)
  | ret
  | label (l : Nat)
  | goto (l : Nat)
  | scope (c : Cd)
  | rangeFunc (g : Operand) (ps : Array Tmp) (assign body : Cd)
  | refuse (s : String)

/-- The code, compiled: each region stripped, or in its plan's order. -/
def comp (types : Array TypeInfo) (N : Nat) : Code → Cd
  | .region id ops d => match compR types N ops d with
    | some l => .region id l.toArray d
    | none => match (if d = true then compT types N ops else none) with
      | some t => .tree t
      | none => .refuse "region"
  | .seq a b => .seq (comp types N a) (comp types N b)
  | .cond c a b => .cond c (comp types N a) (comp types N b)
  | .block id c => .block id (comp types N c)
  | .loop c => .loop (comp types N c)
  | .skip => .skip
  | .exit id => .exit id
  | .ret => .ret
  | .label l => .label l
  | .goto l => .goto l
  | .scope c => .scope (comp types N c)
  | .rangeFunc g ps a b => if nodef a && nodef b && ps.toList.all (fun t => decide (t < N)) then .rangeFunc g ps (comp types N a) (comp types N b) else .refuse "rangeFunc"
  | .refuse s => .refuse s

/-! ### The compiled code's own condition -/

abbrev Post := Exit → FA → World → Prop

def thenP (next : FA → World → Prop) (Q : Post) : Post
  | .normal, e, w => next e w
  | x, e, w => Q x e w

def blockP (id : Nat) (Q : Post) : Post
  | .exit id', e, w => if id' = id then Q .normal e w else Q (.exit id') e w
  | x, e, w => Q x e w

def loopP (I : FA → World → Prop) (μ : FA → World → Nat) (e : FA) (w : World) (Q : Post) : Post
  | .normal, e', w' => I e' w' ∧ μ e' w' < μ e w
  | x, e', w' => Q x e' w'

/-- No jump to a label. -/
def scopeP (Q : Post) : Post
  | .goto _, _, _ => False
  | x, e, w => Q x e w

/-- Of an assignment to a loop's left sides: it ends, and that is that. -/
def onlyP (K : FA → World → Prop) : Post
  | .normal, e, w => K e w
  | _, _, _ => False

/-- A call of the yield of the loop l. -/
def YieldC (P : Program) (l : Nat) (args : Array Value) (w : World) (R : Ending → World → Prop) : Prop :=
  ∃ fn tmps assign body, (Instr.yield l args).run P w = .ok (.round l fn tmps assign body) w ∧ RoundC P l fn tmps assign body w R

theorem YieldC.mono {P : Program} {l : Nat} {args : Array Value} {w : World} {R R' : Ending → World → Prop} (h : YieldC P l args w R) (hr : ∀ e w, R e w → R' e w) : YieldC P l args w R' := by
  obtain ⟨fn, tmps, assign, body, h1, h2⟩ := h
  exact ⟨fn, tmps, assign, body, h1, RoundIn.mono h2 hr⟩

/-- How a round ends. -/
def roundP (l : Nat) (Rec : LoopState → Option Code → Obj) (R : Ending → World → Prop) : Post
  | .normal, _, w => w.heap[l]? = some (Rec .busy none) ∧ R (.returned (.bool true)) (w.putObj l (Rec .ready none))
  | .ret, _, w => w.heap[l]? = some (Rec .busy none) ∧ R (.returned (.bool false)) (w.putObj l (Rec .done (some .ret)))
  | .exit id, _, w => w.heap[l]? = some (Rec .busy none) ∧ R (.returned (.bool false)) (w.putObj l (Rec .done (some (.exit id))))
  | .goto t, _, w => w.heap[l]? = some (Rec .busy none) ∧ R (.returned (.bool false)) (w.putObj l (Rec .done (some (.goto t))))
  | .panic c, e, w => e.ds = [] ∧ R (.panicked c) w
  | _, _, _ => False

/-- The jump that a round has left. -/
def jumpP (Q : Post) : Option Code → FA → World → Prop
  | none, e, w => Q .normal e w
  | some .ret, e, w => Q .ret e w
  | some (.exit id), e, w => Q (.exit id) e w
  | some (.goto t), e, w => Q (.goto t) e w
  | _, _, _ => False

def putArgs : List Tmp → List Value → FA → FA
  | p :: ps, v :: vs, e => putArgs ps vs (e.put (some p) v)
  | _, _, e => e

/-- What is known of a loop's record, and of the calls of its yield. -/
structure LoopRec (P : Program) (l : Nat) (Rec : LoopState → Option Code → Obj) (rounds : Array Value → World → (Ending → World → Prop) → Prop) : Prop where
  isLoop : ∀ st pe, ∃ r, Rec st pe = .loop r
  yield : ∀ (args : Array Value) (W : World) (R : Ending → World → Prop), W.heap[l]? = some (Rec .ready none) → rounds args W R → YieldC P l args W R

/-- Where the loop's record comes to lie, the world then, and the mark among the deferred calls. -/
def loopAt (ro : Option Nat) (w : World) (Rec : LoopState → Option Code → Obj) : Nat × World × List Deferred :=
  match ro with
  | none => (w.heap.size + 1, (w.alloc (.deferred (some []))).alloc (Rec .ready none), [{ target := .collected w.heap.size, args := #[] }])
  | some _ => (w.heap.size, w.alloc (Rec .ready none), [])

/-- The loop around a round is a loop. -/
def outerOk (ro : Option Nat) (w : World) : Prop := ∀ l, ro = some l → ∃ r, w.heap[l]? = some (.loop r)

def fnOk0 (P : Program) (g : FuncId) : Bool :=
  match P.funcs[g]? with
  | some fn => fn.body.isSome && !(fn.name == "runtime.NumGoroutine")
  | none => false

/-- What these operations write. -/
def dstsOf (l : List Oper) : List Nat := l.filterMap (·.dst)
/-- A panic out of a region that draws: of the frame's slots those that it does not write are known, and what is put off. -/
def pnD (D : List Nat) (Q : Post) : List PanicEntry → FA → World → Prop := fun c e w => ∀ e' : FA, e'.ds = e.ds → (∀ t, D.contains t = false → e'.ρ t = e.ρ t) → Q (.panic c) e' w
/-- A panic out of a region that draws: the frame is not known, but for what is put off. -/
def pnP (Q : Post) : List PanicEntry → FA → World → Prop := fun c e w => ∀ e' : FA, e'.ds = e.ds → Q (.panic c) e' w

def cw (P : Program) (ro : Option Nat) : Cd → Post → FA → World → Prop
  | .skip, Q, e, w => Q .normal e w
  | .label _, Q, e, w => Q .normal e w
  | .exit id, Q, e, w => Q (.exit id) e w
  | .goto l, Q, e, w => Q (.goto l) e w
  | .ret, Q, e, w => Q .ret e w
  | .seq a b, Q, e, w => cw P ro a (thenP (cw P ro b Q) Q) e w
  | .cond c a b, Q, e, w => match e.ev c with
    | .bool true => cw P ro a Q e w
    | .bool false => cw P ro b Q e w
    | _ => False
  | .block id c, Q, e, w => cw P ro c (blockP id Q) e w
  | .loop c, Q, e, w => ∃ (I : FA → World → Prop) (μ : FA → World → Nat), I e w ∧ ∀ e w, I e w → cw P ro c (loopP I μ e w Q) e w
  | .region _ ops true, Q, e, w => dw P (pnD (dstsOf ops.toList) Q) (Q .normal) ops.toList [] e { w with drawn := w.drawn + 1 }
  | .region _ ops false, Q, e, w => ow P (fun c => Q (.panic c)) (Q .normal) ops.toList e w
  | .tree t, Q, e, w => dwT P (pnP Q) (Q .normal) t [] e { w with drawn := w.drawn + 1 }
  | .scope c, Q, e, w => cw P ro c (scopeP Q) e w
  | .rangeFunc g ps as body, Q, e, w => outerOk ro w ∧ ∃ gf lb, e.ev g = .func (.func gf) #[] lb ∧ fnOk0 P gf = true ∧ ∀ Rec : LoopState → Option Code → Obj,
      LoopRec P (loopAt ro w Rec).1 Rec (fun args W R => args.size = ps.size ∧
        cw P (some (loopAt ro w Rec).1) as (onlyP fun e1 W1 => W1.heap[(loopAt ro w Rec).1]? = some (Rec .ready none) ∧
          cw P (some (loopAt ro w Rec).1) body (roundP (loopAt ro w Rec).1 Rec R) e1 (W1.putObj (loopAt ro w Rec).1 (Rec .busy none))) (putArgs ps.toList args.toList { e with ds := [] }) W) →
      Calls P gf (#[.func (.yield (loopAt ro w Rec).1) #[] #[]] ++ lb) (loopAt ro w Rec).2.1
        (retK (fun _ W => ∃ st pe, W.heap[(loopAt ro w Rec).1]? = some (Rec st pe) ∧ st ≠ .busy ∧ jumpP Q pe { e with ds := (loopAt ro w Rec).2.2 ++ e.ds } (W.putObj (loopAt ro w Rec).1 (Rec .exhausted pe)))
          (fun c W => Q (.panic c) { e with ds := (loopAt ro w Rec).2.2 ++ e.ds } W))
  | .refuse _, _, _, _ => False

def liftP (N : Nat) (Q : Post) : Exit → Act → World → Prop := fun x a w => ∃ e, Rel N a e ∧ Q x e w

/-- In a region that draws: what came of it, or a panic, wherever among the reads it came. -/
def dieP (N : Nat) (Q : Post) : Exit → Act → World → Prop
  | .normal, a, w => liftP N Q .normal a w
  | .panic c, a, w => a.tmps.size = N ∧ ∀ e' : FA, e'.ds = a.defers → Q (.panic c) e' w
  | _, _, _ => False

theorem dieP_put {N : Nat} {Q : Post} (c : List PanicEntry) (a : Act) (d : Option Nat) (v : Value) (w : World) (h : dieP N Q (.panic c) (a.put d v) w) : dieP N Q (.panic c) a w := by
  obtain ⟨h1, h2⟩ := h
  cases d with
  | none => exact ⟨h1, h2⟩
  | some d => exact ⟨by simpa [Act.put] using h1, h2⟩

theorem dieP_lift {N : Nat} {Q : Post} {x : Exit} {a : Act} {w : World} (h : dieP N Q x a w) : liftP N Q x a w := by
  cases x with
  | normal => exact h
  | panic c => exact ⟨⟨fun t => a.tmps.getD t undef, a.defers⟩, ⟨h.1, fun _ => rfl, rfl⟩, h.2 _ rfl⟩
  | exit i => exact h.elim
  | goto l => exact h.elim
  | ret => exact h.elim
  | outgrown => exact h.elim

def dieD (N : Nat) (D : List Nat) (Q : Post) : Exit → Act → World → Prop
  | .normal, a, w => liftP N Q .normal a w
  | .panic c, a, w => a.tmps.size = N ∧ ∀ e' : FA, e'.ds = a.defers → (∀ t, D.contains t = false → e'.ρ t = a.tmps.getD t undef) → Q (.panic c) e' w
  | _, _, _ => False
theorem dieD_put {N : Nat} {D : List Nat} {Q : Post} {d : Option Nat} (hd : ∀ t, d = some t → D.contains t = true) (c : List PanicEntry) (a : Act) (v : Value) (w : World) (h : dieD N D Q (.panic c) (a.put d v) w) : dieD N D Q (.panic c) a w := by
  obtain ⟨h1, h2⟩ := h
  cases d with
  | none => exact ⟨h1, h2⟩
  | some d =>
    refine ⟨by simpa [Act.put] using h1, fun e' he ht => h2 e' he fun t k => ?_⟩
    have hne : d ≠ t := fun e => by rw [← e, hd d rfl] at k; cases k
    rw [ht t k]
    simp [Act.put, Array.getElem?_setIfInBounds_ne hne]
theorem dieD_lift {N : Nat} {D : List Nat} {Q : Post} {x : Exit} {a : Act} {w : World} (h : dieD N D Q x a w) : liftP N Q x a w := by
  cases x with
  | normal => exact h
  | panic c => exact ⟨⟨fun t => a.tmps.getD t undef, a.defers⟩, ⟨h.1, fun _ => rfl, rfl⟩, h.2 _ rfl fun _ _ => rfl⟩
  | exit i => exact h.elim
  | goto l => exact h.elim
  | ret => exact h.elim
  | outgrown => exact h.elim

theorem Rel.putArgsL {N : Nat} : ∀ (ps : List Tmp) (vs : List Value) {a : Act} {e : FA}, (∀ p ∈ ps, p < N) → Rel N a e →
    Rel N { a with tmps := (ps.zip vs).foldl (fun t p => t.setIfInBounds p.1 p.2) a.tmps } (Proofs.YtacmnfpgimgigaaGreat.putArgs ps vs e)
  | [], vs, a, e, _, h => by simpa [Proofs.YtacmnfpgimgigaaGreat.putArgs] using h
  | p :: ps, [], a, e, _, h => by simpa [Proofs.YtacmnfpgimgigaaGreat.putArgs] using h
  | p :: ps, v :: vs, a, e, hp, h => by
    have h1 : Rel N { a with tmps := a.tmps.setIfInBounds p v } (e.put (some p) v) := Rel.put h (d := some p) (by simpa [dstOk] using hp p (by simp)) v
    have := Rel.putArgsL ps vs (fun q hq => hp q (by simp [hq])) h1
    simpa [Proofs.YtacmnfpgimgigaaGreat.putArgs] using this

theorem Rel.putArgs {N : Nat} (ps : Array Tmp) (vs : Array Value) {a : Act} {e : FA} (hp : ∀ p ∈ ps.toList, p < N) (h : Rel N a e) :
    Rel N { a with tmps := (ps.zip vs).foldl (fun t (p, v) => t.setIfInBounds p v) a.tmps } (Proofs.YtacmnfpgimgigaaGreat.putArgs ps.toList vs.toList e) := by
  have := Rel.putArgsL ps.toList vs.toList hp h
  rw [← Array.foldl_toList, Array.toList_zip]
  exact this

theorem stepR_scope {P : Program} {b : Frame} {a : Act} {k : List Item} {cs : List Frame} {w : World} {c : Code} : step P (lone (b.atR a (.code (.scope c) :: k)) cs w) = .next (lone (b.atR a (.code c :: .inScope c :: k)) cs w) :=
  step_lone_go (by simp [stepG, stepG.exec, Frame.atR])
theorem stepR_inScope {P : Program} {b : Frame} {a : Act} {k : List Item} {cs : List Frame} {w : World} {c : Code} : step P (lone (b.atR a (.inScope c :: k)) cs w) = .next (lone (b.atR a k) cs w) :=
  step_lone_go (by simp [stepG, stepG.exec, Frame.atR])

theorem wpIn_scope {P : Program} {F : Fence} {n : Nat} {c : Code} {Q : Exit → Act → World → Prop} {a : Act} {w : World} (h : c.wpIn F n P (Exit.noGoto Q) a w) : (Code.scope c).wpIn F n P Q a w := by
  intro b k cs hro hb hr
  have h0 : (lone (b.atR a (.code (.scope c) :: k)) cs w).fenced P F := fenced_calm hb hr rfl
  obtain ⟨e, a₁, w₁, hq, harr⟩ := h b (.inScope c :: k) cs hro hb hr
  cases e with
  | normal => exact ⟨.normal, a₁, w₁, hq, .head h0 stepR_scope (StepsIn.trans harr (.one (fenced_calm hb hr rfl) stepR_inScope))⟩
  | exit id =>
    have hx : exitTo id (.inScope c :: k) = exitTo id k := by simp [exitTo]
    exact ⟨.exit id, a₁, w₁, hq, fun k' hk => .head h0 stepR_scope (harr.1 k' (by rw [hx]; exact hk)),
      fun hr' hk => let ⟨k₁, h1, h2⟩ := harr.2 hr' (by rw [hx]; exact hk); ⟨k₁, h1, .head h0 stepR_scope h2⟩⟩
  | goto l => exact hq.elim
  | ret => exact ⟨_, a₁, w₁, hq, .of_steps (.one h0 stepR_scope) harr⟩
  | panic ch => exact ⟨_, a₁, w₁, hq, .of_steps (.one h0 stepR_scope) harr⟩
  | outgrown => exact ⟨_, a₁, w₁, hq, .of_steps (.one h0 stepR_scope) harr⟩

theorem fnOk0_run {P : Program} {g : FuncId} (h : fnOk0 P g = true) (args : Array Value) (w : World) : (callFunc g args).run P w = .ok (.enter g args) w := by
  unfold fnOk0 at h
  split at h <;> try (cases h; done)
  rename_i fn hfn
  simp only [Bool.and_eq_true, Bool.not_eq_true'] at h
  have hnn : fn.body.isNone = false := by cases hb : fn.body <;> simp_all
  simp only [callFunc, program, Sem.run_bind, Sem.run, Result.andThen_ok, hfn, h.2, hnn, Bool.false_eq_true, if_false]
  rfl

theorem not_letsOutE {N : Nat} {D : List Nat} {Q : Post} : ¬ LetsOut (dieD N D Q) := by
  rintro ⟨a, w, h⟩
  exact h

theorem not_letsOutD {N : Nat} {Q : Post} : ¬ LetsOut (dieP N Q) := by
  rintro ⟨a, w, h⟩
  exact h

theorem cw_sound {P : Program} {types : Array TypeInfo} {N : Nat} (hm : P.follows .mixedOrders = true) : ∀ (c : Code) (ro : Option Nat) (Q : Post) (e : FA) (w : World), noRange c = true → (ro.isSome = true → nodef c = true) → cw P ro (comp types N c) Q e w → ∀ a, Rel N a e → ∀ n, c.wpIn (Fr ro) n P (liftP N Q) a w
  | .skip, _, _, e, _, _, _, h, _, hr, _ => wpIn_skip ⟨e, hr, h⟩
  | .label _, _, _, e, _, _, _, h, _, hr, _ => wpIn_label ⟨e, hr, h⟩
  | .exit _, _, _, e, _, _, _, h, _, hr, _ => wpIn_exit ⟨e, hr, h⟩
  | .goto _, _, _, e, _, _, _, h, _, hr, _ => wpIn_goto ⟨e, hr, h⟩
  | .ret, _, _, e, _, _, _, h, _, hr, _ => wpIn_ret ⟨e, hr, h⟩
  | .seq x y, ro, Q, e, w, hp, hn, h, a, hr, n => by
    simp only [noRange, Bool.and_eq_true] at hp
    have hn1 : ro.isSome = true → nodef x = true := fun hs => by have := hn hs; simp only [nodef, Bool.and_eq_true] at this; exact this.1
    have hn2 : ro.isSome = true → nodef y = true := fun hs => by have := hn hs; simp only [nodef, Bool.and_eq_true] at this; exact this.2
    refine wpIn_seq (wpIn_mono (cw_sound hm x ro _ e w hp.1 hn1 h a hr n) ?_)
    rintro ex a' w' ⟨e', hr', hq⟩
    cases ex with
    | normal => exact cw_sound hm y ro _ e' w' hp.2 hn2 hq a' hr' n
    | _ => exact ⟨e', hr', hq⟩
  | .cond c x y, ro, Q, e, w, hp, hn, h, a, hr, n => by
    simp only [noRange, Bool.and_eq_true] at hp
    have hn1 : ro.isSome = true → nodef x = true := fun hs => by have := hn hs; simp only [nodef, Bool.and_eq_true] at this; exact this.1
    have hn2 : ro.isSome = true → nodef y = true := fun hs => by have := hn hs; simp only [nodef, Bool.and_eq_true] at this; exact this.2
    simp only [comp, cw] at h
    rw [← hr.eval] at h
    split at h
    · rename_i hb; exact wpIn_cond_true hb (cw_sound hm x ro _ e w hp.1 hn1 h a hr n)
    · rename_i hb; exact wpIn_cond_false hb (cw_sound hm y ro _ e w hp.2 hn2 h a hr n)
    · exact h.elim
  | .block id c, ro, Q, e, w, hp, hn, h, a, hr, n => by
    refine wpIn_block (wpIn_mono (cw_sound hm c ro _ e w hp hn h a hr n) ?_)
    rintro ex a' w' ⟨e', hr', hq⟩
    cases ex with
    | exit id' =>
      simp only [blockP, Exit.inBlock] at hq ⊢
      split
      · rename_i hid; rw [if_pos hid] at hq; exact ⟨e', hr', hq⟩
      · rename_i hid; rw [if_neg hid] at hq; exact ⟨e', hr', hq⟩
    | _ => exact ⟨e', hr', hq⟩
  | .loop c, ro, Q, e, w, hp, hn, h, a, hr, n => by
    obtain ⟨I, μ, h0, h1⟩ := h
    refine wpIn_loop (fun a w => ∃ e, Rel N a e ∧ I e w) (fun a w => μ ⟨fun t => a.tmps.getD t undef, a.defers⟩ w) ⟨e, hr, h0⟩ ?_
    rintro a1 w1 ⟨e1, hr1, hI⟩
    have hfa : ∀ {a e}, Rel N a e → (⟨fun t => a.tmps.getD t undef, a.defers⟩ : FA) = e := by
      rintro a ⟨ρ, ds⟩ h
      have h1 : (fun t => a.tmps.getD t undef) = ρ := funext h.val
      have h2 : a.defers = ds := h.ds
      rw [h1, h2]
    refine wpIn_mono (cw_sound hm c ro _ e1 w1 hp hn (h1 e1 w1 hI) a1 hr1 n) ?_
    rintro ex a' w' ⟨e', hr', hq⟩
    cases ex with
    | normal => exact ⟨⟨e', hr', hq.1⟩, by rw [hfa hr', hfa hr1]; exact hq.2⟩
    | _ => exact ⟨e', hr', hq⟩
  | .region id ops true, ro, Q, e, w, hp, hn, h, a, hr, n => by
    have hnd : ro.isSome = true → ∀ o ∈ ops.toList, notDefer o = true := fun hs => by
      have := hn hs
      simp only [nodef, List.all_eq_true] at this
      exact this
    unfold comp at h
    split at h
    · rename_i l hl
      simp only [compR, if_true] at hl
      by_cases ho : opsOk N ops = true
      · rw [if_pos ho] at hl
        split at hl
        case isFalse => cases hl
        rename_i hp
        simp only [Bool.and_eq_true, beq_iff_eq] at hp
        obtain ⟨hpl, hlen⟩ := hp
        simp only [Option.some.injEq] at hl
        subst hl
        simp only [opsOk, Bool.and_eq_true, Array.all_eq_true_iff_forall_mem] at ho
        simp only [cw] at h
        have hdst : ∀ x ∈ mkPlan types ops ops.size (Array.replicate ops.size false), ∀ t, (ops.getD x.1 default).dst = some t → (dstsOf (planOps ops (mkPlan types ops ops.size (Array.replicate ops.size false)))).contains t = true := fun x hx t ht => by
          simp only [List.contains_iff_mem, dstsOf, List.mem_filterMap]
          exact ⟨strip ops (flag x) (ops.getD x.1 default), List.mem_map.2 ⟨x, hx, rfl⟩, ht⟩
        have key := wpAnyR_of_dw (P := P) (N := N) (Q := dieD N (dstsOf (planOps ops (mkPlan types ops ops.size (Array.replicate ops.size false)))) Q) (K := Q .normal) ho.1 (fun o hm => ho.2 o hm) (fun a e w hr hk => ⟨e, hr, hk⟩) (Pn := pnD (dstsOf (planOps ops (mkPlan types ops ops.size (Array.replicate ops.size false)))) Q) (fun c a e w hr h => ⟨hr.size, fun e' he' ht => h e' (he'.trans hr.ds) fun t k => (ht t k).trans (hr.val t)⟩)
          (mkPlan types ops ops.size (Array.replicate ops.size false)) (fun x hx => dieD_put (hdst x hx)) (Array.replicate ops.size false) [] [] a e { w with drawn := w.drawn + 1 } (by simp) (by simpa using hpl) hr (by intro x hx; cases hx) (by intro y hy; cases hy) (by simpa using h)
        rw [hlen] at key
        exact wpIn_mono (wpIn_region_any (Q := dieD N _ Q) hm (wpAnyIn_of_wpAny not_letsOutE hnd _ _ _ _ (wpAny_of_R _ _ _ _ key))) (fun x a w h => dieD_lift h)
      · rw [if_neg ho] at hl
        cases hl
    · split at h
      · rename_i t ht
        simp only [compT, if_true] at ht
        by_cases ho : opsOk N ops = true
        · rw [if_pos ho] at ht
          split at ht
          case isFalse => cases ht
          rename_i hp
          simp only [Bool.and_eq_true, decide_eq_true_eq] at hp
          obtain ⟨hpl, hdep⟩ := hp
          simp only [Option.some.injEq] at ht
          subst ht
          simp only [opsOk, Bool.and_eq_true, Array.all_eq_true_iff_forall_mem] at ho
          simp only [cw] at h
          have key := (wpAnyR_of_dwT (P := P) (N := N) (Q := dieP N Q) (K := Q .normal) ho.1 (fun o hm => ho.2 o hm) (fun a e w hr hk => ⟨e, hr, hk⟩) (Pn := pnP Q) dieP_put (fun c a e w hr h => ⟨hr.size, fun e' he' => h e' (he'.trans hr.ds)⟩)
            (mkPlanT types ops (ops.size + 1) (Array.replicate ops.size false)) ops.size (Array.replicate ops.size false) [] [] a e { w with drawn := w.drawn + 1 } (by simp) hdep hr (by intro x hx; cases hx) (by intro y hy; cases hy) h).1 (by simpa using hpl)
          exact wpIn_mono (wpIn_region_any (Q := dieP N Q) hm (wpAnyIn_of_wpAny not_letsOutD hnd _ _ _ _ (wpAny_of_R _ _ _ _ key))) (fun x a w h => dieP_lift h)
        · rw [if_neg ho] at ht
          cases ht
      · exact h.elim
  | .region id ops false, ro, Q, e, w, hp, hn, h, a, hr, n => by
    unfold comp at h
    split at h
    · rename_i l hl
      simp only [compR, Bool.false_eq_true, if_false] at hl
      by_cases ho : opsOk N ops = true
      · rw [if_pos ho] at hl
        simp only [Option.some.injEq] at hl
        subst hl
        simp only [opsOk, Bool.and_eq_true, Array.all_eq_true_iff_forall_mem] at ho
        simp only [cw] at h
        have hnd : ro.isSome = true → ∀ o ∈ ops.toList, notDefer o = true := fun hs => by
          have := hn hs
          simp only [nodef, List.all_eq_true] at this
          exact this
        refine wpIn_region_list (wpListIn_of_ow (N := N) (K := Q .normal) (Pc := fun c => Q (.panic c)) (fun a e w hr hk => ⟨e, hr, hk⟩) (fun c a e w hr hk => ⟨e, hr, hk⟩) (fun o => kflag types o.op) ops.toList (fun o hm => ho.2 o (by simpa using hm)) hnd a e w hr (by simpa using h))
      · rw [if_neg ho] at hl
        cases hl
    · exact h.elim
  | .scope c, ro, Q, e, w, hp, hn, h, a, hr, n => by
    refine wpIn_scope (wpIn_mono (cw_sound hm c ro _ e w hp hn h a hr n) ?_)
    rintro ex a' w' ⟨e', hr', hq⟩
    cases ex <;> first | exact ⟨e', hr', hq⟩ | exact hq.elim
  | .rangeFunc _ _ _ _, _, _, _, _, hp, _, _, _, _, _ => (by cases hp)
  | .refuse _, _, _, _, _, _, _, h, _, _, _ => h.elim

/-! ### In frames of the program's functions: loops over functions, panics out of their rounds too -/

/-- As 'wpIn', for the frames of functions that are there. -/
def wpB (P : Program) (ro : Option Nat) (c : Code) (Q : Exit → Act → World → Prop) (a : Act) (w : World) : Prop :=
  ∀ (b : Frame) (k : List Item) (cs : List Frame), b.roundOf = ro → (P.funcs[b.fn]?).isSome = true →
    ∃ e a' w', Q e a' w' ∧ ArrivesIn (Machine.fenced P Fence.wide) P (lone (b.atR a (.code c :: k)) cs w) b k cs e a' w'

theorem wpB_of {P : Program} {ro : Option Nat} {c : Code} {Q : Exit → Act → World → Prop} {a : Act} {w : World} (h : c.wpIn (Fr ro) 0 P Q a w) : wpB P ro c Q a w :=
  fun b k cs hro _ => h b k cs hro trivial (fun _ hd => by cases hd)
theorem wpB_mono {P : Program} {ro : Option Nat} {c : Code} {Q Q' : Exit → Act → World → Prop} {a : Act} {w : World} (h : wpB P ro c Q a w) (hq : ∀ e a w, Q e a w → Q' e a w) : wpB P ro c Q' a w := by
  intro b k cs hro hf
  obtain ⟨e, a', w', q, r⟩ := h b k cs hro hf
  exact ⟨e, a', w', hq _ _ _ q, r⟩
theorem one_wide {P : Program} {m m' : Machine} (h : step P m = .next m') : StepsIn (Machine.fenced P Fence.wide) P m m' := .one (fenced_wide P m) h

theorem wpB_seq {P : Program} {ro : Option Nat} {x y : Code} {Q : Exit → Act → World → Prop} {a : Act} {w : World} (h : wpB P ro x (fun | .normal, a, w => wpB P ro y Q a w | e, a, w => Q e a w) a w) : wpB P ro (.seq x y) Q a w := by
  intro b k cs hro hf
  have s0 := one_wide (stepR_seq (P := P) (b := b) (a := a) (k := k) (cs := cs) (w := w) (x := x) (y := y))
  obtain ⟨e, a1, w1, hq, hr⟩ := h b (.code y :: k) cs hro hf
  match e, hq, hr with
  | .normal, hq, hr =>
    obtain ⟨e2, a2, w2, hq2, hr2⟩ := hq b k cs hro hf
    exact ⟨e2, a2, w2, hq2, .of_steps (s0.trans hr) hr2⟩
  | .exit i, hq, hr => exact ⟨_, a1, w1, hq, .of_steps s0 (.pass (x := .code y) rfl (fun _ _ => .inl (by simp)) hr)⟩
  | .goto l, hq, hr => exact ⟨_, a1, w1, hq, .of_steps s0 (.pass (x := .code y) rfl (fun _ _ => .inl (by simp)) hr)⟩
  | .ret, hq, hr => exact ⟨_, a1, w1, hq, .of_steps s0 (.pass (x := .code y) rfl (fun _ _ => .inl (by simp)) hr)⟩
  | .panic c, hq, hr => exact ⟨_, a1, w1, hq, .of_steps s0 (.pass (x := .code y) rfl (fun _ _ => .inl (by simp)) hr)⟩
  | .outgrown, hq, hr => exact ⟨_, a1, w1, hq, .of_steps s0 (.pass (x := .code y) rfl (fun _ _ => .inl (by simp)) hr)⟩

theorem wpB_cond {P : Program} {ro : Option Nat} {c : Operand} {x y : Code} {t : Bool} {Q : Exit → Act → World → Prop} {a : Act} {w : World} (hc : a.eval c = .bool t) (h : wpB P ro (if t then x else y) Q a w) : wpB P ro (.cond c x y) Q a w := by
  intro b k cs hro hf
  obtain ⟨e, a1, w1, hq, hr⟩ := h b k cs hro hf
  exact ⟨e, a1, w1, hq, .of_steps (one_wide (stepR_cond hc)) hr⟩

theorem wpB_block {P : Program} {ro : Option Nat} {id : Nat} {c : Code} {Q : Exit → Act → World → Prop} {a : Act} {w : World}
    (h : wpB P ro c (fun | .exit i, a, w => if i = id then Q .normal a w else Q (.exit i) a w | e, a, w => Q e a w) a w) : wpB P ro (.block id c) Q a w := by
  intro b k cs hro hf
  have s0 := one_wide (stepR_block (P := P) (b := b) (a := a) (k := k) (cs := cs) (w := w) (id := id) (c := c))
  obtain ⟨e, a1, w1, hq, hr⟩ := h b (.inBlock id :: k) cs hro hf
  match e, hq, hr with
  | .normal, hq, hr => exact ⟨.normal, a1, w1, hq, (s0.trans hr).trans (one_wide stepR_inBlock)⟩
  | .exit i, hq, hr =>
    by_cases he : i = id
    · subst he
      simp only [if_true] at hq
      exact ⟨.normal, a1, w1, hq, s0.trans (hr.1 k (by simp [exitTo]))⟩
    · simp only [he, if_false] at hq
      have hb : (id == i) = false := beq_false_of_ne fun x => he x.symm
      have hx : exitTo i (.inBlock id :: k) = exitTo i k := by simp [exitTo, hb]
      refine ⟨.exit i, a1, w1, hq, fun k' hk => s0.trans (hr.1 k' (hx.trans hk)), fun hs hk => ?_⟩
      obtain ⟨k1, h1, h2⟩ := hr.2 hs (hx.trans hk)
      exact ⟨k1, h1, s0.trans h2⟩
  | .goto l, hq, hr =>
    have hx : gotoIn l (.inBlock id :: k) = gotoIn l k := by simp [gotoIn]
    refine ⟨.goto l, a1, w1, hq, fun k' hk => s0.trans (hr.1 k' (hx.trans hk)), fun hs hk => ?_⟩
    obtain ⟨k1, h1, h2⟩ := hr.2 hs (hx.trans hk)
    exact ⟨k1, h1, s0.trans h2⟩
  | .ret, hq, hr => exact ⟨_, a1, w1, hq, .of_steps s0 hr⟩
  | .panic c, hq, hr => exact ⟨_, a1, w1, hq, .of_steps s0 hr⟩
  | .outgrown, hq, hr => exact ⟨_, a1, w1, hq, .of_steps s0 hr⟩

theorem wpB_loop {P : Program} {ro : Option Nat} {c : Code} {Q : Exit → Act → World → Prop} {a : Act} {w : World} (I : Act → World → Prop) (μ : Act → World → Nat) (h0 : I a w)
    (hround : ∀ a w, I a w → wpB P ro c (fun | .normal, a', w' => I a' w' ∧ μ a' w' < μ a w | e, a', w' => Q e a' w') a w) : wpB P ro (.loop c) Q a w := by
  intro b k cs hro hf
  have go : ∀ (j : Nat) (a : Act) (w : World), μ a w ≤ j → I a w → ∃ e a' w', Q e a' w' ∧ ArrivesIn (Machine.fenced P Fence.wide) P (lone (b.atR a (.code c :: .inLoop c :: k)) cs w) b k cs e a' w' := by
    intro j
    induction j using Nat.strongRecOn with
    | _ j ih =>
      intro a w hj hI
      obtain ⟨e, a1, w1, hq, hr⟩ := hround a w hI b (.inLoop c :: k) cs hro hf
      match e, hq, hr with
      | .normal, hq, hr =>
        obtain ⟨e2, a2, w2, hq2, hr2⟩ := ih (μ a1 w1) (Nat.lt_of_lt_of_le hq.2 hj) a1 w1 (Nat.le_refl _) hq.1
        exact ⟨e2, a2, w2, hq2, .of_steps (StepsIn.trans hr (one_wide stepR_inLoop)) hr2⟩
      | .exit i, hq, hr => exact ⟨_, a1, w1, hq, .pass (x := .inLoop c) rfl (fun _ _ => .inl (by simp)) hr⟩
      | .goto l, hq, hr => exact ⟨_, a1, w1, hq, .pass (x := .inLoop c) rfl (fun _ _ => .inl (by simp)) hr⟩
      | .ret, hq, hr => exact ⟨_, a1, w1, hq, .pass (x := .inLoop c) rfl (fun _ _ => .inl (by simp)) hr⟩
      | .panic c', hq, hr => exact ⟨_, a1, w1, hq, .pass (x := .inLoop c) rfl (fun _ _ => .inl (by simp)) hr⟩
      | .outgrown, hq, hr => exact ⟨_, a1, w1, hq, .pass (x := .inLoop c) rfl (fun _ _ => .inl (by simp)) hr⟩
  obtain ⟨e, a', w', hq, hr⟩ := go _ a w (Nat.le_refl _) h0
  exact ⟨e, a', w', hq, .of_steps (one_wide stepR_loop) hr⟩

theorem wpB_scope {P : Program} {ro : Option Nat} {c : Code} {Q : Exit → Act → World → Prop} {a : Act} {w : World} (h : wpB P ro c (fun | .goto _, _, _ => False | e, a, w => Q e a w) a w) : wpB P ro (.scope c) Q a w := by
  intro b k cs hro hf
  have s0 := one_wide (stepR_scope (P := P) (b := b) (a := a) (k := k) (cs := cs) (w := w) (c := c))
  obtain ⟨e, a1, w1, hq, hr⟩ := h b (.inScope c :: k) cs hro hf
  match e, hq, hr with
  | .normal, hq, hr => exact ⟨.normal, a1, w1, hq, (s0.trans hr).trans (one_wide stepR_inScope)⟩
  | .exit i, hq, hr =>
    have hx : exitTo i (.inScope c :: k) = exitTo i k := by simp [exitTo]
    refine ⟨.exit i, a1, w1, hq, fun k' hk => s0.trans (hr.1 k' (hx.trans hk)), fun hs hk => ?_⟩
    obtain ⟨k1, h1, h2⟩ := hr.2 hs (hx.trans hk)
    exact ⟨k1, h1, s0.trans h2⟩
  | .goto l, hq, hr => exact hq.elim
  | .ret, hq, hr => exact ⟨_, a1, w1, hq, .of_steps s0 hr⟩
  | .panic c, hq, hr => exact ⟨_, a1, w1, hq, .of_steps s0 hr⟩
  | .outgrown, hq, hr => exact ⟨_, a1, w1, hq, .of_steps s0 hr⟩

/-- How a round is left: by a panic, too. -/
def roundEnd (P : Program) (l : Nat) (R : Ending → World → Prop) : Exit → Act → World → Prop
  | .normal, _, w => ∃ v w', (Instr.endRound l none).run P w = .ok v w' ∧ R (.returned v) w'
  | .ret, _, w => ∃ v w', (Instr.endRound l (some .ret)).run P w = .ok v w' ∧ R (.returned v) w'
  | .exit i, _, w => ∃ v w', (Instr.endRound l (some (.exit i))).run P w = .ok v w' ∧ R (.returned v) w'
  | .goto t, _, w => ∃ v w', (Instr.endRound l (some (.goto t))).run P w = .ok v w' ∧ R (.returned v) w'
  | .panic c, a, w => a.defers = [] ∧ R (.panicked c) w
  | .outgrown, _, _ => False

theorem roundC_of_wpB {P : Program} {l : Nat} {f : FuncId} {tmps : Array Value} {assign body : Code} {w : World} {R : Ending → World → Prop} (hf : (P.funcs[f]?).isSome = true)
    (h : wpB P (some l) assign (fun | .normal, a, w1 => ∃ w2, (Instr.beginRound l).run P w1 = .ok () w2 ∧ wpB P (some l) body (roundEnd P l R) a w2 | _, _, _ => False) { tmps, defers := [] } w) : RoundC P l f tmps assign body w R := by
  refine ⟨trivial, fun c cs _ => ?_⟩
  obtain ⟨b, hb⟩ : ∃ b : Frame, b = { (default : Frame) with fn := f, kind := .normal, roundOf := some l } := ⟨_, rfl⟩
  have hro : b.roundOf = some l := by rw [hb]
  have hkd : b.kind = .normal := by rw [hb]
  have hbf : (P.funcs[b.fn]?).isSome = true := by rw [hb]; exact hf
  have e0 : Frame.round l f tmps assign body .normal = b.atR { tmps, defers := [] } [.code assign, .beginRound, .code body] := by
    rw [hb]; simp [Frame.round, Frame.atR]
  rw [e0]
  obtain ⟨e, a1, w1, hq, hr⟩ := h b [.beginRound, .code body] (c :: cs) hro hbf
  match e, hq, hr with
  | .normal, ⟨w2, hbr, hbody⟩, hr =>
    have s1 := StepsIn.trans hr (one_wide (stepR_beginRound (k := [.code body]) hro hbr))
    obtain ⟨e2, a2, w3, hq2, hr2⟩ := hbody b [] (c :: cs) hro hbf
    match e2, hq2, hr2 with
    | .normal, ⟨v, w4, he, hR⟩, hr2 => exact ⟨.returned v, w4, hR, (s1.trans hr2).trans (one_wide (stepR_round_end hro hkd he))⟩
    | .ret, ⟨v, w4, he, hR⟩, hr2 =>
      obtain ⟨k1, hs⟩ := hr2.2 (by rw [hro]; rfl)
      exact ⟨.returned v, w4, hR, (s1.trans hs).trans (one_wide (stepR_round_ret hro hkd he))⟩
    | .exit i, ⟨v, w4, he, hR⟩, hr2 =>
      obtain ⟨k1, hk, hs⟩ := hr2.2 (by rw [hro]; rfl) rfl
      exact ⟨.returned v, w4, hR, (s1.trans hs).trans (one_wide (stepR_round_exit hro hkd hk he))⟩
    | .goto t, ⟨v, w4, he, hR⟩, hr2 =>
      obtain ⟨k1, hk, hs⟩ := hr2.2 (by rw [hro]; rfl) rfl
      exact ⟨.returned v, w4, hR, (s1.trans hs).trans (one_wide (stepR_round_goto hro hkd hk he))⟩
    | .panic ch, ⟨hd, hR⟩, hr2 =>
      obtain ⟨todo, hs⟩ := hr2
      obtain ⟨fn, hfn⟩ := Option.isSome_iff_exists.1 hbf
      refine ⟨.panicked ch, w3, hR, (s1.trans hs).trans (one_wide (step_leave_panicked (w := w3) ⟨rfl, ?_, fn, ?_⟩))⟩
      · simpa [Frame.atR] using hd
      · simpa [Frame.atR] using hfn

/-- What comes of the function that is gone through. -/
def rangeEnd (P : Program) (ro : Option Nat) (l : Nat) (Q : Exit → Act → World → Prop) (a' : Act) : Ending → World → Prop
  | .returned _, w => ∃ jump w', (Instr.endLoop l).run P w = .ok jump w' ∧ (match jump with | none => Q .normal a' w' | some c => wpB P ro c Q a' w')
  | .panicked c, w => Q (.panic c) a' w
  | .outgrown, _ => False

theorem wpB_rangeFunc {P : Program} {ro : Option Nat} {g : Operand} {ps : Array Tmp} {assign body : Code} {Q : Exit → Act → World → Prop} {a : Act} {w : World}
    (h : ∀ fn, (P.funcs[fn]?).isSome = true → ∃ (l : Nat) (mark : List Deferred) (w1 : World) (d : Deferred) (w1' : World) (f : FuncId) (args : Array Value) (w2 : World),
      (Instr.enterLoop fn a.tmps ps assign body ro).run P w = .ok (l, mark) w1 ∧ (resolve a.eval (rangeCall g l) 0).run P w1 = .ok d w1' ∧
      (invoke d.target d.args).run P w1' = .ok (.enter f args) w2 ∧ Calls P f args w2 (rangeEnd P ro l Q { a with defers := mark ++ a.defers })) : wpB P ro (.rangeFunc g ps assign body) Q a w := by
  intro b k cs hro hf
  obtain ⟨l, mark, w1, d, w1', f, args, w2, he, hres, hinv, hcall⟩ := h b.fn hf
  rw [← hro] at he
  have s0 := one_wide (stepR_rangeFunc (P := P) (b := b) (a := a) (k := k) (cs := cs) (w := w) he hres hinv)
  obtain ⟨e, w3, fr, hR, hs, hfn, hlv⟩ := (callsC_of (ro := none) (n := 0) hcall).2 (b.atR { a with defers := mark ++ a.defers } (.inRangeFunc l :: k) :: cs) (room_wide _)
  match e, hR, hs, hlv with
  | .returned v, hR, hs, hlv =>
    obtain ⟨jump, w4, hend, hj⟩ := hR
    have s1 := step_leave_returned (c := b.atR { a with defers := mark ++ a.defers } (.inRangeFunc l :: k)) (cs := cs) hlv
    rw [finish_atR_inRangeFunc] at s1
    have sb := ((s0.trans hs).trans (one_wide s1)).trans (one_wide (stepR_endRangeFunc (k := k) hend))
    match jump, hj, sb with
    | none, hj, sb => exact ⟨.normal, _, w4, hj, sb⟩
    | some c, hj, sb =>
      obtain ⟨e2, a2, w5, hq, hr⟩ := hj b k cs hro hf
      exact ⟨e2, a2, w5, hq, .of_steps sb hr⟩
  | .panicked ch, hR, hs, hlv =>
    have s1 := step_leave_panicked (c := b.atR { a with defers := mark ++ a.defers } (.inRangeFunc l :: k)) (cs := cs) hlv
    rw [Frame.raise_atR] at s1
    exact ⟨.panic ch, _, w3, hR, .inRangeFunc l :: k, (s0.trans hs).trans (one_wide s1)⟩
  | .outgrown, hR, _, _ => exact hR.elim

theorem wpB_ret {P : Program} {ro : Option Nat} {Q : Exit → Act → World → Prop} {a : Act} {w : World} (h : Q .ret a w) : wpB P ro .ret Q a w := wpB_of (wpIn_ret h)
theorem wpB_exit {P : Program} {ro : Option Nat} {i : Nat} {Q : Exit → Act → World → Prop} {a : Act} {w : World} (h : Q (.exit i) a w) : wpB P ro (.exit i) Q a w := wpB_of (wpIn_exit h)
theorem wpB_goto {P : Program} {ro : Option Nat} {i : Nat} {Q : Exit → Act → World → Prop} {a : Act} {w : World} (h : Q (.goto i) a w) : wpB P ro (.goto i) Q a w := wpB_of (wpIn_goto h)

theorem callsIn_of_wpB {P : Program} {f : FuncId} {fn : Func} {c : Code} {args : Array Value} {w : World} {R : Ending → World → Prop} (hf : P.funcs[f]? = some fn) (hb : fn.body = some c)
    (h : wpB P none c (bodyPostM (Fr none) 0 P fn R) { tmps := args ++ Array.replicate (fn.ntmps - args.size) undef, defers := [] } w) : CallsIn (Fr none) 0 P f args w R := by
  refine ⟨trivial, fun cs hr => ?_⟩
  obtain ⟨b, hbb⟩ : ∃ b : Frame, b = { (default : Frame) with fn := f, kind := .normal, roundOf := none } := ⟨_, rfl⟩
  have hro : b.roundOf = none := by rw [hbb]
  have hbf : P.funcs[b.fn]? = some fn := by rw [hbb]; exact hf
  have hkd : b.kind = .normal := by rw [hbb]
  have e0 : Frame.enter P f args .normal = b.atR { tmps := args ++ Array.replicate (fn.ntmps - args.size) undef, defers := [] } [.code c] := by
    rw [hbb]; simp [Frame.enter, Frame.atR, hf, hb]
  rw [e0]
  obtain ⟨e, a', w', hq, ha⟩ := h b [] cs hro (by rw [hbf]; rfl)
  have fin : ∀ (u : FrameMode) (todo : List Item), LeavesInM (Fr none) 0 P fn a'.tmps R a'.defers u w' → StepsIn (Machine.fenced P Fence.wide) P (lone (b.atR { tmps := args ++ Array.replicate (fn.ntmps - args.size) undef, defers := [] } [.code c]) cs w) (lone { b.atR a' todo with mode := u } cs w') →
      ∃ e w'' fr, R e w'' ∧ ComesIn (Machine.fenced P (Fr none)) P (lone (b.atR { tmps := args ++ Array.replicate (fn.ntmps - args.size) undef, defers := [] } [.code c]) cs w) (lone fr cs w'') e ∧ fr.fn = f ∧ fr.leaving P w'' e := by
    intro u todo hl hs
    obtain ⟨e', w2, fr, hR, hs2, hfn, hlv⟩ := leaves_stepsInM (F := Fr none) (n := 0) a'.defers u w' { b.atR a' todo with mode := u } cs rfl rfl rfl (by simpa [Frame.atR] using hbf) (by simpa [Frame.atR] using hkd) trivial hr hl
    exact ⟨e', w2, fr, hR, .of_steps hs hs2, by rw [hfn, hbb]; rfl, hlv⟩
  match e, hq, ha with
  | .normal, hq, ha => exact fin .returning [] hq (StepsIn.trans ha (one_wide (stepR_end (b := b) (a := a') (cs := cs) (w := w') hro)))
  | .ret, hq, ha =>
    obtain ⟨todo, hs⟩ := ha.1 hro
    exact fin .returning todo hq hs
  | .panic ch, hq, ha =>
    obtain ⟨todo, hs⟩ := ha
    exact fin (.panicking ch) todo hq hs
  | .exit i, hq, _ => exact hq.elim
  | .goto l, hq, _ => exact hq.elim
  | .outgrown, hq, ha => exact ⟨.outgrown, w', b, hq, (by
      rcases ha with ha | ha
      · rw [hkd] at ha; cases ha
      · exact ha), by rw [hbb], trivial⟩

theorem cw_soundB {P : Program} {types : Array TypeInfo} {N : Nat} (hm : P.follows .mixedOrders = true) : ∀ (c : Code) (ro : Option Nat) (Q : Post) (e : FA) (w : World), (ro.isSome = true → nodef c = true) → cw P ro (comp types N c) Q e w → ∀ a, Rel N a e → wpB P ro c (liftP N Q) a w
  | .seq x y, ro, Q, e, w, hn, h, a, hr => by
    have hn1 : ro.isSome = true → nodef x = true := fun hs => by have := hn hs; simp only [nodef, Bool.and_eq_true] at this; exact this.1
    have hn2 : ro.isSome = true → nodef y = true := fun hs => by have := hn hs; simp only [nodef, Bool.and_eq_true] at this; exact this.2
    refine wpB_seq (wpB_mono (cw_soundB hm x ro _ e w hn1 h a hr) ?_)
    rintro ex a' w' ⟨e', hr', hq⟩
    cases ex with
    | normal => exact cw_soundB hm y ro _ e' w' hn2 hq a' hr'
    | _ => exact ⟨e', hr', hq⟩
  | .cond c x y, ro, Q, e, w, hn, h, a, hr => by
    have hn1 : ro.isSome = true → nodef x = true := fun hs => by have := hn hs; simp only [nodef, Bool.and_eq_true] at this; exact this.1
    have hn2 : ro.isSome = true → nodef y = true := fun hs => by have := hn hs; simp only [nodef, Bool.and_eq_true] at this; exact this.2
    simp only [comp, cw] at h
    rw [← hr.eval] at h
    split at h
    · rename_i hb; exact wpB_cond hb (cw_soundB hm x ro _ e w hn1 h a hr)
    · rename_i hb; exact wpB_cond hb (cw_soundB hm y ro _ e w hn2 h a hr)
    · exact h.elim
  | .block id c, ro, Q, e, w, hn, h, a, hr => by
    refine wpB_block (wpB_mono (cw_soundB hm c ro _ e w hn h a hr) ?_)
    rintro ex a' w' ⟨e', hr', hq⟩
    cases ex with
    | exit id' =>
      simp only [blockP] at hq ⊢
      split
      · rename_i hid; rw [if_pos hid] at hq; exact ⟨e', hr', hq⟩
      · rename_i hid; rw [if_neg hid] at hq; exact ⟨e', hr', hq⟩
    | _ => exact ⟨e', hr', hq⟩
  | .loop c, ro, Q, e, w, hn, h, a, hr => by
    obtain ⟨I, μ, h0, h1⟩ := h
    refine wpB_loop (fun a w => ∃ e, Rel N a e ∧ I e w) (fun a w => μ ⟨fun t => a.tmps.getD t undef, a.defers⟩ w) ⟨e, hr, h0⟩ ?_
    rintro a1 w1 ⟨e1, hr1, hI⟩
    have hfa : ∀ {a e}, Rel N a e → (⟨fun t => a.tmps.getD t undef, a.defers⟩ : FA) = e := by
      rintro a ⟨ρ, ds⟩ h
      have h1 : (fun t => a.tmps.getD t undef) = ρ := funext h.val
      have h2 : a.defers = ds := h.ds
      rw [h1, h2]
    refine wpB_mono (cw_soundB hm c ro _ e1 w1 hn (h1 e1 w1 hI) a1 hr1) ?_
    rintro ex a' w' ⟨e', hr', hq⟩
    cases ex with
    | normal => exact ⟨⟨e', hr', hq.1⟩, by rw [hfa hr', hfa hr1]; exact hq.2⟩
    | _ => exact ⟨e', hr', hq⟩
  | .scope c, ro, Q, e, w, hn, h, a, hr => by
    refine wpB_scope (wpB_mono (cw_soundB hm c ro _ e w hn h a hr) ?_)
    rintro ex a' w' ⟨e', hr', hq⟩
    cases ex <;> first | exact ⟨e', hr', hq⟩ | exact hq.elim
  | .rangeFunc g ps as body, ro, Q, e, w, hn, h, a, hr => by
    unfold comp at h
    split at h
    case isFalse => exact h.elim
    rename_i hc
    simp only [Bool.and_eq_true, List.all_eq_true, decide_eq_true_eq] at hc
    obtain ⟨⟨hna, hnb⟩, hps⟩ := hc
    simp only [cw] at h
    obtain ⟨hout, gf, lb, hg, hfn, h⟩ := h
    rw [← hr.eval] at hg
    refine wpB_rangeFunc fun fn hfn0 => ?_
    -- the record
    have main : ∀ (D : Nat) (Rec : LoopState → Option Code → Obj), (∀ st pe, Rec st pe = .loop { state := st, pending := pe, fn, tmps := a.tmps, params := ps, assign := as, body, defers := D }) →
        (Instr.enterLoop fn a.tmps ps as body ro).run P w = .ok ((loopAt ro w Rec).1, (loopAt ro w Rec).2.2) (loopAt ro w Rec).2.1 →
        ∃ (l : Nat) (mark : List Deferred) (w₁ : World) (d : Deferred) (w₁' : World) (f : FuncId) (args : Array Value) (w₂ : World),
          (Instr.enterLoop fn a.tmps ps as body ro).run P w = .ok (l, mark) w₁ ∧ (resolve a.eval (rangeCall g l) 0).run P w₁ = .ok d w₁' ∧
          (invoke d.target d.args).run P w₁' = .ok (.enter f args) w₂ ∧
          Calls P f args w₂ (rangeEnd P ro l (liftP N Q) { a with defers := mark ++ a.defers }) := by
      intro D Rec hRec hen
      refine ⟨(loopAt ro w Rec).1, (loopAt ro w Rec).2.2, (loopAt ro w Rec).2.1, { target := .fn (.func gf) lb, args := #[.func (.yield (loopAt ro w Rec).1) #[] #[]] }, (loopAt ro w Rec).2.1, gf, #[.func (.yield (loopAt ro w Rec).1) #[] #[]] ++ lb, (loopAt ro w Rec).2.1, hen, ?_, ?_, ?_⟩
      · simp only [resolve, hg]
        simp [go_sem]
      · simp [invoke, go_sem, fnOk0_run hfn]
      · refine (h Rec ⟨fun st pe => ⟨_, hRec st pe⟩, ?_⟩).mono ?_
        · rintro args W R hl ⟨hsz, hround⟩
          have hl' := hl
          rw [hRec] at hl'
          refine ⟨fn, _, as, body, run_yield hl' (by simpa using hsz), roundC_of_wpB hfn0 ?_⟩
          have hr0 : Rel N { tmps := a.tmps, defers := [] } { e with ds := [] } := ⟨hr.size, hr.val, rfl⟩
          have hr1 := Rel.putArgs ps args hps hr0
          refine wpB_mono (cw_soundB hm as (some (loopAt ro w Rec).1) _ _ W (fun _ => hna) hround _ hr1) ?_
          rintro ex a1 W1 ⟨e1, hre1, hq⟩
          cases ex with
          | normal =>
            obtain ⟨hl1, hb1⟩ := hq
            have hl1' := hl1
            rw [hRec] at hl1'
            refine ⟨_, run_beginRound hl1' rfl, ?_⟩
            have hb1' : cw P (some (loopAt ro w Rec).1) (comp types N body) (roundP (loopAt ro w Rec).1 Rec R) e1 (W1.putObj (loopAt ro w Rec).1 (.loop { state := .busy, pending := none, fn, tmps := a.tmps, params := ps, assign := as, body, defers := D })) := by
              rw [hRec] at hb1; exact hb1
            refine wpB_mono (cw_soundB hm body (some (loopAt ro w Rec).1) _ e1 _ (fun _ => hnb) hb1' a1 hre1) ?_
            rintro ex2 a2 W2 ⟨e2, hre2, hq2⟩
            have fin : ∀ jump : Option Code, W2.heap[(loopAt ro w Rec).1]? = some (Rec .busy none) →
                (Instr.endRound (loopAt ro w Rec).1 jump).run P W2 = .ok (.bool jump.isNone) (W2.putObj (loopAt ro w Rec).1 (Rec (if jump.isNone then .ready else .done) jump)) := fun jump hb => by
              rw [hRec] at hb ⊢
              exact run_endRound jump hb
            cases ex2 with
            | normal => exact ⟨_, _, fin none hq2.1, hq2.2⟩
            | ret => exact ⟨_, _, fin (some .ret) hq2.1, hq2.2⟩
            | exit id => exact ⟨_, _, fin (some (.exit id)) hq2.1, hq2.2⟩
            | goto t => exact ⟨_, _, fin (some (.goto t)) hq2.1, hq2.2⟩
            | panic c => exact ⟨hre2.ds.trans hq2.1, hq2.2⟩
            | outgrown => exact hq2.elim
          | exit id => exact hq.elim
          | goto t => exact hq.elim
          | ret => exact hq.elim
          | panic c => exact hq.elim
          | outgrown => exact hq.elim
        · rintro ex W hq
          have hre : Rel N { a with defers := (loopAt ro w Rec).2.2 ++ a.defers } { e with ds := (loopAt ro w Rec).2.2 ++ e.ds } := ⟨hr.size, hr.val, by rw [hr.ds]⟩
          cases ex with
          | returned v =>
            obtain ⟨st, pe, hl, hst, hj⟩ := hq
            have hl' := hl
            rw [hRec] at hl'
            refine ⟨pe, W.putObj (loopAt ro w Rec).1 (Rec .exhausted pe), ?_, ?_⟩
            · have := run_endLoop (P := P) hl' hst
              rw [hRec]; exact this
            · cases pe with
              | none => exact ⟨_, hre, hj⟩
              | some c =>
                cases c with
                | ret => exact wpB_ret ⟨_, hre, hj⟩
                | exit id => exact wpB_exit ⟨_, hre, hj⟩
                | goto t => exact wpB_goto ⟨_, hre, hj⟩
                | _ => exact hj.elim
          | panicked c => exact ⟨_, hre, hq⟩
          | outgrown => exact hq.elim
    cases ro with
    | none => exact main w.heap.size (fun st pe => .loop { state := st, pending := pe, fn, tmps := a.tmps, params := ps, assign := as, body, defers := w.heap.size }) (fun _ _ => rfl) (run_enterLoop_outer _ _ _ _ _)
    | some l0 =>
      obtain ⟨r0, hr0⟩ := hout l0 rfl
      exact main r0.defers (fun st pe => .loop { state := st, pending := pe, fn, tmps := a.tmps, params := ps, assign := as, body, defers := r0.defers }) (fun _ _ => rfl) (run_enterLoop_inner hr0 _ _ _ _ _)
  | .skip, ro, Q, e, w, hn, h, a, hr => wpB_of (cw_sound hm .skip ro Q e w rfl hn h a hr 0)
  | .label l, ro, Q, e, w, hn, h, a, hr => wpB_of (cw_sound hm (.label l) ro Q e w rfl hn h a hr 0)
  | .exit l, ro, Q, e, w, hn, h, a, hr => wpB_of (cw_sound hm (.exit l) ro Q e w rfl hn h a hr 0)
  | .goto l, ro, Q, e, w, hn, h, a, hr => wpB_of (cw_sound hm (.goto l) ro Q e w rfl hn h a hr 0)
  | .ret, ro, Q, e, w, hn, h, a, hr => wpB_of (cw_sound hm .ret ro Q e w rfl hn h a hr 0)
  | .region i ops d, ro, Q, e, w, hn, h, a, hr => wpB_of (cw_sound hm (.region i ops d) ro Q e w rfl hn h a hr 0)
  | .refuse _, _, _, _, _, _, h, _, _ => h.elim

/-! ### A function -/

def resF (rs : Array ResultVar) (e : FA) : Sem Value := do
  let vs ← rs.mapM fun
    | .tmp t => pure (e.ρ t)
    | .cell a t => do loadVar t (← asAddr (e.ρ a))
  pure (if h : vs.size = 1 then vs[0] else .tuple vs)

theorem results_eq {N : Nat} {a : Act} {e : FA} (h : Rel N a e) (fn : Func) : results fn a.tmps = resF fn.results e := by
  unfold results resF
  have : (fun r : ResultVar => (match r with | .tmp t => pure (a.tmps.getD t undef) | .cell x t => do loadVar t (← asAddr (a.tmps.getD x undef)) : Sem Value)) =
      (fun r : ResultVar => (match r with | .tmp t => pure (e.ρ t) | .cell x t => do loadVar t (← asAddr (e.ρ x)) : Sem Value)) := by
    funext r
    cases r with
    | tmp t => simp only [h.val t]
    | cell x t => simp only [h.val x]
  exact congrArg (fun f : ResultVar → Sem Value => do let vs ← fn.results.mapM f; pure (if h : vs.size = 1 then vs[0] else Value.tuple vs)) this

/-- A function's leaving: the marks of its loops among its deferred calls are come to, one by one. -/
def retD (P : Program) : List Deferred → (World → Prop) → World → Prop
  | [], K, w => K w
  | d :: ds, K, w => ∃ r, d.target = .collected r ∧ w.heap[r]? = some (.deferred (some [])) ∧ retD P ds K (w.putObj r (.deferred none))

def fnP (P : Program) (rs : Array ResultVar) (R : Ending → World → Prop) : Post
  | .normal, e, w | .ret, e, w => retD P e.ds (fun w => ∃ v, (resF rs e).run P w = .ok v w ∧ R (.returned v) w) w
  | .panic chain, e, w => retD P e.ds (fun w => R (.panicked chain) w) w
  | _, _, _ => False

def entry (args : Array Value) : FA := ⟨fun t => args.getD t undef, []⟩

theorem leaves_of_retD {P : Program} {fn : Func} {tmps : Array Value} {R : Ending → World → Prop} {n : Nat} {u : FrameMode} (hu : u ≠ .run) {K : World → Prop} (hK : ∀ w, K w → LeavesInM (Fr none) n P fn tmps R [] u w) :
    ∀ (ds : List Deferred) (w : World), retD P ds K w → LeavesInM (Fr none) n P fn tmps R ds u w
  | [], w, h => hK w h
  | _ :: ds, _, ⟨r, ht, hr, h⟩ => ⟨hu, .inl ⟨r, _, ht, run_takeDeferred hr, leaves_of_retD hu hK ds _ h⟩⟩

theorem calls_of_cw {P : Program} {f : FuncId} {fn : Func} {c : Code} {types : Array TypeInfo} {args : Array Value} {w : World} {R : Ending → World → Prop}
    (hm : P.follows .mixedOrders = true) (hf : P.funcs[f]? = some fn) (c' : Cd) (hb : fn.body = some c) (hc : comp types fn.ntmps c = c') (hn : args.size ≤ fn.ntmps)
    (h : cw P none c' (fnP P fn.results R) (entry args) w) : Calls P f args w R := by
  subst hc
  refine callsC_to (ro := none) (n := 0) (callsIn_of_wpB hf hb (wpB_mono (cw_soundB hm c none _ _ w (fun h => by cases h) h _ (N := fn.ntmps) ⟨by simp; omega, fun t => ?_, rfl⟩) ?_))
  · simp only [entry]
    rcases Nat.lt_or_ge t args.size with h1 | h1
    · simp [Array.getElem?_append, h1]
    · have : (args ++ Array.replicate (fn.ntmps - args.size) undef).getD t undef = undef := by
        rw [Array.getD_eq_getD_getElem?, Array.getElem?_append, if_neg (by omega)]
        rcases Nat.lt_or_ge (t - args.size) (fn.ntmps - args.size) with h2 | h2
        · simp [h2]
        · rw [Array.getElem?_eq_none (by simpa using h2)]; rfl
      rw [this]
      simp [Array.getElem?_eq_none h1]
  · rintro x a w ⟨e, hr, hq⟩
    have ret : retD P e.ds (fun w => ∃ v, (resF fn.results e).run P w = .ok v w ∧ R (.returned v) w) w → LeavesInM (Fr none) 0 P fn a.tmps R a.defers .returning w := fun hq => by
      rw [hr.ds]
      exact leaves_of_retD (by simp) (fun w ⟨v, h1, h2⟩ => ⟨v, by rw [results_eq hr]; exact h1, h2⟩) e.ds w hq
    cases x with
    | normal => exact ret hq
    | ret => exact ret hq
    | panic c => exact (by rw [hr.ds]; exact leaves_of_retD (u := .panicking c) (by simp) (fun w h => h) e.ds w hq : LeavesInM (Fr none) 0 P fn a.tmps R a.defers (.panicking c) w)
    | exit id => exact hq.elim
    | goto l => exact hq.elim
    | outgrown => exact hq.elim

end Go.Proofs.YtacmnfpgimgigaaGreat
