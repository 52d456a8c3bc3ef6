/- The tags package: what a table's calls do, in plain lists; how a table, and a run's book, stand to the law's things. -/
import Derived.Test.YteefkhfmpcaccaaTgP
namespace Go.Proofs.Yteefkhfmpcaccaa
open Go
set_option linter.unusedSimpArgs false
set_option linter.unusedVariables false

structure One where
  tag : Int
  st : Int
  fl : Bool
  wt : Int
  fr : Int
structure MsgD where
  kind : Int
  tag : Int
  en : ByteArray
structure Rep where
  m : MsgD
  id : Int
  fr : Bool
structure TbD where
  last : Int
  ids : List (Int × One)
  tags : List (Int × Int)
  row : List Rep
structure Thing where
  tag : Int
  fl : Bool
  nm : Int
  cn : Bool
  dc : Bool
  an : Bool
  wr : Bool

def noS : ByteArray := ⟨#[]⟩
def begE (t : TbD) (tag id : Int) : Int :=
  if id ≤ 0 ∨ id ≤ t.last then 1 else if tag = 65535 then 120 else if (agt tag t.tags).isSome = true then 140 else if (8 : Int) ≤ t.tags.length then 141 else 0
def begS (t : TbD) (id : Int) (o : One) : TbD := { t with last := id, tags := aset o.tag id t.tags, ids := aset id o t.ids }
def fldS (t : TbD) (id : Int) (o : One) : TbD := { t with ids := aset id { o with st := 6 } t.ids, row := t.row ++ [⟨⟨109, o.tag, noS⟩, id, true⟩] }
def flS (t : TbD) (tag old id : Int) : TbD × Int :=
  let t1 := begS t id ⟨tag, 5, true, 0, 0⟩
  let xi := (agt old t1.tags).getD 0
  match agt xi t1.ids with
  | none => (fldS t1 id ⟨tag, 5, true, 0, 0⟩, 0)
  | some x => if xi = id then (fldS t1 id ⟨tag, 5, true, 0, 0⟩, 0)
    else if x.st = 1 then (fldS { t1 with ids := aset xi { x with st := 2 } t1.ids } id ⟨tag, 5, true, 0, xi⟩, xi)
    else if x.st = 2 then (fldS t1 id ⟨tag, 5, true, 0, xi⟩, 0)
    else if x.st = 3 ∨ x.st = 5 then ({ t1 with ids := aset id ⟨tag, 5, true, xi, 0⟩ t1.ids }, 0)
    else (fldS t1 id ⟨tag, 5, true, 0, 0⟩, 0)
def freeS (t : TbD) (id : Int) : TbD :=
  match agt id t.ids with
  | some o => { t with tags := adel o.tag t.tags, ids := adel id t.ids }
  | none => t
def decB (t : TbD) (id : Int) : Bool := match agt id t.ids with | some o => decide (o.st = 1) | none => false
def decS (t : TbD) (id : Int) : TbD := match agt id t.ids with | some o => if o.st = 1 then { t with ids := aset id { o with st := 3 } t.ids } else t | none => t
def goR : List Int → List (Int × Unit) → TbD → TbD
  | [], _, t => t
  | k :: ks, th, t => match agt k t.ids with
    | some o => if o.st = 5 ∧ (agt o.wt th).isSome = true then goR ks (aset k () th) (fldS t k o) else goR ks th t
    | none => goR ks th t
def ansS (t : TbD) (id : Int) (o : One) (m : MsgD) : TbD := { t with ids := aset id { o with st := 4 } t.ids, row := t.row ++ [⟨{ m with tag := o.tag }, id, true⟩] }
def repB (t : TbD) (id : Int) : Bool := match agt id t.ids with | some o => decide (o.st = 3) | none => false
def repS (t : TbD) (id : Int) (m : MsgD) (keys : List Int) : TbD := match agt id t.ids with | some o => if o.st = 3 then goR keys [(id, ())] (ansS t id o m) else t | none => t
def popS (t : TbD) (r : Rep) (l : List Rep) : TbD :=
  let t1 := { t with row := l }
  if r.fr = true then match agt r.id t.ids with | some o => freeS (freeS t1 o.fr) r.id | none => t1 else t1

def saidM : MsgD := ⟨107, 4, ⟨#[115, 97, 105, 100]⟩⟩
def nmI : Option Nat → Int | none => -1 | some y => y
def thOf (a : Ab) : Thing := ⟨a.tag, a.ph.fl, nmI a.nm, a.ph.cn, a.ph.dc, a.ph.ak, a.ph.wr⟩
def frOf (f : Nat → Ab) (k : Nat) : Int := match (f k).ph, (f k).nm with
  | .fd, some y => if (f y).ph.cn = true then (y : Int) + 1 else 0
  | _, _ => 0
structure OneOk (f : Nat → Ab) (k : Nat) (o : One) : Prop where
  tag : o.tag = (f k).tag
  st : o.st = (f k).ph.stN
  wt : (f k).ph = .wa → o.wt = nmI (f k).nm + 1
  fr : o.fr = frOf f k
def repIx (r : Rep) : Option Nat := if r.fr = true then some (r.id - 1).toNat else none
def RepOk (n : Nat) (f : Nat → Ab) (r : Rep) : Prop :=
  (r.fr = true → ∃ k, k < n ∧ r.id = (k : Int) + 1 ∧ r.m = ⟨if (f k).ph.fl = true then 109 else 121, (f k).tag, noS⟩) ∧ (r.fr = false → r = ⟨saidM, 1001, false⟩)
structure Rl (t : TbD) (n : Nat) (f : Nat → Ab) (B : List Nat) : Prop where
  last : t.last = n
  ndI : (t.ids.map (·.1)).Nodup
  ndT : (t.tags.map (·.1)).Nodup
  idk : ∀ i o, agt i t.ids = some o → ∃ k, k < n ∧ i = (k : Int) + 1 ∧ (f k).ph.inT = true
  ido : ∀ k, k < n → (f k).ph.inT = true → ∃ o, agt ((k : Int) + 1) t.ids = some o ∧ OneOk f k o
  tgs : ∀ g v, agt g t.tags = some v ↔ ∃ k, k < n ∧ (f k).ph.inT = true ∧ (f k).tag = g ∧ v = (k : Int) + 1
  row : t.row.filterMap repIx = B
  rok : ∀ r, r ∈ t.row → RepOk n f r
structure Lr (l : List Thing) (h : List Int) (n : Nat) (f : Nat → Ab) : Prop where
  len : l.length = n
  at_ : ∀ k, k < n → l[k]? = some (thOf (f k))
  hl : h.length = 16
  ho : ∀ g : Nat, g < 16 → (h[g]? = some (-1) ∧ ∀ k, k < n → (f k).ph.inT = true → (f k).tag ≠ g) ∨ ∃ k, k < n ∧ h[g]? = some (k : Int) ∧ (f k).ph.inT = true ∧ (f k).tag = g

theorem Rl.absent {t : TbD} {n : Nat} {f : Nat → Ab} {B : List Nat} (r : Rl t n f B) {k : Nat} (h : n ≤ k ∨ (f k).ph.inT = false) : agt ((k : Int) + 1) t.ids = none := by
  cases hg : agt ((k : Int) + 1) t.ids with
  | none => rfl
  | some o =>
    obtain ⟨j, hj, e, q⟩ := r.idk _ _ hg
    have : j = k := by omega
    subst this
    rcases h with h | h
    · omega
    · rw [h] at q; cases q
theorem Rl.absent0 {t : TbD} {n : Nat} {f : Nat → Ab} {B : List Nat} (r : Rl t n f B) {i : Int} (h : i ≤ 0 ∨ (n : Int) < i) : agt i t.ids = none := by
  cases hg : agt i t.ids with
  | none => rfl
  | some o =>
    obtain ⟨j, hj, e, q⟩ := r.idk _ _ hg
    omega
theorem Rl.noTag {t : TbD} {n : Nat} {f : Nat → Ab} {B : List Nat} (r : Rl t n f B) {g : Int} (h : ∀ k, k < n → (f k).ph.inT = true → (f k).tag ≠ g) : agt g t.tags = none := by
  cases hg : agt g t.tags with
  | none => rfl
  | some v =>
    obtain ⟨k, hk, a, b, _⟩ := (r.tgs g v).1 hg
    exact absurd b (h k hk a)

/-- Where only things change that are not in the table... the same relation for other things of the same face. -/
theorem OneOk.congr {f g : Nat → Ab} {k : Nat} {o : One} (h : OneOk f k o) (e1 : g k = f k) (e2 : ∀ y, (f k).ph = .fd → (f k).nm = some y → (g y).ph.cn = (f y).ph.cn) : OneOk g k o := by
  refine ⟨by rw [e1]; exact h.tag, by rw [e1]; exact h.st, by rw [e1]; exact h.wt, ?_⟩
  rw [h.fr]
  unfold frOf
  rw [e1]
  cases hp : (f k).ph <;> cases hm : (f k).nm <;> simp only []
  rename_i y
  rw [e2 y hp hm]

theorem ph_inT {p : Ph} (h : p.inT = true) : p = .op ∨ p = .ca ∨ p = .de ∨ p = .an ∨ p = .wa ∨ p = .fd := by
  cases p <;> simp [Ph.inT] at h ⊢

/-- Every call that begins something: the table. -/
theorem Rl.beg {t : TbD} {n : Nat} {f : Nat → Ab} {B : List Nat} (v : ∀ k y, k < n → (f k).nm = some y → y < k) (r : Rl t n f B) {g : Int} (hf : ∀ k, k < n → (f k).ph.inT = true → (f k).tag ≠ g) {a : Ab} {o : One} (ha : a.tag = g) (ht : a.ph.inT = true) (hot : o.tag = g)
    (ho : OneOk (setF f n a) n o) : Rl (begS t (n + 1 : Nat) o) (n + 1) (setF f n a) B := by
  have old : ∀ k, k < n → setF f n a k = f k := fun k hk => setF_ne (by omega)
  have new : setF f n a n = a := setF_self _ _ _
  have sp : ∀ k, k < n + 1 → k < n ∨ k = n := fun k h => by omega
  have hnone := r.absent (k := n) (.inl (Nat.le_refl _))
  refine ⟨rfl, aset_nodup r.ndI, aset_nodup r.ndT, ?_, ?_, ?_, r.row, ?_⟩
  · intro i o' h
    simp only [begS] at h
    rw [agt_aset_if] at h
    split at h
    · rename_i e; exact ⟨n, by omega, by omega, by rw [new]; exact ht⟩
    · obtain ⟨k, hk, e, q⟩ := r.idk i o' h
      exact ⟨k, by omega, e, by rw [old k hk]; exact q⟩
  · intro k hk hq
    simp only [begS]
    rw [agt_aset_if]
    rcases sp k hk with h | rfl
    · rw [if_neg (by omega)]
      rw [old k h] at hq
      obtain ⟨o', h1, h2⟩ := r.ido k h hq
      refine ⟨o', h1, h2.congr (old k h) fun y hp hy => ?_⟩
      have := v k y h hy
      rw [old y (by omega)]
    · rw [if_pos (by omega)]
      exact ⟨o, rfl, ho⟩
  · intro g' v'
    simp only [begS]
    rw [agt_aset_if, hot]
    by_cases e : g' = g
    · rw [if_pos e]
      constructor
      · intro h
        simp only [Option.some.injEq] at h
        exact ⟨n, by omega, by rw [new]; exact ht, by rw [new, ha, e], by rw [← h]; omega⟩
      · rintro ⟨k, hk, q, c, d⟩
        rcases sp k hk with h | rfl
        · rw [old k h] at q c
          exact absurd (c.trans e) (hf k h q)
        · rw [d]; simp
    · rw [if_neg e, r.tgs g' v']
      constructor
      · rintro ⟨k, hk, q, c, d⟩
        exact ⟨k, by omega, by rw [old k hk]; exact q, by rw [old k hk]; exact c, d⟩
      · rintro ⟨k, hk, q, c, d⟩
        rcases sp k hk with h | rfl
        · rw [old k h] at q c
          exact ⟨k, h, q, c, d⟩
        · rw [new, ha] at c
          exact absurd c.symm e
  · intro x hx
    obtain ⟨h1, h2⟩ := r.rok x hx
    refine ⟨fun h => ?_, h2⟩
    obtain ⟨k, hk, e, q⟩ := h1 h
    exact ⟨k, by omega, e, by rw [old k hk]; exact q⟩

/-- One thing's state is another one now. -/
theorem Rl.turn {t : TbD} {n : Nat} {f g : Nat → Ab} {B : List Nat} (r : Rl t n f B) {k : Nat} {o o' : One} (hk : k < n) (hi : (f k).ph.inT = true) (hg : agt ((k : Int) + 1) t.ids = some o) (hs : ∀ j, j ≠ k → g j = f j) (htg : (g k).tag = (f k).tag) (hi' : (g k).ph.inT = true) (hfl : (g k).ph.fl = (f k).ph.fl)
    (ho : OneOk g k o') (hc : ∀ j, j < n → j ≠ k → (f j).ph = .fd → (f j).nm = some k → (g k).ph.cn = (f k).ph.cn) : Rl { t with ids := aset ((k : Int) + 1) o' t.ids } n g B := by
  refine ⟨r.last, aset_nodup r.ndI, r.ndT, ?_, ?_, ?_, r.row, ?_⟩
  · intro i q h
    simp only at h
    rw [agt_aset_if] at h
    split at h
    · rename_i e; exact ⟨k, hk, e, hi'⟩
    · obtain ⟨j, hj, e, z⟩ := r.idk i q h
      rename_i hne
      have : j ≠ k := fun h => hne (by rw [e, h])
      exact ⟨j, hj, e, by rw [hs j this]; exact z⟩
  · intro j hj hq
    simp only
    rw [agt_aset_if]
    by_cases e : j = k
    · subst e; rw [if_pos rfl]; exact ⟨o', rfl, ho⟩
    · rw [if_neg (by omega)]
      rw [hs j e] at hq
      obtain ⟨x, h1, h2⟩ := r.ido j hj hq
      refine ⟨x, h1, h2.congr (hs j e) fun y hp hy => ?_⟩
      by_cases e' : y = k
      · subst e'; exact hc j hj e hp hy
      · rw [hs y e']
  · intro a b
    simp only
    rw [r.tgs a b]
    constructor
    · rintro ⟨j, hj, q, c, d⟩
      by_cases e : j = k
      · subst e; exact ⟨j, hj, hi', by rw [htg]; exact c, d⟩
      · exact ⟨j, hj, by rw [hs j e]; exact q, by rw [hs j e]; exact c, d⟩
    · rintro ⟨j, hj, q, c, d⟩
      by_cases e : j = k
      · subst e; exact ⟨j, hj, hi, by rw [← htg]; exact c, d⟩
      · rw [hs j e] at q c; exact ⟨j, hj, q, c, d⟩
  · intro x hx
    obtain ⟨h1, h2⟩ := r.rok x hx
    refine ⟨fun h => ?_, h2⟩
    obtain ⟨j, hj, e, q⟩ := h1 h
    refine ⟨j, hj, e, ?_⟩
    by_cases e' : j = k
    · subst e'; rw [hfl, htg]; exact q
    · rw [hs j e']; exact q
/-- A reply goes into the row. -/
theorem Rl.push {t : TbD} {n : Nat} {f : Nat → Ab} {B : List Nat} (r : Rl t n f B) {x : Rep} (hx : RepOk n f x) : Rl { t with row := t.row ++ [x] } n f (B ++ (repIx x).toList) := by
  refine ⟨r.last, r.ndI, r.ndT, r.idk, r.ido, r.tgs, ?_, ?_⟩
  · simp only [List.filterMap_append, r.row]
    cases hq : repIx x <;> simp [hq]
  · intro y hy
    rcases List.mem_append.1 hy with hy | hy
    · exact r.rok y hy
    · simp only [List.mem_singleton] at hy
      subst hy
      exact hx
/-- The row's first is taken. -/
theorem Rl.pop {t : TbD} {n : Nat} {f : Nat → Ab} {B : List Nat} (r : Rl t n f B) {x : Rep} {l : List Rep} (h : t.row = x :: l) : RepOk n f x ∧ ((x.fr = true ∧ ∃ k B', B = k :: B' ∧ x.id = (k : Int) + 1 ∧ k < n ∧ Rl { t with row := l } n f B') ∨ (x.fr = false ∧ Rl { t with row := l } n f B)) := by
  have hx := r.rok x (by rw [h]; exact List.mem_cons_self)
  refine ⟨hx, ?_⟩
  have hr := r.row
  rw [h, List.filterMap_cons] at hr
  cases hq : x.fr with
  | true =>
    obtain ⟨k, hk, e, _⟩ := hx.1 hq
    have : repIx x = some k := by simp [repIx, hq, e]
    rw [this] at hr
    refine .inl ⟨rfl, k, _, hr.symm, e, hk, r.last, r.ndI, r.ndT, r.idk, r.ido, r.tgs, rfl, fun y hy => r.rok y (by rw [h]; exact List.mem_cons_of_mem _ hy)⟩
  | false =>
    have : repIx x = none := by simp [repIx, hq]
    rw [this] at hr
    exact .inr ⟨rfl, r.last, r.ndI, r.ndT, r.idk, r.ido, r.tgs, hr, fun y hy => r.rok y (by rw [h]; exact List.mem_cons_of_mem _ hy)⟩
/-- A thing leaves the table. -/
theorem Rl.free {t : TbD} {n : Nat} {f g : Nat → Ab} {B : List Nat} (u : ∀ j k, j < n → k < n → (f j).ph.inT = true → (f k).ph.inT = true → (f j).tag = (f k).tag → j = k) (r : Rl t n f B) {k : Nat} (hk : k < n) (hi : (f k).ph.inT = true) (hs : ∀ j, j ≠ k → g j = f j) (htg : (g k).tag = (f k).tag) (hi' : (g k).ph.inT = false) (hfl : (g k).ph.fl = (f k).ph.fl)
    (hc : ∀ j, j < n → j ≠ k → (f j).ph = .fd → (f j).nm = some k → (g k).ph.cn = (f k).ph.cn) : Rl (freeS t ((k : Int) + 1)) n g B := by
  obtain ⟨o, ho, hok⟩ := r.ido k hk hi
  have e : freeS t ((k : Int) + 1) = { t with tags := adel o.tag t.tags, ids := adel ((k : Int) + 1) t.ids } := by unfold freeS; rw [ho]
  rw [e]
  refine ⟨r.last, adel_nodup r.ndI, adel_nodup r.ndT, ?_, ?_, ?_, r.row, ?_⟩
  · intro i q h
    simp only at h
    rw [agt_adel_if r.ndI] at h
    split at h
    · cases h
    · obtain ⟨j, hj, e, z⟩ := r.idk i q h
      rename_i hne
      have : j ≠ k := fun h => hne (by rw [e, h])
      exact ⟨j, hj, e, by rw [hs j this]; exact z⟩
  · intro j hj hq
    have hjk : j ≠ k := fun h => by rw [h, hi'] at hq; cases hq
    simp only
    rw [agt_adel_if r.ndI, if_neg (by omega)]
    rw [hs j hjk] at hq
    obtain ⟨x, h1, h2⟩ := r.ido j hj hq
    refine ⟨x, h1, h2.congr (hs j hjk) fun y hp hy => ?_⟩
    by_cases e' : y = k
    · subst e'; exact hc j hj hjk hp hy
    · rw [hs y e']
  · intro a b
    simp only
    rw [agt_adel_if r.ndT, hok.tag]
    by_cases ea : a = (f k).tag
    · rw [if_pos ea]
      constructor
      · intro h; cases h
      · rintro ⟨j, hj, q, c, d⟩
        have hjk : j ≠ k := fun h => by rw [h, hi'] at q; cases q
        rw [hs j hjk] at q c
        exact absurd (u j k hj hk q hi (c.trans ea)) hjk
    · rw [if_neg ea, r.tgs a b]
      constructor
      · rintro ⟨j, hj, q, c, d⟩
        have hjk : j ≠ k := fun h => ea (by rw [← c, h])
        exact ⟨j, hj, by rw [hs j hjk]; exact q, by rw [hs j hjk]; exact c, d⟩
      · rintro ⟨j, hj, q, c, d⟩
        have hjk : j ≠ k := fun h => by rw [h, hi'] at q; cases q
        rw [hs j hjk] at q c
        exact ⟨j, hj, q, c, d⟩
  · intro x hx
    obtain ⟨h1, h2⟩ := r.rok x hx
    refine ⟨fun h => ?_, h2⟩
    obtain ⟨j, hj, e, q⟩ := h1 h
    refine ⟨j, hj, e, ?_⟩
    by_cases e' : j = k
    · subst e'; rw [hfl, htg]; exact q
    · rw [hs j e']; exact q

end Go.Proofs.Yteefkhfmpcaccaa
