/- The tags package: the law of a flush, of what is decided, answered, written. -/
import Derived.Test.YteefkhfmpcaccaaTgR
namespace Go.Proofs.Yteefkhfmpcaccaa
open Go
set_option linter.unusedSimpArgs false
set_option linter.unusedVariables false

theorem aset_comm {α : Type} {x y : Int} {u v w : α} (hxy : x ≠ y) : ∀ {l : List (Int × α)}, agt x l = some w → aset x u (aset y v l) = aset y v (aset x u l)
  | [], h => by cases h
  | (z, t) :: l, h => by
    simp only [agt] at h
    by_cases e : x = z
    · subst e
      have : ¬ y = x := fun h => hxy h.symm
      simp [aset, this]
    · rw [if_neg e] at h
      by_cases e' : y = z
      · subst e'
        simp [aset, e]
      · simp only [aset, if_neg e, if_neg e', aset_comm hxy h]
theorem fld_eq (t : TbD) (id : Int) (o0 o : One) (h : o.tag = o0.tag) : fldS (begS t id o0) id o = { begS t id { o with st := 6 } with row := t.row ++ [⟨⟨109, o.tag, noS⟩, id, true⟩] } := by
  simp only [fldS, begS, aset_aset, h]
theorem set_same {α : Type} {l : List α} {i : Nat} {v : α} (h : l[i]? = some v) : l.set i v = l := by
  apply List.ext_getElem?
  intro j
  by_cases hi : i < l.length
  · rw [getElem?_set_int _ _ _ _ hi]
    split
    · rename_i e; rw [e, h]
    · rfl
  · rw [List.getElem?_eq_none (by omega)] at h; cases h
theorem filter_push (l : List Rep) (m : MsgD) (id : Int) : ((l ++ [(⟨m, id, true⟩ : Rep)]).filter fun r => !r.fr).length = (l.filter fun r => !r.fr).length := by
  rw [List.filter_append]
  simp

section
variable {t : TbD} {l : List Thing} {h : List Int} {sd : Int} {n : Nat} {f : Nat → Ab} {B : List Nat}

/-- A flush that goes into the row at once, its request being what it is. -/
theorem RunP.flushNow (r : RunP t l h sd n f B) {g : Nat} (hg : g < 12) (hk : h[g]? = some (-1)) (h8 : takenN h ≠ 8) {m : Option Nat} {fr : Int} (hfr : fr = match m with | some y => if (f y).ph.cn = true then (y : Int) + 1 else 0 | none => 0)
    (hm : ∀ y, m = some y → y < n ∧ ((f y).ph = .ca ∨ (f y).ph = .an ∨ (f y).ph = .fd)) :
    RunP (fldS (begS t ((n : Int) + 1) ⟨g, 5, true, 0, 0⟩) ((n : Int) + 1) ⟨g, 5, true, 0, fr⟩) (l ++ [⟨g, true, nmI m, false, false, false, false⟩]) (h.set g (n : Int)) sd (n + 1) (setF f n ⟨g, m, .fd⟩) (B ++ [n]) := by
  obtain ⟨ha, hf⟩ := r.free_ (by omega) hk
  have e1 : ((n + 1 : Nat) : Int) = (n : Int) + 1 := by omega
  have hfr' : frOf (setF f n ⟨g, m, .fd⟩) n = fr := by
    unfold frOf
    rw [setF_self, hfr]
    cases hq : m with
    | none => rfl
    | some y => simp only [setF_ne (Nat.ne_of_lt (hm y hq).1)]
  have hb := Rl.beg (a := ⟨g, m, .fd⟩) (o := ⟨g, 6, true, 0, fr⟩) (fun k y hk h => (r.ai.nm k y hk h).1) r.rl hf rfl rfl rfl ⟨by rw [setF_self], by rw [setF_self]; rfl, by rw [setF_self]; intro h; (cases h), hfr'.symm⟩
  rw [e1] at hb
  rw [fld_eq t ((n : Int) + 1) ⟨g, 5, true, 0, 0⟩ ⟨g, 5, true, 0, fr⟩ rfl]
  have hp := hb.push (x := ⟨⟨109, g, noS⟩, (n : Int) + 1, true⟩) ⟨fun _ => ⟨n, by omega, rfl, by rw [setF_self]; rfl⟩, fun h => by cases h⟩
  have hx : (repIx ⟨⟨109, g, noS⟩, (n : Int) + 1, true⟩).toList = [n] := by
    have : ((n : Int) + 1 - 1).toNat = n := by omega
    simp [repIx, this]
  rw [hx] at hp
  refine ⟨r.ai.flushes (m := m) ⟨by omega, by omega⟩ hf (fun z hz => by cases hz) ?_, hp, Lr.add (a := ⟨g, m, .fd⟩) r.lr (by omega) hf rfl rfl rfl, ?_, by omega, r.fewer ha h8⟩
  · intro y hy
    obtain ⟨a, b⟩ := hm y hy
    refine ⟨a, ?_, fun j hj h1 h2 => ?_⟩
    · rcases b with b | b | b
      · exact .inl (by rw [b]; rfl)
      · exact .inr (.inr (r.ai.r2 y a (.inl b)))
      · exact .inr (.inr (r.ai.r2 y a (.inr b)))
    · cases hph : (f j).ph <;> rw [hph] at h1 <;> try cases h1
      · obtain ⟨z, hz, hc⟩ := r.ai.wa j hj hph
        rw [h2] at hz
        cases hz
        rcases hc with c | c | ⟨c, _⟩
        · rcases b with b | b | b <;> rw [b] at c <;> cases c
        · rcases b with b | b | b <;> rw [b] at c <;> cases c
        · simp at c
      · exact .inr (r.ai.r2 j hj (.inr hph))
      · exact .inl rfl
  · rw [r.sd]
    exact congrArg _ (filter_push _ _ _).symm

/-- A flush that waits. -/
theorem RunP.flushWait (r : RunP t l h sd n f B) {g : Nat} (hg : g < 12) (hk : h[g]? = some (-1)) (h8 : takenN h ≠ 8) {y : Nat} (hy : y < n) (hp : (f y).ph = .de ∨ (f y).ph = .wa) :
    RunP { begS t ((n : Int) + 1) ⟨g, 5, true, 0, 0⟩ with ids := aset ((n : Int) + 1) ⟨g, 5, true, (y : Int) + 1, 0⟩ (begS t ((n : Int) + 1) ⟨g, 5, true, 0, 0⟩).ids } (l ++ [⟨g, true, y, false, false, false, false⟩]) (h.set g (n : Int)) sd (n + 1) (setF f n ⟨g, some y, .wa⟩) B := by
  obtain ⟨ha, hf⟩ := r.free_ (by omega) hk
  have e1 : ((n + 1 : Nat) : Int) = (n : Int) + 1 := by omega
  have hb := Rl.beg (a := ⟨g, some y, .wa⟩) (o := ⟨g, 5, true, (y : Int) + 1, 0⟩) (fun k y hk h => (r.ai.nm k y hk h).1) r.rl hf rfl rfl rfl ⟨by rw [setF_self], by rw [setF_self]; rfl, by rw [setF_self]; intro h; rfl, by unfold frOf; rw [setF_self]⟩
  rw [e1] at hb
  have e2 : ({ begS t ((n : Int) + 1) ⟨g, 5, true, 0, 0⟩ with ids := aset ((n : Int) + 1) ⟨g, 5, true, (y : Int) + 1, 0⟩ (begS t ((n : Int) + 1) ⟨g, 5, true, 0, 0⟩).ids } : TbD) = begS t ((n : Int) + 1) ⟨g, 5, true, (y : Int) + 1, 0⟩ := by
    simp only [begS, aset_aset]
  rw [e2]
  exact ⟨r.ai.waits ⟨by omega, by omega⟩ hf hy hp, hb, Lr.add (a := ⟨g, some y, .wa⟩) r.lr (by omega) hf rfl rfl rfl, r.sd, by omega, r.fewer ha h8⟩

/-- A flush that cancels. -/
theorem RunP.flushCancel (r : RunP t l h sd n f B) {g : Nat} (hg : g < 12) (hk : h[g]? = some (-1)) (h8 : takenN h ≠ 8) {y : Nat} {x : One} (hy : y < n) (hp : (f y).ph = .op) (hx : agt ((y : Int) + 1) t.ids = some x) (hox : OneOk f y x) :
    RunP (fldS { begS t ((n : Int) + 1) ⟨g, 5, true, 0, 0⟩ with ids := aset ((y : Int) + 1) { x with st := 2 } (begS t ((n : Int) + 1) ⟨g, 5, true, 0, 0⟩).ids } ((n : Int) + 1) ⟨g, 5, true, 0, (y : Int) + 1⟩)
      (l.set y { thOf (f y) with cn := true } ++ [⟨g, true, y, false, false, false, false⟩]) (h.set g (n : Int)) sd (n + 1) (setF (phF f y .ca) n ⟨g, some y, .fd⟩) (B ++ [n]) := by
  obtain ⟨ha, hf⟩ := r.free_ (by omega) hk
  have e1 : ((n + 1 : Nat) : Int) = (n : Int) + 1 := by omega
  have P := phF_ph f y (p := .ca)
  have hi : (f y).ph.inT = true := by rw [hp]; rfl
  have hself : (phF f y .ca y).ph = .ca := by rw [P, if_pos rfl]
  have hne : ∀ j, j ≠ y → phF f y .ca j = f j := fun j hj => setF_ne hj
  have fdNo : ∀ j, j < n → (f j).ph = .fd → (f j).nm ≠ some y := by
    intro j hj hfd hnm
    have hjB := r.ai.r2 j hj (.inr hfd)
    obtain ⟨i, hi'⟩ := List.getElem?_of_mem hjB
    obtain ⟨c, _⟩ := r.ai.ord i j y hi' hfd hnm
    rw [hp] at c
    rcases c with c | c | c
    · cases c
    · cases c
    · obtain ⟨_, q⟩ := r.ai.r1 y (List.mem_of_mem_take c)
      rw [hp] at q
      rcases q with q | q <;> cases q
  have h1 := r.rl.turn (g := phF f y .ca) (o' := { x with st := 2 }) hy hi hx hne (phF_tag _ _ _ _) (by rw [hself]; rfl) (by rw [hself, hp]; rfl) ⟨by rw [phF_tag]; exact hox.tag, by rw [hself]; rfl, by rw [hself]; intro h; (cases h), by
      have : frOf f y = 0 := by unfold frOf; rw [hp]
      have h2 : frOf (phF f y .ca) y = 0 := by unfold frOf; rw [hself]
      rw [h2]; exact hox.fr.trans this⟩ (fun j hj hjy hfd hnm => absurd hnm (fdNo j hj hfd))
  have hf1 : ∀ k, k < n → (phF f y .ca k).ph.inT = true → (phF f y .ca k).tag ≠ g := by
    intro k hk' hq
    rw [phF_tag]
    by_cases e : k = y
    · subst e; exact hf k hk' hi
    · rw [hne k e] at hq; exact hf k hk' hq
  have hfr' : frOf (setF (phF f y .ca) n ⟨g, some y, .fd⟩) n = (y : Int) + 1 := by
    unfold frOf
    rw [setF_self]
    simp only [setF_ne (Nat.ne_of_lt hy), hself, Ph.cn, if_true]
  have hb := Rl.beg (a := ⟨g, some y, .fd⟩) (o := ⟨g, 6, true, 0, (y : Int) + 1⟩) (fun k z hk h => by rw [phF_nm] at h; exact (r.ai.nm k z hk h).1) h1 hf1 rfl rfl rfl ⟨by rw [setF_self], by rw [setF_self]; rfl, by rw [setF_self]; intro h; (cases h), hfr'.symm⟩
  rw [e1] at hb
  have hp' := hb.push (x := ⟨⟨109, g, noS⟩, (n : Int) + 1, true⟩) ⟨fun _ => ⟨n, by omega, rfl, by rw [setF_self]; rfl⟩, fun h => by cases h⟩
  have hx' : (repIx ⟨⟨109, g, noS⟩, (n : Int) + 1, true⟩).toList = [n] := by
    have : ((n : Int) + 1 - 1).toNat = n := by omega
    simp [repIx, this]
  rw [hx'] at hp'
  have e2 : fldS { begS t ((n : Int) + 1) ⟨g, 5, true, 0, 0⟩ with ids := aset ((y : Int) + 1) { x with st := 2 } (begS t ((n : Int) + 1) ⟨g, 5, true, 0, 0⟩).ids } ((n : Int) + 1) ⟨g, 5, true, 0, (y : Int) + 1⟩
      = { begS { t with ids := aset ((y : Int) + 1) { x with st := 2 } t.ids } ((n : Int) + 1) ⟨g, 6, true, 0, (y : Int) + 1⟩ with row := t.row ++ [⟨⟨109, g, noS⟩, (n : Int) + 1, true⟩] } := by
    simp only [fldS, begS]
    rw [aset_comm (by omega) hx, aset_aset]
  rw [e2]
  have hl1 := r.lr.set_ (f' := phF f y .ca) hy hne (phF_tag _ _ _ _) (by rw [hself, hp]; rfl)
  have ht1 : thOf (phF f y .ca y) = { thOf (f y) with cn := true } := by
    simp only [thOf, hself, phF_tag, phF_nm, hp, Ph.fl, Ph.cn, Ph.dc, Ph.ak, Ph.wr]
  rw [ht1] at hl1
  refine ⟨(r.ai.cancel hy hp).flushes (m := some y) ⟨by omega, by omega⟩ hf1 (fun z hz => hz) ?_, hp', Lr.add (a := ⟨g, some y, .fd⟩) hl1 (by omega) hf1 rfl rfl rfl, ?_, by omega, r.fewer ha h8⟩
  · intro z hz
    cases hz
    refine ⟨hy, .inl (by rw [hself]; rfl), fun j hj a b => ?_⟩
    rw [phF_nm] at b
    have hjy : j ≠ y := fun e => by
      subst e
      have := (r.ai.nm j j hj b).1
      omega
    rw [hne j hjy] at a ⊢
    cases hph : (f j).ph <;> rw [hph] at a <;> try cases a
    · obtain ⟨z, hz, hc⟩ := r.ai.wa j hj hph
      rw [b] at hz
      cases hz
      rcases hc with c | c | ⟨c, _⟩
      · rw [hp] at c; cases c
      · rw [hp] at c; cases c
      · simp at c
    · exact absurd b (fdNo j hj hph)
    · exact .inl rfl
  · rw [r.sd]
    exact congrArg _ (filter_push _ _ _).symm

/-- A flush of any kind. -/
theorem RunP.flush (r : RunP t l h sd n f B) {g o : Nat} (hg : g < 12) (ho : o < 16) (hk : h[g]? = some (-1)) (h8 : takenN h ≠ 8) :
    ∃ (f' : Nat → Ab) (B' : List Nat), (h[o]? = some (-1) ∧ (flS t g o ((n : Int) + 1)).2 = 0 ∧ RunP (flS t g o ((n : Int) + 1)).1 (l ++ [⟨g, true, -1, false, false, false, false⟩]) (h.set g (n : Int)) sd (n + 1) f' B') ∨
      ∃ (y : Nat) (X : Thing), y < n ∧ h[o]? = some (y : Int) ∧ l[y]? = some X ∧ ((X.fl = false ∧ X.dc = false ∧ X.cn = false ∧ (flS t g o ((n : Int) + 1)).2 = (y : Int) + 1 ∧ RunP (flS t g o ((n : Int) + 1)).1 (l.set y { X with cn := true } ++ [⟨g, true, y, false, false, false, false⟩]) (h.set g (n : Int)) sd (n + 1) f' B') ∨
        ((X.fl = true ∨ X.dc = true ∨ X.cn = true) ∧ (flS t g o ((n : Int) + 1)).2 = 0 ∧ RunP (flS t g o ((n : Int) + 1)).1 (l ++ [⟨g, true, y, false, false, false, false⟩]) (h.set g (n : Int)) sd (n + 1) f' B')) := by
  have hnone := r.rl.absent (k := n) (.inl (Nat.le_refl _))
  rcases r.holder ho with ⟨a, b, c⟩ | ⟨y, hy, a, b, c, d⟩
  · have now := r.flushNow hg hk h8 (m := none) (fr := 0) rfl (fun y hy => by cases hy)
    have e : flS t g o ((n : Int) + 1) = (fldS (begS t ((n : Int) + 1) ⟨g, 5, true, 0, 0⟩) ((n : Int) + 1) ⟨g, 5, true, 0, 0⟩, 0) := by
      unfold flS
      by_cases q : (o : Int) = g
      · have h1 : agt (o : Int) (begS t ((n : Int) + 1) ⟨g, 5, true, 0, 0⟩).tags = some ((n : Int) + 1) := by
          simp only [begS]; rw [agt_aset_if, if_pos q]
        have h2 : agt ((n : Int) + 1) (begS t ((n : Int) + 1) ⟨g, 5, true, 0, 0⟩).ids = some ⟨g, 5, true, 0, 0⟩ := by
          simp only [begS]; rw [agt_aset]
        simp only [h1, Option.getD_some, h2, if_true]
      · have h1 : agt (o : Int) (begS t ((n : Int) + 1) ⟨g, 5, true, 0, 0⟩).tags = none := by
          simp only [begS]; rw [agt_aset_if, if_neg q, b]
        have h2 : agt 0 (begS t ((n : Int) + 1) ⟨g, 5, true, 0, 0⟩).ids = none := by
          simp only [begS]; rw [agt_aset_if, if_neg (by omega), r.rl.absent0 (.inl (by omega))]
        simp only [h1, Option.getD_none, h2]
    rw [e]
    exact ⟨_, _, .inl ⟨a, rfl, now⟩⟩
  · have hgo : ¬ (o : Int) = g := fun q => by
      have : o = g := by omega
      subst this
      rw [a, Option.some.injEq] at hk; omega
    obtain ⟨x, hx, hox⟩ := r.rl.ido y hy b
    have hl := r.lr.at_ y hy
    have e : flS t g o ((n : Int) + 1) = if x.st = 1 then (fldS { begS t ((n : Int) + 1) ⟨g, 5, true, 0, 0⟩ with ids := aset ((y : Int) + 1) { x with st := 2 } (begS t ((n : Int) + 1) ⟨g, 5, true, 0, 0⟩).ids } ((n : Int) + 1) ⟨g, 5, true, 0, (y : Int) + 1⟩, (y : Int) + 1)
        else if x.st = 2 then (fldS (begS t ((n : Int) + 1) ⟨g, 5, true, 0, 0⟩) ((n : Int) + 1) ⟨g, 5, true, 0, (y : Int) + 1⟩, 0)
        else if x.st = 3 ∨ x.st = 5 then ({ begS t ((n : Int) + 1) ⟨g, 5, true, 0, 0⟩ with ids := aset ((n : Int) + 1) ⟨g, 5, true, (y : Int) + 1, 0⟩ (begS t ((n : Int) + 1) ⟨g, 5, true, 0, 0⟩).ids }, 0)
        else (fldS (begS t ((n : Int) + 1) ⟨g, 5, true, 0, 0⟩) ((n : Int) + 1) ⟨g, 5, true, 0, 0⟩, 0) := by
      unfold flS
      have h1 : agt (o : Int) (begS t ((n : Int) + 1) ⟨g, 5, true, 0, 0⟩).tags = some ((y : Int) + 1) := by
        simp only [begS]; rw [agt_aset_if, if_neg hgo, d]
      have h2 : agt ((y : Int) + 1) (begS t ((n : Int) + 1) ⟨g, 5, true, 0, 0⟩).ids = some x := by
        simp only [begS]; rw [agt_aset_if, if_neg (by omega), hx]
      simp only [h1, Option.getD_some, h2]
      rw [if_neg (by omega)]
    rw [e]
    have hst := hox.st
    rcases ph_inT b with q | q | q | q | q | q
    · rw [q] at hst
      have hst : x.st = 1 := hst
      rw [if_pos hst]
      refine ⟨_, _, .inr ⟨y, thOf (f y), hy, a, hl, .inl ⟨by simp [thOf, q, Ph.fl], by simp [thOf, q, Ph.dc], by simp [thOf, q, Ph.cn], rfl, r.flushCancel hg hk h8 hy q hx hox⟩⟩⟩
    · rw [q] at hst
      have hst : x.st = 2 := hst
      rw [if_neg (by omega), if_pos hst]
      refine ⟨_, _, .inr ⟨y, thOf (f y), hy, a, hl, .inr ⟨.inr (.inr (by simp [thOf, q, Ph.cn])), rfl, r.flushNow hg hk h8 (m := some y) (by simp [q, Ph.cn]) (fun z hz => by cases hz; exact ⟨hy, .inl q⟩)⟩⟩⟩
    · rw [q] at hst
      have hst : x.st = 3 := hst
      rw [if_neg (by omega), if_neg (by omega), if_pos (.inl hst)]
      refine ⟨_, _, .inr ⟨y, thOf (f y), hy, a, hl, .inr ⟨.inr (.inl (by simp [thOf, q, Ph.dc])), rfl, r.flushWait hg hk h8 hy (.inl q)⟩⟩⟩
    · rw [q] at hst
      have hst : x.st = 4 := hst
      rw [if_neg (by omega), if_neg (by omega), if_neg (by omega)]
      refine ⟨_, _, .inr ⟨y, thOf (f y), hy, a, hl, .inr ⟨.inr (.inl (by simp [thOf, q, Ph.dc])), rfl, r.flushNow hg hk h8 (m := some y) (by simp [q, Ph.cn]) (fun z hz => by cases hz; exact ⟨hy, .inr (.inl q)⟩)⟩⟩⟩
    · rw [q] at hst
      have hst : x.st = 5 := hst
      rw [if_neg (by omega), if_neg (by omega), if_pos (.inr hst)]
      refine ⟨_, _, .inr ⟨y, thOf (f y), hy, a, hl, .inr ⟨.inl (by simp [thOf, q, Ph.fl]), rfl, r.flushWait hg hk h8 hy (.inr q)⟩⟩⟩
    · rw [q] at hst
      have hst : x.st = 6 := hst
      rw [if_neg (by omega), if_neg (by omega), if_neg (by omega)]
      refine ⟨_, _, .inr ⟨y, thOf (f y), hy, a, hl, .inr ⟨.inl (by simp [thOf, q, Ph.fl]), rfl, r.flushNow hg hk h8 (m := some y) (by simp [q, Ph.cn]) (fun z hz => by cases hz; exact ⟨hy, .inr (.inr q)⟩)⟩⟩⟩

/-- A thing is decided, or not. -/
theorem RunP.decides (r : RunP t l h sd n f B) {k : Nat} {X : Thing} (hk : k < n) (hX : l[k]? = some X) :
    decB t ((k : Int) + 1) = (!X.fl && !X.cn && !X.dc) ∧ ∃ f', RunP (decS t ((k : Int) + 1)) (l.set k { X with dc := X.dc || decB t ((k : Int) + 1) }) h sd n f' B ∧ (∀ j, (f' j).ph = .op ∨ (f' j).ph = .de → (f j).ph = .op ∨ (f j).ph = .de) ∧ (f' k).ph ≠ .op := by
  rw [r.lr.at_ k hk] at hX
  cases hX
  by_cases hi : (f k).ph.inT = true
  · obtain ⟨o, ho, hok⟩ := r.rl.ido k hk hi
    have hst := hok.st
    by_cases q : (f k).ph = .op
    · rw [q] at hst
      have hst : o.st = 1 := hst
      have hd : decB t ((k : Int) + 1) = true := by unfold decB; rw [ho]; simp [hst]
      have hds : decS t ((k : Int) + 1) = { t with ids := aset ((k : Int) + 1) { o with st := 3 } t.ids } := by unfold decS; rw [ho]; simp [hst]
      have hself : (phF f k .de k).ph = .de := by rw [phF_ph, if_pos rfl]
      have hne : ∀ j, j ≠ k → phF f k .de j = f j := fun j hj => setF_ne hj
      rw [hd, hds]
      refine ⟨by simp [thOf, q, Ph.fl, Ph.cn, Ph.dc], phF f k .de, ⟨r.ai.decide hk q, ?_, ?_, r.sd, r.n1, r.few⟩, ?_, ?_⟩
      · refine r.rl.turn hk hi ho hne (phF_tag _ _ _ _) (by rw [hself]; rfl) (by rw [hself, q]; rfl) ⟨by rw [phF_tag]; exact hok.tag, by rw [hself]; rfl, by rw [hself]; intro h; (cases h), ?_⟩ (fun j _ _ _ _ => by rw [hself, q]; rfl)
        have : frOf f k = 0 := by unfold frOf; rw [q]
        have h2 : frOf (phF f k .de) k = 0 := by unfold frOf; rw [hself]
        rw [h2]; exact hok.fr.trans this
      · have := r.lr.set_ (f' := phF f k .de) hk hne (phF_tag _ _ _ _) (by rw [hself, q]; rfl)
        have ht1 : thOf (phF f k .de k) = { thOf (f k) with dc := (thOf (f k)).dc || true } := by
          simp only [thOf, hself, phF_tag, phF_nm, q, Ph.fl, Ph.cn, Ph.dc, Ph.ak, Ph.wr, Bool.or_true]
        rw [ht1] at this
        exact this
      · intro j hj
        by_cases e : j = k
        · subst e; exact .inl q
        · rwa [hne j e] at hj
      · rw [hself]; intro h; cases h
    · have hst' : o.st ≠ 1 := by
        rw [hst]
        rcases ph_inT hi with z | z | z | z | z | z <;> rw [z] <;> first | exact absurd z q | (simp [Ph.stN])
      have hd : decB t ((k : Int) + 1) = false := by unfold decB; rw [ho]; simp [hst']
      have hds : decS t ((k : Int) + 1) = t := by unfold decS; rw [ho]; simp [hst']
      rw [hd, hds, Bool.or_false, set_same (r.lr.at_ k hk)]
      refine ⟨?_, f, r, fun j hj => hj, q⟩
      rcases ph_inT hi with z | z | z | z | z | z
      · exact absurd z q
      all_goals simp [thOf, z, Ph.fl, Ph.cn, Ph.dc]
  · have hi : (f k).ph.inT = false := by simpa using hi
    have hn := r.rl.absent (k := k) (.inr hi)
    have hd : decB t ((k : Int) + 1) = false := by unfold decB; rw [hn]
    have hds : decS t ((k : Int) + 1) = t := by unfold decS; rw [hn]
    rw [hd, hds, Bool.or_false, set_same (r.lr.at_ k hk)]
    refine ⟨?_, f, r, fun j hj => hj, fun e => by rw [e] at hi; cases hi⟩
    cases hq : (f k).ph <;> rw [hq] at hi <;> first | (cases hi; done) | simp [thOf, hq, Ph.fl, Ph.cn, Ph.dc]

/-- Going through those who wait. -/
theorem goR_law : ∀ (m p : Nat) {t : TbD} {f : Nat → Ab} {B : List Nat} {th : List Nat} {thm : List (Int × Unit)} {ks : List Int}, p + m = n → ks = ((List.range' p m).filter fun k => (f k).ph.inT).map (fun k : Nat => (k : Int) + 1) → AInv n f B none th p → Rl t n f B →
    (∀ y : Nat, (agt ((y : Int) + 1) thm).isSome = true ↔ y ∈ th) → (∀ z, z ∈ th → z ∈ B) →
    ∃ f' B', AI n f' B' ∧ Rl (goR ks thm t) n f' B' ∧ (∀ j, f' j = f j ∨ ((f j).ph = .wa ∧ f' j = { f j with ph := .fd })) ∧ (goR ks thm t).tags = t.tags ∧ ((goR ks thm t).row.filter fun r => !r.fr).length = (t.row.filter fun r => !r.fr).length
  | 0, p, t, f, B, th, thm, ks, hp, hks, v, r, hth, hB => by
    have : p = n := by omega
    subst this
    subst hks
    exact ⟨f, B, v.told, r, fun j => .inl rfl, rfl, rfl⟩
  | m + 1, p, t, f, B, th, thm, ks, hp, hks, v, r, hth, hB => by
    have hpn : p < n := by omega
    rw [List.range'_succ, List.filter_cons] at hks
    by_cases hi : (f p).ph.inT = true
    · rw [if_pos hi, List.map_cons] at hks
      obtain ⟨o, ho, hok⟩ := r.ido p hpn hi
      subst hks
      simp only [goR, ho]
      by_cases hc : o.st = 5 ∧ (agt o.wt thm).isSome = true
      · rw [if_pos hc]
        obtain ⟨hc1, hc2⟩ := hc
        have hw : (f p).ph = .wa := by
          have hst := hok.st
          rw [hc1] at hst
          rcases ph_inT hi with z | z | z | z | z | z <;> rw [z] at hst <;> first | exact z | (simp [Ph.stN] at hst)
        obtain ⟨y, hy, hcy⟩ := v.wa p hpn hw
        have hwt := hok.wt hw
        rw [hy] at hwt
        simp only [nmI] at hwt
        rw [hwt] at hc2
        have hyth := (hth y).1 hc2
        have hself : (phF f p .fd p).ph = .fd := by rw [phF_ph, if_pos rfl]
        have hne : ∀ j, j ≠ p → phF f p .fd j = f j := fun j hj => setF_ne hj
        have hyp := (v.nm p y hpn hy).1
        have hyB := hB y hyth
        have hycn : (f y).ph.cn = false := by
          obtain ⟨_, q⟩ := v.r1 y hyB
          rcases q with q | q <;> rw [q] <;> rfl
        have hfr : o.fr = 0 := by rw [hok.fr]; unfold frOf; rw [hw]
        have hfr2 : frOf (phF f p .fd) p = 0 := by
          unfold frOf
          rw [hself, phF_nm, hy]
          simp only [hne y (by omega), hycn, Bool.false_eq_true, if_false]
        have r1 := r.turn (g := phF f p .fd) (o' := { o with st := 6 }) hpn hi ho hne (phF_tag _ _ _ _) (by rw [hself]; rfl) (by rw [hself, hw]; rfl) ⟨by rw [phF_tag]; exact hok.tag, by rw [hself]; rfl, by rw [hself]; intro h; (cases h), by rw [hfr2]; exact hfr⟩ (fun j _ _ _ _ => by rw [hself, hw]; rfl)
        have r2 := r1.push (x := ⟨⟨109, o.tag, noS⟩, (p : Int) + 1, true⟩) ⟨fun _ => ⟨p, hpn, rfl, by rw [hself, phF_tag, hok.tag]; rfl⟩, fun h => by cases h⟩
        have hx : (repIx ⟨⟨109, o.tag, noS⟩, (p : Int) + 1, true⟩).toList = [p] := by
          have : ((p : Int) + 1 - 1).toNat = p := by omega
          simp [repIx, this]
        rw [hx] at r2
        have v1 := v.tell hB hpn hw hy hyth
        have ks1 : ((List.range' (p + 1) m).filter fun k => (f k).ph.inT).map (fun k : Nat => (k : Int) + 1) = ((List.range' (p + 1) m).filter fun k => (phF f p .fd k).ph.inT).map (fun k : Nat => (k : Int) + 1) := by
          congr 1
          refine List.filter_congr fun k hk => ?_
          rw [List.mem_range'_1] at hk
          rw [hne k (by omega)]
        obtain ⟨f', B', a, b, c, d, e⟩ := goR_law m (p + 1) (by omega) ks1 v1 r2 (thm := aset ((p : Int) + 1) () thm) (by
          intro z
          rw [agt_aset_if]
          by_cases q : z = p
          · subst q; simp
          · rw [if_neg (by omega), hth z]
            simp [q]) (by
          intro z hz
          rcases List.mem_append.1 hz with hz | hz
          · exact List.mem_append_left _ (hB z hz)
          · exact List.mem_append_right _ hz)
        refine ⟨f', B', a, b, ?_, d, ?_⟩
        · intro j
          by_cases q : j = p
          · subst q
            rcases c j with c | ⟨c, _⟩
            · exact .inr ⟨hw, by rw [c]; exact setF_self _ _ _⟩
            · rw [hself] at c; cases c
          · rw [← hne j q]; exact c j
        · exact e.trans (filter_push _ _ _)
      · rw [if_neg hc]
        refine goR_law m (p + 1) (by omega) rfl (v.skip ?_) r hth hB
        by_cases hw : (f p).ph = .wa
        · right
          intro y hy hyth
          refine hc ⟨by rw [hok.st, hw]; rfl, ?_⟩
          rw [hok.wt hw, hy]
          exact (hth y).2 hyth
        · exact .inl hw
    · rw [if_neg hi] at hks
      refine goR_law m (p + 1) (by omega) hks (v.skip (.inl fun h => hi (by rw [h]; rfl))) r hth hB

/-- The table's numbers, sorted. -/
theorem Rl.keys (r : Rl t n f B) {ks : List Int} (hp : ks.Perm (t.ids.map (·.1))) (hs : ks.Pairwise (· ≤ ·)) : ks = ((List.range' 0 n).filter fun k => (f k).ph.inT).map (fun k : Nat => (k : Int) + 1) := by
  refine perm_sorted_unique (r := (· ≤ ·)) (fun x _ y _ h1 h2 => by omega) ?_ hs ?_ (fun x _ => Int.le_refl x)
  · refine hp.trans ((List.perm_ext_iff_of_nodup r.ndI ?_).2 fun a => ?_)
    · refine List.Pairwise.map _ (fun a b h => by omega) ((List.nodup_range' ..).filter _)
    · rw [← agt_isSome_iff]
      simp only [List.mem_map, List.mem_filter, List.mem_range'_1]
      constructor
      · intro hs
        obtain ⟨o, ho⟩ := Option.isSome_iff_exists.1 hs
        obtain ⟨k, hk, e, q⟩ := r.idk a o ho
        exact ⟨k, ⟨⟨by omega, by omega⟩, q⟩, e.symm⟩
      · rintro ⟨k, ⟨⟨_, hk⟩, q⟩, rfl⟩
        obtain ⟨o, ho, _⟩ := r.ido k (by omega) q
        rw [ho]; rfl
  · refine List.Pairwise.map _ (fun a b (h : a < b) => by omega) ?_
    exact (List.pairwise_lt_range' ..).filter _

/-- A thing is answered, or not. -/
theorem RunP.answers (r : RunP t l h sd n f B) {k : Nat} {X : Thing} {ks : List Int} {mt : Int} (hk : k < n) (hX : l[k]? = some X)
    (hp : ks.Perm (t.ids.map (·.1))) (hs : ks.Pairwise (· ≤ ·)) :
    repB t ((k : Int) + 1) = (X.dc && !X.an) ∧ ∃ f' B', RunP (repS t ((k : Int) + 1) ⟨121, mt, noS⟩ ks) (l.set k { X with an := X.an || repB t ((k : Int) + 1) }) h sd n f' B' ∧ (∀ j, (f' j).ph = .op ∨ (f' j).ph = .de → f' j = f j) ∧ (f' k).ph ≠ .de := by
  rw [r.lr.at_ k hk] at hX
  cases hX
  by_cases hi : (f k).ph.inT = true
  · obtain ⟨o, ho, hok⟩ := r.rl.ido k hk hi
    have hst := hok.st
    by_cases q : (f k).ph = .de
    · rw [q] at hst
      have hst : o.st = 3 := hst
      have hd : repB t ((k : Int) + 1) = true := by unfold repB; rw [ho]; simp [hst]
      have hds : repS t ((k : Int) + 1) ⟨121, mt, noS⟩ ks = goR ks [((k : Int) + 1, ())] (ansS t ((k : Int) + 1) o ⟨121, mt, noS⟩) := by unfold repS; rw [ho]; simp [hst]
      have hself : (phF f k .an k).ph = .an := by rw [phF_ph, if_pos rfl]
      have hne : ∀ j, j ≠ k → phF f k .an j = f j := fun j hj => setF_ne hj
      rw [hd, hds]
      have r1 := r.rl.turn (g := phF f k .an) (o' := { o with st := 4 }) hk hi ho hne (phF_tag _ _ _ _) (by rw [hself]; rfl) (by rw [hself, q]; rfl) ⟨by rw [phF_tag]; exact hok.tag, by rw [hself]; rfl, by rw [hself]; intro h; (cases h), by
        have : frOf f k = 0 := by unfold frOf; rw [q]
        have h2 : frOf (phF f k .an) k = 0 := by unfold frOf; rw [hself]
        rw [h2]; exact hok.fr.trans this⟩ (fun j _ _ _ _ => by rw [hself, q]; rfl)
      have r2 := r1.push (x := ⟨⟨121, o.tag, noS⟩, (k : Int) + 1, true⟩) ⟨fun _ => ⟨k, hk, rfl, by rw [hself, phF_tag, hok.tag]; rfl⟩, fun h => by cases h⟩
      have hx : (repIx ⟨⟨121, o.tag, noS⟩, (k : Int) + 1, true⟩).toList = [k] := by
        have : ((k : Int) + 1 - 1).toNat = k := by omega
        simp [repIx, this]
      rw [hx] at r2
      have v1 := r.ai.answer hk q
      have inT : ∀ j, (phF f k .an j).ph.inT = (f j).ph.inT := by
        intro j
        by_cases e : j = k
        · subst e; rw [hself, q]; rfl
        · rw [hne j e]
      have hks := r.rl.keys hp hs
      have hks' : ks = ((List.range' 0 n).filter fun j => (phF f k .an j).ph.inT).map (fun k : Nat => (k : Int) + 1) := by
        rw [hks]; congr 1
        exact List.filter_congr fun j _ => (inT j).symm
      obtain ⟨f', B', a, b, c, d, e⟩ := goR_law n 0 (by omega) hks' v1 r2 (thm := [((k : Int) + 1, ())]) (by
        intro y
        simp only [agt]
        by_cases q : y = k
        · subst q; simp
        · rw [if_neg (by omega)]; simp [q]) (by intro z hz; exact List.mem_append_right _ hz)
      have ch : ∀ j, j ≠ k → f' j = f j ∨ ((f j).ph = .wa ∧ f' j = { f j with ph := .fd }) := by
        intro j hj
        rw [← hne j hj]
        exact c j
      have fk : f' k = phF f k .an k := by
        rcases c k with c | ⟨c, _⟩
        · exact c
        · rw [hself] at c; cases c
      refine ⟨by simp [thOf, q, Ph.dc, Ph.ak], f', B', ⟨a, b, ?_, ?_, r.n1, by rw [show (goR ks [((k : Int) + 1, ())] (ansS t ((k : Int) + 1) o ⟨121, mt, noS⟩)).tags = t.tags from d]; exact r.few⟩, ?_, by rw [fk, hself]; intro h; cases h⟩
      · have h1 := r.lr.set_ (f' := phF f k .an) hk hne (phF_tag _ _ _ _) (inT k)
        have ht1 : thOf (phF f k .an k) = { thOf (f k) with an := (thOf (f k)).an || true } := by
          simp only [thOf, hself, phF_tag, phF_nm, q, Ph.fl, Ph.cn, Ph.dc, Ph.ak, Ph.wr, Bool.or_true]
        rw [ht1] at h1
        refine h1.alike fun j hj => ?_
        by_cases e : j = k
        · subst e; rw [fk]; exact ⟨rfl, rfl⟩
        · rw [hne j e]
          rcases ch j e with c | ⟨c1, c2⟩
          · rw [c]; exact ⟨rfl, rfl⟩
          · rw [c2]; simp [thOf, c1, Ph.fl, Ph.cn, Ph.dc, Ph.ak, Ph.wr, Ph.inT]
      · rw [r.sd]
        exact congrArg _ ((e.trans (filter_push _ _ _)).symm)
      · intro j hj
        by_cases z : j = k
        · subst z; rw [fk, hself] at hj; rcases hj with hj | hj <;> cases hj
        · rcases ch j z with c | ⟨c1, c2⟩
          · exact c
          · rw [c2] at hj; rcases hj with hj | hj <;> cases hj
    · have hst' : o.st ≠ 3 := by
        rw [hst]
        rcases ph_inT hi with z | z | z | z | z | z <;> rw [z] <;> first | exact absurd z q | (simp [Ph.stN])
      have hd : repB t ((k : Int) + 1) = false := by unfold repB; rw [ho]; simp [hst']
      have hds : repS t ((k : Int) + 1) ⟨121, mt, noS⟩ ks = t := by unfold repS; rw [ho]; simp [hst']
      rw [hd, hds, Bool.or_false, set_same (r.lr.at_ k hk)]
      refine ⟨?_, f, B, r, fun j hj => rfl, q⟩
      rcases ph_inT hi with z | z | z | z | z | z
      · simp [thOf, z, Ph.dc, Ph.ak]
      · simp [thOf, z, Ph.dc, Ph.ak]
      · exact absurd z q
      all_goals simp [thOf, z, Ph.dc, Ph.ak]
  · have hi : (f k).ph.inT = false := by simpa using hi
    have hn := r.rl.absent (k := k) (.inr hi)
    have hd : repB t ((k : Int) + 1) = false := by unfold repB; rw [hn]
    have hds : repS t ((k : Int) + 1) ⟨121, mt, noS⟩ ks = t := by unfold repS; rw [hn]
    rw [hd, hds, Bool.or_false, set_same (r.lr.at_ k hk)]
    refine ⟨?_, f, B, r, fun j hj => rfl, fun e => by rw [e] at hi; cases hi⟩
    cases hq : (f k).ph <;> rw [hq] at hi <;> first | (cases hi; done) | simp [thOf, hq, Ph.dc, Ph.ak]
end

end Go.Proofs.Yteefkhfmpcaccaa
