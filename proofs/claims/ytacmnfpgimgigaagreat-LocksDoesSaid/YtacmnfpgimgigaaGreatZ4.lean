/- The engine's fourth part: operations that do not look at the world: what is asked suffices. -/
import Derived.Test.YtacmnfpgimgigaaGreatZ1
import Derived.Test.YtacmnfpgimgigaaGreatZ2
import Derived.Test.YtacmnfpgimgigaaGreatZ3
namespace Go.Proofs.YtacmnfpgimgigaaGreat
open Go

section sound
variable {P : Program}

theorem run_unV {op : UnOp} {x v : Value} (h : unV op x = some v) (w : World) : (Op.unary op x).run P w = .ok v w := by
  unfold unV at h
  split at h <;> simp only [Option.some.injEq, reduceCtorEq] at h <;> subst h <;> simp [Op.unary, Op.intArith, go_sem]

theorem run_convV {s d : TypeId} {x v : Value} (h : convV (P.underlying s) (P.underlying d) x = some v) (w : World) : (convert s d x).run P w = .ok v w := by
  unfold convV at h
  split at h
  · rename_i _ _ _ u k k' n hs hd
    simp only [Option.some.injEq] at h
    subst h
    unfold convert
    simp only [Sem.run_bind, run_underlying' hs, run_underlying' hd, Result.andThen_ok, Conv.intToInt]
    rfl
  · rename_i _ _ _ s' hs hd
    simp only [Option.some.injEq] at h
    subst h
    unfold convert
    simp only [Sem.run_bind, run_underlying' hs, run_underlying' hd, Result.andThen_ok]
    rfl
  · rename_i _ _ _ k' k n hs hd
    simp only [Option.some.injEq] at h
    subst h
    unfold convert
    simp only [Sem.run_bind, run_underlying' hs, run_underlying' hd, Result.andThen_ok]
    rfl
  · cases h

theorem run_typeInfo' {T : TypeId} {i : TypeInfo} (h : P.info? T = some i) (w : World) : (typeInfo T).run P w = .ok i w := by
  simp [typeInfo, program, Sem.run, h, go_sem]

theorem run_sizeOf' {T : TypeId} {i : TypeInfo} (h : P.info? T = some i) (w : World) : (sizeOf T).run P w = .ok i.size w := by
  simp only [sizeOf, Sem.run_bind, run_typeInfo' h, Result.andThen_ok]; rfl

theorem run_fieldV {T : TypeId} {i : Nat} {x v : Value} (h : fieldV (fieldOff P T i) x = some v) (w : World) : (Instr.fieldAt T x i).run P w = .ok v w := by
  unfold fieldV at h
  split at h
  · rename_i o a ho
    simp only [Option.some.injEq] at h
    subst h
    unfold fieldOff at ho
    split at ho <;> try (cases ho; done)
    rename_i fs hu
    split at ho <;> try (cases ho; done)
    rename_i f hf
    split at ho <;> try (cases ho; done)
    rename_i t ht
    split at ho <;> try (cases ho; done)
    rename_i hsz
    simp only [Option.some.injEq] at ho
    subst ho
    unfold Instr.fieldAt
    simp only [Sem.run_bind, run_underlying' hu, Result.andThen_ok, hf]
    simp only [Instr.sureAddr, fieldPlace, Sem.run_bind, Sem.run_pure, run_sizeOf' ht, Result.andThen_ok, if_neg hsz]
  · cases h

theorem run_isAgg {T : TypeId} {o : Option Nat} (h : aggSz P T = some o) (w : World) : (isAgg T).run P w = .ok o.isSome w := by
  unfold aggSz at h
  split at h <;> try (cases h; done)
  · rename_i hu hi
    simp only [Option.some.injEq] at h; subst h
    simp only [isAgg, Sem.run_bind, run_underlying' hu, Result.andThen_ok]; rfl
  · rename_i hu hi
    simp only [Option.some.injEq] at h; subst h
    simp only [isAgg, Sem.run_bind, run_underlying' hu, Result.andThen_ok]; rfl
  · rename_i d t hns hna hu hi
    simp only [Option.some.injEq] at h; subst h
    simp only [isAgg, Sem.run_bind, run_underlying' hu, Result.andThen_ok]
    cases d <;> first | rfl | (exact absurd rfl (hns _ hu)) | (exact absurd rfl (hna _ _ hu)) | simp_all

theorem aggSz_info {T : TypeId} {n : Nat} (h : aggSz P T = some (some n)) : ∃ i, P.info? T = some i ∧ i.size = n := by
  unfold aggSz at h
  split at h <;> simp only [Option.some.injEq, reduceCtorEq] at h
  · rename_i i _ hi; exact ⟨i, hi, h⟩
  · rename_i i _ hi; exact ⟨i, hi, h⟩

theorem run_partV {T : TypeId} {off : Nat} {cs : Array Value} {v : Value} (h : partV (aggSz P T) off cs = some v) (w : World) : (part T cs off).run P w = .ok v w := by
  unfold partV at h
  split at h
  · rename_i n ha
    simp only [Option.some.injEq] at h; subst h
    obtain ⟨i, hi, rfl⟩ := aggSz_info ha
    simp only [part, Sem.run_bind, run_isAgg ha, Result.andThen_ok, Option.isSome_some, if_true, run_sizeOf' hi]
    rfl
  · rename_i ha
    simp only [part, Sem.run_bind, run_isAgg ha, Result.andThen_ok, Option.isSome_none, Bool.false_eq_true, if_false, h]
    rfl
  · cases h

theorem run_fldV {T : TypeId} {i : Nat} {x v : Value} (h : fldV P (fieldTy P T i) x = some v) (w : World) : (Instr.field T x i).run P w = .ok v w := by
  unfold fldV at h
  split at h
  · rename_i t off cs hf
    unfold fieldTy at hf
    split at hf <;> try (cases hf; done)
    rename_i fs hu
    obtain ⟨f, hf1, hf2⟩ := Option.map_eq_some_iff.1 hf
    simp only [Prod.mk.injEq] at hf2
    obtain ⟨rfl, rfl⟩ := hf2
    unfold Instr.field
    simp only [Sem.run_bind, run_underlying' hu, Result.andThen_ok, hf1, asAgg, Sem.run_pure]
    exact run_partV h w
  · cases h

theorem elemOf_some {T : TypeId} {o : Option Nat} {sz : Nat} (h : elemOf? P T = some (o, sz)) :
    (o = none ∧ ∃ e i, P.underlying T = some (.slice e) ∧ P.info? e = some i ∧ i.size = sz) ∨ (∃ n e i, o = some n ∧ P.underlying T = some (.array n e) ∧ P.info? e = some i ∧ i.size = sz) := by
  unfold elemOf? at h
  split at h
  · rename_i e hu
    obtain ⟨i, hi, h2⟩ := Option.map_eq_some_iff.1 h
    simp only [Prod.mk.injEq] at h2
    exact .inl ⟨h2.1.symm, e, i, hu, hi, h2.2⟩
  · rename_i n e hu
    obtain ⟨i, hi, h2⟩ := Option.map_eq_some_iff.1 h
    simp only [Prod.mk.injEq] at h2
    exact .inr ⟨n, e, i, h2.1.symm, hu, hi, h2.2⟩
  · cases h

theorem run_idxD {T : TypeId} {x i : Value} {K : Value → Prop} (h : idxD (elemOf? P T) x i K) : ∃ v, (∀ w, (Instr.indexAt T x i).run P w = .ok v w) ∧ K v := by
  unfold idxD at h
  split at h
  · rename_i _ _ _ sz a len cap k n he
    obtain ⟨⟨h0, h1⟩, hK⟩ := h
    rcases elemOf_some he with ⟨_, e, t, hu, hi, rfl⟩ | ⟨_, _, _, h, _⟩
    · refine ⟨_, fun w => ?_, hK⟩
      unfold Instr.indexAt
      simp [asIntOf, Sem.run_bind, run_underlying' hu, run_sizeOf' hi, h0, h1, go_sem]
    · cases h
  · rename_i _ _ _ len sz a k n he
    obtain ⟨⟨h0, h1⟩, hK⟩ := h
    rcases elemOf_some he with ⟨h, _⟩ | ⟨_, e, t, h, hu, hi, rfl⟩
    · cases h
    · simp only [Option.some.injEq] at h
      subst h
      refine ⟨_, fun w => ?_, hK⟩
      unfold Instr.indexAt
      simp [asIntOf, Instr.sureAddr, Sem.run_bind, run_underlying' hu, run_sizeOf' hi, h0, h1, go_sem]
  · exact h.elim

theorem run_tupV {x v : Value} {i : Nat} (h : tupV x i = some v) (w : World) : (Instr.extract x i).run P w = .ok v w := by
  unfold tupV at h
  split at h
  · simp only [Instr.extract, h]; rfl
  · cases h

theorem bnd_some {x : Option Value} {d : Nat} {n : Int} (h : bnd x d = some n) : (x = none ∧ n = d) ∨ ∃ k, x = some (.int k n) := by
  unfold bnd at h
  split at h
  · simp only [Option.some.injEq] at h; exact .inl ⟨rfl, h.symm⟩
  · simp only [Option.some.injEq] at h; subst h; exact .inr ⟨_, rfl⟩
  · cases h

theorem run_sliceBound {k : IntKind} {n : Int} {y : Nat} {c : BoundsCode} (h0 : 0 ≤ n) (h1 : n ≤ y) (w : World) : (Instr.sliceBound (.int k n) y c).run P w = .ok n.toNat w := by
  simp [Instr.sliceBound, asIntOf, h0, h1, go_sem]

theorem run_sliceBounds {b : Bool} {len cap : Nat} {lo hi : Option Value} {l h : Int} (hl : bnd lo 0 = some l) (hh : bnd hi len = some h) (h0 : 0 ≤ l) (h1 : l ≤ h) (h2 : h ≤ cap) (w : World) :
    (Instr.sliceBounds b len cap lo hi none).run P w = .ok (l.toNat, h.toNat, cap) w := by
  have e0 : 0 ≤ h := Int.le_trans h0 h1
  have e1 : l ≤ (h.toNat : Int) := by omega
  have s2 : ∀ k, (Instr.sliceBound (.int k h) cap (if b = true then .sliceAcap else .sliceAlen)).run P w = .ok h.toNat w := fun k => run_sliceBound e0 h2 w
  have s1 : ∀ k, (Instr.sliceBound (.int k l) h.toNat .sliceB).run P w = .ok l.toNat w := fun k => run_sliceBound h0 e1 w
  rcases bnd_some hh with ⟨rfl, rfl⟩ | ⟨k', rfl⟩ <;> rcases bnd_some hl with ⟨rfl, rfl⟩ | ⟨k, rfl⟩ <;>
    (try simp only [Int.toNat_natCast] at s1 s2 ⊢) <;>
    simp only [Instr.sliceBounds, Sem.run_bind, Sem.run_pure, Result.andThen_ok, s1, s2, Option.isSome_none, Bool.false_eq_true, if_false]

theorem run_sliceD {T : TypeId} {x : Value} {lo hi mx : Option Value} {K : Value → Prop} (h : sliceD (elemOf? P T) x lo hi mx K) : ∃ v, (∀ w, (Instr.sliceAt T x lo hi mx).run P w = .ok v w) ∧ K v := by
  unfold sliceD at h
  split at h
  · rename_i sz a len cap he
    split at h
    · rename_i l hh hl hhi
      obtain ⟨⟨h0, h1, h2⟩, hK⟩ := h
      rcases elemOf_some he with ⟨_, e, t, hu, hi', rfl⟩ | ⟨_, _, _, h, _⟩
      · refine ⟨_, fun w => ?_, hK⟩
        simp only [Instr.sliceAt, Instr.slice, Sem.run_bind, run_underlying' hu, Result.andThen_ok, run_sliceBounds hl hhi h0 h1 h2, run_sizeOf' hi']
        rfl
      · cases h
    · exact h.elim
  · rename_i sz a len cap mx he
    split at h
    · rename_i l hh m hl hhi hmx
      obtain ⟨⟨hsome, h0, h1, h2, h3⟩, hK⟩ := h
      rcases elemOf_some he with ⟨_, e, t, hu, hi', rfl⟩ | ⟨_, _, _, h, _⟩
      · refine ⟨_, fun w => ?_, hK⟩
        have hbounds : (Instr.sliceBounds true len cap lo hi (some mx)).run P w = .ok (l.toNat, hh.toNat, m.toNat) w := by
          have e0 : 0 ≤ hh := Int.le_trans h0 h1
          have em : 0 ≤ m := Int.le_trans e0 h2
          have e1 : l ≤ (hh.toNat : Int) := by omega
          have e2 : hh ≤ (m.toNat : Int) := by omega
          have s3 : ∀ k, (Instr.sliceBound (.int k m) cap .slice3Acap).run P w = .ok m.toNat w := fun k => run_sliceBound em h3 w
          have s2 : ∀ k, (Instr.sliceBound (.int k hh) m.toNat .slice3B).run P w = .ok hh.toNat w := fun k => run_sliceBound e0 e2 w
          have s1 : ∀ k, (Instr.sliceBound (.int k l) hh.toNat .slice3C).run P w = .ok l.toNat w := fun k => run_sliceBound h0 e1 w
          rcases bnd_some hmx with ⟨h, _⟩ | ⟨km, hm⟩
          · cases h
          simp only [Option.some.injEq] at hm; subst hm
          rcases bnd_some hhi with ⟨rfl, _⟩ | ⟨kh, rfl⟩
          · cases hsome
          rcases bnd_some hl with ⟨rfl, rfl⟩ | ⟨k, rfl⟩ <;>
            simp only [Instr.sliceBounds, Sem.run_bind, Sem.run_pure, Result.andThen_ok, s1, s2, s3, Option.isSome_some, if_true, Int.toNat_natCast]
        simp only [Instr.sliceAt, Instr.slice, Sem.run_bind, run_underlying' hu, Result.andThen_ok, hbounds, run_sizeOf' hi']
        rfl
      · cases h
    · exact h.elim
  · rename_i n sz a he
    split at h
    · rename_i l hh hl hhi
      obtain ⟨⟨h0, h1, h2⟩, hK⟩ := h
      rcases elemOf_some he with ⟨h, _⟩ | ⟨_, e, t, h, hu, hi', rfl⟩
      · cases h
      · simp only [Option.some.injEq] at h
        subst h
        refine ⟨_, fun w => ?_, hK⟩
        simp only [Instr.sliceAt, Instr.sureAddr, Sem.run_bind, Sem.run_pure, run_underlying' hu, Result.andThen_ok, run_sliceBounds hl hhi h0 h1 h2, run_sizeOf' hi']
    · exact h.elim
  · exact h.elim

theorem run_strSliceD {T : TypeId} {x : Value} {lo hi : Option Value} {K : Value → Prop} (hu : P.underlying T = some .string) (h : strSliceD x lo hi K) : ∃ v, (∀ w, (Instr.sliceAt T x lo hi none).run P w = .ok v w) ∧ K v := by
  unfold strSliceD at h
  split at h
  · rename_i s
    split at h
    · rename_i l hh hl hhi
      obtain ⟨⟨h0, h1, h2⟩, hK⟩ := h
      refine ⟨_, fun w => ?_, hK⟩
      simp only [Instr.sliceAt, Instr.slice, Sem.run_bind, run_underlying' hu, Result.andThen_ok, Option.isSome_none, Bool.false_eq_true, if_false, run_sliceBounds hl hhi h0 h1 h2]
      rfl
    · exact h.elim
  · exact h.elim

theorem run_idxV {T : TypeId} {ex : Nat × Option (Option Nat)} {x i : Value} {K : Value → Prop} (hsz : ∀ n e, P.underlying T = some (.array n e) → ex = (P.cellsOf e, aggSz P e)) (h : idxV (P.underlying T) ex x i K) : ∃ v, (∀ w, (Instr.index T x i).run P w = .ok v w) ∧ K v := by
  unfold idxV at h
  split at h
  · rename_i s k n hu
    obtain ⟨⟨h0, h1⟩, hK⟩ := h
    refine ⟨_, fun w => ?_, hK⟩
    have hlt : n.toNat < s.size := by omega
    simp only [Instr.index, asIntOf, Sem.run_bind, Sem.run_pure, run_underlying' hu, Result.andThen_ok, if_pos h0]
    have hg : s[n.toNat]? = some s[n.toNat] := getElem?_pos s n.toNat hlt
    have hl : n.toNat < s.data.toList.length := by simpa using hlt
    have hg2 : s.data.toList.getD n.toNat 0 = s[n.toNat] := by
      rw [List.getD_eq_getElem?_getD, List.getElem?_eq_getElem hl]; rfl
    simp only [hg, hg2]
    rfl
  · rename_i len el cs k n hu
    obtain ⟨⟨h0, h1⟩, v, hv, hK⟩ := h
    refine ⟨v, fun w => ?_, hK⟩
    have := hsz _ _ hu
    subst this
    simp only [Instr.index, asIntOf, Sem.run_bind, Sem.run_pure, run_underlying' hu, Result.andThen_ok, if_pos (And.intro h0 h1)]
    have hi : ∃ i, P.info? el = some i := by
      cases hag : aggSz P el with
      | none => simp [hag, partV] at hv
      | some o =>
        unfold aggSz at hag
        split at hag <;> simp_all
    obtain ⟨i, hi⟩ := hi
    have hc : P.cellsOf el = i.size := by simp [Program.cellsOf, hi]
    simp only [run_sizeOf' hi, Result.andThen_ok]
    rw [← hc]
    exact run_partV hv w
  · exact h.elim

theorem run_lenV {ts : Array TypeId} {t : TypeId} (ht : ts[0]? = some t) {x v : Value} {T : TypeId} (h : lenV (P.underlying t) x = some v) (w : World) : (Builtin.len_ ts T #[x]).run P w = .ok v w := by
  unfold lenV at h
  split at h <;> simp only [Option.some.injEq, reduceCtorEq] at h <;> subst h <;> rename_i hu <;>
    simp [Builtin.len_, ht, Sem.run_bind, run_underlying' hu, goInt, go_sem]

theorem run_capV {ts : Array TypeId} {t : TypeId} (ht : ts[0]? = some t) {x v : Value} {T : TypeId} (h : capV (P.underlying t) x = some v) (w : World) : (Builtin.cap_ ts T #[x]).run P w = .ok v w := by
  unfold capV at h
  split at h <;> simp only [Option.some.injEq, reduceCtorEq] at h <;> subst h <;> rename_i hu <;>
    simp [Builtin.cap_, ht, Sem.run_bind, run_underlying' hu, goInt, go_sem]

theorem run_minV {ts : Array TypeId} {x y v : Value} {T : TypeId} (h : minV x y = some v) (w : World) : (Builtin.min_ ts T #[x, y]).run P w = .ok v w := by
  unfold minV at h
  split at h <;> simp only [Option.some.injEq, reduceCtorEq] at h <;> subst h <;> simp [Builtin.min_, Builtin.min2, go_sem]

theorem run_maxV {ts : Array TypeId} {x y v : Value} {T : TypeId} (h : maxV x y = some v) (w : World) : (Builtin.max_ ts T #[x, y]).run P w = .ok v w := by
  unfold maxV at h
  split at h <;> simp only [Option.some.injEq, reduceCtorEq] at h <;> subst h <;> simp [Builtin.max_, Builtin.max2, go_sem]

theorem fold_setRowL : ∀ (l : List Value) (cs : Array Value) (off j : Nat),
    (l.zipIdx j).foldl (fun cs (x : Value × Nat) => cs.setIfInBounds (off + x.2) x.1) cs = (setRowL cs.toList (off + j) l).toArray
  | [], cs, off, j => by simp [setRowL]
  | v :: l, cs, off, j => by
    rw [List.zipIdx_cons, List.foldl_cons, fold_setRowL l]
    simp [setRowL, Nat.add_assoc]

theorem fill_eq (place : Nat → Option (Nat × Nat)) : ∀ (parts : List (Nat × Value)) (cells : List Value), Instr.fill place cells.toArray parts = (fillL place cells parts).map List.toArray
  | [], cells => rfl
  | (i, v) :: rest, cells => by
    simp only [Instr.fill, fillL]
    cases place i with
    | none => rfl
    | some p =>
      obtain ⟨off, size⟩ := p
      simp only [List.size_toArray]
      have hc : ((v.cells.size ≠ size ∨ off + v.cells.size > cells.length)) = ((v.cells.size ≠ size || decide (off + v.cells.size > cells.length)) = true) := by simp
      by_cases h : (v.cells.size ≠ size ∨ off + v.cells.size > cells.length)
      · rw [if_pos h, if_pos (by simpa using h)]; rfl
      · rw [if_neg h, if_neg (by simpa using h)]
        have := fold_setRowL v.cells.toList cells.toArray off 0
        rw [← Array.toList_zipIdx, Array.foldl_toList] at this
        simp only [Nat.add_zero] at this
        rw [show (Array.foldl (fun cs x => match x with | (c, j) => cs.setIfInBounds (off + j) c) cells.toArray v.cells.zipIdx) = (setRowL cells off v.cells.toList).toArray from this, fill_eq place rest]

theorem run_bldV {T : TypeId} {parts : Array (Nat × Value)} {v : Value} (h : bldV (bldP P T) parts.toList = some v) (w : World) : (Instr.build T parts).run P w = .ok v w := by
  unfold bldV at h
  split at h
  · rename_i z p hb
    obtain ⟨l, hl, rfl⟩ := Option.map_eq_some_iff.1 h
    refine run_build w T parts l.toArray ?_
    unfold bldP at hb
    unfold Program.built
    split at hb <;> try (cases hb; done)
    · rename_i it n el hi hu
      split at hb <;> try (cases hb; done)
      rename_i z' ie hz hie
      simp only [Option.some.injEq, Prod.mk.injEq] at hb
      obtain ⟨rfl, rfl⟩ := hb
      simp only [hi, hu, hz, hie]
      have := fill_eq (plc (none, ie.size)) parts.toList z'.cells.toList
      rw [hl] at this
      exact this
    · rename_i it fs hi hu
      split at hb <;> try (cases hb; done)
      rename_i z' pl hz hpl
      simp only [Option.some.injEq, Prod.mk.injEq] at hb
      obtain ⟨rfl, rfl⟩ := hb
      simp only [hi, hu, hz, hpl]
      have := fill_eq (plc (some pl, 0)) parts.toList z'.cells.toList
      rw [hl] at this
      have he : (fun x => pl.toArray[x]?) = plc (some pl, 0) := by funext i; simp [plc]
      rw [he]
      exact this
  · cases h

theorem pureD_sound {o : Oper} {e : FA} {K : Value → Prop} (h : pureD P o e K) : ∃ v, (∀ w, (opS o e).run P w = .ok (.value v) w) ∧ K v := by
  obtain ⟨dst, op, ty, pos, af, g⟩ := o
  have val : ∀ (s : Sem Value) (v : Value) (w : World), s.run P w = .ok v w → (do pure (Next.value (← s)) : Sem Next).run P w = .ok (.value v) w := fun s v w h => by
    simp only [Sem.run_bind, h, Result.andThen_ok]; rfl
  unfold pureD at h
  unfold opS execOp
  cases op <;> simp only at h ⊢ <;> try (exact h.elim)
  case move x => exact ⟨_, fun _ => rfl, h⟩
  case assign x => exact ⟨_, fun _ => rfl, h⟩
  case pick c a b =>
    obtain ⟨v, hv, hK⟩ := h
    refine ⟨v, fun w => ?_, hK⟩
    unfold pickV at hv
    split at hv
    · rename_i t ht
      simp only [Option.some.injEq] at hv
      subst hv
      simp only [asBool, ht, Sem.run_bind, Sem.run_pure, Result.andThen_ok]
    · cases hv
  case nilCheck x =>
    obtain ⟨v, hv, hK⟩ := h
    refine ⟨v, fun w => ?_, hK⟩
    unfold nilV at hv
    split at hv <;> simp only [Option.some.injEq, reduceCtorEq] at hv <;> subst hv <;> rename_i hx <;> simp only [hx] <;> rfl
  case binOp op T x y T' =>
    obtain ⟨v, hv, hK⟩ := h
    refine ⟨v, fun w => val _ _ _ ?_, hK⟩
    simp only [Sem.run_bind, run_eqGuard hv, Result.andThen_ok, run_binV hv]
  case unOp op T x =>
    obtain ⟨v, hv, hK⟩ := h
    exact ⟨v, fun w => val _ _ _ (run_unV hv w), hK⟩
  case convert s d x =>
    obtain ⟨v, hv, hK⟩ := h
    exact ⟨v, fun w => val _ _ _ (run_convV hv w), hK⟩
  case fieldAddr T x i =>
    obtain ⟨v, hv, hK⟩ := h
    exact ⟨v, fun w => val _ _ _ (run_fieldV hv w), hK⟩
  case field T x i =>
    obtain ⟨v, hv, hK⟩ := h
    exact ⟨v, fun w => val _ _ _ (run_fldV hv w), hK⟩
  case indexAddr T x i =>
    obtain ⟨v, hv, hK⟩ := run_idxD h
    exact ⟨v, fun w => val _ _ _ (hv w), hK⟩
  case index T x i =>
    obtain ⟨v, hv, hK⟩ := run_idxV (fun n el hu => by simp [arrEx, hu]) h
    exact ⟨v, fun w => val _ _ _ (hv w), hK⟩
  case extract x i =>
    obtain ⟨v, hv, hK⟩ := h
    exact ⟨v, fun w => val _ _ _ (run_tupV hv w), hK⟩
  case slice T x lo hi mx =>
    split at h
    · rename_i hu
      obtain ⟨rfl, h⟩ := h
      obtain ⟨v, hv, hK⟩ := run_strSliceD hu h
      exact ⟨v, fun w => val _ _ _ (hv w), hK⟩
    · obtain ⟨v, hv, hK⟩ := run_sliceD h
      exact ⟨v, fun w => val _ _ _ (hv w), hK⟩
  case build T ps =>
    obtain ⟨v, hv, hK⟩ := h
    refine ⟨v, fun w => val _ _ _ (run_bldV ?_ w), hK⟩
    rw [← hv]
    simp
  case makeFunc f a b => exact ⟨_, fun w => val _ _ _ rfl, h⟩
  case call c =>
    obtain ⟨callee, args, argTypes⟩ := c
    cases callee <;> simp only at h <;> try (exact h.elim)
    rename_i b
    have run : ∀ (s : Sem Value) (v : Value) (w : World), s.run P w = .ok v w → (do pure (Next.value (← s)) : Sem Next).run P w = .ok (.value v) w := val
    have one : ∀ {x}, args.toList = [x] → args = #[x] := fun h => by rw [← Array.toArray_toList (xs := args), h]
    have two : ∀ {x y}, args.toList = [x, y] → args = #[x, y] := fun h => by rw [← Array.toArray_toList (xs := args), h]
    split at h
    · rename_i x t ha ht
      obtain ⟨v, hv, hK⟩ := h
      rw [one ha]
      refine ⟨v, fun w => ?_, hK⟩
      have := val _ _ _ (run_lenV (P := P) ht (T := ty) hv w)
      simpa only [resolve, invoke, builtin, Sem.run_bind, Sem.run_pure, Result.andThen_ok, List.map_toArray, List.map_cons, List.map_nil] using this
    · rename_i x t ha ht
      obtain ⟨v, hv, hK⟩ := h
      rw [one ha]
      refine ⟨v, fun w => ?_, hK⟩
      have := val _ _ _ (run_capV (P := P) ht (T := ty) hv w)
      simpa only [resolve, invoke, builtin, Sem.run_bind, Sem.run_pure, Result.andThen_ok, List.map_toArray, List.map_cons, List.map_nil] using this
    · rename_i x y ha
      obtain ⟨v, hv, hK⟩ := h
      rw [two ha]
      refine ⟨v, fun w => ?_, hK⟩
      have := val _ _ _ (run_minV (P := P) (ts := argTypes) (T := ty) hv w)
      simpa only [resolve, invoke, builtin, Sem.run_bind, Sem.run_pure, Result.andThen_ok, List.map_toArray, List.map_cons, List.map_nil] using this
    · rename_i x y ha
      obtain ⟨v, hv, hK⟩ := h
      rw [two ha]
      refine ⟨v, fun w => ?_, hK⟩
      have := val _ _ _ (run_maxV (P := P) (ts := argTypes) (T := ty) hv w)
      simpa only [resolve, invoke, builtin, Sem.run_bind, Sem.run_pure, Result.andThen_ok, List.map_toArray, List.map_cons, List.map_nil] using this
    · exact h.elim

end sound
end Go.Proofs.YtacmnfpgimgigaaGreat
