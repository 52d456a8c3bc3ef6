/- Maps of one's own: made, looked up, written, gone through. -/
import Derived.Test.YtonajgmamdeohaaGreatDoorSl2
import Derived.MapKept
import Derived.Maps.RangeRun
import Derived.Carry
import Derived.WideKeyRuns
namespace Go.Proofs.YtonajgmamdeohaaGreatDoor
open Go

section lists
variable {κ : Type} [DecidableEq κ]

def ixOf (x : κ) : List (κ × Value) → Nat → Option (Nat × Value)
  | [], _ => none
  | (y, v) :: l, i => if x = y then some (i, v) else ixOf x l (i + 1)
def lk (x : κ) : List (κ × Value) → Option Value
  | [] => none
  | (y, v) :: l => if x = y then some v else lk x l
def upd (x : κ) (v : Value) : List (κ × Value) → List (κ × Value)
  | [] => [(x, v)]
  | (y, u) :: l => if x = y then (x, v) :: l else (y, u) :: upd x v l
def del (x : κ) : List (κ × Value) → List (κ × Value)
  | [] => []
  | (y, u) :: l => if x = y then l else (y, u) :: del x l

theorem ixOf_lk (x : κ) : ∀ (l : List (κ × Value)) (i : Nat), (ixOf x l i).map (·.2) = lk x l
  | [], _ => rfl
  | (y, v) :: l, i => by
    simp only [ixOf, lk]
    split
    · rfl
    · exact ixOf_lk x l (i + 1)

theorem ixOf_none (x : κ) : ∀ (l : List (κ × Value)) (i : Nat) (v : Value), ixOf x l i = none → upd x v l = l ++ [(x, v)] ∧ del x l = l ∧ x ∉ l.map (·.1)
  | [], _, _, _ => ⟨rfl, rfl, by simp⟩
  | (y, u) :: l, i, v, h => by
    simp only [ixOf] at h
    split at h
    · cases h
    · rename_i hne
      obtain ⟨a, b, c⟩ := ixOf_none x l (i + 1) v h
      refine ⟨by simp [upd, hne, a], by simp [del, hne, b], ?_⟩
      simp only [List.map_cons, List.mem_cons, not_or]
      exact ⟨hne, c⟩

theorem ixOf_some (x : κ) : ∀ (l : List (κ × Value)) (i j : Nat) (u v : Value), ixOf x l i = some (j, u) → ∃ k, j = i + k ∧ l[k]? = some (x, u) ∧ upd x v l = l.set k (x, v) ∧ del x l = l.eraseIdx k
  | [], _, _, _, _, h => by cases h
  | (y, u') :: l, i, j, u, v, h => by
    simp only [ixOf] at h
    split at h
    · rename_i he
      subst he
      simp only [Option.some.injEq, Prod.mk.injEq] at h
      obtain ⟨rfl, rfl⟩ := h
      exact ⟨0, rfl, rfl, by simp [upd], by simp [del]⟩
    · rename_i hne
      obtain ⟨k, hk, h1, h2, h3⟩ := ixOf_some x l (i + 1) j u v h
      exact ⟨k + 1, by omega, by simpa using h1, by simp [upd, hne, h2], by simp [del, hne, h3]⟩

theorem upd_keys (x : κ) (v : Value) (l : List (κ × Value)) : (upd x v l).map (·.1) = if x ∈ l.map (·.1) then l.map (·.1) else l.map (·.1) ++ [x] := by
  induction l with
  | nil => simp [upd]
  | cons p l ih =>
    obtain ⟨y, u⟩ := p
    by_cases h : x = y
    · subst h; simp [upd]
    · simp only [upd, h, if_false, List.map_cons, ih, List.mem_cons, false_or]
      split <;> rfl
end lists

/-- Keys of a type: they are found by their being the same. -/
structure KeyLaw (P : Program) (kt : TypeId) {κ : Type} [DecidableEq κ] (enc : κ → Value) : Prop where
  check : ∀ (b : Bool) (w : World) (x : κ), (Instr.checkKey b 10000 kt (enc x)).run P w = .ok () w
  find : ∀ (w : World) (x : κ) (l : List MapEntry) (ks : List (κ × Value)), l.map (fun e => (e.key, e.val)) = ks.map (fun p => (enc p.1, p.2)) → (Instr.findKey kt (enc x) l).run P w = .ok (ixOf x ks 0) w
  same : ∀ x : κ, Instr.sameBits 10000 (enc x) (enc x) = true

theorem KeyLaw.int {P : Program} {kt : TypeId} {k : IntKind} (hu : P.underlying kt = some (.int k)) : KeyLaw P kt (fun n : Int => Value.int k n) := by
  refine ⟨fun b w x => MapKept.run_checkKey hu (by simp [MapKept.IsKey]) b 9999, fun w x l ks h => MapKept.run_findKey hu ?_, fun x => by simp [Instr.sameBits]⟩
  generalize 0 = i
  induction l generalizing ks i with
  | nil => cases ks with
    | nil => rfl
    | cons p ks => simp at h
  | cons e l ih => cases ks with
    | nil => simp at h
    | cons p ks =>
      simp only [List.map_cons, List.cons.injEq, Prod.mk.injEq] at h
      obtain ⟨⟨hk, hv⟩, h⟩ := h
      simp only [Instr.findNow, hk, Instr.sameNow, if_true, ixOf]
      by_cases hx : x = p.1
      · simp [hx, hv]
      · have : (x == p.1) = false := by simp [hx]
        simp only [this, if_neg hx]
        exact ih ks h (i + 1)

theorem KeyLaw.str {P : Program} {kt : TypeId} (hu : P.underlying kt = some .string) : KeyLaw P kt (fun s : ByteArray => Value.string s) := by
  refine ⟨fun b w x => MapKept.run_checkKey hu (by simp [MapKept.IsKey]) b 9999, fun w x l ks h => MapKept.run_findKey hu ?_, fun x => by simp [Instr.sameBits, MapKept.bytes_beq]⟩
  generalize 0 = i
  induction l generalizing ks i with
  | nil => cases ks with
    | nil => rfl
    | cons p ks => simp at h
  | cons e l ih => cases ks with
    | nil => simp at h
    | cons p ks =>
      simp only [List.map_cons, List.cons.injEq, Prod.mk.injEq] at h
      obtain ⟨⟨hk, hv⟩, h⟩ := h
      simp only [Instr.findNow, hk, Instr.sameNow, ixOf]
      by_cases hx : x = p.1
      · have : (x == p.1) = true := (MapKept.bytes_beq _ _).2 hx
        simp only [this, if_pos hx, hv]
      · have : (x == p.1) = false := by
          cases hb : x == p.1 with
          | false => rfl
          | true => exact (hx ((MapKept.bytes_beq _ _).1 hb)).elim
        simp only [this, if_neg hx]
        exact ih ks h (i + 1)

/-! ### Keys that are rows of plain cells -/

def ChkOk (P : Program) (em : Bool) (d : Nat) (T : TypeId) (ks : List Leaf) : Prop :=
  ∀ (w : World) (m : Nat) (xs : Array Value) (off : Nat) (b : Bool), leafEq ks ((xs.toList.drop off).take ks.length) ((xs.toList.drop off).take ks.length) = some b →
    ∃ u, (part T xs off).run P w = .ok u w ∧ (Instr.checkKey em (d + m) T u).run P w = .ok () w

theorem run_chkFs {P : Program} {em : Bool} {d : Nat} (ih : ∀ T ks, flatK P d T = some ks → (P.info? T).map (·.size) = some ks.length → ChkOk P em d T ks) (w : World) (m : Nat) (X : Array Value) :
    ∀ (fs : List Field) (o : Nat) (ks : List Leaf) (b : Bool), flatFs P (flatK P d) fs o = some ks → leafEq ks ((X.toList.drop o).take ks.length) ((X.toList.drop o).take ks.length) = some b →
      (forIn (m := Sem) fs PUnit.unit fun f _ => do
        if f.name ≠ "_" then Instr.checkKey em (d + m) f.type (← part f.type X f.offset)
        pure (ForInStep.yield PUnit.unit)).run P w = .ok PUnit.unit w
  | [], o, ks, b, h, hb => by simp
  | f :: fs, o, ks, b, h, hb => by
    unfold flatFs at h
    split at h
    · cases h
    · rename_i hn
      simp only [not_or, Decidable.not_not] at hn
      obtain ⟨hn, ho⟩ := hn
      split at h
      · cases h
      · rename_i ks1 hk
        split at h
        · rename_i hsz
          obtain ⟨ks2, h2, rfl⟩ := Option.map_eq_some_iff.1 h
          obtain ⟨b1, b2, e1, e2, rfl⟩ := leafEq_app ks1 ks2 _ _ b hb
          rw [List.take_take, List.length_append, Nat.min_eq_left (by omega)] at e1
          rw [List.drop_take, List.drop_drop, List.length_append, show ks1.length + ks2.length - ks1.length = ks2.length by omega] at e2
          obtain ⟨u, p1, p2⟩ := ih f.type ks1 hk hsz w m X o b1 e1
          have r := run_chkFs ih w m X fs (o + ks1.length) ks2 b2 h2 e2
          rw [ho.symm] at p1
          simp only [List.forIn_cons, Sem.run_bind, hn, ne_eq, not_false_eq_true, if_true, p1, p2, Result.andThen_ok, Sem.run_pure]
          exact r
        · cases h

theorem run_chkK {P : Program} {em : Bool} : ∀ (d : Nat) (T : TypeId) (ks : List Leaf), flatK P d T = some ks → (P.info? T).map (·.size) = some ks.length → ChkOk P em d T ks
  | 0, _, _, h, _ => by cases h
  | d + 1, T, ks, h, hs => by
    intro w m xs off b hb
    rw [show d + 1 + m = d + m + 1 by omega]
    unfold flatK at h
    split at h
    · rename_i k hu
      simp only [Option.some.injEq] at h
      subst h
      have hp : P.plainKey T = true := by simp [Program.plainKey, hu]
      obtain ⟨k1, x, y, e1, e2, rfl⟩ := leafEq_int hb
      exact ⟨_, run_part_plain w hp (getElem?_of_chunk e1), by simp [Instr.checkKey, run_underlying hu]⟩
    · rename_i hu
      simp only [Option.some.injEq] at h
      subst h
      have hp : P.plainKey T = true := by simp [Program.plainKey, hu]
      obtain ⟨x, y, e1, e2, rfl⟩ := leafEq_bool hb
      exact ⟨_, run_part_plain w hp (getElem?_of_chunk e1), by simp [Instr.checkKey, run_underlying hu]⟩
    · rename_i hu
      simp only [Option.some.injEq] at h
      subst h
      have hp : P.plainKey T = true := by simp [Program.plainKey, hu]
      obtain ⟨x, y, e1, e2, rfl⟩ := leafEq_str hb
      exact ⟨_, run_part_plain w hp (getElem?_of_chunk e1), by simp [Instr.checkKey, run_underlying hu]⟩
    · rename_i fs hu
      split at h
      · cases h
      · rename_i hst
        refine ⟨_, run_part_struct hu hs w xs off, ?_⟩
        have hx : ∀ zs : Array Value, ((zs.extract off (off + ks.length)).toList.drop 0).take ks.length = (zs.toList.drop off).take ks.length := by
          intro zs
          rw [Array.toList_extract, List.drop_zero, List.extract_eq_take_drop, Nat.add_sub_cancel_left, List.take_take, Nat.min_self]
        have r := run_chkFs (em := em) (run_chkK d) w m (xs.extract off (off + ks.length)) fs.toList 0 ks b h (by rw [hx]; exact hb)
        rw [Instr.checkKey]
        simp only [Sem.run_bind, run_underlying hu, Result.andThen_ok]
        rw [← Array.forIn_toList]
        simp at r ⊢
        rw [r]; rfl
    · cases h

theorem leafEq_plain : ∀ (ks : List Leaf) (l1 l2 : List Value) (b : Bool), leafEq ks l1 l2 = some b → l1.length = ks.length ∧ l2.length = ks.length ∧ ∀ v ∈ l1, ∀ m, Instr.sameBits m v v = true := by
  intro ks
  induction ks with
  | nil => intro l1 l2 b h; obtain ⟨rfl, rfl, _⟩ := leafEq_nil h; simp
  | cons k ks ih =>
    intro l1 l2 b h
    obtain ⟨b1, b2, h1, h2, _⟩ := leafEq_app [k] ks l1 l2 b h
    obtain ⟨e1, e2, e3⟩ := ih _ _ _ h2
    have : ∃ u v, l1.take 1 = [u] ∧ l2.take 1 = [v] ∧ ∀ m, Instr.sameBits m u u = true := by
      cases k
      · obtain ⟨_, _, _, e1, e2, _⟩ := leafEq_int h1; exact ⟨_, _, e1, e2, fun m => by simp [Instr.sameBits]⟩
      · obtain ⟨_, _, e1, e2, _⟩ := leafEq_bool h1; exact ⟨_, _, e1, e2, fun m => by simp [Instr.sameBits]⟩
      · obtain ⟨_, _, e1, e2, _⟩ := leafEq_str h1; exact ⟨_, _, e1, e2, fun m => by simp [Instr.sameBits, MapKept.bytes_beq]⟩
    obtain ⟨u, v, f1, f2, hs⟩ := this
    have g1 := congrArg List.length f1
    have g2 := congrArg List.length f2
    simp only [List.length_drop, List.length_cons, List.length_nil, List.length_take] at e1 e2 g1 g2 ⊢
    refine ⟨by omega, by omega, fun v hv m => ?_⟩
    rcases l1 with _ | ⟨x, l1⟩
    · simp at hv
    · simp only [List.take_succ_cons, List.take_zero, List.cons.injEq, and_true] at f1
      subst f1
      rcases List.mem_cons.1 hv with rfl | hv
      · exact hs m
      · exact e3 v (by simpa using hv) m

theorem KeyLaw.agg {P : Program} {kt : TypeId} {κ : Type} [DecidableEq κ] {enc : κ → List Value} {ks : List Leaf} (hk : flatE P kt = some ks) (he : ∀ x y : κ, leafEq ks (enc x) (enc y) = some (decide (x = y))) : KeyLaw P kt (fun x : κ => Value.agg (enc x).toArray) := by
  have hk' := hk
  unfold flatE at hk'
  split at hk' <;> try (cases hk'; done)
  rename_i fs hu
  split at hk' <;> try (cases hk'; done)
  have hk2 := hk'
  unfold flatK at hk2
  rw [hu] at hk2
  simp only at hk2
  split at hk2 <;> try (cases hk2; done)
  have hlen : ∀ x : κ, (enc x).length = ks.length := fun x => (leafEq_plain _ _ _ _ (he x x)).1
  refine ⟨fun b w x => ?_, fun w x l es h => ?_, fun x => ?_⟩
  · show (Instr.checkKey b (9999 + 1) kt (.agg (enc x).toArray)).run P w = .ok () w
    rw [Instr.checkKey]
    simp only [Sem.run_bind, run_underlying hu, Result.andThen_ok]
    rw [← Array.forIn_toList]
    have r := run_chkFs (em := b) (run_chkK 19) w 9980 (enc x).toArray fs.toList 0 ks _ hk2 (by rw [List.drop_zero, List.take_of_length_le (by simp [hlen])]; exact he x x)
    simp at r ⊢
    rw [r]; rfl
  · rw [run_findKey_eq w (by simp [hu])]
    generalize 0 = i
    induction l generalizing es i with
    | nil => cases es with
      | nil => simp [Instr.findAsking, ixOf]
      | cons p es => simp at h
    | cons e l ih => cases es with
      | nil => simp at h
      | cons p es =>
        simp only [List.map_cons, List.cons.injEq, Prod.mk.injEq] at h
        obtain ⟨⟨hkk, hv⟩, h⟩ := h
        have r := (run_aggEq (P := P) (T := kt) (xs := (enc x).toArray) (ys := (enc p.1).toArray) (b := decide (x = p.1)) (by rw [hk]; exact he x p.1) w).1
        simp only [Instr.findAsking, hkk, Sem.run_bind, r, Result.andThen_ok, ixOf]
        by_cases hx : x = p.1
        · simp [hx, hv]
        · simp only [hx, decide_false, Bool.false_eq_true, if_false]
          exact ih es h (i + 1)
  · show Instr.sameBits (9999 + 1) (.agg (enc x).toArray) (.agg (enc x).toArray) = true
    simp only [Instr.sameBits, beq_self_eq_true, Bool.true_and, List.all_eq_true]
    intro p hp
    obtain ⟨i, hi, e⟩ := List.getElem_of_mem hp
    rw [List.getElem_zip] at e
    rw [← e]
    exact (leafEq_plain _ _ _ _ (he x x)).2.2 _ (List.getElem_mem _) _

section maps
variable {κ : Type} {P : Program}

/-- What a map's block is: its entries in their order. -/
structure MapIs (enc : κ → Value) (es : Array MapEntry) (clock : Nat) (l : List (κ × Value)) : Prop where
  list : es.toList.map (fun e => (e.key, e.val)) = l.map (fun p => (enc p.1, p.2))
  born : ∀ e ∈ es.toList, e.born < clock
  nodup : (es.toList.map (·.born)).Nodup
  keys : (l.map (·.1)).Nodup

def MapE (enc : κ → Value) (b : Nat) (es : Array MapEntry) (clock : Nat) (l : List (κ × Value)) : HP := fun h => h b = some (.map es clock) ∧ MapIs enc es clock l
/-- The map b is one's own; its entries. -/
def MapP (enc : κ → Value) (b : Nat) (l : List (κ × Value)) : HP := fun h => ∃ es clock, MapE enc b es clock l h

theorem MapIs.length {enc : κ → Value} {es : Array MapEntry} {clock : Nat} {l : List (κ × Value)} (h : MapIs enc es clock l) : es.size = l.length := by
  have := congrArg List.length h.list
  simpa using this

theorem MapP.open {enc : κ → Value} {b : Nat} {l : List (κ × Value)} {w0 w : World} {F : HP} (h : St w0 (MapP enc b l * F) w) : ∃ es clock, St w0 (MapE enc b es clock l * F) w := by
  obtain ⟨x, hl, h1, h2, hd, l1, l2, ⟨es, clock, hm⟩, hf⟩ := h.sat
  exact ⟨es, clock, h.os, h.tape, h.output, h.drawn, h.size, x, hl, h1, h2, hd, l1, l2, hm, hf⟩
theorem MapE.shut (enc : κ → Value) (b : Nat) (es : Array MapEntry) (clock : Nat) (l : List (κ × Value)) : Ent (MapE enc b es clock l) (MapP enc b l) := Ent.of fun _ h => ⟨es, clock, h⟩
theorem MapE.heap {enc : κ → Value} {b : Nat} {es : Array MapEntry} {clock : Nat} {l : List (κ × Value)} {w0 w : World} {F : HP} (h : St w0 (MapE enc b es clock l * F) w) : w.heap[b]? = some (.map es clock) ∧ MapIs enc es clock l := by
  obtain ⟨x, hl, h1, h2, hd, l1, l2, ⟨hb, hm⟩, hf⟩ := h.sat
  exact ⟨hl _ _ (l1 _ _ hb), hm⟩

theorem MapP.turn {enc : κ → Value} {b : Nat} {es' : Array MapEntry} {clock' : Nat} {l l' : List (κ × Value)} {w0 w : World} {F : HP} (h : St w0 (MapP enc b l * F) w) (hm : MapIs enc es' clock' l') :
    St w0 (MapP enc b l' * F) { w with heap := w.heap.setIfInBounds b (.map es' clock') } := by
  obtain ⟨es, clock, h1⟩ := MapP.open h
  have hb := (MapE.heap h1).1
  obtain ⟨q1, q2⟩ := MapKept.heap_set (o' := .map es' clock') hb
  refine h.turn (b := b) rfl rfl rfl (by simp) (fun _ ⟨_, _, h, _⟩ => ⟨_, h⟩) (fun k hk _ => q2 k hk) ⟨fun k => if k = b then some (.map es' clock') else none, fun k o e => by by_cases hkb : k = b <;> simp_all, fun k o e => ?_, ⟨es', clock', by simp, hm⟩⟩
  by_cases hkb : k = b
  · subst hkb; simp only [if_true] at e; cases e; exact q1
  · simp [hkb] at e

theorem MapIs.nil (enc : κ → Value) (clock : Nat) : MapIs enc #[] clock [] := ⟨rfl, by simp, by simp, by simp⟩

theorem MapIs.push {enc : κ → Value} {es : Array MapEntry} {clock : Nat} {l : List (κ × Value)} (h : MapIs enc es clock l) {x : κ} (hx : x ∉ l.map (·.1)) (v : Value) :
    MapIs enc (es.push { key := enc x, val := v, born := clock }) (clock + 1) (l ++ [(x, v)]) := by
  refine ⟨by simp [h.list], ?_, ?_, ?_⟩
  · intro e he
    simp only [Array.toList_push, List.mem_append, List.mem_singleton] at he
    rcases he with he | rfl
    · exact Nat.lt_succ_of_lt (h.born e he)
    · exact Nat.lt_succ_self _
  · simp only [Array.toList_push, List.map_append, List.map_cons, List.map_nil]
    refine List.nodup_append.2 ⟨h.nodup, by simp, ?_⟩
    intro a ha b hb
    simp only [List.mem_singleton] at hb
    subst hb
    obtain ⟨e, he, rfl⟩ := List.mem_map.1 ha
    exact Nat.ne_of_lt (h.born e he)
  · simp only [List.map_append, List.map_cons, List.map_nil]
    refine List.nodup_append.2 ⟨h.keys, by simp, ?_⟩
    intro a ha b hb
    simp only [List.mem_singleton] at hb
    subst hb
    rintro rfl
    exact hx ha

theorem MapIs.set {enc : κ → Value} {es : Array MapEntry} {clock : Nat} {l : List (κ × Value)} (h : MapIs enc es clock l) {x : κ} {k : Nat} {u : Value} (hk : l[k]? = some (x, u)) (v : Value) :
    MapIs enc (es.modify k fun e => { e with key := enc x, val := v }) clock (l.set k (x, v)) := by
  have hborn : (es.modify k fun e => { e with key := enc x, val := v }).toList.map (·.born) = es.toList.map (·.born) := by
    apply List.ext_getElem?
    intro j
    simp only [List.getElem?_map, Array.getElem?_toList, Array.getElem?_modify]
    split
    · subst_vars; cases es[j]? <;> rfl
    · rfl
  refine ⟨?_, ?_, by rw [hborn]; exact h.nodup, ?_⟩
  · apply List.ext_getElem?
    intro j
    have hj := congrArg (fun l => l[j]?) h.list
    simp only [List.getElem?_map, Array.getElem?_toList, Array.getElem?_modify, List.getElem?_set] at hj ⊢
    split
    · rename_i hkj
      subst hkj
      have hlt : k < l.length := (List.getElem?_eq_some_iff.1 hk).1
      have hlt' : k < es.size := by rw [h.length]; exact hlt
      simp [hlt, hlt']
    · exact hj
  · intro e he
    have : e.born ∈ (es.modify k fun e => { e with key := enc x, val := v }).toList.map (·.born) := List.mem_map_of_mem he
    rw [hborn] at this
    obtain ⟨e', he', hb⟩ := List.mem_map.1 this
    rw [← hb]; exact h.born e' he'
  · have : (l.set k (x, v)).map (·.1) = l.map (·.1) := by
      apply List.ext_getElem?
      intro j
      simp only [List.getElem?_map, List.getElem?_set]
      split
      · rename_i hkj
        subst hkj
        have hlt : k < l.length := (List.getElem?_eq_some_iff.1 hk).1
        have := (List.getElem?_eq_some_iff.1 hk).2
        simp [hlt, this]
      · rfl
    rw [this]; exact h.keys

theorem MapIs.erase {enc : κ → Value} {es : Array MapEntry} {clock : Nat} {l : List (κ × Value)} (h : MapIs enc es clock l) {k : Nat} (hk : k < l.length) :
    MapIs enc (es.eraseIdxIfInBounds k) clock (l.eraseIdx k) := by
  have hlt : k < es.size := by rw [h.length]; exact hk
  have he : (es.eraseIdxIfInBounds k).toList = es.toList.eraseIdx k := by simp [Array.eraseIdxIfInBounds, hlt]
  have hmap : ∀ {α β : Type} (f : α → β) (l : List α) (k : Nat), (l.eraseIdx k).map f = (l.map f).eraseIdx k := by
    intro α β f l
    induction l with
    | nil => intro k; rfl
    | cons a l ih => intro k; cases k <;> simp [ih]
  refine ⟨by rw [he, hmap, hmap, h.list], ?_, ?_, ?_⟩
  · intro e hx
    rw [he] at hx
    exact h.born e (List.mem_of_mem_eraseIdx hx)
  · rw [he, hmap]; exact List.Nodup.sublist (List.eraseIdx_sublist _ _) h.nodup
  · rw [hmap]; exact List.Nodup.sublist (List.eraseIdx_sublist _ _) h.keys

/-- What a look-up hands out. -/
def lkV (z : Value) (ok : Bool) : Option Value → Value
  | some v => if ok = true then .tuple #[v, .bool true] else v
  | none => if ok = true then .tuple #[z, .bool false] else z
theorem lkV_some {z v : Value} : lkV z false (some v) = v := rfl
theorem lkV_none {z : Value} : lkV z false none = z := rfl
theorem lkV_someOk {z v : Value} : lkV z true (some v) = .tuple #[v, .bool true] := rfl
theorem lkV_noneOk {z : Value} : lkV z true none = .tuple #[z, .bool false] := rfl

theorem run_zeroV {t : TypeId} {z : Value} {w : World} (hz : zeroV P t = some z) : (zeroValue t).run P w = .ok z w := by
  unfold zeroV at hz
  obtain ⟨i, hi, hz⟩ := Option.bind_eq_some_iff.1 hz
  simp only [zeroValue, Sem.run_bind, run_typeInfo' hi, hz, Result.andThen_ok]
  rfl

theorem St.lookup [DecidableEq κ] {w0 w : World} {F : HP} {enc : κ → Value} {b : Nat} {l : List (κ × Value)} {T kt et : TypeId} {z : Value} {ok : Bool} {x : κ} {K : Value → Prop} {θ : Tag K} (h : St w0 (MapP enc b l * F) w) (hu : P.underlying T = some (.map kt et)) (law : KeyLaw P kt enc) (hz : zeroV P et = some z)
    (hK : K (lkV z ok (lk x l))) : readR P (kLookup T (.map (some b)) (enc x) ok) w K θ := by
  show readR P (Instr.lookup T (.map (some b)) (enc x) ok) w K θ
  obtain ⟨es, clock, h1⟩ := MapP.open h
  obtain ⟨hb, hm⟩ := MapE.heap h1
  refine ⟨_, ?_, hK⟩
  have hf := law.find w x es.toList l hm.list
  have hx := ixOf_lk x l 0
  unfold Instr.lookup
  cases hi : ixOf x l 0 with
  | none =>
    rw [hi] at hx hf
    simp only [Option.map_none] at hx
    rw [← hx]
    simp only [Sem.run_bind, run_underlying' hu, Result.andThen_ok, MapKept.run_getObj_map hb, Sem.run_pure, law.check, hf, run_zeroV hz]
    cases ok <;> rfl
  | some p =>
    rw [hi] at hx hf
    simp only [Option.map_some] at hx
    rw [← hx]
    simp only [Sem.run_bind, run_underlying' hu, Result.andThen_ok, MapKept.run_getObj_map hb, Sem.run_pure, law.check, hf]
    cases ok <;> rfl

/-- A look-up in a map that is nil. -/
theorem St.lookupNil [DecidableEq κ] {w : World} {enc : κ → Value} {T kt et : TypeId} {z : Value} {ok : Bool} {x : κ} {K : Value → Prop} {θ : Tag K} (hu : P.underlying T = some (.map kt et)) (law : KeyLaw P kt enc) (hz : zeroV P et = some z)
    (hK : K (lkV z ok none)) : readR P (kLookup T (.map none) (enc x) ok) w K θ := by
  show readR P (Instr.lookup T (.map none) (enc x) ok) w K θ
  refine ⟨_, ?_, hK⟩
  have hf := law.find w x [] [] rfl
  unfold Instr.lookup
  simp only [Sem.run_bind, run_underlying' hu, Result.andThen_ok, Sem.run_pure, law.check, hf, ixOf, run_zeroV hz]
  cases ok <;> rfl

theorem St.update [DecidableEq κ] {w0 w : World} {F : HP} {enc : κ → Value} {b : Nat} {l : List (κ × Value)} {T kt et : TypeId} {x : κ} {v : Value} {K : World → Prop} {θ : Tag K} (h : St w0 (MapP enc b l * F) w) (hu : P.underlying T = some (.map kt et)) (law : KeyLaw P kt enc)
    (hK : ∀ w', St w0 (MapP enc b (upd x v l) * F) w' → K w') : semU P (kMapUpdate T (.map (some b)) (enc x) v) w K θ := by
  show semU P (Instr.mapUpdate T (.map (some b)) (enc x) v) w K θ
  obtain ⟨es, clock, h1⟩ := MapP.open h
  obtain ⟨hb, hm⟩ := MapE.heap h1
  have hf := law.find w x es.toList l hm.list
  cases hi : ixOf x l 0 with
  | none =>
    obtain ⟨e1, _, e3⟩ := ixOf_none x l 0 v hi
    rw [hi] at hf
    refine ⟨{ w with heap := w.heap.setIfInBounds b (.map (es.push { key := enc x, val := v, born := clock }) (clock + 1)) }, ?_, hK _ ?_⟩
    · simp only [Instr.mapUpdate, Sem.run_bind, run_underlying' hu, Result.andThen_ok, MapKept.run_getObj_map hb, law.check, hf, MapKept.run_setObj_map _ hb]
    · rw [e1]; exact MapP.turn h (hm.push e3 v)
  | some p =>
    obtain ⟨j, u⟩ := p
    obtain ⟨k, hk, hg, e1, _⟩ := ixOf_some x l 0 j u v hi
    rw [Nat.zero_add] at hk
    subst hk
    rw [hi] at hf
    have hkey : ((es[j]?).map (·.key)).getD (enc x) = enc x := by
      have := congrArg (fun l => l[j]?) hm.list
      simp only [List.getElem?_map, hg, Option.map_some, Array.getElem?_toList] at this
      obtain ⟨e, he, hx⟩ := Option.map_eq_some_iff.1 this
      simp only [Prod.mk.injEq] at hx
      simp [he, hx.1]
    refine ⟨{ w with heap := w.heap.setIfInBounds b (.map (es.modify j fun e => { e with key := enc x, val := v }) clock) }, ?_, hK _ ?_⟩
    · simp only [Instr.mapUpdate, Sem.run_bind, run_underlying' hu, Result.andThen_ok, MapKept.run_getObj_map hb, law.check, hf, hkey, Instr.keyThatStays, law.same, if_true, Sem.run_pure, MapKept.run_setObj_map _ hb]
    · rw [e1]; exact MapP.turn h (hm.set hg v)

theorem St.delete [DecidableEq κ] {w0 w : World} {F : HP} {enc : κ → Value} {b : Nat} {l : List (κ × Value)} {T kt et ty kt' : TypeId} {x : κ} {K : Value → World → Prop} {θ : Tag K} (h : St w0 (MapP enc b l * F) w) (hu : P.underlying T = some (.map kt et)) (law : KeyLaw P kt enc)
    (hK : ∀ w', St w0 (MapP enc b (del x l) * F) w' → K (.tuple #[]) w') : semD P (kDelete #[T, kt'] ty #[.map (some b), enc x]) w K θ := by
  show semD P (Builtin.delete_ #[T, kt'] ty #[.map (some b), enc x]) w K θ
  obtain ⟨es, clock, h1⟩ := MapP.open h
  obtain ⟨hb, hm⟩ := MapE.heap h1
  have hf := law.find w x es.toList l hm.list
  cases hi : ixOf x l 0 with
  | none =>
    obtain ⟨_, e2, _⟩ := ixOf_none x l 0 undef hi
    rw [hi] at hf
    refine ⟨.tuple #[], { w with heap := w.heap.setIfInBounds b (.map es clock) }, ?_, hK _ ?_⟩
    · simp [Builtin.delete_, Sem.run_bind, run_underlying' hu, Result.andThen_ok, MapKept.run_getObj_map hb, law.check, hf, MapKept.run_setObj_map _ hb]
    · rw [e2]; exact MapP.turn h hm
  | some p =>
    obtain ⟨j, u⟩ := p
    obtain ⟨k, hk, hg, _, e2⟩ := ixOf_some x l 0 j u undef hi
    rw [Nat.zero_add] at hk
    subst hk
    rw [hi] at hf
    refine ⟨.tuple #[], { w with heap := w.heap.setIfInBounds b (.map (es.eraseIdxIfInBounds j) clock) }, ?_, hK _ ?_⟩
    · simp [Builtin.delete_, Sem.run_bind, run_underlying' hu, Result.andThen_ok, MapKept.run_getObj_map hb, law.check, hf, MapKept.run_setObj_map _ hb]
    · rw [e2]; exact MapP.turn h (hm.erase (List.getElem?_eq_some_iff.1 hg).1)

theorem St.clearMap {w0 w : World} {F : HP} {enc : κ → Value} {b : Nat} {l : List (κ × Value)} {T kt et ty : TypeId} {K : Value → World → Prop} {θ : Tag K} (h : St w0 (MapP enc b l * F) w) (hu : P.underlying T = some (.map kt et))
    (hK : ∀ w', St w0 (MapP enc b [] * F) w' → K (.tuple #[]) w') : semD P (kClear #[T] ty #[.map (some b)]) w K θ := by
  show semD P (Builtin.clear_ #[T] ty #[.map (some b)]) w K θ
  obtain ⟨es, clock, h1⟩ := MapP.open h
  obtain ⟨hb, hm⟩ := MapE.heap h1
  refine ⟨.tuple #[], { w with heap := w.heap.setIfInBounds b (.map #[] clock) }, ?_, hK _ (MapP.turn h (MapIs.nil enc clock))⟩
  simp [Builtin.clear_, Sem.run_bind, run_underlying' hu, Result.andThen_ok, MapKept.run_getObj_map hb, MapKept.run_setObj_map _ hb]

theorem St.lenMap {w0 w : World} {F : HP} {enc : κ → Value} {b : Nat} {l : List (κ × Value)} {T kt et ty : TypeId} {K : Value → Prop} {θ : Tag K} (h : St w0 (MapP enc b l * F) w) (hu : P.underlying T = some (.map kt et))
    (hK : K (.int .i64 l.length)) : readR P (kLen #[T] ty #[.map (some b)]) w K θ := by
  show readR P (Builtin.len_ #[T] ty #[.map (some b)]) w K θ
  obtain ⟨es, clock, h1⟩ := MapP.open h
  obtain ⟨hb, hm⟩ := MapE.heap h1
  refine ⟨_, ?_, hK⟩
  simp [Builtin.len_, Sem.run_bind, run_underlying' hu, Result.andThen_ok, MapKept.run_getObj_map hb, hm.length, goInt]

theorem St.makeMap {w0 w : World} {F : HP} {enc : κ → Value} {T : TypeId} {K : Value → World → Prop} {θ : Tag K} (h : St w0 F w) (hK : ∀ b w', St w0 (MapP enc b [] * F) w' → K (.map (some b)) w') : semD P (kMakeMap T none) w K θ :=
  ⟨_, _, RowKit.run_makeMap T w, hK _ _ ((h.alloc _).ent (Ent.sep (Ent.of fun _ hb => ⟨#[], 0, hb, MapIs.nil enc 0⟩) (Ent.rfl' F)))⟩

/-! ### A map is gone through, in whatever order -/

/-- The map b, gone through by the iterator r: the entries that are left. -/
def RangeP (enc : κ → Value) (b r : Nat) (l left : List (κ × Value)) : HP := fun h => ∃ es clock seen, h b = some (.map es clock) ∧ h r = some (.mapIter (some b) clock seen clock) ∧ MapIs enc es clock l ∧
  (leftOf es seen).toList.map (fun e => (e.key, e.val)) = left.map (fun p => (enc p.1, p.2)) ∧ b ≠ r

end maps

end Go.Proofs.YtonajgmamdeohaaGreatDoor
