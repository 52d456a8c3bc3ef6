/- Accounts that are changed by a line: the plain law. users: CutPrefix; an account is put into a table, in another's place too. users: accounts are gone through, and a round may panic; without. -/
import Derived.Test.YtkijkoakloacoaaGreatDoorUA
import Derived.Test.YtkijkoakloacoaaGreatDoorUE
import Derived.Test.YtkijkoakloacoaaGreatDoorRf5
namespace Go.Proofs.YtkijkoakloacoaaGreatDoor
open Go
set_option linter.unusedVariables false
set_option linter.unusedSimpArgs false

/-- What a line that takes an account away names. -/
def goneF : List UInt8 → Option (List UInt8)
  | [] => none
  | c :: g => if c = 45 ∧ nameF g = true then some g else none
def mentF (g : List UInt8) (a : Acc) : Bool := a.leader == g || a.members.contains g
def leftF (L : List Acc) (g : List UInt8) : List Acc := L.filter fun a => !(a.name == g)
/-- It can be taken away. -/
def freeF (L : List Acc) (g : List UInt8) : Bool := known L g && L.all fun a => a.name == g || !mentF g a
def putF (L : List Acc) (a : Acc) : List Acc := if known L a.name then L.map (fun b => if b.name = a.name then a else b) else L ++ [a]
def endE (L : List Acc) : Except Nat (List Acc) := if joinF L then .ok L else .error 1
def editA (L : List Acc) (line : List UInt8) : Except Nat (List Acc) := match accF line with
  | none => .error 60
  | some a => if !onceF a then .error 61 else if !namedF (putF L a) a then .error 62 else endE (putF L a)
def editF (L : List Acc) (line : List UInt8) : Except Nat (List Acc) := match goneF line with
  | some g => if freeF L g then endE (leftF L g) else .error 62
  | none => editA L line

theorem nodup_idx {l : List (List UInt8)} (h : l.Nodup) {i k : Nat} (hi : i < l.length) (hk : k < l.length) (e : l[i] = l[k]) : i = k := by
  have hp := List.pairwise_iff_getElem.1 (List.nodup_iff_pairwise_ne.1 h)
  rcases Nat.lt_trichotomy i k with hl | he | hl
  · exact absurd e (hp i k hi hk hl)
  · exact he
  · exact absurd e.symm (hp k i hk hi hl)
theorem set_eq_map {L : List Acc} {i : Nat} {a : Acc} (hn : (L.map (·.name)).Nodup) (hi : i < L.length) (he : L[i].name = a.name) : L.set i a = L.map fun b => if b.name = a.name then a else b := by
  apply List.ext_getElem
  · simp
  · intro k h1 h2
    rw [List.getElem_set, List.getElem_map]
    have hk : k < L.length := by simpa using h1
    by_cases e : i = k
    · subst e; rw [if_pos rfl, if_pos he]
    · rw [if_neg e, if_neg]
      intro e2
      have h3 : (L.map (·.name))[i]'(by simpa using hi) = (L.map (·.name))[k]'(by simpa using hk) := by simp only [List.getElem_map]; rw [he, e2]
      exact e (nodup_idx hn _ _ h3)
theorem put_names {L : List Acc} {a : Acc} (h : known L a.name = true) : (putF L a).map (·.name) = L.map (·.name) := by
  unfold putF
  rw [if_pos h, List.map_map]
  apply List.map_congr_left
  intro b _
  simp only [Function.comp]
  by_cases e : b.name = a.name
  · rw [if_pos e, e]
  · rw [if_neg e]
theorem put_nodup {L : List Acc} {a : Acc} (hn : (L.map (·.name)).Nodup) : ((putF L a).map (·.name)).Nodup := by
  cases h : known L a.name
  · unfold putF
    rw [h, if_neg (by simp), List.map_append, List.nodup_append]
    refine ⟨hn, by simp, fun x hx y hy e => ?_⟩
    rw [List.map_singleton, List.mem_singleton] at hy
    subst hy
    subst e
    exact (known_false.1 h) hx
  · rw [put_names h]; exact hn
theorem left_nodup {L : List Acc} {g : List UInt8} (hn : (L.map (·.name)).Nodup) : ((leftF L g).map (·.name)).Nodup :=
  hn.sublist ((List.filter_sublist (l := L)).map _)
theorem edit_nodup {L M : List Acc} {line : List UInt8} (hn : (L.map (·.name)).Nodup) (h : editF L line = .ok M) : (M.map (·.name)).Nodup := by
  have fin : ∀ {X : List Acc}, (X.map (·.name)).Nodup → endE X = .ok M → (M.map (·.name)).Nodup := fun hx h => by
    unfold endE at h
    split at h
    · cases h; exact hx
    · cases h
  unfold editF at h
  split at h
  · split at h
    · exact fin (left_nodup hn) h
    · cases h
  · unfold editA at h
    split at h
    · cases h
    · split at h
      · cases h
      · split at h
        · cases h
        · exact fin (put_nodup hn) h
theorem left_snoc (L : List Acc) (g : List UInt8) (a : Acc) : leftF (L ++ [a]) g = leftF L g ++ (if a.name = g then [] else [a]) := by
  unfold leftF
  rw [List.filter_append]
  congr 1
  by_cases e : a.name = g
  · simp [e]
  · simp [e]
/-- What Parse reads has no name twice. -/
theorem read_nodup : ∀ (ls : List (List UInt8)) (n : Nat) (L : List Acc) (P : List Nat) {M : List Acc} {P' : List Nat}, (L.map (·.name)).Nodup → readF ls n L P = .ok (M, P') → (M.map (·.name)).Nodup
  | [], n, L, P, M, P', hn, h => by simp only [readF, Except.ok.injEq, Prod.mk.injEq] at h; rw [← h.1]; exact hn
  | l :: ls, n, L, P, M, P', hn, h => by
    rw [readF] at h
    split at h
    · exact read_nodup ls _ L P hn h
    · split at h
      · cases h
      · rename_i a ha
        split at h
        · cases h
        · rename_i hk
          simp only [Bool.or_eq_true, Bool.not_eq_true', not_or, Bool.not_eq_true] at hk
          refine read_nodup ls _ (L ++ [a]) _ ?_ h
          rw [List.map_append, List.nodup_append]
          refine ⟨hn, by simp, fun x hx y hy e => ?_⟩
          rw [List.map_singleton, List.mem_singleton] at hy
          subst hy
          subst e
          exact (known_false.1 hk.1) hx
theorem parse_nodup {s : List UInt8} {L : List Acc} (h : parseF s = .ok L) : (L.map (·.name)).Nodup := by
  unfold parseF at h
  split at h
  · cases h
  split at h
  · cases h
  · rename_i M P hr
    have hn := read_nodup _ _ _ _ (by simp) hr
    unfold endF at h
    split at h
    · cases h
    · split at h
      · cases h; exact hn
      · cases h

/-! ### A line that is added and taken away again -/

def fresh : List UInt8 := [102, 114, 101, 115, 104]
theorem fresh_ne_nm (i : Nat) : fresh ≠ nm i := by intro h; have := congrArg List.length h; simp [fresh, nm] at this
def freshA (ld : List UInt8) (ms : List (List UInt8)) : Acc := ⟨fresh, ld, ms, []⟩
def freshLine (ld : List UInt8) (ms : List (List UInt8)) : List UInt8 := fresh ++ 58 :: (ld ++ 58 :: (joinD 44 ms ++ [58]))
theorem fresh_row (ld : List UInt8) (ms : List (List UInt8)) : rowF (freshA ld ms) = freshLine ld ms := by
  have e : joinD 58 [([] : List UInt8)] = [] := by rw [joinD, Lib.join_one]
  simp only [rowF, freshA, freshLine]
  rw [joinD_two, joinD_two, joinD_two, e]
/-- What is told of the new account. -/
structure FreshOk (L : List Acc) (ld : List UInt8) (ms : List (List UInt8)) : Prop where
  lead : ld = [] ∨ ∃ k, k < L.length ∧ ld = nm k
  mem : ∀ m ∈ ms, ∃ k, k < L.length ∧ m = nm k
  once : ms.Nodup
theorem Made.known_fresh {L : List Acc} (h : Made L) : known L fresh = false := by
  rw [known_false, h.names]
  intro hm
  obtain ⟨k, _, e⟩ := List.mem_map.1 hm
  exact fresh_ne_nm k e.symm
theorem FreshOk.form {L : List Acc} {ld : List UInt8} {ms : List (List UInt8)} (f : FreshOk L ld ms) (h : Made L) : formF (freshA ld ms) = true := by
  have hf := h.few
  simp only [formF, freshA, Bool.and_eq_true, Bool.or_eq_true, beq_iff_eq, List.all_eq_true]
  refine ⟨⟨⟨by decide +kernel, ?_⟩, ?_⟩, by decide +kernel⟩
  · rcases f.lead with e | ⟨k, hk, e⟩
    · exact .inl e
    · exact .inr (by rw [e]; exact nm_name (by omega))
  · intro x hx
    obtain ⟨k, hk, e⟩ := f.mem x hx
    rw [e]; exact nm_name (by omega)
theorem FreshOk.few {L : List Acc} {ld : List UInt8} {ms : List (List UInt8)} (f : FreshOk L ld ms) : ms.length ≤ L.length := by
  have := nodup_len (m := (List.range L.length).map nm) f.once fun m hm => by
    obtain ⟨k, hk, e⟩ := f.mem m hm
    exact List.mem_map.2 ⟨k, List.mem_range.2 hk, e.symm⟩
  simpa using this
theorem FreshOk.line {L : List Acc} {ld : List UInt8} {ms : List (List UInt8)} (f : FreshOk L ld ms) (h : Made L) : (freshLine ld ms).length ≤ 200 := by
  have h1 := join_len 44 ms 3 fun m hm => by obtain ⟨k, _, e⟩ := f.mem m hm; rw [e, nm_len]; exact Nat.le_refl _
  have h2 := f.few
  have h3 := h.few
  have h5 : ld.length ≤ 3 := by
    rcases f.lead with e | ⟨k, _, e⟩
    · rw [e]; simp
    · rw [e, nm_len]; exact Nat.le_refl _
  simp only [freshLine, fresh, List.length_append, List.length_cons, List.length_nil]
  omega
theorem text_snoc (L : List Acc) (a : Acc) : textF (L ++ [a]) = textF L ++ lineF a := by simp [textF]
theorem undo_add {L : List Acc} {ld : List UInt8} {ms : List (List UInt8)} (f : FreshOk L ld ms) (h : Made L) : editF L (freshLine ld ms) = .ok (L ++ [freshA ld ms]) := by
  have hg : goneF (freshLine ld ms) = none := by simp [goneF, freshLine, fresh]
  have ha : accF (freshLine ld ms) = some (freshA ld ms) := by rw [← fresh_row]; exact accF_row (f.form h)
  have ho : onceF (freshA ld ms) = true := decide_eq_true f.once
  have hp : putF L (freshA ld ms) = L ++ [freshA ld ms] := by
    unfold putF
    rw [show (freshA ld ms).name = fresh from rfl, h.known_fresh, if_neg (by simp)]
  have hk : ∀ k, k < L.length → known (L ++ [freshA ld ms]) (nm k) = true := fun k hk => by
    have := h.knows hk
    simp only [known, List.any_append, Bool.or_eq_true] at this ⊢
    exact .inl this
  have hn : namedF (L ++ [freshA ld ms]) (freshA ld ms) = true := by
    simp only [namedF, freshA, Bool.and_eq_true, Bool.or_eq_true, beq_iff_eq, List.all_eq_true]
    refine ⟨?_, fun x hx => ?_⟩
    · rcases f.lead with e | ⟨k, hk', e⟩
      · exact .inl e
      · exact .inr ((congrArg (known (L ++ [freshA ld ms])) e).trans (hk k hk'))
    · obtain ⟨k, hk', e⟩ := f.mem x hx
      exact (congrArg (known (L ++ [freshA ld ms])) e).trans (hk k hk')
  have hj : joinF (L ++ [freshA ld ms]) = true := by
    refine decide_eq_true ?_
    have h1 := h.text
    have h2 := f.line h
    rw [text_snoc, List.length_append, lineF, fresh_row, List.length_append]
    simp only [List.length_cons, List.length_nil]
    omega
  unfold editF editA endE
  rw [hg, ha]
  simp only [hp, ho, hn, hj, Bool.not_true, Bool.false_eq_true, if_false, if_true]
theorem undo_text {L : List Acc} {ld : List UInt8} {ms : List (List UInt8)} : textF (L ++ [freshA ld ms]) = textF L ++ freshLine ld ms ++ [10] := by
  rw [text_snoc, lineF, fresh_row, List.append_assoc]
theorem Made.not_ment {L : List Acc} (h : Made L) {a : Acc} (ha : a ∈ L) : mentF fresh a = false := by
  obtain ⟨i, hi, rfl⟩ := List.getElem_of_mem ha
  have m := h.each i hi
  simp only [mentF, Bool.or_eq_false_iff, beq_eq_false_iff_ne]
  refine ⟨?_, ?_⟩
  · rcases m.lead with e | ⟨k, _, e⟩
    · rw [e]; decide
    · rw [e]; exact (fresh_ne_nm k).symm
  · rw [← Bool.not_eq_true, List.contains_iff_mem]
    intro hm
    obtain ⟨k, _, e⟩ := m.mem _ hm
    exact fresh_ne_nm k e
theorem undo_take {L : List Acc} {ld : List UInt8} {ms : List (List UInt8)} (f : FreshOk L ld ms) (h : Made L) : editF (L ++ [freshA ld ms]) (45 :: fresh) = .ok L := by
  have hg : goneF (45 :: fresh) = some fresh := by decide +kernel
  have hfr : freeF (L ++ [freshA ld ms]) fresh = true := by
    simp only [freeF, Bool.and_eq_true, List.all_eq_true, Bool.or_eq_true, beq_iff_eq, Bool.not_eq_true']
    refine ⟨by simp [known, freshA], fun a ha => ?_⟩
    rcases List.mem_append.1 ha with ha | ha
    · exact .inr (h.not_ment ha)
    · rw [List.mem_singleton] at ha
      subst ha
      exact .inl rfl
  have hl : leftF (L ++ [freshA ld ms]) fresh = L := by
    rw [left_snoc, if_pos (show (freshA ld ms).name = fresh from rfl), List.append_nil]
    unfold leftF
    rw [List.filter_eq_self]
    intro a ha
    have h1 := known_false.1 h.known_fresh
    simp only [Bool.not_eq_true', beq_eq_false_iff_ne]
    intro e
    exact h1 (List.mem_map.2 ⟨a, ha, e⟩)
  unfold editF endE
  rw [hg]
  simp only [hfr, hl, h.join, if_true]
theorem undo_none {L : List Acc} (h : Made L) : editF L (45 :: fresh) = .error 62 := by
  have hg : goneF (45 :: fresh) = some fresh := by decide +kernel
  have hfr : freeF L fresh = false := by unfold freeF; rw [h.known_fresh, Bool.false_and]
  unfold editF
  rw [hg]
  simp only [hfr, Bool.false_eq_true, if_false]
/-- Somebody else names the j-th one. -/
def namedBy (L : List Acc) (g : List UInt8) : Bool := L.any fun a => !(a.name == g) && mentF g a
theorem undo_del {L : List Acc} (h : Made L) {j : Nat} (hj : j < L.length) : editF L (45 :: L[j].name) = if namedBy L L[j].name then .error 62 else .ok (leftF L L[j].name) := by
  have hf := h.few
  have hnm := (h.each j hj).name
  have hg : goneF (45 :: L[j].name) = some L[j].name := by simp [goneF, hnm, nm_name (show j < 30 by omega)]
  have hk : known L L[j].name = true := by rw [hnm]; exact h.knows hj
  have hfr : freeF L L[j].name = !namedBy L L[j].name := by
    unfold freeF namedBy
    rw [hk, Bool.true_and, List.not_any_eq_all_not]
    congr 1
    funext a
    simp
  have hjn : joinF (leftF L L[j].name) = true := by
    refine decide_eq_true ?_
    have h1 := text_len (leftF L L[j].name) 200 fun a ha => by
      obtain ⟨i, hi, rfl⟩ := List.getElem_of_mem (List.mem_filter.1 ha).1
      exact (h.each i hi).row h.few
    have h2 : (leftF L L[j].name).length ≤ L.length := List.length_filter_le _ _
    omega
  unfold editF endE
  rw [hg]
  simp only [hfr, hjn]
  cases namedBy L L[j].name <;> simp
theorem left_known {L : List Acc} {g : List UInt8} : known (leftF L g) g = false := by
  rw [known_false]
  intro hm
  obtain ⟨a, ha, e⟩ := List.mem_map.1 hm
  have := (List.mem_filter.1 ha).2
  rw [e] at this
  simp at this
end Go.Proofs.YtkijkoakloacoaaGreatDoor

namespace Go.Proofs.YtkijkoakloacoaaGreatDoor
open Go
set_option linter.unusedVariables false
set_option linter.unusedSimpArgs false
set_option maxRecDepth 100000


theorem hasP_any {w0 w : World} {A : HP} (h : St w0 A w) (l : List UInt8) :
    Calls Tryz.prog 94 #[.string (strOf l), .string (strOf [45])] w fun e w' => St w0 A w' ∧ e = .returned (.bool (decide (l.take 1 = [45]))) := by
  refine F94.calls (by simp) ?_
  unfold F94.code
  have e1 : (([45] : List UInt8).length : Int) = 1 := rfl
  have e2 : (1 : Int).toNat = 1 := rfl
  have e3 : (0 : Int).toNat = 0 := rfl
  by_cases hl : (1 : Int) ≤ l.length
  · have hz : (0 : Int) ≤ 1 ∧ (1 : Int) ≤ l.length := ⟨by omega, hl⟩
    simp -dsimp -implicitDefEqProofs (disch := omega) only [go_sem, reqD_of, dec_t, dec_f, wrap_i64, wrap_u32, wrap_u64, wrap_u8, hl, e1, e2, e3, hz]
    exact h
  · have : l = [] := List.eq_nil_of_length_eq_zero (by omega)
    subst this
    simp -dsimp -implicitDefEqProofs (disch := omega) only [go_sem, reqD_of, dec_t, dec_f, wrap_i64, wrap_u32, wrap_u64, wrap_u8, e1]
    exact ⟨h, by decide⟩

section
attribute [local go_sem] F80.t3_eq
theorem cutP68 {w0 w : World} {A : HP} (h : St w0 A w) (l : List UInt8) :
    Calls Tryz.prog 80 #[.string (strOf l), .string (strOf [45])] w fun e w' => St w0 A w' ∧ e = .returned (.tuple (if l.take 1 = [45] then #[sv (l.drop 1), .bool true] else #[sv l, .bool false])) := by
  refine F80.calls (by simp) ?_
  unfold F80.code
  simp -dsimp -implicitDefEqProofs (disch := omega) only [go_sem, reqD_of, dec_t, dec_f, wrap_i64, wrap_u32, wrap_u64, wrap_u8]
  refine (hasP_any h l).mono ?_
  rintro e w1 ⟨h1, rfl⟩
  by_cases hl : l.take 1 = [45]
  · have hd : decide (l.take 1 = [45]) = true := decide_eq_true hl
    have hlen : (1 : Int) ≤ l.length := by
      have := congrArg List.length hl
      simp only [List.length_take, List.length_cons, List.length_nil] at this
      omega
    have e1 : (([45] : List UInt8).length : Int) = 1 := rfl
    have e2 : (1 : Int).toNat = 1 := rfl
    have hz : (0 : Int) ≤ 1 ∧ (1 : Int) ≤ l.length := ⟨by omega, hlen⟩
    have ht : (l.drop 1).take (l.length - 1) = l.drop 1 := List.take_of_length_le (by simp)
    rw [hd, if_pos hl]
    simp -dsimp -implicitDefEqProofs (disch := omega) only [go_sem, reqD_of, dec_t, dec_f, wrap_i64, wrap_u32, wrap_u64, wrap_u8, hlen, e1, e2, hz, Int.toNat_natCast, ht]
    exact h1
  · have hd : decide (l.take 1 = [45]) = false := decide_eq_false hl
    rw [hd, if_neg hl]
    simp -dsimp -implicitDefEqProofs (disch := omega) only [go_sem, reqD_of, dec_t, dec_f, wrap_i64, wrap_u32, wrap_u64, wrap_u8]
    exact h1

end

theorem cutP_any {w0 w : World} {A : HP} (h : St w0 A w) (l : List UInt8) :
    Calls Tryz.prog 55 #[.string (strOf l), .string (strOf [45])] w fun e w' => St w0 A w' ∧ e = .returned (.tuple (if l.take 1 = [45] then #[sv (l.drop 1), .bool true] else #[sv l, .bool false])) := by
  refine F55.calls (by simp) ?_
  unfold F55.code
  simp -dsimp -implicitDefEqProofs (disch := omega) only [go_sem, reqD_of, dec_t, dec_f, wrap_i64, wrap_u32, wrap_u64, wrap_u8]
  refine (cutP68 h l).mono ?_
  rintro e w1 ⟨h1, rfl⟩
  by_cases hl : l.take 1 = [45]
  · rw [if_pos hl]
    simp -dsimp -implicitDefEqProofs (disch := omega) only [go_sem, reqD_of, dec_t, dec_f, wrap_i64, wrap_u32, wrap_u64, wrap_u8]
    exact h1
  · rw [if_neg hl]
    simp -dsimp -implicitDefEqProofs (disch := omega) only [go_sem, reqD_of, dec_t, dec_f, wrap_i64, wrap_u32, wrap_u64, wrap_u8]
    exact h1

/-! ### add -/

theorem accC_set : ∀ (i : Nat) (m : List AV) (x : AV), i < m.length → setRowL (m.flatMap accC) (i * 4) (accC x) = (m.set i x).flatMap accC := by
  intro i m x hi
  apply List.ext_getElem?
  intro k
  have hfl : ∀ (m : List AV), (m.flatMap accC).length = m.length * 4 := fun m => flatMap_length accC_len m
  have hget : ∀ (m : List AV) (k : Nat), (m.flatMap accC)[k]? = (m[k / 4]?).bind fun y => (accC y)[k % 4]? := by
    intro m
    induction m with
    | nil => intro k; simp
    | cons y m ih =>
      intro k
      rw [List.flatMap_cons]
      by_cases hk : k < 4
      · rw [List.getElem?_append_left (by simpa using hk), Nat.div_eq_of_lt hk, Nat.mod_eq_of_lt hk]; simp
      · rw [List.getElem?_append_right (by simp; omega), accC_len, ih, show k / 4 = (k - 4) / 4 + 1 by omega, show k % 4 = (k - 4) % 4 by omega]
        simp
  rw [hget]
  have h4 : (accC x).length = 4 := rfl
  rcases Nat.lt_or_ge k (i * 4) with h1 | h1
  · rw [getElem?_setRowL_lt _ _ _ _ h1, hget, List.getElem?_set_ne (by omega)]
  rcases Nat.lt_or_ge k (i * 4 + 4) with h2 | h2
  · obtain ⟨j, rfl⟩ : ∃ j, k = i * 4 + j := ⟨k - i * 4, by omega⟩
    rw [getElem?_setRowL_in _ _ _ _ (by omega) (by rw [hfl]; omega), show (i * 4 + j) / 4 = i by omega, show (i * 4 + j) % 4 = j by omega, List.getElem?_set_self hi]
    simp
  · rw [getElem?_setRowL_ge _ _ _ _ (by omega), hget, List.getElem?_set_ne (by omega)]

theorem at_names {L M : List Acc} (h : L.map (·.name) = M.map (·.name)) : atF L = atF M := by
  have gen : ∀ (L M : List Acc) (k : Nat), L.map (·.name) = M.map (·.name) → (L.zipIdx k).map (fun x => (x.1.name, (.int .i64 (x.2 : Nat) : Value))) = (M.zipIdx k).map (fun x => (x.1.name, (.int .i64 (x.2 : Nat) : Value))) := by
    intro L
    induction L with
    | nil => intro M k h; cases M with
      | nil => rfl
      | cons b M => simp at h
    | cons a L ih => intro M k h; cases M with
      | nil => simp at h
      | cons b M =>
        simp only [List.map_cons, List.cons.injEq] at h
        rw [List.zipIdx_cons, List.zipIdx_cons, List.map_cons, List.map_cons, ih M (k + 1) h.2, h.1]
  exact gen L M 0 h

section
attribute [local go_sem] F33.t4_eq
theorem add_put {w0 w : World} {A : HP} {T m : Nat} {vl vi : Value} {L : List AV} {a : Acc} {v : Value} (h : St w0 (TabQ T m vl vi L * A) w) (hnd : ((accs L).map (·.name)).Nodup) (hv : isCell v = true) (hn : L.length ≤ 1099511627776) :
    Calls Tryz.prog 33 #[.pointer (some ⟨T, 0, none⟩), accV a v] w fun e w' => ∃ (vl' : Value) (L' : List AV), accs L' = putF (accs L) a ∧ (∀ x ∈ L', x ∈ L ∨ x = (a, v)) ∧ L'.length ≤ L.length + 1 ∧ St w0 (TabQ T m vl' vi L' * A) w' ∧ e = .returned (.tuple #[]) := by
  cases hk : known (accs L) a.name
  · refine (add_new h hk hv hn).mono ?_
    rintro e w1 ⟨vl', h1, rfl⟩
    refine ⟨vl', L ++ [(a, v)], by unfold putF; rw [hk]; simp, fun x hx => ?_, by simp, h1, rfl⟩
    rcases List.mem_append.1 hx with hx | hx
    · exact .inl hx
    · exact .inr (by simpa using hx)
  obtain ⟨i, hi, hlk, hfi⟩ := lk_at_some hk
  have hi' : i < L.length := by simpa using hi
  have hnm : (accs L)[i].name = a.name := by
    have := List.find?_some hfi
    simpa using this
  obtain ⟨av, cv, rfl, hav⟩ : ∃ a c, vl = .slice a L.length c ∧ ∀ k, k < L.length → ∃ b o, a = some ⟨b, o, none⟩ := by
    obtain ⟨_, a, c, e, _, hrow⟩ := St.rowsAt accC_len (by decide) (h.gives (B := Reads 4 vl L.length (L.flatMap accC)))
    refine ⟨a, c, e, fun k hk => ?_⟩
    obtain ⟨b, o, e2, _⟩ := hrow k hk
    exact ⟨b, o, e2⟩
  obtain ⟨b, o, rfl⟩ := hav i hi'
  have hlt : (i : Int) < L.length := by omega
  refine F33.calls (by simp) ?_
  unfold F33.code
  simp -dsimp -implicitDefEqProofs (disch := omega) only [go_sem, reqD_of, dec_t, dec_f, wrap_i64, wrap_u32, wrap_u64, wrap_u8]
  refine h.new fun P w1 h1 => ?_
  simp -dsimp -implicitDefEqProofs (disch := omega) only [go_sem, reqD_of, dec_t, dec_f, wrap_i64, wrap_u32, wrap_u64, wrap_u8, h1.cl T, h1.cl P, h1.drew.cl T, h1.drew.cl P]
  refine h1.drew.lkH (b := m) (x := a.name) Tryz.underlying64 lawS zero_int ?_
  rw [hlk]
  simp -dsimp -implicitDefEqProofs (disch := omega) only [go_sem, reqD_of, dec_t, dec_f, wrap_i64, wrap_u32, wrap_u64, wrap_u8, lkV, h1.cl T, h1.cl P, h1.drew.cl T, h1.drew.cl P, h1.drew.drew.cl T, h1.drew.drew.cl P, h1.drew.rowH P 4 rfl, h1.drew.drew.rowH P 4 rfl, hlt]
  have h2 : St w0 (Blk P (.cells (accL a v).toArray 72 (0, 0)) * (TabQ T m (.slice (some ⟨b, o, none⟩) L.length cv) vi L * A)) w1.drew.drew := h1.drew.drew
  refine h2.rowSet (T := 72) (s := 4) (n := L.length) (c := cv) (xs := L.flatMap accC) (k := i * 4) (m := 4) (cs := accL a v) rfl (by rw [flatMap_length accC_len]; omega) (by intro u hu; simp at hu; rcases hu with rfl | rfl | rfl | rfl <;> first | rfl | exact hv) fun w6 h6 => ?_
  rw [show setRowL (L.flatMap accC) (i * 4) (accL a v) = (L.set i (a, v)).flatMap accC from accC_set i L (a, v) hi'] at h6
  simp -dsimp -implicitDefEqProofs (disch := omega) only [go_sem, reqD_of, dec_t, dec_f, wrap_i64, wrap_u32, wrap_u64, wrap_u8]
  have hacc : accs (L.set i (a, v)) = putF (accs L) a := by
    unfold putF
    rw [hk, if_pos rfl, ← set_eq_map hnd hi hnm, accs, List.map_set]
  have hat : atF (accs (L.set i (a, v))) = atF (accs L) := at_names (by rw [hacc]; exact put_names hk)
  refine ⟨.slice (some ⟨b, o, none⟩) L.length cv, L.set i (a, v), hacc, fun x hx => List.mem_or_eq_of_mem_set hx, by simp, ?_⟩
  unfold TabQ
  rw [hat, List.length_set]
  have h7 : St w0 (RowO 72 4 (.slice (some ⟨b, o, none⟩) L.length cv) L.length ((L.set i (a, v)).flatMap accC) * (Blk T (tabB (.slice (some ⟨b, o, none⟩) L.length cv) m vi) * (MapP sv m (atF (accs L)) * A))) w6 := h6.sub
  exact h7.ac (by ac_rfl)
end
end Go.Proofs.YtkijkoakloacoaaGreatDoor

namespace Go.Proofs.YtkijkoakloacoaaGreatDoor
open Go
set_option linter.unusedVariables false
set_option linter.unusedSimpArgs false
set_option maxRecDepth 100000

section
attribute [local go_sem] F83.t4_eq F83.t2_eq
theorem accIterP {w0 : World} {K T m : Nat} {x : UT} {G : HP} (ok : x.Ok) (hn : x.L.length ≤ 16777216) :
    IterOkP Tryz.prog w0 83 #[.pointer (some ⟨K, 0, none⟩)] PassC (fun pre => ∃ post, pre ++ post = accs x.L) (fun xs => xs = accs x.L) (AllT K T m x) G G := by
  rintro q w1 J X Xp ⟨Kf, hJ⟩ hy h
  show Calls _ 83 #[.func (.yield q) #[] #[], .pointer (some ⟨K, 0, none⟩)] w1 _
  have h1 : St w0 (Kf [] * ((Blk K (.cells #[.pointer (some ⟨T, 0, none⟩)] 25 (0, 0)) * TabW T m x) * G)) w1 := h.ac (by rw [hJ]; ac_rfl)
  obtain ⟨av, cv, hvl, hcv⟩ : ∃ a c, x.vl = .slice a x.L.length c ∧ x.L.length ≤ c := by
    obtain ⟨a, c, e, _, hc, _⟩ := h1.rowForm x.vl
    exact ⟨a, c, e, hc⟩
  refine F83.calls (by simp) ?_
  unfold F83.code
  simp -dsimp -implicitDefEqProofs (disch := omega) only [go_sem, reqD_of, dec_t, dec_f, wrap_i64, wrap_u32, wrap_u64, wrap_u8, h1.cl K, h1.cl T, hvl]
  refine loop_intro (fun e w' => e.ds = [] ∧ e.ρ 0 = .func (.yield q) #[] #[] ∧ e.ρ 8 = .slice av x.L.length cv ∧ e.ρ 9 = .int .i64 x.L.length ∧ ∃ i : Nat, i ≤ x.L.length ∧ e.ρ 10 = .int .i64 i ∧ St w0 (J ((accs x.L).take i) * G) w')
    (fun e _ => match e.ρ 10 with | .int _ n => (x.L.length - n).toNat | _ => 0) ?_ ?_
  · exact ⟨rfl, by simp -dsimp -implicitDefEqProofs only [go_sem], by simp -dsimp -implicitDefEqProofs only [go_sem], by simp -dsimp -implicitDefEqProofs only [go_sem], 0, by omega, by simp -dsimp -implicitDefEqProofs only [go_sem], by simpa using h⟩
  clear h h1
  rintro e w2 ⟨hd, e0, e8, e9, i, hi, e10, h2⟩
  by_cases hlt : (i : Int) < (x.L.length : Int)
  case neg =>
    rw [List.take_of_length_le (by simp; omega)] at h2
    simp -dsimp -implicitDefEqProofs (disch := omega) only [go_sem, reqD_of, dec_t, dec_f, wrap_i64, wrap_u32, wrap_u64, wrap_u8, hd, e0, e8, e9, e10, hlt]
    exact .inl ⟨⟨_, rfl⟩, .inl ⟨_, rfl, h2⟩⟩
  have hlt' : i < x.L.length := by omega
  have h3 : St w0 (Kf ((accs x.L).take i) * ((Blk K (.cells #[.pointer (some ⟨T, 0, none⟩)] 25 (0, 0)) * TabW T m x) * G)) w2 := h2.ac (by rw [hJ]; ac_rfl)
  obtain ⟨_, a', c', hv', _, hrow⟩ := St.rowsAt accC_len (by decide) (h3.gives (B := Reads 4 x.vl x.L.length (x.L.flatMap accC)))
  obtain ⟨b, o, rfl, hr, _⟩ := hrow i hlt'
  have he : Value.slice av x.L.length cv = .slice (some ⟨b, o, none⟩) x.L.length c' := hvl.symm.trans hv'
  simp only [Value.slice.injEq, true_and] at he
  obtain ⟨rfl, rfl⟩ := he
  have hx := ok.ms _ (List.getElem_mem hlt')
  have hten : (accs x.L).take (i + 1) = (accs x.L).take i ++ [x.L[i].1] := by
    rw [List.take_succ_eq_append_getElem (by simpa using hlt')]; simp
  have hpost : ∃ post, ((accs x.L).take i ++ [x.L[i].1]) ++ post = accs x.L := ⟨(accs x.L).drop (i + 1), by rw [← hten, List.take_append_drop]⟩
  obtain ⟨y, hye⟩ : ∃ y, y = x.L[i] := ⟨_, rfl⟩
  rw [← hye] at hr hx hten hpost
  obtain ⟨a, v⟩ := y
  obtain ⟨hx1, hx2, hx3⟩ := hx
  simp only at hx1 hx2 hx3 hten hpost
  have g3 : Gives (Kf ((accs x.L).take i) * ((Blk K (.cells #[.pointer (some ⟨T, 0, none⟩)] 25 (0, 0)) * TabW T m x) * G)) x.B := inferInstance
  obtain ⟨cm, am, rfl⟩ : ∃ c x, v = .slice x a.members.length c := by
    obtain ⟨x, c, e, hc, _⟩ := h3.texts (g3.ent.trans hx1)
    exact ⟨c, x, e⟩
  simp -dsimp -implicitDefEqProofs (disch := omega) only [go_sem, reqD_of, dec_t, dec_f, wrap_i64, wrap_u32, wrap_u64, wrap_u8, hd, e0, e8, e9, e10, hlt, hr]
  refine h3.new fun P w4 h4 => ?_
  simp -dsimp -implicitDefEqProofs (disch := omega) only [go_sem, reqD_of, dec_t, dec_f, wrap_i64, wrap_u32, wrap_u64, wrap_u8, hd, e0, e8, e9, e10]
  refine h4.stoAll (b := P) (n := 4) (cs := accL a (.slice am a.members.length cm)) rfl rfl (fun v hv => by simp at hv; rcases hv with rfl | rfl | rfl | rfl <;> rfl) fun w5 h5 => ?_
  simp -dsimp -implicitDefEqProofs (disch := omega) only [go_sem, reqD_of, dec_t, dec_f, wrap_i64, wrap_u32, wrap_u64, wrap_u8, hd, e0, e8, e9, e10, h5.rowH P 4 rfl, h5.cl P]
  refine (own_any h5 (a := a) (v := .slice am a.members.length cm) ((Ent.right _ _).trans (g3.ent.trans hx1)) hx2 rfl).mono ?_
  rintro e' w6 ⟨v', h6, rfl⟩
  have h7 : St w0 (rowT v' a.members * (J ((accs x.L).take i) * G)) w6 := (h6.ent (Ent.sep (Ent.rfl' _) (Ent.right _ _))).ac (by rw [hJ]; unfold AllT; ac_rfl)
  have h8 : St w0 (J ((accs x.L).take i) * (PassC a #[accV a v'] * G)) w6 := (h7.ent (Ent.sep (PassC.mk a v') (Ent.rfl' _))).ac (by ac_rfl)
  simp -dsimp -implicitDefEqProofs (disch := omega) only [go_sem, reqD_of, dec_t, dec_f, wrap_i64, wrap_u32, wrap_u64, wrap_u8, hd, e0, e8, e9, e10]
  refine (hy _ _ a _ _ hpost h8).mono ?_
  rintro e' w7 (⟨rfl, h11⟩ | ⟨rfl, h11⟩ | ⟨c, rfl, h11⟩)
  · simp -dsimp -implicitDefEqProofs (disch := omega) only [go_sem, reqD_of, dec_t, dec_f, wrap_i64, wrap_u32, wrap_u64, wrap_u8, hd, e0, e8, e9, e10]
    refine ⟨⟨i + 1, by omega, by omega, ?_⟩, by omega⟩
    rw [hten]
    exact h11
  · simp -dsimp -implicitDefEqProofs (disch := omega) only [go_sem, reqD_of, dec_t, dec_f, wrap_i64, wrap_u32, wrap_u64, wrap_u8, hd, e0, e8, e9, e10]
    exact .inl ⟨⟨_, rfl⟩, .inr ⟨_, h11⟩⟩
  · simp -dsimp -implicitDefEqProofs (disch := omega) only [go_sem, reqD_of, dec_t, dec_f, wrap_i64, wrap_u32, wrap_u64, wrap_u8, hd, e0, e8, e9, e10]
    exact .inr ⟨c, _, rfl, h11⟩

/-! ### without -/

/-- What is in the new table. -/
def NewT (U mu : Nat) (M : List Acc) : HP := HP.ex fun p : Value × List AV × HP => HP.fact (accs p.2.1 = M ∧ MsOk p.2.2 p.2.1) (TabQ U mu p.1 (.map none) p.2.1 * p.2.2)
theorem NewT.open {w0 w : World} {U mu : Nat} {M : List Acc} {F : HP} (h : St w0 (NewT U mu M * F) w) : ∃ (vl : Value) (L' : List AV) (B : HP), accs L' = M ∧ MsOk B L' ∧ St w0 (TabQ U mu vl (.map none) L' * (B * F)) w := by
  obtain ⟨⟨vl, L', B⟩, h1⟩ := h.exF
  obtain ⟨⟨e1, e2⟩, h2⟩ := h1.factF
  have h2 : St w0 ((TabQ U mu vl (.map none) L' * B) * F) w := h2
  exact ⟨vl, L', B, e1, e2, h2.ac (sep_assoc _ _ _)⟩
theorem NewT.mk {w0 w : World} {U mu : Nat} {M : List Acc} {F : HP} (vl : Value) (L' : List AV) (B : HP) (e1 : accs L' = M) (e2 : MsOk B L') (h : St w0 (TabQ U mu vl (.map none) L' * (B * F)) w) : St w0 (NewT U mu M * F) w :=
  (h.ac (sep_assoc _ _ _).symm).ent (Ent.sep ((Ent.fact (p := accs L' = M ∧ MsOk B L') ⟨e1, e2⟩ _).trans (Ent.ex (fun p : Value × List AV × HP => HP.fact (accs p.2.1 = M ∧ MsOk p.2.2 p.2.1) (TabQ U mu p.1 (.map none) p.2.1 * p.2.2)) (vl, L', B))) (Ent.rfl' F))
theorem NewT.nil {w0 w : World} {U mu : Nat} {F : HP} (h : St w0 (Blk U (tabB (.slice none 0 0) mu (.map none)) * (MapP sv mu [] * F)) w) : St w0 (NewT U mu [] * F) w := by
  have h1 := (h.ent (empL' _)).nilR 72 4
  exact NewT.mk (.slice none 0 0) [] EmpH rfl (fun x hx => by simp at hx) (h1.ac (by show _ = (Blk U (tabB (.slice none 0 0) mu (.map none)) * (RowO 72 4 (.slice none 0 0) 0 [] * MapP sv mu [])) * (EmpH * F); ac_rfl))
/-- An account of which nobody else has the name is put into it. -/
theorem NewT.add {w0 w : World} {U mu : Nat} {M : List Acc} {a : Acc} {v : Value} {F : HP} (h : St w0 (NewT U mu M * (rowT v a.members * F)) w) (hk : known M a.name = false) (hv : isCell v = true) (hf : Fit a) (hn : M.length ≤ 1099511627776) :
    Calls Tryz.prog 33 #[.pointer (some ⟨U, 0, none⟩), accV a v] w fun e w' => St w0 (NewT U mu (M ++ [a]) * F) w' ∧ e = .returned (.tuple #[]) := by
  obtain ⟨vl, L', B, e1, e2, h1⟩ := NewT.open h
  have hl : L'.length = M.length := by have := congrArg List.length e1; simpa using this
  refine (add_new h1 (by rw [e1]; exact hk) hv (by omega)).mono ?_
  rintro e w1 ⟨vl', h2, rfl⟩
  refine ⟨NewT.mk vl' (L' ++ [(a, v)]) (rowT v a.members * B) (by rw [accs, List.map_append, ← accs, e1]; rfl) (MsOk.snoc e2 (Ent.right _ _) ((Ent.left _ _).trans (RowO.reads _ _ _ _ _)) hf hv) (h2.ac (by ac_rfl)), rfl⟩

abbrev WithK (U mu C3 C5 : Nat) (g : List UInt8) (pre : List Acc) : HP := HP.fact (pre.all (fun a => a.name == g || !mentF g a) = true) (NewT U mu (leftF pre g) * (cellT C5 U * cellS C3 g))
abbrev WithP (K T m : Nat) (x : UT) (g : List UInt8) (c : List PanicEntry) : HP := HP.fact (c = trouble 62 ∧ ∃ y ∈ accs x.L, (y.name == g || !mentF g y) = false) (AllT K T m x)
theorem left_known' {pre : List Acc} {g n : List UInt8} (h : n ∉ pre.map (·.name)) : known (leftF pre g) n = false := by
  rw [known_false]
  intro hm
  obtain ⟨a, ha, rfl⟩ := List.mem_map.1 hm
  exact h (List.mem_map_of_mem (f := (·.name)) (List.mem_filter.1 ha).1)
theorem pre_new {all pre : List Acc} {y : Acc} (hn : (all.map (·.name)).Nodup) (h : ∃ post, (pre ++ [y]) ++ post = all) : y.name ∉ pre.map (·.name) ∧ y ∈ all ∧ pre.length < all.length := by
  obtain ⟨post, rfl⟩ := h
  refine ⟨fun hm => ?_, by simp, by simp⟩
  rw [List.append_assoc, List.map_append, List.nodup_append] at hn
  exact hn.2.2 _ hm y.name (by simp) rfl

end
section
attribute [local go_sem] F57.t8_eq
theorem without_any {w0 w : World} {A : HP} {T m : Nat} {x : UT} (ok : x.Ok) (hn : x.L.length ≤ 16777216) (hnd : ((accs x.L).map (·.name)).Nodup) (h : St w0 (TabW T m x * A) w) (g : List UInt8) :
    Calls Tryz.prog 57 #[.pointer (some ⟨T, 0, none⟩), .string (strOf g)] w fun e w' =>
      (freeF (accs x.L) g = true ∧ ∃ U mu, St w0 (NewT U mu (leftF (accs x.L) g) * (TabW T m x * A)) w' ∧ e = .returned (.pointer (some ⟨U, 0, none⟩))) ∨
      (freeF (accs x.L) g = false ∧ e = .panicked (trouble 62) ∧ St w0 (TabW T m x * A) w') := by
  refine F57.calls (by simp) ?_
  unfold F57.code
  simp -dsimp -implicitDefEqProofs (disch := omega) only [go_sem, reqD_of, dec_t, dec_f, wrap_i64, wrap_u32, wrap_u64, wrap_u8]
  refine h.new fun C3 w1 h1 => ?_
  simp -dsimp -implicitDefEqProofs (disch := omega) only [go_sem, reqD_of, dec_t, dec_f, wrap_i64, wrap_u32, wrap_u64, wrap_u8]
  refine St.makeMap (enc := sv) h1 fun mu w2 h2 => ?_
  simp -dsimp -implicitDefEqProofs (disch := omega) only [go_sem, reqD_of, dec_t, dec_f, wrap_i64, wrap_u32, wrap_u64, wrap_u8]
  refine onV_of (v := .agg #[.slice none 0 0, .map (some mu), .map none]) (by kernel_rfl) ?_
  simp -dsimp -implicitDefEqProofs (disch := omega) only [go_sem, reqD_of, dec_t, dec_f, wrap_i64, wrap_u32, wrap_u64, wrap_u8]
  refine h2.new fun U w3 h3 => ?_
  simp -dsimp -implicitDefEqProofs (disch := omega) only [go_sem, reqD_of, dec_t, dec_f, wrap_i64, wrap_u32, wrap_u64, wrap_u8]
  refine h3.new fun C5 w4 h4 => ?_
  simp -dsimp -implicitDefEqProofs (disch := omega) only [go_sem, reqD_of, dec_t, dec_f, wrap_i64, wrap_u32, wrap_u64, wrap_u8]
  refine h4.sto (b := C5) (off := 0) (by simp) rfl fun w5 h5 => ?_
  simp only [List.setIfInBounds_toArray, List.set_cons_zero] at h5
  simp -dsimp -implicitDefEqProofs (disch := omega) only [go_sem, reqD_of, dec_t, dec_f, wrap_i64, wrap_u32, wrap_u64, wrap_u8, h5.cl C3]
  have h5 : St w0 (cellT C5 U * (Blk U (tabB (.slice none 0 0) mu (.map none)) * (MapP sv mu [] * (cellS C3 g * (TabW T m x * A))))) w5 := h5
  have h6 : St w0 (TabW T m x * (cellT C5 U * (Blk U (tabB (.slice none 0 0) mu (.map none)) * (MapP sv mu [] * (cellS C3 g * A))))) w5 := h5.ac (by ac_rfl)
  refine (known_any h6 g).mono ?_
  rintro e w6 ⟨h7, rfl⟩
  simp -dsimp -implicitDefEqProofs (disch := omega) only [go_sem, reqD_of, dec_t, dec_f, wrap_i64, wrap_u32, wrap_u64, wrap_u8]
  refine (need_st h7 _ _).mono ?_
  rintro e w7 ⟨h8, ⟨hk, rfl⟩ | ⟨hk, rfl⟩⟩
  case inr =>
    simp -dsimp -implicitDefEqProofs (disch := omega) only [go_sem, reqD_of, dec_t, dec_f, wrap_i64, wrap_u32, wrap_u64, wrap_u8]
    refine .inr ⟨by unfold freeF; rw [hk, Bool.false_and], (h8.ac (by ac_rfl : _ = (cellT C5 U * (Blk U (tabB (.slice none 0 0) mu (.map none)) * (MapP sv mu [] * cellS C3 g))) * (TabW T m x * A))).right⟩
  simp -dsimp -implicitDefEqProofs (disch := omega) only [go_sem, reqD_of, dec_t, dec_f, wrap_i64, wrap_u32, wrap_u64, wrap_u8]
  refine (accounts_any h8).mono ?_
  rintro e w8 ⟨K, h9, rfl⟩
  simp -dsimp -implicitDefEqProofs (disch := omega) only [go_sem, reqD_of, dec_t, dec_f, wrap_i64, wrap_u32, wrap_u64, wrap_u8]
  have h9 : St w0 (ptrB K T * (TabW T m x * (cellT C5 U * (Blk U (tabB (.slice none 0 0) mu (.map none)) * (MapP sv mu [] * (cellS C3 g * A)))))) w8 := h9
  have h10 : St w0 (NewT U mu [] * (cellT C5 U * (cellS C3 g * ((ptrB K T * TabW T m x) * A)))) w8 := NewT.nil (h9.ac (by show _ = Blk U (tabB (.slice none 0 0) mu (.map none)) * (MapP sv mu [] * (cellT C5 U * (cellS C3 g * ((ptrB K T * TabW T m x) * A)))); ac_rfl))
  have h11 : St w0 (WithK U mu C3 C5 g [] * AllT K T m x * A) w8 := ((h10.ac (by ac_rfl : _ = (NewT U mu [] * (cellT C5 U * cellS C3 g)) * ((ptrB K T * TabW T m x) * A))).ent (Ent.sep (Ent.fact (p := ([] : List Acc).all (fun a => a.name == g || !mentF g a) = true) rfl _) (Ent.rfl' _))).ac (sep_assoc _ _ _).symm
  refine range_introP h11 (gf := 83) (lb := #[.pointer (some ⟨K, 0, none⟩)]) (by simp -dsimp -implicitDefEqProofs only [go_sem]) fact_fnOk_83 (Pass := PassC)
    (fun pre => WithK U mu C3 C5 g pre * AllT K T m x) (fun _ _ => NoneH) (fun c pre => WithP K T m x g c) (Ent.rfl' _) ?_ (fun pre => WithK U mu C3 C5 g pre) (AllT K T m x) (fun pre => rfl) (accIterP (K := K) (T := T) (m := m) (G := A) ok hn) ?_ ?_ ?_
  · intro q pre y args G W1 hpo h6
    obtain ⟨hyn, hya, hpl⟩ := pre_new hnd hpo
    rw [List.length_map] at hpl
    have hfy : Fit y := by
      obtain ⟨u, hu, rfl⟩ := List.mem_map.1 hya
      exact (ok.ms u hu).2.1
    have h6 : St w0 (WithK U mu C3 C5 g pre * (ptrB K T * TabW T m x) * (PassC y args * G)) W1 := h6
    obtain ⟨v, rfl, h7⟩ := PassC.open (h6.ac (by ac_rfl : _ = PassC y args * (WithK U mu C3 C5 g pre * (ptrB K T * TabW T m x) * G)))
    obtain ⟨av, cv, rfl, _⟩ := h7.rowForm v
    refine ⟨rfl, ?_⟩
    unfold F57.a0
    simp -dsimp -implicitDefEqProofs (disch := omega) only [go_sem, reqD_of, dec_t, dec_f, wrap_i64, wrap_u32, wrap_u64, wrap_u8, List.toList_toArray]
    refine h6.new fun P w5 h8 => ?_
    simp -dsimp -implicitDefEqProofs (disch := omega) only [go_sem, reqD_of, dec_t, dec_f, wrap_i64, wrap_u32, wrap_u64, wrap_u8]
    refine h8.stoAll (b := P) (n := 4) (cs := accL y (.slice av y.members.length cv)) rfl rfl (fun v hv => by simp at hv; rcases hv with rfl | rfl | rfl | rfl <;> rfl) fun w6 h9 => ?_
    simp -dsimp -implicitDefEqProofs (disch := omega) only [go_sem, reqD_of, dec_t, dec_f, wrap_i64, wrap_u32, wrap_u64, wrap_u8]
    refine ⟨Blk P (.cells (accL y (.slice av y.members.length cv)).toArray 72 (0, 0)), h9, fun G2 W2 hl2 h10 => ?_⟩
    clear h6 h7 h8 h9
    have h10 : St w0 (Blk P (.cells (accL y (.slice av y.members.length cv)).toArray 72 (0, 0)) * (HP.fact (pre.all (fun a => a.name == g || !mentF g a) = true) (NewT U mu (leftF pre g) * (cellT C5 U * cellS C3 g)) * (ptrB K T * TabW T m x) * (PassC y #[accV y (.slice av y.members.length cv)] * G2))) W2 := h10
    obtain ⟨hall, h11⟩ := (h10.ac (by ac_rfl : _ = HP.fact (pre.all (fun a => a.name == g || !mentF g a) = true) (NewT U mu (leftF pre g) * (cellT C5 U * cellS C3 g)) * (Blk P (.cells (accL y (.slice av y.members.length cv)).toArray 72 (0, 0)) * ((ptrB K T * TabW T m x) * (PassC y #[accV y (.slice av y.members.length cv)] * G2))))).factF
    obtain ⟨v', e', h12⟩ := PassC.open (h11.ac (by ac_rfl : _ = PassC y #[accV y (.slice av y.members.length cv)] * ((NewT U mu (leftF pre g) * (cellT C5 U * cellS C3 g)) * (Blk P (.cells (accL y (.slice av y.members.length cv)).toArray 72 (0, 0)) * ((ptrB K T * TabW T m x) * G2)))))
    have e' := accV_inj e'
    subst e'
    have h13 : St w0 (NewT U mu (leftF pre g) * (rowT (.slice av y.members.length cv) y.members * (Blk P (.cells (accL y (.slice av y.members.length cv)).toArray 72 (0, 0)) * (cellT C5 U * (cellS C3 g * ((ptrB K T * TabW T m x) * G2)))))) W2 := h12.ac (by ac_rfl)
    clear h10 h11 h12
    have hsn := left_snoc pre g y
    have fin : ∀ {w' : World}, (y.name == g || !mentF g y) = true → St w0 (NewT U mu (leftF (pre ++ [y]) g) * (cellT C5 U * cellS C3 g) * ((ptrB K T * TabW T m x) * G2)) w' → St w0 (WithK U mu C3 C5 g (pre ++ [y]) * AllT K T m x * G2) w' := fun hy h =>
      (h.ent (Ent.sep (Ent.fact (p := (pre ++ [y]).all (fun a => a.name == g || !mentF g a) = true) (by rw [List.all_append, hall]; simpa using hy) _) (Ent.rfl' _))).ac (sep_assoc _ _ _).symm
    have bad : ∀ {w' : World}, (y.name == g || !mentF g y) = false → St w0 ((ptrB K T * TabW T m x) * G2) w' → St w0 (WithP K T m x g (trouble 62) * G2) w' := fun hy h =>
      h.ent (Ent.sep (Ent.fact (p := trouble 62 = trouble 62 ∧ ∃ y ∈ accs x.L, (y.name == g || !mentF g y) = false) ⟨rfl, y, hya, hy⟩ _) (Ent.rfl' _))
    unfold F57.b0
    by_cases hyg : y.name = g
    · have hd : decide (y.name = g) = true := decide_eq_true hyg
      rw [if_pos hyg, List.append_nil] at hsn
      simp -dsimp -implicitDefEqProofs (disch := omega) only [go_sem, reqD_of, dec_t, dec_f, wrap_i64, wrap_u32, wrap_u64, wrap_u8, h13.cl P, h13.cl C3, hd]
      refine fin (by simp [hyg]) ?_
      rw [hsn]
      exact (h13.ac (by ac_rfl : _ = (rowT (.slice av y.members.length cv) y.members * Blk P (.cells (accL y (.slice av y.members.length cv)).toArray 72 (0, 0))) * ((NewT U mu (leftF pre g) * (cellT C5 U * cellS C3 g)) * ((ptrB K T * TabW T m x) * G2)))).right
    have hd : decide (y.name = g) = false := decide_eq_false hyg
    rw [if_neg hyg] at hsn
    by_cases hld : y.leader = g
    · have hd2 : decide (y.leader = g) = true := decide_eq_true hld
      simp -dsimp -implicitDefEqProofs (disch := omega) only [go_sem, reqD_of, dec_t, dec_f, wrap_i64, wrap_u32, wrap_u64, wrap_u8, h13.cl P, h13.cl C3, hd, hd2]
      refine (need_st h13 _ _).mono ?_
      rintro e' w3 ⟨h14, ⟨hb, rfl⟩ | ⟨hb, rfl⟩⟩
      · cases hb
      simp -dsimp -implicitDefEqProofs (disch := omega) only [go_sem, reqD_of, dec_t, dec_f, wrap_i64, wrap_u32, wrap_u64, wrap_u8]
      refine bad (by simp [mentF, hyg, hld]) ?_
      exact (h14.ac (by ac_rfl : _ = (NewT U mu (leftF pre g) * (rowT (.slice av y.members.length cv) y.members * (Blk P (.cells (accL y (.slice av y.members.length cv)).toArray 72 (0, 0)) * (cellT C5 U * cellS C3 g)))) * ((ptrB K T * TabW T m x) * G2))).right
    · have hd2 : decide (y.leader = g) = false := decide_eq_false hld
      simp -dsimp -implicitDefEqProofs (disch := omega) only [go_sem, reqD_of, dec_t, dec_f, wrap_i64, wrap_u32, wrap_u64, wrap_u8, h13.cl P, h13.cl C3, hd, hd2]
      have hml := hfy.2
      refine (contains_any h13 ((Ent.right _ _).trans ((Ent.left _ _).trans (RowO.reads _ _ _ _ _))) (by omega) g).mono ?_
      rintro e' w3 ⟨h14, rfl⟩
      simp -dsimp -implicitDefEqProofs (disch := omega) only [go_sem, reqD_of, dec_t, dec_f, wrap_i64, wrap_u32, wrap_u64, wrap_u8]
      refine (need_st h14 _ _).mono ?_
      rintro e' w4 ⟨h15, ⟨hb, rfl⟩ | ⟨hb, rfl⟩⟩
      case inr =>
        simp only [Bool.not_eq_false', decide_eq_true_eq] at hb
        simp -dsimp -implicitDefEqProofs (disch := omega) only [go_sem, reqD_of, dec_t, dec_f, wrap_i64, wrap_u32, wrap_u64, wrap_u8]
        refine bad (by simp [mentF, hyg, hb]) ?_
        exact (h15.ac (by ac_rfl : _ = (NewT U mu (leftF pre g) * (rowT (.slice av y.members.length cv) y.members * (Blk P (.cells (accL y (.slice av y.members.length cv)).toArray 72 (0, 0)) * (cellT C5 U * cellS C3 g)))) * ((ptrB K T * TabW T m x) * G2))).right
      simp only [Bool.not_eq_true', decide_eq_false_iff_not] at hb
      simp -dsimp -implicitDefEqProofs (disch := omega) only [go_sem, reqD_of, dec_t, dec_f, wrap_i64, wrap_u32, wrap_u64, wrap_u8, h15.cl C5, h15.rowH P 4 rfl, h15.cl P]
      have hfl : (leftF pre g).length ≤ pre.length := List.length_filter_le _ _
      have h16 : St w0 (NewT U mu (leftF pre g) * (rowT (.slice av y.members.length cv) y.members * (Blk P (.cells (accL y (.slice av y.members.length cv)).toArray 72 (0, 0)) * (cellT C5 U * (cellS C3 g * ((ptrB K T * TabW T m x) * G2)))))) w4 := h15
      refine (NewT.add h16 (left_known' hyn) rfl hfy (by omega)).mono ?_
      rintro e' w5 ⟨h17, rfl⟩
      simp -dsimp -implicitDefEqProofs (disch := omega) only [go_sem, reqD_of, dec_t, dec_f, wrap_i64, wrap_u32, wrap_u64, wrap_u8]
      refine fin (by simp [mentF, hld, hb]) ?_
      rw [hsn]
      exact (h17.ac (by ac_rfl : _ = Blk P (.cells (accL y (.slice av y.members.length cv)).toArray 72 (0, 0)) * ((NewT U mu (leftF pre g ++ [y]) * (cellT C5 U * cellS C3 g)) * ((ptrB K T * TabW T m x) * G2)))).right
  · intro D xs w' hS h6
    subst hS
    have h6 : St w0 (Blk D (.deferred (some [])) * (HP.fact ((accs x.L).all (fun a => a.name == g || !mentF g a) = true) (NewT U mu (leftF (accs x.L) g) * (cellT C5 U * cellS C3 g)) * (ptrB K T * TabW T m x) * A)) w' := h6
    obtain ⟨hall, h7⟩ := (h6.ac (by ac_rfl : _ = HP.fact ((accs x.L).all (fun a => a.name == g || !mentF g a) = true) (NewT U mu (leftF (accs x.L) g) * (cellT C5 U * cellS C3 g)) * (Blk D (.deferred (some [])) * ((ptrB K T * TabW T m x) * A)))).factF
    have h8 : St w0 (Blk D (.deferred (some [])) * (cellT C5 U * (cellS C3 g * (ptrB K T * (NewT U mu (leftF (accs x.L) g) * (TabW T m x * A)))))) w' := h7.ac (by ac_rfl)
    simp -dsimp -implicitDefEqProofs (disch := omega) only [go_sem, reqD_of, dec_t, dec_f, wrap_i64, wrap_u32, wrap_u64, wrap_u8, F57.t8_eq, h8.cl C5]
    refine St.mark1 (D := D) h8 fun w3 h10 => ?_
    exact ⟨by unfold freeF; rw [hk, hall]; rfl, U, mu, h10.right.right.right.right, rfl⟩
  · intro D cd pre w' h6
    have h6 : St w0 (Blk D (.deferred (some [])) * (HP.fact False EmpH * A)) w' := h6
    exact ((h6.ac (by ac_rfl : _ = HP.fact False EmpH * (Blk D (.deferred (some [])) * A))).factF).1.elim
  · intro D c pre w' h6
    have h6 : St w0 (Blk D (.deferred (some [])) * (HP.fact (c = trouble 62 ∧ ∃ y ∈ accs x.L, (y.name == g || !mentF g y) = false) (ptrB K T * TabW T m x) * A)) w' := h6
    obtain ⟨⟨rfl, y, hya, hy⟩, h7⟩ := (h6.ac (by ac_rfl : _ = HP.fact (c = trouble 62 ∧ ∃ y ∈ accs x.L, (y.name == g || !mentF g y) = false) (ptrB K T * TabW T m x) * (Blk D (.deferred (some [])) * A))).factF
    have hfr : freeF (accs x.L) g = false := by
      unfold freeF
      rw [hk, Bool.true_and, List.all_eq_false]
      exact ⟨y, hya, by rw [hy]; simp⟩
    simp -dsimp -implicitDefEqProofs (disch := omega) only [go_sem, reqD_of, dec_t, dec_f, wrap_i64, wrap_u32, wrap_u64, wrap_u8]
    refine St.mark1 (D := D) (h7.ac (by ac_rfl : _ = Blk D (.deferred (some [])) * (ptrB K T * (TabW T m x * A)))) fun w3 h10 => ?_
    exact .inr ⟨hfr, h10.right.right⟩
end
end Go.Proofs.YtkijkoakloacoaaGreatDoor
