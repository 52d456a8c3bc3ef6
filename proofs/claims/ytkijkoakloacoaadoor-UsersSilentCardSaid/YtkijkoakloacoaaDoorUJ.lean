/- Lines that say nothing: the plain law. law06: UsersSilent. law06: UsersSilent, whole. -/
import Derived.Test.YtkijkoakloacoaaDoorUA
import Derived.Test.YtkijkoakloacoaaDoorUH
namespace Go.Proofs.YtkijkoakloacoaaDoor
open Go
set_option linter.unusedVariables false
set_option linter.unusedSimpArgs false

/-- A line that says nothing, out of any text: but for its end. -/
def quietR (s : List UInt8) : List UInt8 :=
  let b := (s.take 60).filter fun c => c != 10
  if b = [] then [] else 35 :: b
def quietF (s : List UInt8) : List UInt8 := quietR s ++ [10]
theorem quietR_free (s : List UInt8) : (10 : UInt8) ∉ quietR s := by
  unfold quietR
  simp only
  split
  · simp
  · simp only [List.mem_cons, List.mem_filter, not_or, not_and]
    exact ⟨by decide, fun _ => by simp⟩
theorem quietR_head (s : List UInt8) : quietR s = [] ∨ ((quietR s).getD 0 0).toNat = 35 := by
  unfold quietR
  simp only
  split
  · exact .inl rfl
  · exact .inr rfl
theorem quietF_len (s : List UInt8) : (quietF s).length ≤ 62 := by
  unfold quietF quietR
  simp only
  split
  · simp
  · have := List.length_filter_le (fun c : UInt8 => c != 10) (s.take 60)
    simp at this ⊢
    omega
def rowsText (Q : List (List UInt8)) : List UInt8 := Q.flatMap fun q => q ++ [10]
theorem rowsText_app (Q R : List (List UInt8)) : rowsText (Q ++ R) = rowsText Q ++ rowsText R := by simp [rowsText]
theorem pcs_rowsText : ∀ (Q : List (List UInt8)) (X : List UInt8), (∀ q ∈ Q, (10 : UInt8) ∉ q) → pcs 10 (rowsText Q ++ X) = Q ++ pcs 10 X
  | [], X, _ => rfl
  | q :: Q, X, h => by
    have e : rowsText (q :: Q) ++ X = q ++ 10 :: (rowsText Q ++ X) := by simp [rowsText]
    rw [e, pcs_app _ (h q (by simp)), pcs_rowsText Q X fun x hx => h x (by simp [hx])]
    rfl
theorem readF_quiet : ∀ (ss : List (List UInt8)) (T : List (List UInt8)) (n : Nat) (M : List Acc) (P : List Nat), readF (ss.map quietR ++ T) n M P = readF T (n + ss.length) M P
  | [], T, n, M, P => rfl
  | s :: ss, T, n, M, P => by
    rw [List.map_cons, List.cons_append, readF, if_pos (quietR_head s), readF_quiet ss T (n + 1) M P, List.length_cons]
    congr 1
    omega
/-- An account of a name and a key. -/
def bareA (a : Acc) : Acc := ⟨a.name, [], [], a.key⟩
theorem bare_form {n i : Nat} {a : Acc} (h : MadeA n i a) (hi : i < 30) : formF (bareA a) = true ∧ onceF (bareA a) = true := by
  refine ⟨?_, by simp [onceF, bareA]⟩
  simp only [formF, bareA, Bool.and_eq_true, Bool.or_eq_true, beq_iff_eq, List.all_eq_true]
  exact ⟨⟨⟨by rw [h.name]; exact nm_name hi, .inl trivial⟩, fun m hm => by cases hm⟩, h.key⟩
theorem bare_named (L : List Acc) (a : Acc) : namedF L (bareA a) = true := by simp [namedF, bareA]
theorem bare_row {n i : Nat} {a : Acc} (h : MadeA n i a) (hi : i < 30) : (lineF (bareA a)).length ≤ 200 := by
  have hb : MadeA n i (bareA a) := ⟨h.name, .inl rfl, (fun m hm => by cases hm), by simp [bareA], h.key⟩
  have h3 := (keyF_facts h.key).1
  have h4 : a.name.length = 3 := by rw [h.name, nm_len]
  have e : joinD 58 [a.key] = a.key := by rw [joinD, Lib.join_one]
  have e2 : joinD 44 ([] : List (List UInt8)) = [] := rfl
  unfold lineF rowF bareA
  simp only
  rw [joinD_two, joinD_two, joinD_two, e, e2]
  simp
  omega
theorem bare_print {n i : Nat} {a : Acc} (h : MadeA n i a) (hi : i < 30) : printF [bareA a] = .ok (lineF (bareA a)) := by
  obtain ⟨h1, h2⟩ := bare_form h hi
  have h3 := bare_row h hi
  have e : textF [bareA a] = lineF (bareA a) := by simp [textF]
  have := printF_ok (L := [bareA a]) (by simp [allF, h1, h2, bare_named]) (decide_eq_true (by rw [e]; omega))
  rw [this, e]

/-- The rows: ahead of the k-th account's stand those that say nothing. -/
def sRows (L : List Acc) (ss : List (List UInt8)) (k : Nat) : List (List UInt8) := ((L.take k).map fun a => rowF (bareA a)) ++ (ss.map quietR ++ (L.drop k).map fun a => rowF (bareA a))
section
variable {L : List Acc} {ss : List (List UInt8)} {k : Nat}
theorem sRows_free (M : Made L) : ∀ q ∈ sRows L ss k, (10 : UInt8) ∉ q := by
  have hf := M.few
  have one : ∀ a ∈ L, (10 : UInt8) ∉ rowF (bareA a) := fun a ha => by
    obtain ⟨i, hi, rfl⟩ := List.getElem_of_mem ha
    exact row_free (bare_form (M.each i hi) (by omega)).1
  intro q hq
  rcases List.mem_append.1 hq with hq | hq
  · obtain ⟨a, ha, rfl⟩ := List.mem_map.1 hq
    exact one a (List.mem_of_mem_take ha)
  rcases List.mem_append.1 hq with hq | hq
  · obtain ⟨s, _, rfl⟩ := List.mem_map.1 hq
    exact quietR_free s
  · obtain ⟨a, ha, rfl⟩ := List.mem_map.1 hq
    exact one a (List.mem_of_mem_drop ha)
theorem sRows_read (M : Made L) (hk : k ≤ L.length) (T : List (List UInt8)) : ∃ P : List Nat, P.length = L.length ∧ readF (sRows L ss k ++ T) 1 [] [] = readF T (1 + L.length + ss.length) (L.map bareA) P := by
  have hf := M.few
  have f1 : ∀ a ∈ L.map bareA, formF a = true := fun a ha => by
    obtain ⟨b, hb, rfl⟩ := List.mem_map.1 ha
    obtain ⟨i, hi, rfl⟩ := List.getElem_of_mem hb
    exact (bare_form (M.each i hi) (by omega)).1
  have f2 : ∀ a ∈ L.map bareA, onceF a = true := fun a ha => by
    obtain ⟨b, hb, rfl⟩ := List.mem_map.1 ha
    obtain ⟨i, hi, rfl⟩ := List.getElem_of_mem hb
    exact (bare_form (M.each i hi) (by omega)).2
  have f3 : ((L.map bareA).map (·.name)).Nodup := by
    rw [List.map_map]
    exact M.nodup
  have e1 : (L.take k).map (fun a => rowF (bareA a)) = ((L.map bareA).take k).map rowF := by rw [← List.map_take, List.map_map]; rfl
  have e2 : (L.drop k).map (fun a => rowF (bareA a)) = ((L.map bareA).drop k).map rowF := by rw [← List.map_drop, List.map_map]; rfl
  unfold sRows
  rw [e1, e2, List.append_assoc, readF_rows ((L.map bareA).take k) [] 1 [] _ (fun a ha => f1 a (List.mem_of_mem_take ha)) (fun a ha => f2 a (List.mem_of_mem_take ha)) (by
    rw [List.nil_append]
    exact f3.sublist ((List.take_sublist _ _).map _))]
  rw [List.append_assoc, readF_quiet, List.nil_append, List.nil_append, readF_rows ((L.map bareA).drop k) _ _ _ _ (fun a ha => f1 a (List.mem_of_mem_drop ha)) (fun a ha => f2 a (List.mem_of_mem_drop ha)) (by
    rw [List.take_append_drop]; exact f3)]
  rw [List.take_append_drop]
  refine ⟨_, ?_, congrArg (fun n => readF T n (L.map bareA) _) ?_⟩
  · simp
    omega
  · simp
    omega
theorem sRows_len (M : Made L) (hs : ss.length ≤ 60) : (rowsText (sRows L ss k)).length ≤ 20000 := by
  have hf := M.few
  have one : ∀ (Z : List Acc), (∀ a ∈ Z, a ∈ L) → (rowsText (Z.map fun a => rowF (bareA a))).length ≤ Z.length * 200 := by
    intro Z
    induction Z with
    | nil => intro _; simp [rowsText]
    | cons a Z ih =>
      intro hz
      have h1 := ih fun x hx => hz x (by simp [hx])
      obtain ⟨i, hi, rfl⟩ := List.getElem_of_mem (hz a (by simp))
      have h2 := bare_row (M.each i hi) (by omega)
      unfold lineF at h2
      simp only [rowsText, List.map_cons, List.flatMap_cons, List.length_append, List.length_cons, List.length_nil, Nat.add_mul] at h1 h2 ⊢
      omega
  have two : ∀ (Z : List (List UInt8)), (rowsText (Z.map quietR)).length ≤ Z.length * 62 := by
    intro Z
    induction Z with
    | nil => simp [rowsText]
    | cons a Z ih =>
      have h2 := quietF_len a
      unfold quietF at h2
      simp only [rowsText, List.map_cons, List.flatMap_cons, List.length_append, List.length_cons, List.length_nil, Nat.add_mul] at ih h2 ⊢
      omega
  have a1 := one (L.take k) fun a ha => List.mem_of_mem_take ha
  have a2 := one (L.drop k) fun a ha => List.mem_of_mem_drop ha
  have a3 := two ss
  unfold sRows
  rw [rowsText_app, rowsText_app]
  simp only [List.length_append, List.length_take, List.length_drop] at a1 a2 ⊢
  omega

def newN : List UInt8 := [110, 101, 119]
theorem new_unknown (M : Made L) : known (L.map bareA) newN = false := by
  rw [known_false, List.map_map]
  intro h
  have : newN ∈ L.map (·.name) := h
  rw [M.names] at this
  obtain ⟨i, _, e⟩ := List.mem_map.1 this
  simp [nm, newN] at e
theorem nobody_unknown (M : Made L) {n : List UInt8} (hn : n.length ≠ 3) : known (L.map bareA) n = false := by
  rw [known_false, List.map_map]
  intro h
  exact known_false.1 (M.unknown hn) h
theorem bare_check (P : List Nat) (Z : List Acc) : checkF Z ((L.map bareA).zip P) = none :=
  checkF_none fun x hx => by
    obtain ⟨a, _, e⟩ := List.mem_map.1 (List.of_mem_zip hx).1
    rw [← e]
    exact bare_named Z a

variable (M : Made L) (hk : k ≤ L.length) (hs : ss.length ≤ 60)
include M hk hs
theorem silent_x : parseF (rowsText (sRows L ss k)) = .ok (L.map bareA) := by
  have hl := sRows_len (k := k) M hs
  have hp := pcs_rowsText (sRows L ss k) [] (sRows_free M)
  rw [List.append_nil] at hp
  obtain ⟨P, hP, hr⟩ := sRows_read (ss := ss) M hk [[]]
  have hj : joinF (L.map bareA) = true := by
    refine decide_eq_true ?_
    have hf := M.few
    have := text_len (L.map bareA) 200 fun a ha => by
      obtain ⟨b, hb, rfl⟩ := List.mem_map.1 ha
      obtain ⟨i, hi, rfl⟩ := List.getElem_of_mem hb
      exact bare_row (M.each i hi) (by omega)
    simp only [List.length_map] at this
    omega
  rw [parseF, if_neg (by omega), hp, show pcs 10 [] = [[]] from rfl, hr]
  simp only [readF, true_or, if_true]
  rw [endF, bare_check]
  simp [hj]
theorem silent_y : parseF (rowsText (sRows L ss k) ++ [97, 58, 98, 10] ++ [99, 58, 100, 58, 101, 58, 102, 58, 103]) = .error (60, L.length + ss.length + 1) := by
  have hl := sRows_len (k := k) M hs
  have hp := pcs_rowsText (sRows L ss k) ([97, 58, 98, 10] ++ [99, 58, 100, 58, 101, 58, 102, 58, 103]) (sRows_free M)
  have hc : pcs 10 ([97, 58, 98, 10] ++ [99, 58, 100, 58, 101, 58, 102, 58, 103]) = [[97, 58, 98], [99, 58, 100, 58, 101, 58, 102, 58, 103]] := by decide +kernel
  have ha : (accF [97, 58, 98]).isNone = true := by decide +kernel
  rw [hc] at hp
  obtain ⟨P, hP, hr⟩ := sRows_read (ss := ss) M hk [[97, 58, 98], [99, 58, 100, 58, 101, 58, 102, 58, 103]]
  rw [List.append_assoc, parseF, if_neg (by simp; omega), hp, hr, readF, if_neg (by decide), Option.isNone_iff_eq_none.1 ha]
  simp only [Except.error.injEq, Prod.mk.injEq, true_and]
  omega
theorem silent_z : parseF (rowsText (sRows L ss k) ++ [110, 101, 119, 58, 58, 58, 10, 110, 101, 119, 58, 58, 58]) = .error (61, L.length + ss.length + 2) := by
  have hl := sRows_len (k := k) M hs
  have hp := pcs_rowsText (sRows L ss k) [110, 101, 119, 58, 58, 58, 10, 110, 101, 119, 58, 58, 58] (sRows_free M)
  have hc : pcs 10 [110, 101, 119, 58, 58, 58, 10, 110, 101, 119, 58, 58, 58] = [[110, 101, 119, 58, 58, 58], [110, 101, 119, 58, 58, 58]] := by decide +kernel
  have ha : accF [110, 101, 119, 58, 58, 58] = some ⟨newN, [], [], []⟩ := by kernel_rfl
  rw [hc] at hp
  obtain ⟨P, hP, hr⟩ := sRows_read (ss := ss) M hk [[110, 101, 119, 58, 58, 58], [110, 101, 119, 58, 58, 58]]
  have hkn : known (L.map bareA ++ [⟨newN, [], [], []⟩]) newN = true := by simp [known]
  rw [parseF, if_neg (by simp; omega), hp, hr, readF, if_neg (by decide), ha]
  simp only [new_unknown M, onceF, List.nodup_nil, decide_true, Bool.not_true, Bool.or_self, Bool.false_eq_true, if_false]
  rw [readF, if_neg (by decide), ha]
  simp only [hkn, Bool.true_or, if_true, Except.error.injEq, Prod.mk.injEq, true_and]
  omega
theorem silent_n : parseF (rowsText (sRows L ss k) ++ [110, 101, 119, 58, 110, 111, 98, 111, 100, 121, 58, 58, 10]) = .error (62, L.length + ss.length + 1) := by
  have hl := sRows_len (k := k) M hs
  have hp := pcs_rowsText (sRows L ss k) [110, 101, 119, 58, 110, 111, 98, 111, 100, 121, 58, 58, 10] (sRows_free M)
  have hc : pcs 10 [110, 101, 119, 58, 110, 111, 98, 111, 100, 121, 58, 58, 10] = [[110, 101, 119, 58, 110, 111, 98, 111, 100, 121, 58, 58], []] := by decide +kernel
  have ha : accF [110, 101, 119, 58, 110, 111, 98, 111, 100, 121, 58, 58] = some ⟨newN, [110, 111, 98, 111, 100, 121], [], []⟩ := by kernel_rfl
  rw [hc] at hp
  obtain ⟨P, hP, hr⟩ := sRows_read (ss := ss) M hk [[110, 101, 119, 58, 110, 111, 98, 111, 100, 121, 58, 58], []]
  rw [parseF, if_neg (by simp; omega), hp, hr, readF, if_neg (by decide), ha]
  simp only [new_unknown M, onceF, List.nodup_nil, decide_true, Bool.not_true, Bool.or_self, Bool.false_eq_true, if_false]
  simp only [readF, true_or, if_true]
  have hnb : known (L.map bareA ++ [⟨newN, [110, 111, 98, 111, 100, 121], [], []⟩]) [110, 111, 98, 111, 100, 121] = false := by
    rw [known_false, List.map_append]
    intro h
    rcases List.mem_append.1 h with h | h
    · exact known_false.1 (nobody_unknown M (n := [110, 111, 98, 111, 100, 121]) (by decide)) h
    · simp [newN] at h
  have hz : (L.map bareA ++ [(⟨newN, [110, 111, 98, 111, 100, 121], [], []⟩ : Acc)]).zip (P ++ [1 + L.length + ss.length]) = (L.map bareA).zip P ++ [((⟨newN, [110, 111, 98, 111, 100, 121], [], []⟩ : Acc), 1 + L.length + ss.length)] := by
    rw [List.zip_append (by simp [hP])]; rfl
  have hch : ∀ (Z : List Acc) (A : List (Acc × Nat)) (b : Acc) (p : Nat), checkF Z A = none → namedF Z b = false → checkF Z (A ++ [(b, p)]) = some p := by
    intro Z A
    induction A with
    | nil => intro b p _ h; simp [checkF, h]
    | cons x A ih =>
      obtain ⟨a, q⟩ := x
      intro b p h1 h2
      rw [checkF] at h1
      split at h1
      · rename_i h3; rw [List.cons_append, checkF, if_pos h3]; exact ih b p h1 h2
      · cases h1
  rw [endF, hz, hch _ _ _ _ (bare_check P _) (by simp [namedF, hnb])]
  simp only [Except.error.injEq, Prod.mk.injEq, true_and]
  omega
end
end Go.Proofs.YtkijkoakloacoaaDoor

namespace Go.Proofs.YtkijkoakloacoaaDoor
open Go
set_option linter.unusedVariables false
set_option linter.unusedSimpArgs false
set_option maxRecDepth 100000

/-! ### The text, part by part -/

abbrev rowsB (Z : List Acc) : List UInt8 := rowsText (Z.map fun a => rowF (bareA a))
abbrev quiets (ss : List (List UInt8)) : List UInt8 := rowsText (ss.map quietR)
def sPart (L : List Acc) (ss : List (List UInt8)) (k i : Nat) : List UInt8 := rowsB (L.take (min i k)) ++ ((if i ≤ k then [] else quiets ss) ++ rowsB ((L.take i).drop k))
theorem rowsB_snoc (Z : List Acc) (a : Acc) : rowsB (Z ++ [a]) = rowsB Z ++ lineF (bareA a) := by
  simp [rowsB, rowsText, lineF]
section
variable {L : List Acc} {ss : List (List UInt8)} {k i : Nat}
theorem sPart_zero : sPart L ss k 0 = [] := by simp [sPart, rowsText]
theorem sPart_low (h : i < k) (hi : i < L.length) : sPart L ss k (i + 1) = sPart L ss k i ++ lineF (bareA L[i]) := by
  have e1 : (L.take (i + 1)).drop k = [] := List.drop_of_length_le (by simp; omega)
  have e2 : (L.take i).drop k = [] := List.drop_of_length_le (by simp; omega)
  unfold sPart
  rw [if_pos (by omega), if_pos (by omega), e1, e2, show min (i + 1) k = i + 1 by omega, show min i k = i by omega, List.take_succ_eq_append_getElem hi, rowsB_snoc]
  simp [rowsText]
theorem sPart_mid (hi : k < L.length) : sPart L ss k (k + 1) = (sPart L ss k k ++ quiets ss) ++ lineF (bareA L[k]) := by
  have e1 : (L.take (k + 1)).drop k = [L[k]] := by rw [List.take_succ_eq_append_getElem hi, List.drop_append_of_le_length (by simp; omega), List.drop_of_length_le (by simp; omega)]; rfl
  have e2 : (L.take k).drop k = [] := List.drop_of_length_le (by simp; omega)
  unfold sPart
  rw [if_neg (by omega), if_pos (by omega), e1, e2, show min (k + 1) k = k by omega, show min k k = k by omega]
  simp [rowsText, lineF]
theorem sPart_last (hi : L.length ≤ k) : sPart L ss k (k + 1) = sPart L ss k k ++ quiets ss := by
  have e1 : (L.take (k + 1)).drop k = [] := List.drop_of_length_le (by simp; omega)
  have e2 : (L.take k).drop k = [] := List.drop_of_length_le (by simp; omega)
  unfold sPart
  rw [if_neg (by omega), if_pos (by omega), e1, e2, show min (k + 1) k = k by omega, show min k k = k by omega]
  simp [rowsText]
theorem sPart_high (h : k < i) (hi : i < L.length) : sPart L ss k (i + 1) = sPart L ss k i ++ lineF (bareA L[i]) := by
  have e1 : (L.take (i + 1)).drop k = (L.take i).drop k ++ [L[i]] := by rw [List.take_succ_eq_append_getElem hi, List.drop_append_of_le_length (by simp; omega)]
  unfold sPart
  rw [if_neg (by omega), if_neg (by omega), e1, show min (i + 1) k = k by omega, show min i k = k by omega, rowsB_snoc]
  simp
theorem sPart_stay (h : k < i) (hi : L.length ≤ i) : sPart L ss k (i + 1) = sPart L ss k i := by
  unfold sPart
  have e1 : L.take (i + 1) = L := List.take_of_length_le (by omega)
  have e2 : L.take i = L := List.take_of_length_le hi
  rw [if_neg (by omega), if_neg (by omega), show min (i + 1) k = k by omega, show min i k = k by omega, e1, e2]
theorem sPart_end (hk : k ≤ L.length) : sPart L ss k (L.length + 1) = rowsText (sRows L ss k) := by
  have e1 : L.take (L.length + 1) = L := List.take_of_length_le (by omega)
  unfold sPart sRows
  rw [if_neg (by omega), show min (L.length + 1) k = k by omega, e1, rowsText_app, rowsText_app]
theorem sPart_len (M : Made L) (hs : ss.length ≤ 60) : (sPart L ss k i).length ≤ 40000 := by
  have hf := M.few
  have one : ∀ (Z : List Acc), (∀ a ∈ Z, a ∈ L) → (rowsB Z).length ≤ Z.length * 200 := by
    intro Z
    induction Z with
    | nil => intro _; simp [rowsText]
    | cons a Z ih =>
      intro hz
      have h1 := ih fun x hx => hz x (by simp [hx])
      obtain ⟨i, hi, rfl⟩ := List.getElem_of_mem (hz a (by simp))
      have h2 := bare_row (M.each i hi) (by omega)
      unfold lineF at h2
      simp only [rowsB, rowsText, List.map_cons, List.flatMap_cons, List.length_append, List.length_cons, List.length_nil, Nat.add_mul] at h1 h2 ⊢
      omega
  have two : ∀ (Z : List (List UInt8)), (quiets Z).length ≤ Z.length * 62 := by
    intro Z
    induction Z with
    | nil => simp [rowsText]
    | cons a Z ih =>
      have h2 := quietF_len a
      unfold quietF at h2
      simp only [quiets, rowsText, List.map_cons, List.flatMap_cons, List.length_append, List.length_cons, List.length_nil, Nat.add_mul] at ih h2 ⊢
      omega
  have a1 := one (L.take (min i k)) fun a ha => List.mem_of_mem_take ha
  have a2 := one ((L.take i).drop k) fun a ha => List.mem_of_mem_take (List.mem_of_mem_drop ha)
  have a3 := two ss
  unfold sPart
  rw [List.length_append, List.length_append]
  simp only [List.length_take, List.length_drop] at a1 a2
  split
  · simp only [List.length_nil]; omega
  · omega
end

/-! ### A line that says nothing -/

section
attribute [local go_sem] F31.t4_eq F31.t5_eq F31.t9_eq
theorem silent_any {w0 w : World} {A : HP} (h : St w0 A w) (s : List UInt8) :
    Calls Tryd.prog 31 #[.string (strOf s)] w fun e w' => St w0 A w' ∧ e = .returned (.string (strOf (quietF s))) := by
  refine F31.calls (by simp) ?_
  unfold F31.code
  simp -dsimp -implicitDefEqProofs (disch := omega) only [go_sem, reqD_of, dec_t, dec_f, wrap_i64, wrap_u32, wrap_u64, wrap_u8]
  have h0 : St w0 (RowO 5 1 (.slice none 0 0) ([] : List UInt8).length (([] : List UInt8).map bv) * A) w := h.nilR 5 1
  refine loop_intro (fun e w' => e.ds = [] ∧ e.ρ 0 = .string (strOf s) ∧ ∃ (i : Nat) (v : Value) (b : List UInt8), i ≤ 60 ∧ i ≤ s.length ∧ e.ρ 4 = .int .i64 i ∧ e.ρ 3 = v ∧ b = (s.take i).filter (fun c => c != 10) ∧ St w0 (RowO 5 1 v b.length (b.map bv) * A) w')
    (fun e _ => match e.ρ 4 with | .int _ n => (60 - n).toNat | _ => 0) ?_ ?_
  · exact ⟨rfl, by simp -dsimp -implicitDefEqProofs only [go_sem], 0, _, [], by omega, by omega, by simp -dsimp -implicitDefEqProofs only [go_sem], by simp -dsimp -implicitDefEqProofs only [go_sem], by simp, h0⟩
  clear h h0
  rintro e w2 ⟨hd, e0, i, v, b, hi60, his, e4, e3, hb, h⟩
  obtain ⟨av, cv, rfl, _⟩ := h.rowForm v
  have hbl : b.length ≤ 60 := by
    have := List.length_filter_le (fun c : UInt8 => c != 10) (s.take i)
    rw [← hb, List.length_take] at this
    omega
  have fin : ∀ (e' : FA) (w' : World), e'.ds = [] → e'.ρ 3 = .slice av b.length cv → St w0 (RowO 5 1 (.slice av b.length cv) b.length (b.map bv) * A) w' → (s.take i = s.take 60) →
      cwE Tryd.prog F31.t7 (fnP Tryd.prog #[.tmp 2] fun e w' => St w0 A w' ∧ e = .returned (.string (strOf (quietF s)))) e' w' := by
    intro e' w' fd f3 h' ht
    rw [F31.t7_eq]
    have hq : quietR s = if b = [] then [] else 35 :: b := by rw [hb, ht]; rfl
    by_cases hbn : b = []
    · have hb0 : (b.length : Int) = 0 := by rw [hbn]; rfl
      rw [if_pos hbn] at hq
      have hqf : quietF s = [10] := by rw [quietF, hq]; rfl
      rw [hqf]
      simp -dsimp -implicitDefEqProofs (disch := omega) only [go_sem, reqD_of, dec_t, dec_f, wrap_i64, wrap_u32, wrap_u64, wrap_u8, fd, f3, hb0]
      exact h'.right
    · have hb0 : ¬ (b.length : Int) = 0 := by have := List.length_pos_iff.2 hbn; omega
      rw [if_neg hbn] at hq
      have hqf : quietF s = [35] ++ b ++ [10] := by rw [quietF, hq]; rfl
      rw [hqf]
      simp -dsimp -implicitDefEqProofs (disch := omega) only [go_sem, reqD_of, dec_t, dec_f, wrap_i64, wrap_u32, wrap_u64, wrap_u8, fd, f3, hb0]
      refine h'.str (src := 82) (e := 5) (dst := 9) (bs := b) ?_ Tryd.underlying82 Tryd.underlying5 Tryd.underlying9 ?_
      · exact (Ent.left _ _).trans (RowO.reads _ _ _ _ _)
      simp -dsimp -implicitDefEqProofs (disch := omega) only [go_sem, reqD_of, dec_t, dec_f, wrap_i64, wrap_u32, wrap_u64, wrap_u8, fd, binV_sadd (P := Tryd.prog) (T := 9) (a := [35]) (b := b) (by simp; omega), binV_sadd (P := Tryd.prog) (T := 9) (a := [35] ++ b) (b := [10]) (by simp; omega)]
      exact h'.right
  by_cases hlt : (i : Int) < s.length
  case neg =>
    simp -dsimp -implicitDefEqProofs (disch := omega) only [go_sem, reqD_of, dec_t, dec_f, wrap_i64, wrap_u32, wrap_u64, wrap_u8, hd, e0, e4, hlt]
    exact fin _ _ (by simp -dsimp -implicitDefEqProofs only [go_sem, hd]) (by simp -dsimp -implicitDefEqProofs only [go_sem, e3]) h (by rw [List.take_of_length_le (by omega), List.take_of_length_le (by omega)])
  by_cases hlt2 : (i : Int) < 60
  case neg =>
    have : i = 60 := by omega
    simp -dsimp -implicitDefEqProofs (disch := omega) only [go_sem, reqD_of, dec_t, dec_f, wrap_i64, wrap_u32, wrap_u64, wrap_u8, hd, e0, e4, hlt, hlt2]
    exact fin _ _ (by simp -dsimp -implicitDefEqProofs only [go_sem, hd]) (by simp -dsimp -implicitDefEqProofs only [go_sem, e3]) h (by rw [this])
  have hil : i < s.length := by omega
  obtain ⟨c, hc⟩ : ∃ c, c = s[i] := ⟨_, rfl⟩
  have hgd : s.getD i 0 = c := by rw [hc]; simp [hil]
  have htk : (s.take (i + 1)).filter (fun c => c != 10) = b ++ if c = 10 then [] else [c] := by
    rw [List.take_succ_eq_append_getElem hil, List.filter_append, ← hb, ← hc]
    congr 1
    by_cases e : c = 10
    · simp [e]
    · simp [e]
  obtain ⟨n, hn⟩ : ∃ n, n = c.toNat := ⟨_, rfl⟩
  by_cases h10 : (n : Int) = 10
  · have hc10 : c = 10 := UInt8.toNat_inj.1 (by rw [← hn]; show n = 10; omega)
    rw [if_pos hc10, List.append_nil] at htk
    simp -dsimp -implicitDefEqProofs (disch := omega) only [go_sem, reqD_of, dec_t, dec_f, wrap_i64, wrap_u32, wrap_u64, wrap_u8, hd, e0, e4, hlt, hlt2, hgd, ← hn, h10]
    exact ⟨⟨i + 1, _, b, by omega, by omega, by omega, by simp -dsimp -implicitDefEqProofs only [go_sem, e3], htk.symm, h⟩, by omega⟩
  · have hc10 : ¬ c = 10 := fun e => h10 (by rw [hn, e]; rfl)
    rw [if_neg hc10] at htk
    have hbv : (Value.int .u8 (n : Int)) = bv c := by rw [hn]; rfl
    simp -dsimp -implicitDefEqProofs (disch := omega) only [go_sem, reqD_of, dec_t, dec_f, wrap_i64, wrap_u32, wrap_u64, wrap_u8, hd, e0, e3, e4, hlt, hlt2, hgd, ← hn, h10]
    rw [hbv]
    refine h.lit (t := 82) (n := 1) (cells := [bv c]) fact_rowTy_82 rfl (by decide) (by decide) fun v8 w8 h8 => ?_
    obtain ⟨a8, c8, rfl, _⟩ := h8.rowForm v8
    simp -dsimp -implicitDefEqProofs (disch := omega) only [go_sem, reqD_of, dec_t, dec_f, wrap_i64, wrap_u32, wrap_u64, wrap_u8, hd, e3]
    refine h8.appR (v := .slice av b.length cv) (x := .slice a8 1 c8) fact_rowTy_82 Tryd.underlying82 (fun u hu => by simp at hu; subst hu; rfl) (by simp) (show _ ≤ 9223372036854775807 by omega) (by omega) fun v9 w9 h9 => ?_
    obtain ⟨a9, c9, rfl, _⟩ := h9.rowForm v9
    simp -dsimp -implicitDefEqProofs (disch := omega) only [go_sem, reqD_of, dec_t, dec_f, wrap_i64, wrap_u32, wrap_u64, wrap_u8, hd, e0, e4]
    have el : (b ++ [c]).length = b.length + 1 := by simp
    have em : (b ++ [c]).map bv = b.map bv ++ [bv c] := by simp
    refine ⟨⟨i + 1, .slice a9 (b.length + 1) c9, b ++ [c], by omega, by omega, by omega, by first | rfl | simp -dsimp -implicitDefEqProofs only [go_sem], htk.symm, ?_⟩, by omega⟩
    rw [el, em]
    exact h9.sub
end
end Go.Proofs.YtkijkoakloacoaaDoor

namespace Go.Proofs.YtkijkoakloacoaaDoor
open Go
set_option linter.unusedVariables false
set_option linter.unusedSimpArgs false
set_option maxRecDepth 100000

/-- What the loop's variables are. -/
structure SilE (e : FA) (vs vo : Value) (k : Nat) (s : List UInt8) (n i : Nat) : Prop where
  ds : e.ds = []
  lines : e.ρ 1 = vs
  l : e.ρ 8 = vo
  k : e.ρ 10 = .int .i64 k
  s : e.ρ 11 = sv s
  n : e.ρ 12 = .int .i64 n
  i : e.ρ 13 = .int .i64 i

theorem nil_reads (A : HP) : Ent A (ReadsT (.slice none 0 0) []) := Ent.of fun h _ => ⟨rfl, none, 0, rfl, Nat.le_refl _, .inl rfl⟩
theorem quiets_snoc (ss : List (List UInt8)) (s : List UInt8) : quiets (ss ++ [s]) = quiets ss ++ quietF s := by
  simp [quiets, rowsText, quietF]
theorem quiets_len (ss : List (List UInt8)) : (quiets ss).length ≤ ss.length * 62 := by
  induction ss with
  | nil => simp [rowsText]
  | cons a Z ih =>
    have h2 := quietF_len a
    unfold quietF at h2
    simp only [quiets, rowsText, List.map_cons, List.flatMap_cons, List.length_append, List.length_cons, List.length_nil, Nat.add_mul] at ih h2 ⊢
    omega

section
attribute [local go_sem] F8.t15_eq F8.t16_eq F8.t22_eq F8.t18_eq F8.t11_eq F8.t12_eq F8.t33_eq F8.t31_eq F8.t29_eq F8.t23_eq F8.t6_eq
/-- The i-th account's line. -/
theorem silent_18 {w0 w : World} {A B : HP} {i k n : Nat} {vs vo : Value} {s : List UInt8} {L : List AV} {e : FA} {Q : Post} (M : Made (accs L)) [Gives A Tabs] (he : SilE e vs vo k s n i) (hs : s.length ≤ 1000000) (hi : i ≤ L.length)
    (h : St w0 (rowA vo L * (B * A)) w)
    (hQ : ∀ (e' : FA) (w' : World), SilE e' vs vo k (if hi : i < L.length then s ++ lineF (bareA L[i].1) else s) n i → St w0 (rowA vo L * (B * A)) w' → Q .normal e' w') : cwE Tryd.prog F8.t18 Q e w := by
  obtain ⟨hd, e1, e8, e10, e11, e12, e13⟩ := he
  obtain ⟨ao, co, rfl, hao⟩ := row_form (vo := vo) (L := L) h
  rw [F8.t18_eq]
  by_cases hlt : (i : Int) < L.length
  case neg =>
    rw [dif_neg (by omega)] at hQ
    simp -dsimp -implicitDefEqProofs (disch := omega) only [go_sem, reqD_of, dec_t, dec_f, wrap_i64, wrap_u32, wrap_u64, wrap_u8, hd, e8, e13, hlt]
    exact hQ _ _ ⟨by simp -dsimp -implicitDefEqProofs only [go_sem, hd], by simp -dsimp -implicitDefEqProofs only [go_sem, e1], by simp -dsimp -implicitDefEqProofs only [go_sem, e8], by simp -dsimp -implicitDefEqProofs only [go_sem, e10], by simp -dsimp -implicitDefEqProofs only [go_sem, e11], by simp -dsimp -implicitDefEqProofs only [go_sem, e12], by simp -dsimp -implicitDefEqProofs only [go_sem, e13]⟩ h
  have hi' : i < L.length := by omega
  rw [dif_pos hi'] at hQ
  obtain ⟨b, o, rfl⟩ := hao i hi'
  have hfew := M.few
  simp only [List.length_map] at hfew
  have hla : i < (accs L).length := by simpa using hi'
  have hge : (accs L)[i] = L[i].1 := by simp
  have hma := M.each i hla
  rw [hge] at hma
  have hpr := bare_print hma (by omega)
  have hlen := bare_row hma (by omega)
  have hkl := (keyF_facts hma.key).1
  have cells : ∀ {C : HP} {w' : World}, St w0 C w' → Gives C (rowA (.slice (some ⟨b, o, none⟩) L.length co) L) → w'.cell? ⟨b, o + i * 4, none⟩ = some (sv L[i].1.name) ∧ w'.cell? ⟨b, o + i * 4 + 3, none⟩ = some (sv L[i].1.key) := fun {C w'} hs g => ⟨(row_cells (b := b) (o := o) (cv := co) (g := g) hs hi').1, (row_cells (b := b) (o := o) (cv := co) (g := g) hs hi').2.2.2⟩
  obtain ⟨a, hae⟩ : ∃ a, a = L[i].1 := ⟨_, rfl⟩
  rw [← hae] at hpr hlen hQ hkl
  simp only [← hae] at cells
  obtain ⟨c1, c2⟩ := cells h inferInstance
  obtain ⟨d1, d2⟩ := cells h.drew inferInstance
  simp -dsimp -implicitDefEqProofs (disch := omega) only [go_sem, reqD_of, dec_t, dec_f, wrap_i64, wrap_u32, wrap_u64, wrap_u8, hd, e8, e13, hlt, c1, c2, d1, d2]
  refine onV_of (v := accV (bareA a) (.slice none 0 0)) (by kernel_rfl) ?_
  simp -dsimp -implicitDefEqProofs (disch := omega) only [go_sem, reqD_of, dec_t, dec_f, wrap_i64, wrap_u32, wrap_u64, wrap_u8, c1, c2, d1, d2]
  refine h.drew.lit (t := 23) (n := 1) (cells := accL (bareA a) (.slice none 0 0)) fact_rowTy_23 rfl (by decide) (by decide) fun v1 w1 h1 => ?_
  obtain ⟨q1, q2⟩ := cells h1 inferInstance
  simp -dsimp -implicitDefEqProofs (disch := omega) only [go_sem, reqD_of, dec_t, dec_f, wrap_i64, wrap_u32, wrap_u64, wrap_u8, q1, q2]
  have hone : accs [(bareA a, (Value.slice none 0 0))] = [bareA a] := rfl
  have htl : textF [bareA a] = lineF (bareA a) := by simp [textF]
  refine (print_any h1 (v := v1) (L := [(bareA a, .slice none 0 0)]) ((Ent.left _ _).trans (RowO.reads _ _ _ _ _)) (fun x hx => by
    simp only [List.mem_singleton] at hx
    subst hx
    exact ⟨nil_reads _, ⟨by show a.key.length ≤ _; omega, by simp [bareA]⟩, rfl⟩) (by simp) (by rw [hone, htl]; omega)).mono ?_
  rintro e' w2 ⟨h2, ⟨_, rfl⟩ | ⟨m, _, hk, _⟩⟩
  case inr => rw [hone, hpr] at hk; cases hk
  rw [hone, htl]
  obtain ⟨q1, q2⟩ := cells h2 inferInstance
  simp -dsimp -implicitDefEqProofs (disch := omega) only [go_sem, reqD_of, dec_t, dec_f, wrap_i64, wrap_u32, wrap_u64, wrap_u8, q1, q2, hd, e11, binV_sadd (P := Tryd.prog) (T := 9) (a := s) (b := lineF (bareA a)) (by omega)]
  exact hQ _ _ ⟨by simp -dsimp -implicitDefEqProofs only [go_sem, hd], by simp -dsimp -implicitDefEqProofs only [go_sem, e1], by simp -dsimp -implicitDefEqProofs only [go_sem, e8], by simp -dsimp -implicitDefEqProofs only [go_sem, e10], by simp -dsimp -implicitDefEqProofs only [go_sem], by simp -dsimp -implicitDefEqProofs only [go_sem, e12], by simp -dsimp -implicitDefEqProofs only [go_sem, e13]⟩ h2.right

def nPart (ss : List (List UInt8)) (k i : Nat) : Nat := if i ≤ k then 0 else ss.length
/-- What a round makes of the text. -/
theorem sPart_round {L : List AV} {ss : List (List UInt8)} {k i : Nat} (hi : i ≤ L.length) (s : List UInt8) (hs : s = if i = k then sPart (accs L) ss k i ++ quiets ss else sPart (accs L) ss k i) :
    (if hi : i < L.length then s ++ lineF (bareA L[i].1) else s) = sPart (accs L) ss k (i + 1) := by
  have hla : (accs L).length = L.length := by simp
  subst hs
  by_cases e : i = k
  · subst e
    rw [if_pos rfl]
    by_cases h : i < L.length
    · rw [dif_pos h, sPart_mid (by simpa using h)]; simp
    · rw [dif_neg h, sPart_last (by simp; omega)]
  · rw [if_neg e]
    by_cases h : i < L.length
    · rw [dif_pos h]
      rcases Nat.lt_or_gt_of_ne e with h1 | h1
      · rw [sPart_low h1 (by simpa using h)]; simp
      · rw [sPart_high h1 (by simpa using h)]; simp
    · rw [dif_neg h]
      rcases Nat.lt_or_gt_of_ne e with h1 | h1
      · have hil : i = L.length := by omega
        subst hil
        unfold sPart
        rw [if_pos (by omega), if_pos (by omega), show min (L.length + 1) k = L.length + 1 by omega, show min L.length k = L.length by omega]
        have q1 : (accs L).take (L.length + 1) = accs L := List.take_of_length_le (by simp)
        have q2 : (accs L).take L.length = accs L := List.take_of_length_le (by simp)
        rw [q1, q2]
      · rw [sPart_stay h1 (by simp; omega)]

end
section
attribute [local go_sem] F8.t15_eq F8.t16_eq F8.t22_eq F8.t11_eq F8.t12_eq F8.t33_eq F8.t31_eq F8.t29_eq F8.t6_eq
theorem silent_6 {w0 w : World} {A B : HP} {al : Option Addr} {cl : Nat} {at' : Int} {vo : Value} {L : List AV} {lss : List (List UInt8)} {e : FA} {Q : Post} (M : Made (accs L)) [Gives A Tabs] (hvs : Ent A (ReadsT (.slice al lss.length cl) lss)) (hat : InI at')
    (hd : e.ds = []) (e1 : e.ρ 1 = .slice al lss.length cl) (e2 : e.ρ 2 = .int .i64 at') (e8 : e.ρ 8 = vo) (h : St w0 (rowA vo L * (B * A)) w)
    (hQ : ∀ (e' : FA) (w' : World) (k : Nat), k ≤ L.length → e'.ds = [] → e'.ρ 8 = vo → e'.ρ 11 = sv (rowsText (sRows (accs L) (lss.take 60) k)) → e'.ρ 12 = .int .i64 (lss.take 60).length → St w0 (rowA vo L * (B * A)) w' → cwE Tryd.prog F8.t23 Q e' w') : cwE Tryd.prog F8.t6 Q e w := by
  obtain ⟨ao, co, rfl, hao⟩ := row_form (vo := vo) (L := L) h
  have hfew := M.few
  simp only [List.length_map] at hfew
  obtain ⟨ss, hss⟩ : ∃ ss, ss = lss.take 60 := ⟨_, rfl⟩
  have hsl : ss.length ≤ 60 ∧ ss.length ≤ lss.length := by rw [hss]; simp; omega
  have hslen : ss.length = min 60 lss.length := by rw [hss]; simp
  rw [← hss] at hQ
  obtain ⟨k, hk, hpk⟩ := pick_nat (c := at') (n := L.length + 1) (by omega)
  rw [show ((L.length + 1 : Nat) : Int) = (L.length : Int) + 1 by omega] at hpk
  rw [F8.t6_eq]
  simp -dsimp -implicitDefEqProofs (disch := omega) only [go_sem, reqD_of, dec_t, dec_f, wrap_i64, wrap_u32, wrap_u64, wrap_u8, hd, e2, e8]
  refine (pick_any h hat (n := (L.length : Int) + 1) (by omega) (by omega)).mono ?_
  rintro e' w1 ⟨h1, rfl⟩
  rw [hpk]
  simp -dsimp -implicitDefEqProofs (disch := omega) only [go_sem, reqD_of, dec_t, dec_f, wrap_i64, wrap_u32, wrap_u64, wrap_u8, hd]
  refine loop_intro (fun e w' => ∃ i : Nat, SilE e (.slice al lss.length cl) (.slice ao L.length co) k (sPart (accs L) ss k i) (nPart ss k i) i ∧ i ≤ L.length + 1 ∧ St w0 (rowA (.slice ao L.length co) L * (B * A)) w')
    (fun e _ => match e.ρ 13 with | .int _ n => (L.length + 1 - n).toNat | _ => 0) ?_ ?_
  · exact ⟨0, ⟨by simp -dsimp -implicitDefEqProofs only [go_sem, hd], by simp -dsimp -implicitDefEqProofs only [go_sem, e1], by simp -dsimp -implicitDefEqProofs only [go_sem, e8], by simp -dsimp -implicitDefEqProofs only [go_sem], by (simp -dsimp -implicitDefEqProofs only [go_sem]; rw [sPart_zero]), by (simp -dsimp -implicitDefEqProofs only [go_sem]; rfl), by simp -dsimp -implicitDefEqProofs only [go_sem]⟩, by omega, h1⟩
  clear h h1 hd e1 e2 e8 e w
  rintro e w ⟨i, ⟨hd, e1, e8, e10, e11, e12, e13⟩, hi, h⟩
  have hslen2 := sPart_len (L := accs L) (ss := ss) (k := k) (i := i) M hsl.1
  by_cases hlt : (i : Int) ≤ L.length
  case neg =>
    have hil : i = L.length + 1 := by omega
    have hla : (accs L).length = L.length := by simp
    have hend := sPart_end (L := accs L) (ss := ss) (k := k) (by omega)
    rw [hla, ← hil] at hend
    have hn : nPart ss k i = ss.length := by unfold nPart; rw [if_neg (by omega)]
    rw [hend] at e11
    rw [hn] at e12
    simp -dsimp -implicitDefEqProofs (disch := omega) only [go_sem, reqD_of, dec_t, dec_f, wrap_i64, wrap_u32, wrap_u64, wrap_u8, hd, e8, e13, hlt]
    exact hQ _ _ k (by omega) (by simp -dsimp -implicitDefEqProofs only [go_sem, hd]) (by simp -dsimp -implicitDefEqProofs only [go_sem, e8]) (by simp -dsimp -implicitDefEqProofs only [go_sem, e11]) (by simp -dsimp -implicitDefEqProofs only [go_sem, e12]) h
  have hi' : i ≤ L.length := by omega
  have fin : ∀ {e' : FA} {w' : World} {s : List UInt8} {Q' : Post}, SilE e' (.slice al lss.length cl) (.slice ao L.length co) k s (nPart ss k (i + 1)) i → s = (if i = k then sPart (accs L) ss k i ++ quiets ss else sPart (accs L) ss k i) → St w0 (rowA (.slice ao L.length co) L * (B * A)) w' →
      (∀ (e2 : FA) (w2 : World), SilE e2 (.slice al lss.length cl) (.slice ao L.length co) k (sPart (accs L) ss k (i + 1)) (nPart ss k (i + 1)) i → St w0 (rowA (.slice ao L.length co) L * (B * A)) w2 → Q' .normal e2 w2) → cwE Tryd.prog F8.t18 Q' e' w' := by
    intro e' w' s Q' he hs h' hq
    refine silent_18 M he (by
      have := quiets_len ss
      rw [hs]
      split
      · rw [List.length_append]; omega
      · omega) hi' h' ?_
    rw [sPart_round hi' s hs]
    exact hq
  by_cases hik : (i : Int) = k
  case neg =>
    have hn : nPart ss k (i + 1) = nPart ss k i := by
      unfold nPart
      by_cases h1 : i ≤ k
      · rw [if_pos (by omega), if_pos h1]
      · rw [if_neg (by omega), if_neg h1]
    simp -dsimp -implicitDefEqProofs (disch := omega) only [go_sem, reqD_of, dec_t, dec_f, wrap_i64, wrap_u32, wrap_u64, wrap_u8, hd, e8, e10, e13, hlt, hik]
    refine fin (s := sPart (accs L) ss k i) ⟨by simp -dsimp -implicitDefEqProofs only [go_sem, hd], by simp -dsimp -implicitDefEqProofs only [go_sem, e1], by simp -dsimp -implicitDefEqProofs only [go_sem, e8], by simp -dsimp -implicitDefEqProofs only [go_sem, e10], by simp -dsimp -implicitDefEqProofs only [go_sem, e11], by rw [hn]; simp -dsimp -implicitDefEqProofs only [go_sem, e12], by simp -dsimp -implicitDefEqProofs only [go_sem, e13]⟩ (by rw [if_neg (by omega)]) h ?_
    rintro e2 w2 ⟨gd, g1, g8, g10, g11, g12, g13⟩ h2
    simp -dsimp -implicitDefEqProofs (disch := omega) only [go_sem, reqD_of, dec_t, dec_f, wrap_i64, wrap_u32, wrap_u64, wrap_u8, gd, g13, e13]
    exact ⟨⟨i + 1, ⟨by simp -dsimp -implicitDefEqProofs only [go_sem, gd], by simp -dsimp -implicitDefEqProofs only [go_sem, g1], by simp -dsimp -implicitDefEqProofs only [go_sem, g8], by simp -dsimp -implicitDefEqProofs only [go_sem, g10], by simp -dsimp -implicitDefEqProofs only [go_sem, g11], by simp -dsimp -implicitDefEqProofs only [go_sem, g12], by first | (simp -dsimp -implicitDefEqProofs only [go_sem]; done) | (simp -dsimp -implicitDefEqProofs only [go_sem]; omega) | omega | rfl⟩, by omega, h2⟩, by omega⟩
  have hik' : i = k := by omega
  have hn0 : nPart ss k i = 0 := by unfold nPart; rw [if_pos (by omega)]
  rw [hn0] at e12
  simp -dsimp -implicitDefEqProofs (disch := omega) only [go_sem, reqD_of, dec_t, dec_f, wrap_i64, wrap_u32, wrap_u64, wrap_u8, hd, e8, e10, e13, hlt, hik]
  refine loop_intro (fun e w' => ∃ j : Nat, SilE e (.slice al lss.length cl) (.slice ao L.length co) k (sPart (accs L) ss k i ++ quiets (ss.take j)) j i ∧ j ≤ ss.length ∧ e.ρ 14 = .int .i64 j ∧ St w0 (rowA (.slice ao L.length co) L * (B * A)) w')
    (fun e _ => match e.ρ 14 with | .int _ n => (ss.length - n).toNat | _ => 0) ?_ ?_
  · exact ⟨0, ⟨by simp -dsimp -implicitDefEqProofs only [go_sem, hd], by simp -dsimp -implicitDefEqProofs only [go_sem, e1], by simp -dsimp -implicitDefEqProofs only [go_sem, e8], by simp -dsimp -implicitDefEqProofs only [go_sem, e10], by (simp -dsimp -implicitDefEqProofs only [go_sem, e11]; simp [rowsText]), by first | (simp -dsimp -implicitDefEqProofs only [go_sem, e12]; done) | (simp -dsimp -implicitDefEqProofs only [go_sem, e12]; rfl), by simp -dsimp -implicitDefEqProofs only [go_sem, e13]⟩, by omega, by simp -dsimp -implicitDefEqProofs only [go_sem], h⟩
  clear h
  rintro e3 w3 ⟨j, ⟨fd, f1, f8, f10, f11, f12, f13⟩, hj, f14, h⟩
  have done : j = ss.length → ∀ {Q' : Post} {e' : FA}, SilE e' (.slice al lss.length cl) (.slice ao L.length co) k (sPart (accs L) ss k i ++ quiets (ss.take j)) j i →
      (∀ (e2 : FA) (w2 : World), SilE e2 (.slice al lss.length cl) (.slice ao L.length co) k (sPart (accs L) ss k (i + 1)) (nPart ss k (i + 1)) i → St w0 (rowA (.slice ao L.length co) L * (B * A)) w2 → Q' .normal e2 w2) → cwE Tryd.prog F8.t18 Q' e' w3 := by
    intro hje Q' e' he hq
    have hn : nPart ss k (i + 1) = j := by unfold nPart; rw [if_neg (by omega), hje]
    rw [← hn] at he
    rw [hn, hje, List.take_length, ← hje, ← hn] at he
    exact fin he (by rw [if_pos hik']) h hq
  by_cases hjl : (j : Int) < lss.length
  case neg =>
    simp -dsimp -implicitDefEqProofs (disch := omega) only [go_sem, reqD_of, dec_t, dec_f, wrap_i64, wrap_u32, wrap_u64, wrap_u8, fd, f1, f14, hjl]
    refine done (by omega) ⟨by simp -dsimp -implicitDefEqProofs only [go_sem, fd], by simp -dsimp -implicitDefEqProofs only [go_sem, f1], by simp -dsimp -implicitDefEqProofs only [go_sem, f8], by simp -dsimp -implicitDefEqProofs only [go_sem, f10], by simp -dsimp -implicitDefEqProofs only [go_sem, f11], by simp -dsimp -implicitDefEqProofs only [go_sem, f12], by simp -dsimp -implicitDefEqProofs only [go_sem, f13]⟩ ?_
    rintro e2 w2 ⟨gd, g1, g8, g10, g11, g12, g13⟩ h2
    simp -dsimp -implicitDefEqProofs (disch := omega) only [go_sem, reqD_of, dec_t, dec_f, wrap_i64, wrap_u32, wrap_u64, wrap_u8, gd, g13, e13]
    exact ⟨⟨i + 1, ⟨by simp -dsimp -implicitDefEqProofs only [go_sem, gd], by simp -dsimp -implicitDefEqProofs only [go_sem, g1], by simp -dsimp -implicitDefEqProofs only [go_sem, g8], by simp -dsimp -implicitDefEqProofs only [go_sem, g10], by simp -dsimp -implicitDefEqProofs only [go_sem, g11], by simp -dsimp -implicitDefEqProofs only [go_sem, g12], by first | (simp -dsimp -implicitDefEqProofs only [go_sem]; done) | (simp -dsimp -implicitDefEqProofs only [go_sem]; omega) | omega | rfl⟩, by omega, h2⟩, by omega⟩
  by_cases hj60 : (j : Int) < 60
  case neg =>
    simp -dsimp -implicitDefEqProofs (disch := omega) only [go_sem, reqD_of, dec_t, dec_f, wrap_i64, wrap_u32, wrap_u64, wrap_u8, fd, f1, f14, hjl, hj60]
    refine done (by omega) ⟨by simp -dsimp -implicitDefEqProofs only [go_sem, fd], by simp -dsimp -implicitDefEqProofs only [go_sem, f1], by simp -dsimp -implicitDefEqProofs only [go_sem, f8], by simp -dsimp -implicitDefEqProofs only [go_sem, f10], by simp -dsimp -implicitDefEqProofs only [go_sem, f11], by simp -dsimp -implicitDefEqProofs only [go_sem, f12], by simp -dsimp -implicitDefEqProofs only [go_sem, f13]⟩ ?_
    rintro e2 w2 ⟨gd, g1, g8, g10, g11, g12, g13⟩ h2
    simp -dsimp -implicitDefEqProofs (disch := omega) only [go_sem, reqD_of, dec_t, dec_f, wrap_i64, wrap_u32, wrap_u64, wrap_u8, gd, g13, e13]
    exact ⟨⟨i + 1, ⟨by simp -dsimp -implicitDefEqProofs only [go_sem, gd], by simp -dsimp -implicitDefEqProofs only [go_sem, g1], by simp -dsimp -implicitDefEqProofs only [go_sem, g8], by simp -dsimp -implicitDefEqProofs only [go_sem, g10], by simp -dsimp -implicitDefEqProofs only [go_sem, g11], by simp -dsimp -implicitDefEqProofs only [go_sem, g12], by first | (simp -dsimp -implicitDefEqProofs only [go_sem]; done) | (simp -dsimp -implicitDefEqProofs only [go_sem]; omega) | omega | rfl⟩, by omega, h2⟩, by omega⟩
  have hjl' : j < lss.length := by omega
  have hjs : j < ss.length := by omega
  obtain ⟨bl, ol, rfl, hcl⟩ := (h.ent ((Gives.ent (B := A)).trans hvs)).atS (a := al) (n := lss.length) (c := cl) (xs := lss.map sv) (k := j) (by simpa using hjl')
  rw [List.getElem_map] at hcl
  have hsj : ss[j] = lss[j] := by simp [hss]
  obtain ⟨q, hq⟩ : ∃ q, q = lss[j] := ⟨_, rfl⟩
  rw [← hq] at hcl hsj
  have htk : quiets (ss.take (j + 1)) = quiets (ss.take j) ++ quietF q := by rw [List.take_succ_eq_append_getElem hjs, hsj, quiets_snoc]
  have hql := quiets_len (ss.take j)
  have hqf := quietF_len q
  rw [List.length_take] at hql
  simp -dsimp -implicitDefEqProofs (disch := omega) only [go_sem, reqD_of, dec_t, dec_f, wrap_i64, wrap_u32, wrap_u64, wrap_u8, fd, f1, f11, f14, hjl, hj60, hcl]
  refine (silent_any h q).mono ?_
  rintro e' w4 ⟨h4, rfl⟩
  simp -dsimp -implicitDefEqProofs (disch := omega) only [go_sem, reqD_of, dec_t, dec_f, wrap_i64, wrap_u32, wrap_u64, wrap_u8, fd, f11, f12, f14, binV_sadd (P := Tryd.prog) (T := 9) (a := sPart (accs L) ss k i ++ quiets (ss.take j)) (b := quietF q) (by rw [List.length_append]; omega)]
  exact ⟨⟨j + 1, ⟨by simp -dsimp -implicitDefEqProofs only [go_sem, fd], by simp -dsimp -implicitDefEqProofs only [go_sem, f1], by simp -dsimp -implicitDefEqProofs only [go_sem, f8], by simp -dsimp -implicitDefEqProofs only [go_sem, f10], by (simp -dsimp -implicitDefEqProofs only [go_sem]; rw [htk, List.append_assoc]), by first | (simp -dsimp -implicitDefEqProofs only [go_sem]; done) | (simp -dsimp -implicitDefEqProofs only [go_sem]; omega) | omega | rfl, by simp -dsimp -implicitDefEqProofs only [go_sem, f13]⟩, by omega, by first | (simp -dsimp -implicitDefEqProofs only [go_sem]; done) | (simp -dsimp -implicitDefEqProofs only [go_sem]; omega) | omega | rfl, h4⟩, by omega⟩

theorem parse_ok {w0 w : World} {A : HP} (h : St w0 A w) [Gives A Tabs] {text : List UInt8} {L : List Acc} (hp : parseF text = .ok L) :
    Calls Tryd.prog 13 #[.string (strOf text)] w fun e w' => ∃ T : Nat, St w0 A w' ∧ e = .returned (.tuple #[.pointer (some ⟨T, 0, none⟩), .int .i64 0, .int .i64 0]) := by
  refine (parse_any h text).mono ?_
  rintro e w1 (⟨T, m, x, hr, _, h1, rfl⟩ | ⟨k, n, hr, _, _⟩)
  · exact ⟨T, h1.right, rfl⟩
  · rw [hp] at hr; cases hr
theorem parse_bad {w0 w : World} {A : HP} (h : St w0 A w) [Gives A Tabs] {text : List UInt8} {k n : Nat} (hp : parseF text = .error (k, n)) :
    Calls Tryd.prog 13 #[.string (strOf text)] w fun e w' => St w0 A w' ∧ e = .returned (.tuple #[.pointer none, .int .i64 k, .int .i64 n]) := by
  refine (parse_any h text).mono ?_
  rintro e w1 (⟨T, m, x, hr, _, h1, rfl⟩ | ⟨k', n', hr, h1, rfl⟩)
  · rw [hp] at hr; cases hr
  · rw [hp] at hr
    simp only [Except.error.injEq, Prod.mk.injEq] at hr
    obtain ⟨rfl, rfl⟩ := hr
    exact ⟨h1, rfl⟩

end
section
attribute [local go_sem] F8.t15_eq F8.t16_eq F8.t22_eq F8.t18_eq F8.t11_eq F8.t12_eq F8.t33_eq F8.t31_eq F8.t29_eq F8.t23_eq F8.t6_eq
theorem silent_23 {w0 w : World} {A B : HP} {k : Nat} {vo : Value} {L : List AV} {ss : List (List UInt8)} {e : FA} (M : Made (accs L)) [Gives A Tabs] (hs : ss.length ≤ 60) (hk : k ≤ L.length)
    (hd : e.ds = []) (e8 : e.ρ 8 = vo) (e11 : e.ρ 11 = sv (rowsText (sRows (accs L) ss k))) (e12 : e.ρ 12 = .int .i64 ss.length) (h : St w0 (rowA vo L * (B * A)) w) :
    cwE Tryd.prog F8.t23 (fnP Tryd.prog #[.tmp 6] fun e w' => St w0 A w' ∧ e = .returned (.bool true)) e w := by
  obtain ⟨ao, co, rfl, hao⟩ := row_form (vo := vo) (L := L) h
  have hfew := M.few
  simp only [List.length_map] at hfew
  have hla : (accs L).length = L.length := by simp
  have hlen := sRows_len (L := accs L) (ss := ss) (k := k) M hs
  have px := silent_x (L := accs L) (ss := ss) (k := k) M (by rw [hla]; exact hk) hs
  have py := silent_y (L := accs L) (ss := ss) (k := k) M (by rw [hla]; exact hk) hs
  have pz := silent_z (L := accs L) (ss := ss) (k := k) M (by rw [hla]; exact hk) hs
  have pn := silent_n (L := accs L) (ss := ss) (k := k) M (by rw [hla]; exact hk) hs
  rw [hla] at py pz pn
  obtain ⟨S, hS⟩ : ∃ S, S = rowsText (sRows (accs L) ss k) := ⟨_, rfl⟩
  rw [← hS] at px py pz pn e11 hlen
  have a1 := binV_sadd (P := Tryd.prog) (T := 9) (a := S) (b := [97, 58, 98, 10]) (by simp; omega)
  have a2 := binV_sadd (P := Tryd.prog) (T := 9) (a := S ++ [97, 58, 98, 10]) (b := [99, 58, 100, 58, 101, 58, 102, 58, 103]) (by simp; omega)
  have a3 := binV_sadd (P := Tryd.prog) (T := 9) (a := S) (b := [110, 101, 119, 58, 58, 58, 10, 110, 101, 119, 58, 58, 58]) (by simp; omega)
  have a4 := binV_sadd (P := Tryd.prog) (T := 9) (a := S) (b := [110, 101, 119, 58, 110, 111, 98, 111, 100, 121, 58, 58, 10]) (by simp; omega)
  rw [F8.t23_eq]
  simp -dsimp -implicitDefEqProofs (disch := omega) only [go_sem, reqD_of, dec_t, dec_f, wrap_i64, wrap_u32, wrap_u64, wrap_u8, hd, e11]
  refine (parse_ok h px).mono ?_
  rintro e' w1 ⟨T, h1, rfl⟩
  simp -dsimp -implicitDefEqProofs (disch := omega) only [go_sem, reqD_of, dec_t, dec_f, wrap_i64, wrap_u32, wrap_u64, wrap_u8, hd, e11, a1, a2]
  refine (parse_bad h1 py).mono ?_
  rintro e' w2 ⟨h2, rfl⟩
  simp -dsimp -implicitDefEqProofs (disch := omega) only [go_sem, reqD_of, dec_t, dec_f, wrap_i64, wrap_u32, wrap_u64, wrap_u8, hd, e11, a3]
  refine (parse_bad h2 pz).mono ?_
  rintro e' w3 ⟨h3, rfl⟩
  simp -dsimp -implicitDefEqProofs (disch := omega) only [go_sem, reqD_of, dec_t, dec_f, wrap_i64, wrap_u32, wrap_u64, wrap_u8, hd, e11, a4]
  refine (parse_bad h3 pn).mono ?_
  rintro e' w4 ⟨h4, rfl⟩
  have q1 : (L.length : Int) + ss.length + 1 = ((L.length + ss.length + 1 : Nat) : Int) := by omega
  have q2 : (L.length : Int) + ss.length + 2 = ((L.length + ss.length + 2 : Nat) : Int) := by omega
  simp -dsimp -implicitDefEqProofs (disch := omega) only [go_sem, reqD_of, dec_t, dec_f, wrap_i64, wrap_u32, wrap_u64, wrap_u8, hd, e8, e12, q1, q2]
  exact h4.right.right

end
section
attribute [local go_sem] F8.t15_eq F8.t16_eq F8.t22_eq F8.t18_eq F8.t11_eq F8.t12_eq F8.t33_eq F8.t31_eq F8.t29_eq F8.t23_eq
theorem usersSilent_law {w0 w : World} {A : HP} (h : St w0 A w) [Gives A Tabs] {ar : Option Addr} {cr : Nat} {ws : List WhoD} (hw : WhosP A (.slice ar ws.length cr) ws) {al : Option Addr} {cl : Nat} {lss : List (List UInt8)} (hvs : Ent A (ReadsT (.slice al lss.length cl) lss)) {at' : Int} (hat : InI at') :
    Calls Tryd.prog 8 #[.slice ar ws.length cr, .slice al lss.length cl, .int .i64 at'] w fun e w' => St w0 A w' ∧ e = .returned (.bool true) := by
  refine F8.calls (by simp) ?_
  unfold F8.code
  simp -dsimp -implicitDefEqProofs (disch := omega) only [go_sem, reqD_of, dec_t, dec_f, wrap_i64, wrap_u32, wrap_u64, wrap_u8]
  refine (example_any h).mono ?_
  rintro e w1 ⟨h1, rfl⟩
  simp -dsimp -implicitDefEqProofs (disch := omega) only [go_sem, reqD_of, dec_t, dec_f, wrap_i64, wrap_u32, wrap_u64, wrap_u8]
  refine (made_any h1 hw).mono ?_
  rintro e w2 ⟨L, vo, B, M, hm, hlen, h2, rfl⟩
  have hfew := M.few
  simp only [List.length_map] at hfew
  simp -dsimp -implicitDefEqProofs (disch := omega) only [go_sem, reqD_of, dec_t, dec_f, wrap_i64, wrap_u32, wrap_u64, wrap_u8]
  refine (table_any h2 (v := vo) (L := L) ((Ent.left _ _).trans (RowO.reads _ _ _ _ _)) (hm.weak (Gives.ent (B := B))) (by omega) (by have := M.text; omega) M.print).mono ?_
  rintro e w3 ⟨T, m, x, hL, ok, h3, rfl⟩
  simp -dsimp -implicitDefEqProofs (disch := omega) only [go_sem, reqD_of, dec_t, dec_f, wrap_i64, wrap_u32, wrap_u64, wrap_u8]
  refine silent_6 M hvs hat (by simp -dsimp -implicitDefEqProofs only [go_sem]) (by simp -dsimp -implicitDefEqProofs only [go_sem]) (by simp -dsimp -implicitDefEqProofs only [go_sem]) (by simp -dsimp -implicitDefEqProofs only [go_sem]) h3.right ?_
  intro e' w' k hk fd f8 f11 f12 h'
  exact silent_23 M (by simp; omega) hk fd f8 f11 f12 h'
end
end Go.Proofs.YtkijkoakloacoaaDoor
