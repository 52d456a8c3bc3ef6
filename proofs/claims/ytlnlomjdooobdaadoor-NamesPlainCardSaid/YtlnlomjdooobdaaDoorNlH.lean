/- The reference's characters of a text, and the patterns made of them. -/
import Derived.Test.YtlnlomjdooobdaaDoorNlG
namespace Go.Proofs.YtlnlomjdooobdaaDoor
open Go
set_option linter.unusedVariables false
set_option linter.unusedSimpArgs false

def leadN (b : Nat) : Nat := if 240 ≤ b then 4 else if 224 ≤ b then 3 else if 192 ≤ b then 2 else 1
def stepN (l : List UInt8) : Nat := min (leadN (l.getD 0 0).toNat) l.length
theorem stepN_pos {l : List UInt8} (h : l ≠ []) : 1 ≤ stepN l ∧ stepN l ≤ l.length ∧ stepN l ≤ 4 := by
  have := List.length_pos_iff.2 h
  unfold stepN leadN
  split
  · omega
  · split
    · omega
    · split <;> omega
def chrF : Nat → List UInt8 → List (List UInt8)
  | 0, _ => []
  | n + 1, l => if l = [] then [] else l.take (stepN l) :: chrF n (l.drop (stepN l))
def chr (l : List UInt8) : List (List UInt8) := chrF l.length l
theorem chrF_more : ∀ (n m : Nat) (l : List UInt8), l.length ≤ n → l.length ≤ m → chrF n l = chrF m l
  | 0, 0, _, _, _ => rfl
  | 0, m + 1, l, h, _ => by have : l = [] := List.eq_nil_of_length_eq_zero (by omega); simp [chrF, this]
  | n + 1, 0, l, _, h => by have : l = [] := List.eq_nil_of_length_eq_zero (by omega); simp [chrF, this]
  | n + 1, m + 1, l, h1, h2 => by
    by_cases e : l = []
    · simp [chrF, e]
    · have hw := stepN_pos e
      simp only [chrF, e, if_false]
      rw [chrF_more n m _ (by simp; omega) (by simp; omega)]
theorem chr_nil : chr [] = [] := rfl
theorem chr_cons {l : List UInt8} (h : l ≠ []) : chr l = l.take (stepN l) :: chr (l.drop (stepN l)) := by
  have hw := stepN_pos h
  unfold chr
  cases hl : l.length with
  | zero => omega
  | succ n =>
    simp only [chrF, h, if_false]
    rw [chrF_more n _ _ (by simp; omega) (Nat.le_refl _)]
theorem chr_len (l : List UInt8) : (chr l).length ≤ l.length := by
  generalize hn : l.length = n
  induction n using Nat.strongRecOn generalizing l with
  | _ n ih =>
    by_cases e : l = []
    · rw [e, chr_nil]; simp
    · have hw := stepN_pos e
      rw [chr_cons e]
      have := ih (l.drop (stepN l)).length (by simp; omega) (l.drop (stepN l)) rfl
      simp at this ⊢; omega
theorem decodeN_one {n b0 b1 b2 b3 c1 c2 c3 : Nat} (hb : b0 < 256) (h0 : 0 < n) (hg : ¬ (Lib.decodeN n b0 b1 b2 b3 = (65533, 1))) (e1 : 1 < (Lib.decodeN n b0 b1 b2 b3).2 → c1 = b1) (e2 : 2 < (Lib.decodeN n b0 b1 b2 b3).2 → c2 = b2)
    (e3 : 3 < (Lib.decodeN n b0 b1 b2 b3).2 → c3 = b3) : Lib.decodeN (Lib.decodeN n b0 b1 b2 b3).2 b0 c1 c2 c3 = Lib.decodeN n b0 b1 b2 b3 ∧ (Lib.decodeN n b0 b1 b2 b3).2 = min (leadN b0) n := by
  by_cases a1 : b0 < 128
  · have e : Lib.decodeN n b0 b1 b2 b3 = (b0, 1) := by rw [Lib.decodeN, if_pos a1]
    rw [e]
    refine ⟨by rw [Lib.decodeN, if_pos a1], ?_⟩
    rw [leadN, if_neg (by omega), if_neg (by omega), if_neg (by omega)]
    show 1 = _; omega
  by_cases a2 : b0 / 32 = 6 ∧ (1 < n ∧ b1 / 64 = 2)
  · by_cases a3 : b0 % 32 * 64 + b1 % 64 ≥ 128
    · have e : Lib.decodeN n b0 b1 b2 b3 = (b0 % 32 * 64 + b1 % 64, 2) := by rw [Lib.decodeN, if_neg a1, if_pos a2, if_pos a3]
      rw [e] at e1 ⊢
      rw [e1 (by show 1 < 2; omega)]
      refine ⟨by show Lib.decodeN 2 _ _ _ _ = _; rw [Lib.decodeN, if_neg a1, if_pos (by omega), if_pos a3], ?_⟩
      rw [leadN, if_neg (by omega), if_neg (by omega), if_pos (by omega)]
      show 2 = _; omega
    · exact absurd (by rw [Lib.decodeN, if_neg a1, if_pos a2, if_neg a3]) hg
  by_cases a3 : b0 / 16 = 14 ∧ (1 < n ∧ b1 / 64 = 2) ∧ (2 < n ∧ b2 / 64 = 2)
  · by_cases a4 : b0 % 16 * 4096 + b1 % 64 * 64 + b2 % 64 ≥ 2048 ∧ (b0 % 16 * 4096 + b1 % 64 * 64 + b2 % 64 < 55296 ∨ (57344 ≤ b0 % 16 * 4096 + b1 % 64 * 64 + b2 % 64 ∧ b0 % 16 * 4096 + b1 % 64 * 64 + b2 % 64 ≤ 1114111))
    · have e : Lib.decodeN n b0 b1 b2 b3 = (b0 % 16 * 4096 + b1 % 64 * 64 + b2 % 64, 3) := by rw [Lib.decodeN, if_neg a1, if_neg a2, if_pos a3, if_pos a4]
      rw [e] at e1 e2 ⊢
      rw [e1 (by show 1 < 3; omega), e2 (by show 2 < 3; omega)]
      refine ⟨by show Lib.decodeN 3 _ _ _ _ = _; rw [Lib.decodeN, if_neg a1, if_neg (by omega), if_pos (by omega), if_pos a4], ?_⟩
      rw [leadN, if_neg (by omega), if_pos (by omega)]
      show 3 = _; omega
    · exact absurd (by rw [Lib.decodeN, if_neg a1, if_neg a2, if_pos a3, if_neg a4]) hg
  by_cases a4 : b0 / 8 = 30 ∧ (1 < n ∧ b1 / 64 = 2) ∧ (2 < n ∧ b2 / 64 = 2) ∧ (3 < n ∧ b3 / 64 = 2)
  · by_cases a5 : b0 % 8 * 262144 + b1 % 64 * 4096 + b2 % 64 * 64 + b3 % 64 ≥ 65536 ∧ (b0 % 8 * 262144 + b1 % 64 * 4096 + b2 % 64 * 64 + b3 % 64 < 55296 ∨ (57344 ≤ b0 % 8 * 262144 + b1 % 64 * 4096 + b2 % 64 * 64 + b3 % 64 ∧ b0 % 8 * 262144 + b1 % 64 * 4096 + b2 % 64 * 64 + b3 % 64 ≤ 1114111))
    · have e : Lib.decodeN n b0 b1 b2 b3 = (b0 % 8 * 262144 + b1 % 64 * 4096 + b2 % 64 * 64 + b3 % 64, 4) := by rw [Lib.decodeN, if_neg a1, if_neg a2, if_neg a3, if_pos a4, if_pos a5]
      rw [e] at e1 e2 e3 ⊢
      rw [e1 (by show 1 < 4; omega), e2 (by show 2 < 4; omega), e3 (by show 3 < 4; omega)]
      refine ⟨by show Lib.decodeN 4 _ _ _ _ = _; rw [Lib.decodeN, if_neg a1, if_neg (by omega), if_neg (by omega), if_pos (by omega), if_pos a5], ?_⟩
      rw [leadN, if_pos (by omega)]
      show 4 = _; omega
    · exact absurd (by rw [Lib.decodeN, if_neg a1, if_neg a2, if_neg a3, if_pos a4, if_neg a5]) hg
  · exact absurd (by rw [Lib.decodeN, if_neg a1, if_neg a2, if_neg a3, if_neg a4]) hg
theorem good_char {l : List UInt8} (h : l ≠ []) (hg : good l = true) : stepN l = (decL l).2 ∧ good (l.take (stepN l)) = true ∧ runes (l.take (stepN l)) = [(decL l).1] := by
  obtain ⟨h1, h2⟩ := good_parts h hg
  have hw := decL_width l h
  have hl := List.length_pos_iff.2 h
  have hg0 : (decL l).1 ≠ 0 := by
    rw [good_cons h] at hg
    simp only [Bool.and_eq_true, Bool.not_eq_true', beq_eq_false_iff_ne] at hg
    exact hg.1.1
  have gk : ∀ k, k < (decL l).2 → ((l.take (decL l).2).getD k 0).toNat = (l.getD k 0).toNat := fun k hk => by
    simp only [List.getD_eq_getElem?_getD, List.getElem?_take_of_lt hk]
  have key := decodeN_one (n := l.length) (b0 := (l.getD 0 0).toNat) (b1 := (l.getD 1 0).toNat) (b2 := (l.getD 2 0).toNat) (b3 := (l.getD 3 0).toNat) (c1 := ((l.take (decL l).2).getD 1 0).toNat) (c2 := ((l.take (decL l).2).getD 2 0).toNat) (c3 := ((l.take (decL l).2).getD 3 0).toNat)
    (UInt8.toNat_lt _) hl (fun e => h1 (by unfold decL; rw [e]; exact ⟨rfl, rfl⟩)) (fun k => gk 1 k) (fun k => gk 2 k) (fun k => gk 3 k)
  have hs : stepN l = (decL l).2 := key.2.symm
  have hlen : (l.take (decL l).2).length = (decL l).2 := by simp; omega
  have hd : decL (l.take (decL l).2) = decL l := by
    show Lib.decodeN (l.take (decL l).2).length ((l.take (decL l).2).getD 0 0).toNat ((l.take (decL l).2).getD 1 0).toNat ((l.take (decL l).2).getD 2 0).toNat ((l.take (decL l).2).getD 3 0).toNat = _
    rw [hlen, gk 0 (by omega)]
    exact key.1
  have hne : l.take (decL l).2 ≠ [] := fun e => by rw [e] at hlen; simp at hlen; omega
  have hdr : (l.take (decL l).2).drop (decL l).2 = [] := List.drop_of_length_le (by omega)
  rw [hs]
  refine ⟨rfl, ?_, ?_⟩
  · rw [good_cons hne, hd, hdr, good_nil]
    have e1 : ((decL l).1 == 0) = false := by simpa using hg0
    have e2 : ((decL l).1 == 65533 && (decL l).2 == 1) = false := by
      by_cases hx : (decL l).1 = 65533
      · have : ¬ (decL l).2 = 1 := fun e => h1 ⟨hx, e⟩
        simp [this]
      · simp [hx]
    rw [e1, e2]; rfl
  · rw [runes_cons hne, hd, hdr, runes_nil]

def plainOf (cs : List (List UInt8)) : List UInt8 := cs.flatMap fun c => 92 :: c
theorem plainOf_snoc (cs : List (List UInt8)) (c : List UInt8) : plainOf (cs ++ [c]) = plainOf cs ++ [92] ++ c := by simp [plainOf]
theorem plainOf_len : ∀ (cs : List (List UInt8)), cs.length ≤ (plainOf cs).length
  | [] => by simp [plainOf]
  | c :: cs => by have := plainOf_len cs; simp only [plainOf, List.flatMap_cons, List.length_append, List.length_cons] at this ⊢; omega
theorem good92 : good [92] = true := by decide +kernel
theorem runes92 : runes [92] = [92] := by decide +kernel
theorem good63 : good [63] = true := by decide +kernel
theorem runes63 : runes [63] = [63] := by decide +kernel
theorem chr_law (l : List UInt8) (hg : good l = true) : (chr l).length = (runes l).length ∧ good (plainOf (chr l)) = true ∧ runes (plainOf (chr l)) = (runes l).flatMap fun r => [92, r] := by
  generalize hn : l.length = n
  induction n using Nat.strongRecOn generalizing l with
  | _ n ih =>
    by_cases e : l = []
    · subst e; exact ⟨rfl, rfl, rfl⟩
    · obtain ⟨h1, h2, h3⟩ := good_char e hg
      obtain ⟨_, h4⟩ := good_parts e hg
      have hw := decL_width l e
      rw [← h1] at h4
      obtain ⟨k1, k2, k3⟩ := ih (l.drop (stepN l)).length (by simp; omega) (l.drop (stepN l)) h4 rfl
      have ep : plainOf (chr l) = [92] ++ (l.take (stepN l) ++ plainOf (chr (l.drop (stepN l)))) := by rw [chr_cons e]; simp [plainOf]
      refine ⟨?_, ?_, ?_⟩
      · rw [chr_cons e, runes_cons e, List.length_cons, List.length_cons, k1, h1]
      · rw [ep, good_append _ good92, good_append _ h2, k2]
      · rw [ep, runes_append _ good92, runes92, runes_append _ h2, h3, k3, runes_cons e, h1]; simp
theorem any_law (n : Nat) : good (List.replicate n 63) = true ∧ runes (List.replicate n 63) = List.replicate n 63 := by
  induction n with
  | zero => exact ⟨rfl, rfl⟩
  | succ n ih =>
    have e : List.replicate (n + 1) (63 : UInt8) = [63] ++ List.replicate n 63 := rfl
    rw [e, good_append _ good63, runes_append _ good63, runes63, ih.1, ih.2]
    exact ⟨rfl, rfl⟩
theorem pcs2_lits : ∀ (rs : List Nat) (acc : List Pc), pcs2 acc (rs.flatMap fun r => [92, r]) = some (acc ++ rs.map litP)
  | [], acc => by simp [pcs2_nil]
  | r :: rs, acc => by
    rw [List.flatMap_cons, List.cons_append, List.cons_append, List.nil_append, pcs2_esc rfl, pcs2_lits rs]
    simp
theorem pcs2_anys : ∀ (n : Nat) (acc : List Pc), pcs2 acc (List.replicate n 63) = some (acc ++ List.replicate n anyP)
  | 0, acc => by simp [pcs2_nil]
  | n + 1, acc => by
    rw [List.replicate_succ, pcs2_any rfl, pcs2_anys n, List.replicate_succ]
    simp
theorem mat_plain {name : List UInt8} (other : List UInt8) (hg : good name = true) (hl : (plainOf (chr name)).length ≤ 255) : matF (plainOf (chr name)) other = some (decide (name = other)) := by
  obtain ⟨_, h2, h3⟩ := chr_law name hg
  have hp : piecesF (plainOf (chr name)) = some ((runes name).map litP) := by
    unfold piecesF
    rw [if_neg (by rw [h2]; simp; omega), h3, pcs2_lits]; rfl
  rw [matF, hp, Option.map_some, match_lits]
  congr 1
  cases ho : good other
  · have : name ≠ other := fun e => by rw [e, ho] at hg; cases hg
    simp [this]
  · rw [Bool.true_and]
    by_cases e : name = other
    · subst e; simp
    · have : ¬ runes other = runes name := fun k => e (runes_inj hg ho k.symm)
      simp [e, this]
theorem mat_any (n : Nat) (other : List UInt8) (hl : n ≤ 255) : matF (List.replicate n 63) other = some (good other && decide ((runes other).length = n)) := by
  obtain ⟨h2, h3⟩ := any_law n
  have hp : piecesF (List.replicate n 63) = some (List.replicate n anyP) := by
    unfold piecesF
    rw [if_neg (by rw [h2]; simp; omega), h3]
    have := pcs2_anys n []
    simpa using this
  rw [matF, hp, Option.map_some, match_anys]
end Go.Proofs.YtlnlomjdooobdaaDoor
