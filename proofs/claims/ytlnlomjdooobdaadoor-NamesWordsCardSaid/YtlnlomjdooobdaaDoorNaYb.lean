/- Quote. -/
import Derived.Test.YtlnlomjdooobdaaDoorNaYa
namespace Go.Proofs.YtlnlomjdooobdaaDoor
open Go
open Go.RowKit (Below)
set_option linter.unusedVariables false
set_option linter.unusedSimpArgs false
set_option maxRecDepth 100000

def escB (c : UInt8) : List UInt8 :=
  if c.toNat = 92 ∨ c.toNat = 39 then [92, c] else if c.toNat < 32 ∨ 126 < c.toNat then [92, 120, sixteen.getD (c.toNat / 16) 0, sixteen.getD (c.toNat % 16) 0] else [c]
theorem escB_len (c : UInt8) : (escB c).length ≤ 4 := by
  unfold escB
  split
  · simp
  · split <;> simp
theorem escBs_len : ∀ (l : List UInt8), (l.flatMap escB).length ≤ 4 * l.length
  | [] => by simp
  | c :: l => by
    have := escBs_len l
    have := escB_len c
    simp only [List.flatMap_cons, List.length_append, List.length_cons]
    omega
def quoteF (l : List UInt8) : List UInt8 := if (decide (l ≠ []) && l.all plainB) = true then l else [39] ++ l.flatMap escB ++ [39]
theorem and15 (c : UInt8) : IntKind.u8.wrap ((BitVec.ofInt IntKind.u8.bits (c.toNat : Int) &&& BitVec.ofInt IntKind.u8.bits 15).toNat : Int) = ((c.toNat % 16 : Nat) : Int) := by
  have : ∀ n : Fin 256, IntKind.u8.wrap ((BitVec.ofInt IntKind.u8.bits ((n.val : Nat) : Int) &&& BitVec.ofInt IntKind.u8.bits 15).toNat : Int) = ((n.val % 16 : Nat) : Int) := by decide +kernel
  exact this ⟨c.toNat, c.toNat_lt⟩
theorem wb_libI {W w : World} {P : Nat} {l : List UInt8} (h : Qb W w P l) (hl : l.length + 1 ≤ 140737488355328) (c : UInt8) {x : Int} (hx : x = c.toNat) :
    Calls Tryd.prog 37 #[.pointer (some ⟨P, 0, none⟩), .int .u8 x] w fun e w' => Qb W w' P (l ++ [c]) ∧ e = .returned .nilIface := by
  subst hx; exact wb_lib h hl c
section
attribute [local go_sem] F22.t6_eq F22.t7_eq F22.t19_eq F22.t17_eq
theorem quote_raw (W : World) (l : List UInt8) (hl : l.length ≤ 268435456) :
    Calls Tryd.prog 22 #[.string (strOf l)] W fun e w' => Below W.heap.size W w' ∧ e = .returned (.string (strOf (quoteF l))) := by
  refine F22.calls (by simp) ?_
  unfold F22.code
  simp -dsimp -implicitDefEqProofs (disch := omega) only [go_sem, reqD_of, dec_t, dec_f, wrap_i64, wrap_u32, wrap_u64, wrap_u8]
  refine (St.start W).new fun P w1 h1 => ?_
  have q1 := qb_new h1
  simp -dsimp -implicitDefEqProofs (disch := omega) only [go_sem, reqD_of, dec_t, dec_f, wrap_i64, wrap_u32, wrap_u64, wrap_u8]
  refine (wb_lib q1 (by simp) 39).mono ?_
  rintro e w2 ⟨q2, rfl⟩
  simp -dsimp -implicitDefEqProofs (disch := omega) only [go_sem, reqD_of, dec_t, dec_f, wrap_i64, wrap_u32, wrap_u64, wrap_u8]
  refine loop_intro (fun e w' => e.ds = [] ∧ e.ρ 0 = .string (strOf l) ∧ e.ρ 4 = .pointer (some ⟨P, 0, none⟩) ∧
      ∃ i : Nat, i ≤ l.length ∧ e.ρ 5 = .int .i64 i ∧ e.ρ 3 = .bool (decide (l ≠ []) && (l.take i).all plainB) ∧ Qb W w' P ([39] ++ (l.take i).flatMap escB))
    (fun e _ => match e.ρ 5 with | .int _ n => (l.length - n).toNat | _ => 0) ?_ ?_
  · refine ⟨by simp -dsimp -implicitDefEqProofs only [go_sem], by simp -dsimp -implicitDefEqProofs only [go_sem], by simp -dsimp -implicitDefEqProofs only [go_sem], 0, by omega, by simp -dsimp -implicitDefEqProofs only [go_sem], ?_, by simpa using q2⟩
    simp -dsimp -implicitDefEqProofs only [go_sem]
    simp
  rintro e w3 ⟨hd, e0, e4, i, hi, e5, e3, q3⟩
  have hfl := escBs_len (l.take i)
  have htl : (l.take i).length = i := by simp; omega
  rw [htl] at hfl
  have hbl : ([39] ++ (l.take i).flatMap escB).length ≤ 4 * i + 1 := by simp only [List.length_append, List.length_cons, List.length_nil]; omega
  by_cases hlt : (i : Int) < l.length
  case neg =>
    rw [List.take_of_length_le (by omega)] at e3 q3
    cases hp : (decide (l ≠ []) && l.all plainB)
    · rw [hp] at e3
      have hq : quoteF l = [39] ++ l.flatMap escB ++ [39] := by rw [quoteF, hp]; rfl
      rw [hq]
      simp -dsimp -implicitDefEqProofs (disch := omega) only [go_sem, reqD_of, dec_t, dec_f, wrap_i64, wrap_u32, wrap_u64, wrap_u8, hd, e0, e3, e4, e5, hlt]
      refine (wb_lib q3 (by rw [List.take_of_length_le (by omega)] at hbl; omega) 39).mono ?_
      rintro e' w4 ⟨q4, rfl⟩
      simp -dsimp -implicitDefEqProofs (disch := omega) only [go_sem, reqD_of, dec_t, dec_f, wrap_i64, wrap_u32, wrap_u64, wrap_u8, hd, e0, e3, e4, e5]
      refine (str_lib q4).mono ?_
      rintro e' w5 ⟨b5, rfl⟩
      simp -dsimp -implicitDefEqProofs (disch := omega) only [go_sem, reqD_of, dec_t, dec_f, wrap_i64, wrap_u32, wrap_u64, wrap_u8, hd]
      exact b5
    · rw [hp] at e3
      have hq : quoteF l = l := by rw [quoteF, hp]; rfl
      rw [hq]
      simp -dsimp -implicitDefEqProofs (disch := omega) only [go_sem, reqD_of, dec_t, dec_f, wrap_i64, wrap_u32, wrap_u64, wrap_u8, hd, e0, e3, e4, e5, hlt]
      exact q3.bel
  have hil : i < l.length := by omega
  obtain ⟨c, hc⟩ : ∃ c, c = l.getD i 0 := ⟨_, rfl⟩
  have htake : l.take (i + 1) = l.take i ++ [c] := by
    rw [List.take_add_one, List.getElem?_eq_getElem hil, hc, List.getD_eq_getElem?_getD, List.getElem?_eq_getElem hil]; rfl
  have hbare : (decide (l ≠ []) && (l.take (i + 1)).all plainB) = ((decide (l ≠ []) && (l.take i).all plainB) && plainB c) := by
    rw [htake, List.all_append, Bool.and_assoc]; simp
  have hbody : [39] ++ (l.take (i + 1)).flatMap escB = ([39] ++ (l.take i).flatMap escB) ++ escB c := by rw [htake]; simp
  obtain ⟨n, hn⟩ : ∃ n, n = c.toNat := ⟨_, rfl⟩
  have h15 := and15 c
  rw [← hn] at h15
  have h16 : ((n : Nat) : Int).fdiv 16 = ((n / 16 : Nat) : Int) := by rw [Int.fdiv_eq_ediv_of_nonneg _ (by decide)]; rfl
  have hn256 : n < 256 := hn ▸ c.toNat_lt
  have d0 : (0 : Int) ≤ ((n / 16 : Nat) : Int) := by omega
  have d1 : ((n / 16 : Nat) : Int) < (([48, 49, 50, 51, 52, 53, 54, 55, 56, 57, 97, 98, 99, 100, 101, 102] : List UInt8).length : Nat) := by show _ < ((16 : Nat) : Int); omega
  have f0 : (0 : Int) ≤ ((n % 16 : Nat) : Int) := by omega
  have f1 : ((n % 16 : Nat) : Int) < (([48, 49, 50, 51, 52, 53, 54, 55, 56, 57, 97, 98, 99, 100, 101, 102] : List UInt8).length : Nat) := by show _ < ((16 : Nat) : Int); omega
  have hcls : (n = 92) ∨ (n = 39) ∨ (n ≠ 92 ∧ n ≠ 39 ∧ n < 32) ∨ (n ≠ 92 ∧ n ≠ 39 ∧ ¬ n < 32 ∧ 126 < n) ∨ (n ≠ 92 ∧ n ≠ 39 ∧ ¬ n < 32 ∧ ¬ 126 < n) := by omega
  rcases hcls with hk | hk | hk | hk | hk
  · have he : escB c = [92, c] := by unfold escB; rw [← hn, if_pos (by omega)]
    have z1 : (n : Int) = 92 := by omega
    rw [he] at hbody
    cases hb : (decide (l ≠ []) && (l.take i).all plainB)
    · rw [hb] at e3 hbare
      rw [Bool.false_and] at hbare
      simp -dsimp -implicitDefEqProofs (disch := omega) only [go_sem, reqD_of, dec_t, dec_f, wrap_i64, wrap_u32, wrap_u64, wrap_u8, hd, e0, e3, e4, e5, hlt, ← hc, ← hn, z1]
      refine (wb_lib q3 (by omega) 92).mono ?_
      rintro e' w4 ⟨q4, rfl⟩
      simp -dsimp -implicitDefEqProofs (disch := omega) only [go_sem, reqD_of, dec_t, dec_f, wrap_i64, wrap_u32, wrap_u64, wrap_u8, hd, e0, e3, e4, e5]
      refine (wb_libI q4 (by simp only [List.length_append, List.length_cons, List.length_nil] at hbl ⊢; omega) c (by omega)).mono ?_
      rintro e' w5 ⟨q5, rfl⟩
      simp -dsimp -implicitDefEqProofs (disch := omega) only [go_sem, reqD_of, dec_t, dec_f, wrap_i64, wrap_u32, wrap_u64, wrap_u8, hd, e0, e3, e4, e5]
      have q6 : Qb W w5 P ([39] ++ (l.take (i + 1)).flatMap escB) := by rw [hbody]; simpa using q5
      exact ⟨⟨i + 1, by omega, by omega, hbare.symm, q6⟩, by omega⟩
    · rw [hb] at e3 hbare
      rw [Bool.true_and] at hbare
      simp -dsimp -implicitDefEqProofs (disch := omega) only [go_sem, reqD_of, dec_t, dec_f, wrap_i64, wrap_u32, wrap_u64, wrap_u8, hd, e0, e3, e4, e5, hlt, ← hc]
      refine (plain_any c w3).mono ?_
      rintro e' w3' ⟨rfl, rfl⟩
      simp -dsimp -implicitDefEqProofs (disch := omega) only [go_sem, reqD_of, dec_t, dec_f, wrap_i64, wrap_u32, wrap_u64, wrap_u8, hd, e0, e3, e4, e5, ← hn, z1]
      refine (wb_lib q3 (by omega) 92).mono ?_
      rintro e' w4 ⟨q4, rfl⟩
      simp -dsimp -implicitDefEqProofs (disch := omega) only [go_sem, reqD_of, dec_t, dec_f, wrap_i64, wrap_u32, wrap_u64, wrap_u8, hd, e0, e3, e4, e5]
      refine (wb_libI q4 (by simp only [List.length_append, List.length_cons, List.length_nil] at hbl ⊢; omega) c (by omega)).mono ?_
      rintro e' w5 ⟨q5, rfl⟩
      simp -dsimp -implicitDefEqProofs (disch := omega) only [go_sem, reqD_of, dec_t, dec_f, wrap_i64, wrap_u32, wrap_u64, wrap_u8, hd, e0, e3, e4, e5]
      have q6 : Qb W w5 P ([39] ++ (l.take (i + 1)).flatMap escB) := by rw [hbody]; simpa using q5
      exact ⟨⟨i + 1, by omega, by omega, hbare.symm, q6⟩, by omega⟩
  · have he : escB c = [92, c] := by unfold escB; rw [← hn, if_pos (by omega)]
    have z1 : ¬ (n : Int) = 92 := by omega
    have z2 : (n : Int) = 39 := by omega
    rw [he] at hbody
    cases hb : (decide (l ≠ []) && (l.take i).all plainB)
    · rw [hb] at e3 hbare
      rw [Bool.false_and] at hbare
      simp -dsimp -implicitDefEqProofs (disch := omega) only [go_sem, reqD_of, dec_t, dec_f, wrap_i64, wrap_u32, wrap_u64, wrap_u8, hd, e0, e3, e4, e5, hlt, ← hc, ← hn, z1, z2]
      refine (wb_lib q3 (by omega) 92).mono ?_
      rintro e' w4 ⟨q4, rfl⟩
      simp -dsimp -implicitDefEqProofs (disch := omega) only [go_sem, reqD_of, dec_t, dec_f, wrap_i64, wrap_u32, wrap_u64, wrap_u8, hd, e0, e3, e4, e5]
      refine (wb_libI q4 (by simp only [List.length_append, List.length_cons, List.length_nil] at hbl ⊢; omega) c (by omega)).mono ?_
      rintro e' w5 ⟨q5, rfl⟩
      simp -dsimp -implicitDefEqProofs (disch := omega) only [go_sem, reqD_of, dec_t, dec_f, wrap_i64, wrap_u32, wrap_u64, wrap_u8, hd, e0, e3, e4, e5]
      have q6 : Qb W w5 P ([39] ++ (l.take (i + 1)).flatMap escB) := by rw [hbody]; simpa using q5
      exact ⟨⟨i + 1, by omega, by omega, hbare.symm, q6⟩, by omega⟩
    · rw [hb] at e3 hbare
      rw [Bool.true_and] at hbare
      simp -dsimp -implicitDefEqProofs (disch := omega) only [go_sem, reqD_of, dec_t, dec_f, wrap_i64, wrap_u32, wrap_u64, wrap_u8, hd, e0, e3, e4, e5, hlt, ← hc]
      refine (plain_any c w3).mono ?_
      rintro e' w3' ⟨rfl, rfl⟩
      simp -dsimp -implicitDefEqProofs (disch := omega) only [go_sem, reqD_of, dec_t, dec_f, wrap_i64, wrap_u32, wrap_u64, wrap_u8, hd, e0, e3, e4, e5, ← hn, z1, z2]
      refine (wb_lib q3 (by omega) 92).mono ?_
      rintro e' w4 ⟨q4, rfl⟩
      simp -dsimp -implicitDefEqProofs (disch := omega) only [go_sem, reqD_of, dec_t, dec_f, wrap_i64, wrap_u32, wrap_u64, wrap_u8, hd, e0, e3, e4, e5]
      refine (wb_libI q4 (by simp only [List.length_append, List.length_cons, List.length_nil] at hbl ⊢; omega) c (by omega)).mono ?_
      rintro e' w5 ⟨q5, rfl⟩
      simp -dsimp -implicitDefEqProofs (disch := omega) only [go_sem, reqD_of, dec_t, dec_f, wrap_i64, wrap_u32, wrap_u64, wrap_u8, hd, e0, e3, e4, e5]
      have q6 : Qb W w5 P ([39] ++ (l.take (i + 1)).flatMap escB) := by rw [hbody]; simpa using q5
      exact ⟨⟨i + 1, by omega, by omega, hbare.symm, q6⟩, by omega⟩
  · have he : escB c = [92, 120, sixteen.getD (n / 16) 0, sixteen.getD (n % 16) 0] := by unfold escB; rw [← hn, if_neg (by omega), if_pos (by omega)]
    have z1 : ¬ (n : Int) = 92 := by omega
    have z2 : ¬ (n : Int) = 39 := by omega
    have z3 : (n : Int) < 32 := by omega
    rw [he] at hbody
    cases hb : (decide (l ≠ []) && (l.take i).all plainB)
    · rw [hb] at e3 hbare
      rw [Bool.false_and] at hbare
      simp -dsimp -implicitDefEqProofs (disch := omega) only [go_sem, reqD_of, dec_t, dec_f, wrap_i64, wrap_u32, wrap_u64, wrap_u8, hd, e0, e3, e4, e5, hlt, ← hc, ← hn, z1, z2, z3]
      refine (ws_lib q3 [92, 120] (by simp only [List.length_cons, List.length_nil]; omega)).mono ?_
      rintro e' w4 ⟨q4, nn, rfl⟩
      simp -dsimp -implicitDefEqProofs (disch := omega) only [go_sem, reqD_of, dec_t, dec_f, wrap_i64, wrap_u32, wrap_u64, wrap_u8, hd, e0, e3, e4, e5, ← hn, h16, d0, d1]
      refine (wb_libI q4 (by simp only [List.length_append, List.length_cons, List.length_nil] at hbl ⊢; omega) (sixteen.getD (n / 16) 0) (by first | rfl | simp [sixteen])).mono ?_
      rintro e' w5 ⟨q5, rfl⟩
      simp -dsimp -implicitDefEqProofs (disch := omega) only [go_sem, reqD_of, dec_t, dec_f, wrap_i64, wrap_u32, wrap_u64, wrap_u8, hd, e0, e3, e4, e5, ← hn, h15, f0, f1]
      refine (wb_libI q5 (by simp only [List.length_append, List.length_cons, List.length_nil] at hbl ⊢; omega) (sixteen.getD (n % 16) 0) (by first | rfl | simp [sixteen])).mono ?_
      rintro e' w6 ⟨q6, rfl⟩
      simp -dsimp -implicitDefEqProofs (disch := omega) only [go_sem, reqD_of, dec_t, dec_f, wrap_i64, wrap_u32, wrap_u64, wrap_u8, hd, e0, e3, e4, e5]
      have q7 : Qb W w6 P ([39] ++ (l.take (i + 1)).flatMap escB) := by rw [hbody]; simpa using q6
      exact ⟨⟨i + 1, by omega, by omega, hbare.symm, q7⟩, by omega⟩
    · rw [hb] at e3 hbare
      rw [Bool.true_and] at hbare
      simp -dsimp -implicitDefEqProofs (disch := omega) only [go_sem, reqD_of, dec_t, dec_f, wrap_i64, wrap_u32, wrap_u64, wrap_u8, hd, e0, e3, e4, e5, hlt, ← hc]
      refine (plain_any c w3).mono ?_
      rintro e' w3' ⟨rfl, rfl⟩
      simp -dsimp -implicitDefEqProofs (disch := omega) only [go_sem, reqD_of, dec_t, dec_f, wrap_i64, wrap_u32, wrap_u64, wrap_u8, hd, e0, e3, e4, e5, ← hn, z1, z2, z3]
      refine (ws_lib q3 [92, 120] (by simp only [List.length_cons, List.length_nil]; omega)).mono ?_
      rintro e' w4 ⟨q4, nn, rfl⟩
      simp -dsimp -implicitDefEqProofs (disch := omega) only [go_sem, reqD_of, dec_t, dec_f, wrap_i64, wrap_u32, wrap_u64, wrap_u8, hd, e0, e3, e4, e5, ← hn, h16, d0, d1]
      refine (wb_libI q4 (by simp only [List.length_append, List.length_cons, List.length_nil] at hbl ⊢; omega) (sixteen.getD (n / 16) 0) (by first | rfl | simp [sixteen])).mono ?_
      rintro e' w5 ⟨q5, rfl⟩
      simp -dsimp -implicitDefEqProofs (disch := omega) only [go_sem, reqD_of, dec_t, dec_f, wrap_i64, wrap_u32, wrap_u64, wrap_u8, hd, e0, e3, e4, e5, ← hn, h15, f0, f1]
      refine (wb_libI q5 (by simp only [List.length_append, List.length_cons, List.length_nil] at hbl ⊢; omega) (sixteen.getD (n % 16) 0) (by first | rfl | simp [sixteen])).mono ?_
      rintro e' w6 ⟨q6, rfl⟩
      simp -dsimp -implicitDefEqProofs (disch := omega) only [go_sem, reqD_of, dec_t, dec_f, wrap_i64, wrap_u32, wrap_u64, wrap_u8, hd, e0, e3, e4, e5]
      have q7 : Qb W w6 P ([39] ++ (l.take (i + 1)).flatMap escB) := by rw [hbody]; simpa using q6
      exact ⟨⟨i + 1, by omega, by omega, hbare.symm, q7⟩, by omega⟩
  · have he : escB c = [92, 120, sixteen.getD (n / 16) 0, sixteen.getD (n % 16) 0] := by unfold escB; rw [← hn, if_neg (by omega), if_pos (by omega)]
    have z1 : ¬ (n : Int) = 92 := by omega
    have z2 : ¬ (n : Int) = 39 := by omega
    have z3 : ¬ (n : Int) < 32 := by omega
    have z4 : (126 : Int) < n := by omega
    rw [he] at hbody
    cases hb : (decide (l ≠ []) && (l.take i).all plainB)
    · rw [hb] at e3 hbare
      rw [Bool.false_and] at hbare
      simp -dsimp -implicitDefEqProofs (disch := omega) only [go_sem, reqD_of, dec_t, dec_f, wrap_i64, wrap_u32, wrap_u64, wrap_u8, hd, e0, e3, e4, e5, hlt, ← hc, ← hn, z1, z2, z3, z4]
      refine (ws_lib q3 [92, 120] (by simp only [List.length_cons, List.length_nil]; omega)).mono ?_
      rintro e' w4 ⟨q4, nn, rfl⟩
      simp -dsimp -implicitDefEqProofs (disch := omega) only [go_sem, reqD_of, dec_t, dec_f, wrap_i64, wrap_u32, wrap_u64, wrap_u8, hd, e0, e3, e4, e5, ← hn, h16, d0, d1]
      refine (wb_libI q4 (by simp only [List.length_append, List.length_cons, List.length_nil] at hbl ⊢; omega) (sixteen.getD (n / 16) 0) (by first | rfl | simp [sixteen])).mono ?_
      rintro e' w5 ⟨q5, rfl⟩
      simp -dsimp -implicitDefEqProofs (disch := omega) only [go_sem, reqD_of, dec_t, dec_f, wrap_i64, wrap_u32, wrap_u64, wrap_u8, hd, e0, e3, e4, e5, ← hn, h15, f0, f1]
      refine (wb_libI q5 (by simp only [List.length_append, List.length_cons, List.length_nil] at hbl ⊢; omega) (sixteen.getD (n % 16) 0) (by first | rfl | simp [sixteen])).mono ?_
      rintro e' w6 ⟨q6, rfl⟩
      simp -dsimp -implicitDefEqProofs (disch := omega) only [go_sem, reqD_of, dec_t, dec_f, wrap_i64, wrap_u32, wrap_u64, wrap_u8, hd, e0, e3, e4, e5]
      have q7 : Qb W w6 P ([39] ++ (l.take (i + 1)).flatMap escB) := by rw [hbody]; simpa using q6
      exact ⟨⟨i + 1, by omega, by omega, hbare.symm, q7⟩, by omega⟩
    · rw [hb] at e3 hbare
      rw [Bool.true_and] at hbare
      simp -dsimp -implicitDefEqProofs (disch := omega) only [go_sem, reqD_of, dec_t, dec_f, wrap_i64, wrap_u32, wrap_u64, wrap_u8, hd, e0, e3, e4, e5, hlt, ← hc]
      refine (plain_any c w3).mono ?_
      rintro e' w3' ⟨rfl, rfl⟩
      simp -dsimp -implicitDefEqProofs (disch := omega) only [go_sem, reqD_of, dec_t, dec_f, wrap_i64, wrap_u32, wrap_u64, wrap_u8, hd, e0, e3, e4, e5, ← hn, z1, z2, z3, z4]
      refine (ws_lib q3 [92, 120] (by simp only [List.length_cons, List.length_nil]; omega)).mono ?_
      rintro e' w4 ⟨q4, nn, rfl⟩
      simp -dsimp -implicitDefEqProofs (disch := omega) only [go_sem, reqD_of, dec_t, dec_f, wrap_i64, wrap_u32, wrap_u64, wrap_u8, hd, e0, e3, e4, e5, ← hn, h16, d0, d1]
      refine (wb_libI q4 (by simp only [List.length_append, List.length_cons, List.length_nil] at hbl ⊢; omega) (sixteen.getD (n / 16) 0) (by first | rfl | simp [sixteen])).mono ?_
      rintro e' w5 ⟨q5, rfl⟩
      simp -dsimp -implicitDefEqProofs (disch := omega) only [go_sem, reqD_of, dec_t, dec_f, wrap_i64, wrap_u32, wrap_u64, wrap_u8, hd, e0, e3, e4, e5, ← hn, h15, f0, f1]
      refine (wb_libI q5 (by simp only [List.length_append, List.length_cons, List.length_nil] at hbl ⊢; omega) (sixteen.getD (n % 16) 0) (by first | rfl | simp [sixteen])).mono ?_
      rintro e' w6 ⟨q6, rfl⟩
      simp -dsimp -implicitDefEqProofs (disch := omega) only [go_sem, reqD_of, dec_t, dec_f, wrap_i64, wrap_u32, wrap_u64, wrap_u8, hd, e0, e3, e4, e5]
      have q7 : Qb W w6 P ([39] ++ (l.take (i + 1)).flatMap escB) := by rw [hbody]; simpa using q6
      exact ⟨⟨i + 1, by omega, by omega, hbare.symm, q7⟩, by omega⟩
  · have he : escB c = [c] := by unfold escB; rw [← hn, if_neg (by omega), if_neg (by omega)]
    have z1 : ¬ (n : Int) = 92 := by omega
    have z2 : ¬ (n : Int) = 39 := by omega
    have z3 : ¬ (n : Int) < 32 := by omega
    have z4 : ¬ (126 : Int) < n := by omega
    rw [he] at hbody
    cases hb : (decide (l ≠ []) && (l.take i).all plainB)
    · rw [hb] at e3 hbare
      rw [Bool.false_and] at hbare
      simp -dsimp -implicitDefEqProofs (disch := omega) only [go_sem, reqD_of, dec_t, dec_f, wrap_i64, wrap_u32, wrap_u64, wrap_u8, hd, e0, e3, e4, e5, hlt, ← hc, ← hn, z1, z2, z3, z4]
      refine (wb_libI q3 (by omega) c (by omega)).mono ?_
      rintro e' w5 ⟨q5, rfl⟩
      simp -dsimp -implicitDefEqProofs (disch := omega) only [go_sem, reqD_of, dec_t, dec_f, wrap_i64, wrap_u32, wrap_u64, wrap_u8, hd, e0, e3, e4, e5]
      have q6 : Qb W w5 P ([39] ++ (l.take (i + 1)).flatMap escB) := by rw [hbody]; exact q5
      exact ⟨⟨i + 1, by omega, by omega, hbare.symm, q6⟩, by omega⟩
    · rw [hb] at e3 hbare
      rw [Bool.true_and] at hbare
      simp -dsimp -implicitDefEqProofs (disch := omega) only [go_sem, reqD_of, dec_t, dec_f, wrap_i64, wrap_u32, wrap_u64, wrap_u8, hd, e0, e3, e4, e5, hlt, ← hc]
      refine (plain_any c w3).mono ?_
      rintro e' w3' ⟨rfl, rfl⟩
      simp -dsimp -implicitDefEqProofs (disch := omega) only [go_sem, reqD_of, dec_t, dec_f, wrap_i64, wrap_u32, wrap_u64, wrap_u8, hd, e0, e3, e4, e5, ← hn, z1, z2, z3, z4]
      refine (wb_libI q3 (by omega) c (by omega)).mono ?_
      rintro e' w5 ⟨q5, rfl⟩
      simp -dsimp -implicitDefEqProofs (disch := omega) only [go_sem, reqD_of, dec_t, dec_f, wrap_i64, wrap_u32, wrap_u64, wrap_u8, hd, e0, e3, e4, e5]
      have q6 : Qb W w5 P ([39] ++ (l.take (i + 1)).flatMap escB) := by rw [hbody]; exact q5
      exact ⟨⟨i + 1, by omega, by omega, hbare.symm, q6⟩, by omega⟩
end
end Go.Proofs.YtlnlomjdooobdaaDoor
