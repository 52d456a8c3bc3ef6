/- NamesWords: the whole. -/
import Derived.Test.YtlnlomjdooobdaaDoorNaZb
namespace Go.Proofs.YtlnlomjdooobdaaDoor
open Go
set_option linter.unusedVariables false
set_option linter.unusedSimpArgs false
set_option maxRecDepth 100000

def sumL (ls : List (List UInt8)) : Nat := (ls.map (·.length)).sum
theorem sumL_mem : ∀ {ls : List (List UInt8)} {s : List UInt8}, s ∈ ls → s.length ≤ sumL ls
  | [], s, h => by simp at h
  | x :: ls, s, h => by
    simp only [sumL, List.map_cons, List.sum_cons]
    rcases List.mem_cons.1 h with rfl | h
    · omega
    · have := sumL_mem h; simp only [sumL] at this; omega
theorem sumL_take (ls : List (List UInt8)) (i : Nat) : sumL (ls.take i) ≤ sumL ls := by
  have : sumL ls = sumL (ls.take i) + sumL (ls.drop i) := by
    conv => lhs; rw [← List.take_append_drop i ls]
    simp only [sumL, List.map_append, List.sum_append]
  omega
theorem sumL_next {ls : List (List UInt8)} {i : Nat} (hi : i < ls.length) : sumL (ls.take (i + 1)) = sumL (ls.take i) + (ls.getD i []).length := by
  rw [List.take_add_one, List.getElem?_eq_getElem hi, List.getD_eq_getElem?_getD, List.getElem?_eq_getElem hi]
  simp only [sumL, Option.toList_some, List.map_append, List.map_cons, List.map_nil, List.sum_append, List.sum_cons, List.sum_nil, Option.getD_some]
  omega

section
attribute [local go_sem] F9.t23_eq F9.t24_eq F9.t30_eq F9.t20_eq F9.t13_eq F9.t9_eq F9.t10_eq F9.t6_eq F9.t4_eq
theorem namesWords_any {w0 w : World} {A : HP} (h : St w0 A w) [Gives A Tabs] {u g0 : Value} {ls : List (List UInt8)} {zs : List Int} (hr : Ent A (Reads 1 u ls.length (ls.map sv))) (hn : ls.length ≤ 4611686018427387904) (hsl : ∀ s ∈ ls, s.length ≤ 140737488355328)
    (hg : Ent A (Reads 1 g0 zs.length (zs.map fun z => .int .i64 z))) (hz : ∀ z ∈ zs, -9223372036854775808 ≤ z ∧ z ≤ 9223372036854775807) (hzl : zs.length ≤ 4611686018427387904) :
    Calls Tryd.prog 9 #[u, g0] w fun e w' => St w0 A w' ∧ e = .returned (.bool true) := by
  obtain ⟨a, c, rfl, _⟩ := readForm h hr
  obtain ⟨ag, cg, rfl, _⟩ := readForm h hg
  haveI i0 : Gives A (Reads 1 (.slice a ls.length c) ls.length (ls.map sv)) := ⟨hr⟩
  haveI i1 : Gives A (Reads 1 (.slice ag zs.length cg) zs.length (zs.map fun z => .int .i64 z)) := ⟨hg⟩
  refine F9.calls (by simp) ?_
  unfold F9.code
  simp -dsimp -implicitDefEqProofs (disch := omega) only [go_sem, reqD_of, dec_t, dec_f, wrap_i64, wrap_u32, wrap_u64, wrap_u8]
  refine (awake_any h).mono ?_
  rintro e w1 ⟨h1, rfl⟩
  simp -dsimp -implicitDefEqProofs (disch := omega) only [go_sem, reqD_of, dec_t, dec_f, wrap_i64, wrap_u32, wrap_u64, wrap_u8]
  refine (weight_any h1 hr hn hsl).mono ?_
  rintro e w2 ⟨h2, k, rfl, hk⟩
  by_cases hb : (67108864 : Int) < k
  · simp -dsimp -implicitDefEqProofs (disch := omega) only [go_sem, reqD_of, dec_t, dec_f, wrap_i64, wrap_u32, wrap_u64, wrap_u8, hb]
    exact h2
  have hk : 2 * ls.length + sumL ls ≤ k := hk (by omega)
  have hs : ∀ s ∈ ls, s.length ≤ 67108864 := fun s hs => by have := sumL_mem hs; omega
  have hn' : ls.length ≤ 67108864 := by omega
  simp -dsimp -implicitDefEqProofs (disch := omega) only [go_sem, reqD_of, dec_t, dec_f, wrap_i64, wrap_u32, wrap_u64, wrap_u8, hb]
  refine loop_intro (fun e w' => e.ds = [] ∧ e.ρ 0 = .slice a ls.length c ∧ e.ρ 1 = .slice ag zs.length cg ∧
      ∃ (i : Nat) (line : List UInt8), i ≤ ls.length ∧ e.ρ 7 = .int .i64 i ∧ e.ρ 6 = .string (strOf line) ∧ LineI ls i line ∧ line.length ≤ 4 * sumL (ls.take i) + 5 * i ∧ St w0 A w')
    (fun e _ => match e.ρ 7 with | .int _ n => (ls.length + 1 - n).toNat | _ => 0) ?_ ?_
  · exact ⟨by simp -dsimp -implicitDefEqProofs only [go_sem], by simp -dsimp -implicitDefEqProofs only [go_sem], by simp -dsimp -implicitDefEqProofs only [go_sem], 0, [], by omega, by simp -dsimp -implicitDefEqProofs only [go_sem], by simp -dsimp -implicitDefEqProofs only [go_sem], LineI.zero ls, by simp, h2⟩
  clear h h1 h2
  rintro e w3 ⟨hd, e0, e1, i, line, hi, e7, e6, hL, hll, h3⟩
  have hsum := sumL_take ls i
  have hle : (i : Int) ≤ ls.length := by omega
  have go : ∀ (n : Nat) {e' : FA} (Q : Post) {θ : Tag (F9.t15, Q, e', w3)}, e'.ds = [] → e'.ρ 0 = .slice a ls.length c → e'.ρ 1 = .slice ag zs.length cg → e'.ρ 6 = .string (strOf line) → e'.ρ 7 = .int .i64 i → e'.ρ 8 = .int .i64 n →
      (∀ (e2 : FA) (w' : World) (line' : List UInt8), St w0 A w' → e2.ds = [] → e2.ρ 0 = .slice a ls.length c → e2.ρ 6 = .string (strOf line') → wordsF line' = some ls → line'.length ≤ 1073741824 → Q (.exit 0) e2 w') →
      (i < ls.length → ∀ (e2 : FA) (w' : World) (line' : List UInt8), St w0 A w' → e2.ds = [] → e2.ρ 0 = .slice a ls.length c → e2.ρ 1 = .slice ag zs.length cg → e2.ρ 7 = .int .i64 i → e2.ρ 6 = .string (strOf line') → LineI ls (i + 1) line' →
        line'.length ≤ 4 * sumL (ls.take (i + 1)) + 5 * (i + 1) → Q .normal e2 w') →
      cwE Tryd.prog F9.t15 Q e' w3 θ := by
    intro n e' Q θ d' k0 k1 k6 k7 k8 hX hQ
    refine words_t15 (ls := ls) (line := line) (a := a) (c := c) (i := i) (n := n) d' k0 k1 k6 k7 k8 hi (by omega) hs hn' hL i0 h3 ?_ ?_
    · intro hil e2 w' line' h' d2 k02 k62 hw hl'
      exact hX e2 w' line' h' d2 k02 k62 hw (by omega)
    · intro hil e2 w' line' h' d2 k02 k12 k72 k62 hL' hl'
      refine hQ hil e2 w' line' h' d2 k02 k12 k72 k62 hL' ?_
      rw [sumL_next hil]; omega
  by_cases hz0 : (0 : Int) < zs.length
  case neg =>
    simp -dsimp -implicitDefEqProofs (disch := omega) only [go_sem, reqD_of, dec_t, dec_f, wrap_i64, wrap_u32, wrap_u64, wrap_u8, hd, e0, e1, e6, e7, hle, hz0]
    refine go 0 _ (by simp -dsimp -implicitDefEqProofs only [go_sem, hd]) (by simp -dsimp -implicitDefEqProofs only [go_sem, e0]) (by simp -dsimp -implicitDefEqProofs only [go_sem, e1]) (by simp -dsimp -implicitDefEqProofs only [go_sem, e6]) (by simp -dsimp -implicitDefEqProofs only [go_sem, e7]) (by simp -dsimp -implicitDefEqProofs only [go_sem]) ?_ ?_
    · intro e2 w' line' h' d2 k0 k6 hw hl'
      simp -dsimp -implicitDefEqProofs (disch := omega) only [go_sem, reqD_of, dec_t, dec_f, wrap_i64, wrap_u32, wrap_u64, wrap_u8, d2]
      exact words_t31 (a := a) (c := c) d2 k0 k6 hw hl' (by omega) i0 h' fun w' h' => ⟨h', rfl⟩
    · intro hil e2 w' line' h' d2 k0 k1 k7 k6 hL' hl'
      simp -dsimp -implicitDefEqProofs (disch := omega) only [go_sem, reqD_of, dec_t, dec_f, wrap_i64, wrap_u32, wrap_u64, wrap_u8, d2, k0, k1, k7, k6, e7]
      exact ⟨⟨i + 1, line', by omega, by omega, rfl, hL', hl', h'⟩, by omega⟩
  have hzp : 0 < zs.length := by omega
  have hm : i % zs.length < zs.length := Nat.mod_lt _ hzp
  have m1 : ((i : Int)).tmod (zs.length : Int) = ((i % zs.length : Nat) : Int) := rfl
  have hzne : ¬ ((zs.length : Int) = 0) := by omega
  obtain ⟨j, hj⟩ : ∃ j, j = i % zs.length := ⟨_, rfl⟩
  rw [← hj] at m1 hm
  have hm' : (j : Int) < zs.length := by omega
  obtain ⟨b0, o0, rfl, c0⟩ := h3.atS (i := i1) (k := j) (by simpa using hm)
  simp only [List.getElem_map] at c0
  obtain ⟨z, hzz⟩ : ∃ z, z = zs[j] := ⟨_, rfl⟩
  have hzb := hz z (hzz ▸ List.getElem_mem hm)
  rw [← hzz] at c0
  by_cases hzn : z < 0
  · obtain ⟨n, hn⟩ : ∃ n : Nat, 0 - (z + 1) = n := ⟨(0 - (z + 1)).toNat, by omega⟩
    simp -dsimp -implicitDefEqProofs (disch := omega) only [go_sem, reqD_of, dec_t, dec_f, wrap_i64, wrap_u32, wrap_u64, wrap_u8, hd, e0, e1, e6, e7, hle, hz0, m1, hzne, hm', c0, hzn, hn]
    refine go n _ (by simp -dsimp -implicitDefEqProofs only [go_sem, hd]) (by simp -dsimp -implicitDefEqProofs only [go_sem, e0]) (by simp -dsimp -implicitDefEqProofs only [go_sem, e1]) (by simp -dsimp -implicitDefEqProofs only [go_sem, e6]) (by simp -dsimp -implicitDefEqProofs only [go_sem, e7]) (by simp -dsimp -implicitDefEqProofs only [go_sem]) ?_ ?_
    · intro e2 w' line' h' d2 k0 k6 hw hl'
      simp -dsimp -implicitDefEqProofs (disch := omega) only [go_sem, reqD_of, dec_t, dec_f, wrap_i64, wrap_u32, wrap_u64, wrap_u8, d2]
      exact words_t31 (a := a) (c := c) d2 k0 k6 hw hl' (by omega) i0 h' fun w' h' => ⟨h', rfl⟩
    · intro hil e2 w' line' h' d2 k0 k1 k7 k6 hL' hl'
      simp -dsimp -implicitDefEqProofs (disch := omega) only [go_sem, reqD_of, dec_t, dec_f, wrap_i64, wrap_u32, wrap_u64, wrap_u8, d2, k0, k1, k7, k6, e7]
      exact ⟨⟨i + 1, line', by omega, by omega, rfl, hL', hl', h'⟩, by omega⟩
  · obtain ⟨n, rfl⟩ : ∃ n : Nat, z = n := ⟨z.toNat, by omega⟩
    simp -dsimp -implicitDefEqProofs (disch := omega) only [go_sem, reqD_of, dec_t, dec_f, wrap_i64, wrap_u32, wrap_u64, wrap_u8, hd, e0, e1, e6, e7, hle, hz0, m1, hzne, hm', c0, hzn]
    refine go n _ (by simp -dsimp -implicitDefEqProofs only [go_sem, hd]) (by simp -dsimp -implicitDefEqProofs only [go_sem, e0]) (by simp -dsimp -implicitDefEqProofs only [go_sem, e1]) (by simp -dsimp -implicitDefEqProofs only [go_sem, e6]) (by simp -dsimp -implicitDefEqProofs only [go_sem, e7]) (by simp -dsimp -implicitDefEqProofs only [go_sem]) ?_ ?_
    · intro e2 w' line' h' d2 k0 k6 hw hl'
      simp -dsimp -implicitDefEqProofs (disch := omega) only [go_sem, reqD_of, dec_t, dec_f, wrap_i64, wrap_u32, wrap_u64, wrap_u8, d2]
      exact words_t31 (a := a) (c := c) d2 k0 k6 hw hl' (by omega) i0 h' fun w' h' => ⟨h', rfl⟩
    · intro hil e2 w' line' h' d2 k0 k1 k7 k6 hL' hl'
      simp -dsimp -implicitDefEqProofs (disch := omega) only [go_sem, reqD_of, dec_t, dec_f, wrap_i64, wrap_u32, wrap_u64, wrap_u8, d2, k0, k1, k7, k6, e7]
      exact ⟨⟨i + 1, line', by omega, by omega, rfl, hL', hl', h'⟩, by omega⟩
end
end Go.Proofs.YtlnlomjdooobdaaDoor
