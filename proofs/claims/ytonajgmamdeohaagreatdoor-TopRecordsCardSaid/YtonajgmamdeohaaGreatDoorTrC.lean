/- A writer: texts, parts, what was written. -/
import Derived.Test.YtonajgmamdeohaaGreatDoorTrB
import Derived.Test.YtonajgmamdeohaaGreatDoorFx
namespace Go.Proofs.YtonajgmamdeohaaGreatDoor
open Go
set_option linter.unusedVariables false
set_option linter.unusedSimpArgs false
set_option maxRecDepth 100000

theorem St.appS {P : Program} {w0 w : World} {A : HP} {C : HP → HP} {t tx ty e bs : Nat} {zs : List Value} {v : Value} {n : Nat} {xs : List Value} {l : List UInt8} {K : Value → World → Prop} {θ : Tag K}
    (h : St w0 A w) [i : Hole (.row v) A (RowO e 1 v n xs) C] (ht : rowTy P t = some (e, 1, bs, zs)) (hk : P.underlying tx = some .string) (h63 : n + l.length ≤ maxLen) (hb : (n + l.length) * bs ≤ 140737488355328)
    (hK : ∀ v' w', St w0 (C (RowO e 1 v' (n + l.length) (xs ++ l.map bv))) w' → K v' w') : semD P (kAppend #[t, tx] ty #[v, .string (strOf l)]) w K θ := by
  obtain ⟨R, hR, h'⟩ := h.out (.row v)
  have hs : Src P 1 tx (.string (strOf l)) l.length (l.map bv) w := by
    have h1 := Src.ofString (P := P) w hk (strOf l)
    have e1 : byteCells (strOf l) = l.map bv := by simp [byteCells, strOf, bv]
    rw [e1, strOf_size] at h1
    exact h1
  exact h'.appendO ht hs h63 hb fun v' w' hw => hK v' w' (by rw [hR]; exact hw)
theorem RowO.keep {T s n k c : Nat} {a : Option Addr} {xs : List Value} (hk : k ≤ n) (hc : k ≤ c) : Ent (RowO T s (.slice a n c) n xs) (RowO T s (.slice a k c) k (xs.take (k * s))) := by
  have := RowO.cut (T := T) (s := s) (n := n) (lo := 0) (k := k) (m := c) (c := c) (a := a) (xs := xs) (by omega) (by omega) (Nat.le_refl _)
  have e : (if c = 0 then a else Option.map (fun x : Addr => x.add 0) a) = a := by
    split
    · rfl
    · cases a with
      | none => rfl
      | some x => obtain ⟨b, o, z⟩ := x; simp [Addr.add]
  simpa [e] using this
theorem St.rowSome {w0 w : World} {F : HP} {e n : Nat} {v : Value} {xs : List Value} (h : St w0 (RowO e 1 v n xs * F) w) (hn : 0 < n) : ∃ g o c, v = .slice (some ⟨g, o, none⟩) n c := by
  obtain ⟨_, _, h1, _, _, _, _, hr, _⟩ := h.sat
  rcases hr with ⟨_, rfl, _⟩ | ⟨g, o, cap, cur, rfl, _⟩
  · omega
  · exact ⟨g, o, cap, rfl⟩
section
variable {w0 w : World} {F : HP} {W : Nat} {s : WS} {v u : Value}
theorem byR_cells {l : List UInt8} : ∀ x ∈ byR l, isCell x = true := by
  intro x hx
  obtain ⟨b, _, rfl⟩ := List.mem_map.1 hx
  rfl
theorem opR_cells {l : List Nat} : ∀ x ∈ opR l, isCell x = true := by
  intro x hx
  obtain ⟨b, _, rfl⟩ := List.mem_map.1 hx
  rfl
theorem len2 {n : Nat} (h : n ≤ 65535) : [Value.int .u8 (IntKind.u8.wrap (n : Int)), Value.int .u8 (IntKind.u8.wrap ((n / 256 : Nat) : Int))] = byR (leN 2 n) := by
  rw [byte_of, byte_of]
  rfl
section
attribute [local go_sem] F37.t5_eq F37.t3_eq F37.t1_eq
theorem text_any {l : List UInt8} [Gives F Tabs] (ok : WOk s) (hl : l.length ≤ 1099511627776) (h : St w0 (WP W s * F) w) :
    Calls Tryz.prog 37 #[.pointer (some ⟨W, 0, none⟩), .string (strOf l)] w fun e w' => St w0 (WP W (textS l s) * F) w' ∧ e = .returned (.tuple #[]) := by
  obtain ⟨v, u, h⟩ := WP.open h
  refine F37.calls (by simp) ?_
  unfold F37.code textS
  by_cases h0 : s.err = 0
  case neg =>
    simp -dsimp -implicitDefEqProofs (disch := omega) only [go_sem, reqD_of, dec_t, dec_f, wrap_i64, wrap_u32, wrap_u64, wrap_u8, h.cl W, h0]
    rw [if_pos h0]
    exact WP.mk h
  by_cases h1 : 65535 < (l.length : Int)
  · simp -dsimp -implicitDefEqProofs (disch := omega) only [go_sem, reqD_of, dec_t, dec_f, wrap_i64, wrap_u32, wrap_u64, wrap_u8, h.cl W, h0, strOf_size, h1]
    refine h.sto (b := W) (off := 3) (by simp) rfl fun w2 h2 => ?_
    simp only [List.setIfInBounds_toArray, List.set_cons_succ, List.set_cons_zero] at h2
    simp -dsimp -implicitDefEqProofs (disch := omega) only [go_sem, reqD_of, dec_t, dec_f, wrap_i64, wrap_u32, wrap_u64, wrap_u8]
    rw [if_neg (by simp [h0]), if_pos (by omega)]
    exact WP.mk h2
  simp -dsimp -implicitDefEqProofs (disch := omega) only [go_sem, reqD_of, dec_t, dec_f, wrap_i64, wrap_u32, wrap_u64, wrap_u8, h.cl W, h0, strOf_size, h1]
  rw [if_neg (by simp [h0]), if_neg (by omega)]
  refine (good_any (l := l) h (by omega)).mono ?_
  rintro e w1 ⟨h1', rfl⟩
  cases hg : good l with
  | false =>
    simp -dsimp -implicitDefEqProofs (disch := omega) only [go_sem, reqD_of, dec_t, dec_f, wrap_i64, wrap_u32, wrap_u64, wrap_u8]
    refine h1'.sto (b := W) (off := 3) (by simp) rfl fun w2 h2 => ?_
    simp only [List.setIfInBounds_toArray, List.set_cons_succ, List.set_cons_zero] at h2
    simp -dsimp -implicitDefEqProofs (disch := omega) only [go_sem, reqD_of, dec_t, dec_f, wrap_i64, wrap_u32, wrap_u64, wrap_u8]
    exact WP.mk h2
  | true =>
  simp only [Bool.true_eq_false, if_false]
  simp -dsimp -implicitDefEqProofs (disch := omega) only [go_sem, reqD_of, dec_t, dec_f, wrap_i64, wrap_u32, wrap_u64, wrap_u8, strOf_size]
  rw [show (2 : Int) + (l.length : Int) = ((2 + l.length : Nat) : Int) by omega]
  refine (room_any (n := 2 + l.length) ok (by omega) h1').mono ?_
  rintro e w2 ⟨h2, rfl⟩
  have hll : (leN 2 l.length ++ l).length = 2 + l.length := by rw [List.length_append, leN_length]
  by_cases hr : hasRoom (2 + l.length) s = true
  · have e1 : roomS (2 + l.length) s = s := by
      unfold hasRoom at hr
      simp only [decide_eq_true_eq] at hr
      unfold roomS; rw [if_neg (by omega)]
    have e2 : rawS (leN 2 l.length ++ l) s = { s with b := s.b ++ (leN 2 l.length ++ l) } := by unfold rawS; rw [hll, if_pos hr]
    rw [e1] at h2
    rw [e2, hr]
    obtain ⟨a0, c0, rfl, _⟩ := h2.rowForm v
    have hb := ok.b
    have hlim := ok.lim
    simp -dsimp -implicitDefEqProofs (disch := omega) only [go_sem, reqD_of, dec_t, dec_f, wrap_i64, wrap_u32, wrap_u64, wrap_u8, h2.cl W, strOf_size]
    rw [shr8]
    refine h2.lit (n := 2) (cells := byR (leN 2 l.length)) fact_rowTy_33 (by rw [← len2 (by omega)]; rfl) (by decide) (by decide) fun v2 w3 h3 => ?_
    simp -dsimp -implicitDefEqProofs (disch := omega) only [go_sem, reqD_of, dec_t, dec_f, wrap_i64, wrap_u32, wrap_u64, wrap_u8]
    refine h3.appR (v := .slice a0 s.b.length c0) (x := v2) fact_rowTy_33 Tryz.underlying33 byR_cells (fun h => by simp [leN] at h) (show s.b.length + 2 ≤ 9223372036854775807 by omega) (show (s.b.length + 2) * 1 ≤ 140737488355328 by omega) fun v3 w4 h4 => ?_
    obtain ⟨a3, c3, rfl, _⟩ := h4.rowForm v3
    simp -dsimp -implicitDefEqProofs (disch := omega) only [go_sem, reqD_of, dec_t, dec_f, wrap_i64, wrap_u32, wrap_u64, wrap_u8]
    refine h4.sto (b := W) (off := 1) (by simp) rfl fun w5 h5 => ?_
    simp only [List.setIfInBounds_toArray, List.set_cons_succ, List.set_cons_zero] at h5
    simp -dsimp -implicitDefEqProofs (disch := omega) only [go_sem, reqD_of, dec_t, dec_f, wrap_i64, wrap_u32, wrap_u64, wrap_u8, h5.cl W]
    refine h5.appS (v := .slice a3 (s.b.length + 2) c3) (l := l) fact_rowTy_33 Tryz.underlying9 (show s.b.length + 2 + l.length ≤ 9223372036854775807 by omega) (show (s.b.length + 2 + l.length) * 1 ≤ 140737488355328 by omega) fun v4 w6 h6 => ?_
    obtain ⟨a4, c4, rfl, _⟩ := h6.rowForm v4
    simp -dsimp -implicitDefEqProofs (disch := omega) only [go_sem, reqD_of, dec_t, dec_f, wrap_i64, wrap_u32, wrap_u64, wrap_u8]
    refine h6.sto (b := W) (off := 1) (by simp) rfl fun w7 h7 => ?_
    simp only [List.setIfInBounds_toArray, List.set_cons_succ, List.set_cons_zero] at h7
    simp -dsimp -implicitDefEqProofs (disch := omega) only [go_sem, reqD_of, dec_t, dec_f, wrap_i64, wrap_u32, wrap_u64, wrap_u8]
    refine WP.mk (v := .slice a4 (s.b.length + 2 + l.length) c4) (u := u) (WU.of (n := s.b.length + 2 + l.length) (xs := byR s.b ++ byR (leN 2 l.length) ++ byR l) (by simp only [List.length_append, leN_length]; omega) (by simp [byR]) ?_)
    exact (h7.ac (show _ = RowO 5 1 v2 2 (byR (leN 2 l.length)) * (Blk W (wB s (.slice a4 (s.b.length + 2 + l.length) c4) u) * (RowO 5 1 (.slice a4 (s.b.length + 2 + l.length) c4) (s.b.length + 2 + l.length) (byR s.b ++ byR (leN 2 l.length) ++ byR l) * (RowO 3 1 u s.op.length (opR s.op) * F))) by ac_rfl)).right
  · have hr' : hasRoom (2 + l.length) s = false := by simpa using hr
    have e2 : rawS (leN 2 l.length ++ l) s = roomS (2 + l.length) s := by unfold rawS; rw [hll, if_neg hr]
    rw [e2, hr']
    simp -dsimp -implicitDefEqProofs (disch := omega) only [go_sem, reqD_of, dec_t, dec_f, wrap_i64, wrap_u32, wrap_u64, wrap_u8]
    exact WP.mk h2
end
section
attribute [local go_sem] F34.t3_eq
theorem open_any (ok : WOk s) (hop : s.op.length ≤ 10) (h : St w0 (WP W s * F) w) :
    Calls Tryz.prog 34 #[.pointer (some ⟨W, 0, none⟩)] w fun e w' => St w0 (WP W (openS s) * F) w' ∧ e = .returned (.int .i64 (placeS s : Nat)) := by
  obtain ⟨v, u, h⟩ := WP.open h
  refine F34.calls (by simp) ?_
  unfold F34.code openS placeS
  simp -dsimp -implicitDefEqProofs (disch := omega) only [go_sem, reqD_of, dec_t, dec_f, wrap_i64, wrap_u32, wrap_u64, wrap_u8]
  refine (room_any (n := 2) ok (by omega) h).mono ?_
  rintro e w2 ⟨h2, rfl⟩
  by_cases hr : hasRoom 2 s = true
  · have e1 : roomS 2 s = s := by
      unfold hasRoom at hr
      simp only [decide_eq_true_eq] at hr
      unfold roomS; rw [if_neg (by omega)]
    rw [e1] at h2
    rw [hr]
    obtain ⟨a0, c0, rfl, _⟩ := h2.rowForm v
    obtain ⟨a1, c1, rfl, _⟩ := h2.rowForm u
    have hb := ok.b
    have hlim := ok.lim
    simp -dsimp -implicitDefEqProofs (disch := omega) only [go_sem, reqD_of, dec_t, dec_f, wrap_i64, wrap_u32, wrap_u64, wrap_u8, h2.cl W]
    refine h2.lit (n := 2) (cells := byR [0, 0]) fact_rowTy_33 rfl (by decide) (by decide) fun v2 w3 h3 => ?_
    simp -dsimp -implicitDefEqProofs (disch := omega) only [go_sem, reqD_of, dec_t, dec_f, wrap_i64, wrap_u32, wrap_u64, wrap_u8]
    refine h3.appR (v := .slice a0 s.b.length c0) (x := v2) fact_rowTy_33 Tryz.underlying33 byR_cells (fun h => by simp at h) (show s.b.length + 2 ≤ 9223372036854775807 by omega) (show (s.b.length + 2) * 1 ≤ 140737488355328 by omega) fun v3 w4 h4 => ?_
    obtain ⟨a3, c3, rfl, _⟩ := h4.rowForm v3
    simp -dsimp -implicitDefEqProofs (disch := omega) only [go_sem, reqD_of, dec_t, dec_f, wrap_i64, wrap_u32, wrap_u64, wrap_u8]
    refine h4.sto (b := W) (off := 1) (by simp) rfl fun w5 h5 => ?_
    simp only [List.setIfInBounds_toArray, List.set_cons_succ, List.set_cons_zero] at h5
    simp -dsimp -implicitDefEqProofs (disch := omega) only [go_sem, reqD_of, dec_t, dec_f, wrap_i64, wrap_u32, wrap_u64, wrap_u8, h5.cl W]
    refine h5.lit (n := 1) (cells := opR [s.b.length]) fact_rowTy_88 rfl (by decide) (by decide) fun v4 w6 h6 => ?_
    simp -dsimp -implicitDefEqProofs (disch := omega) only [go_sem, reqD_of, dec_t, dec_f, wrap_i64, wrap_u32, wrap_u64, wrap_u8]
    refine h6.appR (v := .slice a1 s.op.length c1) (x := v4) fact_rowTy_88 Tryz.underlying88 opR_cells (fun h => by simp at h) (show s.op.length + 1 ≤ 9223372036854775807 by omega) (show (s.op.length + 1) * 8 ≤ 140737488355328 by omega) fun v5 w7 h7 => ?_
    obtain ⟨a5, c5, rfl, _⟩ := h7.rowForm v5
    simp -dsimp -implicitDefEqProofs (disch := omega) only [go_sem, reqD_of, dec_t, dec_f, wrap_i64, wrap_u32, wrap_u64, wrap_u8]
    refine h7.sto (b := W) (off := 2) (by simp) rfl fun w8 h8 => ?_
    simp only [List.setIfInBounds_toArray, List.set_cons_succ, List.set_cons_zero] at h8
    simp -dsimp -implicitDefEqProofs (disch := omega) only [go_sem, reqD_of, dec_t, dec_f, wrap_i64, wrap_u32, wrap_u64, wrap_u8]
    refine WP.mk (v := .slice a3 (s.b.length + 2) c3) (u := .slice a5 (s.op.length + 1) c5) (WU.of (n := s.b.length + 2) (xs := byR s.b ++ byR [0, 0]) (by simp) (by simp [byR]) ?_)
    have e2 : (s.op ++ [s.b.length]).length = s.op.length + 1 := by simp
    have e3 : opR (s.op ++ [s.b.length]) = opR s.op ++ opR [s.b.length] := by simp [opR]
    show St w0 (Blk W (wB s _ _) * (RowO _ _ _ _ _ * (RowO _ _ _ (s.op ++ [s.b.length]).length (opR (s.op ++ [s.b.length])) * F))) w8
    rw [e2, e3]
    exact (h8.ac (show _ = RowO 5 1 v2 2 (byR [0, 0]) * (RowO 3 1 v4 1 (opR [s.b.length]) * (Blk W (wB s (.slice a3 (s.b.length + 2) c3) (.slice a5 (s.op.length + 1) c5)) * (RowO 5 1 (.slice a3 (s.b.length + 2) c3) (s.b.length + 2) (byR s.b ++ byR [0, 0]) * (RowO 3 1 (.slice a5 (s.op.length + 1) c5) (s.op.length + 1) (opR s.op ++ opR [s.b.length]) * F)))) by ac_rfl)).right.right
  · have hr' : hasRoom 2 s = false := by simpa using hr
    rw [hr']
    simp -dsimp -implicitDefEqProofs (disch := omega) only [go_sem, reqD_of, dec_t, dec_f, wrap_i64, wrap_u32, wrap_u64, wrap_u8]
    exact WP.mk h2
end
section
attribute [local go_sem] F38.t7_eq F38.t4_eq F38.t1_eq
theorem shut_any {p : Nat} {op' : List Nat} (ok : WOk s) (hp : s.err = 0 → s.op = op' ++ [p] ∧ p + 2 ≤ s.b.length) (h : St w0 (WP W s * F) w) (hpb : p ≤ 16777216) :
    Calls Tryz.prog 38 #[.pointer (some ⟨W, 0, none⟩), .int .i64 p] w fun e w' => St w0 (WP W (shutS p s) * F) w' ∧ e = .returned (.tuple #[]) := by
  obtain ⟨v, u, h⟩ := WP.open h
  refine F38.calls (by simp) ?_
  unfold F38.code shutS
  by_cases h0 : s.err = 0
  case neg =>
    simp -dsimp -implicitDefEqProofs (disch := omega) only [go_sem, reqD_of, dec_t, dec_f, wrap_i64, wrap_u32, wrap_u64, wrap_u8, h.cl W, h0]
    rw [if_pos h0]
    exact WP.mk h
  obtain ⟨hop, hpl⟩ := hp h0
  rw [if_neg (by simp [h0])]
  have hol : s.op.length = op'.length + 1 := by rw [hop]; simp
  have hb := ok.b
  have hlim := ok.lim
  obtain ⟨g0, o0, c0, rfl⟩ := (h.ac (show _ = RowO 5 1 v s.b.length (byR s.b) * (Blk W (wB s v u) * (RowO 3 1 u s.op.length (opR s.op) * F)) by unfold WU; ac_rfl)).rowSome (by omega)
  obtain ⟨a1, c1, rfl, _, hcap, _⟩ := h.rowForm u
  obtain ⟨nn, hnn⟩ : ∃ nn, nn = s.b.length - p - 2 := ⟨_, rfl⟩
  have hd1 : ((s.b.length : Int) - p) = ((2 + nn : Nat) : Int) := by omega
  have hd2 : (((2 + nn : Nat) : Int) - 2) = (nn : Int) := by omega
  rw [← hnn]
  have hop2 : St w0 (Reads 1 (.slice a1 s.op.length c1) s.op.length (s.op.flatMap fun n : Nat => [Value.int .i64 n])) w := by
    rw [← List.map_eq_flatMap]
    exact h.gives (B := Reads 1 (.slice a1 s.op.length c1) s.op.length (opR s.op))
  obtain ⟨_, a', c', hv, _, hcl⟩ := St.rowsAt (k := 1) (l := s.op) (enc := fun n : Nat => [Value.int .i64 n]) (fun _ => rfl) (by decide) hop2
  simp only [Value.slice.injEq, true_and] at hv
  obtain ⟨rfl, rfl⟩ := hv
  obtain ⟨g1, o1, rfl, _, hc1⟩ := hcl op'.length (by omega)
  have hob := ok.op
  have hlast : s.op[op'.length]'(by omega) = p := by simp only [hop]; simp
  have hc1 := hc1 0 (by decide)
  rw [hlast] at hc1
  simp only [Nat.mul_one, Nat.add_zero, List.getElem?_cons_zero] at hc1
  have hl1 : ((s.op.length : Int) - 1) = (op'.length : Nat) := by omega
  have hl2 : ¬ ((op'.length : Nat) : Int) < 0 := by omega
  have hl3 : ((op'.length : Nat) : Int) < s.op.length := by omega
  have hp1 : (p : Int) < s.b.length := by omega
  have hp2 : ((p : Int) + 1) < s.b.length := by omega
  have hp3 : ((p : Int) + 1).toNat = p + 1 := by omega
  by_cases hbig : 65535 < (nn : Int)
  · simp -dsimp -implicitDefEqProofs (disch := omega) only [go_sem, reqD_of, dec_t, dec_f, wrap_i64, wrap_u32, wrap_u64, wrap_u8, h.cl W, h0, hl1, hl2, hl3, hc1, hd1, hd2, hbig]
    rw [if_pos (by omega)]
    refine h.sto (b := W) (off := 3) (by simp) rfl fun w2 h2 => ?_
    simp only [List.setIfInBounds_toArray, List.set_cons_succ, List.set_cons_zero] at h2
    simp -dsimp -implicitDefEqProofs (disch := omega) only [go_sem, reqD_of, dec_t, dec_f, wrap_i64, wrap_u32, wrap_u64, wrap_u8]
    exact WP.mk h2
  · simp -dsimp -implicitDefEqProofs (disch := omega) only [go_sem, reqD_of, dec_t, dec_f, wrap_i64, wrap_u32, wrap_u64, wrap_u8, h.cl W, h0, hl1, hl2, hl3, hc1, hd1, hd2, hbig, hp1]
    rw [if_neg (by omega)]
    rw [byte_of]
    refine h.rowSet1 (n := s.b.length) (c := c0) (k := p) (by simp; omega) rfl fun w2 h2 => ?_
    simp -dsimp -implicitDefEqProofs (disch := omega) only [go_sem, reqD_of, dec_t, dec_f, wrap_i64, wrap_u32, wrap_u64, wrap_u8, h2.cl W, hp1, hp2, hp3]
    rw [shr8, byte_of]
    refine h2.rowSet1 (n := s.b.length) (c := c0) (k := p + 1) (by simp; omega) rfl fun w3 h3 => ?_
    have hl4 : ((op'.length : Nat) : Int) ≤ c1 := by omega
    simp -dsimp -implicitDefEqProofs (disch := omega) only [go_sem, reqD_of, dec_t, dec_f, wrap_i64, wrap_u32, wrap_u64, wrap_u8, h3.cl W, hl4]
    refine h3.sto (b := W) (off := 2) (by simp) rfl fun w4 h4 => ?_
    simp only [List.setIfInBounds_toArray, List.set_cons_succ, List.set_cons_zero, ite_self] at h4
    simp -dsimp -implicitDefEqProofs (disch := omega) only [go_sem, reqD_of, dec_t, dec_f, wrap_i64, wrap_u32, wrap_u64, wrap_u8]
    refine WP.mk (v := .slice (some ⟨g0, o0, none⟩) s.b.length c0) (u := .slice (some ⟨g1, o1, none⟩) op'.length c1) (WU.of (n := s.b.length) (xs := ((byR s.b).set p (bv (UInt8.ofNat (nn % 256)))).set (p + 1) (bv (UInt8.ofNat (nn / 256 % 256)))) (by simp [setB]) (by simp [byR, setB, List.map_set]) ?_)
    have e2 : s.op.dropLast = op' := by rw [hop]; simp
    show St w0 (Blk W (wB s _ _) * (RowO _ _ _ _ _ * (RowO _ _ _ s.op.dropLast.length (opR s.op.dropLast) * F))) w4
    rw [e2]
    have h5 := h4.ac (show _ = RowO 3 1 (.slice (some ⟨g1, o1, none⟩) s.op.length c1) s.op.length (opR s.op) * (Blk W (wB s (.slice (some ⟨g0, o0, none⟩) s.b.length c0) (.slice (some ⟨g1, o1, none⟩) op'.length c1)) * (RowO 5 1 (.slice (some ⟨g0, o0, none⟩) s.b.length c0) s.b.length (((byR s.b).set p (bv (UInt8.ofNat (nn % 256)))).set (p + 1) (bv (UInt8.ofNat (nn / 256 % 256)))) * F)) by ac_rfl)
    have h6 := h5.ent (Ent.sep (RowO.keep (k := op'.length) (by omega) (by omega)) (Ent.rfl' _))
    have e3 : (opR s.op).take (op'.length * 1) = opR op' := by rw [hop]; simp [opR]
    rw [e3] at h6
    exact h6.ac (by ac_rfl)
end
section
attribute [local go_sem] F21.t5_eq F21.t3_eq
theorem done_err (h0 : s.err ≠ 0) (h : St w0 (WP W s * F) w) :
    Calls Tryz.prog 21 #[.pointer (some ⟨W, 0, none⟩)] w fun e w' => St w0 F w' ∧ e = .returned (.tuple #[.slice none 0 0, .int .i64 s.err]) := by
  obtain ⟨v, u, h⟩ := WP.open h
  refine F21.calls (by simp) ?_
  unfold F21.code
  have hD := h.drew
  simp -dsimp -implicitDefEqProofs (disch := omega) only [go_sem, reqD_of, dec_t, dec_f, wrap_i64, wrap_u32, wrap_u64, wrap_u8, h.cl W, hD.cl W, h0]
  exact hD.right.right.right
theorem done_ok (ok : WOk s) (h0 : s.err = 0) (hop : s.op = []) (h : St w0 (WP W s * F) w) :
    Calls Tryz.prog 21 #[.pointer (some ⟨W, 0, none⟩)] w fun e w' => ∃ v, St w0 (RowO 5 1 v s.b.length (byR s.b) * F) w' ∧ e = .returned (.tuple #[v, .int .i64 0]) := by
  obtain ⟨v, u, h⟩ := WP.open h
  have hb := ok.b
  have hlim := ok.lim
  refine F21.calls (by simp) ?_
  unfold F21.code
  obtain ⟨a0, c0, rfl, _⟩ := h.rowForm v
  obtain ⟨a1, c1, rfl, _⟩ := h.rowForm u
  have hop0 : (s.op.length : Int) = 0 := by rw [hop]; rfl
  simp -dsimp -implicitDefEqProofs (disch := omega) only [go_sem, reqD_of, dec_t, dec_f, wrap_i64, wrap_u32, wrap_u64, wrap_u8, h.cl W, h0, hop0]
  refine (h.nilR 5 1).app (v := .slice none 0 0) (x := .slice a0 s.b.length c0) fact_rowTy_33 ((Ent.right _ _).trans ((Ent.right _ _).trans ((Ent.left _ _).trans (RowO.reads _ _ _ _ _)))) Tryz.underlying33 byR_cells (fun h => by have := congrArg List.length h; simpa [byR] using this) (show 0 + s.b.length ≤ 9223372036854775807 by omega) (show (0 + s.b.length) * 1 ≤ 140737488355328 by omega) fun v3 w3 h3 => ?_
  rw [Nat.zero_add, List.nil_append] at h3
  simp -dsimp -implicitDefEqProofs (disch := omega) only [go_sem, reqD_of, dec_t, dec_f, wrap_i64, wrap_u32, wrap_u64, wrap_u8]
  exact ⟨v3, h3.ent (Ent.sep (Ent.rfl' _) ((Ent.right _ _).trans ((Ent.right _ _).trans (Ent.right _ _)))), rfl⟩
end
section
attribute [local go_sem] F19.t3_eq
theorem newWriter_any {n : Nat} (hn : n ≤ 16777216) (h : St w0 F w) :
    Calls Tryz.prog 19 #[.int .i64 n] w fun e w' => ∃ W, St w0 (WP W ⟨n, [], [], 0⟩ * F) w' ∧ e = .returned (.tuple #[.pointer (some ⟨W, 0, none⟩), .int .i64 0]) := by
  refine F19.calls (by simp) ?_
  unfold F19.code
  have h1 : ¬ (n : Int) < 0 := by omega
  have h2 : ¬ 16777216 < (n : Int) := by omega
  simp -dsimp -implicitDefEqProofs (disch := omega) only [go_sem, reqD_of, dec_t, dec_f, wrap_i64, wrap_u32, wrap_u64, wrap_u8, h1, h2]
  refine onV_of (v := .agg #[.int .i64 n, .slice none 0 0, .slice none 0 0, .int .i64 0]) rfl ?_
  simp -dsimp -implicitDefEqProofs (disch := omega) only [go_sem, reqD_of, dec_t, dec_f, wrap_i64, wrap_u32, wrap_u64, wrap_u8]
  refine h.new fun W w1 h3 => ?_
  simp -dsimp -implicitDefEqProofs (disch := omega) only [go_sem, reqD_of, dec_t, dec_f, wrap_i64, wrap_u32, wrap_u64, wrap_u8]
  refine ⟨W, ?_, rfl⟩
  have h4 := (h3.nilR 5 1)
  have h5 := (h4.nilR 3 1)
  exact WP.mk (s := ⟨n, [], [], 0⟩) (v := .slice none 0 0) (u := .slice none 0 0) (h5.ac (by show RowO _ _ _ _ _ * (RowO _ _ _ _ _ * (Blk W _ * F)) = Blk W _ * (RowO _ _ _ _ _ * (RowO _ _ _ _ _ * F)); ac_rfl))
end
end
end Go.Proofs.YtonajgmamdeohaaGreatDoor
