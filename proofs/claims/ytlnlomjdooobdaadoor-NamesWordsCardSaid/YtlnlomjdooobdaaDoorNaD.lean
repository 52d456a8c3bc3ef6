/- names.Join, Clean, clean, Under. -/
import Derived.Test.YtlnlomjdooobdaaDoorNaC
namespace Go.Proofs.YtlnlomjdooobdaaDoor
open Go
set_option linter.unusedVariables false
set_option linter.unusedSimpArgs false
set_option maxRecDepth 100000

def joinP (r : Bool) (ps : List (List UInt8)) : List UInt8 := if r then [47] ++ joinL ps else if ps = [] then [46] else joinL ps

section
attribute [local go_sem] F18.t6_eq
theorem joinP_any {w0 w : World} {A : HP} (h : St w0 A w) {r : Bool} {v : Value} {ps : List (List UInt8)} (hr : Ent A (Reads 1 v ps.length (ps.map sv))) (hN : ps.length ≤ 140737488355328) (hlen : (joinL ps).length ≤ 140737488355328) :
    Calls Tryd.prog 18 #[pathV r v] w fun e w' => St w0 A w' ∧ e = .returned (.string (strOf (joinP r ps))) := by
  obtain ⟨a, c, rfl, hc, _⟩ := h.texts hr
  refine F18.calls (by simp) ?_
  unfold F18.code
  simp -dsimp -implicitDefEqProofs (disch := omega) only [go_sem, reqD_of, dec_t, dec_f, wrap_i64, wrap_u32, wrap_u64, wrap_u8]
  refine h.new fun P1 w1 h1 => ?_
  have c1 := h1.cl P1
  simp -dsimp -implicitDefEqProofs (disch := omega) only [go_sem, reqD_of, dec_t, dec_f, wrap_i64, wrap_u32, wrap_u64, wrap_u8, c1]
  refine (join_lib h1 ((Ent.right _ _).trans hr) hN hlen).mono ?_
  rintro e w2 ⟨h2, rfl⟩
  have c2 := h2.cl P1
  have e1 : ([47] : List UInt8).length = 1 := rfl
  cases r with
  | true =>
    simp -dsimp -implicitDefEqProofs (disch := omega) only [go_sem, reqD_of, dec_t, dec_f, wrap_i64, wrap_u32, wrap_u64, wrap_u8, c2]
    refine ⟨h2.right, ?_⟩
    simp [joinP]
  | false =>
    by_cases h0 : (ps.length : Int) = 0
    · have hp : ps = [] := List.eq_nil_of_length_eq_zero (by omega)
      simp -dsimp -implicitDefEqProofs (disch := omega) only [go_sem, reqD_of, dec_t, dec_f, wrap_i64, wrap_u32, wrap_u64, wrap_u8, c2, h0]
      exact ⟨h2.right, by simp [joinP, hp]⟩
    · have hp : ps ≠ [] := fun e => h0 (by simp [e])
      simp -dsimp -implicitDefEqProofs (disch := omega) only [go_sem, reqD_of, dec_t, dec_f, wrap_i64, wrap_u32, wrap_u64, wrap_u8, c2, h0]
      exact ⟨h2.right, by simp [joinP, hp]⟩

def dd : List UInt8 := [46, 46]
/-- One part more, as Clean does. -/
def stepF (r : Bool) (acc : List (List UInt8)) (p : List UInt8) : List (List UInt8) :=
  if p ≠ [46, 46] then acc ++ [p] else if acc ≠ [] ∧ acc.getLast? ≠ some [46, 46] then acc.dropLast else if r then acc else acc ++ [p]
def redF (r : Bool) (ps : List (List UInt8)) : List (List UInt8) := ps.foldl (stepF r) []
def cleanF (l : List UInt8) : Option (List UInt8) := (splitF l).map fun ps => joinP (rooted l) (redF (rooted l) ps)

theorem RowO.keep {T s n k c : Nat} {a : Option Addr} {xs : List Value} (hk : k ≤ n) (hc : k ≤ c) : Ent (RowO T s (.slice a n c) n xs) (RowO T s (.slice a k c) k (xs.take (k * s))) := by
  have := RowO.cut (T := T) (s := s) (n := n) (lo := 0) (k := k) (m := c) (c := c) (a := a) (xs := xs) (by omega) (by omega) (Nat.le_refl _)
  have e : (if c = 0 then a else Option.map (fun x : Addr => x.add 0) a) = a := by
    split
    · rfl
    · cases a with
      | none => rfl
      | some x => obtain ⟨b, o, z⟩ := x; simp [Addr.add]
  simpa [e] using this

theorem stepF_new {r : Bool} {acc : List (List UInt8)} {p : List UInt8} (h : p ≠ [46, 46]) : stepF r acc p = acc ++ [p] := by rw [stepF, if_pos h]
theorem stepF_back {r : Bool} {acc : List (List UInt8)} {p : List UInt8} (h : p = [46, 46]) (h1 : acc ≠ []) (h2 : acc.getLast? ≠ some [46, 46]) : stepF r acc p = acc.dropLast := by rw [stepF, if_neg (by simp [h]), if_pos ⟨h1, h2⟩]
theorem stepF_up {r : Bool} {acc : List (List UInt8)} {p : List UInt8} (h : p = [46, 46]) (h1 : ¬ (acc ≠ [] ∧ acc.getLast? ≠ some [46, 46])) : stepF r acc p = if r then acc else acc ++ [p] := by rw [stepF, if_neg (by simp [h]), if_neg h1]
theorem stepF_length (r : Bool) (acc : List (List UInt8)) (p : List UInt8) : (stepF r acc p).length ≤ acc.length + 1 := by
  unfold stepF
  split
  · simp
  · split
    · simp; omega
    · split <;> simp
theorem partsF_length : ∀ (qs ps : List (List UInt8)), partsF qs = some ps → ps.length ≤ qs.length
  | [], ps, h => by simp [partsF] at h; subst h; simp
  | q :: qs, ps, h => by
    rw [partsF] at h
    split at h
    · have := partsF_length qs ps h; simp; omega
    · split at h
      · cases hq : partsF qs with
        | none => rw [hq] at h; cases h
        | some rs =>
          rw [hq] at h
          simp only [Option.map_some, Option.some.injEq] at h
          subst h
          have := partsF_length qs rs hq
          simp; omega
      · cases h

end
section
attribute [local go_sem] F12.t15_eq F12.t7_eq F12.t16_eq F12.t4_eq
theorem clean_loop {w0 w : World} {A : HP} {ps : List (List UInt8)} {r : Bool} {v : Value} {P4 : Nat} {e : FA} {R : Ending → World → Prop} {θ : Tag (F12.t4, fnP Tryd.prog #[.tmp 2, .tmp 3] R, e, w)}
    (hd : e.ds = []) (e4 : e.ρ 4 = .pointer (some ⟨P4, 0, none⟩)) (hl : ps.length < 4294967281) (hj : (joinL (redF r ps)).length ≤ 140737488355328)
    (h : St w0 (Blk P4 (.cells #[.bool r, v] 26 (0, 0)) * (RowO 9 1 v ps.length (ps.map sv) * A)) w)
    (hQ : ∀ w', St w0 A w' → R (.returned (.tuple #[.string (strOf (joinP r (redF r ps))), .int .i64 0])) w') :
    cwE Tryd.prog F12.t4 (fnP Tryd.prog #[.tmp 2, .tmp 3] R) e w θ := by
  obtain ⟨a, c, rfl, _⟩ := h.rowForm v
  rw [F12.t4_eq]
  have c4 := h.cl P4
  simp -dsimp -implicitDefEqProofs (disch := omega) only [go_sem, reqD_of, dec_t, dec_f, wrap_i64, wrap_u32, wrap_u64, wrap_u8, hd, e4, c4]
  refine loop_intro (fun e w' => e.ds = [] ∧ e.ρ 4 = .pointer (some ⟨P4, 0, none⟩) ∧ e.ρ 19 = .slice a ps.length c ∧ e.ρ 20 = .int .i64 ps.length ∧
      ∃ (i : Nat) (acc : List (List UInt8)) (u : Value), i ≤ ps.length ∧ e.ρ 21 = .int .i64 i ∧ e.ρ 6 = u ∧ acc.length ≤ i ∧ redF r ps = (ps.drop i).foldl (stepF r) acc ∧
        St w0 (RowO 9 1 u acc.length (acc.map sv) * (Blk P4 (.cells #[.bool r, .slice a ps.length c] 26 (0, 0)) * (RowO 9 1 (.slice a ps.length c) ps.length (ps.map sv) * A))) w')
    (fun e _ => match e.ρ 21 with | .int _ n => (ps.length - n).toNat | _ => 0) ?_ ?_
  · exact ⟨by simp -dsimp -implicitDefEqProofs only [go_sem, hd], by simp -dsimp -implicitDefEqProofs only [go_sem, e4], by simp -dsimp -implicitDefEqProofs only [go_sem], by simp -dsimp -implicitDefEqProofs only [go_sem], 0, [], .slice none 0 0, by omega, by simp -dsimp -implicitDefEqProofs only [go_sem], by simp -dsimp -implicitDefEqProofs only [go_sem], by simp, rfl, h.nilR 9 1⟩
  clear h c4 hd e4
  rintro e w2 ⟨hd, e4, e19, e20, i, acc, u, hi, e21, e6, hal, hred, h2⟩
  obtain ⟨au, cu, rfl, _, hauc, _⟩ := h2.rowForm u
  by_cases hlt : (i : Int) < (ps.length : Int)
  case neg =>
    have hdn : ps.drop i = [] := List.drop_of_length_le (by omega)
    rw [hdn] at hred
    have c4 := h2.cl P4
    simp -dsimp -implicitDefEqProofs (disch := omega) only [go_sem, reqD_of, dec_t, dec_f, wrap_i64, wrap_u32, wrap_u64, wrap_u8, hd, e4, e19, e20, e21, e6, hlt, c4]
    refine onV_of (v := pathV r (.slice au acc.length cu)) (by kernel_rfl) ?_
    simp only [List.foldl_nil] at hred
    simp -dsimp -implicitDefEqProofs (disch := omega) only [go_sem, reqD_of, dec_t, dec_f, wrap_i64, wrap_u32, wrap_u64, wrap_u8, hd, e4, e19, e20, e21, e6]
    have hal' := hal
    refine (joinP_any h2 (ps := acc) ((Ent.left _ _).trans (RowO.reads _ _ _ _ _)) (by omega) (by rw [← hred]; exact hj)).mono ?_
    rintro e' w3 ⟨h3, rfl⟩
    simp -dsimp -implicitDefEqProofs (disch := omega) only [go_sem, reqD_of, dec_t, dec_f, wrap_i64, wrap_u32, wrap_u64, wrap_u8, hd]
    rw [← hred]
    exact hQ w3 h3.right.right.right
  have hil : i < ps.length := by omega
  have hdr : ps.drop i = ps[i] :: ps.drop (i + 1) := List.drop_eq_getElem_cons hil
  rw [hdr, List.foldl_cons] at hred
  obtain ⟨b0, o0, rfl, c0⟩ := h2.atS (a := a) (n := ps.length) (c := c) (xs := ps.map sv) (k := i) (by simpa using hil)
  simp only [List.getElem_map] at c0
  obtain ⟨q, hq⟩ : ∃ q, q = ps[i] := ⟨_, rfl⟩
  rw [← hq] at c0 hred
  have hstep := stepF_length r acc q
  have c4 := h2.cl P4
  by_cases q0 : q = [46, 46]
  case neg =>
    rw [stepF_new q0] at hred
    simp -dsimp -implicitDefEqProofs (disch := omega) only [go_sem, reqD_of, dec_t, dec_f, wrap_i64, wrap_u32, wrap_u64, wrap_u8, hd, e4, e19, e20, e21, e6, hlt, c0, q0]
    refine h2.lit (t := 24) (cells := [sv q]) fact_rowTy_24 rfl (by decide) (by decide) fun v8 w8 h8 => ?_
    obtain ⟨a8, c8, rfl, _⟩ := h8.rowForm v8
    simp -dsimp -implicitDefEqProofs (disch := omega) only [go_sem, reqD_of, dec_t, dec_f, wrap_i64, wrap_u32, wrap_u64, wrap_u8, hd, e4, e19, e20, e21, e6]
    refine h8.appR (v := .slice au acc.length cu) (x := .slice a8 1 c8) fact_rowTy_24 Tryd.underlying24 (fun u hu => by simp at hu; subst hu; rfl) (by simp) (show _ ≤ 9223372036854775807 by omega) (by omega) fun v9 w9 h9 => ?_
    obtain ⟨a9, c9, rfl, _⟩ := h9.rowForm v9
    simp -dsimp -implicitDefEqProofs (disch := omega) only [go_sem, reqD_of, dec_t, dec_f, wrap_i64, wrap_u32, wrap_u64, wrap_u8, hd, e4, e19, e20, e21, e6]
    have h11 : St w0 (RowO 9 1 (.slice a9 (acc.length + 1) c9) (acc ++ [q]).length ((acc ++ [q]).map sv) * (Blk P4 (.cells #[.bool r, .slice (some ⟨b0, o0, none⟩) ps.length c] 26 (0, 0)) * (RowO 9 1 (.slice (some ⟨b0, o0, none⟩) ps.length c) ps.length (ps.map sv) * A))) w9 := by
      rw [show (acc ++ [q]).length = acc.length + 1 by simp, show (acc ++ [q]).map sv = acc.map sv ++ [sv q] by simp]; exact h9.sub
    exact ⟨⟨i + 1, acc ++ [q], .slice a9 (acc.length + 1) c9, by omega, by omega, (by first | rfl | exact ⟨rfl, rfl, rfl⟩ | simp), by simp; omega, hred, h11⟩, by omega⟩
  have d0 : decide (q = [46, 46]) = true := by simp [q0]
  by_cases hb : acc ≠ [] ∧ acc.getLast? ≠ some [46, 46]
  · obtain ⟨ha, hla⟩ := hb
    have hap : 0 < acc.length := List.length_pos_iff.2 ha
    rw [stepF_back q0 ha hla] at hred
    obtain ⟨b1, o1, rfl, c1⟩ := h2.atS (a := au) (n := acc.length) (c := cu) (xs := acc.map sv) (k := acc.length - 1) (by simp; omega)
    simp only [List.getElem_map] at c1
    have g0 : (0 : Int) ≤ (acc.length : Int) - 1 := by omega
    have g1 : ((acc.length : Int) - 1).toNat = acc.length - 1 := by omega
    have hlast : decide (acc[acc.length - 1]'(by omega) = [46, 46]) = false := by
      have : acc.getLast? = some (acc[acc.length - 1]'(by omega)) := by rw [List.getLast?_eq_getElem?]; simp
      rw [this] at hla
      simpa using hla
    have g2 : (acc.length : Int) - 1 ≤ cu := by omega
    simp -dsimp -implicitDefEqProofs (disch := omega) only [go_sem, reqD_of, dec_t, dec_f, wrap_i64, wrap_u32, wrap_u64, wrap_u8, hd, e4, e19, e20, e21, e6, hlt, c0, d0, g0, g1, c1, hlast, g2]
    have h3 := h2.turnTo (.row (.slice (some ⟨b1, o1, none⟩) acc.length cu)) (RowO.keep (k := acc.length - 1) (by omega) (by omega))
    have hdl : acc.dropLast = acc.take (acc.length - 1) := List.dropLast_eq_take
    have hm : (acc.map sv).take ((acc.length - 1) * 1) = acc.dropLast.map sv := by rw [hdl, Nat.mul_one, List.map_take]
    have hm2 : acc.dropLast.length = acc.length - 1 := by simp
    rw [hm, ← hm2] at h3
    exact ⟨⟨i + 1, acc.dropLast, .slice (some ⟨b1, o1, none⟩) acc.dropLast.length cu, by omega, by omega, (by first | rfl | exact hm2.symm | simp), by simp; omega, hred, h3⟩, by omega⟩
  rw [stepF_up q0 hb] at hred
  have common : (acc = [] ∨ ∃ b1 o1, au = some ⟨b1, o1, none⟩ ∧ 0 < acc.length ∧ w2.cell? ⟨b1, o1 + (acc.length - 1), none⟩ = some (.string (strOf [46, 46]))) := by
    by_cases ha : acc = []
    · exact .inl ha
    · right
      have hap : 0 < acc.length := List.length_pos_iff.2 ha
      obtain ⟨b1, o1, rfl, c1⟩ := h2.atS (a := au) (n := acc.length) (c := cu) (xs := acc.map sv) (k := acc.length - 1) (by simp; omega)
      simp only [List.getElem_map] at c1
      have : acc.getLast? = some (acc[acc.length - 1]'(by omega)) := by rw [List.getLast?_eq_getElem?]; simp
      have hl2 : acc[acc.length - 1]'(by omega) = [46, 46] := by
        by_cases hx : acc[acc.length - 1]'(by omega) = [46, 46]
        · exact hx
        · exact absurd ⟨ha, by rw [this]; simpa using hx⟩ hb
      rw [hl2] at c1
      exact ⟨b1, o1, rfl, hap, c1⟩
  have c4 := h2.cl P4
  rcases common with ha | ⟨b1, o1, rfl, hap, c1⟩
  · have g0 : ¬ (0 : Int) ≤ (acc.length : Int) - 1 := by rw [ha]; simp
    cases r with
    | true =>
      simp -dsimp -implicitDefEqProofs (disch := omega) only [go_sem, reqD_of, dec_t, dec_f, wrap_i64, wrap_u32, wrap_u64, wrap_u8, hd, e4, e19, e20, e21, e6, hlt, c0, d0, g0, c4]
      simp only [if_true] at hred
      exact ⟨⟨i + 1, acc, .slice au acc.length cu, by omega, by omega, (by first | rfl | exact ⟨rfl, rfl, rfl⟩ | simp), by omega, hred, h2⟩, by omega⟩
    | false =>
      simp -dsimp -implicitDefEqProofs (disch := omega) only [go_sem, reqD_of, dec_t, dec_f, wrap_i64, wrap_u32, wrap_u64, wrap_u8, hd, e4, e19, e20, e21, e6, hlt, c0, d0, g0, c4]
      simp only [Bool.false_eq_true, if_false] at hred
      refine h2.lit (t := 24) (cells := [sv q]) fact_rowTy_24 rfl (by decide) (by decide) fun v8 w8 h8 => ?_
      obtain ⟨a8, c8, rfl, _⟩ := h8.rowForm v8
      simp -dsimp -implicitDefEqProofs (disch := omega) only [go_sem, reqD_of, dec_t, dec_f, wrap_i64, wrap_u32, wrap_u64, wrap_u8, hd, e4, e19, e20, e21, e6]
      refine h8.appR (v := .slice au acc.length cu) (x := .slice a8 1 c8) fact_rowTy_24 Tryd.underlying24 (fun u hu => by simp at hu; subst hu; rfl) (by simp) (show _ ≤ 9223372036854775807 by omega) (by omega) fun v9 w9 h9 => ?_
      obtain ⟨a9, c9, rfl, _⟩ := h9.rowForm v9
      simp -dsimp -implicitDefEqProofs (disch := omega) only [go_sem, reqD_of, dec_t, dec_f, wrap_i64, wrap_u32, wrap_u64, wrap_u8, hd, e4, e19, e20, e21, e6]
      have h11 : St w0 (RowO 9 1 (.slice a9 (acc.length + 1) c9) (acc ++ [q]).length ((acc ++ [q]).map sv) * (Blk P4 (.cells #[.bool false, .slice (some ⟨b0, o0, none⟩) ps.length c] 26 (0, 0)) * (RowO 9 1 (.slice (some ⟨b0, o0, none⟩) ps.length c) ps.length (ps.map sv) * A))) w9 := by
        rw [show (acc ++ [q]).length = acc.length + 1 by simp, show (acc ++ [q]).map sv = acc.map sv ++ [sv q] by simp]; exact h9.sub
      exact ⟨⟨i + 1, acc ++ [q], .slice a9 (acc.length + 1) c9, by omega, by omega, (by first | rfl | exact ⟨rfl, rfl, rfl⟩ | simp), by simp; omega, hred, h11⟩, by omega⟩
  · have g0 : (0 : Int) ≤ (acc.length : Int) - 1 := by omega
    have g1 : ((acc.length : Int) - 1).toNat = acc.length - 1 := by omega
    have hau : True := trivial
    cases r with
    | true =>
      simp -dsimp -implicitDefEqProofs (disch := omega) only [go_sem, reqD_of, dec_t, dec_f, wrap_i64, wrap_u32, wrap_u64, wrap_u8, hd, e4, e19, e20, e21, e6, hlt, c0, d0, g0, g1, c1, c4]
      simp only [if_true] at hred
      exact ⟨⟨i + 1, acc, .slice (some ⟨b1, o1, none⟩) acc.length cu, by omega, by omega, (by first | rfl | exact ⟨rfl, rfl, rfl⟩ | simp), by omega, hred, h2⟩, by omega⟩
    | false =>
      simp -dsimp -implicitDefEqProofs (disch := omega) only [go_sem, reqD_of, dec_t, dec_f, wrap_i64, wrap_u32, wrap_u64, wrap_u8, hd, e4, e19, e20, e21, e6, hlt, c0, d0, g0, g1, c1, c4]
      simp only [Bool.false_eq_true, if_false] at hred
      refine h2.lit (t := 24) (cells := [sv q]) fact_rowTy_24 rfl (by decide) (by decide) fun v8 w8 h8 => ?_
      obtain ⟨a8, c8, rfl, _⟩ := h8.rowForm v8
      simp -dsimp -implicitDefEqProofs (disch := omega) only [go_sem, reqD_of, dec_t, dec_f, wrap_i64, wrap_u32, wrap_u64, wrap_u8, hd, e4, e19, e20, e21, e6]
      refine h8.appR (v := .slice (some ⟨b1, o1, none⟩) acc.length cu) (x := .slice a8 1 c8) fact_rowTy_24 Tryd.underlying24 (fun u hu => by simp at hu; subst hu; rfl) (by simp) (show _ ≤ 9223372036854775807 by omega) (by omega) fun v9 w9 h9 => ?_
      obtain ⟨a9, c9, rfl, _⟩ := h9.rowForm v9
      simp -dsimp -implicitDefEqProofs (disch := omega) only [go_sem, reqD_of, dec_t, dec_f, wrap_i64, wrap_u32, wrap_u64, wrap_u8, hd, e4, e19, e20, e21, e6]
      have h11 : St w0 (RowO 9 1 (.slice a9 (acc.length + 1) c9) (acc ++ [q]).length ((acc ++ [q]).map sv) * (Blk P4 (.cells #[.bool false, .slice (some ⟨b0, o0, none⟩) ps.length c] 26 (0, 0)) * (RowO 9 1 (.slice (some ⟨b0, o0, none⟩) ps.length c) ps.length (ps.map sv) * A))) w9 := by
        rw [show (acc ++ [q]).length = acc.length + 1 by simp, show (acc ++ [q]).map sv = acc.map sv ++ [sv q] by simp]; exact h9.sub
      exact ⟨⟨i + 1, acc ++ [q], .slice a9 (acc.length + 1) c9, by omega, by omega, (by first | rfl | exact ⟨rfl, rfl, rfl⟩ | simp), by simp; omega, hred, h11⟩, by omega⟩

end
end Go.Proofs.YtlnlomjdooobdaaDoor
