/- names.escaped, quotes. -/
import Derived.Test.YtlnlomjdooobdaaDoorNaE
import Derived.Test.YtlnlomjdooobdaaDoorPn
namespace Go.Proofs.YtlnlomjdooobdaaDoor
open Go
set_option linter.unusedVariables false
set_option linter.unusedSimpArgs false
set_option maxRecDepth 100000

def sixteen : List UInt8 := [48, 49, 50, 51, 52, 53, 54, 55, 56, 57, 97, 98, 99, 100, 101, 102]
/-- A digit's number, or -1. -/
def hexI (c : UInt8) : Int := Lib.indexByte sixteen c
theorem hexI_lt (c : UInt8) : -1 ≤ hexI c ∧ hexI c < 16 := by
  have : ∀ n : Fin 256, -1 ≤ hexI (UInt8.ofNat n.val) ∧ hexI (UInt8.ofNat n.val) < 16 := by decide +kernel
  have h := this ⟨c.toNat, c.toNat_lt⟩
  simpa using h
def hexB (a b : UInt8) : UInt8 := UInt8.ofNat (16 * (hexI a).toNat + (hexI b).toNat)

/-- What stands behind a backslash. -/
def escF (l : List UInt8) : Option (UInt8 × Nat) :=
  if l ≠ [] ∧ ((l.getD 0 0).toNat = 92 ∨ (l.getD 0 0).toNat = 39) then some (l.getD 0 0, 1)
  else if 3 ≤ l.length ∧ (l.getD 0 0).toNat = 120 ∧ 0 ≤ hexI (l.getD 1 0) ∧ 0 ≤ hexI (l.getD 2 0) then some (hexB (l.getD 1 0) (l.getD 2 0), 3)
  else none

abbrev wordsP : List PanicEntry := [{ v := .iface 82 (.agg #[]), recovered := false }]

theorem or_digits (a b : Int) (ha : 0 ≤ a) (ha' : a < 16) (hb : 0 ≤ b) (hb' : b < 16) :
    IntKind.u8.wrap (IntKind.i64.wrap ((BitVec.ofInt IntKind.i64.bits (a * 16) ||| BitVec.ofInt IntKind.i64.bits b).toNat : Int)) = ((UInt8.ofNat (16 * a.toNat + b.toNat)).toNat : Int) := by
  obtain ⟨m, rfl⟩ := Int.eq_ofNat_of_zero_le ha
  obtain ⟨n, rfl⟩ := Int.eq_ofNat_of_zero_le hb
  have : ∀ m n : Fin 16, IntKind.u8.wrap (IntKind.i64.wrap ((BitVec.ofInt IntKind.i64.bits (((m.val : Nat) : Int) * 16) ||| BitVec.ofInt IntKind.i64.bits ((n.val : Nat) : Int)).toNat : Int)) = ((UInt8.ofNat (16 * m.val + n.val)).toNat : Int) := by decide +kernel
  exact this ⟨m, by omega⟩ ⟨n, by omega⟩

section
attribute [local go_sem] F55.t3_eq
theorem escaped_any {w0 w : World} {A : HP} (h : St w0 A w) {l : List UInt8} (hl : l.length ≤ 9223372036854775807) :
    Calls Tryd.prog 55 #[.string (strOf l)] w fun e w' => St w0 A w' ∧
      ((∃ c n, escF l = some (c, n) ∧ e = .returned (.tuple #[.int .u8 (c : UInt8).toNat, .int .i64 (n : Nat)])) ∨ (escF l = none ∧ e = .panicked wordsP)) := by
  refine F55.calls (by simp) ?_
  unfold F55.code
  have no : ∀ (e2 : FA) (w2 : World), e2.ds = [] → St w0 A w2 → escF l = none → cwE Tryd.prog F55.t7 (fnP Tryd.prog #[.tmp 2, .tmp 3] fun e w' => St w0 A w' ∧
      ((∃ c n, escF l = some (c, n) ∧ e = .returned (.tuple #[.int .u8 (c : UInt8).toNat, .int .i64 (n : Nat)])) ∨ (escF l = none ∧ e = .panicked wordsP))) e2 w2 := by
    intro e2 w2 hd h2 hn
    rw [F55.t7_eq]
    simp -dsimp -implicitDefEqProofs (disch := omega) only [go_sem, reqD_of, dec_t, dec_f, wrap_i64, wrap_u32, wrap_u64, wrap_u8]
    refine onV_of (v := .agg #[]) (by kernel_rfl) ?_
    simp -dsimp -implicitDefEqProofs (disch := omega) only [go_sem, reqD_of, dec_t, dec_f, wrap_i64, wrap_u32, wrap_u64, wrap_u8]
    refine mkI_of (by kernel_rfl) ?_
    simp -dsimp -implicitDefEqProofs (disch := omega) only [go_sem, reqD_of, dec_t, dec_f, wrap_i64, wrap_u32, wrap_u64, wrap_u8]
    refine panic_of ?_
    simp -dsimp -implicitDefEqProofs (disch := omega) only [go_sem, reqD_of, dec_t, dec_f, wrap_i64, wrap_u32, wrap_u64, wrap_u8, hd, hn]
    exact h2
  have e0 : ([] : List UInt8).length = 0 := rfl
  by_cases h0 : l = []
  · subst h0
    have hn : escF [] = none := by decide
    simp -dsimp -implicitDefEqProofs (disch := omega) only [go_sem, reqD_of, dec_t, dec_f, wrap_i64, wrap_u32, wrap_u64, wrap_u8, e0]
    exact no _ _ rfl h hn
  have hp : 0 < l.length := List.length_pos_iff.2 h0
  have hp' : (0 : Int) < l.length := by omega
  obtain ⟨c0, hc0⟩ : ∃ c0, c0 = (l.getD 0 0).toNat := ⟨_, rfl⟩
  by_cases h1 : (c0 : Int) = 92
  · have hy : escF l = some (l.getD 0 0, 1) := by rw [escF, if_pos ⟨h0, by rw [← hc0]; omega⟩]
    simp -dsimp -implicitDefEqProofs (disch := omega) only [go_sem, reqD_of, dec_t, dec_f, wrap_i64, wrap_u32, wrap_u64, wrap_u8, h0, hp', ← hc0, h1, hy]
    exact ⟨h, _, _, rfl, by rw [← hc0, h1]; rfl⟩
  by_cases h2 : (c0 : Int) = 39
  · have hy : escF l = some (l.getD 0 0, 1) := by rw [escF, if_pos ⟨h0, by rw [← hc0]; omega⟩]
    simp -dsimp -implicitDefEqProofs (disch := omega) only [go_sem, reqD_of, dec_t, dec_f, wrap_i64, wrap_u32, wrap_u64, wrap_u8, h0, hp', ← hc0, h1, h2, hy]
    exact ⟨h, _, _, rfl, by rw [← hc0, h2]; rfl⟩
  have hf1 : ¬ (l ≠ [] ∧ ((l.getD 0 0).toNat = 92 ∨ (l.getD 0 0).toNat = 39)) := by rw [← hc0]; omega
  by_cases h3 : (3 : Int) ≤ l.length
  case neg =>
    have hn : escF l = none := by rw [escF, if_neg hf1, if_neg (by omega)]
    simp -dsimp -implicitDefEqProofs (disch := omega) only [go_sem, reqD_of, dec_t, dec_f, wrap_i64, wrap_u32, wrap_u64, wrap_u8, h0, hp', ← hc0, h1, h2, h3]
    exact no _ _ rfl h hn
  by_cases h4 : (c0 : Int) = 120
  case neg =>
    have hn : escF l = none := by rw [escF, if_neg hf1, if_neg (by rw [← hc0]; omega)]
    simp -dsimp -implicitDefEqProofs (disch := omega) only [go_sem, reqD_of, dec_t, dec_f, wrap_i64, wrap_u32, wrap_u64, wrap_u8, h0, hp', ← hc0, h1, h2, h3, h4]
    exact no _ _ rfl h hn
  have hp1 : (1 : Int) < l.length := by omega
  have hp2 : (2 : Int) < l.length := by omega
  simp -dsimp -implicitDefEqProofs (disch := omega) only [go_sem, reqD_of, dec_t, dec_f, wrap_i64, wrap_u32, wrap_u64, wrap_u8, h0, hp', hp1, hp2, ← hc0, h1, h2, h3, h4]
  have b1 := hexI_lt (l.getD 1 0)
  have b2 := hexI_lt (l.getD 2 0)
  refine (indexByte_lib (l := sixteen) h.drew (l.getD 1 0)).mono ?_
  rintro e w1 ⟨k1, rfl⟩
  simp -dsimp -implicitDefEqProofs (disch := omega) only [go_sem, reqD_of, dec_t, dec_f, wrap_i64, wrap_u32, wrap_u64, wrap_u8, h0, hp', hp1, hp2, ← hc0]
  refine (indexByte_lib (l := sixteen) k1 (l.getD 2 0)).mono ?_
  rintro e w2 ⟨k2, rfl⟩
  have r1 : Lib.indexByte sixteen (l.getD 1 0) = hexI (l.getD 1 0) := rfl
  have r2 : Lib.indexByte sixteen (l.getD 2 0) = hexI (l.getD 2 0) := rfl
  rw [r1, r2]
  by_cases d1 : 0 ≤ hexI (l.getD 1 0)
  case neg =>
    have hn : escF l = none := by rw [escF, if_neg hf1, if_neg (fun k => d1 k.2.2.1)]
    simp -dsimp -implicitDefEqProofs (disch := omega) only [go_sem, reqD_of, dec_t, dec_f, wrap_i64, wrap_u32, wrap_u64, wrap_u8, d1]
    exact no _ _ rfl k2 hn
  by_cases d2 : 0 ≤ hexI (l.getD 2 0)
  case neg =>
    have hn : escF l = none := by rw [escF, if_neg hf1, if_neg (fun k => d2 k.2.2.2)]
    simp -dsimp -implicitDefEqProofs (disch := omega) only [go_sem, reqD_of, dec_t, dec_f, wrap_i64, wrap_u32, wrap_u64, wrap_u8, d1, d2]
    exact no _ _ rfl k2 hn
  have hy : escF l = some (hexB (l.getD 1 0) (l.getD 2 0), 3) := by rw [escF, if_neg hf1, if_pos ⟨by omega, by rw [← hc0]; omega, d1, d2⟩]
  simp -dsimp -implicitDefEqProofs (disch := omega) only [go_sem, reqD_of, dec_t, dec_f, wrap_i64, wrap_u32, wrap_u64, wrap_u8, d1, d2, hy]
  exact ⟨k2, _, _, rfl, by rw [or_digits _ _ d1 b1.2 d2 b2.2]; rfl⟩

/-- What stands in quotes, from the place behind the first one on (fuel); how many bytes it takes with the second one. -/
def quoF : Nat → List UInt8 → List UInt8 → Option (List UInt8 × Nat)
  | 0, _, _ => none
  | _ + 1, _, [] => none
  | n + 1, b, c :: l =>
    if c.toNat = 39 then some (b, 1)
    else if c.toNat = 92 then match escF l with
      | some (d, k) => (quoF n (b ++ [d]) (l.drop k)).map fun x => (x.1, x.2 + 1 + k)
      | none => none
    else (quoF n (b ++ [c]) l).map fun x => (x.1, x.2 + 1)
def quotesF (b : List UInt8) (l : List UInt8) : Option (List UInt8 × Nat) := (quoF l.length b (l.drop 1)).map fun x => (x.1, x.2 + 1)

theorem escF_k {l : List UInt8} {d : UInt8} {k : Nat} (h : escF l = some (d, k)) : 1 ≤ k ∧ k ≤ l.length := by
  unfold escF at h
  split at h
  · rename_i hx
    simp only [Option.some.injEq, Prod.mk.injEq] at h
    have := List.length_pos_iff.2 hx.1
    omega
  · split at h
    · simp only [Option.some.injEq, Prod.mk.injEq] at h
      omega
    · cases h

theorem quoF_more : ∀ (n m : Nat) (b l : List UInt8), l.length ≤ n → l.length ≤ m → quoF n b l = quoF m b l
  | 0, 0, _, _, _, _ => rfl
  | 0, m + 1, b, l, h, _ => by have : l = [] := List.eq_nil_of_length_eq_zero (by omega); subst this; rfl
  | n + 1, 0, b, l, _, h => by have : l = [] := List.eq_nil_of_length_eq_zero (by omega); subst this; rfl
  | n + 1, m + 1, b, [], _, _ => rfl
  | n + 1, m + 1, b, c :: l, h1, h2 => by
    simp only [List.length_cons] at h1 h2
    unfold quoF
    rw [quoF_more n m (b ++ [c]) l (by omega) (by omega)]
    split
    · rfl
    · split
      · cases he : escF l with
        | none => rfl
        | some x =>
          obtain ⟨d, k⟩ := x
          simp only
          rw [quoF_more n m (b ++ [d]) (l.drop k) (by simp; omega) (by simp; omega)]
      · rfl

/-- .. with as much fuel as is needed. -/
def quo (b l : List UInt8) : Option (List UInt8 × Nat) := quoF l.length b l
theorem quo_nil (b : List UInt8) : quo b [] = none := rfl
theorem quo_end {b l : List UInt8} {c : UInt8} (h : c.toNat = 39) : quo b (c :: l) = some (b, 1) := by simp [quo, quoF, h]
theorem quo_esc {b l : List UInt8} {c d : UInt8} {k : Nat} (h : c.toNat = 92) (he : escF l = some (d, k)) : quo b (c :: l) = (quo (b ++ [d]) (l.drop k)).map fun x => (x.1, x.2 + 1 + k) := by
  have hk := escF_k he
  simp only [quo, List.length_cons, quoF, h, he]
  rw [quoF_more l.length (l.drop k).length _ _ (by simp) (Nat.le_refl _)]
  simp
theorem quo_bad {b l : List UInt8} {c : UInt8} (h : c.toNat = 92) (he : escF l = none) : quo b (c :: l) = none := by simp [quo, quoF, h, he]
theorem quo_plain {b l : List UInt8} {c : UInt8} (h : c.toNat ≠ 39) (h' : c.toNat ≠ 92) : quo b (c :: l) = (quo (b ++ [c]) l).map fun x => (x.1, x.2 + 1) := by simp [quo, quoF, h, h']

end
section
attribute [local go_sem] F42.t3_eq F42.t4_eq
theorem quotes_any {w0 w : World} {A : HP} {v : Value} {b l : List UInt8} (h : St w0 (RowO 5 1 v b.length (b.map bv) * A) w) (hl : l.length ≤ 4294967296) (hb : b.length ≤ 4294967296) :
    Calls Tryd.prog 42 #[v, .string (strOf l)] w fun e w' =>
      (∃ r n u, quo b (l.drop 1) = some (r, n) ∧ r.length ≤ b.length + n ∧ n ≤ l.length ∧ St w0 (RowO 5 1 u r.length (r.map bv) * A) w' ∧ e = .returned (.tuple #[u, .int .i64 ((n + 1 : Nat))])) ∨
      (quo b (l.drop 1) = none ∧ St w0 A w' ∧ e = .panicked wordsP) := by
  obtain ⟨av, cv, rfl, _⟩ := h.rowForm v
  refine F42.calls (by simp) ?_
  unfold F42.code
  simp -dsimp -implicitDefEqProofs (disch := omega) only [go_sem, reqD_of, dec_t, dec_f, wrap_i64, wrap_u32, wrap_u64, wrap_u8]
  refine loop_intro (fun e w' => e.ds = [] ∧ e.ρ 1 = .string (strOf l) ∧ ∃ (i : Nat) (b' : List UInt8) (u : Value), 1 ≤ i ∧ e.ρ 6 = .int .i64 i ∧ e.ρ 0 = u ∧ b'.length ≤ b.length + i ∧ i ≤ l.length + 1 ∧
      quo b (l.drop 1) = (quo b' (l.drop i)).map (fun x => (x.1, x.2 + (i - 1))) ∧ St w0 (RowO 5 1 u b'.length (b'.map bv) * A) w')
    (fun e _ => match e.ρ 6 with | .int _ n => (l.length + 1 - n).toNat | _ => 0) ?_ ?_
  · exact ⟨rfl, by simp -dsimp -implicitDefEqProofs only [go_sem], 1, b, .slice av b.length cv, by omega, by simp -dsimp -implicitDefEqProofs only [go_sem], by simp -dsimp -implicitDefEqProofs only [go_sem], by omega, by omega, by simp, h⟩
  clear h
  rintro e w2 ⟨hd, e1, i, b', u, hi1, e6, e0, hbl, hil, hq, h2⟩
  obtain ⟨au, cu, rfl, _⟩ := h2.rowForm u
  by_cases hlt : (i : Int) < (l.length : Int)
  case neg =>
    have hdn : l.drop i = [] := List.drop_of_length_le (by omega)
    rw [hdn, quo_nil] at hq
    rw [Option.map_none] at hq
    simp -dsimp -implicitDefEqProofs (disch := omega) only [go_sem, reqD_of, dec_t, dec_f, wrap_i64, wrap_u32, wrap_u64, wrap_u8, hd, e1, e6, e0, hlt]
    rw [F42.t12_eq]
    simp -dsimp -implicitDefEqProofs (disch := omega) only [go_sem, reqD_of, dec_t, dec_f, wrap_i64, wrap_u32, wrap_u64, wrap_u8]
    refine onV_of (v := .agg #[]) (by kernel_rfl) ?_
    simp -dsimp -implicitDefEqProofs (disch := omega) only [go_sem, reqD_of, dec_t, dec_f, wrap_i64, wrap_u32, wrap_u64, wrap_u8]
    refine mkI_of (by kernel_rfl) ?_
    simp -dsimp -implicitDefEqProofs (disch := omega) only [go_sem, reqD_of, dec_t, dec_f, wrap_i64, wrap_u32, wrap_u64, wrap_u8]
    refine panic_of ?_
    simp -dsimp -implicitDefEqProofs (disch := omega) only [go_sem, reqD_of, dec_t, dec_f, wrap_i64, wrap_u32, wrap_u64, wrap_u8, hd, hq]
    exact .inr h2.right
  have hlt' : i < l.length := by omega
  have hdr : l.drop i = l[i] :: l.drop (i + 1) := List.drop_eq_getElem_cons hlt'
  have hgd : l.getD i 0 = l[i] := by simp [hlt']
  obtain ⟨c, hc⟩ : ∃ c, c = l[i] := ⟨_, rfl⟩
  rw [← hc] at hdr hgd
  rw [hdr] at hq
  obtain ⟨n, hn⟩ : ∃ n, n = c.toNat := ⟨_, rfl⟩
  by_cases c1 : (n : Int) = 39
  · rw [quo_end (by omega)] at hq
    simp -dsimp -implicitDefEqProofs (disch := omega) only [go_sem, reqD_of, dec_t, dec_f, wrap_i64, wrap_u32, wrap_u64, wrap_u8, hd, e1, e6, e0, hlt, hgd, ← hn, c1]
    exact ⟨b', i, .slice au b'.length cu, by rw [hq]; simp; omega, by omega, by omega, h2, by congr 3⟩
  by_cases c2 : (n : Int) = 92
  · have hx : ((l.length : Int) - ((i : Int) + 1)).toNat = l.length - (i + 1) := by omega
    simp -dsimp -implicitDefEqProofs (disch := omega) only [go_sem, reqD_of, dec_t, dec_f, wrap_i64, wrap_u32, wrap_u64, wrap_u8, hd, e1, e6, e0, hlt, hgd, ← hn, c1, c2]
    have hi1' : ((i : Int) + 1).toNat = i + 1 := by omega
    simp only [hi1', take_drop_all]
    refine (escaped_any (l := l.drop (i + 1)) h2 (by simp; omega)).mono ?_
    rintro e' w3 ⟨h3, ⟨d, k, he, rfl⟩ | ⟨he, rfl⟩⟩
    case inr =>
      rw [quo_bad (by omega) he] at hq
      rw [Option.map_none] at hq
      simp -dsimp -implicitDefEqProofs (disch := omega) only [go_sem, reqD_of, dec_t, dec_f, wrap_i64, wrap_u32, wrap_u64, wrap_u8, hd, hq]
      exact .inr h3.right
    rw [quo_esc (by omega) he] at hq
    have hk := escF_k he
    have hdl : (l.drop (i + 1)).length = l.length - (i + 1) := by simp
    rw [List.drop_drop] at hq
    simp -dsimp -implicitDefEqProofs (disch := omega) only [go_sem, reqD_of, dec_t, dec_f, wrap_i64, wrap_u32, wrap_u64, wrap_u8, hd, e1, e6, e0]
    refine h3.lit (t := 70) (cells := [.int .u8 (d.toNat : Int)]) fact_rowTy_70 rfl (by decide) (by decide) fun v8 w8 h8 => ?_
    obtain ⟨a8, c8, rfl, _⟩ := h8.rowForm v8
    simp -dsimp -implicitDefEqProofs (disch := omega) only [go_sem, reqD_of, dec_t, dec_f, wrap_i64, wrap_u32, wrap_u64, wrap_u8, hd, e1, e6, e0]
    refine h8.appR (v := .slice au b'.length cu) (x := .slice a8 1 c8) fact_rowTy_70 Tryd.underlying70 (fun u hu => by simp at hu; subst hu; rfl) (by simp) (show _ ≤ 9223372036854775807 by omega) (by omega) fun v9 w9 h9 => ?_
    obtain ⟨a9, c9, rfl, _⟩ := h9.rowForm v9
    simp -dsimp -implicitDefEqProofs (disch := omega) only [go_sem, reqD_of, dec_t, dec_f, wrap_i64, wrap_u32, wrap_u64, wrap_u8, hd, e1, e6, e0]
    have h11 : St w0 (RowO 5 1 (.slice a9 (b'.length + 1) c9) (b' ++ [d]).length ((b' ++ [d]).map bv) * A) w9 := by
      rw [show (b' ++ [d]).length = b'.length + 1 by simp, show (b' ++ [d]).map bv = b'.map bv ++ [.int .u8 (d.toNat : Int)] by simp; rfl]; exact h9.sub
    exact ⟨⟨i + 1 + k, b' ++ [d], .slice a9 (b'.length + 1) c9, by omega, by omega, rfl, by simp; omega, by omega, by rw [hq]; cases quo (b' ++ [d]) (l.drop (i + 1 + k)) <;> simp <;> omega, h11⟩, by omega⟩
  · simp -dsimp -implicitDefEqProofs (disch := omega) only [go_sem, reqD_of, dec_t, dec_f, wrap_i64, wrap_u32, wrap_u64, wrap_u8, hd, e1, e6, e0, hlt, hgd, ← hn, c1, c2]
    rw [quo_plain (by omega) (by omega)] at hq
    have h3 := h2
    refine h3.lit (t := 70) (cells := [.int .u8 (n : Int)]) fact_rowTy_70 rfl (by decide) (by decide) fun v8 w8 h8 => ?_
    obtain ⟨a8, c8, rfl, _⟩ := h8.rowForm v8
    simp -dsimp -implicitDefEqProofs (disch := omega) only [go_sem, reqD_of, dec_t, dec_f, wrap_i64, wrap_u32, wrap_u64, wrap_u8, hd, e1, e6, e0]
    refine h8.appR (v := .slice au b'.length cu) (x := .slice a8 1 c8) fact_rowTy_70 Tryd.underlying70 (fun u hu => by simp at hu; subst hu; rfl) (by simp) (show _ ≤ 9223372036854775807 by omega) (by omega) fun v9 w9 h9 => ?_
    obtain ⟨a9, c9, rfl, _⟩ := h9.rowForm v9
    simp -dsimp -implicitDefEqProofs (disch := omega) only [go_sem, reqD_of, dec_t, dec_f, wrap_i64, wrap_u32, wrap_u64, wrap_u8, hd, e1, e6, e0]
    have h11 : St w0 (RowO 5 1 (.slice a9 (b'.length + 1) c9) (b' ++ [c]).length ((b' ++ [c]).map bv) * A) w9 := by
      rw [show (b' ++ [c]).length = b'.length + 1 by simp, show (b' ++ [c]).map bv = b'.map bv ++ [.int .u8 (n : Int)] by rw [hn]; simp; rfl]; exact h9.sub
    exact ⟨⟨i + 1, b' ++ [c], .slice a9 (b'.length + 1) c9, by omega, by omega, rfl, by simp; omega, by omega, by rw [hq]; cases quo (b' ++ [c]) (l.drop (i + 1)) <;> simp <;> omega, h11⟩, by omega⟩

end
end Go.Proofs.YtlnlomjdooobdaaDoor
