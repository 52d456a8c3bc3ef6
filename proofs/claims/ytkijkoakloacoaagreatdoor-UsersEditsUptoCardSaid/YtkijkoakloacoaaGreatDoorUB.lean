/- The library's calls, in the worlds' own words: Split, IndexByte, DecodeRuneInString. strings.Join; whether a text is good. users: need, name, key: how lines are checked, field by field. users: name, key, formed, once: how an account is checked. users: once, account, written. -/
import Derived.Test.YtkijkoakloacoaaGreatDoorUA
import Derived.Test.YtkijkoakloacoaaGreatDoorLay
import Derived.Test.YtkijkoakloacoaaGreatDoorIr
import Derived.Test.YtkijkoakloacoaaGreatDoorPn
import Derived.Test.YtkijkoakloacoaaGreatDoorAx
namespace Go.Proofs.YtkijkoakloacoaaGreatDoor
open Go
set_option linter.unusedVariables false
set_option linter.unusedSimpArgs false

/-! ### The tables -/

def Tabs : HP := fun h =>
  (∃ cur T fr, h 1 = some (.cells cur T fr) ∧ ∀ c, c < 256 → cur[c]? = some (.int .u8 (Lib.firstT c))) ∧
  (∃ cur T fr, h 2 = some (.cells cur T fr) ∧ ∀ i, i < 16 → cur[2 * i]? = some (.int .u8 (Lib.accLo i)) ∧ cur[2 * i + 1]? = some (.int .u8 (Lib.accHi i))) ∧
  (∃ cur T fr m, h 0 = some (.cells cur T fr) ∧ cur[0]? = some (.int .i64 m))

theorem cell_of {w : World} {b : Nat} {cur : Array Value} {T : TypeId} {fr : Nat × Nat} (h : heapOf w b = some (.cells cur T fr)) (i : Nat) : w.cell? ⟨b, i, none⟩ = cur[i]? := by
  have : w.heap[b]? = some (.cells cur T fr) := h
  simp [World.cell?, this]

section
variable {w0 w : World} {A : HP}
theorem St.tabs (h : St w0 A w) [i : Gives A Tabs] : Lib.Utf8Tabs 1 2 w := by
  obtain ⟨x, l, ⟨c1, T1, f1, h1, k1⟩, ⟨c2, T2, f2, h2, k2⟩, _⟩ := (h.ent i.ent).sat
  exact ⟨fun c hc => by rw [cell_of (l _ _ h1), k1 c hc], fun j hj => by rw [cell_of (l _ _ h2), cell_of (l _ _ h2)]; exact k2 j hj⟩
theorem St.maxLen (h : St w0 A w) [i : Gives A Tabs] : ∃ m, w.cell? ⟨0, 0, none⟩ = some (.int .i64 m) := by
  obtain ⟨x, l, _, _, ⟨c0, T0, f0, m, h0, k0⟩⟩ := (h.ent i.ent).sat
  exact ⟨m, by rw [cell_of (l _ _ h0), k0]⟩
end

/-! ### The calls -/

section
variable {w0 w : World} {A : HP}

theorem split_lib (d : UInt8) (h : St w0 A w) [i : Gives A Tabs] {l : List UInt8} (hl : l.length < 4294967281) :
    Calls Tryz.prog 29 #[.string (strOf l), .string (strOf [d])] w fun e w' => ∃ g, St w0 (RowO 9 1 (.slice (some ⟨g, 0, none⟩) (pcs d l).length (pcs d l).length) (pcs d l).length ((pcs d l).map sv) * A) w' ∧ e = .returned (.slice (some ⟨g, 0, none⟩) (pcs d l).length (pcs d l).length) := by
  obtain ⟨m, hm⟩ := h.maxLen
  have h1 : 1 ≤ (strOf [d]).size := by rw [strOf_size]; exact Nat.le_refl _
  have hlen : (Lib.splitB (strOf [d]) 0 (Lib.countB (strOf l) (strOf [d])) (strOf l)).length = Lib.countB (strOf l) (strOf [d]) + 1 := Lib.splitB_all _ h1 0 _ _ rfl
  rw [splitB_d d _ l (Nat.le_refl _), List.length_map] at hlen
  refine (Any.strings_Split laySplit (by kernel_rfl) (strOf l) (strOf [d]) m w (by rw [strOf_size]; exact hl) hm h1).mono ?_
  rintro e w' ⟨rfl, rfl⟩
  rw [splitB_d d _ l (Nat.le_refl _), ← hlen]
  refine ⟨_, (h.alloc _).ent (Ent.sep (Ent.trans ?_ (Row.rowO _ _ _ _ _)) (Ent.rfl' A)), rfl⟩
  have hp := pcs_length d l
  refine Ent.of fun x hx => .inr ⟨_, _, _, rfl, hx, Nat.le_refl _, ?_, by simp, ?_, by simp⟩
  · show _ ≤ 9223372036854775807
    omega
  · simp only [List.map_map, Nat.mul_one]
    rw [List.take_of_length_le (by simp)]
    rfl

theorem indexByte_lib (h : St w0 A w) {l : List UInt8} (c : UInt8) :
    Calls Tryz.prog 116 #[.string (strOf l), .int .u8 c.toNat] w fun e w' => St w0 A w' ∧ e = .returned (.int .i64 (Lib.indexByte l c)) := by
  refine (Any.strings_IndexByte layIndexByte (strOf l) (c.toNat : Int) w).mono ?_
  rintro e w' ⟨rfl, rfl⟩
  refine ⟨h, ?_⟩
  rw [strOf_data]
  simp

theorem decode_lib (h : St w0 A w) [i : Gives A Tabs] {l : List UInt8} :
    Calls Tryz.prog 111 #[.string (strOf l)] w fun e w' => St w0 A w' ∧ e = .returned (.tuple #[.int .i32 (if l = [] then 65533 else (decL l).1 : Nat), .int .i64 (if l = [] then 0 else (decL l).2 : Nat)]) := by
  refine (Any.utf8_DecodeRuneInString layDecode (strOf l) w h.tabs).mono ?_
  rintro e w' ⟨rfl, hb⟩
  refine ⟨h.of_below hb, ?_⟩
  have : Lib.decodeGo (strOf l) = if l = [] then (65533, 0) else decL l := by
    unfold Lib.decodeGo
    rw [strOf_size, decode_strOf]
    by_cases e : l = []
    · simp [e]
    · have : l.length ≠ 0 := fun h => e (List.eq_nil_of_length_eq_zero h)
      simp [e, this]
  rw [this]
  split <;> rfl
end
end Go.Proofs.YtkijkoakloacoaaGreatDoor

namespace Go.Proofs.YtkijkoakloacoaaGreatDoor
open Go
set_option linter.unusedVariables false
set_option linter.unusedSimpArgs false
set_option maxRecDepth 100000

theorem extraJoin : Builder.Extra Tryz.prog layJoin_ren where
  sizeBuilder := by kernel_rfl
  liesBuilder := by kernel_rfl
  t5 := Tryz.underlying5
  a5 := Tryz.isAgg5
  z5 := Tryz.sizeOf5
  v5 := Tryz.zeroValue5
  infoByte := by kernel_rfl
  cellsByte := by kernel_rfl
  sizeByte := by kernel_rfl
  neB5 := by decide

section
variable {w0 w : World} {A : HP}

/-- A slice of texts, read cell by cell. -/
theorem St.texts (h : St w0 A w) {v : Value} {ls : List (List UInt8)} (hr : Ent A (Reads 1 v ls.length (ls.map sv))) : ∃ a c, v = .slice a ls.length c ∧ ls.length ≤ c ∧ (ls = [] ∨ ∃ b o, a = some ⟨b, o, none⟩ ∧ b < w.heap.size ∧ ∀ j x, ls[j]? = some x → w.cell? ⟨b, o + j, none⟩ = some (.string (strOf x))) := by
  obtain ⟨x, l, _, a, c, rfl, hc, hx⟩ := (h.ent hr).sat
  refine ⟨a, c, rfl, hc, ?_⟩
  rcases hx with hx | ⟨b, o, cur, T, fr, rfl, hb, hk⟩
  · exact .inl (by simpa using hx)
  · refine .inr ⟨b, o, rfl, (Array.getElem?_eq_some_iff.1 (l _ _ hb)).1, fun j y hy => ?_⟩
    have hj : j < ls.length := (List.getElem?_eq_some_iff.1 hy).1
    rw [cell_of (l _ _ hb), hk j (by simpa using hj)]
    simp [hy]

theorem join_lib (d : UInt8) (h : St w0 A w) {v : Value} {ls : List (List UInt8)} (hr : Ent A (Reads 1 v ls.length (ls.map sv))) (hN : ls.length ≤ 140737488355328) (hlen : (joinD d ls).length ≤ 140737488355328) :
    Calls Tryz.prog 93 #[v, .string (strOf [d])] w fun e w' => St w0 A w' ∧ e = .returned (.string (strOf (joinD d ls))) := by
  obtain ⟨a, c, rfl, hc, hx⟩ := h.texts hr
  rcases hx with rfl | ⟨b, o, rfl, hb, hk⟩
  · refine (Any.strings_Join_none layJoin extraJoin a c (strOf [d]) w).mono ?_
    rintro e w' ⟨rfl, rfl⟩
    exact ⟨h, rfl⟩
  · have hm : (ls.map strOf).map (·.data.toList) = ls := by
      rw [List.map_map]
      conv => rhs; rw [← List.map_id ls]
      exact List.map_congr_left fun x _ => strOf_data x
    have := Any.strings_Join layJoin extraJoin b o c (ls.map strOf) (strOf [d]) w (fun j x hx => ?_) hb (by simpa using hN) (by simpa using hc) (by rw [hm, strOf_data]; exact hlen)
    · rw [hm, strOf_data, List.length_map] at this
      refine this.mono ?_
      rintro e w' ⟨rfl, hw⟩
      exact ⟨h.of_below hw, rfl⟩
    · simp only [List.getElem?_map] at hx
      cases hj : ls[j]? with
      | none => rw [hj] at hx; cases hx
      | some y =>
        rw [hj] at hx
        simp only [Option.map_some, Option.some.injEq] at hx
        rw [← hx]
        exact hk j y hj

end

section
attribute [local go_sem] F95.t6_eq F95.t3_eq F95.t10_eq
theorem bad_any {w0 w : World} {A : HP} (h : St w0 A w) [Gives A Tabs] {l : List UInt8} (hl : l.length ≤ 9223372036854775807) :
    Calls Tryz.prog 95 #[.string (strOf l)] w fun e w' => St w0 A w' ∧ ∃ k : Int, e = .returned (.int .i64 k) ∧ decide (k < 0) = good l := by
  refine F95.calls (by simp) ?_
  unfold F95.code
  simp -dsimp -implicitDefEqProofs (disch := omega) only [go_sem, reqD_of, dec_t, dec_f, wrap_i64, wrap_u32, wrap_u64, wrap_u8]
  refine h.rangeS (by kernel_rfl) fun r w1 h1 => ?_
  simp -dsimp -implicitDefEqProofs (disch := omega) only [go_sem, reqD_of, dec_t, dec_f, wrap_i64, wrap_u32, wrap_u64, wrap_u8]
  refine loop_intro (fun e w' => e.ds = [] ∧ e.ρ 0 = .string (strOf l) ∧ e.ρ 8 = .pointer (some ⟨r, 0, none⟩) ∧ ∃ pos : Nat, pos ≤ l.length ∧ good l = good (l.drop pos) ∧ St w0 (Blk r (.stringIter (strOf l) pos) * A) w')
    (fun e w' => match w'.heap[r]? with | some (.stringIter _ p) => l.length - p | _ => 0) ?_ ?_
  · exact ⟨rfl, by simp -dsimp -implicitDefEqProofs only [go_sem], by simp -dsimp -implicitDefEqProofs only [go_sem], 0, by omega, by simp, h1⟩
  · clear h1 h
    rintro e w2 ⟨hd, e0, e8, pos, hpos, hg, h2⟩
    simp -dsimp -implicitDefEqProofs (disch := omega) only [go_sem, reqD_of, dec_t, dec_f, wrap_i64, wrap_u32, wrap_u64, wrap_u8, hd, e0, e8]
    refine h2.nextS (fun hn => ?_) fun hm w3 h3 => ?_
    · have : l.drop pos = [] := List.drop_of_length_le (by omega)
      rw [this] at hg
      simp -dsimp -implicitDefEqProofs (disch := omega) only [go_sem, reqD_of, dec_t, dec_f, wrap_i64, wrap_u32, wrap_u64, wrap_u8, hd, e0, e8]
      exact ⟨h2.right, _, rfl, by rw [hg]; rfl⟩
    · have hne : l.drop pos ≠ [] := fun e => by have := congrArg List.length e; simp at this; omega
      have hw := decL_width _ hne
      have hle := decL_le (l.drop pos)
      have hdl : (l.drop pos).length = l.length - pos := by simp
      rw [good_cons hne, List.drop_drop] at hg
      obtain ⟨c, hc⟩ : ∃ c, c = (decL (l.drop pos)).1 := ⟨_, rfl⟩
      obtain ⟨n, hn⟩ : ∃ n, n = (decL (l.drop pos)).2 := ⟨_, rfl⟩
      rw [← hc] at hle hg
      rw [← hn] at hg hw h3
      rw [← hc]
      have m2 := h2.blk
      have m3 := h3.blk
      by_cases c0 : (c : Int) = 0
      · have : c = 0 := by omega
        simp -dsimp -implicitDefEqProofs (disch := omega) only [go_sem, reqD_of, dec_t, dec_f, wrap_i64, wrap_u32, wrap_u64, wrap_u8, hd, e0, e8, c0]
        exact ⟨h3.right, _, rfl, by rw [hg, this]; simp⟩
      · have c0' : ¬ c = 0 := by omega
        by_cases c1 : (c : Int) = 65533
        · have : c = 65533 := by omega
          simp -dsimp -implicitDefEqProofs (disch := omega) only [go_sem, reqD_of, dec_t, dec_f, wrap_i64, wrap_u32, wrap_u64, wrap_u8, hd, e0, e8, c0, c1]
          refine (decode_lib (l := l.drop pos) h3).mono ?_
          rintro e' w4 ⟨h4, rfl⟩
          have m4 := h4.blk
          simp only [hne, if_false, ← hn, ← hc]
          by_cases n1 : (n : Int) = 1
          · have : n = 1 := by omega
            simp -dsimp -implicitDefEqProofs (disch := omega) only [go_sem, reqD_of, dec_t, dec_f, wrap_i64, wrap_u32, wrap_u64, wrap_u8, hd, e0, e8, n1]
            exact ⟨h4.right, _, rfl, by rw [hg, this, ‹c = 65533›]; simp⟩
          · have : ¬ n = 1 := by omega
            simp -dsimp -implicitDefEqProofs (disch := omega) only [go_sem, reqD_of, dec_t, dec_f, wrap_i64, wrap_u32, wrap_u64, wrap_u8, hd, e0, e8, n1, m2, m4]
            exact ⟨⟨pos + n, by omega, by rw [hg]; simp [c0', this], h4⟩, by omega⟩
        · have : ¬ c = 65533 := by omega
          simp -dsimp -implicitDefEqProofs (disch := omega) only [go_sem, reqD_of, dec_t, dec_f, wrap_i64, wrap_u32, wrap_u64, wrap_u8, hd, e0, e8, c0, c1, m2, m3]
          exact ⟨⟨pos + n, by omega, by rw [hg]; simp [c0', this], h3⟩, by omega⟩

end

theorem good_any {w0 w : World} {A : HP} (h : St w0 A w) [Gives A Tabs] {l : List UInt8} (hl : l.length ≤ 9223372036854775807) :
    Calls Tryz.prog 81 #[.string (strOf l)] w fun e w' => St w0 A w' ∧ e = .returned (.bool (good l)) := by
  refine F81.calls (by simp) ?_
  unfold F81.code
  simp -dsimp -implicitDefEqProofs (disch := omega) only [go_sem, reqD_of, dec_t, dec_f, wrap_i64, wrap_u32, wrap_u64, wrap_u8]
  refine (bad_any h hl).mono ?_
  rintro e w1 ⟨h1, k, rfl, hk⟩
  simp -dsimp -implicitDefEqProofs (disch := omega) only [go_sem, reqD_of, dec_t, dec_f, wrap_i64, wrap_u32, wrap_u64, wrap_u8, hk]
  exact h1

end Go.Proofs.YtkijkoakloacoaaGreatDoor

namespace Go.Proofs.YtkijkoakloacoaaGreatDoor
open Go
set_option linter.unusedVariables false
set_option linter.unusedSimpArgs false
set_option maxRecDepth 100000

/-- What a line is given up on by. -/
abbrev trouble (e : Int) : List PanicEntry := [{ v := .iface 104 (.agg #[.int .i64 e]), recovered := false }]


theorem need_any (b : Bool) (e : Int) (w : World) : Calls Tryz.prog 31 #[.bool b, .int .i64 e] w fun x w' => w' = w ∧ ((b = true ∧ x = .returned (.tuple #[])) ∨ (b = false ∧ x = .panicked (trouble e))) := by
  refine F31.calls (by simp) ?_
  unfold F31.code
  cases b
  · simp -dsimp -implicitDefEqProofs (disch := omega) only [go_sem, reqD_of, dec_t, dec_f, wrap_i64, wrap_u32, wrap_u64, wrap_u8]
    refine onV_of (v := .agg #[.int .i64 e]) (by kernel_rfl) ?_
    simp -dsimp -implicitDefEqProofs (disch := omega) only [go_sem, reqD_of, dec_t, dec_f, wrap_i64, wrap_u32, wrap_u64, wrap_u8]
    refine mkI_of (by kernel_rfl) ?_
    simp -dsimp -implicitDefEqProofs (disch := omega) only [go_sem, reqD_of, dec_t, dec_f, wrap_i64, wrap_u32, wrap_u64, wrap_u8]
    refine panic_of ?_
    simp -dsimp -implicitDefEqProofs (disch := omega) only [go_sem, reqD_of, dec_t, dec_f, wrap_i64, wrap_u32, wrap_u64, wrap_u8]
  · simp -dsimp -implicitDefEqProofs (disch := omega) only [go_sem, reqD_of, dec_t, dec_f, wrap_i64, wrap_u32, wrap_u64, wrap_u8]

/-! ### Is a character one of ":,#/"? -/

theorem encode_last {n : Int} (h : 128 ≤ n) : ∃ l : List UInt8, Utf8.encode n = strOf l ∧ 2 ≤ l.length ∧ l.length ≤ 4 ∧ 128 ≤ (l.getD (l.length - 1) 0).toNat := by
  have key : ∀ c : Nat, 128 ≤ c → (128 : Nat) ≤ (UInt8.ofNat (0x80 + c % 64)).toNat := fun c _ => by
    rw [UInt8.toNat_ofNat']
    omega
  unfold Utf8.encode
  have hc : 128 ≤ (if Utf8.valid n then n.toNat else Utf8.runeError) := by
    split
    · omega
    · decide
  generalize (if Utf8.valid n then n.toNat else Utf8.runeError) = c at hc
  simp only
  rw [if_neg (by omega)]
  split
  · exact ⟨[_, _], rfl, by simp, by simp, key c hc⟩
  · split
    · exact ⟨[_, _, _], rfl, by simp, by simp, key c hc⟩
    · exact ⟨[_, _, _, _], rfl, by simp, by simp, key c hc⟩

def seps : List UInt8 := [58, 44, 35, 47]
def sepR (r : Nat) : Bool := r == 58 || r == 44 || r == 35 || r == 47
theorem indexByte_seps (c : UInt8) : decide (0 ≤ Lib.indexByte seps c) = sepR c.toNat := by
  have : ∀ n : Fin 256, decide (0 ≤ Lib.indexByte seps (UInt8.ofNat n.val)) = sepR (UInt8.ofNat n.val).toNat := by decide +kernel
  have h := this ⟨c.toNat, c.toNat_lt⟩
  simpa using h
theorem sepR_big {r : Nat} (h : 128 ≤ r) : sepR r = false := by
  simp only [sepR, Bool.or_eq_false_iff, beq_eq_false_iff_ne]
  omega

section
attribute [local go_sem] F117.t5_eq
theorem valid_any (n : Int) (w : World) : Calls Tryz.prog 117 #[.int .i32 n] w fun x w' => w' = w ∧ ∃ b, x = .returned (.bool b) := by
  refine F117.calls (by simp) ?_
  unfold F117.code
  by_cases h1 : 0 ≤ n
  · by_cases h2 : n < 55296
    · simp -dsimp -implicitDefEqProofs (disch := omega) only [go_sem, reqD_of, dec_t, dec_f, wrap_i64, wrap_u32, wrap_u64, wrap_u8, h1, h2]
      exact ⟨_, rfl⟩
    · by_cases h3 : 57343 < n
      · by_cases h4 : n ≤ 1114111
        · simp -dsimp -implicitDefEqProofs (disch := omega) only [go_sem, reqD_of, dec_t, dec_f, wrap_i64, wrap_u32, wrap_u64, wrap_u8, h1, h2, h3, h4]
          exact ⟨_, rfl⟩
        · simp -dsimp -implicitDefEqProofs (disch := omega) only [go_sem, reqD_of, dec_t, dec_f, wrap_i64, wrap_u32, wrap_u64, wrap_u8, h1, h2, h3, h4]
          exact ⟨_, rfl⟩
      · simp -dsimp -implicitDefEqProofs (disch := omega) only [go_sem, reqD_of, dec_t, dec_f, wrap_i64, wrap_u32, wrap_u64, wrap_u8, h1, h2, h3]
        exact ⟨_, rfl⟩
  · have h3 : ¬ 57343 < n := by omega
    simp -dsimp -implicitDefEqProofs (disch := omega) only [go_sem, reqD_of, dec_t, dec_f, wrap_i64, wrap_u32, wrap_u64, wrap_u8, h1, h3]
    exact ⟨_, rfl⟩

end
section
attribute [local go_sem] F96.t39_eq F96.t42_eq F96.t10_eq F96.t13_eq F96.t14_eq F96.t16_eq F96.t15_eq F96.t11_eq F96.t6_eq F96.t30_eq F96.t31_eq F96.t32_eq F96.t26_eq F96.t27_eq F96.t25_eq F96.t33_eq F96.t20_eq F96.t19_eq
theorem indexRune_any {w0 w : World} {A : HP} (h : St w0 A w) (r : Nat) (hr : r ≤ 1114111) :
    Calls Tryz.prog 96 #[.string (strOf [58, 44, 35, 47]), .int .i32 r] w fun e w' => St w0 A w' ∧ ∃ k : Int, e = .returned (.int .i64 k) ∧ decide (0 ≤ k) = sepR r := by
  refine F96.calls (by simp) ?_
  unfold F96.code
  have r0 : (0 : Int) ≤ r := by omega
  by_cases h1 : (r : Int) < 128
  · have hu : IntKind.u8.wrap (r : Int) = ((UInt8.ofNat r).toNat : Int) := by
      have : ∀ n : Fin 128, IntKind.u8.wrap ((n.val : Nat) : Int) = ((UInt8.ofNat n.val).toNat : Int) := by decide +kernel
      exact this ⟨r, by omega⟩
    have hv : (UInt8.ofNat r).toNat = r := by rw [UInt8.toNat_ofNat']; omega
    simp -dsimp -implicitDefEqProofs (disch := omega) only [go_sem, reqD_of, dec_t, dec_f, wrap_i64, wrap_u32, wrap_u64, wrap_u8, r0, h1, hu]
    refine (indexByte_lib (l := [58, 44, 35, 47]) h (UInt8.ofNat r)).mono ?_
    rintro e w1 ⟨k1, rfl⟩
    simp -dsimp -implicitDefEqProofs (disch := omega) only [go_sem, reqD_of, dec_t, dec_f, wrap_i64, wrap_u32, wrap_u64, wrap_u8]
    refine ⟨k1, _, rfl, ?_⟩
    have := indexByte_seps (UInt8.ofNat r)
    rw [hv] at this
    exact this
  have hb : sepR r = false := sepR_big (by omega)
  rw [hb]
  by_cases h2 : (r : Int) = 65533
  · simp -dsimp -implicitDefEqProofs (disch := omega) only [go_sem, reqD_of, dec_t, dec_f, wrap_i64, wrap_u32, wrap_u64, wrap_u8, r0, h1, h2]
    refine h.rangeS (by kernel_rfl) fun b w1 h1 => ?_
    simp -dsimp -implicitDefEqProofs (disch := omega) only [go_sem, reqD_of, dec_t, dec_f, wrap_i64, wrap_u32, wrap_u64, wrap_u8]
    refine loop_intro (fun e w' => e.ds = [] ∧ e.ρ 175 = .pointer (some ⟨b, 0, none⟩) ∧ ∃ pos : Nat, St w0 (Blk b (.stringIter (strOf [58, 44, 35, 47]) pos) * A) w')
      (fun e w' => match w'.heap[b]? with | some (.stringIter _ p) => 4 - p | _ => 0) ?_ ?_
    · exact ⟨rfl, by simp -dsimp -implicitDefEqProofs only [go_sem], 0, h1⟩
    · rintro e w2 ⟨hd, e8, pos, h2⟩
      simp -dsimp -implicitDefEqProofs (disch := omega) only [go_sem, reqD_of, dec_t, dec_f, wrap_i64, wrap_u32, wrap_u64, wrap_u8, hd, e8]
      refine h2.nextS (fun hn => ?_) fun hm w3 h3 => ?_
      · simp -dsimp -implicitDefEqProofs (disch := omega) only [go_sem, reqD_of, dec_t, dec_f, wrap_i64, wrap_u32, wrap_u64, wrap_u8, hd, e8]
        exact ⟨h2.right, _, rfl, by decide⟩
      · have hm' : pos < 4 := hm
        have m2 := h2.blk
        have m3 := h3.blk
        have hd4 : (decL (([58, 44, 35, 47] : List UInt8).drop pos)).1 ≠ 65533 ∧ (decL (([58, 44, 35, 47] : List UInt8).drop pos)).2 = 1 := by
          have : ∀ p : Fin 4, (decL (([58, 44, 35, 47] : List UInt8).drop p.val)).1 ≠ 65533 ∧ (decL (([58, 44, 35, 47] : List UInt8).drop p.val)).2 = 1 := by decide +kernel
          exact this ⟨pos, hm'⟩
        have hd5 : ¬ ((decL (([58, 44, 35, 47] : List UInt8).drop pos)).1 : Int) = 65533 := by have := hd4.1; omega
        rw [hd4.2] at h3 m3
        simp -dsimp -implicitDefEqProofs (disch := omega) only [go_sem, reqD_of, dec_t, dec_f, wrap_i64, wrap_u32, wrap_u64, wrap_u8, hd, e8, hd5, m2, m3]
        exact ⟨⟨_, h3⟩, by omega⟩
  simp -dsimp -implicitDefEqProofs (disch := omega) only [go_sem, reqD_of, dec_t, dec_f, wrap_i64, wrap_u32, wrap_u64, wrap_u8, r0, h1, h2]
  refine (valid_any r w).mono ?_
  rintro e w1 ⟨rfl, b, rfl⟩
  cases b
  · simp -dsimp -implicitDefEqProofs (disch := omega) only [go_sem, reqD_of, dec_t, dec_f, wrap_i64, wrap_u32, wrap_u64, wrap_u8]
    exact ⟨h, _, rfl, by decide⟩
  · obtain ⟨l, hl, l1, l2, l3⟩ := encode_last (n := r) (by omega)
    have hlt : (((l.length : Nat) : Int) - 1) < 4 := by omega
    obtain ⟨k, hk⟩ : ∃ k, k = l.length - 1 := ⟨_, rfl⟩
    have hk2 : ((l.length : Nat) : Int) - 1 = (k : Nat) := by omega
    have hk3 : k < 4 := by omega
    have hk4 : (k : Int) < 4 := by omega
    have hk5 : k < l.length := by omega
    have hk7 : (k : Int) < (([58, 44, 35, 47] : List UInt8).length : Nat) := by simp; omega
    have hk6 : (k : Int) < l.length := by omega
    rw [← hk] at l3
    obtain ⟨y, hy⟩ : ∃ y, y = (l.getD k 0).toNat := ⟨_, rfl⟩
    obtain ⟨x, hx⟩ : ∃ x, x = (([58, 44, 35, 47] : List UInt8).getD k 0).toNat := ⟨_, rfl⟩
    have hx8 : x < 128 := by
      have : ∀ p : Fin 4, (([58, 44, 35, 47] : List UInt8).getD p.val 0).toNat < 128 := by decide +kernel
      rw [hx]; exact this ⟨k, hk3⟩
    have hxy : ¬ (x : Int) = y := by omega
    simp -dsimp -implicitDefEqProofs (disch := omega) only [go_sem, reqD_of, dec_t, dec_f, wrap_i64, wrap_u32, wrap_u64, wrap_u8, hl, hk2]
    refine loop_intro (fun e w' => e.ds = [] ∧ w' = w1 ∧ e.ρ 0 = .string (strOf [58, 44, 35, 47]) ∧ e.ρ 7 = .string (strOf l) ∧ e.ρ 8 = .int .i64 k ∧ e.ρ 9 = .int .i64 k) (fun _ _ => 0) ?_ ?_
    · exact ⟨rfl, rfl, by simp -dsimp -implicitDefEqProofs only [go_sem], by simp -dsimp -implicitDefEqProofs only [go_sem], by simp -dsimp -implicitDefEqProofs only [go_sem], by simp -dsimp -implicitDefEqProofs only [go_sem]⟩
    rintro e w2 ⟨hd, rfl, e0, e7, e8, e9⟩
    simp -dsimp -implicitDefEqProofs (disch := omega) only [go_sem, reqD_of, dec_t, dec_f, wrap_i64, wrap_u32, wrap_u64, wrap_u8, hd, e0, e7, e8, e9, hk4, hk6, hk7, ← hx, ← hy, hxy]
    have hto : ((k : Int) + 1).toNat = k + 1 := by omega
    have hno : Lib.indexByte (([58, 44, 35, 47] : List UInt8).drop (k + 1)) (l.getD k 0) = -1 := by
      have : ∀ p : Fin 4, ∀ n : Fin 256, 128 ≤ n.val → Lib.indexByte (([58, 44, 35, 47] : List UInt8).drop (p.val + 1)) (UInt8.ofNat n.val) = -1 := by decide +kernel
      have h := this ⟨k, hk3⟩ ⟨(l.getD k 0).toNat, (l.getD k 0).toNat_lt⟩ l3
      simpa using h
    have hi := indexByte_lib (l := ([58, 44, 35, 47] : List UInt8).drop (k + 1)) h.drew.drew (l.getD k 0)
    rw [hno, ← hy] at hi
    rw [hto]
    refine hi.mono ?_
    rintro e' w3 ⟨k3, rfl⟩
    simp -dsimp -implicitDefEqProofs (disch := omega) only [go_sem, reqD_of, dec_t, dec_f, wrap_i64, wrap_u32, wrap_u64, wrap_u8, hd]
    exact ⟨k3, _, rfl, by decide⟩

end

theorem sep_any {w0 w : World} {A : HP} (h : St w0 A w) (r : Nat) (hr : r ≤ 1114111) :
    Calls Tryz.prog 82 #[.string (strOf [58, 44, 35, 47]), .int .i32 r] w fun e w' => St w0 A w' ∧ e = .returned (.bool (sepR r)) := by
  refine F82.calls (by simp) ?_
  unfold F82.code
  simp -dsimp -implicitDefEqProofs (disch := omega) only [go_sem, reqD_of, dec_t, dec_f, wrap_i64, wrap_u32, wrap_u64, wrap_u8]
  refine (indexRune_any h r hr).mono ?_
  rintro e w1 ⟨h1, k, rfl, hk⟩
  simp -dsimp -implicitDefEqProofs (disch := omega) only [go_sem, reqD_of, dec_t, dec_f, wrap_i64, wrap_u32, wrap_u64, wrap_u8, hk]
  exact h1
end Go.Proofs.YtkijkoakloacoaaGreatDoor

namespace Go.Proofs.YtkijkoakloacoaaGreatDoor
open Go
set_option linter.unusedVariables false
set_option linter.unusedSimpArgs false
set_option maxRecDepth 100000

section
attribute [local go_sem] F56.t5_eq F56.t8_eq F56.t3_eq
theorem name_any {w0 w : World} {A : HP} (h : St w0 A w) [Gives A Tabs] {l : List UInt8} :
    Calls Tryz.prog 56 #[.string (strOf l)] w fun e w' => St w0 A w' ∧ e = .returned (.bool (nameF l)) := by
  refine F56.calls (by simp) ?_
  unfold F56.code
  by_cases h0 : l = []
  · have hn : nameF l = false := by simp [nameF, h0]
    have e0 : decide (l = []) = true := by simp [h0]
    rw [hn]
    simp -dsimp -implicitDefEqProofs (disch := omega) only [go_sem, reqD_of, dec_t, dec_f, wrap_i64, wrap_u32, wrap_u64, wrap_u8, e0]
    exact h
  by_cases h1 : (32 : Int) < l.length
  · have hn : nameF l = false := by
      have : ¬ l.length ≤ 32 := by omega
      simp [nameF, this]
    rw [hn]
    simp -dsimp -implicitDefEqProofs (disch := omega) only [go_sem, reqD_of, dec_t, dec_f, wrap_i64, wrap_u32, wrap_u64, wrap_u8, h0, h1]
    exact h
  simp -dsimp -implicitDefEqProofs (disch := omega) only [go_sem, reqD_of, dec_t, dec_f, wrap_i64, wrap_u32, wrap_u64, wrap_u8, h0, h1]
  refine (good_any h (by omega)).mono ?_
  rintro e w1 ⟨k1, rfl⟩
  cases hg : good l
  · have hn : nameF l = false := by simp [nameF, hg]
    rw [hn]
    simp -dsimp -implicitDefEqProofs (disch := omega) only [go_sem, reqD_of, dec_t, dec_f, wrap_i64, wrap_u32, wrap_u64, wrap_u8]
    exact k1
  have hl : l.length ≤ 32 := by omega
  have hn : nameF l = (runes l).all fun r => !badR r := by
    have e0 : (l == []) = false := by simpa using h0
    simp [nameF, hg, hl, e0]
  rw [hn]
  simp -dsimp -implicitDefEqProofs (disch := omega) only [go_sem, reqD_of, dec_t, dec_f, wrap_i64, wrap_u32, wrap_u64, wrap_u8]
  refine k1.rangeS (by kernel_rfl) fun r w2 k2 => ?_
  simp -dsimp -implicitDefEqProofs (disch := omega) only [go_sem, reqD_of, dec_t, dec_f, wrap_i64, wrap_u32, wrap_u64, wrap_u8]
  refine loop_intro (fun e w' => e.ds = [] ∧ e.ρ 18 = .pointer (some ⟨r, 0, none⟩) ∧ ∃ pos : Nat, pos ≤ l.length ∧ ((runes l).all fun r => !badR r) = ((runes (l.drop pos)).all fun r => !badR r) ∧ St w0 (Blk r (.stringIter (strOf l) pos) * A) w')
    (fun e w' => match w'.heap[r]? with | some (.stringIter _ p) => l.length - p | _ => 0) ?_ ?_
  · exact ⟨rfl, by simp -dsimp -implicitDefEqProofs only [go_sem], 0, by omega, by simp, k2⟩
  clear k2 k1 h
  rintro e w2 ⟨hd, e8, pos, hpos, hq, h2⟩
  simp -dsimp -implicitDefEqProofs (disch := omega) only [go_sem, reqD_of, dec_t, dec_f, wrap_i64, wrap_u32, wrap_u64, wrap_u8, hd, e8]
  refine h2.nextS (fun hn => ?_) fun hm w3 h3 => ?_
  · have : l.drop pos = [] := List.drop_of_length_le (by omega)
    rw [this, runes_nil] at hq
    simp -dsimp -implicitDefEqProofs (disch := omega) only [go_sem, reqD_of, dec_t, dec_f, wrap_i64, wrap_u32, wrap_u64, wrap_u8, hd, e8]
    exact ⟨h2.right, by rw [hq]; rfl⟩
  · have hne : l.drop pos ≠ [] := fun e => by have := congrArg List.length e; simp at this; omega
    have hw := decL_width _ hne
    have hle := decL_le (l.drop pos)
    have hdl : (l.drop pos).length = l.length - pos := by simp
    rw [runes_cons hne, List.all_cons, List.drop_drop] at hq
    obtain ⟨c, hc⟩ : ∃ c, c = (decL (l.drop pos)).1 := ⟨_, rfl⟩
    obtain ⟨n, hn⟩ : ∃ n, n = (decL (l.drop pos)).2 := ⟨_, rfl⟩
    rw [← hc] at hle hq
    rw [← hn] at hq hw h3
    rw [← hc]
    have m2 := h2.blk
    have m3 := h3.blk
    by_cases c0 : (c : Int) < 33
    · have hb : badR c = true := by
        have : c < 33 := by omega
        simp [badR, this]
      simp -dsimp -implicitDefEqProofs (disch := omega) only [go_sem, reqD_of, dec_t, dec_f, wrap_i64, wrap_u32, wrap_u64, wrap_u8, hd, e8, c0]
      exact ⟨h3.right, by rw [hq, hb]; rfl⟩
    by_cases c1 : (c : Int) = 127
    · have hb : badR c = true := by
        have : c = 127 := by omega
        simp [badR, this]
      simp -dsimp -implicitDefEqProofs (disch := omega) only [go_sem, reqD_of, dec_t, dec_f, wrap_i64, wrap_u32, wrap_u64, wrap_u8, hd, e8, c0, c1]
      exact ⟨h3.right, by rw [hq, hb]; rfl⟩
    simp -dsimp -implicitDefEqProofs (disch := omega) only [go_sem, reqD_of, dec_t, dec_f, wrap_i64, wrap_u32, wrap_u64, wrap_u8, hd, e8, c0, c1]
    refine (sep_any h3 c hle).mono ?_
    rintro e' w4 ⟨h4, rfl⟩
    have m4 := h4.blk
    have hb : badR c = sepR c := by
      have i0 : ¬ c < 33 := by omega
      have i1 : (c == 127) = false := by rw [beq_eq_false_iff_ne]; omega
      simp [badR, sepR, i0, i1]
    cases hs : sepR c
    · simp -dsimp -implicitDefEqProofs (disch := omega) only [go_sem, reqD_of, dec_t, dec_f, wrap_i64, wrap_u32, wrap_u64, wrap_u8, hd, e8, m2, m4]
      exact ⟨⟨pos + n, by omega, by rw [hq, hb, hs]; rfl, h4⟩, by omega⟩
    · simp -dsimp -implicitDefEqProofs (disch := omega) only [go_sem, reqD_of, dec_t, dec_f, wrap_i64, wrap_u32, wrap_u64, wrap_u8, hd, e8]
      exact ⟨h4.right, by rw [hq, hb, hs]; rfl⟩

end
section
attribute [local go_sem] F78.t6_eq F78.t3_eq F78.t7_eq
theorem key_any {l : List UInt8} (hl : l.length ≤ 9223372036854775806) (w : World) :
    Calls Tryz.prog 78 #[.string (strOf l)] w fun e w' => w' = w ∧ e = .returned (.bool (keyF l)) := by
  refine F78.calls (by simp) ?_
  unfold F78.code
  simp -dsimp -implicitDefEqProofs (disch := omega) only [go_sem, reqD_of, dec_t, dec_f, wrap_i64, wrap_u32, wrap_u64, wrap_u8]
  refine loop_intro (fun e w' => e.ds = [] ∧ w' = w ∧ e.ρ 0 = .string (strOf l) ∧ e.ρ 5 = .int .i64 l.length ∧ ∃ i : Nat, i ≤ l.length ∧ e.ρ 6 = .int .i64 i ∧ keyF l = keyF' l i)
    (fun e _ => match e.ρ 6 with | .int _ n => (l.length - n).toNat | _ => 0) ?_ ?_
  · exact ⟨rfl, rfl, by simp -dsimp -implicitDefEqProofs only [go_sem], by simp -dsimp -implicitDefEqProofs only [go_sem], 0, by omega, by simp -dsimp -implicitDefEqProofs only [go_sem], rfl⟩
  rintro e w2 ⟨hd, rfl, e0, e5, i, hi, e6, hk⟩
  by_cases hlt : (i : Int) < (l.length : Int)
  case neg =>
    have : l.drop i = [] := List.drop_of_length_le (by omega)
    rw [keyF', this] at hk
    simp -dsimp -implicitDefEqProofs (disch := omega) only [go_sem, reqD_of, dec_t, dec_f, wrap_i64, wrap_u32, wrap_u64, wrap_u8, hd, e0, e5, e6, hlt]
    rw [hk]
    simp only [List.all_nil, Bool.true_and]
    exact decide_eq_decide.2 (by omega)
  have hlt' : i < l.length := by omega
  have hgd : l.getD i 0 = l[i] := by simp [hlt']
  have hdr : l.drop i = l[i] :: l.drop (i + 1) := List.drop_eq_getElem_cons hlt'
  obtain ⟨c, hc⟩ : ∃ c, c = l[i] := ⟨_, rfl⟩
  rw [← hc] at hgd hdr
  rw [keyF', hdr, List.all_cons] at hk
  obtain ⟨n, hn⟩ : ∃ n, n = c.toNat := ⟨_, rfl⟩
  rw [← hn] at hk
  by_cases c0 : (n : Int) < 33
  · have : ¬ 33 ≤ n := by omega
    simp -dsimp -implicitDefEqProofs (disch := omega) only [go_sem, reqD_of, dec_t, dec_f, wrap_i64, wrap_u32, wrap_u64, wrap_u8, hd, e0, e5, e6, hlt, hgd, ← hn, c0]
    rw [hk]; simp [this]
  by_cases c1 : (126 : Int) < n
  · have : ¬ n ≤ 126 := by omega
    simp -dsimp -implicitDefEqProofs (disch := omega) only [go_sem, reqD_of, dec_t, dec_f, wrap_i64, wrap_u32, wrap_u64, wrap_u8, hd, e0, e5, e6, hlt, hgd, ← hn, c0, c1]
    rw [hk]; simp [this]
  by_cases c2 : (n : Int) = 58
  · have : n = 58 := by omega
    simp -dsimp -implicitDefEqProofs (disch := omega) only [go_sem, reqD_of, dec_t, dec_f, wrap_i64, wrap_u32, wrap_u64, wrap_u8, hd, e0, e5, e6, hlt, hgd, ← hn, c0, c1, c2]
    rw [hk]; simp [this]
  have i0 : 33 ≤ n := by omega
  have i1 : n ≤ 126 := by omega
  have i2 : (n == 58) = false := by rw [beq_eq_false_iff_ne]; omega
  simp -dsimp -implicitDefEqProofs (disch := omega) only [go_sem, reqD_of, dec_t, dec_f, wrap_i64, wrap_u32, wrap_u64, wrap_u8, hd, e0, e5, e6, hlt, hgd, ← hn, c0, c1, c2]
  exact ⟨⟨i + 1, by omega, by omega, by rw [hk, keyF']; simp [i0, i1, i2]⟩, by omega⟩

/-! ### A list of texts is looked through -/

end
section
attribute [local go_sem] F91.t6_eq F91.t3_eq F91.t7_eq
theorem index_any {w0 w : World} {A : HP} (h : St w0 A w) {v : Value} {ls : List (List UInt8)} (hv : Ent A (Reads 1 v ls.length (ls.map sv))) (hl : ls.length ≤ 4294967296) (x : List UInt8) :
    Calls Tryz.prog 91 #[v, .string (strOf x)] w fun e w' => St w0 A w' ∧ ∃ k : Int, e = .returned (.int .i64 k) ∧ decide (0 ≤ k) = decide (x ∈ ls) := by
  obtain ⟨a, c, rfl, hc, hx⟩ := h.texts hv
  refine F91.calls (by simp) ?_
  unfold F91.code
  simp -dsimp -implicitDefEqProofs (disch := omega) only [go_sem, reqD_of, dec_t, dec_f, wrap_i64, wrap_u32, wrap_u64, wrap_u8]
  refine loop_intro (fun e w' => e.ds = [] ∧ w' = w ∧ e.ρ 0 = .slice a ls.length c ∧ e.ρ 1 = .string (strOf x) ∧ e.ρ 7 = .int .i64 ls.length ∧ ∃ i : Nat, i ≤ ls.length ∧ e.ρ 8 = .int .i64 i ∧ x ∉ ls.take i)
    (fun e _ => match e.ρ 8 with | .int _ n => (ls.length - n).toNat | _ => 0) ?_ ?_
  · exact ⟨rfl, rfl, by simp -dsimp -implicitDefEqProofs only [go_sem], by simp -dsimp -implicitDefEqProofs only [go_sem], by simp -dsimp -implicitDefEqProofs only [go_sem], 0, by omega, by simp -dsimp -implicitDefEqProofs only [go_sem], by simp⟩
  rintro e w2 ⟨hd, rfl, e0, e1, e7, i, hi, e8, hk⟩
  by_cases hlt : (i : Int) < (ls.length : Int)
  case neg =>
    rw [List.take_of_length_le (by omega)] at hk
    simp -dsimp -implicitDefEqProofs (disch := omega) only [go_sem, reqD_of, dec_t, dec_f, wrap_i64, wrap_u32, wrap_u64, wrap_u8, hd, e0, e1, e7, e8, hlt]
    exact ⟨h, _, rfl, by simp [hk]⟩
  have hlt' : i < ls.length := by omega
  rcases hx with rfl | ⟨b, o, rfl, _, hcell⟩
  · simp at hlt'
  have c0 := hcell i _ (List.getElem?_eq_getElem hlt')
  obtain ⟨q, hq⟩ : ∃ q, q = ls[i] := ⟨_, rfl⟩
  rw [← hq] at c0
  by_cases hxq : x = q
  · have e9 : decide (x = q) = true := by simp [hxq]
    simp -dsimp -implicitDefEqProofs (disch := omega) only [go_sem, reqD_of, dec_t, dec_f, wrap_i64, wrap_u32, wrap_u64, wrap_u8, hd, e0, e1, e7, e8, hlt, c0, e9]
    refine ⟨h, _, rfl, ?_⟩
    have : x ∈ ls := by rw [hxq, hq]; exact List.getElem_mem hlt'
    simp [this]
  · simp -dsimp -implicitDefEqProofs (disch := omega) only [go_sem, reqD_of, dec_t, dec_f, wrap_i64, wrap_u32, wrap_u64, wrap_u8, hd, e0, e1, e7, e8, hlt, c0, hxq]
    refine ⟨⟨i + 1, by omega, by omega, ?_⟩, by omega⟩
    rw [List.take_succ_eq_append_getElem hlt', ← hq]
    simp only [List.mem_append, List.mem_singleton, not_or]
    exact ⟨hk, hxq⟩

end

theorem contains_any {w0 w : World} {A : HP} (h : St w0 A w) {v : Value} {ls : List (List UInt8)} (hv : Ent A (Reads 1 v ls.length (ls.map sv))) (hl : ls.length ≤ 4294967296) (x : List UInt8) :
    Calls Tryz.prog 64 #[v, .string (strOf x)] w fun e w' => St w0 A w' ∧ e = .returned (.bool (decide (x ∈ ls))) := by
  refine F64.calls (by simp) ?_
  unfold F64.code
  simp -dsimp -implicitDefEqProofs (disch := omega) only [go_sem, reqD_of, dec_t, dec_f, wrap_i64, wrap_u32, wrap_u64, wrap_u8]
  refine (index_any h hv hl x).mono ?_
  rintro e w1 ⟨h1, k, rfl, hk⟩
  simp -dsimp -implicitDefEqProofs (disch := omega) only [go_sem, reqD_of, dec_t, dec_f, wrap_i64, wrap_u32, wrap_u64, wrap_u8, hk]
  exact h1

/-! ### An account -/

abbrev accL (a : Acc) (v : Value) : List Value := [sv a.name, sv a.leader, v, sv a.key]
abbrev accV (a : Acc) (v : Value) : Value := .agg (accL a v).toArray
abbrev ReadsT (v : Value) (ls : List (List UInt8)) : HP := Reads 1 v ls.length (ls.map sv)
/-- No text or list of it is beyond all bounds. -/
def Fit (a : Acc) : Prop := a.key.length ≤ 16777216 ∧ a.members.length ≤ 16777216
/-- What stands under "need" is so, or it is given up. -/
theorem need_st {w0 w : World} {A : HP} (h : St w0 A w) (b : Bool) (e : Int) : Calls Tryz.prog 31 #[.bool b, .int .i64 e] w fun x w' => St w0 A w' ∧ ((b = true ∧ x = .returned (.tuple #[])) ∨ (b = false ∧ x = .panicked (trouble e))) :=
  (need_any b e w).mono fun x w' ⟨hw, hx⟩ => ⟨hw ▸ h, hx⟩

section
attribute [local go_sem] F50.t7_eq F50.t5_eq F50.t8_eq
theorem formed_any {w0 w : World} {A : HP} (h : St w0 A w) [Gives A Tabs] {a : Acc} {v : Value} (hv : Ent A (ReadsT v a.members)) (hf : Fit a) :
    Calls Tryz.prog 50 #[accV a v] w fun e w' => St w0 A w' ∧ ((formF a = true ∧ e = .returned (.tuple #[])) ∨ (formF a = false ∧ e = .panicked (trouble 60))) := by
  obtain ⟨av, cv, rfl, hcv, hx⟩ := h.texts hv
  refine F50.calls (by simp) ?_
  unfold F50.code
  simp -dsimp -implicitDefEqProofs (disch := omega) only [go_sem, reqD_of, dec_t, dec_f, wrap_i64, wrap_u32, wrap_u64, wrap_u8]
  refine h.new fun P w1 h1 => ?_
  simp -dsimp -implicitDefEqProofs (disch := omega) only [go_sem, reqD_of, dec_t, dec_f, wrap_i64, wrap_u32, wrap_u64, wrap_u8, h1.cl P]
  refine (name_any h1).mono ?_
  rintro e w2 ⟨h2, rfl⟩
  simp -dsimp -implicitDefEqProofs (disch := omega) only [go_sem, reqD_of, dec_t, dec_f, wrap_i64, wrap_u32, wrap_u64, wrap_u8]
  refine (need_st h2 _ _).mono ?_
  rintro e w3 ⟨h3, ⟨n1, rfl⟩ | ⟨n1, rfl⟩⟩
  case inr =>
    have hn : formF a = false := by simp [formF, n1]
    simp -dsimp -implicitDefEqProofs (disch := omega) only [go_sem, reqD_of, dec_t, dec_f, wrap_i64, wrap_u32, wrap_u64, wrap_u8, hn]
    exact h3.right
  have hlist : (a.leader == ([] : List UInt8)) = decide (a.leader = []) := strEq_beq _ _
  by_cases hl : a.leader = []
  have e0 : decide (a.leader = []) = true := by simp [hl]
  simp -dsimp -implicitDefEqProofs (disch := omega) only [go_sem, reqD_of, dec_t, dec_f, wrap_i64, wrap_u32, wrap_u64, wrap_u8, h3.cl P, e0]
  refine (need_st h3 _ _).mono ?_
  rintro e w5 ⟨h5, ⟨_, rfl⟩ | ⟨n2, rfl⟩⟩
  case inr => cases n2
  have n2 : (a.leader == [] || nameF a.leader) = true := by simp [hl]
  simp -dsimp -implicitDefEqProofs (disch := omega) only [go_sem, reqD_of, dec_t, dec_f, wrap_i64, wrap_u32, wrap_u64, wrap_u8, h5.cl P]
  rotate_left
  simp -dsimp -implicitDefEqProofs (disch := omega) only [go_sem, reqD_of, dec_t, dec_f, wrap_i64, wrap_u32, wrap_u64, wrap_u8, h3.cl P, hl]
  refine (name_any h3).mono ?_
  rintro e w4 ⟨h4, rfl⟩
  simp -dsimp -implicitDefEqProofs (disch := omega) only [go_sem, reqD_of, dec_t, dec_f, wrap_i64, wrap_u32, wrap_u64, wrap_u8]
  refine (need_st h4 _ _).mono ?_
  rintro e w5 ⟨h5, ⟨n2, rfl⟩ | ⟨n2, rfl⟩⟩
  case inr =>
    have hn : formF a = false := by simp [formF, n2, hl]
    simp -dsimp -implicitDefEqProofs (disch := omega) only [go_sem, reqD_of, dec_t, dec_f, wrap_i64, wrap_u32, wrap_u64, wrap_u8, hn]
    exact h5.right
  replace n2 : (a.leader == [] || nameF a.leader) = true := by simp [n2]
  simp -dsimp -implicitDefEqProofs (disch := omega) only [go_sem, reqD_of, dec_t, dec_f, wrap_i64, wrap_u32, wrap_u64, wrap_u8, h5.cl P]
  all_goals
    refine loop_intro (fun e w' => e.ds = [] ∧ e.ρ 1 = .pointer (some ⟨P, 0, none⟩) ∧ e.ρ 18 = .slice av a.members.length cv ∧ e.ρ 19 = .int .i64 a.members.length ∧
        St w0 (Blk P (.cells #[sv a.name, sv a.leader, .slice av a.members.length cv, sv a.key] 72 (0, 0)) * A) w' ∧ ∃ i : Nat, i ≤ a.members.length ∧ e.ρ 20 = .int .i64 i ∧ a.members.all nameF = (a.members.drop i).all nameF)
      (fun e _ => match e.ρ 20 with | .int _ n => (a.members.length - n).toNat | _ => 0) ?_ ?_
    · exact ⟨rfl, by simp -dsimp -implicitDefEqProofs only [go_sem], by simp -dsimp -implicitDefEqProofs only [go_sem], by simp -dsimp -implicitDefEqProofs only [go_sem], h5, 0, by omega, by simp -dsimp -implicitDefEqProofs only [go_sem], rfl⟩
    clear h5 h3 h2 h1 hx
    rintro e w6 ⟨hd, e1, e18, e19, h6, i, hi, e20, hk⟩
    obtain ⟨hf1, hf2⟩ := hf
    by_cases hlt : (i : Int) < (a.members.length : Int)
    case neg =>
      have : a.members.drop i = [] := List.drop_of_length_le (by omega)
      rw [this, List.all_nil] at hk
      simp -dsimp -implicitDefEqProofs (disch := omega) only [go_sem, reqD_of, dec_t, dec_f, wrap_i64, wrap_u32, wrap_u64, wrap_u8, hd, e1, e18, e19, e20, hlt, h6.cl P]
      refine (key_any (by omega) w6).mono ?_
      rintro e w7 ⟨rfl, rfl⟩
      simp -dsimp -implicitDefEqProofs (disch := omega) only [go_sem, reqD_of, dec_t, dec_f, wrap_i64, wrap_u32, wrap_u64, wrap_u8]
      refine (need_st h6 _ _).mono ?_
      rintro e w8 ⟨h8, ⟨n3, rfl⟩ | ⟨n3, rfl⟩⟩
      · have hn : formF a = true := by simp only [formF, n1, n2, hk, n3, Bool.and_self]
        simp -dsimp -implicitDefEqProofs (disch := omega) only [go_sem, reqD_of, dec_t, dec_f, wrap_i64, wrap_u32, wrap_u64, wrap_u8, hd, hn]
        exact h8.right
      · have hn : formF a = false := by simp only [formF, n3, Bool.and_false]
        simp -dsimp -implicitDefEqProofs (disch := omega) only [go_sem, reqD_of, dec_t, dec_f, wrap_i64, wrap_u32, wrap_u64, wrap_u8, hd, hn]
        exact h8.right
    have hlt' : i < a.members.length := by omega
    obtain ⟨b, o, rfl, hcell⟩ := (h6.ent ((Ent.right _ _).trans hv)).atS (a := av) (n := a.members.length) (c := cv) (xs := a.members.map sv) (k := i) (by simpa using hlt')
    rw [List.getElem_map] at hcell
    have hdr : a.members.drop i = a.members[i] :: a.members.drop (i + 1) := List.drop_eq_getElem_cons hlt'
    obtain ⟨q, hq⟩ : ∃ q, q = a.members[i] := ⟨_, rfl⟩
    rw [← hq] at hdr hcell
    rw [hdr, List.all_cons] at hk
    simp -dsimp -implicitDefEqProofs (disch := omega) only [go_sem, reqD_of, dec_t, dec_f, wrap_i64, wrap_u32, wrap_u64, wrap_u8, hd, e1, e18, e19, e20, hlt, hcell]
    refine (name_any h6).mono ?_
    rintro e' w7 ⟨h7, rfl⟩
    simp -dsimp -implicitDefEqProofs (disch := omega) only [go_sem, reqD_of, dec_t, dec_f, wrap_i64, wrap_u32, wrap_u64, wrap_u8]
    refine (need_st h7 _ _).mono ?_
    rintro e' w8 ⟨h8, ⟨n3, rfl⟩ | ⟨n3, rfl⟩⟩
    · rw [n3, Bool.true_and] at hk
      simp -dsimp -implicitDefEqProofs (disch := omega) only [go_sem, reqD_of, dec_t, dec_f, wrap_i64, wrap_u32, wrap_u64, wrap_u8, hd, e1, e18, e19, e20]
      exact ⟨⟨h8, i + 1, by omega, by omega, hk⟩, by omega⟩
    · have hn : formF a = false := by rw [n3, Bool.false_and] at hk; simp only [formF, hk, Bool.and_false, Bool.false_and]
      simp -dsimp -implicitDefEqProofs (disch := omega) only [go_sem, reqD_of, dec_t, dec_f, wrap_i64, wrap_u32, wrap_u64, wrap_u8, hd, hn]
      exact h8.right
end
end Go.Proofs.YtkijkoakloacoaaGreatDoor

namespace Go.Proofs.YtkijkoakloacoaaGreatDoor
open Go
set_option linter.unusedVariables false
set_option linter.unusedSimpArgs false
set_option maxRecDepth 100000

theorem ReadsT.take {a : Option Addr} {c k : Nat} {ls : List (List UInt8)} (hk : k ≤ ls.length) : Ent (ReadsT (.slice a ls.length c) ls) (ReadsT (.slice a k c) (ls.take k)) := by
  have h := Reads.takeK (s := 1) (a := a) (c := c) (xs := ls.map sv) hk
  rw [slice_ite, Nat.sub_zero, Nat.mul_one, ← List.map_take] at h
  have hl : (ls.take k).length = k := by simp; omega
  unfold ReadsT
  rw [hl]
  exact h

theorem St.atG {w0 w : World} {A : HP} (h : St w0 A w) {g o n c : Nat} {xs : List Value} [i : Gives A (Reads 1 (.slice (some ⟨g, o, none⟩) n c) n xs)] {k : Nat} (hk : k < xs.length) : w.cell? ⟨g, o + k, none⟩ = some xs[k] := by
  obtain ⟨b, o', e, hc⟩ := h.atS (i := i) hk
  simp only [Option.some.injEq, Addr.mk.injEq, and_true] at e
  obtain ⟨rfl, rfl⟩ := e
  exact hc

section
attribute [local go_sem] F32.t5_eq F32.t3_eq
theorem once_any {w0 w : World} {A : HP} (h : St w0 A w) {a : Acc} {v : Value} (hv : Ent A (ReadsT v a.members)) (hf : Fit a) :
    Calls Tryz.prog 32 #[accV a v] w fun e w' => St w0 A w' ∧ ((onceF a = true ∧ e = .returned (.tuple #[])) ∨ (onceF a = false ∧ e = .panicked (trouble 61))) := by
  obtain ⟨av, cv, rfl, hcv, hx⟩ := h.texts hv
  refine F32.calls (by simp) ?_
  unfold F32.code
  simp -dsimp -implicitDefEqProofs (disch := omega) only [go_sem, reqD_of, dec_t, dec_f, wrap_i64, wrap_u32, wrap_u64, wrap_u8]
  refine h.new fun P w1 h1 => ?_
  simp -dsimp -implicitDefEqProofs (disch := omega) only [go_sem, reqD_of, dec_t, dec_f, wrap_i64, wrap_u32, wrap_u64, wrap_u8, h1.cl P]
  refine loop_intro (fun e w' => e.ds = [] ∧ e.ρ 1 = .pointer (some ⟨P, 0, none⟩) ∧ e.ρ 5 = .slice av a.members.length cv ∧ e.ρ 6 = .int .i64 a.members.length ∧
      St w0 (Blk P (.cells #[sv a.name, sv a.leader, .slice av a.members.length cv, sv a.key] 72 (0, 0)) * A) w' ∧ ∃ i : Nat, i ≤ a.members.length ∧ e.ρ 7 = .int .i64 i ∧ (a.members.take i).Nodup)
    (fun e _ => match e.ρ 7 with | .int _ n => (a.members.length - n).toNat | _ => 0) ?_ ?_
  · exact ⟨rfl, by simp -dsimp -implicitDefEqProofs only [go_sem], by simp -dsimp -implicitDefEqProofs only [go_sem], by simp -dsimp -implicitDefEqProofs only [go_sem], h1, 0, by omega, by simp -dsimp -implicitDefEqProofs only [go_sem], by simp⟩
  clear h1 hx
  rintro e w6 ⟨hd, e1, e5, e6, h6, i, hi, e7, hk⟩
  obtain ⟨hf1, hf2⟩ := hf
  by_cases hlt : (i : Int) < (a.members.length : Int)
  case neg =>
    rw [List.take_of_length_le (by omega)] at hk
    have hn : onceF a = true := decide_eq_true hk
    simp -dsimp -implicitDefEqProofs (disch := omega) only [go_sem, reqD_of, dec_t, dec_f, wrap_i64, wrap_u32, wrap_u64, wrap_u8, hd, e1, e5, e6, e7, hlt, hn]
    exact h6.right
  have hlt' : i < a.members.length := by omega
  obtain ⟨b, o, rfl, hcell⟩ := (h6.ent ((Ent.right _ _).trans hv)).atS (a := av) (n := a.members.length) (c := cv) (xs := a.members.map sv) (k := i) (by simpa using hlt')
  rw [List.getElem_map] at hcell
  obtain ⟨q, hq⟩ : ∃ q, q = a.members[i] := ⟨_, rfl⟩
  rw [← hq] at hcell
  simp -dsimp -implicitDefEqProofs (disch := omega) only [go_sem, reqD_of, dec_t, dec_f, wrap_i64, wrap_u32, wrap_u64, wrap_u8, hd, e1, e5, e6, e7, hlt, hcell, h6.cl P]
  rw [show (if cv = 0 then some (⟨b, o, none⟩ : Addr) else some ⟨b, o, none⟩) = some ⟨b, o, none⟩ from ite_self _]
  refine (contains_any (ls := a.members.take i) h6 ((Ent.right _ _).trans (hv.trans (ReadsT.take (by omega)))) (by simp; omega) q).mono ?_
  rintro e' w7 ⟨h7, rfl⟩
  simp -dsimp -implicitDefEqProofs (disch := omega) only [go_sem, reqD_of, dec_t, dec_f, wrap_i64, wrap_u32, wrap_u64, wrap_u8]
  refine (need_st h7 _ _).mono ?_
  rintro e' w8 ⟨h8, ⟨n3, rfl⟩ | ⟨n3, rfl⟩⟩
  · simp -dsimp -implicitDefEqProofs (disch := omega) only [go_sem, reqD_of, dec_t, dec_f, wrap_i64, wrap_u32, wrap_u64, wrap_u8, hd, e1, e5, e6, e7]
    refine ⟨⟨h8, i + 1, by omega, by omega, ?_⟩, by omega⟩
    rw [List.take_succ_eq_append_getElem hlt', ← hq, List.nodup_append]
    refine ⟨hk, by simp, fun x hx y hy => ?_⟩
    simp only [List.mem_singleton] at hy
    subst hy
    rintro rfl
    simp [hx] at n3
  · have hn : onceF a = false := by
      refine decide_eq_false fun hnd => ?_
      have hsub : (a.members.take (i + 1)).Nodup := hnd.sublist (List.take_sublist _ _)
      rw [List.take_succ_eq_append_getElem hlt', ← hq, List.nodup_append] at hsub
      have : q ∈ a.members.take i := by simpa using n3
      exact hsub.2.2 q this q (by simp) rfl
    simp -dsimp -implicitDefEqProofs (disch := omega) only [go_sem, reqD_of, dec_t, dec_f, wrap_i64, wrap_u32, wrap_u64, wrap_u8, hd, hn]
    exact h8.right

end

theorem account_end {w0 w : World} {A : HP} {P2 P4 : Nat} {z : Array Value} {a : Acc} {v : Value} {e : FA} {l : List UInt8} (hz : z.size = 4) (hd : e.ds = []) (e2 : e.ρ 2 = .pointer (some ⟨P2, 0, none⟩)) (e4 : e.ρ 4 = .pointer (some ⟨P4, 0, none⟩)) (hf : Fit a)
    (h : St w0 (RowO 9 1 v a.members.length (a.members.map sv) * (Blk P4 (.cells (accL a v).toArray 72 (0, 0)) * (Blk P2 (.cells z 72 (0, 0)) * A))) w) [Gives A Tabs] (ha : accF l = if formF a = true then some a else none) :
    cwE Tryz.prog F30.t6 (fnP Tryz.prog #[.cell 2 72] fun e w' => (∃ a v, accF l = some a ∧ Fit a ∧ St w0 (RowO 9 1 v a.members.length (a.members.map sv) * A) w' ∧ e = .returned (accV a v)) ∨ (accF l = none ∧ St w0 A w' ∧ e = .panicked (trouble 60))) e w := by
  rw [F30.t6_eq]
  have r4 := h.rowH P4 4 rfl
  obtain ⟨av, cv, rfl, _⟩ := h.rowForm v
  simp -dsimp -implicitDefEqProofs (disch := omega) only [go_sem, reqD_of, dec_t, dec_f, wrap_i64, wrap_u32, wrap_u64, wrap_u8, hd, e2, e4, r4]
  refine (formed_any (a := a) (v := .slice av a.members.length cv) h ((Ent.left _ _).trans (RowO.reads _ _ _ _ _)) hf).mono ?_
  rintro e' w1 ⟨h1, ⟨n1, rfl⟩ | ⟨n1, rfl⟩⟩
  case inr =>
    rw [n1, if_neg (by simp)] at ha
    simp -dsimp -implicitDefEqProofs (disch := omega) only [go_sem, reqD_of, dec_t, dec_f, wrap_i64, wrap_u32, wrap_u64, wrap_u8, hd, ha]
    exact .inr h1.right.right.right
  rw [n1, if_pos rfl] at ha
  have r4 := h1.rowH P4 4 rfl
  simp -dsimp -implicitDefEqProofs (disch := omega) only [go_sem, reqD_of, dec_t, dec_f, wrap_i64, wrap_u32, wrap_u64, wrap_u8, hd, e2, e4, r4, h1.cl P4]
  refine h1.stoAll (b := P2) (n := 4) (cs := accL a (.slice av a.members.length cv)) rfl hz (fun v hv => by simp at hv; rcases hv with rfl | rfl | rfl | rfl <;> rfl) fun w2 h2 => ?_
  have r2 := h2.rowH P2 4 rfl
  simp -dsimp -implicitDefEqProofs (disch := omega) only [go_sem, reqD_of, dec_t, dec_f, wrap_i64, wrap_u32, wrap_u64, wrap_u8, hd, e2, e4, r2]
  refine resC_1 (a := ⟨P2, 0, none⟩) (v := accV a (.slice av a.members.length cv)) (by simp -dsimp -implicitDefEqProofs only [go_sem, e2]) (run_loadVar_row (by kernel_rfl) r2) ?_
  exact .inl ⟨a, _, ha, hf, h2.sub, rfl⟩


theorem account_any {w0 w : World} {A : HP} (h : St w0 A w) [Gives A Tabs] {l : List UInt8} (hl : l.length ≤ 16777215) :
    Calls Tryz.prog 30 #[.string (strOf l)] w fun e w' =>
      (∃ a v, accF l = some a ∧ Fit a ∧ St w0 (RowO 9 1 v a.members.length (a.members.map sv) * A) w' ∧ e = .returned (accV a v)) ∨ (accF l = none ∧ St w0 A w' ∧ e = .panicked (trouble 60)) := by
  refine F30.calls (by simp) ?_
  unfold F30.code
  simp -dsimp -implicitDefEqProofs (disch := omega) only [go_sem, reqD_of, dec_t, dec_f, wrap_i64, wrap_u32, wrap_u64, wrap_u8]
  refine h.new fun P2 w1 h1 => ?_
  simp -dsimp -implicitDefEqProofs (disch := omega) only [go_sem, reqD_of, dec_t, dec_f, wrap_i64, wrap_u32, wrap_u64, wrap_u8]
  refine (split_lib 58 h1 (by omega)).mono ?_
  rintro e w2 ⟨g, h2, rfl⟩
  simp -dsimp -implicitDefEqProofs (disch := omega) only [go_sem, reqD_of, dec_t, dec_f, wrap_i64, wrap_u32, wrap_u64, wrap_u8]
  refine (need_st h2 _ _).mono ?_
  rintro e w3 ⟨h3, ⟨n1, rfl⟩ | ⟨n1, rfl⟩⟩
  case inr =>
    have hn : accF l = none := by
      have : ¬ (pcs 58 l).length = 4 := by have := of_decide_eq_false n1; omega
      rw [accF, if_neg (fun x => this x.1)]
    simp -dsimp -implicitDefEqProofs (disch := omega) only [go_sem, reqD_of, dec_t, dec_f, wrap_i64, wrap_u32, wrap_u64, wrap_u8, hn]
    exact .inr (h3.right.right)
  have n2 : (pcs 58 l).length = 4 := by have := of_decide_eq_true n1; omega
  have htot := pcs_total 58 l
  obtain ⟨f0, f1, f2, f3, hf⟩ : ∃ f0 f1 f2 f3, pcs 58 l = [f0, f1, f2, f3] := by
    match hm : pcs 58 l, n2 with
    | [a, b, c, d], _ => exact ⟨a, b, c, d, rfl⟩
  have hraw : rawF l = ⟨f0, f1, membersF f2, f3⟩ := by simp [rawF, hf]
  rw [hf] at h3 htot
  simp only [List.map_cons, List.map_nil, List.sum_cons, List.sum_nil, List.length_cons, List.length_nil, Nat.zero_add, Nat.reduceAdd] at h3 htot
  rw [hf]
  simp only [List.length_cons, List.length_nil, Nat.zero_add, Nat.reduceAdd]
  have cc : ∀ {B : HP} {w' : World}, St w0 B w' → Gives B (RowO 9 1 (.slice (some ⟨g, 0, none⟩) 4 4) 4 [sv f0, sv f1, sv f2, sv f3]) →
      w'.cell? ⟨g, 0, none⟩ = some (sv f0) ∧ w'.cell? ⟨g, 1, none⟩ = some (sv f1) ∧ w'.cell? ⟨g, 2, none⟩ = some (sv f2) ∧ w'.cell? ⟨g, 3, none⟩ = some (sv f3) := fun {B w'} hw gi => by
    have i2 : Gives B (Reads 1 (.slice (some ⟨g, 0, none⟩) 4 4) 4 [sv f0, sv f1, sv f2, sv f3]) := ⟨gi.ent.trans (RowO.reads _ _ _ _ _)⟩
    have c0 := hw.atG (i := i2) (k := 0) (by simp)
    have c1 := hw.atG (i := i2) (k := 1) (by simp)
    have c2 := hw.atG (i := i2) (k := 2) (by simp)
    have c3 := hw.atG (i := i2) (k := 3) (by simp)
    simpa using ⟨c0, c1, c2, c3⟩
  obtain ⟨c0, c1, c2, c3⟩ := cc h3.drew inferInstance
  simp -dsimp -implicitDefEqProofs (disch := omega) only [go_sem, reqD_of, dec_t, dec_f, wrap_i64, wrap_u32, wrap_u64, wrap_u8, c0, c1, c2, c3]
  refine onV_of (v := accV ⟨f0, f1, [], f3⟩ (.slice none 0 0)) (by kernel_rfl) ?_
  simp -dsimp -implicitDefEqProofs (disch := omega) only [go_sem, reqD_of, dec_t, dec_f, wrap_i64, wrap_u32, wrap_u64, wrap_u8]
  refine h3.drew.new fun P4 w4 h4 => ?_
  obtain ⟨d0, d1, d2, d3⟩ := cc h4 inferInstance
  simp -dsimp -implicitDefEqProofs (disch := omega) only [go_sem, reqD_of, dec_t, dec_f, wrap_i64, wrap_u32, wrap_u64, wrap_u8, d0, d1, d2, d3]
  refine h4.stoAll (b := P4) (n := 4) (cs := accL ⟨f0, f1, [], f3⟩ (.slice none 0 0)) rfl rfl (fun v hv => by simp at hv; rcases hv with rfl | rfl | rfl | rfl <;> rfl) fun w5 h5 => ?_
  clear c0 c1 c2 c3 d0 d1 d2 d3 h1 h2 h3 h4
  obtain ⟨c0, c1, c2, c3⟩ := cc h5 inferInstance
  have haf : ∀ ms, membersF f2 = ms → accF l = if formF ⟨f0, f1, ms, f3⟩ = true then some ⟨f0, f1, ms, f3⟩ else none := fun ms hm => by
    unfold accF
    rw [hraw, hm, n2]
    simp
  by_cases hf2 : f2 = []
  · have e0 : decide (f2 = []) = true := by simp [hf2]
    have hm : membersF f2 = [] := by rw [membersF, if_pos hf2]
    simp -dsimp -implicitDefEqProofs (disch := omega) only [go_sem, reqD_of, dec_t, dec_f, wrap_i64, wrap_u32, wrap_u64, wrap_u8, c0, c1, c2, c3, e0]
    have h6 : St w0 (Blk P4 (.cells (accL ⟨f0, f1, [], f3⟩ (.slice none 0 0)).toArray 72 (0, 0)) * (Blk P2 (.cells #[sv [], sv [], .slice none 0 0, sv []] 72 (0, 0)) * A)) w5 := h5.sub
    exact account_end (P2 := P2) (P4 := P4) (a := ⟨f0, f1, [], f3⟩) (v := .slice none 0 0) rfl rfl (by simp -dsimp -implicitDefEqProofs only [go_sem]) (by simp -dsimp -implicitDefEqProofs only [go_sem]) ⟨by simp; omega, by simp⟩ (h6.nilR 9 1) (haf _ hm)
  · have hm : membersF f2 = pcs 44 f2 := by rw [membersF, if_neg hf2]
    have hpl := pcs_length 44 f2
    simp -dsimp -implicitDefEqProofs (disch := omega) only [go_sem, reqD_of, dec_t, dec_f, wrap_i64, wrap_u32, wrap_u64, wrap_u8, c0, c1, c2, c3, hf2]
    refine (split_lib 44 h5 (by omega)).mono ?_
    rintro e w6 ⟨g2, h6, rfl⟩
    obtain ⟨ms, hms⟩ : ∃ ms, ms = pcs 44 f2 := ⟨_, rfl⟩
    rw [← hms] at h6 hm hpl
    rw [← hms]
    simp -dsimp -implicitDefEqProofs (disch := omega) only [go_sem, reqD_of, dec_t, dec_f, wrap_i64, wrap_u32, wrap_u64, wrap_u8]
    refine h6.sto (b := P4) (off := 2) (by simp) rfl fun w7 h7 => ?_
    simp only [List.setIfInBounds_toArray, List.set_cons_succ, List.set_cons_zero] at h7
    simp -dsimp -implicitDefEqProofs (disch := omega) only [go_sem, reqD_of, dec_t, dec_f, wrap_i64, wrap_u32, wrap_u64, wrap_u8]
    have h8 : St w0 (RowO 9 1 (.slice (some ⟨g2, 0, none⟩) ms.length ms.length) ms.length (ms.map sv) * (Blk P4 (.cells (accL ⟨f0, f1, ms, f3⟩ (.slice (some ⟨g2, 0, none⟩) ms.length ms.length)).toArray 72 (0, 0)) * (Blk P2 (.cells #[sv [], sv [], .slice none 0 0, sv []] 72 (0, 0)) * A))) w7 := h7.sub
    exact account_end (P2 := P2) (P4 := P4) (a := ⟨f0, f1, ms, f3⟩) (v := .slice (some ⟨g2, 0, none⟩) ms.length ms.length) rfl rfl (by simp -dsimp -implicitDefEqProofs only [go_sem]) (by simp -dsimp -implicitDefEqProofs only [go_sem]) ⟨by simp; omega, by simp; omega⟩ h8 (haf _ hm)

/-- All that an account's line has. -/
def rowLen (a : Acc) : Nat := (rowF a).length
theorem rowLen_eq (a : Acc) : (rowF a).length = a.name.length + a.leader.length + (joinD 44 a.members).length + a.key.length + 3 := by
  unfold rowF
  have e : joinD 58 [a.key] = a.key := by rw [joinD, Lib.join_one]
  rw [joinD_two, joinD_two, joinD_two, e]
  simp
  omega


theorem written_any {w0 w : World} {A : HP} (h : St w0 A w) {a : Acc} {v : Value} (hv : Ent A (ReadsT v a.members)) (hf : Fit a) (hl : (rowF a).length ≤ 70368744177664) :
    Calls Tryz.prog 71 #[accV a v] w fun e w' => St w0 A w' ∧ e = .returned (.string (strOf (lineF a))) := by
  obtain ⟨av, cv, rfl, hcv, hx⟩ := h.texts hv
  obtain ⟨hf1, hf2⟩ := hf
  have hlen := rowLen_eq a
  refine F71.calls (by simp) ?_
  unfold F71.code
  simp -dsimp -implicitDefEqProofs (disch := omega) only [go_sem, reqD_of, dec_t, dec_f, wrap_i64, wrap_u32, wrap_u64, wrap_u8]
  refine h.new fun P w1 h1 => ?_
  simp -dsimp -implicitDefEqProofs (disch := omega) only [go_sem, reqD_of, dec_t, dec_f, wrap_i64, wrap_u32, wrap_u64, wrap_u8, h1.cl P, h1.drew.cl P]
  refine (join_lib 44 h1.drew ((Ent.right _ _).trans hv) (by omega) (by omega)).mono ?_
  rintro e w2 ⟨h2, rfl⟩
  simp -dsimp -implicitDefEqProofs (disch := omega) only [go_sem, reqD_of, dec_t, dec_f, wrap_i64, wrap_u32, wrap_u64, wrap_u8, h2.cl P]
  refine h2.lit (t := 22) (cells := [sv a.name, sv a.leader, sv (joinD 44 a.members), sv a.key]) fact_rowTy_22 rfl (by decide) (by decide) fun v3 w3 h3 => ?_
  obtain ⟨a3, c3, rfl, _⟩ := h3.rowForm v3
  simp -dsimp -implicitDefEqProofs (disch := omega) only [go_sem, reqD_of, dec_t, dec_f, wrap_i64, wrap_u32, wrap_u64, wrap_u8, h3.cl P]
  refine (join_lib 58 (ls := [a.name, a.leader, joinD 44 a.members, a.key]) h3 ((Ent.left _ _).trans (RowO.reads _ _ _ _ _)) (by simp) (by show (rowF a).length ≤ _; omega)).mono ?_
  rintro e w4 ⟨h4, rfl⟩
  simp -dsimp -implicitDefEqProofs (disch := omega) only [go_sem, reqD_of, dec_t, dec_f, wrap_i64, wrap_u32, wrap_u64, wrap_u8, h4.cl P, binV_sadd (P := Tryz.prog) (T := 9) (a := joinD 58 [a.name, a.leader, joinD 44 a.members, a.key]) (b := [10]) (by show (rowF a).length + 1 ≤ _; omega)]
  exact ⟨h4.right.right, rfl⟩
end Go.Proofs.YtkijkoakloacoaaGreatDoor
