/- strings.Join, slices.Equal; whether a text is good. -/
import Derived.Test.YtlnlomjdooobdaaDoorNaA
namespace Go.Proofs.YtlnlomjdooobdaaDoor
open Go
set_option linter.unusedVariables false
set_option linter.unusedSimpArgs false
set_option maxRecDepth 100000

theorem extraJoin : Builder.Extra Tryd.prog layJoin_ren where
  sizeBuilder := by kernel_rfl
  liesBuilder := by kernel_rfl
  t5 := Tryd.underlying5
  a5 := Tryd.isAgg5
  z5 := Tryd.sizeOf5
  v5 := Tryd.zeroValue5
  infoByte := by kernel_rfl
  cellsByte := by kernel_rfl
  sizeByte := by kernel_rfl
  neB5 := by decide

abbrev joinL (ls : List (List UInt8)) : List UInt8 := Lib.join ls [47]

section
variable {w0 w : World} {A : HP}

/-- A slice of texts, read cell by cell. -/
theorem St.texts (h : St w0 A w) {v : Value} {ls : List (List UInt8)} (hr : Ent A (Reads 1 v ls.length (ls.map sv))) : ∃ a c, v = .slice a ls.length c ∧ ls.length ≤ c ∧ (ls = [] ∨ ∃ b o, a = some ⟨b, o, none⟩ ∧ b < w.heap.size ∧ ∀ j x, ls[j]? = some x → w.cell? ⟨b, o + j, none⟩ = some (.string (strOf x))) := by
  obtain ⟨x, l, _, a, c, rfl, hc, hx⟩ := (h.ent hr).sat
  refine ⟨a, c, rfl, hc, ?_⟩
  rcases hx with hx | ⟨b, o, cur, T, fr, rfl, hb, hk⟩
  · exact .inl (by simpa using hx)
  · refine .inr ⟨b, o, rfl, (Array.getElem?_eq_some_iff.1 (l _ _ hb)).1, fun j y hy => ?_⟩
    have hj : j < ls.length := (List.getElem?_eq_some_iff.1 hy).1
    rw [cell_of (l _ _ hb), hk j (by simpa using hj)]
    simp [hy]

theorem join_lib (h : St w0 A w) {v : Value} {ls : List (List UInt8)} (hr : Ent A (Reads 1 v ls.length (ls.map sv))) (hN : ls.length ≤ 140737488355328) (hlen : (joinL ls).length ≤ 140737488355328) :
    Calls Tryd.prog 34 #[v, .string (strOf [47])] w fun e w' => St w0 A w' ∧ e = .returned (.string (strOf (joinL ls))) := by
  obtain ⟨a, c, rfl, hc, hx⟩ := h.texts hr
  rcases hx with rfl | ⟨b, o, rfl, hb, hk⟩
  · refine (Any.strings_Join_none layJoin extraJoin a c (strOf [47]) w).mono ?_
    rintro e w' ⟨rfl, rfl⟩
    exact ⟨h, rfl⟩
  · have hm : (ls.map strOf).map (·.data.toList) = ls := by
      rw [List.map_map]
      conv => rhs; rw [← List.map_id ls]
      exact List.map_congr_left fun x _ => strOf_data x
    have := Any.strings_Join layJoin extraJoin b o c (ls.map strOf) (strOf [47]) w (fun j x hx => ?_) hb (by simpa using hN) (by simpa using hc) (by rw [hm, strOf_data]; exact hlen)
    · rw [hm, strOf_data, List.length_map] at this
      refine this.mono ?_
      rintro e w' ⟨rfl, hw⟩
      exact ⟨h.of_below hw, rfl⟩
    · simp only [List.getElem?_map] at hx
      cases hj : ls[j]? with
      | none => rw [hj] at hx; cases hx
      | some y =>
        rw [hj] at hx
        simp only [Option.map_some, Option.some.injEq] at hx
        rw [← hx]
        exact hk j y hj

theorem equal_lib (h : St w0 A w) {u v : Value} {xs ys : List (List UInt8)} (hu : Ent A (Reads 1 u xs.length (xs.map sv))) (hv : Ent A (Reads 1 v ys.length (ys.map sv))) (hx : xs.length ≤ 9223372036854775807) (hy : ys.length ≤ 9223372036854775807) :
    Calls Tryd.prog 36 #[u, v] w fun e w' => St w0 A w' ∧ e = .returned (.bool (decide (xs = ys))) := by
  obtain ⟨a1, c1, rfl, hc1, hk1⟩ := h.texts hu
  obtain ⟨a2, c2, rfl, hc2, hk2⟩ := h.texts hv
  by_cases hlen : xs.length = ys.length
  · rcases hk1 with rfl | ⟨b1, o1, rfl, _, hk1⟩
    · refine (Any.slices_Equal_string_empty layEqual a1 a2 c1 ys.length c2 w hy).mono ?_
      rintro e w' ⟨rfl, rfl⟩
      refine ⟨h, ?_⟩
      have : ys = [] := List.eq_nil_of_length_eq_zero (by simpa using hlen.symm)
      subst this
      rfl
    · rcases hk2 with rfl | ⟨b2, o2, rfl, _, hk2⟩
      · have : xs = [] := List.eq_nil_of_length_eq_zero (by simpa using hlen)
        subst this
        refine (Any.slices_Equal_string_empty layEqual (some ⟨b1, o1, none⟩) a2 c1 0 c2 w (by simp)).mono ?_
        rintro e w' ⟨rfl, rfl⟩
        exact ⟨h, rfl⟩
      · have cell : ∀ (ls : List (List UInt8)) b o, (∀ j x, ls[j]? = some x → w.cell? ⟨b, o + j, none⟩ = some (.string (strOf x))) → ∀ j, j < (ls.map strOf).length → w.cell? ⟨b, o + j, none⟩ = some (.string ((ls.map strOf).getD j ByteArray.empty)) := fun ls b o hk j hj => by
          have hj' : j < ls.length := by simpa using hj
          rw [hk j ls[j] (List.getElem?_eq_getElem hj')]
          simp [hj']
        refine (Any.slices_Equal_string layEqual b1 o1 xs.length c1 b2 o2 ys.length c2 (xs.map strOf) (ys.map strOf) w (by simp) (by simp) hx hy (cell xs b1 o1 hk1) (cell ys b2 o2 hk2)).mono ?_
        rintro e w' ⟨rfl, q, rfl⟩
        refine ⟨h.of_drewN q, ?_⟩
        rw [List.take_of_length_le (by simp), List.take_of_length_le (by simp)]
        congr 2
        rw [Bool.eq_iff_iff, decide_eq_true_iff, decide_eq_true_iff]
        constructor
        · intro hm
          have := congrArg (List.map fun s : ByteArray => s.data.toList) hm
          simpa [List.map_map, Function.comp_def, strOf_data] using this
        · rintro rfl; rfl
  · refine (Any.slices_Equal_string_lens layEqual a1 a2 xs.length c1 ys.length c2 w hlen).mono ?_
    rintro e w' ⟨rfl, rfl⟩
    refine ⟨h, ?_⟩
    have : ¬ xs = ys := fun e => hlen (by rw [e])
    simp [this]
end

/-! ### Is it a text? -/

/-- No character of it is NUL, or none. -/
def good (l : List UInt8) : Bool := (chs l).all fun x => !(x.1 == 0) && !(x.1 == 65533 && x.2 == 1)
theorem good_nil : good [] = true := rfl
theorem good_cons {l : List UInt8} (h : l ≠ []) : good l = ((!((decL l).1 == 0) && !((decL l).1 == 65533 && (decL l).2 == 1)) && good (l.drop (decL l).2)) := by
  unfold good
  rw [chs_cons h, List.all_cons]

section
attribute [local go_sem] F50.t6_eq F50.t3_eq F50.t10_eq
theorem bad_any {w0 w : World} {A : HP} (h : St w0 A w) [Gives A Tabs] {l : List UInt8} (hl : l.length ≤ 9223372036854775807) :
    Calls Tryd.prog 50 #[.string (strOf l)] w fun e w' => St w0 A w' ∧ ∃ k : Int, e = .returned (.int .i64 k) ∧ decide (k < 0) = good l := by
  refine F50.calls (by simp) ?_
  unfold F50.code
  simp -dsimp -implicitDefEqProofs (disch := omega) only [go_sem, reqD_of, dec_t, dec_f, wrap_i64, wrap_u32, wrap_u64, wrap_u8]
  refine h.rangeS (by kernel_rfl) fun r w1 h1 => ?_
  simp -dsimp -implicitDefEqProofs (disch := omega) only [go_sem, reqD_of, dec_t, dec_f, wrap_i64, wrap_u32, wrap_u64, wrap_u8]
  refine loop_intro (fun e w' => e.ds = [] ∧ e.ρ 0 = .string (strOf l) ∧ e.ρ 8 = .pointer (some ⟨r, 0, none⟩) ∧ ∃ pos : Nat, pos ≤ l.length ∧ good l = good (l.drop pos) ∧ St w0 (Blk r (.stringIter (strOf l) pos) * A) w')
    (fun e w' => match w'.heap[r]? with | some (.stringIter _ p) => l.length - p | _ => 0) ?_ ?_
  · exact ⟨rfl, by simp -dsimp -implicitDefEqProofs only [go_sem], by simp -dsimp -implicitDefEqProofs only [go_sem], 0, by omega, by simp, h1⟩
  · clear h1 h
    rintro e w2 ⟨hd, e0, e8, pos, hpos, hg, h2⟩
    simp -dsimp -implicitDefEqProofs (disch := omega) only [go_sem, reqD_of, dec_t, dec_f, wrap_i64, wrap_u32, wrap_u64, wrap_u8, hd, e0, e8]
    refine h2.nextS (fun hn => ?_) fun hm w3 h3 => ?_
    · have : l.drop pos = [] := List.drop_of_length_le (by omega)
      rw [this] at hg
      simp -dsimp -implicitDefEqProofs (disch := omega) only [go_sem, reqD_of, dec_t, dec_f, wrap_i64, wrap_u32, wrap_u64, wrap_u8, hd, e0, e8]
      exact ⟨h2.right, _, rfl, by rw [hg]; rfl⟩
    · have hne : l.drop pos ≠ [] := fun e => by have := congrArg List.length e; simp at this; omega
      have hw := decL_width _ hne
      have hle := decL_le (l.drop pos)
      have hdl : (l.drop pos).length = l.length - pos := by simp
      rw [good_cons hne, List.drop_drop] at hg
      obtain ⟨c, hc⟩ : ∃ c, c = (decL (l.drop pos)).1 := ⟨_, rfl⟩
      obtain ⟨n, hn⟩ : ∃ n, n = (decL (l.drop pos)).2 := ⟨_, rfl⟩
      rw [← hc] at hle hg
      rw [← hn] at hg hw h3
      rw [← hc]
      have m2 := h2.blk
      have m3 := h3.blk
      by_cases c0 : (c : Int) = 0
      · have : c = 0 := by omega
        simp -dsimp -implicitDefEqProofs (disch := omega) only [go_sem, reqD_of, dec_t, dec_f, wrap_i64, wrap_u32, wrap_u64, wrap_u8, hd, e0, e8, c0]
        exact ⟨h3.right, _, rfl, by rw [hg, this]; simp⟩
      · have c0' : ¬ c = 0 := by omega
        by_cases c1 : (c : Int) = 65533
        · have : c = 65533 := by omega
          simp -dsimp -implicitDefEqProofs (disch := omega) only [go_sem, reqD_of, dec_t, dec_f, wrap_i64, wrap_u32, wrap_u64, wrap_u8, hd, e0, e8, c0, c1]
          refine (decode_lib (l := l.drop pos) h3).mono ?_
          rintro e' w4 ⟨h4, rfl⟩
          have m4 := h4.blk
          simp only [hne, if_false, ← hn, ← hc]
          by_cases n1 : (n : Int) = 1
          · have : n = 1 := by omega
            simp -dsimp -implicitDefEqProofs (disch := omega) only [go_sem, reqD_of, dec_t, dec_f, wrap_i64, wrap_u32, wrap_u64, wrap_u8, hd, e0, e8, n1]
            exact ⟨h4.right, _, rfl, by rw [hg, this, ‹c = 65533›]; simp⟩
          · have : ¬ n = 1 := by omega
            simp -dsimp -implicitDefEqProofs (disch := omega) only [go_sem, reqD_of, dec_t, dec_f, wrap_i64, wrap_u32, wrap_u64, wrap_u8, hd, e0, e8, n1, m2, m4]
            exact ⟨⟨pos + n, by omega, by rw [hg]; simp [c0', this], h4⟩, by omega⟩
        · have : ¬ c = 65533 := by omega
          simp -dsimp -implicitDefEqProofs (disch := omega) only [go_sem, reqD_of, dec_t, dec_f, wrap_i64, wrap_u32, wrap_u64, wrap_u8, hd, e0, e8, c0, c1, m2, m3]
          exact ⟨⟨pos + n, by omega, by rw [hg]; simp [c0', this], h3⟩, by omega⟩

end

theorem good_any {w0 w : World} {A : HP} (h : St w0 A w) [Gives A Tabs] {l : List UInt8} (hl : l.length ≤ 9223372036854775807) :
    Calls Tryd.prog 30 #[.string (strOf l)] w fun e w' => St w0 A w' ∧ e = .returned (.bool (good l)) := by
  refine F30.calls (by simp) ?_
  unfold F30.code
  simp -dsimp -implicitDefEqProofs (disch := omega) only [go_sem, reqD_of, dec_t, dec_f, wrap_i64, wrap_u32, wrap_u64, wrap_u8]
  refine (bad_any h hl).mono ?_
  rintro e w1 ⟨h1, k, rfl, hk⟩
  simp -dsimp -implicitDefEqProofs (disch := omega) only [go_sem, reqD_of, dec_t, dec_f, wrap_i64, wrap_u32, wrap_u64, wrap_u8, hk]
  exact h1

/-! ### A file's name -/

def dots (l : List UInt8) : Bool := l == [] || l == [46] || l == [46, 46]
def okName (l : List UInt8) : Bool := !(dots l) && !(255 < l.length : Bool) && !((47 : UInt8) ∈ l : Bool) && good l

section
attribute [local go_sem] F27.t8_eq F27.t4_eq F27.t9_eq
theorem check_any {w0 w : World} {A : HP} (h : St w0 A w) [Gives A Tabs] {l : List UInt8} (hl : l.length ≤ 9223372036854775807) :
    Calls Tryd.prog 27 #[.string (strOf l)] w fun e w' => St w0 A w' ∧ e = .returned (.int .i64 (if okName l then 0 else 50)) := by
  refine F27.calls (by simp) ?_
  unfold F27.code
  by_cases h0 : l = []
  · have : okName l = false := by simp [okName, dots, h0]
    have e0 : decide (l = []) = true := by simp [h0]
    simp -dsimp -implicitDefEqProofs (disch := omega) only [go_sem, reqD_of, dec_t, dec_f, wrap_i64, wrap_u32, wrap_u64, wrap_u8, e0]
    simp only [this]
    exact ⟨h, rfl⟩
  by_cases h1 : l = [46]
  · have : okName l = false := by simp [okName, dots, h1]
    have e1 : decide (l = [46]) = true := by simp [h1]
    simp -dsimp -implicitDefEqProofs (disch := omega) only [go_sem, reqD_of, dec_t, dec_f, wrap_i64, wrap_u32, wrap_u64, wrap_u8, h0, e1]
    simp only [this]
    exact ⟨h, rfl⟩
  by_cases h2 : l = [46, 46]
  · have : okName l = false := by simp [okName, dots, h2]
    have e2 : decide (l = [46, 46]) = true := by simp [h2]
    simp -dsimp -implicitDefEqProofs (disch := omega) only [go_sem, reqD_of, dec_t, dec_f, wrap_i64, wrap_u32, wrap_u64, wrap_u8, h0, h1, e2]
    simp only [this]
    exact ⟨h, rfl⟩
  by_cases h3 : (255 : Int) < l.length
  · have : okName l = false := by simp [okName]; intros; omega
    simp -dsimp -implicitDefEqProofs (disch := omega) only [go_sem, reqD_of, dec_t, dec_f, wrap_i64, wrap_u32, wrap_u64, wrap_u8, h0, h1, h2, h3]
    simp only [this]
    exact ⟨h, rfl⟩
  simp -dsimp -implicitDefEqProofs (disch := omega) only [go_sem, reqD_of, dec_t, dec_f, wrap_i64, wrap_u32, wrap_u64, wrap_u8, h0, h1, h2, h3]
  refine (contains_lib h).mono ?_
  rintro e w1 ⟨hw1, rfl⟩
  by_cases h4 : (47 : UInt8) ∈ l
  · have : okName l = false := by simp [okName, h4]
    simp -dsimp -implicitDefEqProofs (disch := omega) only [go_sem, reqD_of, dec_t, dec_f, wrap_i64, wrap_u32, wrap_u64, wrap_u8, h0, h1, h2, h3, h4]
    simp only [this]
    exact ⟨hw1, rfl⟩
  simp -dsimp -implicitDefEqProofs (disch := omega) only [go_sem, reqD_of, dec_t, dec_f, wrap_i64, wrap_u32, wrap_u64, wrap_u8, h0, h1, h2, h3, h4]
  refine (good_any hw1 hl).mono ?_
  rintro e w2 ⟨hw2, rfl⟩
  cases h5 : good l with
  | false =>
    have : okName l = false := by simp [okName, h5]
    simp -dsimp -implicitDefEqProofs (disch := omega) only [go_sem, reqD_of, dec_t, dec_f, wrap_i64, wrap_u32, wrap_u64, wrap_u8, h5]
    simp only [this]
    exact ⟨hw2, rfl⟩
  | true =>
    have : okName l = true := by simp [okName, dots, h0, h1, h2, h4, h5]; omega
    simp -dsimp -implicitDefEqProofs (disch := omega) only [go_sem, reqD_of, dec_t, dec_f, wrap_i64, wrap_u32, wrap_u64, wrap_u8, h5]
    simp only [this]
    exact ⟨hw2, rfl⟩

end
end Go.Proofs.YtlnlomjdooobdaaDoor
