/- Texts as lists of bytes; their characters; a text gone through; what the library's calls leave. -/
import Derived.Test.YtonajgmamdeohaaGreatDoorTx
import Derived.Test.YtonajgmamdeohaaGreatDoorRf
import Derived.Lib.OthersKept
import Derived.Laws.RangeAny
import Derived.Lib.DecodeN
import Derived.Lib.Strings
import Derived.Below
import Derived.Deep.Draws
namespace Go.Proofs.YtonajgmamdeohaaGreatDoor
open Go
set_option linter.unusedVariables false
set_option linter.unusedSimpArgs false

/-! ### Operations -/

theorem mk_strOf (l : List UInt8) : (⟨l.toArray⟩ : ByteArray) = strOf l := rfl
theorem strOf_data (l : List UInt8) : (strOf l).data.toList = l := by simp [strOf]
theorem strOf_toList (l : List UInt8) : (strOf l).toList = l := by rw [Lib.toList_data, strOf_data]
theorem strOf_size (l : List UInt8) : (strOf l).size = l.length := by rw [Lib.size_eq, strOf_data]
theorem strOf_eta (s : ByteArray) : strOf s.data.toList = s := by cases s; simp [strOf]
theorem strOf_append (a b : List UInt8) : strOf a ++ strOf b = strOf (a ++ b) := by
  have : ∀ x y : ByteArray, x.data.toList = y.data.toList → x = y := fun x y h => by rw [← strOf_eta x, ← strOf_eta y, h]
  apply this
  simp [strOf]
theorem strOf_extract (l : List UInt8) (i j : Nat) : (strOf l).extract i j = strOf ((l.drop i).take (j - i)) := by
  have : ∀ x y : ByteArray, x.data.toList = y.data.toList → x = y := fun x y h => by rw [← strOf_eta x, ← strOf_eta y, h]
  apply this
  rw [strOf_data, ByteArray.data_extract]
  simp [strOf]
theorem strEq_beq (a b : List UInt8) : (a == b) = decide (a = b) := by rw [Bool.eq_iff_iff]; simp

theorem take_drop_all (l : List UInt8) (i : Nat) : (l.drop i).take (l.length - i) = l.drop i := List.take_of_length_le (by simp)

theorem slice_ite {c : Nat} {a : Option Addr} : (if c = 0 then a else Option.map (fun x : Addr => x) a) = a := by
  split
  · rfl
  · cases a <;> rfl
theorem binV_sadd {P : Program} {T : TypeId} {a b : List UInt8} (h : a.length + b.length ≤ 9223372036854775807) : binV P .add T (.string (strOf a)) (.string (strOf b)) = some (.string (strOf (a ++ b))) := by
  have : (strOf a).size + (strOf b).size ≤ 9223372036854775807 := by rw [strOf_size, strOf_size]; exact h
  simp [binV, strV, this, strOf_append]

abbrev sv (l : List UInt8) : Value := .string (strOf l)

/-! ### Characters -/

/-- The first character: its number and its width. -/
def decL (l : List UInt8) : Nat × Nat := Lib.decodeN l.length (l.getD 0 0).toNat (l.getD 1 0).toNat (l.getD 2 0).toNat (l.getD 3 0).toNat

theorem get!_strOf (l : List UInt8) (i : Nat) : (strOf l).get! i = l.getD i 0 := by
  simp [ByteArray.get!, strOf]
  rcases Nat.lt_or_ge i l.length with h | h
  · simp [h]
  · simp [h]; rfl

theorem decode_strOf (l : List UInt8) (i : Nat) : Utf8.decode (strOf l) i = decL (l.drop i) := by
  rw [Lib.decode_at, strOf_size]
  simp only [get!_strOf, decL, List.length_drop, List.getD_eq_getElem?_getD, List.getElem?_drop, Nat.add_zero]

theorem decL_width (l : List UInt8) (h : l ≠ []) : 1 ≤ (decL l).2 ∧ (decL l).2 ≤ l.length ∧ (decL l).2 ≤ 4 := by
  have h1 : 1 ≤ l.length := List.length_pos_iff.2 h
  unfold decL Lib.decodeN
  split
  · exact ⟨by simp, h1, by simp⟩
  split
  · rename_i hx
    split <;> simp <;> omega
  split
  · split <;> simp <;> omega
  split
  · split <;> simp <;> omega
  · simp; omega

theorem decL_le (l : List UInt8) : (decL l).1 ≤ 1114111 := by
  have hb : ∀ k, (l.getD k 0).toNat < 256 := fun k => (l.getD k 0).toNat_lt
  have h0 := hb 0; have h1 := hb 1; have h2 := hb 2; have h3 := hb 3
  unfold decL Lib.decodeN
  split
  · simp only; omega
  split
  · split <;> simp only <;> omega
  split
  · split <;> simp only <;> omega
  split
  · split <;> simp only <;> omega
  · simp only; omega

/-- The characters of a text, with their widths (fuel: its length). -/
def chsF : Nat → List UInt8 → List (Nat × Nat)
  | 0, _ => []
  | n + 1, l => if l = [] then [] else decL l :: chsF n (l.drop (decL l).2)
def chs (l : List UInt8) : List (Nat × Nat) := chsF l.length l

theorem chsF_eq : ∀ (n m : Nat) (l : List UInt8), l.length ≤ n → l.length ≤ m → chsF n l = chsF m l
  | 0, 0, _, _, _ => rfl
  | 0, m + 1, l, h, _ => by have : l = [] := List.eq_nil_of_length_eq_zero (by omega); simp [chsF, this]
  | n + 1, 0, l, _, h => by have : l = [] := List.eq_nil_of_length_eq_zero (by omega); simp [chsF, this]
  | n + 1, m + 1, l, h1, h2 => by
    by_cases e : l = []
    · simp [chsF, e]
    · have hw := decL_width l e
      simp only [chsF, e, if_false]
      rw [chsF_eq n m _ (by simp; omega) (by simp; omega)]

theorem chs_nil : chs [] = [] := rfl
theorem chs_cons {l : List UInt8} (h : l ≠ []) : chs l = decL l :: chs (l.drop (decL l).2) := by
  have hw := decL_width l h
  unfold chs
  cases hl : l.length with
  | zero => omega
  | succ n =>
    simp only [chsF, h, if_false]
    rw [chsF_eq n _ _ (by simp; omega) (Nat.le_refl _)]

/-- The numbers of the characters. -/
def runes (l : List UInt8) : List Nat := (chs l).map (·.1)
theorem runes_nil : runes [] = [] := rfl
theorem runes_cons {l : List UInt8} (h : l ≠ []) : runes l = (decL l).1 :: runes (l.drop (decL l).2) := by simp [runes, chs_cons h]
theorem runes_le {l : List UInt8} {r : Nat} (h : r ∈ runes l) : r ≤ 1114111 := by
  generalize hn : l.length = n
  induction n using Nat.strongRecOn generalizing l with
  | _ n ih =>
    by_cases e : l = []
    · rw [e, runes_nil] at h; cases h
    · have hw := decL_width l e
      rw [runes_cons e] at h
      rcases List.mem_cons.1 h with h | h
      · rw [h]; exact decL_le l
      · exact ih _ (by simp; omega) h rfl
theorem runes_length (l : List UInt8) : (runes l).length ≤ l.length := by
  generalize hn : l.length = n
  induction n using Nat.strongRecOn generalizing l with
  | _ n ih =>
    by_cases e : l = []
    · rw [e, runes_nil]; simp
    · have hw := decL_width l e
      rw [runes_cons e, List.length_cons]
      have := ih _ (by simp; omega) (l.drop (decL l).2) rfl
      simp at this
      omega

/-! ### A text gone through -/

section
variable {P : Program} {w0 w : World} {A : HP} {C : HP → HP} {l : List UInt8}
theorem St.rangeS {T : TypeId} {K : Value → World → Prop} {θ : Tag K} (h : St w0 A w) (hu : P.underlying T = some .string)
    (hK : ∀ r w', St w0 (Blk r (.stringIter (strOf l) 0) * A) w' → K (.pointer (some ⟨r, 0, none⟩)) w') : semD P (kRange T (.string (strOf l))) w K θ :=
  ⟨_, _, run_range_string w T (strOf l) hu, hK _ _ (h.alloc (.stringIter (strOf l) 0))⟩

theorem St.nextS {r pos : Nat} {ty : TypeId} {K : Value → World → Prop} {θ : Tag K} (h : St w0 A w) [i : Hole (.blk r) A (Blk r (.stringIter (strOf l) pos)) C]
    (hd : ¬ pos < l.length → K (.tuple #[.bool false]) w)
    (hm : pos < l.length → ∀ w', St w0 (C (Blk r (.stringIter (strOf l) (pos + (decL (l.drop pos)).2)))) w' → K (.tuple #[.bool true, .int .i64 pos, .int .i32 (decL (l.drop pos)).1]) w') : semD P (kNext (.pointer (some ⟨r, 0, none⟩)) true ty) w K θ := by
  obtain ⟨R, hR, h'⟩ := h.out (.blk r)
  by_cases hlt : pos < l.length
  · refine ⟨_, _, Lib.run_next_any_at w r (strOf l) pos ty h'.blk (by rw [strOf_size]; exact hlt), ?_⟩
    rw [decode_strOf]
    refine hm hlt _ ?_
    rw [hR]
    have hlt' := (Array.getElem?_eq_some_iff.1 h'.blk).1
    exact h'.blk_turn rfl rfl rfl (by simp [World.iterAt]) (by simp [World.iterAt, hlt']) fun k hk hkl => by simp only [World.iterAt]; rw [Array.getElem?_setIfInBounds_ne (Ne.symm hk)]
  · exact ⟨_, _, Lib.run_next_end_at w r (strOf l) pos ty h'.blk (by rw [strOf_size]; exact hlt), hd hlt⟩

/-! ### What the library's calls leave -/

theorem St.of_below (h : St w0 A w) {w' : World} (hb : RowKit.Below w.heap.size w w') : St w0 A w' := by
  obtain ⟨x, lx, a⟩ := h.sat
  refine ⟨hb.os.trans h.os, hb.tape.trans h.tape, hb.output.trans h.output, trivial, Nat.le_trans h.size hb.size, x, fun b o e => ?_, a⟩
  have hx := lx b o e
  have hlt := (Array.getElem?_eq_some_iff.1 hx).1
  show w'.heap[b]? = some o
  rw [hb.block b hlt]
  exact hx
theorem St.atS {a : Option Addr} {n c : Nat} {xs : List Value} (h : St w0 A w) [i : Gives A (Reads 1 (.slice a n c) n xs)] {k : Nat} (hk : k < xs.length) : ∃ b o, a = some ⟨b, o, none⟩ ∧ w.cell? ⟨b, o + k, none⟩ = some xs[k] := by
  obtain ⟨x, l, _, a', c', hv, _, hr⟩ := (h.ent i.ent).sat
  simp only [Value.slice.injEq, true_and] at hv
  obtain ⟨rfl, rfl⟩ := hv
  rcases hr with hr | ⟨b, o, cur, T, fr, rfl, hb, hc⟩
  · rw [hr] at hk; simp at hk
  · refine ⟨b, o, rfl, ?_⟩
    have : w.heap[b]? = some (.cells cur T fr) := l _ _ hb
    simp only [World.cell?, this]
    rw [← List.getElem?_eq_getElem hk, ← hc k hk]
    simp
theorem St.of_drewN (h : St w0 A w) (q : Nat) : St w0 A (w.drewN q) := ⟨h.os, h.tape, h.output, trivial, h.size, h.sat⟩
end

attribute [go_sem] mk_strOf strOf_data strOf_toList strOf_size strOf_extract strOf_append strEq_beq take_drop_all List.drop_zero Nat.sub_zero slice_ite binV_sadd
end Go.Proofs.YtonajgmamdeohaaGreatDoor
