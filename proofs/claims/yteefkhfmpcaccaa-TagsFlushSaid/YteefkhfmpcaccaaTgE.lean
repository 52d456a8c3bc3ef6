/- The tags statements: a run in memory; taken, begins. -/
import Derived.Test.YteefkhfmpcaccaaTgD
namespace Go.Proofs.Yteefkhfmpcaccaa
open Go
set_option linter.unusedSimpArgs false
set_option linter.unusedVariables false
set_option maxRecDepth 100000

def thC (x : Thing) : List Value := [.int .u16 x.tag, .bool x.fl, .int .i64 x.nm, .bool x.cn, .bool x.dc, .bool x.an, .bool x.wr]
theorem thC_length (x : Thing) : (thC x).length = 7 := rfl
theorem thC_cells (x : Thing) : ∀ v ∈ thC x, isCell v = true := cells_of rfl

theorem flatMap_set {α : Type} {enc : α → List Value} {s : Nat} (hk : ∀ x, (enc x).length = s) {x' : α} {v : Value} {j : Nat} (hj : j < s) : ∀ (l : List α) (k : Nat) (hi : k < l.length), enc x' = (enc (l[k]'hi)).set j v → (l.flatMap enc).set (k * s + j) v = (l.set k x').flatMap enc
  | [], k, hi, _ => by simp at hi
  | y :: l, 0, hi, h => by
    simp only [List.getElem_cons_zero] at h
    rw [Nat.zero_mul, Nat.zero_add, List.flatMap_cons, List.set_cons_zero, List.flatMap_cons, h, List.set_append_left _ _ (by rw [hk]; exact hj)]
  | y :: l, k + 1, hi, h => by
    simp only [List.getElem_cons_succ] at h
    have hi' : k < l.length := by simpa using hi
    rw [List.flatMap_cons, List.set_cons_succ, List.flatMap_cons, List.set_append_right _ _ (by rw [hk, Nat.add_mul]; omega), hk, show (k + 1) * s + j - s = k * s + j by rw [Nat.add_mul]; omega, flatMap_set hk hj l k hi' h]

theorem St.rowSetF {w0 w : World} {A : HP} {C : HP → HP} {T s g o n c k j p : Nat} {v : Value} {α : Type} {enc : α → List Value} {l : List α} {K : World → Prop} {θ : Tag K} (h : St w0 A w) [i : Hole (.row (.slice (some ⟨g, o, none⟩) n c)) A (RowO T s (.slice (some ⟨g, o, none⟩) n c) n (l.flatMap enc)) C]
    (hk : ∀ x, (enc x).length = s) (hi : k < l.length) (hj : j < s) (x' : α) (hx : enc x' = (enc (l[k]'hi)).set j v) (hp : p = o + (k * s + j)) (hc : isCell v = true)
    (hK : ∀ w', St w0 (C (RowO T s (.slice (some ⟨g, o, none⟩) n c) n ((l.set k x').flatMap enc))) w' → K w') : storeD (some 1) (.pointer (some ⟨g, p, none⟩)) v w K θ := by
  subst hp
  refine h.rowSet1 (n := n) (c := c) (xs := l.flatMap enc) ?_ hc fun w' h' => hK w' ?_
  · rw [flatMap_length hk]
    have : (k + 1) * s ≤ l.length * s := Nat.mul_le_mul_right s hi
    rw [Nat.add_mul] at this
    omega
  · rw [← flatMap_set hk hj l k hi hx]
    exact h'

abbrev rnB (B : Nat) (v1 v2 : Value) (sd : Int) : Obj := .cells #[.pointer (some ⟨B, 0, none⟩), v1, v2, .int .i64 sd] 33 (0, 0)
def RnP (W B : Nat) (t : TbD) (l : List Thing) (h : List Int) (sd : Int) : HP := HP.ex fun x : Value × Value => Blk W (rnB B x.1 x.2 sd) * (RowO 39 7 x.1 l.length (l.flatMap thC) * (RowO 3 1 x.2 h.length (intR h) * TbP B t))
instance (W B : Nat) (t : TbD) (l : List Thing) (h : List Int) (sd : Int) : Face (.obj W) (RnP W B t l h sd) := ⟨⟩
theorem RnP.open {w0 w : World} {W B : Nat} {t : TbD} {l : List Thing} {h : List Int} {sd : Int} {F : HP} (x : St w0 (RnP W B t l h sd * F) w) : ∃ a1 c1 a2 c2, St w0 (Blk W (rnB B (.slice a1 l.length c1) (.slice a2 h.length c2) sd) * (RowO 39 7 (.slice a1 l.length c1) l.length (l.flatMap thC) * (RowO 3 1 (.slice a2 h.length c2) h.length (intR h) * (TbP B t * F)))) w := by
  obtain ⟨⟨v1, v2⟩, x⟩ := x.exF
  have y : St w0 (Blk W (rnB B v1 v2 sd) * (RowO 39 7 v1 l.length (l.flatMap thC) * (RowO 3 1 v2 h.length (intR h) * (TbP B t * F)))) w := x.ac (by ac_rfl)
  obtain ⟨a1, c1, rfl, _⟩ := y.rowForm v1
  obtain ⟨a2, c2, rfl, _⟩ := y.rowForm v2
  exact ⟨a1, c1, a2, c2, y⟩
theorem RnP.col {w0 w : World} {A R1 R2 R3 R4 : HP} {W B n1 n2 : Nat} {v1 v2 : Value} {t : TbD} {l : List Thing} {h : List Int} {sd : Int} (x : St w0 A w) (e1 : n1 = l.length) (e2 : n2 = h.length)
    [i1 : Pull A (Blk W (rnB B v1 v2 sd)) R1] [i2 : Pull R1 (RowO 39 7 v1 n1 (l.flatMap thC)) R2] [i3 : Pull R2 (RowO 3 1 v2 n2 (intR h)) R3] [i4 : Pull R3 (TbP B t) R4] : St w0 (RnP W B t l h sd * R4) w := by
  subst e1 e2
  have y : St w0 ((Blk W (rnB B v1 v2 sd) * (RowO 39 7 v1 l.length (l.flatMap thC) * (RowO 3 1 v2 h.length (intR h) * TbP B t))) * R4) w := x.ac (by rw [i1.eq, i2.eq, i3.eq, i4.eq]; ac_rfl)
  exact y.ent (Ent.sep (Ent.ex (fun x : Value × Value => Blk W (rnB B x.1 x.2 sd) * (RowO 39 7 x.1 l.length (l.flatMap thC) * (RowO 3 1 x.2 h.length (intR h) * TbP B t))) (v1, v2)) (Ent.rfl' R4))
/-- A thing's cells. -/
theorem thAt {w0 w : World} {A : HP} {a : Option Addr} {c : Nat} {l : List Thing} (h : St w0 A w) [i : Gives A (Reads 7 (.slice a l.length c) l.length (l.flatMap thC))] {k : Nat} (hk : k < l.length) : ∃ b o, a = some ⟨b, o, none⟩ ∧ rowV w ⟨b, o + k * 7, none⟩ 7 = some (.agg (thC (l[k]'hk)).toArray) ∧ ∀ j, j < 7 → w.cell? ⟨b, o + k * 7 + j, none⟩ = (thC (l[k]'hk))[j]? := by
  obtain ⟨_, a', c', hv, _, hcl⟩ := St.rowsAt (k := 7) thC_length (by decide) (h.gives (B := Reads 7 (.slice a l.length c) l.length (l.flatMap thC)))
  simp only [Value.slice.injEq, true_and] at hv
  obtain ⟨rfl, rfl⟩ := hv
  exact hcl k hk
theorem hoAt {w0 w : World} {A : HP} {a : Option Addr} {c : Nat} {l : List Int} (h : St w0 A w) [i : Gives A (Reads 1 (.slice a l.length c) l.length (intR l))] {k : Nat} (hk : k < l.length) : ∃ b o, a = some ⟨b, o, none⟩ ∧ w.cell? ⟨b, o + k, none⟩ = some (encI (l[k]'hk)) := by
  obtain ⟨a', c', hv, hcl⟩ := intsAt h i.ent
  simp only [Value.slice.injEq, true_and] at hv
  obtain ⟨rfl, rfl⟩ := hv
  exact hcl k hk

section
attribute [local go_sem] F56.t4_eq F56.t5_eq F56.t7_eq
theorem taken_any {w0 w : World} {F : HP} {W B : Nat} {t : TbD} {l : List Thing} {h : List Int} {sd : Int} (hh : h.length = 16) (x : St w0 (RnP W B t l h sd * F) w) :
    Calls Try.prog 56 #[.pointer (some ⟨W, 0, none⟩)] w fun e w' => St w0 (RnP W B t l h sd * F) w' ∧ e = .returned (.int .i64 (takenN h)) := by
  obtain ⟨a1, c1, a2, c2, x1⟩ := RnP.open x
  refine F56.calls (by simp) ?_
  unfold F56.code
  simp -dsimp -implicitDefEqProofs (disch := omega) only [go_sem, reqD_of, dec_t, dec_f, wrap_i64, wrap_u32, wrap_u64, wrap_u8]
  refine loop_intro (fun e w' => w' = w ∧ e.ds = [] ∧ e.ρ 0 = .pointer (some ⟨W, 0, none⟩) ∧ ∃ k : Nat, k ≤ 16 ∧ e.ρ 4 = .int .i64 k ∧ e.ρ 3 = .int .i64 (takenN (h.take k))) (fun e _ => match e.ρ 4 with | .int _ n => (16 - n).toNat | _ => 0) ?_ ?_
  · exact ⟨rfl, rfl, by simp -dsimp -implicitDefEqProofs only [go_sem], 0, by omega, by simp -dsimp -implicitDefEqProofs only [go_sem], by (simp -dsimp -implicitDefEqProofs only [go_sem]); rfl⟩
  rintro e w2 ⟨rfl, hd, e0, k, hk, e4, e3⟩
  have cW := x1.cl W
  by_cases hlt : (k : Int) < h.length
  case neg =>
    have : k = 16 := by omega
    subst this
    rw [List.take_of_length_le (by omega)] at e3
    simp -dsimp -implicitDefEqProofs (disch := omega) only [go_sem, reqD_of, dec_t, dec_f, wrap_i64, wrap_u32, wrap_u64, wrap_u8, hd, e0, e4, e3, cW, hlt]
    exact x
  have hkl : k < h.length := by omega
  obtain ⟨b, o, rfl, hc⟩ := hoAt (a := a2) (c := c2) (l := h) x1 hkl
  have hbd : takenN (h.take k) ≤ 16 := by
    have : takenN (h.take k) ≤ (h.take k).length := List.countP_le_length
    rw [List.length_take] at this
    omega
  have hsn : takenN (h.take (k + 1)) = takenN (h.take k) + if 0 ≤ h[k] then 1 else 0 := by
    rw [List.take_succ_eq_append_getElem hkl]
    unfold takenN
    rw [List.countP_append]
    congr 1
    by_cases q : 0 ≤ h[k] <;> simp [List.countP_cons, q]
  by_cases q : 0 ≤ h[k]
  · rw [if_pos q] at hsn
    simp -dsimp -implicitDefEqProofs (disch := omega) only [go_sem, reqD_of, dec_t, dec_f, wrap_i64, wrap_u32, wrap_u64, wrap_u8, hd, e0, e4, e3, cW, hlt, hc, q]
    exact ⟨⟨k + 1, by omega, rfl, by rw [hsn]; rfl⟩, by omega⟩
  · rw [if_neg q] at hsn
    simp -dsimp -implicitDefEqProofs (disch := omega) only [go_sem, reqD_of, dec_t, dec_f, wrap_i64, wrap_u32, wrap_u64, wrap_u8, hd, e0, e4, e3, cW, hlt, hc, q]
    exact ⟨⟨k + 1, by omega, rfl, by rw [hsn]; rfl⟩, by omega⟩

theorem wrap_u16 {n : Int} (h1 : 0 ≤ n) (h2 : n < 65536) : IntKind.u16.wrap n = n := by
  have : IntKind.u16.bits = 16 := rfl
  have hs : IntKind.u16.signed = false := rfl
  simp only [IntKind.wrap, this, hs]
  simp only [Bool.false_and, Bool.false_eq_true, if_false]
  omega

end
end Go.Proofs.Yteefkhfmpcaccaa
