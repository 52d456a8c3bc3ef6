/- names.Words. -/
import Derived.Test.YtlnlomjdooobdaaDoorNaF
namespace Go.Proofs.YtlnlomjdooobdaaDoor
open Go
set_option linter.unusedVariables false
set_option linter.unusedSimpArgs false
set_option maxRecDepth 100000

def F41c : Cd := (.block 0 (.seq (.region 3 F41.r3.toArray false) (.cond (.tmp 7) (.region 4 F41.r4.toArray false) (.seq (.region 5 F41.r5.toArray false) (.cond (.tmp 9) (.seq (.region 6 F41.r6.toArray false) (.region 7 F41.r7.toArray false)) (.seq (.region 1 F41.r1.toArray false) (.region 2 F41.r2.toArray false)))))))

theorem wordsD {P2 P3 : Nat} {u : FrameMode} {w : World} {R : Ending → FrameMode → World → Prop}
    (h : cwE Tryd.prog F41c (fnR Tryd.prog #[] (recM u).2 R) ((entry #[.pointer (some ⟨P2, 0, none⟩), .pointer (some ⟨P3, 0, none⟩)]).put (some 5) (recM u).1) w) :
    CallsDIn (Fr none) 0 Tryd.prog 41 #[.pointer (some ⟨P2, 0, none⟩), .pointer (some ⟨P3, 0, none⟩)] u w R :=
  callsD_recover (types := Tryd.prog.types) (x := .region 0 F41.r0.toArray false) (c' := F41c) follows Tryd.func41 rfl rfl rfl rfl rfl rfl (by decide) (by kernel_rfl) (by show 2 ≤ 11; decide) h

theorem wordsD_ret {P2 P3 : Nat} {w : World} : CallsDIn (Fr none) 0 Tryd.prog 41 #[.pointer (some ⟨P2, 0, none⟩), .pointer (some ⟨P3, 0, none⟩)] .returning w fun e u' w' => e = .returned (.tuple #[]) ∧ u' = .returning ∧ w' = w := by
  refine wordsD ?_
  have e1 : recM .returning = (.nilIface, .returning) := rfl
  rw [e1]
  unfold F41c
  simp -dsimp -implicitDefEqProofs (disch := omega) only [go_sem, reqD_of, dec_t, dec_f, wrap_i64, wrap_u32, wrap_u64, wrap_u8]
  exact ⟨_, fin0, rfl, rfl⟩

theorem wordsD_pan {w0 w : World} {A : HP} {P2 P3 : Nat} {u x : Value} (h : St w0 (Blk P2 (.cells #[u] 24 (0, 0)) * (Blk P3 (.cells #[x] 27 (0, 0)) * A)) w) :
    CallsDIn (Fr none) 0 Tryd.prog 41 #[.pointer (some ⟨P2, 0, none⟩), .pointer (some ⟨P3, 0, none⟩)] (.panicking wordsP) w fun e u' w' =>
      e = .returned (.tuple #[]) ∧ u' = .panicking [{ v := .iface 82 (.agg #[]), recovered := true }] ∧ St w0 (Blk P2 (.cells #[.slice none 0 0] 24 (0, 0)) * (Blk P3 (.cells #[.int .i64 53] 27 (0, 0)) * A)) w' := by
  refine wordsD ?_
  have e1 : recM (.panicking wordsP) = (.iface 82 (.agg #[]), .panicking [{ v := .iface 82 (.agg #[]), recovered := true }]) := rfl
  rw [e1]
  unfold F41c
  simp -dsimp -implicitDefEqProofs (disch := omega) only [go_sem, reqD_of, dec_t, dec_f, wrap_i64, wrap_u32, wrap_u64, wrap_u8]
  refine assert_of Tryd.underlying82 (by intro m; simp) ?_
  simp -dsimp -implicitDefEqProofs (disch := omega) only [go_sem, reqD_of, dec_t, dec_f, wrap_i64, wrap_u32, wrap_u64, wrap_u8]
  refine h.new fun P4 w1 h1 => ?_
  simp -dsimp -implicitDefEqProofs (disch := omega) only [go_sem, reqD_of, dec_t, dec_f, wrap_i64, wrap_u32, wrap_u64, wrap_u8]
  refine h1.stoAll (b := P4) (n := 0) (cs := []) rfl rfl (by simp) fun w2 h2 => ?_
  simp -dsimp -implicitDefEqProofs (disch := omega) only [go_sem, reqD_of, dec_t, dec_f, wrap_i64, wrap_u32, wrap_u64, wrap_u8]
  refine h2.sto (b := P2) (off := 0) (by simp) rfl fun w3 h3 => ?_
  simp only [List.setIfInBounds_toArray, List.set_cons_zero] at h3
  simp -dsimp -implicitDefEqProofs (disch := omega) only [go_sem, reqD_of, dec_t, dec_f, wrap_i64, wrap_u32, wrap_u64, wrap_u8]
  refine h3.sto (b := P3) (off := 0) (by simp) rfl fun w4 h4 => ?_
  simp only [List.setIfInBounds_toArray, List.set_cons_zero] at h4
  simp -dsimp -implicitDefEqProofs (disch := omega) only [go_sem, reqD_of, dec_t, dec_f, wrap_i64, wrap_u32, wrap_u64, wrap_u8]
  exact ⟨_, fin0, rfl, h4.right⟩

/-- The words from a place on: those that there are, what has been read of one, and whether there is one (fuel). -/
def wrdF : Nat → List (List UInt8) → List UInt8 → Bool → List UInt8 → Option (List (List UInt8))
  | 0, ws, b, wi, _ => some (if wi then ws ++ [b] else ws)
  | _ + 1, ws, b, wi, [] => some (if wi then ws ++ [b] else ws)
  | n + 1, ws, b, wi, c :: l =>
    if c.toNat = 32 ∨ c.toNat = 9 then wrdF n (if wi then ws ++ [b] else ws) [] false l
    else if c.toNat = 39 then match quo b l with
      | some (r, k) => wrdF n ws r true (l.drop k)
      | none => none
    else wrdF n ws (b ++ [c]) true l
theorem wrdF_more : ∀ (n m : Nat) (ws : List (List UInt8)) (b : List UInt8) (wi : Bool) (l : List UInt8), l.length ≤ n → l.length ≤ m → wrdF n ws b wi l = wrdF m ws b wi l
  | 0, 0, _, _, _, _, _, _ => rfl
  | 0, m + 1, ws, b, wi, l, h, _ => by have : l = [] := List.eq_nil_of_length_eq_zero (by omega); subst this; rfl
  | n + 1, 0, ws, b, wi, l, _, h => by have : l = [] := List.eq_nil_of_length_eq_zero (by omega); subst this; rfl
  | n + 1, m + 1, ws, b, wi, [], _, _ => rfl
  | n + 1, m + 1, ws, b, wi, c :: l, h1, h2 => by
    simp only [List.length_cons] at h1 h2
    unfold wrdF
    split
    · exact wrdF_more n m _ _ _ l (by omega) (by omega)
    · split
      · cases hq : quo b l with
        | none => rfl
        | some x => exact wrdF_more n m _ _ _ _ (by simp; omega) (by simp; omega)
      · exact wrdF_more n m _ _ _ l (by omega) (by omega)
def wrd (ws : List (List UInt8)) (b : List UInt8) (wi : Bool) (l : List UInt8) : Option (List (List UInt8)) := wrdF l.length ws b wi l
def wordsF (l : List UInt8) : Option (List (List UInt8)) := wrd [] [] false l
theorem wrd_nil {ws : List (List UInt8)} {b : List UInt8} {wi : Bool} : wrd ws b wi [] = some (if wi then ws ++ [b] else ws) := rfl
theorem wrd_gap {ws : List (List UInt8)} {b l : List UInt8} {wi : Bool} {c : UInt8} (h : c.toNat = 32 ∨ c.toNat = 9) : wrd ws b wi (c :: l) = wrd (if wi then ws ++ [b] else ws) [] false l := by
  show wrdF (l.length + 1) ws b wi (c :: l) = _
  unfold wrdF
  rw [if_pos h]
  rfl
theorem wrd_quo {ws : List (List UInt8)} {b l r : List UInt8} {wi : Bool} {c : UInt8} {k : Nat} (h : c.toNat = 39) (hq : quo b l = some (r, k)) : wrd ws b wi (c :: l) = wrd ws r true (l.drop k) := by
  show wrdF (l.length + 1) ws b wi (c :: l) = _
  unfold wrdF
  rw [if_neg (by omega), if_pos h, hq]
  exact wrdF_more _ _ _ _ _ _ (by simp) (Nat.le_refl _)
theorem wrd_bad {ws : List (List UInt8)} {b l : List UInt8} {wi : Bool} {c : UInt8} (h : c.toNat = 39) (hq : quo b l = none) : wrd ws b wi (c :: l) = none := by
  show wrdF (l.length + 1) ws b wi (c :: l) = _
  unfold wrdF
  rw [if_neg (by omega), if_pos h, hq]
theorem wrd_plain {ws : List (List UInt8)} {b l : List UInt8} {wi : Bool} {c : UInt8} (h : ¬ (c.toNat = 32 ∨ c.toNat = 9)) (h' : c.toNat ≠ 39) : wrd ws b wi (c :: l) = wrd ws (b ++ [c]) true l := by
  show wrdF (l.length + 1) ws b wi (c :: l) = _
  unfold wrdF
  rw [if_neg h, if_neg h']
  rfl

end Go.Proofs.YtlnlomjdooobdaaDoor
