/- names.pieces. -/
import Derived.Test.YtlnlomjdooobdaaDoorNaJ
namespace Go.Proofs.YtlnlomjdooobdaaDoor
open Go
set_option linter.unusedVariables false
set_option linter.unusedSimpArgs false
set_option maxRecDepth 100000

def F46c : Cd := (.block 0 (.seq (.region 3 F46.r3.toArray false) (.cond (.tmp 7) (.region 4 F46.r4.toArray false) (.seq (.region 5 F46.r5.toArray false) (.cond (.tmp 9) (.seq (.region 6 F46.r6.toArray false) (.region 7 F46.r7.toArray false)) (.seq (.region 1 F46.r1.toArray false) (.region 2 F46.r2.toArray false)))))))

theorem piecesD {P2 P3 : Nat} {u : FrameMode} {w : World} {R : Ending → FrameMode → World → Prop}
    (h : cwE Tryd.prog F46c (fnR Tryd.prog #[] (recM u).2 R) ((entry #[.pointer (some ⟨P2, 0, none⟩), .pointer (some ⟨P3, 0, none⟩)]).put (some 5) (recM u).1) w) :
    CallsDIn (Fr none) 0 Tryd.prog 46 #[.pointer (some ⟨P2, 0, none⟩), .pointer (some ⟨P3, 0, none⟩)] u w R :=
  callsD_recover (types := Tryd.prog.types) (x := .region 0 F46.r0.toArray false) (c' := F46c) follows Tryd.func46 rfl rfl rfl rfl rfl rfl (by decide) (by kernel_rfl) (by show 2 ≤ 11; decide) h

theorem piecesD_ret {P2 P3 : Nat} {w : World} : CallsDIn (Fr none) 0 Tryd.prog 46 #[.pointer (some ⟨P2, 0, none⟩), .pointer (some ⟨P3, 0, none⟩)] .returning w fun e u' w' => e = .returned (.tuple #[]) ∧ u' = .returning ∧ w' = w := by
  refine piecesD ?_
  have e1 : recM .returning = (.nilIface, .returning) := rfl
  rw [e1]
  unfold F46c
  simp -dsimp -implicitDefEqProofs (disch := omega) only [go_sem, reqD_of, dec_t, dec_f, wrap_i64, wrap_u32, wrap_u64, wrap_u8]
  exact ⟨_, fin0, rfl, rfl⟩

theorem piecesD_pan {w0 w : World} {A : HP} {P2 P3 : Nat} {u x : Value} (h : St w0 (Blk P2 (.cells #[u] 56 (0, 0)) * (Blk P3 (.cells #[x] 4 (0, 0)) * A)) w) :
    CallsDIn (Fr none) 0 Tryd.prog 46 #[.pointer (some ⟨P2, 0, none⟩), .pointer (some ⟨P3, 0, none⟩)] (.panicking patP) w fun e u' w' =>
      e = .returned (.tuple #[]) ∧ u' = .panicking [{ v := .iface 86 (.agg #[]), recovered := true }] ∧ St w0 (Blk P2 (.cells #[.slice none 0 0] 56 (0, 0)) * (Blk P3 (.cells #[.bool false] 4 (0, 0)) * A)) w' := by
  refine piecesD ?_
  have e1 : recM (.panicking patP) = (.iface 86 (.agg #[]), .panicking [{ v := .iface 86 (.agg #[]), recovered := true }]) := rfl
  rw [e1]
  unfold F46c
  simp -dsimp -implicitDefEqProofs (disch := omega) only [go_sem, reqD_of, dec_t, dec_f, wrap_i64, wrap_u32, wrap_u64, wrap_u8]
  refine assert_of Tryd.underlying86 (by intro m; simp) ?_
  simp -dsimp -implicitDefEqProofs (disch := omega) only [go_sem, reqD_of, dec_t, dec_f, wrap_i64, wrap_u32, wrap_u64, wrap_u8]
  refine h.new fun P4 w1 h1 => ?_
  simp -dsimp -implicitDefEqProofs (disch := omega) only [go_sem, reqD_of, dec_t, dec_f, wrap_i64, wrap_u32, wrap_u64, wrap_u8]
  refine h1.stoAll (b := P4) (n := 0) (cs := []) rfl rfl (by simp) fun w2 h2 => ?_
  simp -dsimp -implicitDefEqProofs (disch := omega) only [go_sem, reqD_of, dec_t, dec_f, wrap_i64, wrap_u32, wrap_u64, wrap_u8]
  refine h2.sto (b := P2) (off := 0) (by simp) rfl fun w3 h3 => ?_
  simp only [List.setIfInBounds_toArray, List.set_cons_zero] at h3
  simp -dsimp -implicitDefEqProofs (disch := omega) only [go_sem, reqD_of, dec_t, dec_f, wrap_i64, wrap_u32, wrap_u64, wrap_u8]
  refine h3.sto (b := P3) (off := 0) (by simp) rfl fun w4 h4 => ?_
  simp only [List.setIfInBounds_toArray, List.set_cons_zero] at h4
  simp -dsimp -implicitDefEqProofs (disch := omega) only [go_sem, reqD_of, dec_t, dec_f, wrap_i64, wrap_u32, wrap_u64, wrap_u8]
  exact ⟨_, fin0, rfl, h4.right⟩

/-- A piece: any row; turned; its spans. -/
abbrev Pc := Bool × Bool × List (Nat × Nat)
def pcF : Nat → List Pc → List Nat → Option (List Pc)
  | 0, acc, _ => some acc
  | _ + 1, acc, [] => some acc
  | n + 1, acc, c :: l =>
    if c = 42 then pcF n (acc ++ [(true, false, [])]) l
    else if c = 63 then pcF n (acc ++ [(false, true, [])]) l
    else if c = 91 then match classL l with
      | none => none
      | some (tn, ss, l') => pcF n (acc ++ [(false, tn, ss)]) l'
    else if c = 92 then match l with
      | [] => none
      | d :: l' => pcF n (acc ++ [(false, false, [(d, d)])]) l'
    else pcF n (acc ++ [(false, false, [(c, c)])]) l

theorem spansF_len : ∀ (n : Nat) (acc ss : List (Nat × Nat)) (l l' : List Nat), spansF n acc l = some (ss, l') → l'.length < l.length
  | 0, _, _, _, _, h => by cases h
  | n + 1, acc, ss, l, l', h => by
    unfold spansF at h
    split at h
    · cases h
    · cases h
    · rename_i s d l4 hs
      have h1 := spanL_len hs
      split at h
      · simp only [Option.some.injEq, Prod.mk.injEq] at h
        rw [← h.2]; simp at h1; omega
      · have := spansF_len n _ _ _ _ h
        omega
theorem classL_len {l l' : List Nat} {tn : Bool} {ss : List (Nat × Nat)} (h : classL l = some (tn, ss, l')) : l'.length < l.length := by
  cases l with
  | nil => cases h
  | cons c l =>
    unfold classL at h
    simp only at h
    split at h
    · obtain ⟨x, hx, h⟩ := Option.map_eq_some_iff.1 h
      have := spansF_len _ _ _ _ _ hx
      simp only [Prod.mk.injEq] at h
      rw [← h.2.2]; simp; omega
    · obtain ⟨x, hx, h⟩ := Option.map_eq_some_iff.1 h
      have := spansF_len _ _ _ _ _ hx
      simp only [Prod.mk.injEq] at h
      rw [← h.2.2]; exact this
theorem pcF_more : ∀ (n m : Nat) (acc : List Pc) (l : List Nat), l.length ≤ n → l.length ≤ m → pcF n acc l = pcF m acc l
  | 0, 0, _, _, _, _ => rfl
  | 0, m + 1, acc, l, h, _ => by have : l = [] := List.eq_nil_of_length_eq_zero (by omega); subst this; rfl
  | n + 1, 0, acc, l, _, h => by have : l = [] := List.eq_nil_of_length_eq_zero (by omega); subst this; rfl
  | n + 1, m + 1, acc, [], _, _ => rfl
  | n + 1, m + 1, acc, c :: l, h1, h2 => by
    simp only [List.length_cons] at h1 h2
    unfold pcF
    split
    · exact pcF_more n m _ l (by omega) (by omega)
    split
    · exact pcF_more n m _ l (by omega) (by omega)
    split
    · cases hc : classL l with
      | none => rfl
      | some x =>
        obtain ⟨tn, ss, l'⟩ := x
        have := classL_len hc
        exact pcF_more n m _ l' (by omega) (by omega)
    split
    · cases l with
      | nil => rfl
      | cons d l' => simp only [List.length_cons] at h1 h2; exact pcF_more n m _ l' (by omega) (by omega)
    · exact pcF_more n m _ l (by omega) (by omega)
def pcs2 (acc : List Pc) (l : List Nat) : Option (List Pc) := pcF l.length acc l
theorem pcs2_nil {acc : List Pc} : pcs2 acc [] = some acc := rfl
theorem pcs2_row {acc : List Pc} {c : Nat} {l : List Nat} (h : c = 42) : pcs2 acc (c :: l) = pcs2 (acc ++ [(true, false, [])]) l := by
  show pcF (l.length + 1) acc (c :: l) = _; unfold pcF; rw [if_pos h]; rfl
theorem pcs2_any {acc : List Pc} {c : Nat} {l : List Nat} (h : c = 63) : pcs2 acc (c :: l) = pcs2 (acc ++ [(false, true, [])]) l := by
  show pcF (l.length + 1) acc (c :: l) = _; unfold pcF; rw [if_neg (by omega), if_pos h]; rfl
theorem pcs2_cls {acc : List Pc} {c : Nat} {l l' : List Nat} {tn : Bool} {ss : List (Nat × Nat)} (h : c = 91) (hc : classL l = some (tn, ss, l')) : pcs2 acc (c :: l) = pcs2 (acc ++ [(false, tn, ss)]) l' := by
  have := classL_len hc
  show pcF (l.length + 1) acc (c :: l) = _; unfold pcF; rw [if_neg (by omega), if_neg (by omega), if_pos h, hc]; exact pcF_more _ _ _ _ (by omega) (Nat.le_refl _)
theorem pcs2_cls0 {acc : List Pc} {c : Nat} {l : List Nat} (h : c = 91) (hc : classL l = none) : pcs2 acc (c :: l) = none := by
  show pcF (l.length + 1) acc (c :: l) = _; unfold pcF; rw [if_neg (by omega), if_neg (by omega), if_pos h, hc]
theorem pcs2_esc {acc : List Pc} {c d : Nat} {l : List Nat} (h : c = 92) : pcs2 acc (c :: d :: l) = pcs2 (acc ++ [(false, false, [(d, d)])]) l := by
  show pcF (l.length + 1 + 1) acc (c :: d :: l) = _; unfold pcF; rw [if_neg (by omega), if_neg (by omega), if_neg (by omega), if_pos h]; exact pcF_more _ _ _ _ (by omega) (Nat.le_refl _)
theorem pcs2_esc0 {acc : List Pc} {c : Nat} (h : c = 92) : pcs2 acc [c] = none := by
  show pcF 1 acc [c] = _; unfold pcF; rw [if_neg (by omega), if_neg (by omega), if_neg (by omega), if_pos h]
theorem pcs2_lit {acc : List Pc} {c : Nat} {l : List Nat} (h1 : c ≠ 42) (h2 : c ≠ 63) (h3 : c ≠ 91) (h4 : c ≠ 92) : pcs2 acc (c :: l) = pcs2 (acc ++ [(false, false, [(c, c)])]) l := by
  show pcF (l.length + 1) acc (c :: l) = _; unfold pcF; rw [if_neg h1, if_neg h2, if_neg h3, if_neg h4]; rfl

def piecesF (pat : List UInt8) : Option (List Pc) := if 255 < pat.length ∨ good pat = false then none else pcs2 [] (runes pat)

theorem Ent.embL (A : HP) : Ent A (EmpH * A) := Ent.of fun h a => ⟨fun _ => none, h, fun _ => .inl rfl, (fun _ _ e => by cases e), hle.rfl' h, trivial, a⟩
abbrev pcV (x : Pc × Value) : List Value := [.bool x.1.1, .bool x.1.2.1, x.2]
abbrev SpR (x : Pc × Value) : HP := RowO 94 2 x.2 x.1.2.2.length (x.1.2.2.flatMap spV)
def SpP (l : List (Pc × Value)) : HP := l.foldl (fun A x => SpR x * A) EmpH
theorem SpP_snoc (l : List (Pc × Value)) (x : Pc × Value) : SpP (l ++ [x]) = SpR x * SpP l := by simp [SpP]
abbrev PcsP (v : Value) (l : List (Pc × Value)) : HP := RowO 62 3 v l.length (l.flatMap pcV) * SpP l

end Go.Proofs.YtlnlomjdooobdaaDoor
