/- names.Clean as a whole, clean, Under. -/
import Derived.Test.YtlnlomjdooobdaaDoorNaD
namespace Go.Proofs.YtlnlomjdooobdaaDoor
open Go
set_option linter.unusedVariables false
set_option linter.unusedSimpArgs false
set_option maxRecDepth 100000

/-- How long texts are, one more for each. -/
def tot : List (List UInt8) → Nat
  | [] => 0
  | p :: ps => p.length + 1 + tot ps
theorem tot_append (a b : List (List UInt8)) : tot (a ++ b) = tot a + tot b := by
  induction a with
  | nil => simp [tot]
  | cons p a ih => simp [tot, ih]; omega
theorem tot_dropLast (a : List (List UInt8)) : tot a.dropLast ≤ tot a := by
  induction a with
  | nil => simp [tot]
  | cons p a ih =>
    cases a with
    | nil => simp [tot]
    | cons q a => simp [tot, List.dropLast] at ih ⊢; omega
theorem tot_drop : ∀ (n : Nat) (a : List (List UInt8)), tot (a.drop n) ≤ tot a
  | 0, a => by simp
  | n + 1, [] => by simp
  | n + 1, p :: a => by have := tot_drop n a; simp [tot]; omega
theorem joinTail_len (ps : List (List UInt8)) : (Lib.joinTail [47] ps).length = tot ps := by
  induction ps with
  | nil => rfl
  | cons p ps ih =>
    simp only [Lib.joinTail, List.map_cons, List.flatten_cons, List.length_append] at ih ⊢
    simp [tot] at ih ⊢
    omega
theorem joinL_len (ps : List (List UInt8)) : (joinL ps).length ≤ tot ps := by
  cases ps with
  | nil => simp [joinL, Lib.join_nil]
  | cons p ps =>
    simp only [joinL, Lib.join_cons, List.length_append, joinTail_len, tot]
    omega
theorem tot_pcs (l : List UInt8) : tot (pcs l) = l.length + 1 := by
  induction l with
  | nil => rfl
  | cons c l ih =>
    unfold pcs
    split
    · simp [tot, ih]; omega
    · split
      · rename_i h; rw [h] at ih; simp [tot] at ih ⊢; omega
      · rename_i h; exact absurd h (pcs_ne l)
theorem tot_parts : ∀ (qs ps : List (List UInt8)), partsF qs = some ps → tot ps ≤ tot qs
  | [], ps, h => by simp [partsF] at h; subst h; simp
  | q :: qs, ps, h => by
    rw [partsF] at h
    split at h
    · have := tot_parts qs ps h; simp [tot]; omega
    · split at h
      · cases hq : partsF qs with
        | none => rw [hq] at h; cases h
        | some rs =>
          rw [hq] at h
          simp only [Option.map_some, Option.some.injEq] at h
          subst h
          have := tot_parts qs rs hq
          simp [tot]; omega
      · cases h
theorem tot_step (r : Bool) (acc : List (List UInt8)) (p : List UInt8) : tot (stepF r acc p) ≤ tot acc + tot [p] := by
  unfold stepF
  split
  · rw [tot_append]; exact Nat.le_refl _
  · split
    · have := tot_dropLast acc; omega
    · split
      · omega
      · rw [tot_append]; exact Nat.le_refl _
theorem tot_fold (r : Bool) : ∀ (ps acc : List (List UInt8)), tot (ps.foldl (stepF r) acc) ≤ tot acc + tot ps
  | [], acc => by simp [tot]
  | p :: ps, acc => by
    have h1 := tot_fold r ps (stepF r acc p)
    have h2 := tot_step r acc p
    simp only [List.foldl_cons, tot] at h1 h2 ⊢
    omega
theorem split_small {l : List UInt8} {ps : List (List UInt8)} (h : splitF l = some ps) : tot ps ≤ l.length + 1 ∧ ps.length ≤ l.length + 1 := by
  have h1 := tot_parts _ _ h
  have h2 := partsF_length _ _ h
  have h3 := pcs_length l
  rw [tot_pcs] at h1
  exact ⟨h1, by omega⟩

section
attribute [local go_sem] F12.t15_eq F12.t7_eq F12.t16_eq
theorem clean_any {w0 w : World} {A : HP} (h : St w0 A w) [Gives A Tabs] {l : List UInt8} (hl : l.length < 4294967280) :
    Calls Tryd.prog 12 #[.string (strOf l)] w fun e w' =>
      (∃ s, cleanF l = some s ∧ St w0 A w' ∧ e = .returned (.tuple #[.string (strOf s), .int .i64 0])) ∨
      (cleanF l = none ∧ St w0 A w' ∧ e = .returned (.tuple #[.string (strOf []), .int .i64 51])) := by
  refine F12.calls (by simp) ?_
  unfold F12.code
  simp -dsimp -implicitDefEqProofs (disch := omega) only [go_sem, reqD_of, dec_t, dec_f, wrap_i64, wrap_u32, wrap_u64, wrap_u8]
  refine (split_any h (by omega)).mono ?_
  rintro e w1 (⟨ps, v, hs, h1, rfl⟩ | ⟨hs, h1, rfl⟩)
  · have sm := split_small hs
    simp -dsimp -implicitDefEqProofs (disch := omega) only [go_sem, reqD_of, dec_t, dec_f, wrap_i64, wrap_u32, wrap_u64, wrap_u8]
    refine h1.new fun P4 w2 h2 => ?_
    simp -dsimp -implicitDefEqProofs (disch := omega) only [go_sem, reqD_of, dec_t, dec_f, wrap_i64, wrap_u32, wrap_u64, wrap_u8]
    refine h2.stoAll (b := P4) (n := 2) (cs := [.bool (rooted l), v]) rfl rfl (fun u hu => ?_) fun w3 h3 => ?_
    · obtain ⟨a, c, rfl, _⟩ := h1.rowForm v
      simp at hu; rcases hu with rfl | rfl <;> rfl
    simp -dsimp -implicitDefEqProofs (disch := omega) only [go_sem, reqD_of, dec_t, dec_f, wrap_i64, wrap_u32, wrap_u64, wrap_u8]
    refine clean_loop (θ := ⟨⟩) (P4 := P4) (r := rooted l) (v := v) (ps := ps) rfl (by simp -dsimp -implicitDefEqProofs only [go_sem]) (by omega) ?_ h3 ?_
    · have h1 := joinL_len (redF (rooted l) ps)
      have h2 := tot_fold (rooted l) ps []
      simp only [tot, redF] at h1 h2 ⊢
      omega
    · intro w' h'
      exact .inl ⟨_, by rw [cleanF, hs]; rfl, h', rfl⟩
  · simp -dsimp -implicitDefEqProofs (disch := omega) only [go_sem, reqD_of, dec_t, dec_f, wrap_i64, wrap_u32, wrap_u64, wrap_u8]
    refine h1.new fun P4 w2 h2 => ?_
    simp -dsimp -implicitDefEqProofs (disch := omega) only [go_sem, reqD_of, dec_t, dec_f, wrap_i64, wrap_u32, wrap_u64, wrap_u8]
    refine h2.stoAll (b := P4) (n := 2) (cs := [.bool false, .slice none 0 0]) rfl rfl (fun u hu => by simp at hu; rcases hu with rfl | rfl <;> rfl) fun w3 h3 => ?_
    have hcn : cleanF l = none := by rw [cleanF, hs]; rfl
    simp -dsimp -implicitDefEqProofs (disch := omega) only [go_sem, reqD_of, dec_t, dec_f, wrap_i64, wrap_u32, wrap_u64, wrap_u8, hcn]
    exact .inr h3.right

end
section
attribute [local go_sem] F35.t4_eq
theorem cleanP_any {w0 w : World} {A : HP} (h : St w0 A w) [Gives A Tabs] {l : List UInt8} (hl : l.length < 4294967280) :
    Calls Tryd.prog 35 #[.string (strOf l)] w fun e w' =>
      (∃ ps v, cleanF l = some l ∧ splitF l = some ps ∧ St w0 (RowO 9 1 v ps.length (ps.map sv) * A) w' ∧ e = .returned (.tuple #[pathV (rooted l) v, .bool true])) ∨
      (cleanF l ≠ some l ∧ St w0 A w' ∧ e = .returned (.tuple #[pathV false (.slice none 0 0), .bool false])) := by
  refine F35.calls (by simp) ?_
  unfold F35.code
  simp -dsimp -implicitDefEqProofs (disch := omega) only [go_sem, reqD_of, dec_t, dec_f, wrap_i64, wrap_u32, wrap_u64, wrap_u8]
  refine h.new fun P2 w1 h1 => ?_
  simp -dsimp -implicitDefEqProofs (disch := omega) only [go_sem, reqD_of, dec_t, dec_f, wrap_i64, wrap_u32, wrap_u64, wrap_u8]
  have no : ∀ (w3 : World) (e3 : FA), e3.ds = [] → e3.ρ 2 = .pointer (some ⟨P2, 0, none⟩) → True := fun _ _ _ _ => trivial
  refine (clean_any h1 hl).mono ?_
  rintro e w2 (⟨s, hs, h2, rfl⟩ | ⟨hs, h2, rfl⟩)
  · by_cases he : s = l
    · have d0 : decide (s = l) = true := by simp [he]
      simp -dsimp -implicitDefEqProofs (disch := omega) only [go_sem, reqD_of, dec_t, dec_f, wrap_i64, wrap_u32, wrap_u64, wrap_u8, d0]
      refine (split_any h2 (by omega)).mono ?_
      rintro e w3 (⟨ps, v, hp, h3, rfl⟩ | ⟨hp, h3, rfl⟩)
      · obtain ⟨a, c, rfl, _⟩ := h3.rowForm v
        simp -dsimp -implicitDefEqProofs (disch := omega) only [go_sem, reqD_of, dec_t, dec_f, wrap_i64, wrap_u32, wrap_u64, wrap_u8]
        refine h3.new fun P6 w4 h4 => ?_
        simp -dsimp -implicitDefEqProofs (disch := omega) only [go_sem, reqD_of, dec_t, dec_f, wrap_i64, wrap_u32, wrap_u64, wrap_u8]
        refine h4.stoAll (b := P6) (n := 2) (cs := [.bool (rooted l), .slice a ps.length c]) rfl rfl (fun u hu => by simp at hu; rcases hu with rfl | rfl <;> rfl) fun w5 h5 => ?_
        have r6 := h5.rowH P6 2 rfl
        simp -dsimp -implicitDefEqProofs (disch := omega) only [go_sem, reqD_of, dec_t, dec_f, wrap_i64, wrap_u32, wrap_u64, wrap_u8, r6]
        refine h5.stoAll (b := P2) (n := 2) (cs := [.bool (rooted l), .slice a ps.length c]) rfl rfl (fun u hu => by simp at hu; rcases hu with rfl | rfl <;> rfl) fun w6 h6 => ?_
        have r2 := h6.rowH P2 2 rfl
        simp -dsimp -implicitDefEqProofs (disch := omega) only [go_sem, reqD_of, dec_t, dec_f, wrap_i64, wrap_u32, wrap_u64, wrap_u8]
        refine resC_2 (a := ⟨P2, 0, none⟩) (v := pathV (rooted l) (.slice a ps.length c)) (by simp -dsimp -implicitDefEqProofs only [go_sem]) (run_loadVar_row (by kernel_rfl) r2) ?_
        exact .inl ⟨ps, .slice a ps.length c, by rw [hs, he], hp, h6.sub, by simp -dsimp -implicitDefEqProofs only [go_sem]⟩
      · rw [cleanF, hp] at hs
        cases hs
    · have hne : cleanF l ≠ some l := fun k => he (by rw [hs] at k; exact Option.some.inj k)
      simp -dsimp -implicitDefEqProofs (disch := omega) only [go_sem, reqD_of, dec_t, dec_f, wrap_i64, wrap_u32, wrap_u64, wrap_u8, he]
      refine onV_of (v := pathV false (.slice none 0 0)) (by kernel_rfl) ?_
      simp -dsimp -implicitDefEqProofs (disch := omega) only [go_sem, reqD_of, dec_t, dec_f, wrap_i64, wrap_u32, wrap_u64, wrap_u8]
      refine h2.stoAll (b := P2) (n := 2) (cs := [.bool false, .slice none 0 0]) rfl rfl (fun v hv => by simp at hv; rcases hv with rfl | rfl <;> rfl) fun w8 h8 => ?_
      have r2 := h8.rowH P2 2 rfl
      simp -dsimp -implicitDefEqProofs (disch := omega) only [go_sem, reqD_of, dec_t, dec_f, wrap_i64, wrap_u32, wrap_u64, wrap_u8]
      refine resC_2 (a := ⟨P2, 0, none⟩) (v := pathV false (.slice none 0 0)) (by simp -dsimp -implicitDefEqProofs only [go_sem]) (run_loadVar_row (by kernel_rfl) r2) ?_
      exact .inr ⟨hne, h8.right, by simp -dsimp -implicitDefEqProofs only [go_sem]⟩
  · have hne : cleanF l ≠ some l := by rw [hs]; simp
    simp -dsimp -implicitDefEqProofs (disch := omega) only [go_sem, reqD_of, dec_t, dec_f, wrap_i64, wrap_u32, wrap_u64, wrap_u8]
    refine onV_of (v := pathV false (.slice none 0 0)) (by kernel_rfl) ?_
    simp -dsimp -implicitDefEqProofs (disch := omega) only [go_sem, reqD_of, dec_t, dec_f, wrap_i64, wrap_u32, wrap_u64, wrap_u8]
    refine h2.stoAll (b := P2) (n := 2) (cs := [.bool false, .slice none 0 0]) rfl rfl (fun v hv => by simp at hv; rcases hv with rfl | rfl <;> rfl) fun w8 h8 => ?_
    have r2 := h8.rowH P2 2 rfl
    simp -dsimp -implicitDefEqProofs (disch := omega) only [go_sem, reqD_of, dec_t, dec_f, wrap_i64, wrap_u32, wrap_u64, wrap_u8]
    refine resC_2 (a := ⟨P2, 0, none⟩) (v := pathV false (.slice none 0 0)) (by simp -dsimp -implicitDefEqProofs only [go_sem]) (run_loadVar_row (by kernel_rfl) r2) ?_
    exact .inr ⟨hne, h8.right, by simp -dsimp -implicitDefEqProofs only [go_sem]⟩

/-- What Under tells. -/
def restF (t p : List (List UInt8)) (rt rp : Bool) : Option (List UInt8) :=
  if rt = rp ∧ t.length ≤ p.length ∧ t = p.take t.length ∧ (p.drop t.length).head? ≠ some [46, 46] then some (joinP false (p.drop t.length)) else none
def underF (top path : List UInt8) : Option (List UInt8) :=
  if cleanF top = some top ∧ cleanF path = some path then restF ((splitF top).getD []) ((splitF path).getD []) (rooted top) (rooted path) else none

end
section
attribute [local go_sem] F19.t9_eq F19.t6_eq
theorem under_any {w0 w : World} {A : HP} (h : St w0 A w) [Gives A Tabs] {top path : List UInt8} (ht : top.length < 4294967280) (hp : path.length < 4294967280) :
    Calls Tryd.prog 19 #[.string (strOf top), .string (strOf path)] w fun e w' => St w0 A w' ∧
      ((∃ s, underF top path = some s ∧ e = .returned (.tuple #[.string (strOf s), .bool true])) ∨ (underF top path = none ∧ e = .returned (.tuple #[.string (strOf []), .bool false]))) := by
  refine F19.calls (by simp) ?_
  unfold F19.code
  simp -dsimp -implicitDefEqProofs (disch := omega) only [go_sem, reqD_of, dec_t, dec_f, wrap_i64, wrap_u32, wrap_u64, wrap_u8]
  refine (cleanP_any h ht).mono ?_
  rintro e w1 (⟨ps, v, hc, hs, h1, rfl⟩ | ⟨hc, h1, rfl⟩)
  · obtain ⟨a, c, rfl, _⟩ := h1.rowForm v
    have sm := split_small hs
    simp -dsimp -implicitDefEqProofs (disch := omega) only [go_sem, reqD_of, dec_t, dec_f, wrap_i64, wrap_u32, wrap_u64, wrap_u8]
    refine h1.new fun P6 w2 h2 => ?_
    simp -dsimp -implicitDefEqProofs (disch := omega) only [go_sem, reqD_of, dec_t, dec_f, wrap_i64, wrap_u32, wrap_u64, wrap_u8]
    refine h2.stoAll (b := P6) (n := 2) (cs := [.bool (rooted top), .slice a ps.length c]) rfl rfl (fun u hu => by simp at hu; rcases hu with rfl | rfl <;> rfl) fun w3 h3 => ?_
    simp -dsimp -implicitDefEqProofs (disch := omega) only [go_sem, reqD_of, dec_t, dec_f, wrap_i64, wrap_u32, wrap_u64, wrap_u8]
    refine (cleanP_any h3 hp).mono ?_
    rintro e w4 (⟨ps', v', hc', hs', h4, rfl⟩ | ⟨hc', h4, rfl⟩)
    · obtain ⟨a', c', rfl, _⟩ := h4.rowForm v'
      have sm' := split_small hs'
      simp -dsimp -implicitDefEqProofs (disch := omega) only [go_sem, reqD_of, dec_t, dec_f, wrap_i64, wrap_u32, wrap_u64, wrap_u8]
      refine h4.new fun P8 w5 h5 => ?_
      simp -dsimp -implicitDefEqProofs (disch := omega) only [go_sem, reqD_of, dec_t, dec_f, wrap_i64, wrap_u32, wrap_u64, wrap_u8]
      refine h5.stoAll (b := P8) (n := 2) (cs := [.bool (rooted path), .slice a' ps'.length c']) rfl rfl (fun u hu => by simp at hu; rcases hu with rfl | rfl <;> rfl) fun w6 h6 => ?_
      have c6 := h6.cl P6
      have c8 := h6.cl P8
      have d6 := h6.drew.cl P6
      have d8 := h6.drew.cl P8
      have hu : underF top path = restF ps ps' (rooted top) (rooted path) := by
        rw [underF, if_pos ⟨hc, hc'⟩, hs, hs']; rfl
      rw [hu]
      have no : ∀ {x : Bool}, x = true → True := fun _ => trivial
      by_cases hr : rooted top = rooted path
      case neg =>
        have b0 : (rooted top == rooted path) = false := by simp [hr]
        have hn : restF ps ps' (rooted top) (rooted path) = none := by rw [restF, if_neg (by simp [hr])]
        simp -dsimp -implicitDefEqProofs (disch := omega) only [go_sem, reqD_of, dec_t, dec_f, wrap_i64, wrap_u32, wrap_u64, wrap_u8, c6, c8, d6, d8, b0, hn]
        exact h6.drew.right.right.right.right
      have b0 : (rooted top == rooted path) = true := by simp [hr]
      by_cases hl : (ps'.length : Int) < (ps.length : Int)
      · have hn : restF ps ps' (rooted top) (rooted path) = none := by rw [restF, if_neg (by intro k; omega)]
        simp -dsimp -implicitDefEqProofs (disch := omega) only [go_sem, reqD_of, dec_t, dec_f, wrap_i64, wrap_u32, wrap_u64, wrap_u8, c6, c8, d6, d8, b0, hl, hn]
        exact h6.drew.right.right.right.right
      have hcc : (ps.length : Int) ≤ c' := by omega
      simp -dsimp -implicitDefEqProofs (disch := omega) only [go_sem, reqD_of, dec_t, dec_f, wrap_i64, wrap_u32, wrap_u64, wrap_u8, c6, c8, d6, d8, b0, hl, hcc]
      have rp : Ent (RowO 9 1 (.slice a' ps'.length c') ps'.length (ps'.map sv)) (Reads 1 (.slice a' (ps'.take ps.length).length c') (ps'.take ps.length).length ((ps'.take ps.length).map sv)) := by
        have := (RowO.keep (T := 9) (s := 1) (n := ps'.length) (k := ps.length) (c := c') (a := a') (xs := ps'.map sv) (by omega) (by omega)).trans (RowO.reads _ _ _ _ _)
        have e1 : (ps'.take ps.length).length = ps.length := by rw [List.length_take]; omega
        rw [e1, List.map_take]
        simpa using this
      have e1 : (ps'.take ps.length).length = ps.length := by rw [List.length_take]; omega
      rw [e1] at rp
      refine (equal_lib (xs := ps) (ys := ps'.take ps.length) h6.drew ?_ ?_ (by omega) (by omega)).mono ?_
      · exact (Ent.right _ _).trans ((Ent.right _ _).trans ((Ent.right _ _).trans ((Ent.left _ _).trans (RowO.reads _ _ _ _ _))))
      · rw [e1]
        exact (Ent.right _ _).trans ((Ent.left _ _).trans (by simpa using rp))
      rintro e w7 ⟨h7, rfl⟩
      have c6 := h7.cl P6
      have c8 := h7.cl P8
      by_cases heq : ps = ps'.take ps.length
      case neg =>
        have hn : restF ps ps' (rooted top) (rooted path) = none := by rw [restF, if_neg (fun k => heq k.2.2.1)]
        simp -dsimp -implicitDefEqProofs (disch := omega) only [go_sem, reqD_of, dec_t, dec_f, wrap_i64, wrap_u32, wrap_u64, wrap_u8, c6, c8, heq, hn]
        exact h7.right.right.right.right
      have d0 : decide (ps = ps'.take ps.length) = true := by simpa using heq
      have hdl : (ps'.drop ps.length).length = ps'.length - ps.length := by simp
      have hsub : Ent (RowO 9 1 (.slice a' ps'.length c') ps'.length (ps'.map sv)) (Reads 1 (.slice (if c' = ps.length then a' else Option.map (fun x => x.add (ps.length * 1)) a') (ps'.length - ps.length) (c' - ps.length)) (ps'.drop ps.length).length ((ps'.drop ps.length).map sv)) := by
        have := (RowO.cut (T := 9) (s := 1) (n := ps'.length) (lo := ps.length) (k := ps'.length - ps.length) (m := c') (c := c') (a := a') (xs := ps'.map sv) (by omega) (by omega) (Nat.le_refl _)).trans (RowO.reads _ _ _ _ _)
        have hx : ((ps'.map sv).drop (ps.length * 1)).take ((ps'.length - ps.length) * 1) = (ps'.drop ps.length).map sv := by
          rw [Nat.mul_one, Nat.mul_one, ← List.map_drop, List.take_of_length_le (by simp)]
        rw [hx, ← hdl] at this
        rw [hdl] at this ⊢
        exact this
      have i1 : ((ps'.length : Int)).toNat = ps'.length := by omega
      by_cases hlt : ps.length < ps'.length
      case neg =>
        have hd0 : ps'.drop ps.length = [] := List.drop_of_length_le (by omega)
        have hy : restF ps ps' (rooted top) (rooted path) = some (joinP false (ps'.drop ps.length)) := by rw [restF, if_pos ⟨hr, by omega, heq, by rw [hd0]; simp⟩]
        have g0 : ¬ (0 : Int) < ((ps'.length : Int) - ps.length).toNat := by omega
        have hn0 : ps'.length - ps.length = 0 := by omega
        simp -dsimp -implicitDefEqProofs (disch := omega) only [go_sem, reqD_of, dec_t, dec_f, wrap_i64, wrap_u32, wrap_u64, wrap_u8, c6, c8, d0, hcc, g0, hn0]
        refine onV_of (v := pathV false (.slice (if c' = ps.length then a' else Option.map (fun x => x.add ps.length) a') 0 (c' - ps.length))) (by kernel_rfl) ?_
        simp -dsimp -implicitDefEqProofs (disch := omega) only [go_sem, reqD_of, dec_t, dec_f, wrap_i64, wrap_u32, wrap_u64, wrap_u8, c6, c8]
        simp only [Nat.mul_one, hn0] at hsub
        rw [hn0] at hdl
        refine (joinP_any (ps := ps'.drop ps.length) h7 ((Ent.right _ _).trans ((Ent.left _ _).trans (by rw [hdl] at hsub ⊢; exact hsub))) (by omega) (by rw [hd0]; exact Nat.zero_le _)).mono ?_
        rintro e w8 ⟨h8, rfl⟩
        simp -dsimp -implicitDefEqProofs (disch := omega) only [go_sem, reqD_of, dec_t, dec_f, wrap_i64, wrap_u32, wrap_u64, wrap_u8]
        exact ⟨h8.right.right.right.right, .inl ⟨_, hy, rfl⟩⟩
      obtain ⟨b0', o0, rfl, c0⟩ := h7.atS (a := a') (n := ps'.length) (c := c') (xs := ps'.map sv) (k := ps.length) (by simpa using hlt)
      simp only [List.getElem_map] at c0
      have hd1 : ps'.drop ps.length = ps'[ps.length] :: ps'.drop (ps.length + 1) := List.drop_eq_getElem_cons hlt
      have hcn : ¬ c' = ps.length := by omega
      have g0 : (0 : Int) < ((ps'.length : Int) - ps.length).toNat := by omega
      have g1 : (0 : Int) < ((ps'.length - ps.length : Nat) : Int) := by omega
      by_cases hdd : ps'[ps.length] = [46, 46]
      · have hn : restF ps ps' (rooted top) (rooted path) = none := by rw [restF, if_neg (fun k => k.2.2.2 (by rw [hd1, hdd]; rfl))]
        have d1 : decide (ps'[ps.length] = [46, 46]) = true := by simp [hdd]
        simp -dsimp -implicitDefEqProofs (disch := omega) only [go_sem, reqD_of, dec_t, dec_f, wrap_i64, wrap_u32, wrap_u64, wrap_u8, c6, c8, d0, hcc, g0, g1, hcn, c0, d1, hn]
        exact h7.right.right.right.right
      · have hy : restF ps ps' (rooted top) (rooted path) = some (joinP false (ps'.drop ps.length)) := by rw [restF, if_pos ⟨hr, by omega, heq, by rw [hd1, List.head?_cons]; simpa using hdd⟩]
        simp -dsimp -implicitDefEqProofs (disch := omega) only [go_sem, reqD_of, dec_t, dec_f, wrap_i64, wrap_u32, wrap_u64, wrap_u8, c6, c8, d0, hcc, g0, g1, hcn, c0, hdd]
        refine onV_of (v := pathV false (.slice (some ⟨b0', o0 + ps.length, none⟩) (ps'.length - ps.length) (c' - ps.length))) (by kernel_rfl) ?_
        simp -dsimp -implicitDefEqProofs (disch := omega) only [go_sem, reqD_of, dec_t, dec_f, wrap_i64, wrap_u32, wrap_u64, wrap_u8, c6, c8]
        simp only [Nat.mul_one, hcn, if_false, Option.map_some, add_lit] at hsub
        have hsub' : Ent (RowO 9 1 (.slice (some ⟨b0', o0, none⟩) ps'.length c') ps'.length (ps'.map sv)) (Reads 1 (.slice (some ⟨b0', o0 + ps.length, none⟩) (ps'.length - ps.length) (c' - ps.length)) (ps'.drop ps.length).length ((ps'.drop ps.length).map sv)) := hsub
        have ht1 := joinL_len (ps'.drop ps.length)
        have ht2 := tot_drop ps.length ps'
        refine (joinP_any (ps := ps'.drop ps.length) h7 ((Ent.right _ _).trans ((Ent.left _ _).trans hsub')) (by omega) (by omega)).mono ?_
        rintro e w8 ⟨h8, rfl⟩
        simp -dsimp -implicitDefEqProofs (disch := omega) only [go_sem, reqD_of, dec_t, dec_f, wrap_i64, wrap_u32, wrap_u64, wrap_u8]
        exact ⟨h8.right.right.right.right, .inl ⟨_, hy, rfl⟩⟩
    · have hn : underF top path = none := by rw [underF, if_neg (fun k => hc' k.2)]
      rw [hn]
      simp -dsimp -implicitDefEqProofs (disch := omega) only [go_sem, reqD_of, dec_t, dec_f, wrap_i64, wrap_u32, wrap_u64, wrap_u8]
      refine h4.new fun P8 w5 h5 => ?_
      simp -dsimp -implicitDefEqProofs (disch := omega) only [go_sem, reqD_of, dec_t, dec_f, wrap_i64, wrap_u32, wrap_u64, wrap_u8]
      refine h5.stoAll (b := P8) (n := 2) (cs := [.bool false, .slice none 0 0]) rfl rfl (fun u hu => by simp at hu; rcases hu with rfl | rfl <;> rfl) fun w6 h6 => ?_
      have c6 := h6.cl P6
      have c8 := h6.cl P8
      have d6 := h6.drew.cl P6
      have d8 := h6.drew.cl P8
      simp -dsimp -implicitDefEqProofs (disch := omega) only [go_sem, reqD_of, dec_t, dec_f, wrap_i64, wrap_u32, wrap_u64, wrap_u8, c6, c8, d6, d8]
      exact h6.drew.right.right.right
  · have hn : underF top path = none := by rw [underF, if_neg (fun k => hc k.1)]
    rw [hn]
    simp -dsimp -implicitDefEqProofs (disch := omega) only [go_sem, reqD_of, dec_t, dec_f, wrap_i64, wrap_u32, wrap_u64, wrap_u8]
    refine h1.new fun P6 w2 h2 => ?_
    simp -dsimp -implicitDefEqProofs (disch := omega) only [go_sem, reqD_of, dec_t, dec_f, wrap_i64, wrap_u32, wrap_u64, wrap_u8]
    refine h2.stoAll (b := P6) (n := 2) (cs := [.bool false, .slice none 0 0]) rfl rfl (fun u hu => by simp at hu; rcases hu with rfl | rfl <;> rfl) fun w3 h3 => ?_
    simp -dsimp -implicitDefEqProofs (disch := omega) only [go_sem, reqD_of, dec_t, dec_f, wrap_i64, wrap_u32, wrap_u64, wrap_u8]
    refine (cleanP_any h3 hp).mono ?_
    rintro e w4 (⟨ps', v', hc', hs', h4, rfl⟩ | ⟨hc', h4, rfl⟩)
    · obtain ⟨a', c', rfl, _⟩ := h4.rowForm v'
      simp -dsimp -implicitDefEqProofs (disch := omega) only [go_sem, reqD_of, dec_t, dec_f, wrap_i64, wrap_u32, wrap_u64, wrap_u8]
      refine h4.new fun P8 w5 h5 => ?_
      simp -dsimp -implicitDefEqProofs (disch := omega) only [go_sem, reqD_of, dec_t, dec_f, wrap_i64, wrap_u32, wrap_u64, wrap_u8]
      refine h5.stoAll (b := P8) (n := 2) (cs := [.bool (rooted path), .slice a' ps'.length c']) rfl rfl (fun u hu => by simp at hu; rcases hu with rfl | rfl <;> rfl) fun w6 h6 => ?_
      have c6 := h6.cl P6
      have c8 := h6.cl P8
      have d6 := h6.drew.cl P6
      have d8 := h6.drew.cl P8
      simp -dsimp -implicitDefEqProofs (disch := omega) only [go_sem, reqD_of, dec_t, dec_f, wrap_i64, wrap_u32, wrap_u64, wrap_u8, c6, c8, d6, d8]
      exact h6.drew.right.right.right
    · simp -dsimp -implicitDefEqProofs (disch := omega) only [go_sem, reqD_of, dec_t, dec_f, wrap_i64, wrap_u32, wrap_u64, wrap_u8]
      refine h4.new fun P8 w5 h5 => ?_
      simp -dsimp -implicitDefEqProofs (disch := omega) only [go_sem, reqD_of, dec_t, dec_f, wrap_i64, wrap_u32, wrap_u64, wrap_u8]
      refine h5.stoAll (b := P8) (n := 2) (cs := [.bool false, .slice none 0 0]) rfl rfl (fun u hu => by simp at hu; rcases hu with rfl | rfl <;> rfl) fun w6 h6 => ?_
      have c6 := h6.cl P6
      have c8 := h6.cl P8
      have d6 := h6.drew.cl P6
      have d8 := h6.drew.cl P8
      simp -dsimp -implicitDefEqProofs (disch := omega) only [go_sem, reqD_of, dec_t, dec_f, wrap_i64, wrap_u32, wrap_u64, wrap_u8, c6, c8, d6, d8]
      exact h6.drew.right.right

end
end Go.Proofs.YtlnlomjdooobdaaDoor
