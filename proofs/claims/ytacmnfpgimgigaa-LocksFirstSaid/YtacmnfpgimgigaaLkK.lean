/- The table of locks: Held. -/
import Derived.Test.YtacmnfpgimgigaaLkJ
namespace Go.Proofs.Ytacmnfpgimgigaa
open Go Go.Sort
set_option linter.unusedSimpArgs false
set_option linter.unusedVariables false
set_option maxRecDepth 100000

instance (b : Nat) (s : LkS) : Face (.obj b) (LkP b s) := ⟨⟩
instance (b : Nat) (v1 v2 : Value) (hs q : List Claim) : Face (.obj b) (LkQ b v1 v2 hs q) := ⟨⟩
theorem LkP.openH {w0 w : World} {A : HP} {C : HP → HP} {b : Nat} {s : LkS} (h : St w0 A w) [i : Hole (.obj b) A (LkP b s) C] : ∃ v1 v2, St w0 (C (LkQ b v1 v2 s.1 s.2)) w := by
  obtain ⟨R, hR, h'⟩ := h.out (.obj b)
  unfold LkP at h'
  obtain ⟨⟨v1, v2⟩, h''⟩ := h'.exF
  exact ⟨v1, v2, by rw [hR]; exact h''⟩
theorem LkQ.shutH {w0 w : World} {A : HP} {C : HP → HP} {v1 v2 : Value} {hs q : List Claim} (h : St w0 A w) (b : Nat) [i : Hole (.obj b) A (LkQ b v1 v2 hs q) C] : St w0 (C (LkP b (hs, q))) w := h.turnTo (.obj b) (LkQ.shut b v1 v2 hs q)
theorem LkQ.clH {w0 w : World} {A : HP} {C : HP → HP} {v1 v2 : Value} {hs q : List Claim} (h : St w0 A w) (b : Nat) [i : Hole (.obj b) A (LkQ b v1 v2 hs q) C] (i : Nat) : w.cell? ⟨b, i, none⟩ = (#[v1, v2] : Array Value)[i]? := by
  obtain ⟨R, hR, h'⟩ := h.out (.obj b)
  exact LkQ.blk h' i
instance (b : Nat) (v1 v2 : Value) (hs q : List Claim) : Gives (LkQ b v1 v2 hs q) (Reads 2 v1 hs.length (clR hs)) :=
  ⟨by unfold LkQ; exact (Ent.right _ _).trans ((Ent.left _ _).trans (RowO.reads _ _ _ _ _))⟩
instance (b : Nat) (v1 v2 : Value) (hs q : List Claim) : Gives (LkQ b v1 v2 hs q) (Reads 2 v2 q.length (clR q)) :=
  ⟨by unfold LkQ; exact (Ent.right _ _).trans ((Ent.right _ _).trans (RowO.reads _ _ _ _ _))⟩

def lksP (ps : Ptrs) : HP := stars (fun p : Nam × (Nat × LkS) => LkP p.2.1 p.2.2) ps
theorem TabQ_eq (B m1 m2 : Nat) (ps : Ptrs) (ws : List (Int × Nee)) : TabQ B m1 m2 ps ws = Blk B (.cells #[.map (some m1), .map (some m2)] 66 (0, 0)) * (MapP namV m1 (amap ptrV ps) * (MapP encI m2 (amap needV ws) * lksP ps)) := rfl
theorem lks_open {ps : Ptrs} {x : Nam} {b : Nat} {s : LkS} (hk : agt x ps = some (b, s)) : lksP ps = LkP b s * lksP (adel x ps) := stars_open _ x (b, s) ps hk

section agt
variable {κ α : Type} [DecidableEq κ]
theorem agt_of_mem {x : κ} {v : α} : ∀ {l : List (κ × α)}, (l.map (·.1)).Nodup → (x, v) ∈ l → agt x l = some v
  | (y, u) :: l, hn, hm => by
    simp only [List.map_cons, List.nodup_cons] at hn
    rcases List.mem_cons.1 hm with h | h
    · simp only [Prod.mk.injEq] at h
      simp [agt, h.1, h.2]
    · have : x ≠ y := fun e => hn.1 (e ▸ List.mem_map.2 ⟨(x, v), h, rfl⟩)
      simp only [agt, if_neg this]
      exact agt_of_mem hn.2 h
theorem mem_of_agt {x : κ} {v : α} : ∀ {l : List (κ × α)}, agt x l = some v → (x, v) ∈ l
  | (y, u) :: l, h => by
    simp only [agt] at h
    split at h
    · rename_i e
      simp only [Option.some.injEq] at h
      subst e h
      simp
    · exact List.mem_cons_of_mem _ (mem_of_agt h)
end agt

/-- A claim that somebody has on a lock, as a need. -/
def heldOf (who : Int) (p : Nam × LkS) : Option Nee := if 0 ≤ posC who p.2.1 0 then some (p.1, ((p.2.1[(posC who p.2.1 0).toNat]?).getD (0, false)).2) else none
def heldL (who : Int) (ls : List (Nam × LkS)) : List Nee := ls.filterMap (heldOf who)
def leN (x y : Nee) : Bool := !decide (cmpN y.1 x.1 < 0)
def heldS (who : Int) (ls : List (Nam × LkS)) : List Nee := (heldL who ls).mergeSort leN

theorem needR_cells (l : List Nee) : ∀ v ∈ l.flatMap needC, isCell v = true := by
  intro v hv
  obtain ⟨n, _, h⟩ := List.mem_flatMap.1 hv
  exact needC_cells n v h


theorem cmpNeed_any {w0 w : World} {F : HP} {a b : Nee} (h : St w0 F w) : Calls Try.prog 37 #[needV a, needV b] w fun e w' => St w0 F w' ∧ e = .returned (.int .i64 (cmpN a.1 b.1)) := by
  refine F37.calls (by simp) ?_
  unfold F37.code
  simp -dsimp -implicitDefEqProofs (disch := omega) only [go_sem, reqD_of, dec_t, dec_f, wrap_i64, wrap_u32, wrap_u64, wrap_u8]
  refine h.new fun X w1 h1 => ?_
  simp -dsimp -implicitDefEqProofs (disch := omega) only [go_sem, reqD_of, dec_t, dec_f, wrap_i64, wrap_u32, wrap_u64, wrap_u8]
  refine h1.new fun Y w2 h2 => ?_
  have hX : rowV w2 ⟨X, 0, none⟩ 3 = some (namV a.1) := h2.rowAtH X 0 3 (by simp [needC])
  have hY : rowV w2 ⟨Y, 0, none⟩ 3 = some (namV b.1) := h2.rowAtH Y 0 3 (by simp [needC])
  simp -dsimp -implicitDefEqProofs (disch := omega) only [go_sem, reqD_of, dec_t, dec_f, wrap_i64, wrap_u32, wrap_u64, wrap_u8, hX, hY]
  refine (compare_any (a := a.1) (b := b.1) h2).mono ?_
  rintro e w3 ⟨h3, rfl⟩
  simp -dsimp -implicitDefEqProofs (disch := omega) only [go_sem, reqD_of, dec_t, dec_f, wrap_i64, wrap_u32, wrap_u64, wrap_u8]
  exact h3.right.right

theorem cmp3_neg (a b : Int) : cmp3 a b < 0 ↔ a < b := by
  unfold cmp3
  split
  · simp; omega
  · split <;> simp <;> omega
theorem cmpN_neg (a b : Nam) : cmpN a b < 0 ↔ a.1 < b.1 ∨ a.1 = b.1 ∧ (a.2.1 < b.2.1 ∨ a.2.1 = b.2.1 ∧ a.2.2 < b.2.2) := by
  unfold cmpN
  rcases Int.lt_trichotomy a.1 b.1 with h | h | h
  · simp [orL, cmp3_lt h, h]
  · rcases Int.lt_trichotomy a.2.1 b.2.1 with k | k | k
    · simp [orL, h, cmp3_eq, cmp3_lt k, k]
    · rcases Int.lt_trichotomy a.2.2 b.2.2 with m | m | m
      · simp [orL, h, cmp3_eq, k, cmp3_lt m, m]
      · simp [orL, h, cmp3_eq, k, m]
      · simp [orL, h, cmp3_eq, k, cmp3_gt m]; omega
    · simp [orL, h, cmp3_eq, cmp3_gt k]; omega
  · simp [orL, cmp3_gt h]; omega
theorem ltN_iff (a b : Nee) : ltOf (fun x y : Nee => cmpN x.1 y.1) a b = decide (cmpN a.1 b.1 < 0) := rfl
theorem swoN : SWO (ltOf fun x y : Nee => cmpN x.1 y.1) where
  irrefl x := by rw [ltN_iff, decide_eq_false_iff_not, cmpN_neg]; omega
  trans x y z h1 h2 := by rw [ltN_iff, decide_eq_true_iff, cmpN_neg] at *; omega
  ntrans x y z h1 h2 := by rw [ltN_iff, decide_eq_false_iff_not, cmpN_neg] at *; omega

theorem leN_refl (x : Nee) : leN x x = true := by
  simp only [leN, Bool.not_eq_true', decide_eq_false_iff_not, cmpN_neg]
  omega
theorem leN_sorted (l : List Nee) : (l.mergeSort leN).Pairwise fun x y => leN x y = true := by
  refine List.pairwise_mergeSort ?_ ?_ l
  · intro a b c h1 h2
    simp only [leN, Bool.not_eq_true', decide_eq_false_iff_not, cmpN_neg] at h1 h2 ⊢
    omega
  · intro a b
    simp only [leN, Bool.or_eq_true, Bool.not_eq_true', decide_eq_false_iff_not, cmpN_neg]
    omega
theorem leN_anti {l : List Nee} (hn : (l.map (·.1)).Nodup) {x y : Nee} (hx : x ∈ l) (hy : y ∈ l) (h1 : leN x y = true) (h2 : leN y x = true) : x = y := by
  have hxy : x.1 = y.1 := by
    simp only [leN, Bool.not_eq_true', decide_eq_false_iff_not, cmpN_neg] at h1 h2
    obtain ⟨⟨a1, a2, a3⟩, a4⟩ := x
    obtain ⟨⟨b1, b2, b3⟩, b4⟩ := y
    simp only [Prod.mk.injEq] at *
    omega
  obtain ⟨i, hi, rfl⟩ := List.getElem_of_mem hx
  obtain ⟨j, hj, rfl⟩ := List.getElem_of_mem hy
  have := (List.getElem_inj (h₀ := by simpa using hi) (h₁ := by simpa using hj) hn).1 (by simpa using hxy)
  subst this; rfl

theorem sortNeeds_any {w0 w : World} {F : HP} {v : Value} {l : List Nee} (h : St w0 (RowO 38 4 v l.length (l.flatMap needC) * F) w) (hsz : l.length < 4611686018427387904) (hn : (l.map (·.1)).Nodup) :
    Calls Try.prog 36 #[v, .func (.func 37) #[] #[]] w fun e w' => St w0 (RowO 38 4 v l.length ((l.mergeSort leN).flatMap needC) * F) w' ∧ e = .returned (.tuple #[]) := by
  refine (St.sortFuncP (P := Try.prog) sortNeedL (k := 4) (enc := needC) (cf := fun x y : Nee => cmpN x.1 y.1) (g := 37) Try.isAgg38 Try.sizeOf38 (fun _ => rfl) (fun x v hv => by
    have := needC_cells x v hv
    rwa [isCell_eq] at this) swoN (fun args w => fnOk0_run (by kernel_rfl) args w) (fun W x y => ?_) h hsz).mono ?_
  · exact (cmpNeed_any (St.start W)).mono fun e w' h => h
  · rintro e w' ⟨l', hp, hs, h', he⟩
    have hu : l' = l.mergeSort leN := by
      refine perm_sorted_unique (r := fun x y => leN x y = true) (fun x hx y hy h1 h2 => leN_anti hn (hp.mem_iff.1 hx) (hp.mem_iff.1 hy) h1 h2) (hp.trans (List.mergeSort_perm l leN).symm) ?_ (leN_sorted l) fun x _ => leN_refl x
      exact hs.imp fun {a b} h => by simpa [leN, ltOf] using h
    rw [hu] at h'
    exact ⟨h', he⟩

end Go.Proofs.Ytacmnfpgimgigaa
