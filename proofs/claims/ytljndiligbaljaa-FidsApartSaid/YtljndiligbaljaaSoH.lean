/- slices.Sort at uint32: pdqsort, Sort. -/
import Derived.Test.YtljndiligbaljaaSoG
import Derived.Sort.LotD3
import Derived.Test.YtljndiligbaljaaSrt0
namespace Go.Proofs.Ytljndiligbaljaa
open Go Go.Sort
set_option linter.unusedSimpArgs false
set_option linter.unusedVariables false
set_option maxRecDepth 100000

abbrev PdqOk (N : Nat) : Prop := ∀ {w0 w : World} {F : HP} {g o n c a b limit : Nat} {d : Array Int}, b - a < N → St w0 (SoP g o n c d * F) w → a ≤ b → b ≤ n → n < 2305843009213693951 → limit < 4611686018427387904 → Below ltInt a b d →
  Calls Try.prog 75 #[soV g o n c, .int .i64 a, .int .i64 b, .int .i64 limit] w fun e w' => (∃ d', PermIn a b d d' ∧ SortedIn ltInt a b d' ∧ St w0 (SoP g o n c d' * F) w') ∧ e = .returned (.tuple #[])

/-- What is sorted in a part is what was asked for. -/
def Aim (a b : Nat) (d : Array Int) (a' b' : Nat) (d' : Array Int) : Prop := Below ltInt a' b' d' ∧ ∀ R, PermIn a' b' d' R → SortedIn ltInt a' b' R → PermIn a b d R ∧ SortedIn ltInt a b R
theorem Aim.perm {a b a' b' : Nat} {d d' d1 : Array Int} (h : Aim a b d a' b' d') (hb : b' ≤ d'.size) (p : PermIn a' b' d' d1) : Aim a b d a' b' d1 :=
  ⟨h.1.perm hb p, fun R pr sr => h.2 R (permIn_trans _ _ _ _ _ p pr) sr⟩
/-- The slots that count. -/
def S75 (e : FA) (g o n c a b limit : Nat) (bal part : Bool) : Prop :=
  e.ds = [] ∧ e.ρ 0 = soV g o n c ∧ e.ρ 1 = .int .i64 a ∧ e.ρ 2 = .int .i64 b ∧ e.ρ 3 = .int .i64 limit ∧ e.ρ 8 = .bool bal ∧ e.ρ 9 = .bool part

section
variable {w0 w : World} {F : HP} {g o n c a0 b0 a b limit N : Nat} {d0 d : Array Int} {bal part : Bool} {Q : Post} {e : FA}

section
attribute [local go_sem] F75.t20_eq F75.t17_eq F75.t15_eq F75.t10_eq F75.t7_eq F75.t5_eq
theorem pdq20 {p : Nat} {θ : Tag (F75.t20, Q, e, w)} (ih : PdqOk N) (hN : b - a ≤ N) (h : St w0 (SoP g o n c d * F) w) (haim : Aim a0 b0 d0 a b d) (hap : a ≤ p) (hpb : p < b) (hb : b ≤ n) (hn : n < 2305843009213693951) (hlim : limit < 4611686018427387904)
    (hs : S75 e g o n c a b limit bal part) (e10 : e.ρ 10 = .int .i64 ((b - a : Nat) : Int)) (e11 : e.ρ 11 = .int .i64 p)
    (hQ : ∀ (e' : FA) (w' : World) (a' b' : Nat) (d' : Array Int) (bal' part' : Bool), a' ≤ b' → b' ≤ b → b' - a' < b - a → S75 e' g o n c a' b' limit bal' part' → Aim a0 b0 d0 a' b' d' → St w0 (SoP g o n c d' * F) w' → Q .normal e' w') :
    cwE Try.prog F75.t20 Q e w θ := by
  obtain ⟨hd, e0, e1, e2, e3, e8, e9⟩ := hs
  have hsz := SoP.size h
  rw [F75.t20_eq]
  simp -dsimp -implicitDefEqProofs (disch := omega) only [go_sem, reqD_of, dec_t, dec_f, wrap_i64, wrap_u32, wrap_u64, wrap_u8, hd, e0, e1, e2, e3, e8, e9, e10, e11]
  refine (partition_any h hb hap hpb hn).mono ?_
  rintro e' w1 ⟨h1, rfl⟩
  obtain ⟨hB, hR⟩ := haim
  obtain ⟨mid, ap, d4, hx⟩ : ∃ mid ap d4, Sort.partition ltInt d a b p = (mid, ap, d4) := ⟨_, _, _, rfl⟩
  obtain ⟨r1, r2, r3, r4, r5, r6, r7⟩ := round_part swo_ltInt (partition_holds ltInt) hap hpb (by omega) hB hx
  rw [hx] at h1
  simp only at h1
  rw [hx]
  have i1 : (mid : Int) - a = ((mid - a : Nat) : Int) := by omega
  have i2 : (b : Int) - mid = ((b - mid : Nat) : Int) := by omega
  have i3 : ((b - a : Nat) : Int).tdiv 8 = (((b - a) / 8 : Nat) : Int) := rfl
  have i4 : (mid : Int) + 1 = ((mid + 1 : Nat) : Int) := by omega
  by_cases hlt : ((mid - a : Nat) : Int) < ((b - mid : Nat) : Int)
  · simp -dsimp -implicitDefEqProofs (disch := omega) only [go_sem, reqD_of, dec_t, dec_f, wrap_i64, wrap_u32, wrap_u64, wrap_u8, hd, e0, e1, e2, e3, e8, e9, e10, e11, i1, i2, i3, i4, hlt]
    refine (ih (a := a) (b := mid) (limit := limit) (by omega) h1 r1 (by omega) hn hlim r4).mono ?_
    rintro e' w2 ⟨⟨L, pl, sl, h2⟩, rfl⟩
    obtain ⟨q1, q2⟩ := r6 L pl sl
    simp -dsimp -implicitDefEqProofs (disch := omega) only [go_sem, reqD_of, dec_t, dec_f, wrap_i64, wrap_u32, wrap_u64, wrap_u8, hd, e0, e1, e2, e3, e8, e9, e10, e11, i4]
    exact hQ _ _ (mid + 1) b L (decide ((((b - a) / 8 : Nat) : Int) ≤ ((mid - a : Nat) : Int))) ap (by omega) (by omega) (by omega) ⟨by simp -dsimp -implicitDefEqProofs only [go_sem, hd], by simp -dsimp -implicitDefEqProofs only [go_sem, e0], by simp -dsimp -implicitDefEqProofs only [go_sem], by simp -dsimp -implicitDefEqProofs only [go_sem, e2], by simp -dsimp -implicitDefEqProofs only [go_sem, e3], by simp -dsimp -implicitDefEqProofs only [go_sem], by simp -dsimp -implicitDefEqProofs only [go_sem]⟩ ⟨q1, fun R pr sr => by obtain ⟨x, y⟩ := q2 R pr sr; exact hR R x y⟩ h2
  · simp -dsimp -implicitDefEqProofs (disch := omega) only [go_sem, reqD_of, dec_t, dec_f, wrap_i64, wrap_u32, wrap_u64, wrap_u8, hd, e0, e1, e2, e3, e8, e9, e10, e11, i1, i2, i3, i4, hlt]
    refine (ih (a := mid + 1) (b := b) (limit := limit) (by omega) h1 (by omega) (by omega) hn hlim r5).mono ?_
    rintro e' w2 ⟨⟨L, pl, sl, h2⟩, rfl⟩
    obtain ⟨q1, q2⟩ := r7 L pl sl
    simp -dsimp -implicitDefEqProofs (disch := omega) only [go_sem, reqD_of, dec_t, dec_f, wrap_i64, wrap_u32, wrap_u64, wrap_u8, hd, e0, e1, e2, e3, e8, e9, e10, e11]
    exact hQ _ _ a mid L (decide ((((b - a) / 8 : Nat) : Int) ≤ ((b - mid : Nat) : Int))) ap (by omega) (by omega) (by omega) ⟨by simp -dsimp -implicitDefEqProofs only [go_sem, hd], by simp -dsimp -implicitDefEqProofs only [go_sem, e0], by simp -dsimp -implicitDefEqProofs only [go_sem, e1], by simp -dsimp -implicitDefEqProofs only [go_sem], by simp -dsimp -implicitDefEqProofs only [go_sem, e3], by simp -dsimp -implicitDefEqProofs only [go_sem], by simp -dsimp -implicitDefEqProofs only [go_sem]⟩ ⟨q1, fun R pr sr => by obtain ⟨x, y⟩ := q2 R pr sr; exact hR R x y⟩ h2

end
section
attribute [local go_sem] F75.t17_eq F75.t15_eq F75.t10_eq F75.t7_eq F75.t5_eq
theorem pdq17 {p : Nat} {θ : Tag (F75.t17, Q, e, w)} (ih : PdqOk N) (hN : b - a ≤ N) (h : St w0 (SoP g o n c d * F) w) (haim : Aim a0 b0 d0 a b d) (hap : a ≤ p) (hpb : p < b) (hb : b ≤ n) (hn : n < 2305843009213693951) (hlim : limit < 4611686018427387904)
    (hs : S75 e g o n c a b limit bal part) (e10 : e.ρ 10 = .int .i64 ((b - a : Nat) : Int)) (e11 : e.ρ 11 = .int .i64 p)
    (hQ : ∀ (x : Exit) (e' : FA) (w' : World) (a' b' : Nat) (d' : Array Int) (bal' part' : Bool), (x = .normal ∨ x = .exit 1) → a' ≤ b' → b' ≤ b → b' - a' < b - a → S75 e' g o n c a' b' limit bal' part' → Aim a0 b0 d0 a' b' d' → St w0 (SoP g o n c d' * F) w' → Q x e' w') :
    cwE Try.prog F75.t17 Q e w θ := by
  have hs' := hs
  obtain ⟨hd, e0, e1, e2, e3, e8, e9⟩ := hs
  have hsz := SoP.size h
  rw [F75.t17_eq]
  have go : ∀ {Q' : Post} {e' : FA} {w' : World} {θ : Tag (F75.t20, Q', e', w')}, S75 e' g o n c a b limit bal part → e'.ρ 10 = .int .i64 ((b - a : Nat) : Int) → e'.ρ 11 = .int .i64 p → St w0 (SoP g o n c d * F) w' →
      (∀ (e' : FA) (w' : World) (a' b' : Nat) (d' : Array Int) (bal' part' : Bool), a' ≤ b' → b' ≤ b → b' - a' < b - a → S75 e' g o n c a' b' limit bal' part' → Aim a0 b0 d0 a' b' d' → St w0 (SoP g o n c d' * F) w' → Q' .normal e' w') → cwE Try.prog F75.t20 Q' e' w' θ :=
    fun f0 f1 f2 hh hq => pdq20 ih hN hh haim hap hpb hb hn hlim f0 f1 f2 hq
  have hfin : ∀ (e' : FA) (w' : World) (a' b' : Nat) (d' : Array Int) (bal' part' : Bool), a' ≤ b' → b' ≤ b → b' - a' < b - a → S75 e' g o n c a' b' limit bal' part' → Aim a0 b0 d0 a' b' d' → St w0 (SoP g o n c d' * F) w' → Q .normal e' w' := fun e' w' a' b' d' bal' part' => hQ .normal e' w' a' b' d' bal' part' (.inl rfl)
  by_cases ha0 : (0 : Int) < a
  case neg =>
    simp -dsimp -implicitDefEqProofs (disch := omega) only [go_sem, reqD_of, dec_t, dec_f, wrap_i64, wrap_u32, wrap_u64, wrap_u8, hd, e0, e1, e2, e3, e8, e9, e10, e11, ha0]
    exact go ⟨by simp -dsimp -implicitDefEqProofs only [go_sem, hd], by simp -dsimp -implicitDefEqProofs only [go_sem, e0], by simp -dsimp -implicitDefEqProofs only [go_sem, e1], by simp -dsimp -implicitDefEqProofs only [go_sem, e2], by simp -dsimp -implicitDefEqProofs only [go_sem, e3], by simp -dsimp -implicitDefEqProofs only [go_sem, e8], by simp -dsimp -implicitDefEqProofs only [go_sem, e9]⟩ (by simp -dsimp -implicitDefEqProofs only [go_sem, e10]) (by simp -dsimp -implicitDefEqProofs only [go_sem, e11]) h.drew hfin
  have h1 := h.drew
  have c1 := SoP.get h1 (i := a - 1) (by omega)
  have cp := SoP.get h1 (i := p) (by omega)
  have i1 : (a : Int) - 1 = ((a - 1 : Nat) : Int) := by omega
  simp -dsimp -implicitDefEqProofs (disch := omega) only [go_sem, reqD_of, dec_t, dec_f, wrap_i64, wrap_u32, wrap_u64, wrap_u8, hd, e0, e1, e2, e3, e8, e9, e10, e11, ha0, i1, c1, cp]
  refine (lessW_any h1).mono ?_
  rintro e' w1 ⟨h2, rfl⟩
  cases hl : ltInt d[a - 1]! d[p]!
  · simp -dsimp -implicitDefEqProofs (disch := omega) only [go_sem, reqD_of, dec_t, dec_f, wrap_i64, wrap_u32, wrap_u64, wrap_u8, hd, e0, e1, e2, e3, e8, e9, e10, e11]
    refine (partEq_any h2 hb hap hpb hn).mono ?_
    rintro e' w3 ⟨h3, rfl⟩
    obtain ⟨mid, d4, hx⟩ : ∃ mid d4, partitionEqual ltInt d a b p = (mid, d4) := ⟨_, _, rfl⟩
    obtain ⟨r1, r2, r3, r4, r5⟩ := round_eq swo_ltInt (partitionEqual_holds ltInt) (by omega) hap hpb (by omega) haim.1 hl hx
    rw [hx] at h3 ⊢
    simp only at h3
    simp -dsimp -implicitDefEqProofs (disch := omega) only [go_sem, reqD_of, dec_t, dec_f, wrap_i64, wrap_u32, wrap_u64, wrap_u8, hd, e0, e1, e2, e3, e8, e9, e10, e11]
    exact hQ _ _ _ mid b d4 bal part (.inr rfl) (by omega) (by omega) (by omega) ⟨by simp -dsimp -implicitDefEqProofs only [go_sem, hd], by simp -dsimp -implicitDefEqProofs only [go_sem, e0], by simp -dsimp -implicitDefEqProofs only [go_sem], by simp -dsimp -implicitDefEqProofs only [go_sem, e2], by simp -dsimp -implicitDefEqProofs only [go_sem, e3], by simp -dsimp -implicitDefEqProofs only [go_sem, e8], by simp -dsimp -implicitDefEqProofs only [go_sem, e9]⟩ ⟨r4, fun R pr sr => by obtain ⟨x, y⟩ := r5 R pr sr; exact haim.2 R x y⟩ h3
  · simp -dsimp -implicitDefEqProofs (disch := omega) only [go_sem, reqD_of, dec_t, dec_f, wrap_i64, wrap_u32, wrap_u64, wrap_u8, hd, e0, e1, e2, e3, e8, e9, e10, e11]
    exact go ⟨by simp -dsimp -implicitDefEqProofs only [go_sem, hd], by simp -dsimp -implicitDefEqProofs only [go_sem, e0], by simp -dsimp -implicitDefEqProofs only [go_sem, e1], by simp -dsimp -implicitDefEqProofs only [go_sem, e2], by simp -dsimp -implicitDefEqProofs only [go_sem, e3], by simp -dsimp -implicitDefEqProofs only [go_sem, e8], by simp -dsimp -implicitDefEqProofs only [go_sem, e9]⟩ (by simp -dsimp -implicitDefEqProofs only [go_sem, e10]) (by simp -dsimp -implicitDefEqProofs only [go_sem, e11]) h2 hfin

end
section
attribute [local go_sem] F75.t20_eq F75.t15_eq F75.t10_eq F75.t7_eq F75.t5_eq
theorem pdq15 {p : Nat} {hi : Hint} {θ : Tag (F75.t15, Q, e, w)} (ih : PdqOk N) (hN : b - a ≤ N) (h : St w0 (SoP g o n c d * F) w) (haim : Aim a0 b0 d0 a b d) (hap : a ≤ p) (hpb : p < b) (hb : b ≤ n) (hn : n < 2305843009213693951) (hlim : limit < 4611686018427387904)
    (hs : S75 e g o n c a b limit bal part) (e10 : e.ρ 10 = .int .i64 ((b - a : Nat) : Int)) (e11 : e.ρ 11 = .int .i64 p) (e12 : e.ρ 12 = .int .i64 (hintI hi))
    (hR : ∀ (e' : FA) (w' : World) (d' : Array Int), e'.ds = [] → PermIn a0 b0 d0 d' → SortedIn ltInt a0 b0 d' → St w0 (SoP g o n c d' * F) w' → Q .ret e' w')
    (hQ : ∀ (x : Exit) (e' : FA) (w' : World) (a' b' : Nat) (d' : Array Int) (bal' part' : Bool), (x = .normal ∨ x = .exit 1) → a' ≤ b' → b' ≤ b → b' - a' < b - a → S75 e' g o n c a' b' limit bal' part' → Aim a0 b0 d0 a' b' d' → St w0 (SoP g o n c d' * F) w' → Q x e' w') :
    cwE Try.prog F75.t15 Q e w θ := by
  obtain ⟨hd, e0, e1, e2, e3, e8, e9⟩ := hs
  have hsz := SoP.size h
  rw [F75.t15_eq]
  have go : ∀ {e' : FA} {w' : World} {d' : Array Int} {θ : Tag (F75.t17, Q, e', w')}, S75 e' g o n c a b limit bal part → e'.ρ 10 = .int .i64 ((b - a : Nat) : Int) → e'.ρ 11 = .int .i64 p → Aim a0 b0 d0 a b d' → St w0 (SoP g o n c d' * F) w' → cwE Try.prog F75.t17 Q e' w' θ :=
    fun f0 f1 f2 ha hh => pdq17 ih hN hh ha hap hpb hb hn hlim f0 f1 f2 hQ
  by_cases hc : bal = true ∧ part = true ∧ hintI hi = 1
  · obtain ⟨rfl, rfl, hh⟩ := hc
    simp -dsimp -implicitDefEqProofs (disch := omega) only [go_sem, reqD_of, dec_t, dec_f, wrap_i64, wrap_u32, wrap_u64, wrap_u8, hd, e0, e1, e2, e3, e8, e9, e10, e11, e12, hh]
    refine (partial_any h hb (by omega) hn).mono ?_
    rintro e' w1 ⟨h1, rfl⟩
    obtain ⟨pp, ps⟩ := partialInsertionSort_holds swo_ltInt d a b (by omega) (by omega) haim.1
    cases hr : (partialInsertionSort ltInt d a b).2
    · simp -dsimp -implicitDefEqProofs (disch := omega) only [go_sem, reqD_of, dec_t, dec_f, wrap_i64, wrap_u32, wrap_u64, wrap_u8, hd, e0, e1, e2, e3, e8, e9, e10, e11]
      exact go ⟨by simp -dsimp -implicitDefEqProofs only [go_sem, hd], by simp -dsimp -implicitDefEqProofs only [go_sem, e0], by simp -dsimp -implicitDefEqProofs only [go_sem, e1], by simp -dsimp -implicitDefEqProofs only [go_sem, e2], by simp -dsimp -implicitDefEqProofs only [go_sem, e3], by simp -dsimp -implicitDefEqProofs only [go_sem, e8], by simp -dsimp -implicitDefEqProofs only [go_sem, e9]⟩ (by simp -dsimp -implicitDefEqProofs only [go_sem, e10]) (by simp -dsimp -implicitDefEqProofs only [go_sem, e11]) (haim.perm (by omega) pp) h1
    · obtain ⟨x, y⟩ := haim.2 _ pp (ps hr)
      simp -dsimp -implicitDefEqProofs (disch := omega) only [go_sem, reqD_of, dec_t, dec_f, wrap_i64, wrap_u32, wrap_u64, wrap_u8, hd, e0, e1, e2, e3, e8, e9, e10, e11]
      exact hR _ _ _ (by simp -dsimp -implicitDefEqProofs only [go_sem, hd]) x y h1
  · have : ∀ (b1 b2 : Bool), bal = b1 → part = b2 → cwE Try.prog F75.t15 Q e w := fun b1 b2 h1 h2 => by
      rw [F75.t15_eq]
      cases b1 with
      | false =>
        subst h1
        simp -dsimp -implicitDefEqProofs (disch := omega) only [go_sem, reqD_of, dec_t, dec_f, wrap_i64, wrap_u32, wrap_u64, wrap_u8, hd, e0, e1, e2, e3, e8, e9, e10, e11, e12]
        exact go ⟨by simp -dsimp -implicitDefEqProofs only [go_sem, hd], by simp -dsimp -implicitDefEqProofs only [go_sem, e0], by simp -dsimp -implicitDefEqProofs only [go_sem, e1], by simp -dsimp -implicitDefEqProofs only [go_sem, e2], by simp -dsimp -implicitDefEqProofs only [go_sem, e3], by simp -dsimp -implicitDefEqProofs only [go_sem, e8], by simp -dsimp -implicitDefEqProofs only [go_sem, e9]⟩ (by simp -dsimp -implicitDefEqProofs only [go_sem, e10]) (by simp -dsimp -implicitDefEqProofs only [go_sem, e11]) haim h
      | true =>
        cases b2 with
        | false =>
          subst h1 h2
          simp -dsimp -implicitDefEqProofs (disch := omega) only [go_sem, reqD_of, dec_t, dec_f, wrap_i64, wrap_u32, wrap_u64, wrap_u8, hd, e0, e1, e2, e3, e8, e9, e10, e11, e12]
          exact go ⟨by simp -dsimp -implicitDefEqProofs only [go_sem, hd], by simp -dsimp -implicitDefEqProofs only [go_sem, e0], by simp -dsimp -implicitDefEqProofs only [go_sem, e1], by simp -dsimp -implicitDefEqProofs only [go_sem, e2], by simp -dsimp -implicitDefEqProofs only [go_sem, e3], by simp -dsimp -implicitDefEqProofs only [go_sem, e8], by simp -dsimp -implicitDefEqProofs only [go_sem, e9]⟩ (by simp -dsimp -implicitDefEqProofs only [go_sem, e10]) (by simp -dsimp -implicitDefEqProofs only [go_sem, e11]) haim h
        | true =>
          subst h1 h2
          have hh : ¬ hintI hi = 1 := fun hh => hc ⟨rfl, rfl, hh⟩
          simp -dsimp -implicitDefEqProofs (disch := omega) only [go_sem, reqD_of, dec_t, dec_f, wrap_i64, wrap_u32, wrap_u64, wrap_u8, hd, e0, e1, e2, e3, e8, e9, e10, e11, e12, hh]
          exact go ⟨by simp -dsimp -implicitDefEqProofs only [go_sem, hd], by simp -dsimp -implicitDefEqProofs only [go_sem, e0], by simp -dsimp -implicitDefEqProofs only [go_sem, e1], by simp -dsimp -implicitDefEqProofs only [go_sem, e2], by simp -dsimp -implicitDefEqProofs only [go_sem, e3], by simp -dsimp -implicitDefEqProofs only [go_sem, e8], by simp -dsimp -implicitDefEqProofs only [go_sem, e9]⟩ (by simp -dsimp -implicitDefEqProofs only [go_sem, e10]) (by simp -dsimp -implicitDefEqProofs only [go_sem, e11]) haim h
    have hx := this bal part rfl rfl
    rw [F75.t15_eq] at hx
    exact hx

end
section
attribute [local go_sem] F75.t20_eq F75.t17_eq F75.t10_eq F75.t7_eq F75.t5_eq
theorem pdq10 {θ : Tag (F75.t10, Q, e, w)} (ih : PdqOk N) (hN : b - a ≤ N) (h : St w0 (SoP g o n c d * F) w) (haim : Aim a0 b0 d0 a b d) (hab : a < b) (hb : b ≤ n) (hn : n < 2305843009213693951) (hlim : limit < 4611686018427387904)
    (hs : S75 e g o n c a b limit bal part) (e10 : e.ρ 10 = .int .i64 ((b - a : Nat) : Int))
    (hR : ∀ (e' : FA) (w' : World) (d' : Array Int), e'.ds = [] → PermIn a0 b0 d0 d' → SortedIn ltInt a0 b0 d' → St w0 (SoP g o n c d' * F) w' → Q .ret e' w')
    (hQ : ∀ (x : Exit) (e' : FA) (w' : World) (a' b' : Nat) (d' : Array Int) (bal' part' : Bool), (x = .normal ∨ x = .exit 1) → a' ≤ b' → b' ≤ b → b' - a' < b - a → S75 e' g o n c a' b' limit bal' part' → Aim a0 b0 d0 a' b' d' → St w0 (SoP g o n c d' * F) w' → Q x e' w') :
    cwE Try.prog F75.t10 Q e w θ := by
  obtain ⟨hd, e0, e1, e2, e3, e8, e9⟩ := hs
  have hsz := SoP.size h
  rw [F75.t10_eq]
  simp -dsimp -implicitDefEqProofs (disch := omega) only [go_sem, reqD_of, dec_t, dec_f, wrap_i64, wrap_u32, wrap_u64, wrap_u8, hd, e0, e1, e2, e3, e8, e9, e10]
  refine (pivot_any h hb hab hn).mono ?_
  rintro e' w1 ⟨h1, rfl⟩
  obtain ⟨p1, p2⟩ := choosePivot_holds ltInt d a b hab
  generalize choosePivot ltInt d a b = C at p1 p2
  obtain ⟨p, hi⟩ := C
  simp only at p1 p2
  have i1 : (b : Int) - 1 = ((b - 1 : Nat) : Int) := by omega
  have i2 : (p : Int) - a = ((p - a : Nat) : Int) := by omega
  have i3 : ((b - 1 : Nat) : Int) - ((p - a : Nat) : Int) = ((b - 1 - (p - a) : Nat) : Int) := by omega
  by_cases hc : hintI hi = 2
  · simp -dsimp -implicitDefEqProofs (disch := omega) only [go_sem, reqD_of, dec_t, dec_f, wrap_i64, wrap_u32, wrap_u64, wrap_u8, hd, e0, e1, e2, e3, e8, e9, e10, hc]
    refine (reverse_any h1 hb hab hn).mono ?_
    rintro e' w2 ⟨h2, rfl⟩
    have pr := reverseRange_holds d a b (by omega) (by omega)
    simp -dsimp -implicitDefEqProofs (disch := omega) only [go_sem, reqD_of, dec_t, dec_f, wrap_i64, wrap_u32, wrap_u64, wrap_u8, hd, e0, e1, e2, e3, e8, e9, e10, i1, i2, i3]
    exact pdq15 (bal := bal) (part := part) (p := b - 1 - (p - a)) (hi := .increasing) ih hN h2 (haim.perm (by omega) pr) (by omega) (by omega) hb hn hlim ⟨by simp -dsimp -implicitDefEqProofs only [go_sem, hd], by simp -dsimp -implicitDefEqProofs only [go_sem, e0], by simp -dsimp -implicitDefEqProofs only [go_sem, e1], by simp -dsimp -implicitDefEqProofs only [go_sem, e2], by simp -dsimp -implicitDefEqProofs only [go_sem, e3], by simp -dsimp -implicitDefEqProofs only [go_sem, e8], by simp -dsimp -implicitDefEqProofs only [go_sem, e9]⟩ (by simp -dsimp -implicitDefEqProofs only [go_sem, e10]) (by simp -dsimp -implicitDefEqProofs only [go_sem]) (by simp -dsimp -implicitDefEqProofs only [go_sem]; rfl) hR hQ
  · simp -dsimp -implicitDefEqProofs (disch := omega) only [go_sem, reqD_of, dec_t, dec_f, wrap_i64, wrap_u32, wrap_u64, wrap_u8, hd, e0, e1, e2, e3, e8, e9, e10, hc]
    exact pdq15 (bal := bal) (part := part) (p := p) (hi := hi) ih hN h1 haim p1 p2 hb hn hlim ⟨by simp -dsimp -implicitDefEqProofs only [go_sem, hd], by simp -dsimp -implicitDefEqProofs only [go_sem, e0], by simp -dsimp -implicitDefEqProofs only [go_sem, e1], by simp -dsimp -implicitDefEqProofs only [go_sem, e2], by simp -dsimp -implicitDefEqProofs only [go_sem, e3], by simp -dsimp -implicitDefEqProofs only [go_sem, e8], by simp -dsimp -implicitDefEqProofs only [go_sem, e9]⟩ (by simp -dsimp -implicitDefEqProofs only [go_sem, e10]) (by simp -dsimp -implicitDefEqProofs only [go_sem]) (by simp -dsimp -implicitDefEqProofs only [go_sem]) hR hQ
end
end

section
attribute [local go_sem] F75.t20_eq F75.t17_eq F75.t15_eq F75.t7_eq F75.t5_eq
theorem pdq_step {N : Nat} (ih : PdqOk N) : PdqOk (N + 1) := by
  intro w0 w F g o n c a0 b0 limit0 d0 hN h hab hb hn hlim hB
  refine F75.calls (by simp) ?_
  unfold F75.code
  have hsz := SoP.size h
  simp -dsimp -implicitDefEqProofs (disch := omega) only [go_sem, reqD_of, dec_t, dec_f, wrap_i64, wrap_u32, wrap_u64, wrap_u8]
  refine loop_intro (fun e w' => ∃ (a b limit : Nat) (d : Array Int) (bal part : Bool), a ≤ b ∧ b ≤ b0 ∧ b - a ≤ b0 - a0 ∧ limit ≤ limit0 ∧ S75 e g o n c a b limit bal part ∧ Aim a0 b0 d0 a b d ∧ St w0 (SoP g o n c d * F) w')
    (fun e _ => match e.ρ 1, e.ρ 2 with | .int _ i, .int _ j => (j - i).toNat | _, _ => 0) ?_ ?_
  · exact ⟨a0, b0, limit0, d0, true, true, hab, Nat.le_refl _, Nat.le_refl _, Nat.le_refl _, ⟨rfl, by simp -dsimp -implicitDefEqProofs only [go_sem], by simp -dsimp -implicitDefEqProofs only [go_sem], by simp -dsimp -implicitDefEqProofs only [go_sem], by simp -dsimp -implicitDefEqProofs only [go_sem], by simp -dsimp -implicitDefEqProofs only [go_sem], by simp -dsimp -implicitDefEqProofs only [go_sem]⟩, ⟨hB, fun R pr sr => ⟨pr, sr⟩⟩, h⟩
  rintro e w1 ⟨a, b, limit, d, bal, part, hab, hbb, hba, hll, hs, haim, h1⟩
  have hs' := hs
  obtain ⟨hd, e0, e1, e2, e3, e8, e9⟩ := hs
  have hsz1 := SoP.size h1
  have i1 : (b : Int) - a = ((b - a : Nat) : Int) := by omega
  by_cases h12 : ((b - a : Nat) : Int) ≤ 12
  · simp -dsimp -implicitDefEqProofs (disch := omega) only [go_sem, reqD_of, dec_t, dec_f, wrap_i64, wrap_u32, wrap_u64, wrap_u8, hd, e0, e1, e2, e3, e8, e9, i1, h12]
    refine (insertion_any h1 (by omega) hab (by omega)).mono ?_
    rintro e' w2 ⟨h2, rfl⟩
    obtain ⟨pi, si⟩ := insertionSort_holds swo_ltInt d a b hab (by omega)
    obtain ⟨x, y⟩ := haim.2 _ pi si
    simp -dsimp -implicitDefEqProofs (disch := omega) only [go_sem, reqD_of, dec_t, dec_f, wrap_i64, wrap_u32, wrap_u64, wrap_u8, hd]
    exact ⟨_, x, y, h2⟩
  have hR : ∀ (e' : FA) (w' : World) (d' : Array Int), e'.ds = [] → PermIn a0 b0 d0 d' → SortedIn ltInt a0 b0 d' → St w0 (SoP g o n c d' * F) w' → fnP Try.prog #[] (fun e w' => (∃ d', PermIn a0 b0 d0 d' ∧ SortedIn ltInt a0 b0 d' ∧ St w0 (SoP g o n c d' * F) w') ∧ e = .returned (.tuple #[])) .ret e' w' := by
    intro e' w' d' f0 x y hh
    simp -dsimp -implicitDefEqProofs (disch := omega) only [go_sem, reqD_of, dec_t, dec_f, wrap_i64, wrap_u32, wrap_u64, wrap_u8, f0]
    exact ⟨d', x, y, hh⟩
  by_cases hl0 : (limit : Int) = 0
  · simp -dsimp -implicitDefEqProofs (disch := omega) only [go_sem, reqD_of, dec_t, dec_f, wrap_i64, wrap_u32, wrap_u64, wrap_u8, hd, e0, e1, e2, e3, e8, e9, i1, h12, hl0]
    refine (heapSort_any h1 (by omega) (by omega) hn).mono ?_
    rintro e' w2 ⟨h2, rfl⟩
    obtain ⟨pi, si⟩ := heapSort_holds swo_ltInt d a b hab (by omega)
    obtain ⟨x, y⟩ := haim.2 _ pi si
    simp -dsimp -implicitDefEqProofs (disch := omega) only [go_sem, reqD_of, dec_t, dec_f, wrap_i64, wrap_u32, wrap_u64, wrap_u8, hd]
    exact ⟨_, x, y, h2⟩
  cases bal
  · have i2 : (limit : Int) - 1 = ((limit - 1 : Nat) : Int) := by omega
    simp -dsimp -implicitDefEqProofs (disch := omega) only [go_sem, reqD_of, dec_t, dec_f, wrap_i64, wrap_u32, wrap_u64, wrap_u8, hd, e0, e1, e2, e3, e8, e9, i1, h12, hl0]
    refine (break_any h1 (by omega) hab hn).mono ?_
    rintro e' w2 ⟨h2, rfl⟩
    have pb := breakPatterns_holds d a b hab (by omega)
    simp -dsimp -implicitDefEqProofs (disch := omega) only [go_sem, reqD_of, dec_t, dec_f, wrap_i64, wrap_u32, wrap_u64, wrap_u8, hd, e0, e1, e2, e3, e8, e9, i1, i2]
    refine pdq10 (a := a) (b := b) (limit := limit - 1) (bal := false) (part := part) (N := N) ih (by omega) h2 (haim.perm (by omega) pb) (by omega) (by omega) hn (by omega) ⟨by simp -dsimp -implicitDefEqProofs only [go_sem, hd], by simp -dsimp -implicitDefEqProofs only [go_sem, e0], by simp -dsimp -implicitDefEqProofs only [go_sem, e1], by simp -dsimp -implicitDefEqProofs only [go_sem, e2], by simp -dsimp -implicitDefEqProofs only [go_sem], by simp -dsimp -implicitDefEqProofs only [go_sem, e8], by simp -dsimp -implicitDefEqProofs only [go_sem, e9]⟩ (by simp -dsimp -implicitDefEqProofs only [go_sem]) ?_ ?_
    · intro e' w' d' f0 x y hh
      have := hR e' w' d' f0 x y hh
      simp -dsimp -implicitDefEqProofs (disch := omega) only [go_sem, reqD_of, dec_t, dec_f, wrap_i64, wrap_u32, wrap_u64, wrap_u8, f0] at this ⊢
      exact this
    · intro x e' w' a' b' d' bal' part' hx q1 q2 q3 hs2 ha2 hh
      obtain ⟨f0, f1, f2, f3, f4, f5, f6⟩ := hs2
      rcases hx with rfl | rfl
      · simp -dsimp -implicitDefEqProofs (disch := omega) only [go_sem, reqD_of, dec_t, dec_f, wrap_i64, wrap_u32, wrap_u64, wrap_u8, f0, f1, f2, f3, f4, f5, f6, e1, e2]
        exact ⟨⟨a', b', limit - 1, d', bal', part', q1, by omega, by omega, by omega, ⟨f0, f1, f2, f3, f4, f5, f6⟩, ha2, hh⟩, by omega⟩
      · simp -dsimp -implicitDefEqProofs (disch := omega) only [go_sem, reqD_of, dec_t, dec_f, wrap_i64, wrap_u32, wrap_u64, wrap_u8, f0, f1, f2, f3, f4, f5, f6, e1, e2]
        exact ⟨⟨a', b', limit - 1, d', bal', part', q1, by omega, by omega, by omega, ⟨f0, f1, f2, f3, f4, f5, f6⟩, ha2, hh⟩, by omega⟩
  · simp -dsimp -implicitDefEqProofs (disch := omega) only [go_sem, reqD_of, dec_t, dec_f, wrap_i64, wrap_u32, wrap_u64, wrap_u8, hd, e0, e1, e2, e3, e8, e9, i1, h12, hl0]
    refine pdq10 (a := a) (b := b) (limit := limit) (bal := true) (part := part) (N := N) ih (by omega) h1 haim (by omega) (by omega) hn (by omega) ⟨by simp -dsimp -implicitDefEqProofs only [go_sem, hd], by simp -dsimp -implicitDefEqProofs only [go_sem, e0], by simp -dsimp -implicitDefEqProofs only [go_sem, e1], by simp -dsimp -implicitDefEqProofs only [go_sem, e2], by simp -dsimp -implicitDefEqProofs only [go_sem, e3], by simp -dsimp -implicitDefEqProofs only [go_sem, e8], by simp -dsimp -implicitDefEqProofs only [go_sem, e9]⟩ (by simp -dsimp -implicitDefEqProofs only [go_sem]) ?_ ?_
    · intro e' w' d' f0 x y hh
      have := hR e' w' d' f0 x y hh
      simp -dsimp -implicitDefEqProofs (disch := omega) only [go_sem, reqD_of, dec_t, dec_f, wrap_i64, wrap_u32, wrap_u64, wrap_u8, f0] at this ⊢
      exact this
    · intro x e' w' a' b' d' bal' part' hx q1 q2 q3 hs2 ha2 hh
      obtain ⟨f0, f1, f2, f3, f4, f5, f6⟩ := hs2
      rcases hx with rfl | rfl
      · simp -dsimp -implicitDefEqProofs (disch := omega) only [go_sem, reqD_of, dec_t, dec_f, wrap_i64, wrap_u32, wrap_u64, wrap_u8, f0, f1, f2, f3, f4, f5, f6, e1, e2]
        exact ⟨⟨a', b', limit, d', bal', part', q1, by omega, by omega, by omega, ⟨f0, f1, f2, f3, f4, f5, f6⟩, ha2, hh⟩, by omega⟩
      · simp -dsimp -implicitDefEqProofs (disch := omega) only [go_sem, reqD_of, dec_t, dec_f, wrap_i64, wrap_u32, wrap_u64, wrap_u8, f0, f1, f2, f3, f4, f5, f6, e1, e2]
        exact ⟨⟨a', b', limit, d', bal', part', q1, by omega, by omega, by omega, ⟨f0, f1, f2, f3, f4, f5, f6⟩, ha2, hh⟩, by omega⟩

theorem pdq_all : ∀ N, PdqOk N
  | 0 => fun h => absurd h (by omega)
  | N + 1 => pdq_step (pdq_all N)

/-- A sorted permutation of numbers is the sorted list. -/
theorem sorted_is {d d' : Array Int} (p : PermIn 0 d.size d d') (s : SortedIn ltInt 0 d.size d') : d'.toList = d.toList.mergeSort fun x y => decide (x ≤ y) := by
  have h := sorted_unique_holds (lt := ltInt) swo_ltInt (fun x y h1 h2 => by simp [ltInt] at h1 h2; omega) d d' p s
  rw [h]
  congr 1
  funext x y
  simp only [ltInt]
  by_cases hxy : x ≤ y
  · rw [decide_eq_true hxy]; simp; omega
  · rw [decide_eq_false hxy]; simp; omega

end
section
attribute [local go_sem] F77.t5_eq F77.t6_eq F77.t2_eq F77.t3_eq
theorem insertion_nil {w0 w : World} {F : HP} (h : St w0 F w) : Calls Try.prog 77 #[.slice none 0 0, .int .i64 0, .int .i64 0] w fun e w' => St w0 F w' ∧ e = .returned (.tuple #[]) := by
  refine F77.calls (by simp) ?_
  unfold F77.code
  simp -dsimp -implicitDefEqProofs (disch := omega) only [go_sem, reqD_of, dec_t, dec_f, wrap_i64, wrap_u32, wrap_u64, wrap_u8]
  refine loop_intro (fun e w' => e.ds = [] ∧ e.ρ 2 = .int .i64 0 ∧ e.ρ 6 = .int .i64 1 ∧ St w0 F w') (fun _ _ => 0) ?_ ?_
  · exact ⟨rfl, by simp -dsimp -implicitDefEqProofs only [go_sem], by simp -dsimp -implicitDefEqProofs only [go_sem], h⟩
  rintro e w1 ⟨hd, e2, e6, h1⟩
  simp -dsimp -implicitDefEqProofs (disch := omega) only [go_sem, reqD_of, dec_t, dec_f, wrap_i64, wrap_u32, wrap_u64, wrap_u8, hd, e2, e6]
  exact h1
end
section
attribute [local go_sem] F75.t20_eq F75.t17_eq F75.t15_eq F75.t10_eq F75.t7_eq F75.t5_eq
theorem pdq_nil {w0 w : World} {F : HP} (h : St w0 F w) : Calls Try.prog 75 #[.slice none 0 0, .int .i64 0, .int .i64 0, .int .i64 0] w fun e w' => St w0 F w' ∧ e = .returned (.tuple #[]) := by
  refine F75.calls (by simp) ?_
  unfold F75.code
  simp -dsimp -implicitDefEqProofs (disch := omega) only [go_sem, reqD_of, dec_t, dec_f, wrap_i64, wrap_u32, wrap_u64, wrap_u8]
  refine loop_intro (fun e w' => e.ds = [] ∧ e.ρ 0 = .slice none 0 0 ∧ e.ρ 1 = .int .i64 0 ∧ e.ρ 2 = .int .i64 0 ∧ St w0 F w') (fun _ _ => 0) ?_ ?_
  · exact ⟨rfl, by simp -dsimp -implicitDefEqProofs only [go_sem], by simp -dsimp -implicitDefEqProofs only [go_sem], by simp -dsimp -implicitDefEqProofs only [go_sem], h⟩
  rintro e w1 ⟨hd, e0, e1, e2, h1⟩
  simp -dsimp -implicitDefEqProofs (disch := omega) only [go_sem, reqD_of, dec_t, dec_f, wrap_i64, wrap_u32, wrap_u64, wrap_u8, hd, e0, e1, e2]
  refine (insertion_nil h1).mono ?_
  rintro e' w2 ⟨h2, rfl⟩
  simp -dsimp -implicitDefEqProofs (disch := omega) only [go_sem, reqD_of, dec_t, dec_f, wrap_i64, wrap_u32, wrap_u64, wrap_u8, hd]
  exact h2

end

theorem sortW_any {w0 w : World} {F : HP} {v : Value} {l : List Int} (h : St w0 (RowO 35 1 v l.length (l.map encW) * F) w) (hl : l.length < 2305843009213693951) :
    Calls Try.prog 70 #[v] w fun e w' => St w0 (RowO 35 1 v l.length ((l.mergeSort fun x y => decide (x ≤ y)).map encW) * F) w' ∧ e = .returned (.tuple #[]) := by
  refine F70.calls (by simp) ?_
  unfold F70.code
  obtain ⟨a, c, rfl, _, _, _⟩ := h.rowForm v
  simp -dsimp -implicitDefEqProofs (disch := omega) only [go_sem, reqD_of, dec_t, dec_f, wrap_i64, wrap_u32, wrap_u64, wrap_u8]
  refine (bitsLen_any (x := l.length) (by omega)).mono ?_
  rintro e w1 ⟨rfl, rfl⟩
  have hb : bitsLen l.length ≤ 61 := (bitsLen_le_iff l.length 61).2 (by omega)
  simp -dsimp -implicitDefEqProofs (disch := omega) only [go_sem, reqD_of, dec_t, dec_f, wrap_i64, wrap_u32, wrap_u64, wrap_u8]
  rcases RowO.place h with ⟨hv, hn, hx⟩ | ⟨g, o, cap, cur, hv, _⟩
  · have hl0 : l = [] := by simpa using hx
    subst hl0
    simp only [Value.slice.injEq] at hv
    obtain ⟨rfl, _, rfl⟩ := hv
    refine (pdq_nil h).mono ?_
    rintro e w2 ⟨h2, rfl⟩
    simp -dsimp -implicitDefEqProofs (disch := omega) only [go_sem, reqD_of, dec_t, dec_f, wrap_i64, wrap_u32, wrap_u64, wrap_u8]
    rw [List.mergeSort_nil]
    exact h2
  · simp only [Value.slice.injEq, true_and] at hv
    obtain ⟨rfl, rfl⟩ := hv
    have h' : St w0 (SoP g o l.length c l.toArray * F) w1 := h
    refine (pdq_all (l.length + 1) (a := 0) (b := l.length) (limit := bitsLen l.length) (by omega) h' (by omega) (by omega) hl (by omega) (.inl rfl)).mono ?_
    rintro e w2 ⟨⟨d', p, s, h2⟩, rfl⟩
    have hs : d'.toList = l.mergeSort fun x y => decide (x ≤ y) := sorted_is (d := l.toArray) p s
    simp -dsimp -implicitDefEqProofs (disch := omega) only [go_sem, reqD_of, dec_t, dec_f, wrap_i64, wrap_u32, wrap_u64, wrap_u8]
    unfold SoP at h2
    rw [hs] at h2
    exact h2

end Go.Proofs.Ytljndiligbaljaa
