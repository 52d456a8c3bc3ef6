/- part 11 -/
import Derived.Test.YtljndiligbaljaaZ1
import Derived.Test.YtljndiligbaljaaZ2
import Derived.Test.YtljndiligbaljaaZ3
import Derived.Test.YtljndiligbaljaaZ4
import Derived.Test.YtljndiligbaljaaZ5
import Derived.Test.YtljndiligbaljaaZ6
import Derived.Test.YtljndiligbaljaaZ7
import Derived.Test.YtljndiligbaljaaZ8
import Derived.Test.YtljndiligbaljaaZ9
import Derived.Test.YtljndiligbaljaaZ10
import Derived.Sort.LotD3
import Derived.Laws.BytesArg
namespace Go.Proofs.Ytljndiligbaljaa
open Go Go.Sort
set_option linter.unusedSimpArgs false
set_option linter.unusedVariables false
set_option maxRecDepth 100000
abbrev PdqOk (N : Nat) : Prop := ∀ {w0 w : World} {F : HP} {g o n c a b limit : Nat} {d : Array Int}, b - a < N → St w0 (SoP g o n c d * F) w → a ≤ b → b ≤ n → n < 2305843009213693951 → limit < 4611686018427387904 → Below ltInt a b d →
  Calls Try.prog 75 #[soV g o n c, .int .i64 a, .int .i64 b, .int .i64 limit] w fun e w' => (∃ d', PermIn a b d d' ∧ SortedIn ltInt a b d' ∧ St w0 (SoP g o n c d' * F) w') ∧ e = .returned (.tuple #[])
def Aim (a b : Nat) (d : Array Int) (a' b' : Nat) (d' : Array Int) : Prop := Below ltInt a' b' d' ∧ ∀ R, PermIn a' b' d' R → SortedIn ltInt a' b' R → PermIn a b d R ∧ SortedIn ltInt a b R
theorem Aim.perm {a b a' b' : Nat} {d d' d1 : Array Int} (h : Aim a b d a' b' d') (hb : b' ≤ d'.size) (p : PermIn a' b' d' d1) : Aim a b d a' b' d1 :=
  ⟨h.1.perm hb p, fun R pr sr => h.2 R (permIn_trans _ _ _ _ _ p pr) sr⟩
def S75 (e : FA) (g o n c a b limit : Nat) (bal part : Bool) : Prop :=
  e.ds = [] ∧ e.ρ 0 = soV g o n c ∧ e.ρ 1 = .int .i64 a ∧ e.ρ 2 = .int .i64 b ∧ e.ρ 3 = .int .i64 limit ∧ e.ρ 8 = .bool bal ∧ e.ρ 9 = .bool part
section
variable {w0 w : World} {F : HP} {g o n c a0 b0 a b limit N : Nat} {d0 d : Array Int} {bal part : Bool} {Q : Post} {e : FA}
section
attribute [local go_sem] F75.t20_eq F75.t17_eq F75.t15_eq F75.t10_eq F75.t7_eq F75.t5_eq
theorem pdq20 {p : Nat} {θ : Tag (F75.t20, Q, e, w)} (ih : PdqOk N) (hN : b - a ≤ N) (h : St w0 (SoP g o n c d * F) w) (haim : Aim a0 b0 d0 a b d) (hap : a ≤ p) (hpb : p < b) (hb : b ≤ n) (hn : n < 2305843009213693951) (hlim : limit < 4611686018427387904)
    (hs : S75 e g o n c a b limit bal part) (e10 : e.ρ 10 = .int .i64 ((b - a : Nat) : Int)) (e11 : e.ρ 11 = .int .i64 p)
    (hQ : ∀ (e' : FA) (w' : World) (a' b' : Nat) (d' : Array Int) (bal' part' : Bool), a' ≤ b' → b' ≤ b → b' - a' < b - a → S75 e' g o n c a' b' limit bal' part' → Aim a0 b0 d0 a' b' d' → St w0 (SoP g o n c d' * F) w' → Q .normal e' w') :
    cwE Try.prog F75.t20 Q e w θ := by
  obtain ⟨hd, e0, e1, e2, e3, e8, e9⟩ := hs
  have hsz := SoP.size h
  rw [F75.t20_eq]
  simp -dsimp -implicitDefEqProofs (disch := omega) only [go_sem, hd, e0, e1, e2, e3, e8, e9, e10, e11]
  refine (partition_any h hb hap hpb hn).mono ?_
  rintro e' w1 ⟨h1, rfl⟩
  obtain ⟨hB, hR⟩ := haim
  obtain ⟨mid, ap, d4, hx⟩ : ∃ mid ap d4, Sort.partition ltInt d a b p = (mid, ap, d4) := ⟨_, _, _, rfl⟩
  obtain ⟨r1, r2, r3, r4, r5, r6, r7⟩ := round_part swo_ltInt (partition_holds ltInt) hap hpb (by omega) hB hx
  rw [hx] at h1
  simp only at h1
  rw [hx]
  have i1 : (mid : Int) - a = ((mid - a : Nat) : Int) := by omega
  have i2 : (b : Int) - mid = ((b - mid : Nat) : Int) := by omega
  have i3 : ((b - a : Nat) : Int).tdiv 8 = (((b - a) / 8 : Nat) : Int) := rfl
  have i4 : (mid : Int) + 1 = ((mid + 1 : Nat) : Int) := by omega
  by_cases hlt : ((mid - a : Nat) : Int) < ((b - mid : Nat) : Int)
  · simp -dsimp -implicitDefEqProofs (disch := omega) only [go_sem, hd, e0, e1, e2, e3, e8, e9, e10, e11, i1, i2, i3, i4, hlt]
    refine (ih (a := a) (b := mid) (limit := limit) (by omega) h1 r1 (by omega) hn hlim r4).mono ?_
    rintro e' w2 ⟨⟨L, pl, sl, h2⟩, rfl⟩
    obtain ⟨q1, q2⟩ := r6 L pl sl
    simp -dsimp -implicitDefEqProofs (disch := omega) only [go_sem, hd, e0, e1, e2, e3, e8, e9, e10, e11, i4]
    exact hQ _ _ (mid + 1) b L (decide ((((b - a) / 8 : Nat) : Int) ≤ ((mid - a : Nat) : Int))) ap (by omega) (by omega) (by omega) ⟨by simp -dsimp -implicitDefEqProofs only [go_sem, hd], by simp -dsimp -implicitDefEqProofs only [go_sem, e0], by simp -dsimp -implicitDefEqProofs only [go_sem], by simp -dsimp -implicitDefEqProofs only [go_sem, e2], by simp -dsimp -implicitDefEqProofs only [go_sem, e3], by simp -dsimp -implicitDefEqProofs only [go_sem], by simp -dsimp -implicitDefEqProofs only [go_sem]⟩ ⟨q1, fun R pr sr => by obtain ⟨x, y⟩ := q2 R pr sr; exact hR R x y⟩ h2
  · simp -dsimp -implicitDefEqProofs (disch := omega) only [go_sem, hd, e0, e1, e2, e3, e8, e9, e10, e11, i1, i2, i3, i4, hlt]
    refine (ih (a := mid + 1) (b := b) (limit := limit) (by omega) h1 (by omega) (by omega) hn hlim r5).mono ?_
    rintro e' w2 ⟨⟨L, pl, sl, h2⟩, rfl⟩
    obtain ⟨q1, q2⟩ := r7 L pl sl
    simp -dsimp -implicitDefEqProofs (disch := omega) only [go_sem, hd, e0, e1, e2, e3, e8, e9, e10, e11]
    exact hQ _ _ a mid L (decide ((((b - a) / 8 : Nat) : Int) ≤ ((b - mid : Nat) : Int))) ap (by omega) (by omega) (by omega) ⟨by simp -dsimp -implicitDefEqProofs only [go_sem, hd], by simp -dsimp -implicitDefEqProofs only [go_sem, e0], by simp -dsimp -implicitDefEqProofs only [go_sem, e1], by simp -dsimp -implicitDefEqProofs only [go_sem], by simp -dsimp -implicitDefEqProofs only [go_sem, e3], by simp -dsimp -implicitDefEqProofs only [go_sem], by simp -dsimp -implicitDefEqProofs only [go_sem]⟩ ⟨q1, fun R pr sr => by obtain ⟨x, y⟩ := q2 R pr sr; exact hR R x y⟩ h2
end
section
attribute [local go_sem] F75.t17_eq F75.t15_eq F75.t10_eq F75.t7_eq F75.t5_eq
theorem pdq17 {p : Nat} {θ : Tag (F75.t17, Q, e, w)} (ih : PdqOk N) (hN : b - a ≤ N) (h : St w0 (SoP g o n c d * F) w) (haim : Aim a0 b0 d0 a b d) (hap : a ≤ p) (hpb : p < b) (hb : b ≤ n) (hn : n < 2305843009213693951) (hlim : limit < 4611686018427387904)
    (hs : S75 e g o n c a b limit bal part) (e10 : e.ρ 10 = .int .i64 ((b - a : Nat) : Int)) (e11 : e.ρ 11 = .int .i64 p)
    (hQ : ∀ (x : Exit) (e' : FA) (w' : World) (a' b' : Nat) (d' : Array Int) (bal' part' : Bool), (x = .normal ∨ x = .exit 1) → a' ≤ b' → b' ≤ b → b' - a' < b - a → S75 e' g o n c a' b' limit bal' part' → Aim a0 b0 d0 a' b' d' → St w0 (SoP g o n c d' * F) w' → Q x e' w') :
    cwE Try.prog F75.t17 Q e w θ := by
  have hs' := hs
  obtain ⟨hd, e0, e1, e2, e3, e8, e9⟩ := hs
  have hsz := SoP.size h
  rw [F75.t17_eq]
  have go : ∀ {Q' : Post} {e' : FA} {w' : World} {θ : Tag (F75.t20, Q', e', w')}, S75 e' g o n c a b limit bal part → e'.ρ 10 = .int .i64 ((b - a : Nat) : Int) → e'.ρ 11 = .int .i64 p → St w0 (SoP g o n c d * F) w' →
      (∀ (e' : FA) (w' : World) (a' b' : Nat) (d' : Array Int) (bal' part' : Bool), a' ≤ b' → b' ≤ b → b' - a' < b - a → S75 e' g o n c a' b' limit bal' part' → Aim a0 b0 d0 a' b' d' → St w0 (SoP g o n c d' * F) w' → Q' .normal e' w') → cwE Try.prog F75.t20 Q' e' w' θ :=
    fun f0 f1 f2 hh hq => pdq20 ih hN hh haim hap hpb hb hn hlim f0 f1 f2 hq
  have hfin : ∀ (e' : FA) (w' : World) (a' b' : Nat) (d' : Array Int) (bal' part' : Bool), a' ≤ b' → b' ≤ b → b' - a' < b - a → S75 e' g o n c a' b' limit bal' part' → Aim a0 b0 d0 a' b' d' → St w0 (SoP g o n c d' * F) w' → Q .normal e' w' := fun e' w' a' b' d' bal' part' => hQ .normal e' w' a' b' d' bal' part' (.inl rfl)
  by_cases ha0 : (0 : Int) < a
  case neg =>
    simp -dsimp -implicitDefEqProofs (disch := omega) only [go_sem, hd, e0, e1, e2, e3, e8, e9, e10, e11, ha0]
    exact go ⟨by simp -dsimp -implicitDefEqProofs only [go_sem, hd], by simp -dsimp -implicitDefEqProofs only [go_sem, e0], by simp -dsimp -implicitDefEqProofs only [go_sem, e1], by simp -dsimp -implicitDefEqProofs only [go_sem, e2], by simp -dsimp -implicitDefEqProofs only [go_sem, e3], by simp -dsimp -implicitDefEqProofs only [go_sem, e8], by simp -dsimp -implicitDefEqProofs only [go_sem, e9]⟩ (by simp -dsimp -implicitDefEqProofs only [go_sem, e10]) (by simp -dsimp -implicitDefEqProofs only [go_sem, e11]) h.drew hfin
  have h1 := h.drew
  have c1 := SoP.get h1 (i := a - 1) (by omega)
  have cp := SoP.get h1 (i := p) (by omega)
  have i1 : (a : Int) - 1 = ((a - 1 : Nat) : Int) := by omega
  simp -dsimp -implicitDefEqProofs (disch := omega) only [go_sem, hd, e0, e1, e2, e3, e8, e9, e10, e11, ha0, i1, c1, cp]
  refine (lessW_any h1).mono ?_
  rintro e' w1 ⟨h2, rfl⟩
  cases hl : ltInt d[a - 1]! d[p]!
  · simp -dsimp -implicitDefEqProofs (disch := omega) only [go_sem, hd, e0, e1, e2, e3, e8, e9, e10, e11]
    refine (partEq_any h2 hb hap hpb hn).mono ?_
    rintro e' w3 ⟨h3, rfl⟩
    obtain ⟨mid, d4, hx⟩ : ∃ mid d4, partitionEqual ltInt d a b p = (mid, d4) := ⟨_, _, rfl⟩
    obtain ⟨r1, r2, r3, r4, r5⟩ := round_eq swo_ltInt (partitionEqual_holds ltInt) (by omega) hap hpb (by omega) haim.1 hl hx
    rw [hx] at h3 ⊢
    simp only at h3
    simp -dsimp -implicitDefEqProofs (disch := omega) only [go_sem, hd, e0, e1, e2, e3, e8, e9, e10, e11]
    exact hQ _ _ _ mid b d4 bal part (.inr rfl) (by omega) (by omega) (by omega) ⟨by simp -dsimp -implicitDefEqProofs only [go_sem, hd], by simp -dsimp -implicitDefEqProofs only [go_sem, e0], by simp -dsimp -implicitDefEqProofs only [go_sem], by simp -dsimp -implicitDefEqProofs only [go_sem, e2], by simp -dsimp -implicitDefEqProofs only [go_sem, e3], by simp -dsimp -implicitDefEqProofs only [go_sem, e8], by simp -dsimp -implicitDefEqProofs only [go_sem, e9]⟩ ⟨r4, fun R pr sr => by obtain ⟨x, y⟩ := r5 R pr sr; exact haim.2 R x y⟩ h3
  · simp -dsimp -implicitDefEqProofs (disch := omega) only [go_sem, hd, e0, e1, e2, e3, e8, e9, e10, e11]
    exact go ⟨by simp -dsimp -implicitDefEqProofs only [go_sem, hd], by simp -dsimp -implicitDefEqProofs only [go_sem, e0], by simp -dsimp -implicitDefEqProofs only [go_sem, e1], by simp -dsimp -implicitDefEqProofs only [go_sem, e2], by simp -dsimp -implicitDefEqProofs only [go_sem, e3], by simp -dsimp -implicitDefEqProofs only [go_sem, e8], by simp -dsimp -implicitDefEqProofs only [go_sem, e9]⟩ (by simp -dsimp -implicitDefEqProofs only [go_sem, e10]) (by simp -dsimp -implicitDefEqProofs only [go_sem, e11]) h2 hfin
end
section
attribute [local go_sem] F75.t20_eq F75.t15_eq F75.t10_eq F75.t7_eq F75.t5_eq
theorem pdq15 {p : Nat} {hi : Hint} {θ : Tag (F75.t15, Q, e, w)} (ih : PdqOk N) (hN : b - a ≤ N) (h : St w0 (SoP g o n c d * F) w) (haim : Aim a0 b0 d0 a b d) (hap : a ≤ p) (hpb : p < b) (hb : b ≤ n) (hn : n < 2305843009213693951) (hlim : limit < 4611686018427387904)
    (hs : S75 e g o n c a b limit bal part) (e10 : e.ρ 10 = .int .i64 ((b - a : Nat) : Int)) (e11 : e.ρ 11 = .int .i64 p) (e12 : e.ρ 12 = .int .i64 (hintI hi))
    (hR : ∀ (e' : FA) (w' : World) (d' : Array Int), e'.ds = [] → PermIn a0 b0 d0 d' → SortedIn ltInt a0 b0 d' → St w0 (SoP g o n c d' * F) w' → Q .ret e' w')
    (hQ : ∀ (x : Exit) (e' : FA) (w' : World) (a' b' : Nat) (d' : Array Int) (bal' part' : Bool), (x = .normal ∨ x = .exit 1) → a' ≤ b' → b' ≤ b → b' - a' < b - a → S75 e' g o n c a' b' limit bal' part' → Aim a0 b0 d0 a' b' d' → St w0 (SoP g o n c d' * F) w' → Q x e' w') :
    cwE Try.prog F75.t15 Q e w θ := by
  obtain ⟨hd, e0, e1, e2, e3, e8, e9⟩ := hs
  have hsz := SoP.size h
  rw [F75.t15_eq]
  have go : ∀ {e' : FA} {w' : World} {d' : Array Int} {θ : Tag (F75.t17, Q, e', w')}, S75 e' g o n c a b limit bal part → e'.ρ 10 = .int .i64 ((b - a : Nat) : Int) → e'.ρ 11 = .int .i64 p → Aim a0 b0 d0 a b d' → St w0 (SoP g o n c d' * F) w' → cwE Try.prog F75.t17 Q e' w' θ :=
    fun f0 f1 f2 ha hh => pdq17 ih hN hh ha hap hpb hb hn hlim f0 f1 f2 hQ
  by_cases hc : bal = true ∧ part = true ∧ hintI hi = 1
  · obtain ⟨rfl, rfl, hh⟩ := hc
    simp -dsimp -implicitDefEqProofs (disch := omega) only [go_sem, hd, e0, e1, e2, e3, e8, e9, e10, e11, e12, hh]
    refine (partial_any h hb (by omega) hn).mono ?_
    rintro e' w1 ⟨h1, rfl⟩
    obtain ⟨pp, ps⟩ := partialInsertionSort_holds swo_ltInt d a b (by omega) (by omega) haim.1
    cases hr : (partialInsertionSort ltInt d a b).2
    · simp -dsimp -implicitDefEqProofs (disch := omega) only [go_sem, hd, e0, e1, e2, e3, e8, e9, e10, e11]
      exact go ⟨by simp -dsimp -implicitDefEqProofs only [go_sem, hd], by simp -dsimp -implicitDefEqProofs only [go_sem, e0], by simp -dsimp -implicitDefEqProofs only [go_sem, e1], by simp -dsimp -implicitDefEqProofs only [go_sem, e2], by simp -dsimp -implicitDefEqProofs only [go_sem, e3], by simp -dsimp -implicitDefEqProofs only [go_sem, e8], by simp -dsimp -implicitDefEqProofs only [go_sem, e9]⟩ (by simp -dsimp -implicitDefEqProofs only [go_sem, e10]) (by simp -dsimp -implicitDefEqProofs only [go_sem, e11]) (haim.perm (by omega) pp) h1
    · obtain ⟨x, y⟩ := haim.2 _ pp (ps hr)
      simp -dsimp -implicitDefEqProofs (disch := omega) only [go_sem, hd, e0, e1, e2, e3, e8, e9, e10, e11]
      exact hR _ _ _ (by simp -dsimp -implicitDefEqProofs only [go_sem, hd]) x y h1
  · have : ∀ (b1 b2 : Bool), bal = b1 → part = b2 → cwE Try.prog F75.t15 Q e w := fun b1 b2 h1 h2 => by
      rw [F75.t15_eq]
      cases b1 with
      | false =>
        subst h1
        simp -dsimp -implicitDefEqProofs (disch := omega) only [go_sem, hd, e0, e1, e2, e3, e8, e9, e10, e11, e12]
        exact go ⟨by simp -dsimp -implicitDefEqProofs only [go_sem, hd], by simp -dsimp -implicitDefEqProofs only [go_sem, e0], by simp -dsimp -implicitDefEqProofs only [go_sem, e1], by simp -dsimp -implicitDefEqProofs only [go_sem, e2], by simp -dsimp -implicitDefEqProofs only [go_sem, e3], by simp -dsimp -implicitDefEqProofs only [go_sem, e8], by simp -dsimp -implicitDefEqProofs only [go_sem, e9]⟩ (by simp -dsimp -implicitDefEqProofs only [go_sem, e10]) (by simp -dsimp -implicitDefEqProofs only [go_sem, e11]) haim h
      | true =>
        cases b2 with
        | false =>
          subst h1 h2
          simp -dsimp -implicitDefEqProofs (disch := omega) only [go_sem, hd, e0, e1, e2, e3, e8, e9, e10, e11, e12]
          exact go ⟨by simp -dsimp -implicitDefEqProofs only [go_sem, hd], by simp -dsimp -implicitDefEqProofs only [go_sem, e0], by simp -dsimp -implicitDefEqProofs only [go_sem, e1], by simp -dsimp -implicitDefEqProofs only [go_sem, e2], by simp -dsimp -implicitDefEqProofs only [go_sem, e3], by simp -dsimp -implicitDefEqProofs only [go_sem, e8], by simp -dsimp -implicitDefEqProofs only [go_sem, e9]⟩ (by simp -dsimp -implicitDefEqProofs only [go_sem, e10]) (by simp -dsimp -implicitDefEqProofs only [go_sem, e11]) haim h
        | true =>
          subst h1 h2
          have hh : ¬ hintI hi = 1 := fun hh => hc ⟨rfl, rfl, hh⟩
          simp -dsimp -implicitDefEqProofs (disch := omega) only [go_sem, hd, e0, e1, e2, e3, e8, e9, e10, e11, e12, hh]
          exact go ⟨by simp -dsimp -implicitDefEqProofs only [go_sem, hd], by simp -dsimp -implicitDefEqProofs only [go_sem, e0], by simp -dsimp -implicitDefEqProofs only [go_sem, e1], by simp -dsimp -implicitDefEqProofs only [go_sem, e2], by simp -dsimp -implicitDefEqProofs only [go_sem, e3], by simp -dsimp -implicitDefEqProofs only [go_sem, e8], by simp -dsimp -implicitDefEqProofs only [go_sem, e9]⟩ (by simp -dsimp -implicitDefEqProofs only [go_sem, e10]) (by simp -dsimp -implicitDefEqProofs only [go_sem, e11]) haim h
    have hx := this bal part rfl rfl
    rw [F75.t15_eq] at hx
    exact hx
end
section
attribute [local go_sem] F75.t20_eq F75.t17_eq F75.t10_eq F75.t7_eq F75.t5_eq
theorem pdq10 {θ : Tag (F75.t10, Q, e, w)} (ih : PdqOk N) (hN : b - a ≤ N) (h : St w0 (SoP g o n c d * F) w) (haim : Aim a0 b0 d0 a b d) (hab : a < b) (hb : b ≤ n) (hn : n < 2305843009213693951) (hlim : limit < 4611686018427387904)
    (hs : S75 e g o n c a b limit bal part) (e10 : e.ρ 10 = .int .i64 ((b - a : Nat) : Int))
    (hR : ∀ (e' : FA) (w' : World) (d' : Array Int), e'.ds = [] → PermIn a0 b0 d0 d' → SortedIn ltInt a0 b0 d' → St w0 (SoP g o n c d' * F) w' → Q .ret e' w')
    (hQ : ∀ (x : Exit) (e' : FA) (w' : World) (a' b' : Nat) (d' : Array Int) (bal' part' : Bool), (x = .normal ∨ x = .exit 1) → a' ≤ b' → b' ≤ b → b' - a' < b - a → S75 e' g o n c a' b' limit bal' part' → Aim a0 b0 d0 a' b' d' → St w0 (SoP g o n c d' * F) w' → Q x e' w') :
    cwE Try.prog F75.t10 Q e w θ := by
  obtain ⟨hd, e0, e1, e2, e3, e8, e9⟩ := hs
  have hsz := SoP.size h
  rw [F75.t10_eq]
  simp -dsimp -implicitDefEqProofs (disch := omega) only [go_sem, hd, e0, e1, e2, e3, e8, e9, e10]
  refine (pivot_any h hb hab hn).mono ?_
  rintro e' w1 ⟨h1, rfl⟩
  obtain ⟨p1, p2⟩ := choosePivot_holds ltInt d a b hab
  generalize choosePivot ltInt d a b = C at p1 p2
  obtain ⟨p, hi⟩ := C
  simp only at p1 p2
  have i1 : (b : Int) - 1 = ((b - 1 : Nat) : Int) := by omega
  have i2 : (p : Int) - a = ((p - a : Nat) : Int) := by omega
  have i3 : ((b - 1 : Nat) : Int) - ((p - a : Nat) : Int) = ((b - 1 - (p - a) : Nat) : Int) := by omega
  by_cases hc : hintI hi = 2
  · simp -dsimp -implicitDefEqProofs (disch := omega) only [go_sem, hd, e0, e1, e2, e3, e8, e9, e10, hc]
    refine (reverse_any h1 hb hab hn).mono ?_
    rintro e' w2 ⟨h2, rfl⟩
    have pr := reverseRange_holds d a b (by omega) (by omega)
    simp -dsimp -implicitDefEqProofs (disch := omega) only [go_sem, hd, e0, e1, e2, e3, e8, e9, e10, i1, i2, i3]
    exact pdq15 (bal := bal) (part := part) (p := b - 1 - (p - a)) (hi := .increasing) ih hN h2 (haim.perm (by omega) pr) (by omega) (by omega) hb hn hlim ⟨by simp -dsimp -implicitDefEqProofs only [go_sem, hd], by simp -dsimp -implicitDefEqProofs only [go_sem, e0], by simp -dsimp -implicitDefEqProofs only [go_sem, e1], by simp -dsimp -implicitDefEqProofs only [go_sem, e2], by simp -dsimp -implicitDefEqProofs only [go_sem, e3], by simp -dsimp -implicitDefEqProofs only [go_sem, e8], by simp -dsimp -implicitDefEqProofs only [go_sem, e9]⟩ (by simp -dsimp -implicitDefEqProofs only [go_sem, e10]) (by simp -dsimp -implicitDefEqProofs only [go_sem]) (by simp -dsimp -implicitDefEqProofs only [go_sem]; rfl) hR hQ
  · simp -dsimp -implicitDefEqProofs (disch := omega) only [go_sem, hd, e0, e1, e2, e3, e8, e9, e10, hc]
    exact pdq15 (bal := bal) (part := part) (p := p) (hi := hi) ih hN h1 haim p1 p2 hb hn hlim ⟨by simp -dsimp -implicitDefEqProofs only [go_sem, hd], by simp -dsimp -implicitDefEqProofs only [go_sem, e0], by simp -dsimp -implicitDefEqProofs only [go_sem, e1], by simp -dsimp -implicitDefEqProofs only [go_sem, e2], by simp -dsimp -implicitDefEqProofs only [go_sem, e3], by simp -dsimp -implicitDefEqProofs only [go_sem, e8], by simp -dsimp -implicitDefEqProofs only [go_sem, e9]⟩ (by simp -dsimp -implicitDefEqProofs only [go_sem, e10]) (by simp -dsimp -implicitDefEqProofs only [go_sem]) (by simp -dsimp -implicitDefEqProofs only [go_sem]) hR hQ
end
end
section
attribute [local go_sem] F75.t20_eq F75.t17_eq F75.t15_eq F75.t7_eq F75.t5_eq
theorem pdq_step {N : Nat} (ih : PdqOk N) : PdqOk (N + 1) := by
  intro w0 w F g o n c a0 b0 limit0 d0 hN h hab hb hn hlim hB
  refine F75.calls (by simp) ?_
  unfold F75.code
  have hsz := SoP.size h
  simp -dsimp -implicitDefEqProofs (disch := omega) only [go_sem]
  refine loop_intro (fun e w' => ∃ (a b limit : Nat) (d : Array Int) (bal part : Bool), a ≤ b ∧ b ≤ b0 ∧ b - a ≤ b0 - a0 ∧ limit ≤ limit0 ∧ S75 e g o n c a b limit bal part ∧ Aim a0 b0 d0 a b d ∧ St w0 (SoP g o n c d * F) w')
    (fun e _ => match e.ρ 1, e.ρ 2 with | .int _ i, .int _ j => (j - i).toNat | _, _ => 0) ?_ ?_
  · exact ⟨a0, b0, limit0, d0, true, true, hab, Nat.le_refl _, Nat.le_refl _, Nat.le_refl _, ⟨rfl, by simp -dsimp -implicitDefEqProofs only [go_sem], by simp -dsimp -implicitDefEqProofs only [go_sem], by simp -dsimp -implicitDefEqProofs only [go_sem], by simp -dsimp -implicitDefEqProofs only [go_sem], by simp -dsimp -implicitDefEqProofs only [go_sem], by simp -dsimp -implicitDefEqProofs only [go_sem]⟩, ⟨hB, fun R pr sr => ⟨pr, sr⟩⟩, h⟩
  rintro e w1 ⟨a, b, limit, d, bal, part, hab, hbb, hba, hll, hs, haim, h1⟩
  have hs' := hs
  obtain ⟨hd, e0, e1, e2, e3, e8, e9⟩ := hs
  have hsz1 := SoP.size h1
  have i1 : (b : Int) - a = ((b - a : Nat) : Int) := by omega
  by_cases h12 : ((b - a : Nat) : Int) ≤ 12
  · simp -dsimp -implicitDefEqProofs (disch := omega) only [go_sem, hd, e0, e1, e2, e3, e8, e9, i1, h12]
    refine (insertion_any h1 (by omega) hab (by omega)).mono ?_
    rintro e' w2 ⟨h2, rfl⟩
    obtain ⟨pi, si⟩ := insertionSort_holds swo_ltInt d a b hab (by omega)
    obtain ⟨x, y⟩ := haim.2 _ pi si
    simp -dsimp -implicitDefEqProofs (disch := omega) only [go_sem, hd]
    exact ⟨_, x, y, h2⟩
  have hR : ∀ (e' : FA) (w' : World) (d' : Array Int), e'.ds = [] → PermIn a0 b0 d0 d' → SortedIn ltInt a0 b0 d' → St w0 (SoP g o n c d' * F) w' → fnP Try.prog #[] (fun e w' => (∃ d', PermIn a0 b0 d0 d' ∧ SortedIn ltInt a0 b0 d' ∧ St w0 (SoP g o n c d' * F) w') ∧ e = .returned (.tuple #[])) .ret e' w' := by
    intro e' w' d' f0 x y hh
    simp -dsimp -implicitDefEqProofs (disch := omega) only [go_sem, f0]
    exact ⟨d', x, y, hh⟩
  by_cases hl0 : (limit : Int) = 0
  · simp -dsimp -implicitDefEqProofs (disch := omega) only [go_sem, hd, e0, e1, e2, e3, e8, e9, i1, h12, hl0]
    refine (heapSort_any h1 (by omega) (by omega) hn).mono ?_
    rintro e' w2 ⟨h2, rfl⟩
    obtain ⟨pi, si⟩ := heapSort_holds swo_ltInt d a b hab (by omega)
    obtain ⟨x, y⟩ := haim.2 _ pi si
    simp -dsimp -implicitDefEqProofs (disch := omega) only [go_sem, hd]
    exact ⟨_, x, y, h2⟩
  cases bal
  · have i2 : (limit : Int) - 1 = ((limit - 1 : Nat) : Int) := by omega
    simp -dsimp -implicitDefEqProofs (disch := omega) only [go_sem, hd, e0, e1, e2, e3, e8, e9, i1, h12, hl0]
    refine (break_any h1 (by omega) hab hn).mono ?_
    rintro e' w2 ⟨h2, rfl⟩
    have pb := breakPatterns_holds d a b hab (by omega)
    simp -dsimp -implicitDefEqProofs (disch := omega) only [go_sem, hd, e0, e1, e2, e3, e8, e9, i1, i2]
    refine pdq10 (a := a) (b := b) (limit := limit - 1) (bal := false) (part := part) (N := N) ih (by omega) h2 (haim.perm (by omega) pb) (by omega) (by omega) hn (by omega) ⟨by simp -dsimp -implicitDefEqProofs only [go_sem, hd], by simp -dsimp -implicitDefEqProofs only [go_sem, e0], by simp -dsimp -implicitDefEqProofs only [go_sem, e1], by simp -dsimp -implicitDefEqProofs only [go_sem, e2], by simp -dsimp -implicitDefEqProofs only [go_sem], by simp -dsimp -implicitDefEqProofs only [go_sem, e8], by simp -dsimp -implicitDefEqProofs only [go_sem, e9]⟩ (by simp -dsimp -implicitDefEqProofs only [go_sem]) ?_ ?_
    · intro e' w' d' f0 x y hh
      have := hR e' w' d' f0 x y hh
      simp -dsimp -implicitDefEqProofs (disch := omega) only [go_sem, f0] at this ⊢
      exact this
    · intro x e' w' a' b' d' bal' part' hx q1 q2 q3 hs2 ha2 hh
      obtain ⟨f0, f1, f2, f3, f4, f5, f6⟩ := hs2
      rcases hx with rfl | rfl
      · simp -dsimp -implicitDefEqProofs (disch := omega) only [go_sem, f0, f1, f2, f3, f4, f5, f6, e1, e2]
        exact ⟨⟨a', b', limit - 1, d', bal', part', q1, by omega, by omega, by omega, ⟨f0, f1, f2, f3, f4, f5, f6⟩, ha2, hh⟩, by omega⟩
      · simp -dsimp -implicitDefEqProofs (disch := omega) only [go_sem, f0, f1, f2, f3, f4, f5, f6, e1, e2]
        exact ⟨⟨a', b', limit - 1, d', bal', part', q1, by omega, by omega, by omega, ⟨f0, f1, f2, f3, f4, f5, f6⟩, ha2, hh⟩, by omega⟩
  · simp -dsimp -implicitDefEqProofs (disch := omega) only [go_sem, hd, e0, e1, e2, e3, e8, e9, i1, h12, hl0]
    refine pdq10 (a := a) (b := b) (limit := limit) (bal := true) (part := part) (N := N) ih (by omega) h1 haim (by omega) (by omega) hn (by omega) ⟨by simp -dsimp -implicitDefEqProofs only [go_sem, hd], by simp -dsimp -implicitDefEqProofs only [go_sem, e0], by simp -dsimp -implicitDefEqProofs only [go_sem, e1], by simp -dsimp -implicitDefEqProofs only [go_sem, e2], by simp -dsimp -implicitDefEqProofs only [go_sem, e3], by simp -dsimp -implicitDefEqProofs only [go_sem, e8], by simp -dsimp -implicitDefEqProofs only [go_sem, e9]⟩ (by simp -dsimp -implicitDefEqProofs only [go_sem]) ?_ ?_
    · intro e' w' d' f0 x y hh
      have := hR e' w' d' f0 x y hh
      simp -dsimp -implicitDefEqProofs (disch := omega) only [go_sem, f0] at this ⊢
      exact this
    · intro x e' w' a' b' d' bal' part' hx q1 q2 q3 hs2 ha2 hh
      obtain ⟨f0, f1, f2, f3, f4, f5, f6⟩ := hs2
      rcases hx with rfl | rfl
      · simp -dsimp -implicitDefEqProofs (disch := omega) only [go_sem, f0, f1, f2, f3, f4, f5, f6, e1, e2]
        exact ⟨⟨a', b', limit, d', bal', part', q1, by omega, by omega, by omega, ⟨f0, f1, f2, f3, f4, f5, f6⟩, ha2, hh⟩, by omega⟩
      · simp -dsimp -implicitDefEqProofs (disch := omega) only [go_sem, f0, f1, f2, f3, f4, f5, f6, e1, e2]
        exact ⟨⟨a', b', limit, d', bal', part', q1, by omega, by omega, by omega, ⟨f0, f1, f2, f3, f4, f5, f6⟩, ha2, hh⟩, by omega⟩
theorem pdq_all : ∀ N, PdqOk N
  | 0 => fun h => absurd h (by omega)
  | N + 1 => pdq_step (pdq_all N)
theorem sorted_is {d d' : Array Int} (p : PermIn 0 d.size d d') (s : SortedIn ltInt 0 d.size d') : d'.toList = d.toList.mergeSort fun x y => decide (x ≤ y) := by
  have h := sorted_unique_holds (lt := ltInt) swo_ltInt (fun x y h1 h2 => by simp [ltInt] at h1 h2; omega) d d' p s
  rw [h]
  congr 1
  funext x y
  simp only [ltInt]
  by_cases hxy : x ≤ y
  · rw [decide_eq_true hxy]; simp; omega
  · rw [decide_eq_false hxy]; simp; omega
end
section
attribute [local go_sem] F77.t5_eq F77.t6_eq F77.t2_eq F77.t3_eq
theorem insertion_nil {w0 w : World} {F : HP} (h : St w0 F w) : Calls Try.prog 77 #[.slice none 0 0, .int .i64 0, .int .i64 0] w fun e w' => St w0 F w' ∧ e = .returned (.tuple #[]) := by
  refine F77.calls (by simp) ?_
  unfold F77.code
  simp -dsimp -implicitDefEqProofs (disch := omega) only [go_sem]
  refine loop_intro (fun e w' => e.ds = [] ∧ e.ρ 2 = .int .i64 0 ∧ e.ρ 6 = .int .i64 1 ∧ St w0 F w') (fun _ _ => 0) ?_ ?_
  · exact ⟨rfl, by simp -dsimp -implicitDefEqProofs only [go_sem], by simp -dsimp -implicitDefEqProofs only [go_sem], h⟩
  rintro e w1 ⟨hd, e2, e6, h1⟩
  simp -dsimp -implicitDefEqProofs (disch := omega) only [go_sem, hd, e2, e6]
  exact h1
end
section
attribute [local go_sem] F75.t20_eq F75.t17_eq F75.t15_eq F75.t10_eq F75.t7_eq F75.t5_eq
theorem pdq_nil {w0 w : World} {F : HP} (h : St w0 F w) : Calls Try.prog 75 #[.slice none 0 0, .int .i64 0, .int .i64 0, .int .i64 0] w fun e w' => St w0 F w' ∧ e = .returned (.tuple #[]) := by
  refine F75.calls (by simp) ?_
  unfold F75.code
  simp -dsimp -implicitDefEqProofs (disch := omega) only [go_sem]
  refine loop_intro (fun e w' => e.ds = [] ∧ e.ρ 0 = .slice none 0 0 ∧ e.ρ 1 = .int .i64 0 ∧ e.ρ 2 = .int .i64 0 ∧ St w0 F w') (fun _ _ => 0) ?_ ?_
  · exact ⟨rfl, by simp -dsimp -implicitDefEqProofs only [go_sem], by simp -dsimp -implicitDefEqProofs only [go_sem], by simp -dsimp -implicitDefEqProofs only [go_sem], h⟩
  rintro e w1 ⟨hd, e0, e1, e2, h1⟩
  simp -dsimp -implicitDefEqProofs (disch := omega) only [go_sem, hd, e0, e1, e2]
  refine (insertion_nil h1).mono ?_
  rintro e' w2 ⟨h2, rfl⟩
  simp -dsimp -implicitDefEqProofs (disch := omega) only [go_sem, hd]
  exact h2
end
theorem sortW_any {w0 w : World} {F : HP} {v : Value} {l : List Int} (h : St w0 (RowO 35 1 v l.length (l.map encW) * F) w) (hl : l.length < 2305843009213693951) :
    Calls Try.prog 70 #[v] w fun e w' => St w0 (RowO 35 1 v l.length ((l.mergeSort fun x y => decide (x ≤ y)).map encW) * F) w' ∧ e = .returned (.tuple #[]) := by
  refine F70.calls (by simp) ?_
  unfold F70.code
  obtain ⟨a, c, rfl, _, _, _⟩ := h.rowForm v
  simp -dsimp -implicitDefEqProofs (disch := omega) only [go_sem]
  refine (bitsLen_any (x := l.length) (by omega)).mono ?_
  rintro e w1 ⟨rfl, rfl⟩
  have hb : bitsLen l.length ≤ 61 := (bitsLen_le_iff l.length 61).2 (by omega)
  simp -dsimp -implicitDefEqProofs (disch := omega) only [go_sem]
  rcases RowO.place h with ⟨hv, hn, hx⟩ | ⟨g, o, cap, cur, hv, _⟩
  · have hl0 : l = [] := by simpa using hx
    subst hl0
    simp only [Value.slice.injEq] at hv
    obtain ⟨rfl, _, rfl⟩ := hv
    refine (pdq_nil h).mono ?_
    rintro e w2 ⟨h2, rfl⟩
    simp -dsimp -implicitDefEqProofs (disch := omega) only [go_sem]
    rw [List.mergeSort_nil]
    exact h2
  · simp only [Value.slice.injEq, true_and] at hv
    obtain ⟨rfl, rfl⟩ := hv
    have h' : St w0 (SoP g o l.length c l.toArray * F) w1 := h
    refine (pdq_all (l.length + 1) (a := 0) (b := l.length) (limit := bitsLen l.length) (by omega) h' (by omega) (by omega) hl (by omega) (.inl rfl)).mono ?_
    rintro e w2 ⟨⟨d', p, s, h2⟩, rfl⟩
    have hs : d'.toList = l.mergeSort fun x y => decide (x ≤ y) := sorted_is (d := l.toArray) p s
    simp -dsimp -implicitDefEqProofs (disch := omega) only [go_sem]
    unfold SoP at h2
    rw [hs] at h2
    exact h2
end Go.Proofs.Ytljndiligbaljaa
namespace Go.Proofs.Ytljndiligbaljaa
open Go
set_option linter.unusedVariables false
def strOf (bs : List UInt8) : ByteArray := ⟨bs.toArray⟩
theorem strOf_inj {a b : List UInt8} : strOf a = strOf b ↔ a = b := by
  constructor
  · intro h
    have := congrArg (fun s : ByteArray => s.data.toList) h
    simpa [strOf] using this
  · rintro rfl; rfl
theorem strOfNums_bytes (bs : List UInt8) : strOfNums (bs.map fun b => (b.toNat : Int)) = strOf bs := by
  unfold strOfNums strOf
  congr 1
  rw [List.map_map]
  congr 1
  have : ∀ b : UInt8, UInt8.ofNat ((b.toNat : Int)).toNat = b := fun b => by simp
  conv => rhs; rw [← List.map_id bs]
  apply List.map_congr_left
  intro b _
  exact this b
theorem St.str {P : Program} {w0 w : World} {A : HP} {src e dst : TypeId} {v : Value} {bs : List UInt8} {K : Value → Prop} {θ : Tag K} (h : St w0 A w) (hr : Ent A (RdB v bs)) (hs : P.underlying src = some (.slice e)) (he : P.underlying e = some (.int .u8)) (hd : P.underlying dst = some .string)
    (hK : K (.string (strOf bs))) : readR P (kConvert src dst v) w K θ := by
  show readR P (convert src dst v) w K θ
  obtain ⟨a, c, rfl, hnc, hb⟩ := (h.ent hr).bytes
  cases a with
  | none =>
    rcases hb with rfl | ⟨b, o, hb, _⟩
    · exact ⟨_, run_convert_bytes_nil w src e hs he _ _ dst hd, hK⟩
    · cases hb
  | some a =>
    rcases hb with rfl | ⟨b, o, hb, hc⟩
    · refine ⟨_, ?_, hK⟩
      obtain ⟨b, o, sub⟩ := a
      rw [run_convert_bytes_string w src dst e _ _ _ hs he hd]
      rw [run_bytesToString w _ _ _ [] (by simp [loadCells, loadCellsFrom])]
      rfl
    · simp only [Option.some.injEq] at hb
      subst hb
      refine ⟨_, run_convert_bytes_arg w src e hs he b o bs.length c (bs.map fun b => (b.toNat : Int)) (by simp) (fun i hi => ?_) dst hd, ?_⟩
      · rw [hc i hi]
        simp [bv, List.getD, List.getElem?_eq_getElem hi]
      · rw [strOfNums_bytes]; exact hK
theorem St.putObj {w0 w : World} {b : Nat} {o : Obj} {F : HP} (h : St w0 (Blk b o * F) w) (o' : Obj) : St w0 (Blk b o' * F) (w.putObj b o') := by
  have hb := h.blk
  have hlt := (Array.getElem?_eq_some_iff.1 hb).1
  exact h.blk_turn rfl rfl rfl (by simp) (World.putObj_heap_same hlt) fun k hk _ => World.putObj_heap_other hk
def LoopHere (l : Nat) : HP := fun h => ∃ r, h l = some (.loop r)
def YieldsTo {α : Type} (P : Program) (w0 : World) (l : Nat) (Pass : α → Array Value → HP) (Ok : List α → Prop) (J X : List α → HP) : Prop :=
  ∀ (G : HP) (pre : List α) (x : α) (args : Array Value) (w : World), Ok (pre ++ [x]) → St w0 (J pre * (Pass x args * G)) w →
    YieldC P l args w fun e w' => (e = .returned (.bool true) ∧ St w0 (J (pre ++ [x]) * G) w') ∨ (e = .returned (.bool false) ∧ St w0 (X (pre ++ [x]) * G) w')
def roundQ (w0 : World) (A : HP) (B : Code → HP) : Post
  | .normal, _, w => St w0 A w
  | .ret, _, w => St w0 (B .ret) w
  | .exit id, _, w => St w0 (B (.exit id)) w
  | .goto t, _, w => St w0 (B (.goto t)) w
  | _, _, _ => False
section
variable {w0 w : World} {A : HP} {B : Code → HP} {e : FA}
theorem roundQ_normal : roundQ w0 A B .normal e w = St w0 A w := rfl
theorem roundQ_ret : roundQ w0 A B .ret e w = St w0 (B .ret) w := rfl
theorem roundQ_exit {i : Nat} : roundQ w0 A B (.exit i) e w = St w0 (B (.exit i)) w := rfl
theorem putArgs_nil {ps : List Tmp} : putArgs ps [] e = e := by cases ps <;> rfl
theorem putArgs_nil' {vs : List Value} : putArgs [] vs e = e := by cases vs <;> rfl
theorem putArgs_cons {p : Nat} {ps : List Tmp} {v : Value} {vs : List Value} : putArgs (p :: ps) (v :: vs) e = putArgs ps vs (e.put (some p) v) := rfl
theorem jumpP_ret {Q : Post} : jumpP Q (some .ret) e w = Q .ret e w := rfl
theorem jumpP_exit {Q : Post} {i : Nat} : jumpP Q (some (.exit i)) e w = Q (.exit i) e w := rfl
end
def EmpH : HP := fun _ => True
def RoundOk {α : Type} (P : Program) (w0 : World) (e : FA) (ps : Array Tmp) (asg body : Cd) (Pass : α → Array Value → HP) (Ok : List α → Prop) (J : List α → HP) (X : Code → List α → HP) : Prop :=
  ∀ (l : Nat) (pre : List α) (x : α) (args : Array Value) (G : HP) (W : World), Ok (pre ++ [x]) → St w0 (J pre * (Pass x args * G)) W →
    args.size = ps.size ∧ cwRE P l asg (onlyP fun e1 W1 => St w0 (J pre * (Pass x args * G)) W1 ∧
      ∀ (G2 : HP) (W2 : World), Ent G2 (LoopHere l) → St w0 (J pre * (Pass x args * G2)) W2 → cwRE P l body (roundQ w0 (J (pre ++ [x]) * G2) fun c => X c (pre ++ [x]) * G2) e1 W2) (putArgs ps.toList args.toList { e with ds := [] }) W
def IterOk {α : Type} (P : Program) (w0 : World) (gf : Nat) (lb : Array Value) (Pass : α → Array Value → HP) (Ok S : List α → Prop) (G G' : HP) : Prop :=
  ∀ (l : Nat) (w1 : World) (J X : List α → HP), YieldsTo P w0 l Pass Ok J X → St w0 (J [] * G) w1 →
    Calls P gf (#[.func (.yield l) #[] #[]] ++ lb) w1 fun e w' => (∃ v, e = .returned v) ∧ ((∃ xs, S xs ∧ St w0 (J xs * G') w') ∨ ∃ pre, St w0 (X pre * G') w')
theorem mk_yields {α : Type} {P : Program} {w0 : World} {e : FA} {ps : Array Tmp} {asg body : Cd} {Pass : α → Array Value → HP} {Ok : List α → Prop} {J : List α → HP} {X : Code → List α → HP} {l : Nat} {Rec : LoopState → Option Code → Obj} {Dp : HP}
    (hro : RoundOk P w0 e ps asg body Pass Ok J X)
    (hrec : LoopRec P l Rec fun args W R => args.size = ps.size ∧ cw P (some l) asg (onlyP fun e1 W1 => W1.heap[l]? = some (Rec .ready none) ∧
      cw P (some l) body (roundP l Rec R) e1 (W1.putObj l (Rec .busy none))) (putArgs ps.toList args.toList { e with ds := [] }) W) :
    YieldsTo P w0 l Pass Ok (fun pre => Blk l (Rec .ready none) * (Dp * J pre)) (fun pre => HP.ex fun c => Blk l (Rec .done (some c)) * (Dp * X c pre)) := by
  intro G pre x args w hok h
  simp only at h ⊢
  refine hrec.yield args w _ h.left.blk ?_
  have h1 : St w0 (J pre * (Pass x args * (Blk l (Rec .ready none) * (Dp * G)))) w := h.ac (by ac_rfl)
  obtain ⟨hsz, hcode⟩ := hro l pre x args _ w hok h1
  refine ⟨hsz, ?_⟩
  refine cw_of_cwD _ _ _ _ _ _ (fun ex e1 W1 hx => ?_) hcode
  cases ex with
  | normal =>
    obtain ⟨h2, hb⟩ := hx
    have h3 : St w0 (Blk l (Rec .ready none) * (J pre * (Pass x args * (Dp * G)))) W1 := h2.ac (by ac_rfl)
    refine ⟨h3.blk, ?_⟩
    have h4 := h3.putObj (Rec .busy none)
    have h5 : St w0 (J pre * (Pass x args * (Blk l (Rec .busy none) * (Dp * G)))) (W1.putObj l (Rec .busy none)) := h4.ac (by ac_rfl)
    have hl : Ent (Blk l (Rec .busy none) * (Dp * G)) (LoopHere l) := (Ent.left _ _).trans (Ent.of fun h hb => by
      obtain ⟨r, hr⟩ := hrec.isLoop .busy none
      exact ⟨r, by rw [← hr]; exact hb⟩)
    refine cw_of_cwD _ _ _ _ _ _ (fun ex e2 W2 hx => ?_) (hb _ _ hl h5)
    have stop : ∀ c, St w0 (X c (pre ++ [x]) * (Blk l (Rec .busy none) * (Dp * G))) W2 → W2.heap[l]? = some (Rec .busy none) ∧
        ((Ending.returned (.bool false) = .returned (.bool true) ∧ St w0 ((Blk l (Rec .ready none) * (Dp * J (pre ++ [x]))) * G) (W2.putObj l (Rec .done (some c)))) ∨
          (Ending.returned (.bool false) = .returned (.bool false) ∧ St w0 ((HP.ex fun c => Blk l (Rec .done (some c)) * (Dp * X c (pre ++ [x]))) * G) (W2.putObj l (Rec .done (some c))))) := fun c hx => by
      have h6 : St w0 (Blk l (Rec .busy none) * (Dp * X c (pre ++ [x]) * G)) W2 := hx.ac (by ac_rfl)
      refine ⟨h6.blk, .inr ⟨rfl, ?_⟩⟩
      have h7 := h6.putObj (Rec .done (some c))
      exact (h7.ac (by ac_rfl : _ = (Blk l (Rec .done (some c)) * (Dp * X c (pre ++ [x]))) * G)).ent (Ent.sep (Ent.ex (fun c => Blk l (Rec .done (some c)) * (Dp * X c (pre ++ [x]))) c) (Ent.rfl' _))
    cases ex with
    | normal =>
      have h6 : St w0 (Blk l (Rec .busy none) * (Dp * J (pre ++ [x]) * G)) W2 := St.ac hx (by ac_rfl)
      refine ⟨h6.blk, .inl ⟨rfl, ?_⟩⟩
      exact (h6.putObj (Rec .ready none)).ac (by ac_rfl)
    | ret => exact stop _ hx
    | exit i => exact stop _ hx
    | goto t => exact stop _ hx
    | panic c => exact hx.elim
    | outgrown => exact hx.elim
  | exit i => exact hx.elim
  | goto t => exact hx.elim
  | ret => exact hx.elim
  | panic c => exact hx.elim
  | outgrown => exact hx.elim
theorem range_intro {α : Type} {P : Program} {w0 w : World} {F G G' : HP} {e : FA} {g : Operand} {ps : Array Tmp} {asg body : Cd} {Q : Post} {θ : Tag ((.rangeFunc g ps asg body : Cd), Q, e, w)} (h : St w0 F w) {gf : Nat} {lb : Array Value}
    (hg : e.ev g = .func (.func gf) #[] lb) (hf : fnOk P gf = true) {Pass : α → Array Value → HP} {Ok S : List α → Prop} (J : List α → HP) (X : Code → List α → HP) (h0 : Ent F (J [] * G))
    (hround : RoundOk P w0 e ps asg body Pass Ok J X) (hcall : IterOk P w0 gf lb Pass Ok S G G')
    (hdone : ∀ (D : Nat) (xs : List α) (w' : World), S xs → St w0 (Blk D (.deferred (some [])) * (J xs * G')) w' → Q .normal { e with ds := { target := .collected D, args := #[] } :: e.ds } w')
    (hstop : ∀ (D : Nat) (c : Code) (pre : List α) (w' : World), St w0 (Blk D (.deferred (some [])) * (X c pre * G')) w' → jumpP Q (some c) { e with ds := { target := .collected D, args := #[] } :: e.ds } w') :
    cwE P (.rangeFunc g ps asg body) Q e w θ := by
  refine ⟨fun l h => (by cases h), gf, lb, hg, hf, fun Rec hrec => ?_⟩
  have h1 := (h.ent h0).alloc (.deferred (some []))
  have h2 := h1.alloc (Rec .ready none)
  have hs : (w.alloc (.deferred (some []))).heap.size = w.heap.size + 1 := World.size_alloc _ _
  rw [hs] at h2
  have hy := mk_yields (Dp := Blk w.heap.size (.deferred (some []))) hround hrec
  refine (hcall _ _ _ _ hy (h2.ac ?_)).mono ?_
  · simp only [loopAt]; ac_rfl
  · rintro ex W ⟨⟨v, rfl⟩, hq⟩
    rcases hq with ⟨xs, hS, hq⟩ | ⟨pre, hq⟩
    · have h3 : St w0 (Blk (w.heap.size + 1) (Rec .ready none) * (Blk w.heap.size (.deferred (some [])) * (J xs * G'))) W := hq.ac (by simp only [loopAt]; ac_rfl)
      exact ⟨.ready, none, h3.blk, by simp, hdone _ xs _ hS (h3.putObj (Rec .exhausted none)).right⟩
    · have hq := hq
      obtain ⟨c, hq⟩ := St.exF hq
      have h3 : St w0 (Blk (w.heap.size + 1) (Rec .done (some c)) * (Blk w.heap.size (.deferred (some [])) * (X c pre * G'))) W := hq.ac (by simp only [loopAt]; ac_rfl)
      exact ⟨.done, some c, h3.blk, by simp, hstop _ c pre _ (h3.putObj (Rec .exhausted (some c))).right⟩
theorem St.mark {P : Program} {w0 w : World} {D : Nat} {F : HP} {asg : Array Value} {ds : List Deferred} {A : World → Prop} (h : St w0 (Blk D (.deferred (some [])) * F) w) (hA : ∀ w', St w0 (Blk D (.deferred none) * F) w' → retD P ds A w') : retD P ({ target := .collected D, args := asg } :: ds) A w :=
  ⟨D, rfl, h.blk, hA _ (h.putObj _)⟩
theorem St.mark1 {P : Program} {w0 w : World} {D : Nat} {F : HP} {ar : Array Value} {A : World → Prop} (h : St w0 (Blk D (.deferred (some [])) * F) w) (hA : ∀ w', St w0 (Blk D (.deferred none) * F) w' → A w') : retD P [{ target := .collected D, args := ar }] A w :=
  St.mark h hA
attribute [go_sem ↓] roundQ_normal roundQ_ret roundQ_exit
attribute [go_sem] putArgs_nil putArgs_nil' putArgs_cons jumpP_ret jumpP_exit
end Go.Proofs.Ytljndiligbaljaa
namespace Go.Proofs.Ytljndiligbaljaa
open Go
open Go.ChangeMaps (setBlock)
section
variable {κ : Type} {P : Program}
def IterP (enc : κ → Value) (b r : Nat) (l left : List (κ × Value)) : HP :=
  HP.ex fun x : Array MapEntry × Nat × Array Nat => HP.fact ((leftOf x.1 x.2.2).toList.map (fun e => (e.key, e.val)) = left.map (fun p => (enc p.1, p.2))) (MapE enc b x.1 x.2.1 l * Blk r (.mapIter (some b) x.2.1 x.2.2 x.2.1))
def IterAt (enc : κ → Value) (b r : Nat) (l left : List (κ × Value)) (k : κ) (v : Value) : HP :=
  HP.ex fun x : Array MapEntry × Nat × Array Nat × MapEntry => HP.fact ((leftOf x.1 (x.2.2.1.push x.2.2.2.born)).toList.map (fun e => (e.key, e.val)) = left.map (fun p => (enc p.1, p.2)) ∧ x.2.2.2 ∈ x.1.toList ∧ x.2.2.2.key = enc k ∧ x.2.2.2.val = v)
    (MapE enc b x.1 x.2.1 l * Blk r (.mapIter (some b) x.2.1 (x.2.2.1.push x.2.2.2.born) x.2.1))
theorem HP.ex_intro {α : Type} {A : α → HP} {B : HP} (x : α) (h : Ent B (A x)) : Ent B (HP.ex A) := h.trans (Ent.ex A x)
theorem HP.ex_elim {α : Type} {A : α → HP} {B : HP} (h : ∀ x, Ent (A x) B) : Ent (HP.ex A) B := fun hp ⟨x, a⟩ => h x hp a
theorem HP.fact_elim {p : Prop} {A B : HP} (h : p → Ent A B) : Ent (HP.fact p A) B := fun hp ⟨q, a⟩ => h q hp a
theorem IterAt.iter (enc : κ → Value) (b r : Nat) (l left : List (κ × Value)) (k : κ) (v : Value) : Ent (IterAt enc b r l left k v) (IterP enc b r l left) :=
  HP.ex_elim fun x => HP.fact_elim fun h => HP.ex_intro (x.1, x.2.1, x.2.2.1.push x.2.2.2.born) (Ent.fact h.1 _)
theorem IterP.map (enc : κ → Value) (b r : Nat) (l left : List (κ × Value)) : Ent (IterP enc b r l left) (MapP enc b l) :=
  HP.ex_elim fun x => HP.fact_elim fun _ => (Ent.left _ _).trans (MapE.shut enc b x.1 x.2.1 l)
def iterLeft (b r : Nat) (w : World) : Nat :=
  match w.heap[b]?, w.heap[r]? with
  | some (.map es _), some (.mapIter _ _ seen _) => (leftOf es seen).size
  | _, _ => 0
theorem IterP.left {enc : κ → Value} {b r : Nat} {l left : List (κ × Value)} {w0 w : World} {F : HP} (h : St w0 (IterP enc b r l left * F) w) : iterLeft b r w = left.length := by
  obtain ⟨⟨es, clock, seen⟩, h⟩ := h.exF
  obtain ⟨hl, h⟩ := h.factF
  simp only at hl h
  have h' := h.ac (show _ = MapE enc b es clock l * (Blk r (.mapIter (some b) clock seen clock) * F) by ac_rfl)
  have hb := (MapE.heap h').1
  have hr := h'.sw2.blk
  simp only [iterLeft, hb, hr]
  have := congrArg List.length hl
  simpa using this
theorem St.range {enc : κ → Value} {b : Nat} {l : List (κ × Value)} {T kt et : TypeId} {w0 w : World} {F : HP} {K : Value → World → Prop} {θ : Tag K} (h : St w0 (MapP enc b l * F) w) (hu : P.underlying T = some (.map kt et))
    (hK : ∀ r w', St w0 (IterP enc b r l l * F) w' → K (.pointer (some ⟨r, 0, none⟩)) w') : semD P (kRange T (.map (some b))) w K θ := by
  show semD P (Instr.range T (.map (some b))) w K θ
  obtain ⟨es, clock, h1⟩ := MapP.open h
  obtain ⟨hb, hm⟩ := MapE.heap h1
  refine ⟨.pointer (some ⟨w.heap.size, 0, none⟩), w.alloc (.mapIter (some b) clock #[] clock), ?_, hK _ _ ?_⟩
  · simp only [Instr.range, Sem.run_bind, run_underlying' hu, Result.andThen_ok, MapKept.run_getObj_map hb, Sem.run_pure]
    rfl
  · have h2 := h1.alloc (.mapIter (some b) clock #[] clock)
    refine (h2.ac (show _ = (MapE enc b es clock l * Blk w.heap.size (.mapIter (some b) clock #[] clock)) * F by ac_rfl)).ent (Ent.sep (HP.ex_intro (es, clock, #[]) (Ent.fact ?_ _)) (Ent.rfl' F))
    simp only [leftOf]
    rw [← hm.list]
    simp only [Array.toList_filter]
    rw [List.filter_eq_self.2 (by simp)]
theorem leftOf_push {es : Array MapEntry} {seen : Array Nat} {j : Nat} (hn : (es.toList.map (·.born)).Nodup) (hj : j < (leftOf es seen).size) :
    (leftOf es (seen.push (leftOf es seen)[j].born)).toList = (leftOf es seen).toList.eraseIdx j := by
  have e1 : (leftOf es (seen.push (leftOf es seen)[j].born)).toList = (leftOf es seen).toList.filter (fun e => e.born != (leftOf es seen)[j].born) := by
    simp only [leftOf, Array.toList_filter, List.filter_filter]
    apply List.filter_congr
    intro x _
    simp only [Array.contains_push, Bool.not_or]
    rw [Bool.and_comm]
    first
      | rfl
      | (congr 1; done)
      | (congr 1; rw [Bool.eq_iff_iff]; simp)
  rw [e1]
  have hn2 : ((leftOf es seen).toList.map (·.born)).Nodup := by
    refine List.Nodup.sublist ?_ hn
    simp only [leftOf, Array.toList_filter]
    exact List.Sublist.map _ (List.filter_sublist)
  have hj' : j < (leftOf es seen).toList.length := by simpa using hj
  have hx : (leftOf es seen)[j].born = ((leftOf es seen).toList[j]).born := by simp
  rw [hx]
  clear hx e1 hj hn
  generalize (leftOf es seen).toList = L at hn2 hj'
  induction L generalizing j with
  | nil => simp at hj'
  | cons a L ih =>
    simp only [List.map_cons, List.nodup_cons] at hn2
    cases j with
    | zero =>
      simp only [List.getElem_cons_zero, List.filter_cons, bne_self_eq_false, Bool.false_eq_true, if_false, List.eraseIdx_cons_zero]
      rw [List.filter_eq_self]
      intro x hx
      simp only [bne_iff_ne, ne_eq]
      intro he
      exact hn2.1 (List.mem_map.2 ⟨x, hx, he⟩)
    | succ j =>
      simp only [List.length_cons, Nat.succ_lt_succ_iff] at hj'
      have hne : (a.born != (L[j]).born) = true := by
        simp only [bne_iff_ne, ne_eq]
        intro he
        exact hn2.1 (he ▸ List.mem_map.2 ⟨L[j], List.getElem_mem _, rfl⟩)
      simp only [List.getElem_cons_succ, List.filter_cons, hne, if_true, List.eraseIdx_cons_succ]
      rw [ih hn2.2 hj']
theorem St.next {enc : κ → Value} {b r : Nat} {l left : List (κ × Value)} {ty : TypeId} {w0 w : World} {F : HP} {K : Value → World → Prop} {θ : Tag K} (h : St w0 (IterP enc b r l left * F) w)
    (h0 : left = [] → K (.tuple #[.bool false]) w)
    (h1 : ∀ j (hj : j < left.length) w', St w0 (IterAt enc b r l (left.eraseIdx j) (left[j]).1 (left[j]).2 * F) w' → K (.tuple #[.bool true, enc (left[j]).1, (left[j]).2]) w') : semD P (kNext (.pointer (some ⟨r, 0, none⟩)) false ty) w K θ := by
  show semD P (Instr.next (.pointer (some ⟨r, 0, none⟩)) false ty) w K θ
  obtain ⟨⟨es, clock, seen⟩, h⟩ := h.exF
  obtain ⟨hl, h⟩ := h.factF
  simp only at hl h
  have h2 := h.ac (show _ = MapE enc b es clock l * (Blk r (.mapIter (some b) clock seen clock) * F) by ac_rfl)
  obtain ⟨hb, hm⟩ := MapE.heap h2
  have hr := h2.sw2.blk
  have hlen : (leftOf es seen).size = left.length := by simpa using congrArg List.length hl
  rcases run_next_at (P := P) w ty r b clock clock seen es clock hr hb hm.born (Nat.le_refl _) with ⟨hz, hrun⟩ | ⟨e, he, w1, hw1, hrun⟩
  · exact ⟨_, _, hrun, h0 (List.eq_nil_of_length_eq_zero (by omega))⟩
  · obtain ⟨j, hj, rfl⟩ := List.getElem_of_mem he
    have hj' : j < (leftOf es seen).size := by simpa using hj
    have hjl : j < left.length := by omega
    have hkv : ((leftOf es seen)[j].key, (leftOf es seen)[j].val) = (enc (left[j]).1, (left[j]).2) := by
      have := congrArg (fun l => l[j]?) hl
      simpa [hj', hjl] using this
    simp only [Prod.mk.injEq] at hkv
    refine ⟨_, _, hrun, ?_⟩
    simp only [Array.getElem_toList]
    rw [hkv.1, hkv.2]
    refine h1 j hjl _ ?_
    have h3 : St w0 (Blk r (.mapIter (some b) clock seen clock) * (MapE enc b es clock l * F)) w1 := by
      rcases hw1 with rfl | rfl
      · exact h2.sw2
      · exact h2.sw2.drew
    have h4 := h3.putObj (.mapIter (some b) clock (seen.push (leftOf es seen)[j].born) clock)
    refine (h4.ac (show _ = (MapE enc b es clock l * Blk r (.mapIter (some b) clock (seen.push (leftOf es seen)[j].born) clock)) * F by ac_rfl)).ent (Ent.sep (HP.ex_intro (es, clock, seen, (leftOf es seen)[j]) (Ent.fact ⟨?_, ?_, hkv.1, hkv.2⟩ _)) (Ent.rfl' F))
    · simp only [leftOf_push hm.nodup hj', ChangeMaps.map_eraseIdx, hl]
    · have : (leftOf es seen)[j] ∈ leftOf es seen := Array.getElem_mem _
      simp only [leftOf, Array.mem_filter] at this
      exact Array.mem_toList_iff.2 this.1
theorem St.entry {enc : κ → Value} {b r : Nat} {l left : List (κ × Value)} {k : κ} {v : Value} {w0 w : World} {F : HP} {K : Value → Prop} {θ : Tag K} (h : St w0 (IterAt enc b r l left k v * F) w)
    (hK : K (.tuple #[enc k, v])) : readR P (kEntry (.pointer (some ⟨r, 0, none⟩))) w K θ := by
  show readR P (Instr.entry (.pointer (some ⟨r, 0, none⟩))) w K θ
  obtain ⟨⟨es, clock, seen, e⟩, h⟩ := h.exF
  obtain ⟨⟨_, he, hk, hv⟩, h⟩ := h.factF
  simp only at he hk hv h
  have h2 := h.ac (show _ = MapE enc b es clock l * (Blk r (.mapIter (some b) clock (seen.push e.born) clock) * F) by ac_rfl)
  obtain ⟨hb, hm⟩ := MapE.heap h2
  have hr := h2.sw2.blk
  refine ⟨_, run_entry_at w r b clock seen es clock e hr hb he hm.nodup, ?_⟩
  rw [hk, hv]
  exact hK
end
end Go.Proofs.Ytljndiligbaljaa
namespace Go.Proofs.Ytljndiligbaljaa
open Go
section assoc
variable {κ α β : Type} [DecidableEq κ]
def agt (x : κ) : List (κ × α) → Option α
  | [] => none
  | (y, v) :: l => if x = y then some v else agt x l
def aset (x : κ) (v : α) : List (κ × α) → List (κ × α)
  | [] => [(x, v)]
  | (y, u) :: l => if x = y then (x, v) :: l else (y, u) :: aset x v l
def adel (x : κ) : List (κ × α) → List (κ × α)
  | [] => []
  | (y, u) :: l => if x = y then l else (y, u) :: adel x l
def amap (f : α → β) (l : List (κ × α)) : List (κ × β) := l.map fun p => (p.1, f p.2)
omit [DecidableEq κ] in
theorem amap_keys (f : α → β) (l : List (κ × α)) : (amap f l).map (·.1) = l.map (·.1) := by simp only [amap, List.map_map]; rfl
theorem agt_amap (f : α → β) (x : κ) : ∀ l : List (κ × α), agt x (amap f l) = (agt x l).map f
  | [] => rfl
  | (y, v) :: l => by
    have ih := agt_amap f x l
    simp only [amap, List.map_cons, agt] at ih ⊢
    split
    · rfl
    · exact ih
theorem aset_amap (f : α → β) (x : κ) (v : α) : ∀ l : List (κ × α), aset x (f v) (amap f l) = amap f (aset x v l)
  | [] => rfl
  | (y, u) :: l => by
    have ih := aset_amap f x v l
    simp only [amap, List.map_cons, aset] at ih ⊢
    split
    · rfl
    · simp only [List.map_cons, ih]
theorem adel_amap (f : α → β) (x : κ) : ∀ l : List (κ × α), adel x (amap f l) = amap f (adel x l)
  | [] => rfl
  | (y, u) :: l => by
    have ih := adel_amap f x l
    simp only [amap, List.map_cons, adel] at ih ⊢
    split
    · rfl
    · simp only [List.map_cons, ih]
theorem lk_amap (f : α → Value) (x : κ) (l : List (κ × α)) : lk x (amap f l) = (agt x l).map f := by
  have : ∀ m : List (κ × Value), lk x m = agt x m := fun m => by
    induction m with
    | nil => rfl
    | cons p m ih => simp only [lk, agt, ih]
  rw [this, agt_amap]
theorem upd_amap (f : α → Value) (x : κ) (v : α) (l : List (κ × α)) : upd x (f v) (amap f l) = amap f (aset x v l) := by
  have : ∀ m : List (κ × Value), upd x (f v) m = aset x (f v) m := fun m => by
    induction m with
    | nil => rfl
    | cons p m ih => simp only [upd, aset, ih]
  rw [this, aset_amap]
theorem del_amap (f : α → Value) (x : κ) (l : List (κ × α)) : del x (amap f l) = amap f (adel x l) := by
  have : ∀ m : List (κ × Value), del x m = adel x m := fun m => by
    induction m with
    | nil => rfl
    | cons p m ih => simp only [del, adel, ih]
  rw [this, adel_amap]
theorem aset_same (x : κ) (v : α) : ∀ l : List (κ × α), agt x l = some v → aset x v l = l
  | [], h => by cases h
  | (y, w) :: l, h => by
    simp only [agt, aset] at h ⊢
    split
    · rename_i hx
      rw [if_pos hx] at h
      simp only [Option.some.injEq] at h
      subst h
      rw [hx]
    · rename_i hx
      rw [if_neg hx] at h
      rw [aset_same x v l h]
theorem agt_aset (x : κ) (v : α) : ∀ l : List (κ × α), agt x (aset x v l) = some v
  | [] => by simp [aset, agt]
  | (y, w) :: l => by
    simp only [aset]
    split
    · simp [agt]
    · rename_i hx
      simp only [agt, if_neg hx, agt_aset x v l]
def stars (A : κ × α → HP) : List (κ × α) → HP
  | [] => EmpH
  | p :: l => A p * stars A l
theorem stars_aset (A : κ × α → HP) (x : κ) (u v : α) : ∀ l : List (κ × α), agt x l = some u → stars A (aset x v l) = A (x, v) * stars A (adel x l)
  | [], h => by cases h
  | (y, w) :: l, h => by
    simp only [agt, aset, adel] at h ⊢
    split
    · rfl
    · rename_i hx
      rw [if_neg hx] at h
      simp only [stars, stars_aset A x u v l h]
      ac_rfl
theorem stars_open (A : κ × α → HP) (x : κ) (u : α) (l : List (κ × α)) (h : agt x l = some u) : stars A l = A (x, u) * stars A (adel x l) := by
  have := stars_aset A x u u l h
  rwa [aset_same x u l h] at this
theorem stars_new (A : κ × α → HP) (x : κ) (v : α) : ∀ l : List (κ × α), agt x l = none → stars A (aset x v l) = A (x, v) * stars A l
  | [], _ => rfl
  | (y, w) :: l, h => by
    simp only [agt, aset] at h ⊢
    split
    · rename_i hx
      rw [if_pos hx] at h
      cases h
    · rename_i hx
      rw [if_neg hx] at h
      simp only [stars, stars_new A x v l h]
      ac_rfl
end assoc
set_option linter.unusedVariables false
instance {κ : Type} (enc : κ → Value) (b r : Nat) (l left : List (κ × Value)) : Face (.map b) (IterP enc b r l left) := ⟨⟩
instance {κ : Type} (enc : κ → Value) (b r : Nat) (l left : List (κ × Value)) (k : κ) (v : Value) : Face (.map b) (IterAt enc b r l left k v) := ⟨⟩
theorem perm_eraseIdx {α : Type} : ∀ (l : List α) (j : Nat) (hj : j < l.length), (l[j] :: l.eraseIdx j).Perm l
  | a :: l, 0, _ => .refl _
  | a :: l, j + 1, hj => by
    simp only [List.getElem_cons_succ, List.eraseIdx_cons_succ]
    exact (List.Perm.swap _ _ _).trans ((perm_eraseIdx l j (by simpa using hj)).cons a)
section
variable {κ : Type} {P : Program} {w0 w : World} {A F X : HP} {C : HP → HP} {enc : κ → Value} {b r : Nat} {l left : List (κ × Value)}
theorem St.mapNodup (h : St w0 A w) (b : Nat) [i : Hole (.map b) A (MapP enc b l) C] : (l.map (·.1)).Nodup := by
  obtain ⟨R, hR, h'⟩ := h.out (.map b)
  obtain ⟨es, clock, h2⟩ := MapP.open h'
  exact (MapE.heap h2).2.keys
theorem St.iterLeft (h : St w0 A w) (b : Nat) [i : Hole (.map b) A (IterP enc b r l left) C] : Go.Proofs.Ytljndiligbaljaa.iterLeft b r w = left.length := by
  obtain ⟨R, hR, h'⟩ := h.out (.map b)
  exact IterP.left h'
theorem St.rangeH {T kt et : TypeId} {K : Value → World → Prop} {θ : Tag K} (h : St w0 A w) [i : Hole (.map b) A (MapP enc b l) C] (hu : P.underlying T = some (.map kt et))
    (hK : ∀ r w', St w0 (C (IterP enc b r l l)) w' → K (.pointer (some ⟨r, 0, none⟩)) w') : semD P (kRange T (.map (some b))) w K θ := by
  obtain ⟨R, hR, h'⟩ := h.out (.map b)
  exact h'.range hu fun r w' hw => hK r w' (by rw [hR]; exact hw)
theorem St.nextH {ty : TypeId} {K : Value → World → Prop} {θ : Tag K} (h : St w0 A w) (b : Nat) [i : Hole (.map b) A (IterP enc b r l left) C]
    (h0 : left = [] → K (.tuple #[.bool false]) w)
    (h1 : ∀ j (hj : j < left.length) w', St w0 (C (IterAt enc b r l (left.eraseIdx j) (left[j]).1 (left[j]).2)) w' → K (.tuple #[.bool true, enc (left[j]).1, (left[j]).2]) w') : semD P (kNext (.pointer (some ⟨r, 0, none⟩)) false ty) w K θ := by
  obtain ⟨R, hR, h'⟩ := h.out (.map b)
  exact h'.next h0 fun j hj w' hw => h1 j hj w' (by rw [hR]; exact hw)
theorem St.entryH {k : κ} {v : Value} {K : Value → Prop} {θ : Tag K} (h : St w0 A w) (b : Nat) [i : Hole (.map b) A (IterAt enc b r l left k v) C] (hK : K (.tuple #[enc k, v])) : readR P (kEntry (.pointer (some ⟨r, 0, none⟩))) w K θ := by
  obtain ⟨R, hR, h'⟩ := h.out (.map b)
  exact h'.entry hK
theorem St.iterDone {k : κ} {v : Value} (h : St w0 A w) (b : Nat) [i : Hole (.map b) A (IterAt enc b r l left k v) C] : St w0 (C (IterP enc b r l left)) w := h.turnTo (.map b) (IterAt.iter enc b r l left k v)
theorem St.iterEnd (h : St w0 A w) (b : Nat) [i : Hole (.map b) A (IterP enc b r l left) C] : St w0 (C (MapP enc b l)) w := h.turnTo (.map b) (IterP.map enc b r l left)
theorem St.nextP {α : Type} {f : α → Value} {lf : List (κ × α)} {ty : TypeId} {K : Value → World → Prop} {θ : Tag K} (h : St w0 A w) (b : Nat) [i : Hole (.map b) A (IterP enc b r l (amap f lf)) C]
    (h0 : lf = [] → K (.tuple #[.bool false]) w)
    (h1 : ∀ (x : κ × α) (rest : List (κ × α)) w', (x :: rest).Perm lf → St w0 (C (IterAt enc b r l (amap f rest) x.1 (f x.2))) w' → K (.tuple #[.bool true, enc x.1, f x.2]) w') : semD P (kNext (.pointer (some ⟨r, 0, none⟩)) false ty) w K θ := by
  refine h.nextH b (fun e => h0 (by simpa [amap] using e)) fun j hj w' hw => ?_
  have hj' : j < lf.length := by simpa [amap] using hj
  have e1 : (amap f lf)[j] = ((lf[j]).1, f (lf[j]).2) := by simp [amap]
  have e2 : (amap f lf).eraseIdx j = amap f (lf.eraseIdx j) := by simp only [amap, ChangeMaps.map_eraseIdx]
  rw [e1] at hw ⊢
  rw [e2] at hw
  exact h1 lf[j] (lf.eraseIdx j) w' (perm_eraseIdx lf j hj') hw
end
section al
variable {κ α : Type} [DecidableEq κ]
theorem agt_of_mem {x : κ} {v : α} : ∀ {l : List (κ × α)}, (l.map (·.1)).Nodup → (x, v) ∈ l → agt x l = some v
  | (y, u) :: l, hn, hm => by
    simp only [List.map_cons, List.nodup_cons] at hn
    rcases List.mem_cons.1 hm with h | h
    · simp only [Prod.mk.injEq] at h
      simp [agt, h.1, h.2]
    · have : x ≠ y := fun e => hn.1 (e ▸ List.mem_map.2 ⟨(x, v), h, rfl⟩)
      simp only [agt, if_neg this]
      exact agt_of_mem hn.2 h
theorem mem_of_agt {x : κ} {v : α} : ∀ {l : List (κ × α)}, agt x l = some v → (x, v) ∈ l
  | (y, u) :: l, h => by
    simp only [agt] at h
    split at h
    · rename_i e
      simp only [Option.some.injEq] at h
      subst e h
      simp
    · exact List.mem_cons_of_mem _ (mem_of_agt h)
theorem agt_aset_if (x y : κ) (v : α) : ∀ l : List (κ × α), agt y (aset x v l) = if y = x then some v else agt y l
  | [] => by simp only [aset, agt]
  | (z, u) :: l => by
    have ih := agt_aset_if x y v l
    by_cases h : x = z
    · subst h
      by_cases hy : y = x <;> simp [aset, agt, hy]
    · by_cases hy : y = x
      · subst hy
        simp [aset, agt, h, ih]
      · by_cases hz : y = z
        · subst hz
          simp [aset, agt, h, hy]
        · simp [aset, agt, h, hy, hz, ih]
theorem agt_none_of_notin {x : κ} : ∀ {l : List (κ × α)}, x ∉ l.map (·.1) → agt x l = none
  | [], _ => rfl
  | (z, u) :: l, h => by
    simp only [List.map_cons, List.mem_cons, not_or] at h
    simp [agt, h.1, agt_none_of_notin h.2]
theorem agt_adel_if {x y : κ} : ∀ {l : List (κ × α)}, (l.map (·.1)).Nodup → agt y (adel x l) = if y = x then none else agt y l
  | [], _ => by simp [adel, agt]
  | (z, u) :: l, hn => by
    simp only [List.map_cons, List.nodup_cons] at hn
    have ih := agt_adel_if (x := x) (y := y) hn.2
    by_cases h : x = z
    · subst h
      by_cases hy : y = x
      · subst hy
        simp [adel, agt_none_of_notin hn.1]
      · simp [adel, agt, hy]
    · by_cases hy : y = x
      · subst hy
        simp [adel, agt, h, ih]
      · by_cases hz : y = z
        · subst hz
          simp [adel, agt, h, hy]
        · simp [adel, agt, h, hy, hz, ih]
theorem adel_keys (x : κ) : ∀ l : List (κ × α), ((adel x l).map (·.1)).Sublist (l.map (·.1))
  | [] => .slnil
  | (z, u) :: l => by
    simp only [adel]
    split
    · exact List.sublist_cons_self _ _
    · exact (adel_keys x l).cons_cons _
theorem adel_nodup {x : κ} {l : List (κ × α)} (h : (l.map (·.1)).Nodup) : ((adel x l).map (·.1)).Nodup := (adel_keys x l).nodup h
theorem aset_keys (x : κ) (v : α) : ∀ l : List (κ × α), ∀ y ∈ (aset x v l).map (·.1), y = x ∨ y ∈ l.map (·.1)
  | [], y, h => by simpa [aset] using h
  | (z, u) :: l, y, h => by
    simp only [aset] at h
    split at h
    · rename_i e
      simp only [List.map_cons, List.mem_cons] at h ⊢
      rcases h with h | h
      · exact .inl h
      · exact .inr (.inr h)
    · simp only [List.map_cons, List.mem_cons] at h ⊢
      rcases h with h | h
      · exact .inr (.inl h)
      · rcases aset_keys x v l y h with h | h
        · exact .inl h
        · exact .inr (.inr h)
theorem aset_nodup {x : κ} {v : α} : ∀ {l : List (κ × α)}, (l.map (·.1)).Nodup → ((aset x v l).map (·.1)).Nodup
  | [], _ => by simp [aset]
  | (z, u) :: l, hn => by
    simp only [List.map_cons, List.nodup_cons] at hn
    simp only [aset]
    split
    · rename_i e
      subst e
      simpa using hn
    · rename_i e
      simp only [List.map_cons, List.nodup_cons]
      refine ⟨fun h => ?_, aset_nodup hn.2⟩
      rcases aset_keys x v l z h with h | h
      · exact e h.symm
      · exact hn.1 h
theorem agt_isSome_iff {x : κ} : ∀ {l : List (κ × α)}, (agt x l).isSome = true ↔ x ∈ l.map (·.1)
  | [] => by simp [agt]
  | (z, u) :: l => by
    have ih := agt_isSome_iff (x := x) (l := l)
    simp only [agt, List.map_cons, List.mem_cons]
    split
    · rename_i h; simp [h]
    · rename_i h; rw [ih]; simp [h]
theorem agt_perm {l l' : List (κ × α)} (hp : l.Perm l') (hn : (l'.map (·.1)).Nodup) (x : κ) : agt x l = agt x l' := by
  have hn' : (l.map (·.1)).Nodup := (hp.map (·.1)).nodup_iff.2 hn
  cases h : agt x l' with
  | some v => exact agt_of_mem hn' (hp.mem_iff.2 (mem_of_agt h))
  | none =>
    cases h2 : agt x l with
    | none => rfl
    | some v => rw [agt_of_mem hn (hp.mem_iff.1 (mem_of_agt h2))] at h; cases h
end al
set_option linter.unusedSimpArgs false
set_option maxRecDepth 100000
structure FidD where
  st : Int
  nd : Int
  user : ByteArray
  mode : Int
  rm : Bool
  last : Int
  told : Int
  tu : ByteArray
  tt : ByteArray
  ours : Int
  theirs : Int
  step : Int
  said : Int
  heard : List UInt8
def zFid : FidD := ⟨0, 0, ⟨#[]⟩, 0, false, 0, 0, ⟨#[]⟩, ⟨#[]⟩, 0, 0, 0, 0, []⟩
def fdC (v : Value) (f : FidD) : List Value :=
  [.int .u8 f.st, .int .u64 f.nd, .string f.user, .int .u8 f.mode, .bool f.rm, .int .u64 f.last, .int .u64 f.told, .string f.tu, .string f.tt, .int .u64 f.ours, .int .u64 f.theirs, .int .u8 f.step, .int .i64 f.said, v]
abbrev HF := Value × FidD
def fdV (p : HF) : Value := .agg (fdC p.1 p.2).toArray
theorem fdC_length (v : Value) (f : FidD) : (fdC v f).length = 14 := rfl
theorem fdC_cells {v : Value} {f : FidD} (hv : isCell v = true) : ∀ x ∈ fdC v f, isCell x = true := by
  intro x hx
  simp only [fdC, List.mem_cons, List.not_mem_nil, or_false] at hx
  rcases hx with rfl | rfl | rfl | rfl | rfl | rfl | rfl | rfl | rfl | rfl | rfl | rfl | rfl | rfl <;> first | rfl | exact hv
abbrev byR (l : List UInt8) : List Value := l.map bv
theorem byR_cells (l : List UInt8) : ∀ x ∈ byR l, isCell x = true := by
  intro x hx
  obtain ⟨b, _, rfl⟩ := List.mem_map.1 hx
  rfl
abbrev HeardR (p : HF) : HP := Reads 1 p.1 p.2.heard.length (byR p.2.heard)
abbrev HeardP (p : HF) : HP := RowO 5 1 p.1 p.2.heard.length (byR p.2.heard)
section
attribute [local go_sem] F57.t3_eq
theorem cloneB_any {w0 w : World} {F : HP} {v : Value} {l : List UInt8} (h : St w0 F w) (hr : Ent F (Reads 1 v l.length (byR l))) (hl : l.length < 1099511627776) :
    Calls Try.prog 57 #[v] w fun e w' => ∃ v', isCell v' = true ∧ St w0 (RowO 5 1 v' l.length (byR l) * F) w' ∧ e = .returned v' := by
  have r := (h.ent hr).rd
  obtain ⟨a, c, rfl, hnc, hcl⟩ := r.form
  refine F57.calls (by simp) ?_
  unfold F57.code
  cases a with
  | none =>
    have hnil : byR l = [] := by
      rcases hcl with h | ⟨b, o, h, _⟩
      · exact h
      · cases h
    have hl0 : l = [] := by simpa using hnil
    simp -dsimp -implicitDefEqProofs (disch := omega) only [go_sem]
    refine ⟨.slice none 0 0, rfl, ?_, rfl⟩
    rw [hl0]
    exact h.nilR 5 1
  | some a =>
    simp -dsimp -implicitDefEqProofs (disch := omega) only [go_sem]
    refine h.lit0 fact_rowTy_39 rfl fun v1 w1 h1 => ?_
    simp -dsimp -implicitDefEqProofs (disch := omega) only [go_sem]
    refine h1.app (v := v1) fact_rowTy_39 ((Ent.right _ _).trans hr) Try.underlying39 (byR_cells l) (fun h => by simpa using h) (by simp only [maxLen]; omega) (by omega) fun v2 w2 h2 => ?_
    simp -dsimp -implicitDefEqProofs (disch := omega) only [go_sem]
    rw [Nat.zero_add, List.nil_append] at h2
    obtain ⟨a2, c2, rfl, _⟩ := h2.rowForm v2
    exact ⟨_, rfl, h2, rfl⟩
end
theorem own_any {w0 w : World} {F : HP} {p : HF} (h : St w0 F w) (hv : isCell p.1 = true) (hr : Ent F (HeardR p)) (hl : p.2.heard.length < 1099511627776) :
    Calls Try.prog 41 #[fdV p] w fun e w' => ∃ v', isCell v' = true ∧ St w0 (HeardP (v', p.2) * F) w' ∧ e = .returned (fdV (v', p.2)) := by
  obtain ⟨v, f⟩ := p
  refine F41.calls (by simp) ?_
  unfold F41.code
  unfold fdV fdC
  simp -dsimp -implicitDefEqProofs (disch := omega) only [go_sem]
  refine h.new fun B1 w1 h1 => ?_
  simp -dsimp -implicitDefEqProofs (disch := omega) only [go_sem]
  refine h1.new fun B2 w2 h2 => ?_
  have h2' : St w0 (Blk B2 (.cells (fdC (.slice none 0 0) zFid).toArray 43 (0, 0)) * (Blk B1 (.cells (fdC v f).toArray 43 (0, 0)) * F)) w2 := h2
  have c1 := h2'.cl B1
  simp only [fdC] at c1
  simp -dsimp -implicitDefEqProofs (disch := omega) only [go_sem, c1]
  refine (cloneB_any (v := v) (l := f.heard) h2' ((Ent.right _ _).trans ((Ent.right _ _).trans hr)) hl).mono ?_
  rintro e w3 ⟨v', hv', h3, rfl⟩
  have c3 := h3.cl B1
  simp only [fdC] at c3
  simp -dsimp -implicitDefEqProofs (disch := omega) only [go_sem, c3]
  refine h3.sto (b := B1) (off := 13) (by simp [fdC]) hv' fun w4 h4 => ?_
  have h4' : St w0 (RowO 5 1 v' f.heard.length (byR f.heard) * (Blk B2 (.cells (fdC (.slice none 0 0) zFid).toArray 43 (0, 0)) * (Blk B1 (.cells (fdC v' f).toArray 43 (0, 0)) * F))) w4 := h4
  have hrow := h4'.rowH B1 14 rfl
  simp -dsimp -implicitDefEqProofs (disch := omega) only [go_sem, hrow]
  refine h4'.stoAll (b := B2) (cs := fdC v' f) rfl rfl (fdC_cells hv') fun w5 h5 => ?_
  have hrow2 := h5.rowH B2 14 rfl
  simp -dsimp -implicitDefEqProofs (disch := omega) only [go_sem]
  refine resC_1 (a := ⟨B2, 0, none⟩) (v := fdV (v', f)) (by simp -dsimp -implicitDefEqProofs only [go_sem]) (run_loadVar_row fact_aggSz_43 (by rw [hrow2]; rfl)) ?_
  exact ⟨v', hv', h5.sub, rfl⟩
def mayB (f : FidD) : Bool := decide (f.st = 1) || decide (f.st = 2) || decide (f.st = 3)
section
attribute [local go_sem] F39.t5_eq F39.t6_eq
theorem may_any {w0 w : World} {F : HP} {p : HF} (h : St w0 F w) : Calls Try.prog 39 #[fdV p] w fun e w' => St w0 F w' ∧ e = .returned (.bool (mayB p.2)) := by
  obtain ⟨v, f⟩ := p
  refine F39.calls (by simp) ?_
  unfold F39.code
  unfold fdV fdC
  simp -dsimp -implicitDefEqProofs (disch := omega) only [go_sem]
  refine h.new fun B w1 h1 => ?_
  have hc := h1.cl B
  by_cases q1 : f.st = 1
  · simp -dsimp -implicitDefEqProofs (disch := omega) only [go_sem, hc, q1]
    exact ⟨h1.right, by simp [mayB, q1]⟩
  · by_cases q2 : f.st = 2
    · simp -dsimp -implicitDefEqProofs (disch := omega) only [go_sem, hc, q1, q2]
      exact ⟨h1.right, by simp [mayB, q2]⟩
    · by_cases q3 : f.st = 3
      · simp -dsimp -implicitDefEqProofs (disch := omega) only [go_sem, hc, q1, q2, q3]
        exact ⟨h1.right, by simp [mayB, q3]⟩
      · simp -dsimp -implicitDefEqProofs (disch := omega) only [go_sem, hc, q1, q2, q3]
        exact ⟨h1.right, by simp [mayB, q1, q2, q3]⟩
def shutE (f : FidD) : Int := if f.st = 2 then 112 else if f.st = 3 then 116 else 0
end
section
attribute [local go_sem] F37.t6_eq
theorem shut_any {w0 w : World} {F : HP} {p : HF} (h : St w0 F w) : Calls Try.prog 37 #[fdV p] w fun e w' => St w0 F w' ∧ e = .returned (.int .i64 (shutE p.2)) := by
  obtain ⟨v, f⟩ := p
  refine F37.calls (by simp) ?_
  unfold F37.code
  unfold fdV fdC
  simp -dsimp -implicitDefEqProofs (disch := omega) only [go_sem]
  refine h.new fun B w1 h1 => ?_
  have hc := h1.cl B
  by_cases q2 : f.st = 2
  · simp -dsimp -implicitDefEqProofs (disch := omega) only [go_sem, hc, q2]
    exact ⟨h1.right, by simp [shutE, q2]⟩
  · by_cases q3 : f.st = 3
    · simp -dsimp -implicitDefEqProofs (disch := omega) only [go_sem, hc, q2, q3]
      exact ⟨h1.right, by simp [shutE, q3]⟩
    · simp -dsimp -implicitDefEqProofs (disch := omega) only [go_sem, hc, q2, q3]
      exact ⟨h1.right, by simp [shutE, q2, q3]⟩
theorem Ent.empL (F : HP) : Ent F (EmpH * F) := fun h hf => ⟨h, hle.rfl' h, fun _ => none, h, fun _ => .inl rfl, (fun _ _ e => by cases e), hle.rfl' h, trivial, hf⟩
abbrev encU : Int → Value := fun n => .int .u32 n
theorem lawU : KeyLaw Try.prog 35 encU := KeyLaw.int Try.underlying35
abbrev FPs := List (Int × HF)
def Okf (p : HF) : Prop := isCell p.1 = true ∧ p.2.heard.length < 1099511627776
def hearts (ps : FPs) : HP := stars (fun p : Int × HF => HP.fact (Okf p.2) (HeardP p.2)) ps
def TabQ (B m : Nat) (most : Int) (ps : FPs) : HP := Blk B (.cells #[.int .i64 most, .map (some m)] 88 (0, 0)) * (MapP encU m (amap fdV ps) * hearts ps)
def TabP (B : Nat) (most : Int) (l : List (Int × FidD)) : HP := HP.ex fun x : Nat × FPs => HP.fact (amap (·.2) x.2 = l) (TabQ B x.1 most x.2)
instance (B : Nat) (most : Int) (l : List (Int × FidD)) : Face (.obj B) (TabP B most l) := ⟨⟩
theorem TabP.open {w0 w : World} {B : Nat} {most : Int} {l : List (Int × FidD)} {F : HP} (h : St w0 (TabP B most l * F) w) : ∃ m ps, amap (·.2) ps = l ∧ St w0 (Blk B (.cells #[.int .i64 most, .map (some m)] 88 (0, 0)) * (MapP encU m (amap fdV ps) * (hearts ps * F))) w := by
  obtain ⟨⟨m, ps⟩, h⟩ := h.exF
  obtain ⟨e, h⟩ := h.factF
  exact ⟨m, ps, e, h.ac (by unfold TabQ; ac_rfl)⟩
theorem TabP.col {w0 w : World} {A R1 R2 R3 : HP} {B m : Nat} {most : Int} {ps : FPs} {l : List (Int × FidD)} (h : St w0 A w) (hps : amap (·.2) ps = l) [i1 : Pull A (Blk B (.cells #[.int .i64 most, .map (some m)] 88 (0, 0))) R1] [i2 : Pull R1 (MapP encU m (amap fdV ps)) R2] [i3 : Pull R2 (hearts ps) R3] :
    St w0 (TabP B most l * R3) w := by
  have h1 : St w0 (TabQ B m most ps * R3) w := h.ac (by rw [i1.eq, i2.eq, i3.eq]; unfold TabQ; ac_rfl)
  exact h1.ent (Ent.sep ((Ent.fact hps _).trans (Ent.ex (fun x : Nat × FPs => HP.fact (amap (·.2) x.2 = l) (TabQ B x.1 most x.2)) (m, ps))) (Ent.rfl' R3))
theorem hearts_at {ps : FPs} {n : Int} {p : HF} (h : agt n ps = some p) : hearts ps = HP.fact (Okf p) (HeardP p) * hearts (adel n ps) := stars_open _ n p ps h
theorem hearts_set {ps : FPs} {n : Int} {p q : HF} (h : agt n ps = some p) : hearts (aset n q ps) = HP.fact (Okf q) (HeardP q) * hearts (adel n ps) := stars_aset (fun p : Int × HF => HP.fact (Okf p.2) (HeardP p.2)) n p q ps h
theorem hearts_new {ps : FPs} {n : Int} {q : HF} (h : agt n ps = none) : hearts (aset n q ps) = HP.fact (Okf q) (HeardP q) * hearts ps := stars_new _ n q ps h
theorem hearts_del {ps : FPs} {n : Int} : Ent (hearts ps) (hearts (adel n ps)) := by
  cases h : agt n ps with
  | some p => rw [hearts_at h]; exact Ent.right _ _
  | none =>
    have : ∀ ps : FPs, agt n ps = none → adel n ps = ps := fun ps => by
      induction ps with
      | nil => intro _; rfl
      | cons x ps ih =>
        obtain ⟨y, u⟩ := x
        intro h
        simp only [agt] at h
        split at h
        · cases h
        · rename_i hx
          simp only [adel, if_neg hx, ih h]
    rw [this ps h]
    exact Ent.rfl' _
theorem hearts_put {w0 w : World} {ps : FPs} {n : Int} {q : HF} {A : HP} (hq : Okf q) (h : St w0 (HeardP q * (hearts ps * A)) w) : St w0 (hearts (aset n q ps) * A) w := by
  cases hk : agt n ps with
  | some p =>
    rw [hearts_set hk, sep_assoc]
    exact h.ent (Ent.sep (Ent.fact hq _) (Ent.sep hearts_del (Ent.rfl' A)))
  | none =>
    rw [hearts_new hk, sep_assoc]
    exact h.ent (Ent.sep (Ent.fact hq _) (Ent.rfl' _))
theorem hearts_cell {w0 w : World} {ps : FPs} {n : Int} {p : HF} {A : HP} (hk : agt n ps = some p) (h : St w0 (hearts ps * A) w) : Okf p := by
  rw [hearts_at hk, sep_assoc] at h
  exact h.factF.1
theorem hearts_reads {ps : FPs} {n : Int} {p : HF} (hk : agt n ps = some p) : Ent (hearts ps) (HeardR p) := by
  rw [hearts_at hk]
  refine (Ent.left _ _).trans ?_
  exact HP.fact_elim fun _ => RowO.reads _ _ _ _ _
end
section
attribute [local go_sem] F20.t3_eq
theorem new_no {w0 w : World} {F : HP} {n : Int} (h : St w0 F w) (hn : n < 1 ∨ 256 < n) :
    Calls Try.prog 20 #[.int .i64 n] w fun e w' => St w0 F w' ∧ e = .returned (.tuple #[.pointer none, .int .i64 1]) := by
  refine F20.calls (by simp) ?_
  unfold F20.code
  by_cases h1 : n < 1
  · simp -dsimp -implicitDefEqProofs (disch := omega) only [go_sem, h1]
    exact h
  have h2 : 256 < n := by omega
  simp -dsimp -implicitDefEqProofs (disch := omega) only [go_sem, h1, h2]
  exact h
theorem new_ok {w0 w : World} {F : HP} {n : Int} (h : St w0 F w) (hn : 1 ≤ n ∧ n ≤ 256) :
    Calls Try.prog 20 #[.int .i64 n] w fun e w' => ∃ B, St w0 (TabP B n [] * F) w' ∧ e = .returned (.tuple #[.pointer (some ⟨B, 0, none⟩), .int .i64 0]) := by
  refine F20.calls (by simp) ?_
  unfold F20.code
  have h1 : ¬ n < 1 := by omega
  have h2 : ¬ 256 < n := by omega
  simp -dsimp -implicitDefEqProofs (disch := omega) only [go_sem, h1, h2]
  refine St.makeMap (enc := encU) h fun b w1 h3 => ?_
  simp -dsimp -implicitDefEqProofs (disch := omega) only [go_sem]
  refine onV_of (v := .agg #[.int .i64 n, .map (some b)]) rfl ?_
  simp -dsimp -implicitDefEqProofs (disch := omega) only [go_sem]
  refine h3.new fun B w2 h4 => ?_
  simp -dsimp -implicitDefEqProofs (disch := omega) only [go_sem]
  refine ⟨B, ?_, rfl⟩
  have h5 := h4.ent (Ent.empL _)
  exact TabP.col (B := B) (m := b) (ps := []) (most := n) (show St w0 (hearts [] * (Blk B (.cells #[.int .i64 n, .map (some b)] 88 (0, 0)) * (MapP encU b (amap fdV []) * F))) w2 from h5) rfl
def freeE (n most : Int) (l : List (Int × FidD)) : Int := if n = 4294967295 then 103 else if (agt n l).isSome = true then 101 else if most ≤ l.length then 102 else 0
theorem zeroV_fid : zeroV Try.prog 43 = some (fdV (.slice none 0 0, zFid)) := fact_zeroV_43
end
section
attribute [local go_sem] F40.t8_eq F40.t6_eq F40.t3_eq
theorem free_any {w0 w : World} {F : HP} {B : Nat} {most n : Int} {l : List (Int × FidD)} (h : St w0 (TabP B most l * F) w) :
    Calls Try.prog 40 #[.pointer (some ⟨B, 0, none⟩), .int .u32 n] w fun e w' => St w0 (TabP B most l * F) w' ∧ e = .returned (.int .i64 (freeE n most l)) := by
  obtain ⟨m, ps, hps, h1⟩ := TabP.open h
  have hag : agt n l = (agt n ps).map (·.2) := by rw [← hps, agt_amap]
  have hlen : l.length = ps.length := by rw [← hps]; simp [amap]
  refine F40.calls (by simp) ?_
  unfold F40.code
  by_cases q1 : n = 4294967295
  · simp -dsimp -implicitDefEqProofs (disch := omega) only [go_sem, q1]
    exact ⟨(TabP.col (B := B) (m := m) (most := most) h1 hps), by simp [freeE, q1]⟩
  simp -dsimp -implicitDefEqProofs (disch := omega) only [go_sem, q1, h1.cl B]
  refine h1.lkH (b := m) Try.underlying86 lawU zeroV_fid ?_
  rw [lk_amap, lkV_get]
  simp -dsimp -implicitDefEqProofs (disch := omega) only [go_sem]
  refine h1.new fun X w2 h2 => ?_
  simp -dsimp -implicitDefEqProofs (disch := omega) only [go_sem]
  cases hk : agt n ps with
  | some p =>
    have hp : isCell p.1 = true := (hearts_cell hk (h1.take (.blk B)).right.sw2).1
    simp only [Option.getD_some, Option.isSome_some]
    refine h2.stoAll (cs := fdC p.1 p.2) rfl rfl (fdC_cells hp) fun w3 h3 => ?_
    simp -dsimp -implicitDefEqProofs (disch := omega) only [go_sem]
    refine ⟨(TabP.col (B := B) (m := m) (most := most) h3.right hps), ?_⟩
    rw [hk] at hag
    simp [freeE, q1, hag]
  | none =>
    rw [hk] at hag
    simp only [Option.getD_none, Option.isSome_none]
    refine h2.stoAll (cs := fdC (.slice none 0 0) zFid) rfl rfl (fdC_cells rfl) fun w3 h3 => ?_
    have h4 := h3.drew
    have cB := h4.cl B
    simp -dsimp -implicitDefEqProofs (disch := omega) only [go_sem, cB]
    refine h4.lenH (b := m) Try.underlying86 ?_
    have hl2 : (amap fdV ps).length = ps.length := by simp [amap]
    rw [hl2]
    by_cases q3 : most ≤ ps.length
    · simp -dsimp -implicitDefEqProofs (disch := omega) only [go_sem, cB, q3]
      refine ⟨(TabP.col (B := B) (m := m) (most := most) h4.right hps), ?_⟩
      simp [freeE, q1, hag, hlen, q3]
    · simp -dsimp -implicitDefEqProofs (disch := omega) only [go_sem, cB, q3]
      refine ⟨(TabP.col (B := B) (m := m) (most := most) h4.right hps), ?_⟩
      simp [freeE, q1, hag, hlen, q3]
end
abbrev tabB (most : Int) (m : Nat) : Obj := .cells #[.int .i64 most, .map (some m)] 88 (0, 0)
abbrev fidB (v : Value) (f : FidD) : Obj := .cells (fdC v f).toArray 43 (0, 0)
abbrev zF : Value := .slice none 0 0
section
attribute [local go_sem] F30.t4_eq
theorem get_none {w0 w : World} {F : HP} {B : Nat} {most n : Int} {l : List (Int × FidD)} (h : St w0 (TabP B most l * F) w) (hg : agt n l = none) :
    Calls Try.prog 30 #[.pointer (some ⟨B, 0, none⟩), .int .u32 n] w fun e w' => St w0 (TabP B most l * F) w' ∧ e = .returned (.tuple #[fdV (zF, zFid), .int .i64 100]) := by
  obtain ⟨m, ps, hps, h1⟩ := TabP.open h
  have hk : agt n ps = none := by rw [← hps, agt_amap] at hg; simpa using hg
  refine F30.calls (by simp) ?_
  unfold F30.code
  simp -dsimp -implicitDefEqProofs (disch := omega) only [go_sem]
  refine h1.new fun C w2 h2 => ?_
  simp -dsimp -implicitDefEqProofs (disch := omega) only [go_sem, h2.cl B]
  refine h2.lkH (b := m) Try.underlying86 lawU zeroV_fid ?_
  rw [lk_amap, lkV_get, hk]
  simp only [Option.getD_some, Option.getD_none, Option.isSome_some, Option.isSome_none]
  simp -dsimp -implicitDefEqProofs (disch := omega) only [go_sem]
  refine h2.new fun X w3 h3 => ?_
  simp -dsimp -implicitDefEqProofs (disch := omega) only [go_sem]
  refine h3.stoAll (cs := fdC zF zFid) rfl rfl (fdC_cells rfl) fun w4 h4 => ?_
  simp -dsimp -implicitDefEqProofs (disch := omega) only [go_sem]
  refine onV_of (v := fdV (zF, zFid)) rfl ?_
  simp -dsimp -implicitDefEqProofs (disch := omega) only [go_sem]
  refine h4.stoAll (b := C) (cs := fdC zF zFid) rfl rfl (fdC_cells rfl) fun w5 h5 => ?_
  simp -dsimp -implicitDefEqProofs (disch := omega) only [go_sem]
  have hrow := h5.rowH C 14 rfl
  refine resC_2 (a := ⟨C, 0, none⟩) (v := fdV (zF, zFid)) (by simp -dsimp -implicitDefEqProofs only [go_sem]) (run_loadVar_row fact_aggSz_43 (by rw [hrow]; rfl)) ?_
  simp -dsimp -implicitDefEqProofs (disch := omega) only [go_sem]
  exact TabP.col (B := B) (m := m) (most := most) h5.right.right hps
theorem get_some {w0 w : World} {F : HP} {B : Nat} {most n : Int} {l : List (Int × FidD)} {f : FidD} (h : St w0 (TabP B most l * F) w) (hg : agt n l = some f) :
    Calls Try.prog 30 #[.pointer (some ⟨B, 0, none⟩), .int .u32 n] w fun e w' => ∃ v', Okf (v', f) ∧ St w0 (HeardP (v', f) * (TabP B most l * F)) w' ∧ e = .returned (.tuple #[fdV (v', f), .int .i64 0]) := by
  obtain ⟨m, ps, hps, h1⟩ := TabP.open h
  rw [← hps, agt_amap] at hg
  obtain ⟨p, hk, hpf⟩ := Option.map_eq_some_iff.1 hg
  obtain ⟨v, f'⟩ := p
  obtain rfl : f' = f := hpf
  refine F30.calls (by simp) ?_
  unfold F30.code
  simp -dsimp -implicitDefEqProofs (disch := omega) only [go_sem]
  refine h1.new fun C w2 h2 => ?_
  simp -dsimp -implicitDefEqProofs (disch := omega) only [go_sem, h2.cl B]
  refine h2.lkH (b := m) Try.underlying86 lawU zeroV_fid ?_
  rw [lk_amap, lkV_get, hk]
  simp only [Option.getD_some, Option.getD_none, Option.isSome_some, Option.isSome_none]
  simp -dsimp -implicitDefEqProofs (disch := omega) only [go_sem]
  refine h2.new fun X w3 h3 => ?_
  have hp := hearts_cell hk (h1.take (.blk B)).right.sw2
  simp -dsimp -implicitDefEqProofs (disch := omega) only [go_sem]
  refine h3.stoAll (cs := fdC v f') rfl rfl (fdC_cells hp.1) fun w4 h4 => ?_
  have hrow := h4.rowH X 14 rfl
  simp -dsimp -implicitDefEqProofs (disch := omega) only [go_sem, hrow]
  have h4' : St w0 (hearts ps * (Blk X (fidB v f') * (Blk C (fidB zF zFid) * (Blk B (tabB most m) * (MapP encU m (amap fdV ps) * F))))) w4 := h4.ac (by ac_rfl)
  refine (own_any (p := (v, f')) h4' hp.1 ((Ent.left _ _).trans (hearts_reads hk)) hp.2).mono ?_
  rintro e w5 ⟨v', hv', h5, rfl⟩
  simp -dsimp -implicitDefEqProofs (disch := omega) only [go_sem]
  refine h5.stoAll (b := C) (cs := fdC v' f') rfl rfl (fdC_cells hv') fun w6 h6 => ?_
  simp -dsimp -implicitDefEqProofs (disch := omega) only [go_sem]
  have hrow2 := h6.rowH C 14 rfl
  refine resC_2 (a := ⟨C, 0, none⟩) (v := fdV (v', f')) (by simp -dsimp -implicitDefEqProofs only [go_sem]) (run_loadVar_row fact_aggSz_43 (by rw [hrow2]; rfl)) ?_
  simp -dsimp -implicitDefEqProofs (disch := omega) only [go_sem]
  refine ⟨v', ⟨hv', hp.2⟩, ?_, rfl⟩
  have h7 := TabP.col (B := B) (m := m) (most := most) h6 hps
  exact h7.sub
theorem TabP.put {w0 w : World} {A R0 R1 R2 R3 : HP} {B m : Nat} {most n : Int} {ps : FPs} {l : List (Int × FidD)} {v : Value} {f : FidD} (h : St w0 A w) (hps : amap (·.2) ps = l) (hq : Okf (v, f)) [i0 : Pull A (HeardP (v, f)) R0]
    [i1 : Pull R0 (Blk B (tabB most m)) R1] [i2 : Pull R1 (MapP encU m (upd n (fdV (v, f)) (amap fdV ps))) R2] [i3 : Pull R2 (hearts ps) R3] : St w0 (TabP B most (aset n f l) * R3) w := by
  have h1 : St w0 (HeardP (v, f) * (hearts ps * (Blk B (tabB most m) * (MapP encU m (amap fdV (aset n (v, f) ps)) * R3)))) w := h.ac (by rw [i0.eq, i1.eq, i2.eq, i3.eq, upd_amap]; ac_rfl)
  have h2 := hearts_put (n := n) hq h1
  have h3 := TabP.col (B := B) (m := m) (most := most) (ps := aset n (v, f) ps) h2 rfl
  have e : amap (·.2) (aset n (v, f) ps) = aset n f l := by rw [← hps]; exact (aset_amap (fun x : HF => x.2) n (v, f) ps).symm
  rw [e] at h3
  exact h3
theorem TabP.rem {w0 w : World} {A R1 R2 R3 : HP} {B m : Nat} {most n : Int} {ps : FPs} {l : List (Int × FidD)} (h : St w0 A w) (hps : amap (·.2) ps = l)
    [i1 : Pull A (Blk B (tabB most m)) R1] [i2 : Pull R1 (MapP encU m (del n (amap fdV ps))) R2] [i3 : Pull R2 (hearts ps) R3] : St w0 (TabP B most (adel n l) * R3) w := by
  have h1 : St w0 (hearts ps * (Blk B (tabB most m) * (MapP encU m (amap fdV (adel n ps)) * R3))) w := h.ac (by rw [i1.eq, i2.eq, i3.eq, del_amap]; ac_rfl)
  have h2 := h1.ent (Ent.sep (hearts_del (n := n)) (Ent.rfl' _))
  have h3 := TabP.col (B := B) (m := m) (most := most) (ps := adel n ps) h2 rfl
  have e : amap (·.2) (adel n ps) = adel n l := by rw [← hps]; exact (adel_amap (fun x : HF => x.2) n ps).symm
  rw [e] at h3
  exact h3
def addE (n most : Int) (l : List (Int × FidD)) (f : FidD) : Int := if mayB f = true then freeE n most l else 1
def addS (n most : Int) (l : List (Int × FidD)) (f : FidD) : List (Int × FidD) := if addE n most l f = 0 then aset n f l else l
end
section
attribute [local go_sem] F22.t6_eq F22.t3_eq
theorem add_any {w0 w : World} {F : HP} {B : Nat} {most n : Int} {l : List (Int × FidD)} {p : HF} (h : St w0 (TabP B most l * F) w) (hp : Okf p) (hr : Ent F (HeardR p)) :
    Calls Try.prog 22 #[.pointer (some ⟨B, 0, none⟩), .int .u32 n, fdV p] w fun e w' => St w0 (TabP B most (addS n most l p.2) * F) w' ∧ e = .returned (.int .i64 (addE n most l p.2)) := by
  obtain ⟨v, f⟩ := p
  refine F22.calls (by simp) ?_
  unfold F22.code
  unfold fdV fdC
  simp -dsimp -implicitDefEqProofs (disch := omega) only [go_sem]
  refine h.new fun C w1 h1 => ?_
  have h1' : St w0 (TabP B most l * (Blk C (fidB v f) * F)) w1 := h1.sw2
  have hrow := h1'.rowH C 14 rfl
  simp -dsimp -implicitDefEqProofs (disch := omega) only [go_sem, hrow]
  refine (may_any (p := (v, f)) h1').mono ?_
  rintro e w2 ⟨h2, rfl⟩
  have hrow2 := h2.rowH C 14 rfl
  cases q1 : mayB f with
  | false =>
    simp -dsimp -implicitDefEqProofs (disch := omega) only [go_sem, q1, hrow2]
    have hE : addE n most l f = 1 := by simp [addE, q1]
    have hS : addS n most l f = l := by simp [addS, hE]
    rw [hS, hE]
    exact ⟨h2.sub, rfl⟩
  | true =>
    simp -dsimp -implicitDefEqProofs (disch := omega) only [go_sem, q1, hrow2]
    refine (free_any h2).mono ?_
    rintro e w3 ⟨h3, rfl⟩
    have hE : addE n most l f = freeE n most l := by simp [addE, q1]
    by_cases q2 : freeE n most l = 0
    · obtain ⟨m, ps, hps, h4⟩ := TabP.open h3.drew
      have hS : addS n most l f = aset n f l := by simp [addS, hE, q2]
      have hrow4 := h4.rowH C 14 rfl
      have hB4 := h4.cl B
      simp -dsimp -implicitDefEqProofs (disch := omega) only [go_sem, q2, hrow4, hB4]
      refine (own_any (p := (v, f)) h4 hp.1 ((Ent.right _ _).trans ((Ent.right _ _).trans ((Ent.right _ _).trans ((Ent.right _ _).trans hr)))) hp.2).mono ?_
      rintro e w5 ⟨v', hv', h5, rfl⟩
      have hrow5 := h5.rowH C 14 rfl
      have hB5 := h5.cl B
      simp -dsimp -implicitDefEqProofs (disch := omega) only [go_sem, q2, hrow5, hB5]
      refine h5.updH (b := m) Try.underlying86 lawU fun w6 h6 => ?_
      have hrow6 := h6.rowH C 14 rfl
      have hB6 := h6.cl B
      simp -dsimp -implicitDefEqProofs (disch := omega) only [go_sem, q2, hrow6, hB6]
      have h7 := TabP.put (B := B) (m := m) (most := most) (n := n) (v := v') (f := f) h6 hps ⟨hv', hp.2⟩
      rw [hS, hE, q2]
      exact ⟨h7.sub, rfl⟩
    · have hS : addS n most l f = l := by simp [addS, hE, q2]
      simp -dsimp -implicitDefEqProofs (disch := omega) only [go_sem, q2]
      rw [hS, hE]
      exact ⟨h3.sub, rfl⟩
def setE (n : Int) (l : List (Int × FidD)) (f : FidD) : Int := if mayB f = true then (if (agt n l).isSome = true then 0 else 100) else 1
def setS (n : Int) (l : List (Int × FidD)) (f : FidD) : List (Int × FidD) := if setE n l f = 0 then aset n f l else l
end
section
attribute [local go_sem] F32.t6_eq F32.t3_eq
theorem set_any {w0 w : World} {F : HP} {B : Nat} {most n : Int} {l : List (Int × FidD)} {p : HF} (h : St w0 (TabP B most l * F) w) (hp : Okf p) (hr : Ent F (HeardR p)) :
    Calls Try.prog 32 #[.pointer (some ⟨B, 0, none⟩), .int .u32 n, fdV p] w fun e w' => St w0 (TabP B most (setS n l p.2) * F) w' ∧ e = .returned (.int .i64 (setE n l p.2)) := by
  obtain ⟨v, f⟩ := p
  refine F32.calls (by simp) ?_
  unfold F32.code
  unfold fdV fdC
  simp -dsimp -implicitDefEqProofs (disch := omega) only [go_sem]
  refine h.new fun C w1 h1 => ?_
  have h1' : St w0 (TabP B most l * (Blk C (fidB v f) * F)) w1 := h1.sw2
  have hrow := h1'.rowH C 14 rfl
  simp -dsimp -implicitDefEqProofs (disch := omega) only [go_sem, hrow]
  refine (may_any (p := (v, f)) h1').mono ?_
  rintro e w2 ⟨h2, rfl⟩
  cases q1 : mayB f with
  | false =>
    simp -dsimp -implicitDefEqProofs (disch := omega) only [go_sem, q1]
    have hE : setE n l f = 1 := by simp [setE, q1]
    have hS : setS n l f = l := by simp [setS, hE]
    rw [hS, hE]
    exact ⟨h2.sub, rfl⟩
  | true =>
    obtain ⟨m, ps, hps, h3⟩ := TabP.open h2
    have hag : agt n l = (agt n ps).map (·.2) := by rw [← hps, agt_amap]
    simp -dsimp -implicitDefEqProofs (disch := omega) only [go_sem, q1, h3.cl B]
    refine h3.lkH (b := m) Try.underlying86 lawU zeroV_fid ?_
    rw [lk_amap, lkV_get]
    simp -dsimp -implicitDefEqProofs (disch := omega) only [go_sem]
    refine h3.new fun X w4 h4 => ?_
    simp -dsimp -implicitDefEqProofs (disch := omega) only [go_sem]
    cases hk : agt n ps with
    | none =>
      rw [hk] at hag
      simp only [Option.getD_none, Option.isSome_none]
      refine h4.stoAll (cs := fdC zF zFid) rfl rfl (fdC_cells rfl) fun w5 h5 => ?_
      simp -dsimp -implicitDefEqProofs (disch := omega) only [go_sem]
      have hE : setE n l f = 100 := by simp [setE, q1, hag]
      have hS : setS n l f = l := by simp [setS, hE]
      rw [hS, hE]
      have h6 := TabP.col (B := B) (m := m) (most := most) h5 hps
      exact ⟨h6.sub, rfl⟩
    | some u =>
      rw [hk] at hag
      have hu : Okf u := hearts_cell hk (h3.take (.blk B)).right.sw2
      simp only [Option.getD_some, Option.isSome_some]
      refine h4.stoAll (cs := fdC u.1 u.2) rfl rfl (fdC_cells hu.1) fun w5 h5 => ?_
      have h5 := h5.drew
      have hE : setE n l f = 0 := by simp [setE, q1, hag]
      have hS : setS n l f = aset n f l := by simp [setS, hE]
      have hrow5 := h5.rowH C 14 rfl
      have hB5 := h5.cl B
      simp -dsimp -implicitDefEqProofs (disch := omega) only [go_sem, hrow5, hB5]
      refine (own_any (p := (v, f)) h5 hp.1 ((Ent.right _ _).trans ((Ent.right _ _).trans ((Ent.right _ _).trans ((Ent.right _ _).trans ((Ent.right _ _).trans hr))))) hp.2).mono ?_
      rintro e w6 ⟨v', hv', h6, rfl⟩
      have hrow6 := h6.rowH C 14 rfl
      have hB6 := h6.cl B
      simp -dsimp -implicitDefEqProofs (disch := omega) only [go_sem, hrow6, hB6]
      refine h6.updH (b := m) Try.underlying86 lawU fun w7 h7 => ?_
      have hrow7 := h7.rowH C 14 rfl
      have hB7 := h7.cl B
      simp -dsimp -implicitDefEqProofs (disch := omega) only [go_sem, hrow7, hB7]
      have h8 := TabP.put (B := B) (m := m) (most := most) (n := n) (v := v') (f := f) h7 hps ⟨hv', hp.2⟩
      rw [hS, hE]
      exact ⟨h8.sub, rfl⟩
end
theorem take_any {w0 w : World} {F : HP} {B : Nat} {most n : Int} {l : List (Int × FidD)} (h : St w0 (TabP B most l * F) w) :
    Calls Try.prog 33 #[.pointer (some ⟨B, 0, none⟩), .int .u32 n] w fun e w' => ∃ q : HF, isCell q.1 = true ∧ St w0 (TabP B most (adel n l) * F) w' ∧ e = .returned (.tuple #[fdV q, .int .i64 (if (agt n l).isSome = true then 0 else 100)]) := by
  refine F33.calls (by simp) ?_
  unfold F33.code
  simp -dsimp -implicitDefEqProofs (disch := omega) only [go_sem]
  refine h.new fun C w1 h1 => ?_
  have h1' : St w0 (TabP B most l * (Blk C (fidB zF zFid) * F)) w1 := h1.sw2
  simp -dsimp -implicitDefEqProofs (disch := omega) only [go_sem]
  cases hg : agt n l with
  | none =>
    refine (get_none h1' hg).mono ?_
    rintro e w2 ⟨h2, rfl⟩
    simp -dsimp -implicitDefEqProofs (disch := omega) only [go_sem]
    refine h2.new fun X w3 h3 => ?_
    simp -dsimp -implicitDefEqProofs (disch := omega) only [go_sem]
    refine h3.stoAll (cs := fdC zF zFid) rfl rfl (fdC_cells rfl) fun w4 h4 => ?_
    obtain ⟨m, ps, hps, h5⟩ := TabP.open h4.sw2
    simp -dsimp -implicitDefEqProofs (disch := omega) only [go_sem, h5.cl B]
    refine h5.delH (b := m) Try.underlying86 lawU fun w6 h6 => ?_
    have hrow6 := h6.rowH X 14 rfl
    simp -dsimp -implicitDefEqProofs (disch := omega) only [go_sem, hrow6]
    refine h6.stoAll (b := C) (cs := fdC zF zFid) rfl rfl (fdC_cells rfl) fun w7 h7 => ?_
    have hrow7 := h7.rowH C 14 rfl
    simp -dsimp -implicitDefEqProofs (disch := omega) only [go_sem]
    refine resC_2 (a := ⟨C, 0, none⟩) (v := fdV (zF, zFid)) (by simp -dsimp -implicitDefEqProofs only [go_sem]) (run_loadVar_row fact_aggSz_43 (by rw [hrow7]; rfl)) ?_
    refine ⟨(zF, zFid), rfl, ?_, by (simp -dsimp -implicitDefEqProofs only [go_sem]); rfl⟩
    have h8 := TabP.rem (B := B) (m := m) (most := most) (n := n) h7 hps
    exact h8.sub
  | some f =>
    refine (get_some h1' hg).mono ?_
    rintro e w2 ⟨v', hv', h2, rfl⟩
    simp -dsimp -implicitDefEqProofs (disch := omega) only [go_sem]
    refine h2.new fun X w3 h3 => ?_
    simp -dsimp -implicitDefEqProofs (disch := omega) only [go_sem]
    refine h3.stoAll (cs := fdC v' f) rfl rfl (fdC_cells hv'.1) fun w4 h4 => ?_
    have h4' : St w0 (TabP B most l * (Blk X (fidB v' f) * (HeardP (v', f) * (Blk C (fidB zF zFid) * F)))) w4 := h4.ac (by ac_rfl)
    obtain ⟨m, ps, hps, h5⟩ := TabP.open h4'
    simp -dsimp -implicitDefEqProofs (disch := omega) only [go_sem, h5.cl B]
    refine h5.delH (b := m) Try.underlying86 lawU fun w6 h6 => ?_
    have hrow6 := h6.rowH X 14 rfl
    simp -dsimp -implicitDefEqProofs (disch := omega) only [go_sem, hrow6]
    refine h6.stoAll (b := C) (cs := fdC v' f) rfl rfl (fdC_cells hv'.1) fun w7 h7 => ?_
    have hrow7 := h7.rowH C 14 rfl
    simp -dsimp -implicitDefEqProofs (disch := omega) only [go_sem]
    refine resC_2 (a := ⟨C, 0, none⟩) (v := fdV (v', f)) (by simp -dsimp -implicitDefEqProofs only [go_sem]) (run_loadVar_row fact_aggSz_43 (by rw [hrow7]; rfl)) ?_
    refine ⟨(v', f), hv'.1, ?_, by (simp -dsimp -implicitDefEqProofs only [go_sem]); rfl⟩
    have h8 := TabP.rem (B := B) (m := m) (most := most) (n := n) h7 hps
    exact h8.sub
def roomE (a n most : Int) (l : List (Int × FidD)) : Int := if (agt a l).isSome = true then (if a = n then 0 else freeE n most l) else 100
section
attribute [local go_sem] F36.t6_eq F36.t4_eq
theorem room_any {w0 w : World} {F : HP} {B : Nat} {most a n : Int} {l : List (Int × FidD)} (h : St w0 (TabP B most l * F) w) :
    Calls Try.prog 36 #[.pointer (some ⟨B, 0, none⟩), .int .u32 a, .int .u32 n] w fun e w' => St w0 (TabP B most l * F) w' ∧ e = .returned (.int .i64 (roomE a n most l)) := by
  refine F36.calls (by simp) ?_
  unfold F36.code
  obtain ⟨m, ps, hps, h3⟩ := TabP.open h
  have hag : agt a l = (agt a ps).map (·.2) := by rw [← hps, agt_amap]
  simp -dsimp -implicitDefEqProofs (disch := omega) only [go_sem, h3.cl B]
  refine h3.lkH (b := m) Try.underlying86 lawU zeroV_fid ?_
  rw [lk_amap, lkV_get]
  simp -dsimp -implicitDefEqProofs (disch := omega) only [go_sem]
  refine h3.new fun X w4 h4 => ?_
  simp -dsimp -implicitDefEqProofs (disch := omega) only [go_sem]
  cases hk : agt a ps with
  | none =>
    rw [hk] at hag
    simp only [Option.getD_none, Option.isSome_none]
    refine h4.stoAll (cs := fdC zF zFid) rfl rfl (fdC_cells rfl) fun w5 h5 => ?_
    simp -dsimp -implicitDefEqProofs (disch := omega) only [go_sem]
    have hE : roomE a n most l = 100 := by simp [roomE, hag]
    rw [hE]
    have h6 := TabP.col (B := B) (m := m) (most := most) h5 hps
    exact ⟨h6.sub, rfl⟩
  | some u =>
    rw [hk] at hag
    have hu : Okf u := hearts_cell hk (h3.take (.blk B)).right.sw2
    simp only [Option.getD_some, Option.isSome_some]
    refine h4.stoAll (cs := fdC u.1 u.2) rfl rfl (fdC_cells hu.1) fun w5 h5 => ?_
    have h6 := TabP.col (B := B) (m := m) (most := most) h5 hps
    by_cases q : a = n
    · simp -dsimp -implicitDefEqProofs (disch := omega) only [go_sem, q]
      rw [← q, show roomE a a most l = 0 by simp [roomE, hag]]
      exact ⟨h6.sub, rfl⟩
    · simp -dsimp -implicitDefEqProofs (disch := omega) only [go_sem, q]
      refine (free_any h6).mono ?_
      rintro e w7 ⟨h7, rfl⟩
      simp -dsimp -implicitDefEqProofs (disch := omega) only [go_sem]
      have hE : roomE a n most l = freeE n most l := by simp [roomE, hag, q]
      rw [hE]
      exact ⟨h7.sub, rfl⟩
end
theorem count_any {w0 w : World} {F : HP} {B : Nat} {most : Int} {l : List (Int × FidD)} (h : St w0 (TabP B most l * F) w) :
    Calls Try.prog 14 #[.pointer (some ⟨B, 0, none⟩)] w fun e w' => St w0 (TabP B most l * F) w' ∧ e = .returned (.int .i64 l.length) := by
  refine F14.calls (by simp) ?_
  unfold F14.code
  obtain ⟨m, ps, hps, h3⟩ := TabP.open h
  simp -dsimp -implicitDefEqProofs (disch := omega) only [go_sem, h3.cl B]
  refine h3.lenH (b := m) Try.underlying86 ?_
  have hl2 : (amap fdV ps).length = l.length := by rw [← hps]; simp [amap]
  rw [hl2]
  simp -dsimp -implicitDefEqProofs (disch := omega) only [go_sem]
  have h6 := TabP.col (B := B) (m := m) (most := most) h3 hps
  exact h6.sub
def openF (f : FidD) (nd mode : Int) (rm : Bool) : FidD := { zFid with st := 2, nd := nd, user := f.user, mode := mode, rm := rm }
def walkF (f : FidD) (nd : Int) : FidD := { zFid with st := 1, nd := nd, user := f.user }
def toldF (f : FidD) (last told : Int) : FidD := { f with last := last, told := told }
theorem St.nilHeard {w0 w : World} {A : HP} {f : FidD} (h : St w0 A w) (hf : f.heard = []) : St w0 (HeardP (zF, f) * A) w := by
  show St w0 (RowO 5 1 (.slice none 0 0) f.heard.length (byR f.heard) * A) w
  rw [hf]
  exact h.nilR 5 1
def walkE (a n most : Int) (l : List (Int × FidD)) : Int := if roomE a n most l = 0 then shutE ((agt a l).getD zFid) else roomE a n most l
def walkS (a n nd most : Int) (l : List (Int × FidD)) : List (Int × FidD) := if walkE a n most l = 0 then aset n (walkF ((agt a l).getD zFid) nd) l else l
theorem roomE_some {a n most : Int} {l : List (Int × FidD)} (h : roomE a n most l = 0) : ∃ f, agt a l = some f := by
  unfold roomE at h
  cases hg : agt a l with
  | some f => exact ⟨f, rfl⟩
  | none => rw [hg] at h; simp at h
section
attribute [local go_sem] F34.t8_eq F34.t4_eq
theorem walk_any {w0 w : World} {F : HP} {B : Nat} {most a n nd : Int} {l : List (Int × FidD)} (h : St w0 (TabP B most l * F) w) :
    Calls Try.prog 34 #[.pointer (some ⟨B, 0, none⟩), .int .u32 a, .int .u32 n, .int .u64 nd] w fun e w' => St w0 (TabP B most (walkS a n nd most l) * F) w' ∧ e = .returned (.int .i64 (walkE a n most l)) := by
  refine F34.calls (by simp) ?_
  unfold F34.code
  simp -dsimp -implicitDefEqProofs (disch := omega) only [go_sem]
  refine (room_any h).mono ?_
  rintro e w1 ⟨h1, rfl⟩
  by_cases q1 : roomE a n most l = 0
  · obtain ⟨f, hf⟩ := roomE_some q1
    obtain ⟨m, ps, hps, h3⟩ := TabP.open h1
    rw [← hps, agt_amap] at hf
    obtain ⟨p, hk, hpf⟩ := Option.map_eq_some_iff.1 hf
    obtain ⟨v, f'⟩ := p
    obtain rfl : f' = f := hpf
    have hag : agt a l = some f' := by rw [← hps, agt_amap, hk]; rfl
    have hu : Okf (v, f') := hearts_cell hk (h3.take (.blk B)).right.sw2
    simp -dsimp -implicitDefEqProofs (disch := omega) only [go_sem, q1, h3.cl B]
    refine h3.lkH (b := m) Try.underlying86 lawU zeroV_fid ?_
    rw [lk_amap, lkV_get1, hk]
    simp only [Option.getD_some]
    simp -dsimp -implicitDefEqProofs (disch := omega) only [go_sem]
    refine h3.new fun X w4 h4 => ?_
    simp -dsimp -implicitDefEqProofs (disch := omega) only [go_sem]
    refine h4.stoAll (cs := fdC v f') rfl rfl (fdC_cells hu.1) fun w5 h5 => ?_
    have hrow5 := h5.rowH X 14 rfl
    simp -dsimp -implicitDefEqProofs (disch := omega) only [go_sem, hrow5]
    refine (shut_any (p := (v, f')) h5).mono ?_
    rintro e w6 ⟨h6, rfl⟩
    have hE : walkE a n most l = shutE f' := by simp [walkE, q1, hag]
    by_cases q2 : shutE f' = 0
    · have h6 := h6.drew
      have hB6 := h6.cl B
      have hX6 := h6.cl X
      simp only [fdC] at hX6
      simp -dsimp -implicitDefEqProofs (disch := omega) only [go_sem, q2, hB6, hX6]
      refine onV_of (v := fdV (zF, walkF f' nd)) rfl ?_
      simp -dsimp -implicitDefEqProofs (disch := omega) only [go_sem, hB6, hX6]
      refine h6.updH (b := m) Try.underlying86 lawU fun w7 h7 => ?_
      have hB7 := h7.cl B
      have hX7 := h7.cl X
      simp only [fdC] at hX7
      simp -dsimp -implicitDefEqProofs (disch := omega) only [go_sem, hB7, hX7]
      have h7' := h7.nilHeard (f := walkF f' nd) rfl
      have h8 := TabP.put (B := B) (m := m) (most := most) (n := n) (v := zF) (f := walkF f' nd) h7' hps ⟨rfl, by simp [walkF, zFid]⟩
      have hS : walkS a n nd most l = aset n (walkF f' nd) l := by simp [walkS, hE, q2, hag]
      rw [hS, hE, q2]
      exact ⟨h8.sub, rfl⟩
    · simp -dsimp -implicitDefEqProofs (disch := omega) only [go_sem, q2]
      have hS : walkS a n nd most l = l := by simp [walkS, hE, q2]
      rw [hS, hE]
      have h8 := TabP.col (B := B) (m := m) (most := most) h6 hps
      exact ⟨h8.sub, rfl⟩
  · simp -dsimp -implicitDefEqProofs (disch := omega) only [go_sem, q1]
    have hE : walkE a n most l = roomE a n most l := by simp [walkE, q1]
    have hS : walkS a n nd most l = l := by simp [walkS, hE, q1]
    rw [hS, hE]
    exact ⟨h1.sub, rfl⟩
def and3 (md : Int) : Int := IntKind.u8.wrap ↑(BitVec.ofInt IntKind.u8.bits md &&& BitVec.ofInt IntKind.u8.bits 3).toNat
def openE (n : Int) (l : List (Int × FidD)) : Int := if (agt n l).isSome = true then shutE ((agt n l).getD zFid) else 100
def openS (n nd mode : Int) (rm : Bool) (l : List (Int × FidD)) : List (Int × FidD) := if openE n l = 0 then aset n (openF ((agt n l).getD zFid) nd mode rm) l else l
end
section
attribute [local go_sem] F18.t7_eq F18.t4_eq
theorem open_any {w0 w : World} {F : HP} {B : Nat} {most n nd md : Int} {rm : Bool} {l : List (Int × FidD)} (h : St w0 (TabP B most l * F) w) :
    Calls Try.prog 18 #[.pointer (some ⟨B, 0, none⟩), .int .u32 n, .int .u64 nd, .int .u8 md, .bool rm] w fun e w' => St w0 (TabP B most (openS n nd (and3 md) rm l) * F) w' ∧ e = .returned (.int .i64 (openE n l)) := by
  refine F18.calls (by simp) ?_
  unfold F18.code
  obtain ⟨m, ps, hps, h3⟩ := TabP.open h
  have hag : agt n l = (agt n ps).map (·.2) := by rw [← hps, agt_amap]
  simp -dsimp -implicitDefEqProofs (disch := omega) only [go_sem, h3.cl B]
  refine h3.lkH (b := m) Try.underlying86 lawU zeroV_fid ?_
  rw [lk_amap, lkV_get]
  simp -dsimp -implicitDefEqProofs (disch := omega) only [go_sem]
  refine h3.new fun X w4 h4 => ?_
  simp -dsimp -implicitDefEqProofs (disch := omega) only [go_sem]
  cases hk : agt n ps with
  | none =>
    rw [hk] at hag
    simp only [Option.getD_none, Option.isSome_none]
    refine h4.stoAll (cs := fdC zF zFid) rfl rfl (fdC_cells rfl) fun w5 h5 => ?_
    simp -dsimp -implicitDefEqProofs (disch := omega) only [go_sem]
    have hE : openE n l = 100 := by simp [openE, hag]
    have hS : openS n nd (and3 md) rm l = l := by simp [openS, hE]
    rw [hS, hE]
    have h6 := TabP.col (B := B) (m := m) (most := most) h5 hps
    exact ⟨h6.sub, rfl⟩
  | some u =>
    obtain ⟨v, f⟩ := u
    rw [hk] at hag
    simp only [Option.map_some] at hag
    have hu : Okf (v, f) := hearts_cell hk (h3.take (.blk B)).right.sw2
    simp only [Option.getD_some, Option.isSome_some]
    refine h4.stoAll (cs := fdC v f) rfl rfl (fdC_cells hu.1) fun w5 h5 => ?_
    have hrow5 := h5.rowH X 14 rfl
    simp -dsimp -implicitDefEqProofs (disch := omega) only [go_sem, hrow5]
    refine (shut_any (p := (v, f)) h5).mono ?_
    rintro e w6 ⟨h6, rfl⟩
    have hE : openE n l = shutE f := by simp [openE, hag]
    by_cases q2 : shutE f = 0
    · have h6 := h6.drew
      have hB6 := h6.cl B
      have hX6 := h6.cl X
      simp only [fdC] at hX6
      simp -dsimp -implicitDefEqProofs (disch := omega) only [go_sem, q2, hB6, hX6]
      refine onV_of (v := fdV (zF, openF f nd (and3 md) rm)) rfl ?_
      simp -dsimp -implicitDefEqProofs (disch := omega) only [go_sem, hB6, hX6]
      refine h6.updH (b := m) Try.underlying86 lawU fun w7 h7 => ?_
      have hB7 := h7.cl B
      have hX7 := h7.cl X
      simp only [fdC] at hX7
      simp -dsimp -implicitDefEqProofs (disch := omega) only [go_sem, hB7, hX7]
      have h7' := h7.nilHeard (f := openF f nd (and3 md) rm) rfl
      have h8 := TabP.put (B := B) (m := m) (most := most) (n := n) (v := zF) (f := openF f nd (and3 md) rm) h7' hps ⟨rfl, by simp [openF, zFid]⟩
      have hS : openS n nd (and3 md) rm l = aset n (openF f nd (and3 md) rm) l := by simp [openS, hE, q2, hag]
      rw [hS, hE, q2]
      exact ⟨h8.sub, rfl⟩
    · simp -dsimp -implicitDefEqProofs (disch := omega) only [go_sem, q2]
      have hS : openS n nd (and3 md) rm l = l := by simp [openS, hE, q2]
      rw [hS, hE]
      have h8 := TabP.col (B := B) (m := m) (most := most) h6 hps
      exact ⟨h8.sub, rfl⟩
def toldE (n : Int) (l : List (Int × FidD)) : Int := if (agt n l).isSome = true then (if ((agt n l).getD zFid).st = 2 then 0 else 117) else 100
def toldS (n last told : Int) (l : List (Int × FidD)) : List (Int × FidD) := if toldE n l = 0 then aset n (toldF ((agt n l).getD zFid) last told) l else l
theorem hearts_same {w0 w : World} {ps : FPs} {n : Int} {v : Value} {f g : FidD} {A : HP} (hk : agt n ps = some (v, f)) (hg : g.heard = f.heard) (h : St w0 (hearts ps * A) w) : St w0 (hearts (aset n (v, g) ps) * A) w := by
  rw [hearts_at hk] at h
  rw [hearts_set hk]
  have e : HP.fact (Okf (v, g)) (HeardP (v, g)) = HP.fact (Okf (v, f)) (HeardP (v, f)) := by
    unfold Okf
    show HP.fact (_ ∧ g.heard.length < _) (RowO _ 1 v g.heard.length (byR g.heard)) = _
    rw [hg]
  rw [e]
  exact h
end
section
attribute [local go_sem] F35.t6_eq F35.t4_eq
theorem toldF_any {w0 w : World} {F : HP} {B : Nat} {most n last told : Int} {l : List (Int × FidD)} (h : St w0 (TabP B most l * F) w) :
    Calls Try.prog 35 #[.pointer (some ⟨B, 0, none⟩), .int .u32 n, .int .u64 last, .int .u64 told] w fun e w' => St w0 (TabP B most (toldS n last told l) * F) w' ∧ e = .returned (.int .i64 (toldE n l)) := by
  refine F35.calls (by simp) ?_
  unfold F35.code
  obtain ⟨m, ps, hps, h3⟩ := TabP.open h
  have hag : agt n l = (agt n ps).map (·.2) := by rw [← hps, agt_amap]
  simp -dsimp -implicitDefEqProofs (disch := omega) only [go_sem, h3.cl B]
  refine h3.lkH (b := m) Try.underlying86 lawU zeroV_fid ?_
  rw [lk_amap, lkV_get]
  simp -dsimp -implicitDefEqProofs (disch := omega) only [go_sem]
  refine h3.new fun X w4 h4 => ?_
  simp -dsimp -implicitDefEqProofs (disch := omega) only [go_sem]
  cases hk : agt n ps with
  | none =>
    rw [hk] at hag
    simp only [Option.getD_none, Option.isSome_none]
    refine h4.stoAll (cs := fdC zF zFid) rfl rfl (fdC_cells rfl) fun w5 h5 => ?_
    simp -dsimp -implicitDefEqProofs (disch := omega) only [go_sem]
    have hE : toldE n l = 100 := by simp [toldE, hag]
    have hS : toldS n last told l = l := by simp [toldS, hE]
    rw [hS, hE]
    have h6 := TabP.col (B := B) (m := m) (most := most) h5 hps
    exact ⟨h6.sub, rfl⟩
  | some u =>
    obtain ⟨v, f⟩ := u
    rw [hk] at hag
    simp only [Option.map_some] at hag
    have hu : Okf (v, f) := hearts_cell hk (h3.take (.blk B)).right.sw2
    simp only [Option.getD_some, Option.isSome_some]
    refine h4.stoAll (cs := fdC v f) rfl rfl (fdC_cells hu.1) fun w5 h5 => ?_
    have hc5 := h5.cl X
    simp only [fdC] at hc5
    by_cases q : f.st = 2
    · simp -dsimp -implicitDefEqProofs (disch := omega) only [go_sem, hc5, q]
      refine h5.sto (b := X) (off := 5) (by simp [fdC]) rfl fun w6 h6 => ?_
      simp -dsimp -implicitDefEqProofs (disch := omega) only [go_sem]
      refine h6.sto (b := X) (off := 6) (by simp [fdC]) rfl fun w7 h7 => ?_
      have h7 := h7.drew
      have h7' : St w0 (Blk X (fidB v (toldF f last told)) * (Blk B (tabB most m) * (MapP encU m (amap fdV ps) * (hearts ps * F)))) w7.drew := h7
      have hB7 := h7'.cl B
      have hX7 := h7'.rowH X 14 rfl
      simp -dsimp -implicitDefEqProofs (disch := omega) only [go_sem, hB7, hX7]
      refine h7'.updH (b := m) Try.underlying86 lawU fun w8 h8 => ?_
      have hB8 := h8.cl B
      have hX8 := h8.rowH X 14 rfl
      simp -dsimp -implicitDefEqProofs (disch := omega) only [go_sem, hB8, hX8]
      have hE : toldE n l = 0 := by simp [toldE, hag, q]
      have hS : toldS n last told l = aset n (toldF f last told) l := by simp [toldS, hE, hag]
      rw [hS, hE]
      rw [show upd n (Value.agg (fdC v (toldF f last told)).toArray) (amap fdV ps) = amap fdV (aset n (v, toldF f last told) ps) from upd_amap fdV n (v, toldF f last told) ps] at h8
      have h9 := hearts_same (g := toldF f last told) hk rfl (h8.ac (by ac_rfl : _ = hearts ps * (Blk B (tabB most m) * (MapP encU m (amap fdV (aset n (v, toldF f last told) ps)) * (Blk X (fidB v (toldF f last told)) * F)))))
      have e : amap (·.2) (aset n (v, toldF f last told) ps) = aset n (toldF f last told) l := by rw [← hps]; exact (aset_amap (fun x : HF => x.2) n (v, toldF f last told) ps).symm
      have h10 := TabP.col (B := B) (m := m) (most := most) h9 e
      exact ⟨h10.sub, rfl⟩
    · simp -dsimp -implicitDefEqProofs (disch := omega) only [go_sem, hc5, q]
      have hE : toldE n l = 117 := by simp [toldE, hag, q]
      have hS : toldS n last told l = l := by simp [toldS, hE]
      rw [hS, hE]
      have h6 := TabP.col (B := B) (m := m) (most := most) h5 hps
      exact ⟨h6.sub, rfl⟩
def opensN (nd : Int) (l : List (Int × FidD)) : Nat := l.countP fun x => decide (x.2.st = 2) && decide (x.2.nd = nd)
theorem opensN_perm {nd : Int} {l l' : List (Int × FidD)} (h : l.Perm l') : opensN nd l = opensN nd l' := h.countP_eq _
theorem amap_perm {α β κ : Type} (f : α → β) {l l' : List (κ × α)} (h : l.Perm l') : (amap f l).Perm (amap f l') := h.map _
end
section
attribute [local go_sem] F19.t4_eq F19.t7_eq
theorem opens_any {w0 w : World} {F : HP} {B : Nat} {most nd : Int} {l : List (Int × FidD)} (h : St w0 (TabP B most l * F) w) (hl : l.length < 1099511627776) :
    Calls Try.prog 19 #[.pointer (some ⟨B, 0, none⟩), .int .u64 nd] w fun e w' => St w0 (TabP B most l * F) w' ∧ e = .returned (.int .i64 (opensN nd l)) := by
  refine F19.calls (by simp) ?_
  unfold F19.code
  obtain ⟨m, ps, hps, h3⟩ := TabP.open h
  simp -dsimp -implicitDefEqProofs (disch := omega) only [go_sem, h3.cl B]
  refine h3.rangeH (b := m) Try.underlying86 fun r w4 h4 => ?_
  simp -dsimp -implicitDefEqProofs (disch := omega) only [go_sem]
  refine loop_intro (fun e w' => e.ds = [] ∧ e.ρ 1 = .int .u64 nd ∧ e.ρ 12 = .pointer (some ⟨r, 0, none⟩) ∧ ∃ (done left : FPs), (done ++ left).Perm ps ∧ e.ρ 5 = .int .i64 (opensN nd (amap (·.2) done)) ∧ St w0 (Blk B (tabB most m) * (IterP encU m r (amap fdV ps) (amap fdV left) * (hearts ps * F))) w')
    (fun _ w => iterLeft m r w) ?_ ?_
  · exact ⟨rfl, by simp -dsimp -implicitDefEqProofs only [go_sem], by simp -dsimp -implicitDefEqProofs only [go_sem], [], ps, by simp, by (simp -dsimp -implicitDefEqProofs only [go_sem]); rfl, h4⟩
  rintro e w5 ⟨hd, e1, e12, done, left, hp, e5, h5⟩
  have hleft := h5.iterLeft m
  simp -dsimp -implicitDefEqProofs (disch := omega) only [go_sem, hd, e1, e12, e5]
  refine h5.nextP (lf := left) m (fun hnil => ?_) fun x rest w6 hxr h6 => ?_
  · subst hnil
    simp -dsimp -implicitDefEqProofs (disch := omega) only [go_sem, hd, e1, e12, e5]
    have h7 := h5.iterEnd m
    have h8 := TabP.col (B := B) (m := m) (most := most) h7 hps
    have hN : opensN nd l = opensN nd (amap (·.2) done) := by rw [← hps]; exact opensN_perm (amap_perm _ (by simpa using hp.symm))
    rw [hN]
    exact ⟨h8.sub, rfl⟩
  obtain ⟨k, v, f⟩ := x
  simp -dsimp -implicitDefEqProofs (disch := omega) only [go_sem, hd, e1, e12, e5]
  refine h6.entryH m ?_
  simp -dsimp -implicitDefEqProofs (disch := omega) only [go_sem, hd, e1, e12, e5]
  refine h6.new fun X w7 h7 => ?_
  have hx : ps.Perm ((k, (v, f)) :: (done ++ rest)) := hp.symm.trans ((List.Perm.append_left done hxr.symm).trans List.perm_middle)
  have hu : Okf (v, f) := by
    have hmem : (k, (v, f)) ∈ ps := hx.symm.subset List.mem_cons_self
    have hag : agt k ps = some (v, f) := agt_of_mem (by rw [← amap_keys fdV]; exact h3.mapNodup m) hmem
    exact hearts_cell hag h7.right.right.right
  simp -dsimp -implicitDefEqProofs (disch := omega) only [go_sem]
  refine h7.stoAll (b := X) (cs := fdC v f) rfl rfl (fdC_cells hu.1) fun w8 h8 => ?_
  have hc8 := h8.cl X
  simp only [fdC] at hc8
  have h9 := h8.right.iterDone m
  have hl5 := h9.iterLeft m
  have hel : rest.length + 1 = left.length := by have := hxr.length_eq; simpa using this
  have hla : ∀ q : FPs, (amap fdV q).length = q.length := fun q => by simp [amap]
  have hpm : (done ++ [(k, (v, f))] ++ rest).Perm ps := by
    refine List.Perm.trans ?_ hp
    rw [List.append_assoc]
    exact List.Perm.append_left done hxr
  have hbnd : opensN nd (amap (·.2) done) < 1099511627776 := by
    have h1 : opensN nd (amap (·.2) done) ≤ (amap (fun x : HF => x.2) done).length := List.countP_le_length
    have h2 : (amap (fun x : HF => x.2) done).length = done.length := by simp [amap]
    have h3 := hp.length_eq
    have h4 : l.length = ps.length := by rw [← hps]; simp [amap]
    rw [List.length_append] at h3
    omega
  have hcnt : opensN nd (amap (·.2) (done ++ [(k, (v, f))])) = opensN nd (amap (·.2) done) + (if f.st = 2 ∧ f.nd = nd then 1 else 0) := by
    simp only [opensN, amap, List.map_append, List.countP_append, List.map_cons, List.map_nil, List.countP_cons, List.countP_nil]
    by_cases a1 : f.st = 2 <;> by_cases a2 : f.nd = nd <;> simp [a1, a2]
  by_cases q1 : f.st = 2
  · by_cases q2 : f.nd = nd
    · simp -dsimp -implicitDefEqProofs (disch := omega) only [go_sem, hd, e1, e12, e5, hc8, q1, q2]
      refine ⟨⟨done ++ [(k, (v, f))], rest, hpm, ?_, h9⟩, ?_⟩
      · rw [hcnt, if_pos ⟨q1, q2⟩]; push_cast; rfl
      · rw [hl5, hleft, hla, hla]; omega
    · simp -dsimp -implicitDefEqProofs (disch := omega) only [go_sem, hd, e1, e12, e5, hc8, q1, q2]
      refine ⟨⟨done ++ [(k, (v, f))], rest, hpm, ?_, h9⟩, ?_⟩
      · rw [hcnt, if_neg (fun h => q2 h.2)]; rfl
      · rw [hl5, hleft, hla, hla]; omega
  · simp -dsimp -implicitDefEqProofs (disch := omega) only [go_sem, hd, e1, e12, e5, hc8, q1]
    refine ⟨⟨done ++ [(k, (v, f))], rest, hpm, ?_, h9⟩, ?_⟩
    · rw [hcnt, if_neg (fun h => q1 h.1)]; rfl
    · rw [hl5, hleft, hla, hla]; omega
end
theorem EmpH.of {w0 w : World} {A : HP} (h : St w0 A w) : St w0 (EmpH * A) w := h.ent (Ent.empL _)
def PassK (x : Int) (args : Array Value) : HP := HP.fact (args = #[encU x]) EmpH
def AccK (S : Nat) (l : List Int) : HP := HP.ex fun v => Blk S (.cells #[v] 32 (0, 0)) * RowO 35 1 v l.length (l.map encU)
def NoneH : HP := HP.fact False EmpH
section
attribute [local go_sem] F74.t4_eq
theorem appSeq_any {w0 w : World} {F G' : HP} {gf : Nat} {lb : Array Value} {Ok S' : List Int → Prop} (h : St w0 F w) (hf : fnOk Try.prog gf = true)
    (hcall : IterOk Try.prog w0 gf lb PassK Ok S' F G') (hOk : ∀ l, Ok l → l.length ≤ 1099511627776) :
    Calls Try.prog 74 #[.slice none 0 0, .func (.func gf) #[] lb] w fun e w' => ∃ v l, S' l ∧ St w0 (RowO 35 1 v l.length (l.map encU) * G') w' ∧ e = .returned v := by
  refine F74.calls (by simp) ?_
  unfold F74.code
  simp -dsimp -implicitDefEqProofs (disch := omega) only [go_sem]
  refine h.new fun S w1 h1 => ?_
  simp -dsimp -implicitDefEqProofs (disch := omega) only [go_sem]
  refine range_intro (F := Blk S (.cells #[.slice none 0 0] 32 (0, 0)) * F) h1 (gf := gf) (lb := lb) (by simp -dsimp -implicitDefEqProofs only [go_sem]) hf (Pass := PassK) (fun pre => AccK S pre) (fun _ _ => NoneH) ?_ ?_ hcall ?_ ?_
  · refine Ent.sep ?_ (Ent.rfl' _)
    refine (Ent.nilRowO 35 1 _).trans ?_
    refine (Ent.of_eq (sep_comm _ _)).trans ?_
    exact Ent.ex (fun v => Blk S (.cells #[v] 32 (0, 0)) * RowO 35 1 v ([] : List Int).length (([] : List Int).map encU)) (.slice none 0 0)
  · intro l pre x args G W1 hok h1
    obtain ⟨rfl, _⟩ := (h1.sw2).factF
    refine ⟨rfl, ?_⟩
    unfold F74.a0
    simp -dsimp -implicitDefEqProofs only [go_sem]
    refine ⟨h1, fun G2 W2 hl h2 => ?_⟩
    obtain ⟨v, h3⟩ := h2.exF
    have h4 : St w0 (Blk S (.cells #[v] 32 (0, 0)) * (RowO 35 1 v pre.length (pre.map encU) * G2)) W2 := (h3.ac (show _ = PassK x #[encU x] * (Blk S (.cells #[v] 32 (0, 0)) * (RowO 35 1 v pre.length (pre.map encU) * G2)) by ac_rfl)).right
    have hc := h4.cl S
    unfold F74.b0
    have hb := hOk _ hok
    rw [List.length_append] at hb
    simp only [List.length_cons, List.length_nil] at hb
    simp -dsimp -implicitDefEqProofs (disch := omega) only [go_sem, List.toList_toArray, hc]
    refine h4.lit (n := 1) (cells := [encU x]) fact_rowTy_32 rfl (by decide) (by decide) fun v1 w3 h5 => ?_
    simp -dsimp -implicitDefEqProofs (disch := omega) only [go_sem]
    refine h5.appR (v := v) (x := v1) fact_rowTy_32 Try.underlying32 (fun u hu => by simp only [List.mem_singleton] at hu; subst hu; rfl) (fun h => by simp at h) (show _ ≤ 9223372036854775807 by omega) (by omega) fun v2 w4 h6 => ?_
    obtain ⟨a2, c2, rfl, _⟩ := h6.rowForm v2
    simp -dsimp -implicitDefEqProofs (disch := omega) only [go_sem]
    refine h6.sto (b := S) (off := 0) (by simp) rfl fun w5 h7 => ?_
    simp -dsimp -implicitDefEqProofs (disch := omega) only [go_sem]
    have h8 : St w0 (RowO 35 1 v1 1 [encU x] * ((Blk S (.cells #[.slice a2 (pre.length + 1) c2] 32 (0, 0)) * RowO 35 1 (.slice a2 (pre.length + 1) c2) (pre ++ [x]).length ((pre ++ [x]).map encU)) * G2)) w5 := h7.ac (by rw [List.length_append, List.map_append]; ac_rfl)
    exact h8.right.ent (Ent.sep (Ent.ex (fun v => Blk S (.cells #[v] 32 (0, 0)) * RowO 35 1 v (pre ++ [x]).length ((pre ++ [x]).map encU)) _) (Ent.rfl' _))
  · intro D xs w' hS h1
    obtain ⟨v, h2⟩ := h1.sw2.exF
    have h3 : St w0 (Blk D (.deferred (some [])) * (Blk S (.cells #[v] 32 (0, 0)) * (RowO 35 1 v xs.length (xs.map encU) * G'))) w' := h2.ac (by ac_rfl)
    obtain ⟨a, c, rfl, _⟩ := h3.rowForm v
    have hc := h3.cl S
    simp -dsimp -implicitDefEqProofs (disch := omega) only [go_sem, hc]
    refine St.mark1 h3 fun w3 h4 => ?_
    exact ⟨_, _, hS, h4.right.right, rfl⟩
  · intro D cd pre w' h1
    exact ((h1.sw2).factF).1.elim
end
theorem collect_any {w0 w : World} {F G' : HP} {gf : Nat} {lb : Array Value} {Ok S' : List Int → Prop} (h : St w0 F w) (hf : fnOk Try.prog gf = true)
    (hcall : IterOk Try.prog w0 gf lb PassK Ok S' F G') (hOk : ∀ l, Ok l → l.length ≤ 1099511627776) :
    Calls Try.prog 69 #[.func (.func gf) #[] lb] w fun e w' => ∃ v l, S' l ∧ St w0 (RowO 35 1 v l.length (l.map encU) * G') w' ∧ e = .returned v := by
  refine F69.calls (by simp) ?_
  unfold F69.code
  simp -dsimp -implicitDefEqProofs (disch := omega) only [go_sem]
  refine (appSeq_any h hf hcall hOk).mono ?_
  rintro e w1 ⟨v, l, hS, h1, rfl⟩
  simp -dsimp -implicitDefEqProofs (disch := omega) only [go_sem]
  exact ⟨_, _, hS, h1, rfl⟩
abbrev srt (l : List Int) : List Int := l.mergeSort fun x y => decide (x ≤ y)
theorem sorted_any {w0 w : World} {F G' : HP} {gf : Nat} {lb : Array Value} {Ok S' : List Int → Prop} (h : St w0 F w) (hf : fnOk Try.prog gf = true)
    (hcall : IterOk Try.prog w0 gf lb PassK Ok S' F G') (hOk : ∀ l, Ok l → l.length ≤ 1099511627776) (hS' : ∀ l, S' l → l.length ≤ 1099511627776) :
    Calls Try.prog 55 #[.func (.func gf) #[] lb] w fun e w' => ∃ v l, S' l ∧ St w0 (RowO 35 1 v (srt l).length ((srt l).map encU) * G') w' ∧ e = .returned v := by
  refine F55.calls (by simp) ?_
  unfold F55.code
  simp -dsimp -implicitDefEqProofs (disch := omega) only [go_sem]
  refine (collect_any h hf hcall hOk).mono ?_
  rintro e w1 ⟨v, l, hS, h1, rfl⟩
  have hl := hS' l hS
  simp -dsimp -implicitDefEqProofs (disch := omega) only [go_sem]
  refine (sortW_any h1 (by omega)).mono ?_
  rintro e w2 ⟨h2, rfl⟩
  simp -dsimp -implicitDefEqProofs (disch := omega) only [go_sem]
  refine ⟨v, l, hS, ?_, rfl⟩
  have : (srt l).length = l.length := List.length_mergeSort l
  rw [this]
  exact h2
def KeysB (K m : Nat) (ps : FPs) : HP := Blk K (.cells #[.map (some m)] 86 (0, 0)) * MapP encU m (amap fdV ps)
theorem keys_any {w0 w : World} {F : HP} {m : Nat} (h : St w0 F w) :
    Calls Try.prog 56 #[.map (some m)] w fun e w' => ∃ K, St w0 (Blk K (.cells #[.map (some m)] 86 (0, 0)) * F) w' ∧ e = .returned (.func (.func 71) #[] #[.pointer (some ⟨K, 0, none⟩)]) := by
  refine F56.calls (by simp) ?_
  unfold F56.code
  simp -dsimp -implicitDefEqProofs (disch := omega) only [go_sem]
  refine h.new fun K w1 h1 => ?_
  simp -dsimp -implicitDefEqProofs (disch := omega) only [go_sem]
  exact ⟨K, h1, rfl⟩
section
attribute [local go_sem] F71.t2_eq
theorem keysIter {w0 : World} {K m : Nat} {ps : FPs} {R : HP} :
    IterOk Try.prog w0 71 #[.pointer (some ⟨K, 0, none⟩)] PassK (fun pre => ∃ post, (pre ++ post).Perm (ps.map (·.1))) (fun xs => xs.Perm (ps.map (·.1))) (KeysB K m ps * R) (KeysB K m ps * R) := by
  intro l w1 J X hy h
  show Calls _ 71 #[.func (.yield l) #[] #[], .pointer (some ⟨K, 0, none⟩)] w1 _
  have h1 : St w0 (Blk K (.cells #[.map (some m)] 86 (0, 0)) * (MapP encU m (amap fdV ps) * (J [] * R))) w1 := h.ac (by unfold KeysB; ac_rfl)
  refine F71.calls (by simp) ?_
  unfold F71.code
  simp -dsimp -implicitDefEqProofs (disch := omega) only [go_sem, h1.cl K]
  refine h1.rangeH (b := m) Try.underlying86 fun r w4 h4 => ?_
  simp -dsimp -implicitDefEqProofs (disch := omega) only [go_sem]
  refine loop_intro (fun e w' => e.ds = [] ∧ e.ρ 0 = .func (.yield l) #[] #[] ∧ e.ρ 5 = .pointer (some ⟨r, 0, none⟩) ∧ ∃ (done left : FPs), (done ++ left).Perm ps ∧ St w0 (Blk K (.cells #[.map (some m)] 86 (0, 0)) * (IterP encU m r (amap fdV ps) (amap fdV left) * (J (done.map (·.1)) * R))) w')
    (fun _ w => iterLeft m r w) ?_ ?_
  · exact ⟨rfl, by simp -dsimp -implicitDefEqProofs only [go_sem], by simp -dsimp -implicitDefEqProofs only [go_sem], [], ps, by simp, h4⟩
  rintro e w5 ⟨hd, e0, e5, done, left, hp, h5⟩
  have hleft := h5.iterLeft m
  simp -dsimp -implicitDefEqProofs (disch := omega) only [go_sem, hd, e0, e5]
  refine h5.nextP (lf := left) m (fun hnil => ?_) fun x rest w6 hxr h6 => ?_
  · subst hnil
    simp -dsimp -implicitDefEqProofs (disch := omega) only [go_sem, hd, e0, e5]
    have h7 := h5.iterEnd m
    exact ⟨⟨_, rfl⟩, .inl ⟨done.map (·.1), by simpa using hp.map (·.1), h7.ac (by unfold KeysB; ac_rfl)⟩⟩
  obtain ⟨k, p⟩ := x
  simp -dsimp -implicitDefEqProofs (disch := omega) only [go_sem, hd, e0, e5]
  refine h6.entryH m ?_
  simp -dsimp -implicitDefEqProofs (disch := omega) only [go_sem, hd, e0, e5]
  have hpm : (done ++ [(k, p)] ++ rest).Perm ps := by
    refine List.Perm.trans ?_ hp
    rw [List.append_assoc]
    exact List.Perm.append_left done hxr
  have h7 : St w0 (J (done.map (·.1)) * (PassK k #[encU k] * (Blk K (.cells #[.map (some m)] 86 (0, 0)) * (IterAt encU m r (amap fdV ps) (amap fdV rest) k (fdV p) * R)))) w6 :=
    (EmpH.of h6).ent (Ent.sep (Ent.fact rfl _) (Ent.rfl' _)) |>.ac (by unfold PassK; ac_rfl)
  refine (hy _ _ _ _ _ ⟨rest.map (·.1), by simpa using hpm.map (·.1)⟩ h7).mono ?_
  have hla : ∀ q : FPs, (amap fdV q).length = q.length := fun q => by simp [amap]
  have hel : rest.length + 1 = left.length := by have := hxr.length_eq; simpa using this
  rintro e' w7 (⟨rfl, h8⟩ | ⟨rfl, h8⟩)
  · simp -dsimp -implicitDefEqProofs only [go_sem, hd, e0, e5]
    have h9 := h8.iterDone m
    have hl5 := h9.iterLeft m
    refine ⟨⟨done ++ [(k, p)], rest, hpm, ?_⟩, ?_⟩
    · rw [List.map_append]; exact h9.ac (by simp only [List.map_cons, List.map_nil]; ac_rfl)
    · rw [hl5, hleft, hla, hla]; omega
  · simp -dsimp -implicitDefEqProofs only [go_sem, hd, e0, e5]
    have h9 := (h8.iterDone m).iterEnd m
    exact ⟨⟨_, rfl⟩, .inr ⟨_, h9.ac (by unfold KeysB; ac_rfl)⟩⟩
end
def atC (x : Int × HF) : List Value := .int .u32 x.1 :: fdC x.2.1 x.2.2
theorem atC_length (x : Int × HF) : (atC x).length = 15 := rfl
theorem atC_cells {x : Int × HF} (h : isCell x.2.1 = true) : ∀ v ∈ atC x, isCell v = true := by
  intro v hv
  rcases List.mem_cons.1 hv with rfl | hv
  · rfl
  · exact fdC_cells h v hv
theorem srt_perm (l : List Int) : (srt l).Perm l := List.mergeSort_perm l _
theorem srt_sorted (l : List Int) : (srt l).Pairwise (· ≤ ·) := by
  have := List.pairwise_mergeSort (le := fun x y : Int => decide (x ≤ y)) (fun a b c h1 h2 => by simp at *; omega) (fun a b => by simp; omega) l
  exact this.imp fun h => by simpa using h
theorem srt_of_perm {l l' : List Int} (h : l.Perm l') : srt l = srt l' :=
  perm_sorted_unique (r := fun x y : Int => x ≤ y) (fun x _ y _ h1 h2 => Int.le_antisymm h1 h2) (((srt_perm l).trans h).trans (srt_perm l').symm) (srt_sorted l) (srt_sorted l') (fun x _ => Int.le_refl x)
def sortK (l : List (Int × FidD)) : List (Int × FidD) := (srt (l.map (·.1))).map fun n => (n, (agt n l).getD zFid)
theorem sortK_length (l : List (Int × FidD)) : (sortK l).length = l.length := by simp [sortK, srt]
theorem sortK_keys (l : List (Int × FidD)) : (sortK l).map (·.1) = srt (l.map (·.1)) := by simp [sortK, List.map_map, Function.comp_def]
theorem stars_append {κ α : Type} {w0 w : World} {F : HP} (A : κ × α → HP) : ∀ (l l' : List (κ × α)), St w0 (stars A (l ++ l') * F) w ↔ St w0 (stars A l * (stars A l' * F)) w
  | [], l' => by
    constructor
    · intro h
      exact h.ent (Ent.trans (by
        have : Ent (stars A l' * F) (EmpH * (stars A l' * F)) := Ent.empL _
        exact this) (Ent.rfl' _))
    · intro h; exact h.right
  | x :: l, l' => by
    have ih := fun F' => stars_append (w0 := w0) (w := w) (F := F') A l l'
    constructor
    · intro h
      have h1 : St w0 (stars A (l ++ l') * (A x * F)) w := h.ac (by show A x * stars A (l ++ l') * F = _; ac_rfl)
      exact ((ih _).1 h1).ac (by show _ = A x * stars A l * _; ac_rfl)
    · intro h
      have h1 : St w0 (stars A l * (stars A l' * (A x * F))) w := h.ac (by show A x * stars A l * _ = _; ac_rfl)
      exact ((ih _).2 h1).ac (by show _ = A x * stars A (l ++ l') * F; ac_rfl)
theorem hearts_snoc {w0 w : World} {qs : FPs} {x : Int × HF} {F : HP} (hx : Okf x.2) (h : St w0 (HeardP x.2 * (hearts qs * F)) w) : St w0 (hearts (qs ++ [x]) * F) w := by
  refine (stars_append _ qs [x]).2 ?_
  have h1 : St w0 (EmpH * (HeardP x.2 * (hearts qs * F))) w := EmpH.of h
  have h2 : St w0 (HeardP x.2 * (EmpH * (hearts qs * F))) w := h1.ac (by ac_rfl)
  have h3 := h2.ent (Ent.sep (Ent.fact hx (HeardP x.2)) (Ent.rfl' _))
  exact h3.ac (by show _ = hearts qs * ((HP.fact (Okf x.2) (HeardP x.2) * EmpH) * F); ac_rfl)
theorem hearts_cons {w0 w : World} {qs : FPs} {x : Int × HF} {F : HP} (h : St w0 (hearts (x :: qs) * F) w) : Okf x.2 ∧ St w0 (HeardP x.2 * (hearts qs * F)) w := by
  have h1 : St w0 (HP.fact (Okf x.2) (HeardP x.2) * (hearts qs * F)) w := h.ac (by show HP.fact (Okf x.2) (HeardP x.2) * hearts qs * F = _; ac_rfl)
  exact h1.factF
def AtP (v : Value) (qs : FPs) : HP := RowO 48 15 v qs.length (qs.flatMap atC) * hearts qs
section
attribute [local go_sem] F38.t6_eq F38.t4_eq F38.t7_eq
theorem list_any {w0 w : World} {F : HP} {B : Nat} {most : Int} {l : List (Int × FidD)} (h : St w0 (TabP B most l * F) w) (hl : l.length ≤ 1048576) :
    Calls Try.prog 38 #[.pointer (some ⟨B, 0, none⟩)] w fun e w' => ∃ v qs, amap (·.2) qs = sortK l ∧ St w0 (AtP v qs * (TabP B most l * F)) w' ∧ e = .returned v := by
  obtain ⟨m, ps, hps, h1⟩ := TabP.open h
  have hlen : ps.length = l.length := by rw [← hps]; simp [amap]
  have hkeys : ps.map (·.1) = l.map (·.1) := by rw [← hps, amap_keys]
  refine F38.calls (by simp) ?_
  unfold F38.code
  simp -dsimp -implicitDefEqProofs (disch := omega) only [go_sem, h1.cl B]
  refine h1.lenH (b := m) Try.underlying86 ?_
  have hl2 : (amap fdV ps).length = l.length := by rw [← hlen]; simp [amap]
  rw [hl2]
  simp -dsimp -implicitDefEqProofs (disch := omega) only [go_sem]
  refine h1.make0 fact_rowTy_28 (by omega) (by omega) (by omega) fun v1 w2 h2 => ?_
  simp -dsimp -implicitDefEqProofs (disch := omega) only [go_sem, h2.cl B]
  refine (keys_any h2).mono ?_
  rintro e w3 ⟨K, h3, rfl⟩
  simp -dsimp -implicitDefEqProofs (disch := omega) only [go_sem]
  have hnd : (ps.map (·.1)).Nodup := by rw [← amap_keys fdV]; exact h1.mapNodup m
  have h4 : St w0 (KeysB K m ps * (RowO 48 15 v1 0 [] * (Blk B (tabB most m) * (hearts ps * F)))) w3 := h3.ac (by unfold KeysB; ac_rfl)
  refine (sorted_any (S' := fun xs => xs.Perm (ps.map (·.1))) h4 fact_fnOk_71 keysIter (fun l' ⟨post, hp⟩ => by
      have := hp.length_eq
      rw [List.length_append, List.length_map] at this
      omega) (fun l' hp => by
      have := hp.length_eq
      rw [List.length_map] at this
      omega)).mono ?_
  rintro e w5 ⟨vk, xs, hxs, h5, rfl⟩
  have hsr : srt xs = srt (l.map (·.1)) := by rw [← hkeys]; exact srt_of_perm hxs
  rw [hsr] at h5
  obtain ⟨ks, hks⟩ : ∃ ks, ks = srt (l.map (·.1)) := ⟨_, rfl⟩
  have hkl : ks.length = l.length := by rw [hks]; simp [srt]
  rw [← hks] at h5
  have hag : ∀ n, agt n l = (agt n ps).map (·.2) := fun n => by rw [← hps, agt_amap]
  have hin : ∀ i (hi : i < ks.length), ∃ p, agt ks[i] ps = some p := by
    intro i hi
    have hall : ∀ x ∈ ks, x ∈ l.map (·.1) := by rw [hks]; exact fun x hx => (srt_perm _).subset hx
    have h1 := hall _ (List.getElem_mem hi)
    rw [← hkeys] at h1
    have := agt_isSome_iff.2 h1
    exact Option.isSome_iff_exists.1 this
  have hsk : sortK l = ks.map fun n => (n, (agt n l).getD zFid) := by unfold sortK; rw [← hks]
  obtain ⟨ak, ck, rfl, hck, _, _⟩ := h5.rowForm vk
  simp -dsimp -implicitDefEqProofs (disch := omega) only [go_sem]
  have h6 : St w0 (RowO 48 15 v1 0 [] * (hearts [] * (RowO 35 1 (.slice ak ks.length ck) ks.length (ks.map encU) * (Blk B (tabB most m) * (MapP encU m (amap fdV ps) * (hearts ps * F)))))) w5 := by
    have h7 : St w0 (Blk K (.cells #[.map (some m)] 86 (0, 0)) * (RowO 48 15 v1 0 [] * (RowO 35 1 (.slice ak ks.length ck) ks.length (ks.map encU) * (Blk B (tabB most m) * (MapP encU m (amap fdV ps) * (hearts ps * F)))))) w5 := h5.ac (by unfold KeysB; ac_rfl)
    exact (EmpH.of h7.right).ac (by show _ = RowO 48 15 v1 0 [] * (EmpH * _); ac_rfl)
  refine loop_intro (fun e w' => e.ds = [] ∧ e.ρ 0 = .pointer (some ⟨B, 0, none⟩) ∧ e.ρ 17 = .slice ak ks.length ck ∧ e.ρ 18 = .int .i64 ks.length ∧ ∃ (i : Nat) (v : Value) (qs : FPs), i ≤ ks.length ∧ e.ρ 19 = .int .i64 i ∧ e.ρ 3 = v ∧ qs.length = i ∧ amap (·.2) qs = (sortK l).take i ∧
      St w0 (RowO 48 15 v i (qs.flatMap atC) * (hearts qs * (RowO 35 1 (.slice ak ks.length ck) ks.length (ks.map encU) * (Blk B (tabB most m) * (MapP encU m (amap fdV ps) * (hearts ps * F)))))) w')
    (fun e _ => match e.ρ 19 with | .int _ n => (ks.length - n).toNat | _ => 0) ?_ ?_
  · exact ⟨rfl, by simp -dsimp -implicitDefEqProofs only [go_sem], by simp -dsimp -implicitDefEqProofs only [go_sem], by simp -dsimp -implicitDefEqProofs only [go_sem], 0, v1, [], by omega, by simp -dsimp -implicitDefEqProofs only [go_sem], by simp -dsimp -implicitDefEqProofs only [go_sem], rfl, by simp [amap], h6⟩
  rintro e w7 ⟨hd, e0, e17, e18, i, v, qs, hi, e19, e3, hq, hqs, h7⟩
  by_cases hlt : (i : Int) < ks.length
  case neg =>
    have : i = ks.length := by omega
    subst this
    simp -dsimp -implicitDefEqProofs (disch := omega) only [go_sem, hd, e0, e17, e18, e19, e3, hlt]
    refine ⟨v, qs, ?_, ?_, rfl⟩
    · rw [hqs, List.take_of_length_le (by rw [sortK_length]; omega)]
    · have h8 := TabP.col (B := B) (m := m) (most := most) (ps := ps) (A := Blk B (tabB most m) * (MapP encU m (amap fdV ps) * (hearts ps * (RowO 48 15 v ks.length (qs.flatMap atC) * (hearts qs * (RowO 35 1 (.slice ak ks.length ck) ks.length (ks.map encU) * F)))))) (h7.ac (by ac_rfl)) hps
      have h9 : St w0 (RowO 35 1 (.slice ak ks.length ck) ks.length (ks.map encU) * ((RowO 48 15 v ks.length (qs.flatMap atC) * hearts qs) * (TabP B most l * F))) w7 := h8.ac (by ac_rfl)
      unfold AtP
      rw [hq]
      exact h9.right
  have hil : i < ks.length := by omega
  have hrd : Ent (RowO 48 15 v i (qs.flatMap atC) * (hearts qs * (RowO 35 1 (.slice ak ks.length ck) ks.length (ks.map encU) * (Blk B (tabB most m) * (MapP encU m (amap fdV ps) * (hearts ps * F)))))) (Reads 1 (.slice ak ks.length ck) ks.length (ks.map encU)) := (Ent.right _ _).trans ((Ent.right _ _).trans ((Ent.left _ _).trans (RowO.reads _ _ _ _ _)))
  obtain ⟨gk, ok, rfl, hcell⟩ : ∃ g o, ak = some ⟨g, o, none⟩ ∧ w7.cell? ⟨g, o + i, none⟩ = some (encU ks[i]) := by
    obtain ⟨a', c', hv, _, hr⟩ := ((h7.ent hrd).rd).form
    simp only [Value.slice.injEq, true_and] at hv
    obtain ⟨rfl, rfl⟩ := hv
    rcases hr with hr | ⟨b, o, rfl, hr⟩
    · have := congrArg List.length hr
      simp only [List.length_map, List.length_nil] at this
      omega
    · refine ⟨b, o, rfl, ?_⟩
      have := hr i (by simpa using hil)
      rw [this, List.getElem?_map, List.getElem?_eq_getElem hil]
      rfl
  obtain ⟨⟨vf, f⟩, hp⟩ := hin i hil
  have hu : Okf (vf, f) := hearts_cell hp (h7.right.right.right.right.right)
  simp -dsimp -implicitDefEqProofs (disch := omega) only [go_sem, hd, e0, e17, e18, e19, e3, hlt, hcell, h7.cl B]
  refine h7.lkH (b := m) Try.underlying86 lawU zeroV_fid ?_
  rw [lk_amap, lkV_get1, hp]
  simp only [Option.getD_some]
  simp -dsimp -implicitDefEqProofs (disch := omega) only [go_sem]
  refine (own_any (p := (vf, f)) h7 hu.1 ((Ent.right _ _).trans ((Ent.right _ _).trans ((Ent.right _ _).trans ((Ent.right _ _).trans ((Ent.right _ _).trans ((Ent.left _ _).trans (hearts_reads hp))))))) hu.2).mono ?_
  rintro e' w8 ⟨v', hv', h8, rfl⟩
  simp -dsimp -implicitDefEqProofs (disch := omega) only [go_sem, hd, e0, e17, e18, e19, e3, hlt]
  rw [show fdV (v', f) = .agg (fdC v' f).toArray from rfl]
  refine onV_of (v := .agg (atC (ks[i], (v', f))).toArray) rfl ?_
  simp -dsimp -implicitDefEqProofs (disch := omega) only [go_sem]
  refine h8.lit (n := 1) (cells := atC (ks[i], (v', f))) fact_rowTy_28 rfl (by decide) (by decide) fun v2 w9 h9 => ?_
  simp -dsimp -implicitDefEqProofs (disch := omega) only [go_sem, hd, e0, e17, e18, e19, e3, hlt]
  refine h9.appR (v := v) (x := v2) fact_rowTy_28 Try.underlying28 (atC_cells hv') (fun h => by simp [atC] at h) (show _ ≤ 9223372036854775807 by omega) (by omega) fun v3 w10 h10 => ?_
  obtain ⟨a3, c3, rfl, _⟩ := h10.rowForm v3
  simp -dsimp -implicitDefEqProofs (disch := omega) only [go_sem, hd, e0, e17, e18, e19, e3, hlt]
  refine ⟨⟨i + 1, _, qs ++ [(ks[i], (v', f))], by omega, by omega, rfl, by simp [hq], ?_, ?_⟩, by omega⟩
  · have hs : (sortK l).take (i + 1) = (sortK l).take i ++ [(ks[i], f)] := by
      have hil' : i < (sortK l).length := by rw [sortK_length]; omega
      rw [List.take_succ_eq_append_getElem hil']
      congr 1
      simp only [hsk, List.getElem_map]
      rw [hag, hp]
      rfl
    rw [hs, ← hqs]
    simp [amap]
  · have h11 : St w0 (HeardP (ks[i], (v', f)).2 * (hearts qs * (RowO 48 15 (.slice a3 (i + 1) c3) (i + 1) (qs.flatMap atC ++ atC (ks[i], (v', f))) * (RowO 35 1 (.slice (some ⟨gk, ok, none⟩) ks.length ck) ks.length (ks.map encU) * (Blk B (tabB most m) * (MapP encU m (amap fdV ps) * (hearts ps * F))))))) w10 :=
      (h10.ac (by show _ = RowO 48 15 v2 1 (atC (ks[i], (v', f))) * _; ac_rfl)).right
    have h12 := hearts_snoc ⟨hv', hu.2⟩ h11
    rw [List.flatMap_append, List.flatMap_cons, List.flatMap_nil, List.append_nil]
    exact h12.ac (by ac_rfl)
end
abbrev TL := List (Int × FidD)
structure OpD where
  kind : Int
  n : Int
  m : Int
  f : FidD
  nd : Int
  last : Int
  mode : Int
  yes : Bool
def isE (n : Int) (l : TL) : Int := if (agt n l).isSome = true then 0 else 100
def doesE (o : OpD) (most : Int) (l : TL) : Int :=
  if o.kind = 2 then addE o.n most l o.f else if o.kind = 3 then setE o.n l o.f else if o.kind = 4 then isE o.n l else
  if o.kind = 6 then walkE o.n o.m most l else if o.kind = 7 then openE o.n l else if o.kind = 8 then toldE o.n l else
  if o.kind = 5 then roomE o.n o.m most l else if o.kind = 1 then isE o.n l else 0
def doesS (o : OpD) (most : Int) (l : TL) : TL :=
  if o.kind = 2 then addS o.n most l o.f else if o.kind = 3 then setS o.n l o.f else if o.kind = 4 then adel o.n l else
  if o.kind = 6 then walkS o.n o.m o.nd most l else if o.kind = 7 then openS o.n o.nd (and3 o.mode) o.yes l else if o.kind = 8 then toldS o.n o.nd o.last l else l
def mayL (o : OpD) : List Int := if o.kind = 2 ∨ o.kind = 3 ∨ o.kind = 4 ∨ o.kind = 7 ∨ o.kind = 8 then [o.n] else if o.kind = 6 then [o.m] else []
structure Tab (most : Int) (l : TL) : Prop where
  nd : (l.map (·.1)).Nodup
  len : (l.length : Int) ≤ most
  no : ∀ n, (agt n l).isSome = true → n ≠ 4294967295
  ok : ∀ n f, agt n l = some f → mayB f = true
inductive Chg (most : Int) (l : TL) : List Int → TL → Prop
  | same (may : List Int) : Chg most l may l
  | put (n : Int) (f : FidD) : mayB f = true → n ≠ 4294967295 → ((agt n l).isSome = true ∨ (l.length : Int) < most) → Chg most l [n] (aset n f l)
  | rem (n : Int) : Chg most l [n] (adel n l)
theorem adel_none {n : Int} : ∀ {l : TL}, agt n l = none → adel n l = l
  | [], _ => rfl
  | (y, u) :: l, h => by
    simp only [agt] at h
    split at h
    · cases h
    · rename_i hx
      simp only [adel, if_neg hx, adel_none h]
theorem aset_none {n : Int} {f : FidD} : ∀ {l : TL}, agt n l = none → aset n f l = l ++ [(n, f)]
  | [], _ => rfl
  | (y, u) :: l, h => by
    simp only [agt] at h
    split at h
    · cases h
    · rename_i hx
      simp only [aset, if_neg hx, aset_none h, List.cons_append]
theorem aset_len {n : Int} {f : FidD} : ∀ {l : TL}, (agt n l).isSome = true → (aset n f l).length = l.length
  | [], h => by simp [agt] at h
  | (y, u) :: l, h => by
    simp only [agt] at h
    simp only [aset]
    split
    · simp
    · rename_i hx
      rw [if_neg hx] at h
      simp [aset_len h]
theorem adel_len (n : Int) : ∀ l : TL, (adel n l).length ≤ l.length
  | [] => by simp [adel]
  | (y, u) :: l => by
    simp only [adel]
    split
    · simp
    · have := adel_len n l
      simp only [List.length_cons]
      omega
theorem Chg.tab {most : Int} {l l' : TL} {may : List Int} (h : Tab most l) (c : Chg most l may l') : Tab most l' := by
  cases c with
  | same => exact h
  | put n f hf hn hr =>
    refine ⟨aset_nodup h.nd, ?_, fun x hx => ?_, fun x g hx => ?_⟩
    · cases ha : agt n l with
      | some u => rw [aset_len (by rw [ha]; rfl)]; exact h.len
      | none =>
        rw [aset_none ha]
        rcases hr with hr | hr
        · rw [ha] at hr; simp at hr
        · simp; omega
    · rw [agt_aset_if] at hx
      split at hx
      · rename_i e; rw [e]; exact hn
      · exact h.no x hx
    · rw [agt_aset_if] at hx
      split at hx
      · simp only [Option.some.injEq] at hx; rw [← hx]; exact hf
      · exact h.ok x g hx
  | rem n =>
    refine ⟨adel_nodup h.nd, ?_, fun x hx => ?_, fun x g hx => ?_⟩
    · have := adel_len n l; have := h.len; omega
    · rw [agt_adel_if h.nd] at hx
      split at hx
      · simp at hx
      · exact h.no x hx
    · rw [agt_adel_if h.nd] at hx
      split at hx
      · simp at hx
      · exact h.ok x g hx
theorem Chg.stays {most : Int} {l l' : TL} {may : List Int} (h : Tab most l) (c : Chg most l may l') {x : Int} (hx : x ∉ may) : agt x l' = agt x l := by
  cases c with
  | same => rfl
  | put n f hf hn hr => rw [agt_aset_if, if_neg (fun e => hx (by simp [e]))]
  | rem n => rw [agt_adel_if h.nd, if_neg (fun e => hx (by simp [e]))]
theorem freeE_0 {n most : Int} {l : TL} (h : freeE n most l = 0) : n ≠ 4294967295 ∧ (l.length : Int) < most := by
  unfold freeE at h
  split at h
  · omega
  · rename_i h1
    split at h
    · omega
    · split at h
      · omega
      · exact ⟨h1, by omega⟩
theorem does_chg {most : Int} {l : TL} (h : Tab most l) (o : OpD) : Chg most l (if doesE o most l = 0 then mayL o else []) (doesS o most l) := by
  unfold doesE doesS mayL
  by_cases k2 : o.kind = 2
  · simp only [k2, true_or, if_true]
    by_cases e : addE o.n most l o.f = 0
    · simp only [addS, e, if_true]
      have e' := e
      unfold addE at e'
      split at e'
      · rename_i hm
        obtain ⟨a, b⟩ := freeE_0 e'
        exact .put _ _ hm a (.inr b)
      · omega
    · simp only [addS, e, if_false]; exact .same _
  by_cases k3 : o.kind = 3
  · simp only [k3, true_or, or_true, if_true, show ¬ (3 : Int) = 2 by decide, if_false]
    by_cases e : setE o.n l o.f = 0
    · simp only [setS, e, if_true]
      have e' := e
      unfold setE at e'
      split at e'
      · rename_i hm
        split at e'
        · rename_i hs
          exact .put _ _ hm (h.no _ hs) (.inl hs)
        · omega
      · omega
    · simp only [setS, e, if_false]; exact .same _
  by_cases k4 : o.kind = 4
  · simp only [k4, true_or, or_true, if_true, show ¬ (4 : Int) = 2 by decide, show ¬ (4 : Int) = 3 by decide, if_false]
    unfold isE
    by_cases e : (agt o.n l).isSome = true
    · simp only [e, if_true]; exact .rem _
    · rw [adel_none (by simpa using e)]; exact .same _
  by_cases k6 : o.kind = 6
  · simp only [k6, true_or, or_true, or_false, if_true, show ¬ (6 : Int) = 2 by decide, show ¬ (6 : Int) = 3 by decide, show ¬ (6 : Int) = 4 by decide, show ¬ (6 : Int) = 7 by decide, show ¬ (6 : Int) = 8 by decide, if_false]
    by_cases e : walkE o.n o.m most l = 0
    · simp only [walkS, e, if_true]
      have e' := e
      unfold walkE at e'
      split at e'
      · rename_i hr
        obtain ⟨f, hf⟩ := roomE_some hr
        unfold roomE at hr
        rw [hf] at hr
        simp only [Option.isSome_some, if_true] at hr
        refine .put _ _ (by simp [walkF, mayB]) ?_ ?_
        · split at hr
          · rename_i q; rw [← q]; exact h.no _ (by rw [hf]; rfl)
          · exact (freeE_0 hr).1
        · split at hr
          · rename_i q; rw [← q]; exact .inl (by rw [hf]; rfl)
          · exact .inr (freeE_0 hr).2
      · rename_i hr; exact absurd e' hr
    · simp only [walkS, e, if_false]; exact .same _
  by_cases k7 : o.kind = 7
  · simp only [k7, true_or, or_true, if_true, show ¬ (7 : Int) = 2 by decide, show ¬ (7 : Int) = 3 by decide, show ¬ (7 : Int) = 4 by decide, show ¬ (7 : Int) = 6 by decide, if_false]
    by_cases e : openE o.n l = 0
    · simp only [openS, e, if_true]
      have hs : (agt o.n l).isSome = true := by
        unfold openE at e
        split at e
        · assumption
        · omega
      exact .put _ _ (by simp [openF, mayB]) (h.no _ hs) (.inl hs)
    · simp only [openS, e, if_false]; exact .same _
  by_cases k8 : o.kind = 8
  · simp only [k8, true_or, or_true, if_true, show ¬ (8 : Int) = 2 by decide, show ¬ (8 : Int) = 3 by decide, show ¬ (8 : Int) = 4 by decide, show ¬ (8 : Int) = 6 by decide, show ¬ (8 : Int) = 7 by decide, if_false]
    by_cases e : toldE o.n l = 0
    · simp only [toldS, e, if_true]
      have hs : (agt o.n l).isSome = true ∧ ((agt o.n l).getD zFid).st = 2 := by
        unfold toldE at e
        split at e
        · rename_i hs
          split at e
          · exact ⟨hs, by assumption⟩
          · omega
        · omega
      exact .put _ _ (by simp [toldF, mayB, hs.2]) (h.no _ hs.1) (.inl hs.1)
    · simp only [toldS, e, if_false]; exact .same _
  simp only [k2, k3, k4, k6, k7, k8, if_false]
  exact .same _
theorem list_eq_map {l : TL} (h : (l.map (·.1)).Nodup) : l = (l.map (·.1)).map fun n => (n, (agt n l).getD zFid) := by
  rw [List.map_map]
  refine (List.map_id' l).symm.trans ?_
  refine List.map_congr_left fun x hx => ?_
  obtain ⟨n, f⟩ := x
  simp only [Function.comp_def, agt_of_mem h hx, Option.getD_some]
theorem sortK_perm {l : TL} (h : (l.map (·.1)).Nodup) : (sortK l).Perm l := by
  have h1 : ((srt (l.map (·.1))).map fun n => (n, (agt n l).getD zFid)).Perm ((l.map (·.1)).map fun n => (n, (agt n l).getD zFid)) := (srt_perm _).map _
  rw [← list_eq_map h] at h1
  exact h1
theorem sortK_nodup {l : TL} (h : (l.map (·.1)).Nodup) : ((sortK l).map (·.1)).Nodup := by
  rw [sortK_keys]
  exact (srt_perm _).nodup_iff.2 h
theorem agt_sortK {l : TL} (h : (l.map (·.1)).Nodup) (n : Int) : agt n (sortK l) = agt n l := agt_perm (sortK_perm h) h n
theorem sortK_of_perm {l l' : TL} (hp : l.Perm l') (h : (l'.map (·.1)).Nodup) : sortK l = sortK l' := by
  unfold sortK
  rw [srt_of_perm (hp.map (·.1))]
  refine List.map_congr_left fun n _ => ?_
  rw [agt_perm hp h]
theorem opensN_sortK {l : TL} (h : (l.map (·.1)).Nodup) (nd : Int) : opensN nd (sortK l) = opensN nd l := opensN_perm (sortK_perm h)
def sameB (a b : FidD) : Bool :=
  decide (a.heard = b.heard) && (decide (a.st = b.st) && decide (a.nd = b.nd) && decide (a.user = b.user) && decide (a.mode = b.mode) && decide (a.rm = b.rm) && decide (a.last = b.last) && decide (a.told = b.told) && decide (a.tu = b.tu) && decide (a.tt = b.tt) && decide (a.ours = b.ours) && decide (a.theirs = b.theirs) && decide (a.step = b.step) && decide (a.said = b.said))
theorem sameB_self (a : FidD) : sameB a a = true := by simp [sameB]
theorem Tab.nil {most : Int} (h : 1 ≤ most) : Tab most [] := ⟨by simp, by simp; omega, by simp [agt], by simp [agt]⟩
theorem Tab.perm {most : Int} {l l' : TL} (h : Tab most l) (hp : l'.Perm l) : Tab most l' := by
  refine ⟨(hp.map (·.1)).nodup_iff.2 h.nd, by rw [hp.length_eq]; exact h.len, fun n => ?_, fun n f => ?_⟩
  · rw [agt_perm hp h.nd]; exact h.no n
  · rw [agt_perm hp h.nd]; exact h.ok n f
abbrev Rise (L : TL) : Prop := L.Pairwise fun a b => a.1 < b.1
theorem Rise.nodup {L : TL} (h : Rise L) : (L.map (·.1)).Nodup := by
  rw [List.Nodup, List.pairwise_map]
  exact h.imp fun h => by omega
theorem sortK_rise {l : TL} (h : (l.map (·.1)).Nodup) : Rise (sortK l) := by
  have h1 : ((sortK l).map (·.1)).Pairwise (· ≤ ·) := by rw [sortK_keys]; exact srt_sorted _
  have h2 : ((sortK l).map (·.1)).Pairwise (· ≠ ·) := sortK_nodup h
  rw [List.pairwise_map] at h1 h2
  exact (h1.and h2).imp fun h => by omega
theorem sortK_of {L l : TL} (hr : Rise L) (hp : L.Perm l) : sortK l = L := by
  have hn : (l.map (·.1)).Nodup := (hp.map (·.1)).nodup_iff.1 hr.nodup
  refine perm_sorted_unique (r := fun x y : Int × FidD => x.1 ≤ y.1) (fun x hx y hy h1 h2 => ?_) ((sortK_perm hn).trans hp.symm) ((sortK_rise hn).imp fun h => by omega) (hr.imp fun h => by omega) (fun x _ => Int.le_refl _)
  have e : x.1 = y.1 := by omega
  have hx' := agt_of_mem (sortK_nodup hn) hx
  have hy' := agt_of_mem (sortK_nodup hn) hy
  rw [e, hy'] at hx'
  exact Prod.ext e (Option.some.inj hx').symm
def insR (n : Int) (f : FidD) (L : TL) : TL := L.takeWhile (fun x => decide (x.1 < n)) ++ (n, f) :: L.dropWhile (fun x => decide (x.1 < n))
theorem ins_perm (n : Int) (f : FidD) (L : TL) : (insR n f L).Perm (L ++ [(n, f)]) := by
  unfold insR
  refine (List.perm_middle).trans ?_
  rw [List.takeWhile_append_dropWhile]
  exact (List.perm_append_singleton _ _).symm
theorem ins_rise {n : Int} {f : FidD} : ∀ {L : TL}, Rise L → agt n L = none → Rise (insR n f L)
  | [], _, _ => by simp [insR, Rise]
  | (y, u) :: L, h, ha => by
    simp only [agt] at ha
    split at ha
    · cases ha
    rename_i hne
    have h' := List.pairwise_cons.1 h
    by_cases c : y < n
    · have ih := ins_rise (n := n) (f := f) h'.2 ha
      have e : insR n f ((y, u) :: L) = (y, u) :: insR n f L := by simp [insR, List.takeWhile_cons, List.dropWhile_cons, c]
      rw [e]
      refine List.pairwise_cons.2 ⟨fun x hx => ?_, ih⟩
      have hx' := (ins_perm n f L).mem_iff.1 hx
      rcases List.mem_append.1 hx' with h1 | h1
      · exact h'.1 x h1
      · simp only [List.mem_singleton] at h1; subst h1; exact c
    · have e : insR n f ((y, u) :: L) = (n, f) :: (y, u) :: L := by simp [insR, List.takeWhile_cons, List.dropWhile_cons, c]
      rw [e]
      have hn : n < y := by
        rcases Int.lt_trichotomy y n with h1 | h1 | h1
        · exact absurd h1 c
        · exact absurd h1.symm hne
        · exact h1
      refine List.pairwise_cons.2 ⟨fun x hx => ?_, h⟩
      rcases List.mem_cons.1 hx with rfl | hx
      · exact hn
      · have := h'.1 x hx; simp only at this ⊢; omega
theorem sort_add {n : Int} {f : FidD} {l : TL} (h : (l.map (·.1)).Nodup) (ha : agt n l = none) : sortK (aset n f l) = insR n f (sortK l) := by
  refine sortK_of (ins_rise (sortK_rise h) (by rw [agt_sortK h]; exact ha)) ?_
  rw [aset_none ha]
  exact (ins_perm n f (sortK l)).trans ((sortK_perm h).append_right _)
theorem keys_aset {n : Int} {f : FidD} : ∀ {l : TL}, (agt n l).isSome = true → (aset n f l).map (·.1) = l.map (·.1)
  | [], h => by simp [agt] at h
  | (y, u) :: l, h => by
    simp only [agt] at h
    simp only [aset]
    split
    · rename_i hx; simp only [List.map_cons, hx]
    · rename_i hx
      rw [if_neg hx] at h
      simp only [List.map_cons, keys_aset h]
theorem aset_rise {n : Int} {f : FidD} {L : TL} (h : Rise L) (ha : (agt n L).isSome = true) : Rise (aset n f L) := by
  have h1 : (L.map (·.1)).Pairwise (· < ·) := List.pairwise_map.2 h
  rw [← keys_aset (f := f) ha] at h1
  exact List.pairwise_map.1 h1
theorem aset_perm {n : Int} {f : FidD} {l l' : TL} (hp : l.Perm l') (h : (l.map (·.1)).Nodup) (ha : (agt n l).isSome = true) : (aset n f l).Perm (aset n f l') := by
  have h' : (l'.map (·.1)).Nodup := (hp.map (·.1)).nodup_iff.1 h
  have ha' : (agt n l').isSome = true := by rw [← agt_perm hp h']; exact ha
  have n1 : ((aset n f l).map (·.1)).Nodup := by rw [keys_aset ha]; exact h
  have n2 : ((aset n f l').map (·.1)).Nodup := by rw [keys_aset ha']; exact h'
  rw [list_eq_map n1, list_eq_map n2, keys_aset ha, keys_aset ha']
  refine ((hp.map (·.1)).map _).trans (List.Perm.of_eq (List.map_congr_left fun x _ => ?_))
  by_cases c : x = n
  · subst c; rw [agt_aset, agt_aset]
  · have e : ∀ l : TL, agt x (aset n f l) = agt x l := fun l => by rw [agt_aset_if, if_neg c]
    rw [e, e, agt_perm hp h']
theorem sort_set {n : Int} {f : FidD} {l : TL} (h : (l.map (·.1)).Nodup) (ha : (agt n l).isSome = true) : sortK (aset n f l) = aset n f (sortK l) :=
  sortK_of (aset_rise (sortK_rise h) (by rw [agt_sortK h]; exact ha)) (aset_perm (sortK_perm h) (sortK_nodup h) (by rw [agt_sortK h]; exact ha))
theorem adel_sub (n : Int) : ∀ L : TL, (adel n L).Sublist L
  | [] => List.Sublist.refl _
  | (y, u) :: L => by
    simp only [adel]
    split
    · exact List.sublist_cons_self _ _
    · exact (adel_sub n L).cons_cons _
theorem adel_filter {n : Int} : ∀ {l : TL}, (l.map (·.1)).Nodup → adel n l = l.filter fun x => decide (x.1 ≠ n)
  | [], _ => rfl
  | (y, u) :: l, h => by
    simp only [List.map_cons, List.nodup_cons] at h
    simp only [adel]
    split
    · rename_i hx
      subst hx
      rw [List.filter_cons, if_neg (by simp)]
      symm
      rw [List.filter_eq_self]
      intro x hx
      have : x.1 ≠ n := fun e => h.1 (e ▸ List.mem_map_of_mem (f := (·.1)) hx)
      simpa using this
    · rename_i hx
      rw [List.filter_cons, if_pos (by simpa using fun e => hx (Eq.symm e)), adel_filter h.2]
theorem adel_perm {l l' : TL} (hp : l.Perm l') (h : (l.map (·.1)).Nodup) (n : Int) : (adel n l).Perm (adel n l') := by
  rw [adel_filter h, adel_filter ((hp.map (·.1)).nodup_iff.1 h)]
  exact hp.filter _
theorem adel_rise {n : Int} {L : TL} (h : Rise L) : Rise (adel n L) := h.sublist (adel_sub n L)
theorem sort_del {n : Int} {l : TL} (h : (l.map (·.1)).Nodup) : sortK (adel n l) = adel n (sortK l) :=
  sortK_of (adel_rise (sortK_rise h)) (adel_perm (sortK_perm h) (sortK_nodup h) n)
def PassA (x : Int × FidD) (args : Array Value) : HP := HP.ex fun v : Value => HP.fact (args = #[encU x.1, fdV (v, x.2)] ∧ Okf (v, x.2)) (HeardP (v, x.2))
def AllB (K B : Nat) (most : Int) (l : TL) : HP := Blk K (.cells #[.pointer (some ⟨B, 0, none⟩)] 22 (0, 0)) * TabP B most l
theorem all_any {w0 w : World} {F : HP} {B : Nat} (h : St w0 F w) :
    Calls Try.prog 31 #[.pointer (some ⟨B, 0, none⟩)] w fun e w' => ∃ K, St w0 (Blk K (.cells #[.pointer (some ⟨B, 0, none⟩)] 22 (0, 0)) * F) w' ∧ e = .returned (.func (.func 54) #[] #[.pointer (some ⟨K, 0, none⟩)]) := by
  refine F31.calls (by simp) ?_
  unfold F31.code
  simp -dsimp -implicitDefEqProofs (disch := omega) only [go_sem]
  refine h.new fun K w1 h1 => ?_
  simp -dsimp -implicitDefEqProofs (disch := omega) only [go_sem]
  exact ⟨K, h1, rfl⟩
section
attribute [local go_sem] F54.t4_eq F54.t2_eq
theorem allIter {w0 : World} {K B : Nat} {most : Int} {l : TL} {R : HP} (hl : l.length ≤ 1048576) :
    IterOk Try.prog w0 54 #[.pointer (some ⟨K, 0, none⟩)] PassA (fun pre => ∃ post, pre ++ post = sortK l) (fun xs => xs = sortK l) (AllB K B most l * R) (AllB K B most l * R) := by
  intro q w1 J X hy h
  show Calls _ 54 #[.func (.yield q) #[] #[], .pointer (some ⟨K, 0, none⟩)] w1 _
  have h1 : St w0 (TabP B most l * (Blk K (.cells #[.pointer (some ⟨B, 0, none⟩)] 22 (0, 0)) * (J [] * R))) w1 := h.ac (by unfold AllB; ac_rfl)
  refine F54.calls (by simp) ?_
  unfold F54.code
  simp -dsimp -implicitDefEqProofs (disch := omega) only [go_sem, h1.cl K]
  refine (list_any h1 hl).mono ?_
  rintro e w2 ⟨v, qs, hqs, h2, rfl⟩
  have h3 : St w0 (RowO 48 15 v qs.length (qs.flatMap atC) * (hearts qs * (TabP B most l * (Blk K (.cells #[.pointer (some ⟨B, 0, none⟩)] 22 (0, 0)) * (J [] * R))))) w2 := h2.ac (by unfold AtP; ac_rfl)
  obtain ⟨a, c, rfl, _⟩ := h3.rowForm v
  simp -dsimp -implicitDefEqProofs (disch := omega) only [go_sem]
  refine loop_intro (fun e w' => e.ds = [] ∧ e.ρ 0 = .func (.yield q) #[] #[] ∧ e.ρ 6 = .slice a qs.length c ∧ e.ρ 7 = .int .i64 qs.length ∧ ∃ (done left : FPs), done ++ left = qs ∧ e.ρ 8 = .int .i64 done.length ∧
      St w0 (RowO 48 15 (.slice a qs.length c) qs.length (qs.flatMap atC) * (hearts left * (TabP B most l * (Blk K (.cells #[.pointer (some ⟨B, 0, none⟩)] 22 (0, 0)) * (J (amap (·.2) done) * R))))) w')
    (fun e _ => match e.ρ 8 with | .int _ n => (qs.length - n).toNat | _ => 0) ?_ ?_
  · exact ⟨rfl, by simp -dsimp -implicitDefEqProofs only [go_sem], by simp -dsimp -implicitDefEqProofs only [go_sem], by simp -dsimp -implicitDefEqProofs only [go_sem], [], qs, rfl, by (simp -dsimp -implicitDefEqProofs only [go_sem]); rfl, h3⟩
  rintro e w4 ⟨hd, e0, e6, e7, done, left, hdl, e8, h4⟩
  cases left with
  | nil =>
    have hlt : ¬ (done.length : Int) < qs.length := by rw [← hdl]; simp
    simp -dsimp -implicitDefEqProofs (disch := omega) only [go_sem, hd, e0, e6, e7, e8, hlt]
    refine ⟨⟨_, rfl⟩, .inl ⟨amap (·.2) done, ?_, h4.right.right.ac (by unfold AllB; ac_rfl)⟩⟩
    rw [← hqs, ← hdl, List.append_nil]
  | cons x left =>
    have hil : done.length < qs.length := by rw [← hdl]; simp
    have hlt : (done.length : Int) < qs.length := by omega
    have hx : qs[done.length] = x := by
      have : qs[done.length]? = some x := by rw [← hdl]; simp
      rw [List.getElem?_eq_getElem hil] at this
      simpa using this
    obtain ⟨_, a', c', hv, _, hcl⟩ := St.rowsAt (k := 15) atC_length (by decide) (h4.gives (B := Reads 15 (.slice a qs.length c) qs.length (qs.flatMap atC)))
    simp only [Value.slice.injEq, true_and] at hv
    obtain ⟨rfl, rfl⟩ := hv
    obtain ⟨b, o, rfl, hrow, _⟩ := hcl done.length hil
    rw [hx] at hrow
    have hbound : qs.length ≤ 1048576 := by
      have := congrArg List.length hqs
      rw [sortK_length] at this
      simp only [amap, List.length_map] at this
      omega
    obtain ⟨hok, h5⟩ := hearts_cons (h4.ac (by ac_rfl : _ = hearts (x :: left) * (RowO 48 15 (.slice (some ⟨b, o, none⟩) qs.length c) qs.length (qs.flatMap atC) * (TabP B most l * (Blk K (.cells #[.pointer (some ⟨B, 0, none⟩)] 22 (0, 0)) * (J (amap (·.2) done) * R))))))
    obtain ⟨n, v, f⟩ := x
    simp -dsimp -implicitDefEqProofs (disch := omega) only [go_sem, hd, e0, e6, e7, e8, hlt, hrow]
    refine h5.new fun X1 w5 h6 => ?_
    simp -dsimp -implicitDefEqProofs (disch := omega) only [go_sem]
    refine h6.stoAll (b := X1) (cs := atC (n, (v, f))) rfl rfl (atC_cells hok.1) fun w6 h7 => ?_
    have hc7 := h7.cl X1
    have hr7 := h7.rowAtH X1 1 14 (by simp [atC, fdC])
    simp only [atC, fdC, List.drop_succ_cons, List.drop_zero, List.take_succ_cons, List.take_zero] at hc7 hr7
    simp -dsimp -implicitDefEqProofs (disch := omega) only [go_sem, hd, e0, e6, e7, e8, hc7, hr7]
    have h8 : St w0 (HeardP (v, f) * (hearts left * (RowO 48 15 (.slice (some ⟨b, o, none⟩) qs.length c) qs.length (qs.flatMap atC) * (TabP B most l * (Blk K (.cells #[.pointer (some ⟨B, 0, none⟩)] 22 (0, 0)) * (J (amap (·.2) done) * R)))))) w6 := h7.right
    have h9 := h8.ent (Ent.sep ((Ent.fact (p := (#[encU n, fdV (v, f)] : Array Value) = #[encU n, fdV (v, f)] ∧ Okf (v, f)) ⟨rfl, hok⟩ (HeardP (v, f))).trans (Ent.ex (fun v' : Value => HP.fact ((#[encU n, fdV (v, f)] : Array Value) = #[encU n, fdV (v', f)] ∧ Okf (v', f)) (HeardP (v', f))) v)) (Ent.rfl' _))
    have h10 : St w0 (J (amap (·.2) done) * (PassA (n, f) #[encU n, fdV (v, f)] * (hearts left * (RowO 48 15 (.slice (some ⟨b, o, none⟩) qs.length c) qs.length (qs.flatMap atC) * (TabP B most l * (Blk K (.cells #[.pointer (some ⟨B, 0, none⟩)] 22 (0, 0)) * R)))))) w6 := h9.ac (by show PassA (n, f) #[encU n, fdV (v, f)] * _ = _; ac_rfl)
    have hpre : amap (fun x : HF => x.2) done ++ [(n, f)] = amap (fun x : HF => x.2) (done ++ [(n, (v, f))]) := by simp [amap]
    refine (hy _ _ (n, f) _ _ ⟨amap (·.2) left, by rw [← hqs, ← hdl]; simp [amap]⟩ h10).mono ?_
    rintro e' w7 (⟨rfl, h11⟩ | ⟨rfl, h11⟩)
    · simp -dsimp -implicitDefEqProofs (disch := omega) only [go_sem, hd, e0, e6, e7, e8]
      refine ⟨⟨done ++ [(n, (v, f))], left, by rw [← hdl]; simp, by simp, ?_⟩, by omega⟩
      rw [← hpre]
      exact h11.ac (by ac_rfl)
    · simp -dsimp -implicitDefEqProofs (disch := omega) only [go_sem, hd, e0, e6, e7, e8]
      refine ⟨⟨_, rfl⟩, .inr ⟨_, (h11.ac (by unfold AllB; ac_rfl : _ = hearts left * (RowO 48 15 (.slice (some ⟨b, o, none⟩) qs.length c) qs.length (qs.flatMap atC) * (X (amap (fun x : HF => x.2) done ++ [(n, f)]) * (AllB K B most l * R))))).right.right⟩⟩
end
def RoundOkA {α : Type} (P : Program) (w0 : World) (e : FA) (ps : Array Tmp) (asg body : Cd) (Pass : α → Array Value → HP) (Ok : List α → Prop) (J : List α → HP) (X : Code → List α → HP) : Prop :=
  ∀ (l : Nat) (pre : List α) (x : α) (args : Array Value) (G : HP) (W : World), Ok (pre ++ [x]) → St w0 (J pre * (Pass x args * G)) W →
    args.size = ps.size ∧ cwRE P l asg (onlyP fun e1 W1 => ∃ A : HP, St w0 (A * (J pre * (Pass x args * G))) W1 ∧
      ∀ (G2 : HP) (W2 : World), Ent G2 (LoopHere l) → St w0 (A * (J pre * (Pass x args * G2))) W2 → cwRE P l body (roundQ w0 (J (pre ++ [x]) * G2) fun c => X c (pre ++ [x]) * G2) e1 W2) (putArgs ps.toList args.toList { e with ds := [] }) W
theorem mk_yieldsA {α : Type} {P : Program} {w0 : World} {e : FA} {ps : Array Tmp} {asg body : Cd} {Pass : α → Array Value → HP} {Ok : List α → Prop} {J : List α → HP} {X : Code → List α → HP} {l : Nat} {Rec : LoopState → Option Code → Obj} {Dp : HP}
    (hro : RoundOkA P w0 e ps asg body Pass Ok J X)
    (hrec : LoopRec P l Rec fun args W R => args.size = ps.size ∧ cw P (some l) asg (onlyP fun e1 W1 => W1.heap[l]? = some (Rec .ready none) ∧
      cw P (some l) body (roundP l Rec R) e1 (W1.putObj l (Rec .busy none))) (putArgs ps.toList args.toList { e with ds := [] }) W) :
    YieldsTo P w0 l Pass Ok (fun pre => Blk l (Rec .ready none) * (Dp * J pre)) (fun pre => HP.ex fun c => Blk l (Rec .done (some c)) * (Dp * X c pre)) := by
  intro G pre x args w hok h
  simp only at h ⊢
  refine hrec.yield args w _ h.left.blk ?_
  have h1 : St w0 (J pre * (Pass x args * (Blk l (Rec .ready none) * (Dp * G)))) w := h.ac (by ac_rfl)
  obtain ⟨hsz, hcode⟩ := hro l pre x args _ w hok h1
  refine ⟨hsz, ?_⟩
  refine cw_of_cwD _ _ _ _ _ _ (fun ex e1 W1 hx => ?_) hcode
  cases ex with
  | normal =>
    obtain ⟨A, h2, hb⟩ := hx
    have h3 : St w0 (Blk l (Rec .ready none) * (A * (J pre * (Pass x args * (Dp * G))))) W1 := h2.ac (by ac_rfl)
    refine ⟨h3.blk, ?_⟩
    have h4 := h3.putObj (Rec .busy none)
    have h5 : St w0 (A * (J pre * (Pass x args * (Blk l (Rec .busy none) * (Dp * G))))) (W1.putObj l (Rec .busy none)) := h4.ac (by ac_rfl)
    have hl : Ent (Blk l (Rec .busy none) * (Dp * G)) (LoopHere l) := (Ent.left _ _).trans (Ent.of fun h hb => by
      obtain ⟨r, hr⟩ := hrec.isLoop .busy none
      exact ⟨r, by rw [← hr]; exact hb⟩)
    refine cw_of_cwD _ _ _ _ _ _ (fun ex e2 W2 hx => ?_) (hb _ _ hl h5)
    have stop : ∀ c, St w0 (X c (pre ++ [x]) * (Blk l (Rec .busy none) * (Dp * G))) W2 → W2.heap[l]? = some (Rec .busy none) ∧
        ((Ending.returned (.bool false) = .returned (.bool true) ∧ St w0 ((Blk l (Rec .ready none) * (Dp * J (pre ++ [x]))) * G) (W2.putObj l (Rec .done (some c)))) ∨
          (Ending.returned (.bool false) = .returned (.bool false) ∧ St w0 ((HP.ex fun c => Blk l (Rec .done (some c)) * (Dp * X c (pre ++ [x]))) * G) (W2.putObj l (Rec .done (some c))))) := fun c hx => by
      have h6 : St w0 (Blk l (Rec .busy none) * (Dp * X c (pre ++ [x]) * G)) W2 := hx.ac (by ac_rfl)
      refine ⟨h6.blk, .inr ⟨rfl, ?_⟩⟩
      have h7 := h6.putObj (Rec .done (some c))
      exact (h7.ac (by ac_rfl : _ = (Blk l (Rec .done (some c)) * (Dp * X c (pre ++ [x]))) * G)).ent (Ent.sep (Ent.ex (fun c => Blk l (Rec .done (some c)) * (Dp * X c (pre ++ [x]))) c) (Ent.rfl' _))
    cases ex with
    | normal =>
      have h6 : St w0 (Blk l (Rec .busy none) * (Dp * J (pre ++ [x]) * G)) W2 := St.ac hx (by ac_rfl)
      refine ⟨h6.blk, .inl ⟨rfl, ?_⟩⟩
      exact (h6.putObj (Rec .ready none)).ac (by ac_rfl)
    | ret => exact stop _ hx
    | exit i => exact stop _ hx
    | goto t => exact stop _ hx
    | panic c => exact hx.elim
    | outgrown => exact hx.elim
  | exit i => exact hx.elim
  | goto t => exact hx.elim
  | ret => exact hx.elim
  | panic c => exact hx.elim
  | outgrown => exact hx.elim
theorem range_introRA {α : Type} {P : Program} {w0 w : World} {F G G' : HP} {e : FA} {l0 : Nat} {g : Operand} {ps : Array Tmp} {asg body : Cd} {Q : Post} {θ : Tag ((.rangeFunc g ps asg body : Cd), Q, e, w)} (h : St w0 F w) (hl0 : Ent F (LoopHere l0)) {gf : Nat} {lb : Array Value}
    (hg : e.ev g = .func (.func gf) #[] lb) (hf : fnOk P gf = true) {Pass : α → Array Value → HP} {Ok S : List α → Prop} (J : List α → HP) (X : Code → List α → HP) (h0 : Ent F (J [] * G))
    (hround : RoundOkA P w0 e ps asg body Pass Ok J X) (hcall : IterOk P w0 gf lb Pass Ok S G G')
    (hdone : ∀ (xs : List α) (w' : World), S xs → St w0 (J xs * G') w' → Q .normal e w')
    (hstop : ∀ (c : Code) (pre : List α) (w' : World), St w0 (X c pre * G') w' → jumpP Q (some c) e w') :
    cwRE P l0 (.rangeFunc g ps asg body) Q e w θ := by
  refine ⟨fun l hl => ?_, gf, lb, hg, hf, fun Rec hrec => ?_⟩
  · simp only [Option.some.injEq] at hl
    subst hl
    obtain ⟨y, ly, r, hr⟩ := (h.ent hl0).sat
    exact ⟨r, ly _ _ hr⟩
  have h2 := (h.ent h0).alloc (Rec .ready none)
  have hy := mk_yieldsA (Dp := EmpH) hround hrec
  have hE : ∀ (A : HP), Ent A (EmpH * A) := fun A => Ent.of fun h a => ⟨fun _ => none, h, fun _ => .inl rfl, (fun _ _ e => by cases e), hle.rfl' h, trivial, a⟩
  refine (hcall _ _ _ _ hy ((h2.ent (Ent.sep (Ent.rfl' _) (hE _))).ac ?_)).mono ?_
  · simp only [loopAt]; ac_rfl
  · rintro ex W ⟨⟨v, rfl⟩, hq⟩
    have hds : ∀ e : FA, ({ e with ds := (loopAt (some l0) w Rec).2.2 ++ e.ds } : FA) = e := fun e => rfl
    rcases hq with ⟨xs, hS, hq⟩ | ⟨pre, hq⟩
    · have h3 : St w0 (Blk w.heap.size (Rec .ready none) * (EmpH * (J xs * G'))) W := hq.ac (by simp only [loopAt]; ac_rfl)
      refine ⟨.ready, none, h3.blk, by simp, ?_⟩
      rw [hds]
      exact hdone xs _ hS (h3.putObj (Rec .exhausted none)).right.right
    · have hq := hq
      obtain ⟨c, hq⟩ := St.exF hq
      have h3 : St w0 (Blk w.heap.size (Rec .done (some c)) * (EmpH * (X c pre * G'))) W := hq.ac (by simp only [loopAt]; ac_rfl)
      refine ⟨.done, some c, h3.blk, by simp, ?_⟩
      rw [hds]
      exact hstop c pre _ (h3.putObj (Rec .exhausted (some c))).right.right
def AccA (S : Nat) (l : TL) : HP := HP.ex fun p : Value × FPs => HP.fact (amap (·.2) p.2 = l) (Blk S (.cells #[p.1] 28 (0, 0)) * AtP p.1 p.2)
theorem AccA.mk {w0 w : World} {S : Nat} {v : Value} {qs : FPs} {l : TL} {F : HP} (hl : amap (·.2) qs = l) (h : St w0 (Blk S (.cells #[v] 28 (0, 0)) * (RowO 48 15 v qs.length (qs.flatMap atC) * (hearts qs * F))) w) : St w0 (AccA S l * F) w := by
  have h1 : St w0 ((Blk S (.cells #[v] 28 (0, 0)) * AtP v qs) * F) w := h.ac (by unfold AtP; ac_rfl)
  exact h1.ent (Ent.sep ((Ent.fact hl _).trans (Ent.ex (fun p : Value × FPs => HP.fact (amap (·.2) p.2 = l) (Blk S (.cells #[p.1] 28 (0, 0)) * AtP p.1 p.2)) (v, qs))) (Ent.rfl' _))
theorem AccA.open {w0 w : World} {S : Nat} {l : TL} {F : HP} (h : St w0 (AccA S l * F) w) : ∃ v qs, amap (·.2) qs = l ∧ St w0 (Blk S (.cells #[v] 28 (0, 0)) * (RowO 48 15 v qs.length (qs.flatMap atC) * (hearts qs * F))) w := by
  obtain ⟨⟨v, qs⟩, h1⟩ := h.exF
  obtain ⟨e, h2⟩ := h1.factF
  exact ⟨v, qs, e, h2.ac (by unfold AtP; ac_rfl)⟩
theorem PassA.open {w0 w : World} {x : Int × FidD} {args : Array Value} {F : HP} (h : St w0 (PassA x args * F) w) : ∃ v, args = #[encU x.1, fdV (v, x.2)] ∧ Okf (v, x.2) ∧ St w0 (HeardP (v, x.2) * F) w := by
  obtain ⟨v, h1⟩ := h.exF
  obtain ⟨⟨e, hk⟩, h2⟩ := h1.factF
  exact ⟨v, e, hk, h2⟩
theorem fdV_inj {n : Int} {v v' : Value} {f : FidD} (h : (#[encU n, fdV (v, f)] : Array Value) = #[encU n, fdV (v', f)]) : v = v' := by
  simp only [fdV, fdC, Array.mk.injEq, List.cons.injEq, Value.agg.injEq, and_true, true_and] at h
  exact h
section
attribute [local go_sem] F12.t9_eq F12.t5_eq
end
theorem clear_any {w0 w : World} {F : HP} {B : Nat} {most : Int} {l : TL} (h : St w0 (TabP B most l * F) w) (hl : l.length ≤ 1048576) :
    Calls Try.prog 21 #[.pointer (some ⟨B, 0, none⟩)] w fun e w' => ∃ v qs, amap (·.2) qs = sortK l ∧ St w0 (AtP v qs * (TabP B most [] * F)) w' ∧ e = .returned v := by
  refine F21.calls (by simp) ?_
  unfold F21.code
  simp -dsimp -implicitDefEqProofs (disch := omega) only [go_sem]
  refine (list_any h hl).mono ?_
  rintro e w1 ⟨v, qs, hqs, h1, rfl⟩
  obtain ⟨m, ps, hps, h2⟩ := TabP.open h1.sw2
  simp -dsimp -implicitDefEqProofs (disch := omega) only [go_sem, h2.cl B]
  refine h2.clearH (b := m) Try.underlying86 fun w3 h3 => ?_
  simp -dsimp -implicitDefEqProofs (disch := omega) only [go_sem]
  refine ⟨v, qs, hqs, ?_, rfl⟩
  have h4 : St w0 (Blk B (tabB most m) * (MapP encU m (amap fdV []) * (AtP v qs * F))) w3 := (h3.ac (by show _ = hearts ps * (Blk B (tabB most m) * (MapP encU m (amap fdV []) * (AtP v qs * F))); ac_rfl)).right
  have h5 := TabP.col (B := B) (m := m) (most := most) (ps := []) (show St w0 (hearts [] * _) w3 from EmpH.of h4) rfl
  exact (show St w0 (TabP B most [] * (AtP v qs * F)) w3 from h5).ac (by ac_rfl)
section
attribute [local go_sem] F25.t4_eq F25.t6_eq
theorem clone_any {w0 w : World} {F : HP} {B : Nat} {most : Int} {l : TL} (h : St w0 (TabP B most l * F) w) :
    Calls Try.prog 25 #[.pointer (some ⟨B, 0, none⟩)] w fun e w' => ∃ C l', l'.Perm l ∧ St w0 (TabP C most l' * (TabP B most l * F)) w' ∧ e = .returned (.pointer (some ⟨C, 0, none⟩)) := by
  obtain ⟨m, ps, hps, h1⟩ := TabP.open h
  refine F25.calls (by simp) ?_
  unfold F25.code
  simp -dsimp -implicitDefEqProofs (disch := omega) only [go_sem, h1.cl B]
  refine St.makeMap (enc := encU) h1 fun mc w2 h2 => ?_
  simp -dsimp -implicitDefEqProofs (disch := omega) only [go_sem]
  refine onV_of (v := .agg #[.int .i64 most, .map (some mc)]) rfl ?_
  simp -dsimp -implicitDefEqProofs (disch := omega) only [go_sem]
  refine h2.new fun C w3 h3 => ?_
  simp -dsimp -implicitDefEqProofs (disch := omega) only [go_sem, h3.cl B]
  refine h3.rangeH (b := m) Try.underlying86 fun r w4 h4 => ?_
  simp -dsimp -implicitDefEqProofs (disch := omega) only [go_sem]
  have h5 : St w0 (Blk C (tabB most mc) * (MapP encU mc (amap fdV []) * (hearts [] * (Blk B (tabB most m) * (IterP encU m r (amap fdV ps) (amap fdV ps) * (hearts ps * F)))))) w4 :=
    (EmpH.of h4).ac (by show EmpH * _ = Blk C (tabB most mc) * (MapP encU mc (amap fdV []) * (EmpH * _)); ac_rfl)
  refine loop_intro (fun e w' => e.ds = [] ∧ e.ρ 3 = .pointer (some ⟨C, 0, none⟩) ∧ e.ρ 17 = .pointer (some ⟨r, 0, none⟩) ∧ ∃ (done left qs : FPs), (done ++ left).Perm ps ∧ amap (·.2) qs = amap (·.2) done ∧
      St w0 (Blk C (tabB most mc) * (MapP encU mc (amap fdV qs) * (hearts qs * (Blk B (tabB most m) * (IterP encU m r (amap fdV ps) (amap fdV left) * (hearts ps * F)))))) w')
    (fun _ w => iterLeft m r w) ?_ ?_
  · exact ⟨rfl, by simp -dsimp -implicitDefEqProofs only [go_sem], by simp -dsimp -implicitDefEqProofs only [go_sem], [], ps, [], by simp, rfl, h5⟩
  rintro e w5 ⟨hd, e3, e17, done, left, qs, hp, hqs, h5⟩
  have hleft := h5.iterLeft m
  simp -dsimp -implicitDefEqProofs (disch := omega) only [go_sem, hd, e3, e17]
  refine h5.nextP (lf := left) m (fun hnil => ?_) fun x rest w6 hxr h6 => ?_
  · subst hnil
    simp -dsimp -implicitDefEqProofs (disch := omega) only [go_sem, hd, e3, e17]
    have h7 := h5.iterEnd m
    have h8 := TabP.col (B := B) (m := m) (most := most) (ps := ps) h7 hps
    have h9 := TabP.col (B := C) (m := mc) (most := most) (ps := qs) h8 hqs
    refine ⟨C, amap (·.2) done, ?_, h9.sub, rfl⟩
    rw [← hps]
    exact amap_perm _ (by simpa using hp)
  obtain ⟨k, v, f⟩ := x
  simp -dsimp -implicitDefEqProofs (disch := omega) only [go_sem, hd, e3, e17]
  refine h6.entryH m ?_
  simp -dsimp -implicitDefEqProofs (disch := omega) only [go_sem, hd, e3, e17]
  refine h6.new fun X w7 h7 => ?_
  have hx : ps.Perm ((k, (v, f)) :: (done ++ rest)) := hp.symm.trans ((List.Perm.append_left done hxr.symm).trans List.perm_middle)
  have hnd : (ps.map (·.1)).Nodup := by rw [← amap_keys fdV]; exact h1.mapNodup m
  have hag : agt k ps = some (v, f) := agt_of_mem hnd (hx.symm.subset List.mem_cons_self)
  have hu : Okf (v, f) := hearts_cell hag h7.right.right.right.right.right.right
  have hkd : agt k (amap (fun x : HF => x.2) qs) = none := by
    rw [hqs]
    refine agt_none_of_notin fun hm => ?_
    rw [amap_keys] at hm
    have h1 := (hx.map (·.1)).nodup_iff.1 hnd
    simp only [List.map_cons, List.nodup_cons] at h1
    exact h1.1 (by rw [List.map_append]; exact List.mem_append_left _ hm)
  simp -dsimp -implicitDefEqProofs (disch := omega) only [go_sem]
  refine h7.stoAll (b := X) (cs := fdC v f) rfl rfl (fdC_cells hu.1) fun w8 h8 => ?_
  have h8 := h8.drew
  have hrow := h8.rowH X 14 rfl
  simp -dsimp -implicitDefEqProofs (disch := omega) only [go_sem, hd, e3, e17, h8.cl C, hrow]
  refine (own_any (p := (v, f)) h8 hu.1 ((Ent.right _ _).trans ((Ent.right _ _).trans ((Ent.right _ _).trans ((Ent.right _ _).trans ((Ent.right _ _).trans ((Ent.right _ _).trans ((Ent.left _ _).trans (hearts_reads hag)))))))) hu.2).mono ?_
  rintro e' w9 ⟨v', hv', h9, rfl⟩
  have hC9 := h9.cl C
  have hX9 := h9.rowH X 14 rfl
  simp -dsimp -implicitDefEqProofs (disch := omega) only [go_sem, hd, e3, e17, hC9, hX9]
  refine h9.updH (b := mc) Try.underlying86 lawU fun w10 h10 => ?_
  have hC10 := h10.cl C
  have hX10 := h10.rowH X 14 rfl
  have hla : ∀ q : FPs, (amap fdV q).length = q.length := fun q => by simp [amap]
  have hel : rest.length + 1 = left.length := by have := hxr.length_eq; simpa using this
  have hpm : (done ++ [(k, (v, f))] ++ rest).Perm ps := by
    refine List.Perm.trans ?_ hp
    rw [List.append_assoc]
    exact List.Perm.append_left done hxr
  rw [upd_amap] at h10
  have h11 := hearts_put (n := k) (q := (v', f)) ⟨hv', hu.2⟩ (h10.ac (by ac_rfl : _ = HeardP (v', f) * (hearts qs * (Blk C (tabB most mc) * (MapP encU mc (amap fdV (aset k (v', f) qs)) * (Blk B (tabB most m) * (IterAt encU m r (amap fdV ps) (amap fdV rest) k (fdV (v, f)) * (hearts ps * (Blk X (fidB v f) * F)))))))))
  have h12 := h11.iterDone m
  have hl5 := h12.iterLeft m
  simp -dsimp -implicitDefEqProofs (disch := omega) only [go_sem, hd, e3, e17, hC10, hX10]
  refine ⟨⟨done ++ [(k, (v, f))], rest, aset k (v', f) qs, hpm, ?_, h12.sub⟩, ?_⟩
  · rw [← aset_amap (fun x : HF => x.2) k (v', f) qs, aset_none hkd, hqs]
    simp [amap]
  · rw [hl5, hleft, hla, hla]; omega
end
theorem seq_dec (a b : ByteArray) : (a.toList == b.toList) = decide (a = b) := by
  rw [ByteArray.toList_eq, ByteArray.toList_eq]
  by_cases h : a = b
  · subst h; simp
  · have h2 : ¬ a.data = b.data := fun e => h (by cases a; cases b; simp only at e; rw [e])
    simp [h, h2]
theorem beq_dec (a b : Bool) : (a == b) = decide (a = b) := by cases a <;> cases b <;> rfl
section
attribute [local go_sem] F16.t3_eq
theorem same_any {w0 w : World} {F : HP} {p q : HF} (h : St w0 F w) (hv : isCell p.1 = true) (hu : isCell q.1 = true) (hp : Ent F (HeardR p)) (hq : Ent F (HeardR q)) :
    Calls Try.prog 16 #[fdV p, fdV q] w fun e w' => St w0 F w' ∧ e = .returned (.bool (sameB p.2 q.2)) := by
  obtain ⟨v, f⟩ := p
  obtain ⟨u, g⟩ := q
  show Calls Try.prog _ #[.agg (fdC v f).toArray, .agg (fdC u g).toArray] w _
  unfold fdC
  refine F16.calls (by simp) ?_
  unfold F16.code
  simp -dsimp -implicitDefEqProofs (disch := omega) only [go_sem]
  refine h.new fun B2 w1 h1 => ?_
  simp -dsimp -implicitDefEqProofs (disch := omega) only [go_sem]
  refine h1.new fun B3 w2 h2 => ?_
  have h2' : St w0 (Blk B3 (fidB u g) * (Blk B2 (fidB v f) * F)) w2 := h2
  clear h2
  have c2 := h2'.cl B2
  have c3 := h2'.cl B3
  have r2 := h2'.rowAtH B2 7 7 (by simp [fdC])
  have r3 := h2'.rowAtH B3 7 7 (by simp [fdC])
  simp only [fdC, List.drop_succ_cons, List.drop_zero, List.take_succ_cons, List.take_zero] at c2 c3 r2 r3
  simp -dsimp -implicitDefEqProofs (disch := omega) only [go_sem, c2, c3]
  refine h2'.str (bs := f.heard) ((Ent.right _ _).trans ((Ent.right _ _).trans hp)) Try.underlying39 Try.underlying5 Try.underlying9 ?_
  simp -dsimp -implicitDefEqProofs (disch := omega) only [go_sem, c2, c3]
  refine h2'.str (bs := g.heard) ((Ent.right _ _).trans ((Ent.right _ _).trans hq)) Try.underlying39 Try.underlying5 Try.underlying9 ?_
  by_cases q0 : f.heard = g.heard
  case neg =>
    have q0' : ¬ strOf f.heard = strOf g.heard := fun e => q0 (strOf_inj.1 e)
    simp -dsimp -implicitDefEqProofs (disch := omega) only [go_sem, seq_dec, q0']
    exact ⟨h2'.right.right, by simp [sameB, q0]⟩
  have q0' : strOf f.heard = strOf g.heard := by rw [q0]
  simp -dsimp -implicitDefEqProofs (disch := omega) only [go_sem, seq_dec, q0', r2]
  refine h2'.new fun B5 w5 h5 => ?_
  simp -dsimp -implicitDefEqProofs (disch := omega) only [go_sem]
  refine h5.stoAll (b := B5) (cs := [.string f.tu, .string f.tt, .int .u64 f.ours, .int .u64 f.theirs, .int .u8 f.step, .int .i64 f.said, v]) rfl rfl (fun x hx => fdC_cells (f := f) hv x (List.mem_of_mem_drop (i := 7) hx)) fun w6 h6 => ?_
  have r3 := h6.rowAtH B3 7 7 (by simp [fdC])
  simp only [fdC, List.drop_succ_cons, List.drop_zero, List.take_succ_cons, List.take_zero] at r3
  simp -dsimp -implicitDefEqProofs (disch := omega) only [go_sem, r3]
  refine h6.new fun B6 w7 h7 => ?_
  simp -dsimp -implicitDefEqProofs (disch := omega) only [go_sem]
  refine h7.stoAll (b := B6) (cs := [.string g.tu, .string g.tt, .int .u64 g.ours, .int .u64 g.theirs, .int .u8 g.step, .int .i64 g.said, u]) rfl rfl (fun x hx => fdC_cells (f := g) hu x (List.mem_of_mem_drop (i := 7) hx)) fun w8 h8 => ?_
  have c2 := h8.cl B2
  have c3 := h8.cl B3
  have c5 := h8.cl B5
  have c6 := h8.cl B6
  simp only [fdC] at c2 c3
  have hF := h8.right.right.right.right
  by_cases q1 : f.st = g.st
  case neg =>
    simp -dsimp -implicitDefEqProofs (disch := omega) only [go_sem, seq_dec, beq_dec, c2, c3, c5, c6, q1]
    exact ⟨hF, by simp [sameB, q1]⟩
  by_cases q2 : f.nd = g.nd
  case neg =>
    simp -dsimp -implicitDefEqProofs (disch := omega) only [go_sem, seq_dec, beq_dec, c2, c3, c5, c6, q1, q2]
    exact ⟨hF, by simp [sameB, q2]⟩
  by_cases q3 : f.user = g.user
  case neg =>
    simp -dsimp -implicitDefEqProofs (disch := omega) only [go_sem, seq_dec, beq_dec, c2, c3, c5, c6, q1, q2, q3]
    exact ⟨hF, by simp [sameB, q3]⟩
  by_cases q4 : f.mode = g.mode
  case neg =>
    simp -dsimp -implicitDefEqProofs (disch := omega) only [go_sem, seq_dec, beq_dec, c2, c3, c5, c6, q1, q2, q3, q4]
    exact ⟨hF, by simp [sameB, q4]⟩
  by_cases q5 : f.rm = g.rm
  case neg =>
    simp -dsimp -implicitDefEqProofs (disch := omega) only [go_sem, seq_dec, beq_dec, c2, c3, c5, c6, q1, q2, q3, q4, q5]
    exact ⟨hF, by simp [sameB, q5]⟩
  by_cases q6 : f.last = g.last
  case neg =>
    simp -dsimp -implicitDefEqProofs (disch := omega) only [go_sem, seq_dec, beq_dec, c2, c3, c5, c6, q1, q2, q3, q4, q5, q6]
    exact ⟨hF, by simp [sameB, q6]⟩
  by_cases q7 : f.told = g.told
  case neg =>
    simp -dsimp -implicitDefEqProofs (disch := omega) only [go_sem, seq_dec, beq_dec, c2, c3, c5, c6, q1, q2, q3, q4, q5, q6, q7]
    exact ⟨hF, by simp [sameB, q7]⟩
  by_cases q8 : f.tu = g.tu
  case neg =>
    simp -dsimp -implicitDefEqProofs (disch := omega) only [go_sem, seq_dec, beq_dec, c2, c3, c5, c6, q1, q2, q3, q4, q5, q6, q7, q8]
    exact ⟨hF, by simp [sameB, q8]⟩
  by_cases q9 : f.tt = g.tt
  case neg =>
    simp -dsimp -implicitDefEqProofs (disch := omega) only [go_sem, seq_dec, beq_dec, c2, c3, c5, c6, q1, q2, q3, q4, q5, q6, q7, q8, q9]
    exact ⟨hF, by simp [sameB, q9]⟩
  by_cases q10 : f.ours = g.ours
  case neg =>
    simp -dsimp -implicitDefEqProofs (disch := omega) only [go_sem, seq_dec, beq_dec, c2, c3, c5, c6, q1, q2, q3, q4, q5, q6, q7, q8, q9, q10]
    exact ⟨hF, by simp [sameB, q10]⟩
  by_cases q11 : f.theirs = g.theirs
  case neg =>
    simp -dsimp -implicitDefEqProofs (disch := omega) only [go_sem, seq_dec, beq_dec, c2, c3, c5, c6, q1, q2, q3, q4, q5, q6, q7, q8, q9, q10, q11]
    exact ⟨hF, by simp [sameB, q11]⟩
  by_cases q12 : f.step = g.step
  case neg =>
    simp -dsimp -implicitDefEqProofs (disch := omega) only [go_sem, seq_dec, beq_dec, c2, c3, c5, c6, q1, q2, q3, q4, q5, q6, q7, q8, q9, q10, q11, q12]
    exact ⟨hF, by simp [sameB, q12]⟩
  by_cases q13 : f.said = g.said
  case neg =>
    simp -dsimp -implicitDefEqProofs (disch := omega) only [go_sem, seq_dec, beq_dec, c2, c3, c5, c6, q1, q2, q3, q4, q5, q6, q7, q8, q9, q10, q11, q12, q13]
    exact ⟨hF, by simp [sameB, q13]⟩
  simp -dsimp -implicitDefEqProofs (disch := omega) only [go_sem, seq_dec, beq_dec, c2, c3, c5, c6, q1, q2, q3, q4, q5, q6, q7, q8, q9, q10, q11, q12, q13]
  exact ⟨hF, by simp [sameB, q0, q1, q2, q3, q4, q5, q6, q7, q8, q9, q10, q11, q12, q13]⟩
end
theorem hearts_ok {w0 w : World} : ∀ {qs : FPs} {F : HP}, St w0 (hearts qs * F) w → ∀ x ∈ qs, Okf x.2
  | [], _, _, x, hx => by simp at hx
  | y :: qs, F, h, x, hx => by
    obtain ⟨hy, h1⟩ := hearts_cons h
    rcases List.mem_cons.1 hx with rfl | hx
    · exact hy
    · exact hearts_ok h1.right x hx
theorem hearts_mem {qs : FPs} : ∀ {x : Int × HF}, x ∈ qs → Ent (hearts qs) (HeardR x.2) := by
  induction qs with
  | nil => intro x hx; simp at hx
  | cons y qs ih =>
    intro x hx
    show Ent (HP.fact (Okf y.2) (HeardP y.2) * hearts qs) _
    rcases List.mem_cons.1 hx with rfl | hx
    · exact (Ent.left _ _).trans (HP.fact_elim fun _ => RowO.reads _ _ _ _ _)
    · exact (Ent.right _ _).trans (ih hx)
abbrev zHF : HF := (zF, zFid)
section
attribute [local go_sem] F15.t3_eq F15.t4_eq F15.t6_eq
end
section
attribute [local go_sem] F17.t3_eq F17.t4_eq F17.t6_eq
end
section
attribute [local go_sem] F10.t3_eq
theorem Ent.nilHeard (F : HP) (f : FidD) (hf : f.heard = []) : Ent F (HeardR (zF, f)) := by
  refine (Ent.nilRowO 5 1 F).trans ((Ent.left _ _).trans ?_)
  show Ent _ (Reads 1 (.slice none 0 0) f.heard.length (byR f.heard))
  rw [hf]
  exact RowO.reads _ _ _ _ _
end
section
attribute [local go_sem] F9.t8_eq F9.t4_eq
end
theorem rSlice_choose {α β : Type} {s b : Nat} {R : Rdr α} {enc : β → List Value} {p : β → Heap → Prop} (he : ∀ x cs h, R.rel x cs h → ∃ y, cs = enc y ∧ p y h) (hk : ∀ y, (enc y).length = s) {xs : List α} {v : Value} {h : Heap}
    (c : (rSlice s b R).rel xs [v] h) : ∃ ys : List β, ys.length = xs.length ∧ (∀ y ∈ ys, p y h) ∧ Reads s v ys.length (ys.flatMap enc) h := by
  obtain ⟨a, cap, e, l, m, r, k⟩ := c
  simp only [List.cons.injEq, and_true] at e
  subst e
  rcases k with k | ⟨g, o, cur, T, fr, ea, hg, hj⟩
  · subst k
    exact ⟨[], rfl, fun y hy => by simp at hy, by simp, a, cap, rfl, l, .inl rfl⟩
  · obtain ⟨ys, hl, hy⟩ := choose_list (n := xs.length) (p := fun j (y : β) => (cur.toList.drop (o + j * s)).take s = enc y ∧ p y h) fun j hj' => he _ _ _ (hj j hj').2
    refine ⟨ys, hl, fun y hm => ?_, ?_⟩
    · obtain ⟨i, hi, rfl⟩ := List.getElem_of_mem hm
      exact (hy i hi).2
    · refine ⟨flatMap_length hk ys, a, cap, by rw [hl], by omega, .inr ⟨g, o, cur, T, fr, ea, hg, fun t ht => ?_⟩⟩
      rw [flatMap_length hk] at ht
      obtain ⟨i, j, hi, hjs, e, hf⟩ := flatMap_at_all hk ys t ht
      rw [hf, ← (hy i hi).1, e, List.getElem?_take_of_lt hjs, List.getElem?_drop, Array.getElem?_toList]
      congr 1
      omega
theorem rowV_part {w : World} {b o k lo n : Nat} {cs : List Value} (hk : cs.length = k) (hc : ∀ j, j < k → w.cell? ⟨b, o + j, none⟩ = cs[j]?) (h : lo + n ≤ k) : rowV w ⟨b, o + lo, none⟩ n = some (.agg ((cs.drop lo).take n).toArray) := by
  unfold rowV
  rw [cellsFrom_of w _ n 0 ((cs.drop lo).take n) (by rw [List.length_take, List.length_drop]; omega) fun j hj => by
    rw [Nat.zero_add, add_lit, Nat.add_assoc, hc (lo + j) (by omega), List.getElem?_take_of_lt hj, List.getElem?_drop]]
  rfl
abbrev refTB (most : Int) (v : Value) : Obj := .cells #[.int .i64 most, v] 94 (0, 0)
def RefT (B : Nat) (most : Int) (L : TL) : HP := HP.ex fun x : Value × FPs => HP.fact (amap (·.2) x.2 = L ∧ x.2.length ≤ 1048576) (Blk B (refTB most x.1) * AtP x.1 x.2)
abbrev RefU (B : Nat) (most : Int) (v : Value) (qs : FPs) (F : HP) : HP := Blk B (refTB most v) * (RowO 48 15 v qs.length (qs.flatMap atC) * (hearts qs * F))
theorem RefT.open {w0 w : World} {B : Nat} {most : Int} {L : TL} {F : HP} (h : St w0 (RefT B most L * F) w) : ∃ v qs, amap (·.2) qs = L ∧ qs.length ≤ 1048576 ∧ St w0 (RefU B most v qs F) w := by
  obtain ⟨x, h⟩ := h.exF
  obtain ⟨⟨e, hl⟩, h⟩ := h.factF
  exact ⟨x.1, x.2, e, hl, h.ac (by unfold RefU AtP; ac_rfl)⟩
theorem RefT.mk {w0 w : World} {B : Nat} {most : Int} {L : TL} {v : Value} {qs : FPs} {F : HP} (e : amap (·.2) qs = L) (hl : qs.length ≤ 1048576) (h : St w0 (RefU B most v qs F) w) : St w0 (RefT B most L * F) w := by
  have h1 : St w0 ((Blk B (refTB most v) * AtP v qs) * F) w := h.ac (by unfold RefU AtP; ac_rfl)
  exact h1.ent (Ent.sep ((Ent.fact (p := amap (·.2) (v, qs).2 = L ∧ (v, qs).2.length ≤ 1048576) ⟨e, hl⟩ _).trans (Ent.ex (fun x : Value × FPs => HP.fact (amap (·.2) x.2 = L ∧ x.2.length ≤ 1048576) (Blk B (refTB most x.1) * AtP x.1 x.2)) (v, qs))) (Ent.rfl' F))
theorem RefT.len {w0 w : World} {B : Nat} {most : Int} {L : TL} {F : HP} (h : St w0 (RefT B most L * F) w) : L.length ≤ 1048576 := by
  obtain ⟨v, qs, rfl, hl, _⟩ := RefT.open h
  simpa [amap] using hl
theorem St.cell1' {w0 w : World} {v : Value} {n : Nat} {xs : List Value} (h : St w0 (Reads 1 v n xs) w) : n = xs.length ∧ ∃ a c, v = .slice a n c ∧ n ≤ c ∧ True := by
  have hl := h.rd.length
  obtain ⟨a, c, hv, hnc, hr⟩ := h.rd.form
  exact ⟨by omega, a, c, hv, hnc, trivial⟩
theorem at_row' {w1 : World} {b o : Nat} {x : Int × HF} (hcell : ∀ j, j < 15 → w1.cell? ⟨b, o + j, none⟩ = (atC x)[j]?) : rowV w1 ⟨b, o + 1, none⟩ 14 = some (fdV x.2) := rowV_part (cs := atC x) (lo := 1) (n := 14) (k := 15) rfl hcell (by omega)
theorem St.refAt {w0 w : World} {B : Nat} {most : Int} {v : Value} {qs : FPs} {F : HP} (h : St w0 (RefU B most v qs F) w) {i : Nat} (hi : i < qs.length) :
    ∃ g o c, v = .slice (some ⟨g, o, none⟩) qs.length c ∧ (∀ j, j < 15 → w.cell? ⟨g, o + i * 15 + j, none⟩ = (atC qs[i])[j]?) ∧ rowV w ⟨g, o + i * 15 + 1, none⟩ 14 = some (fdV qs[i].2) := by
  obtain ⟨_, a, c, hv, _, hat⟩ := St.rowsAt (enc := atC) (l := qs) (k := 15) atC_length (by decide) (h.right.left.ent (RowO.reads _ _ _ _ _))
  obtain ⟨g, o, ha, _, hc⟩ := hat i hi
  exact ⟨g, o, c, by rw [hv, ha], hc, at_row' hc⟩
def AtIs (n : Int) (qs : FPs) (z : Int) : Prop := (agt n (amap (·.2) qs) = none ∧ z = -1) ∨ ∃ i : Nat, ∃ hi : i < qs.length, qs[i].1 = n ∧ agt n (amap (·.2) qs) = some qs[i].2.2 ∧ (∀ k (hk : k < qs.length), k < i → qs[k].1 ≠ n) ∧ z = i
theorem agt_first {n : Int} : ∀ {qs : FPs} {i : Nat} (hi : i < qs.length), qs[i].1 = n → (∀ k (hk : k < qs.length), k < i → qs[k].1 ≠ n) → agt n qs = some qs[i].2
  | [], i, hi, _, _ => by simp at hi
  | (y, u) :: qs, i, hi, hn, hb => by
    cases i with
    | zero => simp only [List.getElem_cons_zero] at hn ⊢; subst hn; simp [agt]
    | succ i =>
      have h0 : y ≠ n := hb 0 (by simp) (by omega)
      simp only [agt, if_neg (fun e => h0 (Eq.symm e)), List.getElem_cons_succ]
      exact agt_first (by simpa using hi) (by simpa using hn) fun k hk hki => hb (k + 1) (by simpa using hk) (by omega)
theorem agt_no {n : Int} : ∀ {qs : FPs}, (∀ k (hk : k < qs.length), qs[k].1 ≠ n) → agt n qs = none
  | [], _ => rfl
  | (y, u) :: qs, hb => by
    have h0 : y ≠ n := hb 0 (by simp)
    simp only [agt, if_neg (fun e => h0 (Eq.symm e))]
    exact agt_no fun k hk => hb (k + 1) (by simpa using hk)
section
attribute [local go_sem] F58.t3_eq F58.t4_eq F58.t6_eq
theorem rat_any {w0 w : World} {F : HP} {B : Nat} {most n : Int} {v : Value} {qs : FPs} (hl : qs.length ≤ 1048576) (h : St w0 (RefU B most v qs F) w) :
    Calls Try.prog 58 #[.pointer (some ⟨B, 0, none⟩), .int .u32 n] w fun e w' => St w0 (RefU B most v qs F) w' ∧ ∃ z, AtIs n qs z ∧ e = .returned (.int .i64 z) := by
  refine F58.calls (by simp) ?_
  unfold F58.code
  obtain ⟨a, c, rfl, _⟩ := h.right.rowForm v
  simp -dsimp -implicitDefEqProofs (disch := omega) only [go_sem]
  refine loop_intro (fun e w' => e.ds = [] ∧ e.ρ 0 = .pointer (some ⟨B, 0, none⟩) ∧ e.ρ 1 = .int .u32 n ∧ ∃ i : Nat, i ≤ qs.length ∧ e.ρ 5 = .int .i64 i ∧ (∀ k (hk : k < qs.length), k < i → qs[k].1 ≠ n) ∧ St w0 (RefU B most (.slice a qs.length c) qs F) w')
    (fun e _ => match e.ρ 5 with | .int _ k => (qs.length - k).toNat | _ => 0) ?_ ?_
  · exact ⟨by simp -dsimp -implicitDefEqProofs only [go_sem], by simp -dsimp -implicitDefEqProofs only [go_sem], by simp -dsimp -implicitDefEqProofs only [go_sem], 0, by omega, by simp -dsimp -implicitDefEqProofs only [go_sem], fun k _ hk => absurd hk (by omega), h⟩
  clear h
  rintro e w ⟨hd, e0, e1, i, hi, e5, hb, h⟩
  by_cases hlt : (i : Int) < qs.length
  case neg =>
    simp -dsimp -implicitDefEqProofs (disch := omega) only [go_sem, hd, e0, e1, e5, hlt, h.cl B]
    refine ⟨h, -1, .inl ⟨?_, rfl⟩, rfl⟩
    rw [agt_amap, agt_no fun k hk => hb k hk (by omega)]; rfl
  have hil : i < qs.length := by omega
  obtain ⟨g, o, c', hv, hc, _⟩ := h.refAt hil
  simp only [Value.slice.injEq, true_and] at hv
  obtain ⟨rfl, rfl⟩ := hv
  have c0 : w.cell? ⟨g, o + i * 15, none⟩ = some (.int .u32 qs[i].1) := hc 0 (by decide)
  by_cases hn : qs[i].1 = n
  · simp -dsimp -implicitDefEqProofs (disch := omega) only [go_sem, hd, e0, e1, e5, hlt, h.cl B, c0, hn]
    exact ⟨h, i, .inr ⟨i, hil, hn, by rw [agt_amap, agt_first hil hn hb]; rfl, hb, rfl⟩, rfl⟩
  · simp -dsimp -implicitDefEqProofs (disch := omega) only [go_sem, hd, e0, e1, e5, hlt, h.cl B, c0, hn]
    refine ⟨⟨i + 1, by omega, by omega, fun k hk hki => ?_, h⟩, by omega⟩
    rcases Nat.lt_or_ge k i with h1 | h1
    · exact hb k hk h1
    · have : k = i := by omega
      subst this; exact hn
end
theorem rown_any {w0 w : World} {F : HP} {p : HF} (h : St w0 F w) (hv : isCell p.1 = true) (hr : Ent F (HeardR p)) (hl : p.2.heard.length < 1099511627776) :
    Calls Try.prog 59 #[fdV p] w fun e w' => ∃ v', isCell v' = true ∧ St w0 (HeardP (v', p.2) * F) w' ∧ e = .returned (fdV (v', p.2)) := by
  obtain ⟨v, f⟩ := p
  have hr : Ent F (Reads 1 v f.heard.length (byR f.heard)) := hr
  obtain ⟨_, av, cv, rfl, _, _⟩ := (h.ent hr).cell1'
  refine F59.calls (by simp) ?_
  unfold F59.code
  unfold fdV fdC
  simp -dsimp -implicitDefEqProofs (disch := omega) only [go_sem]
  refine h.new fun B1 w1 h1 => ?_
  simp -dsimp -implicitDefEqProofs (disch := omega) only [go_sem]
  refine h1.new fun B2 w2 h2 => ?_
  have h2' : St w0 (Blk B2 (.cells (fdC (.slice none 0 0) zFid).toArray 43 (0, 0)) * (Blk B1 (.cells (fdC (.slice av f.heard.length cv) f).toArray 43 (0, 0)) * F)) w2 := h2
  have c13 : w2.cell? ⟨B1, 13, none⟩ = some (.slice av f.heard.length cv) := h2'.cl B1 13
  simp -dsimp -implicitDefEqProofs (disch := omega) only [go_sem, c13]
  refine (h2'.nilR 5 1).app (v := .slice none 0 0) (m := f.heard.length) (news := byR f.heard) fact_rowTy_39 ((Ent.right _ _).trans ((Ent.right _ _).trans ((Ent.right _ _).trans hr))) Try.underlying39 (byR_cells _) (fun hh => by simpa using hh) (by simp only [maxLen]; simp only at hl; omega) (by simp only at hl; omega) fun v' w3 h3 => ?_
  rw [Nat.zero_add, List.nil_append] at h3
  obtain ⟨a', c', rfl, _⟩ := h3.rowForm v'
  simp -dsimp -implicitDefEqProofs (disch := omega) only [go_sem]
  refine h3.sto (b := B1) (off := 13) (by simp [fdC]) rfl fun w4 h4 => ?_
  have h4' : St w0 (RowO 5 1 (.slice a' f.heard.length c') f.heard.length (byR f.heard) * (Blk B2 (.cells (fdC (.slice none 0 0) zFid).toArray 43 (0, 0)) * (Blk B1 (.cells (fdC (.slice a' f.heard.length c') f).toArray 43 (0, 0)) * F))) w4 := h4
  have hrow := h4'.rowH B1 14 rfl
  simp -dsimp -implicitDefEqProofs (disch := omega) only [go_sem, hrow]
  refine h4'.stoAll (b := B2) (cs := fdC (.slice a' f.heard.length c') f) rfl rfl (fdC_cells rfl) fun w5 h5 => ?_
  have hrow2 := h5.rowH B2 14 rfl
  simp -dsimp -implicitDefEqProofs (disch := omega) only [go_sem]
  refine resC_1 (a := ⟨B2, 0, none⟩) (v := fdV (.slice a' f.heard.length c', f)) (by simp -dsimp -implicitDefEqProofs only [go_sem]) (run_loadVar_row fact_aggSz_43 (by rw [hrow2]; rfl)) ?_
  exact ⟨_, rfl, h5.sub, rfl⟩
theorem ris_any {w0 w : World} {F : HP} {p : HF} (h : St w0 F w) : Calls Try.prog 72 #[fdV p] w fun e w' => St w0 F w' ∧ e = .returned (.bool (mayB p.2)) := by
  obtain ⟨v, f⟩ := p
  refine F72.calls (by simp) ?_
  unfold F72.code
  unfold fdV fdC
  simp -dsimp -implicitDefEqProofs (disch := omega) only [go_sem]
  refine h.new fun B1 w1 h1 => ?_
  have h1' : St w0 (Blk B1 (.cells (fdC v f).toArray 43 (0, 0)) * F) w1 := h1
  have c0 : w1.cell? ⟨B1, 0, none⟩ = some (.int .u8 f.st) := h1'.cl B1 0
  unfold mayB
  by_cases k1 : f.st = 1
  · simp -dsimp -implicitDefEqProofs (disch := omega) only [go_sem, c0, k1]; exact h1'.right
  by_cases k2 : f.st = 2
  · simp -dsimp -implicitDefEqProofs (disch := omega) only [go_sem, c0, k1, k2]; exact h1'.right
  by_cases k3 : f.st = 3
  · simp -dsimp -implicitDefEqProofs (disch := omega) only [go_sem, c0, k1, k2, k3]; exact h1'.right
  · simp -dsimp -implicitDefEqProofs (disch := omega) only [go_sem, c0, k1, k2, k3]; exact h1'.right
section
attribute [local go_sem] F73.t5_eq F73.t3_eq
theorem rshut_any {w0 w : World} {F : HP} {B : Nat} {most : Int} {v : Value} {qs : FPs} (hl : qs.length ≤ 1048576) {i : Nat} (hi : i < qs.length) (h : St w0 (RefU B most v qs F) w) :
    Calls Try.prog 73 #[.pointer (some ⟨B, 0, none⟩), .int .i64 i] w fun e w' => St w0 (RefU B most v qs F) w' ∧ e = .returned (.int .i64 (shutE qs[i].2.2)) := by
  refine F73.calls (by simp) ?_
  unfold F73.code
  obtain ⟨g, o, c, rfl, hc, _⟩ := h.refAt hi
  have c1 : w.cell? ⟨g, o + i * 15 + 1, none⟩ = some (.int .u8 qs[i].2.2.st) := hc 1 (by decide)
  have hii : (i : Int) < qs.length := by omega
  unfold shutE
  by_cases k1 : qs[i].2.2.st = 2
  · simp -dsimp -implicitDefEqProofs (disch := omega) only [go_sem, h.cl B, c1, k1, hii]; exact h
  by_cases k2 : qs[i].2.2.st = 3
  · simp -dsimp -implicitDefEqProofs (disch := omega) only [go_sem, h.cl B, c1, k1, k2, hii]; exact h
  · simp -dsimp -implicitDefEqProofs (disch := omega) only [go_sem, h.cl B, c1, k1, k2, hii]; exact h
end
theorem rcount_any {w0 w : World} {F : HP} {B : Nat} {most : Int} {L : TL} (h : St w0 (RefT B most L * F) w) :
    Calls Try.prog 51 #[.pointer (some ⟨B, 0, none⟩)] w fun e w' => St w0 (RefT B most L * F) w' ∧ e = .returned (.int .i64 L.length) := by
  obtain ⟨v, qs, rfl, hl, h⟩ := RefT.open h
  obtain ⟨a, c, rfl, _⟩ := h.right.rowForm v
  have hle : (amap (fun p : HF => p.2) qs).length = qs.length := by simp [amap]
  refine F51.calls (by simp) ?_
  unfold F51.code
  simp -dsimp -implicitDefEqProofs (disch := omega) only [go_sem, h.cl B]
  exact ⟨RefT.mk rfl hl h, by rw [hle]⟩
section
attribute [local go_sem] F64.t13_eq F64.t11_eq F64.t9_eq F64.t7_eq F64.t5_eq
theorem rroom_any {w0 w : World} {F : HP} {B : Nat} {most x n : Int} {L : TL} (h : St w0 (RefT B most L * F) w) :
    Calls Try.prog 64 #[.pointer (some ⟨B, 0, none⟩), .int .u32 x, .int .u32 n] w fun e w' => St w0 (RefT B most L * F) w' ∧ e = .returned (.int .i64 (roomE x n most L)) := by
  obtain ⟨v, qs, rfl, hl, h⟩ := RefT.open h
  obtain ⟨a, c, rfl, _⟩ := h.right.rowForm v
  have hle : (amap (fun p : HF => p.2) qs).length = qs.length := by simp [amap]
  have shut : ∀ {w}, St w0 (RefU B most (.slice a qs.length c) qs F) w → St w0 (RefT B most (amap (·.2) qs) * F) w := fun h => RefT.mk rfl hl h
  refine F64.calls (by simp) ?_
  unfold F64.code
  simp -dsimp -implicitDefEqProofs (disch := omega) only [go_sem]
  refine (rat_any (n := x) hl h).mono ?_
  rintro e w1 ⟨h1, z, hz, rfl⟩
  simp -dsimp -implicitDefEqProofs (disch := omega) only [go_sem]
  refine (rat_any (n := n) hl h1).mono ?_
  rintro e w2 ⟨h2, y, hy, rfl⟩
  rcases hz with ⟨hx, rfl⟩ | ⟨i, hi, _, hx, _, rfl⟩
  · have hr : roomE x n most (amap (·.2) qs) = 100 := by unfold roomE; rw [hx]; rfl
    rw [hr]
    simp -dsimp -implicitDefEqProofs (disch := omega) only [go_sem]
    exact shut h2
  have hx' : (agt x (amap (fun p : HF => p.2) qs)).isSome = true := by rw [hx]; rfl
  by_cases k1 : n = x
  · have hr : roomE x n most (amap (·.2) qs) = 0 := by unfold roomE; rw [if_pos hx', if_pos k1.symm]
    rw [hr]
    simp -dsimp -implicitDefEqProofs (disch := omega) only [go_sem, k1]
    exact shut h2
  have hr0 : roomE x n most (amap (·.2) qs) = freeE n most (amap (·.2) qs) := by unfold roomE; rw [if_pos hx', if_neg (fun e => k1 e.symm)]
  rw [hr0]
  by_cases k2 : n = 4294967295
  · have hr : freeE n most (amap (·.2) qs) = 103 := by unfold freeE; rw [if_pos k2]
    rw [hr]
    simp -dsimp -implicitDefEqProofs (disch := omega) only [go_sem, k1, k2]
    exact shut h2
  rcases hy with ⟨hy, rfl⟩ | ⟨j, hj, _, hy, _, rfl⟩
  · by_cases k3 : most ≤ (qs.length : Int)
    · have hr : freeE n most (amap (·.2) qs) = 102 := by unfold freeE; rw [if_neg k2, hy, if_neg (by simp), if_pos (by rw [hle]; exact k3)]
      rw [hr]
      simp -dsimp -implicitDefEqProofs (disch := omega) only [go_sem, k1, k2, h2.cl B, h2.drew.cl B, k3]
      exact shut h2.drew
    · have hr : freeE n most (amap (·.2) qs) = 0 := by unfold freeE; rw [if_neg k2, hy, if_neg (by simp), if_neg (by rw [hle]; exact k3)]
      rw [hr]
      simp -dsimp -implicitDefEqProofs (disch := omega) only [go_sem, k1, k2, h2.cl B, h2.drew.cl B, k3]
      exact shut h2.drew
  · have hr : freeE n most (amap (·.2) qs) = 101 := by unfold freeE; rw [if_neg k2, hy, if_pos (by rfl)]
    rw [hr]
    simp -dsimp -implicitDefEqProofs (disch := omega) only [go_sem, k1, k2]
    exact shut h2
end
theorem hearts_in {qs : FPs} {i : Nat} (hi : i < qs.length) : Ent (hearts qs) (HeardR qs[i].2) := hearts_mem (List.getElem_mem hi)
theorem RefU.okf {w0 w : World} {B : Nat} {most : Int} {v : Value} {qs : FPs} {F : HP} (h : St w0 (RefU B most v qs F) w) : ∀ x ∈ qs, Okf x.2 := hearts_ok h.right.right
section
attribute [local go_sem] F42.t5_eq
theorem rget_none {w0 w : World} {F : HP} {B : Nat} {most n : Int} {L : TL} (h : St w0 (RefT B most L * F) w) (hg : agt n L = none) :
    Calls Try.prog 42 #[.pointer (some ⟨B, 0, none⟩), .int .u32 n] w fun e w' => St w0 (RefT B most L * F) w' ∧ e = .returned (.tuple #[fdV (zF, zFid), .int .i64 100]) := by
  obtain ⟨v, qs, rfl, hl, h⟩ := RefT.open h
  refine F42.calls (by simp) ?_
  unfold F42.code
  simp -dsimp -implicitDefEqProofs (disch := omega) only [go_sem]
  refine h.new fun X w1 h1 => ?_
  simp -dsimp -implicitDefEqProofs (disch := omega) only [go_sem]
  refine h1.new fun Y w2 h2 => ?_
  have h3 : St w0 (RefU B most v qs (Blk Y (.cells (fdC zF zFid).toArray 43 (0, 0)) * (Blk X (.cells (fdC zF zFid).toArray 43 (0, 0)) * F))) w2 := h2.ac (by unfold RefU; show Blk Y (.cells (fdC zF zFid).toArray 43 (0, 0)) * (Blk X (.cells (fdC zF zFid).toArray 43 (0, 0)) * _) = _; ac_rfl)
  simp -dsimp -implicitDefEqProofs (disch := omega) only [go_sem]
  refine (rat_any (n := n) hl h3).mono ?_
  rintro e w3 ⟨h4, z, hz, rfl⟩
  rcases hz with ⟨_, rfl⟩ | ⟨i, hi, _, hx, _, rfl⟩
  case inr => rw [hg] at hx; cases hx
  simp -dsimp -implicitDefEqProofs (disch := omega) only [go_sem, h4.rowH Y 14 rfl]
  refine h4.stoAll (b := X) (cs := fdC zF zFid) rfl rfl (fdC_cells rfl) fun w5 h5 => ?_
  simp -dsimp -implicitDefEqProofs (disch := omega) only [go_sem]
  refine resC_2 (a := ⟨X, 0, none⟩) (v := fdV (zF, zFid)) (by simp -dsimp -implicitDefEqProofs only [go_sem]) (run_loadVar_row fact_aggSz_43 (by rw [h5.rowH X 14 rfl]; rfl)) ?_
  simp -dsimp -implicitDefEqProofs (disch := omega) only [go_sem]
  exact RefT.mk rfl hl (h5.ent (Ent.sep (Ent.rfl' _) (Ent.sep (Ent.rfl' _) (Ent.sep (Ent.rfl' _) ((Ent.right _ _).trans (Ent.right _ _))))))
theorem rget_some {w0 w : World} {F : HP} {B : Nat} {most n : Int} {L : TL} {f : FidD} (h : St w0 (RefT B most L * F) w) (hg : agt n L = some f) :
    Calls Try.prog 42 #[.pointer (some ⟨B, 0, none⟩), .int .u32 n] w fun e w' => ∃ v', Okf (v', f) ∧ St w0 (HeardP (v', f) * (RefT B most L * F)) w' ∧ e = .returned (.tuple #[fdV (v', f), .int .i64 0]) := by
  obtain ⟨v, qs, rfl, hl, h⟩ := RefT.open h
  refine F42.calls (by simp) ?_
  unfold F42.code
  simp -dsimp -implicitDefEqProofs (disch := omega) only [go_sem]
  refine h.new fun X w1 h1 => ?_
  simp -dsimp -implicitDefEqProofs (disch := omega) only [go_sem]
  refine h1.new fun Y w2 h2 => ?_
  have h3 : St w0 (RefU B most v qs (Blk Y (.cells (fdC zF zFid).toArray 43 (0, 0)) * (Blk X (.cells (fdC zF zFid).toArray 43 (0, 0)) * F))) w2 := h2.ac (by unfold RefU; show Blk Y (.cells (fdC zF zFid).toArray 43 (0, 0)) * (Blk X (.cells (fdC zF zFid).toArray 43 (0, 0)) * _) = _; ac_rfl)
  simp -dsimp -implicitDefEqProofs (disch := omega) only [go_sem]
  refine (rat_any (n := n) hl h3).mono ?_
  rintro e w3 ⟨h4, z, hz, rfl⟩
  rcases hz with ⟨hx, rfl⟩ | ⟨i, hi, _, hx, _, rfl⟩
  · rw [hg] at hx; cases hx
  rw [hg] at hx
  have hii : (i : Int) < qs.length := by omega
  obtain ⟨g, o, c, rfl, _, hrow⟩ := h4.refAt hi
  have hok := RefU.okf h4 _ (List.getElem_mem hi)
  obtain ⟨p, hp⟩ : ∃ p, p = qs[i].2 := ⟨_, rfl⟩
  have hin := hearts_in hi
  rw [← hp] at hrow hok hin hx
  obtain ⟨pv, pf⟩ := p
  obtain rfl : f = pf := Option.some.inj hx
  simp -dsimp -implicitDefEqProofs (disch := omega) only [go_sem, h4.cl B, hrow, hii]
  refine (rown_any (p := (pv, f)) h4 hok.1 ((Ent.right _ _).trans ((Ent.right _ _).trans ((Ent.left _ _).trans hin))) hok.2).mono ?_
  rintro e w4 ⟨v', hv', h5, rfl⟩
  unfold fdV
  simp -dsimp -implicitDefEqProofs (disch := omega) only [go_sem]
  refine h5.stoAll (b := X) (cs := fdC v' f) rfl rfl (fdC_cells hv') fun w5 h6 => ?_
  simp -dsimp -implicitDefEqProofs (disch := omega) only [go_sem]
  refine resC_2 (a := ⟨X, 0, none⟩) (v := fdV (v', f)) (by simp -dsimp -implicitDefEqProofs only [go_sem]) (run_loadVar_row fact_aggSz_43 (by rw [h6.rowH X 14 rfl]; rfl)) ?_
  refine ⟨v', ⟨hv', hok.2⟩, ?_, by unfold fdV; simp -dsimp -implicitDefEqProofs only [go_sem]⟩
  have h7 := RefT.mk (F := HeardP (v', f) * F) rfl hl ((h6.ac (show _ = RefU B most (.slice (some ⟨g, o, none⟩) qs.length c) qs (HeardP (v', f) * (F * (Blk Y (.cells (fdC zF zFid).toArray 43 (0, 0)) * Blk X (.cells (fdC v' f).toArray 43 (0, 0))))) by unfold RefU; ac_rfl)).ent (Ent.sep (Ent.rfl' _) (Ent.sep (Ent.rfl' _) (Ent.sep (Ent.rfl' _) (Ent.sep (Ent.rfl' _) (Ent.left _ _))))))
  exact h7.ac (by ac_rfl)
theorem row_set {qs : FPs} {i : Nat} (hi : i < qs.length) {v : Value} {f : FidD} : setRowL (qs.flatMap atC) (i * 15 + 1) (fdC v f) = (qs.set i (qs[i].1, (v, f))).flatMap atC := by
  have hlen : (qs.flatMap atC).length = qs.length * 15 := flatMap_length atC_length qs
  have hlen2 : ((qs.set i (qs[i].1, (v, f))).flatMap atC).length = qs.length * 15 := by rw [flatMap_length atC_length, List.length_set]
  have hfd := fdC_length v f
  have hmul : (i + 1) * 15 ≤ qs.length * 15 := Nat.mul_le_mul_right 15 hi
  refine List.ext_getElem? fun t => ?_
  by_cases ht : t < qs.length * 15
  · obtain ⟨m, q, hm, hq, rfl, hf⟩ := flatMap_at_all atC_length qs t ht
    have hf' := flatMap_at atC_length (qs.set i (qs[i].1, (v, f))) m q (by simpa using hm) hq
    rw [hf']
    by_cases hmi : m = i
    · subst hmi
      rw [List.getElem_set_self]
      rcases Nat.eq_zero_or_pos q with rfl | hq0
      · rw [getElem?_setRowL_lt _ _ _ _ (by omega), hf]; rfl
      · rw [show m * 15 + q = m * 15 + 1 + (q - 1) by omega, getElem?_setRowL_in _ _ _ _ (by omega) (by omega)]
        obtain ⟨r, rfl⟩ : ∃ r, q = r + 1 := ⟨q - 1, by omega⟩
        rfl
    · rw [List.getElem_set_ne (fun e => hmi e.symm), ← hf]
      rcases Nat.lt_or_gt_of_ne hmi with h1 | h1
      · exact getElem?_setRowL_lt _ _ _ _ (by have : (m + 1) * 15 ≤ i * 15 := Nat.mul_le_mul_right 15 h1; omega)
      · exact getElem?_setRowL_ge _ _ _ _ (by have : (i + 1) * 15 ≤ m * 15 := Nat.mul_le_mul_right 15 h1; omega)
  · rw [List.getElem?_eq_none (by rw [length_setRowL]; omega), List.getElem?_eq_none (by omega)]
theorem aset_first {n : Int} {p : HF} : ∀ {qs : FPs} {i : Nat} (hi : i < qs.length), qs[i].1 = n → (∀ k (hk : k < qs.length), k < i → qs[k].1 ≠ n) → qs.set i (n, p) = aset n p qs
  | [], i, hi, _, _ => by simp at hi
  | (y, u) :: qs, i, hi, hn, hb => by
    cases i with
    | zero => simp only [List.getElem_cons_zero] at hn; subst hn; simp [aset]
    | succ i =>
      have h0 : y ≠ n := hb 0 (by simp) (by omega)
      simp only [aset, if_neg (fun e => h0 (Eq.symm e)), List.set_cons_succ]
      rw [aset_first (by simpa using hi) (by simpa using hn) fun k hk hki => hb (k + 1) (by simpa using hk) (by omega)]
theorem hearts_set_at {w0 w : World} {F : HP} {p : HF} (hp : Okf p) : ∀ {qs : FPs} {i : Nat} {n : Int} (hi : i < qs.length), St w0 (HeardP p * (hearts qs * F)) w → St w0 (hearts (qs.set i (n, p)) * F) w
  | [], i, n, hi, _ => by simp at hi
  | x :: qs, 0, n, hi, h => by
    obtain ⟨_, h1⟩ := hearts_cons (h.sw2)
    have h2 : St w0 (HeardP p * (hearts qs * F)) w := (h1.ac (show _ = HeardP x.2 * (HeardP p * (hearts qs * F)) by ac_rfl)).right
    have e : hearts ((n, p) :: qs) = HP.fact (Okf p) (HeardP p) * hearts qs := rfl
    rw [List.set_cons_zero, e]
    exact (h2.ent (Ent.sep (Ent.fact hp _) (Ent.rfl' _))).ac (by ac_rfl)
  | x :: qs, i + 1, n, hi, h => by
    obtain ⟨hx, h1⟩ := hearts_cons (h.sw2)
    have h2 : St w0 (HeardP p * (hearts qs * (HeardP x.2 * F))) w := h1.ac (by ac_rfl)
    have h3 := hearts_set_at hp (i := i) (n := n) (by simpa using hi) h2
    have e : hearts (x :: qs.set i (n, p)) = HP.fact (Okf x.2) (HeardP x.2) * hearts (qs.set i (n, p)) := rfl
    rw [List.set_cons_succ, e]
    exact ((h3.ac (show _ = HeardP x.2 * (hearts (qs.set i (n, p)) * F) by ac_rfl)).ent (Ent.sep (Ent.fact hx _) (Ent.rfl' _))).ac (by ac_rfl)
end
section
attribute [local go_sem] F62.t6_eq F62.t3_eq
theorem rset_any {w0 w : World} {F : HP} {B : Nat} {most n : Int} {L : TL} {p : HF} (h : St w0 (RefT B most L * F) w) (hp : Okf p) (hr : Ent F (HeardR p)) :
    Calls Try.prog 62 #[.pointer (some ⟨B, 0, none⟩), .int .u32 n, fdV p] w fun e w' => St w0 (RefT B most (setS n L p.2) * F) w' ∧ e = .returned (.int .i64 (setE n L p.2)) := by
  obtain ⟨pv, f⟩ := p
  obtain ⟨v, qs, rfl, hl, h⟩ := RefT.open h
  refine F62.calls (by simp) ?_
  unfold F62.code
  have hpc : isCell pv = true := hp.1
  have hle : (amap (fun p : HF => p.2) qs).length = qs.length := by simp [amap]
  unfold fdV
  simp -dsimp -implicitDefEqProofs (disch := omega) only [go_sem]
  refine h.new fun C w1 h1 => ?_
  have h1 : St w0 (Blk C (.cells (fdC pv f).toArray 43 (0, 0)) * RefU B most v qs F) w1 := h1
  have hrow := h1.rowH C 14 rfl
  simp -dsimp -implicitDefEqProofs (disch := omega) only [go_sem, hrow]
  refine (ris_any (p := (pv, f)) h1).mono ?_
  rintro e w2 ⟨h2, rfl⟩
  cases hm : mayB f with
  | false =>
    have hr1 : setE n (amap (·.2) qs) f = 1 := by unfold setE; rw [hm]; rfl
    have hs1 : setS n (amap (·.2) qs) f = amap (·.2) qs := by unfold setS; rw [hr1, if_neg (by decide)]
    simp -dsimp -implicitDefEqProofs (disch := omega) only [go_sem]
    exact ⟨by rw [hs1]; exact RefT.mk rfl hl h2.right, hr1.symm⟩
  | true =>
    simp -dsimp -implicitDefEqProofs (disch := omega) only [go_sem]
    have h3 : St w0 (RefU B most v qs (Blk C (.cells (fdC pv f).toArray 43 (0, 0)) * F)) w2 := h2.ac (by unfold RefU; ac_rfl)
    refine (rat_any (n := n) hl h3).mono ?_
    rintro e w3 ⟨h4, z, hz, rfl⟩
    rcases hz with ⟨hx, rfl⟩ | ⟨i, hi, hin, hx, hb, rfl⟩
    · have hr1 : setE n (amap (·.2) qs) f = 100 := by unfold setE; rw [hm, hx]; rfl
      have hs1 : setS n (amap (·.2) qs) f = amap (·.2) qs := by unfold setS; rw [hr1, if_neg (by decide)]
      simp -dsimp -implicitDefEqProofs (disch := omega) only [go_sem]
      refine ⟨?_, hr1.symm⟩
      rw [hs1]
      exact RefT.mk rfl hl (h4.ent (Ent.sep (Ent.rfl' _) (Ent.sep (Ent.rfl' _) (Ent.sep (Ent.rfl' _) (Ent.right _ _)))))
    · have hr1 : setE n (amap (·.2) qs) f = 0 := by unfold setE; rw [hm, hx]; rfl
      have hs1 : setS n (amap (·.2) qs) f = aset n f (amap (·.2) qs) := by unfold setS; rw [if_pos hr1]
      have hii : (i : Int) < qs.length := by omega
      obtain ⟨g, o, c, rfl, _, _⟩ := h4.refAt hi
      have h5 := h4.drew
      simp -dsimp -implicitDefEqProofs (disch := omega) only [go_sem, h4.cl B, h5.cl B, h4.rowH C 14 rfl, h5.rowH C 14 rfl]
      refine (rown_any (p := (pv, f)) h5 hp.1 ((Ent.right _ _).trans ((Ent.right _ _).trans ((Ent.right _ _).trans ((Ent.right _ _).trans hr)))) hp.2).mono ?_
      rintro e w4 ⟨v', hv', h6, rfl⟩
      unfold fdV
      simp -dsimp -implicitDefEqProofs (disch := omega) only [go_sem, h6.cl B, h6.rowH C 14 rfl, hii]
      rw [Nat.add_assoc o]
      refine h6.rowSet (g := g) (o := o) (n := qs.length) (c := c) (k := i * 15 + 1) (m := 14) (cs := fdC v' f) rfl (by rw [flatMap_length atC_length]; omega) (fdC_cells hv') fun w5 h7 => ?_
      simp -dsimp -implicitDefEqProofs (disch := omega) only [go_sem, h7.cl B]
      refine ⟨?_, hr1.symm⟩
      rw [row_set hi] at h7
      rw [hs1]
      have e1 : qs.set i (qs[i].1, (v', f)) = aset n (v', f) qs := by rw [hin]; exact aset_first hi hin hb
      have e2 : amap (·.2) (qs.set i (qs[i].1, (v', f))) = aset n f (amap (·.2) qs) := by rw [e1]; exact (aset_amap (·.2) n ((v', f) : HF) qs).symm
      have hq : (qs.set i (qs[i].1, (v', f))).length = qs.length := by simp
      refine RefT.mk (v := .slice (some ⟨g, o, none⟩) qs.length c) e2 (by omega) ?_
      have h8 := hearts_set_at (F := Blk B (refTB most (.slice (some ⟨g, o, none⟩) qs.length c)) * (RowO 48 15 (.slice (some ⟨g, o, none⟩) qs.length c) qs.length ((qs.set i (qs[i].1, (v', f))).flatMap atC) * (F * Blk C (.cells (fdC pv f).toArray 43 (0, 0))))) (p := (v', f)) ⟨hv', hp.2⟩ (n := qs[i].1) hi (h7.ac (by ac_rfl))
      unfold RefU
      rw [hq]
      exact (h8.ac (show _ = Blk B (refTB most (.slice (some ⟨g, o, none⟩) qs.length c)) * (RowO 48 15 (.slice (some ⟨g, o, none⟩) qs.length c) qs.length ((qs.set i (qs[i].1, (v', f))).flatMap atC) * (hearts (qs.set i (qs[i].1, (v', f))) * (F * Blk C (.cells (fdC pv f).toArray 43 (0, 0))))) by ac_rfl)).ent (Ent.sep (Ent.rfl' _) (Ent.sep (Ent.rfl' _) (Ent.sep (Ent.rfl' _) (Ent.left _ _))))
end
theorem atC_take (qs : FPs) (k : Nat) : (qs.flatMap atC).take (k * 15) = (qs.take k).flatMap atC := by
  induction qs generalizing k with
  | nil => simp
  | cons x qs ih =>
    cases k with
    | zero => simp
    | succ k =>
      rw [List.flatMap_cons, show (k + 1) * 15 = (atC x).length + k * 15 by rw [atC_length]; omega, List.take_append, List.take_of_length_le (by omega), Nat.add_sub_cancel_left, ih, List.take_succ_cons, List.flatMap_cons]
theorem atC_drop : ∀ (qs : FPs) (k : Nat), (qs.flatMap atC).drop (k * 15) = (qs.drop k).flatMap atC
  | [], k => by simp
  | p :: qs, 0 => by simp
  | p :: qs, k + 1 => by
    rw [List.flatMap_cons, show (k + 1) * 15 = (atC p).length + k * 15 by rw [atC_length]; omega, List.drop_append, List.drop_eq_nil_of_le (by omega), List.nil_append, Nat.add_sub_cancel_left, atC_drop qs k]
    rfl
theorem atC_all (qs : FPs) (h : ∀ x ∈ qs, isCell x.2.1 = true) : ∀ u ∈ qs.flatMap atC, isCell u = true := by
  intro u hu
  obtain ⟨x, hx, hu⟩ := List.mem_flatMap.1 hu
  exact atC_cells (h x hx) u hu
theorem erase_first {n : Int} : ∀ {qs : FPs} {i : Nat} (hi : i < qs.length), qs[i].1 = n → (∀ k (hk : k < qs.length), k < i → qs[k].1 ≠ n) → qs.eraseIdx i = adel n qs
  | [], i, hi, _, _ => by simp at hi
  | (y, u) :: qs, i, hi, hn, hb => by
    cases i with
    | zero => simp only [List.getElem_cons_zero] at hn; subst hn; simp [adel]
    | succ i =>
      have h0 : y ≠ n := hb 0 (by simp) (by omega)
      simp only [adel, if_neg (fun e => h0 (Eq.symm e)), List.eraseIdx_cons_succ]
      rw [erase_first (by simpa using hi) (by simpa using hn) fun k hk hki => hb (k + 1) (by simpa using hk) (by omega)]
theorem hearts_erase {w0 w : World} {F : HP} : ∀ {qs : FPs} {i : Nat} (hi : i < qs.length), St w0 (hearts qs * F) w → St w0 (HeardP qs[i].2 * (hearts (qs.eraseIdx i) * F)) w
  | [], i, hi, _ => by simp at hi
  | x :: qs, 0, hi, h => (hearts_cons h).2
  | x :: qs, i + 1, hi, h => by
    have hi' : i < qs.length := by simpa using hi
    obtain ⟨hx, h1⟩ := hearts_cons h
    have h2 := hearts_erase (i := i) hi' (h1.sw2)
    have e : hearts (x :: qs.eraseIdx i) = HP.fact (Okf x.2) (HeardP x.2) * hearts (qs.eraseIdx i) := rfl
    simp only [List.eraseIdx_cons_succ, List.getElem_cons_succ]
    rw [e]
    exact ((h2.ac (show _ = HeardP x.2 * (HeardP qs[i].2 * (hearts (qs.eraseIdx i) * F)) by ac_rfl)).ent (Ent.sep (Ent.fact hx _) (Ent.rfl' _))).ac (by ac_rfl)
section
attribute [local go_sem] F45.t5_eq
theorem rtake_none {w0 w : World} {F : HP} {B : Nat} {most n : Int} {L : TL} (h : St w0 (RefT B most L * F) w) (hg : agt n L = none) :
    Calls Try.prog 45 #[.pointer (some ⟨B, 0, none⟩), .int .u32 n] w fun e w' => St w0 (RefT B most L * F) w' ∧ e = .returned (.tuple #[fdV (zF, zFid), .int .i64 100]) := by
  obtain ⟨v, qs, rfl, hl, h⟩ := RefT.open h
  refine F45.calls (by simp) ?_
  unfold F45.code
  simp -dsimp -implicitDefEqProofs (disch := omega) only [go_sem]
  refine h.new fun X w1 h1 => ?_
  simp -dsimp -implicitDefEqProofs (disch := omega) only [go_sem]
  refine h1.new fun Y w2 h2 => ?_
  have h3 : St w0 (RefU B most v qs (Blk Y (.cells (fdC zF zFid).toArray 43 (0, 0)) * (Blk X (.cells (fdC zF zFid).toArray 43 (0, 0)) * F))) w2 := h2.ac (by unfold RefU; show Blk Y (.cells (fdC zF zFid).toArray 43 (0, 0)) * (Blk X (.cells (fdC zF zFid).toArray 43 (0, 0)) * _) = _; ac_rfl)
  simp -dsimp -implicitDefEqProofs (disch := omega) only [go_sem]
  refine (rat_any (n := n) hl h3).mono ?_
  rintro e w3 ⟨h4, z, hz, rfl⟩
  rcases hz with ⟨_, rfl⟩ | ⟨i, hi, _, hx, _, rfl⟩
  case inr => rw [hg] at hx; cases hx
  simp -dsimp -implicitDefEqProofs (disch := omega) only [go_sem, h4.rowH Y 14 rfl]
  refine h4.stoAll (b := X) (cs := fdC zF zFid) rfl rfl (fdC_cells rfl) fun w5 h5 => ?_
  simp -dsimp -implicitDefEqProofs (disch := omega) only [go_sem]
  refine resC_2 (a := ⟨X, 0, none⟩) (v := fdV (zF, zFid)) (by simp -dsimp -implicitDefEqProofs only [go_sem]) (run_loadVar_row fact_aggSz_43 (by rw [h5.rowH X 14 rfl]; rfl)) ?_
  simp -dsimp -implicitDefEqProofs (disch := omega) only [go_sem]
  exact RefT.mk rfl hl (h5.ent (Ent.sep (Ent.rfl' _) (Ent.sep (Ent.rfl' _) (Ent.sep (Ent.rfl' _) ((Ent.right _ _).trans (Ent.right _ _))))))
theorem rtake_some {w0 w : World} {F : HP} {B : Nat} {most n : Int} {L : TL} {f : FidD} (h : St w0 (RefT B most L * F) w) (hg : agt n L = some f) :
    Calls Try.prog 45 #[.pointer (some ⟨B, 0, none⟩), .int .u32 n] w fun e w' => ∃ v', Okf (v', f) ∧ St w0 (HeardP (v', f) * (RefT B most (adel n L) * F)) w' ∧ e = .returned (.tuple #[fdV (v', f), .int .i64 0]) := by
  obtain ⟨v, qs, rfl, hl, h⟩ := RefT.open h
  refine F45.calls (by simp) ?_
  unfold F45.code
  simp -dsimp -implicitDefEqProofs (disch := omega) only [go_sem]
  refine h.new fun X w1 h1 => ?_
  simp -dsimp -implicitDefEqProofs (disch := omega) only [go_sem]
  refine h1.new fun Y w2 h2 => ?_
  have h3 : St w0 (RefU B most v qs (Blk Y (.cells (fdC zF zFid).toArray 43 (0, 0)) * (Blk X (.cells (fdC zF zFid).toArray 43 (0, 0)) * F))) w2 := h2.ac (by unfold RefU; show Blk Y (.cells (fdC zF zFid).toArray 43 (0, 0)) * (Blk X (.cells (fdC zF zFid).toArray 43 (0, 0)) * _) = _; ac_rfl)
  simp -dsimp -implicitDefEqProofs (disch := omega) only [go_sem]
  refine (rat_any (n := n) hl h3).mono ?_
  rintro e w3 ⟨h4, z, hz, rfl⟩
  rcases hz with ⟨hx, rfl⟩ | ⟨i, hi, hin, hx, hb, rfl⟩
  · rw [hg] at hx; cases hx
  rw [hg] at hx
  have hii : (i : Int) < qs.length := by omega
  obtain ⟨g, o, c, rfl, _, hrow⟩ := h4.refAt hi
  have hok := RefU.okf h4
  have hcs : ∀ x ∈ qs, isCell x.2.1 = true := fun x hx => (hok x hx).1
  obtain ⟨p, hp⟩ : ∃ p, p = qs[i].2 := ⟨_, rfl⟩
  have hoki := hok _ (List.getElem_mem hi)
  rw [← hp] at hrow hx hoki
  obtain ⟨pv, pf⟩ := p
  obtain rfl : f = pf := Option.some.inj hx
  simp -dsimp -implicitDefEqProofs (disch := omega) only [go_sem, h4.cl B, hrow, hii]
  refine h4.new fun Z w4 h5 => ?_
  unfold fdV
  simp -dsimp -implicitDefEqProofs (disch := omega) only [go_sem]
  refine h5.stoAll (b := Z) (cs := fdC pv f) rfl rfl (fdC_cells hoki.1) fun w5 h6 => ?_
  have h6 : St w0 (Blk Z (.cells (fdC pv f).toArray 43 (0, 0)) * RefU B most (.slice (some ⟨g, o, none⟩) qs.length c) qs (Blk Y (.cells (fdC zF zFid).toArray 43 (0, 0)) * (Blk X (.cells (fdC zF zFid).toArray 43 (0, 0)) * F))) w5 := h6
  obtain ⟨ar, cr, hvr, hcap⟩ := h6.right.right.rowForm (.slice (some ⟨g, o, none⟩) qs.length c)
  simp only [Value.slice.injEq, true_and] at hvr
  obtain ⟨rfl, rfl⟩ := hvr
  simp -dsimp -implicitDefEqProofs (disch := omega) only [go_sem, h6.cl B]
  have r1 := (h6.right.right.left.ent (RowO.reads _ _ _ _ _)).ent (Reads.sub (lo := 0) (k := i) (by omega))
  simp only [Nat.zero_mul, Option.map_some, add_lit, Nat.add_zero, Nat.sub_zero, List.drop_zero] at r1
  rw [atC_take] at r1
  have hil : (qs.take i).length = i := by simp; omega
  refine (h6.nilR 48 15).appendO fact_rowTy_28 (r1.rd.src Try.underlying28 (atC_all _ fun x hx => hcs x (List.mem_of_mem_take hx)) (fun hh => ?_)) (by simp [maxLen]; omega) (by omega) fun v5 w6 h7 => ?_
  · have := congrArg List.length hh
    rw [flatMap_length atC_length, hil] at this
    simp at this; omega
  rw [Nat.zero_add, List.nil_append] at h7
  obtain ⟨al, cl, hvl, _⟩ := h7.rowForm v5
  simp -dsimp -implicitDefEqProofs (disch := omega) only [go_sem, h7.cl B]
  have r2 := (h7.right.right.right.left.ent (RowO.reads _ _ _ _ _)).ent (Reads.sub (lo := i + 1) (k := qs.length - (i + 1)) (by omega))
  rw [atC_drop, List.take_of_length_le (by rw [flatMap_length atC_length]; simp)] at r2
  simp only [Option.map_some, add_lit] at r2
  have e1 : ((i : Int) + 1).toNat = i + 1 := by omega
  rw [e1]
  refine h7.appendO fact_rowTy_28 (r2.rd.src Try.underlying28 (atC_all _ fun x hx => hcs x (List.mem_of_mem_drop hx)) (fun hh => ?_)) (by simp [maxLen]; omega) (by omega) fun v6 w7 h8 => ?_
  · have := congrArg List.length hh
    rw [flatMap_length atC_length] at this
    simp at this; omega
  have hn : i + (qs.length - (i + 1)) = (qs.eraseIdx i).length := by rw [List.length_eraseIdx, if_pos hi]; omega
  rw [← List.flatMap_append, ← List.eraseIdx_eq_take_drop_succ, hn] at h8
  obtain ⟨a6, c6, hv6, _⟩ := h8.rowForm v6
  simp -dsimp -implicitDefEqProofs (disch := omega) only [go_sem, h8.cl B]
  refine h8.sto (b := B) (off := 1) (by simp) (by rw [hv6]; rfl) fun w8 h9 => ?_
  simp only [List.setIfInBounds_toArray, List.set_cons_succ, List.set_cons_zero] at h9
  have h9 : St w0 (RowO 48 15 v6 (qs.eraseIdx i).length ((qs.eraseIdx i).flatMap atC) * (Blk Z (.cells (fdC pv f).toArray 43 (0, 0)) * (Blk B (refTB most v6) * (RowO 48 15 (.slice (some ⟨g, o, none⟩) qs.length c) qs.length (qs.flatMap atC) * (hearts qs * (Blk Y (.cells (fdC zF zFid).toArray 43 (0, 0)) * (Blk X (.cells (fdC zF zFid).toArray 43 (0, 0)) * F))))))) w8 := h9
  simp -dsimp -implicitDefEqProofs (disch := omega) only [go_sem, h9.rowH Z 14 rfl]
  refine h9.stoAll (b := X) (cs := fdC pv f) rfl rfl (fdC_cells hoki.1) fun w9 h10 => ?_
  simp -dsimp -implicitDefEqProofs (disch := omega) only [go_sem]
  refine resC_2 (a := ⟨X, 0, none⟩) (v := fdV (pv, f)) (by simp -dsimp -implicitDefEqProofs only [go_sem]) (run_loadVar_row fact_aggSz_43 (by rw [h10.rowH X 14 rfl]; rfl)) ?_
  refine ⟨pv, hoki, ?_, by unfold fdV; simp -dsimp -implicitDefEqProofs only [go_sem]⟩
  have h11 := hearts_erase hi (h10.ac (show _ = hearts qs * (Blk B (refTB most v6) * (RowO 48 15 v6 (qs.eraseIdx i).length ((qs.eraseIdx i).flatMap atC) * (F * (Blk Z (.cells (fdC pv f).toArray 43 (0, 0)) * (RowO 48 15 (.slice (some ⟨g, o, none⟩) qs.length c) qs.length (qs.flatMap atC) * (Blk Y (.cells (fdC zF zFid).toArray 43 (0, 0)) * Blk X (.cells (fdC pv f).toArray 43 (0, 0)))))))) by ac_rfl))
  rw [← hp] at h11
  have e2 : amap (·.2) (qs.eraseIdx i) = adel n (amap (·.2) qs) := by rw [erase_first hi hin hb]; exact (adel_amap (·.2) n qs).symm
  have h12 := RefT.mk (B := B) (most := most) (v := v6) (F := HeardP (pv, f) * F) e2 (by rw [List.length_eraseIdx]; split <;> omega) ((h11.ent (Ent.sep (Ent.rfl' _) (Ent.sep (Ent.rfl' _) (Ent.sep (Ent.rfl' _) (Ent.sep (Ent.rfl' _) (Ent.left _ _)))))).ac (by unfold RefU; ac_rfl))
  exact h12.ac (by ac_rfl)
end
theorem St.refRow {w0 w : World} {B : Nat} {most : Int} {qs : FPs} {F : HP} {g o c : Nat} (h : St w0 (RefU B most (.slice (some ⟨g, o, none⟩) qs.length c) qs F) w) {i : Nat} (hi : i < qs.length) :
    rowV w ⟨g, o + i * 15, none⟩ 15 = some (.agg (atC qs[i]).toArray) ∧ w.cell? ⟨g, o + i * 15, none⟩ = some (.int .u32 qs[i].1) := by
  obtain ⟨_, a, c', hv, _, hat⟩ := St.rowsAt (enc := atC) (l := qs) (k := 15) atC_length (by decide) (h.right.left.ent (RowO.reads _ _ _ _ _))
  obtain ⟨g', o', ha, hr, hc⟩ := hat i hi
  simp only [Value.slice.injEq, true_and] at hv
  obtain ⟨rfl, rfl⟩ := hv
  simp only [Option.some.injEq, Addr.mk.injEq, and_true] at ha
  obtain ⟨rfl, rfl⟩ := ha
  exact ⟨hr, hc 0 (by decide)⟩
theorem ins_at {n : Int} {f : FidD} {L : TL} {i : Nat} (hi : i ≤ L.length) (hb : ∀ k (hk : k < L.length), k < i → L[k].1 < n) (he : ∀ hk : i < L.length, ¬ L[i].1 < n) : insR n f L = L.take i ++ (n, f) :: L.drop i := by
  unfold insR
  have h1 : L.takeWhile (fun x => decide (x.1 < n)) = L.take i ∧ L.dropWhile (fun x => decide (x.1 < n)) = L.drop i := by
    induction L generalizing i with
    | nil => simp
    | cons x L ih =>
      cases i with
      | zero =>
        have := he (by simp)
        simp only [List.getElem_cons_zero] at this
        simp [List.takeWhile_cons, List.dropWhile_cons, this]
      | succ i =>
        have h0 := hb 0 (by simp) (by omega)
        simp only [List.getElem_cons_zero] at h0
        obtain ⟨a, b⟩ := ih (i := i) (by simpa using hi) (fun k hk hki => hb (k + 1) (by simpa using hk) (by omega)) (fun hk => he (by simpa using hk))
        simp [List.takeWhile_cons, List.dropWhile_cons, h0, a, b]
  rw [h1.1, h1.2]
def raddS (n most : Int) (L : TL) (f : FidD) : TL := if addE n most L f = 0 then insR n f L else L
theorem hearts_ins {w0 w : World} {F : HP} {p : HF} {n : Int} (hp : Okf p) {qs : FPs} (i : Nat) (h : St w0 (HeardP p * (hearts qs * F)) w) : St w0 (hearts (qs.take i ++ (n, p) :: qs.drop i) * F) w := by
  have h1 : St w0 (hearts (qs.take i ++ qs.drop i) * (HeardP p * F)) w := by rw [List.take_append_drop]; exact h.ac (by ac_rfl)
  have h2 : St w0 (hearts (qs.take i) * (hearts (qs.drop i) * (HeardP p * F))) w := (stars_append _ _ _).1 h1
  refine (stars_append _ _ _).2 ?_
  have e : hearts ((n, p) :: qs.drop i) = HP.fact (Okf p) (HeardP p) * hearts (qs.drop i) := rfl
  show St w0 (hearts (qs.take i) * (hearts ((n, p) :: qs.drop i) * F)) w
  rw [e]
  exact ((h2.ac (show _ = HeardP p * (hearts (qs.take i) * (hearts (qs.drop i) * F)) by ac_rfl)).ent (Ent.sep (Ent.fact hp _) (Ent.rfl' _))).ac (by ac_rfl)
section
attribute [local go_sem] F61.t13_eq F61.t14_eq F61.t10_eq F61.t8_eq F61.t5_eq F61.t3_eq
theorem radd_t15 {w0 w : World} {F : HP} {B C i c : Nat} {a : Option Addr} {most n : Int} {v8 pv : Value} {f : FidD} {qs : FPs} {e : FA} (hl : qs.length < 1048576) (hp : Okf (pv, f)) (hr : Ent F (HeardR (pv, f))) (hi : i ≤ qs.length)
    (hd : e.ds = []) (e0 : e.ρ 0 = .pointer (some ⟨B, 0, none⟩)) (e1 : e.ρ 1 = .int .u32 n) (e5 : e.ρ 5 = .pointer (some ⟨C, 0, none⟩)) (e7 : e.ρ 7 = .int .i64 i) (e8 : e.ρ 8 = v8)
    (h : St w0 (RowO 48 15 v8 i ((qs.take i).flatMap atC) * (Blk C (.cells (fdC pv f).toArray 43 (0, 0)) * RefU B most (.slice a qs.length c) qs F)) w) {R : Ending → World → Prop}
    (hR : ∀ v' w', isCell v' = true → St w0 (RefT B most (amap (·.2) (qs.take i ++ (n, (v', f)) :: qs.drop i)) * F) w' → R (.returned (.int .i64 0)) w') :
    cwE Try.prog F61.t15 (fnP Try.prog #[.tmp 6] R) e w := by
  rw [F61.t15_eq]
  have hrow := h.right.rowH C 14 rfl
  simp -dsimp -implicitDefEqProofs (disch := omega) only [go_sem, hd, e0, e1, e5, e7, e8, h.rowH C 14 rfl]
  refine (rown_any (p := (pv, f)) h hp.1 ((Ent.right _ _).trans ((Ent.right _ _).trans ((Ent.right _ _).trans ((Ent.right _ _).trans ((Ent.right _ _).trans hr))))) hp.2).mono ?_
  rintro e' w2 ⟨v', hv', h2, rfl⟩
  unfold fdV
  simp -dsimp -implicitDefEqProofs (disch := omega) only [go_sem, hd, e0, e1, e5, e7, e8]
  have hcs : ∀ x ∈ qs, isCell x.2.1 = true := fun x hx => (RefU.okf h.right.right x hx).1
  refine onV_of (v := .agg (atC (n, (v', f))).toArray) (by kernel_rfl) ?_
  simp -dsimp -implicitDefEqProofs (disch := omega) only [go_sem, hd, e0, e1, e5, e7, e8]
  refine h2.lit (t := 28) (n := 1) (cells := atC (n, (v', f))) fact_rowTy_28 rfl (by decide) (by decide) fun v3 w3 h3 => ?_
  simp -dsimp -implicitDefEqProofs (disch := omega) only [go_sem, hd, e0, e1, e5, e7, e8]
  refine h3.appR (v := v8) (x := v3) fact_rowTy_28 Try.underlying28 (atC_cells hv') (fun hh => by cases hh) (by simp only [maxLen]; omega) (by omega) fun v4 w4 h4 => ?_
  have h4 : St w0 (RowO 48 15 v3 1 (atC (n, (v', f))) * (HeardP (v', f) * (RowO 48 15 v4 (i + 1) ((qs.take i).flatMap atC ++ atC (n, (v', f))) * (Blk C (.cells (fdC pv f).toArray 43 (0, 0)) * RefU B most (.slice a qs.length c) qs F)))) w4 := h4
  obtain ⟨a4, c4, rfl, _⟩ := h4.rowForm v4
  obtain ⟨ar, cr, hvr, hcap⟩ := h4.right.right.right.right.rowForm (.slice a qs.length c)
  simp only [Value.slice.injEq, true_and] at hvr
  obtain ⟨rfl, rfl⟩ := hvr
  simp -dsimp -implicitDefEqProofs (disch := omega) only [go_sem, hd, e0, e1, e5, e7, e8, h4.cl B]
  have r2 := (h4.right.right.right.right.right.left.ent (RowO.reads _ _ _ _ _)).ent (Reads.sub (lo := i) (k := qs.length - i) (by omega))
  rw [atC_drop, List.take_of_length_le (by rw [flatMap_length atC_length]; simp)] at r2
  refine St.appendO (v := .slice a4 (i + 1) c4) (h4.ac (show _ = RowO 48 15 (.slice a4 (i + 1) c4) (i + 1) ((qs.take i).flatMap atC ++ atC (n, (v', f))) * (RowO 48 15 v3 1 (atC (n, (v', f))) * (HeardP (v', f) * (Blk C (.cells (fdC pv f).toArray 43 (0, 0)) * RefU B most (.slice a qs.length c) qs F))) by ac_rfl)) fact_rowTy_28 (r2.rd.src Try.underlying28 (atC_all _ fun x hx => hcs x (List.mem_of_mem_drop hx)) (fun hh => ?_)) (by simp only [maxLen]; omega) (by omega) fun v6 w6 h6 => ?_
  · have := congrArg List.length hh
    rw [flatMap_length atC_length] at this
    simp at this; omega
  obtain ⟨a6, c6, hv6, _⟩ := h6.rowForm v6
  simp -dsimp -implicitDefEqProofs (disch := omega) only [go_sem, hd, e0, e1, e5, e7, e8]
  refine h6.sto (b := B) (off := 1) (by simp) (by rw [hv6]; rfl) fun w8 h9 => ?_
  simp only [List.setIfInBounds_toArray, List.set_cons_succ, List.set_cons_zero] at h9
  simp -dsimp -implicitDefEqProofs (disch := omega) only [go_sem, hd, e0, e1, e5, e7, e8]
  have hfl : (qs.take i ++ (n, (v', f)) :: qs.drop i).flatMap atC = ((qs.take i).flatMap atC ++ atC (n, (v', f))) ++ (qs.drop i).flatMap atC := by rw [List.flatMap_append, List.flatMap_cons, List.append_assoc]
  have hln : (qs.take i ++ (n, (v', f)) :: qs.drop i).length = i + 1 + (qs.length - i) := by simp; omega
  refine hR v' _ hv' ?_
  refine RefT.mk (v := v6) rfl (by omega) ?_
  unfold RefU
  rw [hfl, hln]
  have h10 : St w0 (RowO 48 15 v6 (i + 1 + (qs.length - i)) (((qs.take i).flatMap atC ++ atC (n, (v', f))) ++ (qs.drop i).flatMap atC) * (RowO 48 15 v3 1 (atC (n, (v', f))) * (HeardP (v', f) * (Blk C (.cells (fdC pv f).toArray 43 (0, 0)) * (Blk B (refTB most v6) * (RowO 48 15 (.slice a qs.length c) qs.length (qs.flatMap atC) * (hearts qs * F))))))) w8 := h9
  have h11 := hearts_ins (n := n) (p := (v', f)) ⟨hv', hp.2⟩ i (h10.ac (show _ = HeardP (v', f) * (hearts qs * (Blk B (refTB most v6) * (RowO 48 15 v6 (i + 1 + (qs.length - i)) (((qs.take i).flatMap atC ++ atC (n, (v', f))) ++ (qs.drop i).flatMap atC) * (F * (RowO 48 15 v3 1 (atC (n, (v', f))) * (Blk C (.cells (fdC pv f).toArray 43 (0, 0)) * RowO 48 15 (.slice a qs.length c) qs.length (qs.flatMap atC))))))) by ac_rfl))
  exact (h11.ent (Ent.sep (Ent.rfl' _) (Ent.sep (Ent.rfl' _) (Ent.sep (Ent.rfl' _) (Ent.left _ _))))).ac (by ac_rfl)
end
section
attribute [local go_sem] F61.t13_eq F61.t14_eq F61.t10_eq F61.t8_eq F61.t5_eq F61.t3_eq
theorem radd_any {w0 w : World} {F : HP} {B : Nat} {most n : Int} {L : TL} {p : HF} (h : St w0 (RefT B most L * F) w) (hl0 : L.length < 1048576) (hp : Okf p) (hr : Ent F (HeardR p)) :
    Calls Try.prog 61 #[.pointer (some ⟨B, 0, none⟩), .int .u32 n, fdV p] w fun e w' => St w0 (RefT B most (raddS n most L p.2) * F) w' ∧ e = .returned (.int .i64 (addE n most L p.2)) := by
  obtain ⟨pv, f⟩ := p
  obtain ⟨v, qs, rfl, hl, h⟩ := RefT.open h
  have hpc : isCell pv = true := hp.1
  have hle : (amap (fun p : HF => p.2) qs).length = qs.length := by simp [amap]
  rw [hle] at hl0
  have no : ∀ {z : Int}, addE n most (amap (·.2) qs) f = z → z ≠ 0 → raddS n most (amap (·.2) qs) f = amap (·.2) qs := fun e hz => by unfold raddS; rw [e, if_neg hz]
  refine F61.calls (by simp) ?_
  unfold F61.code
  unfold fdV
  simp -dsimp -implicitDefEqProofs (disch := omega) only [go_sem]
  refine h.new fun C w1 h1 => ?_
  have h1 : St w0 (Blk C (.cells (fdC pv f).toArray 43 (0, 0)) * RefU B most v qs F) w1 := h1
  have hrow := h1.rowH C 14 rfl
  simp -dsimp -implicitDefEqProofs (disch := omega) only [go_sem, hrow]
  refine (ris_any (p := (pv, f)) h1).mono ?_
  rintro e w2 ⟨h2, rfl⟩
  cases hm : mayB f with
  | false =>
    have hr1 : addE n most (amap (·.2) qs) f = 1 := by unfold addE; rw [hm]; rfl
    simp -dsimp -implicitDefEqProofs (disch := omega) only [go_sem]
    exact ⟨by rw [no hr1 (by decide)]; exact RefT.mk rfl hl h2.right, hr1.symm⟩
  | true =>
    have hr0 : addE n most (amap (·.2) qs) f = freeE n most (amap (·.2) qs) := by unfold addE; rw [hm]; rfl
    by_cases k1 : n = 4294967295
    · have hr1 : addE n most (amap (·.2) qs) f = 103 := by rw [hr0]; unfold freeE; rw [if_pos k1]
      simp -dsimp -implicitDefEqProofs (disch := omega) only [go_sem, k1]
      rw [k1] at hr1 no
      exact ⟨by rw [no hr1 (by decide)]; exact RefT.mk rfl hl h2.right, hr1.symm⟩
    simp -dsimp -implicitDefEqProofs (disch := omega) only [go_sem, k1]
    have h3 : St w0 (RefU B most v qs (Blk C (.cells (fdC pv f).toArray 43 (0, 0)) * F)) w2 := h2.ac (by unfold RefU; ac_rfl)
    have back : ∀ {w : World}, St w0 (RefU B most v qs (Blk C (.cells (fdC pv f).toArray 43 (0, 0)) * F)) w → St w0 (RefT B most (amap (·.2) qs) * F) w := fun h => RefT.mk rfl hl (h.ent (Ent.sep (Ent.rfl' _) (Ent.sep (Ent.rfl' _) (Ent.sep (Ent.rfl' _) (Ent.right _ _)))))
    refine (rat_any (n := n) hl h3).mono ?_
    rintro e w3 ⟨h4, z, hz, rfl⟩
    rcases hz with ⟨hx, rfl⟩ | ⟨i, hi, hin, hx, hb, rfl⟩
    case inr =>
      have hr1 : addE n most (amap (·.2) qs) f = 101 := by rw [hr0]; unfold freeE; rw [if_neg k1, hx, if_pos (by rfl)]
      simp -dsimp -implicitDefEqProofs (disch := omega) only [go_sem, k1]
      exact ⟨by rw [no hr1 (by decide)]; exact back h4, hr1.symm⟩
    obtain ⟨a, c, rfl, _⟩ := h4.right.rowForm v
    have h5 := h4.drew
    by_cases k3 : most ≤ (qs.length : Int)
    · have hr1 : addE n most (amap (·.2) qs) f = 102 := by rw [hr0]; unfold freeE; rw [if_neg k1, hx, if_neg (by simp), if_pos (by rw [hle]; exact k3)]
      simp -dsimp -implicitDefEqProofs (disch := omega) only [go_sem, k1, h4.cl B, h5.cl B, k3]
      exact ⟨by rw [no hr1 (by decide)]; exact back h5, hr1.symm⟩
    have hr1 : addE n most (amap (·.2) qs) f = 0 := by rw [hr0]; unfold freeE; rw [if_neg k1, hx, if_neg (by simp), if_neg (by rw [hle]; exact k3)]
    have hs1 : raddS n most (amap (·.2) qs) f = insR n f (amap (·.2) qs) := by unfold raddS; rw [if_pos hr1]
    simp -dsimp -implicitDefEqProofs (disch := omega) only [go_sem, k1, h4.cl B, h5.cl B, k3]
    have h6 : St w0 (RowO 48 15 (.slice none 0 0) 0 ((qs.take 0).flatMap atC) * (Blk C (.cells (fdC pv f).toArray 43 (0, 0)) * RefU B most (.slice a qs.length c) qs F)) w3.drew := (h5.nilR 48 15).ac (by unfold RefU; show RowO 48 15 (.slice none 0 0) 0 [] * _ = RowO 48 15 (.slice none 0 0) 0 [] * _; ac_rfl)
    refine loop_intro (fun e w' => e.ds = [] ∧ e.ρ 0 = .pointer (some ⟨B, 0, none⟩) ∧ e.ρ 1 = .int .u32 n ∧ e.ρ 5 = .pointer (some ⟨C, 0, none⟩) ∧ ∃ (i : Nat) (v8 : Value), i ≤ qs.length ∧ e.ρ 7 = .int .i64 i ∧ e.ρ 8 = v8 ∧ (∀ k (hk : k < qs.length), k < i → qs[k].1 < n) ∧
        St w0 (RowO 48 15 v8 i ((qs.take i).flatMap atC) * (Blk C (.cells (fdC pv f).toArray 43 (0, 0)) * RefU B most (.slice a qs.length c) qs F)) w')
      (fun e _ => match e.ρ 7 with | .int _ k => (qs.length - k).toNat | _ => 0) ?_ ?_
    · exact ⟨by simp -dsimp -implicitDefEqProofs only [go_sem], by simp -dsimp -implicitDefEqProofs only [go_sem], by simp -dsimp -implicitDefEqProofs only [go_sem], by simp -dsimp -implicitDefEqProofs only [go_sem], 0, _, by omega, by simp -dsimp -implicitDefEqProofs only [go_sem], by simp -dsimp -implicitDefEqProofs only [go_sem], fun k _ hk => absurd hk (by omega), h6⟩
    clear h h1 h2 h3 h4 h5 h6 hrow
    rintro e w ⟨hd, e0, e1, e5, i, v8, hi, e7, e8, hb, h⟩
    have fin : ∀ {e : FA} {w : World}, (∀ hk : i < qs.length, ¬ qs[i].1 < n) → e.ds = [] → e.ρ 0 = .pointer (some ⟨B, 0, none⟩) → e.ρ 1 = .int .u32 n → e.ρ 5 = .pointer (some ⟨C, 0, none⟩) → e.ρ 7 = .int .i64 i → e.ρ 8 = v8 →
        St w0 (RowO 48 15 v8 i ((qs.take i).flatMap atC) * (Blk C (.cells (fdC pv f).toArray 43 (0, 0)) * RefU B most (.slice a qs.length c) qs F)) w →
        cwE Try.prog F61.t15 (fnP Try.prog #[.tmp 6] fun e w' => St w0 (RefT B most (raddS n most (amap (·.2) qs) f) * F) w' ∧ e = .returned (.int .i64 (addE n most (amap (·.2) qs) f))) e w := fun he hd e0 e1 e5 e7 e8 h =>
      radd_t15 hl0 hp hr hi hd e0 e1 e5 e7 e8 h fun v' w' hv' h' => by
        refine ⟨?_, by rw [hr1]⟩
        rw [hs1, ins_at (i := i) (by rw [hle]; exact hi) (fun k hk hki => by have := hb k (by simpa [amap] using hk) hki; simpa [amap] using this) (fun hk => by have := he (by simpa [amap] using hk); simpa [amap] using this)]
        have e2 : amap (fun p : HF => p.2) (qs.take i ++ (n, (v', f)) :: qs.drop i) = (amap (fun p : HF => p.2) qs).take i ++ (n, f) :: (amap (fun p : HF => p.2) qs).drop i := by simp [amap, List.map_append, List.map_take, List.map_drop]
        rw [← e2]
        exact h'
    by_cases hlt : (i : Int) < qs.length
    case neg =>
      simp -dsimp -implicitDefEqProofs (disch := omega) only [go_sem, hd, e0, e1, e5, e7, e8, h.cl B, hlt]
      exact fin (fun hk => by omega) (by simp -dsimp -implicitDefEqProofs only [go_sem, hd]) (by simp -dsimp -implicitDefEqProofs only [go_sem, e0]) (by simp -dsimp -implicitDefEqProofs only [go_sem, e1]) (by simp -dsimp -implicitDefEqProofs only [go_sem, e5]) (by simp -dsimp -implicitDefEqProofs only [go_sem, e7]) (by simp -dsimp -implicitDefEqProofs only [go_sem, e8]) h
    have hil : i < qs.length := by omega
    obtain ⟨g, o, c', hv, _, _⟩ := (h.right.right).refAt hil
    simp only [Value.slice.injEq, true_and] at hv
    obtain ⟨rfl, rfl⟩ := hv
    obtain ⟨hrow, c0⟩ := (h.right.right).refRow hil
    by_cases hn : qs[i].1 < n
    case neg =>
      simp -dsimp -implicitDefEqProofs (disch := omega) only [go_sem, hd, e0, e1, e5, e7, e8, h.cl B, hlt, c0, hn]
      exact fin (fun hk => hn) (by simp -dsimp -implicitDefEqProofs only [go_sem, hd]) (by simp -dsimp -implicitDefEqProofs only [go_sem, e0]) (by simp -dsimp -implicitDefEqProofs only [go_sem, e1]) (by simp -dsimp -implicitDefEqProofs only [go_sem, e5]) (by simp -dsimp -implicitDefEqProofs only [go_sem, e7]) (by simp -dsimp -implicitDefEqProofs only [go_sem, e8]) h
    obtain ⟨a8, c8, rfl, _⟩ := h.rowForm v8
    simp -dsimp -implicitDefEqProofs (disch := omega) only [go_sem, hd, e0, e1, e5, e7, e8, h.cl B, hlt, c0, hn, hrow]
    have hcs : isCell qs[i].2.1 = true := (RefU.okf h.right.right _ (List.getElem_mem hil)).1
    refine h.lit (t := 28) (n := 1) (cells := atC qs[i]) fact_rowTy_28 rfl (by decide) (by decide) fun v3 w3 h3 => ?_
    simp -dsimp -implicitDefEqProofs (disch := omega) only [go_sem, hd, e0, e1, e5, e7, e8]
    refine h3.appR (v := .slice a8 i c8) (x := v3) fact_rowTy_28 Try.underlying28 (atC_cells hcs) (fun hh => by cases hh) (by simp only [maxLen]; omega) (by omega) fun v4 w4 h4 => ?_
    simp -dsimp -implicitDefEqProofs (disch := omega) only [go_sem, hd, e0, e1, e5, e7, e8]
    refine ⟨⟨i + 1, v4, by omega, by omega, rfl, fun k hk hki => ?_, ?_⟩, by omega⟩
    · rcases Nat.lt_or_ge k i with h1 | h1
      · exact hb k hk h1
      · have : k = i := by omega
        subst this; exact hn
    · rw [List.take_succ_eq_append_getElem hil, List.flatMap_append, List.flatMap_cons, List.flatMap_nil, List.append_nil]
      exact h4.right
end
end Go.Proofs.Ytljndiligbaljaa
