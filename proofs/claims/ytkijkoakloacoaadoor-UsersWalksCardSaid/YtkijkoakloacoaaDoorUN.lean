/- law06: UsersWalks: a round within a round. law06: UsersWalks: a round. law06: UsersWalks, whole. -/
import Derived.Test.YtkijkoakloacoaaDoorUM
import Derived.Test.YtkijkoakloacoaaDoorUF
namespace Go.Proofs.YtkijkoakloacoaaDoor
open Go
set_option linter.unusedVariables false
set_option linter.unusedSimpArgs false
set_option maxRecDepth 100000

theorem St.bookUp {w0 w : World} {A R : HP} {B n n' : Nat} (h : St w0 A w) [i : Pull A (BookP B n) R] (l : n ≤ n') : St w0 (BookP B n' * R) w := by
  have h1 : St w0 (BookP B n * R) w := h.ac i.eq
  obtain ⟨x, ok, h2⟩ := BookP.open h1
  have hf := ok.few
  exact BookP.col (B := B) (n := n') x.vl x.vm x.vh x.vt x.vf x.vw x.E x.hs x.fs x.Gs h2 ⟨ok.e, ok.h, ok.f, by simp only; omega⟩
theorem pre_at {L : List AV} {pre : List Acc} {y : Acc} (h : ∃ post, (pre ++ [y]) ++ post = accs L) : ∃ hi : pre.length < L.length, L[pre.length].1 = y := by
  obtain ⟨post, hp⟩ := h
  have hl := congrArg List.length hp
  simp only [List.length_append, List.length_cons, List.length_nil, List.length_map] at hl
  refine ⟨by omega, ?_⟩
  have h1 : (accs L)[pre.length]? = some y := by rw [← hp]; simp
  rw [List.getElem?_map, List.getElem?_eq_getElem (by omega)] at h1
  simpa using h1

/-- The cells of UsersWalks. -/
abbrev WFix (C2 R4 C11 C12 C13 C14 K Bk : Nat) (vl : Value) (k i : Nat) : HP :=
  cellA C2 vl * (Blk R4 (.cells #[.bool false] 4 (0, 0)) * (Blk C11 (.cells #[.func (.func 51) #[] #[.pointer (some ⟨K, 0, none⟩)]] 42 (0, 0)) * (cellBk C12 Bk * (cellI C13 k * cellI C14 i))))
abbrev WI (C2 R4 C11 C12 C13 C14 C17 P K Bk : Nat) (vl v : Value) (y : Acc) (k i c j : Nat) : HP :=
  WFix C2 R4 C11 C12 C13 C14 K Bk vl k i * (bkA P y v * (cellI C17 j * BookP Bk (c + j)))
structure WkE (e : FA) (C2 R4 C11 C12 C13 C14 : Nat) : Prop where
  l : e.ρ 2 = .pointer (some ⟨C2, 0, none⟩)
  r : e.ρ 4 = .pointer (some ⟨R4, 0, none⟩)
  all : e.ρ 11 = .pointer (some ⟨C11, 0, none⟩)
  book : e.ρ 12 = .pointer (some ⟨C12, 0, none⟩)
  k : e.ρ 13 = .pointer (some ⟨C13, 0, none⟩)
  n : e.ρ 14 = .pointer (some ⟨C14, 0, none⟩)

section
attribute [local go_sem] F5.t35_eq F5.t13_eq F5.t10_eq F5.t7_eq F5.t3_eq
theorem walks_inner {w0 : World} {A : HP} {C2 R4 C11 C12 C13 C14 C17 P T m K Bk k i c : Nat} {v : Value} {y : Acc} {x : UT} {L : List AV} {a1 : Option Addr} {c1 : Nat} {e : FA} (hE : WkE e C2 R4 C11 C12 C13 C14) (e17 : e.ρ 17 = .pointer (some ⟨C17, 0, none⟩))
    (hv : Ent A (ReadsA (.slice a1 L.length c1) L)) (hL : accs x.L = accs L) (ok : x.Ok) (hn : L.length ≤ 16777216) (hc : c + L.length ≤ 100000000) (hk : k ≤ L.length + 1) :
    RoundOkA Tryd.prog w0 e #[95] F5.a0 F5.b0 PassC (fun pre => ∃ post, pre ++ post = accs x.L)
      (fun pre => HP.fact (pre.length < k) (WI C2 R4 C11 C12 C13 C14 C17 P K Bk (.slice a1 L.length c1) v y k i c pre.length * A) * AllT K T m x)
      (fun cd pre => HP.fact (cd = .exit 2 ∧ pre.length = k ∧ pre.length ≤ L.length) (WI C2 R4 C11 C12 C13 C14 C17 P K Bk (.slice a1 L.length c1) v y k i c pre.length * A) * AllT K T m x) := by
  obtain ⟨e2, e4, e11, e12, e13, e14⟩ := hE
  intro q pre z args G W1 hpo h6
  rw [hL] at hpo
  obtain ⟨hpl, hz⟩ := pre_at hpo
  have h6 : St w0 (HP.fact (pre.length < k) (WI C2 R4 C11 C12 C13 C14 C17 P K Bk (.slice a1 L.length c1) v y k i c pre.length * A) * (ptrB K T * TabW T m x) * (PassC z args * G)) W1 := h6
  obtain ⟨vz, rfl, h7⟩ := PassC.open (h6.ac (by ac_rfl : _ = PassC z args * (HP.fact (pre.length < k) (WI C2 R4 C11 C12 C13 C14 C17 P K Bk (.slice a1 L.length c1) v y k i c pre.length * A) * (ptrB K T * TabW T m x) * G)))
  obtain ⟨av, cv, rfl, _⟩ := h7.rowForm vz
  refine ⟨rfl, ?_⟩
  unfold F5.a0
  simp -dsimp -implicitDefEqProofs (disch := omega) only [go_sem, reqD_of, dec_t, dec_f, wrap_i64, wrap_u32, wrap_u64, wrap_u8, List.toList_toArray]
  refine h6.new fun P2 w5 h8 => ?_
  simp -dsimp -implicitDefEqProofs (disch := omega) only [go_sem, reqD_of, dec_t, dec_f, wrap_i64, wrap_u32, wrap_u64, wrap_u8]
  refine h8.stoAll (b := P2) (n := 4) (cs := accL z (.slice av z.members.length cv)) rfl rfl (fun v hv => by simp at hv; rcases hv with rfl | rfl | rfl | rfl <;> rfl) fun w6 h9 => ?_
  simp -dsimp -implicitDefEqProofs (disch := omega) only [go_sem, reqD_of, dec_t, dec_f, wrap_i64, wrap_u32, wrap_u64, wrap_u8]
  refine ⟨bkA P2 z (.slice av z.members.length cv), h9, fun G2 W2 hl2 h10 => ?_⟩
  clear h6 h7 h8 h9
  have hfz : Fit z := by
    obtain ⟨post, hp⟩ := hpo
    have : z ∈ accs x.L := by rw [hL, ← hp]; simp
    obtain ⟨u, hu, rfl⟩ := List.mem_map.1 this
    exact (ok.ms u hu).2.1
  have h10 : St w0 (bkA P2 z (.slice av z.members.length cv) * (HP.fact (pre.length < k) (WI C2 R4 C11 C12 C13 C14 C17 P K Bk (.slice a1 L.length c1) v y k i c pre.length * A) * (ptrB K T * TabW T m x) * (PassC z #[accV z (.slice av z.members.length cv)] * G2))) W2 := h10
  obtain ⟨hjk, h11⟩ := (h10.ac (by ac_rfl : _ = HP.fact (pre.length < k) (WI C2 R4 C11 C12 C13 C14 C17 P K Bk (.slice a1 L.length c1) v y k i c pre.length * A) * (bkA P2 z (.slice av z.members.length cv) * ((ptrB K T * TabW T m x) * (PassC z #[accV z (.slice av z.members.length cv)] * G2))))).factF
  obtain ⟨v', e', h12⟩ := PassC.open (h11.ac (by ac_rfl : _ = PassC z #[accV z (.slice av z.members.length cv)] * ((WI C2 R4 C11 C12 C13 C14 C17 P K Bk (.slice a1 L.length c1) v y k i c pre.length * A) * (bkA P2 z (.slice av z.members.length cv) * ((ptrB K T * TabW T m x) * G2)))))
  have e' := accV_inj e'
  subst e'
  have h13 : St w0 (rowT (.slice av z.members.length cv) z.members * ((WFix C2 R4 C11 C12 C13 C14 K Bk (.slice a1 L.length c1) k i * (bkA P y v * (cellI C17 pre.length * BookP Bk (c + pre.length))) * A) * (bkA P2 z (.slice av z.members.length cv) * ((ptrB K T * TabW T m x) * G2)))) W2 := h12
  clear h10 h11 h12
  obtain ⟨j, hj⟩ : ∃ j, j = pre.length := ⟨_, rfl⟩
  have hpj : (pre ++ [z]).length = j + 1 := by rw [hj]; simp
  rw [← hj] at h13 hjk
  simp only [← hj] at hpl hz
  obtain ⟨b, o, rfl⟩ : ∃ b o, a1 = some ⟨b, o, none⟩ := by
    obtain ⟨a', c', q1, q2⟩ := rdA_form (h13.ent ((Ent.right _ _).trans ((Ent.left _ _).trans (Ent.right _ _)))) hv
    simp only [Value.slice.injEq, true_and] at q1
    obtain ⟨rfl, rfl⟩ := q1
    exact q2 _ hpl
  unfold WFix at h13
  have h14 : St w0 (rowT (.slice av z.members.length cv) z.members * (bkA P2 z (.slice av z.members.length cv) * (cellA C2 (.slice (some ⟨b, o, none⟩) L.length c1) * (Blk R4 (.cells #[.bool false] 4 (0, 0)) * (Blk C11 (.cells #[.func (.func 51) #[] #[.pointer (some ⟨K, 0, none⟩)]] 42 (0, 0)) *
    (cellBk C12 Bk * (cellI C13 k * (cellI C14 i * (bkA P y v * (cellI C17 j * (BookP Bk (c + j) * (A * ((ptrB K T * TabW T m x) * G2))))))))))))) W2 := h13.ac (by ac_rfl)
  clear h13
  have gA : ∀ {B1 B2 B3 B4 B5 B6 B7 B8 B9 B10 B11 B12 : HP} {w : World}, St w0 (B1 * (B2 * (B3 * (B4 * (B5 * (B6 * (B7 * (B8 * (B9 * (B10 * (B11 * (A * B12)))))))))))) w → St w0 A w := fun h => h.right.right.right.right.right.right.right.right.right.right.right.left
  obtain ⟨⟨k1, _, _, k4⟩, _⟩ := rdA_cells (gA h14) hv hpl
  obtain ⟨⟨k5, _, _, k8⟩, _⟩ := rdA_cells (gA h14.drew) hv hpl
  rw [hz] at k1 k4 k5 k8
  have d1 : decide (z.name = z.name) = true := decide_eq_true rfl
  have d2 : decide (z.key = z.key) = true := decide_eq_true rfl
  have hjl : (j : Int) < L.length := by omega
  unfold F5.b0
  simp -dsimp -implicitDefEqProofs (disch := omega) only [go_sem, reqD_of, dec_t, dec_f, wrap_i64, wrap_u32, wrap_u64, wrap_u8, e2, e4, e11, e12, e13, e14, e17, h14.cl C17, h14.cl C2, h14.cl P2, h14.drew.cl C17, h14.drew.cl C2, h14.drew.cl P2, hjl, k1, k4, k5, k8, d1, d2, h14.drew.cl C12]
  have h15 : St w0 (BookP Bk (c + j) * (rowT (.slice av z.members.length cv) z.members * (bkA P2 z (.slice av z.members.length cv) * (cellA C2 (.slice (some ⟨b, o, none⟩) L.length c1) * (Blk R4 (.cells #[.bool false] 4 (0, 0)) * (Blk C11 (.cells #[.func (.func 51) #[] #[.pointer (some ⟨K, 0, none⟩)]] 42 (0, 0)) *
    (cellBk C12 Bk * (cellI C13 k * (cellI C14 i * (bkA P y v * (cellI C17 j * (A * ((ptrB K T * TabW T m x) * G2))))))))))))) W2.drew := h14.drew.ac (by ac_rfl)
  refine (owns_any (by omega) hfz.2 h15).mono ?_
  rintro e' w3 ⟨h16, rfl⟩
  simp -dsimp -implicitDefEqProofs (disch := omega) only [go_sem, reqD_of, dec_t, dec_f, wrap_i64, wrap_u32, wrap_u64, wrap_u8, e2, e4, e11, e12, e13, e14, e17, h16.cl C17]
  refine h16.sto (b := C17) (off := 0) (by simp) rfl fun w4 h17 => ?_
  simp only [List.setIfInBounds_toArray, List.set_cons_zero] at h17
  have h18 : St w0 (BookP Bk (c + j + 1) * (bkA P2 z (.slice av z.members.length cv) * (cellA C2 (.slice (some ⟨b, o, none⟩) L.length c1) * (Blk R4 (.cells #[.bool false] 4 (0, 0)) * (Blk C11 (.cells #[.func (.func 51) #[] #[.pointer (some ⟨K, 0, none⟩)]] 42 (0, 0)) *
    (cellBk C12 Bk * (cellI C13 k * (cellI C14 i * (bkA P y v * (cellI C17 (j + 1) * (A * ((ptrB K T * TabW T m x) * G2)))))))))))) w4 := h17
  have h19 : St w0 ((WFix C2 R4 C11 C12 C13 C14 K Bk (.slice (some ⟨b, o, none⟩) L.length c1) k i * (bkA P y v * (cellI C17 (j + 1) * BookP Bk (c + (j + 1)))) * A) * ((ptrB K T * TabW T m x) * G2)) w4 := (h18.ac (by unfold WFix; rw [Nat.add_assoc]; ac_rfl : _ = bkA P2 z (.slice av z.members.length cv) * ((WFix C2 R4 C11 C12 C13 C14 K Bk (.slice (some ⟨b, o, none⟩) L.length c1) k i * (bkA P y v * (cellI C17 (j + 1) * BookP Bk (c + (j + 1)))) * A) * ((ptrB K T * TabW T m x) * G2)))).right
  by_cases hst : (j : Int) + 1 = k
  · simp -dsimp -implicitDefEqProofs (disch := omega) only [go_sem, reqD_of, dec_t, dec_f, wrap_i64, wrap_u32, wrap_u64, wrap_u8, h18.cl C17, h18.cl C13, e2, e4, e11, e12, e13, e14, e17, hst]
    rw [hpj]
    exact (h19.ent (Ent.sep (Ent.fact (by omega) _) (Ent.rfl' _))).ac (sep_assoc _ _ _).symm
  · simp -dsimp -implicitDefEqProofs (disch := omega) only [go_sem, reqD_of, dec_t, dec_f, wrap_i64, wrap_u32, wrap_u64, wrap_u8, h18.cl C17, h18.cl C13, e2, e4, e11, e12, e13, e14, e17, hst]
    rw [hpj]
    exact (h19.ent (Ent.sep (Ent.fact (by omega) _) (Ent.rfl' _))).ac (sep_assoc _ _ _).symm
end
end Go.Proofs.YtkijkoakloacoaaDoor

namespace Go.Proofs.YtkijkoakloacoaaDoor
open Go
set_option linter.unusedVariables false
set_option linter.unusedSimpArgs false
set_option maxRecDepth 100000

/-- How many lists came out before the i-th round. -/
def nB (i N : Nat) : Nat := i + min i 3 * N
theorem nB_low {i N : Nat} (h : i < 3) : nB i N + 1 + N ≤ nB (i + 1) N := by
  unfold nB
  rw [show min i 3 = i by omega, show min (i + 1) 3 = i + 1 by omega, Nat.add_mul]
  omega
theorem nB_high {i N : Nat} (h : 3 ≤ i) : nB i N + 1 = nB (i + 1) N := by
  unfold nB
  rw [show min i 3 = 3 by omega, show min (i + 1) 3 = 3 by omega]
  omega
theorem nB_le {i N : Nat} (h : i ≤ N) : nB i N ≤ 4 * N := by
  unfold nB
  have h1 : min i 3 * N ≤ 3 * N := Nat.mul_le_mul_right _ (by omega)
  omega

abbrev WO (C2 R4 C11 C12 C13 C14 K Bk : Nat) (vl : Value) (k i N : Nat) : HP := WFix C2 R4 C11 C12 C13 C14 K Bk vl k i * BookP Bk (nB i N)

section
attribute [local go_sem] F5.t35_eq F5.t13_eq F5.t10_eq F5.t7_eq F5.t3_eq
theorem walks_round {w0 : World} {A : HP} {C2 R4 C11 C12 C13 C14 T m K Bk k : Nat} {x : UT} {L : List AV} {a1 : Option Addr} {c1 : Nat} {e : FA} (hE : WkE e C2 R4 C11 C12 C13 C14)
    (hv : Ent A (ReadsA (.slice a1 L.length c1) L)) (hL : accs x.L = accs L) (ok : x.Ok) (hn : L.length ≤ 1000000) (hk : k ≤ L.length + 1) (hk0 : 1 ≤ k) :
    RoundOkA Tryd.prog w0 e #[69] F5.a1 F5.b1 PassC (fun pre => ∃ post, pre ++ post = accs x.L)
      (fun pre => (WO C2 R4 C11 C12 C13 C14 K Bk (.slice a1 L.length c1) k pre.length L.length * A) * AllT K T m x)
      (fun cd pre => NoneH) := by
  have hE' := hE
  obtain ⟨e2, e4, e11, e12, e13, e14⟩ := hE
  intro q pre y args G W1 hpo h6
  rw [hL] at hpo
  obtain ⟨hpl, hy⟩ := pre_at hpo
  have h6 : St w0 ((WO C2 R4 C11 C12 C13 C14 K Bk (.slice a1 L.length c1) k pre.length L.length * A) * (ptrB K T * TabW T m x) * (PassC y args * G)) W1 := h6
  obtain ⟨vy, rfl, h7⟩ := PassC.open (h6.ac (by ac_rfl : _ = PassC y args * ((WO C2 R4 C11 C12 C13 C14 K Bk (.slice a1 L.length c1) k pre.length L.length * A) * (ptrB K T * TabW T m x) * G)))
  obtain ⟨av, cv, rfl, _⟩ := h7.rowForm vy
  refine ⟨rfl, ?_⟩
  unfold F5.a1
  simp -dsimp -implicitDefEqProofs (disch := omega) only [go_sem, reqD_of, dec_t, dec_f, wrap_i64, wrap_u32, wrap_u64, wrap_u8, List.toList_toArray]
  refine h6.new fun P w5 h8 => ?_
  simp -dsimp -implicitDefEqProofs (disch := omega) only [go_sem, reqD_of, dec_t, dec_f, wrap_i64, wrap_u32, wrap_u64, wrap_u8]
  refine h8.stoAll (b := P) (n := 4) (cs := accL y (.slice av y.members.length cv)) rfl rfl (fun v hv => by simp at hv; rcases hv with rfl | rfl | rfl | rfl <;> rfl) fun w6 h9 => ?_
  simp -dsimp -implicitDefEqProofs (disch := omega) only [go_sem, reqD_of, dec_t, dec_f, wrap_i64, wrap_u32, wrap_u64, wrap_u8]
  refine ⟨bkA P y (.slice av y.members.length cv), h9, fun G2 W2 hl2 h10 => ?_⟩
  clear h6 h7 h8 h9
  have hfy : Fit y := by
    obtain ⟨post, hp⟩ := hpo
    have : y ∈ accs x.L := by rw [hL, ← hp]; simp
    obtain ⟨u, hu, rfl⟩ := List.mem_map.1 this
    exact (ok.ms u hu).2.1
  have h10 : St w0 (bkA P y (.slice av y.members.length cv) * ((WO C2 R4 C11 C12 C13 C14 K Bk (.slice a1 L.length c1) k pre.length L.length * A) * (ptrB K T * TabW T m x) * (PassC y #[accV y (.slice av y.members.length cv)] * G2))) W2 := h10
  obtain ⟨v', e', h12⟩ := PassC.open (h10.ac (by ac_rfl : _ = PassC y #[accV y (.slice av y.members.length cv)] * ((WO C2 R4 C11 C12 C13 C14 K Bk (.slice a1 L.length c1) k pre.length L.length * A) * (bkA P y (.slice av y.members.length cv) * ((ptrB K T * TabW T m x) * G2)))))
  have e' := accV_inj e'
  subst e'
  have h13 : St w0 (rowT (.slice av y.members.length cv) y.members * ((WFix C2 R4 C11 C12 C13 C14 K Bk (.slice a1 L.length c1) k pre.length * BookP Bk (nB pre.length L.length) * A) * (bkA P y (.slice av y.members.length cv) * ((ptrB K T * TabW T m x) * G2)))) W2 := h12
  clear h10 h12
  obtain ⟨i, hi⟩ : ∃ i, i = pre.length := ⟨_, rfl⟩
  have hpi : (pre ++ [y]).length = i + 1 := by rw [hi]; simp
  rw [← hi] at h13
  simp only [← hi] at hpl hy
  obtain ⟨b, o, rfl⟩ : ∃ b o, a1 = some ⟨b, o, none⟩ := by
    obtain ⟨a', c', q1, q2⟩ := rdA_form (h13.ent ((Ent.right _ _).trans ((Ent.left _ _).trans (Ent.right _ _)))) hv
    simp only [Value.slice.injEq, true_and] at q1
    obtain ⟨rfl, rfl⟩ := q1
    exact q2 _ hpl
  unfold WFix at h13
  have h14 : St w0 (rowT (.slice av y.members.length cv) y.members * (bkA P y (.slice av y.members.length cv) * (cellA C2 (.slice (some ⟨b, o, none⟩) L.length c1) * (Blk R4 (.cells #[.bool false] 4 (0, 0)) * (Blk C11 (.cells #[.func (.func 51) #[] #[.pointer (some ⟨K, 0, none⟩)]] 42 (0, 0)) *
    (cellBk C12 Bk * (cellI C13 k * (cellI C14 i * (BookP Bk (nB i L.length) * (A * ((ptrB K T * TabW T m x) * G2))))))))))) W2 := h13.ac (by ac_rfl)
  clear h13
  have gA : ∀ {B1 B2 B3 B4 B5 B6 B7 B8 B9 B12 : HP} {w : World}, St w0 (B1 * (B2 * (B3 * (B4 * (B5 * (B6 * (B7 * (B8 * (B9 * (A * B12)))))))))) w → St w0 A w := fun h => h.right.right.right.right.right.right.right.right.right.left
  obtain ⟨⟨k1, _, _, _⟩, _⟩ := rdA_cells (gA h14) hv hpl
  obtain ⟨⟨k5, _, _, _⟩, _⟩ := rdA_cells (gA h14.drew) hv hpl
  rw [hy] at k1 k5
  have d1 : decide (y.name = y.name) = true := decide_eq_true rfl
  have hil : (i : Int) < L.length := by omega
  have hnb := nB_le (i := i) (N := L.length) (by omega)
  unfold F5.b1
  simp -dsimp -implicitDefEqProofs (disch := omega) only [go_sem, reqD_of, dec_t, dec_f, wrap_i64, wrap_u32, wrap_u64, wrap_u8, e2, e4, e11, e12, e13, e14, h14.cl C14, h14.cl C2, h14.cl P, h14.drew.cl C14, h14.drew.cl C2, h14.drew.cl P, hil, k1, k5, d1, h14.drew.cl C12]
  have h15 : St w0 (BookP Bk (nB i L.length) * (rowT (.slice av y.members.length cv) y.members * (bkA P y (.slice av y.members.length cv) * (cellA C2 (.slice (some ⟨b, o, none⟩) L.length c1) * (Blk R4 (.cells #[.bool false] 4 (0, 0)) * (Blk C11 (.cells #[.func (.func 51) #[] #[.pointer (some ⟨K, 0, none⟩)]] 42 (0, 0)) *
    (cellBk C12 Bk * (cellI C13 k * (cellI C14 i * (A * ((ptrB K T * TabW T m x) * G2))))))))))) W2.drew := h14.drew.ac (by ac_rfl)
  refine (owns_any (by omega) hfy.2 h15).mono ?_
  rintro e' w3 ⟨h16, rfl⟩
  simp -dsimp -implicitDefEqProofs (disch := omega) only [go_sem, reqD_of, dec_t, dec_f, wrap_i64, wrap_u32, wrap_u64, wrap_u8, e2, e4, e11, e12, e13, e14, h16.cl C14]
  refine h16.sto (b := C14) (off := 0) (by simp) rfl fun w4 h17 => ?_
  simp only [List.setIfInBounds_toArray, List.set_cons_zero] at h17
  have h18 : St w0 (BookP Bk (nB i L.length + 1) * (bkA P y (.slice av y.members.length cv) * (cellA C2 (.slice (some ⟨b, o, none⟩) L.length c1) * (Blk R4 (.cells #[.bool false] 4 (0, 0)) * (Blk C11 (.cells #[.func (.func 51) #[] #[.pointer (some ⟨K, 0, none⟩)]] 42 (0, 0)) *
    (cellBk C12 Bk * (cellI C13 k * (cellI C14 (i + 1) * (A * ((ptrB K T * TabW T m x) * G2)))))))))) w4 := h17
  by_cases h3 : (i : Int) + 1 ≤ 3
  case neg =>
    simp -dsimp -implicitDefEqProofs (disch := omega) only [go_sem, reqD_of, dec_t, dec_f, wrap_i64, wrap_u32, wrap_u64, wrap_u8, h18.cl C14, e2, e4, e11, e12, e13, e14, h3]
    rw [hpi]
    unfold WO
    rw [← nB_high (by omega)]
    exact (h18.ac (by unfold WFix; ac_rfl : _ = bkA P y (.slice av y.members.length cv) * ((WFix C2 R4 C11 C12 C13 C14 K Bk (.slice (some ⟨b, o, none⟩) L.length c1) k (i + 1) * BookP Bk (nB i L.length + 1) * A) * (ptrB K T * TabW T m x) * G2))).right
  simp -dsimp -implicitDefEqProofs (disch := omega) only [go_sem, reqD_of, dec_t, dec_f, wrap_i64, wrap_u32, wrap_u64, wrap_u8, h18.cl C14, e2, e4, e11, e12, e13, e14, h3]
  refine h18.new fun C17 w5 h19 => ?_
  simp -dsimp -implicitDefEqProofs (disch := omega) only [go_sem, reqD_of, dec_t, dec_f, wrap_i64, wrap_u32, wrap_u64, wrap_u8, e2, e4, e11, e12, e13, e14]
  refine h19.sto (b := C17) (off := 0) (by simp) rfl fun w5 h19 => ?_
  simp only [List.setIfInBounds_toArray, List.set_cons_zero] at h19
  simp -dsimp -implicitDefEqProofs (disch := omega) only [go_sem, reqD_of, dec_t, dec_f, wrap_i64, wrap_u32, wrap_u64, wrap_u8, h19.cl C11, e2, e4, e11, e12, e13, e14]
  have h19 : St w0 (cellI C17 0 * (BookP Bk (nB i L.length + 1) * (bkA P y (.slice av y.members.length cv) * (cellA C2 (.slice (some ⟨b, o, none⟩) L.length c1) * (Blk R4 (.cells #[.bool false] 4 (0, 0)) * (Blk C11 (.cells #[.func (.func 51) #[] #[.pointer (some ⟨K, 0, none⟩)]] 42 (0, 0)) *
    (cellBk C12 Bk * (cellI C13 k * (cellI C14 (i + 1) * (A * ((ptrB K T * TabW T m x) * G2))))))))))) w5 := h19
  have h20 : St w0 ((WI C2 R4 C11 C12 C13 C14 C17 P K Bk (.slice (some ⟨b, o, none⟩) L.length c1) (.slice av y.members.length cv) y k (i + 1) (nB i L.length + 1) 0 * A) * ((ptrB K T * TabW T m x) * G2)) w5 := h19.ac (by unfold WI WFix; rw [Nat.add_zero]; ac_rfl)
  have h21 : St w0 (HP.fact (([] : List Acc).length < k) (WI C2 R4 C11 C12 C13 C14 C17 P K Bk (.slice (some ⟨b, o, none⟩) L.length c1) (.slice av y.members.length cv) y k (i + 1) (nB i L.length + 1) ([] : List Acc).length * A) * AllT K T m x * G2) w5 := (h20.ent (Ent.sep (Ent.fact (p := ([] : List Acc).length < k) (by simp only [List.length_nil]; omega) _) (Ent.rfl' _))).ac (sep_assoc _ _ _).symm
  have hl20 : Ent (HP.fact (([] : List Acc).length < k) (WI C2 R4 C11 C12 C13 C14 C17 P K Bk (.slice (some ⟨b, o, none⟩) L.length c1) (.slice av y.members.length cv) y k (i + 1) (nB i L.length + 1) ([] : List Acc).length * A) * AllT K T m x * G2) (LoopHere q) := (Ent.right _ _).trans hl2
  refine range_introRT h21 hl20 (gf := 51) (lb := #[.pointer (some ⟨K, 0, none⟩)]) (by simp -dsimp -implicitDefEqProofs only [go_sem]) fact_fnOk_51 (Pass := PassC)
    (fun pre => HP.fact (pre.length < k) (WI C2 R4 C11 C12 C13 C14 C17 P K Bk (.slice (some ⟨b, o, none⟩) L.length c1) (.slice av y.members.length cv) y k (i + 1) (nB i L.length + 1) pre.length * A) * AllT K T m x)
    (fun cd pre => HP.fact (cd = .exit 2 ∧ pre.length = k ∧ pre.length ≤ L.length) (WI C2 R4 C11 C12 C13 C14 C17 P K Bk (.slice (some ⟨b, o, none⟩) L.length c1) (.slice av y.members.length cv) y k (i + 1) (nB i L.length + 1) pre.length * A) * AllT K T m x)
    (Ent.rfl' _) (walks_inner (P := P) (C17 := C17) ⟨by simp -dsimp -implicitDefEqProofs only [go_sem, e2], by simp -dsimp -implicitDefEqProofs only [go_sem, e4], by simp -dsimp -implicitDefEqProofs only [go_sem, e11], by simp -dsimp -implicitDefEqProofs only [go_sem, e12], by simp -dsimp -implicitDefEqProofs only [go_sem, e13], by simp -dsimp -implicitDefEqProofs only [go_sem, e14]⟩ (by simp -dsimp -implicitDefEqProofs only [go_sem]) hv hL ok (by omega) (by omega) hk)
    (fun pre => HP.fact (pre.length < k) (WI C2 R4 C11 C12 C13 C14 C17 P K Bk (.slice (some ⟨b, o, none⟩) L.length c1) (.slice av y.members.length cv) y k (i + 1) (nB i L.length + 1) pre.length * A)) (AllT K T m x) (fun pre => rfl) (accIter (K := K) (T := T) (m := m) (G := G2) ok (by have := congrArg List.length hL; simp at this; omega)) ?_ ?_
  · intro xs w' hS h22
    subst hS
    have h22 : St w0 (HP.fact ((accs x.L).length < k) ((WFix C2 R4 C11 C12 C13 C14 K Bk (.slice (some ⟨b, o, none⟩) L.length c1) k (i + 1) * (bkA P y (.slice av y.members.length cv) * (cellI C17 (accs x.L).length * BookP Bk (nB i L.length + 1 + (accs x.L).length)))) * A) * (ptrB K T * TabW T m x) * G2) w' := h22
    obtain ⟨hlk, h23⟩ := (h22.ac (sep_assoc _ _ _)).factF
    have hjl : (accs x.L).length = L.length := by rw [hL]; simp
    rw [hjl] at h23 hlk
    have hmin : ¬ (k : Int) < L.length := by omega
    have h24 : St w0 (cellI C17 L.length * (cellA C2 (.slice (some ⟨b, o, none⟩) L.length c1) * (cellI C13 k * (bkA P y (.slice av y.members.length cv) * (BookP Bk (nB i L.length + 1 + L.length) * (Blk R4 (.cells #[.bool false] 4 (0, 0)) * (Blk C11 (.cells #[.func (.func 51) #[] #[.pointer (some ⟨K, 0, none⟩)]] 42 (0, 0)) * (cellBk C12 Bk * (cellI C14 (i + 1) * (A * ((ptrB K T * TabW T m x) * G2))))))))))) w' := h23.ac (by unfold WFix; ac_rfl)
    simp -dsimp -implicitDefEqProofs (disch := omega) only [go_sem, reqD_of, dec_t, dec_f, wrap_i64, wrap_u32, wrap_u64, wrap_u8, e2, e4, e11, e12, e13, e14, h24.cl C17, h24.cl C2, h24.cl C13, hmin]
    rw [hpi]
    have hb := nB_low (i := i) (N := L.length) (by omega)
    have h25 : St w0 (BookP Bk (nB (i + 1) L.length) * (cellA C2 (.slice (some ⟨b, o, none⟩) L.length c1) * (cellI C13 k * (Blk R4 (.cells #[.bool false] 4 (0, 0)) * (Blk C11 (.cells #[.func (.func 51) #[] #[.pointer (some ⟨K, 0, none⟩)]] 42 (0, 0)) * (cellBk C12 Bk * (cellI C14 (i + 1) * (A * ((ptrB K T * TabW T m x) * G2))))))))) w' := (St.bookUp (B := Bk) (n := nB i L.length + 1 + L.length) (n' := nB (i + 1) L.length) h24 (by omega)).sub
    exact h25.ac (by show _ = (WFix C2 R4 C11 C12 C13 C14 K Bk (.slice (some ⟨b, o, none⟩) L.length c1) k (i + 1) * BookP Bk (nB (i + 1) L.length) * A) * (ptrB K T * TabW T m x) * G2; unfold WFix; ac_rfl)
  · intro cd pre2 w' h22
    have h22 : St w0 (HP.fact (cd = .exit 2 ∧ pre2.length = k ∧ pre2.length ≤ L.length) ((WFix C2 R4 C11 C12 C13 C14 K Bk (.slice (some ⟨b, o, none⟩) L.length c1) k (i + 1) * (bkA P y (.slice av y.members.length cv) * (cellI C17 pre2.length * BookP Bk (nB i L.length + 1 + pre2.length)))) * A) * (ptrB K T * TabW T m x) * G2) w' := h22
    obtain ⟨⟨rfl, hlk, hkL⟩, h23⟩ := (h22.ac (sep_assoc _ _ _)).factF
    rw [hlk] at h23 hkL
    have h24 : St w0 (cellI C17 k * (cellA C2 (.slice (some ⟨b, o, none⟩) L.length c1) * (cellI C13 k * (bkA P y (.slice av y.members.length cv) * (BookP Bk (nB i L.length + 1 + k) * (Blk R4 (.cells #[.bool false] 4 (0, 0)) * (Blk C11 (.cells #[.func (.func 51) #[] #[.pointer (some ⟨K, 0, none⟩)]] 42 (0, 0)) * (cellBk C12 Bk * (cellI C14 (i + 1) * (A * ((ptrB K T * TabW T m x) * G2))))))))))) w' := h23.ac (by unfold WFix; ac_rfl)
    simp only [jumpP]
    simp -dsimp -implicitDefEqProofs (disch := omega) only [go_sem, reqD_of, dec_t, dec_f, wrap_i64, wrap_u32, wrap_u64, wrap_u8, e2, e4, e11, e12, e13, e14, h24.cl C17, h24.cl C2, h24.cl C13]
    rw [hpi]
    have hb := nB_low (i := i) (N := L.length) (by omega)
    have h25 : St w0 (BookP Bk (nB (i + 1) L.length) * (cellA C2 (.slice (some ⟨b, o, none⟩) L.length c1) * (cellI C13 k * (Blk R4 (.cells #[.bool false] 4 (0, 0)) * (Blk C11 (.cells #[.func (.func 51) #[] #[.pointer (some ⟨K, 0, none⟩)]] 42 (0, 0)) * (cellBk C12 Bk * (cellI C14 (i + 1) * (A * ((ptrB K T * TabW T m x) * G2))))))))) w' := (St.bookUp (B := Bk) (n := nB i L.length + 1 + k) (n' := nB (i + 1) L.length) h24 (by omega)).sub
    exact h25.ac (by show _ = (WFix C2 R4 C11 C12 C13 C14 K Bk (.slice (some ⟨b, o, none⟩) L.length c1) k (i + 1) * BookP Bk (nB (i + 1) L.length) * A) * (ptrB K T * TabW T m x) * G2; unfold WFix; ac_rfl)
end
end Go.Proofs.YtkijkoakloacoaaDoor

namespace Go.Proofs.YtkijkoakloacoaaDoor
open Go
set_option linter.unusedVariables false
set_option linter.unusedSimpArgs false
set_option maxRecDepth 100000

section
attribute [local go_sem] F5.t35_eq F5.t13_eq F5.t10_eq F5.t7_eq F5.t3_eq
/-- Behind the loop. -/
theorem walks_35 {w0 w : World} {A : HP} {C2 R4 C11 C12 C13 C14 T m K Bk D k : Nat} {x : UT} {L : List AV} {a1 : Option Addr} {c1 : Nat} {e : FA} {ar : Array Value} (hd : e.ds = [{ target := .collected D, args := ar }]) (hE : WkE e C2 R4 C11 C12 C13 C14) (e8 : e.ρ 8 = .pointer (some ⟨T, 0, none⟩))
    (hv : Ent A (ReadsA (.slice a1 L.length c1) L)) (hm : MsOk A L) (hL : accs x.L = accs L) (ok : x.Ok) (hn : L.length ≤ 1000000)
    (h : St w0 (WO C2 R4 C11 C12 C13 C14 K Bk (.slice a1 L.length c1) k L.length L.length * A * (ptrB K T * TabW T m x) * Blk D (.deferred (some []))) w) :
    cwE Tryd.prog F5.t35 (fnP Tryd.prog #[.cell 4 4] fun e w' => St w0 A w' ∧ e = .returned (.bool true)) e w := by
  obtain ⟨e2, e4, e11, e12, e13, e14⟩ := hE
  have hxn : x.L.length = L.length := by have := congrArg List.length hL; simpa using this
  have hst : stopAt 0 x.L.length = x.L.length := by unfold stopAt; rw [if_neg (by omega)]
  have hnb := nB_le (i := L.length) (N := L.length) (Nat.le_refl _)
  have h1 : St w0 (TabW T m x * (BookP Bk (nB L.length L.length) * (cellA C2 (.slice a1 L.length c1) * (Blk R4 (.cells #[.bool false] 4 (0, 0)) * (cellBk C12 Bk * (cellI C14 L.length * (Blk D (.deferred (some [])) * A))))))) w := by
    unfold WO WFix at h
    exact (h.ac (by ac_rfl : _ = (ptrB K T * (Blk C11 (.cells #[.func (.func 51) #[] #[.pointer (some ⟨K, 0, none⟩)]] 42 (0, 0)) * cellI C13 k)) * (TabW T m x * (BookP Bk (nB L.length L.length) * (cellA C2 (.slice a1 L.length c1) * (Blk R4 (.cells #[.bool false] 4 (0, 0)) * (cellBk C12 Bk * (cellI C14 L.length * (Blk D (.deferred (some [])) * A))))))))).right
  clear h
  have hsame : ∀ {w : World} {vo : Value} {L' : List AV} {B B1 B2 B3 B4 B5 B6 B7 : HP}, accs L' = (accs x.L).take x.L.length → MsOk B L' → St w0 (rowA vo L' * (B * (B1 * (B2 * (B3 * (B4 * (B5 * (B6 * (B7 * A))))))))) w → Calls Tryd.prog 15 #[vo, .slice a1 L.length c1] w fun e w' => St w0 (rowA vo L' * (B * (B1 * (B2 * (B3 * (B4 * (B5 * (B6 * (B7 * A))))))))) w' ∧ e = .returned (.bool true) := by
    intro w vo L' B B1 B2 B3 B4 B5 B6 B7 hL' hB h
    rw [List.take_of_length_le (by simp), hL] at hL'
    have hl' : L'.length = L.length := by have := congrArg List.length hL'; simpa using this
    have gA : Ent (rowA vo L' * (B * (B1 * (B2 * (B3 * (B4 * (B5 * (B6 * (B7 * A))))))))) A := (Ent.right _ _).trans ((Ent.right _ _).trans ((Ent.right _ _).trans ((Ent.right _ _).trans ((Ent.right _ _).trans ((Ent.right _ _).trans ((Ent.right _ _).trans ((Ent.right _ _).trans (Ent.right _ _))))))))
    exact sameAccounts_any h ((Ent.left _ _).trans (RowO.reads _ _ _ _ _)) (gA.trans hv) (fun z hz => (Ent.right _ _).trans ((Ent.left _ _).trans (hB z hz).1)) (fun z hz => gA.trans (hm z hz).1) hL' (by omega) (fun z hz => by
      rw [hL'] at hz
      obtain ⟨u, hu, rfl⟩ := List.mem_map.1 hz
      exact (hm u hu).2.1.2)
  rw [F5.t35_eq]
  simp -dsimp -implicitDefEqProofs (disch := omega) only [go_sem, reqD_of, dec_t, dec_f, wrap_i64, wrap_u32, wrap_u64, wrap_u8, hd, e8, e12, h1.cl C12]
  refine (told_any (most := 0) ok (by omega) (by omega) h1).mono ?_
  rintro e' w2 ⟨vo, L', B, hL', hB, h2, rfl⟩
  rw [hst] at h2 hL'
  obtain ⟨ao, co, rfl, _⟩ := h2.rowForm vo
  simp -dsimp -implicitDefEqProofs (disch := omega) only [go_sem, reqD_of, dec_t, dec_f, wrap_i64, wrap_u32, wrap_u64, wrap_u8, hd, e2, e4, e8, e12, e14, h2.cl C2]
  refine (hsame hL' hB h2).mono ?_
  rintro e' w3 ⟨h3, rfl⟩
  simp -dsimp -implicitDefEqProofs (disch := omega) only [go_sem, reqD_of, dec_t, dec_f, wrap_i64, wrap_u32, wrap_u64, wrap_u8, hd, e2, e4, e8, e12, e14, h3.cl C12]
  have h4 : St w0 (BookP Bk (nB L.length L.length + x.L.length) * (TabW T m x * (rowA (.slice ao L'.length co) L' * (B * (cellA C2 (.slice a1 L.length c1) * (Blk R4 (.cells #[.bool false] 4 (0, 0)) * (cellBk C12 Bk * (cellI C14 L.length * (Blk D (.deferred (some [])) * A))))))))) w3 := h3.ac (by ac_rfl)
  refine (turn_any (by omega) h4).mono ?_
  rintro e' w4 ⟨h5, rfl⟩
  have h6 : St w0 (TabW T m x * (BookP Bk (nB L.length L.length + x.L.length) * (cellA C2 (.slice a1 L.length c1) * (Blk R4 (.cells #[.bool false] 4 (0, 0)) * (cellBk C12 Bk * (cellI C14 L.length * (Blk D (.deferred (some [])) * A))))))) w4 :=
    (h5.ac (by ac_rfl : _ = (rowA (.slice ao L'.length co) L' * B) * (TabW T m x * (BookP Bk (nB L.length L.length + x.L.length) * (cellA C2 (.slice a1 L.length c1) * (Blk R4 (.cells #[.bool false] 4 (0, 0)) * (cellBk C12 Bk * (cellI C14 L.length * (Blk D (.deferred (some [])) * A))))))))).right
  simp -dsimp -implicitDefEqProofs (disch := omega) only [go_sem, reqD_of, dec_t, dec_f, wrap_i64, wrap_u32, wrap_u64, wrap_u8, hd, e2, e4, e8, e12, e14, h6.cl C12]
  refine (told_any (most := 0) ok (by omega) (by omega) h6).mono ?_
  rintro e' w5 ⟨vo2, L2, B2, hL2, hB2, h7, rfl⟩
  rw [hst] at h7 hL2
  obtain ⟨ao2, co2, rfl, _⟩ := h7.rowForm vo2
  simp -dsimp -implicitDefEqProofs (disch := omega) only [go_sem, reqD_of, dec_t, dec_f, wrap_i64, wrap_u32, wrap_u64, wrap_u8, hd, e2, e4, e8, e12, e14, h7.cl C2]
  refine (hsame hL2 hB2 h7).mono ?_
  rintro e' w6 ⟨h8, rfl⟩
  simp -dsimp -implicitDefEqProofs (disch := omega) only [go_sem, reqD_of, dec_t, dec_f, wrap_i64, wrap_u32, wrap_u64, wrap_u8, hd, e2, e4, e8, e12, e14, h8.cl C12]
  have h9 : St w0 (BookP Bk (nB L.length L.length + x.L.length + x.L.length) * (TabW T m x * (rowA (.slice ao2 L2.length co2) L2 * (B2 * (cellA C2 (.slice a1 L.length c1) * (Blk R4 (.cells #[.bool false] 4 (0, 0)) * (cellBk C12 Bk * (cellI C14 L.length * (Blk D (.deferred (some [])) * A))))))))) w6 := h8.ac (by ac_rfl)
  refine (ends_any (by omega) h9).mono ?_
  rintro e' w7 ⟨h10, rfl⟩
  simp -dsimp -implicitDefEqProofs (disch := omega) only [go_sem, reqD_of, dec_t, dec_f, wrap_i64, wrap_u32, wrap_u64, wrap_u8, hd, e2, e4, e8, e12, e14, h10.cl C14, h10.cl C2]
  refine h10.sto (b := R4) (off := 0) (by simp) rfl fun w8 h11 => ?_
  simp only [List.setIfInBounds_toArray, List.set_cons_zero] at h11
  simp -dsimp -implicitDefEqProofs (disch := omega) only [go_sem, reqD_of, dec_t, dec_f, wrap_i64, wrap_u32, wrap_u64, wrap_u8, hd]
  have h12 : St w0 (BookP Bk (nB L.length L.length + x.L.length + x.L.length) * (TabW T m x * (rowA (.slice ao2 L2.length co2) L2 * (B2 * (cellA C2 (.slice a1 L.length c1) * (Blk R4 (.cells #[.bool true] 4 (0, 0)) * (cellBk C12 Bk * (cellI C14 L.length * (Blk D (.deferred (some [])) * A))))))))) w8 := h11
  refine St.mark1 (D := D) (h12.ac (by ac_rfl : _ = Blk D (.deferred (some [])) * (Blk R4 (.cells #[.bool true] 4 (0, 0)) * ((BookP Bk (nB L.length L.length + x.L.length + x.L.length) * (TabW T m x * (rowA (.slice ao2 L2.length co2) L2 * (B2 * (cellA C2 (.slice a1 L.length c1) * (cellBk C12 Bk * cellI C14 L.length)))))) * A)))) fun w9 h13 => ?_
  refine resC_1 (a := ⟨R4, 0, none⟩) (v := .bool true) (by simp -dsimp -implicitDefEqProofs only [go_sem, e4]) (run_loadVar_cell fact_aggSz_4 (by rw [h13.cl R4]; rfl)) ?_
  exact ⟨h13.right.right.right, rfl⟩

end
section
attribute [local go_sem] F5.t13_eq F5.t10_eq F5.t7_eq F5.t3_eq
theorem usersWalks_law {w0 w : World} {A : HP} (h : St w0 A w) [Gives A Tabs] {v : Value} {L : List AV} (ha : ArgL A v L) {most : Int} (hmost : InI most) :
    Calls Tryd.prog 5 #[v, .int .i64 most] w fun e w' => St w0 A w' ∧ e = .returned (.bool true) := by
  obtain ⟨a1, c1, rfl, _⟩ := rdA_form h ha.rd
  refine F5.calls (by simp) ?_
  unfold F5.code
  simp -dsimp -implicitDefEqProofs (disch := omega) only [go_sem, reqD_of, dec_t, dec_f, wrap_i64, wrap_u32, wrap_u64, wrap_u8]
  refine h.new fun C2 w1 h1 => ?_
  simp -dsimp -implicitDefEqProofs (disch := omega) only [go_sem, reqD_of, dec_t, dec_f, wrap_i64, wrap_u32, wrap_u64, wrap_u8]
  refine h1.new fun R4 w2 h2 => ?_
  simp -dsimp -implicitDefEqProofs (disch := omega) only [go_sem, reqD_of, dec_t, dec_f, wrap_i64, wrap_u32, wrap_u64, wrap_u8, h2.cl C2]
  have ret : ∀ {A1 : HP} {w : World} {e : FA}, e.ρ 4 = .pointer (some ⟨R4, 0, none⟩) → St w0 (Blk R4 (.cells #[.bool true] 4 (0, 0)) * (A1 * A)) w → resC Tryd.prog #[.cell 4 4] e (fun e w' => St w0 A w' ∧ e = .returned (.bool true)) w := by
    intro A1 w e e4 h
    refine resC_1 (a := ⟨R4, 0, none⟩) (v := .bool true) (by simp -dsimp -implicitDefEqProofs only [go_sem, e4]) (run_loadVar_cell fact_aggSz_4 (by rw [h.cl R4]; rfl)) ?_
    exact ⟨h.right.right, rfl⟩
  have ha2 : ArgL (Blk R4 (.cells #[.bool false] 4 (0, 0)) * (cellA C2 (.slice a1 L.length c1) * A)) (.slice a1 L.length c1) L := ⟨(Ent.right _ _).trans ((Ent.right _ _).trans ha.rd), fun x hx => by
    have hx := ha.each x hx
    exact ⟨(Ent.right _ _).trans ((Ent.right _ _).trans hx.ms), hx.cell, hx.n, hx.l, hx.k, hx.m, hx.c⟩, ha.len⟩
  refine (much_any h2 ha2).mono ?_
  rintro e w3 ⟨h3, mu, rfl, hmu⟩
  by_cases hbig : mu ≤ 8388608
  case neg =>
    simp -dsimp -implicitDefEqProofs (disch := omega) only [go_sem, reqD_of, dec_t, dec_f, wrap_i64, wrap_u32, wrap_u64, wrap_u8, hbig]
    refine h3.sto (b := R4) (off := 0) (by simp) rfl fun w4 h4 => ?_
    simp only [List.setIfInBounds_toArray, List.set_cons_zero] at h4
    simp -dsimp -implicitDefEqProofs (disch := omega) only [go_sem, reqD_of, dec_t, dec_f, wrap_i64, wrap_u32, wrap_u64, wrap_u8]
    exact ret (by simp -dsimp -implicitDefEqProofs only [go_sem]) h4
  have hmu : muchF (accs L) ≤ 8388608 := by have := hmu hbig; omega
  have hms := ha.msOk hmu
  have hL1 := much_len (accs L)
  have hL2 := text_much (accs L)
  rw [List.length_map] at hL1
  simp -dsimp -implicitDefEqProofs (disch := omega) only [go_sem, reqD_of, dec_t, dec_f, wrap_i64, wrap_u32, wrap_u64, wrap_u8, hbig]
  refine (example_any h3).mono ?_
  rintro e w4 ⟨h4, rfl⟩
  simp -dsimp -implicitDefEqProofs (disch := omega) only [go_sem, reqD_of, dec_t, dec_f, wrap_i64, wrap_u32, wrap_u64, wrap_u8, h4.cl C2]
  refine (print_any h4 ha2.rd (hms.weak ((Ent.right _ _).trans (Ent.right _ _))) (by omega) (by omega)).mono ?_
  rintro e w5 ⟨h5, ⟨hp, rfl⟩ | ⟨k, hk0, hk, rfl⟩⟩
  case inr =>
    have hk1 : ¬ (k : Int) = 0 := by omega
    simp -dsimp -implicitDefEqProofs (disch := omega) only [go_sem, reqD_of, dec_t, dec_f, wrap_i64, wrap_u32, wrap_u64, wrap_u8, hk1]
    refine h5.sto (b := R4) (off := 0) (by simp) rfl fun w4 h4 => ?_
    simp only [List.setIfInBounds_toArray, List.set_cons_zero] at h4
    simp -dsimp -implicitDefEqProofs (disch := omega) only [go_sem, reqD_of, dec_t, dec_f, wrap_i64, wrap_u32, wrap_u64, wrap_u8]
    exact ret (by simp -dsimp -implicitDefEqProofs only [go_sem]) h4
  obtain ⟨_, hpa, _, _⟩ := parse_print hp
  simp -dsimp -implicitDefEqProofs (disch := omega) only [go_sem, reqD_of, dec_t, dec_f, wrap_i64, wrap_u32, wrap_u64, wrap_u8]
  refine (parse_any h5 (textF (accs L))).mono ?_
  rintro e w6 (⟨T, mm, x, hr, ok, h6, rfl⟩ | ⟨k, n, hr, _, _⟩)
  case inr => rw [hpa] at hr; cases hr
  rw [hpa] at hr
  have hxL : accs x.L = accs L := by simpa using hr.symm
  have hxn : x.L.length = L.length := by have := congrArg List.length hxL; simpa using this
  simp -dsimp -implicitDefEqProofs (disch := omega) only [go_sem, reqD_of, dec_t, dec_f, wrap_i64, wrap_u32, wrap_u64, wrap_u8]
  refine (accounts_any h6).mono ?_
  rintro e w7 ⟨K, h7, rfl⟩
  simp -dsimp -implicitDefEqProofs (disch := omega) only [go_sem, reqD_of, dec_t, dec_f, wrap_i64, wrap_u32, wrap_u64, wrap_u8]
  refine h7.new fun C11 w8 h8 => ?_
  simp -dsimp -implicitDefEqProofs (disch := omega) only [go_sem, reqD_of, dec_t, dec_f, wrap_i64, wrap_u32, wrap_u64, wrap_u8]
  refine h8.sto (b := C11) (off := 0) (by simp) rfl fun w9 h9 => ?_
  simp only [List.setIfInBounds_toArray, List.set_cons_zero] at h9
  simp -dsimp -implicitDefEqProofs (disch := omega) only [go_sem, reqD_of, dec_t, dec_f, wrap_i64, wrap_u32, wrap_u64, wrap_u8, h9.cl C11]
  refine onV_of (v := .agg #[.slice none 0 0, .slice none 0 0, .slice none 0 0, .slice none 0 0, .slice none 0 0, .slice none 0 0]) (by kernel_rfl) ?_
  simp -dsimp -implicitDefEqProofs (disch := omega) only [go_sem, reqD_of, dec_t, dec_f, wrap_i64, wrap_u32, wrap_u64, wrap_u8]
  refine h9.new fun Bk w10 h10 => ?_
  have h11 := book_new h10
  simp -dsimp -implicitDefEqProofs (disch := omega) only [go_sem, reqD_of, dec_t, dec_f, wrap_i64, wrap_u32, wrap_u64, wrap_u8]
  refine h11.new fun C12 w12 h12 => ?_
  simp -dsimp -implicitDefEqProofs (disch := omega) only [go_sem, reqD_of, dec_t, dec_f, wrap_i64, wrap_u32, wrap_u64, wrap_u8]
  refine h12.sto (b := C12) (off := 0) (by simp) rfl fun w13 h13 => ?_
  simp only [List.setIfInBounds_toArray, List.set_cons_zero] at h13
  obtain ⟨k, hk, hpk⟩ := pick_nat (c := most) (n := L.length + 1) (by omega)
  rw [show ((L.length + 1 : Nat) : Int) = (L.length : Int) + 1 by omega] at hpk
  simp -dsimp -implicitDefEqProofs (disch := omega) only [go_sem, reqD_of, dec_t, dec_f, wrap_i64, wrap_u32, wrap_u64, wrap_u8, h13.cl C2]
  refine (pick_any h13 hmost (n := (L.length : Int) + 1) (by omega) (by omega)).mono ?_
  rintro e w14 ⟨h14, rfl⟩
  rw [hpk]
  simp -dsimp -implicitDefEqProofs (disch := omega) only [go_sem, reqD_of, dec_t, dec_f, wrap_i64, wrap_u32, wrap_u64, wrap_u8]
  refine h14.new fun C13 w15 h15 => ?_
  simp -dsimp -implicitDefEqProofs (disch := omega) only [go_sem, reqD_of, dec_t, dec_f, wrap_i64, wrap_u32, wrap_u64, wrap_u8]
  refine h15.sto (b := C13) (off := 0) (by simp) rfl fun w16 h16 => ?_
  simp only [List.setIfInBounds_toArray, List.set_cons_zero] at h16
  simp -dsimp -implicitDefEqProofs (disch := omega) only [go_sem, reqD_of, dec_t, dec_f, wrap_i64, wrap_u32, wrap_u64, wrap_u8]
  refine h16.new fun C14 w17 h17 => ?_
  simp -dsimp -implicitDefEqProofs (disch := omega) only [go_sem, reqD_of, dec_t, dec_f, wrap_i64, wrap_u32, wrap_u64, wrap_u8]
  refine h17.sto (b := C14) (off := 0) (by simp) rfl fun w18 h18 => ?_
  simp only [List.setIfInBounds_toArray, List.set_cons_zero] at h18
  simp -dsimp -implicitDefEqProofs (disch := omega) only [go_sem, reqD_of, dec_t, dec_f, wrap_i64, wrap_u32, wrap_u64, wrap_u8, h18.cl C11]
  rw [show (1 : Int) + k = ((k + 1 : Nat) : Int) by omega] at h18
  have h18 : St w0 (cellI C14 0 * (cellI C13 (k + 1) * (cellBk C12 Bk * (BookP Bk 0 * (Blk C11 (.cells #[.func (.func 51) #[] #[.pointer (some ⟨K, 0, none⟩)]] 42 (0, 0)) * (ptrB K T * (TabW T mm x * (Blk R4 (.cells #[.bool false] 4 (0, 0)) * (cellA C2 (.slice a1 L.length c1) * A))))))))) w18 := h18
  have h19 : St w0 ((WO C2 R4 C11 C12 C13 C14 K Bk (.slice a1 L.length c1) (k + 1) ([] : List Acc).length L.length * A) * AllT K T mm x * EmpH) w18 := by
    have h20 : St w0 (EmpH * ((WFix C2 R4 C11 C12 C13 C14 K Bk (.slice a1 L.length c1) (k + 1) 0 * BookP Bk 0 * A) * (ptrB K T * TabW T mm x))) w18 := (h18.ac (by unfold WFix; ac_rfl : _ = (WFix C2 R4 C11 C12 C13 C14 K Bk (.slice a1 L.length c1) (k + 1) 0 * BookP Bk 0 * A) * (ptrB K T * TabW T mm x))).ent (empL' _)
    have hz : nB 0 L.length = 0 := by unfold nB; simp
    exact h20.ac (by show _ = (WFix C2 R4 C11 C12 C13 C14 K Bk (.slice a1 L.length c1) (k + 1) 0 * BookP Bk (nB 0 L.length) * A) * (ptrB K T * TabW T mm x) * EmpH; rw [hz]; ac_rfl)
  refine range_introT h19 (gf := 51) (lb := #[.pointer (some ⟨K, 0, none⟩)]) (by simp -dsimp -implicitDefEqProofs only [go_sem]) fact_fnOk_51 (Pass := PassC)
    (fun pre => (WO C2 R4 C11 C12 C13 C14 K Bk (.slice a1 L.length c1) (k + 1) pre.length L.length * A) * AllT K T mm x) (fun cd pre => NoneH) (Ent.rfl' _)
    (walks_round ⟨by simp -dsimp -implicitDefEqProofs only [go_sem], by simp -dsimp -implicitDefEqProofs only [go_sem], by simp -dsimp -implicitDefEqProofs only [go_sem], by simp -dsimp -implicitDefEqProofs only [go_sem], by simp -dsimp -implicitDefEqProofs only [go_sem], by simp -dsimp -implicitDefEqProofs only [go_sem]⟩ ha.rd hxL ok (by omega) (by omega) (by omega))
    (fun pre => WO C2 R4 C11 C12 C13 C14 K Bk (.slice a1 L.length c1) (k + 1) pre.length L.length * A) (AllT K T mm x) (fun pre => rfl) (accIter (K := K) (T := T) (m := mm) (G := EmpH) ok (by omega)) ?_ ?_
  · intro D xs w' hS h20
    subst hS
    have h20 : St w0 (Blk D (.deferred (some [])) * ((WO C2 R4 C11 C12 C13 C14 K Bk (.slice a1 L.length c1) (k + 1) (accs x.L).length L.length * A) * (ptrB K T * TabW T mm x) * EmpH)) w' := h20
    rw [show (accs x.L).length = L.length by rw [hxL]; simp] at h20
    simp -dsimp -implicitDefEqProofs (disch := omega) only [go_sem, reqD_of, dec_t, dec_f, wrap_i64, wrap_u32, wrap_u64, wrap_u8]
    refine walks_35 (C2 := C2) (R4 := R4) (C12 := C12) (C14 := C14) (T := T) (m := mm) (Bk := Bk) (K := K) (D := D) (C11 := C11) (C13 := C13) (k := k + 1) (ar := #[]) (by simp -dsimp -implicitDefEqProofs only [go_sem]) ⟨by simp -dsimp -implicitDefEqProofs only [go_sem], by simp -dsimp -implicitDefEqProofs only [go_sem], by simp -dsimp -implicitDefEqProofs only [go_sem], by simp -dsimp -implicitDefEqProofs only [go_sem], by simp -dsimp -implicitDefEqProofs only [go_sem], by simp -dsimp -implicitDefEqProofs only [go_sem]⟩ (by simp -dsimp -implicitDefEqProofs only [go_sem]) ha.rd hms hxL ok (by omega) ?_
    exact (h20.ac (by ac_rfl : _ = EmpH * (WO C2 R4 C11 C12 C13 C14 K Bk (.slice a1 L.length c1) (k + 1) L.length L.length * A * (ptrB K T * TabW T mm x) * Blk D (.deferred (some []))))).right
  · intro D cd pre w' h20
    have h20 : St w0 (Blk D (.deferred (some [])) * (HP.fact False EmpH * EmpH)) w' := h20
    exact ((h20.ac (by ac_rfl : _ = HP.fact False EmpH * (Blk D (.deferred (some [])) * EmpH))).factF).1.elim
end
end Go.Proofs.YtkijkoakloacoaaDoor
