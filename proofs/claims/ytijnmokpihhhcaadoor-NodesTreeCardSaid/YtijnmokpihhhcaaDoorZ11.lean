/- A node in memory; small checks; opens, set. · Looked for in a rising list of numbers. · Maps of one's own gone through, in whatever order. · Maps gone through, the frame looked through by instances. · A store in memory. · Blocks: what stands where, after a cut, after bytes are laid. · copy and clear over elements of one cell. · What is told of a store. · What is told of a node. · A file is cut. · Arguments, read out of memory as they came: readers by the type's shape. · Arguments that are rows of plain structs, as rows that are read. · Bytes are laid within one block. · What stands in a file is read. · One node of a store is changed: what is always so of the memory; Read. · Two operations about two nodes: the order does not matter. · Operations on one node. · Operations on one node: Do. · A rising list without one. · A node is made: what is always so of the memory. · A node is made. -/
import Derived.Test.YtijnmokpihhhcaaDoorZ1
import Derived.Test.YtijnmokpihhhcaaDoorZ2
import Derived.Test.YtijnmokpihhhcaaDoorZ3
import Derived.Test.YtijnmokpihhhcaaDoorZ4
import Derived.Test.YtijnmokpihhhcaaDoorZ5
import Derived.Test.YtijnmokpihhhcaaDoorZ6
import Derived.Test.YtijnmokpihhhcaaDoorZ7
import Derived.Test.YtijnmokpihhhcaaDoorZ8
import Derived.Test.YtijnmokpihhhcaaDoorZ9
import Derived.Test.YtijnmokpihhhcaaDoorZ10
import Derived.Laws.IdiomCopy
import Derived.ChangeArms
import Derived.SizedLaws
import Derived.Laws.MakeOwn
namespace Go.Proofs.YtijnmokpihhhcaaDoor
open Go
set_option linter.unusedVariables false
set_option linter.unusedSimpArgs false
set_option maxRecDepth 100000

/-- What is told of a node, cell by cell. -/
abbrev infL (i : Inf) : List Value := [.int .u64 i.path, .int .u64 i.parent, .string (strOf i.name), .int .u32 i.mode, .string (strOf i.uid), .string (strOf i.gid), .string (strOf i.muid), .int .u32 i.atime, .int .u32 i.mtime, .int .u32 i.vers, .int .u64 i.length, .int .i64 i.opens, .int .i64 i.kids]
/-- A node's cells: its lock, what is told of it, its children, its blocks. -/
abbrev nodeC (st : Int) (i : Inf) (vk vb : Value) : Array Value := #[.int .i32 st, .int .u32 0, .int .u64 i.path, .int .u64 i.parent, .string (strOf i.name), .int .u32 i.mode, .string (strOf i.uid), .string (strOf i.gid), .string (strOf i.muid), .int .u32 i.atime, .int .u32 i.mtime, .int .u32 i.vers, .int .u64 i.length, .int .i64 i.opens, .int .i64 i.kids, vk, vb]
abbrev NodeB (n : Nat) (st : Int) (i : Inf) (vk vb : Value) : HP := Blk n (.cells (nodeC st i vk vb) 92 (0, 0))


theorem mayMode_any {w0 w : World} {A : HP} (h : St w0 A w) {m : Nat} (hm : m < 4294967296) :
    Calls Tryd.prog 70 #[.int .u32 m] w fun e w' => St w0 A w' ∧ e = .returned (.bool (modeF m)) := by
  refine F70.calls (by simp) ?_
  unfold F70.code
  have hb : decide (((m &&& 469761536 : Nat) : Int) = 0) = modeF m := by
    unfold modeF
    rw [decide_eq_decide]
    omega
  simp -dsimp -implicitDefEqProofs (disch := omega) only [go_sem, reqD_of, dec_t, dec_f, wrap_i64, wrap_u32, wrap_u64, wrap_u8, bMode hm, hb]
  exact h


theorem mayUser_any {w0 w : World} {A : HP} (h : St w0 A w) [Gives A Tabs] {l : List UInt8} (hl : l.length ≤ 9223372036854775807) :
    Calls Tryd.prog 34 #[.string (strOf l)] w fun e w' => St w0 A w' ∧ e = .returned (.bool (userF l)) := by
  refine F34.calls (by simp) ?_
  unfold F34.code
  by_cases h0 : (l.length : Int) ≤ 32
  · have : userF l = good l := by simp [userF]; intros; omega
    simp -dsimp -implicitDefEqProofs (disch := omega) only [go_sem, reqD_of, dec_t, dec_f, wrap_i64, wrap_u32, wrap_u64, wrap_u8, h0]
    refine (good_any h hl).mono ?_
    rintro e w1 ⟨h1, rfl⟩
    simp -dsimp -implicitDefEqProofs (disch := omega) only [go_sem, reqD_of, dec_t, dec_f, wrap_i64, wrap_u32, wrap_u64, wrap_u8, h0]
    rw [this]
    exact ⟨h1, rfl⟩
  · have : userF l = false := by simp [userF]; intros; omega
    simp -dsimp -implicitDefEqProofs (disch := omega) only [go_sem, reqD_of, dec_t, dec_f, wrap_i64, wrap_u32, wrap_u64, wrap_u8, h0]
    rw [this]
    exact ⟨h, rfl⟩

section
attribute [local go_sem] F46.t3_eq
theorem opens_any {w0 w : World} {A : HP} {n : Nat} {st : Int} {i : Inf} {vk vb : Value} (h : St w0 (NodeB n st i vk vb * A) w) {k : Int} (hk : -9223372036854775808 ≤ k ∧ k ≤ 9223372036854775807) (ho : 0 ≤ i.opens ∧ i.opens ≤ 2147483647) :
    Calls Tryd.prog 46 #[.pointer (some ⟨n, 0, none⟩), .int .i64 k] w fun e w' => match opensF k i with
      | .error x => St w0 (NodeB n st i vk vb * A) w' ∧ e = .returned (.int .i64 x)
      | .ok j => St w0 (NodeB n st j vk vb * A) w' ∧ e = .returned (.int .i64 0) := by
  refine F46.calls (by simp) ?_
  unfold F46.code
  by_cases h1 : k < -i.opens
  · have : opensF k i = .error 87 := by unfold opensF; rw [if_pos (Or.inl h1)]
    rw [this]
    simp -dsimp -implicitDefEqProofs (disch := omega) only [go_sem, reqD_of, dec_t, dec_f, wrap_i64, wrap_u32, wrap_u64, wrap_u8, h.cl n, h1]
    exact h
  by_cases h2 : 2147483647 - i.opens < k
  · have : opensF k i = .error 87 := by unfold opensF; rw [if_pos (Or.inr h2)]
    rw [this]
    simp -dsimp -implicitDefEqProofs (disch := omega) only [go_sem, reqD_of, dec_t, dec_f, wrap_i64, wrap_u32, wrap_u64, wrap_u8, h.cl n, h1, h2]
    exact h
  have : opensF k i = .ok { i with opens := i.opens + k } := by unfold opensF; rw [if_neg (by omega)]
  rw [this]
  simp -dsimp -implicitDefEqProofs (disch := omega) only [go_sem, reqD_of, dec_t, dec_f, wrap_i64, wrap_u32, wrap_u64, wrap_u8, h.cl n, h1, h2]
  refine h.sto (by simp) rfl fun w1 hw1 => ?_
  simp -dsimp -implicitDefEqProofs (disch := omega) only [go_sem, reqD_of, dec_t, dec_f, wrap_i64, wrap_u32, wrap_u64, wrap_u8]
  exact hw1

/-! ### set -/

def g0 (m : Nat) (t i : Inf) : Inf := { i with mode := if m.testBit 0 then t.mode else i.mode }
def g1 (m : Nat) (t i : Inf) : Inf := { i with uid := if m.testBit 1 then t.uid else i.uid }
def g2 (m : Nat) (t i : Inf) : Inf := { i with gid := if m.testBit 2 then t.gid else i.gid }
def g3 (m : Nat) (t i : Inf) : Inf := { i with muid := if m.testBit 3 then t.muid else i.muid }
def g4 (m : Nat) (t i : Inf) : Inf := { i with atime := if m.testBit 4 then t.atime else i.atime }
def g5 (m : Nat) (t i : Inf) : Inf := { i with mtime := if m.testBit 5 then t.mtime else i.mtime }
def g6 (m : Nat) (i : Inf) : Inf := { i with vers := if m.testBit 6 then (i.vers + 1) % 4294967296 else i.vers }

abbrev infB (B : Nat) (t : Inf) : HP := Blk B (.cells (infL t).toArray 41 (0, 0))

end
section
attribute [local go_sem] F43.t6_eq F43.t23_eq
end
section
variable {w0 w : World} {A : HP} {n B m : Nat} {st : Int} {t i : Inf} {vk vb : Value} {e : FA} {R : Ending → World → Prop}
theorem set_t21 (hm : m < 256) (h : St w0 (NodeB n st i vk vb * (infB B t * A)) w) (hd : e.ds = []) (e0 : e.ρ 0 = .pointer (some ⟨n, 0, none⟩)) (e1 : e.ρ 1 = .int .u8 m) (e5 : e.ρ 5 = .pointer (some ⟨B, 0, none⟩)) (hR : ∀ w', St w0 (NodeB n st (g6 m i) vk vb * (infB B t * A)) w' → R (.returned (.int .i64 0)) w') :
    cwE Tryd.prog F43.t21 (fnP Tryd.prog #[.tmp 6] R) e w := by
  rw [F43.t21_eq]
  unfold F43.t23
  have b := bMask (P := Tryd.prog) (T := 24) hm 6 (by omega) (c := 64) rfl
  cases k : m.testBit 6
  · have hg : g6 m i = i := by simp [g6, k]
    simp only [k, if_false, Bool.false_eq_true] at b
    simp -dsimp -implicitDefEqProofs (disch := omega) only [go_sem, reqD_of, dec_t, dec_f, wrap_i64, wrap_u32, wrap_u64, wrap_u8, hd, e0, e1, e5, b]
    rw [hg] at hR
    exact hR _ h
  · have hg : g6 m i = { i with vers := (i.vers + 1) % 4294967296 } := by simp [g6, k]
    have hw : IntKind.u32.wrap ((i.vers : Int) + 1) = (((i.vers + 1) % 4294967296 : Nat) : Int) := by
      simp only [IntKind.wrap, IntKind.signed, IntKind.bits, Bool.false_and, Bool.false_eq_true, if_false]
      omega
    simp only [k, if_true] at b
    simp -dsimp -implicitDefEqProofs (disch := omega) only [go_sem, reqD_of, dec_t, dec_f, wrap_i64, wrap_u32, wrap_u64, wrap_u8, hd, e0, e1, e5, b, h.cl n, h.cl B]
    rw [hw]
    refine h.sto (by simp) rfl fun w1 h1 => ?_
    simp only [List.setIfInBounds_toArray, List.set_cons_succ, List.set_cons_zero] at h1
    simp -dsimp -implicitDefEqProofs (disch := omega) only [go_sem, reqD_of, dec_t, dec_f, wrap_i64, wrap_u32, wrap_u64, wrap_u8, hd]
    rw [hg] at hR
    exact hR _ h1
theorem set_t19 (hm : m < 256) (h : St w0 (NodeB n st i vk vb * (infB B t * A)) w) (hd : e.ds = []) (e0 : e.ρ 0 = .pointer (some ⟨n, 0, none⟩)) (e1 : e.ρ 1 = .int .u8 m) (e5 : e.ρ 5 = .pointer (some ⟨B, 0, none⟩)) (hR : ∀ w', St w0 (NodeB n st (g6 m (g5 m t i)) vk vb * (infB B t * A)) w' → R (.returned (.int .i64 0)) w') :
    cwE Tryd.prog F43.t19 (fnP Tryd.prog #[.tmp 6] R) e w := by
  rw [F43.t19_eq]

  have b := bMask (P := Tryd.prog) (T := 24) hm 5 (by omega) (c := 32) rfl
  cases k : m.testBit 5
  · have hg : g5 m t i = i := by simp [g5, k]
    simp only [k, if_false, Bool.false_eq_true] at b
    simp -dsimp -implicitDefEqProofs (disch := omega) only [go_sem, reqD_of, dec_t, dec_f, wrap_i64, wrap_u32, wrap_u64, wrap_u8, hd, e0, e1, e5, b]
    rw [hg] at hR
    exact set_t21 hm h (by simp -dsimp -implicitDefEqProofs only [go_sem, hd]) (by simp -dsimp -implicitDefEqProofs only [go_sem, e0]) (by simp -dsimp -implicitDefEqProofs only [go_sem, e1]) (by simp -dsimp -implicitDefEqProofs only [go_sem, e5]) hR
  · have hg : g5 m t i = { i with mtime := t.mtime } := by simp [g5, k]
    simp only [k, if_true] at b
    simp -dsimp -implicitDefEqProofs (disch := omega) only [go_sem, reqD_of, dec_t, dec_f, wrap_i64, wrap_u32, wrap_u64, wrap_u8, hd, e0, e1, e5, b, h.cl n, h.cl B]
    
    refine h.sto (by simp) rfl fun w1 h1 => ?_
    simp only [List.setIfInBounds_toArray, List.set_cons_succ, List.set_cons_zero] at h1
    simp -dsimp -implicitDefEqProofs (disch := omega) only [go_sem, reqD_of, dec_t, dec_f, wrap_i64, wrap_u32, wrap_u64, wrap_u8]
    rw [hg] at hR
    exact set_t21 hm h1 (by simp -dsimp -implicitDefEqProofs only [go_sem, hd]) (by simp -dsimp -implicitDefEqProofs only [go_sem, e0]) (by simp -dsimp -implicitDefEqProofs only [go_sem, e1]) (by simp -dsimp -implicitDefEqProofs only [go_sem, e5]) hR
theorem set_t17 (hm : m < 256) (h : St w0 (NodeB n st i vk vb * (infB B t * A)) w) (hd : e.ds = []) (e0 : e.ρ 0 = .pointer (some ⟨n, 0, none⟩)) (e1 : e.ρ 1 = .int .u8 m) (e5 : e.ρ 5 = .pointer (some ⟨B, 0, none⟩)) (hR : ∀ w', St w0 (NodeB n st (g6 m (g5 m t (g4 m t i))) vk vb * (infB B t * A)) w' → R (.returned (.int .i64 0)) w') :
    cwE Tryd.prog F43.t17 (fnP Tryd.prog #[.tmp 6] R) e w := by
  rw [F43.t17_eq]

  have b := bMask (P := Tryd.prog) (T := 24) hm 4 (by omega) (c := 16) rfl
  cases k : m.testBit 4
  · have hg : g4 m t i = i := by simp [g4, k]
    simp only [k, if_false, Bool.false_eq_true] at b
    simp -dsimp -implicitDefEqProofs (disch := omega) only [go_sem, reqD_of, dec_t, dec_f, wrap_i64, wrap_u32, wrap_u64, wrap_u8, hd, e0, e1, e5, b]
    rw [hg] at hR
    exact set_t19 hm h (by simp -dsimp -implicitDefEqProofs only [go_sem, hd]) (by simp -dsimp -implicitDefEqProofs only [go_sem, e0]) (by simp -dsimp -implicitDefEqProofs only [go_sem, e1]) (by simp -dsimp -implicitDefEqProofs only [go_sem, e5]) hR
  · have hg : g4 m t i = { i with atime := t.atime } := by simp [g4, k]
    simp only [k, if_true] at b
    simp -dsimp -implicitDefEqProofs (disch := omega) only [go_sem, reqD_of, dec_t, dec_f, wrap_i64, wrap_u32, wrap_u64, wrap_u8, hd, e0, e1, e5, b, h.cl n, h.cl B]
    
    refine h.sto (by simp) rfl fun w1 h1 => ?_
    simp only [List.setIfInBounds_toArray, List.set_cons_succ, List.set_cons_zero] at h1
    simp -dsimp -implicitDefEqProofs (disch := omega) only [go_sem, reqD_of, dec_t, dec_f, wrap_i64, wrap_u32, wrap_u64, wrap_u8]
    rw [hg] at hR
    exact set_t19 hm h1 (by simp -dsimp -implicitDefEqProofs only [go_sem, hd]) (by simp -dsimp -implicitDefEqProofs only [go_sem, e0]) (by simp -dsimp -implicitDefEqProofs only [go_sem, e1]) (by simp -dsimp -implicitDefEqProofs only [go_sem, e5]) hR
theorem set_t15 (hm : m < 256) (h : St w0 (NodeB n st i vk vb * (infB B t * A)) w) (hd : e.ds = []) (e0 : e.ρ 0 = .pointer (some ⟨n, 0, none⟩)) (e1 : e.ρ 1 = .int .u8 m) (e5 : e.ρ 5 = .pointer (some ⟨B, 0, none⟩)) (hR : ∀ w', St w0 (NodeB n st (g6 m (g5 m t (g4 m t (g3 m t i)))) vk vb * (infB B t * A)) w' → R (.returned (.int .i64 0)) w') :
    cwE Tryd.prog F43.t15 (fnP Tryd.prog #[.tmp 6] R) e w := by
  rw [F43.t15_eq]

  have b := bMask (P := Tryd.prog) (T := 24) hm 3 (by omega) (c := 8) rfl
  cases k : m.testBit 3
  · have hg : g3 m t i = i := by simp [g3, k]
    simp only [k, if_false, Bool.false_eq_true] at b
    simp -dsimp -implicitDefEqProofs (disch := omega) only [go_sem, reqD_of, dec_t, dec_f, wrap_i64, wrap_u32, wrap_u64, wrap_u8, hd, e0, e1, e5, b]
    rw [hg] at hR
    exact set_t17 hm h (by simp -dsimp -implicitDefEqProofs only [go_sem, hd]) (by simp -dsimp -implicitDefEqProofs only [go_sem, e0]) (by simp -dsimp -implicitDefEqProofs only [go_sem, e1]) (by simp -dsimp -implicitDefEqProofs only [go_sem, e5]) hR
  · have hg : g3 m t i = { i with muid := t.muid } := by simp [g3, k]
    simp only [k, if_true] at b
    simp -dsimp -implicitDefEqProofs (disch := omega) only [go_sem, reqD_of, dec_t, dec_f, wrap_i64, wrap_u32, wrap_u64, wrap_u8, hd, e0, e1, e5, b, h.cl n, h.cl B]
    
    refine h.sto (by simp) rfl fun w1 h1 => ?_
    simp only [List.setIfInBounds_toArray, List.set_cons_succ, List.set_cons_zero] at h1
    simp -dsimp -implicitDefEqProofs (disch := omega) only [go_sem, reqD_of, dec_t, dec_f, wrap_i64, wrap_u32, wrap_u64, wrap_u8]
    rw [hg] at hR
    exact set_t17 hm h1 (by simp -dsimp -implicitDefEqProofs only [go_sem, hd]) (by simp -dsimp -implicitDefEqProofs only [go_sem, e0]) (by simp -dsimp -implicitDefEqProofs only [go_sem, e1]) (by simp -dsimp -implicitDefEqProofs only [go_sem, e5]) hR
theorem set_t13 (hm : m < 256) (h : St w0 (NodeB n st i vk vb * (infB B t * A)) w) (hd : e.ds = []) (e0 : e.ρ 0 = .pointer (some ⟨n, 0, none⟩)) (e1 : e.ρ 1 = .int .u8 m) (e5 : e.ρ 5 = .pointer (some ⟨B, 0, none⟩)) (hR : ∀ w', St w0 (NodeB n st (g6 m (g5 m t (g4 m t (g3 m t (g2 m t i))))) vk vb * (infB B t * A)) w' → R (.returned (.int .i64 0)) w') :
    cwE Tryd.prog F43.t13 (fnP Tryd.prog #[.tmp 6] R) e w := by
  rw [F43.t13_eq]

  have b := bMask (P := Tryd.prog) (T := 24) hm 2 (by omega) (c := 4) rfl
  cases k : m.testBit 2
  · have hg : g2 m t i = i := by simp [g2, k]
    simp only [k, if_false, Bool.false_eq_true] at b
    simp -dsimp -implicitDefEqProofs (disch := omega) only [go_sem, reqD_of, dec_t, dec_f, wrap_i64, wrap_u32, wrap_u64, wrap_u8, hd, e0, e1, e5, b]
    rw [hg] at hR
    exact set_t15 hm h (by simp -dsimp -implicitDefEqProofs only [go_sem, hd]) (by simp -dsimp -implicitDefEqProofs only [go_sem, e0]) (by simp -dsimp -implicitDefEqProofs only [go_sem, e1]) (by simp -dsimp -implicitDefEqProofs only [go_sem, e5]) hR
  · have hg : g2 m t i = { i with gid := t.gid } := by simp [g2, k]
    simp only [k, if_true] at b
    simp -dsimp -implicitDefEqProofs (disch := omega) only [go_sem, reqD_of, dec_t, dec_f, wrap_i64, wrap_u32, wrap_u64, wrap_u8, hd, e0, e1, e5, b, h.cl n, h.cl B]
    
    refine h.sto (by simp) rfl fun w1 h1 => ?_
    simp only [List.setIfInBounds_toArray, List.set_cons_succ, List.set_cons_zero] at h1
    simp -dsimp -implicitDefEqProofs (disch := omega) only [go_sem, reqD_of, dec_t, dec_f, wrap_i64, wrap_u32, wrap_u64, wrap_u8]
    rw [hg] at hR
    exact set_t15 hm h1 (by simp -dsimp -implicitDefEqProofs only [go_sem, hd]) (by simp -dsimp -implicitDefEqProofs only [go_sem, e0]) (by simp -dsimp -implicitDefEqProofs only [go_sem, e1]) (by simp -dsimp -implicitDefEqProofs only [go_sem, e5]) hR
theorem set_t11 (hm : m < 256) (h : St w0 (NodeB n st i vk vb * (infB B t * A)) w) (hd : e.ds = []) (e0 : e.ρ 0 = .pointer (some ⟨n, 0, none⟩)) (e1 : e.ρ 1 = .int .u8 m) (e5 : e.ρ 5 = .pointer (some ⟨B, 0, none⟩)) (hR : ∀ w', St w0 (NodeB n st (g6 m (g5 m t (g4 m t (g3 m t (g2 m t (g1 m t i)))))) vk vb * (infB B t * A)) w' → R (.returned (.int .i64 0)) w') :
    cwE Tryd.prog F43.t11 (fnP Tryd.prog #[.tmp 6] R) e w := by
  rw [F43.t11_eq]

  have b := bMask (P := Tryd.prog) (T := 24) hm 1 (by omega) (c := 2) rfl
  cases k : m.testBit 1
  · have hg : g1 m t i = i := by simp [g1, k]
    simp only [k, if_false, Bool.false_eq_true] at b
    simp -dsimp -implicitDefEqProofs (disch := omega) only [go_sem, reqD_of, dec_t, dec_f, wrap_i64, wrap_u32, wrap_u64, wrap_u8, hd, e0, e1, e5, b]
    rw [hg] at hR
    exact set_t13 hm h (by simp -dsimp -implicitDefEqProofs only [go_sem, hd]) (by simp -dsimp -implicitDefEqProofs only [go_sem, e0]) (by simp -dsimp -implicitDefEqProofs only [go_sem, e1]) (by simp -dsimp -implicitDefEqProofs only [go_sem, e5]) hR
  · have hg : g1 m t i = { i with uid := t.uid } := by simp [g1, k]
    simp only [k, if_true] at b
    simp -dsimp -implicitDefEqProofs (disch := omega) only [go_sem, reqD_of, dec_t, dec_f, wrap_i64, wrap_u32, wrap_u64, wrap_u8, hd, e0, e1, e5, b, h.cl n, h.cl B]
    
    refine h.sto (by simp) rfl fun w1 h1 => ?_
    simp only [List.setIfInBounds_toArray, List.set_cons_succ, List.set_cons_zero] at h1
    simp -dsimp -implicitDefEqProofs (disch := omega) only [go_sem, reqD_of, dec_t, dec_f, wrap_i64, wrap_u32, wrap_u64, wrap_u8]
    rw [hg] at hR
    exact set_t13 hm h1 (by simp -dsimp -implicitDefEqProofs only [go_sem, hd]) (by simp -dsimp -implicitDefEqProofs only [go_sem, e0]) (by simp -dsimp -implicitDefEqProofs only [go_sem, e1]) (by simp -dsimp -implicitDefEqProofs only [go_sem, e5]) hR
theorem set_t9 (hm : m < 256) (h : St w0 (NodeB n st i vk vb * (infB B t * A)) w) (hd : e.ds = []) (e0 : e.ρ 0 = .pointer (some ⟨n, 0, none⟩)) (e1 : e.ρ 1 = .int .u8 m) (e5 : e.ρ 5 = .pointer (some ⟨B, 0, none⟩)) (hR : ∀ w', St w0 (NodeB n st (g6 m (g5 m t (g4 m t (g3 m t (g2 m t (g1 m t (g0 m t i))))))) vk vb * (infB B t * A)) w' → R (.returned (.int .i64 0)) w') :
    cwE Tryd.prog F43.t9 (fnP Tryd.prog #[.tmp 6] R) e w := by
  rw [F43.t9_eq]

  have b := bMask (P := Tryd.prog) (T := 24) hm 0 (by omega) (c := 1) rfl
  cases k : m.testBit 0
  · have hg : g0 m t i = i := by simp [g0, k]
    simp only [k, if_false, Bool.false_eq_true] at b
    simp -dsimp -implicitDefEqProofs (disch := omega) only [go_sem, reqD_of, dec_t, dec_f, wrap_i64, wrap_u32, wrap_u64, wrap_u8, hd, e0, e1, e5, b]
    rw [hg] at hR
    exact set_t11 hm h (by simp -dsimp -implicitDefEqProofs only [go_sem, hd]) (by simp -dsimp -implicitDefEqProofs only [go_sem, e0]) (by simp -dsimp -implicitDefEqProofs only [go_sem, e1]) (by simp -dsimp -implicitDefEqProofs only [go_sem, e5]) hR
  · have hg : g0 m t i = { i with mode := t.mode } := by simp [g0, k]
    simp only [k, if_true] at b
    simp -dsimp -implicitDefEqProofs (disch := omega) only [go_sem, reqD_of, dec_t, dec_f, wrap_i64, wrap_u32, wrap_u64, wrap_u8, hd, e0, e1, e5, b, h.cl n, h.cl B]
    
    refine h.sto (by simp) rfl fun w1 h1 => ?_
    simp only [List.setIfInBounds_toArray, List.set_cons_succ, List.set_cons_zero] at h1
    simp -dsimp -implicitDefEqProofs (disch := omega) only [go_sem, reqD_of, dec_t, dec_f, wrap_i64, wrap_u32, wrap_u64, wrap_u8]
    rw [hg] at hR
    exact set_t11 hm h1 (by simp -dsimp -implicitDefEqProofs only [go_sem, hd]) (by simp -dsimp -implicitDefEqProofs only [go_sem, e0]) (by simp -dsimp -implicitDefEqProofs only [go_sem, e1]) (by simp -dsimp -implicitDefEqProofs only [go_sem, e5]) hR
end


section
variable {w0 w : World} {A : HP} [Gives A Tabs] {n B m : Nat} {st : Int} {t i : Inf} {vk vb : Value} {e : FA} {K : FA → World → Prop} {X : List PanicEntry → FA → World → Prop} {R : Ending → World → Prop}
omit [Gives A Tabs] in
theorem set_r2 (hm : m < 256) (hl : t.mode < 4294967296) (h : St w0 (NodeB n st i vk vb * (infB B t * A)) w) (hd : e.ds = []) (e0 : e.ρ 0 = .pointer (some ⟨n, 0, none⟩)) (e1 : e.ρ 1 = .int .u8 m) (e5 : e.ρ 5 = .pointer (some ⟨B, 0, none⟩))
    (hQ : ∀ e' w', St w0 (NodeB n st i vk vb * (infB B t * A)) w' → e'.ds = [] → e'.ρ 0 = .pointer (some ⟨n, 0, none⟩) → e'.ρ 1 = .int .u8 m → e'.ρ 5 = .pointer (some ⟨B, 0, none⟩) → e'.ρ 7 = .bool (m.testBit 0 && !modeF t.mode) → K e' w') :
    owE Tryd.prog X K F43.r2 e w := by
  have b := bMask (P := Tryd.prog) (T := 24) hm 0 (by omega) (c := 1) rfl
  cases k : m.testBit 0
  · simp only [k, if_false, Bool.false_eq_true] at b
    rw [k] at hQ
    simp -dsimp -implicitDefEqProofs (disch := omega) only [go_sem, reqD_of, dec_t, dec_f, wrap_i64, wrap_u32, wrap_u64, wrap_u8, hd, e0, e1, e5, b]
    exact hQ _ _ h (by simp -dsimp -implicitDefEqProofs only [go_sem, hd]) (by simp -dsimp -implicitDefEqProofs only [go_sem, e0]) (by simp -dsimp -implicitDefEqProofs only [go_sem, e1]) (by simp -dsimp -implicitDefEqProofs only [go_sem, e5]) (by simp -dsimp -implicitDefEqProofs only [go_sem])
  · simp only [k, if_true] at b
    rw [k] at hQ
    simp -dsimp -implicitDefEqProofs (disch := omega) only [go_sem, reqD_of, dec_t, dec_f, wrap_i64, wrap_u32, wrap_u64, wrap_u8, hd, e0, e1, e5, b, h.cl B]
    refine (mayMode_any h hl).mono ?_
    rintro e' w1 ⟨h1, rfl⟩
    simp -dsimp -implicitDefEqProofs (disch := omega) only [go_sem, reqD_of, dec_t, dec_f, wrap_i64, wrap_u32, wrap_u64, wrap_u8]
    exact hQ _ _ h1 (by simp -dsimp -implicitDefEqProofs only [go_sem, hd]) (by simp -dsimp -implicitDefEqProofs only [go_sem, e0]) (by simp -dsimp -implicitDefEqProofs only [go_sem, e1]) (by simp -dsimp -implicitDefEqProofs only [go_sem, e5]) (by simp -dsimp -implicitDefEqProofs only [go_sem])
theorem set_r3 (hm : m < 256) (hl : t.uid.length ≤ 9223372036854775807) (h : St w0 (NodeB n st i vk vb * (infB B t * A)) w) (hd : e.ds = []) (e0 : e.ρ 0 = .pointer (some ⟨n, 0, none⟩)) (e1 : e.ρ 1 = .int .u8 m) (e5 : e.ρ 5 = .pointer (some ⟨B, 0, none⟩))
    (hQ : ∀ e' w', St w0 (NodeB n st i vk vb * (infB B t * A)) w' → e'.ds = [] → e'.ρ 0 = .pointer (some ⟨n, 0, none⟩) → e'.ρ 1 = .int .u8 m → e'.ρ 5 = .pointer (some ⟨B, 0, none⟩) → e'.ρ 7 = .bool (m.testBit 1 && !userF t.uid) → K e' w') :
    owE Tryd.prog X K F43.r3 e w := by
  have b := bMask (P := Tryd.prog) (T := 24) hm 1 (by omega) (c := 2) rfl
  cases k : m.testBit 1
  · simp only [k, if_false, Bool.false_eq_true] at b
    rw [k] at hQ
    simp -dsimp -implicitDefEqProofs (disch := omega) only [go_sem, reqD_of, dec_t, dec_f, wrap_i64, wrap_u32, wrap_u64, wrap_u8, hd, e0, e1, e5, b]
    exact hQ _ _ h (by simp -dsimp -implicitDefEqProofs only [go_sem, hd]) (by simp -dsimp -implicitDefEqProofs only [go_sem, e0]) (by simp -dsimp -implicitDefEqProofs only [go_sem, e1]) (by simp -dsimp -implicitDefEqProofs only [go_sem, e5]) (by simp -dsimp -implicitDefEqProofs only [go_sem])
  · simp only [k, if_true] at b
    rw [k] at hQ
    simp -dsimp -implicitDefEqProofs (disch := omega) only [go_sem, reqD_of, dec_t, dec_f, wrap_i64, wrap_u32, wrap_u64, wrap_u8, hd, e0, e1, e5, b, h.cl B]
    refine (mayUser_any h hl).mono ?_
    rintro e' w1 ⟨h1, rfl⟩
    simp -dsimp -implicitDefEqProofs (disch := omega) only [go_sem, reqD_of, dec_t, dec_f, wrap_i64, wrap_u32, wrap_u64, wrap_u8]
    exact hQ _ _ h1 (by simp -dsimp -implicitDefEqProofs only [go_sem, hd]) (by simp -dsimp -implicitDefEqProofs only [go_sem, e0]) (by simp -dsimp -implicitDefEqProofs only [go_sem, e1]) (by simp -dsimp -implicitDefEqProofs only [go_sem, e5]) (by simp -dsimp -implicitDefEqProofs only [go_sem])
theorem set_r4 (hm : m < 256) (hl : t.gid.length ≤ 9223372036854775807) (h : St w0 (NodeB n st i vk vb * (infB B t * A)) w) (hd : e.ds = []) (e0 : e.ρ 0 = .pointer (some ⟨n, 0, none⟩)) (e1 : e.ρ 1 = .int .u8 m) (e5 : e.ρ 5 = .pointer (some ⟨B, 0, none⟩))
    (hQ : ∀ e' w', St w0 (NodeB n st i vk vb * (infB B t * A)) w' → e'.ds = [] → e'.ρ 0 = .pointer (some ⟨n, 0, none⟩) → e'.ρ 1 = .int .u8 m → e'.ρ 5 = .pointer (some ⟨B, 0, none⟩) → e'.ρ 7 = .bool (m.testBit 2 && !userF t.gid) → K e' w') :
    owE Tryd.prog X K F43.r4 e w := by
  have b := bMask (P := Tryd.prog) (T := 24) hm 2 (by omega) (c := 4) rfl
  cases k : m.testBit 2
  · simp only [k, if_false, Bool.false_eq_true] at b
    rw [k] at hQ
    simp -dsimp -implicitDefEqProofs (disch := omega) only [go_sem, reqD_of, dec_t, dec_f, wrap_i64, wrap_u32, wrap_u64, wrap_u8, hd, e0, e1, e5, b]
    exact hQ _ _ h (by simp -dsimp -implicitDefEqProofs only [go_sem, hd]) (by simp -dsimp -implicitDefEqProofs only [go_sem, e0]) (by simp -dsimp -implicitDefEqProofs only [go_sem, e1]) (by simp -dsimp -implicitDefEqProofs only [go_sem, e5]) (by simp -dsimp -implicitDefEqProofs only [go_sem])
  · simp only [k, if_true] at b
    rw [k] at hQ
    simp -dsimp -implicitDefEqProofs (disch := omega) only [go_sem, reqD_of, dec_t, dec_f, wrap_i64, wrap_u32, wrap_u64, wrap_u8, hd, e0, e1, e5, b, h.cl B]
    refine (mayUser_any h hl).mono ?_
    rintro e' w1 ⟨h1, rfl⟩
    simp -dsimp -implicitDefEqProofs (disch := omega) only [go_sem, reqD_of, dec_t, dec_f, wrap_i64, wrap_u32, wrap_u64, wrap_u8]
    exact hQ _ _ h1 (by simp -dsimp -implicitDefEqProofs only [go_sem, hd]) (by simp -dsimp -implicitDefEqProofs only [go_sem, e0]) (by simp -dsimp -implicitDefEqProofs only [go_sem, e1]) (by simp -dsimp -implicitDefEqProofs only [go_sem, e5]) (by simp -dsimp -implicitDefEqProofs only [go_sem])
theorem set_r5 (hm : m < 256) (hl : t.muid.length ≤ 9223372036854775807) (h : St w0 (NodeB n st i vk vb * (infB B t * A)) w) (hd : e.ds = []) (e0 : e.ρ 0 = .pointer (some ⟨n, 0, none⟩)) (e1 : e.ρ 1 = .int .u8 m) (e5 : e.ρ 5 = .pointer (some ⟨B, 0, none⟩))
    (hQ : ∀ e' w', St w0 (NodeB n st i vk vb * (infB B t * A)) w' → e'.ds = [] → e'.ρ 0 = .pointer (some ⟨n, 0, none⟩) → e'.ρ 1 = .int .u8 m → e'.ρ 5 = .pointer (some ⟨B, 0, none⟩) → e'.ρ 7 = .bool (m.testBit 3 && !userF t.muid) → K e' w') :
    owE Tryd.prog X K F43.r5 e w := by
  have b := bMask (P := Tryd.prog) (T := 24) hm 3 (by omega) (c := 8) rfl
  cases k : m.testBit 3
  · simp only [k, if_false, Bool.false_eq_true] at b
    rw [k] at hQ
    simp -dsimp -implicitDefEqProofs (disch := omega) only [go_sem, reqD_of, dec_t, dec_f, wrap_i64, wrap_u32, wrap_u64, wrap_u8, hd, e0, e1, e5, b]
    exact hQ _ _ h (by simp -dsimp -implicitDefEqProofs only [go_sem, hd]) (by simp -dsimp -implicitDefEqProofs only [go_sem, e0]) (by simp -dsimp -implicitDefEqProofs only [go_sem, e1]) (by simp -dsimp -implicitDefEqProofs only [go_sem, e5]) (by simp -dsimp -implicitDefEqProofs only [go_sem])
  · simp only [k, if_true] at b
    rw [k] at hQ
    simp -dsimp -implicitDefEqProofs (disch := omega) only [go_sem, reqD_of, dec_t, dec_f, wrap_i64, wrap_u32, wrap_u64, wrap_u8, hd, e0, e1, e5, b, h.cl B]
    refine (mayUser_any h hl).mono ?_
    rintro e' w1 ⟨h1, rfl⟩
    simp -dsimp -implicitDefEqProofs (disch := omega) only [go_sem, reqD_of, dec_t, dec_f, wrap_i64, wrap_u32, wrap_u64, wrap_u8]
    exact hQ _ _ h1 (by simp -dsimp -implicitDefEqProofs only [go_sem, hd]) (by simp -dsimp -implicitDefEqProofs only [go_sem, e0]) (by simp -dsimp -implicitDefEqProofs only [go_sem, e1]) (by simp -dsimp -implicitDefEqProofs only [go_sem, e5]) (by simp -dsimp -implicitDefEqProofs only [go_sem])
omit [Gives A Tabs] in
theorem set_t6T (hd : e.ds = []) (e0 : e.ρ 0 = .pointer (some ⟨n, 0, none⟩)) (e1 : e.ρ 1 = .int .u8 m) (e5 : e.ρ 5 = .pointer (some ⟨B, 0, none⟩)) (e7 : e.ρ 7 = .bool true) (hR : R (.returned (.int .i64 1)) w) :
    cwE Tryd.prog F43.t6 (blockP 0 (thenP (cwD Tryd.prog none F43.t9 (fnP Tryd.prog #[.tmp 6] R)) (fnP Tryd.prog #[.tmp 6] R))) e w := by
  rw [F43.t6_eq]
  simp -dsimp -implicitDefEqProofs (disch := omega) only [go_sem, reqD_of, dec_t, dec_f, wrap_i64, wrap_u32, wrap_u64, wrap_u8, hd, e7]
  exact hR
omit [Gives A Tabs] in
theorem set_t6F (hm : m < 256) (ht : t.mode < 4294967296) (hi : i.mode < 4294967296) (h : St w0 (NodeB n st i vk vb * (infB B t * A)) w) (hd : e.ds = []) (e0 : e.ρ 0 = .pointer (some ⟨n, 0, none⟩)) (e1 : e.ρ 1 = .int .u8 m) (e5 : e.ρ 5 = .pointer (some ⟨B, 0, none⟩)) (e7 : e.ρ 7 = .bool false)
    (hR : ∀ w', (m.testBit 0 && !(dirF t.mode == dirF i.mode)) = true → St w0 (NodeB n st i vk vb * (infB B t * A)) w' → R (.returned (.int .i64 81)) w')
    (hQ : ∀ e' w', (m.testBit 0 && !(dirF t.mode == dirF i.mode)) = false → St w0 (NodeB n st i vk vb * (infB B t * A)) w' → e'.ds = [] → e'.ρ 0 = .pointer (some ⟨n, 0, none⟩) → e'.ρ 1 = .int .u8 m → e'.ρ 5 = .pointer (some ⟨B, 0, none⟩) → cwE Tryd.prog F43.t9 (fnP Tryd.prog #[.tmp 6] R) e' w') :
    cwE Tryd.prog F43.t6 (blockP 0 (thenP (cwD Tryd.prog none F43.t9 (fnP Tryd.prog #[.tmp 6] R)) (fnP Tryd.prog #[.tmp 6] R))) e w := by
  rw [F43.t6_eq]
  have b := bMask (P := Tryd.prog) (T := 24) hm 0 (by omega) (c := 1) rfl
  have bx := bDirX (P := Tryd.prog) (T := 29) ht hi
  have hx : binV Tryd.prog .xor 29 (.int .u32 t.mode) (.int .u32 i.mode) = some (.int .u32 ((t.mode ^^^ i.mode : Nat) : Int)) := bXor32 ht hi
  cases k : m.testBit 0
  · simp only [k, if_false, Bool.false_eq_true] at b
    rw [k] at hQ
    simp -dsimp -implicitDefEqProofs (disch := omega) only [go_sem, reqD_of, dec_t, dec_f, wrap_i64, wrap_u32, wrap_u64, wrap_u8, hd, e0, e1, e5, e7, b]
    exact hQ _ _ rfl h.drew (by simp -dsimp -implicitDefEqProofs only [go_sem, hd]) (by simp -dsimp -implicitDefEqProofs only [go_sem, e0]) (by simp -dsimp -implicitDefEqProofs only [go_sem, e1]) (by simp -dsimp -implicitDefEqProofs only [go_sem, e5])
  · simp only [k, if_true] at b
    rw [k] at hQ hR
    cases k2 : dirF t.mode == dirF i.mode
    · simp only [k2, if_false, Bool.false_eq_true] at bx
      rw [k2] at hR
      simp -dsimp -implicitDefEqProofs (disch := omega) only [go_sem, reqD_of, dec_t, dec_f, wrap_i64, wrap_u32, wrap_u64, wrap_u8, hd, e0, e1, e5, e7, b, h.drew.cl B, h.drew.cl n, bx, hx]
      exact hR _ rfl h.drew
    · simp only [k2, if_true] at bx
      rw [k2] at hQ
      simp -dsimp -implicitDefEqProofs (disch := omega) only [go_sem, reqD_of, dec_t, dec_f, wrap_i64, wrap_u32, wrap_u64, wrap_u8, hd, e0, e1, e5, e7, b, h.drew.cl B, h.drew.cl n, bx, hx]
      exact hQ _ _ rfl h.drew (by simp -dsimp -implicitDefEqProofs only [go_sem, hd]) (by simp -dsimp -implicitDefEqProofs only [go_sem, e0]) (by simp -dsimp -implicitDefEqProofs only [go_sem, e1]) (by simp -dsimp -implicitDefEqProofs only [go_sem, e5])
end

section
attribute [local go_sem] F43.t23_eq F43.t21_eq F43.t19_eq F43.t17_eq F43.t15_eq F43.t13_eq F43.t11_eq
theorem set_any {w0 w : World} {A : HP} [Gives A Tabs] {n m : Nat} {st : Int} {t i : Inf} {vk vb : Value} (hm : m < 256) (ht : t.mode < 4294967296) (hi : i.mode < 4294967296) (hl : t.uid.length ≤ 9223372036854775807 ∧ t.gid.length ≤ 9223372036854775807 ∧ t.muid.length ≤ 9223372036854775807)
    (h : St w0 (NodeB n st i vk vb * A) w) :
    Calls Tryd.prog 43 #[.pointer (some ⟨n, 0, none⟩), .int .u8 m, .agg (infL t).toArray] w fun e w' => match setF m t i with
      | .error x => St w0 (NodeB n st i vk vb * A) w' ∧ e = .returned (.int .i64 x)
      | .ok j => St w0 (NodeB n st j vk vb * A) w' ∧ e = .returned (.int .i64 0) := by
  refine F43.calls (by simp) ?_
  unfold F43.code
  simp -dsimp -implicitDefEqProofs (disch := omega) only [go_sem, reqD_of, dec_t, dec_f, wrap_i64, wrap_u32, wrap_u64, wrap_u8]
  refine h.new fun B w1 h1 => ?_
  have h2 : St w0 (NodeB n st i vk vb * (infB B t * A)) w1 := h1.ac (by ac_rfl)
  have b := bAll (P := Tryd.prog) (T := 24) hm
  cases k7 : m.testBit 7
  case true =>
    have hr : setF m t i = .error 1 := by simp [setF, k7]
    rw [hr]
    simp only [k7, if_true] at b
    simp -dsimp -implicitDefEqProofs (disch := omega) only [go_sem, reqD_of, dec_t, dec_f, wrap_i64, wrap_u32, wrap_u64, wrap_u8, b]
    exact set_t6T (n := n) (B := B) (m := m) (by simp -dsimp -implicitDefEqProofs only [go_sem]) (by simp -dsimp -implicitDefEqProofs only [go_sem]) (by simp -dsimp -implicitDefEqProofs only [go_sem]) (by simp -dsimp -implicitDefEqProofs only [go_sem]) (by simp -dsimp -implicitDefEqProofs only [go_sem]) ⟨h2.sw2.right, rfl⟩
  simp only [k7, if_false, Bool.false_eq_true] at b
  generalize q2 : F43.r2 = r2
  generalize q3 : F43.r3 = r3
  generalize q4 : F43.r4 = r4
  generalize q5 : F43.r5 = r5
  simp -dsimp -implicitDefEqProofs (disch := omega) only [go_sem, reqD_of, dec_t, dec_f, wrap_i64, wrap_u32, wrap_u64, wrap_u8, b]
  subst q2
  refine set_r2 (t := t) hm ht h2 (by simp -dsimp -implicitDefEqProofs only [go_sem]) (by simp -dsimp -implicitDefEqProofs only [go_sem]) (by simp -dsimp -implicitDefEqProofs only [go_sem]) (by simp -dsimp -implicitDefEqProofs only [go_sem]) fun e2 w2 h3 d2 a0 a1 a5 a7 => ?_
  have out : (m.testBit 0 && !modeF t.mode || m.testBit 1 && !userF t.uid || m.testBit 2 && !userF t.gid || m.testBit 3 && !userF t.muid) = true → setF m t i = .error 1 := fun hx => by
    simp only [setF, k7, Bool.false_or, hx, if_true]
  cases x0 : (m.testBit 0 && !modeF t.mode)
  case true =>
    rw [x0] at a7
    rw [out (by rw [x0]; simp only [Bool.true_or])]
    simp -dsimp -implicitDefEqProofs (disch := omega) only [go_sem, reqD_of, dec_t, dec_f, wrap_i64, wrap_u32, wrap_u64, wrap_u8, d2, a0, a1, a5, a7]
    exact set_t6T d2 a0 a1 a5 a7 ⟨h3.sw2.right, rfl⟩
  rw [x0] at a7 out
  simp -dsimp -implicitDefEqProofs (disch := omega) only [go_sem, reqD_of, dec_t, dec_f, wrap_i64, wrap_u32, wrap_u64, wrap_u8, d2, a0, a1, a5, a7]
  subst q3
  refine set_r3 (t := t) hm hl.1 h3 d2 a0 a1 a5 fun e3 w3 h4 d3 c0 c1 c5 c7 => ?_
  cases x1 : (m.testBit 1 && !userF t.uid)
  case true =>
    rw [x1] at c7
    rw [out (by rw [x1]; simp only [Bool.or_true, Bool.true_or])]
    simp -dsimp -implicitDefEqProofs (disch := omega) only [go_sem, reqD_of, dec_t, dec_f, wrap_i64, wrap_u32, wrap_u64, wrap_u8, d3, c0, c1, c5, c7]
    exact set_t6T d3 c0 c1 c5 c7 ⟨h4.sw2.right, rfl⟩
  rw [x1] at c7 out
  simp -dsimp -implicitDefEqProofs (disch := omega) only [go_sem, reqD_of, dec_t, dec_f, wrap_i64, wrap_u32, wrap_u64, wrap_u8, d3, c0, c1, c5, c7]
  subst q4
  refine set_r4 (t := t) hm hl.2.1 h4 d3 c0 c1 c5 fun e4 w4 h5 d4 f0 f1 f5 f7 => ?_
  cases x2 : (m.testBit 2 && !userF t.gid)
  case true =>
    rw [x2] at f7
    rw [out (by rw [x2]; simp only [Bool.or_true, Bool.true_or])]
    simp -dsimp -implicitDefEqProofs (disch := omega) only [go_sem, reqD_of, dec_t, dec_f, wrap_i64, wrap_u32, wrap_u64, wrap_u8, d4, f0, f1, f5, f7]
    exact set_t6T d4 f0 f1 f5 f7 ⟨h5.sw2.right, rfl⟩
  rw [x2] at f7 out
  simp -dsimp -implicitDefEqProofs (disch := omega) only [go_sem, reqD_of, dec_t, dec_f, wrap_i64, wrap_u32, wrap_u64, wrap_u8, d4, f0, f1, f5, f7]
  subst q5
  refine set_r5 (t := t) hm hl.2.2 h5 d4 f0 f1 f5 fun e5 w5 h6 d5 j0 j1 j5 j7 => ?_
  cases x3 : (m.testBit 3 && !userF t.muid)
  case true =>
    rw [x3] at j7
    rw [out (by rw [x3]; simp only [Bool.or_true, Bool.true_or])]
    simp -dsimp -implicitDefEqProofs (disch := omega) only [go_sem, reqD_of, dec_t, dec_f, wrap_i64, wrap_u32, wrap_u64, wrap_u8, d5, j0, j1, j5, j7]
    exact set_t6T d5 j0 j1 j5 j7 ⟨h6.sw2.right, rfl⟩
  rw [x3] at j7 out
  simp -dsimp -implicitDefEqProofs (disch := omega) only [go_sem, reqD_of, dec_t, dec_f, wrap_i64, wrap_u32, wrap_u64, wrap_u8, d5, j0, j1, j5, j7]
  have in1 : (m.testBit 7 || m.testBit 0 && !modeF t.mode || m.testBit 1 && !userF t.uid || m.testBit 2 && !userF t.gid || m.testBit 3 && !userF t.muid) = false := by rw [k7, x0, x1, x2, x3]; rfl
  refine set_t6F hm ht hi h6 d5 j0 j1 j5 j7 (fun w7 hk h7 => ?_) fun e7 w7 hk h7 d7 l0 l1 l5 => ?_
  · have hr : setF m t i = .error 81 := by
      unfold setF
      rw [in1, hk]
      rfl
    rw [hr]
    exact ⟨h7.sw2.right, rfl⟩
  · have hr : setF m t i = .ok (g6 m (g5 m t (g4 m t (g3 m t (g2 m t (g1 m t (g0 m t i))))))) := by
      unfold setF
      rw [in1, hk]
      rfl
    rw [hr]
    exact set_t9 hm h7 d7 l0 l1 l5 fun w8 h8 => ⟨h8.sw2.right, rfl⟩
end
end Go.Proofs.YtijnmokpihhhcaaDoor

namespace Go.Proofs.YtijnmokpihhhcaaDoor
open Go
set_option linter.unusedVariables false
set_option linter.unusedSimpArgs false
set_option maxRecDepth 100000

abbrev u64V (x : Nat) : Value := .int .u64 (x : Int)
abbrev RdU (v : Value) (l : List Nat) : HP := Reads 1 v l.length (l.map u64V)
abbrev RowU (v : Value) (l : List Nat) : HP := RowO 30 1 v l.length (l.map u64V)


theorem nan1_any {w0 w : World} {A : HP} (h : St w0 A w) {a : Int} : Calls Tryd.prog 87 #[.int .u64 a] w fun e w' => St w0 A w' ∧ e = .returned (.bool false) := by
  refine F87.calls (by simp) ?_
  unfold F87.code
  simp -dsimp -implicitDefEqProofs (disch := omega) only [go_sem, reqD_of, dec_t, dec_f, wrap_i64, wrap_u32, wrap_u64, wrap_u8]
  exact h

theorem nan2_any {w0 w : World} {A : HP} (h : St w0 A w) {a : Int} : Calls Tryd.prog 99 #[.int .u64 a] w fun e w' => St w0 A w' ∧ e = .returned (.bool false) := by
  refine F99.calls (by simp) ?_
  unfold F99.code
  simp -dsimp -implicitDefEqProofs (disch := omega) only [go_sem, reqD_of, dec_t, dec_f, wrap_i64, wrap_u32, wrap_u64, wrap_u8]
  exact h

theorem lessU_any {w0 w : World} {A : HP} (h : St w0 A w) {a b : Int} : Calls Tryd.prog 86 #[.int .u64 a, .int .u64 b] w fun e w' => St w0 A w' ∧ e = .returned (.bool (decide (a < b))) := by
  refine F86.calls (by simp) ?_
  unfold F86.code
  simp -dsimp -implicitDefEqProofs (disch := omega) only [go_sem, reqD_of, dec_t, dec_f, wrap_i64, wrap_u32, wrap_u64, wrap_u8]
  refine (nan2_any h).mono ?_
  rintro e w1 ⟨h1, rfl⟩
  simp -dsimp -implicitDefEqProofs (disch := omega) only [go_sem, reqD_of, dec_t, dec_f, wrap_i64, wrap_u32, wrap_u64, wrap_u8]
  exact h1

/-- Where t stands in a rising list, or would stand. -/
def Place (l : List Nat) (t i : Nat) : Prop := i ≤ l.length ∧ (∀ k (hk : k < l.length), k < i → l[k] < t) ∧ (∀ k (hk : k < l.length), i ≤ k → t ≤ l[k])

section
attribute [local go_sem] F71.t4_eq
theorem search_any {w0 w : World} {A : HP} (h : St w0 A w) {v : Value} {l : List Nat} [hg : Gives A (RdU v l)] {t : Nat} (hl : l.Pairwise (· < ·)) (hn : l.length ≤ 1000000000) :
    Calls Tryd.prog 71 #[v, .int .u64 t] w fun e w' => St w0 A w' ∧ ∃ i, Place l t i ∧ e = .returned (.tuple #[.int .i64 (i : Nat), .bool (decide (t ∈ l))]) := by
  obtain ⟨a, c, rfl, hnc, hx⟩ := (h.gives (B := RdU v l)).rd.form
  clear hx
  refine F71.calls (by simp) ?_
  unfold F71.code
  simp -dsimp -implicitDefEqProofs (disch := omega) only [go_sem, reqD_of, dec_t, dec_f, wrap_i64, wrap_u32, wrap_u64, wrap_u8]
  refine loop_intro (fun e w' => e.ds = [] ∧ e.ρ 0 = .slice a l.length c ∧ e.ρ 1 = .int .u64 t ∧ e.ρ 6 = .int .i64 l.length ∧ ∃ i j : Nat, i ≤ j ∧ j ≤ l.length ∧ e.ρ 7 = .int .i64 i ∧ e.ρ 8 = .int .i64 j ∧
      (∀ k (hk : k < l.length), k < i → l[k] < t) ∧ (∀ k (hk : k < l.length), j ≤ k → t ≤ l[k]) ∧ St w0 A w')
    (fun e _ => match e.ρ 7, e.ρ 8 with | .int _ i, .int _ j => (j - i).toNat | _, _ => 0) ?_ ?_
  · exact ⟨by simp -dsimp -implicitDefEqProofs only [go_sem], by simp -dsimp -implicitDefEqProofs only [go_sem], by simp -dsimp -implicitDefEqProofs only [go_sem], by simp -dsimp -implicitDefEqProofs only [go_sem], 0, l.length, by omega, by omega, by simp -dsimp -implicitDefEqProofs only [go_sem], by simp -dsimp -implicitDefEqProofs only [go_sem], by intros; omega, by intros; omega, h⟩
  clear h w
  rintro e w ⟨hd, e0, e1, e6, i, j, hij, hj, e7, e8, lo, hi, h⟩
  by_cases hlt : (i : Int) < (j : Int)
  case neg =>
    have : i = j := by omega
    subst this
    have hP : Place l t i := ⟨hj, lo, hi⟩
    have hmem : decide (t ∈ l) = true ↔ ∃ (hk : i < l.length), l[i] = t := by
      rw [decide_eq_true_iff]
      constructor
      · intro ht
        obtain ⟨k, hk, rfl⟩ := List.getElem_of_mem ht
        rcases Nat.lt_trichotomy k i with h1 | h1 | h1
        · have := lo k hk h1; omega
        · subst h1; exact ⟨hk, rfl⟩
        · have h2 := hi i (by omega) (Nat.le_refl _)
          have h3 := List.pairwise_iff_getElem.1 hl i k (by omega) hk h1
          omega
      · rintro ⟨hk, rfl⟩; exact List.getElem_mem hk
    by_cases hin : (i : Int) < (l.length : Int)
    case neg =>
      have hf : decide (t ∈ l) = false := by
        cases hb : decide (t ∈ l)
        · rfl
        · obtain ⟨hk, _⟩ := hmem.1 hb; omega
      rw [hf]
      simp -dsimp -implicitDefEqProofs (disch := omega) only [go_sem, reqD_of, dec_t, dec_f, wrap_i64, wrap_u32, wrap_u64, wrap_u8, hd, e0, e1, e6, e7, e8, hlt]
      unfold F71.t8
      simp -dsimp -implicitDefEqProofs (disch := omega) only [go_sem, reqD_of, dec_t, dec_f, wrap_i64, wrap_u32, wrap_u64, wrap_u8, hd, e0, e1, e6, e7, e8, hin]
      exact ⟨h, i, hP, rfl⟩
    have hil : i < l.length := by omega
    obtain ⟨b, o, rfl, hc⟩ := h.atS (a := a) (n := l.length) (c := c) (xs := l.map u64V) (k := i) (by simpa using hil)
    simp only [List.getElem_map] at hc
    simp -dsimp -implicitDefEqProofs (disch := omega) only [go_sem, reqD_of, dec_t, dec_f, wrap_i64, wrap_u32, wrap_u64, wrap_u8, hd, e0, e1, e6, e7, e8, hlt]
    unfold F71.t8
    by_cases he : (l[i] : Int) = (t : Int)
    · have hf : decide (t ∈ l) = true := hmem.2 ⟨hil, by omega⟩
      rw [hf]
      simp -dsimp -implicitDefEqProofs (disch := omega) only [go_sem, reqD_of, dec_t, dec_f, wrap_i64, wrap_u32, wrap_u64, wrap_u8, hd, e0, e1, e6, e7, e8, hin, hc, he]
      exact ⟨h, i, hP, rfl⟩
    · have hf : decide (t ∈ l) = false := by
        cases hb : decide (t ∈ l)
        · rfl
        · obtain ⟨hk, h2⟩ := hmem.1 hb; omega
      rw [hf]
      simp -dsimp -implicitDefEqProofs (disch := omega) only [go_sem, reqD_of, dec_t, dec_f, wrap_i64, wrap_u32, wrap_u64, wrap_u8, hd, e0, e1, e6, e7, e8, hin, hc, he]
      refine (nan1_any h).mono ?_
      rintro e' w1 ⟨h1, rfl⟩
      simp -dsimp -implicitDefEqProofs (disch := omega) only [go_sem, reqD_of, dec_t, dec_f, wrap_i64, wrap_u32, wrap_u64, wrap_u8, hd, e0, e1, e6, e7, e8, hin, hc, he]
      exact ⟨h1, i, hP, rfl⟩
  obtain ⟨m, hme⟩ : ∃ m, m = (i + j) / 2 := ⟨_, rfl⟩
  have hml : m < l.length := by omega
  have hm : IntKind.i64.wrap (((i : Int) + j).fdiv 2) = m := by
    rw [Int.fdiv_eq_ediv_of_nonneg _ (by omega), wrap_i64 (by omega) (by omega)]
    omega
  obtain ⟨b, o, rfl, hc⟩ := h.atS (a := a) (n := l.length) (c := c) (xs := l.map u64V) (k := m) (by simpa using hml)
  simp only [List.getElem_map] at hc
  simp -dsimp -implicitDefEqProofs (disch := omega) only [go_sem, reqD_of, dec_t, dec_f, wrap_i64, wrap_u32, wrap_u64, wrap_u8, hd, e0, e1, e6, e7, e8, hlt, hm, hc]
  refine (lessU_any h).mono ?_
  rintro e' w1 ⟨h1, rfl⟩
  by_cases hb : (l[m] : Int) < (t : Int)
  · simp -dsimp -implicitDefEqProofs (disch := omega) only [go_sem, reqD_of, dec_t, dec_f, wrap_i64, wrap_u32, wrap_u64, wrap_u8, hd, e0, e1, e6, e7, e8, hb]
    exact ⟨⟨m + 1, j, by omega, by omega, by omega, rfl, fun k hk hkm => by
      rcases Nat.lt_or_ge k m with h2 | h2
      · have := List.pairwise_iff_getElem.1 hl k m hk hml h2; omega
      · have : k = m := by omega
        subst this; omega, hi, h1⟩, by omega⟩
  · simp -dsimp -implicitDefEqProofs (disch := omega) only [go_sem, reqD_of, dec_t, dec_f, wrap_i64, wrap_u32, wrap_u64, wrap_u8, hd, e0, e1, e6, e7, e8, hb]
    exact ⟨⟨i, m, by omega, by omega, rfl, rfl, lo, fun k hk hkm => by
      rcases Nat.lt_or_ge m k with h2 | h2
      · have := List.pairwise_iff_getElem.1 hl m k hml hk h2; omega
      · have : k = m := by omega
        subst this; omega, h1⟩, by omega⟩

theorem find_at {p : Nat → Bool} : ∀ (l : List Nat) (q : Nat), (∀ k (hk : k < l.length), k < q → p l[k] = false) → (∀ k (hk : k < l.length), q ≤ k → p l[k] = true) → l.find? p = l[q]?
  | [], q, _, _ => by simp
  | x :: l, 0, _, h2 => by
    have := h2 0 (by simp) (by omega)
    simp only [List.getElem_cons_zero] at this
    simp [List.find?, this]
  | x :: l, q + 1, h1, h2 => by
    have := h1 0 (by simp) (by omega)
    simp only [List.getElem_cons_zero] at this
    simp only [List.find?, this, List.getElem?_cons_succ]
    exact find_at l q (fun k hk hq => h1 (k + 1) (by simpa using hk) (by omega)) (fun k hk hq => h2 (k + 1) (by simpa using hk) (by omega))
/-- The first that is greater. -/
theorem find_above {l : List Nat} {t i : Nat} (hp : Place l t i) (hl : l.Pairwise (· < ·)) : l.find? (fun k => decide (t < k)) = l[if t ∈ l then i + 1 else i]? := by
  obtain ⟨h0, h1, h2⟩ := hp
  refine find_at l _ (fun k hk hq => ?_) (fun k hk hq => ?_)
  · by_cases ht : t ∈ l
    · rw [if_pos ht] at hq
      obtain ⟨m, hm, rfl⟩ := List.getElem_of_mem ht
      rcases Nat.lt_or_ge m k with h3 | h3
      · rcases Nat.lt_or_ge m i with h4 | h4
        · have := h1 m hm h4; omega
        · omega
      · rcases Nat.eq_or_lt_of_le h3 with h4 | h4
        · subst h4; simp
        · have := List.pairwise_iff_getElem.1 hl k m hk hm h4
          simp; omega
    · rw [if_neg ht] at hq
      have := h1 k hk hq
      simp; omega
  · by_cases ht : t ∈ l
    · rw [if_pos ht] at hq
      have h3 := h2 i (by omega) (Nat.le_refl _)
      have h4 := List.pairwise_iff_getElem.1 hl i k (by omega) hk (by omega)
      simp; omega
    · rw [if_neg ht] at hq
      have h3 := h2 k hk hq
      have : l[k] ≠ t := fun e => ht (e ▸ List.getElem_mem hk)
      simp; omega

end
section
attribute [local go_sem] F48.t4_eq
theorem above_any {w0 w : World} {A : HP} (h : St w0 A w) {v : Value} {l : List Nat} [hg : Gives A (RdU v l)] {t : Nat} (hl : l.Pairwise (· < ·)) (hn : l.length ≤ 1000000000) :
    Calls Tryd.prog 48 #[v, .int .u64 t] w fun e w' => St w0 A w' ∧ e = .returned (match l.find? (fun k => decide (t < k)) with | some k => .tuple #[.int .u64 k, .bool true] | none => .tuple #[.int .u64 0, .bool false]) := by
  obtain ⟨a, c, rfl, hnc, hx⟩ := (h.gives (B := RdU v l)).rd.form
  clear hx
  refine F48.calls (by simp) ?_
  unfold F48.code
  simp -dsimp -implicitDefEqProofs (disch := omega) only [go_sem, reqD_of, dec_t, dec_f, wrap_i64, wrap_u32, wrap_u64, wrap_u8]
  refine (search_any h hl hn).mono ?_
  rintro e w1 ⟨h1, i, hp, rfl⟩
  rw [find_above hp hl]
  obtain ⟨q, hq⟩ : ∃ q, q = if t ∈ l then i + 1 else i := ⟨_, rfl⟩
  rw [← hq]
  have hp0 := hp.1
  have hql : q ≤ l.length := by
    rw [hq]
    by_cases ht : t ∈ l
    · rw [if_pos ht]
      obtain ⟨m, hm, he⟩ := List.getElem_of_mem ht
      rcases Nat.lt_or_ge m i with h4 | h4
      · have := hp.2.1 m hm h4; omega
      · omega
    · rw [if_neg ht]; exact hp.1
  have go : ∀ e : FA, e.ds = [] → e.ρ 0 = .slice a l.length c → e.ρ 6 = .int .i64 q → q < l.length → cwE Tryd.prog F48.t6 (fnP Tryd.prog #[.tmp 4, .tmp 5] fun e w' => St w0 A w' ∧ e = .returned (match l[q]? with | some k => .tuple #[.int .u64 k, .bool true] | none => .tuple #[.int .u64 0, .bool false])) e w1 := by
    intro e hd e0 e6 hlt
    obtain ⟨b, o, rfl, hc⟩ := h1.atS (a := a) (n := l.length) (c := c) (xs := l.map u64V) (k := q) (by simpa using hlt)
    simp only [List.getElem_map] at hc
    unfold F48.t6
    rw [List.getElem?_eq_getElem hlt]
    simp -dsimp -implicitDefEqProofs (disch := omega) only [go_sem, reqD_of, dec_t, dec_f, wrap_i64, wrap_u32, wrap_u64, wrap_u8, hd, e0, e6, hc]
    exact h1
  have hb : q = l.length → St w0 A w1 ∧ Value.tuple #[.int .u64 0, .bool false] = (match l[q]? with | some k => .tuple #[.int .u64 k, .bool true] | none => .tuple #[.int .u64 0, .bool false]) := fun e => by
    rw [List.getElem?_eq_none (by omega)]
    exact ⟨h1, rfl⟩
  by_cases ht : t ∈ l
  · rw [if_pos ht] at hq
    by_cases hz : ((i : Int) + 1) = (l.length : Int)
    · simp -dsimp -implicitDefEqProofs (disch := omega) only [go_sem, reqD_of, dec_t, dec_f, wrap_i64, wrap_u32, wrap_u64, wrap_u8, ht, hz]
      exact hb (by omega)
    · simp -dsimp -implicitDefEqProofs (disch := omega) only [go_sem, reqD_of, dec_t, dec_f, wrap_i64, wrap_u32, wrap_u64, wrap_u8, ht, hz]
      refine go _ ?_ ?_ ?_ (by omega)
      · simp -dsimp -implicitDefEqProofs only [go_sem]
      · simp -dsimp -implicitDefEqProofs only [go_sem]
      · simp -dsimp -implicitDefEqProofs only [go_sem, hq]
        first | done | omega
  · rw [if_neg ht] at hq
    by_cases hz : (i : Int) = (l.length : Int)
    · simp -dsimp -implicitDefEqProofs (disch := omega) only [go_sem, reqD_of, dec_t, dec_f, wrap_i64, wrap_u32, wrap_u64, wrap_u8, ht, hz]
      exact hb (by omega)
    · simp -dsimp -implicitDefEqProofs (disch := omega) only [go_sem, reqD_of, dec_t, dec_f, wrap_i64, wrap_u32, wrap_u64, wrap_u8, ht, hz]
      refine go _ ?_ ?_ ?_ (by omega)
      · simp -dsimp -implicitDefEqProofs only [go_sem]
      · simp -dsimp -implicitDefEqProofs only [go_sem]
      · simp -dsimp -implicitDefEqProofs only [go_sem, hq]
        first | done | omega
end
end Go.Proofs.YtijnmokpihhhcaaDoor

namespace Go.Proofs.YtijnmokpihhhcaaDoor
open Go
open Go.ChangeMaps (setBlock)

section
variable {κ : Type} {P : Program}

/-- The map b is gone through by the iterator r: what is left. -/
def IterP (enc : κ → Value) (b r : Nat) (l left : List (κ × Value)) : HP :=
  HP.ex fun x : Array MapEntry × Nat × Array Nat => HP.fact ((leftOf x.1 x.2.2).toList.map (fun e => (e.key, e.val)) = left.map (fun p => (enc p.1, p.2))) (MapE enc b x.1 x.2.1 l * Blk r (.mapIter (some b) x.2.1 x.2.2 x.2.1))

/-- The same behind a step that handed out k and v. -/
def IterAt (enc : κ → Value) (b r : Nat) (l left : List (κ × Value)) (k : κ) (v : Value) : HP :=
  HP.ex fun x : Array MapEntry × Nat × Array Nat × MapEntry => HP.fact ((leftOf x.1 (x.2.2.1.push x.2.2.2.born)).toList.map (fun e => (e.key, e.val)) = left.map (fun p => (enc p.1, p.2)) ∧ x.2.2.2 ∈ x.1.toList ∧ x.2.2.2.key = enc k ∧ x.2.2.2.val = v)
    (MapE enc b x.1 x.2.1 l * Blk r (.mapIter (some b) x.2.1 (x.2.2.1.push x.2.2.2.born) x.2.1))

theorem HP.ex_intro {α : Type} {A : α → HP} {B : HP} (x : α) (h : Ent B (A x)) : Ent B (HP.ex A) := h.trans (Ent.ex A x)
theorem HP.ex_elim {α : Type} {A : α → HP} {B : HP} (h : ∀ x, Ent (A x) B) : Ent (HP.ex A) B := fun hp ⟨x, a⟩ => h x hp a
theorem HP.fact_elim {p : Prop} {A B : HP} (h : p → Ent A B) : Ent (HP.fact p A) B := fun hp ⟨q, a⟩ => h q hp a

theorem IterAt.iter (enc : κ → Value) (b r : Nat) (l left : List (κ × Value)) (k : κ) (v : Value) : Ent (IterAt enc b r l left k v) (IterP enc b r l left) :=
  HP.ex_elim fun x => HP.fact_elim fun h => HP.ex_intro (x.1, x.2.1, x.2.2.1.push x.2.2.2.born) (Ent.fact h.1 _)
theorem IterP.map (enc : κ → Value) (b r : Nat) (l left : List (κ × Value)) : Ent (IterP enc b r l left) (MapP enc b l) :=
  HP.ex_elim fun x => HP.fact_elim fun _ => (Ent.left _ _).trans (MapE.shut enc b x.1 x.2.1 l)

/-- How much is left, in the world. -/
def iterLeft (b r : Nat) (w : World) : Nat :=
  match w.heap[b]?, w.heap[r]? with
  | some (.map es _), some (.mapIter _ _ seen _) => (leftOf es seen).size
  | _, _ => 0

theorem IterP.left {enc : κ → Value} {b r : Nat} {l left : List (κ × Value)} {w0 w : World} {F : HP} (h : St w0 (IterP enc b r l left * F) w) : iterLeft b r w = left.length := by
  obtain ⟨⟨es, clock, seen⟩, h⟩ := h.exF
  obtain ⟨hl, h⟩ := h.factF
  simp only at hl h
  have h' := h.ac (show _ = MapE enc b es clock l * (Blk r (.mapIter (some b) clock seen clock) * F) by ac_rfl)
  have hb := (MapE.heap h').1
  have hr := h'.sw2.blk
  simp only [iterLeft, hb, hr]
  have := congrArg List.length hl
  simpa using this

theorem St.range {enc : κ → Value} {b : Nat} {l : List (κ × Value)} {T kt et : TypeId} {w0 w : World} {F : HP} {K : Value → World → Prop} {θ : Tag K} (h : St w0 (MapP enc b l * F) w) (hu : P.underlying T = some (.map kt et))
    (hK : ∀ r w', St w0 (IterP enc b r l l * F) w' → K (.pointer (some ⟨r, 0, none⟩)) w') : semD P (kRange T (.map (some b))) w K θ := by
  show semD P (Instr.range T (.map (some b))) w K θ
  obtain ⟨es, clock, h1⟩ := MapP.open h
  obtain ⟨hb, hm⟩ := MapE.heap h1
  refine ⟨.pointer (some ⟨w.heap.size, 0, none⟩), w.alloc (.mapIter (some b) clock #[] clock), ?_, hK _ _ ?_⟩
  · simp only [Instr.range, Sem.run_bind, run_underlying' hu, Result.andThen_ok, MapKept.run_getObj_map hb, Sem.run_pure]
    rfl
  · have h2 := h1.alloc (.mapIter (some b) clock #[] clock)
    refine (h2.ac (show _ = (MapE enc b es clock l * Blk w.heap.size (.mapIter (some b) clock #[] clock)) * F by ac_rfl)).ent (Ent.sep (HP.ex_intro (es, clock, #[]) (Ent.fact ?_ _)) (Ent.rfl' F))
    simp only [leftOf]
    rw [← hm.list]
    simp only [Array.toList_filter]
    rw [List.filter_eq_self.2 (by simp)]

theorem leftOf_push {es : Array MapEntry} {seen : Array Nat} {j : Nat} (hn : (es.toList.map (·.born)).Nodup) (hj : j < (leftOf es seen).size) :
    (leftOf es (seen.push (leftOf es seen)[j].born)).toList = (leftOf es seen).toList.eraseIdx j := by
  have e1 : (leftOf es (seen.push (leftOf es seen)[j].born)).toList = (leftOf es seen).toList.filter (fun e => e.born != (leftOf es seen)[j].born) := by
    simp only [leftOf, Array.toList_filter, List.filter_filter]
    apply List.filter_congr
    intro x _
    simp only [Array.contains_push, Bool.not_or]
    rw [Bool.and_comm]
    first
      | rfl
      | (congr 1; done)
      | (congr 1; rw [Bool.eq_iff_iff]; simp)
  rw [e1]
  have hn2 : ((leftOf es seen).toList.map (·.born)).Nodup := by
    refine List.Nodup.sublist ?_ hn
    simp only [leftOf, Array.toList_filter]
    exact List.Sublist.map _ (List.filter_sublist)
  have hj' : j < (leftOf es seen).toList.length := by simpa using hj
  have hx : (leftOf es seen)[j].born = ((leftOf es seen).toList[j]).born := by simp
  rw [hx]
  clear hx e1 hj hn
  generalize (leftOf es seen).toList = L at hn2 hj'
  induction L generalizing j with
  | nil => simp at hj'
  | cons a L ih =>
    simp only [List.map_cons, List.nodup_cons] at hn2
    cases j with
    | zero =>
      simp only [List.getElem_cons_zero, List.filter_cons, bne_self_eq_false, Bool.false_eq_true, if_false, List.eraseIdx_cons_zero]
      rw [List.filter_eq_self]
      intro x hx
      simp only [bne_iff_ne, ne_eq]
      intro he
      exact hn2.1 (List.mem_map.2 ⟨x, hx, he⟩)
    | succ j =>
      simp only [List.length_cons, Nat.succ_lt_succ_iff] at hj'
      have hne : (a.born != (L[j]).born) = true := by
        simp only [bne_iff_ne, ne_eq]
        intro he
        exact hn2.1 (he ▸ List.mem_map.2 ⟨L[j], List.getElem_mem _, rfl⟩)
      simp only [List.getElem_cons_succ, List.filter_cons, hne, if_true, List.eraseIdx_cons_succ]
      rw [ih hn2.2 hj']

theorem St.next {enc : κ → Value} {b r : Nat} {l left : List (κ × Value)} {ty : TypeId} {w0 w : World} {F : HP} {K : Value → World → Prop} {θ : Tag K} (h : St w0 (IterP enc b r l left * F) w)
    (h0 : left = [] → K (.tuple #[.bool false]) w)
    (h1 : ∀ j (hj : j < left.length) w', St w0 (IterAt enc b r l (left.eraseIdx j) (left[j]).1 (left[j]).2 * F) w' → K (.tuple #[.bool true, enc (left[j]).1, (left[j]).2]) w') : semD P (kNext (.pointer (some ⟨r, 0, none⟩)) false ty) w K θ := by
  show semD P (Instr.next (.pointer (some ⟨r, 0, none⟩)) false ty) w K θ
  obtain ⟨⟨es, clock, seen⟩, h⟩ := h.exF
  obtain ⟨hl, h⟩ := h.factF
  simp only at hl h
  have h2 := h.ac (show _ = MapE enc b es clock l * (Blk r (.mapIter (some b) clock seen clock) * F) by ac_rfl)
  obtain ⟨hb, hm⟩ := MapE.heap h2
  have hr := h2.sw2.blk
  have hlen : (leftOf es seen).size = left.length := by simpa using congrArg List.length hl
  rcases run_next_at (P := P) w ty r b clock clock seen es clock hr hb hm.born (Nat.le_refl _) with ⟨hz, hrun⟩ | ⟨e, he, w1, hw1, hrun⟩
  · exact ⟨_, _, hrun, h0 (List.eq_nil_of_length_eq_zero (by omega))⟩
  · obtain ⟨j, hj, rfl⟩ := List.getElem_of_mem he
    have hj' : j < (leftOf es seen).size := by simpa using hj
    have hjl : j < left.length := by omega
    have hkv : ((leftOf es seen)[j].key, (leftOf es seen)[j].val) = (enc (left[j]).1, (left[j]).2) := by
      have := congrArg (fun l => l[j]?) hl
      simpa [hj', hjl] using this
    simp only [Prod.mk.injEq] at hkv
    refine ⟨_, _, hrun, ?_⟩
    simp only [Array.getElem_toList]
    rw [hkv.1, hkv.2]
    refine h1 j hjl _ ?_
    have h3 : St w0 (Blk r (.mapIter (some b) clock seen clock) * (MapE enc b es clock l * F)) w1 := by
      rcases hw1 with rfl | rfl
      · exact h2.sw2
      · exact h2.sw2.drew
    have h4 := h3.putObj (.mapIter (some b) clock (seen.push (leftOf es seen)[j].born) clock)
    refine (h4.ac (show _ = (MapE enc b es clock l * Blk r (.mapIter (some b) clock (seen.push (leftOf es seen)[j].born) clock)) * F by ac_rfl)).ent (Ent.sep (HP.ex_intro (es, clock, seen, (leftOf es seen)[j]) (Ent.fact ⟨?_, ?_, hkv.1, hkv.2⟩ _)) (Ent.rfl' F))
    · simp only [leftOf_push hm.nodup hj', ChangeMaps.map_eraseIdx, hl]
    · have : (leftOf es seen)[j] ∈ leftOf es seen := Array.getElem_mem _
      simp only [leftOf, Array.mem_filter] at this
      exact Array.mem_toList_iff.2 this.1

theorem St.entry {enc : κ → Value} {b r : Nat} {l left : List (κ × Value)} {k : κ} {v : Value} {w0 w : World} {F : HP} {K : Value → Prop} {θ : Tag K} (h : St w0 (IterAt enc b r l left k v * F) w)
    (hK : K (.tuple #[enc k, v])) : readR P (kEntry (.pointer (some ⟨r, 0, none⟩))) w K θ := by
  show readR P (Instr.entry (.pointer (some ⟨r, 0, none⟩))) w K θ
  obtain ⟨⟨es, clock, seen, e⟩, h⟩ := h.exF
  obtain ⟨⟨_, he, hk, hv⟩, h⟩ := h.factF
  simp only at he hk hv h
  have h2 := h.ac (show _ = MapE enc b es clock l * (Blk r (.mapIter (some b) clock (seen.push e.born) clock) * F) by ac_rfl)
  obtain ⟨hb, hm⟩ := MapE.heap h2
  have hr := h2.sw2.blk
  refine ⟨_, run_entry_at w r b clock seen es clock e hr hb he hm.nodup, ?_⟩
  rw [hk, hv]
  exact hK

end

end Go.Proofs.YtijnmokpihhhcaaDoor

namespace Go.Proofs.YtijnmokpihhhcaaDoor
open Go
set_option linter.unusedVariables false
instance {κ : Type} (enc : κ → Value) (b r : Nat) (l left : List (κ × Value)) : Face (.map b) (IterP enc b r l left) := ⟨⟩
instance {κ : Type} (enc : κ → Value) (b r : Nat) (l left : List (κ × Value)) (k : κ) (v : Value) : Face (.map b) (IterAt enc b r l left k v) := ⟨⟩

theorem perm_eraseIdx {α : Type} : ∀ (l : List α) (j : Nat) (hj : j < l.length), (l[j] :: l.eraseIdx j).Perm l
  | a :: l, 0, _ => .refl _
  | a :: l, j + 1, hj => by
    simp only [List.getElem_cons_succ, List.eraseIdx_cons_succ]
    exact (List.Perm.swap _ _ _).trans ((perm_eraseIdx l j (by simpa using hj)).cons a)

section
variable {κ : Type} {P : Program} {w0 w : World} {A F X : HP} {C : HP → HP} {enc : κ → Value} {b r : Nat} {l left : List (κ × Value)}

theorem St.mapNodup (h : St w0 A w) (b : Nat) [i : Hole (.map b) A (MapP enc b l) C] : (l.map (·.1)).Nodup := by
  obtain ⟨R, hR, h'⟩ := h.out (.map b)
  obtain ⟨es, clock, h2⟩ := MapP.open h'
  exact (MapE.heap h2).2.keys
theorem St.iterLeft (h : St w0 A w) (b : Nat) [i : Hole (.map b) A (IterP enc b r l left) C] : Go.Proofs.YtijnmokpihhhcaaDoor.iterLeft b r w = left.length := by
  obtain ⟨R, hR, h'⟩ := h.out (.map b)
  exact IterP.left h'
theorem St.rangeH {T kt et : TypeId} {K : Value → World → Prop} {θ : Tag K} (h : St w0 A w) [i : Hole (.map b) A (MapP enc b l) C] (hu : P.underlying T = some (.map kt et))
    (hK : ∀ r w', St w0 (C (IterP enc b r l l)) w' → K (.pointer (some ⟨r, 0, none⟩)) w') : semD P (kRange T (.map (some b))) w K θ := by
  obtain ⟨R, hR, h'⟩ := h.out (.map b)
  exact h'.range hu fun r w' hw => hK r w' (by rw [hR]; exact hw)
theorem St.nextH {ty : TypeId} {K : Value → World → Prop} {θ : Tag K} (h : St w0 A w) (b : Nat) [i : Hole (.map b) A (IterP enc b r l left) C]
    (h0 : left = [] → K (.tuple #[.bool false]) w)
    (h1 : ∀ j (hj : j < left.length) w', St w0 (C (IterAt enc b r l (left.eraseIdx j) (left[j]).1 (left[j]).2)) w' → K (.tuple #[.bool true, enc (left[j]).1, (left[j]).2]) w') : semD P (kNext (.pointer (some ⟨r, 0, none⟩)) false ty) w K θ := by
  obtain ⟨R, hR, h'⟩ := h.out (.map b)
  exact h'.next h0 fun j hj w' hw => h1 j hj w' (by rw [hR]; exact hw)
theorem St.entryH {k : κ} {v : Value} {K : Value → Prop} {θ : Tag K} (h : St w0 A w) (b : Nat) [i : Hole (.map b) A (IterAt enc b r l left k v) C] (hK : K (.tuple #[enc k, v])) : readR P (kEntry (.pointer (some ⟨r, 0, none⟩))) w K θ := by
  obtain ⟨R, hR, h'⟩ := h.out (.map b)
  exact h'.entry hK
theorem St.iterDone {k : κ} {v : Value} (h : St w0 A w) (b : Nat) [i : Hole (.map b) A (IterAt enc b r l left k v) C] : St w0 (C (IterP enc b r l left)) w := h.turnTo (.map b) (IterAt.iter enc b r l left k v)
theorem St.iterEnd (h : St w0 A w) (b : Nat) [i : Hole (.map b) A (IterP enc b r l left) C] : St w0 (C (MapP enc b l)) w := h.turnTo (.map b) (IterP.map enc b r l left)

/-- A step, the entries being those of a list of one's own. -/
theorem St.nextP {α : Type} {f : α → Value} {lf : List (κ × α)} {ty : TypeId} {K : Value → World → Prop} {θ : Tag K} (h : St w0 A w) (b : Nat) [i : Hole (.map b) A (IterP enc b r l (amap f lf)) C]
    (h0 : lf = [] → K (.tuple #[.bool false]) w)
    (h1 : ∀ (x : κ × α) (rest : List (κ × α)) w', (x :: rest).Perm lf → St w0 (C (IterAt enc b r l (amap f rest) x.1 (f x.2))) w' → K (.tuple #[.bool true, enc x.1, f x.2]) w') : semD P (kNext (.pointer (some ⟨r, 0, none⟩)) false ty) w K θ := by
  refine h.nextH b (fun e => h0 (by simpa [amap] using e)) fun j hj w' hw => ?_
  have hj' : j < lf.length := by simpa [amap] using hj
  have e1 : (amap f lf)[j] = ((lf[j]).1, f (lf[j]).2) := by simp [amap]
  have e2 : (amap f lf).eraseIdx j = amap f (lf.eraseIdx j) := by simp only [amap, ChangeMaps.map_eraseIdx]
  rw [e1] at hw ⊢
  rw [e2] at hw
  exact h1 lf[j] (lf.eraseIdx j) w' (perm_eraseIdx lf j hj') hw
end
end Go.Proofs.YtijnmokpihhhcaaDoor

namespace Go.Proofs.YtijnmokpihhhcaaDoor
open Go
set_option linter.unusedVariables false
set_option linter.unusedSimpArgs false
set_option maxRecDepth 100000

def starL {α : Type} (A : α → HP) : List α → HP
  | [] => EmpH
  | x :: l => A x * starL A l
theorem Ent.embL (F : HP) : Ent F (EmpH * F) := fun h hf => ⟨h, hle.rfl' h, fun _ => none, h, fun _ => .inl rfl, (fun _ _ e => by cases e), hle.rfl' h, trivial, hf⟩
theorem starL_split {α : Type} (A : α → HP) (x : α) : ∀ l r : List α, starL A (l ++ x :: r) = A x * starL A (l ++ r)
  | [], r => rfl
  | y :: l, r => by
    show A y * starL A (l ++ x :: r) = A x * (A y * starL A (l ++ r))
    rw [starL_split A x l r]; ac_rfl

/-! ### A node -/

/-- A node: what it is; where; its children's list, its blocks' list; these. -/
structure NN where
  d : NodeD
  n : Nat
  vk : Value
  vb : Value
  ks : List Nat
  P : List (Option (Nat × List UInt8))

def ptrV : Option (Nat × List UInt8) → Value
  | none => .pointer none
  | some p => .pointer (some ⟨p.1, 0, none⟩)
def BlkP : Option (Nat × List UInt8) → HP
  | none => EmpH
  | some p => Blk p.1 (.cells (p.2.map bv).toArray 123 (0, 0))
abbrev RowB (vb : Value) (P : List (Option (Nat × List UInt8))) : HP := RowO 122 1 vb P.length (P.map ptrV)
/-- Blocks, and the list that leads to them. -/
def BlksP (vb : Value) (P : List (Option (Nat × List UInt8))) : HP := RowB vb P * starL BlkP P
def nodeP (x : NN) : HP := NodeB x.n 0 x.d.i x.vk x.vb * (RowU x.vk x.ks * BlksP x.vb x.P)
/-- What stands at a place. -/
def byteAt (P : List (Option (Nat × List UInt8))) (k : Nat) : UInt8 := match P[k / 256]? with
  | some (some p) => p.2.getD (k % 256) 0
  | _ => 0
structure BlksOk (P : List (Option (Nat × List UInt8))) (b : List UInt8) : Prop where
  few : P.length ≤ 256
  full : ∀ p, some p ∈ P → p.2.length = 256
  at_ : ∀ k, k < 65536 → byteAt P k = b.getD k 0

/-! ### The whole -/

abbrev encU : Int → Value := fun n => .int .u64 n
abbrev KD := Nat × List UInt8
def encK (x : KD) : Value := .agg #[.int .u64 (x.1 : Int), .string (strOf x.2)]
theorem lawU : KeyLaw Tryd.prog 30 encU := KeyLaw.int Tryd.underlying30
theorem flatKey : flatE Tryd.prog 121 = some [.int, .str] := by kernel_rfl
theorem lawK : KeyLaw Tryd.prog 121 encK := by
  refine KeyLaw.agg (enc := fun x : KD => [.int .u64 (x.1 : Int), .string (strOf x.2)]) flatKey fun x y => ?_
  obtain ⟨a, b⟩ := x
  obtain ⟨c, d⟩ := y
  simp only [leafEq, Option.map_some, strOf_toList, Bool.and_true, Option.some.injEq, Prod.mk.injEq, strEq_beq, Bool.decide_and, if_true, Int.natCast_inj]

structure SX where
  N : Nat
  C : Nat
  ov : Value
  X : List NN
  cl : List (KD × Value)
def kv (x : NN) : Int × Value := ((x.d.i.path : Int), .pointer (some ⟨x.n, 0, none⟩))
abbrev storeC (st rc : Int) (most next : Nat) (vN ov vC : Value) : Array Value := #[.int .i32 st, .int .u32 0, .int .u32 0, .int .u32 0, .int .i32 rc, .int .i32 0, .int .i64 most, .int .u64 next, vN, ov, vC]
abbrev StoreB (b : Nat) (st rc : Int) (s : SD) (y : SX) : HP := Blk b (.cells (storeC st rc s.most s.next (.map (some y.N)) y.ov (.map (some y.C))) 101 (0, 0))
abbrev StoreQ (b : Nat) (st rc : Int) (s : SD) (y : SX) : HP :=
  StoreB b st rc s y * (MapP encU y.N (y.X.map kv) * (MapP encK y.C y.cl * (RowU y.ov (s.L.map (·.i.path)) * starL nodeP y.X)))
structure StoreOk (s : SD) (y : SX) : Prop where
  wf : Wf s
  perm : (y.X.map (·.d)).Perm s.L
  kids : ∀ x ∈ y.X, x.ks = kidsF s.L x.d.i.path
  bytes : ∀ x ∈ y.X, BlksOk x.P x.d.b
  child : ∀ dir nm, lk (dir, nm) y.cl = (childF s.L dir nm).map u64V
def StoreP (b : Nat) (st rc : Int) (s : SD) : HP := HP.ex fun y => HP.fact (StoreOk s y) (StoreQ b st rc s y)

theorem StoreP.shut {b : Nat} {st rc : Int} {s : SD} {y : SX} (ok : StoreOk s y) : Ent (StoreQ b st rc s y) (StoreP b st rc s) := (Ent.fact ok _).trans (Ent.ex (fun y => HP.fact (StoreOk s y) (StoreQ b st rc s y)) y)
theorem St.storeO {w0 w : World} {A : HP} {b : Nat} {st rc : Int} {s : SD} (h : St w0 (StoreP b st rc s * A) w) : ∃ y, StoreOk s y ∧ St w0 (StoreQ b st rc s y * A) w := by
  obtain ⟨y, h⟩ := h.exF
  exact ⟨y, h.factF⟩

/-! ### Looked up -/

theorem lk_mem {κ : Type} [DecidableEq κ] {x : κ} {v : Value} : ∀ {l : List (κ × Value)}, (l.map (·.1)).Nodup → (x, v) ∈ l → lk x l = some v
  | [], _, h => by cases h
  | (y, u) :: l, hn, h => by
    simp only [List.map_cons, List.nodup_cons] at hn
    simp only [lk]
    rcases List.mem_cons.1 h with h | h
    · cases h; simp
    · have : ¬ x = y := fun e => hn.1 (e ▸ List.mem_map.2 ⟨_, h, rfl⟩)
      rw [if_neg this]
      exact lk_mem hn.2 h
theorem lk_not {κ : Type} [DecidableEq κ] {x : κ} : ∀ {l : List (κ × Value)}, x ∉ l.map (·.1) → lk x l = none
  | [], _ => rfl
  | (y, u) :: l, h => by
    simp only [List.map_cons, List.mem_cons, not_or] at h
    simp only [lk, if_neg h.1]
    exact lk_not h.2

theorem StoreOk.paths {s : SD} {y : SX} (ok : StoreOk s y) : (y.X.map (fun x => x.d.i.path)).Nodup := by
  have h1 : (s.L.map (·.i.path)).Nodup := (rise_paths.1 ok.wf.rise).imp (fun h => Nat.ne_of_lt h)
  have h2 := (ok.perm.map (fun d => d.i.path)).nodup_iff.2 h1
  rwa [List.map_map] at h2
theorem StoreOk.keys {s : SD} {y : SX} (ok : StoreOk s y) : ((y.X.map kv).map (·.1)).Nodup := by
  have := ok.paths
  rw [List.map_map]
  have h2 : (y.X.map fun x => ((x.d.i.path : Nat) : Int)).Nodup := by
    have h3 := List.Pairwise.map (fun n : Nat => (n : Int)) (R := (· ≠ ·)) (S := (· ≠ ·)) (fun a b h => by omega) this
    rwa [List.map_map] at h3
  exact h2
theorem StoreOk.len {s : SD} {y : SX} (ok : StoreOk s y) : y.X.length = s.L.length := by
  have := ok.perm.length_eq
  simpa using this

theorem StoreOk.some {s : SD} {y : SX} (ok : StoreOk s y) {p : Nat} {d : NodeD} (h : findN s.L p = some d) :
    ∃ X1 x X2, y.X = X1 ++ x :: X2 ∧ x.d = d ∧ x ∈ y.X ∧ lk (p : Int) (y.X.map kv) = .some (.pointer (.some ⟨x.n, 0, none⟩)) := by
  obtain ⟨h1, h2⟩ := find_some h
  have h3 := ok.perm.mem_iff.2 h1
  obtain ⟨x, hx, rfl⟩ := List.mem_map.1 h3
  obtain ⟨X1, X2, hs⟩ := List.append_of_mem hx
  refine ⟨X1, x, X2, hs, rfl, hx, lk_mem ok.keys (List.mem_map.2 ⟨x, hx, ?_⟩)⟩
  rw [kv, h2]
theorem StoreOk.none {s : SD} {y : SX} (ok : StoreOk s y) {p : Nat} (h : findN s.L p = none) : lk (p : Int) (y.X.map kv) = none := by
  refine lk_not fun hm => ?_
  rw [List.map_map] at hm
  obtain ⟨x, hx, he⟩ := List.mem_map.1 hm
  have : x.d.i.path = p := by
    have h2 : (x.d.i.path : Int) = p := he
    omega
  exact find_none h _ (ok.perm.mem_iff.1 (List.mem_map.2 ⟨x, hx, rfl⟩)) this
end Go.Proofs.YtijnmokpihhhcaaDoor

namespace Go.Proofs.YtijnmokpihhhcaaDoor
open Go
set_option linter.unusedVariables false
set_option linter.unusedSimpArgs false

abbrev BL := List (Option (Nat × List UInt8))

theorem byteAt_none {P : BL} {k : Nat} (h : P.length ≤ k / 256) : byteAt P k = 0 := by
  unfold byteAt; rw [List.getElem?_eq_none h]
theorem byteAt_set {P : BL} {q : Nat} {a : Nat} {bs : List UInt8} (hq : q < P.length) (k : Nat) : byteAt (P.set q (some (a, bs))) k = if k / 256 = q then bs.getD (k % 256) 0 else byteAt P k := by
  unfold byteAt
  by_cases e : k / 256 = q
  · rw [e, List.getElem?_set_self (by omega), if_pos rfl]
  · rw [List.getElem?_set_ne (fun h => e h.symm), if_neg e]
theorem byteAt_some {P : BL} {q : Nat} {a : Nat} {bs : List UInt8} (hq : P[q]? = some (some (a, bs))) {k : Nat} (hk : k / 256 = q) : byteAt P k = bs.getD (k % 256) 0 := by
  unfold byteAt; rw [hk, hq]
theorem byteAt_nil {P : BL} {q : Nat} (hq : P[q]? = some none) {k : Nat} (hk : k / 256 = q) : byteAt P k = 0 := by
  unfold byteAt; rw [hk, hq]
theorem byteAt_take {P : BL} {n k : Nat} : byteAt (P.take n) k = if k / 256 < n then byteAt P k else 0 := by
  unfold byteAt
  rw [List.getElem?_take]
  by_cases h : k / 256 < n
  · rw [if_pos h, if_pos h]
  · rw [if_neg h, if_neg h]
theorem byteAt_app {P : BL} {n k : Nat} : byteAt (P ++ List.replicate n none) k = byteAt P k := by
  unfold byteAt
  rcases Nat.lt_or_ge (k / 256) P.length with h | h
  · rw [List.getElem?_append_left h]
  · rw [List.getElem?_append_right h, List.getElem?_eq_none (l := P) h, List.getElem?_replicate]
    split <;> (first | rfl | (rename_i h2; split at h2 <;> simp_all))

/-- The bytes of a block behind a place are noughts. -/
def zeroF (bs : List UInt8) (p : Nat) : List UInt8 := bs.take p ++ List.replicate (256 - p) 0
theorem zeroF_len {bs : List UInt8} {p : Nat} (h : bs.length = 256) (hp : p ≤ 256) : (zeroF bs p).length = 256 := by simp [zeroF]; omega
theorem zeroF_get {bs : List UInt8} {p : Nat} (h : bs.length = 256) (hp : p ≤ 256) (j : Nat) : (zeroF bs p).getD j 0 = if j < p then bs.getD j 0 else 0 := by
  unfold zeroF
  simp only [List.getD_eq_getElem?_getD]
  rcases Nat.lt_or_ge j p with h1 | h1
  · rw [if_pos h1, List.getElem?_append_left (by simp; omega), List.getElem?_take_of_lt h1]
  · rw [if_neg (by omega), List.getElem?_append_right (by simp; omega), List.getElem?_replicate]
    split <;> rfl
/-- Bytes in a block are written over. -/
def overF (bs : List UInt8) (p : Nat) (d : List UInt8) : List UInt8 := bs.take p ++ d ++ bs.drop (p + d.length)
theorem overF_len {bs d : List UInt8} {p : Nat} (h : p + d.length ≤ bs.length) : (overF bs p d).length = bs.length := by simp [overF]; omega
theorem overF_get {bs d : List UInt8} {p : Nat} (h : p + d.length ≤ bs.length) (j : Nat) : (overF bs p d).getD j 0 = if p ≤ j ∧ j < p + d.length then d.getD (j - p) 0 else bs.getD j 0 := by
  unfold overF
  simp only [List.getD_eq_getElem?_getD]
  rcases Nat.lt_or_ge j p with h1 | h1
  · rw [if_neg (by omega), List.append_assoc, List.getElem?_append_left (by simp; omega), List.getElem?_take_of_lt h1]
  · rcases Nat.lt_or_ge j (p + d.length) with h2 | h2
    · rw [if_pos ⟨h1, h2⟩, List.append_assoc, List.getElem?_append_right (by simp; omega), List.getElem?_append_left (by simp; omega)]
      congr 2
      simp; omega
    · rw [if_neg (by omega), List.getElem?_append_right (by simp; omega), List.getElem?_drop]
      congr 2
      simp; omega

theorem mem_set {P : BL} {q : Nat} {x y : Option (Nat × List UInt8)} (h : y ∈ P.set q x) : y = x ∨ y ∈ P := by
  rcases List.mem_or_eq_of_mem_set h with h | h
  · exact .inr h
  · exact .inl h

/-- A cut. -/
theorem BlksOk.cut {P P' : BL} {b : List UInt8} (ok : BlksOk P b) {k W : Nat} (hk : k ≤ 65536)
    (hP : (W = k / 256 ∧ P' = P ∧ (k % 256 = 0 ∨ P.length ≤ k / 256)) ∨ (W = k / 256 + 1 ∧ 0 < k % 256 ∧ k / 256 < P.length ∧ ((P[k / 256]? = some none ∧ P' = P) ∨ ∃ a bs, P[k / 256]? = some (some (a, bs)) ∧ P' = P.set (k / 256) (some (a, zeroF bs (k % 256)))))) :
    BlksOk (P'.take W) (padF b k) := by
  have hlen : P'.length = P.length := by
    rcases hP with ⟨_, rfl, _⟩ | ⟨_, _, _, ⟨_, rfl⟩ | ⟨a, bs, _, rfl⟩⟩ <;> simp
  refine ⟨by rw [List.length_take, hlen]; have := ok.few; omega, fun p hp => ?_, fun j hj => ?_⟩
  · have hp := List.mem_of_mem_take hp
    rcases hP with ⟨_, rfl, _⟩ | ⟨_, _, _, ⟨_, rfl⟩ | ⟨a, bs, hb, rfl⟩⟩
    · exact ok.full p hp
    · exact ok.full p hp
    · rcases mem_set hp with h | h
      · simp only [Option.some.injEq] at h
        subst h
        exact zeroF_len (ok.full (a, bs) (List.mem_of_getElem? hb)) (by omega)
      · exact ok.full p h
  · rw [padF_get, byteAt_take]
    have hj' := ok.at_ j hj
    rcases hP with ⟨rfl, rfl, hz⟩ | ⟨rfl, h0, hq, ⟨hn, rfl⟩ | ⟨a, bs, hb, rfl⟩⟩
    · by_cases h1 : j / 256 < k / 256
      · rw [if_pos h1, if_pos (by omega), hj']
      · rw [if_neg h1]
        split
        · rename_i h2
          rcases hz with hz | hz
          · omega
          · rw [← hj', byteAt_none (by omega)]
        · rfl
    · by_cases h1 : j / 256 < k / 256 + 1
      · rw [if_pos h1, hj']
        split
        · rfl
        · rw [← hj', byteAt_nil hn (by omega)]
      · rw [if_neg h1, if_neg (by omega)]
    · by_cases h1 : j / 256 < k / 256 + 1
      · rw [if_pos h1, byteAt_set hq]
        by_cases h2 : j / 256 = k / 256
        · rw [if_pos h2, zeroF_get (ok.full (a, bs) (List.mem_of_getElem? hb)) (by omega)]
          have := byteAt_some hb h2
          by_cases h3 : j < k
          · rw [if_pos (by omega), if_pos h3, ← this, hj']
          · rw [if_neg (by omega), if_neg h3]
        · rw [if_neg h2, if_pos (by omega), hj']
      · rw [if_neg h1, if_neg (by omega)]

/-- Bytes within one block. -/
theorem BlksOk.lay {P : BL} {b d : List UInt8} (ok : BlksOk P b) {off : Nat} (h1 : off % 256 + d.length ≤ 256) (h0 : d ≠ []) (h2 : off + d.length ≤ 65536) {a : Nat} {bs : List UInt8}
    {n : Nat} (hn : off / 256 < (P ++ List.replicate n none).length) (hl : (P ++ List.replicate n none).length ≤ 256) (hb : (P[off / 256]? = some (some (a, bs))) ∨ ((P ++ List.replicate n none)[off / 256]? = some none ∧ bs = List.replicate 256 0)) :
    BlksOk ((P ++ List.replicate n none).set (off / 256) (some (a, overF bs (off % 256) d))) (layF b off d) := by
  have d0 : 0 < d.length := List.length_pos_iff.2 h0
  have hbs : bs.length = 256 := by
    rcases hb with hb | ⟨_, rfl⟩
    · exact ok.full (a, bs) (List.mem_of_getElem? hb)
    · exact List.length_replicate
  refine ⟨by rw [List.length_set]; exact hl, fun p hp => ?_, fun j hj => ?_⟩
  · rcases mem_set hp with h | h
    · simp only [Option.some.injEq] at h
      subst h
      show (overF bs (off % 256) d).length = 256
      rw [overF_len (by omega), hbs]
    · rcases List.mem_append.1 h with h | h
      · exact ok.full p h
      · have := (List.mem_replicate.1 h).2
        cases this
  · rw [byteAt_set hn, layF_get, byteAt_app, ok.at_ j hj]
    by_cases e : j / 256 = off / 256
    · rw [if_pos e, overF_get (by omega)]
      have hby : bs.getD (j % 256) 0 = b.getD j 0 := by
        rw [← ok.at_ j hj]
        rcases hb with hb | ⟨hb, rfl⟩
        · exact (byteAt_some hb e).symm
        · rw [← byteAt_app (n := n), byteAt_nil hb e, List.getD_eq_getElem?_getD, List.getElem?_replicate]
          split <;> rfl
      rw [hby]
      by_cases h3 : off ≤ j ∧ j < off + d.length
      · rw [if_pos (by omega), if_pos h3]
        congr 1
        omega
      · rw [if_neg (by omega), if_neg h3]
    · rw [if_neg e, if_neg (by omega)]
end Go.Proofs.YtijnmokpihhhcaaDoor

namespace Go.Proofs.YtijnmokpihhhcaaDoor
open Go
set_option linter.unusedVariables false

section
variable {P : Program} {w0 w : World} {A F : HP} {C : HP → HP}

theorem St.setCells {g : Nat} {cur : Array Value} {T : TypeId} {fr : Nat × Nat} (h : St w0 (Blk g (.cells cur T fr) * F) w) (o : Nat) (vs : List Value) :
    St w0 (Blk g (.cells (setRowL cur.toList o vs).toArray T fr) * F) (w.setCells g o vs) := by
  obtain ⟨a1, a2, a3, a4, a5, a6⟩ := heap_setCells g T fr vs o w cur h.blk
  exact h.blk_turn a4 a5 a6 (by omega) a1 fun k hk _ => a2 k hk

/-- copy into a block, from whatever reads as a row. -/
theorem St.copyH {g o dl dc n : Nat} {cur : Array Value} {T dT sT ty elem : TypeId} {v : Value} {xs : List Value} {K : Value → World → Prop} {θ : Tag K}
    (h : St w0 A w) [i : Hole (.blk g) A (Blk g (.cells cur T (0, 0))) C] (hu : P.underlying dT = some (.slice elem)) (hs : (P.info? elem).map (·.size) = some 1)
    (hr : Rd 1 v n xs w) (hc : ∀ u ∈ xs, isCell u = true) (hfit : o + min n dl ≤ cur.size)
    (hK : ∀ w', St w0 (C (Blk g (.cells (setRowL cur.toList o (xs.take dl)).toArray T (0, 0)))) w' → K (.int .i64 (min n dl : Nat)) w') :
    semD P (kCopy #[dT, sT] ty #[.slice (some ⟨g, o, none⟩) dl dc, v]) w K θ := by
  obtain ⟨R, hR, h'⟩ := h.out (.blk g)
  obtain ⟨hl, a, c, rfl, hnc, hx⟩ := hr
  have hn : xs.length = n := by omega
  have hgw := h'.blk
  show semD P (Builtin.copy_ #[dT, sT] ty #[.slice (some ⟨g, o, none⟩) dl dc, .slice a n c]) w K θ
  rcases hx with rfl | ⟨b, q, rfl, hj⟩
  · have h0 : n = 0 := by simpa using hn.symm
    subst h0
    refine ⟨.int .i64 0, w, run_copy_none w dT sT ty elem _ _ dl dc 0 c hu hs (by simp), ?_⟩
    have := hK w (by rw [hR]; simpa [setRowL] using h')
    simpa using this
  · have hlen : (xs.take dl).length = Nat.min n dl := by rw [List.length_take, hn]; exact Nat.min_comm _ _
    have hmin : Nat.min n dl = min n dl := rfl
    refine ⟨.int .i64 (min n dl : Nat), w.setCells g o (xs.take dl), ?_, hK _ (by rw [hR]; exact h'.setCells o _)⟩
    rw [run_copy_cells (P := P) w dT sT ty elem g o dl dc ⟨b, q, none⟩ n c (xs.take dl) hu hs hlen (fun j u hu' => ?_) (fun j hj' => ?_) (fun j hj' => frozen_of_heap hgw _) fun u hu' => by rw [← isCell_eq]; exact hc u (List.mem_of_mem_take hu')]
    · rw [hlen]; rfl
    · rw [List.getElem?_take] at hu'
      split at hu'
      · have hjl : j < xs.length := by
          rcases Nat.lt_or_ge j xs.length with h1 | h1
          · exact h1
          · rw [List.getElem?_eq_none h1] at hu'; cases hu'
        have : (⟨b, q, none⟩ : Addr).add j = ⟨b, q + j, none⟩ := by unfold Addr.add; split <;> simp_all
        rw [this, hj j hjl, hu']
      · cases hu'
    · rw [cell_of_heap hgw]
      have : o + j < cur.size := by omega
      simp [this]

/-- clear of a part of a block. -/
theorem St.clearB {t ty e bs g o m c : Nat} {z : Value} {cur : Array Value} {T : TypeId} {K : Value → World → Prop} {θ : Tag K}
    (h : St w0 A w) [i : Hole (.blk g) A (Blk g (.cells cur T (0, 0))) C] (ht : rowTy P t = some (e, 1, bs, [z])) (hz : isCell z = true) (hm0 : 0 < m) (hfit : o + m ≤ cur.size)
    (hK : ∀ w', St w0 (C (Blk g (.cells (setRowL cur.toList o (List.replicate m z)).toArray T (0, 0)))) w' → K (.tuple #[]) w') :
    semD P (kClear #[t] ty #[.slice (some ⟨g, o, none⟩) m c]) w K θ := by
  obtain ⟨R, hR, h'⟩ := h.out (.blk g)
  show semD P (Builtin.clear_ #[t] ty #[.slice (some ⟨g, o, none⟩) m c]) w K θ
  obtain ⟨hu, i, z', hi, hzz, _, _, _, hzl⟩ := rowTy_some ht
  have hgw := h'.blk
  have hzero : (zeroValue e).run P w = .ok z' w := by
    simp only [zeroValue, Sem.run_bind, run_typeInfo' hi, hzz, Result.andThen_ok]; rfl
  have hrep : (Builtin.zeroCells z'.cells m).toList = List.replicate m z := by
    have h2 : z'.cells = #[z] := by rw [← Array.toList_inj]; exact hzl
    rw [h2]
    apply List.ext_getElem
    · simp [Builtin.zeroCells]
    · intro k hk _
      simp [Builtin.zeroCells, Nat.mod_one]
  obtain ⟨m', rfl⟩ : ∃ m', m = m' + 1 := ⟨m - 1, by omega⟩
  have hst := run_storeCells_cells (P := P) g o (List.replicate (m' + 1) z) 0 w (fun j hj => by rw [cell_of_heap hgw]; simp at hj ⊢; omega) (fun j _ => frozen_of_heap hgw _) (fun v hv => by rw [← isCell_eq, (List.mem_replicate.1 hv).2]; exact hz)
  simp only [Nat.add_zero] at hst
  refine ⟨.tuple #[], w.setCells g o (List.replicate (m' + 1) z), ?_, hK _ (by rw [hR]; exact h'.setCells o _)⟩
  simp [Builtin.clear_, run_underlying hu, hzero, hrep, hst]
end

section
variable {P : Program} {w0 w : World} {A F : HP} {C : HP → HP}
/-- copy into a row of one's own. -/
theorem St.copyRow {g o k n c dl dc m : Nat} {T dT sT ty elem : TypeId} {v : Value} {xs ys : List Value} {K : Value → World → Prop} {θ : Tag K}
    (h : St w0 A w) [i : Hole (.row (.slice (some ⟨g, o, none⟩) n c)) A (RowO T 1 (.slice (some ⟨g, o, none⟩) n c) n xs) C] (hu : P.underlying dT = some (.slice elem)) (hs : (P.info? elem).map (·.size) = some 1)
    (hr : Rd 1 v m ys w) (hc : ∀ u ∈ ys, isCell u = true) (hfit : k + min m dl ≤ n)
    (hK : ∀ w', St w0 (C (RowO T 1 (.slice (some ⟨g, o, none⟩) n c) n (setRowL xs k (ys.take dl)))) w' → K (.int .i64 (min m dl : Nat)) w') :
    semD P (kCopy #[dT, sT] ty #[.slice (some ⟨g, o + k, none⟩) dl dc, v]) w K θ := by
  obtain ⟨R, hR, h'⟩ := h.out (.row (.slice (some ⟨g, o, none⟩) n c))
  obtain ⟨cur, h'⟩ := (h'.ent (Ent.sep (RowO.openE T 1 g o n c xs) (Ent.rfl' R))).exF
  obtain ⟨⟨a1, a2, a3, a4, a5⟩, h'⟩ := h'.factF
  have hyl := hr.length
  have htl : (ys.take dl).length = min m dl := by rw [List.length_take]; omega
  refine h'.copyH hu hs hr hc (by omega) fun w' hw => hK w' ?_
  rw [hR]
  refine hw.ent (Ent.sep (RowO.shutE ⟨a1, a2, ?_, ?_, ?_⟩) (Ent.rfl' R))
  · simpa [length_setRowL] using a3
  · rw [List.toList_toArray, setRowL_part (by omega) (by simp only [Array.length_toList]; omega), a4]
  · rw [length_setRowL, a5]
/-- clear of a part of a row of one's own. -/
theorem St.clearRow {t ty e bs g o k n c m mc : Nat} {T : TypeId} {z : Value} {xs : List Value} {K : Value → World → Prop} {θ : Tag K}
    (h : St w0 A w) [i : Hole (.row (.slice (some ⟨g, o, none⟩) n c)) A (RowO T 1 (.slice (some ⟨g, o, none⟩) n c) n xs) C] (ht : rowTy P t = some (e, 1, bs, [z])) (hz : isCell z = true) (hm0 : 0 < m) (hfit : k + m ≤ n)
    (hK : ∀ w', St w0 (C (RowO T 1 (.slice (some ⟨g, o, none⟩) n c) n (setRowL xs k (List.replicate m z)))) w' → K (.tuple #[]) w') :
    semD P (kClear #[t] ty #[.slice (some ⟨g, o + k, none⟩) m mc]) w K θ := by
  obtain ⟨R, hR, h'⟩ := h.out (.row (.slice (some ⟨g, o, none⟩) n c))
  obtain ⟨cur, h'⟩ := (h'.ent (Ent.sep (RowO.openE T 1 g o n c xs) (Ent.rfl' R))).exF
  obtain ⟨⟨a1, a2, a3, a4, a5⟩, h'⟩ := h'.factF
  have htl : (List.replicate m z).length = m := List.length_replicate
  refine h'.clearB ht hz hm0 (by omega) fun w' hw => hK w' ?_
  rw [hR]
  refine hw.ent (Ent.sep (RowO.shutE ⟨a1, a2, ?_, ?_, ?_⟩) (Ent.rfl' R))
  · simpa [length_setRowL] using a3
  · rw [List.toList_toArray, setRowL_part (by omega) (by simp only [Array.length_toList]; omega), a4]
  · rw [length_setRowL, a5]
end
end Go.Proofs.YtijnmokpihhhcaaDoor

namespace Go.Proofs.YtijnmokpihhhcaaDoor
open Go
set_option linter.unusedVariables false
set_option linter.unusedSimpArgs false
set_option maxRecDepth 100000

section
variable {w0 w : World} {A : HP} {b : Nat} {s : SD} {y : SX}
theorem rlockS (h : St w0 (StoreQ b 0 0 s y * A) w) : Calls Tryd.prog 36 #[.pointer (some ⟨b, 0, none⟩)] w fun e w' => St w0 (StoreQ b 0 1 s y * A) w' ∧ e = .returned (.tuple #[]) :=
  rlockH (b := b) (rc := 0) (arr := storeC 0 0 s.most s.next (.map (some y.N)) y.ov (.map (some y.C))) h rfl rfl rfl ⟨by decide, by decide⟩
theorem runlockS (h : St w0 (StoreQ b 0 1 s y * A) w) {ds : List Deferred} {K : FrameMode → World → Prop} (hK : ∀ w', St w0 (StoreQ b 0 0 s y * A) w' → leaveD Tryd.prog ds .returning w' K) :
    leaveD Tryd.prog ({ target := .fn (.func 37) #[], args := #[.pointer (some ⟨b, 0, none⟩)] } :: ds) .returning w K :=
  runlockL (rc := 0) h rfl rfl rfl ⟨by decide, by decide⟩ hK
theorem wlockS (h : St w0 (StoreQ b 0 0 s y * A) w) : Calls Tryd.prog 52 #[.pointer (some ⟨b, 0, none⟩)] w fun e w' => St w0 (StoreQ b 1 (-1073741824) s y * A) w' ∧ e = .returned (.tuple #[]) :=
  wlockH (b := b) (arr := storeC 0 0 s.most s.next (.map (some y.N)) y.ov (.map (some y.C))) h rfl rfl rfl rfl
theorem wunlockS (h : St w0 (StoreQ b 1 (-1073741824) s y * A) w) {ds : List Deferred} {K : FrameMode → World → Prop} (hK : ∀ w', St w0 (StoreQ b 0 0 s y * A) w' → leaveD Tryd.prog ds .returning w' K) :
    leaveD Tryd.prog ({ target := .fn (.func 53) #[], args := #[.pointer (some ⟨b, 0, none⟩)] } :: ds) .returning w K :=
  wunlockL h rfl rfl rfl rfl hK
end

/-! ### Ends -/
section
variable {P : Program} {e : FA} {R : Ending → World → Prop} {w : World}
theorem endT1 {t : Nat} (h : R (.returned (e.ρ t)) w) : leaveD P [] .returning w (endM P #[.tmp t] e R) := ⟨_, fin1, h⟩
theorem endT2 {t u : Nat} (h : R (.returned (.tuple #[e.ρ t, e.ρ u])) w) : leaveD P [] .returning w (endM P #[.tmp t, .tmp u] e R) := ⟨_, fin2, h⟩
theorem endC2 {t u n : Nat} {T : TypeId} {a : Addr} {v : Value} (hx : e.ρ t = .pointer (some a)) (hs : aggSz P T = some (some n)) (hv : rowV w a n = some v) (h : R (.returned (.tuple #[v, e.ρ u])) w) : leaveD P [] .returning w (endM P #[.cell t T, .tmp u] e R) :=
  resC_2 hx (run_loadVar_row hs hv) h
end


theorem next_any {w0 w : World} {A : HP} {b : Nat} {s : SD} (h : St w0 (StoreP b 0 0 s * A) w) :
    Calls Tryd.prog 17 #[.pointer (some ⟨b, 0, none⟩)] w fun e w' => St w0 (StoreP b 0 0 s * A) w' ∧ e = .returned (.int .u64 s.next) := by
  obtain ⟨y, ok, h⟩ := h.storeO
  refine calls_of_cwM (types := Tryd.prog.types) follows Tryd.func17 F17.code rfl (by kernel_rfl) (by show 1 ≤ 14; decide) ?_
  show cwE _ _ (fnM _ #[.tmp 2] _) _ _
  unfold F17.code
  simp -dsimp -implicitDefEqProofs (disch := omega) only [go_sem, reqD_of, dec_t, dec_f, wrap_i64, wrap_u32, wrap_u64, wrap_u8]
  refine (rlockS h).mono ?_
  rintro e w1 ⟨h1, rfl⟩
  simp -dsimp -implicitDefEqProofs (disch := omega) only [go_sem, reqD_of, dec_t, dec_f, wrap_i64, wrap_u32, wrap_u64, wrap_u8]
  refine deferF_of ?_
  simp -dsimp -implicitDefEqProofs (disch := omega) only [go_sem, reqD_of, dec_t, dec_f, wrap_i64, wrap_u32, wrap_u64, wrap_u8, h1.cl b]
  refine runlockS h1 fun w2 h2 => ?_
  refine endT1 ⟨h2.ent (Ent.sep (StoreP.shut ok) (Ent.rfl' A)), ?_⟩
  simp -dsimp -implicitDefEqProofs only [go_sem]

theorem count_any {w0 w : World} {A : HP} {b : Nat} {s : SD} (h : St w0 (StoreP b 0 0 s * A) w) :
    Calls Tryd.prog 18 #[.pointer (some ⟨b, 0, none⟩)] w fun e w' => St w0 (StoreP b 0 0 s * A) w' ∧ e = .returned (.int .i64 s.L.length) := by
  obtain ⟨y, ok, h⟩ := h.storeO
  refine calls_of_cwM (types := Tryd.prog.types) follows Tryd.func18 F18.code rfl (by kernel_rfl) (by show 1 ≤ 15; decide) ?_
  show cwE _ _ (fnM _ #[.tmp 2] _) _ _
  unfold F18.code
  simp -dsimp -implicitDefEqProofs (disch := omega) only [go_sem, reqD_of, dec_t, dec_f, wrap_i64, wrap_u32, wrap_u64, wrap_u8]
  refine (rlockS h).mono ?_
  rintro e w1 ⟨h1, rfl⟩
  simp -dsimp -implicitDefEqProofs (disch := omega) only [go_sem, reqD_of, dec_t, dec_f, wrap_i64, wrap_u32, wrap_u64, wrap_u8]
  refine deferF_of ?_
  simp -dsimp -implicitDefEqProofs (disch := omega) only [go_sem, reqD_of, dec_t, dec_f, wrap_i64, wrap_u32, wrap_u64, wrap_u8, h1.cl b]
  refine h1.lenH (b := y.N) Tryd.underlying93 ?_
  rw [List.length_map, ok.len]
  simp -dsimp -implicitDefEqProofs (disch := omega) only [go_sem, reqD_of, dec_t, dec_f, wrap_i64, wrap_u32, wrap_u64, wrap_u8]
  refine runlockS h1 fun w2 h2 => ?_
  refine endT1 ⟨h2.ent (Ent.sep (StoreP.shut ok) (Ent.rfl' A)), ?_⟩
  simp -dsimp -implicitDefEqProofs only [go_sem]

theorem child_any {w0 w : World} {A : HP} {b : Nat} {s : SD} (h : St w0 (StoreP b 0 0 s * A) w) {p : Nat} {nm : List UInt8} :
    Calls Tryd.prog 51 #[.pointer (some ⟨b, 0, none⟩), .int .u64 p, .string (strOf nm)] w fun e w' => St w0 (StoreP b 0 0 s * A) w' ∧ e = .returned (match childF s.L p nm with | some q => .tuple #[.int .u64 q, .bool true] | none => .tuple #[.int .u64 0, .bool false]) := by
  obtain ⟨y, ok, h⟩ := h.storeO
  refine calls_of_cwM (types := Tryd.prog.types) follows Tryd.func51 F51.code rfl (by kernel_rfl) (by show 3 ≤ 30; decide) ?_
  show cwE _ _ (fnM _ #[.tmp 6, .tmp 7] _) _ _
  unfold F51.code
  simp -dsimp -implicitDefEqProofs (disch := omega) only [go_sem, reqD_of, dec_t, dec_f, wrap_i64, wrap_u32, wrap_u64, wrap_u8]
  refine (rlockS h).mono ?_
  rintro e w1 ⟨h1, rfl⟩
  simp -dsimp -implicitDefEqProofs (disch := omega) only [go_sem, reqD_of, dec_t, dec_f, wrap_i64, wrap_u32, wrap_u64, wrap_u8]
  refine deferF_of ?_
  simp -dsimp -implicitDefEqProofs (disch := omega) only [go_sem, reqD_of, dec_t, dec_f, wrap_i64, wrap_u32, wrap_u64, wrap_u8, h1.cl b]
  refine onV_of (v := encK (p, nm)) (by kernel_rfl) ?_
  simp -dsimp -implicitDefEqProofs (disch := omega) only [go_sem, reqD_of, dec_t, dec_f, wrap_i64, wrap_u32, wrap_u64, wrap_u8]
  refine h1.lkH (b := y.C) (x := (p, nm)) Tryd.underlying94 lawK (z := .int .u64 0) (by kernel_rfl) ?_
  rw [ok.child]
  cases hc : childF s.L p nm with
  | none =>
    simp only [Option.map_none]
    simp -dsimp -implicitDefEqProofs (disch := omega) only [go_sem, reqD_of, dec_t, dec_f, wrap_i64, wrap_u32, wrap_u64, wrap_u8, lkV]
    refine runlockS h1 fun w2 h2 => ?_
    refine endT2 ⟨h2.ent (Ent.sep (StoreP.shut ok) (Ent.rfl' A)), ?_⟩
    simp -dsimp -implicitDefEqProofs only [go_sem]
  | some q =>
    simp only [Option.map_some]
    simp -dsimp -implicitDefEqProofs (disch := omega) only [go_sem, reqD_of, dec_t, dec_f, wrap_i64, wrap_u32, wrap_u64, wrap_u8, lkV]
    refine runlockS h1 fun w2 h2 => ?_
    refine endT2 ⟨h2.ent (Ent.sep (StoreP.shut ok) (Ent.rfl' A)), ?_⟩
    simp -dsimp -implicitDefEqProofs only [go_sem]
end Go.Proofs.YtijnmokpihhhcaaDoor

namespace Go.Proofs.YtijnmokpihhhcaaDoor
open Go
set_option linter.unusedVariables false
set_option linter.unusedSimpArgs false
set_option maxRecDepth 100000

/-- The store without one node. -/
abbrev StoreR (b : Nat) (st rc : Int) (s : SD) (y : SX) (l : List (Int × Value)) (Z : List NN) : HP :=
  StoreB b st rc s y * (MapP encU y.N l * (MapP encK y.C y.cl * (RowU y.ov (s.L.map (·.i.path)) * starL nodeP Z)))
theorem StoreQ.eq {b : Nat} {st rc : Int} {s : SD} {y : SX} {X1 X2 : List NN} {x : NN} {A : HP} (hs : y.X = X1 ++ x :: X2) :
    StoreQ b st rc s y * A = NodeB x.n 0 x.d.i x.vk x.vb * (RowU x.vk x.ks * (BlksP x.vb x.P * (StoreR b st rc s y (y.X.map kv) (X1 ++ X2) * A))) := by
  have : starL nodeP y.X = NodeB x.n 0 x.d.i x.vk x.vb * (RowU x.vk x.ks * BlksP x.vb x.P) * starL nodeP (X1 ++ X2) := by
    rw [hs, starL_split]; rfl
  simp only [StoreQ, StoreR]
  rw [this]
  ac_rfl

theorem zero_ptr : zeroV Tryd.prog 83 = some (.pointer none) := by kernel_rfl
theorem kids_rise {s : SD} (h : Wf s) (p : Nat) : (kidsF s.L p).Pairwise (· < ·) := by
  unfold kidsF
  rw [List.pairwise_map]
  exact h.rise.filter _
theorem kids_len (L : List NodeD) (p : Nat) : (kidsF L p).length ≤ L.length := by
  unfold kidsF
  rw [List.length_map]
  exact List.length_filter_le _ _

def infZ : Inf := ⟨0, 0, [], 0, [], [], [], 0, 0, 0, 0, 0, 0⟩
/-- What is told of a path. -/
def toldI (s : SD) (p : Nat) : Inf := match findN s.L p with
  | some n => tellF s.L n
  | none => infZ
abbrev toldV (s : SD) (p : Nat) : Value := .tuple #[.agg (infL (toldI s p)).toArray, .bool (findN s.L p).isSome]
theorem toldI_some {s : SD} {p : Nat} {n : NodeD} (h : findN s.L p = some n) : toldI s p = tellF s.L n := by unfold toldI; rw [h]
theorem toldI_none {s : SD} {p : Nat} (h : findN s.L p = none) : toldI s p = infZ := by unfold toldI; rw [h]

theorem infL_cells (i : Inf) : ∀ v ∈ infL i, isCell v = true := by
  intro v hv
  simp only [infL, List.mem_cons, List.not_mem_nil, or_false] at hv
  rcases hv with rfl | rfl | rfl | rfl | rfl | rfl | rfl | rfl | rfl | rfl | rfl | rfl | rfl <;> rfl

section
attribute [local go_sem] F38.t4_eq
theorem tell_any {w0 w : World} {A : HP} {b : Nat} {st rc : Int} {s : SD} {y : SX} (ok : StoreOk s y) (h : St w0 (StoreQ b st rc s y * A) w) {p : Nat} :
    Calls Tryd.prog 38 #[.pointer (some ⟨b, 0, none⟩), .int .u64 p] w fun e w' => St w0 (StoreQ b st rc s y * A) w' ∧ e = .returned (toldV s p) := by
  refine calls_of_cwM (types := Tryd.prog.types) follows Tryd.func38 F38.code rfl (by kernel_rfl) (by show 2 ≤ 35; decide) ?_
  show cwE _ _ (fnM _ #[.cell 4 41, .tmp 5] _) _ _
  unfold F38.code
  simp -dsimp -implicitDefEqProofs (disch := omega) only [go_sem, reqD_of, dec_t, dec_f, wrap_i64, wrap_u32, wrap_u64, wrap_u8]
  refine h.new fun B w1 h1 => ?_
  simp -dsimp -implicitDefEqProofs (disch := omega) only [go_sem, reqD_of, dec_t, dec_f, wrap_i64, wrap_u32, wrap_u64, wrap_u8, h1.cl b]
  refine h1.lkH (b := y.N) (x := (p : Int)) Tryd.underlying93 lawU zero_ptr ?_
  cases hf : findN s.L p with
  | none =>
    rw [ok.none hf]
    simp -dsimp -implicitDefEqProofs (disch := omega) only [go_sem, reqD_of, dec_t, dec_f, wrap_i64, wrap_u32, wrap_u64, wrap_u8, lkV]
    refine onV_of (v := .agg (infL infZ).toArray) (by kernel_rfl) ?_
    simp -dsimp -implicitDefEqProofs (disch := omega) only [go_sem, reqD_of, dec_t, dec_f, wrap_i64, wrap_u32, wrap_u64, wrap_u8]
    refine h1.stoAll (b := B) (cs := infL infZ) rfl rfl (infL_cells _) fun w2 h2 => ?_
    simp -dsimp -implicitDefEqProofs (disch := omega) only [go_sem, reqD_of, dec_t, dec_f, wrap_i64, wrap_u32, wrap_u64, wrap_u8]
    refine endC2 (a := ⟨B, 0, none⟩) (n := 13) (v := .agg (infL infZ).toArray) (by simp -dsimp -implicitDefEqProofs only [go_sem]) fact_aggSz_41 (h2.rowH B 13 rfl) ?_
    refine ⟨h2.right, ?_⟩
    show _ = Ending.returned (.tuple #[.agg (infL (toldI s p)).toArray, .bool (findN s.L p).isSome])
    rw [toldI_none hf, hf]
    simp -dsimp -implicitDefEqProofs only [go_sem]
    rfl
  | some d =>
    obtain ⟨X1, x, X2, hs, rfl, hx, hl⟩ := ok.some hf
    have hk := ok.kids x hx
    rw [hl]
    simp -dsimp -implicitDefEqProofs (disch := omega) only [go_sem, reqD_of, dec_t, dec_f, wrap_i64, wrap_u32, wrap_u64, wrap_u8, lkV]
    have h2 := h1.ac (congrArg (Blk B _ * ·) (StoreQ.eq hs))
    refine (lockH (b := x.n) h2 rfl).mono ?_
    rintro e w3 ⟨h3, rfl⟩
    have h3 : St w0 (Blk B (.cells (infL infZ).toArray 41 (0, 0)) * (NodeB x.n 1 x.d.i x.vk x.vb * (RowU x.vk x.ks * (BlksP x.vb x.P * (StoreR b st rc s y (y.X.map kv) (X1 ++ X2) * A))))) w3 := h3
    simp -dsimp -implicitDefEqProofs (disch := omega) only [go_sem, reqD_of, dec_t, dec_f, wrap_i64, wrap_u32, wrap_u64, wrap_u8]
    refine deferF_of ?_
    have hrow := h3.rowAtH x.n 2 13 (by simp)
    simp only [List.drop_succ_cons, List.drop_zero, List.take_succ_cons, List.take_zero] at hrow
    simp -dsimp -implicitDefEqProofs (disch := omega) only [go_sem, reqD_of, dec_t, dec_f, wrap_i64, wrap_u32, wrap_u64, wrap_u8, h3.cl x.n, hrow]
    refine h3.new fun D w4 h4 => ?_
    simp -dsimp -implicitDefEqProofs (disch := omega) only [go_sem, reqD_of, dec_t, dec_f, wrap_i64, wrap_u32, wrap_u64, wrap_u8]
    refine h4.stoAll (b := D) (cs := infL x.d.i) rfl rfl (infL_cells _) fun w5 h5 => ?_
    obtain ⟨a, c, hvk, hl0, hnc, _⟩ := h5.rowForm x.vk
    simp -dsimp -implicitDefEqProofs (disch := omega) only [go_sem, reqD_of, dec_t, dec_f, wrap_i64, wrap_u32, wrap_u64, wrap_u8, h5.cl x.n, hvk]
    refine h5.sto (b := D) (by simp) rfl fun w6 h6 => ?_
    simp only [List.setIfInBounds_toArray, List.set_cons_succ, List.set_cons_zero] at h6
    have hD := h6.rowH D 13 rfl
    simp -dsimp -implicitDefEqProofs (disch := omega) only [go_sem, reqD_of, dec_t, dec_f, wrap_i64, wrap_u32, wrap_u64, wrap_u8, hD]
    rw [hk]
    refine h6.stoAll (b := B) (cs := infL (tellF s.L x.d)) rfl rfl (infL_cells _) fun w7 h7 => ?_
    simp -dsimp -implicitDefEqProofs (disch := omega) only [go_sem, reqD_of, dec_t, dec_f, wrap_i64, wrap_u32, wrap_u64, wrap_u8]
    refine unlockL (b := x.n) h7 rfl fun w8 h8 => ?_
    have h8 : St w0 (Blk D (.cells (infL { x.d.i with kids := x.ks.length }).toArray 41 (0, 0)) * (Blk B (.cells (infL (tellF s.L x.d)).toArray 41 (0, 0)) * (NodeB x.n 0 x.d.i x.vk x.vb * (RowU x.vk x.ks * (BlksP x.vb x.P * (StoreR b st rc s y (y.X.map kv) (X1 ++ X2) * A)))))) w8 := h8
    refine endC2 (a := ⟨B, 0, none⟩) (n := 13) (v := .agg (infL (tellF s.L x.d)).toArray) (by simp -dsimp -implicitDefEqProofs only [go_sem]) fact_aggSz_41 (h8.rowH B 13 rfl) ?_
    refine ⟨(h8.right.right).ac (StoreQ.eq hs).symm, ?_⟩
    show _ = Ending.returned (.tuple #[.agg (infL (toldI s p)).toArray, .bool (findN s.L p).isSome])
    rw [toldI_some hf, hf]
    simp -dsimp -implicitDefEqProofs only [go_sem]
    rfl

/-! ### The rest -/

end

theorem node_any {w0 w : World} {A : HP} {b : Nat} {s : SD} (h : St w0 (StoreP b 0 0 s * A) w) {p : Nat} :
    Calls Tryd.prog 15 #[.pointer (some ⟨b, 0, none⟩), .int .u64 p] w fun e w' => St w0 (StoreP b 0 0 s * A) w' ∧ e = .returned (toldV s p) := by
  obtain ⟨y, ok, h⟩ := h.storeO
  refine calls_of_cwM (types := Tryd.prog.types) follows Tryd.func15 F15.code rfl (by kernel_rfl) (by show 2 ≤ 18; decide) ?_
  show cwE _ _ (fnM _ #[.cell 4 41, .tmp 5] _) _ _
  unfold F15.code
  simp -dsimp -implicitDefEqProofs (disch := omega) only [go_sem, reqD_of, dec_t, dec_f, wrap_i64, wrap_u32, wrap_u64, wrap_u8]
  refine h.new fun B w1 h1 => ?_
  simp -dsimp -implicitDefEqProofs (disch := omega) only [go_sem, reqD_of, dec_t, dec_f, wrap_i64, wrap_u32, wrap_u64, wrap_u8]
  refine (rlockS h1.sw2).mono ?_
  rintro e w2 ⟨h2, rfl⟩
  simp -dsimp -implicitDefEqProofs (disch := omega) only [go_sem, reqD_of, dec_t, dec_f, wrap_i64, wrap_u32, wrap_u64, wrap_u8]
  refine deferF_of ?_
  simp -dsimp -implicitDefEqProofs (disch := omega) only [go_sem, reqD_of, dec_t, dec_f, wrap_i64, wrap_u32, wrap_u64, wrap_u8]
  refine (tell_any ok h2).mono ?_
  rintro e w3 ⟨h3, rfl⟩
  simp -dsimp -implicitDefEqProofs (disch := omega) only [go_sem, reqD_of, dec_t, dec_f, wrap_i64, wrap_u32, wrap_u64, wrap_u8]
  refine h3.stoAll (b := B) (cs := infL (toldI s p)) rfl rfl (infL_cells _) fun w4 h4 => ?_
  simp -dsimp -implicitDefEqProofs (disch := omega) only [go_sem, reqD_of, dec_t, dec_f, wrap_i64, wrap_u32, wrap_u64, wrap_u8]
  refine runlockS h4 fun w5 h5 => ?_
  refine endC2 (a := ⟨B, 0, none⟩) (n := 13) (v := .agg (infL (toldI s p)).toArray) (by simp -dsimp -implicitDefEqProofs only [go_sem]) fact_aggSz_41 (h5.rowH B 13 rfl) ?_
  refine ⟨h5.sw2.right.ent (Ent.sep (StoreP.shut ok) (Ent.rfl' A)), ?_⟩
  simp -dsimp -implicitDefEqProofs only [go_sem]

/-- The child with the next greater path. -/
def aftV : Option Nat → Value
  | some k => .tuple #[.int .u64 k, .bool true]
  | none => .tuple #[.int .u64 0, .bool false]
def afterS (s : SD) (p last : Nat) : Option Nat := match findN s.L p with
  | some n => afterF s.L p last
  | none => none

section
attribute [local go_sem] F24.t6_eq
theorem after_any {w0 w : World} {A : HP} {b : Nat} {s : SD} (h : St w0 (StoreP b 0 0 s * A) w) {p last : Nat} :
    Calls Tryd.prog 24 #[.pointer (some ⟨b, 0, none⟩), .int .u64 p, .int .u64 last] w fun e w' => St w0 (StoreP b 0 0 s * A) w' ∧ e = .returned (aftV (afterS s p last)) := by
  obtain ⟨y, ok, h⟩ := h.storeO
  refine calls_of_cwM (types := Tryd.prog.types) follows Tryd.func24 F24.code rfl (by kernel_rfl) (by show 3 ≤ 32; decide) ?_
  show cwE _ _ (fnM _ #[.tmp 6, .tmp 7] _) _ _
  unfold F24.code
  simp -dsimp -implicitDefEqProofs (disch := omega) only [go_sem, reqD_of, dec_t, dec_f, wrap_i64, wrap_u32, wrap_u64, wrap_u8]
  refine (rlockS h).mono ?_
  rintro e w1 ⟨h1, rfl⟩
  simp -dsimp -implicitDefEqProofs (disch := omega) only [go_sem, reqD_of, dec_t, dec_f, wrap_i64, wrap_u32, wrap_u64, wrap_u8]
  refine deferF_of ?_
  simp -dsimp -implicitDefEqProofs (disch := omega) only [go_sem, reqD_of, dec_t, dec_f, wrap_i64, wrap_u32, wrap_u64, wrap_u8, h1.cl b]
  refine h1.lkH (b := y.N) (x := (p : Int)) Tryd.underlying93 lawU zero_ptr ?_
  have hw := ok.wf.few
  have hm := ok.wf.most
  cases hf : findN s.L p with
  | none =>
    rw [ok.none hf]
    have ha : afterS s p last = none := by unfold afterS; rw [hf]
    rw [ha]
    simp -dsimp -implicitDefEqProofs (disch := omega) only [go_sem, reqD_of, dec_t, dec_f, wrap_i64, wrap_u32, wrap_u64, wrap_u8, lkV]
    refine runlockS h1 fun w2 h2 => ?_
    refine endT2 ⟨h2.ent (Ent.sep (StoreP.shut ok) (Ent.rfl' A)), ?_⟩
    simp -dsimp -implicitDefEqProofs only [go_sem]
    rfl
  | some d =>
    obtain ⟨X1, x, X2, hs, rfl, hx, hl⟩ := ok.some hf
    have hk := ok.kids x hx
    have hp : x.d.i.path = p := (find_some hf).2
    have ha : afterS s p last = x.ks.find? fun k => decide (last < k) := by unfold afterS; rw [hf]; rw [hk, hp]; rfl
    rw [hl, ha]
    have h2 := h1.ac (StoreQ.eq hs)
    simp -dsimp -implicitDefEqProofs (disch := omega) only [go_sem, reqD_of, dec_t, dec_f, wrap_i64, wrap_u32, wrap_u64, wrap_u8, lkV, h2.cl x.n]
    have hlen := kids_len s.L x.d.i.path
    refine (above_any (l := x.ks) h2 (by rw [hk]; exact kids_rise ok.wf _) (by rw [hk]; omega)).mono ?_
    rintro e w3 ⟨h3, rfl⟩
    cases hr : x.ks.find? fun k => decide (last < k) with
    | none =>
      simp -dsimp -implicitDefEqProofs (disch := omega) only [go_sem, reqD_of, dec_t, dec_f, wrap_i64, wrap_u32, wrap_u64, wrap_u8]
      refine runlockS (h3.ac (StoreQ.eq hs).symm) fun w2 h2 => ?_
      refine endT2 ⟨h2.ent (Ent.sep (StoreP.shut ok) (Ent.rfl' A)), ?_⟩
      simp -dsimp -implicitDefEqProofs only [go_sem]
      rfl
    | some k =>
      simp -dsimp -implicitDefEqProofs (disch := omega) only [go_sem, reqD_of, dec_t, dec_f, wrap_i64, wrap_u32, wrap_u64, wrap_u8]
      refine runlockS (h3.ac (StoreQ.eq hs).symm) fun w2 h2 => ?_
      refine endT2 ⟨h2.ent (Ent.sep (StoreP.shut ok) (Ent.rfl' A)), ?_⟩
      simp -dsimp -implicitDefEqProofs only [go_sem]
      rfl

/-- The node of the least path that is greater. -/
def leastS (s : SD) (last : Nat) : Option Nat := (s.L.map (·.i.path)).find? fun k => decide (last < k)
def leastV (s : SD) (last : Nat) : Value := match leastS s last with
  | some k => toldV s k
  | none => .tuple #[.agg (infL infZ).toArray, .bool false]

end
section
attribute [local go_sem] F73.t6_eq
theorem least_any {w0 w : World} {A : HP} {b : Nat} {s : SD} (h : St w0 (StoreP b 0 0 s * A) w) {last : Nat} :
    Calls Tryd.prog 73 #[.pointer (some ⟨b, 0, none⟩), .int .u64 last] w fun e w' => St w0 (StoreP b 0 0 s * A) w' ∧ e = .returned (leastV s last) := by
  obtain ⟨y, ok, h⟩ := h.storeO
  refine calls_of_cwM (types := Tryd.prog.types) follows Tryd.func73 F73.code rfl (by kernel_rfl) (by show 2 ≤ 32; decide) ?_
  show cwE _ _ (fnM _ #[.cell 4 41, .tmp 5] _) _ _
  unfold F73.code
  simp -dsimp -implicitDefEqProofs (disch := omega) only [go_sem, reqD_of, dec_t, dec_f, wrap_i64, wrap_u32, wrap_u64, wrap_u8]
  refine h.new fun B w1 h1 => ?_
  simp -dsimp -implicitDefEqProofs (disch := omega) only [go_sem, reqD_of, dec_t, dec_f, wrap_i64, wrap_u32, wrap_u64, wrap_u8]
  refine (rlockS h1.sw2).mono ?_
  rintro e w2 ⟨h2, rfl⟩
  simp -dsimp -implicitDefEqProofs (disch := omega) only [go_sem, reqD_of, dec_t, dec_f, wrap_i64, wrap_u32, wrap_u64, wrap_u8]
  refine deferF_of ?_
  simp -dsimp -implicitDefEqProofs (disch := omega) only [go_sem, reqD_of, dec_t, dec_f, wrap_i64, wrap_u32, wrap_u64, wrap_u8, h2.cl b]
  have hw := ok.wf.few
  have hm := ok.wf.most
  have hrise := rise_paths.1 ok.wf.rise
  refine (above_any (v := y.ov) (l := s.L.map (·.i.path)) h2 hrise (by simp; omega)).mono ?_
  rintro e w3 ⟨h3, rfl⟩
  cases hr : (s.L.map (·.i.path)).find? fun k => decide (last < k) with
  | none =>
    have hv : leastV s last = .tuple #[.agg (infL infZ).toArray, .bool false] := by unfold leastV leastS; rw [hr]
    rw [hv]
    simp -dsimp -implicitDefEqProofs (disch := omega) only [go_sem, reqD_of, dec_t, dec_f, wrap_i64, wrap_u32, wrap_u64, wrap_u8]
    refine onV_of (v := .agg (infL infZ).toArray) (by kernel_rfl) ?_
    simp -dsimp -implicitDefEqProofs (disch := omega) only [go_sem, reqD_of, dec_t, dec_f, wrap_i64, wrap_u32, wrap_u64, wrap_u8]
    refine h3.stoAll (b := B) (cs := infL infZ) rfl rfl (infL_cells _) fun w4 h4 => ?_
    simp -dsimp -implicitDefEqProofs (disch := omega) only [go_sem, reqD_of, dec_t, dec_f, wrap_i64, wrap_u32, wrap_u64, wrap_u8]
    refine runlockS h4 fun w5 h5 => ?_
    refine endC2 (a := ⟨B, 0, none⟩) (n := 13) (v := .agg (infL infZ).toArray) (by simp -dsimp -implicitDefEqProofs only [go_sem]) fact_aggSz_41 (h5.rowH B 13 rfl) ?_
    refine ⟨h5.sw2.right.ent (Ent.sep (StoreP.shut ok) (Ent.rfl' A)), ?_⟩
    simp -dsimp -implicitDefEqProofs only [go_sem]
  | some k =>
    have hv : leastV s last = toldV s k := by unfold leastV leastS; rw [hr]
    rw [hv]
    simp -dsimp -implicitDefEqProofs (disch := omega) only [go_sem, reqD_of, dec_t, dec_f, wrap_i64, wrap_u32, wrap_u64, wrap_u8]
    refine (tell_any ok h3).mono ?_
    rintro e w4 ⟨h4, rfl⟩
    simp -dsimp -implicitDefEqProofs (disch := omega) only [go_sem, reqD_of, dec_t, dec_f, wrap_i64, wrap_u32, wrap_u64, wrap_u8]
    refine h4.stoAll (b := B) (cs := infL (toldI s k)) rfl rfl (infL_cells _) fun w6 h6 => ?_
    simp -dsimp -implicitDefEqProofs (disch := omega) only [go_sem, reqD_of, dec_t, dec_f, wrap_i64, wrap_u32, wrap_u64, wrap_u8]
    refine runlockS h6 fun w5 h5 => ?_
    refine endC2 (a := ⟨B, 0, none⟩) (n := 13) (v := .agg (infL (toldI s k)).toArray) (by simp -dsimp -implicitDefEqProofs only [go_sem]) fact_aggSz_41 (h5.rowH B 13 rfl) ?_
    refine ⟨h5.sw2.right.ent (Ent.sep (StoreP.shut ok) (Ent.rfl' A)), ?_⟩
    simp -dsimp -implicitDefEqProofs only [go_sem]
end
end Go.Proofs.YtijnmokpihhhcaaDoor

namespace Go.Proofs.YtijnmokpihhhcaaDoor
open Go
set_option linter.unusedVariables false
set_option linter.unusedSimpArgs false
set_option maxRecDepth 100000

theorem rowTy_blks : rowTy Tryd.prog 90 = some (122, 1, 8, [.pointer none]) := by kernel_rfl
theorem starL_take {α : Type} (B : α → HP) : ∀ (l : List α) (n : Nat), Ent (starL B l) (starL B (l.take n))
  | [], n => by simpa using Ent.rfl' _
  | x :: l, 0 => Ent.of fun _ _ => trivial
  | x :: l, n + 1 => Ent.sep (Ent.rfl' (B x)) (starL_take B l n)

theorem rowTy_bytes : rowTy Tryd.prog 51 = some (5, 1, 1, [.int .u8 0]) := by kernel_rfl
theorem setRowL_end {cs vs : List Value} {o : Nat} (h : o + vs.length = cs.length) : setRowL cs o vs = cs.take o ++ vs := by
  have := take_setRowL (cs := cs) (vs := vs) (o := o) (by omega)
  rwa [List.take_of_length_le (by rw [length_setRowL]; omega)] at this
theorem zero_cells {bs : List UInt8} {p : Nat} (h : bs.length = 256) (hp : p ≤ 256) : setRowL (bs.map bv) p (List.replicate (256 - p) (.int .u8 0)) = (zeroF bs p).map bv := by
  rw [setRowL_end (by rw [List.length_replicate, List.length_map]; omega)]
  unfold zeroF
  rw [List.map_append, List.map_take, List.map_replicate]
  rfl

/-- What comes of a change of a node with its blocks. -/
def BytesR (w0 : World) (A : HP) (n : Nat) (st : Int) (i : Inf) (vk vb : Value) (P : BL) (r : Except Nat NodeD) (e : Ending) (w' : World) : Prop := match r with
  | .error x => St w0 (NodeB n st i vk vb * (BlksP vb P * A)) w' ∧ e = .returned (.int .i64 x)
  | .ok n' => ∃ vb' P', BlksOk P' n'.b ∧ St w0 (NodeB n st n'.i vk vb' * (BlksP vb' P' * A)) w' ∧ e = .returned (.int .i64 0)

section
variable {w0 w : World} {A : HP} {n k : Nat} {st : Int} {i : Inf} {vk vb : Value} {P : BL} {b : List UInt8} {e : FA} {R : Ending → World → Prop}

section
attribute [local go_sem] F44.t10_eq F44.t11_eq F44.t5_eq F44.t3_eq
theorem cut_t11 {W : Nat} (hW : W ≤ 65536) (hP : P.length ≤ 256) (h : St w0 (NodeB n st i vk vb * (RowB vb P * (starL BlkP P * A))) w) (hd : e.ds = []) (e0 : e.ρ 0 = .pointer (some ⟨n, 0, none⟩)) (e1 : e.ρ 1 = .int .u64 k) (e5 : e.ρ 5 = .int .i64 W)
    (hR : ∀ w' vb', St w0 (NodeB n st { i with length := k } vk vb' * (RowB vb' (P.take W) * (starL BlkP (P.take W) * A))) w' → R (.returned (.int .i64 0)) w') : cwE Tryd.prog F44.t11 (fnP Tryd.prog #[.tmp 4] R) e w := by
  rw [F44.t11_eq]
  have fin : ∀ (e : FA) (w : World) (vb' : Value), St w0 (NodeB n st i vk vb' * (RowB vb' (P.take W) * (starL BlkP (P.take W) * A))) w → e.ds = [] → e.ρ 0 = .pointer (some ⟨n, 0, none⟩) → e.ρ 1 = .int .u64 k → cwE Tryd.prog F44.t14 (fnP Tryd.prog #[.tmp 4] R) e w := by
    intro e w vb' h hd e0 e1
    unfold F44.t14
    simp -dsimp -implicitDefEqProofs (disch := omega) only [go_sem, reqD_of, dec_t, dec_f, wrap_i64, wrap_u32, wrap_u64, wrap_u8, hd, e0, e1]
    refine h.sto (b := n) (by simp) rfl fun w1 h1 => ?_
    simp only [List.setIfInBounds_toArray, List.set_cons_succ, List.set_cons_zero] at h1
    simp -dsimp -implicitDefEqProofs (disch := omega) only [go_sem, reqD_of, dec_t, dec_f, wrap_i64, wrap_u32, wrap_u64, wrap_u8, hd]
    exact hR _ _ h1
  obtain ⟨a, c, rfl, hl0, hnc, hcm⟩ := h.rowForm vb
  by_cases hlt : (W : Int) < (P.length : Int)
  case neg =>
    have ht : P.take W = P := List.take_of_length_le (by omega)
    simp -dsimp -implicitDefEqProofs (disch := omega) only [go_sem, reqD_of, dec_t, dec_f, wrap_i64, wrap_u32, wrap_u64, wrap_u8, hd, e0, e1, e5, h.cl n, hlt]
    refine fin _ _ (.slice a P.length c) (by rw [ht]; exact h) (by simp -dsimp -implicitDefEqProofs only [go_sem, hd]) (by simp -dsimp -implicitDefEqProofs only [go_sem, e0]) (by simp -dsimp -implicitDefEqProofs only [go_sem, e1])
  have hWl : W < P.length := by omega
  obtain ⟨g, o, rfl, hc⟩ := h.atS (a := a) (n := P.length) (c := c) (xs := P.map ptrV) (k := W) (by simpa using hWl)
  simp -dsimp -implicitDefEqProofs (disch := omega) only [go_sem, reqD_of, dec_t, dec_f, wrap_i64, wrap_u32, wrap_u64, wrap_u8, hd, e0, e1, e5, h.cl n, hlt]
  rw [if_neg (show ¬ c = W by omega)]
  refine h.clearRow (g := g) (o := o) (k := W) (n := P.length) (c := c) (m := P.length - W) rowTy_blks rfl (by omega) (by omega) fun w1 h1 => ?_
  simp -dsimp -implicitDefEqProofs (disch := omega) only [go_sem, reqD_of, dec_t, dec_f, wrap_i64, wrap_u32, wrap_u64, wrap_u8, hd, e0, e1, e5, h1.cl n]
  have h2 := h1.turnTo (.row (.slice (some ⟨g, o, none⟩) P.length c)) (RowO.cut (lo := 0) (k := W) (m := c) (by omega) (by omega) (Nat.le_refl c))
  have hcell : (((setRowL (P.map ptrV) W (List.replicate (P.length - W) (.pointer none))).drop (0 * 1)).take (W * 1)) = (P.take W).map ptrV := by
    rw [Nat.zero_mul, List.drop_zero, Nat.mul_one, List.map_take]
    apply List.ext_getElem?
    intro j
    simp only [List.getElem?_take]
    split
    · exact getElem?_setRowL_lt _ _ _ _ (by omega)
    · rfl
  rw [hcell] at h2
  have hv : (Value.slice (if c = 0 then some (⟨g, o, none⟩ : Addr) else Option.map (fun x : Addr => x.add (0 * 1)) (some (⟨g, o, none⟩ : Addr))) W (c - 0)) = .slice (some ⟨g, o, none⟩) W c := by
    split <;> rfl
  have hW2 : (P.take W).length = W := by rw [List.length_take]; omega
  rw [hv] at h2
  rw [show (if c = 0 then some (⟨g, o, none⟩ : Addr) else some ⟨g, o, none⟩) = some ⟨g, o, none⟩ by split <;> rfl]
  refine h2.sto (b := n) (by simp) rfl fun w3 h3 => ?_
  simp only [List.setIfInBounds_toArray, List.set_cons_succ, List.set_cons_zero] at h3
  simp -dsimp -implicitDefEqProofs (disch := omega) only [go_sem, reqD_of, dec_t, dec_f, wrap_i64, wrap_u32, wrap_u64, wrap_u8]
  refine fin _ _ (.slice (some ⟨g, o, none⟩) W c) ?_ (by simp -dsimp -implicitDefEqProofs only [go_sem, hd]) (by simp -dsimp -implicitDefEqProofs only [go_sem, e0]) (by simp -dsimp -implicitDefEqProofs only [go_sem, e1])
  have h4 := h3.ent (Ent.sep (Ent.rfl' _) (Ent.sep (Ent.rfl' _) (Ent.sep (starL_take BlkP P W) (Ent.rfl' A))))
  have e1 : RowB (.slice (some ⟨g, o, none⟩) W c) (P.take W) = RowO 122 1 (.slice (some ⟨g, o, none⟩) W c) W ((P.take W).map ptrV) := by
    show RowO _ 1 _ (P.take W).length _ = _
    rw [hW2]
  rw [e1]
  exact h4

end
section
attribute [local go_sem] F44.t10_eq F44.t14_eq F44.t3_eq
theorem cut_any (hi : i.mode < 4294967296) (ok : BlksOk P b) (h : St w0 (NodeB n st i vk vb * (BlksP vb P * A)) w) :
    Calls Tryd.prog 44 #[.pointer (some ⟨n, 0, none⟩), .int .u64 k] w (BytesR w0 A n st i vk vb P (cutF k ⟨i, b⟩)) := by
  refine F44.calls (by simp) ?_
  unfold F44.code
  have bd := bDir (P := Tryd.prog) (T := 29) hi
  cases hd : dirF i.mode
  case true =>
    have hr : cutF k ⟨i, b⟩ = .error 81 := by simp [cutF, hd]
    rw [hr]
    simp only [hd, if_true] at bd
    simp -dsimp -implicitDefEqProofs (disch := omega) only [go_sem, reqD_of, dec_t, dec_f, wrap_i64, wrap_u32, wrap_u64, wrap_u8, h.cl n, bd]
    exact ⟨h, rfl⟩
  simp only [hd, if_false, Bool.false_eq_true] at bd
  by_cases hk : (65536 : Int) < (k : Int)
  · have hr : cutF k ⟨i, b⟩ = .error 86 := by simp [cutF, hd]; omega
    rw [hr]
    simp -dsimp -implicitDefEqProofs (disch := omega) only [go_sem, reqD_of, dec_t, dec_f, wrap_i64, wrap_u32, wrap_u64, wrap_u8, h.cl n, bd, hk]
    exact ⟨h, rfl⟩
  have hr : cutF k ⟨i, b⟩ = .ok ⟨{ i with length := k }, padF b k⟩ := by
    unfold cutF
    rw [if_neg (by simp [hd]), if_neg (by omega)]
  rw [hr]
  simp -dsimp -implicitDefEqProofs (disch := omega) only [go_sem, reqD_of, dec_t, dec_f, wrap_i64, wrap_u32, wrap_u64, wrap_u8, h.cl n, bd, hk]
  unfold F44.t5
  have hk2 : k ≤ 65536 := by omega
  obtain ⟨q, hq⟩ : ∃ q, q = k / 256 := ⟨_, rfl⟩
  obtain ⟨p, hp⟩ : ∃ p, p = k % 256 := ⟨_, rfl⟩
  have hq1 : IntKind.i64.wrap (IntKind.u64.wrap ((k : Int).tdiv 256)) = q := by
    rw [Int.tdiv_eq_ediv_of_nonneg (by omega), wrap_u64 (by omega) (by omega), wrap_i64 (by omega) (by omega)]
    omega
  have hp1 : IntKind.i64.wrap ((k : Int).tmod 256) = p := by
    rw [Int.tmod_eq_emod_of_nonneg (by omega), wrap_i64 (by omega) (by omega)]
    omega
  have h0 : St w0 (NodeB n st i vk vb * (RowB vb P * (starL BlkP P * A))) w := h.ac (by unfold BlksP; ac_rfl)
  have few := ok.few
  -- the end, from a list of blocks
  have tail : ∀ (e : FA) (w : World) (P' : BL) (W : Nat), P'.length = P.length → W ≤ 65536 → BlksOk (P'.take W) (padF b k) → St w0 (NodeB n st i vk vb * (RowB vb P' * (starL BlkP P' * A))) w → e.ds = [] → e.ρ 0 = .pointer (some ⟨n, 0, none⟩) → e.ρ 1 = .int .u64 k → e.ρ 5 = .int .i64 W →
      cwE Tryd.prog F44.t11 (fnP Tryd.prog #[.tmp 4] (BytesR w0 A n st i vk vb P (.ok ⟨{ i with length := k }, padF b k⟩))) e w := fun e w P' W hl hW hok h hd e0 e1 e5 =>
    cut_t11 hW (by omega) h hd e0 e1 e5 fun w' vb' h' => ⟨vb', P'.take W, hok, h'.ac (by unfold BlksP; ac_rfl), rfl⟩
  by_cases c1 : (0 : Int) < (p : Int)
  case neg =>
    simp -dsimp -implicitDefEqProofs (disch := omega) only [go_sem, reqD_of, dec_t, dec_f, wrap_i64, wrap_u32, wrap_u64, wrap_u8, h.cl n, bd, hk, hq1, hp1, c1]
    refine tail _ _ P q rfl (by omega) (ok.cut hk2 (.inl ⟨hq, rfl, .inl (by omega)⟩)) h0 (by simp -dsimp -implicitDefEqProofs only [go_sem]) (by simp -dsimp -implicitDefEqProofs only [go_sem]) (by simp -dsimp -implicitDefEqProofs only [go_sem]) (by simp -dsimp -implicitDefEqProofs only [go_sem])
  obtain ⟨a, c, rfl, hl0, hnc, hcm⟩ := h0.rowForm vb
  by_cases c2 : (q : Int) < (P.length : Int)
  case neg =>
    simp -dsimp -implicitDefEqProofs (disch := omega) only [go_sem, reqD_of, dec_t, dec_f, wrap_i64, wrap_u32, wrap_u64, wrap_u8, h.cl n, bd, hk, hq1, hp1, c1, c2]
    refine tail _ _ P q rfl (by omega) (ok.cut hk2 (.inl ⟨hq, rfl, .inr (by omega)⟩)) h0 (by simp -dsimp -implicitDefEqProofs only [go_sem]) (by simp -dsimp -implicitDefEqProofs only [go_sem]) (by simp -dsimp -implicitDefEqProofs only [go_sem]) (by simp -dsimp -implicitDefEqProofs only [go_sem])
  have hql : q < P.length := by omega
  obtain ⟨g, o, rfl, hc⟩ := h0.atS (a := a) (n := P.length) (c := c) (xs := P.map ptrV) (k := q) (by simpa using hql)
  rw [List.getElem_map] at hc
  cases hb : P[q] with
  | none =>
    rw [hb] at hc
    simp only [ptrV] at hc
    have hb' : P[k / 256]? = some none := by rw [← hq, List.getElem?_eq_getElem hql, hb]
    simp -dsimp -implicitDefEqProofs (disch := omega) only [go_sem, reqD_of, dec_t, dec_f, wrap_i64, wrap_u32, wrap_u64, wrap_u8, h.cl n, bd, hk, hq1, hp1, c1, c2, hc]
    refine tail _ _ P (q + 1) rfl (by omega) (ok.cut hk2 (.inr ⟨by omega, by omega, by omega, .inl ⟨hb', rfl⟩⟩)) h0 (by simp -dsimp -implicitDefEqProofs only [go_sem]) (by simp -dsimp -implicitDefEqProofs only [go_sem]) (by simp -dsimp -implicitDefEqProofs only [go_sem]) (by simp -dsimp -implicitDefEqProofs only [go_sem]; rfl)
  | some pb =>
    obtain ⟨ba, bs⟩ := pb
    rw [hb] at hc
    simp only [ptrV] at hc
    have hb' : P[k / 256]? = some (some (ba, bs)) := by rw [← hq, List.getElem?_eq_getElem hql, hb]
    have hbl : bs.length = 256 := ok.full (ba, bs) (List.mem_of_getElem? hb')
    have hsp : P = P.take q ++ some (ba, bs) :: P.drop (q + 1) := by
      conv => lhs; rw [← List.take_append_drop q P, List.drop_eq_getElem_cons hql, hb]
    have hst : starL BlkP P = Blk ba (.cells (bs.map bv).toArray 123 (0, 0)) * starL BlkP (P.take q ++ P.drop (q + 1)) := by
      conv => lhs; rw [hsp]
      rw [starL_split]; rfl
    have h1 : St w0 (NodeB n st i vk (.slice (some ⟨g, o, none⟩) P.length c) * (RowB (.slice (some ⟨g, o, none⟩) P.length c) P * (Blk ba (.cells (bs.map bv).toArray 123 (0, 0)) * (starL BlkP (P.take q ++ P.drop (q + 1)) * A)))) w := by
      rw [hst] at h0
      exact h0.ac (by ac_rfl)
    simp -dsimp -implicitDefEqProofs (disch := omega) only [go_sem, reqD_of, dec_t, dec_f, wrap_i64, wrap_u32, wrap_u64, wrap_u8, h.cl n, bd, hk, hq1, hp1, c1, c2, hc]
    rw [if_neg (show ¬ 256 = p by omega)]
    refine h1.clearB (g := ba) (o := p) (m := 256 - p) rowTy_bytes rfl (by omega) (by simp; omega) fun w2 h2 => ?_
    rw [List.toList_toArray, zero_cells hbl (by omega)] at h2
    simp -dsimp -implicitDefEqProofs (disch := omega) only [go_sem, reqD_of, dec_t, dec_f, wrap_i64, wrap_u32, wrap_u64, wrap_u8]
    have hst2 : starL BlkP (P.set q (some (ba, zeroF bs p))) = Blk ba (.cells ((zeroF bs p).map bv).toArray 123 (0, 0)) * starL BlkP (P.take q ++ P.drop (q + 1)) := by
      rw [List.set_eq_take_append_cons_drop, if_pos hql, starL_split]; rfl
    have hpt : (P.set q (some (ba, zeroF bs p))).map ptrV = P.map ptrV := by
      rw [List.map_set]
      apply List.ext_getElem?
      intro j
      rw [List.getElem?_set]
      split
      · rename_i e
        subst e
        rw [if_pos (by simpa using hql), List.getElem?_map, List.getElem?_eq_getElem hql, hb]
        rfl
      · rfl
    have hln : (P.set q (some (ba, zeroF bs p))).length = P.length := List.length_set
    refine tail _ _ (P.set q (some (ba, zeroF bs p))) (q + 1) hln (by omega) (ok.cut hk2 (.inr ⟨by omega, by omega, by omega, .inr ⟨ba, bs, hb', by rw [hq, hp]⟩⟩)) ?_ (by simp -dsimp -implicitDefEqProofs only [go_sem]) (by simp -dsimp -implicitDefEqProofs only [go_sem]) (by simp -dsimp -implicitDefEqProofs only [go_sem]) (by simp -dsimp -implicitDefEqProofs only [go_sem]; rfl)
    rw [hst2]
    show St w0 (NodeB n st i vk (.slice (some ⟨g, o, none⟩) P.length c) * (RowO 122 1 (.slice (some ⟨g, o, none⟩) P.length c) (P.set q (some (ba, zeroF bs p))).length ((P.set q (some (ba, zeroF bs p))).map ptrV) * _)) w2
    rw [hpt, hln]
    exact h2.ac (by simp only [RowB]; ac_rfl)
end
end
end Go.Proofs.YtijnmokpihhhcaaDoor

namespace Go.Proofs.YtijnmokpihhhcaaDoor
open Go

/-- A way to read a row of cells, in a memory, as something; it stays in a greater memory. -/
structure Rdr (α : Type) where
  rel : α → List Value → Heap → Prop
  mono : ∀ {x cs h h'}, hle h h' → rel x cs h → rel x cs h'

def rInt (k : IntKind) : Rdr Int := ⟨fun n cs _ => cs = [.int k n] ∧ (Lit.int k n).wf = true, fun _ h => h⟩
def rBool : Rdr Bool := ⟨fun b cs _ => cs = [.bool b], fun _ h => h⟩
def rStr : Rdr ByteArray := ⟨fun s cs _ => cs = [.string s] ∧ s.size ≤ reachBytes, fun _ h => h⟩
def rEnd : Rdr Unit := ⟨fun _ cs _ => cs = [], fun _ h => h⟩
def rCons {α β : Type} (n : Nat) (R : Rdr α) (S : Rdr β) : Rdr (α × β) :=
  ⟨fun x cs h => ∃ c1 c2, cs = c1 ++ c2 ∧ c1.length = n ∧ R.rel x.1 c1 h ∧ S.rel x.2 c2 h, fun hl ⟨c1, c2, e, l, a, b⟩ => ⟨c1, c2, e, l, R.mono hl a, S.mono hl b⟩⟩
def rSlice {α : Type} (s b : Nat) (R : Rdr α) : Rdr (List α) :=
  ⟨fun xs cs h => ∃ a cap, cs = [.slice a xs.length cap] ∧ xs.length ≤ cap ∧ cap ≤ maxLen ∧ xs.length * b ≤ reachBytes ∧
    (xs = [] ∨ ∃ g o cur T fr, a = some ⟨g, o, none⟩ ∧ h g = some (.cells cur T fr) ∧ ∀ j (hj : j < xs.length), ((cur.toList.drop (o + j * s)).take s).length = s ∧ R.rel xs[j] ((cur.toList.drop (o + j * s)).take s) h),
   by
    rintro xs cs h h' hl ⟨a, cap, e, l, m, r, k⟩
    refine ⟨a, cap, e, l, m, r, ?_⟩
    rcases k with k | ⟨g, o, cur, T, fr, ea, hg, hj⟩
    · exact .inl k
    · exact .inr ⟨g, o, cur, T, fr, ea, hl _ _ hg, fun j hj' => ⟨(hj j hj').1, R.mono hl (hj j hj').2⟩⟩⟩
theorem Reads.mono {s n : Nat} {v : Value} {xs : List Value} {h h' : Heap} (hl : hle h h') (k : Reads s v n xs h) : Reads s v n xs h' := by
  obtain ⟨l, a, c, hv, hnc, hr⟩ := k
  exact ⟨l, a, c, hv, hnc, hr.imp id fun ⟨b, o, cur, T, fr, ha, hg, hj⟩ => ⟨b, o, cur, T, fr, ha, hl _ _ hg, hj⟩⟩
def rBytes : Rdr (List UInt8) :=
  ⟨fun bs cs h => ∃ v, cs = [v] ∧ RdB v bs h ∧ bs.length ≤ reachBytes, fun hl ⟨v, e, k, hb⟩ => ⟨v, e, Reads.mono hl k, hb⟩⟩

/-- What the reader says of these cells, as a part of memory. -/
def Rdr.at {α : Type} (R : Rdr α) (x : α) (cs : List Value) : HP := fun h => R.rel x cs h

theorem Rdr.old {α : Type} {R : Rdr α} {x : α} {cs : List Value} {w0 : World} (h : R.rel x cs (heapOf w0)) : Ent (Old w0) (R.at x cs) :=
  Ent.of fun _ ho => R.mono (fun b o e => ho b o e) h

theorem St.sat' {w0 w : World} {A : HP} (h : St w0 A w) : ∃ x, hle x (heapOf w) ∧ A x := h.sat

/-- What a reader says, said of the world at hand. -/
theorem St.reader {α : Type} {R : Rdr α} {x : α} {cs : List Value} {w0 w : World} {F : HP} (h : St w0 F w) (k : Ent F (R.at x cs)) : R.rel x cs (heapOf w) := by
  obtain ⟨y, l, hy⟩ := (h.ent k).sat
  exact R.mono l hy

/-- A slice that came in: its form, and its elements' cells. -/
theorem Rdr.slice {α : Type} {s b : Nat} {R : Rdr α} {xs : List α} {v : Value} {h : Heap} (k : (rSlice s b R).rel xs [v] h) :
    ∃ a cap, v = .slice a xs.length cap ∧ xs.length ≤ cap ∧ cap ≤ maxLen ∧ xs.length * b ≤ reachBytes := by
  obtain ⟨a, cap, e, l, m, r, _⟩ := k
  simp only [List.cons.injEq, and_true] at e
  exact ⟨a, cap, e, l, m, r⟩

/-- An element of a slice that came in: where its cells lie, and that they read so, whatever turned since. -/
theorem Rdr.elem {α : Type} {s b : Nat} {R : Rdr α} {xs : List α} {a : Option Addr} {n cap j : Nat} {F : HP} (k : Ent F ((rSlice s b R).at xs [.slice a n cap])) {w0 w : World} (hw : St w0 F w) (hj : j < xs.length) :
    ∃ g o cs, a = some ⟨g, o, none⟩ ∧ cs.length = s ∧ (∀ i, i < s → w.cell? ⟨g, o + j * s + i, none⟩ = cs[i]?) ∧ R.rel xs[j] cs (heapOf w) := by
  obtain ⟨a', cap', e, _, _, _, hr⟩ := hw.reader k
  simp only [List.cons.injEq, Value.slice.injEq, and_true] at e
  obtain ⟨rfl, rfl, rfl⟩ := e
  rcases hr with rfl | ⟨g, o, cur, T, fr, rfl, hg, hr⟩
  · simp at hj
  · obtain ⟨hl, hx⟩ := hr j hj
    refine ⟨g, o, _, rfl, hl, fun i hi => ?_, hx⟩
    rw [cell_of_heap hg, List.getElem?_take, if_pos hi, List.getElem?_drop]
    simp

/-- An element read as a part of memory that stays. -/
theorem Rdr.elemEnt {α : Type} {s b : Nat} {R : Rdr α} {xs : List α} {a : Option Addr} {n cap j : Nat} {w0 : World} (k : Ent (Old w0) ((rSlice s b R).at xs [.slice a n cap])) (hj : j < xs.length) :
    ∃ g o cs, a = some ⟨g, o, none⟩ ∧ cs.length = s ∧ Ent (Old w0) (R.at xs[j] cs) ∧ ∀ (F : HP) (u : World), St w0 (Old w0 * F) u → ∀ i, i < s → u.cell? ⟨g, o + j * s + i, none⟩ = cs[i]? := by
  obtain ⟨a', cap', e, _, _, _, hr⟩ := (St.start w0).reader k
  simp only [List.cons.injEq, Value.slice.injEq, and_true] at e
  obtain ⟨rfl, rfl, rfl⟩ := e
  rcases hr with rfl | ⟨g, o, cur, T, fr, rfl, hg, hr⟩
  · simp at hj
  · obtain ⟨hl, hx⟩ := hr j hj
    refine ⟨g, o, _, rfl, hl, Rdr.old hx, fun F w hw i hi => ?_⟩
    obtain ⟨y, l, h1, h2, hd, l1, l2, ho, _⟩ := hw.sat
    have hgw : w.heap[g]? = some (.cells cur T fr) := l _ _ (l1 _ _ (ho _ _ hg))
    rw [cell_of_heap hgw, List.getElem?_take, if_pos hi, List.getElem?_drop]
    simp

/-! ### From what the row says of an argument to its reader -/

def Opens {α : Type} (P : Program) (t : TypeId) (R : Rdr α) : Prop :=
  ∀ {H : Type} (enc : TypeId × Value → H) (W : World) (sp : Nat → Bool) (fuel : Nat) (cs : List Value) (y : DataW H × List MemPlace),
    DataW.trod enc P W 0 sp true fuel t cs = some y → (∀ n ∈ y.1.weights P t, n ≤ reachBytes) → ∃ x, R.rel x cs (heapOf W)

theorem opens_int {P : Program} {t : TypeId} {k : IntKind} (hu : P.underlying t = some (.int k)) : Opens P t (rInt k) := by
  intro H enc W sp fuel cs y h _
  obtain ⟨n, hc, _, hw⟩ := DataW.trod_int hu h
  exact ⟨n, hc, hw⟩

theorem opens_bool {P : Program} {t : TypeId} (hu : P.underlying t = some .bool) : Opens P t rBool := by
  intro H enc W sp fuel cs y h _
  obtain ⟨b, hc, _⟩ := DataW.trod_bool hu h
  exact ⟨b, hc⟩

theorem opens_str {P : Program} {t : TypeId} (hu : P.underlying t = some .string) : Opens P t rStr := by
  intro H enc W sp fuel cs y h hz
  obtain ⟨s, hc, rfl, _⟩ := DataW.trod_string hu h
  refine ⟨s, hc, ?_⟩
  have := hz s.data.toList.length (by simp [DataW.weights])
  simpa using this

theorem weightsAll_mem {H : Type} {P : Program} {e : TypeId} {d : DataW H} {n : Nat} (hn : n ∈ d.weights P e) : ∀ {l : List (DataW H)}, d ∈ l → n ∈ DataW.weightsAll P e l
  | x :: l, hd => by
    simp only [DataW.weightsAll, List.mem_append]
    rcases List.mem_cons.1 hd with rfl | hd
    · exact .inl hn
    · exact .inr (weightsAll_mem hn hd)

theorem cellsAt {W : World} {a : Addr} {n : Nat} {cs : List Value} (h : W.cells? 0 a n = some cs) (hn : 0 < n) :
    ∃ g o cur T fr, a = ⟨g, o, none⟩ ∧ W.heap[g]? = some (.cells cur T fr) ∧ cs = (cur.toList.drop o).take n ∧ cs.length = n := by
  unfold World.cells? at h
  rw [if_pos (Nat.zero_le _)] at h
  have hl := mapM_some_length h
  have hg := fun i (hi : i < n) => mapM_some_get h i i (by simp [hi])
  simp only [List.length_range] at hl
  obtain ⟨g, o, sp⟩ := a
  have h0 := hg 0 hn
  have hsome : cs[0]? = some cs[0] := List.getElem?_eq_getElem (by omega)
  rw [hsome] at h0
  have hsp : sp = none := by simpa [Addr.add] using World.cell?_spot h0
  subst hsp
  rw [add_lit] at h0
  have hb : ∃ cur T fr, W.heap[g]? = some (.cells cur T fr) := by
    unfold World.cell? at h0
    simp only at h0
    split at h0
    · rename_i cur T fr hx; exact ⟨cur, T, fr, hx⟩
    · cases h0
  obtain ⟨cur, T, fr, hx⟩ := hb
  refine ⟨g, o, cur, T, fr, rfl, hx, ?_, hl⟩
  apply List.ext_getElem?
  intro i
  rw [List.getElem?_take]
  split
  · rename_i hi
    have := hg i hi
    rw [add_lit, cell_of_heap hx] at this
    rw [← this, List.getElem?_drop]
    simp
  · rw [List.getElem?_eq_none]; omega

/-- What each of a row may be, as a row. -/
theorem choose_list {α : Type} {n : Nat} {p : Nat → α → Prop} (h : ∀ i, i < n → ∃ x, p i x) : ∃ xs : List α, xs.length = n ∧ ∀ i (hi : i < xs.length), p i xs[i] := by
  induction n with
  | zero => exact ⟨[], rfl, fun i hi => by simp at hi⟩
  | succ n ih =>
    obtain ⟨xs, hl, hx⟩ := ih fun i hi => h i (by omega)
    obtain ⟨x, hp⟩ := h n (by omega)
    refine ⟨xs ++ [x], by simp [hl], fun i hi => ?_⟩
    rw [List.getElem_append]
    split
    · rename_i h'; exact hx i h'
    · rename_i h'
      have : i = n := by simp at hi; omega
      subst this
      simpa using hp

theorem opens_slice {α : Type} {P : Program} {t e : TypeId} {s b : Nat} {R : Rdr α} (hu : P.underlying t = some (.slice e)) (hs : P.cellsOf e = s) (hb : P.bytesOf e = b) (h0 : 0 < s) (hR : Opens P e R) : Opens P t (rSlice s b R) := by
  intro H enc W sp fuel cs y h hz
  subst hs hb
  rcases DataW.trod_slice hu h with ⟨rfl, rfl⟩ | ⟨a, len, cap, elems, rest, n, rfl, rfl, rfl, _, hlc, hcm, hel, hel2, _, _⟩
  · exact ⟨[], none, 0, rfl, Nat.le_refl _, by simp, by simp, .inl rfl⟩
  · simp only [DataW.weights, hu, List.mem_cons, List.mem_append, List.length_map] at hz
    have hsz : len * P.bytesOf e ≤ reachBytes := by
      have := hz _ (.inl rfl)
      rw [hel] at this
      exact Nat.le_trans (Nat.mul_le_mul_right _ (Nat.le_add_right _ _)) this
    have hel3 : ∀ i, i < len → ∃ x, ∃ cs, W.cells? 0 (a.add (i * P.cellsOf e)) (P.cellsOf e) = some cs ∧ R.rel x cs (heapOf W) := by
      intro i hi
      have h1 := hel2 i hi
      have hi' : i < elems.length := by omega
      rw [List.getElem?_eq_getElem hi'] at h1
      obtain ⟨cs, hcs, htr⟩ := Option.bind_eq_some_iff.1 h1
      obtain ⟨x, hx⟩ := hR enc W sp n cs _ htr fun m hm => hz m (.inr (.inl (weightsAll_mem hm (List.mem_map.2 ⟨_, List.getElem_mem hi', rfl⟩))))
      exact ⟨x, cs, hcs, hx⟩
    obtain ⟨xs, hxl, hxs⟩ := choose_list hel3
    subst hxl
    refine ⟨xs, some a, cap, rfl, hlc, hcm, hsz, ?_⟩
    by_cases hx : xs = []
    · exact .inl hx
    · right
      obtain ⟨cs0, hc0, _⟩ := hxs 0 (List.length_pos_iff.2 hx)
      obtain ⟨g, o, cur, T, fr, ha, hg, _, _⟩ := cellsAt hc0 h0
      have ha : a = ⟨g, o, none⟩ := by
        obtain ⟨g', o', sp'⟩ := a
        simp only [Nat.zero_mul] at ha
        have : (⟨g', o', sp'⟩ : Addr).add 0 = ⟨g', o', sp'⟩ := rfl
        rw [this] at ha; exact ha
      subst ha
      refine ⟨g, o, cur, T, fr, rfl, hg, fun j hj => ?_⟩
      obtain ⟨csj, hcj, hrj⟩ := hxs j hj
      rw [add_lit] at hcj
      obtain ⟨g', o', cur', T', fr', ha', hg', hcs', hl'⟩ := cellsAt hcj h0
      simp only [Addr.mk.injEq, and_true] at ha'
      obtain ⟨rfl, rfl⟩ := ha'
      rw [hg] at hg'
      simp only [Option.some.injEq, Obj.cells.injEq] at hg'
      obtain ⟨rfl, _, _⟩ := hg'
      rw [← hcs']
      exact ⟨hl', hrj⟩

theorem opens_bytes {P : Program} {t e : TypeId} (hu : P.underlying t = some (.slice e)) (he : P.underlying e = some (.int .u8)) (hs : P.cellsOf e = 1) (hb : P.bytesOf e = 1) : Opens P t rBytes := by
  intro H enc W sp fuel cs y h hz
  obtain ⟨xs, a, cap, rfl, hlc, hcm, hsz, hr⟩ := opens_slice hu hs hb (by omega) (opens_int he) enc W sp fuel cs y h hz
  have hbs : ∃ bs : List UInt8, bs.length = xs.length ∧ ((xs = [] ∨ ∃ g o cur T fr, a = some ⟨g, o, none⟩ ∧ heapOf W g = some (.cells cur T fr) ∧ ∀ j, j < xs.length → cur[o + j]? = (bs.map bv)[j]?)) := by
    rcases hr with rfl | ⟨g, o, cur, T, fr, rfl, hg, hr⟩
    · exact ⟨[], rfl, .inl rfl⟩
    · refine ⟨xs.map fun n => UInt8.ofNat n.toNat, by simp, .inr ⟨g, o, cur, T, fr, rfl, hg, fun j hj => ?_⟩⟩
      obtain ⟨_, hc, hw⟩ := hr j hj
      have h1 : cur[o + j]? = some (.int .u8 xs[j]) := by
        have := congrArg (fun l => l[0]?) hc
        simpa [List.getElem?_take, List.getElem?_drop] using this
      rw [h1]
      simp only [List.map_map, List.getElem?_map, List.getElem?_eq_getElem hj, Option.map_some, Function.comp, bv]
      have hb2 : 0 ≤ xs[j] ∧ xs[j] < 256 := by
        have h1 : IntKind.u8.min = 0 := rfl
        have h2 : IntKind.u8.max = 255 := rfl
        simp [Lit.wf] at hw
        omega
      congr 2
      have : (UInt8.ofNat (xs[j]).toNat).toNat = (xs[j]).toNat % 256 := by simp
      omega
  obtain ⟨bs, hbl, hr⟩ := hbs
  refine ⟨bs, _, rfl, ⟨by simp, a, cap, by rw [hbl], by omega, ?_⟩, by omega⟩
  rcases hr with rfl | ⟨g, o, cur, T, fr, ha, hg, hr⟩
  · left; simpa using hbl
  · exact .inr ⟨g, o, cur, T, fr, ha, hg, fun j hj => hr j (by simp at hj; omega)⟩

/-- The fields from one on, of a struct of N cells. -/
def OpensF {α : Type} (P : Program) (N : Nat) (fs : List Field) (off : Nat) (R : Rdr α) : Prop :=
  ∀ {H : Type} (enc : TypeId × Value → H) (W : World) (sp : Nat → Bool) (fuel : Nat) (cs : List Value) (xs : List (DataW H × List MemPlace)), cs.length = N → xs.length = fs.length →
    (∀ (i : Nat) (f : Field), fs[i]? = some f → DataW.trod enc P W 0 sp true fuel f.type ((cs.drop f.offset).take (P.cellsOf f.type)) = xs[i]?) →
    (∀ n ∈ DataW.weightsEach P (fs.map (·.type)) (xs.map (·.1)), n ≤ reachBytes) → ∃ x, R.rel x (cs.drop off) (heapOf W)

theorem opensF_nil {P : Program} {N : Nat} : OpensF P N [] N rEnd := by
  intro H enc W sp fuel cs xs hl _ _ _
  exact ⟨(), by show cs.drop N = []; simp; omega⟩

theorem opensF_cons {α β : Type} {P : Program} {N off s : Nat} {f : Field} {fs : List Field} {R : Rdr α} {S : Rdr β} (hoff : f.offset = off) (hs : P.cellsOf f.type = s) (hN : off + s ≤ N) (hR : Opens P f.type R) (hS : OpensF P N fs (off + s) S) : OpensF P N (f :: fs) off (rCons s R S) := by
  intro H enc W sp fuel cs xs hl hxl hx hz
  cases xs with
  | nil => simp at hxl
  | cons x0 xs =>
    have h0 := hx 0 f rfl
    rw [hoff, hs] at h0
    simp only [List.map_cons, DataW.weightsEach, List.mem_append] at hz
    obtain ⟨a, ha⟩ := hR enc W sp fuel _ _ h0 fun n hn => hz n (.inl hn)
    obtain ⟨b, hb⟩ := hS enc W sp fuel cs xs hl (by simpa using hxl) (fun i g hg => hx (i + 1) g (by simpa using hg)) fun n hn => hz n (.inr hn)
    refine ⟨(a, b), (cs.drop off).take s, cs.drop (off + s), ?_, by simp; omega, ha, hb⟩
    rw [← List.drop_drop, List.take_append_drop]

theorem opens_struct {α : Type} {P : Program} {t : TypeId} {fs : Array Field} {N : Nat} {R : Rdr α} (hu : P.underlying t = some (.struct fs)) (hN : P.cellsOf t = N) (hF : OpensF P N fs.toList 0 R) : Opens P t R := by
  intro H enc W sp fuel cs y h hz
  obtain ⟨xs, n, rfl, rfl, hl, hxl, hx⟩ := DataW.trod_struct hu h
  have := hF enc W sp n cs xs (by rw [hl, hN]) (by simpa using hxl) (fun i f hf => hx i f (by simpa using hf)) (by simpa [DataW.weights, hu] using hz)
  simpa using this

/-- An argument, opened. -/
theorem Opens.arg {α : Type} {P : Program} {t : TypeId} {R : Rdr α} (hR : Opens P t R) {H : Type} {enc : TypeId × Value → H} {W : World} {sp : Nat → Bool} {v : Value} {d : DataW H} {p : List MemPlace} (h : DataW.Trod enc P W 0 sp true t v d p)
    {ts : List TypeId} {ds : List (DataW H)} (hz : (DataW.weightsEach P ts ds).all (· ≤ reachBytes) = true) (j : Nat) (hj : ts[j]? = some t) (hd : ds[j]? = some d) : ∃ x, R.rel x v.cells.toList (heapOf W) := by
  obtain ⟨fuel, hf⟩ := h
  refine hR enc W sp fuel _ _ hf fun n hn => ?_
  have := List.all_eq_true.1 hz _ (DataW.weights_mem_each hj hd n hn)
  simpa using this

theorem u32_nonneg {n : Int} (h : (Lit.int .u32 n).wf = true) : 0 ≤ n := by
  have h1 : IntKind.u32.min = 0 := rfl
  have h2 : IntKind.u32.max = 4294967295 := rfl
  simp [Lit.wf, h1, h2] at h
  omega
theorem u32_lt {n : Int} (h : (Lit.int .u32 n).wf = true) : n < 4294967296 := by
  have h1 : IntKind.u32.min = 0 := rfl
  have h2 : IntKind.u32.max = 4294967295 := rfl
  simp [Lit.wf, h1, h2] at h
  omega
theorem i64_bounds {n : Int} (h : (Lit.int .i64 n).wf = true) : -9223372036854775808 ≤ n ∧ n < 9223372036854775808 := by
  have h1 : IntKind.i64.min = -9223372036854775808 := rfl
  have h2 : IntKind.i64.max = 9223372036854775807 := rfl
  simp [Lit.wf, h1, h2] at h
  omega

end Go.Proofs.YtijnmokpihhhcaaDoor

namespace Go.Proofs.YtijnmokpihhhcaaDoor
open Go
set_option linter.unusedVariables false

theorem rSlice_reads {α : Type} {s b : Nat} {R : Rdr α} {enc : α → List Value} (he : ∀ x cs h, R.rel x cs h → cs = enc x) (hk : ∀ x, (enc x).length = s) {xs : List α} {v : Value} :
    Ent ((rSlice s b R).at xs [v]) (Reads s v xs.length (xs.flatMap enc)) := by
  refine Ent.of fun h hr => ?_
  obtain ⟨a, cap, e, l, m, r, k⟩ := hr
  simp only [List.cons.injEq, and_true] at e
  subst e
  refine ⟨flatMap_length hk xs, a, cap, rfl, l, ?_⟩
  rcases k with k | ⟨g, o, cur, T, fr, ea, hg, hj⟩
  · left; subst k; rfl
  · right
    refine ⟨g, o, cur, T, fr, ea, hg, fun t ht => ?_⟩
    rw [flatMap_length hk] at ht
    obtain ⟨i, j, hi, hjs, e, hf⟩ := flatMap_at_all hk xs t ht
    obtain ⟨h1, h2⟩ := hj i hi
    have h3 := he _ _ _ h2
    rw [hf, ← h3, e, List.getElem?_take_of_lt hjs, List.getElem?_drop, Array.getElem?_toList]
    congr 1
    omega

/-- make, of elements of one cell. -/
theorem St.make1 {P : Program} {w0 w : World} {F : HP} {t e bs n c : Nat} {z : Value} {K : Value → World → Prop} {θ : Tag K} (h : St w0 F w) (ht : rowTy P t = some (e, 1, bs, [z])) (hn : n ≤ c) (hc : c ≤ 16777216) (hb : bs * c ≤ 281474976710656)
    (hK : ∀ b w', St w0 (RowO e 1 (.slice (some ⟨b, 0, none⟩) n c) n (List.replicate n z) * F) w' → K (.slice (some ⟨b, 0, none⟩) n c) w') : semD P (kMakeSlice t (.int .i64 n) (.int .i64 c)) w K θ := by
  show semD P (Instr.makeSlice t (.int .i64 n) (.int .i64 c)) w K θ
  obtain ⟨hu, i, zv, hi, hz, hsz, hbs, hzs, hzc⟩ := rowTy_some ht
  have hb2 : (bs : Int) * c ≤ 281474976710656 := by
    have : ((bs * c : Nat) : Int) ≤ 281474976710656 := by omega
    rwa [Int.natCast_mul] at this
  have hr := run_makeSlice (P := P) (w := w) t e i zv hu hi hz .i64 .i64 n c (by omega) (by omega) (by rw [hsz]; simp; omega) (by rw [hbs]; exact hb2) (by omega)
  simp only [Int.toNat_natCast, hsz, Nat.mul_one] at hr
  have hcells : madeCells zv.cells c = (List.replicate c z).toArray := by
    have hz1 : zv.cells = #[z] := Array.ext' (by rw [hzc])
    rw [hz1]
    apply Array.ext'
    simp only [madeCells]
    apply List.ext_getElem
    · simp
    · intro j h1 h2
      simp [Nat.mod_one]
  rw [hcells] at hr
  refine ⟨_, _, hr, hK _ _ ((h.alloc _).ent (Ent.sep (Ent.of fun k hk => .inr ⟨w.heap.size, 0, c, (List.replicate c z).toArray, rfl, hk, hn, by simp only [maxLen]; omega, by simp, ?_, by simp⟩) (Ent.rfl' F)))⟩
  simp only [List.drop_zero, Nat.mul_one, List.take_replicate, Nat.min_eq_left hn]

/-- The first k elements, as the evaluator spells 'x[:k]'. -/
theorem Reads.takeK {s n c k : Nat} {a : Option Addr} {xs : List Value} (hk : k ≤ n) : Ent (Reads s (.slice a n c) n xs) (Reads s (.slice (if c = 0 then a else Option.map (fun x => x) a) k (c - 0)) k (xs.take (k * s))) := by
  have h := Reads.sub (s := s) (n := n) (lo := 0) (k := k) (c := c) (a := a) (xs := xs) (by omega)
  rw [Nat.zero_mul, List.drop_zero] at h
  exact h
theorem flatMap_take {α : Type} {enc : α → List Value} {k : Nat} (hk : ∀ x, (enc x).length = k) : ∀ (l : List α) (n : Nat), (l.flatMap enc).take (n * k) = (l.take n).flatMap enc
  | [], n => by simp
  | x :: l, 0 => by simp
  | x :: l, n + 1 => by
    rw [List.flatMap_cons, List.take_succ_cons, List.flatMap_cons, Nat.add_mul, Nat.one_mul, Nat.add_comm, List.take_append, hk, List.take_of_length_le (by rw [hk]; omega), show k + n * k - k = n * k by omega, flatMap_take hk l n]

/-- A slice of no elements that is not nil. -/
theorem St.lit0 {P : Program} {t e s bs : Nat} {zs : List Value} {w0 w : World} {F : HP} {parts : Array (Nat × Value)} {K : Value → World → Prop} {θ : Tag K}
    (h : St w0 F w) (ht : rowTy P t = some (e, s, bs, zs)) (hp : parts = #[]) (hK : ∀ v w', St w0 (RowO e s v 0 [] * F) w' → K v w') : semD P (kBuildSlice t 0 parts) w K θ := by
  show semD P (Instr.buildSlice t 0 parts) w K θ
  subst hp
  obtain ⟨hu, i, z, hi, hz, rfl, rfl, hzs, rfl⟩ := rowTy_some ht
  refine ⟨.slice (some ⟨w.heap.size, 0, none⟩) 0 0, w.alloc (.cells #[] e), ?_, hK _ _ ((h.alloc _).ent (Ent.sep (Ent.of fun k hk => .inr ⟨w.heap.size, 0, 0, #[], rfl, hk, Nat.le_refl _, by simp [maxLen], by simp, by simp, by simp⟩) (Ent.rfl' F)))⟩
  unfold Instr.buildSlice
  simp only [Sem.run_bind, run_underlying' hu, Result.andThen_ok, run_sizeOf' hi, Nat.zero_mul, if_neg (show ¬ (0 > 2 ^ 24) by omega), if_true, Sem.run_pure]
  have hf : Instr.fill (fun i_1 => some (i_1 * i.size, i.size)) (Array.map (fun x => (#[] : Array Value)[x % (#[] : Array Value).size]!) (Array.range 0)) ([] : List (Nat × Value)) = some #[] := by simp [Instr.fill]
  rw [hf]
  rfl

/-- A map's copy. -/
theorem St.copyMap {κ : Type} {enc : κ → Value} {b : Nat} {l : List (κ × Value)} {w0 w : World} {A : HP} {C : HP → HP} (h : St w0 A w) [i : Hole (.map b) A (MapP enc b l) C] :
    ∃ es clock, w.heap[b]? = some (.map es clock) ∧ St w0 (MapP enc w.heap.size l * A) (w.alloc (.map es clock)) := by
  obtain ⟨R, hR, h'⟩ := h.out (.map b)
  obtain ⟨es, clock, h1⟩ := MapP.open h'
  obtain ⟨hb, hm⟩ := MapE.heap h1
  exact ⟨es, clock, hb, (h.alloc _).ent (Ent.sep (Ent.of fun k hk => ⟨es, clock, hk, hm⟩) (Ent.rfl' A))⟩

/-! ### Loops by a rank that is not read off the world -/
theorem least_nat {p : Nat → Prop} (h : ∃ n, p n) : ∃ n, p n ∧ ∀ m, p m → n ≤ m := by
  obtain ⟨n, hn⟩ := h
  induction n using Nat.strongRecOn with
  | _ n ih =>
    by_cases hx : ∃ m, m < n ∧ p m
    · obtain ⟨m, hm, hp⟩ := hx
      exact ih m hm hp
    · refine ⟨n, hn, fun m hm => ?_⟩
      have : ¬ m < n := fun hlt => hx ⟨m, hlt, hm⟩
      omega
open Classical in
noncomputable def rankOf (I : Nat → FA → World → Prop) (e : FA) (w : World) : Nat := if h : ∃ n, I n e w then Classical.choose (least_nat h) else 0
theorem rank_min {I : Nat → FA → World → Prop} {e : FA} {w : World} (h : ∃ n, I n e w) : I (rankOf I e w) e w ∧ ∀ m, I m e w → rankOf I e w ≤ m := by
  unfold rankOf
  rw [dif_pos h]
  exact Classical.choose_spec (least_nat h)
theorem rank_down {I : Nat → FA → World → Prop} {e e' : FA} {w w' : World} {m : Nat} (h : I m e' w') (hm : m < rankOf I e w) : (∃ n, I n e' w') ∧ rankOf I e' w' < rankOf I e w :=
  ⟨⟨m, h⟩, Nat.lt_of_le_of_lt ((rank_min ⟨m, h⟩).2 m h) hm⟩
theorem loop_rank {P : Program} {c : Cd} {Q : Post} {e : FA} {w : World} {θ : Tag ((.loop c : Cd), Q, e, w)} (I : Nat → FA → World → Prop) (n : Nat) (h0 : I n e w)
    (h1 : ∀ e w, I (rankOf I e w) e w → cwE P c (loopP (fun e w => ∃ n, I n e w) (rankOf I) e w Q) e w) : cwE P (.loop c) Q e w θ :=
  loop_intro (fun e w => ∃ n, I n e w) (rankOf I) ⟨n, h0⟩ fun e w h => h1 e w (rank_min h).1

/-- make, of no elements, with room. -/
theorem St.make0 {P : Program} {w0 w : World} {F : HP} {t e s bs c : Nat} {zs : List Value} {K : Value → World → Prop} {θ : Tag K} (h : St w0 F w) (ht : rowTy P t = some (e, s, bs, zs)) (hc : c * s ≤ 16777216) (hcm : c ≤ 16777216) (hb : bs * c ≤ 281474976710656)
    (hK : ∀ v w', St w0 (RowO e s v 0 [] * F) w' → K v w') : semD P (kMakeSlice t (.int .i64 0) (.int .i64 c)) w K θ := by
  show semD P (Instr.makeSlice t (.int .i64 0) (.int .i64 c)) w K θ
  obtain ⟨hu, i, zv, hi, hz, hsz, hbs, hzs, hzc⟩ := rowTy_some ht
  have hb2 : (bs : Int) * c ≤ 281474976710656 := by
    have : ((bs * c : Nat) : Int) ≤ 281474976710656 := by omega
    rwa [Int.natCast_mul] at this
  have hr := run_makeSlice (P := P) (w := w) t e i zv hu hi hz .i64 .i64 0 c (by omega) (by omega) (by rw [hsz]; simp; omega) (by rw [hbs]; exact hb2) (by omega)
  simp only [Int.toNat_natCast, Int.toNat_zero, hsz] at hr
  refine ⟨_, _, hr, hK _ _ ((h.alloc _).ent (Ent.sep (Ent.of fun k hk => .inr ⟨w.heap.size, 0, c, madeCells zv.cells (c * s), rfl, hk, Nat.zero_le _, by simp only [maxLen]; omega, by simp [madeCells], by simp, by simp⟩) (Ent.rfl' F)))⟩

end Go.Proofs.YtijnmokpihhhcaaDoor

namespace Go.Proofs.YtijnmokpihhhcaaDoor
open Go
set_option linter.unusedVariables false
set_option linter.unusedSimpArgs false
set_option maxRecDepth 100000

theorem over_cells {bs d : List UInt8} {p : Nat} (h : p + d.length ≤ bs.length) : setRowL (bs.map bv) p (d.map bv) = (overF bs p d).map bv := by
  apply List.ext_getElem?
  intro j
  unfold overF
  rw [List.map_append, List.map_append, List.map_take, List.map_drop]
  rcases Nat.lt_or_ge j p with h1 | h1
  · rw [getElem?_setRowL_lt _ _ _ _ h1, List.append_assoc, List.getElem?_append_left (by simp; omega), List.getElem?_take_of_lt h1]
  · rcases Nat.lt_or_ge j (p + d.length) with h2 | h2
    · have := getElem?_setRowL_in (d.map bv) (bs.map bv) p (j - p) (by simp; omega) (by simp; omega)
      rw [show p + (j - p) = j by omega] at this
      rw [this, List.append_assoc, List.getElem?_append_right (by simp; omega), List.getElem?_append_left (by simp; omega)]
      congr 1
      simp; omega
    · rw [getElem?_setRowL_ge _ _ _ _ (by simpa using h2), List.getElem?_append_right (by simp; omega), List.getElem?_drop]
      congr 1
      simp; omega

section
variable {w0 w : World} {A : HP} {n off : Nat} {st : Int} {i : Inf} {vk vb v : Value} {P : BL} {b d : List UInt8} {e : FA} {R : Ending → World → Prop}

/-- A block among others. -/
theorem starL_at {q ba : Nat} {bs : List UInt8} (hq : P[q]? = some (some (ba, bs))) : starL BlkP P = Blk ba (.cells (bs.map bv).toArray 123 (0, 0)) * starL BlkP (P.take q ++ P.drop (q + 1)) := by
  obtain ⟨hql, hb⟩ := List.getElem?_eq_some_iff.1 hq
  have hsp : P = P.take q ++ some (ba, bs) :: P.drop (q + 1) := by
    conv => lhs; rw [← List.take_append_drop q P, List.drop_eq_getElem_cons hql, hb]
  conv => lhs; rw [hsp]
  rw [starL_split]; rfl
theorem starL_set {q ba : Nat} {bs : List UInt8} (hq : q < P.length) : starL BlkP (P.set q (some (ba, bs))) = Blk ba (.cells (bs.map bv).toArray 123 (0, 0)) * starL BlkP (P.take q ++ P.drop (q + 1)) := by
  rw [List.set_eq_take_append_cons_drop, if_pos hq, starL_split]; rfl
theorem starL_nil {q : Nat} (hq : P[q]? = some none) : Ent (starL BlkP P) (starL BlkP (P.take q ++ P.drop (q + 1))) := by
  obtain ⟨hql, hb⟩ := List.getElem?_eq_some_iff.1 hq
  have hsp : P = P.take q ++ none :: P.drop (q + 1) := by
    conv => lhs; rw [← List.take_append_drop q P, List.drop_eq_getElem_cons hql, hb]
  have : starL BlkP P = EmpH * starL BlkP (P.take q ++ P.drop (q + 1)) := by
    conv => lhs; rw [hsp]
    rw [starL_split]; rfl
  rw [this]
  exact Ent.right _ _
theorem ptrs_set {q ba : Nat} {bs cs : List UInt8} (hq : P[q]? = some (some (ba, bs))) : (P.set q (some (ba, cs))).map ptrV = P.map ptrV := by
  obtain ⟨hql, hb⟩ := List.getElem?_eq_some_iff.1 hq
  rw [List.map_set]
  apply List.ext_getElem?
  intro j
  rw [List.getElem?_set]
  split
  · rename_i e
    subst e
    rw [if_pos (by simpa using hql), List.getElem?_map, hq]
    rfl
  · rfl

section
attribute [local go_sem] F45.t9_eq F45.t10_eq F45.t7_eq
/-- The end: over what stands in the block. -/
theorem put_t12 {q ba : Nat} {bs : List UInt8} (hb : P[q]? = some (some (ba, bs))) (hbl : bs.length = 256) (hqo : q = off / 256) (hd1 : off % 256 + d.length ≤ 256) (hd2 : off + d.length ≤ 65536) (hP : P.length ≤ 256) (hlen : i.length ≤ 65536)
    [hg : Gives A (RdB v d)] (h : St w0 (NodeB n st i vk vb * (RowB vb P * (starL BlkP P * A))) w) (hd : e.ds = []) (e0 : e.ρ 0 = .pointer (some ⟨n, 0, none⟩)) (e1 : e.ρ 1 = .int .u64 off) (e2 : e.ρ 2 = v) (e7 : e.ρ 7 = .int .i64 q)
    (hR : ∀ w', St w0 (NodeB n st { i with length := max i.length (off + d.length) } vk vb * (RowB vb (P.set q (some (ba, overF bs (off % 256) d))) * (starL BlkP (P.set q (some (ba, overF bs (off % 256) d))) * A))) w' → R (.returned (.int .i64 0)) w') :
    cwE Tryd.prog F45.t12 (fnP Tryd.prog #[.tmp 6] R) e w := by
  obtain ⟨hql, hbq⟩ := List.getElem?_eq_some_iff.1 hb
  have h1 : St w0 (NodeB n st i vk vb * (RowB vb P * (Blk ba (.cells (bs.map bv).toArray 123 (0, 0)) * (starL BlkP (P.take q ++ P.drop (q + 1)) * A)))) w := by
    rw [starL_at hb] at h
    exact h.ac (by ac_rfl)
  obtain ⟨a, c, rfl, hl0, hnc, hcm⟩ := h1.rowForm vb
  obtain ⟨g, o, rfl, hc⟩ := h1.atS (a := a) (n := P.length) (c := c) (xs := P.map ptrV) (k := q) (by simpa using hql)
  rw [List.getElem_map, hbq] at hc
  simp only [ptrV] at hc
  have hrd := (h1.gives (B := RdB v d)).rd
  obtain ⟨av, cv, rfl, hvc, hvx⟩ := hrd.form
  clear hvx
  obtain ⟨p, hp⟩ : ∃ p, p = off % 256 := ⟨_, rfl⟩
  have hp1 : ((off : Int)).tmod 256 = p := by rw [Int.tmod_eq_emod_of_nonneg (by omega)]; omega
  have hmx : max i.length (off + d.length) < 18446744073709551616 := by omega
  unfold F45.t12
  simp -dsimp -implicitDefEqProofs (disch := omega) only [go_sem, reqD_of, dec_t, dec_f, wrap_i64, wrap_u32, wrap_u64, wrap_u8, hd, e0, e1, e2, e7, h1.cl n, hc, hp1]
  rw [if_neg (show ¬ 256 = p by omega)]
  refine h1.copyH (g := ba) (o := p) (dl := 256 - p) (n := d.length) (xs := d.map bv) Tryd.underlying51 (by kernel_rfl) hrd (bv_isCell d) (by simp; omega) fun w2 h2 => ?_
  rw [List.toList_toArray, List.take_of_length_le (by simp; omega), over_cells (by omega)] at h2
  simp -dsimp -implicitDefEqProofs (disch := omega) only [go_sem, reqD_of, dec_t, dec_f, wrap_i64, wrap_u32, wrap_u64, wrap_u8, hd, e0, e1, e2, e7, h2.cl n]
  have hm : (if (i.length : Int) < (off : Int) + d.length then (off : Int) + d.length else i.length) = ((max i.length (off + d.length) : Nat) : Int) := by
    split <;> omega
  rw [hm]
  refine h2.sto (b := n) (by simp) rfl fun w3 h3 => ?_
  simp only [List.setIfInBounds_toArray, List.set_cons_succ, List.set_cons_zero] at h3
  simp -dsimp -implicitDefEqProofs (disch := omega) only [go_sem, reqD_of, dec_t, dec_f, wrap_i64, wrap_u32, wrap_u64, wrap_u8, hd]
  refine hR _ ?_
  have h3 : St w0 (NodeB n st { i with length := max i.length (off + d.length) } vk (.slice (some ⟨g, o, none⟩) P.length c) * (RowB (.slice (some ⟨g, o, none⟩) P.length c) P * (Blk ba (.cells ((overF bs p d).map bv).toArray 123 (0, 0)) * (starL BlkP (P.take q ++ P.drop (q + 1)) * A)))) w3 := h3
  rw [starL_set hql, ← hp]
  show St w0 (_ * (RowO 122 1 (.slice (some ⟨g, o, none⟩) P.length c) (P.set q (some (ba, overF bs p d))).length ((P.set q (some (ba, overF bs p d))).map ptrV) * _)) w3
  rw [ptrs_set hb, List.length_set]
  exact h3.ac (by simp only [RowB]; ac_rfl)

end
section
attribute [local go_sem] F45.t9_eq F45.t7_eq
/-- The middle: a block is there, or is made. -/
theorem put_t10 {q : Nat} (hql : q < P.length) (hqo : q = off / 256) (hd1 : off % 256 + d.length ≤ 256) (hd2 : off + d.length ≤ 65536) (hP : P.length ≤ 256) (hfull : ∀ p, some p ∈ P → p.2.length = 256) (hlen : i.length ≤ 65536)
    [hg : Gives A (RdB v d)] (h : St w0 (NodeB n st i vk vb * (RowB vb P * (starL BlkP P * A))) w) (hd : e.ds = []) (e0 : e.ρ 0 = .pointer (some ⟨n, 0, none⟩)) (e1 : e.ρ 1 = .int .u64 off) (e2 : e.ρ 2 = v) (e7 : e.ρ 7 = .int .i64 q)
    (hR : ∀ w' ba bs, (P[q]? = some (some (ba, bs)) ∨ (P[q]? = some none ∧ bs = List.replicate 256 0)) → St w0 (NodeB n st { i with length := max i.length (off + d.length) } vk vb * (RowB vb (P.set q (some (ba, overF bs (off % 256) d))) * (starL BlkP (P.set q (some (ba, overF bs (off % 256) d))) * A))) w' → R (.returned (.int .i64 0)) w') :
    cwE Tryd.prog F45.t10 (fnP Tryd.prog #[.tmp 6] R) e w := by
  obtain ⟨a, c, rfl, hl0, hnc, hcm⟩ := h.rowForm vb
  obtain ⟨g, o, rfl, hc⟩ := h.atS (a := a) (n := P.length) (c := c) (xs := P.map ptrV) (k := q) (by simpa using hql)
  rw [List.getElem_map] at hc
  rw [F45.t10_eq]
  cases hb : P[q] with
  | some pb =>
    obtain ⟨ba, bs⟩ := pb
    rw [hb] at hc
    simp only [ptrV] at hc
    have hb' : P[q]? = some (some (ba, bs)) := by rw [List.getElem?_eq_getElem hql, hb]
    simp -dsimp -implicitDefEqProofs (disch := omega) only [go_sem, reqD_of, dec_t, dec_f, wrap_i64, wrap_u32, wrap_u64, wrap_u8, hd, e0, e1, e2, e7, h.cl n, hc]
    exact put_t12 (v := v) hb' (hfull (ba, bs) (List.mem_of_getElem? hb')) hqo hd1 hd2 hP hlen h (by simp -dsimp -implicitDefEqProofs only [go_sem, hd]) (by simp -dsimp -implicitDefEqProofs only [go_sem, e0]) (by simp -dsimp -implicitDefEqProofs only [go_sem, e1]) (by simp -dsimp -implicitDefEqProofs only [go_sem, e2]) (by simp -dsimp -implicitDefEqProofs only [go_sem, e7]) fun w' h' => hR w' ba bs (.inl hb') h'
  | none =>
    rw [hb] at hc
    simp only [ptrV] at hc
    have hb' : P[q]? = some none := by rw [List.getElem?_eq_getElem hql, hb]
    simp -dsimp -implicitDefEqProofs (disch := omega) only [go_sem, reqD_of, dec_t, dec_f, wrap_i64, wrap_u32, wrap_u64, wrap_u8, hd, e0, e1, e2, e7, h.cl n, hc]
    refine h.new fun B w1 h1 => ?_
    have h1 : St w0 (Blk B (.cells ((List.replicate 256 (0 : UInt8)).map bv).toArray 123 (0, 0)) * (NodeB n st i vk (.slice (some ⟨g, o, none⟩) P.length c) * (RowB (.slice (some ⟨g, o, none⟩) P.length c) P * (starL BlkP P * A)))) w1 := h1
    simp -dsimp -implicitDefEqProofs (disch := omega) only [go_sem, reqD_of, dec_t, dec_f, wrap_i64, wrap_u32, wrap_u64, wrap_u8, hd, e0, e1, e2, e7]
    refine h1.rowSet1 (g := g) (o := o) (n := P.length) (c := c) (k := q) (by simpa using hql) rfl fun w2 h2 => ?_
    simp -dsimp -implicitDefEqProofs (disch := omega) only [go_sem, reqD_of, dec_t, dec_f, wrap_i64, wrap_u32, wrap_u64, wrap_u8]
    obtain ⟨Z, hZ⟩ : ∃ Z, Z = List.replicate 256 (0 : UInt8) := ⟨_, rfl⟩
    rw [← hZ] at h2
    have hb2 : (P.set q (some (B, Z)))[q]? = some (some (B, Z)) := List.getElem?_set_self hql
    have hln : (P.set q (some (B, Z))).length = P.length := List.length_set
    have h3 : St w0 (NodeB n st i vk (.slice (some ⟨g, o, none⟩) P.length c) * (RowB (.slice (some ⟨g, o, none⟩) P.length c) (P.set q (some (B, Z))) * (starL BlkP (P.set q (some (B, Z))) * A))) w2 := by
      rw [starL_set hql]
      show St w0 (_ * (RowO 122 1 (.slice (some ⟨g, o, none⟩) P.length c) (P.set q (some (B, Z))).length ((P.set q (some (B, Z))).map ptrV) * _)) w2
      rw [hln, List.map_set]
      have h4 := h2.ent (Ent.sep (Ent.rfl' _) (Ent.sep (Ent.rfl' _) (Ent.sep (Ent.rfl' _) (Ent.sep (starL_nil hb') (Ent.rfl' A)))))
      exact h4.ac (by ac_rfl)
    refine put_t12 (v := v) (P := P.set q (some (B, Z))) (q := q) (ba := B) (bs := Z) hb2 (by rw [hZ]; exact List.length_replicate) hqo hd1 hd2 (by rw [hln]; exact hP) hlen h3 (by simp -dsimp -implicitDefEqProofs only [go_sem, hd]) (by simp -dsimp -implicitDefEqProofs only [go_sem, e0]) (by simp -dsimp -implicitDefEqProofs only [go_sem, e1]) (by simp -dsimp -implicitDefEqProofs only [go_sem, e2]) (by simp -dsimp -implicitDefEqProofs only [go_sem, e7]) fun w' h' => ?_
    rw [List.set_set] at h'
    exact hR w' B Z (.inr ⟨hb', hZ⟩) h'

def PutI (w0 : World) (A : HP) (n off q : Nat) (st : Int) (i : Inf) (vk v : Value) (P : BL) (m : Nat) (e : FA) (w' : World) : Prop :=
  e.ds = [] ∧ e.ρ 0 = .pointer (some ⟨n, 0, none⟩) ∧ e.ρ 1 = .int .u64 off ∧ e.ρ 2 = v ∧ e.ρ 7 = .int .i64 q ∧ ∃ k vb', k + P.length ≤ max P.length (q + 1) ∧ m = q + 1 - (P.length + k) ∧
      St w0 (NodeB n st i vk vb' * (RowB vb' (P ++ List.replicate k none) * (starL BlkP (P ++ List.replicate k none) * A))) w'

end
section
attribute [local go_sem] F45.t9_eq F45.t12_eq
theorem put_any (hi : i.mode < 4294967296) (hlen : i.length ≤ 65536) (ok : BlksOk P b) (hoff : off < 18446744073709551616) (hdl : d.length ≤ 4294967296) [hg : Gives A (RdB v d)] (h : St w0 (NodeB n st i vk vb * (BlksP vb P * A)) w) :
    Calls Tryd.prog 45 #[.pointer (some ⟨n, 0, none⟩), .int .u64 off, v] w (BytesR w0 A n st i vk vb P (bytesF off d ⟨i, b⟩)) := by
  refine F45.calls (by simp) ?_
  unfold F45.code
  have bd := bDir (P := Tryd.prog) (T := 29) hi
  cases hd : dirF i.mode
  case true =>
    have hr : bytesF off d ⟨i, b⟩ = .error 81 := by simp [bytesF, hd]
    rw [hr]
    simp only [hd, if_true] at bd
    simp -dsimp -implicitDefEqProofs (disch := omega) only [go_sem, reqD_of, dec_t, dec_f, wrap_i64, wrap_u32, wrap_u64, wrap_u8, h.cl n, bd]
    exact ⟨h, rfl⟩
  simp only [hd, if_false, Bool.false_eq_true] at bd
  obtain ⟨av, cv, rfl, hvc, hvx⟩ := (h.gives (B := RdB v d)).rd.form
  clear hvx
  by_cases c0 : (d.length : Int) = 0
  · have hr : bytesF off d ⟨i, b⟩ = .error 84 := by
      unfold bytesF
      rw [if_neg (by simp [hd]), if_pos (.inl (List.eq_nil_of_length_eq_zero (by omega)))]
    rw [hr]
    simp -dsimp -implicitDefEqProofs (disch := omega) only [go_sem, reqD_of, dec_t, dec_f, wrap_i64, wrap_u32, wrap_u64, wrap_u8, h.cl n, bd, c0]
    exact ⟨h, rfl⟩
  obtain ⟨p, hp⟩ : ∃ p, p = off % 256 := ⟨_, rfl⟩
  have hp1 : IntKind.i64.wrap ((off : Int).tmod 256) = p := by
    rw [Int.tmod_eq_emod_of_nonneg (by omega), wrap_i64 (by omega) (by omega)]
    omega
  by_cases c1 : (256 - p : Int) < (d.length : Int)
  · have hr : bytesF off d ⟨i, b⟩ = .error 84 := by
      unfold bytesF
      rw [if_neg (by simp [hd]), if_pos (.inr (by omega))]
    rw [hr]
    simp -dsimp -implicitDefEqProofs (disch := omega) only [go_sem, reqD_of, dec_t, dec_f, wrap_i64, wrap_u32, wrap_u64, wrap_u8, h.cl n, bd, c0, hp1, c1]
    exact ⟨h, rfl⟩
  have hdn : ¬ (d = [] ∨ 256 < off % 256 + d.length) := by
    rintro (h | h)
    · subst h; exact c0 rfl
    · omega
  by_cases c2 : (65536 - (d.length : Int)) < (off : Int)
  · have hr : bytesF off d ⟨i, b⟩ = .error 86 := by
      unfold bytesF
      rw [if_neg (by simp [hd]), if_neg hdn, if_pos (by omega)]
    rw [hr]
    simp -dsimp -implicitDefEqProofs (disch := omega) only [go_sem, reqD_of, dec_t, dec_f, wrap_i64, wrap_u32, wrap_u64, wrap_u8, h.cl n, bd, c0, hp1, c1, c2]
    exact ⟨h, rfl⟩
  have hr : bytesF off d ⟨i, b⟩ = .ok ⟨{ i with length := max i.length (off + d.length) }, layF b off d⟩ := by
    unfold bytesF
    rw [if_neg (by simp [hd]), if_neg hdn, if_neg (by omega)]
  rw [hr]
  simp -dsimp -implicitDefEqProofs (disch := omega) only [go_sem, reqD_of, dec_t, dec_f, wrap_i64, wrap_u32, wrap_u64, wrap_u8, h.cl n, bd, c0, hp1, c1, c2]
  rw [F45.t7_eq]
  obtain ⟨q, hq⟩ : ∃ q, q = off / 256 := ⟨_, rfl⟩
  have hq1 : IntKind.i64.wrap (IntKind.u64.wrap ((off : Int).tdiv 256)) = q := by
    rw [Int.tdiv_eq_ediv_of_nonneg (by omega), wrap_u64 (by omega) (by omega), wrap_i64 (by omega) (by omega)]
    omega
  have few := ok.few
  have h0 : St w0 (NodeB n st i vk vb * (RowB vb P * (starL BlkP P * A))) w := h.ac (by unfold BlksP; ac_rfl)
  simp -dsimp -implicitDefEqProofs (disch := omega) only [go_sem, reqD_of, dec_t, dec_f, wrap_i64, wrap_u32, wrap_u64, wrap_u8, hq1]
  refine loop_rank (PutI w0 A n off q st i vk (.slice av d.length cv) P) (q + 1 - P.length) ?_ ?_
  · exact ⟨by simp -dsimp -implicitDefEqProofs only [go_sem], by simp -dsimp -implicitDefEqProofs only [go_sem], by simp -dsimp -implicitDefEqProofs only [go_sem], by simp -dsimp -implicitDefEqProofs only [go_sem], by simp -dsimp -implicitDefEqProofs only [go_sem], 0, vb, by omega, by omega, by simpa using h0⟩
  clear h h0
  rintro e w ⟨hd, e0, e1, e2, e7, k, vb', hk, hm, h⟩
  obtain ⟨Q, hQ⟩ : ∃ Q, Q = P ++ List.replicate k (none : Option (Nat × List UInt8)) := ⟨_, rfl⟩
  rw [← hQ] at h
  have hlk : Q.length = P.length + k := by rw [hQ]; simp
  have hQfull : ∀ p, some p ∈ Q → p.2.length = 256 := fun p hp => by
    rw [hQ] at hp
    rcases List.mem_append.1 hp with h | h
    · exact ok.full p h
    · cases (List.mem_replicate.1 h).2
  obtain ⟨a, c, rfl, hl0, hnc, hcm⟩ := h.rowForm vb'
  by_cases hlt : (Q.length : Int) ≤ (q : Int)
  · simp -dsimp -implicitDefEqProofs (disch := omega) only [go_sem, reqD_of, dec_t, dec_f, wrap_i64, wrap_u32, wrap_u64, wrap_u8, hd, e0, e1, e2, e7, h.cl n, hlt]
    refine h.lit (t := 90) (n := 1) (cells := [.pointer none]) rowTy_blks rfl (by decide) (by decide) fun v2 w2 h2 => ?_
    obtain ⟨a2, c2, rfl, _⟩ := h2.rowForm v2
    simp -dsimp -implicitDefEqProofs (disch := omega) only [go_sem, reqD_of, dec_t, dec_f, wrap_i64, wrap_u32, wrap_u64, wrap_u8, hd, e0, e1, e2, e7, h2.cl n]
    refine h2.appR (v := .slice a Q.length c) (x := .slice a2 1 c2) rowTy_blks Tryd.underlying90 (fun u hu => by simp at hu; subst hu; rfl) (by simp) (show _ ≤ 9223372036854775807 by omega) (by omega) fun v3 w3 h3 => ?_
    obtain ⟨a3, c3, rfl, _⟩ := h3.rowForm v3
    simp -dsimp -implicitDefEqProofs (disch := omega) only [go_sem, reqD_of, dec_t, dec_f, wrap_i64, wrap_u32, wrap_u64, wrap_u8, hd, e0, e1, e2, e7, h3.cl n]
    refine h3.sto (b := n) (by simp) rfl fun w4 h4 => ?_
    simp only [List.setIfInBounds_toArray, List.set_cons_succ, List.set_cons_zero] at h4
    simp -dsimp -implicitDefEqProofs (disch := omega) only [go_sem, reqD_of, dec_t, dec_f, wrap_i64, wrap_u32, wrap_u64, wrap_u8]
    have hQ2 : Q ++ [none] = P ++ List.replicate (k + 1) none := by rw [hQ, List.append_assoc, List.replicate_succ']
    have h5 : St w0 (NodeB n st i vk (.slice a3 (Q.length + 1) c3) * (RowB (.slice a3 (Q.length + 1) c3) (Q ++ [none]) * (starL BlkP (Q ++ [none]) * A))) w4 := by
      have : starL BlkP (Q ++ [none]) = EmpH * starL BlkP Q := by rw [starL_split, List.append_nil]; rfl
      rw [this]
      show St w0 (_ * (RowO _ 1 _ (Q ++ [none]).length ((Q ++ [none]).map ptrV) * _)) w4
      rw [List.length_append, List.map_append]
      have h6 := h4.right.ent (Ent.embL _)
      exact h6.ac (by show EmpH * (NodeB n st i vk (.slice a3 (Q.length + 1) c3) * (RowO _ 1 _ (Q.length + 1) (Q.map ptrV ++ [.pointer none]) * (starL BlkP Q * A))) = _; simp only [List.length_cons, List.length_nil, List.map_cons, List.map_nil, ptrV, Nat.zero_add]; ac_rfl)
    rw [hQ2] at h5
    refine rank_down (m := q + 1 - (P.length + (k + 1))) ⟨by simp -dsimp -implicitDefEqProofs only [go_sem, hd], by simp -dsimp -implicitDefEqProofs only [go_sem, e0], by simp -dsimp -implicitDefEqProofs only [go_sem, e1], by simp -dsimp -implicitDefEqProofs only [go_sem, e2], by simp -dsimp -implicitDefEqProofs only [go_sem, e7], k + 1, _, by omega, rfl, h5⟩ ?_
    rw [hm]
    omega
  · simp -dsimp -implicitDefEqProofs (disch := omega) only [go_sem, reqD_of, dec_t, dec_f, wrap_i64, wrap_u32, wrap_u64, wrap_u8, hd, e0, e1, e2, e7, h.cl n, hlt]
    have hql : q < Q.length := by omega
    have hl2 : Q.length ≤ 256 := by omega
    refine put_t10 (v := .slice av d.length cv) (d := d) (P := Q) hql hq (by omega) (by omega) hl2 hQfull hlen h (by simp -dsimp -implicitDefEqProofs only [go_sem, hd]) (by simp -dsimp -implicitDefEqProofs only [go_sem, e0]) (by simp -dsimp -implicitDefEqProofs only [go_sem, e1]) (by simp -dsimp -implicitDefEqProofs only [go_sem, e2]) (by simp -dsimp -implicitDefEqProofs only [go_sem, e7]) fun w' ba bs hb h' => ?_
    refine ⟨_, _, ?_, h'.ac (by unfold BlksP; ac_rfl), rfl⟩
    rw [hQ, hq] at hb hql ⊢
    rw [hQ] at hl2
    have hk0 : P[off / 256]? = some (some (ba, bs)) ∨ (P ++ List.replicate k none)[off / 256]? = some none ∧ bs = List.replicate 256 0 := by
      rcases hb with hb | hb
      · left
        rcases Nat.lt_or_ge (off / 256) P.length with h1 | h1
        · rwa [List.getElem?_append_left h1] at hb
        · rw [List.getElem?_append_right h1, List.getElem?_replicate] at hb
          split at hb <;> cases hb
      · exact .inr hb
    exact ok.lay (by omega) (fun h => hdn (.inl h)) (by omega) hql hl2 hk0
end
end
end Go.Proofs.YtijnmokpihhhcaaDoor

namespace Go.Proofs.YtijnmokpihhhcaaDoor
open Go
set_option linter.unusedVariables false
set_option linter.unusedSimpArgs false
set_option maxRecDepth 100000

/-- make, of elements of one cell; the length is of whatever kind. -/
theorem makeK_of {P : Program} {w0 w : World} {F : HP} {t e bs n : Nat} {z : Value} {k1 k2 : IntKind} {K : Value → World → Prop} {θ : Tag K} (h : St w0 F w) (ht : rowTy P t = some (e, 1, bs, [z])) (hc : n ≤ 16777216) (hb : bs * n ≤ 281474976710656)
    (hK : ∀ b w', St w0 (RowO e 1 (.slice (some ⟨b, 0, none⟩) n n) n (List.replicate n z) * F) w' → K (.slice (some ⟨b, 0, none⟩) n n) w') : semD P (kMakeSlice t (.int k1 n) (.int k2 n)) w K θ := by
  show semD P (Instr.makeSlice t (.int k1 n) (.int k2 n)) w K θ
  obtain ⟨hu, i, zv, hi, hz, hsz, hbs, hzs, hzc⟩ := rowTy_some ht
  have hb2 : (bs : Int) * n ≤ 281474976710656 := by
    have : ((bs * n : Nat) : Int) ≤ 281474976710656 := by omega
    rwa [Int.natCast_mul] at this
  have hr := run_makeSlice (P := P) (w := w) t e i zv hu hi hz k1 k2 n n (by omega) (by omega) (by rw [hsz]; simp; omega) (by rw [hbs]; exact hb2) (by omega)
  simp only [Int.toNat_natCast, hsz, Nat.mul_one] at hr
  have hcells : madeCells zv.cells n = (List.replicate n z).toArray := by
    have hz1 : zv.cells = #[z] := Array.ext' (by rw [hzc])
    rw [hz1]
    apply Array.ext'
    simp only [madeCells]
    apply List.ext_getElem
    · simp
    · intro j h1 h2
      simp [Nat.mod_one]
  rw [hcells] at hr
  refine ⟨_, _, hr, hK _ _ ((h.alloc _).ent (Ent.sep (Ent.of fun k hk => .inr ⟨w.heap.size, 0, n, (List.replicate n z).toArray, rfl, hk, Nat.le_refl n, by simp only [maxLen]; omega, by simp, ?_, by simp⟩) (Ent.rfl' F)))⟩
  simp only [List.drop_zero, Nat.mul_one, List.take_replicate, Nat.min_self]

abbrev RowBy (v : Value) (l : List UInt8) : HP := RowO 5 1 v l.length (l.map bv)

/-- So far it is read, the rest is noughts. -/
def soFar (T : List UInt8) (got : Nat) : List UInt8 := T.take got ++ List.replicate (T.length - got) 0
theorem soFar_len {T : List UInt8} {got : Nat} (h : got ≤ T.length) : (soFar T got).length = T.length := by simp [soFar]; omega
theorem soFar_all {T : List UInt8} : soFar T T.length = T := by simp [soFar]
theorem soFar_get {T : List UInt8} {got j : Nat} (h : got ≤ T.length) (hj : j < T.length) : (soFar T got)[j]? = some (if j < got then T.getD j 0 else 0) := by
  unfold soFar
  rcases Nat.lt_or_ge j got with h1 | h1
  · rw [List.getElem?_append_left (by simp; omega), List.getElem?_take_of_lt h1, if_pos h1, List.getElem?_eq_getElem hj, List.getD_eq_getElem?_getD, List.getElem?_eq_getElem hj]; rfl
  · rw [List.getElem?_append_right (by simp; omega), List.getElem?_replicate, if_pos (by simp; omega), if_neg (by omega)]
/-- A step over a block that is there. -/
theorem soFar_step {T ys : List UInt8} {got step : Nat} (h : got + step ≤ T.length) (hy : ∀ j, j < step → ys.getD j 0 = T.getD (got + j) 0) (hyl : step ≤ ys.length) :
    setRowL ((soFar T got).map bv) got ((ys.map bv).take step) = (soFar T (got + step)).map bv := by
  have hl1 := soFar_len (T := T) (got := got) (by omega)
  have hl2 := soFar_len (T := T) (got := got + step) h
  have hlt : ((ys.map bv).take step).length = step := by simp; omega
  apply List.ext_getElem?
  intro j
  rcases Nat.lt_or_ge j T.length with hj | hj
  · rw [List.getElem?_map, soFar_get h hj]
    rcases Nat.lt_or_ge j got with h1 | h1
    · rw [getElem?_setRowL_lt _ _ _ _ h1, List.getElem?_map, soFar_get (by omega) hj, if_pos h1, if_pos (by omega)]
    · rcases Nat.lt_or_ge j (got + step) with h2 | h2
      · have := getElem?_setRowL_in ((ys.map bv).take step) ((soFar T got).map bv) got (j - got) (by omega) (by rw [hlt, List.length_map, hl1]; exact h)
        rw [show got + (j - got) = j by omega] at this
        rw [this, List.getElem?_take_of_lt (by omega), List.getElem?_map, if_pos h2]
        have hyj := hy (j - got) (by omega)
        rw [show got + (j - got) = j by omega] at hyj
        rw [← hyj, List.getD_eq_getElem?_getD, List.getElem?_eq_getElem (by omega)]
        rfl
      · rw [getElem?_setRowL_ge _ _ _ _ (by rw [hlt]; omega), List.getElem?_map, soFar_get (by omega) hj, if_neg (by omega), if_neg (by omega)]
  · rw [List.getElem?_eq_none (by rw [length_setRowL, List.length_map, hl1]; exact hj), List.getElem?_eq_none (by rw [List.length_map, hl2]; exact hj)]
/-- A step over noughts. -/
theorem soFar_skip {T : List UInt8} {got step : Nat} (h : got + step ≤ T.length) (hz : ∀ j, j < step → T.getD (got + j) 0 = 0) : soFar T got = soFar T (got + step) := by
  have hl1 := soFar_len (T := T) (got := got) (by omega)
  have hl2 := soFar_len (T := T) (got := got + step) h
  apply List.ext_getElem?
  intro j
  rcases Nat.lt_or_ge j T.length with hj | hj
  · rw [soFar_get (by omega) hj, soFar_get h hj]
    rcases Nat.lt_or_ge j got with h1 | h1
    · rw [if_pos h1, if_pos (by omega)]
    · rcases Nat.lt_or_ge j (got + step) with h2 | h2
      · have := hz (j - got) (by omega)
        rw [show got + (j - got) = j by omega] at this
        rw [if_neg (by omega), if_pos h2, this]
      · rw [if_neg (by omega), if_neg (by omega)]
  · rw [List.getElem?_eq_none (by omega), List.getElem?_eq_none (by omega)]

section
variable {w0 w : World} {A : HP} {n off : Nat} {k st : Int} {i : Inf} {vk vb v : Value} {P : BL} {b : List UInt8} {e : FA} {R : Ending → World → Prop}

section
attribute [local go_sem] F47.t11_eq F47.t6_eq F47.t12_eq F47.t3_eq
theorem read_any (hlen : i.length = b.length) (few : b.length ≤ 65536) (ok : BlksOk P b) (hoff : off < 18446744073709551616) (hk : -9223372036854775808 ≤ k ∧ k ≤ 9223372036854775807) (h : St w0 (NodeB n st i vk vb * (BlksP vb P * A)) w) :
    Calls Tryd.prog 47 #[.pointer (some ⟨n, 0, none⟩), .int .u64 off, .int .i64 k] w fun e w' => ∃ v', St w0 (RowBy v' (readF ⟨i, b⟩ off k) * (NodeB n st i vk vb * (BlksP vb P * A))) w' ∧ e = .returned v' := by
  refine F47.calls (by simp) ?_
  unfold F47.code
  by_cases h0 : k ≤ 0
  · have hr : readF ⟨i, b⟩ off k = [] := by simp [readF, h0]
    rw [hr]
    simp -dsimp -implicitDefEqProofs (disch := omega) only [go_sem, reqD_of, dec_t, dec_f, wrap_i64, wrap_u32, wrap_u64, wrap_u8, h0]
    exact ⟨_, h.nilR _ _, rfl⟩
  by_cases h1 : (i.length : Int) ≤ (off : Int)
  · have hr : readF ⟨i, b⟩ off k = [] := by
      unfold readF
      rw [if_neg h0, List.drop_of_length_le (by simp; omega), List.take_nil]
    rw [hr]
    simp -dsimp -implicitDefEqProofs (disch := omega) only [go_sem, reqD_of, dec_t, dec_f, wrap_i64, wrap_u32, wrap_u64, wrap_u8, h0, h.cl n, h1]
    exact ⟨_, h.nilR _ _, rfl⟩
  simp -dsimp -implicitDefEqProofs (disch := omega) only [go_sem, reqD_of, dec_t, dec_f, wrap_i64, wrap_u32, wrap_u64, wrap_u8, h0, h.cl n, h1]
  obtain ⟨T, hT⟩ : ∃ T, T = readF ⟨i, b⟩ off k := ⟨_, rfl⟩
  have hTe : T = (b.drop off).take k.toNat := by rw [hT]; unfold readF; rw [if_neg h0]
  have hTg : ∀ j, j < T.length → T.getD j 0 = b.getD (off + j) 0 := fun j hj => by
    rw [hTe] at hj ⊢
    simp only [List.length_take, List.length_drop] at hj
    simp only [List.getD_eq_getElem?_getD]
    rw [List.getElem?_take_of_lt (by omega), List.getElem?_drop]
  have hTl : T.length = min k.toNat (b.length - off) := by rw [hTe, List.length_take, List.length_drop]
  obtain ⟨N, hNl⟩ : ∃ N, N = T.length := ⟨_, rfl⟩
  have hN : (if (i.length : Int) - off < k then (i.length : Int) - off else k) = (N : Int) := by split <;> omega
  rw [hN, ← hT]
  refine makeK_of h (n := N) rowTy_bytes (by omega) (by omega) fun g w1 h1 => ?_
  simp -dsimp -implicitDefEqProofs (disch := omega) only [go_sem, reqD_of, dec_t, dec_f, wrap_i64, wrap_u32, wrap_u64, wrap_u8]
  refine loop_intro (fun e w' => e.ds = [] ∧ e.ρ 0 = .pointer (some ⟨n, 0, none⟩) ∧ e.ρ 1 = .int .u64 off ∧ e.ρ 7 = .slice (some ⟨g, 0, none⟩) N N ∧ ∃ got : Nat, got ≤ N ∧ e.ρ 8 = .int .i64 got ∧
      St w0 (RowO 5 1 (.slice (some ⟨g, 0, none⟩) N N) N ((soFar T got).map bv) * (NodeB n st i vk vb * (BlksP vb P * A))) w')
    (fun e _ => match e.ρ 8 with | .int _ x => (N - x).toNat | _ => 0) ?_ ?_
  · refine ⟨by simp -dsimp -implicitDefEqProofs only [go_sem], by simp -dsimp -implicitDefEqProofs only [go_sem], by simp -dsimp -implicitDefEqProofs only [go_sem], by simp -dsimp -implicitDefEqProofs only [go_sem], 0, by omega, by simp -dsimp -implicitDefEqProofs only [go_sem], ?_⟩
    have : (soFar T 0).map bv = List.replicate N (.int .u8 0) := by
      unfold soFar
      rw [List.take_zero, List.nil_append, Nat.sub_zero, List.map_replicate, ← hNl]; rfl
    rw [this]
    exact h1
  clear h1 h
  rintro e w ⟨hd, e0, e1, e7, got, hgot, e8, h⟩
  by_cases hlt : (got : Int) < (N : Int)
  case neg =>
    have : got = N := by omega
    subst this
    simp -dsimp -implicitDefEqProofs (disch := omega) only [go_sem, reqD_of, dec_t, dec_f, wrap_i64, wrap_u32, wrap_u64, wrap_u8, hd, e0, e1, e7, e8, hlt]
    refine ⟨_, ?_, rfl⟩
    rw [hNl, soFar_all] at h
    show St w0 (RowO _ 1 _ T.length (T.map bv) * _) w
    rw [hNl]
    exact h
  obtain ⟨q, hq⟩ : ∃ q, q = (off + got) / 256 := ⟨_, rfl⟩
  obtain ⟨p, hp⟩ : ∃ p, p = (off + got) % 256 := ⟨_, rfl⟩
  have hq1 : IntKind.i64.wrap (IntKind.u64.wrap (((off : Int) + got).tdiv 256)) = q := by
    rw [Int.tdiv_eq_ediv_of_nonneg (by omega), wrap_u64 (by omega) (by omega), wrap_i64 (by omega) (by omega)]
    omega
  have hp1 : IntKind.i64.wrap (((off : Int) + got).tmod 256) = p := by
    rw [Int.tmod_eq_emod_of_nonneg (by omega), wrap_i64 (by omega) (by omega)]
    omega
  obtain ⟨sp, hsp⟩ : ∃ sp, sp = min (N - got) (256 - p) := ⟨_, rfl⟩
  have hs1 : (if (256 : Int) - p < (N : Int) - got then (256 : Int) - p else (N : Int) - got) = sp := by split <;> omega
  have hsl : got + sp ≤ T.length := by omega
  have hs0 : 0 < sp := by omega
  have hat : ∀ j, j < sp → byteAt P (off + got + j) = T.getD (got + j) 0 := fun j hj => by
    rw [ok.at_ _ (by omega), hTg _ (by omega), Nat.add_assoc]
  have h0 : St w0 (RowO 5 1 (.slice (some ⟨g, 0, none⟩) N N) N ((soFar T got).map bv) * (NodeB n st i vk vb * (RowB vb P * (starL BlkP P * A)))) w := h.ac (by unfold BlksP; ac_rfl)
  obtain ⟨a, c, rfl, hl0, hnc, hcm⟩ := h0.rowForm vb
  by_cases c1 : (q : Int) < (P.length : Int)
  case neg =>
    have hz : ∀ j, j < sp → T.getD (got + j) 0 = 0 := fun j hj => by rw [← hat j hj, byteAt_none (by omega)]
    simp -dsimp -implicitDefEqProofs (disch := omega) only [go_sem, reqD_of, dec_t, dec_f, wrap_i64, wrap_u32, wrap_u64, wrap_u8, hd, e0, e1, e7, e8, hlt, hq1, hp1, hs1, h0.cl n, c1]
    refine ⟨⟨got + sp, by omega, by omega, ?_⟩, by omega⟩
    rw [← soFar_skip hsl hz]
    exact h
  have hql : q < P.length := by omega
  obtain ⟨f, o, rfl, hc⟩ := h0.atS (a := a) (n := P.length) (c := c) (xs := P.map ptrV) (k := q) (by simpa using hql)
  rw [List.getElem_map] at hc
  cases hb : P[q] with
  | none =>
    rw [hb] at hc
    simp only [ptrV] at hc
    have hb' : P[q]? = some none := by rw [List.getElem?_eq_getElem hql, hb]
    have hz : ∀ j, j < sp → T.getD (got + j) 0 = 0 := fun j hj => by rw [← hat j hj, byteAt_nil hb' (by omega)]
    simp -dsimp -implicitDefEqProofs (disch := omega) only [go_sem, reqD_of, dec_t, dec_f, wrap_i64, wrap_u32, wrap_u64, wrap_u8, hd, e0, e1, e7, e8, hlt, hq1, hp1, hs1, h0.cl n, c1, hc]
    refine ⟨⟨got + sp, by omega, by omega, ?_⟩, by omega⟩
    rw [← soFar_skip hsl hz]
    exact h
  | some pb =>
    obtain ⟨ba, bs⟩ := pb
    rw [hb] at hc
    simp only [ptrV] at hc
    have hb' : P[q]? = some (some (ba, bs)) := by rw [List.getElem?_eq_getElem hql, hb]
    have hbl : bs.length = 256 := ok.full (ba, bs) (List.mem_of_getElem? hb')
    have hd1 := h0.drew.cl n
    have hcd : w.drew.cell? ⟨f, o + q, none⟩ = some (.pointer (some ⟨ba, 0, none⟩)) := hc
    simp -dsimp -implicitDefEqProofs (disch := omega) only [go_sem, reqD_of, dec_t, dec_f, wrap_i64, wrap_u32, wrap_u64, wrap_u8, hd, e0, e1, e7, e8, hlt, hq1, hp1, hs1, h0.cl n, c1, hc, hd1, hcd]
    have hN1 : ¬ N = got := by omega
    have hz : ((got : Int) + sp).toNat - got = sp := by omega
    have hg0 : (some (⟨g, got, none⟩ : Addr)) = some ⟨g, 0 + got, none⟩ := by rw [Nat.zero_add]
    rw [if_neg (show ¬ 256 = p by omega), if_neg hN1, hz, hg0]
    have h1 : St w0 (RowO 5 1 (.slice (some ⟨g, 0, none⟩) N N) N ((soFar T got).map bv) * (NodeB n st i vk (.slice (some ⟨f, o, none⟩) P.length c) * (RowB (.slice (some ⟨f, o, none⟩) P.length c) P * (Blk ba (.cells (bs.map bv).toArray 123 (0, 0)) * (starL BlkP (P.take q ++ P.drop (q + 1)) * A))))) w.drew := by
      have h1 := h0.drew
      rw [starL_at hb'] at h1
      exact h1.ac (by ac_rfl)
    have hrd : Rd 1 (.slice (some ⟨ba, p, none⟩) (256 - p) (256 - p)) (256 - p) ((bs.drop p).map bv) w.drew := by
      refine ⟨by simp; omega, _, _, rfl, Nat.le_refl _, .inr ⟨ba, p, rfl, fun j hj => ?_⟩⟩
      rw [h1.cl ba, List.getElem?_toArray, List.map_drop, List.getElem?_drop]
    have hys : ∀ j, j < sp → (bs.drop p).getD j 0 = T.getD (got + j) 0 := fun j hj => by
      rw [← hat j hj, byteAt_some hb' (by omega), List.getD_eq_getElem?_getD, List.getElem?_drop, List.getD_eq_getElem?_getD]
      congr 2
      omega
    refine h1.copyRow (g := g) (o := 0) (k := got) (n := N) (c := N) (dl := sp) (m := 256 - p) (ys := (bs.drop p).map bv) Tryd.underlying51 (by kernel_rfl) hrd (bv_isCell _) (by omega) fun w2 h2 => ?_
    rw [soFar_step hsl hys (by simp; omega)] at h2
    have hd2 := h2.cl n
    have hcd2 : w2.cell? ⟨f, o + q, none⟩ = some (.pointer (some ⟨ba, 0, none⟩)) := by
      obtain ⟨f', o', e1, h3⟩ := h2.atS (a := some ⟨f, o, none⟩) (n := P.length) (c := c) (xs := P.map ptrV) (k := q) (by simpa using hql)
      cases e1
      rw [h3, List.getElem_map, hb]; rfl
    simp -dsimp -implicitDefEqProofs (disch := omega) only [go_sem, reqD_of, dec_t, dec_f, wrap_i64, wrap_u32, wrap_u64, wrap_u8, hd, e0, e1, e7, e8, hlt, hq1, hp1, hs1, hd2, hcd2]
    refine ⟨⟨got + sp, by omega, by omega, ?_⟩, by omega⟩
    unfold BlksP
    rw [starL_at hb']
    exact h2.ac (by ac_rfl)
end
end
end Go.Proofs.YtijnmokpihhhcaaDoor

namespace Go.Proofs.YtijnmokpihhhcaaDoor
open Go
set_option linter.unusedVariables false
set_option linter.unusedSimpArgs false
set_option maxRecDepth 100000

theorem find_map_congr {α β γ : Type} {f : α → β} {p : β → Bool} {p' : α → Bool} {g : β → γ} {g' : α → γ} : ∀ {L : List α}, (∀ x ∈ L, p (f x) = p' x ∧ g (f x) = g' x) → ((L.map f).find? p).map g = (L.find? p').map g'
  | [], _ => rfl
  | x :: L, h => by
    obtain ⟨h1, h2⟩ := h x List.mem_cons_self
    simp only [List.map_cons, List.find?, h1]
    cases p' x
    · exact find_map_congr fun y hy => h y (List.mem_cons_of_mem _ hy)
    · simp only [Option.map_some, h2]

section
variable {s : SD} {d d' : NodeD} {p : Nat}
theorem upd_at (hr : s.L.Pairwise fun a b => a.i.path < b.i.path) (hd : d ∈ s.L) (hp : d.i.path = p) {x : NodeD} (hx : x ∈ s.L) : (x = d ∧ (if x.i.path = p then d' else x) = d') ∨ (if x.i.path = p then d' else x) = x := by
  by_cases e : x.i.path = p
  · rw [if_pos e]; exact .inl ⟨rise_inj hr hx hd (by rw [e, hp]), rfl⟩
  · rw [if_neg e]; exact .inr rfl
theorem kids_upd (hr : s.L.Pairwise fun a b => a.i.path < b.i.path) (hd : d ∈ s.L) (hp : d.i.path = p) (k : Keeps d d') (q : Nat) : kidsF (updN s.L p fun _ => d') q = kidsF s.L q := by
  have key : ∀ x ∈ s.L, isKid q (if x.i.path = p then d' else x) = isKid q x ∧ (if x.i.path = p then d' else x).i.path = x.i.path := fun x hx => by
    rcases upd_at (d' := d') hr hd hp hx with ⟨rfl, e⟩ | e
    · rw [e]; exact ⟨by unfold isKid; rw [k.path, k.parent], k.path⟩
    · rw [e]; exact ⟨rfl, rfl⟩
  unfold kidsF updN
  rw [List.filter_map, List.map_map]
  have h1 : s.L.filter ((isKid q) ∘ fun n => if n.i.path = p then d' else n) = s.L.filter (isKid q) := List.filter_congr fun x hx => (key x hx).1
  rw [h1]
  exact List.map_congr_left fun x hx => (key x (List.mem_filter.1 hx).1).2
theorem child_upd (hr : s.L.Pairwise fun a b => a.i.path < b.i.path) (hd : d ∈ s.L) (hp : d.i.path = p) (k : Keeps d d') (hn : d'.i.name = d.i.name) (q : Nat) (nm : List UInt8) : childF (updN s.L p fun _ => d') q nm = childF s.L q nm := by
  unfold childF updN
  refine find_map_congr fun x hx => ?_
  rcases upd_at (d' := d') hr hd hp hx with ⟨rfl, e⟩ | e
  · rw [e]; exact ⟨by unfold isKid; rw [k.path, k.parent, hn], k.path⟩
  · rw [e]; exact ⟨rfl, rfl⟩
end

/-- One node is changed, and stays where it is: all but the names. -/
theorem upd_parts {s : SD} {y : SX} (ok : StoreOk s y) {X1 X2 : List NN} {x x' : NN} {p : Nat} (hs : y.X = X1 ++ x :: X2) (hp : x.d.i.path = p) (k : Keeps x.d x'.d) (hks : x'.ks = x.ks) (hb : BlksOk x'.P x'.d.b) :
    ((X1 ++ x' :: X2).map (·.d)).Perm (updN s.L p fun _ => x'.d) ∧ (∀ z ∈ X1 ++ x' :: X2, z.ks = kidsF (updN s.L p fun _ => x'.d) z.d.i.path) ∧ (∀ z ∈ X1 ++ x' :: X2, BlksOk z.P z.d.b) := by
  have hx : x ∈ y.X := by rw [hs]; simp
  have hd : x.d ∈ s.L := ok.perm.mem_iff.1 (List.mem_map.2 ⟨x, hx, rfl⟩)
  have hnd := ok.paths
  rw [hs, List.map_append, List.map_cons, List.nodup_append] at hnd
  obtain ⟨_, h2, h3⟩ := hnd
  rw [List.nodup_cons] at h2
  have hx1 : ∀ z ∈ X1, z.d.i.path ≠ p := fun z hz e => h3 _ (List.mem_map.2 ⟨z, hz, rfl⟩) _ List.mem_cons_self (by rw [e, hp])
  have hx2 : ∀ z ∈ X2, z.d.i.path ≠ p := fun z hz e => h2.1 (List.mem_map.2 ⟨z, hz, by rw [e, hp]⟩)
  have hpar : ∀ z ∈ X1 ++ x' :: X2, z = x' ∨ (z ∈ y.X) := fun z hz => by
    rw [hs]
    rcases List.mem_append.1 hz with h | h
    · exact .inr (by simp [h])
    · rcases List.mem_cons.1 h with h | h
      · exact .inl h
      · exact .inr (by simp [h])
  refine ⟨?_, fun z hz => ?_, fun z hz => ?_⟩
  · have h4 := ok.perm.map (fun n => if n.i.path = p then x'.d else n)
    have h5 : (y.X.map (·.d)).map (fun n => if n.i.path = p then x'.d else n) = (X1 ++ x' :: X2).map (·.d) := by
      rw [hs]
      simp only [List.map_append, List.map_cons, List.map_map]
      rw [if_pos hp]
      congr 1
      · exact List.map_congr_left fun z hz => by simp only [Function.comp]; rw [if_neg (hx1 z hz)]
      · congr 1
        exact List.map_congr_left fun z hz => by simp only [Function.comp]; rw [if_neg (hx2 z hz)]
    rw [h5] at h4
    exact h4
  · show z.ks = kidsF (updN s.L p fun _ => x'.d) z.d.i.path
    rw [kids_upd ok.wf.rise hd hp k]
    rcases hpar z hz with rfl | h
    · rw [hks, ok.kids x hx, k.path]
    · exact ok.kids z h
  · rcases hpar z hz with rfl | h
    · exact hb
    · exact ok.bytes z h

/-- One node is changed, and stays where it is. -/
theorem StoreOk.upd {s : SD} {y : SX} (ok : StoreOk s y) {X1 X2 : List NN} {x x' : NN} {p : Nat} (hs : y.X = X1 ++ x :: X2) (hp : x.d.i.path = p) (k : Keeps x.d x'.d) (hn : x'.d.i.name = x.d.i.name) (hks : x'.ks = x.ks) (hb : BlksOk x'.P x'.d.b)
    (hw : Wf { s with L := updN s.L p fun _ => x'.d }) : StoreOk { s with L := updN s.L p fun _ => x'.d } { y with X := X1 ++ x' :: X2 } := by
  obtain ⟨h1, h2, h3⟩ := upd_parts ok hs hp k hks hb
  have hd : x.d ∈ s.L := ok.perm.mem_iff.1 (List.mem_map.2 ⟨x, by rw [hs]; simp, rfl⟩)
  refine ⟨hw, h1, h2, h3, fun dir nm => ?_⟩
  show lk (dir, nm) y.cl = (childF (updN s.L p fun _ => x'.d) dir nm).map u64V
  rw [child_upd ok.wf.rise hd hp k hn]
  exact ok.child dir nm

/-! ### Read -/

def readS (s : SD) (p off : Nat) (k : Int) : List UInt8 := match findN s.L p with
  | some n => readF n off k
  | none => []

section
attribute [local go_sem] F23.t6_eq
theorem sread_any {w0 w : World} {A : HP} {b : Nat} {s : SD} (h : St w0 (StoreP b 0 0 s * A) w) {p off : Nat} {k : Int} (hoff : off < 18446744073709551616) (hk : -9223372036854775808 ≤ k ∧ k ≤ 9223372036854775807) :
    Calls Tryd.prog 23 #[.pointer (some ⟨b, 0, none⟩), .int .u64 p, .int .u64 off, .int .i64 k] w fun e w' => ∃ v', St w0 (RowBy v' (readS s p off k) * (StoreP b 0 0 s * A)) w' ∧ e = .returned v' := by
  obtain ⟨y, ok, h⟩ := h.storeO
  refine calls_of_cwM (types := Tryd.prog.types) follows Tryd.func23 F23.code rfl (by kernel_rfl) (by show 4 ≤ 36; decide) ?_
  show cwE _ _ (fnM _ #[.tmp 8] _) _ _
  unfold F23.code
  simp -dsimp -implicitDefEqProofs (disch := omega) only [go_sem, reqD_of, dec_t, dec_f, wrap_i64, wrap_u32, wrap_u64, wrap_u8]
  refine (rlockS h).mono ?_
  rintro e w1 ⟨h1, rfl⟩
  simp -dsimp -implicitDefEqProofs (disch := omega) only [go_sem, reqD_of, dec_t, dec_f, wrap_i64, wrap_u32, wrap_u64, wrap_u8]
  refine deferF_of ?_
  simp -dsimp -implicitDefEqProofs (disch := omega) only [go_sem, reqD_of, dec_t, dec_f, wrap_i64, wrap_u32, wrap_u64, wrap_u8, h1.cl b]
  refine h1.lkH (b := y.N) (x := (p : Int)) Tryd.underlying93 lawU zero_ptr ?_
  cases hf : findN s.L p with
  | none =>
    rw [ok.none hf]
    have ha : readS s p off k = [] := by unfold readS; rw [hf]
    rw [ha]
    simp -dsimp -implicitDefEqProofs (disch := omega) only [go_sem, reqD_of, dec_t, dec_f, wrap_i64, wrap_u32, wrap_u64, wrap_u8, lkV]
    refine runlockS h1 fun w2 h2 => ?_
    refine endT1 ⟨.slice none 0 0, (h2.ent (Ent.sep (StoreP.shut ok) (Ent.rfl' A))).nilR _ _, ?_⟩
    simp -dsimp -implicitDefEqProofs only [go_sem]
  | some d =>
    obtain ⟨X1, x, X2, hs, rfl, hx, hl⟩ := ok.some hf
    have hd := ok.perm.mem_iff.1 (List.mem_map.2 ⟨x, hx, rfl⟩)
    have nok := ok.wf.ok _ hd
    have ha : readS s p off k = readF x.d off k := by unfold readS; rw [hf]
    rw [hl, ha]
    have h2 := h1.ac (StoreQ.eq hs)
    simp -dsimp -implicitDefEqProofs (disch := omega) only [go_sem, reqD_of, dec_t, dec_f, wrap_i64, wrap_u32, wrap_u64, wrap_u8, lkV]
    refine (lockH (b := x.n) h2 rfl).mono ?_
    rintro e w3 ⟨h3, rfl⟩
    have h3 : St w0 (NodeB x.n 1 x.d.i x.vk x.vb * (BlksP x.vb x.P * (RowU x.vk x.ks * (StoreR b 0 1 s y (y.X.map kv) (X1 ++ X2) * A)))) w3 := St.ac (A := NodeB x.n 1 x.d.i x.vk x.vb * (RowU x.vk x.ks * (BlksP x.vb x.P * (StoreR b 0 1 s y (y.X.map kv) (X1 ++ X2) * A)))) h3 (by ac_rfl)
    simp -dsimp -implicitDefEqProofs (disch := omega) only [go_sem, reqD_of, dec_t, dec_f, wrap_i64, wrap_u32, wrap_u64, wrap_u8]
    refine deferF_of ?_
    simp -dsimp -implicitDefEqProofs (disch := omega) only [go_sem, reqD_of, dec_t, dec_f, wrap_i64, wrap_u32, wrap_u64, wrap_u8]
    refine (read_any nok.len nok.few (ok.bytes x hx) hoff hk h3).mono ?_
    rintro e w4 ⟨v', h4, rfl⟩
    simp -dsimp -implicitDefEqProofs (disch := omega) only [go_sem, reqD_of, dec_t, dec_f, wrap_i64, wrap_u32, wrap_u64, wrap_u8]
    refine unlockL (b := x.n) h4 rfl fun w5 h5 => ?_
    have h5 : St w0 (RowBy v' (readF x.d off k) * (NodeB x.n 0 x.d.i x.vk x.vb * (BlksP x.vb x.P * (RowU x.vk x.ks * (StoreR b 0 1 s y (y.X.map kv) (X1 ++ X2) * A))))) w5 := h5
    have h6 : St w0 (StoreQ b 0 1 s y * (RowBy v' (readF x.d off k) * A)) w5 := h5.ac (by rw [StoreQ.eq hs]; ac_rfl)
    refine runlockS h6 fun w7 h7 => ?_
    refine endT1 ⟨v', (h7.ent (Ent.sep (StoreP.shut ok) (Ent.rfl' _))).ac (by ac_rfl), ?_⟩
    simp -dsimp -implicitDefEqProofs only [go_sem]
end
end Go.Proofs.YtijnmokpihhhcaaDoor

namespace Go.Proofs.YtijnmokpihhhcaaDoor
open Go
set_option linter.unusedVariables false
set_option linter.unusedSimpArgs false

/-- What an operation that neither makes nor drops makes of its node. -/
def calmF (s : SD) (o : OpD) : Except Nat NodeD :=
  if o.kind < 1 ∨ 7 < o.kind then .error 1
  else match findN s.L o.path with
    | none => .error 80
    | some n =>
      if o.kind = 3 then
        if n.i.path = 1 then .error 81
        else if !okName o.name then .error 50
        else match childF s.L n.i.parent o.name with
          | some q => if q = n.i.path then .ok ⟨{ n.i with name := o.name }, n.b⟩ else .error 82
          | none => .ok ⟨{ n.i with name := o.name }, n.b⟩
      else if o.kind = 4 then infoF n (setF o.mask o.node n.i)
      else if o.kind = 5 then cutF o.offset n
      else if o.kind = 6 then bytesF o.offset o.data n
      else infoF n (opensF o.n n.i)
theorem calm_do {s : SD} {o : OpD} (h : Wf s) (hc : o.kind ≠ 1 ∧ o.kind ≠ 2) : doF s o = oneF s o.path (calmF s o) := by
  unfold doF calmF
  split
  · rfl
  cases hf : findN s.L o.path with
  | none => rfl
  | some n =>
    obtain ⟨hn, hp⟩ := find_some hf
    simp only
    rw [if_neg hc.1, if_neg hc.2]
    by_cases h3 : o.kind = 3
    · rw [if_pos h3, if_pos h3]
      unfold callF
      by_cases h4 : n.i.path = 1
      · rw [if_pos h4, if_pos h4]; rfl
      rw [if_neg h4, if_neg h4]
      by_cases h5 : (!okName o.name) = true
      · rw [if_pos h5, if_pos h5]; rfl
      rw [if_neg h5, if_neg h5]
      have hu := upd_fun h.rise hn (fun n => ⟨{ n.i with name := o.name }, n.b⟩)
      rw [hu]
      cases childF s.L n.i.parent o.name with
      | none => simp only; rw [hp]; rfl
      | some q =>
        simp only
        split
        · rw [hp]; rfl
        · rfl
    · rw [if_neg h3, if_neg h3]
      split
      · rfl
      split
      · rfl
      split
      · rfl
      · rfl
theorem calm_ok {s : SD} {o : OpD} (h : Wf s) (ho : OpOk o) {n' : NodeD} (hr : calmF s o = .ok n') : ∃ n, n ∈ s.L ∧ n.i.path = o.path ∧ Keeps n n' ∧ (o.kind ≠ 3 → n'.i.name = n.i.name) := by
  unfold calmF at hr
  split at hr
  · cases hr
  cases hf : findN s.L o.path with
  | none => rw [hf] at hr; cases hr
  | some n =>
    rw [hf] at hr
    obtain ⟨hn, hp⟩ := find_some hf
    have ok := h.ok n hn
    simp only at hr
    refine ⟨n, hn, hp, ?_⟩
    split at hr
    · rename_i h3
      split at hr
      · cases hr
      split at hr
      · cases hr
      split at hr
      · split at hr
        · cases hr; exact ⟨⟨rfl, rfl, rfl⟩, fun e => absurd h3 e⟩
        · cases hr
      · cases hr; exact ⟨⟨rfl, rfl, rfl⟩, fun e => absurd h3 e⟩
    split at hr
    · obtain ⟨i, h1, rfl⟩ := info_ok hr
      obtain ⟨a, _, c⟩ := set_ok h1 ok ho.mode ho.atime ho.mtime
      exact ⟨a, fun _ => c⟩
    split at hr
    · obtain ⟨a, _, c⟩ := cut_ok hr ok
      exact ⟨a, fun _ => c⟩
    split at hr
    · obtain ⟨a, _, c⟩ := bytes_ok hr ok
      exact ⟨a, fun _ => c⟩
    · obtain ⟨i, h1, rfl⟩ := info_ok hr
      obtain ⟨a, _, c⟩ := opens_ok h1 ok
      exact ⟨a, fun _ => c⟩
/-- Another node is changed: the operation sees nothing of it. -/
theorem calm_frame {s : SD} {o : OpD} (h : Wf s) {n n' : NodeD} (hn : n ∈ s.L) (k : Keeps n n') (hq : o.path ≠ n.i.path) (hnm : o.kind = 3 → n'.i.name = n.i.name) :
    calmF { s with L := updN s.L n.i.path fun _ => n' } o = calmF s o := by
  unfold calmF
  simp only
  rw [find_upd k.path, if_neg hq]
  split
  · rfl
  cases hf : findN s.L o.path with
  | none => rfl
  | some m =>
    simp only
    by_cases h3 : o.kind = 3
    · rw [if_pos h3, if_pos h3, child_upd h.rise hn rfl k (hnm h3)]
    · rw [if_neg h3, if_neg h3]
theorem upd_comm {L : List NodeD} {p q : Nat} {a b : NodeD} (hpq : p ≠ q) (ha : a.i.path = p) (hb : b.i.path = q) : (updN (updN L p fun _ => a) q fun _ => b) = updN (updN L q fun _ => b) p fun _ => a := by
  unfold updN
  rw [List.map_map, List.map_map]
  refine List.map_congr_left fun x _ => ?_
  simp only [Function.comp]
  have hqp : ¬ q = p := fun e => hpq e.symm
  by_cases h1 : x.i.path = p
  · simp [h1, ha, hpq]
  · by_cases h2 : x.i.path = q
    · simp [h2, hb, hqp]
    · simp [h1, h2]
/-- The order does not matter. -/
theorem turns_law {s : SD} {a b : OpD} (h : Wf s) (oa : OpOk a) (ob : OpOk b) (ca : a.kind ≠ 1 ∧ a.kind ≠ 2) (cb : b.kind ≠ 1 ∧ b.kind ≠ 2) (hp : a.path ≠ b.path) (hn : ¬ (a.kind = 3 ∧ b.kind = 3)) :
    (doF (doF s a).1 b).2 = (doF s b).2 ∧ (doF (doF s b).1 a).2 = (doF s a).2 ∧ (doF (doF s a).1 b).1 = (doF (doF s b).1 a).1 := by
  have wa := do_wf h oa
  have wb := do_wf h ob
  rw [calm_do wa cb, calm_do wb ca]
  rw [calm_do h ca] at wa ⊢
  rw [calm_do h cb] at wb ⊢
  cases ra : calmF s a with
  | error e =>
    rw [ra] at wa
    cases rb : calmF s b with
    | error f => exact ⟨by simp [oneF, rb], by simp [oneF, ra], by simp [oneF, ra, rb]⟩
    | ok b' =>
      rw [rb] at wb
      obtain ⟨m, hm, hmp, km, nm⟩ := calm_ok h ob rb
      have fa : calmF { s with L := updN s.L b.path fun _ => b' } a = calmF s a := by
        rw [← hmp]
        exact calm_frame h hm km (by rw [hmp]; exact hp) fun e3 => nm fun e4 => hn ⟨e3, e4⟩
      simp only [oneF] at fa ⊢
      rw [rb, fa, ra]
      exact ⟨rfl, rfl, rfl⟩
  | ok a' =>
    rw [ra] at wa
    obtain ⟨n, hnn, hnp, kn, nn⟩ := calm_ok h oa ra
    have fb : calmF { s with L := updN s.L a.path fun _ => a' } b = calmF s b := by
      rw [← hnp]
      exact calm_frame h hnn kn (by rw [hnp]; exact fun e => hp e.symm) fun e3 => nn fun e4 => hn ⟨e4, e3⟩
    cases rb : calmF s b with
    | error f =>
      simp only [oneF] at fb ⊢
      rw [fb, rb, ra]
      exact ⟨rfl, rfl, rfl⟩
    | ok b' =>
      rw [rb] at wb
      obtain ⟨m, hm, hmp, km, nm⟩ := calm_ok h ob rb
      have fa : calmF { s with L := updN s.L b.path fun _ => b' } a = calmF s a := by
        rw [← hmp]
        exact calm_frame h hm km (by rw [hmp]; exact hp) fun e3 => nm fun e4 => hn ⟨e3, e4⟩
      simp only [oneF] at fa fb ⊢
      rw [fb, fa, ra, rb]
      refine ⟨rfl, rfl, ?_⟩
      simp only
      rw [upd_comm hp (kn.path.trans hnp) (km.path.trans hmp)]
end Go.Proofs.YtijnmokpihhhcaaDoor

namespace Go.Proofs.YtijnmokpihhhcaaDoor
open Go
set_option linter.unusedVariables false
set_option linter.unusedSimpArgs false
set_option maxRecDepth 100000

/-- An operation, cell by cell. -/
abbrev opL (o : OpD) (vd : Value) : List Value := [.int .u8 o.kind, .int .u64 o.path, .string (strOf o.name), .int .u8 o.mask, .int .u64 o.node.path, .int .u64 o.node.parent, .string (strOf o.node.name), .int .u32 o.node.mode, .string (strOf o.node.uid), .string (strOf o.node.gid), .string (strOf o.node.muid), .int .u32 o.node.atime, .int .u32 o.node.mtime, .int .u32 o.node.vers, .int .u64 o.node.length, .int .i64 o.node.opens, .int .i64 o.node.kids, .int .u64 o.offset, vd, .int .i64 o.n]
abbrev opB (B : Nat) (o : OpD) (vd : Value) : HP := Blk B (.cells (opL o vd).toArray 53 (0, 0))
/-- The bounds of what is handed in. -/
structure OpIn (o : OpD) : Prop where
  ok : OpOk o
  mask : o.mask < 256
  offset : o.offset < 18446744073709551616
  n0 : -9223372036854775808 ≤ o.n
  n1 : o.n ≤ 9223372036854775807
  data : o.data.length ≤ 4294967296
  name : o.name.length ≤ 4294967296
  nname : o.node.name.length ≤ 4294967296
  uid : o.node.uid.length ≤ 4294967296
  gid : o.node.gid.length ≤ 4294967296
  muid : o.node.muid.length ≤ 4294967296

section
variable {w0 w : World} {A : HP} {b B : Nat} {s : SD} {y : SX} {X1 X2 : List NN} {x : NN} {o : OpD} {vd : Value} {e : FA} {R : Ending → World → Prop}

/-- The store with one node changed, from its parts. -/
theorem StoreQ.upd {st rc : Int} {n' : NodeD} {vb' : Value} {P' : BL} (hs : y.X = X1 ++ x :: X2) (hp : x.d.i.path = o.path) (k : Keeps x.d n') :
    NodeB x.n 0 n'.i x.vk vb' * (RowU x.vk x.ks * (BlksP vb' P' * (StoreR b st rc s y (y.X.map kv) (X1 ++ X2) * A))) =
      StoreQ b st rc { s with L := updN s.L o.path fun _ => n' } { y with X := X1 ++ { x with d := n', vb := vb', P := P' } :: X2 } * A := by
  rw [StoreQ.eq (y := { y with X := X1 ++ { x with d := n', vb := vb', P := P' } :: X2 }) (X1 := X1) (X2 := X2) (x := { x with d := n', vb := vb', P := P' }) rfl]
  have h1 : y.X.map kv = (X1 ++ { x with d := n', vb := vb', P := P' } :: X2).map kv := by
    rw [hs]
    simp only [List.map_append, List.map_cons, kv, k.path]
  have h2 : (updN s.L o.path fun _ => n').map (·.i.path) = s.L.map (·.i.path) := upd_paths (by rw [k.path, hp])
  simp only [StoreR, ← h1, h2]

section
attribute [local go_sem] F20.t2_eq F20.t6_eq F20.t30_eq F20.t16_eq F20.t11_eq
/-- The end of an operation on one node. -/
theorem do_t28 (ok : StoreOk s y) (hs : y.X = X1 ++ x :: X2) (hf : findN s.L o.path = some x.d) {r : Except Nat NodeD} {vb' : Value} {P' : BL}
    (hm : match r with
      | .error k => St w0 (NodeB x.n 1 x.d.i x.vk x.vb * (BlksP x.vb x.P * (RowU x.vk x.ks * (StoreR b 0 1 s y (y.X.map kv) (X1 ++ X2) * (opB B o vd * A))))) w ∧ e.ρ 7 = .int .i64 k
      | .ok n' => St w0 (NodeB x.n 1 n'.i x.vk vb' * (BlksP vb' P' * (RowU x.vk x.ks * (StoreR b 0 1 s y (y.X.map kv) (X1 ++ X2) * (opB B o vd * A))))) w ∧ e.ρ 7 = .int .i64 0)
    (hr0 : ∀ k, r = .error k → 1 ≤ k ∧ k < 1000) (hk : ∀ n', r = .ok n' → Keeps x.d n' ∧ n'.i.name = x.d.i.name ∧ BlksOk P' n'.b ∧ Wf { s with L := updN s.L o.path fun _ => n' })
    (hd : e.ds = [{ target := .fn (.func 42) #[], args := #[.pointer (some ⟨x.n, 0, none⟩)] }, { target := .fn (.func 37) #[], args := #[.pointer (some ⟨b, 0, none⟩)] }])
    (e3 : e.ρ 3 = .pointer (some ⟨B, 0, none⟩))
    (hR : ∀ w', St w0 (StoreP b 0 0 (oneF s o.path r).1 * A) w' → R (.returned (.tuple #[.int .u64 (oneF s o.path r).2.1, .int .i64 (oneF s o.path r).2.2])) w') :
    cwE Tryd.prog F20.t28 (fnM Tryd.prog #[.tmp 4, .tmp 5] R) e w := by
  unfold F20.t28
  cases r with
  | error k =>
    obtain ⟨h, e7⟩ := hm
    obtain ⟨k1, k2⟩ := hr0 k rfl
    have hz : ¬ (k : Int) = 0 := by omega
    simp -dsimp -implicitDefEqProofs (disch := omega) only [go_sem, reqD_of, dec_t, dec_f, wrap_i64, wrap_u32, wrap_u64, wrap_u8, hd, e3, e7, hz]
    refine unlockL (b := x.n) h rfl fun w5 h5 => ?_
    have h5 : St w0 (NodeB x.n 0 x.d.i x.vk x.vb * (BlksP x.vb x.P * (RowU x.vk x.ks * (StoreR b 0 1 s y (y.X.map kv) (X1 ++ X2) * (opB B o vd * A))))) w5 := h5
    have h6 : St w0 (StoreQ b 0 1 s y * (opB B o vd * A)) w5 := h5.ac (by rw [StoreQ.eq hs]; ac_rfl)
    refine runlockS h6 fun w7 h7 => ?_
    refine endT2 ?_
    have := hR w7 (h7.drop2.ent (Ent.sep (StoreP.shut ok) (Ent.rfl' A)))
    simp -dsimp -implicitDefEqProofs only [go_sem]
    exact this
  | ok n' =>
    obtain ⟨h, e7⟩ := hm
    obtain ⟨k1, k2, k3, k4⟩ := hk n' rfl
    have hp := (find_some hf).2
    simp -dsimp -implicitDefEqProofs (disch := omega) only [go_sem, reqD_of, dec_t, dec_f, wrap_i64, wrap_u32, wrap_u64, wrap_u8, hd, e3, e7, h.cl B]
    refine unlockL (b := x.n) h rfl fun w5 h5 => ?_
    have h5 : St w0 (NodeB x.n 0 n'.i x.vk vb' * (BlksP vb' P' * (RowU x.vk x.ks * (StoreR b 0 1 s y (y.X.map kv) (X1 ++ X2) * (opB B o vd * A))))) w5 := h5
    have ok' := ok.upd (x' := { x with d := n', vb := vb', P := P' }) hs hp k1 k2 rfl k3 k4
    have h6 : St w0 (StoreQ b 0 1 { s with L := updN s.L o.path fun _ => n' } { y with X := X1 ++ { x with d := n', vb := vb', P := P' } :: X2 } * (opB B o vd * A)) w5 := by
      rw [← StoreQ.upd hs hp k1]
      exact h5.ac (by ac_rfl)
    refine runlockS h6 fun w7 h7 => ?_
    refine endT2 ?_
    have := hR w7 (h7.drop2.ent (Ent.sep (StoreP.shut ok') (Ent.rfl' A)))
    simp -dsimp -implicitDefEqProofs only [go_sem]
    exact this
end
end
end Go.Proofs.YtijnmokpihhhcaaDoor

namespace Go.Proofs.YtijnmokpihhhcaaDoor
open Go
set_option linter.unusedVariables false
set_option linter.unusedSimpArgs false
set_option maxRecDepth 100000

section
variable {w0 w : World} {A : HP} {b B : Nat} {s : SD} {y : SX} {X1 X2 : List NN} {x : NN} {o : OpD} {vd : Value} {e : FA} {R : Ending → World → Prop}

theorem doF_one {d : NodeD} (hk : 4 ≤ o.kind ∧ o.kind ≤ 7) (hf : findN s.L o.path = some d) : doF s o = oneF s o.path (if o.kind = 4 then infoF d (setF o.mask o.node d.i) else if o.kind = 5 then cutF o.offset d else if o.kind = 6 then bytesF o.offset o.data d else infoF d (opensF o.n d.i)) := by
  unfold doF
  rw [if_neg (by omega), hf]
  simp only
  rw [if_neg (by omega), if_neg (by omega), if_neg (by omega)]
  split
  · rfl
  split
  · rfl
  split
  · rfl
  · rfl
theorem one_errs {d : NodeD} {k : Nat} (h : (if o.kind = 4 then infoF d (setF o.mask o.node d.i) else if o.kind = 5 then cutF o.offset d else if o.kind = 6 then bytesF o.offset o.data d else infoF d (opensF o.n d.i)) = .error k) : 1 ≤ k ∧ k < 1000 := by
  split at h
  · unfold infoF setF at h
    repeat' split at h
    all_goals (first | (cases h; omega) | cases h)
    all_goals (rename_i h2; split at h2 <;> (try split at h2) <;> cases h2 <;> omega)
  split at h
  · unfold cutF at h
    repeat' split at h
    all_goals (first | (cases h; omega) | cases h)
  split at h
  · unfold bytesF at h
    repeat' split at h
    all_goals (first | (cases h; omega) | cases h)
  · unfold infoF opensF at h
    repeat' split at h
    all_goals (first | (cases h; omega) | cases h)
    all_goals (rename_i h2; split at h2 <;> (try split at h2) <;> cases h2 <;> omega)

/-- What comes of an operation on one node. -/
def oneR (o : OpD) (d : NodeD) : Except Nat NodeD := if o.kind = 4 then infoF d (setF o.mask o.node d.i) else if o.kind = 5 then cutF o.offset d else if o.kind = 6 then bytesF o.offset o.data d else infoF d (opensF o.n d.i)
theorem oneR_ok {d n' : NodeD} (ok : NodeOk d) (ho : OpOk o) (h : oneR o d = .ok n') : Keeps d n' ∧ NodeOk n' ∧ n'.i.name = d.i.name := by
  unfold oneR at h
  split at h
  · obtain ⟨i, h1, rfl⟩ := info_ok h
    exact set_ok h1 ok ho.mode ho.atime ho.mtime
  split at h
  · exact cut_ok h ok
  split at h
  · exact bytes_ok h ok
  · obtain ⟨i, h1, rfl⟩ := info_ok h
    exact opens_ok h1 ok

section
attribute [local go_sem] F20.t2_eq F20.t6_eq F20.t30_eq F20.t16_eq F20.t11_eq
theorem do_t16 [Gives A Tabs] [Gives A (RdB vd o.data)] (hin : OpIn o) (hk : 4 ≤ o.kind ∧ o.kind ≤ 7) (ok : StoreOk s y) (hs : y.X = X1 ++ x :: X2) (hf : findN s.L o.path = some x.d)
    (h : St w0 (NodeB x.n 0 x.d.i x.vk x.vb * (RowU x.vk x.ks * (BlksP x.vb x.P * (StoreR b 0 1 s y (y.X.map kv) (X1 ++ X2) * (opB B o vd * A))))) w)
    (hd : e.ds = [{ target := .fn (.func 37) #[], args := #[.pointer (some ⟨b, 0, none⟩)] }])
    (e3 : e.ρ 3 = .pointer (some ⟨B, 0, none⟩)) (e6 : e.ρ 6 = .pointer (some ⟨x.n, 0, none⟩))
    (hR : ∀ w', St w0 (StoreP b 0 0 (doF s o).1 * A) w' → R (.returned (.tuple #[.int .u64 (doF s o).2.1, .int .i64 (doF s o).2.2])) w') :
    cwE Tryd.prog F20.t16 (fnM Tryd.prog #[.tmp 4, .tmp 5] R) e w := by
  have hx : x ∈ y.X := by rw [hs]; simp
  have hdm := (find_some hf).1
  have hp := (find_some hf).2
  have nok := ok.wf.ok _ hdm
  rw [doF_one hk hf] at hR
  change ∀ w', St w0 (StoreP b 0 0 (oneF s o.path (oneR o x.d)).1 * A) w' → R (.returned (.tuple #[.int .u64 (oneF s o.path (oneR o x.d)).2.1, .int .i64 (oneF s o.path (oneR o x.d)).2.2])) w' at hR
  have herr : ∀ k, oneR o x.d = .error k → 1 ≤ k ∧ k < 1000 := fun k h => one_errs h
  have hkeep : ∀ n', oneR o x.d = .ok n' → Keeps x.d n' ∧ NodeOk n' ∧ n'.i.name = x.d.i.name := fun n' h => oneR_ok nok hin.ok h
  have hwf : ∀ n', oneR o x.d = .ok n' → Wf { s with L := updN s.L o.path fun _ => n' } := fun n' h => by
    have := one_wf ok.wf hdm (r := oneR o x.d) hkeep
    rw [h] at this
    rw [← hp]
    exact this
  have fin : ∀ (e : FA) (w : World) (vb' : Value) (P' : BL), (∀ n', oneR o x.d = .ok n' → BlksOk P' n'.b) → (match oneR o x.d with
      | .error k => St w0 (NodeB x.n 1 x.d.i x.vk x.vb * (BlksP x.vb x.P * (RowU x.vk x.ks * (StoreR b 0 1 s y (y.X.map kv) (X1 ++ X2) * (opB B o vd * A))))) w ∧ e.ρ 7 = .int .i64 k
      | .ok n' => St w0 (NodeB x.n 1 n'.i x.vk vb' * (BlksP vb' P' * (RowU x.vk x.ks * (StoreR b 0 1 s y (y.X.map kv) (X1 ++ X2) * (opB B o vd * A))))) w ∧ e.ρ 7 = .int .i64 0) →
      e.ds = [{ target := .fn (.func 42) #[], args := #[.pointer (some ⟨x.n, 0, none⟩)] }, { target := .fn (.func 37) #[], args := #[.pointer (some ⟨b, 0, none⟩)] }] →
      e.ρ 3 = .pointer (some ⟨B, 0, none⟩) → cwE Tryd.prog F20.t28 (fnM Tryd.prog #[.tmp 4, .tmp 5] R) e w := fun e w vb' P' hb hm hd e3 =>
    do_t28 ok hs hf hm herr (fun n' h => ⟨(hkeep n' h).1, (hkeep n' h).2.2, hb n' h, hwf n' h⟩) hd e3 hR
  unfold F20.t16
  simp -dsimp -implicitDefEqProofs (disch := omega) only [go_sem, reqD_of, dec_t, dec_f, wrap_i64, wrap_u32, wrap_u64, wrap_u8, hd, e3, e6]
  refine (lockH (b := x.n) h rfl).mono ?_
  rintro e' w3 ⟨h3, rfl⟩
  have h3 : St w0 (NodeB x.n 1 x.d.i x.vk x.vb * (RowU x.vk x.ks * (BlksP x.vb x.P * (StoreR b 0 1 s y (y.X.map kv) (X1 ++ X2) * (opB B o vd * A))))) w3 := h3
  have h4 : St w0 (NodeB x.n 1 x.d.i x.vk x.vb * (BlksP x.vb x.P * (RowU x.vk x.ks * (StoreR b 0 1 s y (y.X.map kv) (X1 ++ X2) * (opB B o vd * A))))) w3 := h3.ac (by ac_rfl)
  have hrow := h4.rowAtH B 4 13 (by simp)
  simp only [List.drop_succ_cons, List.drop_zero, List.take_succ_cons, List.take_zero] at hrow
  simp -dsimp -implicitDefEqProofs (disch := omega) only [go_sem, reqD_of, dec_t, dec_f, wrap_i64, wrap_u32, wrap_u64, wrap_u8, hd, e3, e6]
  refine deferF_of ?_
  rcases Nat.lt_or_ge o.kind 5 with hk4 | hk4
  · have k4 : (o.kind : Int) = 4 := by omega
    have hr : oneR o x.d = infoF x.d (setF o.mask o.node x.d.i) := by unfold oneR; rw [if_pos (by omega)]
    simp -dsimp -implicitDefEqProofs (disch := omega) only [go_sem, reqD_of, dec_t, dec_f, wrap_i64, wrap_u32, wrap_u64, wrap_u8, hd, e3, e6, h4.cl B, k4, hrow]
    refine (set_any (t := o.node) hin.mask hin.ok.mode nok.mode ⟨Nat.le_trans hin.uid (by omega), Nat.le_trans hin.gid (by omega), Nat.le_trans hin.muid (by omega)⟩ h4).mono ?_
    intro e5 w5 hq
    have hb : ∀ n', oneR o x.d = .ok n' → BlksOk x.P n'.b := fun n' hn => by
      rw [hr] at hn
      obtain ⟨j, h1, rfl⟩ := info_ok hn
      exact ok.bytes x hx
    cases hse : setF o.mask o.node x.d.i with
    | error k =>
      rw [hse] at hq
      obtain ⟨h5, rfl⟩ := hq
      simp -dsimp -implicitDefEqProofs (disch := omega) only [go_sem, reqD_of, dec_t, dec_f, wrap_i64, wrap_u32, wrap_u64, wrap_u8, hd, e3, e6]
      refine fin _ _ x.vb x.P hb ?_ (by simp -dsimp -implicitDefEqProofs only [go_sem, hd, e6]) (by simp -dsimp -implicitDefEqProofs only [go_sem, e3])
      rw [hr, hse]
      exact ⟨h5, by simp -dsimp -implicitDefEqProofs only [go_sem]⟩
    | ok j =>
      rw [hse] at hq
      obtain ⟨h5, rfl⟩ := hq
      simp -dsimp -implicitDefEqProofs (disch := omega) only [go_sem, reqD_of, dec_t, dec_f, wrap_i64, wrap_u32, wrap_u64, wrap_u8, hd, e3, e6]
      refine fin _ _ x.vb x.P hb ?_ (by simp -dsimp -implicitDefEqProofs only [go_sem, hd, e6]) (by simp -dsimp -implicitDefEqProofs only [go_sem, e3])
      rw [hr, hse]
      exact ⟨h5, by simp -dsimp -implicitDefEqProofs only [go_sem]⟩
  have k4 : ¬ (o.kind : Int) = 4 := by omega
  rcases Nat.lt_or_ge o.kind 6 with hk5 | hk5
  · have k5 : (o.kind : Int) = 5 := by omega
    have hr : oneR o x.d = cutF o.offset x.d := by unfold oneR; rw [if_neg (by omega), if_pos (by omega)]
    simp -dsimp -implicitDefEqProofs (disch := omega) only [go_sem, reqD_of, dec_t, dec_f, wrap_i64, wrap_u32, wrap_u64, wrap_u8, hd, e3, e6, h4.cl B, k4, k5]
    refine (cut_any nok.mode (ok.bytes x hx) h4).mono ?_
    intro e5 w5 hq
    cases hse : cutF o.offset x.d with
    | error k =>
      rw [hse] at hq
      obtain ⟨h5, rfl⟩ := hq
      simp -dsimp -implicitDefEqProofs (disch := omega) only [go_sem, reqD_of, dec_t, dec_f, wrap_i64, wrap_u32, wrap_u64, wrap_u8, hd, e3, e6]
      refine fin _ _ x.vb x.P (fun n' hn => by rw [hr, hse] at hn; cases hn) ?_ (by simp -dsimp -implicitDefEqProofs only [go_sem, hd, e6]) (by simp -dsimp -implicitDefEqProofs only [go_sem, e3])
      rw [hr, hse]
      exact ⟨h5, by simp -dsimp -implicitDefEqProofs only [go_sem]⟩
    | ok n' =>
      rw [hse] at hq
      obtain ⟨vb', P', hb, h5, rfl⟩ := hq
      simp -dsimp -implicitDefEqProofs (disch := omega) only [go_sem, reqD_of, dec_t, dec_f, wrap_i64, wrap_u32, wrap_u64, wrap_u8, hd, e3, e6]
      refine fin _ _ vb' P' (fun n' hn => by rw [hr, hse] at hn; cases hn; exact hb) ?_ (by simp -dsimp -implicitDefEqProofs only [go_sem, hd, e6]) (by simp -dsimp -implicitDefEqProofs only [go_sem, e3])
      rw [hr, hse]
      exact ⟨h5, by simp -dsimp -implicitDefEqProofs only [go_sem]⟩
  have k5 : ¬ (o.kind : Int) = 5 := by omega
  rcases Nat.lt_or_ge o.kind 7 with hk6 | hk6
  · have k6 : (o.kind : Int) = 6 := by omega
    have hr : oneR o x.d = bytesF o.offset o.data x.d := by unfold oneR; rw [if_neg (by omega), if_neg (by omega), if_pos (by omega)]
    simp -dsimp -implicitDefEqProofs (disch := omega) only [go_sem, reqD_of, dec_t, dec_f, wrap_i64, wrap_u32, wrap_u64, wrap_u8, hd, e3, e6, h4.cl B, k4, k5, k6]
    refine (put_any (v := vd) (d := o.data) nok.mode (by have := nok.few; have := nok.len; omega) (ok.bytes x hx) hin.offset hin.data h4).mono ?_
    intro e5 w5 hq
    cases hse : bytesF o.offset o.data x.d with
    | error k =>
      rw [hse] at hq
      obtain ⟨h5, rfl⟩ := hq
      simp -dsimp -implicitDefEqProofs (disch := omega) only [go_sem, reqD_of, dec_t, dec_f, wrap_i64, wrap_u32, wrap_u64, wrap_u8, hd, e3, e6]
      refine fin _ _ x.vb x.P (fun n' hn => by rw [hr, hse] at hn; cases hn) ?_ (by simp -dsimp -implicitDefEqProofs only [go_sem, hd, e6]) (by simp -dsimp -implicitDefEqProofs only [go_sem, e3])
      rw [hr, hse]
      exact ⟨h5, by simp -dsimp -implicitDefEqProofs only [go_sem]⟩
    | ok n' =>
      rw [hse] at hq
      obtain ⟨vb', P', hb, h5, rfl⟩ := hq
      simp -dsimp -implicitDefEqProofs (disch := omega) only [go_sem, reqD_of, dec_t, dec_f, wrap_i64, wrap_u32, wrap_u64, wrap_u8, hd, e3, e6]
      refine fin _ _ vb' P' (fun n' hn => by rw [hr, hse] at hn; cases hn; exact hb) ?_ (by simp -dsimp -implicitDefEqProofs only [go_sem, hd, e6]) (by simp -dsimp -implicitDefEqProofs only [go_sem, e3])
      rw [hr, hse]
      exact ⟨h5, by simp -dsimp -implicitDefEqProofs only [go_sem]⟩
  have k6 : ¬ (o.kind : Int) = 6 := by omega
  have k7 : (o.kind : Int) = 7 := by omega
  have hr : oneR o x.d = infoF x.d (opensF o.n x.d.i) := by unfold oneR; rw [if_neg (by omega), if_neg (by omega), if_neg (by omega)]
  have hb : ∀ n', oneR o x.d = .ok n' → BlksOk x.P n'.b := fun n' hn => by
    rw [hr] at hn
    obtain ⟨j, h1, rfl⟩ := info_ok hn
    exact ok.bytes x hx
  simp -dsimp -implicitDefEqProofs (disch := omega) only [go_sem, reqD_of, dec_t, dec_f, wrap_i64, wrap_u32, wrap_u64, wrap_u8, hd, e3, e6, h4.cl B, k4, k5, k6, k7]
  refine (opens_any h4 ⟨hin.n0, hin.n1⟩ ⟨nok.op0, nok.op1⟩).mono ?_
  intro e5 w5 hq
  cases hse : opensF o.n x.d.i with
  | error k =>
    rw [hse] at hq
    obtain ⟨h5, rfl⟩ := hq
    simp -dsimp -implicitDefEqProofs (disch := omega) only [go_sem, reqD_of, dec_t, dec_f, wrap_i64, wrap_u32, wrap_u64, wrap_u8, hd, e3, e6]
    refine fin _ _ x.vb x.P hb ?_ (by simp -dsimp -implicitDefEqProofs only [go_sem, hd, e6]) (by simp -dsimp -implicitDefEqProofs only [go_sem, e3])
    rw [hr, hse]
    exact ⟨h5, by simp -dsimp -implicitDefEqProofs only [go_sem]⟩
  | ok j =>
    rw [hse] at hq
    obtain ⟨h5, rfl⟩ := hq
    simp -dsimp -implicitDefEqProofs (disch := omega) only [go_sem, reqD_of, dec_t, dec_f, wrap_i64, wrap_u32, wrap_u64, wrap_u8, hd, e3, e6]
    refine fin _ _ x.vb x.P hb ?_ (by simp -dsimp -implicitDefEqProofs only [go_sem, hd, e6]) (by simp -dsimp -implicitDefEqProofs only [go_sem, e3])
    rw [hr, hse]
    exact ⟨h5, by simp -dsimp -implicitDefEqProofs only [go_sem]⟩
end
end
end Go.Proofs.YtijnmokpihhhcaaDoor

namespace Go.Proofs.YtijnmokpihhhcaaDoor
open Go
set_option linter.unusedVariables false
set_option linter.unusedSimpArgs false
set_option maxRecDepth 100000

theorem u64_cells (l : List Nat) : ∀ v ∈ l.map u64V, isCell v = true := by
  intro v hv
  obtain ⟨x, _, rfl⟩ := List.mem_map.1 hv
  rfl
theorem rowTy_u64 : rowTy Tryd.prog 63 = some (30, 1, 8, [.int .u64 0]) := by kernel_rfl

section
attribute [local go_sem] F91.t4_eq
theorem delU_any {w0 w : World} {F : HP} {v : Value} {l : List Nat} {i : Nat} (h : St w0 (RowU v l * F) w) (hi : i < l.length) (hl : l.length < 1099511627776) :
    Calls Tryd.prog 91 #[v, .int .i64 i, .int .i64 ((i : Int) + 1)] w fun e w' => ∃ v', St w0 (RowU v' (l.eraseIdx i) * F) w' ∧ e = .returned v' := by
  obtain ⟨a, c, rfl, _, hnc, hcm⟩ := RowO.form h
  obtain ⟨g, o, rfl, _⟩ := h.atS (a := a) (n := l.length) (c := c) (xs := l.map u64V) (k := i) (by simpa using hi)
  refine F91.calls (by simp) ?_
  unfold F91.code
  have e1 : ((i : Int) + 1).toNat = i + 1 := by omega
  have r2 := (h.drew.left.ent (RowO.reads _ _ _ _ _)).ent (Reads.sub (lo := i + 1) (k := l.length - (i + 1)) (by omega))
  rw [Nat.mul_one, Nat.mul_one, ← List.map_drop, ← List.map_take, List.take_of_length_le (by simp)] at r2
  simp only [Option.map_some, add_lit] at r2
  have hcut := h.drew.ent (Ent.sep (RowO.cut (lo := 0) (k := i) (m := c) (by omega) (by omega) (Nat.le_refl _)) (Ent.rfl' _))
  simp only [Nat.zero_mul, Option.map_some, add_lit, Nat.add_zero, ite_self, Nat.sub_zero, List.drop_zero, Nat.mul_one, ← List.map_take] at hcut
  simp -dsimp -implicitDefEqProofs (disch := omega) only [go_sem, reqD_of, dec_t, dec_f, wrap_i64, wrap_u32, wrap_u64, wrap_u8]
  simp only [ite_self, Nat.sub_zero, e1]
  refine hcut.appendIn rowTy_u64 (r2.rd.src Tryd.underlying63 (u64_cells _) (fun hh => ?_)) (by omega) fun w1 h1 => ?_
  · have := congrArg List.length hh
    simp only [List.length_map, List.length_drop, List.length_nil] at this
    omega
  rw [← List.map_append, ← List.eraseIdx_eq_take_drop_succ] at h1
  have hn : i + (l.length - (i + 1)) = l.length - 1 := by omega
  have hel : (l.eraseIdx i).length = l.length - 1 := by rw [List.length_eraseIdx, if_pos hi]
  rw [hn] at h1 ⊢
  simp -dsimp -implicitDefEqProofs (disch := omega) only [go_sem, reqD_of, dec_t, dec_f, wrap_i64, wrap_u32, wrap_u64, wrap_u8]
  rw [if_neg (by omega)]
  rw [show (some (⟨g, o + (l.length - 1), none⟩ : Addr)) = some ⟨g, o + (l.length - 1) * 1, none⟩ by rw [Nat.mul_one]]
  refine St.clearTail (k := l.length - 1) (m := l.length - (l.length - 1)) h1 rowTy_u64 (by intro v hv; simp only [List.mem_cons, List.not_mem_nil, or_false] at hv; subst hv; rfl) (Nat.le_refl _) (by omega) (by omega) fun w2 h2 => ?_
  simp -dsimp -implicitDefEqProofs (disch := omega) only [go_sem, reqD_of, dec_t, dec_f, wrap_i64, wrap_u32, wrap_u64, wrap_u8]
  refine ⟨_, ?_, rfl⟩
  show St w0 (RowO _ 1 _ (l.eraseIdx i).length _ * F) w2
  rw [hel]
  exact h2

theorem erase_filter {l : List Nat} {i : Nat} (hl : l.Pairwise (· < ·)) (hi : i < l.length) : l.eraseIdx i = l.filter fun x => !(x == l[i]) := by
  induction l generalizing i with
  | nil => simp at hi
  | cons y l ih =>
    rw [List.pairwise_cons] at hl
    cases i with
    | zero =>
      simp only [List.eraseIdx_zero, List.tail_cons, List.getElem_cons_zero, List.filter_cons, BEq.rfl, Bool.not_true, Bool.false_eq_true, if_false]
      rw [List.filter_eq_self.2]
      intro x hx
      have := hl.1 x hx
      simp; omega
    | succ i =>
      have hi' : i < l.length := by simpa using hi
      simp only [List.eraseIdx_cons_succ, List.getElem_cons_succ, List.filter_cons]
      have : (!(y == l[i])) = true := by have := hl.1 l[i] (List.getElem_mem hi'); simp; omega
      rw [if_pos this, ih hl.2 hi']

end
section
attribute [local go_sem] F82.t4_eq
theorem without_any {w0 w : World} {F : HP} {v : Value} {l : List Nat} {p : Nat} (h : St w0 (RowU v l * F) w) (hr : l.Pairwise (· < ·)) (hl : l.length < 1000000000) :
    Calls Tryd.prog 82 #[v, .int .u64 p] w fun e w' => ∃ v', St w0 (RowU v' (l.filter fun x => !(x == p)) * F) w' ∧ e = .returned v' := by
  refine F82.calls (by simp) ?_
  unfold F82.code
  simp -dsimp -implicitDefEqProofs (disch := omega) only [go_sem, reqD_of, dec_t, dec_f, wrap_i64, wrap_u32, wrap_u64, wrap_u8]
  refine (search_any (l := l) h hr (by omega)).mono ?_
  rintro e w1 ⟨h1, i, hp, rfl⟩
  by_cases ht : p ∈ l
  · have hil : ∃ (hi : i < l.length), l[i] = p := by
      obtain ⟨k, hk, rfl⟩ := List.getElem_of_mem ht
      obtain ⟨p0, p1, p2⟩ := hp
      rcases Nat.lt_trichotomy k i with h1 | h1 | h1
      · have := p1 k hk h1; omega
      · subst h1; exact ⟨hk, rfl⟩
      · have h2 := p2 i (by omega) (Nat.le_refl _)
        have h3 := List.pairwise_iff_getElem.1 hr i k (by omega) hk h1
        omega
    obtain ⟨hi, rfl⟩ := hil
    simp -dsimp -implicitDefEqProofs (disch := omega) only [go_sem, reqD_of, dec_t, dec_f, wrap_i64, wrap_u32, wrap_u64, wrap_u8, ht]
    refine (delU_any h1 hi (by omega)).mono ?_
    rintro e w2 ⟨v', h2, rfl⟩
    simp -dsimp -implicitDefEqProofs (disch := omega) only [go_sem, reqD_of, dec_t, dec_f, wrap_i64, wrap_u32, wrap_u64, wrap_u8]
    rw [erase_filter hr hi] at h2
    exact ⟨_, h2, rfl⟩
  · have : (l.filter fun x => !(x == p)) = l := List.filter_eq_self.2 fun x hx => by
      have : x ≠ p := fun e => ht (e ▸ hx)
      simpa using this
    simp -dsimp -implicitDefEqProofs (disch := omega) only [go_sem, reqD_of, dec_t, dec_f, wrap_i64, wrap_u32, wrap_u64, wrap_u8, ht]
    rw [this]
    exact ⟨_, h1, rfl⟩
end
end Go.Proofs.YtijnmokpihhhcaaDoor

namespace Go.Proofs.YtijnmokpihhhcaaDoor
open Go
set_option linter.unusedVariables false
set_option linter.unusedSimpArgs false
set_option maxRecDepth 100000

section
variable {κ : Type} [DecidableEq κ]
theorem lk_upd (x y : κ) (v : Value) : ∀ l : List (κ × Value), lk x (upd y v l) = if x = y then some v else lk x l
  | [] => by simp [upd, lk]
  | (z, u) :: l => by
    by_cases h : y = z
    · subst h
      simp only [upd, if_true, lk]
      split <;> rfl
    · simp only [upd, h, if_false, lk, lk_upd x y v l]
      by_cases hx : x = z
      · have : ¬ x = y := fun e => h (by rw [← e, hx])
        simp [hx, Ne.symm h]
      · simp [hx]
theorem upd_new {x : κ} {v : Value} {l : List (κ × Value)} (h : x ∉ l.map (·.1)) : upd x v l = l ++ [(x, v)] := by
  induction l with
  | nil => rfl
  | cons y l ih =>
    simp only [List.map_cons, List.mem_cons, not_or] at h
    obtain ⟨z, u⟩ := y
    simp only [upd, if_neg h.1, ih h.2, List.cons_append]
end

theorem kids_app (L : List NodeD) (nd : NodeD) (q : Nat) : kidsF (L ++ [nd]) q = if isKid q nd then kidsF L q ++ [nd.i.path] else kidsF L q := by
  unfold kidsF
  rw [List.filter_append, List.filter_cons, List.filter_nil]
  cases isKid q nd <;> simp
theorem child_app (L : List NodeD) (nd : NodeD) (q : Nat) (nm : List UInt8) : childF (L ++ [nd]) q nm = (childF L q nm).or (if isKid q nd && nd.i.name == nm then some nd.i.path else none) := by
  unfold childF
  rw [List.find?_append, List.find?_cons, List.find?_nil]
  cases L.find? fun n => isKid q n && n.i.name == nm with
  | some z => rfl
  | none =>
    cases isKid q nd && nd.i.name == nm <;> rfl

/-- What a new node is. -/
def freshN (s : SD) (p : Nat) (t : Inf) : NodeD := ⟨⟨s.next, p, t.name, t.mode, t.uid, t.gid, t.muid, t.atime, t.mtime, 0, 0, 0, 0⟩, []⟩

theorem storeOk_make {s : SD} {y : SX} (ok : StoreOk s y) {X1 X2 : List NN} {x : NN} {t : Inf} {M : Nat} {vk' ov' : Value} (hs : y.X = X1 ++ x :: X2) (hc : childF s.L x.d.i.path t.name = none)
    (hw : Wf { s with next := s.next + 1, L := s.L ++ [freshN s x.d.i.path t] }) :
    StoreOk { s with next := s.next + 1, L := s.L ++ [freshN s x.d.i.path t] } { y with ov := ov', X := X1 ++ { x with vk := vk', ks := x.ks ++ [s.next] } :: (X2 ++ [⟨freshN s x.d.i.path t, M, .slice none 0 0, .slice none 0 0, [], []⟩]), cl := upd (x.d.i.path, t.name) (u64V s.next) y.cl } := by
  have hx : x ∈ y.X := by rw [hs]; simp
  have hd : x.d ∈ s.L := ok.perm.mem_iff.1 (List.mem_map.2 ⟨x, hx, rfl⟩)
  have hxn := (ok.wf.below _ hd)
  have hnd := ok.paths
  rw [hs, List.map_append, List.map_cons, List.nodup_append] at hnd
  obtain ⟨_, h2, h3⟩ := hnd
  rw [List.nodup_cons] at h2
  have kid : ∀ q, isKid q (freshN s x.d.i.path t) = (x.d.i.path == q) := fun q => by
    unfold isKid freshN
    simp only
    have : (s.next == x.d.i.path) = false := by simp; omega
    rw [this]; simp
  have hmem : ∀ z, z ∈ X1 ∨ z ∈ X2 → z ∈ y.X ∧ z.d.i.path ≠ x.d.i.path := fun z hz => by
    rw [hs]
    rcases hz with h | h
    · exact ⟨by simp [h], fun e => h3 _ (List.mem_map.2 ⟨z, h, rfl⟩) _ List.mem_cons_self e⟩
    · exact ⟨by simp [h], fun e => h2.1 (List.mem_map.2 ⟨z, h, e⟩)⟩
  have cases4 : ∀ z, z ∈ X1 ++ { x with vk := vk', ks := x.ks ++ [s.next] } :: (X2 ++ [(⟨freshN s x.d.i.path t, M, .slice none 0 0, .slice none 0 0, [], []⟩ : NN)]) → z = { x with vk := vk', ks := x.ks ++ [s.next] } ∨ z = ⟨freshN s x.d.i.path t, M, .slice none 0 0, .slice none 0 0, [], []⟩ ∨ (z ∈ X1 ∨ z ∈ X2) := fun z hz => by
    simp only [List.mem_append, List.mem_cons, List.not_mem_nil, or_false] at hz
    rcases hz with h | h | h | h
    · exact .inr (.inr (.inl h))
    · exact .inl h
    · exact .inr (.inr (.inr h))
    · exact .inr (.inl h)
  refine ⟨hw, ?_, fun z hz => ?_, fun z hz => ?_, fun dir nm => ?_⟩
  · have : (X1 ++ { x with vk := vk', ks := x.ks ++ [s.next] } :: (X2 ++ [(⟨freshN s x.d.i.path t, M, .slice none 0 0, .slice none 0 0, [], []⟩ : NN)])).map (·.d) = y.X.map (·.d) ++ [freshN s x.d.i.path t] := by
      rw [hs]; simp
    show List.Perm ((X1 ++ { x with vk := vk', ks := x.ks ++ [s.next] } :: (X2 ++ [(⟨freshN s x.d.i.path t, M, .slice none 0 0, .slice none 0 0, [], []⟩ : NN)])).map (·.d)) (s.L ++ [freshN s x.d.i.path t])
    rw [this]
    exact ok.perm.append_right _
  · show z.ks = kidsF (s.L ++ [freshN s x.d.i.path t]) z.d.i.path
    rw [kids_app, kid]
    rcases cases4 z hz with rfl | rfl | h
    · simp only [beq_self_eq_true, if_true]
      rw [ok.kids x hx]; rfl
    · have : (x.d.i.path == s.next) = false := by simp; omega
      show [] = if (x.d.i.path == s.next) = true then _ else kidsF s.L s.next
      rw [this, if_neg (by simp)]
      unfold kidsF
      rw [List.filter_eq_nil_iff.2]
      · rfl
      · intro n hn hk
        have hk2 := (isKid_iff ok.wf hn).1 hk
        have := (ok.wf.up n hn hk2.2).1
        have := (ok.wf.below n hn).2
        omega
    · obtain ⟨hz1, hz2⟩ := hmem z h
      have : (x.d.i.path == z.d.i.path) = false := by simp; exact fun e => hz2 e.symm
      rw [this, if_neg (by simp)]
      exact ok.kids z hz1
  · rcases cases4 z hz with rfl | rfl | h
    · exact ok.bytes x hx
    · exact ⟨by simp, by simp, fun k _ => by simp [byteAt, freshN]⟩
    · exact ok.bytes z (hmem z h).1
  · show lk (dir, nm) (upd (x.d.i.path, t.name) (u64V s.next) y.cl) = (childF (s.L ++ [freshN s x.d.i.path t]) dir nm).map u64V
    rw [lk_upd, child_app, kid]
    by_cases e : (dir, nm) = (x.d.i.path, t.name)
    · rw [if_pos e]
      simp only [Prod.mk.injEq] at e
      obtain ⟨rfl, rfl⟩ := e
      rw [hc]
      simp [freshN]
    · rw [if_neg e, ok.child]
      have : ((x.d.i.path == dir) && (freshN s x.d.i.path t).i.name == nm) = false := by
        simp only [freshN]
        cases h1 : x.d.i.path == dir
        · rfl
        · cases h2 : t.name == nm
          · rfl
          · exact absurd (by simp at h1 h2; rw [h1, h2]) e
      rw [this, if_neg (by simp), Option.or_none]
end Go.Proofs.YtijnmokpihhhcaaDoor

namespace Go.Proofs.YtijnmokpihhhcaaDoor
open Go
set_option linter.unusedVariables false
set_option linter.unusedSimpArgs false
set_option maxRecDepth 100000

/-- What comes of an operation on the whole. -/
def TurnR (w0 : World) (A : HP) (b : Nat) (st rc : Int) (r : SD × Nat × Nat) (e : Ending) (w' : World) : Prop :=
  ∃ y', StoreOk r.1 y' ∧ St w0 (StoreQ b st rc r.1 y' * A) w' ∧ e = .returned (.tuple #[.int .u64 r.2.1, .int .i64 r.2.2])

structure InfIn (t : Inf) : Prop where
  mode : t.mode < 4294967296
  name : t.name.length ≤ 4294967296
  uid : t.uid.length ≤ 4294967296
  gid : t.gid.length ≤ 4294967296
  muid : t.muid.length ≤ 4294967296

section
variable {w0 w : World} {A : HP} {b B K : Nat} {s : SD} {y : SX} {X1 X2 : List NN} {x : NN} {t : Inf} {st rc : Int} {e : FA} {R : Ending → World → Prop}
theorem zero_u64 : zeroV Tryd.prog 30 = some (.int .u64 0) := by kernel_rfl

section
attribute [local go_sem] F65.t13_eq
theorem make_t13 (ok : StoreOk s y) (hs : y.X = X1 ++ x :: X2) (hnext : s.next < 9223372036854775808) (hc : childF s.L x.d.i.path t.name = none)
    (hw : Wf { s with next := s.next + 1, L := s.L ++ [freshN s x.d.i.path t] })
    (h : St w0 (Blk K (.cells [.int .u64 (x.d.i.path : Int), .string (strOf t.name)].toArray 121 (0, 0)) * (infB B t * (NodeB x.n 0 x.d.i x.vk x.vb * (RowU x.vk x.ks * (BlksP x.vb x.P * (StoreR b st rc s y (y.X.map kv) (X1 ++ X2) * A)))))) w)
    (hd : e.ds = []) (e0 : e.ρ 0 = .pointer (some ⟨b, 0, none⟩)) (e1 : e.ρ 1 = .pointer (some ⟨x.n, 0, none⟩)) (e5 : e.ρ 5 = .pointer (some ⟨B, 0, none⟩)) (e8 : e.ρ 8 = .pointer (some ⟨K, 0, none⟩)) :
    cwE Tryd.prog F65.t13 (fnP Tryd.prog #[.tmp 6, .tmp 7] (TurnR w0 A b st rc ({ s with next := s.next + 1, L := s.L ++ [freshN s x.d.i.path t] }, s.next, 0))) e w := by
  have few := ok.wf.few
  have most := ok.wf.most
  rw [F65.t13_eq]
  simp -dsimp -implicitDefEqProofs (disch := omega) only [go_sem, reqD_of, dec_t, dec_f, wrap_i64, wrap_u32, wrap_u64, wrap_u8, hd, e0, e1, e5, e8, h.cl b]
  refine h.sto (b := b) (by simp) rfl fun w1 h1 => ?_
  simp only [List.setIfInBounds_toArray, List.set_cons_succ, List.set_cons_zero] at h1
  simp -dsimp -implicitDefEqProofs (disch := omega) only [go_sem, reqD_of, dec_t, dec_f, wrap_i64, wrap_u32, wrap_u64, wrap_u8, hd, e0, e1, e5, e8, h1.drew.cl b, h1.drew.cl K, h1.drew.cl B]
  refine onV_of (v := .agg (infL (freshN s x.d.i.path t).i).toArray) (by kernel_rfl) ?_
  simp -dsimp -implicitDefEqProofs (disch := omega) only [go_sem, reqD_of, dec_t, dec_f, wrap_i64, wrap_u32, wrap_u64, wrap_u8, hd, e0, e1, e5, e8]
  refine onV_of (v := .agg (nodeC 0 (freshN s x.d.i.path t).i (.slice none 0 0) (.slice none 0 0))) (by kernel_rfl) ?_
  simp -dsimp -implicitDefEqProofs (disch := omega) only [go_sem, reqD_of, dec_t, dec_f, wrap_i64, wrap_u32, wrap_u64, wrap_u8, hd, e0, e1, e5, e8]
  refine h1.drew.new fun M w2 h2 => ?_
  simp -dsimp -implicitDefEqProofs (disch := omega) only [go_sem, reqD_of, dec_t, dec_f, wrap_i64, wrap_u32, wrap_u64, wrap_u8, hd, e0, e1, e5, e8, h2.cl b, h2.cl K, h2.cl B]
  refine h2.updH (b := y.N) (x := (s.next : Int)) Tryd.underlying93 lawU fun w3 h3 => ?_
  simp -dsimp -implicitDefEqProofs (disch := omega) only [go_sem, reqD_of, dec_t, dec_f, wrap_i64, wrap_u32, wrap_u64, wrap_u8, hd, e0, e1, e5, e8, h3.cl b, h3.cl K, h3.cl B]
  refine h3.lit (t := 63) (n := 1) (cells := [u64V s.next]) rowTy_u64 rfl (by decide) (by decide) fun v4 w4 h4 => ?_
  simp -dsimp -implicitDefEqProofs (disch := omega) only [go_sem, reqD_of, dec_t, dec_f, wrap_i64, wrap_u32, wrap_u64, wrap_u8, hd, e0, e1, e5, e8, h4.cl b]
  refine h4.appR (v := y.ov) (x := v4) rowTy_u64 Tryd.underlying63 (fun u hu => by simp at hu; subst hu; rfl) (by simp) (show _ ≤ 9223372036854775807 by simp; omega) (by simp; omega) fun v5 w5 h5 => ?_
  obtain ⟨a5, c5, rfl, _⟩ := h5.rowForm v5
  simp -dsimp -implicitDefEqProofs (disch := omega) only [go_sem, reqD_of, dec_t, dec_f, wrap_i64, wrap_u32, wrap_u64, wrap_u8, hd, e0, e1, e5, e8, h5.cl b]
  refine h5.sto (b := b) (by simp) rfl fun w6 h6 => ?_
  simp only [List.setIfInBounds_toArray, List.set_cons_succ, List.set_cons_zero] at h6
  have hK := h6.drew.rowH K 2 rfl
  simp -dsimp -implicitDefEqProofs (disch := omega) only [go_sem, reqD_of, dec_t, dec_f, wrap_i64, wrap_u32, wrap_u64, wrap_u8, hd, e0, e1, e5, e8, h6.drew.cl b, hK]
  refine h6.drew.updH (b := y.C) (x := ((x.d.i.path, t.name) : KD)) Tryd.underlying94 lawK fun w7 h7 => ?_
  have hK7 := h7.rowH K 2 rfl
  simp -dsimp -implicitDefEqProofs (disch := omega) only [go_sem, reqD_of, dec_t, dec_f, wrap_i64, wrap_u32, wrap_u64, wrap_u8, hd, e0, e1, e5, e8, h7.cl b, h7.cl x.n, hK7]
  refine h7.lit (t := 63) (n := 1) (cells := [u64V s.next]) rowTy_u64 rfl (by decide) (by decide) fun v8 w8 h8 => ?_
  simp -dsimp -implicitDefEqProofs (disch := omega) only [go_sem, reqD_of, dec_t, dec_f, wrap_i64, wrap_u32, wrap_u64, wrap_u8, hd, e0, e1, e5, e8, h8.cl b, h8.cl x.n]
  have hkl := kids_len s.L x.d.i.path
  have hk := ok.kids x (by rw [hs]; simp)
  refine h8.appR (v := x.vk) (x := v8) rowTy_u64 Tryd.underlying63 (fun u hu => by simp at hu; subst hu; rfl) (by simp) (show _ ≤ 9223372036854775807 by rw [hk]; omega) (by rw [hk]; omega) fun v9 w9 h9 => ?_
  obtain ⟨a9, c9, rfl, _⟩ := h9.rowForm v9
  simp -dsimp -implicitDefEqProofs (disch := omega) only [go_sem, reqD_of, dec_t, dec_f, wrap_i64, wrap_u32, wrap_u64, wrap_u8, hd, e0, e1, e5, e8, h9.cl b, h9.cl x.n]
  refine h9.sto (b := x.n) (by simp) rfl fun w10 h10 => ?_
  simp only [List.setIfInBounds_toArray, List.set_cons_succ, List.set_cons_zero] at h10
  simp -dsimp -implicitDefEqProofs (disch := omega) only [go_sem, reqD_of, dec_t, dec_f, wrap_i64, wrap_u32, wrap_u64, wrap_u8, hd, e0, e1, e5, e8]
  have hkeys : ((s.next : Int)) ∉ (y.X.map kv).map (·.1) := by
    intro hm
    rw [List.map_map] at hm
    obtain ⟨z, hz, he⟩ := List.mem_map.1 hm
    have h1 : (z.d.i.path : Int) = s.next := he
    have := (ok.wf.below z.d (ok.perm.mem_iff.1 (List.mem_map.2 ⟨z, hz, rfl⟩))).2
    omega
  rw [upd_new hkeys] at h10
  refine ⟨_, storeOk_make (M := M) (vk' := .slice a9 (x.ks.length + 1) c9) (ov' := .slice a5 ((s.L.map (·.i.path)).length + 1) c5) ok hs hc hw, ?_, rfl⟩
  obtain ⟨nn, hnn⟩ : ∃ nn : NN, nn = ⟨freshN s x.d.i.path t, M, .slice none 0 0, .slice none 0 0, [], []⟩ := ⟨_, rfl⟩
  obtain ⟨x', hx'⟩ : ∃ x' : NN, x' = { x with vk := .slice a9 (x.ks.length + 1) c9, ks := x.ks ++ [s.next] } := ⟨_, rfl⟩
  rw [← hnn, ← hx']
  have e1 : RowU (.slice a5 ((s.L.map (·.i.path)).length + 1) c5) ((s.L ++ [freshN s x.d.i.path t]).map (·.i.path)) = RowO 30 1 (.slice a5 ((s.L.map (·.i.path)).length + 1) c5) ((s.L.map (·.i.path)).length + 1) ((s.L.map (·.i.path)).map u64V ++ [u64V s.next]) := by
    show RowO _ 1 _ (List.length _) (List.map _ _) = _
    rw [List.map_append, List.length_append, List.map_append]; rfl
  have e2 : nodeP x' = NodeB x.n 0 x.d.i (.slice a9 (x.ks.length + 1) c9) x.vb * (RowO 30 1 (.slice a9 (x.ks.length + 1) c9) (x.ks.length + 1) (x.ks.map u64V ++ [u64V s.next]) * BlksP x.vb x.P) := by
    rw [hx']
    show NodeB x.n 0 x.d.i _ x.vb * (RowO _ 1 _ (List.length (x.ks ++ [s.next])) (List.map _ _) * BlksP x.vb x.P) = _
    rw [List.length_append, List.map_append]; rfl
  have e3 : nodeP nn = Blk M (.cells (nodeC 0 (freshN s x.d.i.path t).i (.slice none 0 0) (.slice none 0 0)) 92 (0, 0)) * (RowO 30 1 (.slice none 0 0) 0 [] * (RowO 122 1 (.slice none 0 0) 0 [] * EmpH)) := by
    rw [hnn]; rfl
  have e4 : starL nodeP (X1 ++ x' :: (X2 ++ [nn])) = nodeP x' * (nodeP nn * starL nodeP (X1 ++ X2)) := by
    rw [starL_split, ← List.append_assoc, starL_split, List.append_nil]
  have e5 : (X1 ++ x' :: (X2 ++ [nn])).map kv = y.X.map kv ++ [((s.next : Int), .pointer (some ⟨M, 0, none⟩))] := by
    rw [hs, hx', hnn]
    simp [kv, freshN]
  obtain ⟨Mc, hMc⟩ : ∃ Mc, Mc = MapP encK y.C (upd ((x.d.i.path, t.name) : KD) (.int .u64 (s.next : Int)) y.cl) := ⟨_, rfl⟩
  have h10 : St w0 (RowO 30 1 v8 1 [u64V s.next] * (RowO 30 1 v4 1 [u64V s.next] * (Blk M (.cells (nodeC 0 (freshN s x.d.i.path t).i (.slice none 0 0) (.slice none 0 0)) 92 (0, 0)) * (Blk K (.cells [.int .u64 (x.d.i.path : Int), .string (strOf t.name)].toArray 121 (0, 0)) * (infB B t * (NodeB x.n 0 x.d.i (.slice a9 (x.ks.length + 1) c9) x.vb * (RowO 30 1 (.slice a9 (x.ks.length + 1) c9) (x.ks.length + 1) (x.ks.map u64V ++ [u64V s.next]) * (BlksP x.vb x.P * (
      Blk b (.cells #[.int .i32 st, .int .u32 0, .int .u32 0, .int .u32 0, .int .i32 rc, .int .i32 0, .int .i64 s.most, .int .u64 ((s.next : Int) + 1), .map (some y.N), .slice a5 ((s.L.map (·.i.path)).length + 1) c5, .map (some y.C)] 101 (0, 0)) *
        (MapP encU y.N (y.X.map kv ++ [((s.next : Int), .pointer (some ⟨M, 0, none⟩))]) * (Mc * (RowO 30 1 (.slice a5 ((s.L.map (·.i.path)).length + 1) c5) ((s.L.map (·.i.path)).length + 1) ((s.L.map (·.i.path)).map u64V ++ [u64V s.next]) * starL nodeP (X1 ++ X2)))) * A))))))))) w10 := by
    rw [hMc]; exact h10
  have h11 := ((h10.nilR 30 1).nilR 122 1).ent (Ent.embL _)
  show St w0 (Blk b (.cells #[.int .i32 st, .int .u32 0, .int .u32 0, .int .u32 0, .int .i32 rc, .int .i32 0, .int .i64 s.most, .int .u64 ((s.next : Int) + 1), .map (some y.N), .slice a5 ((s.L.map (·.i.path)).length + 1) c5, .map (some y.C)] 101 (0, 0)) * (MapP encU y.N ((X1 ++ x' :: (X2 ++ [nn])).map kv) * (MapP encK y.C (upd ((x.d.i.path, t.name) : KD) (.int .u64 (s.next : Int)) y.cl) * (RowU (.slice a5 ((s.L.map (·.i.path)).length + 1) c5) ((s.L ++ [freshN s x.d.i.path t]).map (·.i.path)) * starL nodeP (X1 ++ x' :: (X2 ++ [nn]))))) * A) w10
  rw [e4, e5, e1, e2, e3, ← hMc]
  refine St.right (A := RowO 30 1 v8 1 [u64V s.next] * (RowO 30 1 v4 1 [u64V s.next] * (Blk K (.cells [.int .u64 (x.d.i.path : Int), .string (strOf t.name)].toArray 121 (0, 0)) * infB B t))) (h11.ac ?_)
  simp only [NodeB, nodeC]
  ac_rfl

end

theorem makes_any [Gives A Tabs] (ok : StoreOk s y) (hs : y.X = X1 ++ x :: X2) (ht : InfIn t) (hnext : s.next < 9223372036854775808) (hw : Wf (makeF s x.d t).1)
    (h : St w0 (StoreQ b st rc s y * A) w) :
    Calls Tryd.prog 65 #[.pointer (some ⟨b, 0, none⟩), .pointer (some ⟨x.n, 0, none⟩), .agg (infL t).toArray] w (TurnR w0 A b st rc (makeF s x.d t)) := by
  have hx : x ∈ y.X := by rw [hs]; simp
  have hdm : x.d ∈ s.L := ok.perm.mem_iff.1 (List.mem_map.2 ⟨x, hx, rfl⟩)
  have nok := ok.wf.ok _ hdm
  have h0 := h.ac (StoreQ.eq hs)
  refine F65.calls (by simp) ?_
  unfold F65.code
  simp -dsimp -implicitDefEqProofs (disch := omega) only [go_sem, reqD_of, dec_t, dec_f, wrap_i64, wrap_u32, wrap_u64, wrap_u8]
  refine h0.new fun B w1 h1 => ?_
  have hd1 := h1.drew.cl x.n
  have hB1 := h1.drew.cl B
  simp -dsimp -implicitDefEqProofs (disch := omega) only [go_sem, reqD_of, dec_t, dec_f, wrap_i64, wrap_u32, wrap_u64, wrap_u8, hd1, hB1]
  refine onV_of (v := encK (x.d.i.path, t.name)) (by kernel_rfl) ?_
  simp -dsimp -implicitDefEqProofs (disch := omega) only [go_sem, reqD_of, dec_t, dec_f, wrap_i64, wrap_u32, wrap_u64, wrap_u8]
  refine h1.drew.new fun K w2 h2 => ?_
  simp -dsimp -implicitDefEqProofs (disch := omega) only [go_sem, reqD_of, dec_t, dec_f, wrap_i64, wrap_u32, wrap_u64, wrap_u8, h2.cl x.n, h2.cl B]
  simp only [encK]
  refine h2.stoAll (b := K) (cs := [.int .u64 (x.d.i.path : Int), .string (strOf t.name)]) rfl rfl (by intro v hv; simp at hv; rcases hv with rfl | rfl <;> rfl) fun w3 h3 => ?_
  have hK := h3.drew.rowH K 2 rfl
  have hK3 := h3.rowH K 2 rfl
  simp -dsimp -implicitDefEqProofs (disch := omega) only [go_sem, reqD_of, dec_t, dec_f, wrap_i64, wrap_u32, wrap_u64, wrap_u8, h3.cl x.n, h3.cl B, h3.drew.cl x.n, h3.drew.cl B, h3.drew.cl b, hK, hK3]
  refine h3.drew.lkH (b := y.C) (x := ((x.d.i.path, t.name) : KD)) Tryd.underlying94 lawK (z := .int .u64 0) (by kernel_rfl) ?_
  rw [ok.child]
  have hl : lkV (.int .u64 0) true ((childF s.L x.d.i.path t.name).map u64V) = .tuple #[u64V ((childF s.L x.d.i.path t.name).getD 0), .bool (childF s.L x.d.i.path t.name).isSome] := lkV_get (f := u64V) (d := 0) _
  rw [hl]
  obtain ⟨kb, hkb⟩ : ∃ kb, kb = Blk K (.cells [.int .u64 (x.d.i.path : Int), .string (strOf t.name)].toArray 121 (0, 0)) := ⟨_, rfl⟩
  have h4 : St w0 (Blk K (.cells [.int .u64 (x.d.i.path : Int), .string (strOf t.name)].toArray 121 (0, 0)) * (infB B t * (NodeB x.n 0 x.d.i x.vk x.vb * (RowU x.vk x.ks * (BlksP x.vb x.P * (StoreR b st rc s y (y.X.map kv) (X1 ++ X2) * A)))))) w3.drew := h3.drew
  have err : ∀ (w' : World) (k : Nat), St w0 (Blk K (.cells [.int .u64 (x.d.i.path : Int), .string (strOf t.name)].toArray 121 (0, 0)) * (infB B t * (NodeB x.n 0 x.d.i x.vk x.vb * (RowU x.vk x.ks * (BlksP x.vb x.P * (StoreR b st rc s y (y.X.map kv) (X1 ++ X2) * A)))))) w' →
      makeF s x.d t = (s, 0, k) → TurnR w0 A b st rc (makeF s x.d t) (.returned (.tuple #[.int .u64 0, .int .i64 k])) w' := fun w' k h hm => by
    rw [hm]
    exact ⟨y, ok, h.right.right.ac (StoreQ.eq hs).symm, rfl⟩
  have bd := bDir (P := Tryd.prog) (T := 29) nok.mode
  cases hd : dirF x.d.i.mode
  case false =>
    simp only [hd, if_false, Bool.false_eq_true] at bd
    simp -dsimp -implicitDefEqProofs (disch := omega) only [go_sem, reqD_of, dec_t, dec_f, wrap_i64, wrap_u32, wrap_u64, wrap_u8, bd, h4.cl x.n]
    exact err _ 81 h4 (by simp [makeF, hd])
  simp only [hd, if_true] at bd
  simp -dsimp -implicitDefEqProofs (disch := omega) only [go_sem, reqD_of, dec_t, dec_f, wrap_i64, wrap_u32, wrap_u64, wrap_u8, bd, h4.cl x.n, h4.cl B]
  refine (mayMode_any h4 ht.mode).mono ?_
  rintro e w5 ⟨h5, rfl⟩
  cases g1 : modeF t.mode
  case false =>
    simp -dsimp -implicitDefEqProofs (disch := omega) only [go_sem, reqD_of, dec_t, dec_f, wrap_i64, wrap_u32, wrap_u64, wrap_u8]
    exact err _ 1 h5 (by simp [makeF, hd, g1])
  simp -dsimp -implicitDefEqProofs (disch := omega) only [go_sem, reqD_of, dec_t, dec_f, wrap_i64, wrap_u32, wrap_u64, wrap_u8, h5.cl B]
  refine (mayUser_any h5 (Nat.le_trans ht.uid (by omega))).mono ?_
  rintro e w6 ⟨h6, rfl⟩
  cases g2 : userF t.uid
  case false =>
    simp -dsimp -implicitDefEqProofs (disch := omega) only [go_sem, reqD_of, dec_t, dec_f, wrap_i64, wrap_u32, wrap_u64, wrap_u8]
    exact err _ 1 h6 (by simp [makeF, hd, g2])
  simp -dsimp -implicitDefEqProofs (disch := omega) only [go_sem, reqD_of, dec_t, dec_f, wrap_i64, wrap_u32, wrap_u64, wrap_u8, h6.cl B]
  refine (mayUser_any h6 (Nat.le_trans ht.gid (by omega))).mono ?_
  rintro e w7 ⟨h7, rfl⟩
  cases g3 : userF t.gid
  case false =>
    simp -dsimp -implicitDefEqProofs (disch := omega) only [go_sem, reqD_of, dec_t, dec_f, wrap_i64, wrap_u32, wrap_u64, wrap_u8]
    exact err _ 1 h7 (by simp [makeF, hd, g3])
  simp -dsimp -implicitDefEqProofs (disch := omega) only [go_sem, reqD_of, dec_t, dec_f, wrap_i64, wrap_u32, wrap_u64, wrap_u8, h7.cl B]
  refine (mayUser_any h7 (Nat.le_trans ht.muid (by omega))).mono ?_
  rintro e w8 ⟨h8, rfl⟩
  cases g4 : userF t.muid
  case false =>
    simp -dsimp -implicitDefEqProofs (disch := omega) only [go_sem, reqD_of, dec_t, dec_f, wrap_i64, wrap_u32, wrap_u64, wrap_u8]
    exact err _ 1 h8 (by simp [makeF, hd, g4])
  simp -dsimp -implicitDefEqProofs (disch := omega) only [go_sem, reqD_of, dec_t, dec_f, wrap_i64, wrap_u32, wrap_u64, wrap_u8, h8.cl B]
  refine (check_any h8 (Nat.le_trans ht.name (by omega))).mono ?_
  rintro e w9 ⟨h9, rfl⟩
  cases g5 : okName t.name
  case false =>
    simp only [Bool.false_eq_true, if_false]
    simp -dsimp -implicitDefEqProofs (disch := omega) only [go_sem, reqD_of, dec_t, dec_f, wrap_i64, wrap_u32, wrap_u64, wrap_u8]
    exact err _ 50 h9 (by simp [makeF, hd, g1, g2, g3, g4, g5])
  simp only [if_true]
  cases g6 : (childF s.L x.d.i.path t.name).isSome
  case true =>
    simp -dsimp -implicitDefEqProofs (disch := omega) only [go_sem, reqD_of, dec_t, dec_f, wrap_i64, wrap_u32, wrap_u64, wrap_u8]
    exact err _ 82 h9 (by simp [makeF, hd, g1, g2, g3, g4, g5, g6])
  simp -dsimp -implicitDefEqProofs (disch := omega) only [go_sem, reqD_of, dec_t, dec_f, wrap_i64, wrap_u32, wrap_u64, wrap_u8, h9.drew.cl b]
  refine h9.drew.lenH (b := y.N) Tryd.underlying93 ?_
  rw [List.length_map, ok.len]
  by_cases g7 : (s.most : Int) ≤ (s.L.length : Int)
  · simp -dsimp -implicitDefEqProofs (disch := omega) only [go_sem, reqD_of, dec_t, dec_f, wrap_i64, wrap_u32, wrap_u64, wrap_u8, h9.drew.cl b, g7]
    exact err _ 83 h9.drew (by simp [makeF, hd, g1, g2, g3, g4, g5, g6]; omega)
  simp -dsimp -implicitDefEqProofs (disch := omega) only [go_sem, reqD_of, dec_t, dec_f, wrap_i64, wrap_u32, wrap_u64, wrap_u8, h9.drew.cl b, g7]
  have g6' : childF s.L x.d.i.path t.name = none := by simpa using g6
  have hmk : makeF s x.d t = ({ s with next := s.next + 1, L := s.L ++ [freshN s x.d.i.path t] }, s.next, 0) := by
    unfold makeF
    rw [if_neg (by simp [hd]), if_neg (by simp [g1, g2, g3, g4]), if_neg (by simp [g5]), if_neg (by simp [g6]), if_neg (by omega)]
    rfl
  rw [hmk] at hw ⊢
  exact make_t13 ok hs hnext g6' hw h9.drew (by simp -dsimp -implicitDefEqProofs only [go_sem]) (by simp -dsimp -implicitDefEqProofs only [go_sem]) (by simp -dsimp -implicitDefEqProofs only [go_sem]) (by simp -dsimp -implicitDefEqProofs only [go_sem]) (by simp -dsimp -implicitDefEqProofs only [go_sem])
end
end Go.Proofs.YtijnmokpihhhcaaDoor
