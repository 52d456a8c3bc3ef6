/- TopRecords: numbers as bytes; what a writer does; a record's bytes (plain laws). -/
import Derived.Test.YtonajgmamdeohaaGreatDoorTrA
namespace Go.Proofs.YtonajgmamdeohaaGreatDoor
open Go
set_option linter.unusedVariables false
set_option linter.unusedSimpArgs false

/-- A number, its lowest byte first. -/
def leN : Nat → Nat → List UInt8
  | 0, _ => []
  | w + 1, n => UInt8.ofNat (n % 256) :: leN w (n / 256)
theorem leN_length : ∀ (w n : Nat), (leN w n).length = w
  | 0, _ => rfl
  | w + 1, n => by simp [leN, leN_length w]
def deN : List UInt8 → Nat
  | [] => 0
  | b :: l => b.toNat + 256 * deN l
theorem ofNat_toNat {n : Nat} (h : n < 256) : (UInt8.ofNat n).toNat = n := by
  simp only [UInt8.toNat_ofNat']
  omega
theorem deN_leN : ∀ (w n : Nat), deN (leN w n) = n % 256 ^ w
  | 0, n => by simp [leN, deN, Nat.mod_one]
  | w + 1, n => by
    simp only [leN, deN]
    rw [ofNat_toNat (by omega), deN_leN w (n / 256), Nat.pow_succ, Nat.mul_comm (256 ^ w) 256, Nat.mod_mul]
theorem deN_lt : ∀ l : List UInt8, deN l < 256 ^ l.length
  | [] => by simp [deN]
  | b :: l => by
    have := deN_lt l
    have hb := b.toNat_lt
    simp only [deN, List.length_cons, Nat.pow_succ]
    omega
theorem deN_append : ∀ (a b : List UInt8), deN (a ++ b) = deN a + 256 ^ a.length * deN b
  | [], b => by simp [deN]
  | x :: a, b => by
    simp only [List.cons_append, deN, deN_append a b, List.length_cons, Nat.pow_succ]
    rw [Nat.mul_add, Nat.mul_comm (256 ^ a.length) 256, Nat.mul_assoc, Nat.add_assoc]
theorem deN_take {l : List UInt8} {i : Nat} (h : i < l.length) : deN (l.take (i + 1)) = deN (l.take i) + 256 ^ i * l[i].toNat := by
  rw [List.take_succ_eq_append_getElem h, deN_append, List.length_take, Nat.min_eq_left (by omega)]
  simp [deN]

/-- A writer. -/
structure WS where
  lim : Nat
  b : List UInt8
  op : List Nat
  err : Int
/-- So many bytes are to be written: is there room? -/
def roomS (n : Nat) (s : WS) : WS := if s.err = 0 ∧ s.lim < s.b.length + n then { s with err := 11 } else s
def hasRoom (n : Nat) (s : WS) : Bool := decide (s.err = 0 ∧ s.b.length + n ≤ s.lim)
def rawS (l : List UInt8) (s : WS) : WS := if hasRoom l.length s = true then { s with b := s.b ++ l } else roomS l.length s
def textS (l : List UInt8) (s : WS) : WS :=
  if s.err ≠ 0 then s else if 65535 < l.length then { s with err := 13 } else if good l = false then { s with err := 12 } else rawS (leN 2 l.length ++ l) s
def openS (s : WS) : WS := if hasRoom 2 s = true then { s with b := s.b ++ [0, 0], op := s.op ++ [s.b.length] } else roomS 2 s
def placeS (s : WS) : Nat := if hasRoom 2 s = true then s.b.length else 0
/-- The count of a part, in its place. -/
def setB (p n : Nat) (b : List UInt8) : List UInt8 := (b.set p (UInt8.ofNat (n % 256))).set (p + 1) (UInt8.ofNat (n / 256 % 256))
def shutS (p : Nat) (s : WS) : WS :=
  if s.err ≠ 0 then s else if 65535 < s.b.length - p - 2 then { s with err := 13 } else { s with b := setB p (s.b.length - p - 2) s.b, op := s.op.dropLast }
theorem setB_at (p q : List UInt8) (n : Nat) (x y : UInt8) : setB p.length n (p ++ x :: y :: q) = p ++ leN 2 n ++ q := by
  unfold setB leN leN leN
  rw [List.set_append_right _ _ (by omega), Nat.sub_self, List.set_cons_zero, List.set_append_right _ _ (by omega), show p.length + 1 - p.length = 1 by omega]
  simp
/-- A piece of a record: bytes, or a text. -/
inductive Pc
  | raw (l : List UInt8)
  | txt (l : List UInt8)
def Pc.bytes : Pc → List UInt8
  | .raw l => l
  | .txt l => leN 2 l.length ++ l
def Pc.ok : Pc → Bool
  | .raw _ => true
  | .txt l => decide (l.length ≤ 65535) && good l
def pcS : Pc → WS → WS
  | .raw l => rawS l
  | .txt l => textS l
def pcsS (ps : List Pc) (s : WS) : WS := ps.foldl (fun s p => pcS p s) s
def bytesL (ps : List Pc) : List UInt8 := ps.flatMap Pc.bytes
theorem rawS_err {l : List UInt8} {s : WS} (h : s.err ≠ 0) : rawS l s = s := by
  unfold rawS roomS hasRoom
  rw [if_neg (by simp [h]), if_neg (by simp [h])]
theorem rawS_ok {l : List UInt8} {s : WS} (h : s.err = 0) (hl : s.b.length + l.length ≤ s.lim) : rawS l s = { s with b := s.b ++ l } := by
  unfold rawS hasRoom
  rw [if_pos (by simp [h, hl])]
theorem rawS_full {l : List UInt8} {s : WS} (h : s.err = 0) (hl : s.lim < s.b.length + l.length) : (rawS l s).err = 11 := by
  unfold rawS roomS hasRoom
  rw [if_neg (by simp; omega), if_pos ⟨h, hl⟩]
theorem pcS_err {p : Pc} {s : WS} (h : s.err ≠ 0) : pcS p s = s := by
  cases p with
  | raw l => exact rawS_err h
  | txt l => show textS l s = s; unfold textS; rw [if_pos h]
theorem pcsS_err {ps : List Pc} {s : WS} (h : s.err ≠ 0) : pcsS ps s = s := by
  induction ps with
  | nil => rfl
  | cons p ps ih => show pcsS ps (pcS p s) = s; rw [pcS_err h]; exact ih
theorem pcS_law {p : Pc} {s : WS} (h : s.err = 0) :
    (p.ok = true ∧ s.b.length + p.bytes.length ≤ s.lim ∧ pcS p s = { s with b := s.b ++ p.bytes }) ∨ (¬ (p.ok = true ∧ s.b.length + p.bytes.length ≤ s.lim) ∧ (pcS p s).err ≠ 0) := by
  cases p with
  | raw l =>
    by_cases hl : s.b.length + l.length ≤ s.lim
    · exact .inl ⟨rfl, hl, rawS_ok h hl⟩
    · refine .inr ⟨fun k => hl k.2, ?_⟩
      show (rawS l s).err ≠ 0
      rw [rawS_full h (by omega)]
      decide
  | txt l =>
    show (_ ∧ _ ∧ textS l s = _) ∨ (_ ∧ (textS l s).err ≠ 0)
    unfold textS
    rw [if_neg (by simp [h])]
    by_cases h1 : 65535 < l.length
    · refine .inr ⟨fun k => ?_, by rw [if_pos h1]; exact (show (13 : Int) ≠ 0 by decide)⟩
      have := k.1
      simp only [Pc.ok, Bool.and_eq_true, decide_eq_true_eq] at this
      omega
    rw [if_neg h1]
    by_cases h2 : good l = false
    · refine .inr ⟨fun k => ?_, by rw [if_pos h2]; exact (show (12 : Int) ≠ 0 by decide)⟩
      have := k.1
      simp only [Pc.ok, Bool.and_eq_true, decide_eq_true_eq, h2] at this
      exact absurd this.2 (by decide)
    rw [if_neg h2]
    have h2' : good l = true := by simpa using h2
    by_cases hl : s.b.length + (leN 2 l.length ++ l).length ≤ s.lim
    · exact .inl ⟨by simp only [Pc.ok, h2', Bool.and_true, decide_eq_true_eq]; omega, hl, rawS_ok h hl⟩
    · refine .inr ⟨fun k => hl k.2, ?_⟩
      rw [rawS_full h (by omega)]
      decide
theorem pcsS_law : ∀ {ps : List Pc} {s : WS}, s.err = 0 → s.b.length ≤ s.lim →
    (ps.all Pc.ok = true ∧ s.b.length + (bytesL ps).length ≤ s.lim ∧ pcsS ps s = { s with b := s.b ++ bytesL ps }) ∨ (¬ (ps.all Pc.ok = true ∧ s.b.length + (bytesL ps).length ≤ s.lim) ∧ (pcsS ps s).err ≠ 0)
  | [], s, h, hs => .inl ⟨rfl, by simpa [bytesL] using hs, by simp [pcsS, bytesL]⟩
  | p :: ps, s, h, hs => by
    have e1 : pcsS (p :: ps) s = pcsS ps (pcS p s) := rfl
    have e2 : bytesL (p :: ps) = p.bytes ++ bytesL ps := rfl
    rw [e1, e2]
    rcases pcS_law (p := p) h with ⟨h1, h2, h3⟩ | ⟨h1, h2⟩
    · rw [h3]
      rcases pcsS_law (ps := ps) (s := { s with b := s.b ++ p.bytes }) h (by simpa using h2) with ⟨k1, k2, k3⟩ | ⟨k1, k2⟩
      · simp only [List.length_append] at k2
        exact .inl ⟨by simp [List.all_cons, h1, k1], by simp only [List.length_append]; omega, by rw [k3]; simp⟩
      · refine .inr ⟨fun k => k1 ⟨?_, ?_⟩, k2⟩
        · have := k.1; simp only [List.all_cons, Bool.and_eq_true] at this; exact this.2
        · have := k.2; simp only [List.length_append] at this ⊢; omega
    · rw [pcsS_err h2]
      refine .inr ⟨fun k => h1 ⟨?_, ?_⟩, h2⟩
      · have := k.1; simp only [List.all_cons, Bool.and_eq_true] at this; exact this.1
      · have := k.2; simp only [List.length_append] at this; omega

/-- A record. -/
structure StatD where
  ty : Nat
  dev : Nat
  qk : Nat
  qv : Nat
  qp : Nat
  mode : Nat
  at' : Nat
  mt : Nat
  len : Nat
  name : List UInt8
  uid : List UInt8
  gid : List UInt8
  muid : List UInt8
def StatD.pcs (d : StatD) : List Pc := [.raw (leN 2 d.ty), .raw (leN 4 d.dev), .raw (leN 1 d.qk), .raw (leN 4 d.qv), .raw (leN 8 d.qp), .raw (leN 4 d.mode), .raw (leN 4 d.at'), .raw (leN 4 d.mt), .raw (leN 8 d.len), .txt d.name, .txt d.uid, .txt d.gid, .txt d.muid]
def StatD.size (d : StatD) : Nat := 49 + d.name.length + d.uid.length + d.gid.length + d.muid.length
def StatD.body (d : StatD) : List UInt8 := bytesL d.pcs
theorem StatD.body_len (d : StatD) : d.body.length + 2 = d.size := by
  simp only [StatD.body, bytesL, StatD.pcs, List.flatMap_cons, List.flatMap_nil, Pc.bytes, List.length_append, leN_length, List.length_nil, StatD.size]
  omega
def StatD.bytes (d : StatD) : List UInt8 := leN 2 (d.size - 2) ++ d.body
theorem StatD.bytes_len (d : StatD) : d.bytes.length = d.size := by
  have := d.body_len
  simp only [StatD.bytes, List.length_append, leN_length]
  omega
def StatD.ok (d : StatD) : Bool := d.pcs.all Pc.ok
/-- A record is put. -/
def statS (d : StatD) (s : WS) : WS := shutS (placeS s) (pcsS d.pcs (openS s))
theorem statS_err {d : StatD} {s : WS} (h : s.err ≠ 0) : (statS d s).err ≠ 0 := by
  have e1 : openS s = s := by unfold openS hasRoom roomS; rw [if_neg (by simp [h]), if_neg (by simp [h])]
  unfold statS shutS
  rw [e1, pcsS_err h, if_pos h]
  exact h
theorem statS_law {d : StatD} {s : WS} (h : s.err = 0) (hs : s.b.length ≤ s.lim) :
    (d.ok = true ∧ s.b.length + d.size ≤ s.lim ∧ d.size ≤ 65537 ∧ statS d s = { s with b := s.b ++ d.bytes }) ∨ (¬ (d.ok = true ∧ s.b.length + d.size ≤ s.lim ∧ d.size ≤ 65537) ∧ (statS d s).err ≠ 0) := by
  have hbl := d.body_len
  by_cases h2 : s.b.length + 2 ≤ s.lim
  · have e1 : openS s = { s with b := s.b ++ [0, 0], op := s.op ++ [s.b.length] } := by unfold openS hasRoom; rw [if_pos (by simp [h, h2])]
    have e2 : placeS s = s.b.length := by unfold placeS hasRoom; rw [if_pos (by simp [h, h2])]
    unfold statS
    rw [e1, e2]
    rcases pcsS_law (ps := d.pcs) (s := { s with b := s.b ++ [0, 0], op := s.op ++ [s.b.length] }) h (by simpa using h2) with ⟨k1, k2, k3⟩ | ⟨k1, k2⟩
    · rw [k3]
      have k2' : s.b.length + 2 + d.body.length ≤ s.lim := by simpa [StatD.body] using k2
      have hn : (s.b ++ [0, 0] ++ bytesL d.pcs).length - s.b.length - 2 = d.size - 2 := by
        show (s.b ++ [0, 0] ++ d.body).length - s.b.length - 2 = d.size - 2
        simp only [List.length_append, List.length_cons, List.length_nil]
        omega
      unfold shutS
      simp only [hn, h]
      rw [if_neg (by simp)]
      by_cases h3 : 65535 < d.size - 2
      · rw [if_pos h3]
        exact .inr ⟨fun k => by omega, (show (13 : Int) ≠ 0 by decide)⟩
      · rw [if_neg h3]
        refine .inl ⟨k1, by omega, by omega, ?_⟩
        have e3 : s.b ++ [0, 0] ++ bytesL d.pcs = s.b ++ (0 : UInt8) :: 0 :: d.body := by simp [StatD.body]
        rw [e3, setB_at]
        simp [StatD.bytes, h]
    · refine .inr ⟨fun k => k1 ⟨k.1, ?_⟩, ?_⟩
      · show (s.b ++ [0, 0]).length + d.body.length ≤ s.lim
        simp only [List.length_append, List.length_cons, List.length_nil]
        omega
      · unfold shutS
        rw [if_pos k2]
        exact k2
  · have e1 : (openS s).err ≠ 0 := by
      unfold openS hasRoom roomS
      rw [if_neg (by simp; omega), if_pos ⟨h, by omega⟩]
      exact (show (11 : Int) ≠ 0 by decide)
    refine .inr ⟨fun k => ?_, ?_⟩
    · have := k.2.1
      have h49 : 49 ≤ d.size := by unfold StatD.size; omega
      omega
    · unfold statS shutS
      rw [pcsS_err e1, if_pos e1]
      exact e1
end Go.Proofs.YtonajgmamdeohaaGreatDoor
