/- The law of plain patterns: each character with a backslash before it; as many question marks as there are characters. -/
import Derived.Test.YtlnlomjdooobdaaDoorNlF
namespace Go.Proofs.YtlnlomjdooobdaaDoor
open Go
set_option linter.unusedVariables false
set_option linter.unusedSimpArgs false

/-! ### A pattern without rows -/

def NoRow (ps : List Pc) : Prop := ∀ p ∈ ps, p.1 = false
theorem NoRow.cl {ps : List Pc} (h : NoRow ps) {i k : Nat} : Cl ps i k ↔ k = i := by
  refine ⟨fun c => ?_, fun e => e ▸ Cl.self ps i⟩
  rcases Nat.lt_or_ge i k with h1 | h1
  · have hr := c.2 i (Nat.le_refl _) h1
    have hl := rowAt_lt hr
    have := h _ (List.getElem_mem hl)
    simp [rowAt, hl, this] at hr
  · have := c.1; omega
theorem run_plain {ps : List Pc} (h : NoRow ps) : ∀ (cs : List Nat) (i : Nat) (X : Prop) (s : List Bool), (∀ k, k ≤ ps.length → (s.getD k false = true ↔ (k = i ∧ X))) →
    ((runM ps s cs).getD ps.length false = true ↔ (X ∧ i + cs.length = ps.length ∧ ∀ (j : Nat) (p : Pc) (c : Nat), ps[i + j]? = some p → cs[j]? = some c → takesF p c = true))
  | [], i, X, s, hs => by
    rw [runM, hs _ (Nat.le_refl _)]
    refine ⟨fun ⟨a, b⟩ => ⟨b, by simp [a], fun j p c h1 h2 => by simp at h2⟩, fun ⟨a, b, _⟩ => ⟨by simp at b; omega, a⟩⟩
  | c :: cs, i, X, s, hs => by
    rw [runM, run_plain h cs (i + 1) (X ∧ ∃ p, ps[i]? = some p ∧ takesF p c = true) (stepM ps s c) fun k hk => ?_]
    · refine ⟨fun ⟨⟨a, p, h1, h2⟩, b, d⟩ => ⟨a, by simp; omega, fun j q x h3 h4 => ?_⟩, fun ⟨a, b, d⟩ => ?_⟩
      · cases j with
        | zero => simp at h3 h4; subst h4; rw [h1] at h3; cases h3; exact h2
        | succ j => exact d j q x (by rw [show i + 1 + j = i + (j + 1) by omega]; exact h3) (by simpa using h4)
      · simp only [List.length_cons] at b
        have hi : i < ps.length := by omega
        refine ⟨⟨a, ps[i], List.getElem?_eq_getElem hi, d 0 _ c (List.getElem?_eq_getElem hi) rfl⟩, by omega, fun j q x h3 h4 => ?_⟩
        exact d (j + 1) q x (by rw [show i + (j + 1) = i + 1 + j by omega]; exact h3) (by simpa using h4)
    · rw [stepM_get ps s c k hk]
      refine ⟨fun ⟨j, p, h1, h2, h3⟩ => ?_, fun ⟨e, a, p, h1, h2⟩ => ?_⟩
      · have hj := (List.getElem?_eq_some_iff.1 h1).1
        obtain ⟨rfl, hx⟩ := (hs j (by omega)).1 h2
        rcases h3 with ⟨a, b⟩ | ⟨a, b, d⟩
        · rw [h p (List.mem_of_getElem? h1)] at a; cases a
        · exact ⟨h.cl.1 d, hx, p, h1, b⟩
      · have hj := (List.getElem?_eq_some_iff.1 h1).1
        exact ⟨i, p, h1, (hs i (by omega)).2 ⟨rfl, a⟩, .inr ⟨h p (List.mem_of_getElem? h1), h2, h.cl.2 e⟩⟩
theorem match_plain {ps : List Pc} (h : NoRow ps) (cs : List Nat) : matchB ps cs = true ↔ (cs.length = ps.length ∧ ∀ (j : Nat) (p : Pc) (c : Nat), ps[j]? = some p → cs[j]? = some c → takesF p c = true) := by
  have := run_plain h cs 0 True (start ps) fun k hk => by rw [start_get ps k hk, h.cl]; simp
  unfold matchB
  rw [this]
  simp
abbrev litP (r : Nat) : Pc := (false, false, [(r, r)])
abbrev anyP : Pc := (false, true, [])
theorem takes_lit (r c : Nat) : takesF (litP r) c = true ↔ c = r := by
  simp only [takesF, List.any_cons, List.any_nil, Bool.or_false]
  by_cases e : c = r
  · subst e; simp
  · simp [e]; omega
theorem match_lits (rs cs : List Nat) : matchB (rs.map litP) cs = decide (cs = rs) := by
  have h := match_plain (ps := rs.map litP) (fun p hp => by obtain ⟨r, _, rfl⟩ := List.mem_map.1 hp; rfl) cs
  by_cases e : cs = rs
  · subst e
    rw [decide_eq_true rfl, h]
    refine ⟨by simp, fun j p c h1 h2 => ?_⟩
    rw [List.getElem?_map, h2] at h1
    cases h1
    exact (takes_lit c c).2 rfl
  · rw [decide_eq_false e]
    cases hm : matchB (rs.map litP) cs
    · rfl
    · obtain ⟨h1, h2⟩ := h.1 hm
      rw [List.length_map] at h1
      refine absurd (List.ext_getElem h1 fun j a b => ?_) e
      exact (takes_lit _ _).1 (h2 j (litP rs[j]) cs[j] (by rw [List.getElem?_map, List.getElem?_eq_getElem b]; rfl) (List.getElem?_eq_getElem a))
theorem match_anys (n : Nat) (cs : List Nat) : matchB (List.replicate n anyP) cs = decide (cs.length = n) := by
  have h := match_plain (ps := List.replicate n anyP) (fun p hp => by rw [(List.mem_replicate.1 hp).2]) cs
  rw [List.length_replicate] at h
  by_cases e : cs.length = n
  · rw [decide_eq_true e, h]
    refine ⟨e, fun j p c h1 h2 => ?_⟩
    have := (List.mem_replicate.1 (List.mem_of_getElem? h1)).2
    subst this; rfl
  · rw [decide_eq_false e]
    cases hm : matchB (List.replicate n anyP) cs
    · rfl
    · exact absurd (h.1 hm).1 e

/-! ### Characters decide the text -/

theorem decodeN_inj {n b0 b1 b2 b3 m c0 c1 c2 c3 : Nat} (hb : b0 < 256) (hc : c0 < 256) (hb1 : b1 < 256) (hb2 : b2 < 256) (hb3 : b3 < 256) (hc1 : c1 < 256) (hc2 : c2 < 256) (hc3 : c3 < 256)
    (g1 : ¬ ((Lib.decodeN n b0 b1 b2 b3).1 = 65533 ∧ (Lib.decodeN n b0 b1 b2 b3).2 = 1)) (g2 : ¬ ((Lib.decodeN m c0 c1 c2 c3).1 = 65533 ∧ (Lib.decodeN m c0 c1 c2 c3).2 = 1))
    (h : (Lib.decodeN n b0 b1 b2 b3).1 = (Lib.decodeN m c0 c1 c2 c3).1) : (Lib.decodeN n b0 b1 b2 b3).2 = (Lib.decodeN m c0 c1 c2 c3).2 ∧ b0 = c0 ∧
      (1 < (Lib.decodeN n b0 b1 b2 b3).2 → b1 = c1) ∧ (2 < (Lib.decodeN n b0 b1 b2 b3).2 → b2 = c2) ∧ (3 < (Lib.decodeN n b0 b1 b2 b3).2 → b3 = c3) := by
  have key : ∀ n b0 b1 b2 b3 : Nat, b0 < 256 → b1 < 256 → b2 < 256 → b3 < 256 → ¬ ((Lib.decodeN n b0 b1 b2 b3).1 = 65533 ∧ (Lib.decodeN n b0 b1 b2 b3).2 = 1) →
      ((Lib.decodeN n b0 b1 b2 b3).2 = 1 ∧ (Lib.decodeN n b0 b1 b2 b3).1 < 128 ∧ b0 = (Lib.decodeN n b0 b1 b2 b3).1) ∨
      ((Lib.decodeN n b0 b1 b2 b3).2 = 2 ∧ 128 ≤ (Lib.decodeN n b0 b1 b2 b3).1 ∧ (Lib.decodeN n b0 b1 b2 b3).1 < 2048 ∧ b0 = 192 + (Lib.decodeN n b0 b1 b2 b3).1 / 64 ∧ b1 = 128 + (Lib.decodeN n b0 b1 b2 b3).1 % 64) ∨
      ((Lib.decodeN n b0 b1 b2 b3).2 = 3 ∧ 2048 ≤ (Lib.decodeN n b0 b1 b2 b3).1 ∧ (Lib.decodeN n b0 b1 b2 b3).1 < 65536 ∧ b0 = 224 + (Lib.decodeN n b0 b1 b2 b3).1 / 4096 ∧ b1 = 128 + (Lib.decodeN n b0 b1 b2 b3).1 / 64 % 64 ∧ b2 = 128 + (Lib.decodeN n b0 b1 b2 b3).1 % 64) ∨
      ((Lib.decodeN n b0 b1 b2 b3).2 = 4 ∧ 65536 ≤ (Lib.decodeN n b0 b1 b2 b3).1 ∧ b0 = 240 + (Lib.decodeN n b0 b1 b2 b3).1 / 262144 ∧ b1 = 128 + (Lib.decodeN n b0 b1 b2 b3).1 / 4096 % 64 ∧ b2 = 128 + (Lib.decodeN n b0 b1 b2 b3).1 / 64 % 64 ∧ b3 = 128 + (Lib.decodeN n b0 b1 b2 b3).1 % 64) := by
    intro n b0 b1 b2 b3 h0 h1 h2 h3 g
    have no : ∀ e : Lib.decodeN n b0 b1 b2 b3 = (65533, 1), False := fun e => g (by rw [e]; exact ⟨rfl, rfl⟩)
    clear g
    by_cases a1 : b0 < 128
    · have e : Lib.decodeN n b0 b1 b2 b3 = (b0, 1) := by rw [Lib.decodeN, if_pos a1]
      rw [e]; exact .inl ⟨rfl, a1, rfl⟩
    by_cases a2 : b0 / 32 = 6 ∧ (1 < n ∧ b1 / 64 = 2)
    · by_cases a3 : b0 % 32 * 64 + b1 % 64 ≥ 128
      · have e : Lib.decodeN n b0 b1 b2 b3 = (b0 % 32 * 64 + b1 % 64, 2) := by rw [Lib.decodeN, if_neg a1, if_pos a2, if_pos a3]
        rw [e]; exact .inr (.inl ⟨rfl, by show 128 ≤ _; omega, by show _ < 2048; omega, by show b0 = 192 + (b0 % 32 * 64 + b1 % 64) / 64; omega, by show b1 = 128 + (b0 % 32 * 64 + b1 % 64) % 64; omega⟩)
      · exact (no (by rw [Lib.decodeN, if_neg a1, if_pos a2, if_neg a3])).elim
    by_cases a3 : b0 / 16 = 14 ∧ (1 < n ∧ b1 / 64 = 2) ∧ (2 < n ∧ b2 / 64 = 2)
    · by_cases a4 : b0 % 16 * 4096 + b1 % 64 * 64 + b2 % 64 ≥ 2048 ∧ (b0 % 16 * 4096 + b1 % 64 * 64 + b2 % 64 < 55296 ∨ (57344 ≤ b0 % 16 * 4096 + b1 % 64 * 64 + b2 % 64 ∧ b0 % 16 * 4096 + b1 % 64 * 64 + b2 % 64 ≤ 1114111))
      · have e : Lib.decodeN n b0 b1 b2 b3 = (b0 % 16 * 4096 + b1 % 64 * 64 + b2 % 64, 3) := by rw [Lib.decodeN, if_neg a1, if_neg a2, if_pos a3, if_pos a4]
        rw [e]; refine .inr (.inr (.inl ⟨rfl, ?_, ?_, ?_, ?_, ?_⟩)) <;> simp only <;> omega
      · exact (no (by rw [Lib.decodeN, if_neg a1, if_neg a2, if_pos a3, if_neg a4])).elim
    by_cases a4 : b0 / 8 = 30 ∧ (1 < n ∧ b1 / 64 = 2) ∧ (2 < n ∧ b2 / 64 = 2) ∧ (3 < n ∧ b3 / 64 = 2)
    · by_cases a5 : b0 % 8 * 262144 + b1 % 64 * 4096 + b2 % 64 * 64 + b3 % 64 ≥ 65536 ∧ (b0 % 8 * 262144 + b1 % 64 * 4096 + b2 % 64 * 64 + b3 % 64 < 55296 ∨ (57344 ≤ b0 % 8 * 262144 + b1 % 64 * 4096 + b2 % 64 * 64 + b3 % 64 ∧ b0 % 8 * 262144 + b1 % 64 * 4096 + b2 % 64 * 64 + b3 % 64 ≤ 1114111))
      · have e : Lib.decodeN n b0 b1 b2 b3 = (b0 % 8 * 262144 + b1 % 64 * 4096 + b2 % 64 * 64 + b3 % 64, 4) := by rw [Lib.decodeN, if_neg a1, if_neg a2, if_neg a3, if_pos a4, if_pos a5]
        rw [e]; refine .inr (.inr (.inr ⟨rfl, ?_, ?_, ?_, ?_, ?_⟩)) <;> simp only <;> omega
      · exact (no (by rw [Lib.decodeN, if_neg a1, if_neg a2, if_neg a3, if_pos a4, if_neg a5])).elim
    · exact (no (by rw [Lib.decodeN, if_neg a1, if_neg a2, if_neg a3, if_neg a4])).elim
  have k1 := key n b0 b1 b2 b3 hb hb1 hb2 hb3 g1
  have k2 := key m c0 c1 c2 c3 hc hc1 hc2 hc3 g2
  generalize (Lib.decodeN n b0 b1 b2 b3).1 = r at *
  generalize (Lib.decodeN n b0 b1 b2 b3).2 = x at *
  generalize (Lib.decodeN m c0 c1 c2 c3).1 = r' at *
  generalize (Lib.decodeN m c0 c1 c2 c3).2 = x' at *
  subst h
  omega
theorem runes_inj {a b : List UInt8} (ga : good a = true) (gb : good b = true) (h : runes a = runes b) : a = b := by
  generalize hn : a.length = n
  induction n using Nat.strongRecOn generalizing a b with
  | _ n ih =>
    by_cases ea : a = []
    · by_cases eb : b = []
      · rw [ea, eb]
      · rw [ea, runes_nil, runes_cons eb] at h; cases h
    · by_cases eb : b = []
      · rw [eb, runes_nil, runes_cons ea] at h; cases h
      · rw [runes_cons ea, runes_cons eb] at h
        obtain ⟨a1, a2⟩ := good_parts ea ga
        obtain ⟨b1, b2⟩ := good_parts eb gb
        have wa := decL_width a ea
        have wb := decL_width b eb
        simp only [List.cons.injEq] at h
        have hi := decodeN_inj (n := a.length) (m := b.length) (UInt8.toNat_lt (a.getD 0 0)) (UInt8.toNat_lt (b.getD 0 0)) (UInt8.toNat_lt (a.getD 1 0)) (UInt8.toNat_lt (a.getD 2 0)) (UInt8.toNat_lt (a.getD 3 0)) (UInt8.toNat_lt (b.getD 1 0)) (UInt8.toNat_lt (b.getD 2 0)) (UInt8.toNat_lt (b.getD 3 0)) a1 b1 h.1
        obtain ⟨h2, d0, d1, d2, d3⟩ := hi
        have h2 : (decL a).2 = (decL b).2 := h2
        have d1 : 1 < (decL a).2 → _ := d1
        have d2 : 2 < (decL a).2 → _ := d2
        have d3 : 3 < (decL a).2 → _ := d3
        have hd := ih (a.drop (decL a).2).length (by simp; omega) a2 b2 h.2 rfl
        have ht : a.take (decL a).2 = b.take (decL a).2 := by
          refine List.ext_getElem (by simp; omega) fun j h1 h3 => ?_
          simp only [List.length_take] at h1 h3
          have hj : a.getD j 0 = b.getD j 0 := by
            have : j = 0 ∨ j = 1 ∨ j = 2 ∨ j = 3 := by omega
            rcases this with rfl | rfl | rfl | rfl
            · exact UInt8.toNat_inj.1 d0
            · exact UInt8.toNat_inj.1 (d1 (by omega))
            · exact UInt8.toNat_inj.1 (d2 (by omega))
            · exact UInt8.toNat_inj.1 (d3 (by omega))
          simp only [List.getD_eq_getElem?_getD, List.getElem?_eq_getElem (show j < a.length by omega), List.getElem?_eq_getElem (show j < b.length by omega), Option.getD_some] at hj
          simpa using hj
        rw [← List.take_append_drop (decL a).2 a, ← List.take_append_drop (decL a).2 b, ht, hd, h2]
end Go.Proofs.YtlnlomjdooobdaaDoor
