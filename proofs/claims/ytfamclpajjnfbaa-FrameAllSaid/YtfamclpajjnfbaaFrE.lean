/- FrameStays: what comes in, what it costs, frames that are made. -/
import Derived.Test.YtfamclpajjnfbaaFrD
import Derived.Test.YtfamclpajjnfbaaArgs
namespace Go.Proofs.Ytfamclpajjnfbaa
open Go
set_option linter.unusedSimpArgs false
set_option linter.unusedVariables false
set_option maxRecDepth 100000

/-! ### Arguments -/

abbrev rFrames := rSlice 1 24 rBytes
abbrev rOp := rCons 1 (rInt .i64) (rCons 1 (rInt .i64) (rCons 1 rBytes (rCons 1 (rInt .u32) rEnd)))
abbrev rOps := rSlice 4 48 rOp

theorem bytesElem {w0 : World} {xs : List (List UInt8)} {a : Option Addr} {n cap j : Nat} (k : Ent (Old w0) (rFrames.at xs [.slice a n cap])) (hj : j < xs.length) :
    ∃ g o a' cap', a = some ⟨g, o, none⟩ ∧ Ent (Old w0) (RdB (.slice a' xs[j].length cap') xs[j]) ∧ xs[j].length ≤ 140737488351232 ∧ ∀ (F : HP) (u : World), St w0 (Old w0 * F) u → u.cell? ⟨g, o + j, none⟩ = some (.slice a' xs[j].length cap') := by
  obtain ⟨g, o, cs, rfl, hcs, hel, hc⟩ := Rdr.elemEnt k hj
  obtain ⟨v, rfl, hr, hb⟩ := (St.start w0).reader hel
  have hr2 := hr
  obtain ⟨_, a', cap', rfl, _, _⟩ := hr2
  refine ⟨g, o, a', cap', rfl, Ent.of fun h ho => Reads.mono (fun b o e => ho b o e) hr, hb, fun F u hu => ?_⟩
  have := hc F u hu 0 (by omega)
  simpa using this

theorem opElem {w0 : World} {xs : List (Int × Int × List UInt8 × Int × Unit)} {a : Option Addr} {n cap j : Nat} (k : Ent (Old w0) (rOps.at xs [.slice a n cap])) (hj : j < xs.length) :
    ∃ g o a' cap', a = some ⟨g, o, none⟩ ∧ Ent (Old w0) (RdB (.slice a' xs[j].2.2.1.length cap') xs[j].2.2.1) ∧ xs[j].2.2.1.length ≤ 140737488351232 ∧ (0 ≤ xs[j].2.2.2.1 ∧ xs[j].2.2.2.1 < 4294967296) ∧
      ∀ (F : HP) (u : World), St w0 (Old w0 * F) u → u.cell? ⟨g, o + j * 4, none⟩ = some (.int .i64 xs[j].1) ∧ u.cell? ⟨g, o + j * 4 + 1, none⟩ = some (.int .i64 xs[j].2.1) ∧
        u.cell? ⟨g, o + j * 4 + 2, none⟩ = some (.slice a' xs[j].2.2.1.length cap') ∧ u.cell? ⟨g, o + j * 4 + 3, none⟩ = some (.int .u32 xs[j].2.2.2.1) := by
  obtain ⟨g, o, cs, rfl, hcs, hel, hc⟩ := Rdr.elemEnt k hj
  obtain ⟨c1, c2, rfl, _, ⟨rfl, _⟩, d1, d2, rfl, _, ⟨rfl, _⟩, e1, e2, rfl, _, ⟨v, rfl, hr, hb⟩, f1, f2, rfl, _, ⟨rfl, hw⟩, rfl⟩ := (St.start w0).reader hel
  have hr2 := hr
  obtain ⟨_, a', cap', rfl, _, _⟩ := hr2
  have hmin : IntKind.u32.min = 0 := rfl
  have hmax : IntKind.u32.max = 4294967295 := rfl
  simp [Lit.wf, hmin, hmax] at hw
  refine ⟨g, o, a', cap', rfl, Ent.of fun h ho => Reads.mono (fun b o e => ho b o e) hr, hb, by omega, fun F u hu => ⟨?_, ?_, ?_, ?_⟩⟩
  · simpa using hc F u hu 0 (by omega)
  · simpa using hc F u hu 1 (by omega)
  · simpa using hc F u hu 2 (by omega)
  · simpa using hc F u hu 3 (by omega)

/-- What rows cost. -/
def total {α : Type} (f : α → Nat) (l : List α) : Nat := (l.map f).sum
theorem total_take {α : Type} (f : α → Nat) (l : List α) {i : Nat} (hi : i < l.length) : total f (l.take (i + 1)) = total f (l.take i) + f l[i] := by
  simp only [total]
  rw [List.take_succ_eq_append_getElem hi, List.map_append, List.sum_append]
  simp
theorem total_mem {α : Type} (f : α → Nat) : ∀ (l : List α) (i : Nat) (hi : i < l.length), total f (l.take i) + f l[i] ≤ total f l
  | x :: l, 0, _ => by simp [total]
  | x :: l, i + 1, hi => by
    have := total_mem f l i (by simpa using hi)
    simp only [total, List.take_succ_cons, List.map_cons, List.sum_cons, List.getElem_cons_succ] at this ⊢
    omega

def costB (b : List UInt8) : Nat := 16 + b.length
def costO (o : Int × Int × List UInt8 × Int × Unit) : Nat := 16 + o.2.2.1.length + if o.2.1 = 6 then 70000 else 0

section
attribute [local go_sem] F18.t4_eq F18.t5_eq F18.t6_eq
theorem many_any {w0 w : World} {F : HP} {v : Value} {l : List (List UInt8)} (h : St w0 (Old w0 * F) w) (ha : Ent (Old w0) (rFrames.at l [v])) :
    Calls Try.prog 18 #[v] w fun e w' => St w0 (Old w0 * F) w' ∧ ∃ k : Nat, e = .returned (.int .i64 k) ∧ k ≤ 281474976710656 ∧ (k ≤ 33554432 → k = total costB l) := by
  obtain ⟨a, cap, rfl, hlc, hcm, hlb⟩ := Rdr.slice ((St.start w0).reader ha)
  have hlb : l.length * 24 ≤ 140737488351232 := hlb
  refine F18.calls (by simp) ?_
  unfold F18.code
  simp -dsimp -implicitDefEqProofs (disch := omega) only [go_sem, reqD_of, dec_t, dec_f, wrap_i64, wrap_u32, wrap_u64, wrap_u8]
  refine loop_intro (fun e w' => St w0 (Old w0 * F) w' ∧ e.ds = [] ∧ e.ρ 0 = .slice a l.length cap ∧ ∃ i n : Nat, i ≤ l.length ∧ e.ρ 4 = .int .i64 i ∧ e.ρ 3 = .int .i64 n ∧ n = total costB (l.take i) ∧ n ≤ 281474976710656)
    (fun e _ => match e.ρ 4 with | .int _ n => (l.length - n).toNat | _ => 0) ?_ ?_
  · exact ⟨h, rfl, by simp -dsimp -implicitDefEqProofs only [go_sem], 0, 0, by omega, rfl, rfl, rfl, by omega⟩
  rintro e w1 ⟨h1, hd, e0, i, n, hi, e4, e3, hn, hnb⟩
  by_cases hlt : (i : Int) < l.length
  · by_cases hnr : (n : Int) ≤ 33554432
    · have hil : i < l.length := by omega
      obtain ⟨g, o, a', cap', rfl, _, hbl, hc⟩ := bytesElem ha hil
      have hc := hc F w1 h1
      simp -dsimp -implicitDefEqProofs (disch := omega) only [go_sem, reqD_of, dec_t, dec_f, wrap_i64, wrap_u32, wrap_u64, wrap_u8, hlt, hnr, hd, e0, e4, e3, hc]
      refine ⟨⟨h1, i + 1, n + 16 + l[i].length, by omega, by omega, by omega, ?_, by omega⟩, by omega⟩
      rw [total_take costB l hil, ← hn]; simp only [costB]; omega
    · simp -dsimp -implicitDefEqProofs (disch := omega) only [go_sem, reqD_of, dec_t, dec_f, wrap_i64, wrap_u32, wrap_u64, wrap_u8, hlt, hnr, hd, e0, e4, e3]
      exact ⟨h1, ⟨n, rfl, hnb, fun hx => by omega⟩⟩
  · simp -dsimp -implicitDefEqProofs (disch := omega) only [go_sem, reqD_of, dec_t, dec_f, wrap_i64, wrap_u32, wrap_u64, wrap_u8, hlt, hd, e0, e4, e3]
    refine ⟨h1, ⟨n, rfl, hnb, fun hx => ?_⟩⟩
    rw [hn, List.take_of_length_le (by omega)]

end
section
attribute [local go_sem] F10.t4_eq F10.t5_eq F10.t8_eq
theorem much_any {w0 w : World} {F : HP} {v : Value} {l : List (Int × Int × List UInt8 × Int × Unit)} (h : St w0 (Old w0 * F) w) (ha : Ent (Old w0) (rOps.at l [v])) :
    Calls Try.prog 10 #[v] w fun e w' => St w0 (Old w0 * F) w' ∧ ∃ k : Nat, e = .returned (.int .i64 k) ∧ k ≤ 281474976710656 ∧ (k ≤ 33554432 → k = total costO l) := by
  obtain ⟨a, cap, rfl, hlc, hcm, hlb⟩ := Rdr.slice ((St.start w0).reader ha)
  have hlb : l.length * 48 ≤ 140737488351232 := hlb
  refine F10.calls (by simp) ?_
  unfold F10.code
  simp -dsimp -implicitDefEqProofs (disch := omega) only [go_sem, reqD_of, dec_t, dec_f, wrap_i64, wrap_u32, wrap_u64, wrap_u8]
  refine loop_intro (fun e w' => St w0 (Old w0 * F) w' ∧ e.ds = [] ∧ e.ρ 0 = .slice a l.length cap ∧ ∃ i n : Nat, i ≤ l.length ∧ e.ρ 4 = .int .i64 i ∧ e.ρ 3 = .int .i64 n ∧ n = total costO (l.take i) ∧ n ≤ 281474976710656)
    (fun e _ => match e.ρ 4 with | .int _ n => (l.length - n).toNat | _ => 0) ?_ ?_
  · exact ⟨h, rfl, by simp -dsimp -implicitDefEqProofs only [go_sem], 0, 0, by omega, rfl, rfl, rfl, by omega⟩
  rintro e w1 ⟨h1, hd, e0, i, n, hi, e4, e3, hn, hnb⟩
  by_cases hlt : (i : Int) < l.length
  · by_cases hnr : (n : Int) ≤ 33554432
    · have hil : i < l.length := by omega
      obtain ⟨g, o, a', cap', rfl, _, hbl, _, hc⟩ := opElem ha hil
      obtain ⟨_, hc1, hc2, _⟩ := hc F w1 h1
      by_cases hk : l[i].2.1 = 6
      · rw [hk] at hc1
        simp -dsimp -implicitDefEqProofs (disch := omega) only [go_sem, reqD_of, dec_t, dec_f, wrap_i64, wrap_u32, wrap_u64, wrap_u8, hlt, hnr, hd, e0, e4, e3, hc1, hc2]
        refine ⟨⟨h1, i + 1, n + 16 + l[i].2.2.1.length + 70000, by omega, by omega, by omega, ?_, by omega⟩, by omega⟩
        rw [total_take costO l hil, ← hn]; simp only [costO, hk, if_true]; omega
      · simp -dsimp -implicitDefEqProofs (disch := omega) only [go_sem, reqD_of, dec_t, dec_f, wrap_i64, wrap_u32, wrap_u64, wrap_u8, hlt, hnr, hd, e0, e4, e3, hc1, hc2, hk]
        refine ⟨⟨h1, i + 1, n + 16 + l[i].2.2.1.length, by omega, by omega, by omega, ?_, by omega⟩, by omega⟩
        rw [total_take costO l hil, ← hn]; simp only [costO, hk, if_false]; omega
    · simp -dsimp -implicitDefEqProofs (disch := omega) only [go_sem, reqD_of, dec_t, dec_f, wrap_i64, wrap_u32, wrap_u64, wrap_u8, hlt, hnr, hd, e0, e4, e3]
      exact ⟨h1, ⟨n, rfl, hnb, fun hx => by omega⟩⟩
  · simp -dsimp -implicitDefEqProofs (disch := omega) only [go_sem, reqD_of, dec_t, dec_f, wrap_i64, wrap_u32, wrap_u64, wrap_u8, hlt, hd, e0, e4, e3]
    refine ⟨h1, ⟨n, rfl, hnb, fun hx => ?_⟩⟩
    rw [hn, List.take_of_length_le (by omega)]

end
end Go.Proofs.Ytfamclpajjnfbaa
