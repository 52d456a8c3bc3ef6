/- The fids package: a script as an argument; is it beyond the bound; all its steps, done. -/
import Derived.Test.YtljndiligbaljaaFiK
import Derived.Test.YtljndiligbaljaaAr
namespace Go.Proofs.Ytljndiligbaljaa
open Go
set_option linter.unusedSimpArgs false
set_option linter.unusedVariables false
set_option maxRecDepth 100000

def SmallOp (x : HOp) : Prop := isCell x.1 = true ∧ x.2.f.user.size ≤ 140737488351232 ∧ x.2.f.tu.size ≤ 140737488351232 ∧ x.2.f.tt.size ≤ 140737488351232 ∧ x.2.f.heard.length ≤ 140737488351232
structure ScriptP (F : HP) (v : Value) (ops : List HOp) : Prop where
  few : ops.length ≤ 140737488351232
  rd : Ent F (Reads 21 v ops.length (ops.flatMap opC))
  el : ∀ x ∈ ops, SmallOp x ∧ Ent F (HeardR (x.1, x.2.f))
theorem ScriptP.under {F A : HP} {v : Value} {ops : List HOp} (s : ScriptP F v ops) (k : Ent A F) : ScriptP A v ops := ⟨s.few, k.trans s.rd, fun x hx => ⟨(s.el x hx).1, k.trans (s.el x hx).2⟩⟩

abbrev XTalk := ByteArray × ByteArray × Int × Int × Int × Int × List UInt8 × Unit
abbrev XFid := Int × Int × ByteArray × Int × Bool × Int × Int × XTalk × Unit
abbrev XOp := Int × Int × Int × XFid × Int × Int × Int × Bool × Unit
def rTalk : Rdr XTalk := rCons 1 rStr (rCons 1 rStr (rCons 1 (rInt .u64) (rCons 1 (rInt .u64) (rCons 1 (rInt .u8) (rCons 1 (rInt .i64) (rCons 1 rBytes rEnd))))))
def rFid : Rdr XFid := rCons 1 (rInt .u8) (rCons 1 (rInt .u64) (rCons 1 rStr (rCons 1 (rInt .u8) (rCons 1 rBool (rCons 1 (rInt .u64) (rCons 1 (rInt .u64) (rCons 7 rTalk rEnd)))))))
def rOp : Rdr XOp := rCons 1 (rInt .i64) (rCons 1 (rInt .u32) (rCons 1 (rInt .u32) (rCons 14 rFid (rCons 1 (rInt .u64) (rCons 1 (rInt .u64) (rCons 1 (rInt .u8) (rCons 1 rBool rEnd)))))))
def fidOf (x : XFid) : FidD := ⟨x.1, x.2.1, x.2.2.1, x.2.2.2.1, x.2.2.2.2.1, x.2.2.2.2.2.1, x.2.2.2.2.2.2.1, x.2.2.2.2.2.2.2.1.1, x.2.2.2.2.2.2.2.1.2.1, x.2.2.2.2.2.2.2.1.2.2.1, x.2.2.2.2.2.2.2.1.2.2.2.1, x.2.2.2.2.2.2.2.1.2.2.2.2.1, x.2.2.2.2.2.2.2.1.2.2.2.2.2.1, x.2.2.2.2.2.2.2.1.2.2.2.2.2.2.1⟩
def opOf (x : XOp) : OpD := ⟨x.1, x.2.1, x.2.2.1, fidOf x.2.2.2.1, x.2.2.2.2.1, x.2.2.2.2.2.1, x.2.2.2.2.2.2.1, x.2.2.2.2.2.2.2.1⟩
theorem rTalk_cells {x : XTalk} {cs : List Value} {h : Heap} (r : rTalk.rel x cs h) : ∃ v, cs = [.string x.1, .string x.2.1, .int .u64 x.2.2.1, .int .u64 x.2.2.2.1, .int .u8 x.2.2.2.2.1, .int .i64 x.2.2.2.2.2.1, v] ∧ isCell v = true ∧
    x.1.size ≤ 140737488351232 ∧ x.2.1.size ≤ 140737488351232 ∧ x.2.2.2.2.2.2.1.length ≤ 140737488351232 ∧ RdB v x.2.2.2.2.2.2.1 h := by
  obtain ⟨_, _, rfl, _, ⟨rfl, s1⟩, _, _, rfl, _, ⟨rfl, s2⟩, _, _, rfl, _, ⟨rfl, w3⟩, _, _, rfl, _, ⟨rfl, w4⟩, _, _, rfl, _, ⟨rfl, w5⟩, _, _, rfl, _, ⟨rfl, w6⟩, _, _, rfl, _, ⟨v, rfl, k, hb⟩, rfl⟩ := r
  refine ⟨v, rfl, ?_, s1, s2, hb, k⟩
  obtain ⟨_, a, c, rfl, _⟩ := k
  rfl
theorem rOp_cells {x : XOp} {cs : List Value} {h : Heap} (r : rOp.rel x cs h) : ∃ y : HOp, cs = opC y ∧ SmallOp y ∧ HeardR (y.1, y.2.f) h := by
  obtain ⟨_, _, rfl, _, ⟨rfl, w1⟩, _, _, rfl, _, ⟨rfl, w2⟩, _, _, rfl, _, ⟨rfl, w3⟩, _, _, rfl, _, rf, _, _, rfl, _, ⟨rfl, w4⟩, _, _, rfl, _, ⟨rfl, w5⟩, _, _, rfl, _, ⟨rfl, w6⟩, _, _, rfl, _, rfl, rfl⟩ := r
  obtain ⟨_, _, rfl, _, ⟨rfl, v1⟩, _, _, rfl, _, ⟨rfl, v2⟩, _, _, rfl, _, ⟨rfl, s3⟩, _, _, rfl, _, ⟨rfl, v4⟩, _, _, rfl, _, rfl, _, _, rfl, _, ⟨rfl, v5⟩, _, _, rfl, _, ⟨rfl, v6⟩, _, _, rfl, _, rt, rfl⟩ := rf
  obtain ⟨v, rfl, hv, s1, s2, hb, k⟩ := rTalk_cells rt
  exact ⟨(v, opOf x), rfl, ⟨hv, s3, s1, s2, hb⟩, k⟩
theorem script_arg {xs : List XOp} {v : Value} {W : World} (c : (rSlice 21 184 rOp).rel xs [v] (heapOf W)) : ∃ ops : List HOp, ops.length = xs.length ∧ ScriptP (Old W) v ops := by
  obtain ⟨ops, hl, h1, h2⟩ := rSlice_choose (β := HOp) (enc := opC) (p := fun y h => SmallOp y ∧ HeardR (y.1, y.2.f) h) (fun x cs h r => rOp_cells r) opC_length c
  have old : ∀ {s n : Nat} {u : Value} {zs : List Value}, Reads s u n zs (heapOf W) → Ent (Old W) (Reads s u n zs) := fun k => Ent.of fun _ ho => Reads.mono (fun b o e => ho b o e) k
  have hb : xs.length * 184 ≤ reachBytes := by
    obtain ⟨a, cap, e, l, m, r, _⟩ := c
    exact r
  have hq : reachBytes = 140737488351232 := rfl
  exact ⟨ops, hl, by omega, old h2, fun x hx => ⟨(h1 x hx).1, old (h1 x hx).2⟩⟩

section
attribute [local go_sem] F11.t4_eq F11.t5_eq F11.t7_eq
theorem beyond_any {w0 w : World} {F : HP} {v : Value} {ops : List HOp} (h : St w0 F w) (s : ScriptP F v ops) :
    Calls Try.prog 11 #[v] w fun e w' => ∃ b : Bool, St w0 F w' ∧ e = .returned (.bool b) ∧ (b = false → ∀ x ∈ ops, Okf (x.1, x.2.f)) := by
  have hfew := s.few
  refine F11.calls (by simp) ?_
  unfold F11.code
  obtain ⟨_, a, c, rfl, _, _⟩ := St.rowsAt (k := 21) opC_length (by decide) (h.ent s.rd)
  simp -dsimp -implicitDefEqProofs (disch := omega) only [go_sem, reqD_of, dec_t, dec_f, wrap_i64, wrap_u32, wrap_u64, wrap_u8]
  refine loop_intro (fun e w' => e.ds = [] ∧ e.ρ 0 = .slice a ops.length c ∧ ∃ (i : Nat) (n : Int), i ≤ ops.length ∧ e.ρ 4 = .int .i64 i ∧ e.ρ 3 = .int .i64 n ∧ 0 ≤ n ∧ n ≤ 5629499534000000 ∧ (∀ x ∈ ops.take i, (x.2.f.heard.length : Int) ≤ n) ∧ St w0 F w')
    (fun e _ => match e.ρ 4 with | .int _ n => (ops.length - n).toNat | _ => 0) ?_ ?_
  · exact ⟨rfl, by simp -dsimp -implicitDefEqProofs only [go_sem], 0, 0, by omega, by simp -dsimp -implicitDefEqProofs only [go_sem], by simp -dsimp -implicitDefEqProofs only [go_sem], by omega, by omega, by simp, h⟩
  rintro e w2 ⟨hd, e0, i, n, hi, e4, e3, hn0, hn, hal, h2⟩
  by_cases hlt : (i : Int) < ops.length
  case neg =>
    have : i = ops.length := by omega
    subst this
    rw [List.take_length] at hal
    simp -dsimp -implicitDefEqProofs (disch := omega) only [go_sem, reqD_of, dec_t, dec_f, wrap_i64, wrap_u32, wrap_u64, wrap_u8, hd, e0, e4, e3, hlt]
    refine ⟨_, h2, rfl, fun hb x hx => ⟨((s.el x hx).1).1, ?_⟩⟩
    simp only [decide_eq_false_iff_not] at hb
    have := hal x hx
    show x.2.f.heard.length < _
    omega
  by_cases hle : n ≤ 268435456
  case neg =>
    simp -dsimp -implicitDefEqProofs (disch := omega) only [go_sem, reqD_of, dec_t, dec_f, wrap_i64, wrap_u32, wrap_u64, wrap_u8, hd, e0, e4, e3, hlt, hle]
    refine ⟨_, h2, rfl, fun hb => ?_⟩
    exact absurd hb (by decide)
  have hil : i < ops.length := by omega
  obtain ⟨_, a', c', hv, _, hcl⟩ := St.rowsAt (k := 21) opC_length (by decide) (h2.ent s.rd)
  simp only [Value.slice.injEq, true_and] at hv
  obtain ⟨rfl, rfl⟩ := hv
  obtain ⟨b, o, rfl, _, hcell⟩ := hcl i hil
  obtain ⟨x, hx⟩ : ∃ x, x = ops[i] := ⟨_, rfl⟩
  have hmem : x ∈ ops := by rw [hx]; exact List.getElem_mem hil
  rw [← hx] at hcell
  obtain ⟨⟨hvc, z1, z2, z3, z4⟩, hr⟩ := s.el x hmem
  obtain ⟨vv, oo⟩ := x
  simp only at hvc z1 z2 z3 z4 hr
  obtain ⟨ah, ch, hv2, _⟩ := ((h2.ent hr).rd).form
  simp only at hv2
  subst hv2
  have hrow : rowV w2 ⟨b, o + i * 21 + 3, none⟩ 14 = some (.agg ((opC (.slice ah oo.f.heard.length ch, oo)).drop 3 |>.take 14).toArray) := rowV_part (opC_length _) hcell (by decide)
  simp only [opC, fdC, List.cons_append, List.nil_append, List.drop_succ_cons, List.drop_zero, List.take_succ_cons, List.take_zero] at hrow
  simp -dsimp -implicitDefEqProofs (disch := omega) only [go_sem, reqD_of, dec_t, dec_f, wrap_i64, wrap_u32, wrap_u64, wrap_u8, hd, e0, e4, e3, hlt, hle, hrow]
  refine h2.new fun X w3 h3 => ?_
  simp -dsimp -implicitDefEqProofs (disch := omega) only [go_sem, reqD_of, dec_t, dec_f, wrap_i64, wrap_u32, wrap_u64, wrap_u8]
  refine h3.stoAll (b := X) (cs := fdC (.slice ah oo.f.heard.length ch) oo.f) rfl rfl (fdC_cells rfl) fun w4 h4 => ?_
  have c4 := h4.cl X
  simp only [fdC] at c4
  simp -dsimp -implicitDefEqProofs (disch := omega) only [go_sem, reqD_of, dec_t, dec_f, wrap_i64, wrap_u32, wrap_u64, wrap_u8, hd, e0, e4, e3, hlt, hle, c4]
  refine ⟨⟨i + 1, _, by omega, by omega, rfl, by omega, by omega, ?_, h4.right⟩, by omega⟩
  rw [List.take_succ_eq_append_getElem hil, ← hx]
  intro y hy
  rcases List.mem_append.1 hy with hy | hy
  · have := hal y hy
    omega
  · simp only [List.mem_singleton] at hy
    subst hy
    show (oo.f.heard.length : Int) ≤ _
    omega

end
end Go.Proofs.Ytljndiligbaljaa
