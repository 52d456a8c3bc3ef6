/- The fids package: what the statements ask of fids: find, among, size, made. -/
import Derived.Test.YtljndiligbaljaaFiI
namespace Go.Proofs.Ytljndiligbaljaa
open Go
set_option linter.unusedSimpArgs false
set_option linter.unusedVariables false
set_option maxRecDepth 100000

theorem hearts_ok {w0 w : World} : ∀ {qs : FPs} {F : HP}, St w0 (hearts qs * F) w → ∀ x ∈ qs, Okf x.2
  | [], _, _, x, hx => by simp at hx
  | y :: qs, F, h, x, hx => by
    obtain ⟨hy, h1⟩ := hearts_cons h
    rcases List.mem_cons.1 hx with rfl | hx
    · exact hy
    · exact hearts_ok h1.right x hx
theorem hearts_mem {qs : FPs} : ∀ {x : Int × HF}, x ∈ qs → Ent (hearts qs) (HeardR x.2) := by
  induction qs with
  | nil => intro x hx; simp at hx
  | cons y qs ih =>
    intro x hx
    show Ent (HP.fact (Okf y.2) (HeardP y.2) * hearts qs) _
    rcases List.mem_cons.1 hx with rfl | hx
    · exact (Ent.left _ _).trans (HP.fact_elim fun _ => RowO.reads _ _ _ _ _)
    · exact (Ent.right _ _).trans (ih hx)

theorem agt_app (m : Int) (l' : FPs) : ∀ l : FPs, agt m (l ++ l') = (agt m l).or (agt m l')
  | [] => rfl
  | (k, u) :: l => by
    simp only [List.cons_append, agt]
    split
    · rfl
    · exact agt_app m l' l

abbrev zHF : HF := (zF, zFid)
section
attribute [local go_sem] F15.t3_eq F15.t4_eq F15.t6_eq
theorem find_any {w0 w : World} {F : HP} {v : Value} {qs : FPs} {n : Int} (h : St w0 F w) (hr : Ent F (Reads 15 v qs.length (qs.flatMap atC))) (hok : ∀ x ∈ qs, Okf x.2) (hl : qs.length ≤ 1048576) :
    Calls Try.prog 15 #[v, .int .u32 n] w fun e w' => St w0 F w' ∧ e = .returned (.tuple #[fdV ((agt n qs).getD zHF), .bool (agt n qs).isSome]) := by
  refine F15.calls (by simp) ?_
  unfold F15.code
  obtain ⟨_, a, c, rfl, _, _⟩ := St.rowsAt (k := 15) atC_length (by decide) (h.ent hr)
  simp -dsimp -implicitDefEqProofs (disch := omega) only [go_sem, reqD_of, dec_t, dec_f, wrap_i64, wrap_u32, wrap_u64, wrap_u8]
  refine h.new fun C w1 h1 => ?_
  simp -dsimp -implicitDefEqProofs (disch := omega) only [go_sem, reqD_of, dec_t, dec_f, wrap_i64, wrap_u32, wrap_u64, wrap_u8]
  refine loop_intro (fun e w' => e.ds = [] ∧ e.ρ 0 = .slice a qs.length c ∧ e.ρ 1 = .int .u32 n ∧ e.ρ 4 = .pointer (some ⟨C, 0, none⟩) ∧ ∃ i : Nat, i ≤ qs.length ∧ e.ρ 6 = .int .i64 i ∧ agt n (qs.take i) = none ∧ St w0 (Blk C (fidB zF zFid) * F) w')
    (fun e _ => match e.ρ 6 with | .int _ n => (qs.length - n).toNat | _ => 0) ?_ ?_
  · exact ⟨rfl, by simp -dsimp -implicitDefEqProofs only [go_sem], by simp -dsimp -implicitDefEqProofs only [go_sem], by simp -dsimp -implicitDefEqProofs only [go_sem], 0, by omega, by simp -dsimp -implicitDefEqProofs only [go_sem], by simp [agt], h1⟩
  rintro e w2 ⟨hd, e0, e1, e4, i, hi, e6, hag, h2⟩
  by_cases hlt : (i : Int) < qs.length
  case neg =>
    have : i = qs.length := by omega
    subst this
    rw [List.take_length] at hag
    simp -dsimp -implicitDefEqProofs (disch := omega) only [go_sem, reqD_of, dec_t, dec_f, wrap_i64, wrap_u32, wrap_u64, wrap_u8, hd, e0, e1, e4, e6, hlt]
    refine h2.new fun X w3 h3 => ?_
    have hX := h3.rowH X 14 rfl
    simp -dsimp -implicitDefEqProofs (disch := omega) only [go_sem, reqD_of, dec_t, dec_f, wrap_i64, wrap_u32, wrap_u64, wrap_u8, hd, e0, e1, e4, e6, hX]
    refine h3.stoAll (b := C) (cs := fdC zF zFid) rfl rfl (fdC_cells rfl) fun w4 h4 => ?_
    have hC := h4.rowH C 14 rfl
    simp -dsimp -implicitDefEqProofs (disch := omega) only [go_sem, reqD_of, dec_t, dec_f, wrap_i64, wrap_u32, wrap_u64, wrap_u8, hd, e0, e1, e4, e6]
    refine resC_2 (a := ⟨C, 0, none⟩) (v := fdV zHF) (by simp -dsimp -implicitDefEqProofs only [go_sem, e4]) (run_loadVar_row fact_aggSz_43 (by rw [hC]; rfl)) ?_
    simp -dsimp -implicitDefEqProofs (disch := omega) only [go_sem, reqD_of, dec_t, dec_f, wrap_i64, wrap_u32, wrap_u64, wrap_u8, hag]
    exact ⟨h4.right.right, rfl⟩
  have hil : i < qs.length := by omega
  obtain ⟨_, a', c', hv, _, hcl⟩ := St.rowsAt (k := 15) atC_length (by decide) ((h2.right).ent hr)
  simp only [Value.slice.injEq, true_and] at hv
  obtain ⟨rfl, rfl⟩ := hv
  obtain ⟨b, o, rfl, _, hcell⟩ := hcl i hil
  have c0 := hcell 0 (by decide)
  simp only [atC, Nat.add_zero, List.getElem?_cons_zero] at c0
  have hag2 : ∀ m, agt m (qs.take (i + 1)) = (agt m (qs.take i)).or (if m = qs[i].1 then some qs[i].2 else none) := fun m => by
    rw [List.take_succ_eq_append_getElem hil, agt_app]
    rfl
  by_cases q : qs[i].1 = n
  · have hfound : agt n qs = some qs[i].2 := by
      have h1 : agt n (qs.take (i + 1) ++ qs.drop (i + 1)) = some qs[i].2 := by
        rw [agt_app, hag2, hag, if_pos q.symm]
        rfl
      rwa [List.take_append_drop] at h1
    have hu : Okf qs[i].2 := hok _ (List.getElem_mem hil)
    have hrow : rowV w2 ⟨b, o + i * 15 + 1, none⟩ 14 = some (fdV qs[i].2) := by
      unfold rowV
      rw [cellsFrom_of w2 _ 14 0 (fdC qs[i].2.1 qs[i].2.2) rfl fun j hj => by
        rw [Nat.zero_add, add_lit]
        have := hcell (j + 1) (by omega)
        rw [show o + i * 15 + (j + 1) = o + i * 15 + 1 + j by omega] at this
        rw [this]; rfl]
      rfl
    simp -dsimp -implicitDefEqProofs (disch := omega) only [go_sem, reqD_of, dec_t, dec_f, wrap_i64, wrap_u32, wrap_u64, wrap_u8, hd, e0, e1, e4, e6, hlt, c0, q, hrow]
    refine h2.stoAll (b := C) (cs := fdC qs[i].2.1 qs[i].2.2) rfl rfl (fdC_cells hu.1) fun w4 h4 => ?_
    have hC := h4.rowH C 14 rfl
    simp -dsimp -implicitDefEqProofs (disch := omega) only [go_sem, reqD_of, dec_t, dec_f, wrap_i64, wrap_u32, wrap_u64, wrap_u8, hd, e0, e1, e4, e6]
    refine resC_2 (a := ⟨C, 0, none⟩) (v := fdV qs[i].2) (by simp -dsimp -implicitDefEqProofs only [go_sem, e4]) (run_loadVar_row fact_aggSz_43 (by rw [hC]; rfl)) ?_
    simp -dsimp -implicitDefEqProofs (disch := omega) only [go_sem, reqD_of, dec_t, dec_f, wrap_i64, wrap_u32, wrap_u64, wrap_u8, hfound]
    exact ⟨h4.right, rfl⟩
  · simp -dsimp -implicitDefEqProofs (disch := omega) only [go_sem, reqD_of, dec_t, dec_f, wrap_i64, wrap_u32, wrap_u64, wrap_u8, hd, e0, e1, e4, e6, hlt, c0, q]
    refine ⟨⟨i + 1, by omega, by omega, ?_, h2⟩, by omega⟩
    rw [hag2, hag, if_neg (fun e => q e.symm)]
    rfl

end
section
attribute [local go_sem] F17.t3_eq F17.t4_eq F17.t6_eq
theorem among_any {w0 w : World} {F : HP} {v : Value} {l : List Int} {n : Int} (h : St w0 F w) (hr : Ent F (Reads 1 v l.length (l.map encU))) (hl : l.length ≤ 1048576) :
    Calls Try.prog 17 #[v, .int .u32 n] w fun e w' => St w0 F w' ∧ e = .returned (.bool (decide (n ∈ l))) := by
  refine F17.calls (by simp) ?_
  unfold F17.code
  obtain ⟨a, c, rfl, _⟩ : ∃ a c, v = .slice a l.length c ∧ True := by
    obtain ⟨a, c, hv, _⟩ := ((h.ent hr).rd).form
    exact ⟨a, c, hv, trivial⟩
  simp -dsimp -implicitDefEqProofs (disch := omega) only [go_sem, reqD_of, dec_t, dec_f, wrap_i64, wrap_u32, wrap_u64, wrap_u8]
  refine loop_intro (fun e w' => e.ds = [] ∧ e.ρ 0 = .slice a l.length c ∧ e.ρ 1 = .int .u32 n ∧ ∃ i : Nat, i ≤ l.length ∧ e.ρ 5 = .int .i64 i ∧ n ∉ l.take i ∧ St w0 F w')
    (fun e _ => match e.ρ 5 with | .int _ n => (l.length - n).toNat | _ => 0) ?_ ?_
  · exact ⟨rfl, by simp -dsimp -implicitDefEqProofs only [go_sem], by simp -dsimp -implicitDefEqProofs only [go_sem], 0, by omega, by simp -dsimp -implicitDefEqProofs only [go_sem], by simp, h⟩
  rintro e w2 ⟨hd, e0, e1, i, hi, e5, hni, h2⟩
  by_cases hlt : (i : Int) < l.length
  case neg =>
    have : i = l.length := by omega
    subst this
    rw [List.take_length] at hni
    simp -dsimp -implicitDefEqProofs (disch := omega) only [go_sem, reqD_of, dec_t, dec_f, wrap_i64, wrap_u32, wrap_u64, wrap_u8, hd, e0, e1, e5, hlt]
    first | exact ⟨h2, by simp [hni]⟩ | exact ⟨h2, hni⟩ | exact h2
  have hil : i < l.length := by omega
  obtain ⟨b, o, rfl, hcell⟩ : ∃ b o, a = some ⟨b, o, none⟩ ∧ w2.cell? ⟨b, o + i, none⟩ = some (encU l[i]) := by
    obtain ⟨a', c', hv, _, hz⟩ := ((h2.ent hr).rd).form
    simp only [Value.slice.injEq, true_and] at hv
    obtain ⟨rfl, rfl⟩ := hv
    rcases hz with hz | ⟨b, o, rfl, hz⟩
    · have := congrArg List.length hz
      simp only [List.length_map, List.length_nil] at this
      omega
    · refine ⟨b, o, rfl, ?_⟩
      have := hz i (by simpa using hil)
      rw [this, List.getElem?_map, List.getElem?_eq_getElem hil]
      rfl
  by_cases q : l[i] = n
  · simp -dsimp -implicitDefEqProofs (disch := omega) only [go_sem, reqD_of, dec_t, dec_f, wrap_i64, wrap_u32, wrap_u64, wrap_u8, hd, e0, e1, e5, hlt, hcell, q]
    have hm : n ∈ l := by rw [← q]; exact List.getElem_mem hil
    exact ⟨h2, by simp [hm]⟩
  · simp -dsimp -implicitDefEqProofs (disch := omega) only [go_sem, reqD_of, dec_t, dec_f, wrap_i64, wrap_u32, wrap_u64, wrap_u8, hd, e0, e1, e5, hlt, hcell, q]
    refine ⟨⟨i + 1, by omega, by omega, ?_, h2⟩, by omega⟩
    rw [List.take_succ_eq_append_getElem hil]
    simp only [List.mem_append, List.mem_singleton, not_or]
    exact ⟨hni, fun e => q e.symm⟩

def sizeN (raw : Int) : Int := 1 + pickI raw 256
theorem sizeN_range (raw : Int) : 1 ≤ sizeN raw ∧ sizeN raw ≤ 256 := by
  have := pickI_range (c := raw) (n := 256) (by decide)
  unfold sizeN
  omega
end
section
attribute [local go_sem] F10.t3_eq
theorem size_any {w0 w : World} {F : HP} {c : Int} (h : St w0 F w) (hc : -9223372036854775808 ≤ c ∧ c < 9223372036854775808) : Calls Try.prog 10 #[.int .i64 c] w fun e w' => St w0 F w' ∧ e = .returned (.int .i64 (sizeN c)) := by
  have hr := pickI_range (c := c) (n := 256) (by decide)
  refine F10.calls (by simp) ?_
  unfold F10.code
  by_cases hneg : c < 0
  · have hp : pickI c 256 = -((c + 1).tmod 256) := by simp [pickI, hneg]
    obtain ⟨t, ht⟩ : ∃ t, (c + 1).tmod 256 = t := ⟨_, rfl⟩
    rw [ht] at hp
    rw [hp] at hr
    simp -dsimp -implicitDefEqProofs (disch := omega) only [go_sem, reqD_of, dec_t, dec_f, wrap_i64, wrap_u32, wrap_u64, wrap_u8, hneg]
    refine ⟨h, ?_⟩
    rw [Int.zero_sub, Int.neg_tmod, ht, wrap_i64 (by omega) (by omega)]
    simp [sizeN, hp]
  · have hp : pickI c 256 = c.tmod 256 := by simp [pickI, hneg]
    rw [hp] at hr
    simp -dsimp -implicitDefEqProofs (disch := omega) only [go_sem, reqD_of, dec_t, dec_f, wrap_i64, wrap_u32, wrap_u64, wrap_u8, hneg]
    exact ⟨h, by simp [sizeN, hp]⟩

def fid9 : FidD := { zFid with st := 1, nd := 4, user := ⟨#[117]⟩ }
theorem Ent.nilHeard (F : HP) (f : FidD) (hf : f.heard = []) : Ent F (HeardR (zF, f)) := by
  refine (Ent.nilRowO 5 1 F).trans ((Ent.left _ _).trans ?_)
  show Ent _ (Reads 1 (.slice none 0 0) f.heard.length (byR f.heard))
  rw [hf]
  exact RowO.reads _ _ _ _ _

end
section
attribute [local go_sem] F9.t8_eq F9.t4_eq
theorem made_any {w0 w : World} {F : HP} {n : Int} (h : St w0 F w) (hn : 1 ≤ n ∧ n ≤ 256) :
    Calls Try.prog 9 #[.int .i64 n] w fun e w' => ∃ B, St w0 (TabP B n [(9, fid9)] * F) w' ∧ e = .returned (.pointer (some ⟨B, 0, none⟩)) := by
  refine F9.calls (by simp) ?_
  unfold F9.code
  simp -dsimp -implicitDefEqProofs (disch := omega) only [go_sem, reqD_of, dec_t, dec_f, wrap_i64, wrap_u32, wrap_u64, wrap_u8]
  refine (new_ok h hn).mono ?_
  rintro e w1 ⟨B, h1, rfl⟩
  simp -dsimp -implicitDefEqProofs (disch := omega) only [go_sem, reqD_of, dec_t, dec_f, wrap_i64, wrap_u32, wrap_u64, wrap_u8]
  refine onV_of (v := fdV (zF, fid9)) rfl ?_
  simp -dsimp -implicitDefEqProofs (disch := omega) only [go_sem, reqD_of, dec_t, dec_f, wrap_i64, wrap_u32, wrap_u64, wrap_u8]
  refine (add_any (p := (zF, fid9)) (n := 9) h1 ⟨rfl, by simp [fid9, zFid]⟩ (Ent.nilHeard _ _ rfl)).mono ?_
  rintro e w2 ⟨h2, rfl⟩
  have hE : addE 9 n [] fid9 = 0 := by
    unfold addE freeE
    rw [if_pos (by simp [mayB, fid9]), if_neg (by decide), if_neg (by simp [agt]), if_neg (by simp; omega)]
  have hS : addS 9 n [] fid9 = [(9, fid9)] := by unfold addS; rw [if_pos hE]; rfl
  rw [hS] at h2
  rw [hE]
  simp -dsimp -implicitDefEqProofs (disch := omega) only [go_sem, reqD_of, dec_t, dec_f, wrap_i64, wrap_u32, wrap_u64, wrap_u8]
  refine (get_some (f := fid9) h2 rfl).mono ?_
  rintro e w3 ⟨v', hv', h3, rfl⟩
  simp -dsimp -implicitDefEqProofs (disch := omega) only [go_sem, reqD_of, dec_t, dec_f, wrap_i64, wrap_u32, wrap_u64, wrap_u8]
  refine h3.new fun X w4 h4 => ?_
  simp -dsimp -implicitDefEqProofs (disch := omega) only [go_sem, reqD_of, dec_t, dec_f, wrap_i64, wrap_u32, wrap_u64, wrap_u8]
  refine h4.stoAll (cs := fdC v' fid9) rfl rfl (fdC_cells hv'.1) fun w5 h5 => ?_
  have hc := h5.cl X
  simp only [fdC, fid9, zFid] at hc
  simp -dsimp -implicitDefEqProofs (disch := omega) only [go_sem, reqD_of, dec_t, dec_f, wrap_i64, wrap_u32, wrap_u64, wrap_u8, hc, seq_dec]
  exact ⟨B, h5.sub, rfl⟩

end
end Go.Proofs.Ytljndiligbaljaa
