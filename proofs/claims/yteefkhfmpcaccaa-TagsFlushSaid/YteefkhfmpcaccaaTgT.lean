/- The tags package: the law of what is written. -/
import Derived.Test.YteefkhfmpcaccaaTgS
namespace Go.Proofs.Yteefkhfmpcaccaa
open Go
set_option linter.unusedSimpArgs false
set_option linter.unusedVariables false

section
variable {t : TbD} {l : List Thing} {h : List Int} {sd : Int} {n : Nat} {f : Nat → Ab} {B : List Nat}

/-- What stands there behind a thing's writing: the tags that are held. -/
def wrH (l : List Thing) (h : List Int) (k : Nat) (X : Thing) : List Int :=
  let h1 := h.set X.tag.toNat (-1)
  if X.fl = true ∧ 0 ≤ X.nm then match l[X.nm.toNat]? with
    | some Y => if Y.cn = true ∧ h1[Y.tag.toNat]? = some X.nm then h1.set Y.tag.toNat (-1) else h1
    | none => h1
  else h1

/-- Something said is written. -/
theorem RunP.said (r : RunP t l h sd n f B) {x : Rep} {rest : List Rep} (hr : t.row = x :: rest) (hx : x.fr = false) : x = ⟨saidM, 1001, false⟩ ∧ RunP (popS t x rest) l h (sd - 1) n f B := by
  obtain ⟨hok, hc⟩ := r.rl.pop hr
  rcases hc with ⟨a, _⟩ | ⟨_, b⟩
  · rw [hx] at a; cases a
  · refine ⟨hok.2 hx, ?_⟩
    have e : popS t x rest = { t with row := rest } := by unfold popS; rw [hx]; rfl
    rw [e]
    refine ⟨r.ai, b, r.lr, ?_, r.n1, r.few⟩
    rw [r.sd, hr, List.filter_cons]
    simp [hx]

theorem adel_length {α : Type} (x : Int) : ∀ l : List (Int × α), (adel x l).length ≤ l.length
  | [] => Nat.le_refl _
  | (y, u) :: l => by
    simp only [adel]
    split
    · simp
    · have := adel_length x l
      simp only [List.length_cons]
      omega
theorem freeS_few (t : TbD) (id : Int) : (freeS t id).tags.length ≤ t.tags.length := by
  unfold freeS
  split
  · exact adel_length _ _
  · exact Nat.le_refl _
theorem freeS_row (t : TbD) (id : Int) : (freeS t id).row = t.row := by
  unfold freeS
  split <;> rfl
theorem popS_row (t : TbD) (x : Rep) (l : List Rep) : (popS t x l).row = l := by
  unfold popS
  simp only
  split
  · split
    · rw [freeS_row, freeS_row]
    · rfl
  · rfl
theorem popS_few (t : TbD) (x : Rep) (l : List Rep) : (popS t x l).tags.length ≤ t.tags.length := by
  unfold popS
  simp only
  split
  · split
    · exact Nat.le_trans (freeS_few _ _) (freeS_few _ _)
    · exact Nat.le_refl _
  · exact Nat.le_refl _

/-- A thing's reply is written. -/
theorem RunP.wrote (r : RunP t l h sd n f B) {x : Rep} {rest : List Rep} (hr : t.row = x :: rest) (hx : x.fr = true) :
    ∃ (k : Nat) (X : Thing) (f' : Nat → Ab) (B' : List Nat), k < n ∧ x.id = (k : Int) + 1 ∧ l[k]? = some X ∧ X.wr = false ∧ 0 ≤ X.tag ∧ X.tag < 16 ∧ x.m.tag = X.tag ∧ h[X.tag.toNat]? = some (k : Int) ∧
      (X.fl = false → x.m.kind = 121 ∧ X.an = true ∧ X.cn = false) ∧
      (X.fl = true → x.m.kind = 109 ∧ (X.nm = -1 ∨ ∃ (y : Nat) (Y : Thing), X.nm = y ∧ y < k ∧ l[y]? = some Y ∧ 0 ≤ Y.tag ∧ Y.tag < 16 ∧ (Y.fl = true → Y.wr = true) ∧ (Y.fl = false → (Y.cn = true ∨ (Y.dc = true ∧ Y.wr = true)) ∧ ∀ (j : Nat) (Z : Thing), j < k → l[j]? = some Z → Z.fl = true → Z.nm = X.nm → Z.wr = true))) ∧
      RunP (popS t x rest) (l.set k { X with wr := true }) (wrH l h k X) sd n f' B' ∧ (∀ j, (f' j).ph = .op ∨ (f' j).ph = .de → (f j).ph = .op ∨ (f j).ph = .de) := by
  obtain ⟨hok, hc⟩ := r.rl.pop hr
  rcases hc with ⟨_, k, B', rfl, hid, hk, rl1⟩ | ⟨a, _⟩
  case inr => rw [hx] at a; cases a
  obtain ⟨k', hk', hid', hm⟩ := hok.1 hx
  have : k' = k := by omega
  subst this
  obtain ⟨_, hph⟩ := r.ai.r1 k' List.mem_cons_self
  have hl := r.lr.at_ k' hk
  have htg := r.ai.tg k' hk
  have hi : (f k').ph.inT = true := by rcases hph with q | q <;> rw [q] <;> rfl
  have htn : (f k').tag = ((f k').tag.toNat : Nat) := by omega
  have hho := (r.lr.holds r.ai.uq hk (g := (f k').tag.toNat) (by omega) htn).2 hi
  obtain ⟨o, ho, hoo⟩ := r.rl.ido k' hk hi
  have epop : popS t x rest = freeS (freeS { t with row := rest } o.fr) ((k' : Int) + 1) := by
    unfold popS; rw [hx, hid, ho]; rfl
  have hsd : sd = (rest.filter fun r => !r.fr).length := by
    rw [r.sd, hr, List.filter_cons]; simp [hx]
  have hfew : (popS t x rest).tags.length ≤ 8 := Nat.le_trans (popS_few _ _ _) r.few
  have hsd' : sd = ((popS t x rest).row.filter fun r => !r.fr).length := by rw [popS_row]; exact hsd
  refine ⟨k', thOf (f k'), ?_⟩
  rcases hph with q | q
  · -- a request's
    have hself : (phF f k' .dn k').ph = .dn := by rw [phF_ph, if_pos rfl]
    have hne : ∀ j, j ≠ k' → phF f k' .dn j = f j := fun j hj => setF_ne hj
    have hfr : o.fr = 0 := by rw [hoo.fr]; unfold frOf; rw [q]
    have e0 : freeS { t with row := rest } 0 = { t with row := rest } := by unfold freeS; rw [rl1.absent0 (.inl (by omega))]
    have rl2 := rl1.free (g := phF f k' .dn) r.ai.uq hk hi hne (phF_tag _ _ _ _) (by rw [hself]; rfl) (by rw [hself, q]; rfl) (fun j _ _ _ _ => by rw [hself, q]; rfl)
    have lr2 := r.lr.leave (f' := phF f k' .dn) r.ai.uq hk (g := (f k').tag.toNat) (by omega) hne htn hi (by rw [hself]; rfl)
    have ht1 : thOf (phF f k' .dn k') = { thOf (f k') with wr := true } := by
      simp only [thOf, hself, phF_tag, phF_nm, q, Ph.fl, Ph.cn, Ph.dc, Ph.ak, Ph.wr]
    rw [ht1] at lr2
    have ewr : wrH l h k' (thOf (f k')) = h.set (f k').tag.toNat (-1) := by
      unfold wrH
      simp [thOf, q, Ph.fl]
    refine ⟨phF f k' .dn, B', hk, hid, hl, by simp [thOf, q, Ph.wr], htg.1, htg.2, by rw [hm]; rfl, hho, fun _ => ⟨by rw [hm]; simp [q, Ph.fl], by simp [thOf, q, Ph.ak], by simp [thOf, q, Ph.cn]⟩, fun z => by simp [thOf, q, Ph.fl] at z, ⟨r.ai.wrote q, ?_, by rw [ewr]; exact lr2, hsd', r.n1, hfew⟩, ?_⟩
    · rw [epop, hfr, e0]; exact rl2
    · intro j hj
      by_cases e : j = k'
      · subst e; rw [hself] at hj; rcases hj with hj | hj <;> cases hj
      · rwa [hne j e] at hj
  · -- a flush's
    have hself : (phF f k' .df k').ph = .df := by rw [phF_ph, if_pos rfl]
    have hne : ∀ j, j ≠ k' → phF f k' .df j = f j := fun j hj => setF_ne hj
    have lr2 := r.lr.leave (f' := phF f k' .df) r.ai.uq hk (g := (f k').tag.toNat) (by omega) hne htn hi (by rw [hself]; rfl)
    have ht1 : thOf (phF f k' .df k') = { thOf (f k') with wr := true } := by
      simp only [thOf, hself, phF_tag, phF_nm, q, Ph.fl, Ph.cn, Ph.dc, Ph.ak, Ph.wr]
    rw [ht1] at lr2
    have hop : ∀ (y : Nat) (g : Nat → Ab), (∀ j, j ≠ k' → j ≠ y → g j = f j) → (g k').ph = .df → ((g y).ph = .cf) → ∀ j, (g j).ph = .op ∨ (g j).ph = .de → (f j).ph = .op ∨ (f j).ph = .de := by
      intro y g h1 h2 h3 j hj
      by_cases e : j = k'
      · subst e; rw [h2] at hj; rcases hj with hj | hj <;> cases hj
      · by_cases e' : j = y
        · subst e'; rw [h3] at hj; rcases hj with hj | hj <;> cases hj
        · rwa [h1 j e e'] at hj
    have hop0 : ∀ j, (phF f k' .df j).ph = .op ∨ (phF f k' .df j).ph = .de → (f j).ph = .op ∨ (f j).ph = .de := by
      intro j hj
      by_cases e : j = k'
      · subst e; rw [hself] at hj; rcases hj with hj | hj <;> cases hj
      · rwa [hne j e] at hj
    have e0 : freeS { t with row := rest } 0 = { t with row := rest } := by unfold freeS; rw [rl1.absent0 (.inl (by omega))]
    have rl0 := rl1.free (g := phF f k' .df) r.ai.uq hk hi hne (phF_tag _ _ _ _) (by rw [hself]; rfl) (by rw [hself, q]; rfl) (fun j _ _ _ _ => by rw [hself, q]; rfl)
    cases hnm : (f k').nm with
    | none =>
      have ha := r.ai.wroteF q (phF f k' .df) (by rw [hnm])
      have hfr : o.fr = 0 := by rw [hoo.fr]; unfold frOf; rw [q, hnm]
      have ewr : wrH l h k' (thOf (f k')) = h.set (f k').tag.toNat (-1) := by
        unfold wrH
        simp [thOf, q, Ph.fl, hnm, nmI]
      refine ⟨phF f k' .df, B', hk, hid, hl, by simp [thOf, q, Ph.wr], htg.1, htg.2, by rw [hm]; rfl, hho, fun z => by simp [thOf, q, Ph.fl] at z, fun _ => ⟨by rw [hm]; simp [q, Ph.fl], .inl (by simp [thOf, hnm, nmI])⟩, ⟨ha, ?_, by rw [ewr]; exact lr2, hsd', r.n1, hfew⟩, hop0⟩
      rw [epop, hfr, e0]; exact rl0
    | some y =>
      have hyk := (r.ai.nm k' y hk hnm).1
      have hyn : y < n := by omega
      have hyne : y ≠ k' := by omega
      obtain ⟨c1, c2⟩ := r.ai.first q hnm
      have hly := r.lr.at_ y hyn
      have hty := r.ai.tg y hyn
      have htyn : (f y).tag = ((f y).tag.toNat : Nat) := by omega
      have hnI : (thOf (f k')).nm = (y : Int) := by simp [thOf, hnm, nmI]
      have hsec : (thOf (f k')).nm = -1 ∨ ∃ (y : Nat) (Y : Thing), (thOf (f k')).nm = y ∧ y < k' ∧ l[y]? = some Y ∧ 0 ≤ Y.tag ∧ Y.tag < 16 ∧ (Y.fl = true → Y.wr = true) ∧ (Y.fl = false → (Y.cn = true ∨ (Y.dc = true ∧ Y.wr = true)) ∧ ∀ (j : Nat) (Z : Thing), j < k' → l[j]? = some Z → Z.fl = true → Z.nm = (thOf (f k')).nm → Z.wr = true) := by
        refine .inr ⟨y, thOf (f y), hnI, hyk, hly, hty.1, hty.2, ?_, ?_⟩
        · intro hf
          have hf : (f y).ph.fl = true := hf
          rcases c1 with c | c
          · cases hq : (f y).ph <;> rw [hq] at c hf <;> first | (cases c; done) | (cases hf; done)
          · exact c
        · intro hf
          have hf : (f y).ph.fl = false := hf
          refine ⟨?_, ?_⟩
          · rcases c1 with c | c
            · exact .inl c
            · right
              cases hq : (f y).ph <;> rw [hq] at c hf <;> first | (cases c; done) | (cases hf; done) | exact ⟨by simp [thOf, hq, Ph.dc], by simp [thOf, hq, Ph.wr]⟩
          · intro j Z hj hZ h1 h2
            rw [r.lr.at_ j (by omega)] at hZ
            cases hZ
            refine c2 j hj h1 ?_
            rw [hnI] at h2
            have h2 : nmI (f j).nm = (y : Int) := h2
            cases hq : (f j).nm with
            | none => rw [hq] at h2; simp only [nmI] at h2; omega
            | some z => rw [hq] at h2; simp only [nmI] at h2; have : z = y := by omega
                        rw [this]
      by_cases hcn : (f y).ph.cn = true
      · have ha := r.ai.wroteF q (phF (phF f k' .df) y .cf) (by rw [hnm]; simp only [hcn, if_true])
        have gself : (phF (phF f k' .df) y .cf y).ph = .cf := by rw [phF_ph, if_pos rfl]
        have gk : (phF (phF f k' .df) y .cf k').ph = .df := by rw [phF_ph, if_neg (fun h => hyne h.symm), hself]
        have gne : ∀ j, j ≠ k' → j ≠ y → phF (phF f k' .df) y .cf j = f j := fun j h1 h2 => (setF_ne h2).trans (hne j h1)
        have hfr : o.fr = (y : Int) + 1 := by rw [hoo.fr]; unfold frOf; rw [q, hnm]; simp only [hcn, if_true]
        by_cases hca : (f y).ph = .ca
        · -- it leaves now
          have hiy : (f y).ph.inT = true := by rw [hca]; rfl
          have f1self : (phF f y .cf y).ph = .cf := by rw [phF_ph, if_pos rfl]
          have f1ne : ∀ j, j ≠ y → phF f y .cf j = f j := fun j hj => setF_ne hj
          have rl2 := rl1.free (g := phF f y .cf) r.ai.uq hyn hiy f1ne (phF_tag _ _ _ _) (by rw [f1self]; rfl) (by rw [f1self, hca]; rfl) (fun j _ _ _ _ => by rw [f1self, hca]; rfl)
          have uq1 : ∀ j k, j < n → k < n → (phF f y .cf j).ph.inT = true → (phF f y .cf k).ph.inT = true → (phF f y .cf j).tag = (phF f y .cf k).tag → j = k := by
            intro j k hj hk a b
            have hjy : j ≠ y := fun e => by rw [e, f1self] at a; cases a
            have hky : k ≠ y := fun e => by rw [e, f1self] at b; cases b
            rw [f1ne j hjy] at a ⊢
            rw [f1ne k hky] at b ⊢
            exact r.ai.uq j k hj hk a b
          have ek : phF f y .cf k' = f k' := f1ne k' (fun h => hyne h.symm)
          have rl3 := rl2.free (g := phF (phF f k' .df) y .cf) uq1 hk (by rw [ek]; exact hi) (fun j hj => by
            by_cases e : j = y
            · subst e
              show setF (phF f k' .df) j { phF f k' .df j with ph := .cf } j = setF f j { f j with ph := .cf } j
              rw [setF_self, setF_self, hne j hj]
            · rw [gne j hj e, f1ne j e]) (by simp only [phF_tag]) (by rw [gk]; rfl) (by rw [gk, ek, q]; rfl) (fun j _ _ _ _ => by rw [gk, ek, q]; rfl)
          have uq2 : ∀ j k, j < n → k < n → (phF f k' .df j).ph.inT = true → (phF f k' .df k).ph.inT = true → (phF f k' .df j).tag = (phF f k' .df k).tag → j = k := by
            intro j k hj hk a b
            have hjy : j ≠ k' := fun e => by rw [e, hself] at a; cases a
            have hky : k ≠ k' := fun e => by rw [e, hself] at b; cases b
            rw [hne j hjy] at a ⊢
            rw [hne k hky] at b ⊢
            exact r.ai.uq j k hj hk a b
          have ey : phF f k' .df y = f y := hne y hyne
          have lr3 := lr2.leave (f' := phF (phF f k' .df) y .cf) uq2 hyn (g := (f y).tag.toNat) (by omega) (fun j hj => setF_ne hj) (by rw [ey]; exact htyn) (by rw [ey]; exact hiy) (by rw [gself]; rfl)
          have hl2 := lr2.at_ y hyn
          have ht2 : thOf (phF (phF f k' .df) y .cf y) = thOf (phF f k' .df y) := by
            rw [ey]
            simp only [thOf, gself, phF_tag, phF_nm, hca, Ph.fl, Ph.cn, Ph.dc, Ph.ak, Ph.wr]
          rw [ht2, set_same hl2] at lr3
          have hhy := (lr2.holds uq2 hyn (g := (f y).tag.toNat) (by omega) (by rw [ey]; exact htyn)).2 (by rw [ey]; exact hiy)
          have ewr : wrH l h k' (thOf (f k')) = (h.set (f k').tag.toNat (-1)).set (f y).tag.toNat (-1) := by
            unfold wrH
            have a1 : (thOf (f k')).fl = true := by simp [thOf, q, Ph.fl]
            have a2 : ((y : Int)).toNat = y := by omega
            simp only [a1, hnI, true_and, a2, hly]
            rw [if_pos (by omega), if_pos ⟨hcn, hhy⟩]
            rfl
          refine ⟨_, B', hk, hid, hl, by simp [thOf, q, Ph.wr], htg.1, htg.2, by rw [hm]; rfl, hho, fun z => by simp [thOf, q, Ph.fl] at z, fun _ => ⟨by rw [hm]; simp [q, Ph.fl], hsec⟩, ⟨ha, ?_, by rw [ewr]; exact lr3, hsd', r.n1, hfew⟩, hop y _ gne gk gself⟩
          rw [epop, hfr]; exact rl3
        · -- it has left
          have hcf : (f y).ph = .cf := by cases hq : (f y).ph <;> rw [hq] at hcn hca <;> first | (cases hcn; done) | exact absurd rfl hca | rfl
          have hiy : (f y).ph.inT = false := by rw [hcf]; rfl
          have ey : phF f k' .df y = f y := hne y hyne
          have eg : phF (phF f k' .df) y .cf = phF f k' .df := by
            funext j
            by_cases e : j = y
            · subst e
              show setF (phF f k' .df) j { phF f k' .df j with ph := .cf } j = _
              rw [setF_self, ey, ← hcf]
            · exact setF_ne e
          rw [eg] at ha
          have e1 : freeS { t with row := rest } ((y : Int) + 1) = { t with row := rest } := by unfold freeS; rw [rl1.absent (.inr hiy)]
          have uq2 : ∀ j k, j < n → k < n → (phF f k' .df j).ph.inT = true → (phF f k' .df k).ph.inT = true → (phF f k' .df j).tag = (phF f k' .df k).tag → j = k := ha.uq
          have hhy : ¬ (h.set (f k').tag.toNat (-1))[(f y).tag.toNat]? = some (y : Int) := fun e => by
            have := (lr2.holds uq2 hyn (g := (f y).tag.toNat) (by omega) (by rw [ey]; exact htyn)).1 e
            rw [ey, hiy] at this
            cases this
          have ewr : wrH l h k' (thOf (f k')) = h.set (f k').tag.toNat (-1) := by
            unfold wrH
            have a1 : (thOf (f k')).fl = true := by simp [thOf, q, Ph.fl]
            have a2 : ((y : Int)).toNat = y := by omega
            simp only [a1, hnI, true_and, a2, hly]
            rw [if_pos (by omega), if_neg (fun hh => hhy hh.2)]
            rfl
          refine ⟨_, B', hk, hid, hl, by simp [thOf, q, Ph.wr], htg.1, htg.2, by rw [hm]; rfl, hho, fun z => by simp [thOf, q, Ph.fl] at z, fun _ => ⟨by rw [hm]; simp [q, Ph.fl], hsec⟩, ⟨ha, ?_, by rw [ewr]; exact lr2, hsd', r.n1, hfew⟩, hop0⟩
          rw [epop, hfr, e1]; exact rl0
      · have ha := r.ai.wroteF q (phF f k' .df) (by rw [hnm]; simp only [hcn, Bool.false_eq_true, if_false])
        have hcn' : (f y).ph.cn = false := by simpa using hcn
        have hfr : o.fr = 0 := by rw [hoo.fr]; unfold frOf; rw [q, hnm]; simp only [hcn', Bool.false_eq_true, if_false]
        have ewr : wrH l h k' (thOf (f k')) = h.set (f k').tag.toNat (-1) := by
          unfold wrH
          have a1 : (thOf (f k')).fl = true := by simp [thOf, q, Ph.fl]
          have a2 : ((y : Int)).toNat = y := by omega
          simp only [a1, hnI, true_and, a2, hly]
          rw [if_pos (by omega), if_neg (fun hh => hcn hh.1)]
          rfl
        refine ⟨phF f k' .df, B', hk, hid, hl, by simp [thOf, q, Ph.wr], htg.1, htg.2, by rw [hm]; rfl, hho, fun z => by simp [thOf, q, Ph.fl] at z, fun _ => ⟨by rw [hm]; simp [q, Ph.fl], hsec⟩, ⟨ha, ?_, by rw [ewr]; exact lr2, hsd', r.n1, hfew⟩, hop0⟩
        rw [epop, hfr, e0]; exact rl0

/-- At the end nothing is in the table. -/
theorem RunP.atEnd (r : RunP t l h sd n f B) (hrow : t.row = []) (hp : ∀ k, k < n → (f k).ph ≠ .op ∧ (f k).ph ≠ .de) : t.ids = [] ∧ sd = 0 ∧ ∀ (k : Nat) (X : Thing), l[k]? = some X → X.wr = !X.cn := by
  have hB : B = [] := by rw [← r.rl.row, hrow]; rfl
  have v := r.ai
  rw [hB] at v
  have nm : ∀ k, k < n → (f k).ph.inT = false ∧ (f k).ph.wr = !(f k).ph.cn := by
    intro k hk
    rcases v.atEnd hp hk with q | q | q <;> rw [q] <;> exact ⟨rfl, rfl⟩
  refine ⟨?_, by rw [r.sd, hrow]; rfl, ?_⟩
  · cases hq : t.ids with
    | nil => rfl
    | cons p rest =>
      have h1 : agt p.1 t.ids = some p.2 := by rw [hq]; simp [agt]
      obtain ⟨k, hk, _, e⟩ := r.rl.idk _ _ h1
      rw [(nm k hk).1] at e; cases e
  · intro k X hX
    have hk : k < n := by
      rw [← r.lr.len]
      exact (List.getElem?_eq_some_iff.1 hX).1
    rw [r.lr.at_ k hk] at hX
    cases hX
    exact (nm k hk).2
end

end Go.Proofs.Yteefkhfmpcaccaa
