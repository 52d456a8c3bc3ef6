/- The law of Clean: its parts are clean, and cleaning them gives them back. -/
import Derived.Test.YtlnlomjdooobdaaDoorNaE
namespace Go.Proofs.YtlnlomjdooobdaaDoor
open Go
set_option linter.unusedVariables false
set_option linter.unusedSimpArgs false

/-! ### Parts, and clean lists of parts -/

def Part (p : List UInt8) : Prop := p = [46, 46] ∨ okName p = true
theorem okName_facts {p : List UInt8} (h : okName p = true) : p ≠ [] ∧ p ≠ [46] ∧ p ≠ [46, 46] ∧ (47 : UInt8) ∉ p ∧ p.length ≤ 255 := by
  simp only [okName, dots, Bool.and_eq_true, Bool.not_eq_true', Bool.or_eq_false_iff, beq_eq_false_iff_ne, decide_eq_false_iff_not] at h
  obtain ⟨⟨⟨⟨⟨h1, h2⟩, h3⟩, h4⟩, h5⟩, _⟩ := h
  exact ⟨h1, h2, h3, h5, by omega⟩
theorem Part.facts {p : List UInt8} (h : Part p) : p ≠ [] ∧ p ≠ [46] ∧ (47 : UInt8) ∉ p := by
  rcases h with rfl | h
  · simp
  · exact ⟨(okName_facts h).1, (okName_facts h).2.1, (okName_facts h).2.2.2.1⟩
theorem partsF_part : ∀ (qs ps : List (List UInt8)), partsF qs = some ps → ∀ p ∈ ps, Part p
  | [], ps, h => by cases h; simp
  | q :: qs, ps, h => by
    by_cases h0 : q = [] ∨ q = [46]
    · rw [partsF_skip h0] at h; exact partsF_part qs ps h
    · by_cases h1 : q = [46, 46] ∨ okName q = true
      · rw [partsF_take h0 h1] at h
        obtain ⟨r, hr, rfl⟩ := Option.map_eq_some_iff.1 h
        intro p hp
        rcases List.mem_cons.1 hp with rfl | hp
        · exact h1
        · exact partsF_part qs r hr p hp
      · rw [partsF_bad h0 h1] at h; cases h
theorem partsF_self : ∀ (ps : List (List UInt8)), (∀ p ∈ ps, Part p) → partsF ps = some ps
  | [], _ => rfl
  | p :: ps, h => by
    have hp := (h p (by simp)).facts
    rw [partsF_take (by simp [hp.1, hp.2.1]) (h p (by simp)), partsF_self ps fun q hq => h q (by simp [hq])]
    rfl

theorem pcs_plain : ∀ {p : List UInt8}, (47 : UInt8) ∉ p → pcs p = [p]
  | [], _ => rfl
  | c :: p, h => by
    have h1 : c ≠ 47 := fun e => h (by simp [e])
    have h2 : (47 : UInt8) ∉ p := fun e => h (by simp [e])
    rw [pcs, if_neg h1, pcs_plain h2]
theorem pcs_app : ∀ {p : List UInt8} (r : List UInt8), (47 : UInt8) ∉ p → pcs (p ++ 47 :: r) = p :: pcs r
  | [], r, _ => by simp [pcs]
  | c :: p, r, h => by
    have h1 : c ≠ 47 := fun e => h (by simp [e])
    have h2 : (47 : UInt8) ∉ p := fun e => h (by simp [e])
    rw [List.cons_append, pcs, if_neg h1, pcs_app r h2]
theorem joinL_two (p q : List UInt8) (ps : List (List UInt8)) : joinL (p :: q :: ps) = p ++ 47 :: joinL (q :: ps) := by
  rw [joinL, Lib.join_cons, joinL, Lib.join_cons]
  simp [Lib.joinTail]
theorem pcs_join : ∀ (ps : List (List UInt8)), ps ≠ [] → (∀ p ∈ ps, (47 : UInt8) ∉ p) → pcs (joinL ps) = ps
  | [], h, _ => absurd rfl h
  | [p], _, h => by rw [joinL, Lib.join_one, pcs_plain (h p (by simp))]
  | p :: q :: ps, _, h => by
    rw [joinL_two, pcs_app _ (h p (by simp)), pcs_join (q :: ps) (by simp) fun x hx => h x (by simp [hx])]
theorem split_join (r : Bool) (ps : List (List UInt8)) (h : ∀ p ∈ ps, Part p) : splitF (joinP r ps) = some ps := by
  have hs : ∀ p ∈ ps, (47 : UInt8) ∉ p := fun p hp => (h p hp).facts.2.2
  unfold splitF joinP
  by_cases h0 : ps = []
  · subst h0
    cases r
    · rfl
    · rfl
  · cases r
    · rw [if_neg (by simp), if_neg h0, pcs_join ps h0 hs, partsF_self ps h]
    · rw [if_pos rfl, List.singleton_append, pcs, if_pos rfl, pcs_join ps h0 hs, partsF_skip (.inl rfl), partsF_self ps h]
theorem rooted_join (r : Bool) (ps : List (List UInt8)) (h : ∀ p ∈ ps, Part p) : rooted (joinP r ps) = r := by
  unfold rooted joinP
  cases r
  · rw [if_neg (by simp)]
    cases ps with
    | nil => rfl
    | cons p ps =>
      rw [if_neg (by simp), joinL, Lib.join_cons]
      obtain ⟨h1, _, h3⟩ := (h p (by simp)).facts
      cases p with
      | nil => exact absurd rfl h1
      | cons c p =>
        have : (47 : UInt8) ≠ c := fun e => h3 (by simp [e])
        simp [List.isPrefixOf, this]
  · simp [List.isPrefixOf]

def okC : Bool → List (List UInt8) → Prop
  | _, [] => True
  | b, p :: ps => Part p ∧ ¬ (p = [46, 46] ∧ b = true) ∧ okC (b || !(decide (p = [46, 46]))) ps
theorem okC_parts : ∀ {b : Bool} {ps : List (List UInt8)}, okC b ps → ∀ p ∈ ps, Part p
  | _, [], _, p, hp => by simp at hp
  | b, q :: ps, h, p, hp => by
    rcases List.mem_cons.1 hp with rfl | hp
    · exact h.1
    · exact okC_parts h.2.2 p hp
theorem okC_true : ∀ {ps : List (List UInt8)}, okC true ps → ∀ p ∈ ps, p ≠ [46, 46]
  | [], _, p, hp => by simp at hp
  | q :: ps, h, p, hp => by
    rcases List.mem_cons.1 hp with rfl | hp
    · exact fun e => h.2.1 ⟨e, rfl⟩
    · exact okC_true (by simpa using h.2.2) p hp
theorem okC_mid : ∀ {b : Bool} {acc q : List (List UInt8)}, okC b (acc ++ [46, 46] :: q) → b = false ∧ ∀ x ∈ acc, x = [46, 46]
  | b, [], q, h => ⟨by cases b with
      | false => rfl
      | true => exact absurd ⟨rfl, rfl⟩ h.2.1, by simp⟩
  | b, p :: acc, q, h => by
    obtain ⟨h1, h2⟩ := okC_mid (acc := acc) h.2.2
    simp only [Bool.or_eq_false_iff, Bool.not_eq_false', decide_eq_true_eq] at h1
    refine ⟨h1.1, fun x hx => ?_⟩
    rcases List.mem_cons.1 hx with rfl | hx
    · exact h1.2
    · exact h2 x hx
theorem okC_pre : ∀ {b : Bool} {acc q : List (List UInt8)}, okC b (acc ++ q) → okC b acc
  | _, [], _, _ => trivial
  | b, p :: acc, q, h => ⟨h.1, h.2.1, okC_pre (acc := acc) h.2.2⟩
theorem okC_snoc : ∀ {b : Bool} {acc : List (List UInt8)} {p : List UInt8}, okC b acc → Part p → (p = [46, 46] → b = false ∧ ∀ x ∈ acc, x = [46, 46]) → okC b (acc ++ [p])
  | b, [], p, _, hp, hd => ⟨hp, fun ⟨e, h⟩ => (by rw [(hd e).1] at h; cases h), trivial⟩
  | b, q :: acc, p, h, hp, hd => ⟨h.1, h.2.1, okC_snoc h.2.2 hp fun e => by
      obtain ⟨h1, h2⟩ := hd e
      exact ⟨by simp [h1, h2 q (by simp)], fun x hx => h2 x (by simp [hx])⟩⟩
theorem last_of {acc : List (List UInt8)} (h : ¬ (acc ≠ [] ∧ acc.getLast? ≠ some [46, 46])) : acc = [] ∨ ∃ a, acc = a ++ [[46, 46]] := by
  by_cases h0 : acc = []
  · exact .inl h0
  · refine .inr ⟨acc.dropLast, ?_⟩
    have h1 : acc.getLast? = some [46, 46] := by
      refine Classical.byContradiction fun e => h ⟨h0, e⟩
    rw [List.getLast?_eq_some_getLast h0] at h1
    have := List.dropLast_concat_getLast h0
    rw [Option.some.inj h1] at this
    exact this.symm
theorem okC_step {r : Bool} {acc : List (List UInt8)} {p : List UInt8} (h : okC r acc) (hp : Part p) : okC r (stepF r acc p) := by
  by_cases e : p = [46, 46]
  · by_cases e1 : acc ≠ [] ∧ acc.getLast? ≠ some [46, 46]
    · rw [stepF_back e e1.1 e1.2]
      have := List.dropLast_concat_getLast e1.1
      rw [← this] at h
      exact okC_pre h
    · rw [stepF_up e e1]
      cases r with
      | true => exact h
      | false =>
        refine okC_snoc h hp fun _ => ⟨rfl, ?_⟩
        rcases last_of e1 with rfl | ⟨a, rfl⟩
        · simp
        · have := (okC_mid (q := []) h).2
          intro x hx
          rcases List.mem_append.1 hx with hx | hx
          · exact this x hx
          · exact List.mem_singleton.1 hx
  · rw [stepF_new e]
    exact okC_snoc h hp fun e' => absurd e' e
theorem okC_fold {r : Bool} : ∀ (ps : List (List UInt8)) {acc : List (List UInt8)}, okC r acc → (∀ p ∈ ps, Part p) → okC r (ps.foldl (stepF r) acc)
  | [], _, h, _ => h
  | p :: ps, acc, h, hp => okC_fold ps (okC_step h (hp p (by simp))) fun q hq => hp q (by simp [hq])
theorem fold_okC {r : Bool} : ∀ (q : List (List UInt8)) {acc : List (List UInt8)}, okC r (acc ++ q) → q.foldl (stepF r) acc = acc ++ q
  | [], acc, _ => by simp
  | p :: q, acc, h => by
    have hs : stepF r acc p = acc ++ [p] := by
      by_cases e : p = [46, 46]
      · subst e
        obtain ⟨h1, h2⟩ := okC_mid h
        rw [stepF_up rfl, h1]
        · rfl
        · intro ⟨k1, k2⟩
          exact k2 (by rw [List.getLast?_eq_some_getLast k1, h2 _ (List.getLast_mem k1)])
      · exact stepF_new e
    rw [List.foldl_cons, hs, fold_okC q (by simpa using h)]
    simp
theorem red_okC {r : Bool} {ps : List (List UInt8)} (h : ∀ p ∈ ps, Part p) : okC r (redF r ps) := okC_fold ps trivial h
theorem red_self {r : Bool} {q : List (List UInt8)} (h : okC r q) : redF r q = q := by
  have := fold_okC q (acc := []) (r := r) (by simpa using h)
  simpa [redF] using this

/-- What Clean gives: its own parts are clean, Join gives it back, and it is clean. -/
theorem clean_law {l s : List UInt8} (h : cleanF l = some s) : ∃ ps q, splitF l = some ps ∧ q = redF (rooted l) ps ∧ s = joinP (rooted l) q ∧ okC (rooted l) q ∧ splitF s = some q ∧ rooted s = rooted l ∧ cleanF s = some s := by
  obtain ⟨ps, hs, rfl⟩ := Option.map_eq_some_iff.1 h
  have hp := partsF_part _ _ hs
  have hq := red_okC (r := rooted l) hp
  have h1 := split_join (rooted l) _ (okC_parts hq)
  have h2 := rooted_join (rooted l) _ (okC_parts hq)
  exact ⟨ps, _, hs, rfl, rfl, hq, h1, h2, by rw [cleanF, h1, h2, Option.map_some, red_self hq]⟩
theorem under_self {s : List UInt8} (h : cleanF s = some s) : underF s s = some [46] := by
  obtain ⟨ps, q, h1, _, _, _, h2, _, _⟩ := clean_law h
  rw [underF, if_pos ⟨h, h⟩, h2]
  simp only [Option.getD_some, restF]
  rw [if_pos (by simp)]
  simp [joinP]
end Go.Proofs.YtlnlomjdooobdaaDoor
