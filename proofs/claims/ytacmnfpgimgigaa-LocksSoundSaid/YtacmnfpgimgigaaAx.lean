/- Arguments that are rows of plain structs, as rows that are read. -/
import Derived.Test.YtacmnfpgimgigaaFx
import Derived.Test.YtacmnfpgimgigaaArgs
namespace Go.Proofs.Ytacmnfpgimgigaa
open Go
set_option linter.unusedVariables false

theorem rSlice_reads {α : Type} {s b : Nat} {R : Rdr α} {enc : α → List Value} (he : ∀ x cs h, R.rel x cs h → cs = enc x) (hk : ∀ x, (enc x).length = s) {xs : List α} {v : Value} :
    Ent ((rSlice s b R).at xs [v]) (Reads s v xs.length (xs.flatMap enc)) := by
  refine Ent.of fun h hr => ?_
  obtain ⟨a, cap, e, l, m, r, k⟩ := hr
  simp only [List.cons.injEq, and_true] at e
  subst e
  refine ⟨flatMap_length hk xs, a, cap, rfl, l, ?_⟩
  rcases k with k | ⟨g, o, cur, T, fr, ea, hg, hj⟩
  · left; subst k; rfl
  · right
    refine ⟨g, o, cur, T, fr, ea, hg, fun t ht => ?_⟩
    rw [flatMap_length hk] at ht
    obtain ⟨i, j, hi, hjs, e, hf⟩ := flatMap_at_all hk xs t ht
    obtain ⟨h1, h2⟩ := hj i hi
    have h3 := he _ _ _ h2
    rw [hf, ← h3, e, List.getElem?_take_of_lt hjs, List.getElem?_drop, Array.getElem?_toList]
    congr 1
    omega

/-- The first k elements, as the evaluator spells 'x[:k]'. -/
theorem Reads.takeK {s n c k : Nat} {a : Option Addr} {xs : List Value} (hk : k ≤ n) : Ent (Reads s (.slice a n c) n xs) (Reads s (.slice (if c = 0 then a else Option.map (fun x => x) a) k (c - 0)) k (xs.take (k * s))) := by
  have h := Reads.sub (s := s) (n := n) (lo := 0) (k := k) (c := c) (a := a) (xs := xs) (by omega)
  rw [Nat.zero_mul, List.drop_zero] at h
  exact h
theorem flatMap_take {α : Type} {enc : α → List Value} {k : Nat} (hk : ∀ x, (enc x).length = k) : ∀ (l : List α) (n : Nat), (l.flatMap enc).take (n * k) = (l.take n).flatMap enc
  | [], n => by simp
  | x :: l, 0 => by simp
  | x :: l, n + 1 => by
    rw [List.flatMap_cons, List.take_succ_cons, List.flatMap_cons, Nat.add_mul, Nat.one_mul, Nat.add_comm, List.take_append, hk, List.take_of_length_le (by rw [hk]; omega), show k + n * k - k = n * k by omega, flatMap_take hk l n]

end Go.Proofs.Ytacmnfpgimgigaa
