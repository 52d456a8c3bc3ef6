/- Two pointers are compared. -/
import Derived.LaidEqlPtr
import Derived.Test.YteefkhfmpcaccaaFx
namespace Go.Proofs.Yteefkhfmpcaccaa
open Go

theorem St.ptrNe {P : Program} {w0 w : World} {A R : HP} {C : HP → HP} {a b n : Nat} {x y : Array Value} {t t' T te : TypeId} {K : Value → Prop} {θ : Tag (w, K)} (h : St w0 A w) [i : Take (.blk a) A (Blk a (.cells x t (0, 0))) R] [j : Hole (.blk b) R (Blk b (.cells y t' (0, 0))) C]
    (hp : P.underlying T = some (.pointer te)) (hs : szO P te = some (n + 1)) (hK : K (.bool false)) : ptrW P .eql T ⟨a, 0, none⟩ ⟨b, 0, none⟩ w K θ := by
  obtain ⟨inf, hi, hn⟩ := Option.map_eq_some_iff.1 hs
  have h1 := h.ac i.eq
  obtain ⟨R', hR'⟩ := j.fr
  have h2 : St w0 (Blk a (.cells x t (0, 0)) * (Blk b (.cells y t' (0, 0)) * R')) w := h1.ac (by rw [j.eq, hR'])
  have hne : a ≠ b := by
    obtain ⟨z, l, h1, h2, d, l1, l2, p, h3, h4, d2, l3, l4, q, _⟩ := h2.sat
    rintro rfl
    have q' := l3 a _ q
    rcases d a with e | e
    · rw [show h1 a = some _ from p] at e; cases e
    · rw [q'] at e; cases e
  exact ⟨_, run_eql_ptr_other w hp hi (by omega) (fun e => hne (congrArg Addr.block e)) h2.blk h2.sw2.blk, hK⟩
theorem ptrSame {P : Program} {w : World} {a : Addr} {n : Nat} {T te : TypeId} {K : Value → Prop} {θ : Tag (w, K)} (hp : P.underlying T = some (.pointer te)) (hs : szO P te = some n) (hK : K (.bool true)) : ptrW P .eql T a a w K θ := by
  obtain ⟨inf, hi, hn⟩ := Option.map_eq_some_iff.1 hs
  exact ⟨_, run_eql_ptr_same w a hp hi, hK⟩

end Go.Proofs.Yteefkhfmpcaccaa
