/- What the start held is below. -/
import Derived.Test.YtonajgmamdeohaaGreatDoorSl2
import Derived.Below
import Derived.WalkKit
namespace Go.Proofs.YtonajgmamdeohaaGreatDoor
open Go

theorem St.below0 {w0 w : World} (h : St w0 (Old w0) w) : RowKit.Below w0.heap.size w0 w := by
  refine ⟨h.os, h.tape, h.output, h.size, fun k hk => ?_⟩
  obtain ⟨x, l, a⟩ := h.sat
  have := l k _ (a k _ (Array.getElem?_eq_getElem hk))
  rw [Array.getElem?_eq_getElem hk]
  exact this

end Go.Proofs.YtonajgmamdeohaaGreatDoor
