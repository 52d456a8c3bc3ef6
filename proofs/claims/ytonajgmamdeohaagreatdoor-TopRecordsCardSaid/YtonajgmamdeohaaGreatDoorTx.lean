/- Texts out of bytes. -/
import Derived.Test.YtonajgmamdeohaaGreatDoorFx
import Derived.Laws.BytesArg
namespace Go.Proofs.YtonajgmamdeohaaGreatDoor
open Go
set_option linter.unusedVariables false

def strOf (bs : List UInt8) : ByteArray := ⟨bs.toArray⟩
theorem strOf_inj {a b : List UInt8} : strOf a = strOf b ↔ a = b := by
  constructor
  · intro h
    have := congrArg (fun s : ByteArray => s.data.toList) h
    simpa [strOf] using this
  · rintro rfl; rfl
theorem strOfNums_bytes (bs : List UInt8) : strOfNums (bs.map fun b => (b.toNat : Int)) = strOf bs := by
  unfold strOfNums strOf
  congr 1
  rw [List.map_map]
  congr 1
  have : ∀ b : UInt8, UInt8.ofNat ((b.toNat : Int)).toNat = b := fun b => by simp
  conv => rhs; rw [← List.map_id bs]
  apply List.map_congr_left
  intro b _
  exact this b

theorem St.str {P : Program} {w0 w : World} {A : HP} {src e dst : TypeId} {v : Value} {bs : List UInt8} {K : Value → Prop} {θ : Tag K} (h : St w0 A w) (hr : Ent A (RdB v bs)) (hs : P.underlying src = some (.slice e)) (he : P.underlying e = some (.int .u8)) (hd : P.underlying dst = some .string)
    (hK : K (.string (strOf bs))) : readR P (kConvert src dst v) w K θ := by
  show readR P (convert src dst v) w K θ
  obtain ⟨a, c, rfl, hnc, hb⟩ := (h.ent hr).bytes
  cases a with
  | none =>
    rcases hb with rfl | ⟨b, o, hb, _⟩
    · exact ⟨_, run_convert_bytes_nil w src e hs he _ _ dst hd, hK⟩
    · cases hb
  | some a =>
    rcases hb with rfl | ⟨b, o, hb, hc⟩
    · refine ⟨_, ?_, hK⟩
      obtain ⟨b, o, sub⟩ := a
      rw [run_convert_bytes_string w src dst e _ _ _ hs he hd]
      rw [run_bytesToString w _ _ _ [] (by simp [loadCells, loadCellsFrom])]
      rfl
    · simp only [Option.some.injEq] at hb
      subst hb
      refine ⟨_, run_convert_bytes_arg w src e hs he b o bs.length c (bs.map fun b => (b.toNat : Int)) (by simp) (fun i hi => ?_) dst hd, ?_⟩
      · rw [hc i hi]
        simp [bv, List.getD, List.getElem?_eq_getElem hi]
      · rw [strOfNums_bytes]; exact hK
end Go.Proofs.YtonajgmamdeohaaGreatDoor
