/- A string as an argument, or in a slice, within the reach. Over any program. -/
import Derived.Test.YtblonickpmogiaaDoorSlR
namespace Go.Proofs.YtblonickpmogiaaDoor
open Go.ChangeShapes Go.WideShapes Go.ChangeAt Go.RowKit Go.Deep

section
variable {H : Type} {enc : TypeId × Value → H} {P : Program} {w : World} {base : Nat} {spare : Nat → Bool} {held : Bool}
theorem open_strR {e : TypeId} {fuel : Nat} {cs : List Value} {x : DataW H × List MemPlace} (he : P.underlying e = some .string)
    (h : DataW.trod enc P w base spare held fuel e cs = some x) (hR : InReach P e x.1) : ∃ k : ByteArray, k.size ≤ 140737488351232 ∧ cs = [.string k] := by
  obtain ⟨s, hs, hy, _⟩ := DataW.trod_string he h
  rw [hy] at hR
  have hb := reach_string hR
  have e3 : s.data.toList.length = s.size := by rw [Array.length_toList]; rfl
  exact ⟨s, by omega, hs⟩
end
end Go.Proofs.YtblonickpmogiaaDoor
