/- What a condition on the five variables of Go's library gives. -/
import Derived.Test.YtblonickpmogiaaDoorUnq
import Derived.Test.YtblonickpmogiaaDoorText
import Derived.LaidMore
import Derived.MakeChecks
import Derived.Lib.LaidTab
import Derived.Stop.LaidErr
import Derived.Test.YtblonickpmogiaaDoorRows
namespace Go.Proofs.YtblonickpmogiaaDoor
open Go.RowKit Go.ChangeShapes

theorem gTab5 : Tryd.prog.globalNamed "internal/strconv.uint64pow10" = some 0 := by kernel_rfl
theorem tTab5 : (Tryd.prog.globals[0]?).map (·.type) = some 75 := by kernel_rfl
theorem cellsU5 : Tryd.prog.cellsOf 64 = 1 := by kernel_rfl
theorem cellsT5 : Tryd.prog.cellsOf 75 = 20 := by kernel_rfl
theorem gSyn : Tryd.prog.globalNamed "strconv.ErrSyntax" = some 1 := by kernel_rfl
theorem tSyn : (Tryd.prog.globals[1]?).map (·.type) = some 49 := by kernel_rfl
theorem gRng : Tryd.prog.globalNamed "strconv.ErrRange" = some 2 := by kernel_rfl
theorem tRng : (Tryd.prog.globals[2]?).map (·.type) = some 49 := by kernel_rfl
theorem cellsE5 : Tryd.prog.cellsOf 94 = 1 := by kernel_rfl
theorem cellsS5 : Tryd.prog.cellsOf 9 = 1 := by kernel_rfl
theorem star5 : "*" ++ "errors.errorString" = "*errors.errorString" := by decide
theorem rowE5 (u : TypeId) (h : Tryd.prog.typeName? 3 u = some "*errors.errorString") : u = 92 :=
  typeName_ptr_named (nm := "errors.errorString") (by rw [star5]; kernel_rfl) (by kernel_rfl) (by decide) u (by rw [star5]; exact h)

/-- What the condition gives the walks. -/
theorem of_laid5 {W : World} (h : laidMet Tryd.prog Rows.symBackRow.laid W) : Tab W ∧ Ev W := by
  refine ⟨?_, ?_⟩
  · obtain ⟨ps, ⟨g2, t2, cs2, f2, p2, q2, hg2, ht2, hv2, hd2, _, _⟩, _, _⟩ := h.tail.tail
    obtain rfl := Option.some.inj (gTab5.symm.trans hg2)
    obtain rfl := Option.some.inj (tTab5.symm.trans ht2)
    unfold Tab Lib.TabIs
    have hd : DataW.trod _ Tryd.prog W 0 _ false f2 75 cs2.toList = some (Lib.tabData .u64 Lib.pow10Tab, p2) := hd2
    rw [hv2, ← Lib.cells_of_tab Tryd.underlying75 Tryd.underlying64 cellsU5 cellsT5 hd]
  · obtain ⟨a0, s0, h0, _⟩ := laid_sentinel h.tail.tail.tail.tail gSyn tSyn Tryd.underlying49 rowE5 Tryd.underlying92 Tryd.underlying94 rfl rfl Tryd.underlying9 cellsE5 cellsS5
    obtain ⟨a1, s1, h1, _⟩ := laid_sentinel h.tail.tail.tail gRng tRng Tryd.underlying49 rowE5 Tryd.underlying92 Tryd.underlying94 rfl rfl Tryd.underlying9 cellsE5 cellsS5
    exact ⟨⟨_, _, by simpa using World.var?_cell gSyn h0 0⟩, _, _, by simpa using World.var?_cell gRng h1 0⟩
end Go.Proofs.YtblonickpmogiaaDoor
