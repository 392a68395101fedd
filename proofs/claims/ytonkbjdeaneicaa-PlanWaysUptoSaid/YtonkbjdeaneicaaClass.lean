/- A region that draws its order, whose own operations only read, and whose callees lay new blocks: one walk of the text's order serves every order. Over any program. -/
import Derived.BigQuiet
import Derived.Below
import Derived.WalkKit
namespace Go.Proofs.Ytonkbjdeaneicaa
open Go Go.RowKit

/-- A world of the class. -/
structure Pt (S : World → Prop) where
  val : World
  property : S val

theorem wp_region_class {P : Program} {S : World → Prop} {id : Nat} {Q : Exit → Act → World → Prop} {a : Act} {w : World} {l : List Oper} (hS : S w.drew) (hm : P.follows .mixedOrders = true) (hB : Region.lexB .any l.toArray = true)
    (h : wpQuiet P l.toArray (fun w' => ∃ p : Pt S, w' = p.val) (fun a' => ∀ w', (∃ p : Pt S, w' = p.val) → Q .normal a' w') l a) : (Code.region id l.toArray true).wp P Q a w :=
  wp_region_quiet (C := fun w' => ∃ p : Pt S, w' = p.val) hm hB ⟨⟨_, hS⟩, rfl⟩ (by simpa using h)
end Go.Proofs.Ytonkbjdeaneicaa
