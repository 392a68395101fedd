/- The opening of AgendaTurns' arguments: the script's calls. -/
import Derived.Test.YtjgigcnjgblekaaDoorKaq21
namespace Go.Proofs.YtjgigcnjgblekaaDoor
open Go.ChangeShapes Go.WideShapes Go.ChangeAt Go.RowKit Go.Deep

/-- A call of the script, as far as the law looks at it. -/
structure OpV where
  kind : Int
  ac : Ac
  n : Int
/-- Its cells. -/
def EOp (F : Nat → Prop) (w : World) (cs : List Value) (o : OpV) : Prop :=
  ∃ A m c sv, cs = [.int .i64 o.kind, .slice A m c, .int .i64 o.ac.rule, sv, .int .i64 o.n] ∧ i64ok o.kind ∧ i64ok o.ac.rule ∧ i64ok o.n ∧ RSl F w 1 EInt sv o.ac.sub
theorem EOp.kp {F F' : Nat → Prop} {w w' : World} {cs : List Value} {o : OpV} (h : EOp F w cs o) (hk : Kp F w w') (hF : ∀ b, b < w.heap.size → F b → F' b) : EOp F' w' cs o := by
  obtain ⟨A, m, c, sv, h1, h2, h3, h4, h5⟩ := h
  exact ⟨A, m, c, sv, h1, h2, h3, h4, h5.kp hk hF (fun _ _ h => h)⟩
theorem EOp.all {F F' : Nat → Prop} {w w' : World} {n : Nat} {v : Value} {l : List OpV} (h : RSl F w n (EOp F w) v l) (hk : Kp F w w') (hF : ∀ b, b < w.heap.size → F b → F' b) : RSl F' w' n (EOp F' w') v l :=
  h.kp hk hF (fun _ _ hc => hc.kp hk hF)
theorem list_fourA {α : Type} {l : List α} (h : l.length = 4) : ∃ a b c d, l = [a, b, c, d] := by
  match l, h with
  | [a, b, c, d], _ => exact ⟨a, b, c, d, rfl⟩
theorem list_fiveA {α : Type} {l : List α} (h : l.length = 5) : ∃ a b c d e, l = [a, b, c, d, e] := by
  match l, h with
  | [a, b, c, d, e], _ => exact ⟨a, b, c, d, e, rfl⟩
theorem list_threeA {α : Type} {l : List α} (h : l.length = 3) : ∃ a b c, l = [a, b, c] := by
  match l, h with
  | [a, b, c], _ => exact ⟨a, b, c, rfl⟩
theorem cOpR : Tryd.prog.cellsOf 50 = 5 := by kernel_rfl
theorem cSChg : Tryd.prog.cellsOf 28 = 1 := by kernel_rfl
theorem bOpR : Tryd.prog.bytesOf 50 = 72 := by kernel_rfl
section
variable {H : Type} {enc : TypeId × Value → H} {w : World} {base fuel : Nat} {spare : Nat → Bool} {held : Bool} {x : DataW H × List MemPlace} {cs : List Value} {v : Value}
theorem open_opE (h : DataW.trod enc Tryd.prog w base spare held fuel 50 cs = some x) : ∃ o : OpV, EOp (fun b => b < w.heap.size) w cs o := by
  obtain ⟨ys, n, _, _, hlen, hyl, hf⟩ := DataW.trod_struct Tryd.underlying50 h
  rw [cOpR] at hlen
  obtain ⟨a, b, c, d, e, rfl⟩ := list_fiveA hlen
  obtain ⟨y0, y1, y2, y3, rfl⟩ := list_fourA (show ys.length = 4 from hyl)
  have g0 := hf 0 _ rfl
  change DataW.trod enc Tryd.prog w base spare held n 3 (List.take (Tryd.prog.cellsOf 3) (List.drop 0 [a, b, c, d, e])) = some y0 at g0
  rw [cIntR] at g0
  have g1 := hf 1 _ rfl
  change DataW.trod enc Tryd.prog w base spare held n 28 (List.take (Tryd.prog.cellsOf 28) (List.drop 1 [a, b, c, d, e])) = some y1 at g1
  rw [cSChg] at g1
  have g2 := hf 2 _ rfl
  change DataW.trod enc Tryd.prog w base spare held n 30 (List.take (Tryd.prog.cellsOf 30) (List.drop 2 [a, b, c, d, e])) = some y2 at g2
  rw [cActR] at g2
  have g3 := hf 3 _ rfl
  change DataW.trod enc Tryd.prog w base spare held n 3 (List.take (Tryd.prog.cellsOf 3) (List.drop 4 [a, b, c, d, e])) = some y3 at g3
  rw [cIntR] at g3
  simp only [List.drop_zero, List.take_succ_cons, List.take_zero, List.drop_succ_cons] at g0 g1 g2 g3
  obtain ⟨k0, hk0, wk0⟩ := open_intE g0
  obtain ⟨k3, hk3, wk3⟩ := open_intE g3
  obtain ⟨ac, sv, hac, wr, r⟩ := open_actE g2
  simp only [List.cons.injEq, and_true] at hk0 hk3 hac
  obtain ⟨hac, hsv⟩ := hac
  subst hk0 hk3 hac hsv
  have hb : ∃ A m c', b = .slice A m c' := by
    rcases open_slice Tryd.underlying28 g1 with ⟨hv, _⟩ | ⟨_, _, _, _, _, _, _, hv, _⟩ <;>
      simp only [List.cons.injEq, and_true] at hv <;> exact ⟨_, _, _, hv⟩
  obtain ⟨A, m, c', rfl⟩ := hb
  exact ⟨⟨k0, ac, k3⟩, A, m, c', _, rfl, wk0, wr, wk3, r⟩
theorem open_opsE (h : DataW.trod enc Tryd.prog w base spare held fuel 43 [v] = some x) : ∃ xs : List OpV, RSl (fun b => b < w.heap.size) w 5 (EOp (fun b => b < w.heap.size) w) v xs :=
  open_rsl0 Tryd.underlying43 cOpR (by decide) (fun _ _ _ h => open_opE h) h
/-- Three levels. -/
theorem c3R : Tryd.prog.cellsOf 42 = 3 := by kernel_rfl
end
end Go.Proofs.YtjgigcnjgblekaaDoor
