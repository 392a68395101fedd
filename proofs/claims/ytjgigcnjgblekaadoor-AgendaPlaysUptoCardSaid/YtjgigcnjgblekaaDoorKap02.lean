/- The frame of a law's row that bears a condition (the '..UptoSaid' rows): as XFrame, the condition handed to the walk. Over any program. -/
import Derived.Test.YtjgigcnjgblekaaDoorKap01
namespace Go.Proofs.YtjgigcnjgblekaaDoor.Frm
open Go.ChangeShapes Go.WideShapes Go.ChangeAt Go.RowKit Go.Deep

section
variable {H : Type} {enc : TypeId × Value → H} {C : Checked}

theorem trodAll_len {P : Program} {W : World} {base : Nat} {spare : Nat → Bool} {held : Bool} : ∀ (ts : List TypeId) (vs : List Value) (ds : List (DataW H)) (ps : List MemPlace), DataW.TrodAll enc P W base spare held ts vs ds ps → ds.length = ts.length := by
  intro ts
  induction ts with
  | nil => intro vs ds ps h; cases vs <;> cases ds <;> simp [DataW.TrodAll] at h ⊢
  | cons t ts ih =>
    intro vs ds ps h
    cases vs <;> cases ds <;> simp [DataW.TrodAll] at h ⊢
    obtain ⟨_, _, _, h2, _⟩ := h
    exact ih _ _ _ h2

/-- THE FRAME of a row with a condition. -/
theorem law_lifted_upto {os : Os} {F : FuncId} {fn : Func} {s : OpenSpec} {k : (H : Type) → List (DataW H) → Bool} (hk : s.cond = some k) {c : ChangeSpec} {I : Stop.Interp} (hat : s.at I = c) {tb : TypeId}
    (own : ownKnob C.prog.godebug = none) (started : os.Started) (noInit : C.prog.inits.idxOf? F = none) (hfn : C.prog.funcs[F]? = some fn)
    (witness : ∃ (w : World) (tape : Tape) (i : Input), w.os = os ∧ (w.forCall tape i).Shaped C.prog ∧ i.vars = [] ∧ Input.okWide C.prog (w.forCall tape i) .any w.heap.size F i ∧
      s.pre6 enc C.prog fn [] false (w.forCall tape i).memory i.args ∧ Assume.holds {} C.prog (lone (Frame.enter C.prog F i.args .normal) [] (w.forCall tape i)))
    (hl : laidOutB C.prog = true) (hread : ∀ t ∈ fn.params.toList, C.prog.readableRec t = true ∧ t < C.prog.types.size) (hvars : c.vars = []) (hsv : s.vars = []) (hplain : s.bare.plain.varTypes C.prog = [])
    (hret : fn.resultTypes = #[tb]) (hub : C.prog.underlying tb = some .bool) (hs : ∀ ds : List (DataW H), ds.length = fn.params.size → c.fn H ds = { results := [.lit (.bool true)], args := ds })
    (walk : ∀ (W : World) (base : Nat) (args : Array Value) (ds : List (DataW H)) (p : List MemPlace), (∀ (j : Nat) t v, fn.params[j]? = some t → args[j]? = some v → Value.okWide C.prog W .any base t v) →
      DataW.TrodAll enc C.prog W 0 (fun _ => true) true fn.params.toList args.toList ds p → (∀ x ∈ p, x.block < W.heap.size) →
      (DataW.weightsEach C.prog fn.params.toList ds).all (· ≤ reachBytes) = true → k H ds = true →
      Calls C.prog F args W fun e w' => e = .returned (.bool true) ∧ Below W.heap.size W w') :
    ReturnsInHanded {} C os F .any (s.pre6 enc C.prog fn [] false) ((s.at I).post enc C.prog fn false true false false) := by
  refine returnsInHanded_of_cond_sized (C := C) hk own started noInit hfn witness ?_
  intro W base args ds gs before hval hW _ hkk hz _
  rw [hat]
  have hW' := hW
  obtain ⟨p, q, hA, hV, hp, _, _⟩ := hW
  rw [hsv] at hV hW'
  have hgs : gs = [] ∧ q = [] := by
    cases gs with
    | nil => exact ⟨rfl, by simpa [DataW.TrodVars] using hV⟩
    | cons _ _ => simp [DataW.TrodVars] at hV
  obtain ⟨rfl, rfl⟩ := hgs
  rw [List.append_nil] at hp hkk
  subst hp
  have hlt : ∀ x ∈ before, x.block < W.heap.size := fun x hx => hW'.lt x hx
  rw [hplain, List.append_nil, List.append_nil] at hz
  refine (walk W base args ds before hval hA hlt hz hkk).mono fun e W' ⟨he, hb⟩ => ?_
  have hlen : ds.length = fn.params.size := by rw [trodAll_len _ _ _ _ hA, Array.length_toList]
  rw [← hvars] at hW'
  exact ⟨_, he, post_true hl hread hvars hret hub (hs ds hlen) hW' hA hb⟩
end
end Go.Proofs.YtjgigcnjgblekaaDoor.Frm
