/- PlanCompile: the law's own rules; two elements of a list change places. -/
import Derived.Test.YtonkbjdeaneicaaKpo08
import Derived.Test.YtonkbjdeaneicaaKpo24
import Derived.Test.YtonkbjdeaneicaaKpo26
namespace Go.Proofs.Ytonkbjdeaneicaa
open Go.RowKit Pln Classical Go.Maps

theorem run_cutR (A : Option Addr) (l c n : Nat) (h : n ≤ l) (hc : l ≤ c) (W : World) : (Instr.slice 22 (.slice A l c) none (some (.int .i64 (n : Int))) none).run Try.prog W = .ok (.slice A n c) W := by
  rw [run_slice_h (t := 22) (ht := by kernel_rfl) (h0 := by omega) (h2 := by omega)]
  have hs : (sizeOf (Try.prog.elem 22)).run Try.prog W = .ok 7 W := by kernel_rfl
  rw [hs]
  have e : (if c = 0 then A else A.map (fun a => a.add (0 * 7))) = A := by
    split
    · rfl
    · cases A <;> simp [Addr.add]
  simp only [Result.andThen, sliced, Int.toNat_natCast, Nat.sub_zero, e]
/-- The mark behind the rules; the rule of the other plan. -/
def rMark : Rl := ⟨⟨0, []⟩, [], [], [], [], -77⟩
def rOther : Rl := ⟨⟨1, []⟩, [⟨0, []⟩], [], [⟨2, []⟩], [], 0⟩
theorem erMark (F : Nat → Prop) (w : World) : ERule F w [.int .i64 0, .slice none 0 0, .slice none 0 0, .slice none 0 0, .slice none 0 0, .slice none 0 0, .int .i64 (-77)] rMark :=
  ⟨_, _, _, _, _, rfl, ok0, by unfold i64ok rMark; decide, RSl.nil, RSl.nil, RSl.nil, RSl.nil, RSl.nil⟩
theorem smOther : [rOther].length ≤ 1048576 ∧ ∀ r ∈ [rOther], rlSm 1048576 r := by
  refine ⟨by decide, fun r hr => ?_⟩
  rw [List.mem_singleton.1 hr]
  refine ⟨by unfold patSm rOther; decide, ⟨by unfold rOther; decide, fun p hp => ?_⟩, by unfold rOther; decide, ⟨by unfold rOther; decide, fun p hp => ?_⟩, by unfold rOther; decide⟩
  · simp only [rOther, List.mem_singleton] at hp
    subst hp; unfold patSm; decide
  · simp only [rOther, List.mem_singleton] at hp
    subst hp; unfold patSm; decide
theorem mayOther : mayP rOther := by
  refine ⟨0, ⟨by decide, fun p hp => ?_, ?_, ?_, by decide, fun t ht => ?_, fun p hp => ?_⟩⟩
  · simp only [rOther, List.mem_singleton] at hp
    subst hp; decide
  · simp [rOther, okA]
  · simp [rOther, scanD]
  · simp [rOther] at ht
  · simp only [rOther, List.mem_singleton] at hp
    subst hp
    exact ⟨by decide, by decide, fun s hs => by simp at hs⟩
theorem otherL : (plF [rOther]).2.1.length = 3 ∧ erF [rOther] = 0 := by
  have h : ∀ r ∈ [rOther], mayP r := fun r hr => by rw [List.mem_singleton.1 hr]; exact mayOther
  unfold plF erF
  rw [if_pos h, if_pos h]
  refine ⟨?_, rfl⟩
  show (compF [rOther]).1.ns.length = 3
  simp only [compF, List.foldl_cons, List.foldl_nil, endF, ruleF, rOther, patF]
  generalize hn1 : nodeOf (⟨[], [rootN]⟩ : St) 1 0 ⟨0, []⟩ = n1
  have k1 : n1.kind = 1 := by rw [← hn1]; rfl
  have a1 : addF [rootN] n1 = [rootN, n1] := by
    unfold addF
    rw [if_neg]
    · rfl
    · intro hm
      rw [List.mem_singleton.1 hm] at k1
      exact absurd k1 (by decide)
  rw [a1]
  generalize hn2 : nodeOf _ 3 _ ⟨2, []⟩ = n2
  have k2 : n2.kind = 3 := by rw [← hn2]; rfl
  unfold addF
  rw [if_neg]
  · rfl
  · intro hm
    rcases List.mem_cons.1 hm with h2 | h2
    · rw [h2] at k2; exact absurd k2 (by decide)
    · rw [List.mem_singleton.1 h2, k1] at k2; exact absurd k2 (by decide)
/-- The literal list of one rule. -/
theorem rules_one {w : World} {H0 H1 H2 : Nat} {T0 T1 T2 : TypeId} (h0 : w.heap[H0]? = some (.cells #[.int .i64 0, .slice none 0 0] T0 (0, 0))) (h1 : w.heap[H1]? = some (.cells #[.int .i64 2, .slice none 0 0] T1 (0, 0)))
    (h2 : w.heap[H2]? = some (.cells #[.int .i64 1, .slice none 0 0, .slice (some ⟨H0, 0, none⟩) 1 1, .slice none 0 0, .slice (some ⟨H1, 0, none⟩) 1 1, .slice none 0 0, .int .i64 0] T2 (0, 0))) :
    RRules (fun _ => True) w (.slice (some ⟨H2, 0, none⟩) 1 1) [rOther] := by
  have m1 : (1 : Nat) ≤ maxLen := by unfold maxLen; decide
  refine ⟨some ⟨H2, 0, none⟩, 1, rfl, Nat.le_refl _, m1, (fun h => by cases h), .inr ⟨H2, 0, rfl, trivial, lt_of_heap h2, fun i x hx => ?_⟩⟩
  match i with
  | 0 =>
    simp only [List.getElem?_cons_zero, Option.some.injEq] at hx
    subst hx
    refine ⟨_, ⟨.slice none 0 0, .slice (some ⟨H0, 0, none⟩) 1 1, .slice none 0 0, .slice (some ⟨H1, 0, none⟩) 1 1, .slice none 0 0, rfl, by unfold i64ok rOther; decide, by unfold i64ok rOther; decide, RSl.nil, ?_, RSl.nil, ?_, RSl.nil⟩, fun j u hu => ?_⟩
    · exact pats_one (p := ⟨0, []⟩) (F := fun _ => True) ok0 RSl.nil h0 (Nat.le_refl _) m1
    · exact pats_one (p := ⟨2, []⟩) (F := fun _ => True) (by unfold i64ok; decide) RSl.nil h1 (Nat.le_refl _) m1
    · rw [show 0 + 0 * 7 + j = j by omega]
      exact (cell_of_row _ _ j _ _ _ h2).trans (by simpa [rOther] using hu)
  | i + 1 => simp at hx

/-- The reference's Equal at one plan, told twice. -/
theorem eqU {F G : Nat → Prop} (W : World) {av nv ev bv mv fv : Value} {p : List Shp × List Nd × List Int} (h : RPl F W av nv ev p.1 p.2.1 p.2.2) (h' : RPl G W bv mv fv p.1 p.2.1 p.2.2) (l : p.1.length ≤ 100000000 ∧ p.2.1.length ≤ 100000000 ∧ p.2.2.length ≤ 1048576) :
    Calls Try.prog 11 #[.agg #[av, nv, ev], .agg #[bv, mv, fv]] W fun e W' => e = .returned (.bool true) ∧ Below W.heap.size W W' := by
  have := requalW W av nv ev bv mv fv p.1 p.1 p.2.1 p.2.1 p.2.2 p.2.2 h h' (by omega) (by omega) (by omega) (by omega)
  rw [decide_eq_true (show p.1 = p.1 ∧ p.2.1 = p.2.1 ∧ p.2.2 = p.2.2 from ⟨rfl, rfl, rfl⟩)] at this
  exact this
/-- The mark's cells. -/
theorem mark_cells {B g cap : Nat} {w : World} {rs : List Rl} (h : OwnL B w 39 cdRl (.slice (some ⟨g, 0, none⟩) (rs.length + 1) cap) (rs ++ [rMark])) :
    ∃ Ap cp, w.cell? ⟨g, rs.length * 7 + 6, none⟩ = some (.int .i64 (-77)) ∧ w.cell? ⟨g, rs.length * 7 + 2, none⟩ = some (.slice Ap 0 cp) := by
  obtain ⟨cells, h1, h2⟩ := h
  obtain ⟨cs, ⟨hv, pv, tv, nv, vv, hE⟩, h4⟩ := h2 rs.length rMark (by simp)
  have hcs := hE.cells
  subst hcs
  obtain ⟨Ap, cp, rfl⟩ := hE.pos.form
  have get : ∀ j u, cells[j]? = some u → w.cell? ((⟨g, 0, none⟩ : Addr).add j) = some u := h1.cells (g := g) rfl
  have add : ∀ j, (⟨g, 0, none⟩ : Addr).add j = ⟨g, j, none⟩ := fun j => by unfold Addr.add; split <;> simp_all
  refine ⟨Ap, cp, ?_, ?_⟩
  · rw [← add]
    exact get _ _ (h4 6 _ rfl)
  · rw [← add]
    exact get _ _ (h4 2 _ rfl)
/-- A list of cells is written, one by one. -/
def setL (w : World) (g : Nat) : Nat → List Value → World
  | _, [] => w
  | o, c :: cs => setL (w.setCell ⟨g, o, none⟩ c) g (o + 1) cs
def setX (xs : List Value) : Nat → List Value → List Value
  | _, [] => xs
  | o, c :: cs => setX (xs.set o c) (o + 1) cs
theorem setL_turns (g : Nat) : ∀ (cs : List Value) (w : World) (o : Nat), Turns [g] w (setL w g o cs)
  | [], w, _ => Turns.refl _ _
  | c :: cs, w, o => ((Turns.refl [g] w).setCell (.inl (by simp)) c).trans (setL_turns g cs _ (o + 1)) (fun x hx => .inl hx)
theorem setL_own {base n cap : Nat} {e : TypeId} {sz g : Nat} : ∀ (cs : List Value) {w : World} {xs : List Value} (o : Nat), w.ownsRow base e sz (.slice (some ⟨g, 0, none⟩) n cap) n xs → (setL w g o cs).ownsRow base e sz (.slice (some ⟨g, 0, none⟩) n cap) n (setX xs o cs)
  | [], _, _, _, h => h
  | c :: cs, _, _, o, h => setL_own cs (o + 1) (h.stored o c).1
theorem setX_far : ∀ (cs xs : List Value) (o k : Nat), k < o ∨ o + cs.length ≤ k → (setX xs o cs)[k]? = xs[k]?
  | [], _, _, _, _ => rfl
  | c :: cs, xs, o, k, h => by
    simp only [List.length_cons] at h
    rw [setX, setX_far cs _ (o + 1) k (by omega), List.getElem?_set_ne (by omega)]
theorem setX_at : ∀ (cs xs : List Value) (o j : Nat), j < cs.length → o + cs.length ≤ xs.length → (setX xs o cs)[o + j]? = cs[j]?
  | [], _, _, j, h, _ => by simp at h
  | c :: cs, xs, o, j, h, hl => by
    simp only [List.length_cons] at h hl
    match j with
    | 0 =>
      rw [setX, setX_far cs _ (o + 1) (o + 0) (by omega)]
      simp only [Nat.add_zero, List.getElem?_cons_zero]
      rw [List.getElem?_set_self (by omega)]
    | j + 1 =>
      rw [setX, show o + (j + 1) = o + 1 + j by omega, setX_at cs _ (o + 1) j (by omega) (by rw [List.length_set]; omega)]
      rfl
/-- An element is laid in another's place. -/
theorem OwnL.put {α : Type} {B : Nat} {w : World} {e : TypeId} {C : Cdc α} {g n cap : Nat} {xs : List α} (h : OwnL B w e C (.slice (some ⟨g, 0, none⟩) n cap) xs) {i : Nat} (hi : i < xs.length) {y : α} {cs : List Value} (hy : C.E (New B (.slice (some ⟨g, 0, none⟩) n cap)) w cs y) :
    OwnL B (setL w g (i * C.sz) cs) e C (.slice (some ⟨g, 0, none⟩) n cap) (xs.set i y) := by
  obtain ⟨cells, h1, h2⟩ := h
  have hn : n = xs.length := by
    rcases h1.2 with ⟨h', _⟩ | ⟨g', cap', cur, h', _⟩
    · simp at h'
    · simp only [Value.slice.injEq] at h'; exact h'.2.1
  subst hn
  have hl := C.len _ _ _ _ hy
  have K : Kp (New B (.slice (some ⟨g, 0, none⟩) xs.length cap)) w (setL w g (i * C.sz) cs) := Kp.of_turns (setL_turns g cs w _) (fun b hb hnw => by
    rw [List.mem_singleton.1 hb] at hnw
    exact hnw.2 rfl)
  have hmul : ∀ q, q < xs.length → q * C.sz + C.sz ≤ xs.length * C.sz := fun q hq => by
    have := Nat.mul_le_mul_right C.sz (show q + 1 ≤ xs.length from hq)
    rw [Nat.add_mul, Nat.one_mul] at this
    exact this
  refine ⟨setX cells (i * C.sz) cs, by rw [List.length_set]; exact setL_own cs _ h1, fun q x hx => ?_⟩
  by_cases e : q = i
  · subst e
    rw [List.getElem?_set_self hi] at hx
    rw [← Option.some.inj hx]
    refine ⟨cs, C.kp _ _ _ _ _ _ hy K (fun _ _ h => h), fun j u hu => ?_⟩
    rw [setX_at cs cells _ j (List.getElem?_eq_some_iff.1 hu).1 (by rw [h1.1, hl]; exact hmul q hi)]
    exact hu
  · rw [List.getElem?_set_ne (fun x => e x.symm)] at hx
    obtain ⟨ds, d1, d2⟩ := h2 q x hx
    refine ⟨ds, C.kp _ _ _ _ _ _ d1 K (fun _ _ h => h), fun j u hu => ?_⟩
    have hj : j < C.sz := by rw [← C.len _ _ _ _ d1]; exact (List.getElem?_eq_some_iff.1 hu).1
    rw [setX_far cs cells _ _ ?_]
    · exact d2 j u hu
    · rw [hl]
      rcases Nat.lt_or_ge q i with h3 | h3
      · left
        have := Nat.mul_le_mul_right C.sz (show q + 1 ≤ i from h3)
        rw [Nat.add_mul, Nat.one_mul] at this
        omega
      · right
        have := Nat.mul_le_mul_right C.sz (show i + 1 ≤ q by omega)
        rw [Nat.add_mul, Nat.one_mul] at this
        omega
end Go.Proofs.Ytonkbjdeaneicaa
