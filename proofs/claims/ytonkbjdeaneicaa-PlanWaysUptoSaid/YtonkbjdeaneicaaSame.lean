/- `samePattern`; ways as the plain law has them, read off by `down`. -/
import Derived.Test.YtonkbjdeaneicaaDown
import Derived.Test.YtonkbjdeaneicaaEqL
namespace Go.Proofs.Ytonkbjdeaneicaa
open Go.RowKit Pln Classical Go.Maps

theorem pat_eq (a b : Pat) (h : a.pred = b.pred) : decide (a = b) = eqB a.args b.args := by
  cases a; cases b
  simp only at h
  subst h
  simp [eqB]
set_option maxRecDepth 100000 in
theorem samePatternW {F G : Nat → Prop} (a b : Pat) (va vb : Value) (w : World) (ha : RSl F w 2 ESlt va a.args) (hb : RSl G w 2 ESlt vb b.args) :
    Calls Try.prog 38 #[.agg #[.int .i64 a.pred, va], .agg #[.int .i64 b.pred, vb]] w fun e w' => e = .returned (.bool (decide (a = b))) ∧ Below w.heap.size w w' := by
  have C := Lib.hid (fun w' (h : Below w.heap.size w w') => equalSlotsW va vb a.args b.args w' (ha.kp (F' := F) (Kp.of_below h) (fun _ _ h => h) (fun _ _ h => h)) (hb.kp (F' := G) (Kp.of_below h) (fun _ _ h => h) (fun _ _ h => h)))
  obtain ⟨A, ca, rfl⟩ := ha.form
  obtain ⟨B, cb, rfl⟩ := hb.form
  clear ha hb
  go_enter Try.func38, Try.ntmps38
  by_cases hp : a.pred = b.pred
  · have hd := Lib.hid (pat_eq a b hp)
    rw [hd.out]
    rw [hp]
    go_wp2_with fail
    refine (C.out _ (((Below.refl _ _).alloc (Nat.le_refl _) _).alloc (by simp) _)).mono ?_
    rintro e w2 ⟨rfl, hb2⟩
    have HB2 := Lib.hid hb2
    clear hb2
    go_wp2
    go_ret
    exact ⟨rfl, (((Below.refl _ _).alloc (Nat.le_refl _) _).alloc (by simp) _).trans (HB2.out.mono (by simp; omega))⟩
  · have hd : decide (a = b) = false := by
      simp only [decide_eq_false_iff_not]
      intro h
      exact hp (by rw [h])
    rw [hd]
    have hq : (a.pred == b.pred) = false := by simpa using hp
    have hq2 : decide (a.pred = b.pred) = false := by simpa using hp
    clear hd
    go_wp2
    go_ret
    exact ⟨rfl, ((Below.refl _ _).alloc (Nat.le_refl _) _).alloc (by simp) _⟩

theorem nodeC_parent (st : St) (u : Nat) (c : Cnd) : (nodeC st u c).parent = (u : Int) := by
  unfold nodeC
  split <;> rfl
theorem up_way {st : St} (hwf : Wf st) {cs : List Cnd} (h : Stands st 0 cs) (hc : ∀ c ∈ cs, ok3 c) : Up st (wayF st 0 cs) := by
  intro i u hu
  obtain ⟨c, h1, h2, h3, h4⟩ := way_at hwf cs 0 h hc i u hu
  exact ⟨by omega, h4, _, h3, nodeC_parent _ _ _⟩
theorem way_last {st : St} {cs : List Cnd} : (0 :: wayF st 0 cs).getD (wayF st 0 cs).length 0 = (wayF st 0 cs).getLast?.getD 0 := by
  generalize wayF st 0 cs = l
  rcases List.eq_nil_or_concat l with rfl | ⟨m, x, rfl⟩
  · rfl
  · simp [List.getD]

/-- The first places at which two rules' conditions part, told list by list. -/
theorem lcp_same {α : Type} : ∀ (x : List α), lcp x x = x.length
  | [] => rfl
  | a :: l => by simp [lcp, lcp_same l]
theorem lcp_full {α : Type} : ∀ (x y : List α), lcp x y = x.length → lcp x y = y.length → x = y
  | [], [], _, _ => rfl
  | [], _ :: _, _, h => by simp [lcp] at h
  | _ :: _, [], h, _ => by simp [lcp] at h
  | a :: l, b :: r, h1, h2 => by
    unfold lcp at h1 h2
    split at h1
    · rename_i hab
      rw [if_pos hab] at h2
      simp at h1 h2
      rw [hab, lcp_full l r h1 h2]
    · simp at h1
theorem lcp_map {α β : Type} (f : α → β) (hf : ∀ a b, f a = f b → a = b) : ∀ (x y : List α), lcp (x.map f) (y.map f) = lcp x y
  | [], _ => by simp [lcp]
  | _ :: _, [] => by simp [lcp]
  | a :: l, b :: r => by
    simp only [List.map_cons, lcp]
    by_cases h : a = b
    · rw [if_pos h, if_pos (by rw [h]), lcp_map f hf l r]
    · rw [if_neg h, if_neg (fun e => h (hf _ _ e))]
theorem lcp_nil {α : Type} (y : List α) : lcp [] y = 0 := by simp [lcp]
theorem lcp_nil' {α : Type} (y : List α) : lcp y [] = 0 := by cases y <;> simp [lcp]
theorem lcp_app {α : Type} : ∀ (x x' y y' : List α), (∀ u ∈ y, ∀ v ∈ x', u ≠ v) → (∀ u ∈ y', ∀ v ∈ x, u ≠ v) → lcp (x ++ y) (x' ++ y') = lcp x x' + if x = x' then lcp y y' else 0
  | [], [], y, y', _, _ => by simp [lcp_nil]
  | [], b :: r, y, y', h1, _ => by
    rw [if_neg (by simp), lcp_nil]
    cases y with
    | nil => simp [lcp_nil]
    | cons c m => simp [lcp, h1 c (by simp) b (by simp)]
  | a :: l, [], y, y', _, h2 => by
    rw [if_neg (by simp), lcp_nil']
    cases y' with
    | nil => simp [lcp_nil']
    | cons c m => simp [lcp, Ne.symm (h2 c (by simp) a (by simp))]
  | a :: l, b :: r, y, y', h1, h2 => by
    simp only [List.cons_append, lcp]
    by_cases h : a = b
    · rw [if_pos h, if_pos h, lcp_app l r y y' (fun u hu v hv => h1 u hu v (by simp [hv])) (fun u hu v hv => h2 u hu v (by simp [hv]))]
      by_cases hl : l = r
      · rw [if_pos hl, if_pos (by rw [h, hl])]; omega
      · rw [if_neg hl, if_neg (by simp [hl])]
    · rw [if_neg h, if_neg h, if_neg (by simp [h])]
/-- How many conditions two rules have in common from the top. -/
theorem lcp_conds (a b : Rl) : lcp (conds a) (conds b) = lcp a.pos b.pos + if a.pos = b.pos then (lcp a.tests b.tests + if a.tests = b.tests then lcp a.neg b.neg else 0) else 0 := by
  unfold conds
  rw [List.append_assoc, List.append_assoc, lcp_app, lcp_app, lcp_map _ (by simp), lcp_map _ (by simp), lcp_map _ (by simp)]
  · congr 1
    have e1 : (a.pos.map (fun p => (⟨1, p, noTst⟩ : Cnd)) = b.pos.map (fun p => (⟨1, p, noTst⟩ : Cnd))) = (a.pos = b.pos) := by
      apply propext
      exact ⟨fun h => (List.map_inj_right (fun x y h => by simpa using h)).1 h, fun h => by rw [h]⟩
    have e2 : (a.tests.map (fun p => (⟨2, noPat, p⟩ : Cnd)) = b.tests.map (fun p => (⟨2, noPat, p⟩ : Cnd))) = (a.tests = b.tests) := by
      apply propext
      exact ⟨fun h => (List.map_inj_right (fun x y h => by simpa using h)).1 h, fun h => by rw [h]⟩
    simp only [e1, e2]
  all_goals
    intro u hu v hv h
    simp at hu hv
    grind
end Go.Proofs.Ytonkbjdeaneicaa
