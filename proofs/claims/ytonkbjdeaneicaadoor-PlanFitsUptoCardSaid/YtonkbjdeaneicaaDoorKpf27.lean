/- The text of a plan, in plain words: what it tells can be read back. PlanFits: a plan is well formed; the first rules' plan is the beginning of the whole one. -/
import Derived.Test.YtonkbjdeaneicaaDoorKpf19
import Derived.Test.YtonkbjdeaneicaaDoorKpf21
import Derived.Test.YtonkbjdeaneicaaDoorKpf23
import Derived.Test.YtonkbjdeaneicaaDoorKpf26
import Derived.MapKept
namespace Go.Proofs.YtonkbjdeaneicaaDoor
open Go Go.RowKit Pln Classical

def isDig (c : UInt8) : Prop := 48 ≤ c.toNat ∧ c.toNat ≤ 57
def Stop (r : List UInt8) : Prop := ∀ c q, r = c :: q → ¬ isDig c
theorem dig_of (k : Nat) (h : k < 10) : (UInt8.ofNat (48 + k)).toNat = 48 + k := by
  rw [UInt8.toNat_ofNat']
  omega
theorem dec_digs : ∀ (f u : Nat), u ≤ f → ∀ c ∈ Lib.decDigits u, isDig c
  | 0, u, h => by
    obtain rfl : u = 0 := by omega
    rw [dec_small (by omega)]
    intro c hc
    rw [List.mem_singleton.1 hc]
    unfold isDig
    rw [dig_of _ (by omega)]
    omega
  | f + 1, u, h => by
    have key : isDig (UInt8.ofNat (48 + u % 10)) := by
      unfold isDig
      rw [dig_of _ (by omega)]
      omega
    by_cases h0 : u / 10 = 0
    · rw [dec_small h0]
      intro c hc
      rw [List.mem_singleton.1 hc]
      exact key
    · rw [dec_big h0]
      intro c hc
      rcases List.mem_append.1 hc with hc | hc
      · exact dec_digs f (u / 10) (by omega) c hc
      · rw [List.mem_singleton.1 hc]
        exact key
theorem dec_inj : ∀ (f a b : Nat), a ≤ f → Lib.decDigits a = Lib.decDigits b → a = b
  | 0, a, b, h, e => by
    obtain rfl : a = 0 := by omega
    rw [dec_small (by omega)] at e
    by_cases h0 : b / 10 = 0
    · rw [dec_small h0] at e
      have := congrArg (fun l => l.map UInt8.toNat) e
      simp only [List.map_cons, List.map_nil, List.cons.injEq, and_true] at this
      rw [dig_of _ (by omega), dig_of _ (by omega)] at this
      omega
    · rw [dec_big h0] at e
      have h2 := dec_ne (b / 10)
      have := congrArg List.length e
      simp only [List.length_append, List.length_cons, List.length_nil] at this
      omega
  | f + 1, a, b, h, e => by
    by_cases ha : a / 10 = 0
    · rw [dec_small ha] at e
      by_cases h0 : b / 10 = 0
      · rw [dec_small h0] at e
        have := congrArg (fun l => l.map UInt8.toNat) e
        simp only [List.map_cons, List.map_nil, List.cons.injEq, and_true] at this
        rw [dig_of _ (by omega), dig_of _ (by omega)] at this
        omega
      · rw [dec_big h0] at e
        have h2 := dec_ne (b / 10)
        have := congrArg List.length e
        simp only [List.length_append, List.length_cons, List.length_nil] at this
        omega
    · rw [dec_big ha] at e
      by_cases h0 : b / 10 = 0
      · rw [dec_small h0] at e
        have h2 := dec_ne (a / 10)
        have := congrArg List.length e
        simp only [List.length_append, List.length_cons, List.length_nil] at this
        omega
      · rw [dec_big h0] at e
        obtain ⟨e1, e2⟩ := List.append_inj' e rfl
        have := dec_inj f (a / 10) (b / 10) (by omega) e1
        have h3 := congrArg (fun l => l.map UInt8.toNat) e2
        simp only [List.map_cons, List.map_nil, List.cons.injEq, and_true] at h3
        rw [dig_of _ (by omega), dig_of _ (by omega)] at h3
        omega
theorem digs_app : ∀ {d d' r r' : List UInt8}, (∀ c ∈ d, isDig c) → (∀ c ∈ d', isDig c) → Stop r → Stop r' → d ++ r = d' ++ r' → d = d' ∧ r = r'
  | [], [], _, _, _, _, _, _, e => ⟨rfl, e⟩
  | [], c :: d', r, r', _, h', hr, _, e => absurd (h' c (List.mem_cons_self ..)) (hr c (d' ++ r') e)
  | c :: d, [], r, r', h, _, _, hr, e => absurd (h c (List.mem_cons_self ..)) (hr c (d ++ r) e.symm)
  | c :: d, c' :: d', r, r', h, h', hr, hr', e => by
    simp only [List.cons_append, List.cons.injEq] at e
    obtain ⟨e1, e2⟩ := digs_app (fun x hx => h x (List.mem_cons_of_mem _ hx)) (fun x hx => h' x (List.mem_cons_of_mem _ hx)) hr hr' e.2
    exact ⟨by rw [e.1, e1], e2⟩
theorem dec_ne_nil (u : Nat) : Lib.decDigits u ≠ [] := fun h => by have := dec_ne u; rw [h] at this; simp at this
theorem num_neg {n : Int} (h : n < 0) : num n = 45 :: Lib.decDigits n.natAbs := by unfold num Lib.itoa; rw [if_pos h]
theorem num_pos {n : Int} (h : ¬ n < 0) : num n = Lib.decDigits n.toNat := by unfold num Lib.itoa; rw [if_neg h]
theorem dec_head (u : Nat) : ∃ c q, Lib.decDigits u = c :: q ∧ isDig c := by
  cases hd : Lib.decDigits u with
  | nil => exact absurd hd (dec_ne_nil u)
  | cons c q => exact ⟨c, q, rfl, dec_digs u u (Nat.le_refl _) c (by rw [hd]; exact List.mem_cons_self ..)⟩
/-- A number is read back, where no digit stands behind it. -/
theorem num_app {a b : Int} {r r' : List UInt8} (hr : Stop r) (hr' : Stop r') (e : num a ++ r = num b ++ r') : a = b ∧ r = r' := by
  by_cases ha : a < 0
  · rw [num_neg ha] at e
    by_cases hb : b < 0
    · rw [num_neg hb] at e
      simp only [List.cons_append, List.cons.injEq, true_and] at e
      obtain ⟨e1, e2⟩ := digs_app (dec_digs _ _ (Nat.le_refl _)) (dec_digs _ _ (Nat.le_refl _)) hr hr' e
      have := dec_inj _ _ _ (Nat.le_refl _) e1
      exact ⟨by omega, e2⟩
    · rw [num_pos hb] at e
      obtain ⟨c, q, hc, hd⟩ := dec_head b.toNat
      rw [hc] at e
      simp only [List.cons_append, List.cons.injEq] at e
      rw [← e.1] at hd
      exact absurd hd (by unfold isDig; decide)
  · rw [num_pos ha] at e
    by_cases hb : b < 0
    · rw [num_neg hb] at e
      obtain ⟨c, q, hc, hd⟩ := dec_head a.toNat
      rw [hc] at e
      simp only [List.cons_append, List.cons.injEq] at e
      rw [e.1] at hd
      exact absurd hd (by unfold isDig; decide)
    · rw [num_pos hb] at e
      obtain ⟨e1, e2⟩ := digs_app (dec_digs _ _ (Nat.le_refl _)) (dec_digs _ _ (Nat.le_refl _)) hr hr' e
      have := dec_inj _ _ _ (Nat.le_refl _) e1
      exact ⟨by omega, e2⟩
theorem stop_cons {c : UInt8} {q : List UInt8} (h : ¬ isDig c) : Stop (c :: q) := by
  intro c' q' e
  simp only [List.cons.injEq] at e
  rw [← e.1]; exact h
theorem stop_nil : Stop [] := by intro c q e; cases e
/-- A number's first byte. -/
theorem num_head (n : Int) : ∃ c q, num n = c :: q ∧ (c = 45 ∨ isDig c) := by
  by_cases h : n < 0
  · exact ⟨45, _, num_neg h, .inl rfl⟩
  · obtain ⟨c, q, e, hd⟩ := dec_head n.toNat
    exact ⟨c, q, by rw [num_pos h, e], .inr hd⟩

/-- A part of a list: read back where no digit stands behind it; its first byte is no bracket and no blank. -/
structure Part {α : Type} (f : Nat → α → List UInt8) : Prop where
  back : ∀ i x y r r', Stop r → Stop r' → f i x ++ r = f i y ++ r' → x = y ∧ r = r'
  head : ∀ i x, ∃ c q, f i x = c :: q ∧ c ≠ 41 ∧ c ≠ 32
theorem isDig_ne {c : UInt8} (h : c = 45 ∨ isDig c) : c ≠ 41 ∧ c ≠ 32 ∧ c ≠ 44 := by
  rcases h with rfl | h
  · decide
  · refine ⟨?_, ?_, ?_⟩ <;> rintro rfl <;> revert h <;> unfold isDig <;> decide
theorem part_num : Part (fun _ c => num c) where
  back i x y r r' h h' e := num_app h h' e
  head i x := by
    obtain ⟨c, q, e, h⟩ := num_head x
    exact ⟨c, q, e, (isDig_ne h).1, (isDig_ne h).2.1⟩
theorem part_link : Part (fun _ (l : Int × Int) => linkT l) where
  back i x y r r' h h' e := by
    obtain ⟨x1, x2⟩ := x
    obtain ⟨y1, y2⟩ := y
    simp only [linkT, List.append_assoc] at e
    obtain ⟨e1, e2⟩ := num_app (stop_cons (by unfold isDig; decide)) (stop_cons (by unfold isDig; decide)) e
    have e2 : num x2 ++ r = num y2 ++ r' := by simpa using e2
    obtain ⟨e3, e4⟩ := num_app h h' e2
    exact ⟨by rw [e1, e3], e4⟩
  head i x := by
    obtain ⟨c, q, e, h⟩ := num_head x.1
    exact ⟨c, _, by unfold linkT; rw [e]; rfl, (isDig_ne h).1, (isDig_ne h).2.1⟩
theorem cell_cases (i : Nat) (c : Int) : (0 ≤ c ∧ cellT i c = 35 :: num c) ∨ (c = -1 - (i : Int) ∧ cellT i c = [42]) ∨ (c < 0 ∧ c ≠ -1 - (i : Int) ∧ cellT i c = 61 :: num (-1 - c)) := by
  unfold cellT
  by_cases h : 0 ≤ c
  · rw [if_pos h]; exact .inl ⟨h, rfl⟩
  · rw [if_neg h]
    by_cases h2 : c = -1 - (i : Int)
    · rw [if_pos h2]; exact .inr (.inl ⟨h2, rfl⟩)
    · rw [if_neg h2]; exact .inr (.inr ⟨by omega, h2, rfl⟩)
theorem part_cell : Part cellT where
  back i x y r r' h h' e := by
    rcases cell_cases i x with ⟨hx, ex⟩ | ⟨hx, ex⟩ | ⟨hx, hx2, ex⟩ <;> rcases cell_cases i y with ⟨hy, ey⟩ | ⟨hy, ey⟩ | ⟨hy, hy2, ey⟩ <;> rw [ex, ey] at e <;> simp only [List.cons_append, List.nil_append, List.cons.injEq] at e
    · obtain ⟨e1, e2⟩ := num_app h h' e.2
      exact ⟨e1, e2⟩
    · exact absurd e.1 (by decide)
    · exact absurd e.1 (by decide)
    · exact absurd e.1 (by decide)
    · exact ⟨by omega, e.2⟩
    · exact absurd e.1 (by decide)
    · exact absurd e.1 (by decide)
    · exact absurd e.1 (by decide)
    · obtain ⟨e1, e2⟩ := num_app h h' e.2
      exact ⟨by omega, e2⟩
  head i x := by
    rcases cell_cases i x with ⟨hx, ex⟩ | ⟨hx, ex⟩ | ⟨hx, hx2, ex⟩
    · exact ⟨_, _, ex, by decide, by decide⟩
    · exact ⟨_, _, ex, by decide, by decide⟩
    · exact ⟨_, _, ex, by decide, by decide⟩

/-- The parts from place i on. -/
def partsF {α : Type} (f : Nat → α → List UInt8) : Nat → List α → List (List UInt8)
  | _, [] => []
  | i, x :: r => f i x :: partsF f (i + 1) r
/-- The part at place j of a list. -/
def partAt {α : Type} (f : Nat → α → List UInt8) (xs : List α) (j : Nat) : List UInt8 := match xs[j]? with | some c => f j c | none => []
theorem partAt_some {α : Type} {f : Nat → α → List UInt8} {xs : List α} {j : Nat} {x : α} (h : xs[j]? = some x) : partAt f xs j = f j x := by
  unfold partAt; rw [h]
theorem range_parts {α : Type} (f : Nat → α → List UInt8) (xs : List α) : ∀ (ys : List α) (i : Nat), (∀ j, xs[i + j]? = ys[j]?) → (List.range' i ys.length).map (partAt f xs) = partsF f i ys
  | [], i, _ => rfl
  | y :: r, i, h => by
    rw [List.length_cons, List.range'_succ, List.map_cons]
    have h0 := h 0
    rw [Nat.add_zero, List.getElem?_cons_zero] at h0
    rw [partAt_some h0]
    simp only [partsF]
    congr 1
    refine range_parts f xs r (i + 1) (fun j => ?_)
    have := h (j + 1)
    rw [List.getElem?_cons_succ, show i + (j + 1) = i + 1 + j by omega] at this
    exact this
theorem parts_all {α : Type} (f : Nat → α → List UInt8) (xs : List α) : (List.range xs.length).map (partAt f xs) = partsF f 0 xs := by
  rw [List.range_eq_range']
  exact range_parts f xs xs 0 (fun j => by rw [Nat.zero_add])
theorem cell_parts (xs : List Int) : cellPs xs xs.length = partsF cellT 0 xs := by
  rw [← parts_all]
  unfold cellPs
  refine List.map_congr_left (fun j hj => ?_)
  rw [List.getElem?_eq_getElem (List.mem_range.1 hj), partAt_some (List.getElem?_eq_getElem (List.mem_range.1 hj))]
theorem link_parts (xs : List (Int × Int)) : linkPs xs xs.length = partsF (fun _ l => linkT l) 0 xs := by
  rw [← parts_all]
  unfold linkPs
  refine List.map_congr_left (fun j hj => ?_)
  rw [List.getElem?_eq_getElem (List.mem_range.1 hj), partAt_some (List.getElem?_eq_getElem (List.mem_range.1 hj))]
theorem place_parts (xs : List Int) : placePs xs xs.length = partsF (fun _ c => num c) 0 xs := by
  rw [← parts_all]
  unfold placePs
  refine List.map_congr_left (fun j hj => ?_)
  rw [List.getElem?_eq_getElem (List.mem_range.1 hj), partAt_some (List.getElem?_eq_getElem (List.mem_range.1 hj))]
theorem tail_stop {r : List UInt8} {ps : List (List UInt8)} (hr : ∃ c q, r = c :: q ∧ (c = 41 ∨ c = 32)) : Stop (Lib.joinTail sepT ps ++ r) := by
  cases ps with
  | nil =>
    obtain ⟨c, q, rfl, hc⟩ := hr
    refine stop_cons ?_
    rcases hc with rfl | rfl <;> unfold isDig <;> decide
  | cons p ps =>
    simp only [Lib.joinTail, List.map_cons, List.flatten_cons, sepT, List.cons_append]
    exact stop_cons (by unfold isDig; decide)
/-- What stands behind a list: a bracket or a blank. -/
def Ends (r : List UInt8) : Prop := ∃ c q, r = c :: q ∧ (c = 41 ∨ c = 32)
theorem tail_app {α : Type} {f : Nat → α → List UInt8} (hf : Part f) : ∀ (xs ys : List α) (i : Nat) {r r' : List UInt8}, Ends r → Ends r' → Lib.joinTail sepT (partsF f i xs) ++ r = Lib.joinTail sepT (partsF f i ys) ++ r' → xs = ys ∧ r = r'
  | [], [], _, _, _, _, _, e => ⟨rfl, e⟩
  | [], y :: ys, i, r, r', hr, _, e => by
    obtain ⟨c, q, rfl, hc⟩ := hr
    simp only [partsF, Lib.joinTail, List.map_nil, List.flatten_nil, List.nil_append, List.map_cons, List.flatten_cons, sepT, List.cons_append, List.cons.injEq] at e
    rcases hc with rfl | rfl
    · exact absurd e.1 (by decide)
    · exact absurd e.1 (by decide)
  | x :: xs, [], i, r, r', _, hr', e => by
    obtain ⟨c, q, rfl, hc⟩ := hr'
    simp only [partsF, Lib.joinTail, List.map_nil, List.flatten_nil, List.nil_append, List.map_cons, List.flatten_cons, sepT, List.cons_append, List.cons.injEq] at e
    rcases hc with rfl | rfl
    · exact absurd e.1 (by decide)
    · exact absurd e.1 (by decide)
  | x :: xs, y :: ys, i, r, r', hr, hr', e => by
    have e2 : f i x ++ (Lib.joinTail sepT (partsF f (i + 1) xs) ++ r) = f i y ++ (Lib.joinTail sepT (partsF f (i + 1) ys) ++ r') := by
      simpa only [partsF, Lib.joinTail, List.map_cons, List.flatten_cons, List.append_assoc, List.append_cancel_left_eq] using e
    obtain ⟨e3, e4⟩ := hf.back _ _ _ _ _ (tail_stop hr) (tail_stop hr') e2
    obtain ⟨e5, e6⟩ := tail_app hf xs ys (i + 1) hr hr' e4
    exact ⟨by rw [e3, e5], e6⟩
/-- A list is read back. -/
theorem join_app {α : Type} {f : Nat → α → List UInt8} (hf : Part f) {xs ys : List α} {i : Nat} {r r' : List UInt8} (hr : Ends r) (hr' : Ends r') (e : Lib.join (partsF f i xs) sepT ++ r = Lib.join (partsF f i ys) sepT ++ r') : xs = ys ∧ r = r' := by
  cases xs with
  | nil =>
    cases ys with
    | nil => exact ⟨rfl, e⟩
    | cons y ys =>
      exfalso
      obtain ⟨c, q, rfl, hc⟩ := hr
      obtain ⟨d, p, hd, h1, h2⟩ := hf.head i y
      rw [show partsF f i (y :: ys) = f i y :: partsF f (i + 1) ys from rfl, Lib.join_cons, hd] at e
      simp only [partsF, Lib.join_nil, List.nil_append, List.cons_append, List.cons.injEq] at e
      rcases hc with rfl | rfl
      · exact h1 e.1.symm
      · exact h2 e.1.symm
  | cons x xs =>
    cases ys with
    | nil =>
      exfalso
      obtain ⟨c, q, rfl, hc⟩ := hr'
      obtain ⟨d, p, hd, h1, h2⟩ := hf.head i x
      rw [show partsF f i (x :: xs) = f i x :: partsF f (i + 1) xs from rfl, Lib.join_cons, hd] at e
      simp only [partsF, Lib.join_nil, List.nil_append, List.cons_append, List.cons.injEq] at e
      rcases hc with rfl | rfl
      · exact h1 e.1
      · exact h2 e.1
    | cons y ys =>
      rw [show partsF f i (y :: ys) = f i y :: partsF f (i + 1) ys from rfl, show partsF f i (x :: xs) = f i x :: partsF f (i + 1) xs from rfl, Lib.join_cons, Lib.join_cons, List.append_assoc, List.append_assoc] at e
      obtain ⟨e3, e4⟩ := hf.back _ _ _ _ _ (tail_stop hr) (tail_stop hr') e
      obtain ⟨e5, e6⟩ := tail_app hf xs ys (i + 1) hr hr' e4
      exact ⟨by rw [e3, e5], e6⟩
theorem alphaL_back {i : Nat} {s t : Shp} {r r' : List UInt8} (e : alphaL i s ++ r = alphaL i t ++ r') : s = t ∧ r = r' := by
  simp only [alphaL, List.append_assoc, List.append_cancel_left_eq, List.cons_append, List.nil_append, List.cons.injEq, true_and] at e
  obtain ⟨e1, e2⟩ := num_app (stop_cons (by unfold isDig; decide)) (stop_cons (by unfold isDig; decide)) e
  simp only [List.cons.injEq, true_and] at e2
  rw [cell_parts, cell_parts] at e2
  obtain ⟨e3, e4⟩ := join_app part_cell ⟨_, _, rfl, .inl rfl⟩ ⟨_, _, rfl, .inl rfl⟩ e2
  simp only [List.cons.injEq, true_and] at e4
  obtain ⟨p, c⟩ := s
  obtain ⟨p', c'⟩ := t
  simp only at e1 e3
  exact ⟨by rw [e1, e3], e4⟩
theorem ruleL_back {i : Nat} {s t : Int} {r r' : List UInt8} (e : ruleL i s ++ r = ruleL i t ++ r') : s = t ∧ r = r' := by
  simp only [ruleL, List.append_assoc, List.append_cancel_left_eq, List.cons_append, List.nil_append, List.cons.injEq, true_and] at e
  obtain ⟨e1, e2⟩ := num_app (stop_cons (by unfold isDig; decide)) (stop_cons (by unfold isDig; decide)) e
  simp only [List.cons.injEq, true_and] at e2
  exact ⟨e1, e2⟩
/-- A node of a plan that is right: what its kind leaves open is not there. -/
def NdN (n : Nd) : Prop := (n.kind = 0 ∧ n = rootN) ∨ (n.kind = 1 ∧ n.test = noTst) ∨ (n.kind = 3 ∧ n.test = noTst) ∨ (n.kind = 2 ∧ n.alpha = -1 ∧ n.links = [] ∧ n.new = [] ∧ 1 ≤ n.test.op ∧ n.test.op ≤ 6)
theorem slotT_back {s t : Slt} {r r' : List UInt8} (hr : Stop r) (hr' : Stop r') (e : slotT s ++ r = slotT t ++ r') : s = t ∧ r = r' := by
  obtain ⟨v, n⟩ := s
  obtain ⟨v', n'⟩ := t
  unfold slotT at e
  cases v <;> cases v' <;> simp only [if_true, Bool.false_eq_true, if_false, List.cons_append, List.cons.injEq] at e
  · obtain ⟨e1, e2⟩ := num_app hr hr' e.2
    exact ⟨by rw [e1], e2⟩
  · exact absurd e.1 (by decide)
  · exact absurd e.1 (by decide)
  · obtain ⟨e1, e2⟩ := num_app hr hr' e.2
    exact ⟨by rw [e1], e2⟩
theorem opT_back {a b : Int} (ha : 1 ≤ a ∧ a ≤ 6) (hb : 1 ≤ b ∧ b ≤ 6) {r r' : List UInt8} (e : opT a ++ (32 :: r) = opT b ++ (32 :: r')) : a = b ∧ r = r' := by
  have h1 : a = 1 ∨ a = 2 ∨ a = 3 ∨ a = 4 ∨ a = 5 ∨ a = 6 := by omega
  have h2 : b = 1 ∨ b = 2 ∨ b = 3 ∨ b = 4 ∨ b = 5 ∨ b = 6 := by omega
  rcases h1 with rfl | rfl | rfl | rfl | rfl | rfl <;> rcases h2 with rfl | rfl | rfl | rfl | rfl | rfl <;> simp [opT] at e <;> exact ⟨rfl, e⟩
theorem links_first (n : Nd) (q : List UInt8) : ∃ p, linksT n ++ (newT n ++ (widthT n ++ q)) = 32 :: p := by
  unfold linksT newT widthT
  by_cases h : n.links = [] <;> by_cases h2 : n.new = [] <;> simp [h, h2]
/-- Links, new ones, width: read back. -/
theorem rest_back {n m : Nd} {q q' : List UInt8} (e : linksT n ++ (newT n ++ (widthT n ++ 10 :: q)) = linksT m ++ (newT m ++ (widthT m ++ 10 :: q'))) : n.links = m.links ∧ n.new = m.new ∧ n.width = m.width ∧ q = q' := by
  have hw : ∀ {q q' : List UInt8}, widthT n ++ 10 :: q = widthT m ++ 10 :: q' → n.width = m.width ∧ q = q' := by
    intro q q' e
    simp only [widthT, List.append_assoc, List.cons_append, List.nil_append, List.cons.injEq, true_and] at e
    obtain ⟨e1, e2⟩ := num_app (stop_cons (by unfold isDig; decide)) (stop_cons (by unfold isDig; decide)) e
    simp only [List.cons.injEq, true_and] at e2
    exact ⟨e1, e2⟩
  have hn : newT n ++ (widthT n ++ 10 :: q) = newT m ++ (widthT m ++ 10 :: q') → n.new = m.new ∧ n.width = m.width ∧ q = q' := by
    intro e
    by_cases h1 : n.new = [] <;> by_cases h2 : m.new = []
    · simp only [newT, if_pos h1, if_pos h2, List.nil_append] at e
      obtain ⟨e1, e2⟩ := hw e
      exact ⟨h1.trans h2.symm, e1, e2⟩
    · simp only [newT, if_pos h1, if_neg h2, List.nil_append, widthT, List.append_assoc, List.cons_append, List.cons.injEq] at e
      exact absurd e.2.1 (by decide)
    · simp only [newT, if_neg h1, if_pos h2, List.nil_append, widthT, List.append_assoc, List.cons_append, List.cons.injEq] at e
      exact absurd e.2.1 (by decide)
    · simp only [newT, if_neg h1, if_neg h2, List.append_assoc, List.append_cancel_left_eq] at e
      rw [place_parts, place_parts] at e
      obtain ⟨e3, e4⟩ := join_app part_num (by unfold widthT; exact ⟨_, _, rfl, .inr rfl⟩) (by unfold widthT; exact ⟨_, _, rfl, .inr rfl⟩) e
      obtain ⟨e1, e2⟩ := hw e4
      exact ⟨e3, e1, e2⟩
  have he : ∀ (k : Nd) (q : List UInt8), Ends (newT k ++ (widthT k ++ 10 :: q)) := by
    intro k q
    unfold newT widthT
    by_cases h2 : k.new = []
    · rw [if_pos h2]; exact ⟨_, _, rfl, .inr rfl⟩
    · rw [if_neg h2]; exact ⟨_, _, rfl, .inr rfl⟩
  have h5 : ∀ (k : Nd) (q : List UInt8), ∃ c p, newT k ++ (widthT k ++ 10 :: q) = 32 :: c :: p ∧ c ≠ 108 := by
    intro k q
    unfold newT widthT
    by_cases h2 : k.new = []
    · rw [if_pos h2]; exact ⟨_, _, rfl, by decide⟩
    · rw [if_neg h2]; exact ⟨_, _, rfl, by decide⟩
  by_cases h1 : n.links = [] <;> by_cases h2 : m.links = []
  · simp only [linksT, if_pos h1, if_pos h2, List.nil_append] at e
    exact ⟨h1.trans h2.symm, hn e⟩
  · obtain ⟨c, p, e1, e2⟩ := h5 n q
    simp only [linksT, if_pos h1, if_neg h2, List.nil_append, e1, List.append_assoc, List.cons_append, List.cons.injEq] at e
    exact absurd e.2.1 e2
  · obtain ⟨c, p, e1, e2⟩ := h5 m q'
    simp only [linksT, if_neg h1, if_pos h2, List.nil_append, e1, List.append_assoc, List.cons_append, List.cons.injEq] at e
    exact absurd e.2.1.symm e2
  · simp only [linksT, if_neg h1, if_neg h2, List.append_assoc, List.append_cancel_left_eq] at e
    rw [link_parts, link_parts] at e
    obtain ⟨e3, e4⟩ := join_app part_link (he n q) (he m q') e
    exact ⟨e3, hn e4⟩
theorem under_back {n m : Nd} {q q' : List UInt8} (hq : Stop q) (hq' : Stop q') (e : underT n ++ q = underT m ++ q') : n.parent = m.parent ∧ q = q' := by
  simp only [underT, List.append_assoc, List.append_cancel_left_eq] at e
  exact num_app hq hq' e
theorem rest_stop (n : Nd) (q : List UInt8) : Stop (linksT n ++ (newT n ++ (widthT n ++ q))) := by
  obtain ⟨p, e⟩ := links_first n q
  rw [e]
  exact stop_cons (by unfold isDig; decide)
theorem under_first (n : Nd) (q : List UInt8) : Stop (underT n ++ q) := by
  unfold underT
  exact stop_cons (by unfold isDig; decide)
/-- The kinds' first bytes. -/
theorem node_line {n : Nd} (h : NdN n) (q : List UInt8) : ∃ c p, nodeT n ++ 10 :: q = c :: p ∧ c = (if n.kind = 0 then 114 else if n.kind = 1 then 106 else if n.kind = 3 then 110 else 116) := by
  unfold nodeT headT testT
  by_cases h0 : n.kind = 0
  · simp [h0]
  · by_cases h1 : n.kind = 1
    · simp [h1]
    · by_cases h3 : n.kind = 3
      · simp [h3]
      · simp [h0, h1, h3]
theorem nodeT_back {n m : Nd} (hn : NdN n) (hm : NdN m) {q q' : List UInt8} (e : nodeT n ++ 10 :: q = nodeT m ++ 10 :: q') : n = m ∧ q = q' := by
  have hk : n.kind = m.kind := by
    obtain ⟨c, p, e1, h1⟩ := node_line hn q
    obtain ⟨d, p', e2, h2⟩ := node_line hm q'
    rw [e1, e2] at e
    simp only [List.cons.injEq] at e
    rw [h1, h2] at e
    have e := e.1
    rcases hn with ⟨a, _⟩ | ⟨a, _⟩ | ⟨a, _⟩ | ⟨a, _⟩ <;> rcases hm with ⟨b, _⟩ | ⟨b, _⟩ | ⟨b, _⟩ | ⟨b, _⟩ <;> rw [a, b] at e ⊢ <;> first | rfl | (exact absurd e (by decide))
  rcases hn with ⟨a, a1⟩ | ⟨a, a1⟩ | ⟨a, a1⟩ | ⟨a, a1, a2, a3, a4, a5⟩ <;> rcases hm with ⟨b, b1⟩ | ⟨b, b1⟩ | ⟨b, b1⟩ | ⟨b, b1, b2, b3, b4, b5⟩ <;> first | (exact absurd (a.symm.trans (hk.trans b)) (by decide)) | skip
  · subst a1 b1
    have h0 : nodeT rootN = [114, 111, 111, 116] := rfl
    rw [h0] at e
    exact ⟨rfl, by simpa using e⟩
  · have ha : headT n = [106, 111, 105, 110, 32] ++ num n.alpha ++ underT n := by unfold headT; rw [if_pos a]
    have hb : headT m = [106, 111, 105, 110, 32] ++ num m.alpha ++ underT m := by unfold headT; rw [if_pos b]
    rw [nodeT, nodeT, if_neg (by rw [a]; decide), if_neg (by rw [b]; decide), ha, hb] at e
    simp only [List.append_assoc, List.append_cancel_left_eq] at e
    obtain ⟨e1, e2⟩ := num_app (under_first _ _) (under_first _ _) e
    obtain ⟨e3, e4⟩ := under_back (rest_stop _ _) (rest_stop _ _) e2
    obtain ⟨e5, e6, e7, e8⟩ := rest_back e4
    obtain ⟨k, p, al, li, ne, te, wi⟩ := n
    obtain ⟨k', p', al', li', ne', te', wi'⟩ := m
    simp only at hk e1 e3 e5 e6 e7 a1 b1
    exact ⟨by rw [hk, e1, e3, e5, e6, e7, a1, b1], e8⟩
  · have ha : headT n = [110, 101, 103, 32] ++ num n.alpha ++ underT n := by unfold headT; rw [if_neg (by rw [a]; decide), if_pos a]
    have hb : headT m = [110, 101, 103, 32] ++ num m.alpha ++ underT m := by unfold headT; rw [if_neg (by rw [b]; decide), if_pos b]
    rw [nodeT, nodeT, if_neg (by rw [a]; decide), if_neg (by rw [b]; decide), ha, hb] at e
    simp only [List.append_assoc, List.append_cancel_left_eq] at e
    obtain ⟨e1, e2⟩ := num_app (under_first _ _) (under_first _ _) e
    obtain ⟨e3, e4⟩ := under_back (rest_stop _ _) (rest_stop _ _) e2
    obtain ⟨e5, e6, e7, e8⟩ := rest_back e4
    obtain ⟨k, p, al, li, ne, te, wi⟩ := n
    obtain ⟨k', p', al', li', ne', te', wi'⟩ := m
    simp only at hk e1 e3 e5 e6 e7 a1 b1
    exact ⟨by rw [hk, e1, e3, e5, e6, e7, a1, b1], e8⟩
  · have ha : headT n = testT n := by unfold headT; rw [if_neg (by rw [a]; decide), if_neg (by rw [a]; decide)]
    have hb : headT m = testT m := by unfold headT; rw [if_neg (by rw [b]; decide), if_neg (by rw [b]; decide)]
    rw [nodeT, nodeT, if_neg (by rw [a]; decide), if_neg (by rw [b]; decide), ha, hb] at e
    simp only [testT, List.append_assoc, List.append_cancel_left_eq, List.cons_append, List.nil_append, List.cons.injEq, true_and] at e
    obtain ⟨e1, e2⟩ := slotT_back (stop_cons (by unfold isDig; decide)) (stop_cons (by unfold isDig; decide)) e
    simp only [List.cons.injEq, true_and] at e2
    obtain ⟨e9, e2⟩ := opT_back ⟨a4, a5⟩ ⟨b4, b5⟩ e2
    obtain ⟨e10, e2⟩ := slotT_back (under_first _ _) (under_first _ _) e2
    obtain ⟨e3, e4⟩ := under_back (rest_stop _ _) (rest_stop _ _) e2
    obtain ⟨e5, e6, e7, e8⟩ := rest_back e4
    obtain ⟨k, p, al, li, ne, ⟨o, l, r⟩, wi⟩ := n
    obtain ⟨k', p', al', li', ne', ⟨o', l', r'⟩, wi'⟩ := m
    simp only at hk e1 e3 e5 e6 e7 e9 e10 a1 b1
    exact ⟨by rw [hk, e1, e3, e5, e6, e7, e9, e10, a1, b1], e8⟩
theorem nodeL_back {i : Nat} {s t : Nd} (hs : NdN s) (ht : NdN t) {r r' : List UInt8} (e : nodeL i s ++ r = nodeL i t ++ r') : s = t ∧ r = r' := by
  simp only [nodeL, List.append_assoc, List.append_cancel_left_eq, List.cons_append, List.nil_append, List.cons.injEq, true_and] at e
  exact nodeT_back hs ht e
/-- Lines of one kind: they begin with the byte c. -/
theorem lines_back {α : Type} {f : Nat → α → List UInt8} {c : UInt8} {P : α → Prop} (h1 : ∀ i x, ∃ q, f i x = c :: q) (hb : ∀ i x y r r', P x → P y → f i x ++ r = f i y ++ r' → x = y ∧ r = r') : ∀ (xs ys : List α) (i : Nat) {r r' : List UInt8}, (∀ x ∈ xs, P x) → (∀ x ∈ ys, P x) → (∀ q, r ≠ c :: q) → (∀ q, r' ≠ c :: q) → (partsF f i xs).flatten ++ r = (partsF f i ys).flatten ++ r' → xs = ys ∧ r = r'
  | [], [], _, _, _, _, _, _, _, e => ⟨rfl, e⟩
  | [], y :: ys, i, r, r', _, _, hr, _, e => by
    obtain ⟨q, hq⟩ := h1 i y
    simp only [partsF, List.flatten_nil, List.nil_append, List.flatten_cons, hq, List.cons_append] at e
    exact absurd e (hr _)
  | x :: xs, [], i, r, r', _, _, _, hr', e => by
    obtain ⟨q, hq⟩ := h1 i x
    simp only [partsF, List.flatten_nil, List.nil_append, List.flatten_cons, hq, List.cons_append] at e
    exact absurd e.symm (hr' _)
  | x :: xs, y :: ys, i, r, r', hx, hy, hr, hr', e => by
    simp only [partsF, List.flatten_cons, List.append_assoc] at e
    obtain ⟨e1, e2⟩ := hb _ _ _ _ _ (hx x (List.mem_cons_self ..)) (hy y (List.mem_cons_self ..)) e
    obtain ⟨e3, e4⟩ := lines_back h1 hb xs ys (i + 1) (fun z hz => hx z (List.mem_cons_of_mem _ hz)) (fun z hz => hy z (List.mem_cons_of_mem _ hz)) hr hr' e2
    exact ⟨by rw [e1, e3], e4⟩
theorem lines_parts {α : Type} (f : Nat → α → List UInt8) (xs : List α) : linesT f xs xs.length = (partsF f 0 xs).flatten := by
  rw [← parts_all]
  unfold linesT
  rw [List.flatMap_def]
  congr 1
theorem lines_first {α : Type} {f : Nat → α → List UInt8} {c d : UInt8} (hd : d ≠ c) (h1 : ∀ i x, ∃ q, f i x = d :: q) (xs : List α) (i : Nat) {r : List UInt8} (hr : ∀ q, r ≠ c :: q) : ∀ q, (partsF f i xs).flatten ++ r ≠ c :: q := by
  intro q e
  cases xs with
  | nil => exact hr q e
  | cons x xs =>
    obtain ⟨p, hp⟩ := h1 i x
    simp only [partsF, List.flatten_cons, hp, List.cons_append, List.cons.injEq] at e
    exact hd e.1
theorem nodes_nice {al : List Shp} {ns : List Nd} (h : nodesP al ns) : ∀ n ∈ ns, NdN n := by
  intro n hm
  obtain ⟨i, hi⟩ := List.getElem?_of_mem hm
  rcases Nat.eq_zero_or_pos i with rfl | hp
  · have := Option.some.inj (h.1.symm.trans hi)
    rw [← this]
    exact .inl ⟨rfl, rfl⟩
  · obtain ⟨u, up, _, _, _, _, h5, _⟩ := h.2 i hp (List.getElem?_eq_some_iff.1 hi).1 n hi
    rcases h5 with ⟨h, _, _, _, _, _, hp⟩ | ⟨h, _, _, _, _, _, hp⟩ | ⟨h, t⟩
    · exact .inr (.inl ⟨h, hp.1.1⟩)
    · exact .inr (.inr (.inl ⟨h, hp.1.1⟩))
    · exact .inr (.inr (.inr ⟨h, t.2.1, t.2.2.1, t.2.2.2.1, t.2.2.2.2.2.1, t.2.2.2.2.2.2.1⟩))
/-- THE TEXT TELLS ALL OF A PLAN. -/
theorem allT_inj {al al' : List Shp} {ns ns' : List Nd} {es es' : List Int} (h : nodesP al ns) (h' : nodesP al' ns') (e : allT al ns es = allT al' ns' es') : al = al' ∧ ns = ns' ∧ es = es' := by
  have fa : ∀ (i : Nat) (x : Shp), ∃ q, alphaL i x = 97 :: q := fun i x => ⟨_, rfl⟩
  have fn : ∀ (i : Nat) (x : Nd), ∃ q, nodeL i x = 110 :: q := fun i x => ⟨_, rfl⟩
  have fr : ∀ (i : Nat) (x : Int), ∃ q, ruleL i x = 114 :: q := fun i x => ⟨_, rfl⟩
  simp only [allT, lines_parts, List.append_assoc] at e
  have r1 : ∀ (c : UInt8) (es : List Int), (114 : UInt8) ≠ c → ∀ q, (partsF ruleL 0 es).flatten ≠ c :: q := by
    intro c es hc q
    have := lines_first (r := []) hc fr es 0 (by intro q e; cases e) q
    rwa [List.append_nil] at this
  obtain ⟨e1, e2⟩ := lines_back (P := fun _ => True) fa (fun i x y r r' _ _ => alphaL_back) al al' 0 (fun _ _ => trivial) (fun _ _ => trivial) (lines_first (by decide) fn ns 0 (r1 97 es (by decide))) (lines_first (by decide) fn ns' 0 (r1 97 es' (by decide))) e
  obtain ⟨e3, e4⟩ := lines_back (P := NdN) fn (fun i x y r r' hx hy => nodeL_back hx hy) ns ns' 0 (nodes_nice h) (nodes_nice h') (r1 110 es (by decide)) (r1 110 es' (by decide)) e2
  have e5 : (partsF ruleL 0 es).flatten ++ [] = (partsF ruleL 0 es').flatten ++ [] := by rw [e4]
  obtain ⟨e6, _⟩ := lines_back (P := fun _ => True) fr (fun i x y r r' _ _ => ruleL_back) es es' 0 (fun _ _ => trivial) (fun _ _ => trivial) (by intro q e; cases e) (by intro q e; cases e) e5
  exact ⟨e1, e3, e6⟩

/-- How often a line's end stands in a text. -/
theorem dec_ten (u : Nat) : (Lib.decDigits u).count 10 = 0 := by
  rw [List.count_eq_zero]
  intro h
  have := dec_digs u u (Nat.le_refl _) _ h
  revert this
  unfold isDig
  decide
theorem num_ten (n : Int) : (num n).count 10 = 0 := by
  by_cases h : n < 0
  · rw [num_neg h, List.count_cons, dec_ten]; decide
  · rw [num_pos h, dec_ten]
theorem join_ten {α : Type} {f : Nat → α → List UInt8} (hf : ∀ i x, (f i x).count 10 = 0) : ∀ (xs : List α) (i : Nat), (Lib.join (partsF f i xs) sepT).count 10 = 0
  | [], _ => rfl
  | x :: xs, i => by
    have : ∀ (ys : List α) (i : Nat), (Lib.joinTail sepT (partsF f i ys)).count 10 = 0 := by
      intro ys
      induction ys with
      | nil => intro i; rfl
      | cons y ys ih =>
        intro i
        have h := ih (i + 1)
        unfold Lib.joinTail at h ⊢
        simp only [partsF, List.map_cons, List.flatten_cons, List.count_append, hf, h]
        decide
    rw [show partsF f i (x :: xs) = f i x :: partsF f (i + 1) xs from rfl, Lib.join_cons, List.count_append, hf, this]
theorem cell_ten (i : Nat) (c : Int) : (cellT i c).count 10 = 0 := by
  rcases cell_cases i c with ⟨_, e⟩ | ⟨_, e⟩ | ⟨_, _, e⟩
  · rw [e, List.count_cons, num_ten]; decide
  · rw [e]; decide
  · rw [e, List.count_cons, num_ten]; decide
theorem link_ten (l : Int × Int) : (linkT l).count 10 = 0 := by
  simp only [linkT, List.count_append, num_ten]
  decide
theorem slot_ten (s : Slt) : (slotT s).count 10 = 0 := by
  unfold slotT
  split <;> rw [List.count_cons, num_ten] <;> decide
theorem op_ten (a : Int) : (opT a).count 10 = 0 := by
  unfold opT
  repeat' split
  all_goals decide
theorem node_ten (n : Nd) : (nodeT n).count 10 = 0 := by
  have h1 : (underT n).count 10 = 0 := by simp only [underT, List.count_append, num_ten]; decide
  have h2 : (headT n).count 10 = 0 := by
    unfold headT
    split
    · simp only [List.count_append, num_ten, h1]; decide
    · split
      · simp only [List.count_append, num_ten, h1]; decide
      · simp only [testT, List.count_append, slot_ten, op_ten, h1]; decide
  have h3 : (linksT n).count 10 = 0 := by
    unfold linksT
    split
    · rfl
    · rw [link_parts, List.count_append, join_ten (fun _ => link_ten)]; decide
  have h4 : (newT n).count 10 = 0 := by
    unfold newT
    split
    · rfl
    · rw [place_parts, List.count_append, join_ten (fun _ => num_ten)]; decide
  unfold nodeT
  split
  · decide
  · simp only [List.count_append, h2, h3, h4, widthT, num_ten]; decide
theorem lines_ten {α : Type} {f : Nat → α → List UInt8} (hf : ∀ i x, (f i x).count 10 = 1) : ∀ (xs : List α) (i : Nat), (partsF f i xs).flatten.count 10 = xs.length
  | [], _ => rfl
  | x :: xs, i => by
    simp only [partsF, List.flatten_cons, List.count_append, hf, lines_ten hf xs (i + 1), List.length_cons]
    omega
/-- A line for each shape, node and rule. -/
theorem allT_lines (al : List Shp) (ns : List Nd) (es : List Int) : (allT al ns es).count 10 = al.length + ns.length + es.length := by
  have h1 : ∀ (i : Nat) (x : Shp), (alphaL i x).count 10 = 1 := by
    intro i x
    simp only [alphaL, cell_parts, List.count_append, num_ten, join_ten cell_ten]
    decide
  have h2 : ∀ (i : Nat) (x : Nd), (nodeL i x).count 10 = 1 := by
    intro i x
    simp only [nodeL, List.count_append, num_ten, node_ten]
    decide
  have h3 : ∀ (i : Nat) (x : Int), (ruleL i x).count 10 = 1 := by
    intro i x
    simp only [ruleL, List.count_append, num_ten]
    decide
  simp only [allT, lines_parts, List.count_append, lines_ten h1, lines_ten h2, lines_ten h3]
/-- A plan that is right has a text. -/
theorem allT_ne {al : List Shp} {ns : List Nd} {es : List Int} (h : nodesP al ns) : allT al ns es ≠ [] := by
  intro e
  have h1 := allT_lines al ns es
  rw [e] at h1
  have h2 : 0 < ns.length := (List.getElem?_eq_some_iff.1 h.1).1
  simp at h1
  omega
end Go.Proofs.YtonkbjdeaneicaaDoor

namespace Go.Proofs.YtonkbjdeaneicaaDoor
open Go.RowKit Pln Classical Go.Maps

theorem run_cutP (A : Option Addr) (l c n : Nat) (h : n ≤ l) (hc : l ≤ c) (W : World) : (Instr.slice 22 (.slice A l c) none (some (.int .i64 (n : Int))) none).run Tryd.prog W = .ok (.slice A n c) W := by
  rw [run_slice_h (t := 22) (ht := by kernel_rfl) (h0 := by omega) (h2 := by omega)]
  have hs : (sizeOf (Tryd.prog.elem 22)).run Tryd.prog W = .ok 2 W := by kernel_rfl
  rw [hs]
  have e : (if c = 0 then A else A.map (fun a => a.add (0 * 2))) = A := by
    split
    · rfl
    · cases A <;> simp [Addr.add]
  simp only [Result.andThen, sliced, Int.toNat_natCast, Nat.sub_zero, e]
theorem run_cutN (A : Option Addr) (l c n : Nat) (h : n ≤ l) (hc : l ≤ c) (W : World) : (Instr.slice 23 (.slice A l c) none (some (.int .i64 (n : Int))) none).run Tryd.prog W = .ok (.slice A n c) W := by
  rw [run_slice_h (t := 23) (ht := by kernel_rfl) (h0 := by omega) (h2 := by omega)]
  have hs : (sizeOf (Tryd.prog.elem 23)).run Tryd.prog W = .ok 11 W := by kernel_rfl
  rw [hs]
  have e : (if c = 0 then A else A.map (fun a => a.add (0 * 11))) = A := by
    split
    · rfl
    · cases A <;> simp [Addr.add]
  simp only [Result.andThen, sliced, Int.toNat_natCast, Nat.sub_zero, e]
theorem run_cutR (A : Option Addr) (l c n : Nat) (h : n ≤ l) (hc : l ≤ c) (W : World) : (Instr.slice 43 (.slice A l c) none (some (.int .i64 (n : Int))) none).run Tryd.prog W = .ok (.slice A n c) W := by
  rw [run_slice_h (t := 43) (ht := by kernel_rfl) (h0 := by omega) (h2 := by omega)]
  have hs : (sizeOf (Tryd.prog.elem 43)).run Tryd.prog W = .ok 7 W := by kernel_rfl
  rw [hs]
  have e : (if c = 0 then A else A.map (fun a => a.add (0 * 7))) = A := by
    split
    · rfl
    · cases A <;> simp [Addr.add]
  simp only [Result.andThen, sliced, Int.toNat_natCast, Nat.sub_zero, e]
/-- A compiled plan, told at once: whatever reads it. -/
structure Cpl (rs : List Rl) (st : St) (es : List Nat) : Prop where
  chk : checkP st.al st.ns (es.map fun (e : Nat) => (e : Int))
  la : st.al.length ≤ 1000000000
  ln : st.ns.length ≤ 1000000000
  le : es.length = rs.length
  new : ∀ n ∈ st.ns, n.new.length ≤ 1000000000
theorem cpl_of {rs : List Rl} (hmay : ∀ r ∈ rs, mayP r) (hl : rs.length ≤ 1048576) : Cpl rs (compF rs).1 (compF rs).2 := by
  have hChk := comp_check rs hmay
  have hMade := made_comp rs
  have hcl := comp_len rs hmay rs.length (Nat.le_refl _)
  rw [List.take_length] at hcl
  refine ⟨hChk, ?_, ?_, hMade.len, ?_⟩
  · have := hcl.2; omega
  · have := hcl.1; omega
  · intro n hn
    have := (node_len8 hChk.1 hChk.2.1 hn).2
    omega
theorem lines_len {α : Type} {f : Nat → α → List UInt8} {xs : List α} (h : ∀ i x, xs[i]? = some x → (f i x).length ≤ 1000) : ∀ k, k ≤ xs.length → (linesT f xs k).length ≤ k * 1000
  | 0, _ => by simp [linesT]
  | k + 1, hk => by
    have hx : xs[k]? = some xs[k] := List.getElem?_eq_getElem (by omega)
    have h1 := h k _ hx
    have h2 := lines_len h k (by omega)
    rw [linesT_succ hx, List.length_append]
    omega
/-- How long a text is. -/
theorem allT_len {F : Nat → Prop} {W : World} {av nv ev : Value} {al : List Shp} {ns : List Nd} {es : List Int} (h : RPl F W av nv ev al ns es) (hc : checkP al ns es) (h1 : al.length ≤ 1000000000) (h2 : ns.length ≤ 1000000000) (h3 : es.length ≤ 1000000000) : (allT al ns es).length ≤ 3000000000000 := by
  have a1 := lines_len (f := alphaL) (xs := al) (fun i x hx => by
    have hi := (List.getElem?_eq_some_iff.1 hx).1
    obtain ⟨cs, he⟩ := h.al.mem (List.mem_of_getElem? hx)
    exact (alphaL_len he (shape_len8 hc.1 (List.mem_of_getElem? hx)) (by omega)).1) al.length (Nat.le_refl _)
  have a2 := lines_len (f := nodeL) (xs := ns) (fun i x hx => by
    have hi := (List.getElem?_eq_some_iff.1 hx).1
    obtain ⟨cs, lv, mv, he⟩ := h.ns.mem (List.mem_of_getElem? hx)
    have h8 := node_len8 hc.1 hc.2.1 (List.mem_of_getElem? hx)
    have hn : NdT F W x lv mv := ⟨he.ok, he.links, he.new, by omega, by omega⟩
    exact nodeL_len hn h8 (by omega)) ns.length (Nat.le_refl _)
  have a3 := lines_len (f := ruleL) (xs := es) (fun i x hx => by
    have hi := (List.getElem?_eq_some_iff.1 hx).1
    obtain ⟨cs, _, he⟩ := h.en.mem (List.mem_of_getElem? hx)
    exact ruleL_len he (by omega)) es.length (Nat.le_refl _)
  unfold allT
  rw [List.length_append, List.length_append]
  omega
/-- A compiled plan at values that read it: Check and Text, in any later world. -/
theorem cpl_check {F : Nat → Prop} {rs : List Rl} {st : St} {es : List Nat} (hc : Cpl rs st es) {W : World} {av nv ev : Value} (h : RPlan F W av nv ev st es) :
    Calls Tryd.prog 17 #[.agg #[av, nv, ev]] W fun e W' => e = .returned (.int .i64 0) ∧ Below W.heap.size W W' := by
  have := checkW W av nv ev st.al st.ns _ h.al h.ns h.en hc.ln hc.new
  rw [if_pos hc.chk] at this
  exact this
theorem cpl_text {F : Nat → Prop} {rs : List Rl} {st : St} {es : List Nat} (hc : Cpl rs st es) (hl : rs.length ≤ 1048576) {W : World} {av nv ev : Value} (h : RPlan F W av nv ev st es) (ht : Tab W) (ho : Ops W) :
    Calls Tryd.prog 9 #[.agg #[av, nv, ev]] W fun e W' => e = .returned (.string (bs (allT st.al st.ns (es.map fun (e : Nat) => (e : Int))))) ∧ Below W.heap.size W W' := by
  have := textW W av nv ev st.al st.ns _ ⟨h.al, h.ns, h.en⟩ ⟨hc.la, hc.ln, by rw [List.length_map, hc.le]; omega⟩ hc.new ht ho
  have e : textF st.al st.ns (es.map fun (e : Nat) => (e : Int)) = allT st.al st.ns (es.map fun (e : Nat) => (e : Int)) := by unfold textF; rw [if_pos hc.chk]
  rw [e] at this
  exact this

set_option maxRecDepth 200000 in
set_option maxHeartbeats 8000000 in
theorem fitsPW {F : Nat → Prop} (v : Value) (rs : List Rl) (k : Int) (W : World) (h : RRules F W v rs) (hS : rs.length ≤ 1048576 ∧ ∀ r ∈ rs, rlSm 1048576 r) (ht : Tab W) (ho : Ops W) :
    Calls Tryd.prog 4 #[v, .int .i64 k] W fun e W' => e = .returned (.bool true) ∧ Below W.heap.size W W' := by
  have MW := Lib.hid (madeW v rs W h hS)
  obtain ⟨A, c, rfl⟩ := h.form
  have hcp := h.cap.2
  have hm := hS.1
  have HH := Lib.hid h
  have SM := Lib.hid hS
  have TB := Lib.hid (fun (Wx : World) (hx : Below W.heap.size W Wx) => ht.below hx)
  have OB := Lib.hid (fun (Wx : World) (hx : Below W.heap.size W Wx) => ho.below hx)
  clear h hS ht ho
  go_enter Tryd.func4, Tryd.ntmps4
  go_wp2_with fail
  refine MW.out.mono ?_
  rintro e W1 ⟨hb1, ⟨hmay, av, nv, ev, rfl, hP⟩ | ⟨_, rfl⟩⟩
  · have hC := cpl_of hmay hm
    have HPRE := Lib.hid (fun (q : Nat) (hq : q ≤ rs.length) => comp_pre rs hq)
    obtain ⟨st, hst⟩ : ∃ st, (compF rs).1 = st := ⟨_, rfl⟩
    obtain ⟨es, hes⟩ : ∃ es, (compF rs).2 = es := ⟨_, rfl⟩
    rw [hst, hes] at hP hC HPRE
    have hel := hC.le
    have hnl : 0 < st.ns.length := (List.getElem?_eq_some_iff.1 hC.chk.2.1.1).1
    have hel2 : (es.map fun (e : Nat) => (e : Int)).length = rs.length := by rw [List.length_map, hel]
    obtain ⟨A3, C3, rfl⟩ := hP.al.form
    obtain ⟨nb, no, C2, rfl, _, _, _⟩ := RSl.base hP.ns hnl
    obtain ⟨A1, C1, rfl⟩ := hP.en.form
    have hc3 := hP.al.cap.2
    have hc2 := hP.ns.cap.2
    have hc1 := hP.en.cap.2
    rw [hel2] at hP hc1 ⊢
    obtain ⟨w2, hw2⟩ : ∃ w2, w2 = W1.alloc (.cells #[.slice A3 st.al.length C3, .slice (some ⟨nb, no, none⟩) st.ns.length C2, .slice A1 rs.length C1] 26) := ⟨_, rfl⟩
    have hx2 : Below (W1.heap.size + 1) (W1.alloc (.cells #[.slice A3 st.al.length C3, .slice (some ⟨nb, no, none⟩) st.ns.length C2, .slice A1 rs.length C1] 26)) w2 := by rw [hw2]; exact Below.refl _ _
    have CK := Lib.hid (cpl_check hC (hP.kp (F' := fun b => b < W1.heap.size) (Kp.of_below (box_belowD hx2)) (fun _ _ h => h)))
    have y0 := box_cellL hx2 0 rfl
    have y1 := box_cellL hx2 1 rfl
    have y2 := box_cellL hx2 2 rfl
    have HX2 := Lib.hid hx2
    have HP := Lib.hid hP
    have HC := Lib.hid hC
    have HB1 := Lib.hid hb1
    have HY := Lib.hid hmay
    clear hmay hP hC hb1 hst hes hel hel2 MW hx2
    go_upto_region 4 with fail
    rw [← hw2]
    clear hw2
    by_cases hk : k < 0 ∨ (rs.length : Int) < k
    · go_wp2_with fail
      refine CK.out.mono ?_
      rintro e w3 ⟨rfl, hb3⟩
      have HB3 := Lib.hid (HB1.out.trans (((box_belowD HX2.out).trans (hb3.mono (box_belowD HX2.out).size)).mono HB1.out.size))
      clear hb3 y0 y1 y2
      rcases hk with hk | hk
      · go_wp2
        go_ret
        exact ⟨rfl, HB3.out⟩
      · have hk0 : ¬ k < 0 := by omega
        go_wp2
        go_ret
        exact ⟨rfl, HB3.out⟩
    · obtain ⟨q, rfl⟩ : ∃ q : Nat, k = (q : Int) := ⟨k.toNat, by omega⟩
      have hq : q ≤ rs.length := by omega
      have hq2 : ¬ (rs.length : Int) < (q : Int) := by omega
      have hcut := fun w => run_cutR A rs.length c q hq hcp w
      have HQ := Lib.hid hq
      clear hk hq hcp
      go_wp2_with fail
      refine CK.out.mono ?_
      rintro e w3 ⟨rfl, hb3⟩
      have hb3x := box_step HX2.out hb3
      have HX3 := Lib.hid hb3x
      have hW3 := HB1.out.trans ((box_belowD hb3x).mono HB1.out.size)
      have HR3 := Lib.hid (rulesOfW _ (rs.take q) w3 ((HH.out.kp (F' := F) (Kp.of_below hW3) (fun _ _ h => h)).take HQ.out) ⟨by rw [List.length_take]; omega, fun r hr => SM.out.2 r (List.mem_of_mem_take hr)⟩)
      have HW3 := Lib.hid hW3
      clear hb3 hb3x hW3 y0 y1 y2 CK
      go_wp2_with fail
      refine HR3.out.mono ?_
      rintro e w4 ⟨v', rfl, hO, hb4⟩
      have HX4 := Lib.hid (box_step HX3.out hb4)
      have CO := Lib.hid (compileW (F := fun b => b < w4.heap.size) v' (rs.take q) w4 (hO.rsl' (F := fun b => b < w4.heap.size) (fun b _ h => h)) ⟨by rw [List.length_take]; omega, fun r hr => SM.out.2 r (List.mem_of_mem_take hr)⟩)
      clear hb4 hO HR3 hcut
      go_wp2_with fail
      refine CO.out.mono ?_
      rintro e w5 ⟨hb5, ⟨hmay', av', nv', ev', base, g, mb, hbase, rfl, hMk⟩ | ⟨hex, _⟩⟩
      rotate_left
      · exact absurd hex (fun ⟨r, hr, hn⟩ => hn (HY.out r (List.mem_of_mem_take hr)))
      have hP' := hMk.plan
      have hC' := cpl_of hmay' (by rw [List.length_take]; omega)
      obtain ⟨p1, p2, p3, p4, p5⟩ := HPRE.out q HQ.out
      obtain ⟨st', hst'⟩ : ∃ st', (compF (rs.take q)).1 = st' := ⟨_, rfl⟩
      obtain ⟨es', hes'⟩ : ∃ es', (compF (rs.take q)).2 = es' := ⟨_, rfl⟩
      rw [hst'] at hP' hC' p1 p2 p4 p5
      rw [hes'] at hP' hC' p3
      have hel' : (es'.map fun (e : Nat) => (e : Int)).length = q := by rw [List.length_map, hC'.le, List.length_take]; exact Nat.min_eq_left HQ.out
      obtain ⟨A3', C3', rfl⟩ := hP'.al.form
      obtain ⟨A2', C2', rfl⟩ := hP'.ns.form
      obtain ⟨A1', C1', rfl⟩ := hP'.en.form
      rw [hel'] at hP' ⊢
      have HX5 := Lib.hid (box_step HX4.out hb5)
      obtain ⟨w6, hw6⟩ : ∃ w6, w6 = w5.alloc (.cells #[.slice A3' st'.al.length C3', .slice A2' st'.ns.length C2', .slice A1' q C1'] 26) := ⟨_, rfl⟩
      have hx6 : Below (w5.heap.size + 1) (w5.alloc (.cells #[.slice A3' st'.al.length C3', .slice A2' st'.ns.length C2', .slice A1' q C1'] 26)) w6 := by rw [hw6]; exact Below.refl _ _
      have hX6 := box_step HX5.out (box_belowD hx6)
      have y0 := box_cellL hX6 0 rfl
      have y1 := box_cellL hX6 1 rfl
      have y2 := box_cellL hX6 2 rfl
      have z0 := box_cellL hx6 0 rfl
      have z1 := box_cellL hx6 1 rfl
      have z2 := box_cellL hx6 2 rfl
      have hs1 := fun w => run_cutP A3 st.al.length C3 st'.al.length p4 hc3 w
      have hs2 := fun w => run_cutN (some ⟨nb, no, none⟩) st.ns.length C2 st'.ns.length p5 hc2 w
      have hs3 := fun w => run_cutI A1 rs.length C1 q HQ.out hc1 w
      have HP' := Lib.hid hP'
      have HC' := Lib.hid hC'
      have HPR := Lib.hid (And.intro p1 (And.intro p2 p3))
      have HX6 := Lib.hid hx6
      have HXX := Lib.hid hX6
      have HPL := Lib.hid (And.intro p4 p5)
      have l1 : ¬ st.al.length < st'.al.length := by omega
      have l2 : ¬ st.ns.length < st'.ns.length := by omega
      have l3 : ¬ (st.al.length : Int) < (st'.al.length : Int) := by omega
      have l4 : ¬ (st.ns.length : Int) < (st'.ns.length : Int) := by omega
      clear hP' hC' p1 p2 p3 p4 p5 hx6 hX6 hst' hes' hel' hMk hmay' hb5 CO hbase
      go_upto_region 9 with fail
      rw [← hw6]
      clear hw6
      go_upto_region 11 with fail
      have nx := box_step HX6.out ((Below.refl w6.heap.size w6).alloc (Nat.le_refl _) (.cells #[.slice none 0 0, .slice none 0 0, .slice none 0 0] 26))
      have nX := box_step HXX.out ((Below.refl w6.heap.size w6).alloc (Nat.le_refl _) (.cells #[.slice none 0 0, .slice none 0 0, .slice none 0 0] 26))
      have v0 := box_cellL nX 0 rfl
      have v1 := box_cellL nX 1 rfl
      have v2 := box_cellL nX 2 rfl
      have u0 := box_cellL nx 0 rfl
      have u1 := box_cellL nx 1 rfl
      have u2 := box_cellL nx 2 rfl
      go_region
      obtain ⟨w8, hw8⟩ : ∃ w8, w8 = (w6.alloc (.cells #[.slice A3 st'.al.length C3, .slice (some ⟨nb, no, none⟩) st'.ns.length C2, .slice A1 q C1] 26)).drew := ⟨_, rfl⟩
      rw [← hw8]
      have hx8 : Below (w6.heap.size + 1) (w6.alloc (.cells #[.slice A3 st'.al.length C3, .slice (some ⟨nb, no, none⟩) st'.ns.length C2, .slice A1 q C1] 26)) w8 := by rw [hw8]; exact (Below.refl _ _).drew
      have hz8 := box_step HX6.out (box_belowD hx8)
      have hy8 := box_step HXX.out (box_belowD hx8)
      have hW8 := HB1.out.trans ((box_belowD hy8).mono HB1.out.size)
      have HCUT : ∀ Wx, Below w8.heap.size w8 Wx → RPlan (fun b => b < W1.heap.size) Wx (.slice A3 st'.al.length C3) (.slice (some ⟨nb, no, none⟩) st'.ns.length C2) (.slice A1 q C1) st' es' := by
        intro Wx hx
        have hp := HP.out.kp (F' := fun b => b < W1.heap.size) (Kp.of_below (box_belowD (box_step hy8 hx))) (fun _ _ h => h)
        obtain ⟨p1, p2, p3⟩ := HPR.out
        obtain ⟨p4, p5⟩ := HPL.out
        have t1 := hp.al.take p4
        have t2 := hp.ns.take p5
        have t3 := hp.en.take (k := q) (by rw [List.length_map, HC.out.le]; exact HQ.out)
        rw [← p1] at t1
        rw [← p2] at t2
        rw [← List.map_take, ← p3] at t3
        exact ⟨t1, t2, t3⟩
      obtain ⟨T, hT⟩ : ∃ T, allT st'.al st'.ns (es'.map fun (e : Nat) => (e : Int)) = T := ⟨_, rfl⟩
      have hTne : T ≠ [] := by rw [← hT]; exact allT_ne HC'.out.chk.2.1
      have hlt : (rs.take q).length ≤ 1048576 := by rw [List.length_take]; omega
      have CC := Lib.hid (fun (Wx : World) (hx : Below w8.heap.size w8 Wx) => cpl_check HC'.out (HCUT Wx hx))
      have TX := Lib.hid (fun (Wx : World) (hx : Below w8.heap.size w8 Wx) => cpl_text HC'.out hlt (HCUT Wx hx) (TB.out _ (hW8.trans (hx.mono hW8.size))) (OB.out _ (hW8.trans (hx.mono hW8.size))))
      have TY := Lib.hid (fun (Wx : World) (hx : Below w8.heap.size w8 Wx) => cpl_text HC'.out hlt (HP'.out.kp (F' := fun b => b < w5.heap.size) (Kp.of_below (box_belowD (box_step hz8 hx))) (fun _ _ h => h)) (TB.out _ (hW8.trans (hx.mono hW8.size))) (OB.out _ (hW8.trans (hx.mono hW8.size))))
      rw [hT] at TX TY
      have hne0 : bs T ≠ ⟨#[]⟩ := fun e => hTne (by have := congrArg (fun x => x.data.toList) e; simpa [bs] using this)
      have hne1 : (bs T == ⟨#[]⟩) = false := by
        cases hq : (bs T == ⟨#[]⟩) with
        | false => rfl
        | true => exact absurd ((MapKept.bytes_beq _ _).1 hq) hne0
      have hne : (bs T).toList.isEmpty = false := by
        rw [Lib.toList_data, show (bs T).data.toList = T from by simp [bs]]
        cases T with
        | nil => exact absurd rfl hTne
        | cons _ _ => rfl
      have heq : (bs T == bs T) = true := (MapKept.bytes_beq _ _).2 rfl
      obtain ⟨S, hSe⟩ : ∃ S, S = fun Wx => Below w8.heap.size w8 Wx := ⟨_, rfl⟩
      have bn := fun (p : Pt S) => (congrFun hSe p.val).mp p.property
      have a0 := fun (p : Pt S) => box_cellL (box_step hx8 (bn p)) 0 rfl
      have a1 := fun (p : Pt S) => box_cellL (box_step hx8 (bn p)) 1 rfl
      have a2 := fun (p : Pt S) => box_cellL (box_step hx8 (bn p)) 2 rfl
      have b0 := fun (p : Pt S) => box_cellL (box_step hz8 (bn p)) 0 rfl
      have b1 := fun (p : Pt S) => box_cellL (box_step hz8 (bn p)) 1 rfl
      have b2 := fun (p : Pt S) => box_cellL (box_step hz8 (bn p)) 2 rfl
      have NE : Nonempty (Pt S) := ⟨⟨w8, (congrFun hSe w8).mpr (Below.refl _ _)⟩⟩
      have HDD := Lib.hid ((congrFun hSe w8.drew).mpr (Below.refl _ _).drew)
      have SE := Lib.hid hSe
      have KPP := Lib.hid bn
      have HW8 := Lib.hid hW8
      clear hw8 hx8 hz8 hy8 hW8 HCUT hT hTne hne0 hlt bn hSe y0 y1 y2 z0 z1 z2 v0 v1 v2 u0 u1 u2 nx nX hs1 hs2 hs3 l1 l2 l3 l4
      go_wp2_with fail
      refine wp_region_class (S := S) HDD.out (by kernel_rfl) (by kernel_rfl) ?_
      repeat (go_big_quiet_step ((first
        | (go_at_call 17; with_reducible refine (CC.out _ (KPP.out _)).mono ?_; rintro e w' ⟨rfl, hbel⟩; exact ⟨rfl, ⟨w', (congrFun SE.out w').mpr ((KPP.out _).trans (hbel.mono (KPP.out _).size))⟩, rfl⟩)
        | (go_at_call 9; with_reducible refine (TX.out _ (KPP.out _)).mono ?_; rintro e w' ⟨rfl, hbel⟩; exact ⟨rfl, ⟨w', (congrFun SE.out w').mpr ((KPP.out _).trans (hbel.mono (KPP.out _).size))⟩, rfl⟩)
        | (go_at_call 9; with_reducible refine (TY.out _ (KPP.out _)).mono ?_; rintro e w' ⟨rfl, hbel⟩; exact ⟨rfl, ⟨w', (congrFun SE.out w').mpr ((KPP.out _).trans (hbel.mono (KPP.out _).size))⟩, rfl⟩))))
      refine wpQuiet_nil ?_
      rintro wq ⟨⟨_, hW⟩, rfl⟩
      have HF := Lib.hid ((congrFun SE.out wq).mp hW)
      clear a0 a1 a2 b0 b1 b2 NE hW
      go_wp2
      go_ret
      exact ⟨rfl, HW8.out.trans (HF.out.mono HW8.out.size)⟩
  · have HB1 := Lib.hid hb1
    clear hb1 MW
    go_wp2_with fail
    go_ret
    exact ⟨rfl, HB1.out.alloc HB1.out.size _⟩
end Go.Proofs.YtonkbjdeaneicaaDoor
