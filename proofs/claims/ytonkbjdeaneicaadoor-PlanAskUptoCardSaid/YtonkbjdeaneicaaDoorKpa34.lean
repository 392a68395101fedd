/- The text of a plan, in plain words: what it tells can be read back. The reference's texts of numbers, slots, operators; a list's next part. The reference's text of a shape. -/
import Derived.Test.YtonkbjdeaneicaaDoorKpa33
namespace Go.Proofs.YtonkbjdeaneicaaDoor
open Go Go.RowKit Pln Classical

def isDig (c : UInt8) : Prop := 48 ≤ c.toNat ∧ c.toNat ≤ 57
def Stop (r : List UInt8) : Prop := ∀ c q, r = c :: q → ¬ isDig c
theorem dig_of (k : Nat) (h : k < 10) : (UInt8.ofNat (48 + k)).toNat = 48 + k := by
  rw [UInt8.toNat_ofNat']
  omega
theorem dec_digs : ∀ (f u : Nat), u ≤ f → ∀ c ∈ Lib.decDigits u, isDig c
  | 0, u, h => by
    obtain rfl : u = 0 := by omega
    rw [dec_small (by omega)]
    intro c hc
    rw [List.mem_singleton.1 hc]
    unfold isDig
    rw [dig_of _ (by omega)]
    omega
  | f + 1, u, h => by
    have key : isDig (UInt8.ofNat (48 + u % 10)) := by
      unfold isDig
      rw [dig_of _ (by omega)]
      omega
    by_cases h0 : u / 10 = 0
    · rw [dec_small h0]
      intro c hc
      rw [List.mem_singleton.1 hc]
      exact key
    · rw [dec_big h0]
      intro c hc
      rcases List.mem_append.1 hc with hc | hc
      · exact dec_digs f (u / 10) (by omega) c hc
      · rw [List.mem_singleton.1 hc]
        exact key
theorem dec_inj : ∀ (f a b : Nat), a ≤ f → Lib.decDigits a = Lib.decDigits b → a = b
  | 0, a, b, h, e => by
    obtain rfl : a = 0 := by omega
    rw [dec_small (by omega)] at e
    by_cases h0 : b / 10 = 0
    · rw [dec_small h0] at e
      have := congrArg (fun l => l.map UInt8.toNat) e
      simp only [List.map_cons, List.map_nil, List.cons.injEq, and_true] at this
      rw [dig_of _ (by omega), dig_of _ (by omega)] at this
      omega
    · rw [dec_big h0] at e
      have h2 := dec_ne (b / 10)
      have := congrArg List.length e
      simp only [List.length_append, List.length_cons, List.length_nil] at this
      omega
  | f + 1, a, b, h, e => by
    by_cases ha : a / 10 = 0
    · rw [dec_small ha] at e
      by_cases h0 : b / 10 = 0
      · rw [dec_small h0] at e
        have := congrArg (fun l => l.map UInt8.toNat) e
        simp only [List.map_cons, List.map_nil, List.cons.injEq, and_true] at this
        rw [dig_of _ (by omega), dig_of _ (by omega)] at this
        omega
      · rw [dec_big h0] at e
        have h2 := dec_ne (b / 10)
        have := congrArg List.length e
        simp only [List.length_append, List.length_cons, List.length_nil] at this
        omega
    · rw [dec_big ha] at e
      by_cases h0 : b / 10 = 0
      · rw [dec_small h0] at e
        have h2 := dec_ne (a / 10)
        have := congrArg List.length e
        simp only [List.length_append, List.length_cons, List.length_nil] at this
        omega
      · rw [dec_big h0] at e
        obtain ⟨e1, e2⟩ := List.append_inj' e rfl
        have := dec_inj f (a / 10) (b / 10) (by omega) e1
        have h3 := congrArg (fun l => l.map UInt8.toNat) e2
        simp only [List.map_cons, List.map_nil, List.cons.injEq, and_true] at h3
        rw [dig_of _ (by omega), dig_of _ (by omega)] at h3
        omega
theorem digs_app : ∀ {d d' r r' : List UInt8}, (∀ c ∈ d, isDig c) → (∀ c ∈ d', isDig c) → Stop r → Stop r' → d ++ r = d' ++ r' → d = d' ∧ r = r'
  | [], [], _, _, _, _, _, _, e => ⟨rfl, e⟩
  | [], c :: d', r, r', _, h', hr, _, e => absurd (h' c (List.mem_cons_self ..)) (hr c (d' ++ r') e)
  | c :: d, [], r, r', h, _, _, hr, e => absurd (h c (List.mem_cons_self ..)) (hr c (d ++ r) e.symm)
  | c :: d, c' :: d', r, r', h, h', hr, hr', e => by
    simp only [List.cons_append, List.cons.injEq] at e
    obtain ⟨e1, e2⟩ := digs_app (fun x hx => h x (List.mem_cons_of_mem _ hx)) (fun x hx => h' x (List.mem_cons_of_mem _ hx)) hr hr' e.2
    exact ⟨by rw [e.1, e1], e2⟩
theorem dec_ne_nil (u : Nat) : Lib.decDigits u ≠ [] := fun h => by have := dec_ne u; rw [h] at this; simp at this
theorem num_neg {n : Int} (h : n < 0) : num n = 45 :: Lib.decDigits n.natAbs := by unfold num Lib.itoa; rw [if_pos h]
theorem num_pos {n : Int} (h : ¬ n < 0) : num n = Lib.decDigits n.toNat := by unfold num Lib.itoa; rw [if_neg h]
theorem dec_head (u : Nat) : ∃ c q, Lib.decDigits u = c :: q ∧ isDig c := by
  cases hd : Lib.decDigits u with
  | nil => exact absurd hd (dec_ne_nil u)
  | cons c q => exact ⟨c, q, rfl, dec_digs u u (Nat.le_refl _) c (by rw [hd]; exact List.mem_cons_self ..)⟩
/-- A number is read back, where no digit stands behind it. -/
theorem num_app {a b : Int} {r r' : List UInt8} (hr : Stop r) (hr' : Stop r') (e : num a ++ r = num b ++ r') : a = b ∧ r = r' := by
  by_cases ha : a < 0
  · rw [num_neg ha] at e
    by_cases hb : b < 0
    · rw [num_neg hb] at e
      simp only [List.cons_append, List.cons.injEq, true_and] at e
      obtain ⟨e1, e2⟩ := digs_app (dec_digs _ _ (Nat.le_refl _)) (dec_digs _ _ (Nat.le_refl _)) hr hr' e
      have := dec_inj _ _ _ (Nat.le_refl _) e1
      exact ⟨by omega, e2⟩
    · rw [num_pos hb] at e
      obtain ⟨c, q, hc, hd⟩ := dec_head b.toNat
      rw [hc] at e
      simp only [List.cons_append, List.cons.injEq] at e
      rw [← e.1] at hd
      exact absurd hd (by unfold isDig; decide)
  · rw [num_pos ha] at e
    by_cases hb : b < 0
    · rw [num_neg hb] at e
      obtain ⟨c, q, hc, hd⟩ := dec_head a.toNat
      rw [hc] at e
      simp only [List.cons_append, List.cons.injEq] at e
      rw [e.1] at hd
      exact absurd hd (by unfold isDig; decide)
    · rw [num_pos hb] at e
      obtain ⟨e1, e2⟩ := digs_app (dec_digs _ _ (Nat.le_refl _)) (dec_digs _ _ (Nat.le_refl _)) hr hr' e
      have := dec_inj _ _ _ (Nat.le_refl _) e1
      exact ⟨by omega, e2⟩
theorem stop_cons {c : UInt8} {q : List UInt8} (h : ¬ isDig c) : Stop (c :: q) := by
  intro c' q' e
  simp only [List.cons.injEq] at e
  rw [← e.1]; exact h
theorem stop_nil : Stop [] := by intro c q e; cases e
/-- A number's first byte. -/
theorem num_head (n : Int) : ∃ c q, num n = c :: q ∧ (c = 45 ∨ isDig c) := by
  by_cases h : n < 0
  · exact ⟨45, _, num_neg h, .inl rfl⟩
  · obtain ⟨c, q, e, hd⟩ := dec_head n.toNat
    exact ⟨c, q, by rw [num_pos h, e], .inr hd⟩

/-- A part of a list: read back where no digit stands behind it; its first byte is no bracket and no blank. -/
structure Part {α : Type} (f : Nat → α → List UInt8) : Prop where
  back : ∀ i x y r r', Stop r → Stop r' → f i x ++ r = f i y ++ r' → x = y ∧ r = r'
  head : ∀ i x, ∃ c q, f i x = c :: q ∧ c ≠ 41 ∧ c ≠ 32
theorem isDig_ne {c : UInt8} (h : c = 45 ∨ isDig c) : c ≠ 41 ∧ c ≠ 32 ∧ c ≠ 44 := by
  rcases h with rfl | h
  · decide
  · refine ⟨?_, ?_, ?_⟩ <;> rintro rfl <;> revert h <;> unfold isDig <;> decide
theorem part_num : Part (fun _ c => num c) where
  back i x y r r' h h' e := num_app h h' e
  head i x := by
    obtain ⟨c, q, e, h⟩ := num_head x
    exact ⟨c, q, e, (isDig_ne h).1, (isDig_ne h).2.1⟩
theorem part_link : Part (fun _ (l : Int × Int) => linkT l) where
  back i x y r r' h h' e := by
    obtain ⟨x1, x2⟩ := x
    obtain ⟨y1, y2⟩ := y
    simp only [linkT, List.append_assoc] at e
    obtain ⟨e1, e2⟩ := num_app (stop_cons (by unfold isDig; decide)) (stop_cons (by unfold isDig; decide)) e
    have e2 : num x2 ++ r = num y2 ++ r' := by simpa using e2
    obtain ⟨e3, e4⟩ := num_app h h' e2
    exact ⟨by rw [e1, e3], e4⟩
  head i x := by
    obtain ⟨c, q, e, h⟩ := num_head x.1
    exact ⟨c, _, by unfold linkT; rw [e]; rfl, (isDig_ne h).1, (isDig_ne h).2.1⟩
theorem cell_cases (i : Nat) (c : Int) : (0 ≤ c ∧ cellT i c = 35 :: num c) ∨ (c = -1 - (i : Int) ∧ cellT i c = [42]) ∨ (c < 0 ∧ c ≠ -1 - (i : Int) ∧ cellT i c = 61 :: num (-1 - c)) := by
  unfold cellT
  by_cases h : 0 ≤ c
  · rw [if_pos h]; exact .inl ⟨h, rfl⟩
  · rw [if_neg h]
    by_cases h2 : c = -1 - (i : Int)
    · rw [if_pos h2]; exact .inr (.inl ⟨h2, rfl⟩)
    · rw [if_neg h2]; exact .inr (.inr ⟨by omega, h2, rfl⟩)
theorem part_cell : Part cellT where
  back i x y r r' h h' e := by
    rcases cell_cases i x with ⟨hx, ex⟩ | ⟨hx, ex⟩ | ⟨hx, hx2, ex⟩ <;> rcases cell_cases i y with ⟨hy, ey⟩ | ⟨hy, ey⟩ | ⟨hy, hy2, ey⟩ <;> rw [ex, ey] at e <;> simp only [List.cons_append, List.nil_append, List.cons.injEq] at e
    · obtain ⟨e1, e2⟩ := num_app h h' e.2
      exact ⟨e1, e2⟩
    · exact absurd e.1 (by decide)
    · exact absurd e.1 (by decide)
    · exact absurd e.1 (by decide)
    · exact ⟨by omega, e.2⟩
    · exact absurd e.1 (by decide)
    · exact absurd e.1 (by decide)
    · exact absurd e.1 (by decide)
    · obtain ⟨e1, e2⟩ := num_app h h' e.2
      exact ⟨by omega, e2⟩
  head i x := by
    rcases cell_cases i x with ⟨hx, ex⟩ | ⟨hx, ex⟩ | ⟨hx, hx2, ex⟩
    · exact ⟨_, _, ex, by decide, by decide⟩
    · exact ⟨_, _, ex, by decide, by decide⟩
    · exact ⟨_, _, ex, by decide, by decide⟩

/-- The parts from place i on. -/
def partsF {α : Type} (f : Nat → α → List UInt8) : Nat → List α → List (List UInt8)
  | _, [] => []
  | i, x :: r => f i x :: partsF f (i + 1) r
/-- The part at place j of a list. -/
def partAt {α : Type} (f : Nat → α → List UInt8) (xs : List α) (j : Nat) : List UInt8 := match xs[j]? with | some c => f j c | none => []
theorem partAt_some {α : Type} {f : Nat → α → List UInt8} {xs : List α} {j : Nat} {x : α} (h : xs[j]? = some x) : partAt f xs j = f j x := by
  unfold partAt; rw [h]
theorem range_parts {α : Type} (f : Nat → α → List UInt8) (xs : List α) : ∀ (ys : List α) (i : Nat), (∀ j, xs[i + j]? = ys[j]?) → (List.range' i ys.length).map (partAt f xs) = partsF f i ys
  | [], i, _ => rfl
  | y :: r, i, h => by
    rw [List.length_cons, List.range'_succ, List.map_cons]
    have h0 := h 0
    rw [Nat.add_zero, List.getElem?_cons_zero] at h0
    rw [partAt_some h0]
    simp only [partsF]
    congr 1
    refine range_parts f xs r (i + 1) (fun j => ?_)
    have := h (j + 1)
    rw [List.getElem?_cons_succ, show i + (j + 1) = i + 1 + j by omega] at this
    exact this
theorem parts_all {α : Type} (f : Nat → α → List UInt8) (xs : List α) : (List.range xs.length).map (partAt f xs) = partsF f 0 xs := by
  rw [List.range_eq_range']
  exact range_parts f xs xs 0 (fun j => by rw [Nat.zero_add])
theorem cell_parts (xs : List Int) : cellPs xs xs.length = partsF cellT 0 xs := by
  rw [← parts_all]
  unfold cellPs
  refine List.map_congr_left (fun j hj => ?_)
  rw [List.getElem?_eq_getElem (List.mem_range.1 hj), partAt_some (List.getElem?_eq_getElem (List.mem_range.1 hj))]
theorem link_parts (xs : List (Int × Int)) : linkPs xs xs.length = partsF (fun _ l => linkT l) 0 xs := by
  rw [← parts_all]
  unfold linkPs
  refine List.map_congr_left (fun j hj => ?_)
  rw [List.getElem?_eq_getElem (List.mem_range.1 hj), partAt_some (List.getElem?_eq_getElem (List.mem_range.1 hj))]
theorem place_parts (xs : List Int) : placePs xs xs.length = partsF (fun _ c => num c) 0 xs := by
  rw [← parts_all]
  unfold placePs
  refine List.map_congr_left (fun j hj => ?_)
  rw [List.getElem?_eq_getElem (List.mem_range.1 hj), partAt_some (List.getElem?_eq_getElem (List.mem_range.1 hj))]
theorem tail_stop {r : List UInt8} {ps : List (List UInt8)} (hr : ∃ c q, r = c :: q ∧ (c = 41 ∨ c = 32)) : Stop (Lib.joinTail sepT ps ++ r) := by
  cases ps with
  | nil =>
    obtain ⟨c, q, rfl, hc⟩ := hr
    refine stop_cons ?_
    rcases hc with rfl | rfl <;> unfold isDig <;> decide
  | cons p ps =>
    simp only [Lib.joinTail, List.map_cons, List.flatten_cons, sepT, List.cons_append]
    exact stop_cons (by unfold isDig; decide)
/-- What stands behind a list: a bracket or a blank. -/
def Ends (r : List UInt8) : Prop := ∃ c q, r = c :: q ∧ (c = 41 ∨ c = 32)
theorem tail_app {α : Type} {f : Nat → α → List UInt8} (hf : Part f) : ∀ (xs ys : List α) (i : Nat) {r r' : List UInt8}, Ends r → Ends r' → Lib.joinTail sepT (partsF f i xs) ++ r = Lib.joinTail sepT (partsF f i ys) ++ r' → xs = ys ∧ r = r'
  | [], [], _, _, _, _, _, e => ⟨rfl, e⟩
  | [], y :: ys, i, r, r', hr, _, e => by
    obtain ⟨c, q, rfl, hc⟩ := hr
    simp only [partsF, Lib.joinTail, List.map_nil, List.flatten_nil, List.nil_append, List.map_cons, List.flatten_cons, sepT, List.cons_append, List.cons.injEq] at e
    rcases hc with rfl | rfl
    · exact absurd e.1 (by decide)
    · exact absurd e.1 (by decide)
  | x :: xs, [], i, r, r', _, hr', e => by
    obtain ⟨c, q, rfl, hc⟩ := hr'
    simp only [partsF, Lib.joinTail, List.map_nil, List.flatten_nil, List.nil_append, List.map_cons, List.flatten_cons, sepT, List.cons_append, List.cons.injEq] at e
    rcases hc with rfl | rfl
    · exact absurd e.1 (by decide)
    · exact absurd e.1 (by decide)
  | x :: xs, y :: ys, i, r, r', hr, hr', e => by
    have e2 : f i x ++ (Lib.joinTail sepT (partsF f (i + 1) xs) ++ r) = f i y ++ (Lib.joinTail sepT (partsF f (i + 1) ys) ++ r') := by
      simpa only [partsF, Lib.joinTail, List.map_cons, List.flatten_cons, List.append_assoc, List.append_cancel_left_eq] using e
    obtain ⟨e3, e4⟩ := hf.back _ _ _ _ _ (tail_stop hr) (tail_stop hr') e2
    obtain ⟨e5, e6⟩ := tail_app hf xs ys (i + 1) hr hr' e4
    exact ⟨by rw [e3, e5], e6⟩
/-- A list is read back. -/
theorem join_app {α : Type} {f : Nat → α → List UInt8} (hf : Part f) {xs ys : List α} {i : Nat} {r r' : List UInt8} (hr : Ends r) (hr' : Ends r') (e : Lib.join (partsF f i xs) sepT ++ r = Lib.join (partsF f i ys) sepT ++ r') : xs = ys ∧ r = r' := by
  cases xs with
  | nil =>
    cases ys with
    | nil => exact ⟨rfl, e⟩
    | cons y ys =>
      exfalso
      obtain ⟨c, q, rfl, hc⟩ := hr
      obtain ⟨d, p, hd, h1, h2⟩ := hf.head i y
      rw [show partsF f i (y :: ys) = f i y :: partsF f (i + 1) ys from rfl, Lib.join_cons, hd] at e
      simp only [partsF, Lib.join_nil, List.nil_append, List.cons_append, List.cons.injEq] at e
      rcases hc with rfl | rfl
      · exact h1 e.1.symm
      · exact h2 e.1.symm
  | cons x xs =>
    cases ys with
    | nil =>
      exfalso
      obtain ⟨c, q, rfl, hc⟩ := hr'
      obtain ⟨d, p, hd, h1, h2⟩ := hf.head i x
      rw [show partsF f i (x :: xs) = f i x :: partsF f (i + 1) xs from rfl, Lib.join_cons, hd] at e
      simp only [partsF, Lib.join_nil, List.nil_append, List.cons_append, List.cons.injEq] at e
      rcases hc with rfl | rfl
      · exact h1 e.1
      · exact h2 e.1
    | cons y ys =>
      rw [show partsF f i (y :: ys) = f i y :: partsF f (i + 1) ys from rfl, show partsF f i (x :: xs) = f i x :: partsF f (i + 1) xs from rfl, Lib.join_cons, Lib.join_cons, List.append_assoc, List.append_assoc] at e
      obtain ⟨e3, e4⟩ := hf.back _ _ _ _ _ (tail_stop hr) (tail_stop hr') e
      obtain ⟨e5, e6⟩ := tail_app hf xs ys (i + 1) hr hr' e4
      exact ⟨by rw [e3, e5], e6⟩
theorem alphaL_back {i : Nat} {s t : Shp} {r r' : List UInt8} (e : alphaL i s ++ r = alphaL i t ++ r') : s = t ∧ r = r' := by
  simp only [alphaL, List.append_assoc, List.append_cancel_left_eq, List.cons_append, List.nil_append, List.cons.injEq, true_and] at e
  obtain ⟨e1, e2⟩ := num_app (stop_cons (by unfold isDig; decide)) (stop_cons (by unfold isDig; decide)) e
  simp only [List.cons.injEq, true_and] at e2
  rw [cell_parts, cell_parts] at e2
  obtain ⟨e3, e4⟩ := join_app part_cell ⟨_, _, rfl, .inl rfl⟩ ⟨_, _, rfl, .inl rfl⟩ e2
  simp only [List.cons.injEq, true_and] at e4
  obtain ⟨p, c⟩ := s
  obtain ⟨p', c'⟩ := t
  simp only at e1 e3
  exact ⟨by rw [e1, e3], e4⟩
theorem ruleL_back {i : Nat} {s t : Int} {r r' : List UInt8} (e : ruleL i s ++ r = ruleL i t ++ r') : s = t ∧ r = r' := by
  simp only [ruleL, List.append_assoc, List.append_cancel_left_eq, List.cons_append, List.nil_append, List.cons.injEq, true_and] at e
  obtain ⟨e1, e2⟩ := num_app (stop_cons (by unfold isDig; decide)) (stop_cons (by unfold isDig; decide)) e
  simp only [List.cons.injEq, true_and] at e2
  exact ⟨e1, e2⟩
/-- A node of a plan that is right: what its kind leaves open is not there. -/
def NdN (n : Nd) : Prop := (n.kind = 0 ∧ n = rootN) ∨ (n.kind = 1 ∧ n.test = noTst) ∨ (n.kind = 3 ∧ n.test = noTst) ∨ (n.kind = 2 ∧ n.alpha = -1 ∧ n.links = [] ∧ n.new = [] ∧ 1 ≤ n.test.op ∧ n.test.op ≤ 6)
theorem slotT_back {s t : Slt} {r r' : List UInt8} (hr : Stop r) (hr' : Stop r') (e : slotT s ++ r = slotT t ++ r') : s = t ∧ r = r' := by
  obtain ⟨v, n⟩ := s
  obtain ⟨v', n'⟩ := t
  unfold slotT at e
  cases v <;> cases v' <;> simp only [if_true, Bool.false_eq_true, if_false, List.cons_append, List.cons.injEq] at e
  · obtain ⟨e1, e2⟩ := num_app hr hr' e.2
    exact ⟨by rw [e1], e2⟩
  · exact absurd e.1 (by decide)
  · exact absurd e.1 (by decide)
  · obtain ⟨e1, e2⟩ := num_app hr hr' e.2
    exact ⟨by rw [e1], e2⟩
theorem opT_back {a b : Int} (ha : 1 ≤ a ∧ a ≤ 6) (hb : 1 ≤ b ∧ b ≤ 6) {r r' : List UInt8} (e : opT a ++ (32 :: r) = opT b ++ (32 :: r')) : a = b ∧ r = r' := by
  have h1 : a = 1 ∨ a = 2 ∨ a = 3 ∨ a = 4 ∨ a = 5 ∨ a = 6 := by omega
  have h2 : b = 1 ∨ b = 2 ∨ b = 3 ∨ b = 4 ∨ b = 5 ∨ b = 6 := by omega
  rcases h1 with rfl | rfl | rfl | rfl | rfl | rfl <;> rcases h2 with rfl | rfl | rfl | rfl | rfl | rfl <;> simp [opT] at e <;> exact ⟨rfl, e⟩
theorem links_first (n : Nd) (q : List UInt8) : ∃ p, linksT n ++ (newT n ++ (widthT n ++ q)) = 32 :: p := by
  unfold linksT newT widthT
  by_cases h : n.links = [] <;> by_cases h2 : n.new = [] <;> simp [h, h2]
/-- Links, new ones, width: read back. -/
theorem rest_back {n m : Nd} {q q' : List UInt8} (e : linksT n ++ (newT n ++ (widthT n ++ 10 :: q)) = linksT m ++ (newT m ++ (widthT m ++ 10 :: q'))) : n.links = m.links ∧ n.new = m.new ∧ n.width = m.width ∧ q = q' := by
  have hw : ∀ {q q' : List UInt8}, widthT n ++ 10 :: q = widthT m ++ 10 :: q' → n.width = m.width ∧ q = q' := by
    intro q q' e
    simp only [widthT, List.append_assoc, List.cons_append, List.nil_append, List.cons.injEq, true_and] at e
    obtain ⟨e1, e2⟩ := num_app (stop_cons (by unfold isDig; decide)) (stop_cons (by unfold isDig; decide)) e
    simp only [List.cons.injEq, true_and] at e2
    exact ⟨e1, e2⟩
  have hn : newT n ++ (widthT n ++ 10 :: q) = newT m ++ (widthT m ++ 10 :: q') → n.new = m.new ∧ n.width = m.width ∧ q = q' := by
    intro e
    by_cases h1 : n.new = [] <;> by_cases h2 : m.new = []
    · simp only [newT, if_pos h1, if_pos h2, List.nil_append] at e
      obtain ⟨e1, e2⟩ := hw e
      exact ⟨h1.trans h2.symm, e1, e2⟩
    · simp only [newT, if_pos h1, if_neg h2, List.nil_append, widthT, List.append_assoc, List.cons_append, List.cons.injEq] at e
      exact absurd e.2.1 (by decide)
    · simp only [newT, if_neg h1, if_pos h2, List.nil_append, widthT, List.append_assoc, List.cons_append, List.cons.injEq] at e
      exact absurd e.2.1 (by decide)
    · simp only [newT, if_neg h1, if_neg h2, List.append_assoc, List.append_cancel_left_eq] at e
      rw [place_parts, place_parts] at e
      obtain ⟨e3, e4⟩ := join_app part_num (by unfold widthT; exact ⟨_, _, rfl, .inr rfl⟩) (by unfold widthT; exact ⟨_, _, rfl, .inr rfl⟩) e
      obtain ⟨e1, e2⟩ := hw e4
      exact ⟨e3, e1, e2⟩
  have he : ∀ (k : Nd) (q : List UInt8), Ends (newT k ++ (widthT k ++ 10 :: q)) := by
    intro k q
    unfold newT widthT
    by_cases h2 : k.new = []
    · rw [if_pos h2]; exact ⟨_, _, rfl, .inr rfl⟩
    · rw [if_neg h2]; exact ⟨_, _, rfl, .inr rfl⟩
  have h5 : ∀ (k : Nd) (q : List UInt8), ∃ c p, newT k ++ (widthT k ++ 10 :: q) = 32 :: c :: p ∧ c ≠ 108 := by
    intro k q
    unfold newT widthT
    by_cases h2 : k.new = []
    · rw [if_pos h2]; exact ⟨_, _, rfl, by decide⟩
    · rw [if_neg h2]; exact ⟨_, _, rfl, by decide⟩
  by_cases h1 : n.links = [] <;> by_cases h2 : m.links = []
  · simp only [linksT, if_pos h1, if_pos h2, List.nil_append] at e
    exact ⟨h1.trans h2.symm, hn e⟩
  · obtain ⟨c, p, e1, e2⟩ := h5 n q
    simp only [linksT, if_pos h1, if_neg h2, List.nil_append, e1, List.append_assoc, List.cons_append, List.cons.injEq] at e
    exact absurd e.2.1 e2
  · obtain ⟨c, p, e1, e2⟩ := h5 m q'
    simp only [linksT, if_neg h1, if_pos h2, List.nil_append, e1, List.append_assoc, List.cons_append, List.cons.injEq] at e
    exact absurd e.2.1.symm e2
  · simp only [linksT, if_neg h1, if_neg h2, List.append_assoc, List.append_cancel_left_eq] at e
    rw [link_parts, link_parts] at e
    obtain ⟨e3, e4⟩ := join_app part_link (he n q) (he m q') e
    exact ⟨e3, hn e4⟩
theorem under_back {n m : Nd} {q q' : List UInt8} (hq : Stop q) (hq' : Stop q') (e : underT n ++ q = underT m ++ q') : n.parent = m.parent ∧ q = q' := by
  simp only [underT, List.append_assoc, List.append_cancel_left_eq] at e
  exact num_app hq hq' e
theorem rest_stop (n : Nd) (q : List UInt8) : Stop (linksT n ++ (newT n ++ (widthT n ++ q))) := by
  obtain ⟨p, e⟩ := links_first n q
  rw [e]
  exact stop_cons (by unfold isDig; decide)
theorem under_first (n : Nd) (q : List UInt8) : Stop (underT n ++ q) := by
  unfold underT
  exact stop_cons (by unfold isDig; decide)
/-- The kinds' first bytes. -/
theorem node_line {n : Nd} (h : NdN n) (q : List UInt8) : ∃ c p, nodeT n ++ 10 :: q = c :: p ∧ c = (if n.kind = 0 then 114 else if n.kind = 1 then 106 else if n.kind = 3 then 110 else 116) := by
  unfold nodeT headT testT
  by_cases h0 : n.kind = 0
  · simp [h0]
  · by_cases h1 : n.kind = 1
    · simp [h1]
    · by_cases h3 : n.kind = 3
      · simp [h3]
      · simp [h0, h1, h3]
theorem nodeT_back {n m : Nd} (hn : NdN n) (hm : NdN m) {q q' : List UInt8} (e : nodeT n ++ 10 :: q = nodeT m ++ 10 :: q') : n = m ∧ q = q' := by
  have hk : n.kind = m.kind := by
    obtain ⟨c, p, e1, h1⟩ := node_line hn q
    obtain ⟨d, p', e2, h2⟩ := node_line hm q'
    rw [e1, e2] at e
    simp only [List.cons.injEq] at e
    rw [h1, h2] at e
    have e := e.1
    rcases hn with ⟨a, _⟩ | ⟨a, _⟩ | ⟨a, _⟩ | ⟨a, _⟩ <;> rcases hm with ⟨b, _⟩ | ⟨b, _⟩ | ⟨b, _⟩ | ⟨b, _⟩ <;> rw [a, b] at e ⊢ <;> first | rfl | (exact absurd e (by decide))
  rcases hn with ⟨a, a1⟩ | ⟨a, a1⟩ | ⟨a, a1⟩ | ⟨a, a1, a2, a3, a4, a5⟩ <;> rcases hm with ⟨b, b1⟩ | ⟨b, b1⟩ | ⟨b, b1⟩ | ⟨b, b1, b2, b3, b4, b5⟩ <;> first | (exact absurd (a.symm.trans (hk.trans b)) (by decide)) | skip
  · subst a1 b1
    have h0 : nodeT rootN = [114, 111, 111, 116] := rfl
    rw [h0] at e
    exact ⟨rfl, by simpa using e⟩
  · have ha : headT n = [106, 111, 105, 110, 32] ++ num n.alpha ++ underT n := by unfold headT; rw [if_pos a]
    have hb : headT m = [106, 111, 105, 110, 32] ++ num m.alpha ++ underT m := by unfold headT; rw [if_pos b]
    rw [nodeT, nodeT, if_neg (by rw [a]; decide), if_neg (by rw [b]; decide), ha, hb] at e
    simp only [List.append_assoc, List.append_cancel_left_eq] at e
    obtain ⟨e1, e2⟩ := num_app (under_first _ _) (under_first _ _) e
    obtain ⟨e3, e4⟩ := under_back (rest_stop _ _) (rest_stop _ _) e2
    obtain ⟨e5, e6, e7, e8⟩ := rest_back e4
    obtain ⟨k, p, al, li, ne, te, wi⟩ := n
    obtain ⟨k', p', al', li', ne', te', wi'⟩ := m
    simp only at hk e1 e3 e5 e6 e7 a1 b1
    exact ⟨by rw [hk, e1, e3, e5, e6, e7, a1, b1], e8⟩
  · have ha : headT n = [110, 101, 103, 32] ++ num n.alpha ++ underT n := by unfold headT; rw [if_neg (by rw [a]; decide), if_pos a]
    have hb : headT m = [110, 101, 103, 32] ++ num m.alpha ++ underT m := by unfold headT; rw [if_neg (by rw [b]; decide), if_pos b]
    rw [nodeT, nodeT, if_neg (by rw [a]; decide), if_neg (by rw [b]; decide), ha, hb] at e
    simp only [List.append_assoc, List.append_cancel_left_eq] at e
    obtain ⟨e1, e2⟩ := num_app (under_first _ _) (under_first _ _) e
    obtain ⟨e3, e4⟩ := under_back (rest_stop _ _) (rest_stop _ _) e2
    obtain ⟨e5, e6, e7, e8⟩ := rest_back e4
    obtain ⟨k, p, al, li, ne, te, wi⟩ := n
    obtain ⟨k', p', al', li', ne', te', wi'⟩ := m
    simp only at hk e1 e3 e5 e6 e7 a1 b1
    exact ⟨by rw [hk, e1, e3, e5, e6, e7, a1, b1], e8⟩
  · have ha : headT n = testT n := by unfold headT; rw [if_neg (by rw [a]; decide), if_neg (by rw [a]; decide)]
    have hb : headT m = testT m := by unfold headT; rw [if_neg (by rw [b]; decide), if_neg (by rw [b]; decide)]
    rw [nodeT, nodeT, if_neg (by rw [a]; decide), if_neg (by rw [b]; decide), ha, hb] at e
    simp only [testT, List.append_assoc, List.append_cancel_left_eq, List.cons_append, List.nil_append, List.cons.injEq, true_and] at e
    obtain ⟨e1, e2⟩ := slotT_back (stop_cons (by unfold isDig; decide)) (stop_cons (by unfold isDig; decide)) e
    simp only [List.cons.injEq, true_and] at e2
    obtain ⟨e9, e2⟩ := opT_back ⟨a4, a5⟩ ⟨b4, b5⟩ e2
    obtain ⟨e10, e2⟩ := slotT_back (under_first _ _) (under_first _ _) e2
    obtain ⟨e3, e4⟩ := under_back (rest_stop _ _) (rest_stop _ _) e2
    obtain ⟨e5, e6, e7, e8⟩ := rest_back e4
    obtain ⟨k, p, al, li, ne, ⟨o, l, r⟩, wi⟩ := n
    obtain ⟨k', p', al', li', ne', ⟨o', l', r'⟩, wi'⟩ := m
    simp only at hk e1 e3 e5 e6 e7 e9 e10 a1 b1
    exact ⟨by rw [hk, e1, e3, e5, e6, e7, e9, e10, a1, b1], e8⟩
theorem nodeL_back {i : Nat} {s t : Nd} (hs : NdN s) (ht : NdN t) {r r' : List UInt8} (e : nodeL i s ++ r = nodeL i t ++ r') : s = t ∧ r = r' := by
  simp only [nodeL, List.append_assoc, List.append_cancel_left_eq, List.cons_append, List.nil_append, List.cons.injEq, true_and] at e
  exact nodeT_back hs ht e
/-- Lines of one kind: they begin with the byte c. -/
theorem lines_back {α : Type} {f : Nat → α → List UInt8} {c : UInt8} {P : α → Prop} (h1 : ∀ i x, ∃ q, f i x = c :: q) (hb : ∀ i x y r r', P x → P y → f i x ++ r = f i y ++ r' → x = y ∧ r = r') : ∀ (xs ys : List α) (i : Nat) {r r' : List UInt8}, (∀ x ∈ xs, P x) → (∀ x ∈ ys, P x) → (∀ q, r ≠ c :: q) → (∀ q, r' ≠ c :: q) → (partsF f i xs).flatten ++ r = (partsF f i ys).flatten ++ r' → xs = ys ∧ r = r'
  | [], [], _, _, _, _, _, _, _, e => ⟨rfl, e⟩
  | [], y :: ys, i, r, r', _, _, hr, _, e => by
    obtain ⟨q, hq⟩ := h1 i y
    simp only [partsF, List.flatten_nil, List.nil_append, List.flatten_cons, hq, List.cons_append] at e
    exact absurd e (hr _)
  | x :: xs, [], i, r, r', _, _, _, hr', e => by
    obtain ⟨q, hq⟩ := h1 i x
    simp only [partsF, List.flatten_nil, List.nil_append, List.flatten_cons, hq, List.cons_append] at e
    exact absurd e.symm (hr' _)
  | x :: xs, y :: ys, i, r, r', hx, hy, hr, hr', e => by
    simp only [partsF, List.flatten_cons, List.append_assoc] at e
    obtain ⟨e1, e2⟩ := hb _ _ _ _ _ (hx x (List.mem_cons_self ..)) (hy y (List.mem_cons_self ..)) e
    obtain ⟨e3, e4⟩ := lines_back h1 hb xs ys (i + 1) (fun z hz => hx z (List.mem_cons_of_mem _ hz)) (fun z hz => hy z (List.mem_cons_of_mem _ hz)) hr hr' e2
    exact ⟨by rw [e1, e3], e4⟩
theorem lines_parts {α : Type} (f : Nat → α → List UInt8) (xs : List α) : linesT f xs xs.length = (partsF f 0 xs).flatten := by
  rw [← parts_all]
  unfold linesT
  rw [List.flatMap_def]
  congr 1
theorem lines_first {α : Type} {f : Nat → α → List UInt8} {c d : UInt8} (hd : d ≠ c) (h1 : ∀ i x, ∃ q, f i x = d :: q) (xs : List α) (i : Nat) {r : List UInt8} (hr : ∀ q, r ≠ c :: q) : ∀ q, (partsF f i xs).flatten ++ r ≠ c :: q := by
  intro q e
  cases xs with
  | nil => exact hr q e
  | cons x xs =>
    obtain ⟨p, hp⟩ := h1 i x
    simp only [partsF, List.flatten_cons, hp, List.cons_append, List.cons.injEq] at e
    exact hd e.1
theorem nodes_nice {al : List Shp} {ns : List Nd} (h : nodesP al ns) : ∀ n ∈ ns, NdN n := by
  intro n hm
  obtain ⟨i, hi⟩ := List.getElem?_of_mem hm
  rcases Nat.eq_zero_or_pos i with rfl | hp
  · have := Option.some.inj (h.1.symm.trans hi)
    rw [← this]
    exact .inl ⟨rfl, rfl⟩
  · obtain ⟨u, up, _, _, _, _, h5, _⟩ := h.2 i hp (List.getElem?_eq_some_iff.1 hi).1 n hi
    rcases h5 with ⟨h, _, _, _, _, _, hp⟩ | ⟨h, _, _, _, _, _, hp⟩ | ⟨h, t⟩
    · exact .inr (.inl ⟨h, hp.1.1⟩)
    · exact .inr (.inr (.inl ⟨h, hp.1.1⟩))
    · exact .inr (.inr (.inr ⟨h, t.2.1, t.2.2.1, t.2.2.2.1, t.2.2.2.2.2.1, t.2.2.2.2.2.2.1⟩))
/-- THE TEXT TELLS ALL OF A PLAN. -/
theorem allT_inj {al al' : List Shp} {ns ns' : List Nd} {es es' : List Int} (h : nodesP al ns) (h' : nodesP al' ns') (e : allT al ns es = allT al' ns' es') : al = al' ∧ ns = ns' ∧ es = es' := by
  have fa : ∀ (i : Nat) (x : Shp), ∃ q, alphaL i x = 97 :: q := fun i x => ⟨_, rfl⟩
  have fn : ∀ (i : Nat) (x : Nd), ∃ q, nodeL i x = 110 :: q := fun i x => ⟨_, rfl⟩
  have fr : ∀ (i : Nat) (x : Int), ∃ q, ruleL i x = 114 :: q := fun i x => ⟨_, rfl⟩
  simp only [allT, lines_parts, List.append_assoc] at e
  have r1 : ∀ (c : UInt8) (es : List Int), (114 : UInt8) ≠ c → ∀ q, (partsF ruleL 0 es).flatten ≠ c :: q := by
    intro c es hc q
    have := lines_first (r := []) hc fr es 0 (by intro q e; cases e) q
    rwa [List.append_nil] at this
  obtain ⟨e1, e2⟩ := lines_back (P := fun _ => True) fa (fun i x y r r' _ _ => alphaL_back) al al' 0 (fun _ _ => trivial) (fun _ _ => trivial) (lines_first (by decide) fn ns 0 (r1 97 es (by decide))) (lines_first (by decide) fn ns' 0 (r1 97 es' (by decide))) e
  obtain ⟨e3, e4⟩ := lines_back (P := NdN) fn (fun i x y r r' hx hy => nodeL_back hx hy) ns ns' 0 (nodes_nice h) (nodes_nice h') (r1 110 es (by decide)) (r1 110 es' (by decide)) e2
  have e5 : (partsF ruleL 0 es).flatten ++ [] = (partsF ruleL 0 es').flatten ++ [] := by rw [e4]
  obtain ⟨e6, _⟩ := lines_back (P := fun _ => True) fr (fun i x y r r' _ _ => ruleL_back) es es' 0 (fun _ _ => trivial) (fun _ _ => trivial) (by intro q e; cases e) (by intro q e; cases e) e5
  exact ⟨e1, e3, e6⟩

/-- How often a line's end stands in a text. -/
theorem dec_ten (u : Nat) : (Lib.decDigits u).count 10 = 0 := by
  rw [List.count_eq_zero]
  intro h
  have := dec_digs u u (Nat.le_refl _) _ h
  revert this
  unfold isDig
  decide
theorem num_ten (n : Int) : (num n).count 10 = 0 := by
  by_cases h : n < 0
  · rw [num_neg h, List.count_cons, dec_ten]; decide
  · rw [num_pos h, dec_ten]
theorem join_ten {α : Type} {f : Nat → α → List UInt8} (hf : ∀ i x, (f i x).count 10 = 0) : ∀ (xs : List α) (i : Nat), (Lib.join (partsF f i xs) sepT).count 10 = 0
  | [], _ => rfl
  | x :: xs, i => by
    have : ∀ (ys : List α) (i : Nat), (Lib.joinTail sepT (partsF f i ys)).count 10 = 0 := by
      intro ys
      induction ys with
      | nil => intro i; rfl
      | cons y ys ih =>
        intro i
        have h := ih (i + 1)
        unfold Lib.joinTail at h ⊢
        simp only [partsF, List.map_cons, List.flatten_cons, List.count_append, hf, h]
        decide
    rw [show partsF f i (x :: xs) = f i x :: partsF f (i + 1) xs from rfl, Lib.join_cons, List.count_append, hf, this]
theorem cell_ten (i : Nat) (c : Int) : (cellT i c).count 10 = 0 := by
  rcases cell_cases i c with ⟨_, e⟩ | ⟨_, e⟩ | ⟨_, _, e⟩
  · rw [e, List.count_cons, num_ten]; decide
  · rw [e]; decide
  · rw [e, List.count_cons, num_ten]; decide
theorem link_ten (l : Int × Int) : (linkT l).count 10 = 0 := by
  simp only [linkT, List.count_append, num_ten]
  decide
theorem slot_ten (s : Slt) : (slotT s).count 10 = 0 := by
  unfold slotT
  split <;> rw [List.count_cons, num_ten] <;> decide
theorem op_ten (a : Int) : (opT a).count 10 = 0 := by
  unfold opT
  repeat' split
  all_goals decide
theorem node_ten (n : Nd) : (nodeT n).count 10 = 0 := by
  have h1 : (underT n).count 10 = 0 := by simp only [underT, List.count_append, num_ten]; decide
  have h2 : (headT n).count 10 = 0 := by
    unfold headT
    split
    · simp only [List.count_append, num_ten, h1]; decide
    · split
      · simp only [List.count_append, num_ten, h1]; decide
      · simp only [testT, List.count_append, slot_ten, op_ten, h1]; decide
  have h3 : (linksT n).count 10 = 0 := by
    unfold linksT
    split
    · rfl
    · rw [link_parts, List.count_append, join_ten (fun _ => link_ten)]; decide
  have h4 : (newT n).count 10 = 0 := by
    unfold newT
    split
    · rfl
    · rw [place_parts, List.count_append, join_ten (fun _ => num_ten)]; decide
  unfold nodeT
  split
  · decide
  · simp only [List.count_append, h2, h3, h4, widthT, num_ten]; decide
theorem lines_ten {α : Type} {f : Nat → α → List UInt8} (hf : ∀ i x, (f i x).count 10 = 1) : ∀ (xs : List α) (i : Nat), (partsF f i xs).flatten.count 10 = xs.length
  | [], _ => rfl
  | x :: xs, i => by
    simp only [partsF, List.flatten_cons, List.count_append, hf, lines_ten hf xs (i + 1), List.length_cons]
    omega
/-- A line for each shape, node and rule. -/
theorem allT_lines (al : List Shp) (ns : List Nd) (es : List Int) : (allT al ns es).count 10 = al.length + ns.length + es.length := by
  have h1 : ∀ (i : Nat) (x : Shp), (alphaL i x).count 10 = 1 := by
    intro i x
    simp only [alphaL, cell_parts, List.count_append, num_ten, join_ten cell_ten]
    decide
  have h2 : ∀ (i : Nat) (x : Nd), (nodeL i x).count 10 = 1 := by
    intro i x
    simp only [nodeL, List.count_append, num_ten, node_ten]
    decide
  have h3 : ∀ (i : Nat) (x : Int), (ruleL i x).count 10 = 1 := by
    intro i x
    simp only [ruleL, List.count_append, num_ten]
    decide
  simp only [allT, lines_parts, List.count_append, lines_ten h1, lines_ten h2, lines_ten h3]
/-- A plan that is right has a text. -/
theorem allT_ne {al : List Shp} {ns : List Nd} {es : List Int} (h : nodesP al ns) : allT al ns es ≠ [] := by
  intro e
  have h1 := allT_lines al ns es
  rw [e] at h1
  have h2 : 0 < ns.length := (List.getElem?_eq_some_iff.1 h.1).1
  simp at h1
  omega
end Go.Proofs.YtonkbjdeaneicaaDoor

namespace Go.Proofs.YtonkbjdeaneicaaDoor
open Go Go.RowKit Pln Classical

theorem toListBs (T : List UInt8) : (bs T).toList = T := by rw [Lib.toList_data]; simp [bs]
theorem rnumW (n : Int) (h : -9223372036854775808 ≤ n ∧ n ≤ 9223372036854775807) (w : World) (ht : Tab w) : Calls Tryd.prog 31 #[.int .i64 n] w fun e w' => e = .returned (.string (bs (num n))) ∧ Below w.heap.size w w' := by
  have CI := Lib.hid (itoaW n h w ht)
  go_enter Tryd.func31, Tryd.ntmps31
  go_wp2_with fail
  refine CI.out.mono ?_
  rintro e w2 ⟨rfl, hb2⟩
  have HB2 := Lib.hid hb2
  clear hb2 CI
  go_wp2
  go_ret
  exact ⟨rfl, HB2.out⟩
set_option maxRecDepth 100000 in
theorem rslotTextW (s : Slt) (h : -9223372036854775808 ≤ s.n ∧ s.n ≤ 9223372036854775807) (w : World) (ht : Tab w) :
    Calls Tryd.prog 57 #[.agg #[.bool s.v, .int .i64 s.n]] w fun e w' => e = .returned (.string (bs (slotT s))) ∧ Below w.heap.size w w' := by
  have hb1 : Below w.heap.size w (w.alloc (.cells #[.bool s.v, .int .i64 s.n] 36)) := (Below.refl _ _).alloc (Nat.le_refl _) _
  have CI := Lib.hid (rnumW s.n h _ (ht.below hb1))
  have HB := Lib.hid hb1
  obtain ⟨R, hR⟩ : ∃ R, slotT s = R := ⟨_, rfl⟩
  rw [hR]
  have HR := Lib.hid hR
  clear ht hb1 hR
  obtain ⟨v, n⟩ := s
  simp only at CI HB h ⊢
  have hl := num_len h
  rw [← bs_size] at hl
  have hl2 : ¬ 9223372036854775807 < 1 + (bs (num n)).size := by omega
  go_enter Tryd.func57, Tryd.ntmps57
  cases v with
  | false =>
    go_wp2_with fail
    refine CI.out.mono ?_
    rintro e w2 ⟨rfl, hb2⟩
    have HB2 := Lib.hid (HB.out.trans (hb2.mono HB.out.size))
    clear hb2 CI
    go_wp2
    go_ret
    refine ⟨?_, HB2.out⟩
    rw [← HR.out]
    exact congrArg (fun x => Ending.returned (.string x)) (bs_app [35] (num n))
  | true =>
    go_wp2_with fail
    refine CI.out.mono ?_
    rintro e w2 ⟨rfl, hb2⟩
    have HB2 := Lib.hid (HB.out.trans (hb2.mono HB.out.size))
    clear hb2 CI
    go_wp2
    go_ret
    refine ⟨?_, HB2.out⟩
    rw [← HR.out]
    exact congrArg (fun x => Ending.returned (.string x)) (bs_app [118] (num n))
theorem ropTextW (op : Int) (w : World) : Calls Tryd.prog 58 #[.int .i64 op] w fun e w' => e = .returned (.string (bs (opT op))) ∧ Below w.heap.size w w' := by
  obtain ⟨R, hR⟩ : ∃ R, opT op = R := ⟨_, rfl⟩
  rw [hR]
  have HR := Lib.hid hR
  clear hR
  go_enter Tryd.func58, Tryd.ntmps58
  by_cases h1 : op = 1
  · subst h1
    go_wp2
    go_ret
    exact ⟨by rw [← HR.out]; rfl, Below.refl _ _⟩
  by_cases h2 : op = 2
  · subst h2
    clear h1
    go_wp2
    go_ret
    exact ⟨by rw [← HR.out]; rfl, Below.refl _ _⟩
  by_cases h3 : op = 3
  · subst h3
    clear h1 h2
    go_wp2
    go_ret
    exact ⟨by rw [← HR.out]; rfl, Below.refl _ _⟩
  by_cases h4 : op = 4
  · subst h4
    clear h1 h2 h3
    go_wp2
    go_ret
    exact ⟨by rw [← HR.out]; rfl, Below.refl _ _⟩
  by_cases h5 : op = 5
  · subst h5
    clear h1 h2 h3 h4
    go_wp2
    go_ret
    exact ⟨by rw [← HR.out]; rfl, Below.refl _ _⟩
  have HF := Lib.hid (show R = [62, 61] by rw [← HR.out]; unfold opT; rw [if_neg h1, if_neg h2, if_neg h3, if_neg h4, if_neg h5])
  have g1 : (op == 1) = false := by simpa using h1
  have g2 : (op == 2) = false := by simpa using h2
  have g3 : (op == 3) = false := by simpa using h3
  have g4 : (op == 4) = false := by simpa using h4
  have g5 : (op == 5) = false := by simpa using h5
  clear h1 h2 h3 h4 h5
  go_wp2
  go_ret
  exact ⟨by rw [HF.out]; rfl, Below.refl _ _⟩
/-- A list's next part behind a comma. -/
def moreT (a b : List UInt8) : List UInt8 := if a = [] then b else a ++ sepT ++ b
theorem moreW (a b : List UInt8) (ha : a.length ≤ 1000000000000) (hb : b.length ≤ 1000000000000) (w : World) : Calls Tryd.prog 56 #[.string (bs a), .string (bs b)] w fun e w' => e = .returned (.string (bs (moreT a b))) ∧ Below w.heap.size w w' := by
  rw [← bs_size] at ha hb
  have s1 : ¬ 9223372036854775807 < (bs a).size + 2 := by omega
  have s2 : ¬ 9223372036854775807 < (bs a).size + 2 + (bs b).size := by omega
  obtain ⟨R, hR⟩ : ∃ R, moreT a b = R := ⟨_, rfl⟩
  rw [hR]
  have HR := Lib.hid hR
  clear hR
  go_enter Tryd.func56, Tryd.ntmps56
  by_cases h : a = []
  · have he : (bs a).toList.isEmpty = true := by rw [toListBs, h]; rfl
    have HF := Lib.hid (show R = b by rw [← HR.out]; unfold moreT; rw [if_pos h])
    clear h
    go_wp2
    go_ret
    exact ⟨by rw [HF.out]; rfl, Below.refl _ _⟩
  · have he : (bs a).toList.isEmpty = false := by
      rw [toListBs]
      cases a with
      | nil => exact absurd rfl h
      | cons _ _ => rfl
    have HF := Lib.hid (show R = a ++ sepT ++ b by rw [← HR.out]; unfold moreT; rw [if_neg h])
    clear h
    go_wp2
    go_ret
    refine ⟨?_, Below.refl _ _⟩
    rw [HF.out, ← bs_app, ← bs_app]
    rfl
theorem joinTail_end (r : List (List UInt8)) (p : List UInt8) : Lib.joinTail sepT (r ++ [p]) = Lib.joinTail sepT r ++ sepT ++ p := by
  unfold Lib.joinTail
  rw [List.map_append, List.flatten_append]
  simp
/-- One part more. -/
theorem join_more {ps : List (List UInt8)} (h : ∀ p ∈ ps, p ≠ []) (p : List UInt8) : Lib.join (ps ++ [p]) sepT = moreT (Lib.join ps sepT) p := by
  cases ps with
  | nil => rw [List.nil_append, Lib.join_one, Lib.join_nil]; rfl
  | cons x r =>
    rw [List.cons_append, Lib.join_cons, Lib.join_cons, joinTail_end]
    have hx := h x (List.mem_cons_self ..)
    have hne : x ++ Lib.joinTail sepT r ≠ [] := fun e => hx (List.append_eq_nil_iff.1 e).1
    unfold moreT
    rw [if_neg hne]
    simp only [List.append_assoc]
theorem join_ne {ps : List (List UInt8)} (h : ∀ p ∈ ps, p ≠ []) : Lib.join ps sepT = [] ↔ ps = [] := by
  cases ps with
  | nil => simp [Lib.join_nil]
  | cons x r =>
    rw [Lib.join_cons]
    constructor
    · intro e
      exact absurd (List.append_eq_nil_iff.1 e).1 (h x (List.mem_cons_self ..))
    · intro e
      cases e
theorem num_ne_nil (n : Int) : num n ≠ [] := fun e => by have := num_ne n; rw [e] at this; simp at this
theorem cellT_ne (i : Nat) (c : Int) : cellT i c ≠ [] := by
  rcases cell_cases i c with ⟨_, e⟩ | ⟨_, e⟩ | ⟨_, _, e⟩ <;> rw [e] <;> simp
theorem linkT_ne (l : Int × Int) : linkT l ≠ [] := by
  unfold linkT
  intro e
  exact num_ne_nil _ (List.append_eq_nil_iff.1 e).1
end Go.Proofs.YtonkbjdeaneicaaDoor

namespace Go.Proofs.YtonkbjdeaneicaaDoor
open Go Go.RowKit Pln Classical

def shapeT (s : Shp) : List UInt8 := num s.pred ++ [40] ++ Lib.join (cellPs s.cells s.cells.length) sepT ++ [41]
theorem cellPs_ne (xs : List Int) {k : Nat} (hk : k ≤ xs.length) : ∀ p ∈ cellPs xs k, p ≠ [] := by
  intro p hp
  obtain ⟨i, hi, rfl⟩ := List.mem_map.1 hp
  have hi2 : i < k := List.mem_range.1 hi
  rw [List.getElem?_eq_getElem (by omega)]
  exact cellT_ne _ _
theorem cellPs_k (xs : List Int) (hl : xs.length ≤ 8) (h : ∀ x ∈ xs, i64ok x) {k : Nat} (hk : k ≤ xs.length) : (Lib.join (cellPs xs k) sepT).length ≤ 184 := by
  have h1 := join_len (m := 21) (cellPs xs k) (fun p hp => by
    obtain ⟨i, hi, rfl⟩ := List.mem_map.1 hp
    have hi2 : i < k := List.mem_range.1 hi
    exact cellPs_21 xs (by omega) h _ (by
      unfold cellPs
      exact List.mem_map.2 ⟨i, List.mem_range.2 (by omega), rfl⟩))
  rw [cellPs_len] at h1
  omega
theorem cellPs_more {xs : List Int} {k : Nat} {c : Int} (h : xs[k]? = some c) : Lib.join (cellPs xs (k + 1)) sepT = moreT (Lib.join (cellPs xs k) sepT) (cellT k c) := by
  rw [cellPs_succ h]
  exact join_more (cellPs_ne xs (by have := (List.getElem?_eq_some_iff.1 h).1; omega)) _

set_option maxRecDepth 100000 in
set_option maxHeartbeats 4000000 in
theorem rshapeTextW {F : Nat → Prop} (s : Shp) (v : Value) (w : World) (hp : i64ok s.pred) (h : RSl F w 1 EInt v s.cells) (h8 : s.cells.length ≤ 8) (ht : Tab w) :
    Calls Tryd.prog 32 #[.agg #[.int .i64 s.pred, v]] w fun e w' => e = .returned (.string (bs (shapeT s))) ∧ Below w.heap.size w w' := by
  have HC := Lib.hid h
  have hok : ∀ x ∈ s.cells, i64ok x := fun x hx => by obtain ⟨cs, _, h1⟩ := memE h hx; exact h1
  obtain ⟨A, c, rfl⟩ := h.form
  have TB := Lib.hid (fun (Wx : World) (hx : Below w.heap.size w Wx) => ht.below hx)
  have OK := Lib.hid hok
  have PO := Lib.hid hp.lo
  clear h ht hok hp
  go_enter Tryd.func32, Tryd.ntmps32
  go_wp2
  go_loopw [3, 4] (fun sv iv wr => ∃ k : Nat, iv = .int .i64 k ∧ k ≤ s.cells.length ∧ sv = .string (bs (Lib.join (cellPs s.cells k) sepT)) ∧ Below (w.heap.size + 1) (w.alloc (.cells #[.int .i64 s.pred, .slice A s.cells.length c] 54)) wr) (fun _ iv _ => s.cells.length - (intOf iv).toNat)
  case atStart => exact ⟨0, rfl, Nat.zero_le _, rfl, Below.refl _ _⟩
  case round =>
    obtain ⟨k, rfl, hk, rfl, hb⟩ := hrel
    have y0 := box_cellL hb 0 rfl
    have y1 := box_cellL hb 1 rfl
    have hjl := cellPs_k s.cells h8 OK.out hk
    by_cases hkn : k < s.cells.length
    · obtain ⟨x, hx⟩ : ∃ x, s.cells[k]? = some x := ⟨_, List.getElem?_eq_getElem hkn⟩
      have hxo := (OK.out x (List.mem_of_getElem? hx)).lo
      have hmr := cellPs_more hx
      obtain ⟨b, off, rfl, -, -, cs, ⟨rfl, -⟩, hc⟩ := (HC.out.keep (Kp.of_below (box_below hb))).at hx
      have c0 := hc 0 _ rfl
      simp only [Nat.add_zero, Nat.mul_one] at c0
      obtain ⟨J, hJ⟩ : ∃ J, Lib.join (cellPs s.cells k) sepT = J := ⟨_, rfl⟩
      rw [hJ] at hmr hjl ⊢
      have MR := Lib.hid hmr
      have HB := Lib.hid hb
      have HK := Lib.hid hkn
      have e1 : (0 : Int) ≤ (k : Int) := by omega
      have e2 : (k : Int) < (s.cells.length : Int) := by omega
      have hcl := cellT_len k (by omega) hxo
      clear hx hc hb hkn hmr hJ
      rcases cell_cases k x with ⟨h1, ec⟩ | ⟨h1, ec⟩ | ⟨h0, h1, ec⟩
      · have RN := Lib.hid (rnumW x hxo wr (TB.out _ (box_below HB.out)))
        have MO := Lib.hid (fun Wx => moreW J (cellT k x) (by omega) (by omega) Wx)
        rw [ec, show (35 :: num x) = [35] ++ num x from rfl, ← bs_app] at MO
        rw [ec] at MR
        have hl := num_len hxo
        rw [← bs_size] at hl
        have hl2 : ¬ 9223372036854775807 < 1 + (bs (num x)).size := by omega
        have HE := Lib.hid ec
        clear ec hjl hcl hxo
        go_wp2_with fail
        refine RN.out.mono ?_
        rintro e w2 ⟨rfl, hb2⟩
        have HB2 := Lib.hid (box_step HB.out hb2)
        clear hb2 RN
        go_wp2_with fail
        refine (MO.out _).mono ?_
        rintro e w3 ⟨rfl, hb3⟩
        have HB3 := Lib.hid (box_step HB2.out hb3)
        clear hb3 MO
        go_wp2
        exact ⟨⟨k + 1, by go_num, HK.out, by rw [MR.out], HB3.out⟩, by simp [intOf]; have := HK.out; omega⟩
      · have MO := Lib.hid (fun Wx => moreW J (cellT k x) (by omega) (by omega) Wx)
        rw [ec] at MO MR
        have f0 : ¬ (0 : Int) ≤ x := by omega
        have f1 : IntKind.i64.wrap (-1 - x) = (k : Int) := by rw [IntWalk.i64_in _ (by omega)]; omega
        have f2 : wrap64 (-1 - x) = (k : Int) := by rw [IntWalk.wrap64_in _ (by omega)]; omega
        clear ec hjl hcl hxo h1
        go_wp2_with fail
        refine (MO.out _).mono ?_
        rintro e w3 ⟨rfl, hb3⟩
        have HB3 := Lib.hid (box_step HB.out hb3)
        clear hb3 MO
        go_wp2
        exact ⟨⟨k + 1, by go_num, HK.out, by rw [MR.out], HB3.out⟩, by simp [intOf]; have := HK.out; omega⟩
      · have hxm : -9223372036854775808 ≤ -1 - x ∧ -1 - x ≤ 9223372036854775807 := by omega
        have RN := Lib.hid (rnumW (-1 - x) hxm wr (TB.out _ (box_below HB.out)))
        have MO := Lib.hid (fun Wx => moreW J (cellT k x) (by omega) (by omega) Wx)
        rw [ec, show (61 :: num (-1 - x)) = [61] ++ num (-1 - x) from rfl, ← bs_app] at MO
        rw [ec] at MR
        have hl := num_len hxm
        rw [← bs_size] at hl
        have hl2 : ¬ 9223372036854775807 < 1 + (bs (num (-1 - x))).size := by omega
        have f0 : ¬ (0 : Int) ≤ x := by omega
        have f1 : IntKind.i64.wrap (-1 - x) = -1 - x := IntWalk.i64_in _ hxm
        have f2 : wrap64 (-1 - x) = -1 - x := IntWalk.wrap64_in _ hxm
        have f3 : (-1 - x == (k : Int)) = false := by rw [beq_eq_false_iff_ne]; omega
        clear ec hjl hcl hxo h1 hxm h0
        go_wp2_with fail
        refine RN.out.mono ?_
        rintro e w2 ⟨rfl, hb2⟩
        have HB2 := Lib.hid (box_step HB.out hb2)
        clear hb2 RN
        go_wp2_with fail
        refine (MO.out _).mono ?_
        rintro e w3 ⟨rfl, hb3⟩
        have HB3 := Lib.hid (box_step HB2.out hb3)
        clear hb3 MO
        go_wp2
        exact ⟨⟨k + 1, by go_num, HK.out, by rw [MR.out], HB3.out⟩, by simp [intOf]; have := HK.out; omega⟩
    · obtain rfl : k = s.cells.length := by omega
      have RN := Lib.hid (rnumW s.pred PO.out wr (TB.out _ (box_below hb)))
      obtain ⟨J, hJ⟩ : ∃ J, Lib.join (cellPs s.cells s.cells.length) sepT = J := ⟨_, rfl⟩
      rw [hJ] at hjl ⊢
      have HJ := Lib.hid (show shapeT s = num s.pred ++ [40] ++ J ++ [41] by rw [← hJ]; rfl)
      have l1 := num_len PO.out
      rw [← bs_size] at l1 hjl
      have s1 : ¬ 9223372036854775807 < (bs (num s.pred)).size + 1 := by omega
      have s2 : ¬ 9223372036854775807 < (bs (num s.pred)).size + 1 + (bs J).size := by omega
      have s3 : ¬ 9223372036854775807 < (bs (num s.pred)).size + 1 + (bs J).size + 1 := by omega
      have HB := Lib.hid hb
      clear hb hkn hJ
      go_wp2_with fail
      refine RN.out.mono ?_
      rintro e w2 ⟨rfl, hb2⟩
      have HB2 := Lib.hid (box_below (box_step HB.out hb2))
      clear hb2 RN y0 y1
      go_wp2
      go_ret
      refine ⟨?_, HB2.out⟩
      rw [HJ.out]
      simp only [← bs_app]
      rfl
end Go.Proofs.YtonkbjdeaneicaaDoor
