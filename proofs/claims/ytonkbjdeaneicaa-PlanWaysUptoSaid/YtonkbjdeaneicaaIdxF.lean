/- slices.IndexFunc, slices.ContainsFunc at slots, for each of the program's three closures; below. -/
import Derived.Test.YtonkbjdeaneicaaWidth
import Derived.Test.YtonkbjdeaneicaaOwnL
namespace Go.Proofs.Ytonkbjdeaneicaa
open Go.RowKit Pln Classical

/-- The first place of which p holds, or -1. -/
def idxP (p : Slt → Bool) : List Slt → Nat
  | [] => 0
  | s :: r => if p s = true then 0 else idxP p r + 1
def idxI (p : Slt → Bool) (xs : List Slt) : Int := if idxP p xs < xs.length then (idxP p xs : Int) else -1
theorem idxP_none {p : Slt → Bool} : ∀ {xs : List Slt}, (∀ s ∈ xs, p s = false) → idxP p xs = xs.length
  | [], _ => rfl
  | s :: r, h => by
    unfold idxP
    rw [if_neg (by rw [h s (List.mem_cons_self ..)]; decide), idxP_none (fun t ht => h t (List.mem_cons_of_mem _ ht))]
    rfl
theorem idxP_at {p : Slt → Bool} : ∀ {xs : List Slt} {k : Nat} {s : Slt}, xs[k]? = some s → p s = true → (∀ s ∈ xs.take k, p s = false) → idxP p xs = k
  | [], k, s, h, _, _ => by simp at h
  | a :: r, 0, s, h, hp, _ => by
    simp at h
    subst h
    unfold idxP
    rw [if_pos hp]
  | a :: r, k + 1, s, h, hp, hq => by
    unfold idxP
    rw [if_neg (by rw [hq a (by simp)]; decide), idxP_at (k := k) (s := s) (by simpa using h) hp (fun t ht => hq t (by rw [List.take_succ_cons]; exact List.mem_cons_of_mem _ ht))]
theorem idxI_none {p : Slt → Bool} {xs : List Slt} (h : ∀ s ∈ xs, p s = false) : idxI p xs = -1 := by
  unfold idxI
  rw [idxP_none h, if_neg (Nat.lt_irrefl _)]
theorem idxI_at {p : Slt → Bool} {xs : List Slt} {k : Nat} {s : Slt} (h : xs[k]? = some s) (hp : p s = true) (hq : ∀ s ∈ xs.take k, p s = false) : idxI p xs = k := by
  unfold idxI
  rw [idxP_at h hp hq, if_pos (List.getElem?_eq_some_iff.1 h).1]
theorem idxI_ge {p : Slt → Bool} {xs : List Slt} : (0 ≤ idxI p xs) ↔ ∃ s ∈ xs, p s = true := by
  constructor
  · intro h
    by_cases hn : ∀ s ∈ xs, p s = false
    · rw [idxI_none hn] at h; omega
    · have : ∃ s, ¬ (s ∈ xs → p s = false) := Classical.not_forall.1 hn
      obtain ⟨s, hs⟩ := this
      have := Classical.not_imp.1 hs
      exact ⟨s, this.1, by simpa using this.2⟩
  · rintro ⟨s, hs, hp⟩
    unfold idxI
    have : idxP p xs < xs.length := by
      induction xs with
      | nil => cases hs
      | cons a r ih =>
        unfold idxP
        split
        · simp
        · rename_i hna
          rcases List.mem_cons.1 hs with rfl | hs
          · exact absurd hp hna
          · have := ih hs
            simp only [List.length_cons]
            omega
    rw [if_pos this]
    omega
theorem ret_i64 {a b : Int} (h : a = b) : Ending.returned (.int .i64 a) = .returned (.int .i64 b) := by rw [h]

noncomputable def bel (wd : Nat) (s : Slt) : Bool := decide (belowP wd s)
set_option maxRecDepth 100000 in
theorem belowW (s : Slt) (wd : Nat) (w : World) : Calls Try.prog 53 #[.agg #[.bool s.v, .int .i64 s.n], .int .i64 wd] w fun e w' => e = .returned (.bool (bel wd s)) ∧ Below w.heap.size w w' := by
  obtain ⟨v, n⟩ := s
  by_cases h0 : 0 ≤ n
  · cases v with
    | false =>
      have hb : bel wd ⟨false, n⟩ = true := by simp [bel, belowP, h0]
      have HB := Lib.hid hb
      clear hb
      go_enter Try.func53, Try.ntmps53
      go_wp2
      go_ret
      exact ⟨ret_bool HB.out.symm, (Below.refl _ _).alloc (Nat.le_refl _) _⟩
    | true =>
      by_cases h1 : n < (wd : Int)
      · have hb : bel wd ⟨true, n⟩ = true := by simp [bel, belowP, h0, h1]
        have HB := Lib.hid hb
        clear hb
        go_enter Try.func53, Try.ntmps53
        go_wp2
        go_ret
        exact ⟨ret_bool HB.out.symm, (Below.refl _ _).alloc (Nat.le_refl _) _⟩
      · have hb : bel wd ⟨true, n⟩ = false := by simp [bel, belowP, h0, h1]
        have HB := Lib.hid hb
        clear hb
        go_enter Try.func53, Try.ntmps53
        go_wp2
        go_ret
        exact ⟨ret_bool HB.out.symm, (Below.refl _ _).alloc (Nat.le_refl _) _⟩
  · have hb : bel wd ⟨v, n⟩ = false := by simp only [bel, decide_eq_false_iff_not]; exact fun h => h0 h.1
    have HB := Lib.hid hb
    clear hb
    go_enter Try.func53, Try.ntmps53
    go_wp2
    go_ret
    exact ⟨ret_bool HB.out.symm, (Below.refl _ _).alloc (Nat.le_refl _) _⟩

/-- may's closure. -/
theorem may1W (s : Slt) (wd B : Nat) (w : World) (hc : w.cell? ⟨B, 0, none⟩ = some (.int .i64 wd)) (hB : B < w.heap.size) : Calls Try.prog 52 #[.agg #[.bool s.v, .int .i64 s.n], .pointer (some ⟨B, 0, none⟩)] w fun e w' => e = .returned (.bool (!bel wd s)) ∧ Below w.heap.size w w' := by
  have C := Lib.hid (fun W => belowW s wd W)
  go_enter Try.func52, Try.ntmps52
  go_wp2_with (go_at_call 53; refine (C.out _).mono ?_; rintro e w' ⟨rfl, hb⟩; have HB := Lib.hid hb; clear hb)
  go_ret
  exact ⟨rfl, ((Below.refl _ _).alloc (Nat.le_refl _) _).trans (HB.out.mono (by simp))⟩
theorem mayPattern1W (s : Slt) (w : World) : Calls Try.prog 67 #[.agg #[.bool s.v, .int .i64 s.n]] w fun e w' => e = .returned (.bool (decide (s.n < 0))) ∧ Below w.heap.size w w' := by
  go_enter Try.func67, Try.ntmps67
  go_wp2
  go_ret
  exact ⟨rfl, (Below.refl _ _).alloc (Nat.le_refl _) _⟩
/-- pattern's closure: the same variable. -/
def sameV (n : Int) (s : Slt) : Bool := s.v && (s.n == n)
theorem pattern1W (s : Slt) (n : Int) (B : Nat) (w : World) (hc : w.cell? ⟨B, 1, none⟩ = some (.int .i64 n)) (hB : B < w.heap.size) : Calls Try.prog 56 #[.agg #[.bool s.v, .int .i64 s.n], .pointer (some ⟨B, 0, none⟩)] w fun e w' => e = .returned (.bool (sameV n s)) ∧ Below w.heap.size w w' := by
  obtain ⟨v, m⟩ := s
  cases v with
  | false =>
    go_enter Try.func56, Try.ntmps56
    go_wp2
    go_ret
    exact ⟨rfl, (Below.refl _ _).alloc (Nat.le_refl _) _⟩
  | true =>
    have hs : sameV n ⟨true, m⟩ = (m == n) := by simp [sameV]
    have HS := Lib.hid hs
    clear hs
    go_enter Try.func56, Try.ntmps56
    go_wp2
    go_ret
    exact ⟨ret_bool HS.out.symm, (Below.refl _ _).alloc (Nat.le_refl _) _⟩

set_option maxRecDepth 100000 in
theorem indexFunc_may {F : Nat → Prop} (v : Value) (xs : List Slt) (B : Nat) (p : Slt → Bool) (w : World) (h : RSl F w 2 ESlt v xs)
    (hp : ∀ s ∈ xs, ∀ W, Below w.heap.size w W → Calls Try.prog 52 #[.agg #[.bool s.v, .int .i64 s.n], .pointer (some ⟨B, 0, none⟩)] W fun e w' => e = .returned (.bool (p s)) ∧ Below W.heap.size W w') :
    Calls Try.prog 55 #[v, .func (.func 52) #[] #[.pointer (some ⟨B, 0, none⟩)]] w fun e w' => e = .returned (.int .i64 (idxI p xs)) ∧ Below w.heap.size w w' := by
  obtain ⟨A, c, rfl⟩ := h.form
  have hm := h.len
  unfold maxLen at hm
  have HP := Lib.hid hp
  have HH := Lib.hid h
  clear hp h
  go_enter Try.func55, Try.ntmps55
  go_wp2
  go_loopw [8] (fun i wr => ∃ k : Nat, i = .int .i64 k ∧ k ≤ xs.length ∧ (∀ s ∈ xs.take k, p s = false) ∧ Below w.heap.size w wr) (fun i _ => xs.length - (intOf i).toNat)
  case atStart => exact ⟨0, rfl, Nat.zero_le _, by simp, Below.refl _ _⟩
  case round =>
    obtain ⟨k, rfl, hk, hq, hb⟩ := hrel
    by_cases hkn : k < xs.length
    · obtain ⟨s, hs⟩ : ∃ s, xs[k]? = some s := ⟨_, List.getElem?_eq_getElem hkn⟩
      obtain ⟨b, off, rfl, _, _, cs, ⟨rfl, hok⟩, hc⟩ := (HH.out.keep (Kp.of_below hb)).at hs
      have c0 := hc 0 _ rfl
      have c1 := hc 1 _ rfl
      simp only [Nat.add_zero] at c0
      have e1 : (0 : Int) ≤ (k : Int) := by omega
      have e2 : (k : Int) < (xs.length : Int) := by omega
      have hsz := hb.size
      have C := Lib.hid (HP.out s (List.mem_of_getElem? hs) wr hb)
      have HS := Lib.hid hs
      have HQ := Lib.hid hq
      have HB := Lib.hid hb
      have HK := Lib.hid hkn
      clear hc hs hkn hb hq
      by_cases hps : p s = true
      · have HI := Lib.hid (idxI_at HS.out hps HQ.out)
        have HPS := Lib.hid hps
        clear hps
        go_wp2_with (go_at_call 52; refine C.out.mono ?_; rintro e w' ⟨he, hb2⟩; rw [HPS.out] at he; subst he; have HB2 := Lib.hid hb2; clear hb2)
        go_ret
        exact ⟨ret_i64 HI.out.symm, HB.out.trans (HB2.out.mono hsz)⟩
      · have hps' : p s = false := by simpa using hps
        have HQ2 := Lib.hid (take_all HQ.out HS.out hps')
        have HPS := Lib.hid hps'
        clear hps hps'
        go_wp2_with (go_at_call 52; refine C.out.mono ?_; rintro e w' ⟨he, hb2⟩; rw [HPS.out] at he; subst he; have HB2 := Lib.hid hb2; clear hb2)
        exact ⟨⟨k + 1, by go_num, HK.out, HQ2.out, HB.out.trans (HB2.out.mono hsz)⟩, by simp [intOf]; have := HK.out; omega⟩
    · obtain rfl : k = xs.length := by omega
      rw [List.take_length] at hq
      have HI := Lib.hid (idxI_none hq)
      clear hq
      go_wp2
      go_ret
      exact ⟨ret_i64 HI.out.symm, hb⟩

theorem containsFunc_may {F : Nat → Prop} (v : Value) (xs : List Slt) (B : Nat) (p : Slt → Bool) (w : World) (h : RSl F w 2 ESlt v xs)
    (hp : ∀ s ∈ xs, ∀ W, Below w.heap.size w W → Calls Try.prog 52 #[.agg #[.bool s.v, .int .i64 s.n], .pointer (some ⟨B, 0, none⟩)] W fun e w' => e = .returned (.bool (p s)) ∧ Below W.heap.size W w') :
    Calls Try.prog 51 #[v, .func (.func 52) #[] #[.pointer (some ⟨B, 0, none⟩)]] w fun e w' => e = .returned (.bool (decide (0 ≤ idxI p xs))) ∧ Below w.heap.size w w' := by
  have C := Lib.hid (indexFunc_may v xs B p w h hp)
  clear h hp
  go_enter Try.func51, Try.ntmps51
  go_wp2_with (go_at_call 55; refine C.out.mono ?_; rintro e w' ⟨rfl, hb2⟩; have HB2 := Lib.hid hb2; clear hb2)
  go_ret
  exact ⟨rfl, HB2.out⟩

set_option maxRecDepth 100000 in
theorem indexFunc_mayPattern {F : Nat → Prop} (v : Value) (xs : List Slt) (p : Slt → Bool) (w : World) (h : RSl F w 2 ESlt v xs)
    (hp : ∀ s ∈ xs, ∀ W, Below w.heap.size w W → Calls Try.prog 67 #[.agg #[.bool s.v, .int .i64 s.n]] W fun e w' => e = .returned (.bool (p s)) ∧ Below W.heap.size W w') :
    Calls Try.prog 55 #[v, .func (.func 67) #[] #[]] w fun e w' => e = .returned (.int .i64 (idxI p xs)) ∧ Below w.heap.size w w' := by
  obtain ⟨A, c, rfl⟩ := h.form
  have hm := h.len
  unfold maxLen at hm
  have HP := Lib.hid hp
  have HH := Lib.hid h
  clear hp h
  go_enter Try.func55, Try.ntmps55
  go_wp2
  go_loopw [8] (fun i wr => ∃ k : Nat, i = .int .i64 k ∧ k ≤ xs.length ∧ (∀ s ∈ xs.take k, p s = false) ∧ Below w.heap.size w wr) (fun i _ => xs.length - (intOf i).toNat)
  case atStart => exact ⟨0, rfl, Nat.zero_le _, by simp, Below.refl _ _⟩
  case round =>
    obtain ⟨k, rfl, hk, hq, hb⟩ := hrel
    by_cases hkn : k < xs.length
    · obtain ⟨s, hs⟩ : ∃ s, xs[k]? = some s := ⟨_, List.getElem?_eq_getElem hkn⟩
      obtain ⟨b, off, rfl, _, _, cs, ⟨rfl, hok⟩, hc⟩ := (HH.out.keep (Kp.of_below hb)).at hs
      have c0 := hc 0 _ rfl
      have c1 := hc 1 _ rfl
      simp only [Nat.add_zero] at c0
      have e1 : (0 : Int) ≤ (k : Int) := by omega
      have e2 : (k : Int) < (xs.length : Int) := by omega
      have hsz := hb.size
      have C := Lib.hid (HP.out s (List.mem_of_getElem? hs) wr hb)
      have HS := Lib.hid hs
      have HQ := Lib.hid hq
      have HB := Lib.hid hb
      have HK := Lib.hid hkn
      clear hc hs hkn hb hq
      by_cases hps : p s = true
      · have HI := Lib.hid (idxI_at HS.out hps HQ.out)
        have HPS := Lib.hid hps
        clear hps
        go_wp2_with (go_at_call 67; refine C.out.mono ?_; rintro e w' ⟨he, hb2⟩; rw [HPS.out] at he; subst he; have HB2 := Lib.hid hb2; clear hb2)
        go_ret
        exact ⟨ret_i64 HI.out.symm, HB.out.trans (HB2.out.mono hsz)⟩
      · have hps' : p s = false := by simpa using hps
        have HQ2 := Lib.hid (take_all HQ.out HS.out hps')
        have HPS := Lib.hid hps'
        clear hps hps'
        go_wp2_with (go_at_call 67; refine C.out.mono ?_; rintro e w' ⟨he, hb2⟩; rw [HPS.out] at he; subst he; have HB2 := Lib.hid hb2; clear hb2)
        exact ⟨⟨k + 1, by go_num, HK.out, HQ2.out, HB.out.trans (HB2.out.mono hsz)⟩, by simp [intOf]; have := HK.out; omega⟩
    · obtain rfl : k = xs.length := by omega
      rw [List.take_length] at hq
      have HI := Lib.hid (idxI_none hq)
      clear hq
      go_wp2
      go_ret
      exact ⟨ret_i64 HI.out.symm, hb⟩

theorem containsFunc_mayPattern {F : Nat → Prop} (v : Value) (xs : List Slt) (p : Slt → Bool) (w : World) (h : RSl F w 2 ESlt v xs)
    (hp : ∀ s ∈ xs, ∀ W, Below w.heap.size w W → Calls Try.prog 67 #[.agg #[.bool s.v, .int .i64 s.n]] W fun e w' => e = .returned (.bool (p s)) ∧ Below W.heap.size W w') :
    Calls Try.prog 51 #[v, .func (.func 67) #[] #[]] w fun e w' => e = .returned (.bool (decide (0 ≤ idxI p xs))) ∧ Below w.heap.size w w' := by
  have C := Lib.hid (indexFunc_mayPattern v xs p w h hp)
  clear h hp
  go_enter Try.func51, Try.ntmps51
  go_wp2_with (go_at_call 55; refine C.out.mono ?_; rintro e w' ⟨rfl, hb2⟩; have HB2 := Lib.hid hb2; clear hb2)
  go_ret
  exact ⟨rfl, HB2.out⟩

set_option maxRecDepth 100000 in
theorem indexFunc_pattern {F : Nat → Prop} (v : Value) (xs : List Slt) (B : Nat) (p : Slt → Bool) (w : World) (h : RSl F w 2 ESlt v xs)
    (hp : ∀ s ∈ xs, ∀ W, Below w.heap.size w W → Calls Try.prog 56 #[.agg #[.bool s.v, .int .i64 s.n], .pointer (some ⟨B, 0, none⟩)] W fun e w' => e = .returned (.bool (p s)) ∧ Below W.heap.size W w') :
    Calls Try.prog 55 #[v, .func (.func 56) #[] #[.pointer (some ⟨B, 0, none⟩)]] w fun e w' => e = .returned (.int .i64 (idxI p xs)) ∧ Below w.heap.size w w' := by
  obtain ⟨A, c, rfl⟩ := h.form
  have hm := h.len
  unfold maxLen at hm
  have HP := Lib.hid hp
  have HH := Lib.hid h
  clear hp h
  go_enter Try.func55, Try.ntmps55
  go_wp2
  go_loopw [8] (fun i wr => ∃ k : Nat, i = .int .i64 k ∧ k ≤ xs.length ∧ (∀ s ∈ xs.take k, p s = false) ∧ Below w.heap.size w wr) (fun i _ => xs.length - (intOf i).toNat)
  case atStart => exact ⟨0, rfl, Nat.zero_le _, by simp, Below.refl _ _⟩
  case round =>
    obtain ⟨k, rfl, hk, hq, hb⟩ := hrel
    by_cases hkn : k < xs.length
    · obtain ⟨s, hs⟩ : ∃ s, xs[k]? = some s := ⟨_, List.getElem?_eq_getElem hkn⟩
      obtain ⟨b, off, rfl, _, _, cs, ⟨rfl, hok⟩, hc⟩ := (HH.out.keep (Kp.of_below hb)).at hs
      have c0 := hc 0 _ rfl
      have c1 := hc 1 _ rfl
      simp only [Nat.add_zero] at c0
      have e1 : (0 : Int) ≤ (k : Int) := by omega
      have e2 : (k : Int) < (xs.length : Int) := by omega
      have hsz := hb.size
      have C := Lib.hid (HP.out s (List.mem_of_getElem? hs) wr hb)
      have HS := Lib.hid hs
      have HQ := Lib.hid hq
      have HB := Lib.hid hb
      have HK := Lib.hid hkn
      clear hc hs hkn hb hq
      by_cases hps : p s = true
      · have HI := Lib.hid (idxI_at HS.out hps HQ.out)
        have HPS := Lib.hid hps
        clear hps
        go_wp2_with (go_at_call 56; refine C.out.mono ?_; rintro e w' ⟨he, hb2⟩; rw [HPS.out] at he; subst he; have HB2 := Lib.hid hb2; clear hb2)
        go_ret
        exact ⟨ret_i64 HI.out.symm, HB.out.trans (HB2.out.mono hsz)⟩
      · have hps' : p s = false := by simpa using hps
        have HQ2 := Lib.hid (take_all HQ.out HS.out hps')
        have HPS := Lib.hid hps'
        clear hps hps'
        go_wp2_with (go_at_call 56; refine C.out.mono ?_; rintro e w' ⟨he, hb2⟩; rw [HPS.out] at he; subst he; have HB2 := Lib.hid hb2; clear hb2)
        exact ⟨⟨k + 1, by go_num, HK.out, HQ2.out, HB.out.trans (HB2.out.mono hsz)⟩, by simp [intOf]; have := HK.out; omega⟩
    · obtain rfl : k = xs.length := by omega
      rw [List.take_length] at hq
      have HI := Lib.hid (idxI_none hq)
      clear hq
      go_wp2
      go_ret
      exact ⟨ret_i64 HI.out.symm, hb⟩
end Go.Proofs.Ytonkbjdeaneicaa
