/- NewIds with keys, of both. -/
import Derived.Test.YtblonickpmogiaaBoth
import Derived.Test.YtblonickpmogiaaSl
namespace Go.Proofs.Ytblonickpmogiaa
open Go.RowKit Go.Maps

def strCells (k : ByteArray) : List Value := [.string k]
noncomputable def allK (xs : List ByteArray) : List ByteArray := xs.foldl addK []
theorem foldK_len (xs : List ByteArray) : ∀ ks : List ByteArray, (xs.foldl addK ks).length ≤ ks.length + xs.length := by
  induction xs with
  | nil => intro ks; simp
  | cons a l ih =>
    intro ks
    have h1 := ih (addK ks a)
    have h2 := addK_len ks a
    simp only [List.foldl_cons, List.length_cons]
    omega
theorem allK_len (xs : List ByteArray) : (allK xs).length ≤ xs.length := by have := foldK_len xs []; simpa [allK] using this
theorem allK_take {xs : List ByteArray} {i : Nat} (h : i < xs.length) : allK (xs.take (i + 1)) = addK (allK (xs.take i)) xs[i] := by
  unfold allK
  rw [List.take_succ_eq_append_getElem h, List.foldl_append]
  rfl
theorem foldK_wf {xs : List ByteArray} : ∀ {ks : List ByteArray}, (∀ k ∈ ks, k.size ≤ maxLen) → (∀ k ∈ xs, k.size ≤ maxLen) → ∀ k ∈ xs.foldl addK ks, k.size ≤ maxLen := by
  induction xs with
  | nil => intro ks h _; exact h
  | cons a l ih =>
    intro ks h hx
    exact ih (addK_wf h (hx a (List.mem_cons_self ..))) (fun k hk => hx k (List.mem_cons_of_mem _ hk))
theorem allK_wf {xs : List ByteArray} (h : ∀ k ∈ xs, k.size ≤ maxLen) : ∀ k ∈ allK xs, k.size ≤ maxLen := foldK_wf (by simp) h

/-- What holds between two rounds. -/
inductive LoadedR (w : World) (g : Nat) (xs : List ByteArray) (i : Value) (wr : World) : Prop
  | mk (n : Nat) (s : Value) (hn : n ≤ xs.length) (hi : i = .int .i64 n) (h : RefAt w.heap.size wr g s (allK (xs.take n))) (hb : Below w.heap.size w wr)
inductive LoadedS (w : World) (g m : Nat) (xs : List ByteArray) (i : Value) (wr : World) : Prop
  | mk (n : Nat) (s : Value) (hn : n ≤ xs.length) (hi : i = .int .i64 n) (h : IdsAt Try.prog kindS w.heap.size wr g m s (allK (xs.take n))) (hb : Below w.heap.size w wr)

theorem next_R {w wr w' : World} {g : Nat} {s : Value} {ks ks' : List ByteArray} (hb : Below w.heap.size w wr) (h : RefAt w.heap.size wr g s ks) (hl : RefLeft w.heap.size wr g s ks' w') : ∃ s', RefAt w.heap.size w' g s' ks' ∧ Below w.heap.size w w' := by
  obtain ⟨s', h', ht, _⟩ := hl
  exact ⟨s', h', hb.trans (ht.below hb.size (fun b hb => (h.foot_lt b hb).1))⟩
theorem next_S {w wr w' : World} {g m : Nat} {s : Value} {ks ks' : List ByteArray} (hb : Below w.heap.size w wr) (h : IdsAt Try.prog kindS w.heap.size wr g m s ks) (hl : Left Try.prog kindS w.heap.size wr g m s ks' w') : ∃ s', IdsAt Try.prog kindS w.heap.size w' g m s' ks' ∧ Below w.heap.size w w' := by
  obtain ⟨s', h', ht, _⟩ := hl
  exact ⟨s', h', hb.trans (ht.below hb.size (fun b hb => (h.foot_lt b hb).1))⟩

set_option maxRecDepth 100000 in
theorem newR (A : Option Addr) (cap : Nat) (xs : List ByteArray) (w : World) (hok : ∀ k ∈ xs, k.size ≤ maxLen) (hs : SlAt w w.heap.size 1 strCells A xs) (hlen : xs.length ≤ 5900000000000) :
    Calls Try.prog 28 #[.slice A xs.length cap] w fun e w' => e = .returned (.pointer (some ⟨w.heap.size, 0, none⟩)) ∧ (∃ s, RefAt w.heap.size w' w.heap.size s (allK xs)) ∧ Below w.heap.size w w' := by
  go_enter Try.func28, Try.ntmps28
  go_wp2
  have B0 : Below w.heap.size w (w.alloc (.cells #[.slice none 0 0] 103)) := (Below.refl _ _).alloc (Nat.le_refl _) _
  have R0 : RefAt w.heap.size (w.alloc (.cells #[.slice none 0 0] 103)) w.heap.size (.slice none 0 0) (allK (xs.take 0)) := ⟨heap_alloc_new w _, World.ownsRow_nil _ _ _ _, Nat.le_refl _⟩
  go_loopw [4] (fun i wr => LoadedR w w.heap.size xs i wr) (fun i _ => xs.length - (intOf i).toNat)
  case atStart => exact .mk 0 _ (Nat.zero_le _) rfl R0 B0
  case round =>
    clear R0 B0
    obtain ⟨i, s, hi, rfl, hR, hb⟩ := hrel
    have hkl := allK_len (xs.take i)
    rw [List.length_take] at hkl
    by_cases hin : i < xs.length
    · obtain ⟨b, off, rfl, hblt, hc⟩ := hs.form (by omega)
      have i0 := (hc i xs[i] (List.getElem?_eq_getElem hin)).below hb hblt 0 _ rfl
      have hk := hok _ (List.getElem_mem hin)
      have HT := Lib.hid (allK_take hin)
      obtain ⟨x, hx⟩ : ∃ x, x = xs[i] := ⟨_, rfl⟩
      rw [← hx] at i0 hk HT
      simp only [Nat.mul_one, Nat.add_zero] at i0
      clear hx hc
      obtain ⟨r, _, hI⟩ := intern_two (ks := allK (xs.take i)) x hk (by omega)
      have HI := Lib.hid (hI w.heap.size wr w.heap.size s hb.size hR)
      have HB := Lib.hid (And.intro hb hR)
      have hii : (0 : Int) ≤ (i : Int) := by omega
      have hin' : (i : Int) < (xs.length : Int) := by omega
      clear hI hR hb hk
      go_wp2_with fail
      refine HI.out.mono ?_
      rintro e w' ⟨rfl, hl⟩
      obtain ⟨s', h', hb'⟩ := next_R HB.out.1 HB.out.2 hl
      clear hl
      go_wp2_with fail
      exact ⟨LoadedR.mk (i + 1) s' (by omega) (by go_num) (by rw [HT.out]; exact h') hb', by simp [intOf]; omega⟩
    · go_wp2_with fail
      go_ret
      rw [List.take_of_length_le (show xs.length ≤ i by omega)] at hR
      exact ⟨rfl, ⟨s, hR⟩, hb⟩

set_option maxRecDepth 100000 in
theorem newS (A : Option Addr) (cap : Nat) (xs : List ByteArray) (w : World) (hok : ∀ k ∈ xs, k.size ≤ maxLen) (hs : SlAt w w.heap.size 1 strCells A xs) (hlen : xs.length ≤ 5900000000000) :
    Calls Try.prog 29 #[.slice A xs.length cap] w fun e w' => e = .returned (.pointer (some ⟨w.heap.size + 1, 0, none⟩)) ∧ (∃ s, IdsAt Try.prog kindS w.heap.size w' (w.heap.size + 1) w.heap.size s (allK xs)) ∧ Below w.heap.size w w' := by
  have hmm := @run_makeMap Try.prog
  have B0 : Below w.heap.size w ((w.alloc (.map #[] 0)).alloc (.cells #[.slice none 0 0, .map (some w.heap.size)] 106)) := ((Below.refl _ _).alloc (Nat.le_refl _) _).alloc (by simp) _
  have R0 : IdsAt Try.prog kindS w.heap.size ((w.alloc (.map #[] 0)).alloc (.cells #[.slice none 0 0, .map (some w.heap.size)] 106)) (w.heap.size + 1) w.heap.size (.slice none 0 0) (allK (xs.take 0)) := by
    refine ⟨?_, World.ownsRow_nil _ _ _ _, (MapIs.made w).of_block (by exact Below.heap_alloc _ _ _ (by simp)), by omega, Nat.le_refl _⟩
    have := heap_alloc_new (w.alloc (.map #[] 0)) (.cells #[.slice none 0 0, .map (some w.heap.size)] 106)
    simpa [kindS] using this
  go_enter Try.func29, Try.ntmps29
  go_wp2
  go_loopw [11] (fun i wr => LoadedS w (w.heap.size + 1) w.heap.size xs i wr) (fun i _ => xs.length - (intOf i).toNat)
  case atStart => exact .mk 0 _ (Nat.zero_le _) rfl R0 B0
  case round =>
    clear R0 B0
    obtain ⟨i, s, hi, rfl, hR, hb⟩ := hrel
    have hkl := allK_len (xs.take i)
    rw [List.length_take] at hkl
    by_cases hin : i < xs.length
    · obtain ⟨b, off, rfl, hblt, hc⟩ := hs.form (by omega)
      have i0 := (hc i xs[i] (List.getElem?_eq_getElem hin)).below hb hblt 0 _ rfl
      have hk := hok _ (List.getElem_mem hin)
      have HT := Lib.hid (allK_take hin)
      obtain ⟨x, hx⟩ : ∃ x, x = xs[i] := ⟨_, rfl⟩
      rw [← hx] at i0 hk HT
      simp only [Nat.mul_one, Nat.add_zero] at i0
      clear hx hc
      obtain ⟨r, hI, _⟩ := intern_two (ks := allK (xs.take i)) x hk (by omega)
      have HI := Lib.hid (hI w.heap.size wr (w.heap.size + 1) w.heap.size s hb.size hR)
      have HB := Lib.hid (And.intro hb hR)
      have hii : (0 : Int) ≤ (i : Int) := by omega
      have hin' : (i : Int) < (xs.length : Int) := by omega
      clear hI hR hb hk
      go_wp2_with fail
      refine HI.out.mono ?_
      rintro e w' ⟨rfl, hl⟩
      obtain ⟨s', h', hb'⟩ := next_S HB.out.1 HB.out.2 hl
      clear hl
      go_wp2_with fail
      exact ⟨LoadedS.mk (i + 1) s' (by omega) (by go_num) (by rw [HT.out]; exact h') hb', by simp [intOf]; omega⟩
    · go_wp2_with fail
      go_ret
      rw [List.take_of_length_le (show xs.length ≤ i by omega)] at hR
      exact ⟨rfl, ⟨s, hR⟩, hb⟩
end Go.Proofs.Ytblonickpmogiaa
