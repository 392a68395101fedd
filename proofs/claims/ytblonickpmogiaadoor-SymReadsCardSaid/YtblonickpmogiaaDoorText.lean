/- Text, on both sides. -/
import Derived.Test.YtblonickpmogiaaDoorQuote
import Derived.Test.YtblonickpmogiaaDoorRefText
import Derived.Test.YtblonickpmogiaaDoorDec
namespace Go.Proofs.YtblonickpmogiaaDoor
open Go.RowKit

/-- A constant's canonical text. -/
def textB (c : Cst) : ByteArray := if validB c = true then (if c.k = 1 then ⟨(Lib.itoa c.n).toArray⟩ else if c.k = 2 then c.s else ⟨(quoteL c.s.data.toList).toArray⟩) else ⟨#[]⟩
/-- The library's table of powers of ten. -/
def Tab (w : World) : Prop := Lib.TabIs Tryd.prog w "internal/strconv.uint64pow10" .u64 Lib.pow10Tab
theorem Tab.below {w w' : World} {B : Nat} (h : Tab w) (hB : w.heap.size ≤ B) (hb : Below B w w') : Tab w' := by
  unfold Tab Lib.TabIs World.var? at *
  cases hg : Tryd.prog.globalNamed "internal/strconv.uint64pow10" with
  | none => rw [hg] at h; simp at h
  | some g =>
    rw [hg] at h
    simp only [Option.bind_some] at h ⊢
    have hlt : g < w.heap.size := by
      rcases Nat.lt_or_ge g w.heap.size with h' | h'
      · exact h'
      · rw [Array.getElem?_eq_none h'] at h; simp at h
    rw [hb.block g (by omega)]
    exact h
theorem below_grow {w : World} (k : Nat) (os : Array Obj) : Below w.heap.size w (Sort.grow (w.drewN k) os) :=
  ⟨rfl, rfl, rfl, by simp [Sort.grow], fun j hj => Sort.heap_grow_old (w.drewN k) os hj⟩

/-- The constant lies in a block of the call's own. -/
theorem text_pre (k n : Int) (s : ByteArray) (w : World) : ∃ W1, W1 = w.alloc (.cells #[.int .i64 k, .int .i64 n, .string s] 25) ∧ Below w.heap.size w W1 ∧
    ∀ W, Below W1.heap.size W1 W → W.cell? ⟨w.heap.size, 0, none⟩ = some (.int .i64 k) ∧ W.cell? ⟨w.heap.size, 1, none⟩ = some (.int .i64 n) ∧ W.cell? ⟨w.heap.size, 2, none⟩ = some (.string s) := by
  have hbx := heap_alloc_new w (.cells #[.int .i64 k, .int .i64 n, .string s] 25)
  refine ⟨_, rfl, (Below.refl w.heap.size w).alloc (Nat.le_refl _) _, fun W hb => ?_⟩
  have h : W.heap[w.heap.size]? = some (.cells #[.int .i64 k, .int .i64 n, .string s] 25 (0, 0)) := by rw [hb.block _ (lt_of_heap hbx)]; exact hbx
  exact ⟨cell_of_row W _ 0 _ _ _ h, cell_of_row W _ 1 _ _ _ h, cell_of_row W _ 2 _ _ _ h⟩
theorem i64_of_wf {n : Int} (h : (Lit.int .i64 n).wf = true) : -9223372036854775808 ≤ n ∧ n ≤ 9223372036854775807 := by
  simp [Lit.wf, IntKind.min, IntKind.signed, IntKind.bits] at h
  exact h
theorem size_of_valid3 {n : Int} {s : ByteArray} (h : validB ⟨3, n, s⟩ = true) : s.size ≤ 255 := by
  unfold validB at h
  simp at h
  exact h.2

set_option maxRecDepth 100000 in
set_option maxHeartbeats 8000000 in
theorem textW (c : Cst) (hok : c.ok) (w : World) (ht : Tab w) : Calls Tryd.prog 9 #[.agg #[.int .i64 c.k, .int .i64 c.n, .string c.s]] w fun e w' => e = .returned (.string (textB c)) ∧ Below w.heap.size w w' := by
  obtain ⟨hk, hn, hs⟩ := hok
  obtain ⟨k, n, s⟩ := c
  have hn' := i64_of_wf hn
  unfold textB
  rcases hv : validB ⟨k, n, s⟩ with _ | _
  · have V := Lib.hid (validW ⟨k, n, s⟩ hs)
    rw [hv] at V
    rw [if_neg (by simp)]
    obtain ⟨W1, hW1, hB, hX⟩ := text_pre k n s w
    have HB := Lib.hid hB
    clear hv ht hk hn hs hn' hX hB
    go_enter Tryd.func9, Tryd.ntmps9
    go_wp2_with fail
    rw [← hW1]
    clear hW1
    refine (V.out _).mono ?_
    rintro e w2 ⟨rfl, hb⟩
    have HF := Lib.hid (HB.out.trans (hb.mono HB.out.size))
    clear hb
    go_wp2
    go_ret
    exact ⟨rfl, HF.out⟩
  · rw [if_pos rfl]
    by_cases h1 : k = 1
    · subst h1
      show Calls _ _ _ _ fun e w' => e = .returned (.string ⟨(Lib.itoa n).toArray⟩) ∧ Below w.heap.size w w'
      have V := Lib.hid (validW ⟨1, n, s⟩ hs)
      rw [hv] at V
      obtain ⟨W1, hW1, hB, hX⟩ := text_pre 1 n s w
      have FI := Lib.hid (fun (W : World) (hb : Below W1.heap.size W1 W) => Tryd.strconv_FormatInt_10 n hn'.1 hn'.2 W (ht.below (Nat.le_refl _) (hB.trans (hb.mono hB.size))))
      have HB := Lib.hid hB
      have HX := Lib.hid hX
      clear hv ht hk hn hs hn' hX hB
      go_enter Tryd.func9, Tryd.ntmps9
      go_wp2_with fail
      rw [← hW1]
      clear hW1
      refine (V.out _).mono ?_
      rintro e w2 ⟨rfl, hb⟩
      obtain ⟨c0, c1, c2⟩ := HX.out w2 hb
      have HF := Lib.hid (HB.out.trans (hb.mono HB.out.size))
      have HG := Lib.hid hb
      clear hb
      go_wp2_with fail
      refine (FI.out w2 HG.out).mono ?_
      rintro e w3 ⟨rfl, q, os, rfl⟩
      have HE := Lib.hid (HF.out.trans ((below_grow q os).mono HF.out.size))
      go_wp2
      go_ret
      exact ⟨rfl, HE.out⟩
    rw [if_neg h1]
    by_cases h2 : k = 2
    · subst h2
      rw [if_pos rfl]
      show Calls _ _ _ _ fun e w' => e = .returned (.string s) ∧ Below w.heap.size w w'
      have V := Lib.hid (validW ⟨2, n, s⟩ hs)
      rw [hv] at V
      obtain ⟨W1, hW1, hB, hX⟩ := text_pre 2 n s w
      have HB := Lib.hid hB
      have HX := Lib.hid hX
      clear hv ht hk hn hs hn' hX hB h1
      go_enter Tryd.func9, Tryd.ntmps9
      go_wp2_with fail
      rw [← hW1]
      clear hW1
      refine (V.out _).mono ?_
      rintro e w2 ⟨rfl, hb⟩
      obtain ⟨c0, c1, c2⟩ := HX.out w2 hb
      have HF := Lib.hid (HB.out.trans (hb.mono HB.out.size))
      clear hb
      go_wp2
      go_ret
      exact ⟨rfl, HF.out⟩
    rw [if_neg h2]
    obtain rfl : k = 3 := by
      unfold validB at hv
      simp only [h1, h2] at hv
      by_cases h3 : k = 3
      · exact h3
      · simp [h3] at hv
    show Calls _ _ _ _ fun e w' => e = .returned (.string ⟨(quoteL s.data.toList).toArray⟩) ∧ Below w.heap.size w w'
    have V := Lib.hid (validW ⟨3, n, s⟩ hs)
    rw [hv] at V
    have Q := Lib.hid (quotedW s (size_of_valid3 hv))
    obtain ⟨W1, hW1, hB, hX⟩ := text_pre 3 n s w
    have HB := Lib.hid hB
    have HX := Lib.hid hX
    clear hv ht hk hn hs hn' hX hB h1 h2
    go_enter Tryd.func9, Tryd.ntmps9
    go_wp2_with fail
    rw [← hW1]
    clear hW1
    refine (V.out _).mono ?_
    rintro e w2 ⟨rfl, hb⟩
    obtain ⟨c0, c1, c2⟩ := HX.out w2 hb
    have HF := Lib.hid (HB.out.trans (hb.mono HB.out.size))
    clear hb
    go_wp2_with fail
    refine (Q.out w2).mono ?_
    rintro e w3 ⟨rfl, hb⟩
    have HE := Lib.hid (HF.out.trans (hb.mono HF.out.size))
    clear hb
    go_wp2
    go_ret
    exact ⟨rfl, HE.out⟩

theorem catL (X E : List UInt8) : (⟨X.toArray⟩ : ByteArray) ++ (⟨E.toArray⟩ : ByteArray) = ⟨(X ++ E).toArray⟩ := by
  apply ByteArray.ext
  simp
theorem str_get {s : ByteArray} {k : Nat} (h : k < s.size) : s[k] = s.data.toList.getD k 0 := (str_at h).symm

set_option maxRecDepth 100000 in
set_option maxHeartbeats 8000000 in
theorem rtextW (c : Cst) (hok : c.ok) (w : World) : Calls Tryd.prog 10 #[.agg #[.int .i64 c.k, .int .i64 c.n, .string c.s]] w fun e w' => e = .returned (.string (textB c)) ∧ Below w.heap.size w w' := by
  obtain ⟨hk, hn, hs⟩ := hok
  obtain ⟨k, n, s⟩ := c
  have hn' := i64_of_wf hn
  unfold textB
  rcases hv : validB ⟨k, n, s⟩ with _ | _
  · have V := Lib.hid (rvalidW ⟨k, n, s⟩ hs)
    rw [hv] at V
    rw [if_neg (by simp)]
    obtain ⟨W1, hW1, hB, hX⟩ := text_pre k n s w
    have HB := Lib.hid hB
    clear hv hk hn hs hn' hX hB
    go_enter Tryd.func10, Tryd.ntmps10
    go_wp2_with fail
    rw [← hW1]
    clear hW1
    refine (V.out _).mono ?_
    rintro e w2 ⟨rfl, hb⟩
    have HF := Lib.hid (HB.out.trans (hb.mono HB.out.size))
    clear hb
    go_wp2
    go_ret
    exact ⟨rfl, HF.out⟩
  · rw [if_pos rfl]
    by_cases h1 : k = 1
    · subst h1
      show Calls _ _ _ _ fun e w' => e = .returned (.string ⟨(Lib.itoa n).toArray⟩) ∧ Below w.heap.size w w'
      have V := Lib.hid (rvalidW ⟨1, n, s⟩ hs)
      rw [hv] at V
      have FI := Lib.hid (fun (W : World) => decimalW n hn'.1 hn'.2 W)
      obtain ⟨W1, hW1, hB, hX⟩ := text_pre 1 n s w
      have HB := Lib.hid hB
      have HX := Lib.hid hX
      clear hv hk hn hs hn' hX hB
      go_enter Tryd.func10, Tryd.ntmps10
      go_wp2_with fail
      rw [← hW1]
      clear hW1
      refine (V.out _).mono ?_
      rintro e w2 ⟨rfl, hb⟩
      obtain ⟨c0, c1, c2⟩ := HX.out w2 hb
      have HF := Lib.hid (HB.out.trans (hb.mono HB.out.size))
      clear hb
      go_wp2_with fail
      refine (FI.out w2).mono ?_
      rintro e w3 ⟨rfl, hb⟩
      have HE := Lib.hid (HF.out.trans (hb.mono HF.out.size))
      clear hb
      go_wp2
      go_ret
      exact ⟨rfl, HE.out⟩
    rw [if_neg h1]
    by_cases h2 : k = 2
    · subst h2
      rw [if_pos rfl]
      show Calls _ _ _ _ fun e w' => e = .returned (.string s) ∧ Below w.heap.size w w'
      have V := Lib.hid (rvalidW ⟨2, n, s⟩ hs)
      rw [hv] at V
      obtain ⟨W1, hW1, hB, hX⟩ := text_pre 2 n s w
      have HB := Lib.hid hB
      have HX := Lib.hid hX
      clear hv hk hn hs hn' hX hB h1
      go_enter Tryd.func10, Tryd.ntmps10
      go_wp2_with fail
      rw [← hW1]
      clear hW1
      refine (V.out _).mono ?_
      rintro e w2 ⟨rfl, hb⟩
      obtain ⟨c0, c1, c2⟩ := HX.out w2 hb
      have HF := Lib.hid (HB.out.trans (hb.mono HB.out.size))
      clear hb
      go_wp2
      go_ret
      exact ⟨rfl, HF.out⟩
    rw [if_neg h2]
    obtain rfl : k = 3 := by
      unfold validB at hv
      simp only [h1, h2] at hv
      by_cases h3 : k = 3
      · exact h3
      · simp [h3] at hv
    show Calls _ _ _ _ fun e w' => e = .returned (.string ⟨(quoteL s.data.toList).toArray⟩) ∧ Below w.heap.size w w'
    have V := Lib.hid (rvalidW ⟨3, n, s⟩ hs)
    rw [hv] at V
    have h255 := size_of_valid3 hv
    obtain ⟨W1, hW1, hB, hX⟩ := text_pre 3 n s w
    have HB := Lib.hid hB
    have HX := Lib.hid hX
    clear hv hk hn hs hn' hX hB h1 h2
    go_enter Tryd.func10, Tryd.ntmps10
    go_wp2_with fail
    rw [← hW1]
    clear hW1
    refine (V.out _).mono ?_
    rintro e w2 ⟨rfl, hb⟩
    obtain ⟨c0, c1, c2⟩ := HX.out w2 hb
    have HF := Lib.hid (HB.out.trans (hb.mono HB.out.size))
    have HG := Lib.hid hb
    clear hb c1
    go_wp2
    go_loopw [3, 4] (fun sv i wr => ∃ k : Nat, sv = .string ⟨(34 :: (s.data.toList.take k).flatMap escS).toArray⟩ ∧ i = .int .i64 k ∧ k ≤ s.size ∧ Below w2.heap.size w2 wr) (fun _ i _ => s.size - (intOf i).toNat)
    case atStart => exact ⟨0, rfl, rfl, Nat.zero_le _, Below.refl _ _⟩
    case round =>
      obtain ⟨k, rfl, rfl, hk, hb⟩ := hrel
      obtain ⟨X, hX⟩ : ∃ X, X = 34 :: (s.data.toList.take k).flatMap escS := ⟨_, rfl⟩
      have hlen : X.length ≤ 1025 := by
        rw [hX, List.length_cons]
        have := escs_len (s.data.toList.take k)
        have := List.length_take_le k s.data.toList
        omega
      have d2 := (HX.out wr (HG.out.trans (hb.mono HG.out.size))).2.2
      have HBl := Lib.hid hb
      by_cases hks : k < s.size
      · have hkk : (0 : Int) ≤ (k : Int) := by omega
        have hks' : (k : Int) < (s.size : Int) := by omega
        have hE := esc_len (s.data.toList.getD k 0)
        have LW := Lib.hid (fun W => rletterW (s.data.toList.getD k 0) W)
        have SX := Lib.hid (show 34 :: (s.data.toList.take (k + 1)).flatMap escS = X ++ escS (s.data.toList.getD k 0) from by rw [escs_step hks, hX]; rfl)
        rw [← str_get hks] at LW hE SX
        obtain ⟨E, hEe⟩ : ∃ E, E = escS s[k] := ⟨_, rfl⟩
        rw [← hEe] at LW hE SX
        have HK := Lib.hid hks
        rw [← hX]
        clear hX hEe hb
        go_wp2_with (go_at_call 23; refine (LW.out _).mono ?_; rintro e w' ⟨rfl, hbel⟩; have hb2 := below_step HBl.out hbel; clear hbel)
        have HB2 := Lib.hid hb2
        clear hb2
        exact ⟨⟨k + 1, by rw [catL, SX.out], by go_num, HK.out, HB2.out⟩, by simp [intOf]; have := HK.out; omega⟩
      · obtain rfl : k = s.size := by omega
        have SX := Lib.hid (show quoteL s.data.toList = X ++ [34] from by rw [hX, List.take_of_length_le (by exact Nat.le_refl s.size)]; rfl)
        have HE := Lib.hid (HF.out.trans (hb.mono HF.out.size))
        rw [← hX]
        clear hX hb
        go_wp2
        go_ret
        exact ⟨by rw [SX.out, ← catL]; first | rfl | simp, HE.out⟩
end Go.Proofs.YtblonickpmogiaaDoor
