/- The walk of ends. -/
import Derived.Test.YtblonickpmogiaaEnds
import Derived.Test.YtblonickpmogiaaIdsEvery
namespace Go.Proofs.Ytblonickpmogiaa
open Go.RowKit Go.Maps Go.Shelf
attribute [local go_sem] Oper.semAt_some

set_option maxRecDepth 100000 in
set_option maxHeartbeats 8000000 in
theorem endsW (A : Option Addr) (cap : Nat) (xs : List ByteArray) (w : World) (hok : ∀ k ∈ xs, k.size ≤ maxLen) (hs : SlAt w w.heap.size 1 strCells A xs) (hlen : xs.length ≤ 1100000) :
    Calls Try.prog 45 #[.slice A xs.length cap] w fun e w' => e = .returned (.bool true) ∧ Below w.heap.size w w' := by
  have hq : ∀ (w : World) (f : Fn) (a b : Array Value), (binOp .eql 124 (.func f a b) .nilFunc).run Try.prog w = .ok (.bool false) w := fun w f a b => run_eql_func_nil w _ f a b Try.underlying124
  refine (callsIn_wide (n := 6)).1 ?_
  refine callsIn_of_wp_marks Try.func45 rfl trivial ?_ rfl
  simp only [Try.ntmps45, List.size_toArray, List.length_cons, List.length_nil, Nat.reduceAdd, Nat.reduceSub, Array.replicate_succ, Array.replicate_zero, List.push_toArray, List.append_toArray, List.nil_append, List.cons_append]
  have N1 := Lib.hid (fun (W : World) (hW : Below w.heap.size w W) => newS A cap xs W hok (sl_now1 hs hW) (by omega))
  have HL := Lib.hid (allK_len xs)
  obtain ⟨ks, hks⟩ : ∃ ks, ks = allK xs := ⟨_, rfl⟩
  rw [← hks] at HL
  simp only [← hks] at N1
  clear hs hok hks
  gi_wp2_with fail
  refine ⟨trivial, ?_⟩
  refine (callsIn_wide.2 (N1.out _ ((Below.refl _ _).alloc (Nat.le_refl _) _))).mono ?_
  rintro e w2 ⟨rfl, ⟨s1, hx⟩, hb2⟩
  have HX := Lib.hid hx
  have HB2 := Lib.hid hb2
  clear hx hb2
  gi_wp2_with fail
  refine ⟨trivial, ?_⟩
  refine (callsIn_wide.2 (N1.out _ (((((Below.refl _ _).alloc (Nat.le_refl _) _).trans (HB2.out.mono (by simp)))).alloc (by have := HB2.out.size; simp at this; omega) _))).mono ?_
  rintro e w4 ⟨rfl, ⟨s2, hy⟩, hb4⟩
  have q1 := HB2.out.size
  have q2 := hb4.size
  simp only [World.size_alloc] at q1 q2
  have hx2 : IdsAt Try.prog kindS (w.heap.size + 1) w2 (w.heap.size + 1 + 1) (w.heap.size + 1) s1 ks := by simpa using HX.out
  have hy4 : IdsAt Try.prog kindS (w2.heap.size + 1) w4 (w2.heap.size + 1 + 1) (w2.heap.size + 1) s2 ks := by simpa using hy
  have hx4 : IdsAt Try.prog kindS (w.heap.size + 1) w4 (w.heap.size + 1 + 1) (w.heap.size + 1) s1 ks := hx2.below (((Below.refl _ _).alloc (Nat.le_refl _) _).trans (hb4.mono (by simp)))
  have p2 : w4.heap[w.heap.size]? = some (.cells #[.bool false] 4 (0, 0)) := (hb4.block _ (by simp; omega)).trans ((Below.heap_alloc _ _ _ (by omega)).trans ((HB2.out.block _ (by simp)).trans (heap_alloc_new w _)))
  have p3 : w4.heap[w2.heap.size]? = some (.cells #[.pointer (some ⟨w.heap.size + 1 + 1, 0, none⟩)] 47 (0, 0)) := (hb4.block _ (by simp)).trans (heap_alloc_new w2 _)
  have hfx : ∀ x ∈ foot (w.heap.size + 1 + 1) (w.heap.size + 1) s1, w.heap.size < x ∧ x < w2.heap.size := fun x hx => by have := hx2.foot_lt x hx; omega
  have hfy : ∀ x ∈ foot (w2.heap.size + 1 + 1) (w2.heap.size + 1) s2, w2.heap.size < x ∧ x < w4.heap.size := fun x hx => by have := hy4.foot_lt x hx; omega
  have c3 : w4.cell? ⟨w2.heap.size, 0, none⟩ = some (.pointer (some ⟨w.heap.size + 1 + 1, 0, none⟩)) := cell_of_row w4 _ 0 _ _ _ p3
  have hlt3 : w2.heap.size < w4.heap.size := lt_of_heap p3
  have C1 := fun (W : World) (hW : Below w4.heap.size w4 W) => (hW.cell (p := ⟨w2.heap.size, 0, none⟩) hlt3).trans c3
  have G3 := fun o1 o2 o3 => C1 (((w4.alloc o1).alloc o2).alloc o3) ((((Below.refl _ _).alloc (Nat.le_refl _) _).alloc (by simp) _).alloc (by simp; omega) _)
  have G4 := fun o1 o2 o3 o4 => C1 ((((w4.alloc o1).alloc o2).alloc o3).alloc o4) (((((Below.refl _ _).alloc (Nat.le_refl _) _).alloc (by simp) _).alloc (by simp; omega) _).alloc (by simp; omega) _)
  have G5 := fun o1 o2 o3 o4 o5 => C1 (((((w4.alloc o1).alloc o2).alloc o3).alloc o4).alloc o5) ((((((Below.refl _ _).alloc (Nat.le_refl _) _).alloc (by simp) _).alloc (by simp; omega) _).alloc (by simp; omega) _).alloc (by simp; omega) _)
  have HB04 : Below w.heap.size w w4 := (((Below.refl _ w).alloc (Nat.le_refl _) _).trans (HB2.out.mono (by simp))).trans (((Below.refl _ w2).alloc (by omega) _).trans (hb4.mono (by simp; omega)))
  have ALL := Lib.hid (And.intro hx4 (And.intro hy4 (And.intro p2 (And.intro p3 (And.intro hfx (And.intro hfy HB04))))))
  have LX := Lib.hid (fun W hW => lenS (hx4.below (w' := W) hW))
  clear hx2 hy hy4 hx4 p2 p3 hfx hfy HB04 hb4 HX HB2 N1 C1
  gi_wp2_with (first
    | (refine ⟨trivial, ?_⟩; gi_at_call 46; refine (callsIn_wide.2 (LX.out _ ((Below.refl _ _).alloc (Nat.le_refl _) _))).mono ?_; rintro e w' ⟨rfl, rfl⟩)
    | (refine ⟨trivial, ?_⟩; gi_at_call 85; refine (callsIn_wide.2 (allS _ _)).mono ?_; rintro e w' ⟨rfl, rfl⟩))
  obtain ⟨W8, hW8⟩ : ∃ W8, W8 = (((((w4.alloc (.cells #[.pointer (some ⟨w2.heap.size + 1 + 1, 0, none⟩)] 47)).alloc (.cells #[.int .i64 ks.length] 3)).alloc (.cells #[.int .i64 0] 3)).alloc (.cells #[.pointer (some ⟨w.heap.size + 1 + 1, 0, none⟩)] 47)).alloc (.cells #[.pointer (some ⟨w2.heap.size + 1 + 1, 0, none⟩)] 47)).alloc (.cells #[.pointer (some ⟨w.heap.size + 1 + 1, 0, none⟩)] 47) := ⟨_, rfl⟩
  have hs8 : W8.heap.size = w4.heap.size + 6 := by rw [hW8]; simp
  have hb8 : Below w4.heap.size w4 W8 := by rw [hW8]; exact ((((((Below.refl _ _).alloc (Nat.le_refl _) _).alloc (by simp) _).alloc (by simp; omega) _).alloc (by simp; omega) _).alloc (by simp; omega) _).alloc (by simp; omega) _
  have r4 : Boxed W8 w4.heap.size 47 (.pointer (some ⟨w2.heap.size + 1 + 1, 0, none⟩)) := by rw [hW8]; exact (((((Boxed.new w4 _ _).alloc _).alloc _).alloc _).alloc _).alloc _
  have r5 : Boxed W8 (w4.heap.size + 1) 3 (.int .i64 ks.length) := by rw [hW8]; simpa using ((((Boxed.new (w4.alloc (.cells #[.pointer (some ⟨w2.heap.size + 1 + 1, 0, none⟩)] 47)) 3 (.int .i64 ks.length)).alloc (.cells #[.int .i64 0] 3)).alloc (.cells #[.pointer (some ⟨w.heap.size + 1 + 1, 0, none⟩)] 47)).alloc (.cells #[.pointer (some ⟨w2.heap.size + 1 + 1, 0, none⟩)] 47)).alloc (.cells #[.pointer (some ⟨w.heap.size + 1 + 1, 0, none⟩)] 47)
  have r6 : Boxed W8 (w4.heap.size + 1 + 1) 3 (.int .i64 0) := by rw [hW8]; simpa using (((Boxed.new ((w4.alloc (.cells #[.pointer (some ⟨w2.heap.size + 1 + 1, 0, none⟩)] 47)).alloc (.cells #[.int .i64 ks.length] 3)) 3 (.int .i64 0)).alloc (.cells #[.pointer (some ⟨w.heap.size + 1 + 1, 0, none⟩)] 47)).alloc (.cells #[.pointer (some ⟨w2.heap.size + 1 + 1, 0, none⟩)] 47)).alloc (.cells #[.pointer (some ⟨w.heap.size + 1 + 1, 0, none⟩)] 47)
  have rn : Boxed W8 (w4.heap.size + 1 + 1 + 1 + 1 + 1) 47 (.pointer (some ⟨w.heap.size + 1 + 1, 0, none⟩)) := by rw [hW8]; simpa using Boxed.new (((((w4.alloc (.cells #[.pointer (some ⟨w2.heap.size + 1 + 1, 0, none⟩)] 47)).alloc (.cells #[.int .i64 ks.length] 3)).alloc (.cells #[.int .i64 0] 3)).alloc (.cells #[.pointer (some ⟨w.heap.size + 1 + 1, 0, none⟩)] 47)).alloc (.cells #[.pointer (some ⟨w2.heap.size + 1 + 1, 0, none⟩)] 47)) 47 (.pointer (some ⟨w.heap.size + 1 + 1, 0, none⟩))
  rw [← hW8]
  obtain ⟨hx4, hy4, p2, p3, hfx, hfy, HB04⟩ := ALL.out
  have hx8 := hx4.below hb8
  have hy8 := hy4.below hb8
  have r3 : Boxed W8 w2.heap.size 47 (.pointer (some ⟨w.heap.size + 1 + 1, 0, none⟩)) := (hb8.block _ hlt3).trans p3
  have hm1 : w.heap.size + 1 < W8.heap.size := by omega
  have hl8 := HL.out
  clear hW8 G3 G4 G5 c3
  obtain ⟨F, hF⟩ : ∃ F, F = foot (w.heap.size + 1 + 1) (w.heap.size + 1) s1 := ⟨_, rfl⟩
  have hgF : w.heap.size + 1 + 1 ∈ F := by rw [hF]; simp [foot]
  have hmF : w.heap.size + 1 ∈ F := by rw [hF]; simp [foot]
  have hF4 : ∀ x ∈ F, w.heap.size < x ∧ x < w2.heap.size := by rw [hF]; exact hfx
  have h6F : w4.heap.size + 1 + 1 ∉ F := fun h => by have := hF4 _ h; omega
  have M0 : Mvd W8 (w.heap.size + 1) (w.heap.size + 1 + 1) (w.heap.size + 1) F (w4.heap.size + 1 + 1) 0 s1 ks W8 := ⟨hx8, fun b hb => .inl (by rw [hF]; simp [foot, hb]), r6, Turns.refl _ _⟩
  refine wpIn_rangeFunc_ownG (n := 6) rfl (by omega) (gf := 104) (lb := #[.pointer (some ⟨w4.heap.size + 1 + 1 + 1 + 1 + 1, 0, none⟩)]) rfl trivial (enters_of Try.func104 (by kernel_rfl) rfl)
    (encs := fun x : Nat × ByteArray => #[Value.int .i64 (x.1 : Int), .string x.2]) (Kp := fun X Y => Mv (w.heap.size + 1) (w.heap.size + 1 + 1) (w.heap.size + 1) (w4.heap.size + 1 + 1 + 1 + 1 + 1) X → Mv (w.heap.size + 1) (w.heap.size + 1 + 1) (w.heap.size + 1) (w4.heap.size + 1 + 1 + 1 + 1 + 1) Y)
    (S := fun ys => 0 < ks.length → ys ≠ []) (Sp := fun _ => True) (N := ks.length) (w0 := W8)
    (fun l J Jx W hW _ _ hY h0 => moveS 5 (by omega) l _ J Jx hY W (hx8.below hW) rfl (by omega) ((hW.cell (p := ⟨w4.heap.size + 1 + 1 + 1 + 1 + 1, 0, none⟩) rn.lt).trans rn.cell) h0)
    (fun h k x => k (h x)) (fun W l o o' hl h1 h2 _ ⟨sv, kv, i1, i2, i3⟩ => ⟨sv, kv, i1.quiet hm1 (grownBy_putObj' W l o') (fun r e => by cases e; exact ⟨hl, o, h1, h2⟩), i2, (World.cell?_of_block (a := ⟨w4.heap.size + 1 + 1 + 1 + 1 + 1, 0, none⟩) (World.putObj_heap_other (by show w4.heap.size + 1 + 1 + 1 + 1 + 1 ≠ l; omega))).trans i3⟩)
    (Below.refl _ _) (fun _ => rfl)
    (fun pre W => ∃ sv kx, Mvd W8 (w.heap.size + 1) (w.heap.size + 1 + 1) (w.heap.size + 1) F (w4.heap.size + 1 + 1) pre.length sv kx W ∧ kx.length ≤ ks.length ∧ (pre = [] → kx.length = ks.length) ∧ (pre ≠ [] → kx.length ≤ 1))
    (fun _ _ _ => False)
    (fun _ _ _ _ ⟨sv, kx, h1, h2⟩ hg hr => ⟨sv, kx, h1.quiet hm1 hg hr, h2⟩)
    (fun _ _ _ _ _ hs _ _ => hs)
    ⟨_, _, M0, Nat.le_refl _, fun _ => rfl, by simp⟩
    (fun x => { tmps := #[.slice A xs.length cap, undef, .pointer (some ⟨w.heap.size, 0, none⟩), .pointer (some ⟨w2.heap.size, 0, none⟩), .pointer (some ⟨w4.heap.size, 0, none⟩), .pointer (some ⟨w4.heap.size + 1, 0, none⟩), .pointer (some ⟨w4.heap.size + 1 + 1, 0, none⟩), .slice A xs.length cap, .pointer (some ⟨w.heap.size + 1 + 1, 0, none⟩), .slice A xs.length cap, .pointer (some ⟨w2.heap.size + 1 + 1, 0, none⟩), .pointer (some ⟨w.heap.size + 1 + 1, 0, none⟩), .bool false, .bool false, .pointer (some ⟨w2.heap.size + 1 + 1, 0, none⟩), .bool false, .bool false, .pointer (some ⟨w.heap.size + 1 + 1, 0, none⟩), .int .i64 ks.length, .pointer (some ⟨w.heap.size + 1 + 1, 0, none⟩), .func (.func 104) #[] #[.pointer (some ⟨w4.heap.size + 1 + 1 + 1, 0, none⟩)], .bool false, .bool false, .pointer (some ⟨w2.heap.size + 1 + 1, 0, none⟩), .func (.func 104) #[] #[.pointer (some ⟨w4.heap.size + 1 + 1 + 1 + 1, 0, none⟩)], .bool false, .bool false, .pointer (some ⟨w.heap.size + 1 + 1, 0, none⟩), .func (.func 104) #[] #[.pointer (some ⟨w4.heap.size + 1 + 1 + 1 + 1 + 1, 0, none⟩)], .int .i64 (x.1 : Int), .string x.2, undef, undef, undef, undef, undef, undef, undef, undef, undef, undef, undef, undef, undef, undef, undef, undef, undef, undef, undef, undef, undef, undef, undef, undef, undef, undef, undef, undef, undef, undef, undef, undef, undef, undef], defers := [] }) ?assign ?body ?done ?stop
  case assign =>
    intro l x W K hK
    gi_wp2
    exact hK
  case body =>
    rintro l pre x W' ⟨sv, kx, hM, hk1, hk2, hk3⟩ hlt
    have hpl : pre.length < ks.length := hlt
    have M2 := hM.up (pre.length + 1) (by omega) h6F hgF hmF
    push_cast at M2
    have M3 := Lib.hid M2
    have c0 := hM.count.cell
    have f0 := hM.count.frozen
    have CC := Lib.hid (fun (p : Nat) (sv : Value) (kx : List ByteArray) (W : World) (h : Mvd W8 (w.heap.size + 1) (w.heap.size + 1 + 1) (w.heap.size + 1) F (w4.heap.size + 1 + 1) p sv kx W) => (show W.cell? ⟨w2.heap.size, 0, none⟩ = some (.pointer (some ⟨w.heap.size + 1 + 1, 0, none⟩)) ∧ W.cell? ⟨w4.heap.size + 1, 0, none⟩ = some (.int .i64 ks.length) ∧ W.cell? ⟨w4.heap.size + 1 + 1, 0, none⟩ = some (.int .i64 (p : Int)) ∧ W.cell? ⟨w4.heap.size + 1 + 1 + 1 + 1 + 1, 0, none⟩ = some (.pointer (some ⟨w.heap.size + 1 + 1, 0, none⟩)) from
      ⟨(h.turns.cell (o := 0) (by omega) (fun h => by rcases List.mem_cons.1 h with h | h; omega; have := hF4 _ h; omega)).trans r3.cell, (h.turns.cell (o := 0) (by omega) (fun h => by rcases List.mem_cons.1 h with h | h; omega; have := hF4 _ h; omega)).trans r5.cell, h.count.cell,
        (h.turns.cell (o := 0) (by omega) (fun h => by rcases List.mem_cons.1 h with h | h; omega; have := hF4 _ h; omega)).trans rn.cell⟩))
    obtain ⟨c3, c5, -, -⟩ := CC.out _ _ _ _ hM
    have hlk : ks.length ≤ 1100000 := by omega
    have n7 : (0 : Int) ≤ ((pre.length : Int) + 1) % 2 := by omega
    have n8 : ((pre.length : Int) + 1) % 2 ≤ 1 := by omega
    have CU := Lib.hid (cutS M2.ids (((pre.length : Int) + 1) % 2) (by omega) (by omega) (by omega))
    have HM := Lib.hid hM
    have PL := Lib.hid (And.intro hpl (And.intro hs8 (And.intro hlt3 (And.intro q1 q2))))
    have hkt : (kx.take (((pre.length : Int) + 1) % 2).toNat).length ≤ 1 := by rw [List.length_take]; omega
    have hnm : decide ((ks.length : Int) < (pre.length : Int) + 1) = false := by simp; omega
    have hnm2 : decide (ks.length < pre.length + 1) = false := by simp; omega
    clear M2 hM n7 n8 hpl
    gi_wp2_with (refine ⟨trivial, ?_⟩; gi_at_call 72; refine (CallsIn.inRound l (callsIn_wide.2 CU.out)).mono ?_; rintro e w5 ⟨rfl, hl⟩; obtain ⟨sv', M5, T5⟩ := M3.out.left hl (by omega) h6F hgF hmF; obtain ⟨-, d5, d6, dn⟩ := CC.out _ _ _ _ M5; push_cast at d6; have HR := Lib.hid (And.intro M5 (And.intro T5 dn)); clear hl M5 T5 dn)
    obtain ⟨M5, T5, dn⟩ := HR.out
    exact ⟨HM.out.keeps _ (by omega) (by omega) (by omega) T5, fun _ => ⟨sv', _, M5.ids, by omega, dn⟩, sv', _, by rw [List.length_append]; exact M5, by omega, fun h => by simp at h, fun _ => hkt⟩
  case done =>
    rintro D ys W' hD hne ⟨sv, kx, hM, hk1, hk2, hk3⟩ hK
    have hkx : kx.length ≤ 1 := by
      by_cases h0 : ys = []
      · have := hk2 h0
        by_cases hz : 0 < ks.length
        · exact absurd h0 (hne hz)
        · omega
      · exact hk3 h0
    have c6 := hM.count.cell
    have f6 := hM.count.frozen
    have T1 := hM.turns
    have s1' := T1.size
    have bD := lt_of_heap hK
    have nF : ∀ x, w.heap.size < x → x < w2.heap.size ∨ x ∉ F := fun x _ => by
      by_cases h : x ∈ F
      · exact .inl (hF4 x h).2
      · exact .inr h
    have kept : ∀ b, b < W8.heap.size → (b ≤ w.heap.size ∨ w2.heap.size ≤ b) → b ≠ w4.heap.size + 1 + 1 → W'.heap[b]? = W8.heap[b]? := fun b h1 h2 h3 => T1.block b h1 (fun hm => by rcases List.mem_cons.1 hm with h | h; exact h3 h; have := hF4 _ h; omega)
    have r2' : Boxed W' w.heap.size 4 (.bool false) := (kept _ (by omega) (by omega) (by omega)).trans ((hb8.block _ (by omega)).trans p2)
    have r3' : Boxed W' w2.heap.size 47 (.pointer (some ⟨w.heap.size + 1 + 1, 0, none⟩)) := (kept _ (by omega) (by omega) (by omega)).trans r3
    have r4' : Boxed W' w4.heap.size 47 (.pointer (some ⟨w2.heap.size + 1 + 1, 0, none⟩)) := (kept _ (by omega) (by omega) (by omega)).trans r4
    have r5' : Boxed W' (w4.heap.size + 1) 3 (.int .i64 ks.length) := (kept _ (by omega) (by omega) (by omega)).trans r5
    have hy' : IdsAt Try.prog kindS (w2.heap.size + 1) W' (w2.heap.size + 1 + 1) (w2.heap.size + 1) s2 ks := hy8.turns T1 (fun x hx hm => by have := hfy x hx; rcases List.mem_cons.1 hm with h | h; omega; have := hF4 _ h; omega)
    have c4 := r4'.cell
    have hlt4 : w4.heap.size < W'.heap.size := by omega
    gi_wp2_with (refine ⟨trivial, ?_⟩; gi_at_call 85; refine (callsIn_wide.2 (allS _ _)).mono ?_; rintro e w' ⟨rfl, rfl⟩)
    obtain ⟨W9, hW9⟩ : ∃ W9, W9 = (W'.setCell ⟨w4.heap.size + 1 + 1, 0, none⟩ (.int .i64 0)).alloc (.cells #[.pointer (some ⟨w2.heap.size + 1 + 1, 0, none⟩)] 47) := ⟨_, rfl⟩
    have T9 : Turns [w4.heap.size + 1 + 1] W' W9 := by rw [hW9]; exact ((Turns.refl _ _).setCell (.inl (by simp)) _).alloc _
    have hs9 : W9.heap.size = W'.heap.size + 1 := by rw [hW9]; simp
    have z6 : Boxed W9 (w4.heap.size + 1 + 1) 3 (.int .i64 0) := by rw [hW9]; exact (hM.count.set _).alloc _
    have zn : Boxed W9 W'.heap.size 47 (.pointer (some ⟨w2.heap.size + 1 + 1, 0, none⟩)) := by rw [hW9]; simpa using Boxed.new (W'.setCell ⟨w4.heap.size + 1 + 1, 0, none⟩ (.int .i64 0)) 47 (.pointer (some ⟨w2.heap.size + 1 + 1, 0, none⟩))
    rw [← hW9]
    have kept9 : ∀ b, b < W'.heap.size → b ≠ w4.heap.size + 1 + 1 → W9.heap[b]? = W'.heap[b]? := fun b h1 h2 => T9.block b h1 (by simpa using h2)
    have z2 : Boxed W9 w.heap.size 4 (.bool false) := (kept9 _ (by omega) (by omega)).trans r2'
    have z3 : Boxed W9 w2.heap.size 47 (.pointer (some ⟨w.heap.size + 1 + 1, 0, none⟩)) := (kept9 _ (by omega) (by omega)).trans r3'
    have z4 : Boxed W9 w4.heap.size 47 (.pointer (some ⟨w2.heap.size + 1 + 1, 0, none⟩)) := (kept9 _ (by omega) (by omega)).trans r4'
    have z5 : Boxed W9 (w4.heap.size + 1) 3 (.int .i64 ks.length) := (kept9 _ (by omega) (by omega)).trans r5'
    have zD : W9.heap[D]? = some (.deferred (some [])) := (kept9 _ bD (by omega)).trans hK
    have hy9 : IdsAt Try.prog kindS (w2.heap.size + 1) W9 (w2.heap.size + 1 + 1) (w2.heap.size + 1) s2 ks := hy'.turns T9 (fun x hx hm => by have := hfy x hx; have := List.mem_singleton.1 hm; omega)
    have hx9 : IdsAt Try.prog kindS (w.heap.size + 1) W9 (w.heap.size + 1 + 1) (w.heap.size + 1) sv kx := (hM.up 0 (by omega) h6F hgF hmF).ids.below (by rw [hW9]; exact (Below.refl _ _).alloc (by simp) _)
    have hxf : ∀ x ∈ foot (w.heap.size + 1 + 1) (w.heap.size + 1) sv, (x < w2.heap.size ∨ W8.heap.size ≤ x) ∧ x < W'.heap.size := fun x hx => by
      refine ⟨?_, (hM.ids.foot_lt x hx).2⟩
      simp only [foot, List.mem_cons] at hx
      rcases hx with rfl | rfl | hx
      · exact .inl (hF4 _ hgF).2
      · exact .inl (hF4 _ hmF).2
      · rcases hM.new x (by simpa using hx) with h | h
        · exact .inl (hF4 _ h).2
        · exact .inr h
    have HBW : Below w.heap.size w W9 := ((HB04.trans (hb8.mono (by omega))).trans (T1.below (by omega) (fun x hx => by rcases List.mem_cons.1 hx with h | h; omega; have := hF4 _ h; omega))).trans (T9.below (by omega) (fun x hx => by have := List.mem_singleton.1 hx; omega))
    have FX := Lib.hid (And.intro hx9 (And.intro hxf (And.intro HBW (And.intro zD (And.intro hkx hD)))))
    clear hx9 hxf HBW zD hkx hM hk1 hk2 hk3 hne kept kept9 r2' r3' r4' r5' r3 r4 r5 r6 rn T1 T9 c4 c6 f6 hy' hK M0 hx8 hy8 hx4 hy4 nF hF4 hgF hmF h6F hfx
    obtain ⟨F2, hF2⟩ : ∃ F2, F2 = foot (w2.heap.size + 1 + 1) (w2.heap.size + 1) s2 := ⟨_, rfl⟩
    have hgF : w2.heap.size + 1 + 1 ∈ F2 := by rw [hF2]; simp [foot]
    have hmF : w2.heap.size + 1 ∈ F2 := by rw [hF2]; simp [foot]
    have hF4 : ∀ x ∈ F2, w2.heap.size < x ∧ x < w4.heap.size := by rw [hF2]; exact hfy
    have h6F : w4.heap.size + 1 + 1 ∉ F2 := fun h => by have := hF4 _ h; omega
    have M0 : Mvd W9 (w2.heap.size + 1) (w2.heap.size + 1 + 1) (w2.heap.size + 1) F2 (w4.heap.size + 1 + 1) 0 s2 ks W9 := ⟨hy9, fun b hb => .inl (by rw [hF2]; simp [foot, hb]), z6, Turns.refl _ _⟩
    have hm2 : w2.heap.size + 1 < W9.heap.size := by omega
    have hlk2 : ks.length ≤ 1100000 := by omega
    refine wpIn_rangeFunc_ownG (n := 6) rfl (by omega) (gf := 104) (lb := #[.pointer (some ⟨W'.heap.size, 0, none⟩)]) rfl trivial (enters_of Try.func104 (by kernel_rfl) rfl)
      (encs := fun x : Nat × ByteArray => #[Value.int .i64 (x.1 : Int), .string x.2]) (Kp := fun X Y => Mv (w2.heap.size + 1) (w2.heap.size + 1 + 1) (w2.heap.size + 1) W'.heap.size X → Mv (w2.heap.size + 1) (w2.heap.size + 1 + 1) (w2.heap.size + 1) W'.heap.size Y)
      (S := fun ys => 0 < ks.length → ys ≠ []) (Sp := fun _ => True) (N := ks.length) (w0 := W9)
      (fun l J Jx W hW _ _ hY h0 => moveS 5 (by omega) l _ J Jx hY W (hy9.below hW) rfl (by omega) ((hW.cell (p := ⟨W'.heap.size, 0, none⟩) zn.lt).trans zn.cell) h0)
      (fun h k x => k (h x)) (fun W l o o' hl h1 h2 _ ⟨sv, kv, i1, i2, i3⟩ => ⟨sv, kv, i1.quiet hm2 (grownBy_putObj' W l o') (fun r e => by cases e; exact ⟨hl, o, h1, h2⟩), i2, (World.cell?_of_block (a := ⟨W'.heap.size, 0, none⟩) (World.putObj_heap_other (by show W'.heap.size ≠ l; omega))).trans i3⟩)
      (Below.refl _ _) (fun _ => rfl)
      (fun pre W => ∃ sv kx, Mvd W9 (w2.heap.size + 1) (w2.heap.size + 1 + 1) (w2.heap.size + 1) F2 (w4.heap.size + 1 + 1) pre.length sv kx W ∧ kx.length ≤ ks.length + pre.length)
      (fun _ _ _ => False)
      (fun _ _ _ _ ⟨sv, kx, h1, h2⟩ hg hr => ⟨sv, kx, h1.quiet hm2 hg hr, h2⟩)
      (fun _ _ _ _ _ hs _ _ => hs)
      ⟨_, _, M0, by omega⟩
      (fun x => { tmps := #[.slice A xs.length cap, undef, .pointer (some ⟨w.heap.size, 0, none⟩), .pointer (some ⟨w2.heap.size, 0, none⟩), .pointer (some ⟨w4.heap.size, 0, none⟩), .pointer (some ⟨w4.heap.size + 1, 0, none⟩), .pointer (some ⟨w4.heap.size + 1 + 1, 0, none⟩), .slice A xs.length cap, .pointer (some ⟨w.heap.size + 1 + 1, 0, none⟩), .slice A xs.length cap, .pointer (some ⟨w2.heap.size + 1 + 1, 0, none⟩), .pointer (some ⟨w.heap.size + 1 + 1, 0, none⟩), .bool false, .bool false, .pointer (some ⟨w2.heap.size + 1 + 1, 0, none⟩), .bool false, .bool false, .pointer (some ⟨w.heap.size + 1 + 1, 0, none⟩), .int .i64 ks.length, .pointer (some ⟨w.heap.size + 1 + 1, 0, none⟩), .func (.func 104) #[] #[.pointer (some ⟨w4.heap.size + 1 + 1 + 1, 0, none⟩)], .bool false, .bool false, .pointer (some ⟨w2.heap.size + 1 + 1, 0, none⟩), .func (.func 104) #[] #[.pointer (some ⟨w4.heap.size + 1 + 1 + 1 + 1, 0, none⟩)], .bool false, .bool false, .pointer (some ⟨w.heap.size + 1 + 1, 0, none⟩), .func (.func 104) #[] #[.pointer (some ⟨w4.heap.size + 1 + 1 + 1 + 1 + 1, 0, none⟩)], undef, undef, undef, undef, undef, undef, undef, undef, undef, undef, undef, .pointer (some ⟨w2.heap.size + 1 + 1, 0, none⟩), .func (.func 104) #[] #[.pointer (some ⟨W'.heap.size, 0, none⟩)], .int .i64 (x.1 : Int), .string x.2, undef, undef, undef, undef, undef, undef, undef, undef, undef, undef, undef, undef, undef, undef, undef, undef, undef, undef, undef, undef, undef], defers := [] }) ?assign2 ?body2 ?done2 ?stop2
    case assign2 =>
      intro l x W K hK
      gi_wp2
      exact hK
    case body2 =>
      rintro l pre x V ⟨sv, kx, hM, hk1⟩ hlt
      have hpl : pre.length < ks.length := hlt
      have M2 := hM.up (pre.length + 1) (by omega) h6F hgF hmF
      push_cast at M2
      have M3 := Lib.hid M2
      have c0 := hM.count.cell
      have f0 := hM.count.frozen
      have CC := Lib.hid (fun (p : Nat) (sv : Value) (kx : List ByteArray) (W : World) (h : Mvd W9 (w2.heap.size + 1) (w2.heap.size + 1 + 1) (w2.heap.size + 1) F2 (w4.heap.size + 1 + 1) p sv kx W) => (show W.cell? ⟨w4.heap.size, 0, none⟩ = some (.pointer (some ⟨w2.heap.size + 1 + 1, 0, none⟩)) ∧ W.cell? ⟨w4.heap.size + 1, 0, none⟩ = some (.int .i64 ks.length) ∧ W.cell? ⟨w4.heap.size + 1 + 1, 0, none⟩ = some (.int .i64 (p : Int)) ∧ W.cell? ⟨W'.heap.size, 0, none⟩ = some (.pointer (some ⟨w2.heap.size + 1 + 1, 0, none⟩)) from
        ⟨(h.turns.cell (o := 0) (by omega) (fun h => by rcases List.mem_cons.1 h with h | h; omega; have := hF4 _ h; omega)).trans z4.cell, (h.turns.cell (o := 0) (by omega) (fun h => by rcases List.mem_cons.1 h with h | h; omega; have := hF4 _ h; omega)).trans z5.cell, h.count.cell,
          (h.turns.cell (o := 0) (by omega) (fun h => by rcases List.mem_cons.1 h with h | h; omega; have := hF4 _ h; omega)).trans zn.cell⟩))
      obtain ⟨c3, c5, -, -⟩ := CC.out _ _ _ _ hM
      have HM := Lib.hid hM
      have PL := Lib.hid (And.intro hpl (And.intro hs9 (And.intro hlt3 (And.intro q1 q2))))
      have hnm : decide ((ks.length : Int) < (pre.length : Int) + 1) = false := by simp; omega
      have hnm2 : decide (ks.length < pre.length + 1) = false := by simp; omega
      obtain ⟨b1, hb1⟩ : ∃ b : UInt8, (b.toNat : Int) = ((pre.length : Int) + 1) % 256 := ⟨UInt8.ofNat ((pre.length + 1) % 256), by rw [UInt8.toNat_ofNat']; omega⟩
      obtain ⟨b2, hb2⟩ : ∃ b : UInt8, (b.toNat : Int) = ((pre.length : Int) + 1) / 256 % 256 := ⟨UInt8.ofNat ((pre.length + 1) / 256 % 256), by rw [UInt8.toNat_ofNat']; omega⟩
      obtain ⟨b3, hb3⟩ : ∃ b : UInt8, (b.toNat : Int) = ((pre.length : Int) + 1) / 65536 := ⟨UInt8.ofNat ((pre.length + 1) / 65536), by rw [UInt8.toNat_ofNat']; omega⟩
      have hcv := run_convert_bytes_back (P := Try.prog) ((V.setCell ⟨w4.heap.size + 1 + 1, 0, none⟩ (.int .i64 ((pre.length : Int) + 1))).alloc (.cells #[.int .u8 (((pre.length : Int) + 1) % 256), .int .u8 (((pre.length : Int) + 1) / 256 % 256), .int .u8 (((pre.length : Int) + 1) / 65536)] 5)) 126 9 5 ⟨V.heap.size, 0, none⟩ 3 [b1, b2, b3] Try.underlying126 Try.underlying5 Try.underlying9 (fun j hj => by
        have hrow := heap_alloc_new (V.setCell ⟨w4.heap.size + 1 + 1, 0, none⟩ (.int .i64 ((pre.length : Int) + 1))) (.cells #[.int .u8 (((pre.length : Int) + 1) % 256), .int .u8 (((pre.length : Int) + 1) / 256 % 256), .int .u8 (((pre.length : Int) + 1) / 65536)] 5)
        simp only [World.size_setCell] at hrow
        rw [add_none, Nat.zero_add]
        match j, hj with
        | 0, _ => rw [cell_of_row _ _ 0 _ _ _ hrow, ← hb1]; rfl
        | 1, _ => rw [cell_of_row _ _ 1 _ _ _ hrow, ← hb2]; rfl
        | 2, _ => rw [cell_of_row _ _ 2 _ _ _ hrow, ← hb3]; rfl
        | j + 3, h => simp at h; omega)
      simp only [List.length_cons, List.length_nil] at hcv
      have IC := Lib.hid (fun (K : ByteArray) (hK : K.size ≤ maxLen) => (show Calls Try.prog 64 #[.pointer (some ⟨w2.heap.size + 1 + 1, 0, none⟩), .string K] ((V.setCell ⟨w4.heap.size + 1 + 1, 0, none⟩ (.int .i64 ((pre.length : Int) + 1))).alloc (.cells #[.int .u8 (((pre.length : Int) + 1) % 256), .int .u8 (((pre.length : Int) + 1) / 256 % 256), .int .u8 (((pre.length : Int) + 1) / 65536)] 5)) fun e w' => ∃ r sv' kv, e = .returned (.int .i64 r) ∧ Mvd W9 (w2.heap.size + 1) (w2.heap.size + 1 + 1) (w2.heap.size + 1) F2 (w4.heap.size + 1 + 1) (pre.length + 1) sv' kv w' ∧ kv.length ≤ kx.length + 1 ∧ Turns (foot (w2.heap.size + 1 + 1) (w2.heap.size + 1) sv) (V.setCell ⟨w4.heap.size + 1 + 1, 0, none⟩ (.int .i64 ((pre.length : Int) + 1))) w' by
        obtain ⟨r, hI, _⟩ := intern_two (ks := kx) K hK (by omega)
        have hsz := M2.ids.g_lt
        have BA : Below (V.setCell ⟨w4.heap.size + 1 + 1, 0, none⟩ (.int .i64 ((pre.length : Int) + 1))).heap.size (V.setCell ⟨w4.heap.size + 1 + 1, 0, none⟩ (.int .i64 ((pre.length : Int) + 1))) ((V.setCell ⟨w4.heap.size + 1 + 1, 0, none⟩ (.int .i64 ((pre.length : Int) + 1))).alloc (.cells #[.int .u8 (((pre.length : Int) + 1) % 256), .int .u8 (((pre.length : Int) + 1) / 256 % 256), .int .u8 (((pre.length : Int) + 1) / 65536)] 5)) := (Below.refl _ _).alloc (Nat.le_refl _) _
        have MA : Mvd W9 (w2.heap.size + 1) (w2.heap.size + 1 + 1) (w2.heap.size + 1) F2 (w4.heap.size + 1 + 1) (pre.length + 1) sv kx ((V.setCell ⟨w4.heap.size + 1 + 1, 0, none⟩ (.int .i64 ((pre.length : Int) + 1))).alloc (.cells #[.int .u8 (((pre.length : Int) + 1) % 256), .int .u8 (((pre.length : Int) + 1) / 256 % 256), .int .u8 (((pre.length : Int) + 1) / 65536)] 5)) := ⟨M2.ids.below BA, M2.new, M2.count.alloc _, M2.turns.alloc _⟩
        refine (hI _ _ _ _ _ (by have := MA.turns.size; omega) MA.ids).mono ?_
        rintro e w' ⟨rfl, hl⟩
        obtain ⟨sv', M5, T5⟩ := MA.left hl (by omega) h6F hgF hmF
        exact ⟨r, sv', _, rfl, M5, addK_len _ _, (Turns.of_below (S := foot (w2.heap.size + 1 + 1) (w2.heap.size + 1) sv) BA).trans T5 (fun x hx => .inl hx)⟩))
      have IK := Lib.hid (IC.out (⟨#[110, 101, 119, 32]⟩ ++ ⟨#[b1, b2, b3]⟩) (by rw [ByteArray.size_append]; show 4 + 3 ≤ maxLen; decide))
      clear M2 hM hb1 hb2 hb3 hpl IC
      gi_wp2_with (refine ⟨trivial, ?_⟩; gi_at_call 64; refine (CallsIn.inRound l (callsIn_wide.2 IK.out)).mono ?_; rintro e w5 ⟨r, sv', kv, rfl, M5, hkv, T5⟩; obtain ⟨-, d5, d6, dn⟩ := CC.out _ _ _ _ M5; push_cast at d6; have HR := Lib.hid (And.intro M5 (And.intro hkv (And.intro T5 dn))); clear M5 hkv T5 dn)
      obtain ⟨M5, hkv, T5, dn⟩ := HR.out
      have hpl := PL.out.1
      exact ⟨HM.out.keeps _ (by omega) (by omega) (by omega) T5, fun _ => ⟨sv', _, M5.ids, by omega, dn⟩, sv', _, by rw [List.length_append]; exact M5, by rw [List.length_append]; simp; omega⟩
    case done2 =>
      rintro D2 ys V hD2 - ⟨sv2, kx2, hM, -⟩ hK2
      obtain ⟨hx9, hxf, HBW, zD, hkx, hD⟩ := FX.out
      have T2 := hM.turns
      have s2' := T2.size
      have kept2 : ∀ b, b < W9.heap.size → (b ≤ w2.heap.size ∨ w4.heap.size ≤ b) → b ≠ w4.heap.size + 1 + 1 → V.heap[b]? = W9.heap[b]? := fun b h1 h2 h3 => T2.block b h1 (fun hm => by rcases List.mem_cons.1 hm with h | h; exact h3 h; have := hF4 _ h; omega)
      have hbD := lt_of_heap zD
      have y2 : Boxed V w.heap.size 4 (.bool false) := (kept2 _ (by omega) (by omega) (by omega)).trans z2
      have y3 : Boxed V w2.heap.size 47 (.pointer (some ⟨w.heap.size + 1 + 1, 0, none⟩)) := (kept2 _ (by omega) (by omega) (by omega)).trans z3
      have yD : V.heap[D]? = some (.deferred (some [])) := (kept2 _ hbD (by omega) (by omega)).trans zD
      have hxV : IdsAt Try.prog kindS (w.heap.size + 1) V (w.heap.size + 1 + 1) (w.heap.size + 1) sv kx := hx9.turns T2 (fun x hx hm => by
        have := hxf x hx
        rcases List.mem_cons.1 hm with h | h
        · omega
        · have := hF4 _ h
          omega)
      have HBV : Below w.heap.size w V := HBW.trans (T2.below (by omega) (fun x hx => by rcases List.mem_cons.1 hx with h | h; omega; have := hF4 _ h; omega))
      have LV := Lib.hid (lenS hxV)
      have c3 := y3.cell
      have c2 := y2.cell
      have f2 := y2.frozen
      have hlen1 : (kx.length : Int) ≤ 1 := by omega
      have HV := Lib.hid (And.intro HBV (And.intro yD (And.intro hK2 y2)))
      have hDD : D < D2 := by omega
      clear hx9 hxf HBW zD T2 kept2 hxV HBV y2 y3 yD hK2 hM hkx
      gi_wp2_with (refine ⟨trivial, ?_⟩; gi_at_call 46; refine (callsIn_wide.2 LV.out).mono ?_; rintro e w' ⟨rfl, rfl⟩)
      obtain ⟨HBV, yD, hK2, y2⟩ := HV.out
      have lD2 := lt_of_heap hK2
      have k2 : (V.setCell ⟨w.heap.size, 0, none⟩ (.bool true)).heap[D2]? = some (.deferred (some [])) := (Below.heap_setCell _ _ _ _ (by show D2 ≠ w.heap.size; omega)).trans hK2
      have k1 : ((V.setCell ⟨w.heap.size, 0, none⟩ (.bool true)).putObj D2 (.deferred none)).heap[D]? = some (.deferred (some [])) := (World.putObj_heap_other (by omega)).trans ((Below.heap_setCell _ _ _ _ (by show D ≠ w.heap.size; omega)).trans yD)
      have z2' : Boxed (((V.setCell ⟨w.heap.size, 0, none⟩ (.bool true)).putObj D2 (.deferred none)).putObj D (.deferred none)) w.heap.size 4 (.bool true) := (World.putObj_heap_other (by omega)).trans ((World.putObj_heap_other (by omega)).trans (y2.set (.bool true)))
      refine ⟨by simp, .inl ⟨_, _, rfl, run_takeDeferred k2, ?_⟩⟩
      refine ⟨by simp, .inl ⟨_, _, rfl, run_takeDeferred k1, ?_⟩⟩
      have cz := z2'.cell
      refine ⟨.bool true, by simp [results, Try.results45, go_sem, cz], rfl, ?_⟩
      exact ((HBV.setCell (p := ⟨w.heap.size, 0, none⟩) (Nat.le_refl _) _).trans (belowK_b (w := w) (Nat.le_refl _) _ D2 _ _ (by omega) k2 rfl rfl)).trans (belowK_b (w := w) (Nat.le_refl _) _ D _ _ (by omega) k1 rfl rfl)
    case stop2 =>
      rintro D c pre W' _ _ h _
      exact h.elim
  case stop =>
    rintro D c pre W' _ _ h _
    exact h.elim
end Go.Proofs.Ytblonickpmogiaa
