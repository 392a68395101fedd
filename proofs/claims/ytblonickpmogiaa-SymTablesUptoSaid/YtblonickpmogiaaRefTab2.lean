/- The walks of the document's Table (edictref01), second part: Intern, All, Cut. -/
import Derived.Test.YtblonickpmogiaaRefTab
import Derived.Test.YtblonickpmogiaaTable
namespace Go.Proofs.Ytblonickpmogiaa
open Go.RowKit Go.Maps
attribute [local go_sem ↓] Go.wp_at_zero Go.wp_at_succ

section
variable {base g : Nat} {sv : Value} {ks : List Cst} {w : World}

set_option maxRecDepth 100000 in
theorem internRT_bad {c : Cst} (hc : c.s.size ≤ maxLen) (hv : validB c = false) :
    Calls Try.prog 86 #[.pointer (some ⟨g, 0, none⟩), .agg #[.int .i64 c.k, .int .i64 c.n, .string c.s]] w fun e w' => e = .returned (.tuple #[.int .i64 0, .int .i64 5]) ∧ Below w.heap.size w w' := by
  have V := rvalidW c hc
  rw [hv] at V
  have VV := Lib.hid V
  have b0 : Below w.heap.size w (w.alloc (.cells #[.int .i64 c.k, .int .i64 c.n, .string c.s] 27)) := (Below.refl _ _).alloc (Nat.le_refl _) _
  clear V hv
  go_enter Try.func86, Try.ntmps86
  go_wp2_with fail
  refine (VV.out _).mono ?_
  rintro e w1 ⟨rfl, b1⟩
  go_wp2_with fail
  go_ret2
  exact ⟨rfl, b0.trans (b1.mono b0.size)⟩

set_option maxRecDepth 100000 in
theorem internRT_old (h : RTab base w g sv ks) (hlen : ks.length ≤ 70000) {c : Cst} (hc : c.s.size ≤ maxLen) (hv : validB c = true) (nd : ks.Nodup) {i : Nat} (hi : ks[i]? = some c) :
    Calls Try.prog 86 #[.pointer (some ⟨g, 0, none⟩), .agg #[.int .i64 c.k, .int .i64 c.n, .string c.s]] w fun e w' => e = .returned (.tuple #[.int .i64 i, .int .i64 0]) ∧ Below w.heap.size w w' := by
  have V := rvalidW c hc
  rw [hv] at V
  have VV := Lib.hid V
  have b0 : Below w.heap.size w (w.alloc (.cells #[.int .i64 c.k, .int .i64 c.n, .string c.s] 27)) := (Below.refl _ _).alloc (Nat.le_refl _) _
  have FW := Lib.hid (fun W (hW : Below w.heap.size w W) => findRT (h.below hW) hlen c i (placeC_nodup nd hi))
  have f1 : (0 : Int) ≤ (i : Int) := by omega
  clear V hv h hi nd
  go_enter Try.func86, Try.ntmps86
  go_wp2_with fail
  refine (VV.out _).mono ?_
  rintro e w1 ⟨rfl, b1⟩
  obtain ⟨x0, x1, x2⟩ := box_cells b1
  have B1 := Lib.hid (b0.trans (b1.mono b0.size))
  clear b1
  go_wp2_with fail
  refine (FW.out _ B1.out).mono ?_
  rintro e w2 ⟨rfl, b2⟩
  go_wp2_with fail
  go_ret2
  exact ⟨rfl, below_step B1.out b2⟩

set_option maxRecDepth 100000 in
theorem internRT_full (h : RTab base w g sv ks) (hlen : ks.length ≤ 70000) (hn : 65536 ≤ ks.length) {c : Cst} (hc : c.s.size ≤ maxLen) (hv : validB c = true) (hk : c ∉ ks) :
    Calls Try.prog 86 #[.pointer (some ⟨g, 0, none⟩), .agg #[.int .i64 c.k, .int .i64 c.n, .string c.s]] w fun e w' => e = .returned (.tuple #[.int .i64 0, .int .i64 6]) ∧ Below w.heap.size w w' := by
  have V := rvalidW c hc
  rw [hv] at V
  have VV := Lib.hid V
  have b0 : Below w.heap.size w (w.alloc (.cells #[.int .i64 c.k, .int .i64 c.n, .string c.s] 27)) := (Below.refl _ _).alloc (Nat.le_refl _) _
  have FW := Lib.hid (fun W (hW : Below w.heap.size w W) => findRT (h.below hW) hlen c (-1) (.inr ⟨rfl, hk⟩))
  obtain ⟨a, cp, rfl⟩ := h.form
  have C0 := Lib.hid (fun W (hW : Below w.heap.size w W) => (h.below hW).c0)
  have hq : decide ((65536 : Int) ≤ (ks.length : Int)) = true := decide_eq_true (by omega)
  clear V hv h hk hn hlen
  go_enter Try.func86, Try.ntmps86
  go_wp2_with fail
  refine (VV.out _).mono ?_
  rintro e w1 ⟨rfl, b1⟩
  obtain ⟨x0, x1, x2⟩ := box_cells b1
  have B1 := Lib.hid (b0.trans (b1.mono b0.size))
  clear b1
  go_wp2_with fail
  refine (FW.out _ B1.out).mono ?_
  rintro e w2 ⟨rfl, b2⟩
  have B2 := Lib.hid (below_step B1.out b2)
  have c0 := C0.out _ B2.out
  clear b2
  go_wp2_with fail
  go_ret2
  exact ⟨rfl, B2.out⟩

set_option maxRecDepth 100000 in
set_option maxHeartbeats 1000000 in
theorem internRT_new (h : RTab base w g sv ks) (hbase : base ≤ w.heap.size) (hn : ks.length < 65536) {c : Cst} (hc : c.s.size ≤ maxLen) (hv : validB c = true) (hk : c ∉ ks) :
    Calls Try.prog 86 #[.pointer (some ⟨g, 0, none⟩), .agg #[.int .i64 c.k, .int .i64 c.n, .string c.s]] w fun e w' => e = .returned (.tuple #[.int .i64 ks.length, .int .i64 0]) ∧ RTLeft base w g sv (ks ++ [c]) w' := by
  have V := rvalidW c hc
  rw [hv] at V
  have VV := Lib.hid V
  have b0 : Below w.heap.size w (w.alloc (.cells #[.int .i64 c.k, .int .i64 c.n, .string c.s] 27)) := (Below.refl _ _).alloc (Nat.le_refl _) _
  have FW := Lib.hid (fun W (hW : Below w.heap.size w W) => findRT (h.below hW) (by omega) c (-1) (.inr ⟨rfl, hk⟩))
  obtain ⟨a, cp, rfl⟩ := h.form
  have HH := Lib.hid (fun W (hW : Below w.heap.size w W) => h.below hW)
  have hq : decide ((65536 : Int) ≤ (ks.length : Int)) = false := decide_eq_false (by omega)
  obtain ⟨i0, hi0, hz0, hz1, hz2⟩ := info_parts infoK
  have HN := Lib.hid hn
  clear V hv h hk hn
  go_enter Try.func86, Try.ntmps86
  go_wp2_with fail
  refine (VV.out _).mono ?_
  rintro e w1 ⟨rfl, b1⟩
  obtain ⟨x0, x1, x2⟩ := box_cells b1
  have B1 := Lib.hid (b0.trans (b1.mono b0.size))
  have B1' := Lib.hid b1
  clear b1
  go_wp2_with fail
  refine (FW.out _ B1.out).mono ?_
  rintro e w2 ⟨rfl, b2⟩
  have B2 := Lib.hid (below_step B1.out b2)
  have c0 := (HH.out _ B2.out).c0
  have hown := (HH.out _ B2.out).own
  have hd0 := (HH.out _ B2.out).c0
  have B2b := b2
  obtain ⟨y0, y1, y2⟩ := box_cells (B1'.out.trans (b2.mono B1'.out.size))
  have HR := Lib.hid (HH.out _ B2.out)
  have hglt := HR.out.lt
  have hxlt : w.heap.size < w2.heap.size := by have := B1'.out.size; simp at this; have := B2b.size; omega
  have hl6 : ks.length ≤ 70000 := by have := HN.out; omega
  have hb2 : base ≤ w2.heap.size := Nat.le_trans hbase B2.out.size
  clear b2 x0 x1 x2 hd0
  go_wp2
  go_region_law (first | (refine step_append1 _ (by rfl) (.tmp 26) (.tmp 28) 24 (by rfl) base 27 i0 _ 3 32 Try.underlying24 hi0 hz0 hz1 hz2 rfl (by decide) _ _ _ (by rfl) ((hown.alloc _).drew) ⟨w2.heap.size, 0, none⟩ 1 [.int .i64 c.k, .int .i64 c.n, .string c.s] (by rfl) (by rfl) (World.news_of_block (cs := #[.int .i64 c.k, .int .i64 c.n, .string c.s]) (t := 27) (fr := (0, 0)) (heap_alloc_new w2 _)) (by simp [Value.oneCell']) (by omega) (by decide) (by simp; omega) (w2.heap.size + 1) (by simp) ?_; intro g' cap w3 hown2 hgrow2 hat2 hlt2; have T3 := (((Turns.refl [] w2).alloc (.cells #[.int .i64 c.k, .int .i64 c.n, .string c.s] 27)).drew.mono (S' := (Value.slice a ks.length cp).ownBlock.toList) (fun _ h => by cases h)).trans (Turns.of_grown hgrow2) (fun x hx => .inl hx); obtain ⟨_, hc2, hf2⟩ := HR.out.far T3))
  all_goals go_wp2
  all_goals
    go_ret2
    refine ⟨rfl, RTLeft.after B2.out (HR.out.put (ks' := ks ++ [c]) T3 (by unfold OwnC; rw [List.length_append, List.flatMap_append]; simpa [Cst.cells] using hown2) (fun b hb => ?_))⟩
    rcases hat2 with h | h
    · exact .inl (h.trans hb)
    · right; simp only [Value.ownBlock, Option.some.injEq] at hb; omega

/-- Between two rounds of a copy. -/
inductive CopT (w : World) (ks : List Cst) (l i : Value) (wr : World) : Prop
  | mk (n : Nat) (hn : n ≤ ks.length) (hi : i = .int .i64 n) (ho : OwnC wr w.heap.size l (ks.take n)) (hb : Below w.heap.size w wr)

set_option maxRecDepth 100000 in
set_option maxHeartbeats 1000000 in
theorem allRT (h : RTab base w g sv ks) (hlen : ks.length ≤ 70000) :
    Calls Try.prog 92 #[.pointer (some ⟨g, 0, none⟩)] w fun e w' => ∃ l, e = .returned l ∧ OwnC w' w.heap.size l ks ∧ Below w.heap.size w w' := by
  obtain ⟨a, c, rfl⟩ := h.form
  obtain ⟨i0, hi0, hz0, hz1, hz2⟩ := info_parts infoK
  have H := Lib.hid h
  clear h
  go_enter Try.func92, Try.ntmps92
  go_wp2
  go_loopw [3, 4] (fun l i wr => CopT w ks l i wr) (fun _ i _ => ks.length - (intOf i).toNat)
  case atStart => exact .mk 0 (Nat.zero_le _) rfl (World.ownsRow_nil _ _ _ _) (Below.refl _ _)
  case round =>
    obtain ⟨n, hn, rfl, hr, hb⟩ := hrel
    have c0 := (H.out.below hb).c0
    have e1 : (0 : Int) ≤ (n : Int) := by omega
    by_cases hin : n < ks.length
    · obtain ⟨b, c', hf, _⟩ := H.out.form1 (by omega)
      simp only [Value.slice.injEq] at hf
      obtain ⟨rfl, _, rfl⟩ := hf
      obtain ⟨x, hx⟩ : ∃ x, x = ks[n] := ⟨_, rfl⟩
      have hxk : ks[n]? = some x := by rw [List.getElem?_eq_getElem hin, hx]
      obtain ⟨k0, k1, k2⟩ := (H.out.below hb).keyAt hxk
      have E := Lib.hid (show ks.take (n + 1) = ks.take n ++ [x] by rw [hx]; exact List.take_succ_eq_append_getElem hin)
      have e2 : (n : Int) < (ks.length : Int) := by omega
      have hsz := hb.size
      have hl : (ks.take n).length = n := by rw [List.length_take]; omega
      have HR := Lib.hid hr
      have HB := Lib.hid hb
      unfold OwnC at hr
      rw [hl] at hr
      clear hx hxk hb
      go_wp2_with (at_builtin; refine wpList_append_lies _ rfl (.tmp 14) (.tmp 22) 24 rfl w.heap.size 27 i0 (.agg #[.int .i64 0, .int .i64 0, .string ⟨#[]⟩]) 3 32 Try.underlying24 hi0 hz0 hz1 hz2 rfl (by decide) _ _ _ rfl (hr.alloc _) ⟨wr.heap.size, 0, none⟩ 1 1 x.cells rfl rfl (cst_news wr x) (cst_one x) (by decide) (by unfold maxLen; omega) (by omega) (by simp; omega) (wr.heap.size + 1) (by simp) ?_; intro g' cap w2 hown2 hgrow2 hat2 hlt2)
      obtain ⟨r2, b2⟩ := own_push HB.out HR.out (by rw [hl]; exact hown2) hgrow2
      exact ⟨.mk (n + 1) (by omega) (by go_num) (by rw [E.out]; exact r2) b2, by simp [intOf]; omega⟩
    · obtain rfl : n = ks.length := by omega
      rw [List.take_length] at hr
      go_wp2
      go_ret
      exact ⟨_, rfl, hr, hb⟩

/-- A list of the call's own is put in the keys' place. -/
theorem RTab.put_new {l : Value} {ks' : List Cst} {wr : World} (h : RTab base w g sv ks) (hb : Below w.heap.size w wr) (ho : OwnC wr w.heap.size l ks') (hbase : base ≤ w.heap.size) :
    RTLeft base w g sv ks' (wr.setCell ⟨g, 0, none⟩ l) :=
  h.put ((Turns.of_below (S := []) hb).mono (fun _ h => by cases h)) (ownC_weak ho hbase) (fun b hb => .inr (ownBlock_cells ho hb).1)

set_option maxRecDepth 100000 in
set_option maxHeartbeats 1000000 in
theorem cutRT (h : RTab base w g sv ks) (hbase : base ≤ w.heap.size) (hlen : ks.length ≤ 70000) (n : Int) (n1 : -9223372036854775808 ≤ n) (n2 : n ≤ 9223372036854775807) :
    Calls Try.prog 93 #[.pointer (some ⟨g, 0, none⟩), .int .i64 n] w fun e w' => e = .returned (.tuple #[]) ∧ RTLeft base w g sv (ks.take n.toNat) w' := by
  obtain ⟨a, c, rfl⟩ := h.form
  obtain ⟨i0, hi0, hz0, hz1, hz2⟩ := info_parts infoK
  have H := Lib.hid h
  have hglt := h.lt
  by_cases hn : n ≤ 0
  · have c0 := h.c0
    have f0 := h.f0
    have e0 : n.toNat = 0 := by omega
    rw [e0]
    have HF : Hid (RTLeft base w g (.slice a ks.length c) (ks.take 0) (w.setCell ⟨g, 0, none⟩ (.slice none 0 0))) := h.put_new (Below.refl _ _) (World.ownsRow_nil _ _ _ _) hbase
    clear h e0 n1 n2
    by_cases h0 : 0 < ks.length
    · have h0' : (0 : Int) < (ks.length : Int) := by omega
      go_enter Try.func93, Try.ntmps93
      go_wp2
      refine wp_loop_rounds 1 ?_
      rw [rounds_succ]
      go_wp2
      go_end0
      exact ⟨rfl, HF.out⟩
    · have h0' : (ks.length : Int) ≤ 0 := by omega
      go_enter Try.func93, Try.ntmps93
      go_wp2
      refine wp_loop_rounds 1 ?_
      rw [rounds_succ]
      go_wp2
      go_end0
      exact ⟨rfl, HF.out⟩
  · obtain ⟨m, rfl⟩ := Int.eq_ofNat_of_zero_le (show 0 ≤ n by omega)
    rw [Int.toNat_natCast]
    have hm0 : (0 : Int) < (m : Int) := by omega
    clear h hn
    go_enter Try.func93, Try.ntmps93
    go_wp2
    go_loopw [5, 6] (fun l i wr => CopT w ks l i wr ∧ (intOf i).toNat ≤ m) (fun _ i _ => ks.length - (intOf i).toNat)
    case atStart => exact ⟨.mk 0 (Nat.zero_le _) rfl (World.ownsRow_nil _ _ _ _) (Below.refl _ _), by simp [intOf]⟩
    case round =>
      obtain ⟨⟨i, hil, rfl, ho, hb⟩, him⟩ := hrel
      simp only [intOf, Int.toNat_natCast] at him
      have c0 := (H.out.below hb).c0
      by_cases hin : i < ks.length
      · have hin' : (i : Int) < (ks.length : Int) := by omega
        by_cases hgo : i < m
        · obtain ⟨b, c', hf, _⟩ := H.out.form1 (by omega)
          simp only [Value.slice.injEq] at hf
          obtain ⟨rfl, _, rfl⟩ := hf
          obtain ⟨x, hx⟩ : ∃ x, x = ks[i] := ⟨_, rfl⟩
          have hxk : ks[i]? = some x := by rw [List.getElem?_eq_getElem hin, hx]
          obtain ⟨k0, k1, k2⟩ := (H.out.below hb).keyAt hxk
          have E := Lib.hid (show ks.take (i + 1) = ks.take i ++ [x] by rw [hx]; exact List.take_succ_eq_append_getElem hin)
          have hii : (0 : Int) ≤ (i : Int) := by omega
          have him' : (i : Int) < (m : Int) := by omega
          have hsz := hb.size
          have hl : (ks.take i).length = i := by rw [List.length_take]; omega
          have HR := Lib.hid ho
          have HB := Lib.hid hb
          unfold OwnC at ho
          rw [hl] at ho
          clear hx hxk hb
          go_wp2_with (at_builtin; refine wpList_append_lies _ rfl (.tmp 23) (.tmp 31) 24 rfl w.heap.size 27 i0 (.agg #[.int .i64 0, .int .i64 0, .string ⟨#[]⟩]) 3 32 Try.underlying24 hi0 hz0 hz1 hz2 rfl (by decide) _ _ _ rfl (ho.alloc _) ⟨wr.heap.size, 0, none⟩ 1 1 x.cells rfl rfl (cst_news wr x) (cst_one x) (by decide) (by unfold maxLen; omega) (by omega) (by simp; omega) (wr.heap.size + 1) (by simp) ?_; intro g' cap w2 hown2 hgrow2 hat2 hlt2)
          obtain ⟨r2, b2⟩ := own_push HB.out HR.out (by rw [hl]; exact hown2) hgrow2
          exact ⟨⟨.mk (i + 1) (by omega) (by go_num) (by rw [E.out]; exact r2) b2, by simp [intOf]; omega⟩, by simp [intOf]; omega⟩
        · have hge : (m : Int) ≤ (i : Int) := by omega
          obtain rfl : i = m := by omega
          have f0 := (H.out.below hb).f0
          obtain ⟨la, lc, hle⟩ := own_anyC ho
          rw [show (ks.take i).length = i by rw [List.length_take]; omega] at hle
          subst hle
          have HF := Lib.hid (H.out.put_new hb ho hbase)
          clear ho
          go_wp2
          go_end0
          exact ⟨rfl, HF.out⟩
      · have hge : (ks.length : Int) ≤ (i : Int) := by omega
        obtain rfl : i = ks.length := by omega
        have f0 := (H.out.below hb).f0
        rw [List.take_length] at ho
        obtain ⟨la, lc, rfl⟩ := own_anyC ho
        have HF := Lib.hid (H.out.put_new (ks' := ks.take m) hb (by rw [List.take_of_length_le (show ks.length ≤ m from him)]; exact ho) hbase)
        clear ho
        go_wp2
        go_end0
        exact ⟨rfl, HF.out⟩
end
end Go.Proofs.Ytblonickpmogiaa
