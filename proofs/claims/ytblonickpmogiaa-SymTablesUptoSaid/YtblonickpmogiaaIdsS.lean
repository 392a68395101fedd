/- The walks of an Ids of strings (printed out of the text for ints). -/
import Derived.Test.YtblonickpmogiaaChecked
import Derived.Test.YtblonickpmogiaaIdsI
import Derived.StringKeys
import Derived.WalkLawsBesides
import Derived.WalkSpells
import Derived.Lib.Hide
import Derived.KernelRfl
import Derived.Maps.AppendAt
namespace Go.Proofs.Ytblonickpmogiaa
open Go.RowKit Go.Maps

def kindS : IdsKind ByteArray where
  tK := 9
  tE := 3
  tT := 106
  sz := 1
  cells := fun k => [.string k]
  val := fun k => .string k
  ne := by decide
  len := fun _ => rfl

theorem infoS : (Try.prog.info? 9).map (fun i => (i.zero, i.size, i.bytes)) = some (some (.string ⟨#[]⟩), 1, 16) := by kernel_rfl
theorem keyedS : Keyed Try.prog 9 := string_keyed Try.underlying9
theorem flatS (ks : List ByteArray) : ks.flatMap kindS.cells = ks.map Value.string := by
  induction ks with
  | nil => rfl
  | cons a l ih => rw [List.flatMap_cons, ih]; rfl


theorem findS_hit {base g m : Nat} {sv : Value} {ks : List ByteArray} {w : World} (h : IdsAt Try.prog kindS base w g m sv ks) {i : Nat} {k : ByteArray} (hk : ks[i]? = some k) :
    Calls Try.prog 48 #[.pointer (some ⟨g, 0, none⟩), .string k] w fun e w' => e = .returned (.int .i64 i) ∧ w = w' := by
  have hrun := h.map.hit (t := 104) keyedS Try.underlying104 Try.underlying3 (zeroI w) (i := i) (v := .string k) (by rw [List.getElem?_map, hk]; rfl)
  have c1 := h.c1
  clear h hk
  go_enter Try.func48, Try.ntmps48
  go_wp2
  go_ret
  exact ⟨rfl, rfl⟩
theorem findS_miss {base g m : Nat} {sv : Value} {ks : List ByteArray} {w : World} (h : IdsAt Try.prog kindS base w g m sv ks) {k : ByteArray} (hw : k.size ≤ maxLen) (hk : k ∉ ks) :
    Calls Try.prog 48 #[.pointer (some ⟨g, 0, none⟩), .string k] w fun e w' => e = .returned (.int .i64 (-1)) ∧ w = w' := by
  have hrun := h.map.miss (t := 104) keyedS Try.underlying104 Try.underlying3 (zeroI w) (v := .string k) (Go.WideMaps.keyOf_string_mk Try.underlying9 hw) (by
    intro hm; obtain ⟨x, hx, he⟩ := List.mem_map.1 hm; injection he with he; exact hk (he ▸ hx))
  have c1 := h.c1
  clear h hk hw
  go_enter Try.func48, Try.ntmps48
  go_wp2
  go_ret
  exact ⟨rfl, rfl⟩





theorem lenS {base g m : Nat} {sv : Value} {ks : List ByteArray} {w : World} (h : IdsAt Try.prog kindS base w g m sv ks) :
    Calls Try.prog 46 #[.pointer (some ⟨g, 0, none⟩)] w fun e w' => e = .returned (.int .i64 ks.length) ∧ w = w' := by
  obtain ⟨a, c, rfl, _, _⟩ := own_len h.own
  have c0 := h.c0
  clear h
  go_enter Try.func46, Try.ntmps46
  go_wp2
  go_ret
  exact ⟨rfl, rfl⟩

set_option maxRecDepth 100000 in
theorem atS_in {base g m : Nat} {sv : Value} {ks : List ByteArray} {w : World} (h : IdsAt Try.prog kindS base w g m sv ks) {i : Nat} {k : ByteArray} (hk : ks[i]? = some k) :
    Calls Try.prog 47 #[.pointer (some ⟨g, 0, none⟩), .int .i64 i] w fun e w' => e = .returned (.tuple #[.string k, .bool true]) ∧ w = w' := by
  have hlt := (List.getElem?_eq_some_iff.1 hk).1
  obtain ⟨b, c, rfl, hc1, hc2⟩ := own_form h.own (by omega)
  have hcell := h.own.cells (g := b) rfl i (.string k) (by rw [flatS, List.getElem?_map, hk]; rfl)
  rw [add_none'] at hcell
  simp only [Nat.zero_add] at hcell
  unfold maxLen at hc2
  have hi0 : (0 : Int) ≤ (i : Int) := by omega
  have hi1 : (i : Int) < (ks.length : Int) := by omega
  have c0 := h.c0
  clear h hk
  go_enter Try.func47, Try.ntmps47
  go_wp2
  go_ret2
  exact ⟨rfl, rfl⟩
theorem atS_out {base g m : Nat} {sv : Value} {ks : List ByteArray} {w : World} (h : IdsAt Try.prog kindS base w g m sv ks) {i : Int} (hi : i < 0 ∨ (ks.length : Int) ≤ i) :
    Calls Try.prog 47 #[.pointer (some ⟨g, 0, none⟩), .int .i64 i] w fun e w' => e = .returned (.tuple #[.string ⟨#[]⟩, .bool false]) ∧ w = w' := by
  obtain ⟨a, c, rfl, _, _⟩ := own_len h.own
  have c0 := h.c0
  clear h
  by_cases h0 : i < 0
  · clear hi
    go_enter Try.func47, Try.ntmps47
    go_wp2
    go_ret2
    exact ⟨rfl, rfl⟩
  · have h1 : (ks.length : Int) ≤ i := by omega
    clear hi
    go_enter Try.func47, Try.ntmps47
    go_wp2
    go_ret2
    exact ⟨rfl, rfl⟩

theorem internS_old {base g m : Nat} {sv : Value} {ks : List ByteArray} {w : World} (h : IdsAt Try.prog kindS base w g m sv ks) {i : Nat} {k : ByteArray} (hk : ks[i]? = some k) :
    Calls Try.prog 64 #[.pointer (some ⟨g, 0, none⟩), .string k] w fun e w' => e = .returned (.int .i64 i) ∧ w = w' := by
  have hrun := h.map.hit (t := 104) keyedS Try.underlying104 Try.underlying3 (zeroI w) (i := i) (v := .string k) (by rw [List.getElem?_map, hk]; rfl)
  have c1 := h.c1
  clear h hk
  go_enter Try.func64, Try.ntmps64
  go_wp2
  go_ret
  exact ⟨rfl, rfl⟩

set_option maxRecDepth 100000 in
theorem internS_new {base g m : Nat} {sv : Value} {ks : List ByteArray} {w : World} (h : IdsAt Try.prog kindS base w g m sv ks) (hbase : base ≤ w.heap.size) {k : ByteArray} (hw : k.size ≤ maxLen) (hk : k ∉ ks) (hn : ks.length ≤ 6000000000000) :
    Calls Try.prog 64 #[.pointer (some ⟨g, 0, none⟩), .string k] w fun e w' => e = .returned (.int .i64 ks.length) ∧ Left Try.prog kindS base w g m sv (ks ++ [k]) w' := by
  have hnot : Value.string k ∉ ks.map kindS.val := by
    intro hm; obtain ⟨x, hx, he⟩ := List.mem_map.1 hm; injection he with he; exact hk (he ▸ hx)
  have hkey := Go.WideMaps.keyOf_string_mk Try.underlying9 hw
  have hmiss := h.map.miss (t := 104) keyedS Try.underlying104 Try.underlying3 (zeroI w) (v := .string k) hkey hnot
  have hm2 : MapIs Try.prog 9 3 w.drew m (ks.map kindS.val) := h.map.of_block rfl
  obtain ⟨w1, hput, hm3, hg3⟩ := hm2.store (t := 104) keyedS Try.underlying104 Try.underlying3 (by simp; unfold maxLen; omega) hkey hnot
  rw [List.length_map] at hput
  have H := Half.mk' h hm3 hg3
  have hc1 := h.c1
  have hc0 := h.c0
  obtain ⟨sa, sc, hsv, _, _⟩ := own_len h.own
  subst hsv
  have hd0 := H.c0
  have hdf := H.f0
  have hlt := H.lt
  have hb1 : base ≤ w1.heap.size := Nat.le_trans hbase H.tn.size
  obtain ⟨i0, hi, hz0, hz1, hz2⟩ := info_parts infoS
  have hown := H.own
  have HH := Lib.hid H
  clear H h hm2 hm3 hg3 hnot hkey hk hw
  go_enter Try.func64, Try.ntmps64
  go_wp2_with fail
  go_region
  go_wp2_with (at_builtin; refine wpList_append_lies _ rfl (.tmp 34) (.tmp 36) 43 rfl base 9 i0 (.string ⟨#[]⟩) 1 16 Try.underlying43 hi hz0 hz1 hz2 rfl (by decide) _ _ _ rfl (hown.alloc _) ⟨w1.heap.size, 0, none⟩ 1 1 [.string k] rfl rfl (cell_one_new _ _ _) (by simp [Value.oneCell']) (by decide) (by unfold maxLen; omega) (by omega) (by simp; omega) (w1.heap.size + 1) (by simp) ?_; intro g' cap w2 hown2 hgrow2 hat2 hlt2; have ⟨hc2, hf2⟩ := HH.out.far ((Turns.refl [] w1).alloc _) hgrow2)
  go_ret
  refine ⟨rfl, HH.out.done ((Turns.refl [] w1).alloc _) hown2 hgrow2 ?_⟩
  rcases hat2 with h | h
  · exact .inl h.symm
  · exact .inr ⟨g', rfl, by omega⟩

/-- NewIds of no keys: a new Ids. -/
theorem newS0 (w : World) : Calls Try.prog 29 #[.slice none 0 0] w fun e w' => e = .returned (.pointer (some ⟨w.heap.size + 1, 0, none⟩)) ∧ IdsAt Try.prog kindS w.heap.size w' (w.heap.size + 1) w.heap.size (.slice none 0 0) [] ∧ Below w.heap.size w w' := by
  have hmm := @run_makeMap Try.prog
  go_enter Try.func29, Try.ntmps29
  go_wp2
  refine wp_loop_rounds 1 ?_
  rw [rounds_succ]
  go_wp2
  go_ret
  refine ⟨rfl, ⟨?_, World.ownsRow_nil _ _ _ _, (MapIs.made w).of_block (by exact Below.heap_alloc _ _ _ (by simp)), by omega, Nat.le_refl _⟩, ((Below.refl _ _).alloc (Nat.le_refl _) _).alloc (by simp) _⟩
  have := heap_alloc_new (w.alloc (.map #[] 0)) (.cells #[.slice none 0 0, .map (some w.heap.size)] 106)
  simpa [kindS] using this

set_option maxRecDepth 100000 in
/-- Cut: the keys from n on go. -/
theorem cutS {base g m : Nat} {sv : Value} {ks : List ByteArray} {w : World} (h : IdsAt Try.prog kindS base w g m sv ks) (n : Int) (hn1 : -9223372036854775808 ≤ n) (hn2 : n ≤ 9223372036854775807) (hlen : ks.length ≤ 6000000000000) :
    Calls Try.prog 72 #[.pointer (some ⟨g, 0, none⟩), .int .i64 n] w fun e w' => e = .returned (.tuple #[]) ∧ Left Try.prog kindS base w g m sv (ks.take n.toNat) w' := by
  by_cases hn : n < 0
  · have e0 : n.toNat = 0 := by omega
    rw [e0]
    clear e0
    go_enter Try.func72, Try.ntmps72
    go_wp2
    go_loopw [8] (fun _ wr => ∃ (j : Nat) (sv' : Value), j ≤ ks.length ∧ (0 ≤ j ∨ j = ks.length) ∧ IdsAt Try.prog kindS base wr g m sv' (ks.take j) ∧ Turns (foot g m sv) w wr ∧ sv'.ownBlock = sv.ownBlock) (fun _ wr => keyCount wr g)
    case atStart => exact ⟨ks.length, sv, Nat.le_refl _, .inr rfl, by rw [List.take_length]; exact h, Turns.refl _ _, rfl⟩
    case round =>
      obtain ⟨j, sv', hj, hjc, hI, hT, hrow⟩ := hrel
      by_cases hgo : 0 < j
      · obtain ⟨k, b, cp, rfl, hl, hc1, hc2, hI2, hkk⟩ := hI.last (by omega) hj
        clear hI
        have hM : MapIs Try.prog 9 3 wr.drew m ((ks.take (j - 1)).map kindS.val ++ [.string k]) := by
          have := hI2.map
          rw [List.map_append] at this
          exact this.of_block rfl
        obtain ⟨w1, hrun, hm1, hg1⟩ := hM.drop keyedS (t := 104) Try.underlying104 0
        obtain ⟨hI3, hT3, hd0, hdf⟩ := hI2.cut1 hm1 ((Turns.refl [] wr).drew) hg1
        obtain ⟨n, hn'⟩ : ∃ n, n = j - 1 := ⟨_, rfl⟩
        obtain rfl : j = n + 1 := by omega
        simp only [Nat.add_sub_cancel] at *
        have hcell := hI2.own.cells (g := b) rfl n (.string k) (by rw [flatS, List.getElem?_map, List.getElem?_append_right (by omega), hl]; simp)
        rw [add_none'] at hcell
        simp only [Nat.zero_add] at hcell
        have c0 := hI2.c0
        have c1 := hI2.c1
        have hkc : keyCount wr g = n + 1 := by unfold keyCount; rw [c0]; simp [hl]
        have hlt2 := hT3.size
        rw [hl] at c0 hd0 hI3 hT3
        have HK := Lib.hid (show keyCount (w1.drew.setCell ⟨g, 0, none⟩ (.slice (some ⟨b, 0, none⟩) n cp)) g = n from by unfold keyCount; rw [hI3.c0])
        have HI := Lib.hid hI3
        have HT := Lib.hid (hT.trans hT3 (by intro x hx; simp at hx; left; simp [foot]; rcases hx with h | h <;> simp [h]))
        have hl0 : (0 : Int) ≤ (n : Int) := by omega
        have hl1 : (n : Int) < ((n + 1 : Nat) : Int) := by omega
        unfold maxLen at hc2
        clear hI3 hT3 hT hI2 hM hm1 hg1 hn' h
        go_wp2
        go_region
        go_wp2
        go_region
        go_wp2
        exact ⟨⟨n, _, by omega, by omega, HI.out, HT.out, hrow⟩, by rw [hkc]; exact Nat.lt_of_le_of_lt (Nat.le_of_eq HK.out) (Nat.lt_succ_self n)⟩
      · obtain ⟨a, cp, rfl, _, _⟩ := own_len hI.own
        have hl : (ks.take j).length = j := by rw [List.length_take]; omega
        have hc0 := hI.c0
        rw [hl] at hc0
        have hj0 : j = 0 := by omega
        subst hj0
        have hfin : Left Try.prog kindS base w g m sv (ks.take 0) wr := ⟨_, hI, hT, fun b hb => .inl (by rw [← hrow]; exact hb)⟩
        have HF := Lib.hid hfin
        clear hfin hI hT
        go_wp2
        go_end0
        exact ⟨rfl, HF.out⟩
  · obtain ⟨c, rfl⟩ := Int.eq_ofNat_of_zero_le (show 0 ≤ n by omega)
    rw [Int.toNat_natCast]
    go_enter Try.func72, Try.ntmps72
    go_wp2
    go_loopw [8] (fun _ wr => ∃ (j : Nat) (sv' : Value), j ≤ ks.length ∧ (c ≤ j ∨ j = ks.length) ∧ IdsAt Try.prog kindS base wr g m sv' (ks.take j) ∧ Turns (foot g m sv) w wr ∧ sv'.ownBlock = sv.ownBlock) (fun _ wr => keyCount wr g)
    case atStart => exact ⟨ks.length, sv, Nat.le_refl _, .inr rfl, by rw [List.take_length]; exact h, Turns.refl _ _, rfl⟩
    case round =>
      obtain ⟨j, sv', hj, hjc, hI, hT, hrow⟩ := hrel
      by_cases hgo : c < j
      · obtain ⟨k, b, cp, rfl, hl, hc1, hc2, hI2, hkk⟩ := hI.last (by omega) hj
        clear hI
        have hM : MapIs Try.prog 9 3 wr.drew m ((ks.take (j - 1)).map kindS.val ++ [.string k]) := by
          have := hI2.map
          rw [List.map_append] at this
          exact this.of_block rfl
        obtain ⟨w1, hrun, hm1, hg1⟩ := hM.drop keyedS (t := 104) Try.underlying104 0
        obtain ⟨hI3, hT3, hd0, hdf⟩ := hI2.cut1 hm1 ((Turns.refl [] wr).drew) hg1
        obtain ⟨n, hn'⟩ : ∃ n, n = j - 1 := ⟨_, rfl⟩
        obtain rfl : j = n + 1 := by omega
        simp only [Nat.add_sub_cancel] at *
        have hcell := hI2.own.cells (g := b) rfl n (.string k) (by rw [flatS, List.getElem?_map, List.getElem?_append_right (by omega), hl]; simp)
        rw [add_none'] at hcell
        simp only [Nat.zero_add] at hcell
        have c0 := hI2.c0
        have c1 := hI2.c1
        have hkc : keyCount wr g = n + 1 := by unfold keyCount; rw [c0]; simp [hl]
        have hlt2 := hT3.size
        rw [hl] at c0 hd0 hI3 hT3
        have HK := Lib.hid (show keyCount (w1.drew.setCell ⟨g, 0, none⟩ (.slice (some ⟨b, 0, none⟩) n cp)) g = n from by unfold keyCount; rw [hI3.c0])
        have HI := Lib.hid hI3
        have HT := Lib.hid (hT.trans hT3 (by intro x hx; simp at hx; left; simp [foot]; rcases hx with h | h <;> simp [h]))
        have hl0 : (0 : Int) ≤ (n : Int) := by omega
        have hl1 : (n : Int) < ((n + 1 : Nat) : Int) := by omega
        unfold maxLen at hc2
        clear hI3 hT3 hT hI2 hM hm1 hg1 hn' h
        go_wp2
        go_region
        go_wp2
        go_region
        go_wp2
        exact ⟨⟨n, _, by omega, by omega, HI.out, HT.out, hrow⟩, by rw [hkc]; exact Nat.lt_of_le_of_lt (Nat.le_of_eq HK.out) (Nat.lt_succ_self n)⟩
      · obtain ⟨a, cp, rfl, _, _⟩ := own_len hI.own
        have hl : (ks.take j).length = j := by rw [List.length_take]; omega
        have hc0 := hI.c0
        rw [hl] at hc0
        have hq : ks.take j = ks.take c := by
          rcases hjc with h1 | h1
          · rw [show j = c by omega]
          · rw [h1, List.take_length, List.take_of_length_le (by omega)]
        have hfin : Left Try.prog kindS base w g m sv (ks.take c) wr := by
          rw [← hq]
          exact ⟨_, hI, hT, fun b hb => .inl (by rw [← hrow]; exact hb)⟩
        clear hq
        have HF := Lib.hid hfin
        clear hfin hI hT hjc
        have hge : ¬ (c : Int) < (j : Int) := by omega
        go_wp2
        go_end0
        exact ⟨rfl, HF.out⟩
end Go.Proofs.Ytblonickpmogiaa
