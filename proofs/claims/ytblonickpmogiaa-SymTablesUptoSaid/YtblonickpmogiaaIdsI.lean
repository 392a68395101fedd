/- The walks of an Ids of ints. -/
import Derived.Test.YtblonickpmogiaaChecked
import Derived.Test.YtblonickpmogiaaIds
import Derived.WalkLawsBesides
import Derived.WalkSpells
import Derived.Lib.Hide
import Derived.KernelRfl
import Derived.Maps.AppendAt
namespace Go.Proofs.Ytblonickpmogiaa
open Go.RowKit Go.Maps

def kindI : IdsKind Int where
  tK := 3
  tE := 3
  tT := 99
  sz := 1
  cells := fun k => [.int .i64 k]
  val := fun k => .int .i64 k
  ne := by decide
  len := fun _ => rfl

theorem infoI : (Try.prog.info? 3).map (fun i => (i.zero, i.size, i.bytes)) = some (some (.int .i64 0), 1, 8) := by kernel_rfl
theorem keyedI : Keyed Try.prog 3 := int_keyed Try.underlying3
theorem zeroI (w : World) : (zeroValue 3).run Try.prog w = .ok (.int .i64 0) w := by kernel_rfl

theorem flat1 (ks : List Int) : ks.flatMap kindI.cells = ks.map (Value.int .i64) := by
  induction ks with
  | nil => rfl
  | cons a l ih => rw [List.flatMap_cons, ih]; rfl
theorem add_none' (b off n : Nat) : (Addr.add ⟨b, off, none⟩ n) = ⟨b, off + n, none⟩ := by
  unfold Addr.add
  by_cases h : n = 0 <;> simp [h]

theorem findI_hit {base g m : Nat} {sv : Value} {ks : List Int} {w : World} (h : IdsAt Try.prog kindI base w g m sv ks) {i : Nat} {k : Int} (hk : ks[i]? = some k) :
    Calls Try.prog 24 #[.pointer (some ⟨g, 0, none⟩), .int .i64 k] w fun e w' => e = .returned (.int .i64 i) ∧ w = w' := by
  have hrun := h.map.hit (t := 97) keyedI Try.underlying97 Try.underlying3 (zeroI w) (i := i) (v := .int .i64 k) (by rw [List.getElem?_map, hk]; rfl)
  have c1 := h.c1
  clear h hk
  go_enter Try.func24, Try.ntmps24
  go_wp2
  go_ret
  exact ⟨rfl, rfl⟩
theorem findI_miss {base g m : Nat} {sv : Value} {ks : List Int} {w : World} (h : IdsAt Try.prog kindI base w g m sv ks) {k : Int} (hw : (Lit.int .i64 k).wf = true) (hk : k ∉ ks) :
    Calls Try.prog 24 #[.pointer (some ⟨g, 0, none⟩), .int .i64 k] w fun e w' => e = .returned (.int .i64 (-1)) ∧ w = w' := by
  have hrun := h.map.miss (t := 97) keyedI Try.underlying97 Try.underlying3 (zeroI w) (v := .int .i64 k) (keyOf_int_mk Try.underlying3 hw) (by
    intro hm; obtain ⟨x, hx, he⟩ := List.mem_map.1 hm; injection he with _ he; exact hk (he ▸ hx))
  have c1 := h.c1
  clear h hk hw
  go_enter Try.func24, Try.ntmps24
  go_wp2
  go_ret
  exact ⟨rfl, rfl⟩

/-- The keys' slice: its length is the number of keys. -/
theorem own_len {w : World} {base : Nat} {e : TypeId} {size : Nat} {v : Value} {n : Nat} {xs : List Value} (h : w.ownsRow base e size v n xs) : ∃ a c, v = .slice a n c ∧ n ≤ c ∧ c ≤ maxLen := by
  rcases h.2 with ⟨rfl, rfl⟩ | ⟨g, cap, cur, rfl, _, _, h1, h2, _⟩
  · exact ⟨none, 0, rfl, Nat.le_refl _, Nat.zero_le _⟩
  · exact ⟨_, cap, rfl, h1, h2⟩

theorem own_form {w : World} {base : Nat} {e : TypeId} {size : Nat} {v : Value} {n : Nat} {xs : List Value} (h : w.ownsRow base e size v n xs) (hn : 0 < n) : ∃ b c, v = .slice (some ⟨b, 0, none⟩) n c ∧ n ≤ c ∧ c ≤ maxLen := by
  rcases h.2 with ⟨rfl, rfl⟩ | ⟨g, cap, cur, rfl, _, _, h1, h2, _⟩
  · omega
  · exact ⟨_, cap, rfl, h1, h2⟩

theorem lenI {base g m : Nat} {sv : Value} {ks : List Int} {w : World} (h : IdsAt Try.prog kindI base w g m sv ks) :
    Calls Try.prog 25 #[.pointer (some ⟨g, 0, none⟩)] w fun e w' => e = .returned (.int .i64 ks.length) ∧ w = w' := by
  obtain ⟨a, c, rfl, _, _⟩ := own_len h.own
  have c0 := h.c0
  clear h
  go_enter Try.func25, Try.ntmps25
  go_wp2
  go_ret
  exact ⟨rfl, rfl⟩

set_option maxRecDepth 100000 in
theorem atI_in {base g m : Nat} {sv : Value} {ks : List Int} {w : World} (h : IdsAt Try.prog kindI base w g m sv ks) {i : Nat} {k : Int} (hk : ks[i]? = some k) :
    Calls Try.prog 62 #[.pointer (some ⟨g, 0, none⟩), .int .i64 i] w fun e w' => e = .returned (.tuple #[.int .i64 k, .bool true]) ∧ w = w' := by
  have hlt := (List.getElem?_eq_some_iff.1 hk).1
  obtain ⟨b, c, rfl, hc1, hc2⟩ := own_form h.own (by omega)
  have hcell := h.own.cells (g := b) rfl i (.int .i64 k) (by rw [flat1, List.getElem?_map, hk]; rfl)
  rw [add_none'] at hcell
  simp only [Nat.zero_add] at hcell
  unfold maxLen at hc2
  have hi0 : (0 : Int) ≤ (i : Int) := by omega
  have hi1 : (i : Int) < (ks.length : Int) := by omega
  have c0 := h.c0
  clear h hk
  go_enter Try.func62, Try.ntmps62
  go_wp2
  go_ret2
  exact ⟨rfl, rfl⟩
theorem atI_out {base g m : Nat} {sv : Value} {ks : List Int} {w : World} (h : IdsAt Try.prog kindI base w g m sv ks) {i : Int} (hi : i < 0 ∨ (ks.length : Int) ≤ i) :
    Calls Try.prog 62 #[.pointer (some ⟨g, 0, none⟩), .int .i64 i] w fun e w' => e = .returned (.tuple #[.int .i64 0, .bool false]) ∧ w = w' := by
  obtain ⟨a, c, rfl, _, _⟩ := own_len h.own
  have c0 := h.c0
  clear h
  by_cases h0 : i < 0
  · clear hi
    go_enter Try.func62, Try.ntmps62
    go_wp2
    go_ret2
    exact ⟨rfl, rfl⟩
  · have h1 : (ks.length : Int) ≤ i := by omega
    clear hi
    go_enter Try.func62, Try.ntmps62
    go_wp2
    go_ret2
    exact ⟨rfl, rfl⟩

theorem internI_old {base g m : Nat} {sv : Value} {ks : List Int} {w : World} (h : IdsAt Try.prog kindI base w g m sv ks) {i : Nat} {k : Int} (hk : ks[i]? = some k) :
    Calls Try.prog 21 #[.pointer (some ⟨g, 0, none⟩), .int .i64 k] w fun e w' => e = .returned (.int .i64 i) ∧ w = w' := by
  have hrun := h.map.hit (t := 97) keyedI Try.underlying97 Try.underlying3 (zeroI w) (i := i) (v := .int .i64 k) (by rw [List.getElem?_map, hk]; rfl)
  have c1 := h.c1
  clear h hk
  go_enter Try.func21, Try.ntmps21
  go_wp2
  go_ret
  exact ⟨rfl, rfl⟩

set_option maxRecDepth 100000 in
theorem internI_new {base g m : Nat} {sv : Value} {ks : List Int} {w : World} (h : IdsAt Try.prog kindI base w g m sv ks) (hbase : base ≤ w.heap.size) {k : Int} (hw : (Lit.int .i64 k).wf = true) (hk : k ∉ ks) (hn : ks.length ≤ 6000000000000) :
    Calls Try.prog 21 #[.pointer (some ⟨g, 0, none⟩), .int .i64 k] w fun e w' => e = .returned (.int .i64 ks.length) ∧ Left Try.prog kindI base w g m sv (ks ++ [k]) w' := by
  have hnot : Value.int .i64 k ∉ ks.map kindI.val := by
    intro hm; obtain ⟨x, hx, he⟩ := List.mem_map.1 hm; injection he with _ he; exact hk (he ▸ hx)
  have hkey := keyOf_int_mk Try.underlying3 hw
  have hmiss := h.map.miss (t := 97) keyedI Try.underlying97 Try.underlying3 (zeroI w) (v := .int .i64 k) hkey hnot
  have hm2 : MapIs Try.prog 3 3 w.drew m (ks.map kindI.val) := h.map.of_block rfl
  obtain ⟨w1, hput, hm3, hg3⟩ := hm2.store (t := 97) keyedI Try.underlying97 Try.underlying3 (by simp; unfold maxLen; omega) hkey hnot
  rw [List.length_map] at hput
  have H := Half.mk' h hm3 hg3
  have hc1 := h.c1
  have hc0 := h.c0
  obtain ⟨sa, sc, hsv, _, _⟩ := own_len h.own
  subst hsv
  have hd0 := H.c0
  have hdf := H.f0
  have hlt := H.lt
  have hb1 : base ≤ w1.heap.size := Nat.le_trans hbase H.tn.size
  obtain ⟨i0, hi, hz0, hz1, hz2⟩ := info_parts infoI
  have hown := H.own
  have HH := Lib.hid H
  clear H h hm2 hm3 hg3 hnot hkey hk hw
  go_enter Try.func21, Try.ntmps21
  go_wp2_with fail
  go_region
  go_wp2_with (at_builtin; refine wpList_append_lies _ rfl (.tmp 34) (.tmp 36) 66 rfl base 3 i0 (.int .i64 0) 1 8 Try.underlying66 hi hz0 hz1 hz2 rfl (by decide) _ _ _ rfl (hown.alloc _) ⟨w1.heap.size, 0, none⟩ 1 1 [.int .i64 k] rfl rfl (cell_one_new _ _ _) (by simp [Value.oneCell']) (by decide) (by unfold maxLen; omega) (by omega) (by simp; omega) (w1.heap.size + 1) (by simp) ?_; intro g' cap w2 hown2 hgrow2 hat2 hlt2; have ⟨hc2, hf2⟩ := HH.out.far ((Turns.refl [] w1).alloc _) hgrow2)
  go_ret
  refine ⟨rfl, HH.out.done ((Turns.refl [] w1).alloc _) hown2 hgrow2 ?_⟩
  rcases hat2 with h | h
  · exact .inl h.symm
  · exact .inr ⟨g', rfl, by omega⟩

/-- NewIds of no keys: a new Ids. -/
theorem newI (w : World) : Calls Try.prog 19 #[.slice none 0 0] w fun e w' => e = .returned (.pointer (some ⟨w.heap.size + 1, 0, none⟩)) ∧ IdsAt Try.prog kindI w.heap.size w' (w.heap.size + 1) w.heap.size (.slice none 0 0) [] ∧ Below w.heap.size w w' := by
  have hmm := @run_makeMap Try.prog
  go_enter Try.func19, Try.ntmps19
  go_wp2
  refine wp_loop_rounds 1 ?_
  rw [rounds_succ]
  go_wp2
  go_ret
  refine ⟨rfl, ⟨?_, World.ownsRow_nil _ _ _ _, (MapIs.made w).of_block (by exact Below.heap_alloc _ _ _ (by simp)), by omega, Nat.le_refl _⟩, ((Below.refl _ _).alloc (Nat.le_refl _) _).alloc (by simp) _⟩
  have := heap_alloc_new (w.alloc (.map #[] 0)) (.cells #[.slice none 0 0, .map (some w.heap.size)] 99)
  simpa [kindI] using this

set_option maxRecDepth 100000 in
/-- Cut: the keys from n on go. -/
theorem cutI {base g m : Nat} {sv : Value} {ks : List Int} {w : World} (h : IdsAt Try.prog kindI base w g m sv ks) (n : Int) (hn1 : -9223372036854775808 ≤ n) (hn2 : n ≤ 9223372036854775807) (hlen : ks.length ≤ 6000000000000) :
    Calls Try.prog 61 #[.pointer (some ⟨g, 0, none⟩), .int .i64 n] w fun e w' => e = .returned (.tuple #[]) ∧ Left Try.prog kindI base w g m sv (ks.take n.toNat) w' := by
  by_cases hn : n < 0
  · have e0 : n.toNat = 0 := by omega
    rw [e0]
    clear e0
    go_enter Try.func61, Try.ntmps61
    go_wp2
    go_loopw [8] (fun _ wr => ∃ (j : Nat) (sv' : Value), j ≤ ks.length ∧ (0 ≤ j ∨ j = ks.length) ∧ IdsAt Try.prog kindI base wr g m sv' (ks.take j) ∧ Turns (foot g m sv) w wr ∧ sv'.ownBlock = sv.ownBlock) (fun _ wr => keyCount wr g)
    case atStart => exact ⟨ks.length, sv, Nat.le_refl _, .inr rfl, by rw [List.take_length]; exact h, Turns.refl _ _, rfl⟩
    case round =>
      obtain ⟨j, sv', hj, hjc, hI, hT, hrow⟩ := hrel
      by_cases hgo : 0 < j
      · obtain ⟨k, b, cp, rfl, hl, hc1, hc2, hI2, hkk⟩ := hI.last (by omega) hj
        clear hI
        have hM : MapIs Try.prog 3 3 wr.drew m ((ks.take (j - 1)).map kindI.val ++ [.int .i64 k]) := by
          have := hI2.map
          rw [List.map_append] at this
          exact this.of_block rfl
        obtain ⟨w1, hrun, hm1, hg1⟩ := hM.drop keyedI (t := 97) Try.underlying97 0
        obtain ⟨hI3, hT3, hd0, hdf⟩ := hI2.cut1 hm1 ((Turns.refl [] wr).drew) hg1
        obtain ⟨n, hn'⟩ : ∃ n, n = j - 1 := ⟨_, rfl⟩
        obtain rfl : j = n + 1 := by omega
        simp only [Nat.add_sub_cancel] at *
        have hcell := hI2.own.cells (g := b) rfl n (.int .i64 k) (by rw [flat1, List.getElem?_map, List.getElem?_append_right (by omega), hl]; simp)
        rw [add_none'] at hcell
        simp only [Nat.zero_add] at hcell
        have c0 := hI2.c0
        have c1 := hI2.c1
        have hkc : keyCount wr g = n + 1 := by unfold keyCount; rw [c0]; simp [hl]
        have hlt2 := hT3.size
        rw [hl] at c0 hd0 hI3 hT3
        have HK := Lib.hid (show keyCount (w1.drew.setCell ⟨g, 0, none⟩ (.slice (some ⟨b, 0, none⟩) n cp)) g = n from by unfold keyCount; rw [hI3.c0])
        have HI := Lib.hid hI3
        have HT := Lib.hid (hT.trans hT3 (by intro x hx; simp at hx; left; simp [foot]; rcases hx with h | h <;> simp [h]))
        have hl0 : (0 : Int) ≤ (n : Int) := by omega
        have hl1 : (n : Int) < ((n + 1 : Nat) : Int) := by omega
        unfold maxLen at hc2
        clear hI3 hT3 hT hI2 hM hm1 hg1 hn' h
        go_wp2
        go_region
        go_wp2
        go_region
        go_wp2
        exact ⟨⟨n, _, by omega, by omega, HI.out, HT.out, hrow⟩, by rw [hkc]; exact Nat.lt_of_le_of_lt (Nat.le_of_eq HK.out) (Nat.lt_succ_self n)⟩
      · obtain ⟨a, cp, rfl, _, _⟩ := own_len hI.own
        have hl : (ks.take j).length = j := by rw [List.length_take]; omega
        have hc0 := hI.c0
        rw [hl] at hc0
        have hj0 : j = 0 := by omega
        subst hj0
        have hfin : Left Try.prog kindI base w g m sv (ks.take 0) wr := ⟨_, hI, hT, fun b hb => .inl (by rw [← hrow]; exact hb)⟩
        have HF := Lib.hid hfin
        clear hfin hI hT
        go_wp2
        go_end0
        exact ⟨rfl, HF.out⟩
  · obtain ⟨c, rfl⟩ := Int.eq_ofNat_of_zero_le (show 0 ≤ n by omega)
    rw [Int.toNat_natCast]
    go_enter Try.func61, Try.ntmps61
    go_wp2
    go_loopw [8] (fun _ wr => ∃ (j : Nat) (sv' : Value), j ≤ ks.length ∧ (c ≤ j ∨ j = ks.length) ∧ IdsAt Try.prog kindI base wr g m sv' (ks.take j) ∧ Turns (foot g m sv) w wr ∧ sv'.ownBlock = sv.ownBlock) (fun _ wr => keyCount wr g)
    case atStart => exact ⟨ks.length, sv, Nat.le_refl _, .inr rfl, by rw [List.take_length]; exact h, Turns.refl _ _, rfl⟩
    case round =>
      obtain ⟨j, sv', hj, hjc, hI, hT, hrow⟩ := hrel
      by_cases hgo : c < j
      · obtain ⟨k, b, cp, rfl, hl, hc1, hc2, hI2, hkk⟩ := hI.last (by omega) hj
        clear hI
        have hM : MapIs Try.prog 3 3 wr.drew m ((ks.take (j - 1)).map kindI.val ++ [.int .i64 k]) := by
          have := hI2.map
          rw [List.map_append] at this
          exact this.of_block rfl
        obtain ⟨w1, hrun, hm1, hg1⟩ := hM.drop keyedI (t := 97) Try.underlying97 0
        obtain ⟨hI3, hT3, hd0, hdf⟩ := hI2.cut1 hm1 ((Turns.refl [] wr).drew) hg1
        obtain ⟨n, hn'⟩ : ∃ n, n = j - 1 := ⟨_, rfl⟩
        obtain rfl : j = n + 1 := by omega
        simp only [Nat.add_sub_cancel] at *
        have hcell := hI2.own.cells (g := b) rfl n (.int .i64 k) (by rw [flat1, List.getElem?_map, List.getElem?_append_right (by omega), hl]; simp)
        rw [add_none'] at hcell
        simp only [Nat.zero_add] at hcell
        have c0 := hI2.c0
        have c1 := hI2.c1
        have hkc : keyCount wr g = n + 1 := by unfold keyCount; rw [c0]; simp [hl]
        have hlt2 := hT3.size
        rw [hl] at c0 hd0 hI3 hT3
        have HK := Lib.hid (show keyCount (w1.drew.setCell ⟨g, 0, none⟩ (.slice (some ⟨b, 0, none⟩) n cp)) g = n from by unfold keyCount; rw [hI3.c0])
        have HI := Lib.hid hI3
        have HT := Lib.hid (hT.trans hT3 (by intro x hx; simp at hx; left; simp [foot]; rcases hx with h | h <;> simp [h]))
        have hl0 : (0 : Int) ≤ (n : Int) := by omega
        have hl1 : (n : Int) < ((n + 1 : Nat) : Int) := by omega
        unfold maxLen at hc2
        clear hI3 hT3 hT hI2 hM hm1 hg1 hn' h
        go_wp2
        go_region
        go_wp2
        go_region
        go_wp2
        exact ⟨⟨n, _, by omega, by omega, HI.out, HT.out, hrow⟩, by rw [hkc]; exact Nat.lt_of_le_of_lt (Nat.le_of_eq HK.out) (Nat.lt_succ_self n)⟩
      · obtain ⟨a, cp, rfl, _, _⟩ := own_len hI.own
        have hl : (ks.take j).length = j := by rw [List.length_take]; omega
        have hc0 := hI.c0
        rw [hl] at hc0
        have hq : ks.take j = ks.take c := by
          rcases hjc with h1 | h1
          · rw [show j = c by omega]
          · rw [h1, List.take_length, List.take_of_length_le (by omega)]
        have hfin : Left Try.prog kindI base w g m sv (ks.take c) wr := by
          rw [← hq]
          exact ⟨_, hI, hT, fun b hb => .inl (by rw [← hrow]; exact hb)⟩
        clear hq
        have HF := Lib.hid hfin
        clear hfin hI hT hjc
        have hge : ¬ (c : Int) < (j : Int) := by omega
        go_wp2
        go_end0
        exact ⟨rfl, HF.out⟩
end Go.Proofs.Ytblonickpmogiaa
