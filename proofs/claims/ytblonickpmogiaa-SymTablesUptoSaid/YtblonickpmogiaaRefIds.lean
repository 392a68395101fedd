/- The walks of the document's Ids (edictref01). -/
import Derived.Test.YtblonickpmogiaaIdsI
import Derived.Test.YtblonickpmogiaaCmpLaw
import Derived.Deep.AppendLies
namespace Go.Proofs.Ytblonickpmogiaa
open Go.RowKit Go.Maps

structure RefAt (base : Nat) (w : World) (g : Nat) (sv : Value) (ks : List ByteArray) : Prop where
  blk : w.heap[g]? = some (.cells #[sv] 103 (0, 0))
  own : w.ownsRow base 9 1 sv ks.length (ks.map Value.string)
  gb : base ≤ g

def rfoot (g : Nat) (sv : Value) : List Nat := g :: sv.ownBlock.toList
def RefLeft (base : Nat) (w : World) (g : Nat) (sv : Value) (ks' : List ByteArray) (w' : World) : Prop :=
  ∃ sv', RefAt base w' g sv' ks' ∧ Turns (rfoot g sv) w w' ∧ ∀ b, sv'.ownBlock = some b → sv.ownBlock = some b ∨ w.heap.size ≤ b

section
variable {base : Nat} {w w' : World} {g : Nat} {sv : Value} {ks : List ByteArray}
theorem RefAt.c0 (h : RefAt base w g sv ks) : w.cell? ⟨g, 0, none⟩ = some sv := cell_of_row w g 0 _ _ _ h.blk
theorem RefAt.f0 (h : RefAt base w g sv ks) : w.frozen? ⟨g, 0, none⟩ = false := by
  have := h.blk
  simp [World.frozen?, this]
theorem RefAt.lt (h : RefAt base w g sv ks) : g < w.heap.size := lt_of_heap h.blk
theorem RefAt.row_ne (h : RefAt base w g sv ks) {b : Nat} (hb : sv.ownBlock = some b) : b ≠ g ∧ base ≤ b ∧ b < w.heap.size := by
  obtain ⟨h1, h2, cur, h3⟩ := ownBlock_cells h.own hb
  refine ⟨?_, h1, h2⟩
  rintro rfl
  have := h.blk
  rw [h3] at this
  injection this with this
  injection this with _ ht
  exact absurd ht (by decide)
theorem RefAt.foot_lt (h : RefAt base w g sv ks) : ∀ b ∈ rfoot g sv, base ≤ b ∧ b < w.heap.size := by
  intro b hb
  simp only [rfoot, List.mem_cons, Option.mem_toList] at hb
  rcases hb with rfl | hb
  · exact ⟨h.gb, h.lt⟩
  · exact (h.row_ne hb).2
theorem RefAt.turns {S : List Nat} (h : RefAt base w g sv ks) (ht : Turns S w w') (hn : ∀ b ∈ rfoot g sv, b ∉ S) : RefAt base w' g sv ks :=
  ⟨(ht.block g h.lt (hn g (by simp [rfoot]))).trans h.blk, ownsRow_turns h.own ht (fun b hb => hn b (by simp [rfoot, hb])), h.gb⟩
theorem RefAt.below (h : RefAt base w g sv ks) (hb : Below w.heap.size w w') : RefAt base w' g sv ks := h.turns (S := []) (Turns.of_below hb) (fun _ _ hm => by cases hm)
/-- Behind an append onto the keys' row, or onto a new one. -/
theorem RefAt.far {w2 : World} (h : RefAt base w g sv ks) (T : Turns sv.ownBlock.toList w w2) : w2.heap[g]? = some (.cells #[sv] 103 (0, 0)) ∧ w2.cell? ⟨g, 0, none⟩ = some sv ∧ w2.frozen? ⟨g, 0, none⟩ = false := by
  have hgs : g ∉ sv.ownBlock.toList := fun hm => (h.row_ne (by simpa using hm)).1 rfl
  have e2 : w2.heap[g]? = some (.cells #[sv] 103 (0, 0)) := (T.block g h.lt hgs).trans h.blk
  exact ⟨e2, cell_of_row w2 g 0 _ _ _ e2, by simp [World.frozen?, e2]⟩
/-- .. and the store into the struct. -/
theorem RefAt.put {w2 : World} {v' : Value} {ks' : List ByteArray} (h : RefAt base w g sv ks) (T : Turns sv.ownBlock.toList w w2) (ho : w2.ownsRow base 9 1 v' ks'.length (ks'.map Value.string))
    (hat : ∀ b, v'.ownBlock = some b → sv.ownBlock = some b ∨ w.heap.size ≤ b) : RefLeft base w g sv ks' (w2.setCell ⟨g, 0, none⟩ v') := by
  obtain ⟨e2, _, _⟩ := h.far T
  have hvg : ∀ b, v'.ownBlock = some b → b ∉ [g] := by
    intro b hb
    obtain ⟨_, hlt, cur, h3⟩ := ownBlock_cells ho hb
    simp only [List.mem_singleton]
    rintro rfl
    rw [e2] at h3
    injection h3 with h3
    injection h3 with _ ht
    exact absurd ht (by decide)
  have T4 : Turns [g] w2 (w2.setCell ⟨g, 0, none⟩ v') := (Turns.refl _ _).setCell (.inl (by simp)) _
  refine ⟨v', ⟨?_, ownsRow_turns ho T4 hvg, h.gb⟩, (T.mono (fun x hx => by simp only [rfoot, List.mem_cons]; exact .inr hx)).setCell (.inl (by simp [rfoot])) _, hat⟩
  simp [World.setCell, Array.getElem?_modify, e2]
end

theorem lenR {base g : Nat} {sv : Value} {ks : List ByteArray} {w : World} (h : RefAt base w g sv ks) :
    Calls Try.prog 67 #[.pointer (some ⟨g, 0, none⟩)] w fun e w' => e = .returned (.int .i64 ks.length) ∧ w = w' := by
  obtain ⟨a, c, rfl, _, _⟩ := own_len h.own
  have c0 := h.c0
  clear h
  go_enter Try.func67, Try.ntmps67
  go_wp2
  go_ret
  exact ⟨rfl, rfl⟩

set_option maxRecDepth 100000 in
theorem atR_in {base g : Nat} {sv : Value} {ks : List ByteArray} {w : World} (h : RefAt base w g sv ks) {i : Nat} {k : ByteArray} (hk : ks[i]? = some k) :
    Calls Try.prog 66 #[.pointer (some ⟨g, 0, none⟩), .int .i64 i] w fun e w' => e = .returned (.tuple #[.string k, .bool true]) ∧ w = w' := by
  have hlt := (List.getElem?_eq_some_iff.1 hk).1
  obtain ⟨b, c, rfl, hc1, hc2⟩ := own_form h.own (by omega)
  have hcell := h.own.cells (g := b) rfl i (.string k) (by rw [List.getElem?_map, hk]; rfl)
  rw [add_none'] at hcell
  simp only [Nat.zero_add] at hcell
  unfold maxLen at hc2
  have hi0 : (0 : Int) ≤ (i : Int) := by omega
  have hi1 : (i : Int) < (ks.length : Int) := by omega
  have c0 := h.c0
  clear h hk
  go_enter Try.func66, Try.ntmps66
  go_wp2
  go_ret2
  exact ⟨rfl, rfl⟩
theorem atR_out {base g : Nat} {sv : Value} {ks : List ByteArray} {w : World} (h : RefAt base w g sv ks) {i : Int} (hi : i < 0 ∨ (ks.length : Int) ≤ i) :
    Calls Try.prog 66 #[.pointer (some ⟨g, 0, none⟩), .int .i64 i] w fun e w' => e = .returned (.tuple #[.string ⟨#[]⟩, .bool false]) ∧ w = w' := by
  obtain ⟨a, c, rfl, _, _⟩ := own_len h.own
  have c0 := h.c0
  clear h
  by_cases h0 : i < 0
  · clear hi
    go_enter Try.func66, Try.ntmps66
    go_wp2
    go_ret2
    exact ⟨rfl, rfl⟩
  · have h1 : (ks.length : Int) ≤ i := by omega
    clear hi
    go_enter Try.func66, Try.ntmps66
    go_wp2
    go_ret2
    exact ⟨rfl, rfl⟩

/-- Where Find ends. -/
theorem place_at {ks : List ByteArray} {k : ByteArray} {r : Int} (h : (∃ i : Nat, r = i ∧ ks[i]? = some k ∧ ∀ j, j < i → ks[j]? ≠ some k) ∨ (r = -1 ∧ k ∉ ks)) {i : Nat} (hi : ks[i]? = some k) (hno : ∀ j, j < i → ks[j]? ≠ some k) : r = i := by
  rcases h with ⟨n, rfl, hn, hf⟩ | ⟨_, hm⟩
  · rcases Nat.lt_trichotomy n i with h | h | h
    · exact absurd hn (hno n h)
    · rw [h]
    · exact absurd hi (hf i h)
  · exact absurd (List.mem_of_getElem? hi) hm
theorem place_none {ks : List ByteArray} {k : ByteArray} {r : Int} (h : (∃ i : Nat, r = i ∧ ks[i]? = some k ∧ ∀ j, j < i → ks[j]? ≠ some k) ∨ (r = -1 ∧ k ∉ ks)) (hno : ∀ j, j < ks.length → ks[j]? ≠ some k) : r = -1 := by
  rcases h with ⟨n, rfl, hn, hf⟩ | ⟨rfl, _⟩
  · exact absurd hn (hno n (List.getElem?_eq_some_iff.1 hn).1)
  · rfl
theorem no_more {ks : List ByteArray} {k x : ByteArray} {i : Nat} (hno : ∀ j, j < i → ks[j]? ≠ some k) (hx : ks[i]? = some x) (hne : ¬ x = k) : ∀ j, j < i + 1 → ks[j]? ≠ some k := by
  intro j hj
  rcases Nat.lt_or_ge j i with h | h
  · exact hno j h
  · obtain rfl : j = i := by omega
    rw [hx]
    intro e
    injection e with e
    exact hne e

set_option maxRecDepth 100000 in
/-- Find: the first place of k, or -1. -/
theorem findR {base g : Nat} {sv : Value} {ks : List ByteArray} {w : World} (h : RefAt base w g sv ks) (hlen : ks.length ≤ 6000000000000) (k : ByteArray) (r : Int) (hr : (∃ i : Nat, r = i ∧ ks[i]? = some k ∧ ∀ j, j < i → ks[j]? ≠ some k) ∨ (r = -1 ∧ k ∉ ks)) :
    Calls Try.prog 65 #[.pointer (some ⟨g, 0, none⟩), .string k] w fun e w' => e = .returned (.int .i64 r) ∧ w = w' := by
  obtain ⟨a, c, rfl, hc1, hc2⟩ := own_len h.own
  have c0 := h.c0
  have hown := Lib.hid h.own
  have HR := Lib.hid hr
  clear h hr
  go_enter Try.func65, Try.ntmps65
  go_wp2
  go_loopw [5] (fun i wr => ∃ n : Nat, n ≤ ks.length ∧ i = .int .i64 n ∧ w = wr ∧ ∀ j, j < n → ks[j]? ≠ some k) (fun i _ => ks.length - (intOf i).toNat)
  case atStart => exact ⟨0, Nat.zero_le _, rfl, rfl, by simp⟩
  case round =>
    obtain ⟨i, hi, rfl, rfl, hno⟩ := hrel
    have HN := Lib.hid hno
    clear hno
    by_cases hin : i < ks.length
    · obtain ⟨b, c', hf, _, _⟩ := own_form hown.out (by omega)
      simp only [Value.slice.injEq] at hf
      obtain ⟨rfl, _, rfl⟩ := hf
      have hcell := hown.out.cells (g := b) rfl i (.string ks[i]) (by rw [List.getElem?_map, List.getElem?_eq_getElem hin]; rfl)
      rw [add_none'] at hcell
      simp only [Nat.zero_add] at hcell
      obtain ⟨x, hx⟩ : ∃ x, x = ks[i] := ⟨_, rfl⟩
      have HX := Lib.hid hx
      rw [← hx] at hcell
      clear hx
      unfold maxLen at hc2
      have hii : (0 : Int) ≤ (i : Int) := by omega
      have hin' : (i : Int) < (ks.length : Int) := by omega
      by_cases he : x = k
      · subst he
        obtain rfl : r = i := place_at HR.out (by rw [List.getElem?_eq_getElem hin, ← HX.out]) HN.out
        go_wp2
        go_ret
        exact ⟨rfl, rfl⟩
      · have hne : (x.toList == k.toList) = false := beq_false_of_ne (fun e => he (toList_inj e))
        go_wp2
        go_roundw
        case rel => exact ⟨i + 1, by omega, by go_num, trivial, no_more HN.out (by rw [List.getElem?_eq_getElem hin, ← HX.out]) he⟩
        case measure => simp [intOf]; omega
    · have hge : (ks.length : Int) ≤ (i : Int) := by omega
      obtain rfl : r = -1 := place_none HR.out (fun j hj => HN.out j (by omega))
      go_wp2
      go_ret
      exact ⟨rfl, rfl⟩

set_option maxRecDepth 100000 in
theorem internR_old {base g : Nat} {sv : Value} {ks : List ByteArray} {w : World} (h : RefAt base w g sv ks) (hlen : ks.length ≤ 6000000000000) {k : ByteArray} {i : Nat} (hk : ks[i]? = some k) (hf : ∀ j, j < i → ks[j]? ≠ some k) :
    Calls Try.prog 63 #[.pointer (some ⟨g, 0, none⟩), .string k] w fun e w' => e = .returned (.int .i64 i) ∧ w = w' := by
  have hfind := findR h hlen k i (.inl ⟨i, rfl, hk, hf⟩)
  have hi0 : (0 : Int) ≤ (i : Int) := by omega
  have FF := Lib.hid hfind
  clear h hk hf hfind
  go_enter Try.func63, Try.ntmps63
  go_wp2_with fail
  refine FF.out.mono ?_
  rintro e w1 ⟨rfl, rfl⟩
  go_wp2_with fail
  go_ret
  exact ⟨rfl, rfl⟩

theorem infoR : (Try.prog.info? 9).map (fun i => (i.zero, i.size, i.bytes)) = some (some (.string ⟨#[]⟩), 1, 16) := by kernel_rfl

set_option maxRecDepth 100000 in
theorem internR_new {base g : Nat} {sv : Value} {ks : List ByteArray} {w : World} (h : RefAt base w g sv ks) (hbase : base ≤ w.heap.size) (hlen : ks.length ≤ 6000000000000) {k : ByteArray} (hk : k ∉ ks) :
    Calls Try.prog 63 #[.pointer (some ⟨g, 0, none⟩), .string k] w fun e w' => e = .returned (.int .i64 ks.length) ∧ RefLeft base w g sv (ks ++ [k]) w' := by
  have FF := Lib.hid (findR h hlen k (-1) (.inr ⟨rfl, hk⟩))
  obtain ⟨sa, sc, hsv, _, _⟩ := own_len h.own
  subst hsv
  have c0 := h.c0
  obtain ⟨i0, hi, hz0, hz1, hz2⟩ := info_parts infoR
  have hown := h.own
  have HH := Lib.hid h
  have hglt := h.lt
  clear h hk
  go_enter Try.func63, Try.ntmps63
  go_wp2_with fail
  refine FF.out.mono ?_
  rintro e w1 ⟨rfl, rfl⟩
  go_wp2_with (at_builtin; refine wpList_append_lies _ rfl (.tmp 16) (.tmp 18) 43 rfl base 9 i0 (.string ⟨#[]⟩) 1 16 Try.underlying43 hi hz0 hz1 hz2 rfl (by decide) _ _ _ rfl (hown.alloc _) ⟨w.heap.size, 0, none⟩ 1 1 [.string k] rfl rfl (cell_one_new _ _ _) (by simp [Value.oneCell']) (by decide) (by unfold maxLen; omega) (by omega) (by simp; omega) (w.heap.size + 1) (by simp) ?_; intro g' cap w2 hown2 hgrow2 hat2 hlt2; have T2 := ((Turns.refl [] w).alloc (.cells #[.string k] 9)).mono (S' := Value.ownBlock (.slice sa ks.length sc) |>.toList) (by simp) |>.trans (Turns.of_grown hgrow2) (fun x hx => .inl hx); have ⟨_, hc2, hf2⟩ := HH.out.far T2)
  go_ret
  refine ⟨rfl, HH.out.put T2 (ks' := ks ++ [k]) (by simpa using hown2) ?_⟩
  intro b hb
  rcases hat2 with h | h
  · left; exact h.trans hb
  · right
    simp only [Value.ownBlock, Option.some.injEq] at hb
    omega

theorem take_push {ks : List ByteArray} {i : Nat} (h : i < ks.length) : (ks.take i).map Value.string ++ [.string ks[i]] = (ks.take (i + 1)).map Value.string := by
  rw [List.take_succ_eq_append_getElem h, List.map_append]; rfl

/-- Behind an append onto a row of the call's own. -/
theorem own_step {w wr w2 : World} {l : Value} {e : TypeId} {size n : Nat} {xs : List Value} {o : Obj} (hb : Below w.heap.size w wr) (ho : wr.ownsRow w.heap.size e size l n xs) (hg : (wr.alloc o).grownBy w2 l.ownBlock) : Below w.heap.size w w2 := by
  have T : Turns l.ownBlock.toList wr w2 := (((Turns.refl [] wr).alloc o).mono (S' := l.ownBlock.toList) (fun _ h => by cases h)).trans (Turns.of_grown hg) (fun x hx => .inl hx)
  exact hb.trans (T.below hb.size (fun x hx => (ownBlock_cells ho (by simpa using hx)).1))
/-- What holds between two rounds of a copy. -/
inductive Copied (w : World) (ks : List ByteArray) (l i : Value) (wr : World) : Prop
  | mk (n : Nat) (hn : n ≤ ks.length) (hi : i = .int .i64 n) (ho : wr.ownsRow w.heap.size 9 1 l n ((ks.take n).map Value.string)) (hb : Below w.heap.size w wr)

set_option maxRecDepth 100000 in
/-- All: a list of the call's own. -/
theorem allR {base g : Nat} {sv : Value} {ks : List ByteArray} {w : World} (h : RefAt base w g sv ks) (hlen : ks.length ≤ 6000000000000) :
    Calls Try.prog 69 #[.pointer (some ⟨g, 0, none⟩)] w fun e w' => ∃ l, e = .returned l ∧ w'.ownsRow w.heap.size 9 1 l ks.length (ks.map Value.string) ∧ Below w.heap.size w w' := by
  obtain ⟨a, c, rfl, hc1, hc2⟩ := own_len h.own
  obtain ⟨i0, hi, hz0, hz1, hz2⟩ := info_parts infoR
  have H := Lib.hid h
  clear h
  go_enter Try.func69, Try.ntmps69
  go_wp2
  go_loopw [3, 4] (fun l i wr => Copied w ks l i wr) (fun _ i _ => ks.length - (intOf i).toNat)
  case atStart => exact .mk 0 (Nat.zero_le _) rfl (World.ownsRow_nil _ _ _ _) (Below.refl _ _)
  case round =>
    obtain ⟨i, hil, rfl, ho, hb⟩ := hrel
    have c0 := (H.out.below hb).c0
    by_cases hin : i < ks.length
    · obtain ⟨b, c', hf, _, _⟩ := own_form H.out.own (by omega)
      simp only [Value.slice.injEq] at hf
      obtain ⟨rfl, _, rfl⟩ := hf
      have hcell := (H.out.below hb).own.cells (g := b) rfl i (.string ks[i]) (by rw [List.getElem?_map, List.getElem?_eq_getElem hin]; rfl)
      rw [add_none'] at hcell
      simp only [Nat.zero_add] at hcell
      have TP := Lib.hid (take_push hin)
      obtain ⟨x, hx⟩ : ∃ x, x = ks[i] := ⟨_, rfl⟩
      rw [← hx] at hcell TP
      clear hx
      unfold maxLen at hc2
      have hii : (0 : Int) ≤ (i : Int) := by omega
      have hin' : (i : Int) < (ks.length : Int) := by omega
      have hsz := hb.size
      have HB := Lib.hid hb
      clear hb
      go_wp2_with (at_builtin; refine wpList_append_lies _ rfl (.tmp 14) (.tmp 22) 43 rfl w.heap.size 9 i0 (.string ⟨#[]⟩) 1 16 Try.underlying43 hi hz0 hz1 hz2 rfl (by decide) _ _ _ rfl (ho.alloc _) ⟨wr.heap.size, 0, none⟩ 1 1 [.string x] rfl rfl (cell_one_new _ _ _) (by simp [Value.oneCell']) (by decide) (by unfold maxLen; omega) (by omega) (by simp; omega) (wr.heap.size + 1) (by simp) ?_; intro g' cap w2 hown2 hgrow2 hat2 hlt2)
      exact ⟨.mk (i + 1) (by omega) (by go_num) (by rw [← TP.out]; exact hown2) (own_step HB.out ho hgrow2), by simp [intOf]; omega⟩
    · have hge : (ks.length : Int) ≤ (i : Int) := by omega
      obtain rfl : i = ks.length := by omega
      rw [List.take_length] at ho
      go_wp2
      go_ret
      exact ⟨_, rfl, ho, hb⟩

/-- A list of the call's own is put in the keys' place. -/
theorem put_new {base g n : Nat} {sv l : Value} {ks ks' : List ByteArray} {w wr : World} (h : RefAt base w g sv ks) (hb : Below w.heap.size w wr) (ho : wr.ownsRow w.heap.size 9 1 l n (ks'.map Value.string)) (hn : ks'.length = n) (hbase : base ≤ w.heap.size) :
    RefLeft base w g sv ks' (wr.setCell ⟨g, 0, none⟩ l) := by
  subst hn
  refine h.put ((Turns.of_below (S := []) hb).mono (fun _ h => by cases h)) ?_ (fun b hb => .inr (ownBlock_cells ho hb).1)
  exact ⟨ho.1, ho.2.imp id (fun ⟨g, c, cur, h1, h2, h3⟩ => ⟨g, c, cur, h1, Nat.le_trans hbase h2, h3⟩)⟩

set_option maxRecDepth 100000 in
/-- Cut: a copy of the first keys takes the place of the keys. -/
theorem cutR {base g : Nat} {sv : Value} {ks : List ByteArray} {w : World} (h : RefAt base w g sv ks) (hbase : base ≤ w.heap.size) (hlen : ks.length ≤ 6000000000000) (n : Int) (n1 : -9223372036854775808 ≤ n) (n2 : n ≤ 9223372036854775807) :
    Calls Try.prog 73 #[.pointer (some ⟨g, 0, none⟩), .int .i64 n] w fun e w' => e = .returned (.tuple #[]) ∧ RefLeft base w g sv (ks.take n.toNat) w' := by
  obtain ⟨a, c, rfl, hc1, hc2⟩ := own_len h.own
  obtain ⟨i0, hi, hz0, hz1, hz2⟩ := info_parts infoR
  have H := Lib.hid h
  have hglt := h.lt
  by_cases hn : n ≤ 0
  · have c0 := h.c0
    have f0 := h.f0
    have e0 : n.toNat = 0 := by omega
    rw [e0]
    have HF : Hid (RefLeft base w g (.slice a ks.length c) (ks.take 0) (w.setCell ⟨g, 0, none⟩ (.slice none 0 0))) := h.put (Turns.refl _ _) (World.ownsRow_nil _ _ _ _) (fun b hb => by simp [Value.ownBlock] at hb)
    clear h e0 n1 n2
    by_cases h0 : 0 < ks.length
    · have h0' : (0 : Int) < (ks.length : Int) := by omega
      go_enter Try.func73, Try.ntmps73
      go_wp2
      refine wp_loop_rounds 1 ?_
      rw [rounds_succ]
      go_wp2
      go_end0
      exact ⟨rfl, HF.out⟩
    · have h0' : (ks.length : Int) ≤ 0 := by omega
      go_enter Try.func73, Try.ntmps73
      go_wp2
      refine wp_loop_rounds 1 ?_
      rw [rounds_succ]
      go_wp2
      go_end0
      exact ⟨rfl, HF.out⟩
  · obtain ⟨m, rfl⟩ := Int.eq_ofNat_of_zero_le (show 0 ≤ n by omega)
    rw [Int.toNat_natCast]
    have hm0 : (0 : Int) < (m : Int) := by omega
    clear h hn
    go_enter Try.func73, Try.ntmps73
    go_wp2
    go_loopw [5, 6] (fun l i wr => Copied w ks l i wr ∧ (intOf i).toNat ≤ m) (fun _ i _ => ks.length - (intOf i).toNat)
    case atStart => exact ⟨.mk 0 (Nat.zero_le _) rfl (World.ownsRow_nil _ _ _ _) (Below.refl _ _), by simp [intOf]⟩
    case round =>
      obtain ⟨⟨i, hil, rfl, ho, hb⟩, him⟩ := hrel
      simp only [intOf, Int.toNat_natCast] at him
      have c0 := (H.out.below hb).c0
      by_cases hin : i < ks.length
      · have hin' : (i : Int) < (ks.length : Int) := by omega
        by_cases hgo : i < m
        · obtain ⟨b, c', hf, _, _⟩ := own_form H.out.own (by omega)
          simp only [Value.slice.injEq] at hf
          obtain ⟨rfl, _, rfl⟩ := hf
          have hcell := (H.out.below hb).own.cells (g := b) rfl i (.string ks[i]) (by rw [List.getElem?_map, List.getElem?_eq_getElem hin]; rfl)
          rw [add_none'] at hcell
          simp only [Nat.zero_add] at hcell
          have TP := Lib.hid (take_push hin)
          obtain ⟨x, hx⟩ : ∃ x, x = ks[i] := ⟨_, rfl⟩
          rw [← hx] at hcell TP
          clear hx
          unfold maxLen at hc2
          have hii : (0 : Int) ≤ (i : Int) := by omega
          have him' : (i : Int) < (m : Int) := by omega
          have hsz := hb.size
          have HB := Lib.hid hb
          clear hb
          go_wp2_with (at_builtin; refine wpList_append_lies _ rfl (.tmp 23) (.tmp 31) 43 rfl w.heap.size 9 i0 (.string ⟨#[]⟩) 1 16 Try.underlying43 hi hz0 hz1 hz2 rfl (by decide) _ _ _ rfl (ho.alloc _) ⟨wr.heap.size, 0, none⟩ 1 1 [.string x] rfl rfl (cell_one_new _ _ _) (by simp [Value.oneCell']) (by decide) (by unfold maxLen; omega) (by omega) (by simp; omega) (wr.heap.size + 1) (by simp) ?_; intro g' cap w2 hown2 hgrow2 hat2 hlt2)
          exact ⟨⟨.mk (i + 1) (by omega) (by go_num) (by rw [← TP.out]; exact hown2) (own_step HB.out ho hgrow2), by simp [intOf]; omega⟩, by simp [intOf]; omega⟩
        · have hge : (m : Int) ≤ (i : Int) := by omega
          obtain rfl : i = m := by omega
          have f0 := (H.out.below hb).f0
          obtain ⟨la, lc, rfl, _, _⟩ := own_len ho
          have HF := Lib.hid (put_new H.out hb ho (by rw [List.length_take]; omega) hbase)
          clear ho
          go_wp2
          go_end0
          exact ⟨rfl, HF.out⟩
      · have hge : (ks.length : Int) ≤ (i : Int) := by omega
        obtain rfl : i = ks.length := by omega
        have f0 := (H.out.below hb).f0
        obtain ⟨la, lc, rfl, _, _⟩ := own_len ho
        have HF := Lib.hid (put_new (ks' := ks.take m) H.out hb (by rw [List.take_length] at ho; rw [List.take_of_length_le (show ks.length ≤ m from him)]; exact ho) (by rw [List.take_of_length_le (show ks.length ≤ m from him)]) hbase)
        clear ho
        go_wp2
        go_end0
        exact ⟨rfl, HF.out⟩
end Go.Proofs.Ytblonickpmogiaa
