/- The walks of the document's Table (edictref01): New, Len, Const, At, Find, Intern. -/
import Derived.Test.YtblonickpmogiaaRefIds
import Derived.Test.YtblonickpmogiaaRefSort
import Derived.Test.YtblonickpmogiaaValid
namespace Go.Proofs.Ytblonickpmogiaa
open Go.RowKit Go.Maps
attribute [local go_sem ↓] Go.wp_at_zero Go.wp_at_succ

structure RTab (base : Nat) (w : World) (g : Nat) (sv : Value) (ks : List Cst) : Prop where
  blk : w.heap[g]? = some (.cells #[sv] 128 (0, 0))
  own : OwnC w base sv ks
  gb : base ≤ g
def RTLeft (base : Nat) (w : World) (g : Nat) (sv : Value) (ks' : List Cst) (w' : World) : Prop :=
  ∃ sv', RTab base w' g sv' ks' ∧ Turns (rfoot g sv) w w' ∧ ∀ b, sv'.ownBlock = some b → sv.ownBlock = some b ∨ w.heap.size ≤ b

section
variable {base : Nat} {w w' : World} {g : Nat} {sv : Value} {ks : List Cst}
theorem RTab.c0 (h : RTab base w g sv ks) : w.cell? ⟨g, 0, none⟩ = some sv := cell_of_row w g 0 _ _ _ h.blk
theorem RTab.f0 (h : RTab base w g sv ks) : w.frozen? ⟨g, 0, none⟩ = false := by
  have := h.blk
  simp [World.frozen?, this]
theorem RTab.lt (h : RTab base w g sv ks) : g < w.heap.size := lt_of_heap h.blk
theorem RTab.row_ne (h : RTab base w g sv ks) {b : Nat} (hb : sv.ownBlock = some b) : b ≠ g ∧ base ≤ b ∧ b < w.heap.size := by
  obtain ⟨h1, h2, cur, h3⟩ := ownBlock_cells h.own hb
  refine ⟨?_, h1, h2⟩
  rintro rfl
  have := h.blk
  rw [h3] at this
  injection this with this
  injection this with _ ht
  exact absurd ht (by decide)
theorem RTab.foot_lt (h : RTab base w g sv ks) : ∀ b ∈ rfoot g sv, base ≤ b ∧ b < w.heap.size := by
  intro b hb
  simp only [rfoot, List.mem_cons, Option.mem_toList] at hb
  rcases hb with rfl | hb
  · exact ⟨h.gb, h.lt⟩
  · exact (h.row_ne hb).2
theorem RTab.turns {S : List Nat} (h : RTab base w g sv ks) (ht : Turns S w w') (hn : ∀ b ∈ rfoot g sv, b ∉ S) : RTab base w' g sv ks :=
  ⟨(ht.block g h.lt (hn g (by simp [rfoot]))).trans h.blk, ownsRow_turns h.own ht (fun b hb => hn b (by simp [rfoot, hb])), h.gb⟩
theorem RTab.below (h : RTab base w g sv ks) (hb : Below w.heap.size w w') : RTab base w' g sv ks := h.turns (S := []) (Turns.of_below hb) (fun _ _ hm => by cases hm)
/-- Behind what has turned the keys' row at most. -/
theorem RTab.far {w2 : World} (h : RTab base w g sv ks) (T : Turns sv.ownBlock.toList w w2) : w2.heap[g]? = some (.cells #[sv] 128 (0, 0)) ∧ w2.cell? ⟨g, 0, none⟩ = some sv ∧ w2.frozen? ⟨g, 0, none⟩ = false := by
  have hgs : g ∉ sv.ownBlock.toList := fun hm => (h.row_ne (by simpa using hm)).1 rfl
  have e2 : w2.heap[g]? = some (.cells #[sv] 128 (0, 0)) := (T.block g h.lt hgs).trans h.blk
  exact ⟨e2, cell_of_row w2 g 0 _ _ _ e2, by simp [World.frozen?, e2]⟩
/-- .. and the store into the struct. -/
theorem RTab.put {w2 : World} {v' : Value} {ks' : List Cst} (h : RTab base w g sv ks) (T : Turns sv.ownBlock.toList w w2) (ho : OwnC w2 base v' ks')
    (hat : ∀ b, v'.ownBlock = some b → sv.ownBlock = some b ∨ w.heap.size ≤ b) : RTLeft base w g sv ks' (w2.setCell ⟨g, 0, none⟩ v') := by
  obtain ⟨e2, _, _⟩ := h.far T
  have hvg : ∀ b, v'.ownBlock = some b → b ∉ [g] := by
    intro b hb
    obtain ⟨_, hlt, cur, h3⟩ := ownBlock_cells ho hb
    simp only [List.mem_singleton]
    rintro rfl
    rw [e2] at h3
    injection h3 with h3
    injection h3 with _ ht
    exact absurd ht (by decide)
  have T4 : Turns [g] w2 (w2.setCell ⟨g, 0, none⟩ v') := (Turns.refl _ _).setCell (.inl (by simp)) _
  refine ⟨v', ⟨?_, ownsRow_turns ho T4 hvg, h.gb⟩, (T.mono (fun x hx => by simp only [rfoot, List.mem_cons]; exact .inr hx)).setCell (.inl (by simp [rfoot])) _, hat⟩
  simp [World.setCell, Array.getElem?_modify, e2]
theorem RTab.same (h : RTab base w g sv ks) (hb : Below w.heap.size w w') : RTLeft base w g sv ks w' := ⟨sv, h.below hb, Turns.of_below hb, fun _ h => .inl h⟩
theorem RTLeft.after {w1 : World} {ks' : List Cst} (hb : Below w.heap.size w w1) (hl : RTLeft base w1 g sv ks' w') : RTLeft base w g sv ks' w' := by
  obtain ⟨s', h1, ht, hf⟩ := hl
  refine ⟨s', h1, (Turns.of_below (S := rfoot g sv) hb).trans ht (fun x hx => .inl hx), fun b hbb => ?_⟩
  rcases hf b hbb with h | h
  · exact .inl h
  · exact .inr (Nat.le_trans hb.size h)
/-- The keys' cells. -/
theorem RTab.keyAt {b n c : Nat} (h : RTab base w g (.slice (some ⟨b, 0, none⟩) n c) ks) {i : Nat} {x : Cst} (hk : ks[i]? = some x) :
    w.cell? ⟨b, i * 3, none⟩ = some (.int .i64 x.k) ∧ w.cell? ⟨b, i * 3 + 1, none⟩ = some (.int .i64 x.n) ∧ w.cell? ⟨b, i * 3 + 2, none⟩ = some (.string x.s) := by
  have H : ∀ j u, x.cells[j]? = some u → w.cell? ⟨b, i * 3 + j, none⟩ = some u := by
    intro j u hu
    have := own_cells h.own (i * 3 + j) u (flat_at ks i x hk j u hu)
    rwa [add_none, Nat.zero_add] at this
  exact ⟨H 0 _ rfl, H 1 _ rfl, H 2 _ rfl⟩
theorem RTab.form (h : RTab base w g sv ks) : ∃ a c, sv = .slice a ks.length c := own_anyC h.own
theorem RTab.form1 (h : RTab base w g sv ks) (hn : 0 < ks.length) : ∃ b c, sv = .slice (some ⟨b, 0, none⟩) ks.length c ∧ b < w.heap.size := by
  obtain ⟨b, c, rfl, _⟩ := own_form3 h.own hn
  exact ⟨b, c, rfl, (h.row_ne rfl).2.2⟩
end

theorem newRT (w : World) : Calls Try.prog 50 #[] w fun e w' => e = .returned (.pointer (some ⟨w.heap.size, 0, none⟩)) ∧ RTab w.heap.size w' w.heap.size (.slice none 0 0) [] ∧ Below w.heap.size w w' := by
  go_enter Try.func50, Try.ntmps50
  go_wp2
  go_ret
  exact ⟨rfl, ⟨heap_alloc_new w _, World.ownsRow_nil _ _ _ _, Nat.le_refl _⟩, (Below.refl _ _).alloc (Nat.le_refl _) _⟩

section
variable {base g : Nat} {sv : Value} {ks : List Cst} {w : World}
theorem lenRT (h : RTab base w g sv ks) :
    Calls Try.prog 90 #[.pointer (some ⟨g, 0, none⟩)] w fun e w' => e = .returned (.int .i64 ks.length) ∧ w = w' := by
  obtain ⟨a, c, rfl⟩ := h.form
  have c0 := h.c0
  clear h
  go_enter Try.func90, Try.ntmps90
  go_wp2
  go_ret
  exact ⟨rfl, rfl⟩
set_option maxRecDepth 100000 in
theorem atRT_in (h : RTab base w g sv ks) {i : Nat} {c : Cst} (hk : ks[i]? = some c) :
    Calls Try.prog 88 #[.pointer (some ⟨g, 0, none⟩), .int .i64 i] w fun e w' => e = .returned (.tuple #[.agg #[.int .i64 c.k, .int .i64 c.n, .string c.s], .bool true]) ∧ Below w.heap.size w w' := by
  have hlt := (List.getElem?_eq_some_iff.1 hk).1
  obtain ⟨b, cp, rfl, hbl⟩ := h.form1 (by omega)
  obtain ⟨k0, k1, k2⟩ := h.keyAt hk
  have hi0 : (0 : Int) ≤ (i : Int) := by omega
  have hi1 : (i : Int) < (ks.length : Int) := by omega
  have hg := h.lt
  have c0 := h.c0
  clear h hk
  go_enter Try.func88, Try.ntmps88
  go_wp2
  refine bodyPost_ret (v := .tuple #[.agg #[.int .i64 c.k, .int .i64 c.n, .string c.s], .bool true]) (by simp [results, Try.results88, go_sem]) rfl ⟨rfl, ?_⟩
  exact (Below.refl _ _).alloc (Nat.le_refl _) _
set_option maxRecDepth 100000 in
theorem atRT_out (h : RTab base w g sv ks) {i : Int} (hi : i < 0 ∨ (ks.length : Int) ≤ i) :
    Calls Try.prog 88 #[.pointer (some ⟨g, 0, none⟩), .int .i64 i] w fun e w' => e = .returned (.tuple #[.agg #[.int .i64 0, .int .i64 0, .string ⟨#[]⟩], .bool false]) ∧ Below w.heap.size w w' := by
  obtain ⟨a, cp, rfl⟩ := h.form
  have c0 := h.c0
  have hg := h.lt
  clear h
  by_cases h0 : i < 0
  · clear hi
    go_enter Try.func88, Try.ntmps88
    go_wp2
    refine bodyPost_ret (v := .tuple #[.agg #[.int .i64 0, .int .i64 0, .string ⟨#[]⟩], .bool false]) (by simp [results, Try.results88, go_sem]) rfl ⟨rfl, ?_⟩
    exact (Below.refl _ _).alloc (Nat.le_refl _) _
  · have h1 : (ks.length : Int) ≤ i := by omega
    clear hi
    go_enter Try.func88, Try.ntmps88
    go_wp2
    refine bodyPost_ret (v := .tuple #[.agg #[.int .i64 0, .int .i64 0, .string ⟨#[]⟩], .bool false]) (by simp [results, Try.results88, go_sem]) rfl ⟨rfl, ?_⟩
    exact (Below.refl _ _).alloc (Nat.le_refl _) _
set_option maxRecDepth 100000 in
theorem constRT_in (h : RTab base w g sv ks) {i : Nat} {c : Cst} (hk : ks[i]? = some c) :
    Calls Try.prog 89 #[.pointer (some ⟨g, 0, none⟩), .int .i64 i] w fun e w' => e = .returned (.tuple #[.agg #[.int .i64 c.k, .int .i64 c.n, .string c.s], .int .i64 0]) ∧ Below w.heap.size w w' := by
  have hlt := (List.getElem?_eq_some_iff.1 hk).1
  obtain ⟨b, cp, rfl, hbl⟩ := h.form1 (by omega)
  obtain ⟨k0, k1, k2⟩ := h.keyAt hk
  have hi0 : (0 : Int) ≤ (i : Int) := by omega
  have hi1 : (i : Int) < (ks.length : Int) := by omega
  have hg := h.lt
  have c0 := h.c0
  clear h hk
  go_enter Try.func89, Try.ntmps89
  go_wp2
  refine bodyPost_ret (v := .tuple #[.agg #[.int .i64 c.k, .int .i64 c.n, .string c.s], .int .i64 0]) (by simp [results, Try.results89, go_sem]) rfl ⟨rfl, ?_⟩
  exact (Below.refl _ _).alloc (Nat.le_refl _) _
set_option maxRecDepth 100000 in
theorem constRT_out (h : RTab base w g sv ks) {i : Int} (hi : i < 0 ∨ (ks.length : Int) ≤ i) :
    Calls Try.prog 89 #[.pointer (some ⟨g, 0, none⟩), .int .i64 i] w fun e w' => e = .returned (.tuple #[.agg #[.int .i64 0, .int .i64 0, .string ⟨#[]⟩], .int .i64 2]) ∧ Below w.heap.size w w' := by
  obtain ⟨a, cp, rfl⟩ := h.form
  have c0 := h.c0
  have hg := h.lt
  clear h
  by_cases h0 : i < 0
  · clear hi
    go_enter Try.func89, Try.ntmps89
    go_wp2
    refine bodyPost_ret (v := .tuple #[.agg #[.int .i64 0, .int .i64 0, .string ⟨#[]⟩], .int .i64 2]) (by simp [results, Try.results89, go_sem]) rfl ⟨rfl, ?_⟩
    exact (Below.refl _ _).alloc (Nat.le_refl _) _
  · have h1 : (ks.length : Int) ≤ i := by omega
    clear hi
    go_enter Try.func89, Try.ntmps89
    go_wp2
    refine bodyPost_ret (v := .tuple #[.agg #[.int .i64 0, .int .i64 0, .string ⟨#[]⟩], .int .i64 2]) (by simp [results, Try.results89, go_sem]) rfl ⟨rfl, ?_⟩
    exact (Below.refl _ _).alloc (Nat.le_refl _) _
end

open Classical in
/-- Two constants the same. -/
noncomputable def eqC (a b : Cst) : Bool := decide (a = b)
theorem eqC_self (a : Cst) : eqC a a = true := by unfold eqC; simp
theorem eqC_ne {a b : Cst} (h : a ≠ b) : eqC a b = false := by unfold eqC; simp [h]

set_option maxRecDepth 100000 in
set_option maxHeartbeats 1000000 in
theorem sameRW (a b : Cst) (w : World) : Calls Try.prog 77 #[.agg #[.int .i64 a.k, .int .i64 a.n, .string a.s], .agg #[.int .i64 b.k, .int .i64 b.n, .string b.s]] w fun e w' => e = .returned (.bool (eqC a b)) ∧ Below w.heap.size w w' := by
  by_cases h : a = b
  · subst h
    rw [eqC_self]
    go_enter Try.func77, Try.ntmps77
    go_wp2
    go_ret
    exact ⟨rfl, ((Below.refl _ _).alloc (Nat.le_refl _) _).alloc (by simp) _⟩
  · rw [eqC_ne h]
    obtain ⟨ak, an, ax⟩ := a
    obtain ⟨bk, bn, bx⟩ := b
    by_cases h1 : ak = bk
    · by_cases h2 : an = bn
      · have h3 : (ax.toList == bx.toList) = false := beq_false_of_ne (fun e => h (by rw [h1, h2, toList_inj e]))
        subst h1; subst h2
        clear h
        go_enter Try.func77, Try.ntmps77
        go_wp2
        go_ret
        exact ⟨rfl, ((Below.refl _ _).alloc (Nat.le_refl _) _).alloc (by simp) _⟩
      · have h3 : (an == bn) = false := by simpa using h2
        subst h1
        clear h h2
        go_enter Try.func77, Try.ntmps77
        go_wp2
        go_ret
        exact ⟨rfl, ((Below.refl _ _).alloc (Nat.le_refl _) _).alloc (by simp) _⟩
    · have h3 : (ak == bk) = false := by simpa using h1
      clear h h1
      go_enter Try.func77, Try.ntmps77
      go_wp2
      go_ret
      exact ⟨rfl, ((Below.refl _ _).alloc (Nat.le_refl _) _).alloc (by simp) _⟩

/-- Where Find ends: r is k's place, or -1. -/
def PlaceC (ks : List Cst) (k : Cst) (r : Int) : Prop := (∃ i : Nat, r = i ∧ ks[i]? = some k ∧ ∀ j, j < i → ks[j]? ≠ some k) ∨ (r = -1 ∧ k ∉ ks)
theorem placeC_at {ks : List Cst} {k : Cst} {r : Int} (h : PlaceC ks k r) {i : Nat} (hi : ks[i]? = some k) (hno : ∀ j, j < i → ks[j]? ≠ some k) : r = i := by
  rcases h with ⟨n, rfl, hn, hf⟩ | ⟨_, hm⟩
  · rcases Nat.lt_trichotomy n i with h | h | h
    · exact absurd hn (hno n h)
    · rw [h]
    · exact absurd hi (hf i h)
  · exact absurd (List.mem_of_getElem? hi) hm
theorem placeC_none {ks : List Cst} {k : Cst} {r : Int} (h : PlaceC ks k r) (hno : ∀ j, j < ks.length → ks[j]? ≠ some k) : r = -1 := by
  rcases h with ⟨n, rfl, hn, hf⟩ | ⟨rfl, _⟩
  · exact absurd hn (hno n (List.getElem?_eq_some_iff.1 hn).1)
  · rfl
theorem placeC_nodup {ks : List Cst} {k : Cst} (nd : ks.Nodup) {i : Nat} (hi : ks[i]? = some k) : PlaceC ks k i := by
  refine .inl ⟨i, rfl, hi, fun j hj hjk => ?_⟩
  obtain ⟨h1, e1⟩ := List.getElem?_eq_some_iff.1 hi
  obtain ⟨h2, e2⟩ := List.getElem?_eq_some_iff.1 hjk
  have := (List.getElem_inj nd).1 (e1.trans e2.symm)
  omega

section
variable {base g : Nat} {sv : Value} {ks : List Cst} {w : World}
set_option maxRecDepth 100000 in
set_option maxHeartbeats 2000000 in
/-- Find: the first place of k, or -1. -/
theorem findRT (h : RTab base w g sv ks) (hlen : ks.length ≤ 70000) (k : Cst) (r : Int) (hr : PlaceC ks k r) :
    Calls Try.prog 87 #[.pointer (some ⟨g, 0, none⟩), .agg #[.int .i64 k.k, .int .i64 k.n, .string k.s]] w fun e w' => e = .returned (.int .i64 r) ∧ Below w.heap.size w w' := by
  obtain ⟨a, c, rfl⟩ := h.form
  obtain ⟨W1, hW1⟩ : ∃ W1, W1 = w.alloc (.cells #[.int .i64 k.k, .int .i64 k.n, .string k.s] 27) := ⟨_, rfl⟩
  have hB1 : Below w.heap.size w W1 := by rw [hW1]; exact (Below.refl _ _).alloc (Nat.le_refl _) _
  have hbox : W1.heap[w.heap.size]? = some (.cells #[.int .i64 k.k, .int .i64 k.n, .string k.s] 27 (0, 0)) := by rw [hW1]; exact heap_alloc_new w _
  have H1 := Lib.hid (h.below hB1)
  have HX := Lib.hid (And.intro hbox hB1)
  have HR := Lib.hid hr
  have HS := Lib.hid (fun (x : Cst) W => sameRW x k W)
  have c0' := h.c0
  clear h hr hbox hB1
  go_enter Try.func87, Try.ntmps87
  go_wp2
  rw [← hW1]
  clear hW1
  go_loopw [5] (fun i wr => ∃ n : Nat, n ≤ ks.length ∧ i = .int .i64 n ∧ Below W1.heap.size W1 wr ∧ ∀ j, j < n → ks[j]? ≠ some k) (fun i _ => ks.length - (intOf i).toNat)
  case atStart => exact ⟨0, Nat.zero_le _, rfl, Below.refl _ _, by simp⟩
  case round =>
    obtain ⟨i, hi, rfl, hb, hno⟩ := hrel
    have HN := Lib.hid hno
    have HB := Lib.hid hb
    have hR := H1.out.below hb
    clear hno
    by_cases hin : i < ks.length
    · obtain ⟨b, c', hf, hbl⟩ := hR.form1 (by omega)
      simp only [Value.slice.injEq] at hf
      obtain ⟨rfl, _, rfl⟩ := hf
      obtain ⟨x, hx⟩ : ∃ x, x = ks[i] := ⟨_, rfl⟩
      have hxk : ks[i]? = some x := by rw [List.getElem?_eq_getElem hin, hx]
      obtain ⟨k0, k1, k2⟩ := (hR.below (Below.refl _ _).drew).keyAt hxk
      have d0 := hR.c0
      have c0 := (hR.below (Below.refl _ _).drew).c0
      have hbd := hb.drew
      have hXd := (hbd.block _ (lt_of_heap HX.out.1)).trans HX.out.1
      have x0 := cell_of_row wr.drew w.heap.size 0 _ _ _ hXd
      have x1 := cell_of_row wr.drew w.heap.size 1 _ _ _ hXd
      have x2 := cell_of_row wr.drew w.heap.size 2 _ _ _ hXd
      simp only [List.getElem?_toArray, List.getElem?_cons_zero, List.getElem?_cons_succ] at x0 x1 x2
      have e1 : (0 : Int) ≤ (i : Int) := by omega
      have e2 : (i : Int) < (ks.length : Int) := by omega
      have HXK := Lib.hid hxk
      have HBD := Lib.hid hbd
      have HK := Lib.hid hin
      clear hx hxk hb hR hXd hbd hin
      go_wp2
      go_still_tail 8, (by kernel_rfl)
      change wpList _ _ _ _ _ wr.drew
      go_wp2_with fail
      refine (HS.out x _).mono ?_
      rintro e w2 ⟨rfl, h2⟩
      have HB2 := Lib.hid (HBD.out.trans (h2.mono HBD.out.size))
      clear h2 k0 k1 k2 d0 c0 x0 x1 x2
      by_cases he : x = k
      · subst he
        have HRI := Lib.hid (placeC_at HR.out HXK.out HN.out)
        rw [eqC_self]
        go_wp2
        go_ret
        exact ⟨by rw [HRI.out]; rfl, HX.out.2.trans (HB2.out.mono HX.out.2.size)⟩
      · have HNE := Lib.hid he
        rw [eqC_ne he]
        clear he
        go_wp2
        exact ⟨⟨i + 1, HK.out, by go_num, HB2.out, fun j hj => by
          rcases Nat.lt_or_ge j i with h | h
          · exact HN.out j h
          · obtain rfl : j = i := by omega
            rw [HXK.out]
            exact fun e => HNE.out (Option.some.inj e)⟩, by simp [intOf]; have := HK.out; omega⟩
    · have hge : (ks.length : Int) ≤ (i : Int) := by omega
      have d0 := hR.c0
      have HRI := Lib.hid (placeC_none HR.out (fun j hj => HN.out j (by omega)))
      clear hR hb
      go_wp2
      go_ret
      exact ⟨by rw [HRI.out]; rfl, HX.out.2.trans (HB.out.mono HX.out.2.size)⟩
end
end Go.Proofs.Ytblonickpmogiaa
