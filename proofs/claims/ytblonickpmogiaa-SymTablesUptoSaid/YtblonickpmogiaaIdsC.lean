/- The walks of an Ids of constants. -/
import Derived.Test.YtblonickpmogiaaChecked
import Derived.Test.YtblonickpmogiaaIds
import Derived.Test.YtblonickpmogiaaApp
import Derived.Test.YtblonickpmogiaaSl
import Derived.WalkLawsBesides
import Derived.WalkSpells
import Derived.Lib.Hide
import Derived.KernelRfl
import Derived.Maps.AppendAt
import Derived.DeepKeys4
import Derived.Deep.QuietTactic
import Derived.BigQuiet
import Derived.Deep.RegionHeld3
import Derived.Deep.RegionLaw
import Derived.Deep.DrawnRows
namespace Go.Proofs.Ytblonickpmogiaa
open Go.RowKit Go.Maps

def Cst.v (c : Cst) : Value := .agg #[.int .i64 c.k, .int .i64 c.n, .string c.s]
theorem Cst.v_inj {c d : Cst} (h : c.v = d.v) : c = d := by
  obtain ⟨a1, a2, a3⟩ := c; obtain ⟨b1, b2, b3⟩ := d
  simp only [Cst.v, Value.agg.injEq] at h
  simp at h
  obtain ⟨rfl, rfl, rfl⟩ := h
  rfl

def kindC : IdsKind Cst where
  tK := 27
  tE := 3
  tT := 63
  sz := 3
  cells := Cst.cells
  val := Cst.v
  ne := by decide
  len := fun _ => rfl

theorem laidC : laidOutB Try.prog = true := by kernel_rfl
theorem rowC : 27 < Try.prog.types.size := of_decide_eq_true (by kernel_rfl)
theorem infoC : (Try.prog.info? 27).map (fun i => (i.zero, i.size, i.bytes)) = some (some (.agg #[.int .i64 0, .int .i64 0, .string ⟨#[]⟩]), 3, 32) := by kernel_rfl
theorem keyedC : Keyed Try.prog 27 := Keyed.of_law (deep_law_laid laidC (m := 2) (by omega) rowC (by kernel_rfl) (by rw [Try.underlying27]))
theorem zeroC (w : World) : (zeroValue 3).run Try.prog w = .ok (.int .i64 0) w := by kernel_rfl
theorem ktC : Try.prog.keyType 27 = true := by kernel_rfl
theorem cellsC : Try.prog.cellsOf 27 = 3 := by kernel_rfl
theorem cellsI : Try.prog.cellsOf 3 = 1 := by kernel_rfl
theorem cellsI64 : Try.prog.cellsOf 2 = 1 := by kernel_rfl
theorem cellsStr : Try.prog.cellsOf 9 = 1 := by kernel_rfl
theorem ksz : ∃ d, Try.prog.types.size = d + 1 := ⟨Try.prog.types.size - 1, by have : 0 < Try.prog.types.size := of_decide_eq_true (by kernel_rfl); omega⟩
theorem keyC {c : Cst} (h : c.ok) : ∃ l, keyOf Try.prog 27 c.v = some l := by
  obtain ⟨d, hd⟩ := ksz
  refine ⟨.string (keyBytes [.int .i64 c.k, .int .i64 c.n, .string c.s.data.toList]), ?_⟩
  unfold keyOf
  rw [Try.underlying27, ktC, hd]
  simp [Value.formed, Try.underlying27, Cst.v, cellsC, Value.cells, Program.keyLits, cellsI, cellsI64, cellsStr, Try.underlying3, Try.underlying2, Try.underlying9, h.1, h.2.1, h.2.2]

theorem not_memC {ks : List Cst} {c : Cst} (h : c ∉ ks) : c.v ∉ ks.map kindC.val := by
  intro hm
  obtain ⟨x, hx, he⟩ := List.mem_map.1 hm
  exact h (Cst.v_inj he ▸ hx)

theorem findC_hit {base g m : Nat} {sv : Value} {ks : List Cst} {w : World} (h : IdsAt Try.prog kindC base w g m sv ks) {i : Nat} {c : Cst} (hk : ks[i]? = some c) :
    Calls Try.prog 41 #[.pointer (some ⟨g, 0, none⟩), .agg #[.int .i64 c.k, .int .i64 c.n, .string c.s]] w fun e w' => e = .returned (.int .i64 i) ∧ Below w.heap.size w w' := by
  have h2 : IdsAt Try.prog kindC base ((w.alloc (.cells #[.int .i64 c.k, .int .i64 c.n, .string c.s] 27)).drew) g m sv ks := h.below ((Below.refl _ _).alloc (Nat.le_refl _) _).drew
  have hrun := h2.map.hit (t := 61) keyedC Try.underlying61 Try.underlying3 (zeroC _) (i := i) (v := .agg #[.int .i64 c.k, .int .i64 c.n, .string c.s]) (by rw [List.getElem?_map, hk]; rfl)
  have c1 := h.c1
  have hg := h.g_lt
  have hne : g ≠ w.heap.size := by omega
  clear h h2 hk
  go_enter Try.func41, Try.ntmps41
  go_wp2
  go_region
  go_wp2
  go_ret
  exact ⟨rfl, ((Below.refl _ _).alloc (Nat.le_refl _) _).drew⟩
theorem findC_miss {base g m : Nat} {sv : Value} {ks : List Cst} {w : World} (h : IdsAt Try.prog kindC base w g m sv ks) {c : Cst} (hok : c.ok) (hk : c ∉ ks) :
    Calls Try.prog 41 #[.pointer (some ⟨g, 0, none⟩), .agg #[.int .i64 c.k, .int .i64 c.n, .string c.s]] w fun e w' => e = .returned (.int .i64 (-1)) ∧ Below w.heap.size w w' := by
  have h2 : IdsAt Try.prog kindC base ((w.alloc (.cells #[.int .i64 c.k, .int .i64 c.n, .string c.s] 27)).drew) g m sv ks := h.below ((Below.refl _ _).alloc (Nat.le_refl _) _).drew
  obtain ⟨l, hl⟩ := keyC hok
  have hrun := h2.map.miss (t := 61) keyedC Try.underlying61 Try.underlying3 (zeroC _) (v := .agg #[.int .i64 c.k, .int .i64 c.n, .string c.s]) hl (not_memC hk)
  have c1 := h.c1
  have hg := h.g_lt
  have hne : g ≠ w.heap.size := by omega
  clear h h2 hk hl
  go_enter Try.func41, Try.ntmps41
  go_wp2
  go_region
  go_wp2
  go_ret
  exact ⟨rfl, ((Below.refl _ _).alloc (Nat.le_refl _) _).drew⟩

theorem own_lenC {w : World} {base : Nat} {e : TypeId} {size : Nat} {v : Value} {n : Nat} {xs : List Value} (h : w.ownsRow base e size v n xs) : ∃ a c, v = .slice a n c ∧ n ≤ c ∧ c ≤ maxLen := by
  rcases h.2 with ⟨rfl, rfl⟩ | ⟨g, cap, cur, rfl, _, _, h1, h2, _⟩
  · exact ⟨none, 0, rfl, Nat.le_refl _, Nat.zero_le _⟩
  · exact ⟨_, cap, rfl, h1, h2⟩
theorem own_formC {w : World} {base : Nat} {e : TypeId} {size : Nat} {v : Value} {n : Nat} {xs : List Value} (h : w.ownsRow base e size v n xs) (hn : 0 < n) : ∃ b c, v = .slice (some ⟨b, 0, none⟩) n c ∧ n ≤ c ∧ c ≤ maxLen := by
  rcases h.2 with ⟨rfl, rfl⟩ | ⟨g, cap, cur, rfl, _, _, h1, h2, _⟩
  · omega
  · exact ⟨_, cap, rfl, h1, h2⟩
/-- Key number i in the keys' row. -/
theorem flatC : ∀ (ks : List Cst) (i : Nat) (c : Cst), ks[i]? = some c → ∀ j u, c.cells[j]? = some u → (ks.flatMap kindC.cells)[i * 3 + j]? = some u
  | [], i, c, h, _, _, _ => by simp at h
  | a :: l, 0, c, h, j, u, hu => by
    simp at h
    subst h
    have hj : j < a.cells.length := (List.getElem?_eq_some_iff.1 hu).1
    rw [List.flatMap_cons, Nat.zero_mul, Nat.zero_add, List.getElem?_append_left (by exact hj)]
    exact hu
  | a :: l, i + 1, c, h, j, u, hu => by
    have h' : l[i]? = some c := by simpa using h
    rw [List.flatMap_cons, List.getElem?_append_right (by show 3 ≤ _; omega)]
    have e : (i + 1) * 3 + j - (kindC.cells a).length = i * 3 + j := by show (i + 1) * 3 + j - 3 = _; omega
    rw [e]
    exact flatC l i c h' j u hu
theorem IdsAt.keyCells {base g m : Nat} {b n cp : Nat} {ks : List Cst} {w : World} (h : IdsAt Try.prog kindC base w g m (.slice (some ⟨b, 0, none⟩) n cp) ks) {i : Nat} {c : Cst} (hk : ks[i]? = some c) : CsAt w b (i * 3) c.cells := by
  intro j u hu
  have := h.own.cells (g := b) rfl (i * 3 + j) u (flatC ks i c hk j u hu)
  rwa [add_none, Nat.zero_add] at this

theorem lenC {base g m : Nat} {sv : Value} {ks : List Cst} {w : World} (h : IdsAt Try.prog kindC base w g m sv ks) :
    Calls Try.prog 27 #[.pointer (some ⟨g, 0, none⟩)] w fun e w' => e = .returned (.int .i64 ks.length) ∧ w = w' := by
  obtain ⟨a, c, rfl, _, _⟩ := own_lenC h.own
  have c0 := h.c0
  clear h
  go_enter Try.func27, Try.ntmps27
  go_wp2
  go_ret
  exact ⟨rfl, rfl⟩

set_option maxRecDepth 100000 in
theorem atC_in {base g m : Nat} {sv : Value} {ks : List Cst} {w : World} (h : IdsAt Try.prog kindC base w g m sv ks) {i : Nat} {c : Cst} (hk : ks[i]? = some c) :
    Calls Try.prog 54 #[.pointer (some ⟨g, 0, none⟩), .int .i64 i] w fun e w' => e = .returned (.tuple #[.agg #[.int .i64 c.k, .int .i64 c.n, .string c.s], .bool true]) ∧ Below w.heap.size w w' := by
  have hlt := (List.getElem?_eq_some_iff.1 hk).1
  obtain ⟨b, cp, rfl, hc1, hc2⟩ := own_formC h.own (by omega)
  have hcs := h.keyCells hk
  have k0 := hcs 0 _ rfl; have k1 := hcs 1 _ rfl; have k2 := hcs 2 _ rfl
  simp only [Nat.add_zero] at k0
  unfold maxLen at hc2
  have hi0 : (0 : Int) ≤ (i : Int) := by omega
  have hi1 : (i : Int) < (ks.length : Int) := by omega
  have hg := h.g_lt
  have hb := (h.row_ne (b := b) rfl).2.2.2
  have c0 := h.c0
  clear h hk hcs
  go_enter Try.func54, Try.ntmps54
  go_wp2
  refine bodyPost_ret (v := .tuple #[.agg #[.int .i64 c.k, .int .i64 c.n, .string c.s], .bool true]) (by simp [results, Try.results54, go_sem]) rfl ⟨rfl, ?_⟩
  exact ((Below.refl _ _).alloc (Nat.le_refl _) _).alloc (by simp) _

set_option maxRecDepth 100000 in
theorem atC_out {base g m : Nat} {sv : Value} {ks : List Cst} {w : World} (h : IdsAt Try.prog kindC base w g m sv ks) {i : Int} (hi : i < 0 ∨ (ks.length : Int) ≤ i) :
    Calls Try.prog 54 #[.pointer (some ⟨g, 0, none⟩), .int .i64 i] w fun e w' => e = .returned (.tuple #[.agg #[.int .i64 0, .int .i64 0, .string ⟨#[]⟩], .bool false]) ∧ Below w.heap.size w w' := by
  obtain ⟨a, cp, rfl, _, _⟩ := own_lenC h.own
  have c0 := h.c0
  have hg := h.g_lt
  clear h
  by_cases h0 : i < 0
  · clear hi
    go_enter Try.func54, Try.ntmps54
    go_wp2
    refine bodyPost_ret (v := .tuple #[.agg #[.int .i64 0, .int .i64 0, .string ⟨#[]⟩], .bool false]) (by simp [results, Try.results54, go_sem]) rfl ⟨rfl, ?_⟩
    exact ((Below.refl _ _).alloc (Nat.le_refl _) _).alloc (by simp) _
  · have h1 : (ks.length : Int) ≤ i := by omega
    clear hi
    go_enter Try.func54, Try.ntmps54
    go_wp2
    refine bodyPost_ret (v := .tuple #[.agg #[.int .i64 0, .int .i64 0, .string ⟨#[]⟩], .bool false]) (by simp [results, Try.results54, go_sem]) rfl ⟨rfl, ?_⟩
    exact ((Below.refl _ _).alloc (Nat.le_refl _) _).alloc (by simp) _

theorem internC_old {base g m : Nat} {sv : Value} {ks : List Cst} {w : World} (h : IdsAt Try.prog kindC base w g m sv ks) {i : Nat} {c : Cst} (hk : ks[i]? = some c) :
    Calls Try.prog 22 #[.pointer (some ⟨g, 0, none⟩), .agg #[.int .i64 c.k, .int .i64 c.n, .string c.s]] w fun e w' => e = .returned (.int .i64 i) ∧ Below w.heap.size w w' := by
  have h2 : IdsAt Try.prog kindC base ((w.alloc (.cells #[.int .i64 c.k, .int .i64 c.n, .string c.s] 27)).drew) g m sv ks := h.below ((Below.refl _ _).alloc (Nat.le_refl _) _).drew
  have hrun := h2.map.hit (t := 61) keyedC Try.underlying61 Try.underlying3 (zeroC _) (i := i) (v := .agg #[.int .i64 c.k, .int .i64 c.n, .string c.s]) (by rw [List.getElem?_map, hk]; rfl)
  have c1 := h.c1
  have hg := h.g_lt
  have hne : g ≠ w.heap.size := by omega
  clear h h2 hk
  go_enter Try.func22, Try.ntmps22
  go_wp2
  go_region
  go_wp2
  go_ret
  exact ⟨rfl, ((Below.refl _ _).alloc (Nat.le_refl _) _).drew⟩

theorem far3 {w1 w2 : World} {b : Nat} {u0 u1 u2 : Value} {o : Obj} {row : Option Nat} (hb : b < w1.heap.size) (h0 : w1.cell? ⟨b, 0, none⟩ = some u0) (h1 : w1.cell? ⟨b, 1, none⟩ = some u1) (h2 : w1.cell? ⟨b, 2, none⟩ = some u2)
    (hr : row ≠ some b) (hg : (w1.alloc o).drew.grownBy w2 row) : w2.cell? ⟨b, 0, none⟩ = some u0 ∧ w2.cell? ⟨b, 1, none⟩ = some u1 ∧ w2.cell? ⟨b, 2, none⟩ = some u2 := by
  have T : Turns row.toList w1 w2 := (((Turns.refl [] w1).alloc o).drew.mono (by simp)).trans (Turns.of_grown hg) (fun x hx => .inl hx)
  have hn : b ∉ row.toList := by cases row <;> simp_all; exact fun e => hr e.symm
  exact ⟨(T.cell hb hn).trans h0, (T.cell hb hn).trans h1, (T.cell hb hn).trans h2⟩

set_option maxRecDepth 100000 in
theorem internC_new {base g m : Nat} {sv : Value} {ks : List Cst} {w : World} (h : IdsAt Try.prog kindC base w g m sv ks) (hbase : base ≤ w.heap.size) {c : Cst} (hok : c.ok) (hk : c ∉ ks) (hn : ks.length ≤ 6000000000000) :
    Calls Try.prog 22 #[.pointer (some ⟨g, 0, none⟩), .agg #[.int .i64 c.k, .int .i64 c.n, .string c.s]] w fun e w' => e = .returned (.int .i64 ks.length) ∧ Left Try.prog kindC base w g m sv (ks ++ [c]) w' := by
  have h2 : IdsAt Try.prog kindC base ((w.alloc (.cells #[.int .i64 c.k, .int .i64 c.n, .string c.s] 27)).drew) g m sv ks := h.below ((Below.refl _ _).alloc (Nat.le_refl _) _).drew
  have h3 : MapIs Try.prog 27 3 ((w.alloc (.cells #[.int .i64 c.k, .int .i64 c.n, .string c.s] 27)).drew.drew) m (ks.map kindC.val) := h2.map.of_block rfl
  obtain ⟨l, hl⟩ := keyC hok
  have hmiss := h2.map.miss (t := 61) keyedC Try.underlying61 Try.underlying3 (zeroC _) (v := .agg #[.int .i64 c.k, .int .i64 c.n, .string c.s]) hl (not_memC hk)
  obtain ⟨w1, hput, hm3, hg3⟩ := h3.store (t := 61) keyedC Try.underlying61 Try.underlying3 (by simp; unfold maxLen; omega) hl (not_memC hk)
  rw [List.length_map] at hput
  have H := Half.mk2 h hm3 (((Turns.refl [] w).alloc _).drew.drew) hg3
  have hbx : w1.heap[w.heap.size]? = some (.cells #[.int .i64 c.k, .int .i64 c.n, .string c.s] 27 (0, 0)) := by
    rw [hg3.block w.heap.size (by simp) (by intro e; injection e with e; have := h.m_lt; omega)]
    exact heap_alloc_new w _
  have x0 : w1.cell? ⟨w.heap.size, 0, none⟩ = some (.int .i64 c.k) := cell_of_row w1 _ 0 _ _ _ hbx
  have x1 : w1.cell? ⟨w.heap.size, 1, none⟩ = some (.int .i64 c.n) := cell_of_row w1 _ 1 _ _ _ hbx
  have x2 : w1.cell? ⟨w.heap.size, 2, none⟩ = some (.string c.s) := cell_of_row w1 _ 2 _ _ _ hbx
  have hc1 := h.c1
  have hc0 := h.c0
  have hg := h.g_lt
  have hne : g ≠ w.heap.size := by omega
  obtain ⟨sa, sc, hsv, _, _⟩ := own_lenC h.own
  subst hsv
  have hd0 := H.c0
  have hdf := H.f0
  have hlt := H.lt
  have hxlt := lt_of_heap hbx
  have hb1 : base ≤ w1.heap.size := Nat.le_trans hbase H.tn.size
  obtain ⟨i0, hi, hz0, hz1, hz2⟩ := info_parts infoC
  have hown := H.own
  have hxr : Value.ownBlock (.slice sa ks.length sc) ≠ some w.heap.size := fun e => by have := (h.row_ne e).2.2.2; omega
  have HH := Lib.hid H
  clear H h h2 h3 hm3 hg3 hk hok hl hbx
  have hmiss' : (Instr.mapUpdate 61 (.map (some m)) (.agg #[.int .i64 c.k, .int .i64 c.n, .string c.s]) (.int .i64 (ks.length : Int))).run Try.prog ((w.alloc (.cells #[.int .i64 c.k, .int .i64 c.n, .string c.s] 27)).drew.drew) = .ok () w1 := hput
  clear hput
  go_enter Try.func22, Try.ntmps22
  go_wp2
  go_region
  go_wp2
  go_region
  go_wp2
  go_region_law (first | (refine step_append1 _ (by rfl) (.tmp 34) (.tmp 36) 24 (by rfl) base 27 i0 _ 3 32 Try.underlying24 hi hz0 hz1 hz2 rfl (by decide) _ _ _ (by rfl) ((hown.alloc _).drew) ⟨w1.heap.size, 0, none⟩ 1 [.int .i64 c.k, .int .i64 c.n, .string c.s] (by rfl) (by rfl) (World.news_of_block (cs := #[.int .i64 c.k, .int .i64 c.n, .string c.s]) (t := 27) (fr := (0, 0)) (heap_alloc_new w1 _)) (by simp [Value.oneCell']) (by omega) (by decide) (by simp; omega) (w1.heap.size + 1) (by simp) ?_; intro g' cap w2 hown2 hgrow2 hat2 hlt2; have ⟨hc2, hf2⟩ := HH.out.far (((Turns.refl [] w1).alloc _).drew) hgrow2; have ⟨y0, y1, y2⟩ := far3 hxlt x0 x1 x2 hxr hgrow2))
  all_goals go_wp2
  all_goals
    go_ret
    refine ⟨rfl, HH.out.done (((Turns.refl [] w1).alloc _).drew) hown2 hgrow2 ?_⟩
    rcases hat2 with h | h
    · exact .inl h.symm
    · exact .inr ⟨g', rfl, by omega⟩

/-- NewIds of no keys: a new Ids. -/
theorem newC (w : World) : Calls Try.prog 20 #[.slice none 0 0] w fun e w' => e = .returned (.pointer (some ⟨w.heap.size + 1, 0, none⟩)) ∧ IdsAt Try.prog kindC w.heap.size w' (w.heap.size + 1) w.heap.size (.slice none 0 0) [] ∧ Below w.heap.size w w' := by
  have hmm := @run_makeMap Try.prog
  go_enter Try.func20, Try.ntmps20
  go_wp2
  refine wp_loop_rounds 1 ?_
  rw [rounds_succ]
  go_wp2
  go_ret
  refine ⟨rfl, ⟨?_, World.ownsRow_nil _ _ _ _, (MapIs.made w).of_block (by exact Below.heap_alloc _ _ _ (by simp)), by omega, Nat.le_refl _⟩, ((Below.refl _ _).alloc (Nat.le_refl _) _).alloc (by simp) _⟩
  have := heap_alloc_new (w.alloc (.map #[] 0)) (.cells #[.slice none 0 0, .map (some w.heap.size)] 63)
  simpa [kindC] using this
set_option maxRecDepth 100000 in
/-- Cut: the keys from n on go. -/
theorem cutC {base g m : Nat} {sv : Value} {ks : List Cst} {w : World} (h : IdsAt Try.prog kindC base w g m sv ks) (n : Int) (hn1 : -9223372036854775808 ≤ n) (hn2 : n ≤ 9223372036854775807) (hlen : ks.length ≤ 6000000000000) :
    Calls Try.prog 55 #[.pointer (some ⟨g, 0, none⟩), .int .i64 n] w fun e w' => e = .returned (.tuple #[]) ∧ Left Try.prog kindC base w g m sv (ks.take n.toNat) w' := by
  by_cases hn : n < 0
  · have e0 : n.toNat = 0 := by omega
    rw [e0]
    clear e0
    go_enter Try.func55, Try.ntmps55
    go_wp2
    go_loopw [8] (fun _ wr => ∃ (j : Nat) (sv' : Value), j ≤ ks.length ∧ (0 ≤ j ∨ j = ks.length) ∧ IdsAt Try.prog kindC base wr g m sv' (ks.take j) ∧ Turns (foot g m sv) w wr ∧ sv'.ownBlock = sv.ownBlock) (fun _ wr => keyCount wr g)
    case atStart => exact ⟨ks.length, sv, Nat.le_refl _, .inr rfl, by rw [List.take_length]; exact h, Turns.refl _ _, rfl⟩
    case round =>
      obtain ⟨j, sv', hj, hjc, hI, hT, hrow⟩ := hrel
      by_cases hgo : 0 < j
      · obtain ⟨k, b, cp, rfl, hl, hc1, hc2, hI2, hkk⟩ := hI.last (by omega) hj
        clear hI
        have hM : MapIs Try.prog 27 3 wr.drew m ((ks.take (j - 1)).map kindC.val ++ [k.v]) := by
          have := hI2.map
          rw [List.map_append] at this
          exact this.of_block rfl
        obtain ⟨w1, hrun, hm1, hg1⟩ := hM.drop keyedC (t := 61) Try.underlying61 0
        obtain ⟨hI3, hT3, hd0, hdf⟩ := hI2.cut1 hm1 ((Turns.refl [] wr).drew) hg1
        obtain ⟨n, hn'⟩ : ∃ n, n = j - 1 := ⟨_, rfl⟩
        obtain rfl : j = n + 1 := by omega
        simp only [Nat.add_sub_cancel] at *
        have hcs := hI2.keyCells (i := n) (c := k) (by rw [List.getElem?_append_right (by omega), hl]; simp)
        have k0 := hcs 0 _ rfl; have k1 := hcs 1 _ rfl; have k2 := hcs 2 _ rfl
        simp only [Nat.add_zero] at k0
        have hrun' : (Builtin.delete_ #[61, 27] 0 #[.map (some m), .agg #[.int .i64 k.k, .int .i64 k.n, .string k.s]]).run Try.prog wr.drew = .ok (.tuple #[]) w1 := hrun
        clear hrun hcs
        have c0 := hI2.c0
        have c1 := hI2.c1
        have hkc : keyCount wr g = n + 1 := by unfold keyCount; rw [c0]; simp [hl]
        have hlt2 := hT3.size
        rw [hl] at c0 hd0 hI3 hT3
        have HK := Lib.hid (show keyCount (w1.drew.setCell ⟨g, 0, none⟩ (.slice (some ⟨b, 0, none⟩) n cp)) g = n from by unfold keyCount; rw [hI3.c0])
        have HI := Lib.hid hI3
        have HT := Lib.hid (hT.trans hT3 (by intro x hx; simp at hx; left; simp [foot]; rcases hx with h | h <;> simp [h]))
        have hl0 : (0 : Int) ≤ (n : Int) := by omega
        have hl1 : (n : Int) < ((n + 1 : Nat) : Int) := by omega
        unfold maxLen at hc2
        clear hI3 hT3 hT hI2 hM hm1 hg1 hn' h
        go_wp2
        go_region
        go_wp2
        go_region
        go_wp2
        exact ⟨⟨n, _, by omega, by omega, HI.out, HT.out, hrow⟩, by rw [hkc]; exact Nat.lt_of_le_of_lt (Nat.le_of_eq HK.out) (Nat.lt_succ_self n)⟩
      · obtain ⟨a, cp, rfl, _, _⟩ := own_lenC hI.own
        have hl : (ks.take j).length = j := by rw [List.length_take]; omega
        have hc0 := hI.c0
        rw [hl] at hc0
        have hj0 : j = 0 := by omega
        subst hj0
        have hfin : Left Try.prog kindC base w g m sv (ks.take 0) wr := ⟨_, hI, hT, fun b hb => .inl (by rw [← hrow]; exact hb)⟩
        have HF := Lib.hid hfin
        clear hfin hI hT
        go_wp2
        go_end0
        exact ⟨rfl, HF.out⟩
  · obtain ⟨c, rfl⟩ := Int.eq_ofNat_of_zero_le (show 0 ≤ n by omega)
    rw [Int.toNat_natCast]
    go_enter Try.func55, Try.ntmps55
    go_wp2
    go_loopw [8] (fun _ wr => ∃ (j : Nat) (sv' : Value), j ≤ ks.length ∧ (c ≤ j ∨ j = ks.length) ∧ IdsAt Try.prog kindC base wr g m sv' (ks.take j) ∧ Turns (foot g m sv) w wr ∧ sv'.ownBlock = sv.ownBlock) (fun _ wr => keyCount wr g)
    case atStart => exact ⟨ks.length, sv, Nat.le_refl _, .inr rfl, by rw [List.take_length]; exact h, Turns.refl _ _, rfl⟩
    case round =>
      obtain ⟨j, sv', hj, hjc, hI, hT, hrow⟩ := hrel
      by_cases hgo : c < j
      · obtain ⟨k, b, cp, rfl, hl, hc1, hc2, hI2, hkk⟩ := hI.last (by omega) hj
        clear hI
        have hM : MapIs Try.prog 27 3 wr.drew m ((ks.take (j - 1)).map kindC.val ++ [k.v]) := by
          have := hI2.map
          rw [List.map_append] at this
          exact this.of_block rfl
        obtain ⟨w1, hrun, hm1, hg1⟩ := hM.drop keyedC (t := 61) Try.underlying61 0
        obtain ⟨hI3, hT3, hd0, hdf⟩ := hI2.cut1 hm1 ((Turns.refl [] wr).drew) hg1
        obtain ⟨n, hn'⟩ : ∃ n, n = j - 1 := ⟨_, rfl⟩
        obtain rfl : j = n + 1 := by omega
        simp only [Nat.add_sub_cancel] at *
        have hcs := hI2.keyCells (i := n) (c := k) (by rw [List.getElem?_append_right (by omega), hl]; simp)
        have k0 := hcs 0 _ rfl; have k1 := hcs 1 _ rfl; have k2 := hcs 2 _ rfl
        simp only [Nat.add_zero] at k0
        have hrun' : (Builtin.delete_ #[61, 27] 0 #[.map (some m), .agg #[.int .i64 k.k, .int .i64 k.n, .string k.s]]).run Try.prog wr.drew = .ok (.tuple #[]) w1 := hrun
        clear hrun hcs
        have c0 := hI2.c0
        have c1 := hI2.c1
        have hkc : keyCount wr g = n + 1 := by unfold keyCount; rw [c0]; simp [hl]
        have hlt2 := hT3.size
        rw [hl] at c0 hd0 hI3 hT3
        have HK := Lib.hid (show keyCount (w1.drew.setCell ⟨g, 0, none⟩ (.slice (some ⟨b, 0, none⟩) n cp)) g = n from by unfold keyCount; rw [hI3.c0])
        have HI := Lib.hid hI3
        have HT := Lib.hid (hT.trans hT3 (by intro x hx; simp at hx; left; simp [foot]; rcases hx with h | h <;> simp [h]))
        have hl0 : (0 : Int) ≤ (n : Int) := by omega
        have hl1 : (n : Int) < ((n + 1 : Nat) : Int) := by omega
        unfold maxLen at hc2
        clear hI3 hT3 hT hI2 hM hm1 hg1 hn' h
        go_wp2
        go_region
        go_wp2
        go_region
        go_wp2
        exact ⟨⟨n, _, by omega, by omega, HI.out, HT.out, hrow⟩, by rw [hkc]; exact Nat.lt_of_le_of_lt (Nat.le_of_eq HK.out) (Nat.lt_succ_self n)⟩
      · obtain ⟨a, cp, rfl, _, _⟩ := own_lenC hI.own
        have hl : (ks.take j).length = j := by rw [List.length_take]; omega
        have hc0 := hI.c0
        rw [hl] at hc0
        have hq : ks.take j = ks.take c := by
          rcases hjc with h1 | h1
          · rw [show j = c by omega]
          · rw [h1, List.take_length, List.take_of_length_le (by omega)]
        have hfin : Left Try.prog kindC base w g m sv (ks.take c) wr := by
          rw [← hq]
          exact ⟨_, hI, hT, fun b hb => .inl (by rw [← hrow]; exact hb)⟩
        clear hq
        have HF := Lib.hid hfin
        clear hfin hI hT hjc
        have hge : ¬ (c : Int) < (j : Int) := by omega
        go_wp2
        go_end0
        exact ⟨rfl, HF.out⟩
end Go.Proofs.Ytblonickpmogiaa
