/- AgendaTurns: the walk. -/
import Derived.Test.YtjgigcnjgblekaaDoorKat22
import Derived.Test.YtjgigcnjgblekaaDoorKat27
import Derived.Great.Ranges
namespace Go.Proofs.YtjgigcnjgblekaaDoor
open Go Go.RowKit Go.Maps Go.Great Classical

noncomputable def chgC (c : Bool) (C : List Ac) (x : Ac) : List Ac := if c = true then C ++ [x] else dropA C x
theorem chgC_t {C : List Ac} {x : Ac} : chgC true C x = C ++ [x] := by unfold chgC; rw [if_pos rfl]
theorem chgC_f {C : List Ac} {x : Ac} : chgC false C x = dropA C x := by unfold chgC; rw [if_neg (by simp)]
theorem all21_own {a b c : Int} {C D : List Ac} {x : Ac} (hx : x ∈ all21) : ownA ⟨lv3 a b c, fourL, C, D⟩ x := by
  obtain ⟨⟨h1, h2⟩, _, h4⟩ := all21_facts hx
  refine ⟨⟨h1, ?_⟩, fun i hi => ⟨(h4 i hi).1, ?_⟩⟩
  · show x.rule < ((lv3 a b c).length : Int)
    simp [lv3]; omega
  · show i < ((fourL).length : Int)
    have := (h4 i hi).2
    simp [fourL]; omega
/-- A change, twice: the first is taken, the second is not. -/
theorem app_twice2 {g : Agd} {x : Ac} (ho : ownA g x) (c : Bool) (hc : c = !decide (x ∈ g.C)) : appF g [(c, x), (c, x)] 0 = (1, (if c = true then 51 else 50), { g with C := chgC c g.C x }) := by
  unfold chgC
  have ho2 : ∀ C, ownA { g with C := C } x := fun _ => ho
  cases c with
  | true =>
    have hn : x ∉ g.C := by simpa using hc.symm
    have e1 : chgF g true x = (0, { g with C := g.C ++ [x] }) := by unfold chgF; rw [if_neg (by simpa using ho), if_pos rfl, if_neg hn]
    have e2 : chgF { g with C := g.C ++ [x] } true x = (51, { g with C := g.C ++ [x] }) := by unfold chgF; rw [if_neg (by simpa using ho2 _), if_pos rfl, if_pos (by simp)]
    rw [app_next (by rw [e1]), e1]
    rw [app_stop (by rw [e2]; exact (by decide : (51 : Int) ≠ 0)), e2]
    simp
  | false =>
    have hn : x ∈ g.C := by simpa using hc.symm
    have e1 : chgF g false x = (0, { g with C := dropA g.C x }) := by unfold chgF; rw [if_neg (by simpa using ho), if_neg (by simp), if_pos hn]
    have e2 : chgF { g with C := dropA g.C x } false x = (50, { g with C := dropA g.C x }) := by unfold chgF; rw [if_neg (by simpa using ho2 _), if_neg (by simp), if_neg (fun h => (dropA_mem.1 h).2 rfl)]
    rw [app_next (by rw [e1]), e1]
    rw [app_stop (by rw [e2]; exact (by decide : (50 : Int) ≠ 0)), e2]
    simp
theorem inB_chg {C : List Ac} {x : Ac} (hx : x ∈ all21) (c : Bool) {k : Nat} (hk : k < 21) : (if k = numA x then c else inB C k) = inB (chgC c C x) k := by
  cases c with
  | true => rw [chgC_t]; exact inB_snoc hx hk
  | false =>
    rw [chgC_f]
    unfold inB
    by_cases e : k = numA x
    · rw [if_pos e, e, (numA_act hx).2]
      symm
      exact decide_eq_false fun h => (dropA_mem.1 h).2 rfl
    · rw [if_neg e]
      refine decide_eq_decide.2 ?_
      rw [dropA_mem]
      constructor
      · exact fun h => ⟨h, fun h2 => e (by rw [← h2, num_act hk])⟩
      · exact fun h => h.1
theorem chgC_21 {C : List Ac} {x : Ac} (hx : x ∈ all21) (hC : ∀ y ∈ C, y ∈ all21) (c : Bool) : ∀ y ∈ chgC c C x, y ∈ all21 := by
  unfold chgC
  cases c with
  | true =>
    rw [if_pos rfl]
    intro y hy
    rcases List.mem_append.1 hy with hy | hy
    · exact hC y hy
    · rw [List.mem_singleton.1 hy]; exact hx
  | false =>
    rw [if_neg (by simp)]
    exact fun y hy => hC y (dropA_mem.1 hy).1
theorem inB_num {C : List Ac} {x : Ac} (hx : x ∈ all21) : inB C (numA x) = decide (x ∈ C) := by
  unfold inB
  rw [(numA_act hx).2]
/-- The zero book. -/
def bk0L : List Value := List.replicate 42 (.bool false) ++ (List.replicate 21 [.int .i64 0, .slice none 0 0]).flatten
def bk0 : Array Value := bk0L.toArray
theorem bk0_built : Tryd.prog.built 48 [] = some bk0 := by kernel_rfl
theorem bk0_size : bk0L.length = 84 := by kernel_rfl
theorem bk0_bool : ∀ k, k < 42 → bk0L[k]? = some (.bool false) := fun k hk => by
  unfold bk0L
  rw [List.getElem?_append_left (by simpa using hk), List.getElem?_replicate, if_pos hk]
theorem bk_start {w : World} : BkAt (w.alloc (.cells bk0 48)) w.heap.size (inB []) (inB []) := by
  have hr := heap_alloc_new w (.cells bk0 48)
  have hi : ∀ k, inB [] k = false := fun k => by simp [inB]
  have hc : ∀ o, (w.alloc (.cells bk0 48)).cell? ⟨w.heap.size, o, none⟩ = bk0L[o]? := fun o => by
    rw [cell_of_row _ _ o _ _ _ hr]; simp [bk0]
  refine ⟨by simp, fun k hk => ?_, fun k hk => ?_, fun k _ h => ?_, fun o ho => ⟨?_, ?_⟩⟩
  · rw [hc, hi, bk0_bool k (by omega)]
  · rw [hc, hi, bk0_bool _ (by omega)]
  · rw [hi] at h; cases h
  · rw [hc, List.getElem?_eq_getElem (by rw [bk0_size]; exact ho)]; rfl
  · unfold World.frozen?
    simp only [hr]
    simp
/-- The levels' row while they are turned. -/
def lvRow (l0 l1 l2 a b c : Int) : Nat → Array Value
  | 0 => #[.int .i64 l0, .int .i64 l1, .int .i64 l2]
  | 1 => #[.int .i64 a, .int .i64 l1, .int .i64 l2]
  | 2 => #[.int .i64 a, .int .i64 b, .int .i64 l2]
  | _ => #[.int .i64 a, .int .i64 b, .int .i64 c]
theorem lv3_rsl {a b c : Int} {w : World} {g : Nat} {T : TypeId} (h : w.heap[g]? = some (.cells #[.int .i64 a, .int .i64 b, .int .i64 c] T (0, 0))) (ha : i64ok a) (hb : i64ok b) (hc : i64ok c) : RSl (fun _ => True) w 1 EInt (.slice (some ⟨g, 0, none⟩) 3 3) (lv3 a b c) := by
  refine ⟨some ⟨g, 0, none⟩, 3, rfl, Nat.le_refl _, by unfold maxLen; decide, (fun h => by cases h), .inr ⟨g, 0, rfl, trivial, lt_of_heap h, fun i x hx => ?_⟩⟩
  have e : i = 0 ∧ x = a ∨ i = 1 ∧ x = b ∨ i = 2 ∧ x = c := by
    unfold lv3 at hx
    match i with
    | 0 => simp at hx; exact .inl ⟨rfl, hx.symm⟩
    | 1 => simp at hx; exact .inr (.inl ⟨rfl, hx.symm⟩)
    | 2 => simp at hx; exact .inr (.inr ⟨rfl, hx.symm⟩)
    | i + 3 => simp at hx
  rcases e with ⟨rfl, rfl⟩ | ⟨rfl, rfl⟩ | ⟨rfl, rfl⟩
  · refine ⟨[.int .i64 x], ⟨rfl, ha⟩, fun j u hu => ?_⟩
    match j with
    | 0 => simp only [List.getElem?_cons_zero, Option.some.injEq] at hu; rw [← hu]; exact cell_of_row _ _ 0 _ _ _ h
    | j + 1 => simp at hu
  · refine ⟨[.int .i64 x], ⟨rfl, hb⟩, fun j u hu => ?_⟩
    match j with
    | 0 => simp only [List.getElem?_cons_zero, Option.some.injEq] at hu; rw [← hu]; exact cell_of_row _ _ 1 _ _ _ h
    | j + 1 => simp at hu
  · refine ⟨[.int .i64 x], ⟨rfl, hc⟩, fun j u hu => ?_⟩
    match j with
    | 0 => simp only [List.getElem?_cons_zero, Option.some.injEq] at hu; rw [← hu]; exact cell_of_row _ _ 2 _ _ _ h
    | j + 1 => simp at hu
theorem lev0_lv3 {a b c : Int} (ha : 0 ≤ a) (hb : 0 ≤ b) (hc : 0 ≤ c) : lev0 (lv3 a b c) = lv3 a b c := by
  unfold lev0 lv3
  simp only [List.map_cons, List.map_nil]
  rw [Int.max_eq_left ha, Int.max_eq_left hb, Int.max_eq_left hc]
theorem lvB_le {a b c : Int} (ha : a ≤ 2) (hb : b ≤ 2) (hc : c ≤ 2) : ∀ k, lvB (lv3 a b c) k ≤ 2 := by
  intro k
  unfold lvB lvl lv3
  rw [List.getD_eq_getElem?_getD]
  match (actN k).rule.toNat with
  | 0 => exact ha
  | 1 => exact hb
  | 2 => exact hc
  | n + 3 => simp
/-- An act is laid in the book. -/
theorem TuS.laid {a b c : Int} {M : List Nat} {p mc mf q N : Nat} {C D : List Ac} {w w' : World} {x : Ac} {n : Nat} (h : TuS a b c M p mc mf q N C D w) (hn : n < 21) (ha : actN n = x) {sv : Value}
    (hw : w' = ((w.setCell ⟨q, 42 + n * 2, none⟩ (.int .i64 x.rule)).setCell ⟨q, 42 + n * 2 + 1, none⟩ sv).drew) : TuS a b c M p mc mf q N C D w' ∧ w'.cell? ⟨q, 42 + n * 2, none⟩ = some (.int .i64 x.rule) ∧ Turns [q] w w' := by
  subst ha
  obtain ⟨h1, h2⟩ := h.bk.setA hn sv
  have T1 : Turns [] ((w.setCell ⟨q, 42 + n * 2, none⟩ (.int .i64 (actN n).rule)).setCell ⟨q, 42 + n * 2 + 1, none⟩ sv) w' := by rw [hw]; exact Turns.of_below (Below.refl _ _).drew
  have T : Turns [q] w w' := (((Turns.refl [q] w).setCell (.inl (by simp)) _).setCell (.inl (by simp)) _).trans T1 (fun y hy => by simp at hy)
  refine ⟨⟨h.ag.step (M' := M) T (fun y hy => by rw [List.mem_singleton.1 hy]; exact h.qM) (fun _ h => h) (fun _ h => .inl h), h1.turns T1 (by simp), h.hC, h.hD, fun y hy => Nat.lt_of_lt_of_le (h.ML y hy) T.size, h.qM⟩, ?_, T⟩
  exact (T1.cell (by simpa using h.bk.lt) (by simp)).trans h2
/-- A change was brought in: the book follows. -/
theorem TuS.changed {a b c : Int} {M : List Nat} {p mc mf q N : Nat} {C D : List Ac} {w w' : World} {x : Ac} (cm : Bool) (hbk : BkAt w q (inB C) (inB D)) (hA : AgAt M w p mc mf ⟨lv3 a b c, fourL, chgC cm C x, D⟩ N) (hC : ∀ y ∈ C, y ∈ all21) (hD : ∀ y ∈ D, y ∈ all21) (ML : ∀ y ∈ M, y < w.heap.size) (qM : q ∈ M ∧ q ≠ mc ∧ q ≠ mf)
    (hx : x ∈ all21) (hr : w.cell? ⟨q, 42 + numA x * 2, none⟩ = some (.int .i64 x.rule)) (hw : w' = (w.setCell ⟨q, numA x, none⟩ (.bool cm)).drew) : TuS a b c M p mc mf q N (chgC cm C x) D w' ∧ Turns [q] w w' := by
  have hb1 := (hbk.setI (numA_act hx).1 cm (fun _ => by rw [(numA_act hx).2]; exact hr)).congr (I' := inB (chgC cm C x)) (Fd' := inB D) (fun k hk => inB_chg hx cm hk) (fun _ _ => rfl)
  have T1 : Turns [] (w.setCell ⟨q, numA x, none⟩ (.bool cm)) w' := by rw [hw]; exact Turns.of_below (Below.refl _ _).drew
  have T : Turns [q] w w' := ((Turns.refl [q] w).setCell (.inl (by simp)) _).trans T1 (fun y hy => by simp at hy)
  exact ⟨⟨hA.step (M' := M) T (fun y hy => by rw [List.mem_singleton.1 hy]; exact qM) (fun _ h => h) (fun _ h => .inl h), hb1.turns T1 (by simp), chgC_21 hx hC cm, hD, fun y hy => Nat.lt_of_lt_of_le (ML y hy) T.size, qM⟩, T⟩
/-- The same change, twice, in a new block. -/
theorem two_chg {F : Nat → Prop} {w : World} {H : Nat} {cm : Bool} {x : Ac} {sv : Value} {T : TypeId} (h : w.heap[H]? = some (.cells #[.bool cm, .int .i64 x.rule, sv, .bool cm, .int .i64 x.rule, sv] T (0, 0))) (hF : F H) (hok : AcOk x) (hs : RSl F w 1 EInt sv x.sub) : RSl F w 3 (EChg F w) (.slice (some ⟨H, 0, none⟩) 2 2) [(cm, x), (cm, x)] := by
  refine ⟨some ⟨H, 0, none⟩, 2, rfl, Nat.le_refl _, by unfold maxLen; decide, (fun h => by cases h), .inr ⟨H, 0, rfl, hF, lt_of_heap h, fun i y hy => ?_⟩⟩
  match i with
  | 0 =>
    simp only [List.getElem?_cons_zero, Option.some.injEq] at hy
    subst hy
    refine ⟨_, ⟨sv, rfl, hok, hs⟩, fun j u hu => ?_⟩
    rw [show 0 + 0 * 3 + j = j by omega]
    refine (cell_of_row _ _ j _ _ _ h).trans ?_
    match j with
    | 0 => simpa using hu
    | 1 => simpa using hu
    | 2 => simpa using hu
    | j + 3 => simp at hu
  | 1 =>
    simp only [List.getElem?_cons_succ, List.getElem?_cons_zero, Option.some.injEq] at hy
    subst hy
    refine ⟨_, ⟨sv, rfl, hok, hs⟩, fun j u hu => ?_⟩
    rw [show 0 + 1 * 3 + j = 3 + j by omega]
    refine (cell_of_row _ _ (3 + j) _ _ _ h).trans ?_
    match j with
    | 0 => simpa using hu
    | 1 => simpa using hu
    | 2 => simpa using hu
    | j + 3 => simp at hu
  | i + 2 => simp at hy
set_option maxRecDepth 100000 in
set_option maxHeartbeats 8000000 in
theorem turnsW (l0 l1 l2 : Int) (sv : Value) (script : List OpV) (w : World) (h0 : i64ok l0) (h1 : i64ok l1) (h2 : i64ok l2) (hs : RSl (fun b => b < w.heap.size) w 5 (EOp (fun b => b < w.heap.size) w) sv script) (hlen : script.length ≤ 1000000000000000) (ht : Tab w) :
    Calls Tryd.prog 4 #[.agg #[.int .i64 l0, .int .i64 l1, .int .i64 l2], sv] w fun e w' => e = .returned (.bool true) ∧ Below w.heap.size w w' := by
  obtain ⟨A, cc, rfl⟩ := hs.form
  have hm := hs.len
  unfold maxLen at hm
  have r0 := modZ_rng (k := l0) (n := 3) (by omega)
  have r1 := modZ_rng (k := l1) (n := 3) (by omega)
  have r2 := modZ_rng (k := l2) (n := 3) (by omega)
  have M0 := modW l0 3 (by omega) h0 (by omega)
  have M1 := modW l1 3 (by omega) h1 (by omega)
  have M2 := modW l2 3 (by omega) h2 (by omega)
  obtain ⟨a, ha⟩ : ∃ a, modZ l0 3 = a := ⟨_, rfl⟩
  obtain ⟨b, hb⟩ : ∃ b, modZ l1 3 = b := ⟨_, rfl⟩
  obtain ⟨c, hc⟩ : ∃ c, modZ l2 3 = c := ⟨_, rfl⟩
  rw [ha] at r0 M0
  rw [hb] at r1 M1
  rw [hc] at r2 M2
  have M0 := Lib.hid M0
  have M1 := Lib.hid M1
  have M2 := Lib.hid M2
  have RA := Lib.hid r0
  have RB := Lib.hid r1
  have RC := Lib.hid r2
  have HS := Lib.hid hs
  have HT := Lib.hid ht
  have LVB := Lib.hid (lvB_le (a := a) (b := b) (c := c) (by omega) (by omega) (by omega))
  obtain ⟨w0, hw0⟩ : ∃ w0, w0 = w.alloc (.cells #[.int .i64 l0, .int .i64 l1, .int .i64 l2] 42) := ⟨_, rfl⟩
  have HR0 := Lib.hid (show w0.heap[w.heap.size]? = some (.cells (lvRow l0 l1 l2 a b c 0) 42 (0, 0)) by rw [hw0]; exact heap_alloc_new w _)
  have HB0 := Lib.hid (show Below w.heap.size w w0 by rw [hw0]; exact (Below.refl _ _).alloc (Nat.le_refl _) _)
  clear hs ht ha hb hc r0 r1 r2 h0 h1 h2
  go_enter Tryd.func4, Tryd.ntmps4
  go_upto_region 1 with fail
  rw [← hw0]
  clear hw0
  go_upto_region 2 with fail
  go_loopw [5] (fun i wr => ∃ k : Nat, i = .int .i64 (k : Int) ∧ k ≤ 3 ∧ wr.heap[w.heap.size]? = some (.cells (lvRow l0 l1 l2 a b c k) 42 (0, 0)) ∧ Below w.heap.size w wr) (fun i _ => 3 - (intOf i).toNat)
  case atStart => exact ⟨0, rfl, by omega, HR0.out, HB0.out⟩
  case round =>
    obtain ⟨k, rfl, hk, hrow, hbw⟩ := hrel
    have HBW := Lib.hid hbw
    have fz : ∀ o, wr.frozen? ⟨w.heap.size, o, none⟩ = false := fun o => by simp [World.frozen?, hrow]
    have TW := Lib.hid (fun (o : Nat) (v : Value) => (HBW.out.trans (((Turns.refl [w.heap.size] wr).setCell (.inl (by simp)) v).below HBW.out.size (fun x hx => by rw [List.mem_singleton.1 hx]; exact Nat.le_refl _)) : Below w.heap.size w (wr.setCell ⟨w.heap.size, o, none⟩ v)))
    clear hbw
    rcases (show k = 0 ∨ k = 1 ∨ k = 2 ∨ k = 3 by omega) with rfl | rfl | rfl | rfl
    · have hrow : wr.heap[w.heap.size]? = some (.cells #[.int .i64 l0, .int .i64 l1, .int .i64 l2] 42 (0, 0)) := hrow
      have d0 : wr.cell? ⟨w.heap.size, 0, none⟩ = some (.int .i64 l0) := cell_of_row _ _ 0 _ _ _ hrow
      have HR := Lib.hid (show (wr.setCell ⟨w.heap.size, 0, none⟩ (.int .i64 a)).heap[w.heap.size]? = some (.cells (lvRow l0 l1 l2 a b c 1) 42 (0, 0)) from heap_setCell_same _ _ 0 _ _ _ hrow)
      clear hrow
      go_wp2_with fail
      refine (M0.out _).mono ?_
      rintro e w' ⟨rfl, rfl⟩
      go_wp2
      exact ⟨⟨1, by go_num, by omega, HR.out, TW.out 0 _⟩, by simp [intOf]⟩
    · have hrow : wr.heap[w.heap.size]? = some (.cells #[.int .i64 a, .int .i64 l1, .int .i64 l2] 42 (0, 0)) := hrow
      have d0 : wr.cell? ⟨w.heap.size, 1, none⟩ = some (.int .i64 l1) := cell_of_row _ _ 1 _ _ _ hrow
      have HR := Lib.hid (show (wr.setCell ⟨w.heap.size, 1, none⟩ (.int .i64 b)).heap[w.heap.size]? = some (.cells (lvRow l0 l1 l2 a b c 2) 42 (0, 0)) from heap_setCell_same _ _ 1 _ _ _ hrow)
      clear hrow
      go_wp2_with fail
      refine (M1.out _).mono ?_
      rintro e w' ⟨rfl, rfl⟩
      go_wp2
      exact ⟨⟨2, by go_num, by omega, HR.out, TW.out 1 _⟩, by simp [intOf]⟩
    · have hrow : wr.heap[w.heap.size]? = some (.cells #[.int .i64 a, .int .i64 b, .int .i64 l2] 42 (0, 0)) := hrow
      have d0 : wr.cell? ⟨w.heap.size, 2, none⟩ = some (.int .i64 l2) := cell_of_row _ _ 2 _ _ _ hrow
      have HR := Lib.hid (show (wr.setCell ⟨w.heap.size, 2, none⟩ (.int .i64 c)).heap[w.heap.size]? = some (.cells (lvRow l0 l1 l2 a b c 3) 42 (0, 0)) from heap_setCell_same _ _ 2 _ _ _ hrow)
      clear hrow
      go_wp2_with fail
      refine (M2.out _).mono ?_
      rintro e w' ⟨rfl, rfl⟩
      go_wp2
      exact ⟨⟨3, by go_num, by omega, HR.out, TW.out 2 _⟩, by simp [intOf]⟩
    · obtain ⟨wb, rfl⟩ : ∃ x, x = wr := ⟨_, rfl⟩
      have hrow : wb.heap[w.heap.size]? = some (.cells #[.int .i64 a, .int .i64 b, .int .i64 c] 42 (0, 0)) := hrow
      have LB := Lib.hid hrow
      obtain ⟨ia, ib, ic⟩ : i64ok a ∧ i64ok b ∧ i64ok c := ⟨WalkArith.wf_i64 (by have := RA.out; omega), WalkArith.wf_i64 (by have := RB.out; omega), WalkArith.wf_i64 (by have := RC.out; omega)⟩
      have LS := Lib.hid (lv3_rsl hrow ia ib ic)
      clear hrow fz TW M0 M1 M2 HR0 HB0 ia ib ic
      go_upto_region 5 with fail
      have FW := Lib.hid (fun W : World => fourW W)
      have D0 : Below wb.heap.size wb wb.drew := (Below.refl _ _).drew
      have NW := Lib.hid (fun (W2 : World) (hb : Below wb.heap.size wb W2) (cv : Value) (hc : RSl (fun b => wb.heap.size ≤ b) W2 3 ECst cv fourL) => newW (F := fun _ => True) [] (.slice (some ⟨w.heap.size, 0, none⟩) 3 3) cv (lv3 a b c) fourL W2 (LS.out.keep (Kp.of_below hb)) (hc.kp (Kp.refl _ _) (fun _ _ _ => trivial) (fun _ _ h => h)) (by decide) (by simp [lv3]) (fun x hx => by simp at hx))
      go_region_held3 (fun _W : World => True) (trivial)
        (first
          | (go_at_call 8; refine (FW.out _).mono ?_; rintro e w2 ⟨cv, rfl, hc2, hb2⟩; have G2 := D0.trans (hb2.mono D0.size); have C2 := Lib.hid ((show RSl _ w2 3 ECst cv fourL from hc2).kp (F' := fun b => wb.heap.size ≤ b) (Kp.refl _ _) (fun b _ hb => Nat.le_trans D0.size hb) (fun _ _ h => h)); clear hc2 hb2)
          | (go_at_call 7; refine (NW.out _ G2 _ C2.out).mono ?_; rintro e w3 ⟨p, mc, mf, rfl, hA3, hb3, g1, g2, g3⟩; have HA3 := Lib.hid hA3; have G3 := Lib.hid (G2.trans (hb3.mono G2.size)); have G4 := Lib.hid (show wb.heap.size ≤ mc ∧ wb.heap.size ≤ mf ∧ wb.heap.size ≤ p from ⟨Nat.le_trans G2.size g1, Nat.le_trans G2.size g2, Nat.le_trans G2.size g3⟩); clear hA3 hb3 g1 g2 g3))
      all_goals
        have HA := Lib.hid (show AgAt [mc, mf] w3 p mc mf ⟨lv3 a b c, fourL, [], []⟩ 0 by have := HA3.out; rw [lev0_lv3 RA.out.1 RB.out.1 RC.out.1] at this; exact this)
        clear HA3 NW G2 D0 FW C2
        go_wp2_with (with_reducible refine stop_build rfl 48 #[] rfl ?_)
        refine Lib.hid ?_
        refine wpList_build_to rfl 48 #[] rfl [] (by simp) bk0 bk0_built ?_
        refine wpList_boxTo rfl 48 (.tmp 30) rfl (some 31) rfl w3.heap.size rfl bk0 rfl ?_
        obtain ⟨w4, hw4⟩ : ∃ w4, w4 = w3.alloc (.cells bk0 48) := ⟨_, rfl⟩
        have hb4 : Below w3.heap.size w3 w4 := by rw [hw4]; exact (Below.refl _ _).alloc (Nat.le_refl _) _
        have HS4 := Lib.hid (show TuS a b c [w3.heap.size, mc, mf] p mc mf w3.heap.size 0 [] [] w4 from
          ⟨HA.out.step (S := []) (Turns.of_below hb4) (fun x hx => by simp at hx) (fun x hx => List.mem_cons_of_mem _ hx) (fun x hx => by
            rcases List.mem_cons.1 hx with rfl | hx
            · exact .inr (Nat.le_refl _)
            · exact .inl hx), hw4 ▸ bk_start, fun x hx => by simp at hx, fun x hx => by simp at hx, fun x hx => by
              have k1 := HA.out.con.lt
              have k2 := HA.out.fir.lt
              have k3 : w4.heap.size = w3.heap.size + 1 := by rw [hw4]; simp
              simp only [List.mem_cons, List.not_mem_nil, or_false] at hx
              rcases hx with rfl | rfl | rfl <;> omega, by simp, by have := HA.out.con.lt; omega, by have := HA.out.fir.lt; omega⟩)
        have B4 := Lib.hid (G3.trans (hb4.mono G3.size))
        have Q4 := Lib.hid (show wb.heap.size ≤ w3.heap.size from G3.size)
        obtain ⟨q, hq⟩ : ∃ q, w3.heap.size = q := ⟨_, rfl⟩
        rw [← hw4]
        rw [hq] at HS4 Q4 ⊢
        clear hw4 hb4 HA G3 hq
        go_upto_region 10 with fail
        have WBS := Lib.hid (lt_of_heap LB.out)
        have BT := Lib.hid (fun (V W : World) (hb : Below wb.heap.size wb V) (T : Turns [mc, mf, q] V W) => (hb.trans (T.below hb.size (fun y hy => by
          have k1 := G4.out
          have k2 := Q4.out
          simp only [List.mem_cons, List.not_mem_nil, or_false] at hy
          rcases hy with rfl | rfl | rfl <;> omega)) : Below wb.heap.size wb W))
        have TB := Lib.hid (fun (W : World) (hb : Below wb.heap.size wb W) => (HT.out.below (HBW.out.trans (hb.mono HBW.out.size)) : Tab W))
        have LB3 := Lib.hid (fun (W : World) (hb : Below wb.heap.size wb W) => (show W.cell? ⟨w.heap.size, 0, none⟩ = some (.int .i64 a) ∧ W.cell? ⟨w.heap.size, 1, none⟩ = some (.int .i64 b) ∧ W.cell? ⟨w.heap.size, 2, none⟩ = some (.int .i64 c) from
          ⟨cell_of_row _ _ 0 _ _ _ ((hb.block _ WBS.out).trans LB.out), cell_of_row _ _ 1 _ _ _ ((hb.block _ WBS.out).trans LB.out), cell_of_row _ _ 2 _ _ _ ((hb.block _ WBS.out).trans LB.out)⟩))
        go_loopw [8] (fun i wr => ∃ (k : Nat) (C D : List Ac), i = .int .i64 (k : Int) ∧ k ≤ script.length ∧ TuS a b c [q, mc, mf] p mc mf q (2 * k) C D wr ∧ Below wb.heap.size wb wr) (fun i _ => script.length - (intOf i).toNat)
        case atStart => exact ⟨0, [], [], rfl, Nat.zero_le _, HS4.out, B4.out⟩
        case round =>
          obtain ⟨k, C, D, rfl, hk, hst, hbw2⟩ := hrel
          clear HS4 B4
          have ST := Lib.hid hst
          have B1 := Lib.hid hbw2
          have BW := Lib.hid (HBW.out.trans (hbw2.mono HBW.out.size))
          have HK := Lib.hid hk
          clear hst hbw2 hk
          by_cases hkn : k < script.length
          · obtain ⟨o, ho⟩ : ∃ o, script[k]? = some o := ⟨_, List.getElem?_eq_getElem hkn⟩
            obtain ⟨bb, off, rfl, _, hbb, cs, ⟨A2, m2, c2, sv, rfl, ok1, ok2, ok3, hsv⟩, hc⟩ := (EOp.all HS.out (Kp.of_below BW.out) (fun _ _ h => h)).at ho
            obtain ⟨A3, c3, rfl⟩ := hsv.form
            have d0 := hc 0 _ rfl
            have d1 := hc 1 _ rfl
            have d2 := hc 2 _ rfl
            have d3 := hc 3 _ rfl
            have d4 := hc 4 _ rfl
            simp only [Nat.add_zero] at d0
            obtain ⟨w5, hw5⟩ : ∃ w5, w5 = wr.alloc (.cells #[.int .i64 o.kind, .slice A2 m2 c2, .int .i64 o.ac.rule, .slice A3 o.ac.sub.length c3, .int .i64 o.n] 50) := ⟨_, rfl⟩
            have hb5 : Below wr.heap.size wr w5 := by rw [hw5]; exact (Below.refl _ _).alloc (Nat.le_refl _) _
            have R5 := Lib.hid (show w5.heap[wr.heap.size]? = some (.cells #[.int .i64 o.kind, .slice A2 m2 c2, .int .i64 o.ac.rule, .slice A3 o.ac.sub.length c3, .int .i64 o.n] 50 (0, 0)) by rw [hw5]; exact heap_alloc_new wr _)
            have MW := Lib.hid (madeW o.ac (.slice A3 o.ac.sub.length c3) w5 (hsv.keep (Kp.of_below hb5)) ok2)
            have S5 := Lib.hid (ST.out.below hb5)
            have B5 := Lib.hid (B1.out.trans (hb5.mono B1.out.size))
            have y2 : w5.cell? ⟨wr.heap.size, 2, none⟩ = some (.int .i64 o.ac.rule) := cell_of_row _ _ 2 _ _ _ R5.out
            have y3 : w5.cell? ⟨wr.heap.size, 3, none⟩ = some (.slice A3 o.ac.sub.length c3) := cell_of_row _ _ 3 _ _ _ R5.out
            have OK1 := Lib.hid ok1
            have OK3 := Lib.hid ok3
            have e1 : (0 : Int) ≤ (k : Int) := by omega
            have e2 : (k : Int) < (script.length : Int) := by omega
            have LT5 := Lib.hid (lt_of_heap R5.out)
            clear hc ho hsv ok1 ok2 ok3 hb5
            go_upto_region 13 with fail
            rw [← hw5]
            clear hw5 d0 d1 d2 d3 d4
            go_wp2_with fail
            refine MW.out.mono ?_
            rintro e w6 ⟨sv6, rfl, ho6, hb6⟩
            obtain ⟨x, hx⟩ : ∃ x, madeA o.ac = x := ⟨_, rfl⟩
            have HXM := Lib.hid (show x ∈ all21 by rw [← hx]; exact made_mem o.ac)
            rw [hx] at ho6 ⊢
            obtain ⟨A6, c6, rfl⟩ := ho6.form
            obtain ⟨w7, hw7⟩ : ∃ w7, w7 = w6.alloc (.cells #[.int .i64 x.rule, .slice A6 x.sub.length c6] 30) := ⟨_, rfl⟩
            have hb67 : Below w6.heap.size w6 w7 := by rw [hw7]; exact (Below.refl _ _).alloc (Nat.le_refl _) _
            have hb7 := hb6.trans (hb67.mono hb6.size)
            have R7 := Lib.hid (show w7.heap[w6.heap.size]? = some (.cells #[.int .i64 x.rule, .slice A6 x.sub.length c6] 30 (0, 0)) by rw [hw7]; exact heap_alloc_new w6 _)
            have S7 := Lib.hid (S5.out.below hb7)
            have B7 := Lib.hid (B5.out.trans (hb7.mono B5.out.size))
            have R5 := Lib.hid ((hb7.block _ LT5.out).trans R5.out)
            have V7 := Lib.hid ((ho6.rsl (F := fun b => b ∉ [q, mc, mf]) (fun b hb hm => by have := (ownBlock_cells ho6 hb).1; have := S5.out.ML b hm; omega) (all21_ok HXM.out).sub).keep (Kp.of_below hb67))
            have NW := Lib.hid (numberW x (.slice A6 x.sub.length c6) w7 V7.out HXM.out)
            have z0 : w7.cell? ⟨w6.heap.size, 0, none⟩ = some (.int .i64 x.rule) := cell_of_row _ _ 0 _ _ _ R7.out
            have z1 : w7.cell? ⟨w6.heap.size, 1, none⟩ = some (.slice A6 x.sub.length c6) := cell_of_row _ _ 1 _ _ _ R7.out
            have LT7 := Lib.hid (lt_of_heap R7.out)
            have LT57 := Lib.hid (show wr.heap.size < w6.heap.size from Nat.lt_of_lt_of_le LT5.out hb6.size)
            clear hx ho6 hb6 hb67 hb7 y2 y3 MW S5
            go_upto_region 14 with fail
            rw [← hw7]
            clear hw7
            go_wp2_with fail
            refine NW.out.mono ?_
            rintro e w8 ⟨rfl, hb8⟩
            have S8 := Lib.hid (S7.out.below hb8)
            have B8 := Lib.hid (B7.out.trans (hb8.mono B7.out.size))
            have R58 := Lib.hid ((hb8.block _ (by have := LT57.out; have := LT7.out; omega)).trans R5.out)
            have R78 := Lib.hid ((hb8.block _ LT7.out).trans R7.out)
            have V8 := Lib.hid (V7.out.keep (Kp.of_below hb8))
            have z0 : w8.cell? ⟨w6.heap.size, 0, none⟩ = some (.int .i64 x.rule) := cell_of_row _ _ 0 _ _ _ R78.out
            have z1 : w8.cell? ⟨w6.heap.size, 1, none⟩ = some (.slice A6 x.sub.length c6) := cell_of_row _ _ 1 _ _ _ R78.out
            have hx21 := (numA_act HXM.out).1
            obtain ⟨n, hn⟩ : ∃ n, numA x = n := ⟨_, rfl⟩
            have HNX := Lib.hid hn
            have HAN := Lib.hid (show actN n = x by rw [← hn]; exact (numA_act HXM.out).2)
            rw [hn] at hx21 ⊢
            have f0 := (S8.out.bk.ok (42 + n * 2) (by omega))
            have f1 := (S8.out.bk.ok (42 + n * 2 + 1) (by omega))
            obtain ⟨u0, hu0⟩ := Option.isSome_iff_exists.1 f0.1
            obtain ⟨u1, hu1⟩ := Option.isSome_iff_exists.1 f1.1
            have f0 := f0.2
            have f1 := f1.2
            have i1 : (0 : Int) ≤ (n : Int) := by omega
            have i2 : (n : Int) < 21 := by omega
            have SA := Lib.hid (S8.out.bk.setA hx21 (.slice A6 x.sub.length c6))
            clear hb8 NW S7 V7 R5 R7 hn
            go_upto_region 15 with fail
            go_region
            obtain ⟨w9, hw9⟩ : ∃ w9, w9 = ((w8.setCell ⟨q, 42 + n * 2, none⟩ (.int .i64 x.rule)).setCell ⟨q, 42 + n * 2 + 1, none⟩ (.slice A6 x.sub.length c6)).drew := ⟨_, rfl⟩
            obtain ⟨hS9, hr9, hT9⟩ := S8.out.laid hx21 HAN.out hw9
            rw [← hw9]
            have S9 := Lib.hid hS9
            have RC9 := Lib.hid hr9
            have B9 := Lib.hid (BT.out _ _ B8.out (hT9.mono (by simp)))
            have hqlt := ST.out.bk.lt
            have R59 := Lib.hid ((hT9.block _ (lt_of_heap R58.out) (fun hm => by have := List.mem_singleton.1 hm; omega)).trans R58.out)
            have R79 := Lib.hid ((hT9.block _ (lt_of_heap R78.out) (fun hm => by have := List.mem_singleton.1 hm; have := LT57.out; omega)).trans R78.out)
            have V9 := Lib.hid (V8.out.keep (Kp.of_turns hT9 (fun y hy h => h (by rw [List.mem_singleton.1 hy]; simp))))
            clear hw9 hS9 hr9 hT9 z0 z1 f0 f1 hu0 hu1 SA S8 V8 R58 R78 B8
            have y0 : w9.cell? ⟨wr.heap.size, 0, none⟩ = some (.int .i64 o.kind) := cell_of_row _ _ 0 _ _ _ R59.out
            have y4 : w9.cell? ⟨wr.heap.size, 4, none⟩ = some (.int .i64 o.n) := cell_of_row _ _ 4 _ _ _ R59.out
            obtain ⟨x0, x1, x2⟩ := LB3.out w9 B9.out
            have hN2 : 2 * k + 2 < maxLen := by unfold maxLen; omega
            by_cases hf : o.kind = 9 ∨ o.kind = 6
            · have FW := Lib.hid (firesW o.n OK3.out w9 S9.out LVB.out hN2 (fun W T => TB.out W (BT.out _ _ B9.out (T.mono (fun y hy => by simp only [List.mem_cons, List.not_mem_nil, or_false] at hy ⊢; rcases hy with rfl | rfl <;> simp)))))
              have FIN : ∀ e w', FrsRes a b c [q, mc, mf] p mc mf q (2 * k + 2) C w9 e w' → e = .returned (.bool true) ∧ ∃ D', Hid (TuS a b c [q, mc, mf] p mc mf q (2 * k + 2) C D' w') ∧ Hid (Below wb.heap.size wb w') := fun e w' h => ⟨h.1, by
                obtain ⟨D', h2⟩ := h.2.1
                exact ⟨D', Lib.hid h2, Lib.hid (BT.out _ _ B9.out (h.2.2.mono (fun y hy => by simp only [List.mem_cons, List.not_mem_nil, or_false] at hy ⊢; rcases hy with rfl | rfl <;> simp)))⟩⟩
              have FIN := Lib.hid FIN
              have k9 : ((o.kind == 9) = true) ∨ ((o.kind == 9) = false ∧ (o.kind == 6) = true) := by
                by_cases h9 : o.kind = 9
                · exact .inl (by simpa using h9)
                · exact .inr ⟨by simpa using h9, by simpa using hf.resolve_left h9⟩
              clear hf hN2 hqlt
              go_upto_region 16 with fail
              go_cut [60] from 53 to 61 (fun t wx => t = .bool true ∧ wx = w9)
              case first =>
                rcases k9 with k1 | ⟨k1, k2⟩
                · go_wp2_with fail
                  go_meet
                  exact ⟨rfl, rfl⟩
                · go_wp2_with fail
                  go_meet
                  exact ⟨rfl, rfl⟩
              case rest =>
                obtain ⟨rfl, rfl⟩ := hcut
                go_wp2_with fail
                refine FW.out.mono ?_
                intro e w10 hr
                obtain ⟨rfl, D', S10, B10⟩ := FIN.out _ _ hr
                clear hr x0 x1 x2 y0 y4 FW
                obtain ⟨x0, x1, x2⟩ := LB3.out w10 B10.out
                go_wp2_with fail
                refine (toldW w10 S10.out LVB.out).mono ?_
                rintro e w11 ⟨rfl, hb11⟩
                have S11 := Lib.hid (S10.out.below hb11)
                have B11 := Lib.hid (B10.out.trans (hb11.mono B10.out.size))
                clear hb11 x0 x1 x2
                go_wp2
                exact ⟨⟨k + 1, C, D', by go_num, by omega, S11.out, B11.out⟩, by simp [intOf]; omega⟩
            · have k9 : (o.kind == 9) = false := by simpa using (fun h => hf (.inl h) : ¬ o.kind = 9)
              have k6 : (o.kind == 6) = false := by simpa using (fun h => hf (.inr h) : ¬ o.kind = 6)
              obtain ⟨d, hd⟩ : ∃ d, inB C n = d := ⟨_, rfl⟩
              have q0 := S9.out.bk.cI n hx21
              rw [hd] at q0
              have z0 : w9.cell? ⟨w6.heap.size, 0, none⟩ = some (.int .i64 x.rule) := cell_of_row _ _ 0 _ _ _ R79.out
              have z1 : w9.cell? ⟨w6.heap.size, 1, none⟩ = some (.slice A6 x.sub.length c6) := cell_of_row _ _ 1 _ _ _ R79.out
              have SCc := Lib.hid (fun (W : World) (hW : Below w9.heap.size w9 W) => (show W.cell? ⟨q, n, none⟩ = some (.bool d) ∧ W.cell? ⟨w6.heap.size, 0, none⟩ = some (.int .i64 x.rule) ∧ W.cell? ⟨w6.heap.size, 1, none⟩ = some (.slice A6 x.sub.length c6) from
                ⟨(hW.cell (p := ⟨q, n, none⟩) S9.out.bk.lt).trans q0, cell_of_row _ _ 0 _ _ _ ((hW.block _ (lt_of_heap R79.out)).trans R79.out), cell_of_row _ _ 1 _ _ _ ((hW.block _ (lt_of_heap R79.out)).trans R79.out)⟩))
              have D0 : Below w9.heap.size w9 w9.drew := (Below.refl _ _).drew
              have HD := Lib.hid hd
              have hcm : (!d) = !decide (x ∈ C) := by rw [← hd, ← HNX.out, inB_num HXM.out]
              have ae := app_twice2 (g := ⟨lv3 a b c, fourL, C, D⟩) (all21_own HXM.out) (!d) hcm
              obtain ⟨er, her⟩ : ∃ er : Int, (if (!d) = true then 51 else 50) = er := ⟨_, rfl⟩
              rw [her] at ae
              have AE := Lib.hid ae
              have HER := Lib.hid her
              have b10 : Below w9.heap.size w9 (w9.alloc (.cells #[.bool (!d), .int .i64 x.rule, .slice A6 x.sub.length c6, .bool (!d), .int .i64 x.rule, .slice A6 x.sub.length c6] 36)).drew := ((Below.refl _ _).alloc (Nat.le_refl _) _).drew
              have h10 : (w9.alloc (.cells #[.bool (!d), .int .i64 x.rule, .slice A6 x.sub.length c6, .bool (!d), .int .i64 x.rule, .slice A6 x.sub.length c6] 36)).drew.heap[w9.heap.size]? = some (.cells #[.bool (!d), .int .i64 x.rule, .slice A6 x.sub.length c6, .bool (!d), .int .i64 x.rule, .slice A6 x.sub.length c6] 36 (0, 0)) := heap_alloc_new w9 _
              have AW := Lib.hid (AE.out ▸ applyW (F := fun b => b ∉ [q, mc, mf]) (.slice (some ⟨w9.heap.size, 0, none⟩) 2 2) [(!d, x), (!d, x)] _ (S9.out.ag.below b10) (two_chg h10 (fun hm => by have := S9.out.ML _ hm; omega) (all21_ok HXM.out) (V9.out.keep (Kp.of_below b10))) (fun h => h (by simp)) (fun y hy => Nat.lt_of_lt_of_le (S9.out.ML y hy) b10.size) hN2 (fun W T => TB.out W (BT.out _ _ (B9.out.trans (b10.mono B9.out.size)) (T.mono (by simp)))))
              have T10 := Lib.hid (Turns.of_below (S := [mc]) b10)
              have hmc : mc < w.heap.size + 0 ∨ True := .inr trivial
              have NE := Lib.hid (show q ∉ [mc] ∧ w6.heap.size ∉ [mc] from ⟨by simpa using ST.out.qM.2.1, fun hm => by have h1 := List.mem_singleton.1 hm; have h2 := ST.out.ML mc (by simp); have := LT57.out; omega⟩)
              clear hf hd hqlt b10 h10 hcm hmc ae her
              go_upto_region 19 with fail
              clear x0 x1 x2 y0 y4
              go_region_held3 (fun W : World => W.cell? ⟨q, n, none⟩ = some (.bool d) ∧ W.cell? ⟨w6.heap.size, 0, none⟩ = some (.int .i64 x.rule) ∧ W.cell? ⟨w6.heap.size, 1, none⟩ = some (.slice A6 x.sub.length c6))
                (first | with_reducible exact SCc.out _ D0 | with_reducible exact X11 | go_keep)
                (first
                  | (go_at_call 10; refine AW.out.mono ?_; rintro e w11 ⟨rfl, hA11, hT11⟩; have T11 := Lib.hid (T10.out.trans hT11 (fun y hy => .inl hy)); have HA11 := Lib.hid hA11; have X11 := (show w11.cell? ⟨q, n, none⟩ = some (.bool d) ∧ w11.cell? ⟨w6.heap.size, 0, none⟩ = some (.int .i64 x.rule) ∧ w11.cell? ⟨w6.heap.size, 1, none⟩ = some (.slice A6 x.sub.length c6) from ⟨(T11.out.cell S9.out.bk.lt NE.out.1).trans q0, (T11.out.cell (lt_of_heap R79.out) NE.out.2).trans z0, (T11.out.cell (lt_of_heap R79.out) NE.out.2).trans z1⟩); clear hA11 hT11))
              all_goals
                clear X11 AW SCc D0 q0 z0 z1
                have B11 := Lib.hid (BT.out _ _ B9.out (T11.out.mono (by simp)))
                have RC11 := Lib.hid ((T11.out.cell S9.out.bk.lt NE.out.1).trans RC9.out)
                have K11 := Lib.hid (S9.out.bk.turns T11.out NE.out.1)
                have ML11 := Lib.hid (fun y (hy : y ∈ [q, mc, mf]) => Nat.lt_of_lt_of_le (S9.out.ML y hy) T11.out.size)
                have q0 := K11.out.cI n hx21
                have qf := (K11.out.ok n (by omega)).2
                rw [HD.out] at q0
                obtain ⟨x0, x1, x2⟩ := LB3.out w11 B11.out
                have NEXT := Lib.hid (fun (w12 : World) (h : w12 = (w11.setCell ⟨q, n, none⟩ (.bool (!d))).drew) => (show TuS a b c [q, mc, mf] p mc mf q (2 * k + 2) (chgC (!d) C x) D w12 ∧ Below wb.heap.size wb w12 by
                  have hh := TuS.changed (w' := w12) (!d) K11.out HA11.out S9.out.hC S9.out.hD ML11.out S9.out.qM HXM.out (by rw [HNX.out]; exact RC11.out) (h.trans (by rw [HNX.out]))
                  exact ⟨hh.1, BT.out _ _ B11.out (hh.2.mono (fun y hy => by rw [List.mem_singleton.1 hy]; simp))⟩))
                clear RC11 K11 ML11 HA11 T11 T10
                cases d with
                | false =>
                  have he : er = 51 := by have := HER.out; simpa using this.symm
                  subst he
                  go_upto_region 25 with fail
                  go_region
                  obtain ⟨w12, hw12⟩ : ∃ w12, w12 = (w11.setCell ⟨q, n, none⟩ (.bool true)).drew := ⟨_, rfl⟩
                  have S12 := Lib.hid (NEXT.out w12 hw12)
                  rw [← hw12]
                  clear hw12 q0 qf x0 x1 x2
                  obtain ⟨x0, x1, x2⟩ := LB3.out w12 S12.out.2
                  go_wp2_with fail
                  refine (toldW w12 S12.out.1 LVB.out).mono ?_
                  rintro e w13 ⟨rfl, hb13⟩
                  have S13 := Lib.hid (S12.out.1.below hb13)
                  have B13 := Lib.hid (S12.out.2.trans (hb13.mono S12.out.2.size))
                  clear hb13 x0 x1 x2
                  go_wp2
                  exact ⟨⟨k + 1, _, D, by go_num, by omega, S13.out, B13.out⟩, by simp [intOf]; omega⟩
                | true =>
                  have he : er = 50 := by have := HER.out; simpa using this.symm
                  subst he
                  go_upto_region 25 with fail
                  go_region
                  obtain ⟨w12, hw12⟩ : ∃ w12, w12 = (w11.setCell ⟨q, n, none⟩ (.bool false)).drew := ⟨_, rfl⟩
                  have S12 := Lib.hid (NEXT.out w12 hw12)
                  rw [← hw12]
                  clear hw12 q0 qf x0 x1 x2
                  obtain ⟨x0, x1, x2⟩ := LB3.out w12 S12.out.2
                  go_wp2_with fail
                  refine (toldW w12 S12.out.1 LVB.out).mono ?_
                  rintro e w13 ⟨rfl, hb13⟩
                  have S13 := Lib.hid (S12.out.1.below hb13)
                  have B13 := Lib.hid (S12.out.2.trans (hb13.mono S12.out.2.size))
                  clear hb13 x0 x1 x2
                  go_wp2
                  exact ⟨⟨k + 1, _, D, by go_num, by omega, S13.out, B13.out⟩, by simp [intOf]; omega⟩
          · obtain rfl : k = script.length := by have := HK.out; omega
            obtain ⟨sr, hsr⟩ : ∃ sr, strA ⟨lv3 a b c, fourL, C, D⟩ = sr := ⟨_, rfl⟩
            have HSR := Lib.hid hsr
            have HEL := Lib.hid (el_none ST.out.ag.ok ST.out.hC LVB.out)
            rw [hsr] at HEL
            have SW := Lib.hid (fun (W : World) (hW : Below wr.heap.size wr W) => hsr ▸ stratumW W (ST.out.ag.below hW))
            have EW := Lib.hid (fun (W : World) (hW : Below wr.heap.size wr W) => bookEligW a b c C D q W (ST.out.bk.below hW))
            have SCc := Lib.hid (fun (W : World) (hW : Below wr.heap.size wr W) => LB3.out W (B1.out.trans (hW.mono B1.out.size)))
            have D0 : Below wr.heap.size wr wr.drew := (Below.refl _ _).drew
            obtain ⟨x0, x1, x2⟩ := LB3.out wr B1.out
            obtain ⟨nl, hnl⟩ : ∃ nl, elB (lv3 a b c) C D = nl := ⟨_, rfl⟩
            have HNL := Lib.hid hnl
            rw [hnl] at HEL
            clear hsr hnl
            go_upto_region 28 with fail
            go_region_held3 (fun W : World => W.cell? ⟨w.heap.size, 0, none⟩ = some (.int .i64 a) ∧ W.cell? ⟨w.heap.size, 1, none⟩ = some (.int .i64 b) ∧ W.cell? ⟨w.heap.size, 2, none⟩ = some (.int .i64 c))
              (first | with_reducible exact SCc.out _ D0 | with_reducible exact SCc.out _ G5 | with_reducible exact SCc.out _ G6 | go_keep)
              (first
                | (go_at_call 12; first | (refine (SW.out _ G6).mono ?_; rintro e w5 ⟨rfl, hb5⟩; have G5 := G6.trans (hb5.mono G6.size); clear hb5) | (refine (SW.out _ D0).mono ?_; rintro e w5 ⟨rfl, hb5⟩; have G5 := D0.trans (hb5.mono D0.size); clear hb5))
                | (go_at_call 19; first | (refine (EW.out _ G5).mono ?_; rintro e w6 ⟨v6, rfl, ho6, hb6⟩; have G6 := G5.trans (hb6.mono G5.size); obtain ⟨A6, c6, rfl⟩ := ho6.form; rw [zN_len, HNL.out]; clear ho6 hb6) | (refine (EW.out _ D0).mono ?_; rintro e w6 ⟨v6, rfl, ho6, hb6⟩; have G6 := D0.trans (hb6.mono D0.size); obtain ⟨A6, c6, rfl⟩ := ho6.form; rw [zN_len, HNL.out]; clear ho6 hb6)))
            all_goals
              clear x0 x1 x2
              have z : ((sr == -1) == ((nl.length : Int) == 0)) = true := by
                by_cases h : sr = -1
                · have h2 := HEL.out.1 h
                  rw [h, h2]
                  rfl
                · have h2 : nl ≠ [] := fun e => h (HEL.out.2 e)
                  have h3 : (nl.length : Int) ≠ 0 := by have := List.length_pos_iff.2 h2; omega
                  rw [beq_false_of_ne h, beq_false_of_ne h3]
                  rfl
              have Z := Lib.hid z
              clear z
              go_wp2
              go_ret
              first
                | exact ⟨ret_boolA Z.out, BW.out.trans (G6.mono BW.out.size)⟩
                | exact ⟨ret_boolA Z.out, BW.out.trans (G5.mono BW.out.size)⟩
end Go.Proofs.YtjgigcnjgblekaaDoor
