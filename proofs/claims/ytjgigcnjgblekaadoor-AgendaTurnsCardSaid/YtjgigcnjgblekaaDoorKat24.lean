/- AgendaTurns in plain words: the acts by number; what is told, by number. Over any program. AgendaTurns' own helpers: marked, ints: the numbers that are marked, the same lists. The walks. AgendaTurns' own helpers: number, numbers: the numbers of acts. The walks. -/
import Derived.Test.YtjgigcnjgblekaaDoorKat23
namespace Go.Proofs.YtjgigcnjgblekaaDoor
open Go Go.RowKit Classical

/-- The acts in their order. -/
def tab21 : List Ac := [⟨0, []⟩, ⟨1, [2]⟩, ⟨1, [1]⟩, ⟨1, [0]⟩, ⟨1, [3]⟩, ⟨2, [2, 2]⟩, ⟨2, [2, 1]⟩, ⟨2, [2, 0]⟩, ⟨2, [2, 3]⟩, ⟨2, [1, 2]⟩, ⟨2, [1, 1]⟩, ⟨2, [1, 0]⟩, ⟨2, [1, 3]⟩, ⟨2, [0, 2]⟩, ⟨2, [0, 1]⟩, ⟨2, [0, 0]⟩, ⟨2, [0, 3]⟩, ⟨2, [3, 2]⟩, ⟨2, [3, 1]⟩, ⟨2, [3, 0]⟩, ⟨2, [3, 3]⟩]
def actN (k : Nat) : Ac := tab21.getD k ⟨0, []⟩
def rk (i : Int) : Nat := if i = 0 then 2 else if i = 1 then 1 else if i = 2 then 0 else 3
def numA (a : Ac) : Nat :=
  match a.sub with
  | [] => 0
  | [i] => 1 + rk i
  | i :: j :: _ => 5 + 4 * rk i + rk j
theorem numA_act {a : Ac} (h : a ∈ all21) : numA a < 21 ∧ actN (numA a) = a := by
  unfold all21 at h
  simp only [List.mem_cons, List.not_mem_nil, or_false] at h
  rcases h with rfl | rfl | rfl | rfl | rfl | rfl | rfl | rfl | rfl | rfl | rfl | rfl | rfl | rfl | rfl | rfl | rfl | rfl | rfl | rfl | rfl <;> exact ⟨by decide, rfl⟩
theorem num_act : ∀ {k : Nat}, k < 21 → numA (actN k) = k := by
  have h : ∀ k, k < 21 → numA (actN k) = k := by decide
  exact fun {k} => h k
theorem act_mem {k : Nat} (h : k < 21) : actN k ∈ all21 := by
  have h1 : ∀ k, k < 21 → ((actN k).rule, (actN k).sub) ∈ all21.map fun a => (a.rule, a.sub) := by decide
  obtain ⟨b, hb, e⟩ := List.mem_map.1 (h1 k h)
  simp only [Prod.mk.injEq] at e
  have : b = actN k := by
    cases b
    generalize actN k = c at e
    cases c
    simp only at e
    rw [e.1, e.2]
  exact this ▸ hb
theorem act_inj {i j : Nat} (hi : i < 21) (hj : j < 21) (h : actN i = actN j) : i = j := by rw [← num_act hi, ← num_act hj, h]
theorem num_inj {a b : Ac} (ha : a ∈ all21) (hb : b ∈ all21) (h : numA a = numA b) : a = b := by rw [← (numA_act ha).2, ← (numA_act hb).2, h]
/-- The numbers' order is the acts'. -/
theorem cmpL_ba : cmpL [98] [97] = 1 := by rfl
theorem cmpL_ab : cmpL [97] [98] = -1 := by rfl
theorem id_rk : ∀ i ∈ ([0, 1, 2, 3] : List Int), ∀ j ∈ ([0, 1, 2, 3] : List Int), cmpId fourL i j = cmpI (rk i) (rk j) := by
  intro i hi j hj
  simp only [List.mem_cons, List.not_mem_nil, or_false] at hi hj
  rcases hi with rfl | rfl | rfl | rfl <;> rcases hj with rfl | rfl | rfl | rfl <;>
    first
    | (unfold cmpId; rw [cmpC_self]; rfl)
    | (unfold cmpId; rw [cmpC_eq]; (try simp [fourL, cmpI, rk]) <;> (first | done | (rw [cmpL_ba]; rfl) | (rw [cmpL_ab]; rfl)))
theorem cmpLx_congr {α β : Type} (c : α → α → Int) (d : β → β → Int) (f : α → β) : ∀ (x y : List α), (∀ a ∈ x, ∀ b ∈ y, c a b = d (f a) (f b)) → cmpLx c x y = cmpLx d (x.map f) (y.map f)
  | [], [], _ => rfl
  | [], _ :: _, _ => rfl
  | _ :: _, [], _ => rfl
  | a :: x, b :: y, h => by
    simp only [List.map_cons, cmpLx]
    rw [h a (List.mem_cons_self ..) b (List.mem_cons_self ..), cmpLx_congr c d f x y (fun u hu v hv => h u (List.mem_cons_of_mem _ hu) v (List.mem_cons_of_mem _ hv))]
theorem act_ids {k : Nat} (h : k < 21) : ∀ i ∈ (actN k).sub, i ∈ ([0, 1, 2, 3] : List Int) := by
  have h1 : ∀ k, k < 21 → ∀ i ∈ (actN k).sub, i ∈ ([0, 1, 2, 3] : List Int) := by decide
  exact h1 k h
def cmpR (a b : Ac) : Int := if cmpI a.rule b.rule = 0 then cmpLx (fun i j : Nat => cmpI i j) (a.sub.map rk) (b.sub.map rk) else cmpI a.rule b.rule
theorem act_le {i j : Nat} (hi : i < 21) (hj : j < 21) (h : i < j) : leA fourL (actN i) (actN j) = true := by
  have h1 : ∀ j, j < 21 → ∀ i, i < j → cmpR (actN i) (actN j) ≤ 0 := by decide +kernel
  have h2 := h1 j hj i h
  unfold leA cmpA
  unfold cmpR at h2
  rw [cmpLx_congr (cmpId fourL) (fun i j : Nat => cmpI i j) rk _ _ (fun u hu v hv => id_rk u (act_ids hi u hu) v (act_ids hj v hv))]
  exact decide_eq_true h2
/-- The numbers of some acts, rising. -/
noncomputable def numsIn (p : Ac → Prop) : List Nat := (List.range 21).filter fun k => decide (p (actN k))
theorem numsIn_congr {p q : Ac → Prop} (h : ∀ a ∈ all21, p a ↔ q a) : numsIn p = numsIn q := by
  unfold numsIn
  refine List.filter_congr fun k hk => ?_
  exact decide_eq_decide.2 (h _ (act_mem (List.mem_range.1 hk)))
theorem sort_nums {X : List Ac} (hn : X.Nodup) (hx : ∀ a ∈ X, a ∈ all21) : sortA fourL X = (numsIn (· ∈ X)).map actN := by
  symm
  have hl : (numsIn (· ∈ X)).Pairwise (· < ·) := List.pairwise_lt_range.filter _
  have hm : ∀ k ∈ numsIn (· ∈ X), k < 21 := fun k hk => List.mem_range.1 (List.mem_filter.1 hk).1
  refine sortA_of ?_ ?_
  · unfold SdA
    rw [List.pairwise_map]
    refine hl.imp_of_mem fun {i j} hi hj h => act_le (hm i hi) (hm j hj) h
  · rw [List.perm_ext_iff_of_nodup ?_ hn]
    · intro a
      rw [List.mem_map]
      constructor
      · rintro ⟨k, hk, rfl⟩
        simpa using (List.mem_filter.1 hk).2
      · intro ha
        obtain ⟨h1, h2⟩ := numA_act (hx a ha)
        exact ⟨numA a, List.mem_filter.2 ⟨List.mem_range.2 h1, by simpa [h2] using ha⟩, h2⟩
    · rw [List.nodup_iff_pairwise_ne, List.pairwise_map]
      exact hl.imp_of_mem fun {i j} hi hj h e => by
        have := act_inj (hm i hi) (hm j hj) e
        omega
theorem map_num {l : List Nat} (h : ∀ k ∈ l, k < 21) : (l.map actN).map numA = l := by
  rw [List.map_map]
  conv => rhs; rw [← List.map_id l]
  exact List.map_congr_left fun k hk => num_act (h k hk)
theorem numsIn_lt {p : Ac → Prop} : ∀ k ∈ numsIn p, k < 21 := fun _ hk => List.mem_range.1 (List.mem_filter.1 hk).1
theorem sort_num {X : List Ac} (hn : X.Nodup) (hx : ∀ a ∈ X, a ∈ all21) : (sortA fourL X).map numA = numsIn (· ∈ X) := by rw [sort_nums hn hx, map_num numsIn_lt]
/-- The book's reckoning: the lowest level of what may fire. -/
def bkLow (o : Nat → Bool) (L : Nat → Int) (n : Nat) : Int := (List.range n).foldl (fun s i => if o i = true then min s (L i) else s) 4611686018427387904
theorem bkLow_succ (o : Nat → Bool) (L : Nat → Int) (n : Nat) : bkLow o L (n + 1) = if o n = true then min (bkLow o L n) (L n) else bkLow o L n := by
  unfold bkLow
  rw [List.range_succ, List.foldl_append]
  rfl
theorem bkLow_spec (o : Nat → Bool) (L : Nat → Int) (hL : ∀ i, L i ≤ 2) : ∀ n, ((∀ i, i < n → o i = false) ∧ bkLow o L n = 4611686018427387904) ∨ (∃ i, i < n ∧ o i = true ∧ L i = bkLow o L n) ∧ ∀ i, i < n → o i = true → bkLow o L n ≤ L i
  | 0 => .inl ⟨fun i h => by omega, rfl⟩
  | n + 1 => by
    rw [bkLow_succ]
    cases hn : o n with
    | false =>
      rw [if_neg (by simp)]
      rcases bkLow_spec o L hL n with ⟨h1, h2⟩ | ⟨⟨i, h1, h2, h3⟩, h4⟩
      · exact .inl ⟨fun i hi => by
          rcases Nat.lt_or_ge i n with h | h
          · exact h1 i h
          · obtain rfl : i = n := by omega
            exact hn, h2⟩
      · exact .inr ⟨⟨i, by omega, h2, h3⟩, fun j hj hj2 => by
          rcases Nat.lt_or_ge j n with h | h
          · exact h4 j h hj2
          · obtain rfl : j = n := by omega
            rw [hn] at hj2; simp at hj2⟩
    | true =>
      rw [if_pos rfl]
      right
      have hLn := hL n
      rcases bkLow_spec o L hL n with ⟨h1, h2⟩ | ⟨⟨i, h1, h2, h3⟩, h4⟩
      · rw [h2, Int.min_eq_right (by omega)]
        exact ⟨⟨n, by omega, hn, rfl⟩, fun j hj hj2 => by
          rcases Nat.lt_or_ge j n with h | h
          · rw [h1 j h] at hj2; simp at hj2
          · obtain rfl : j = n := by omega
            exact Int.le_refl _⟩
      · refine ⟨?_, fun j hj hj2 => ?_⟩
        · by_cases hle : bkLow o L n ≤ L n
          · rw [Int.min_eq_left hle]; exact ⟨i, by omega, h2, h3⟩
          · rw [Int.min_eq_right (by omega)]; exact ⟨n, by omega, hn, rfl⟩
        · rcases Nat.lt_or_ge j n with h | h
          · have := h4 j h hj2
            omega
          · obtain rfl : j = n := by omega
            omega
/-- The agenda's state and the book's: by number. -/
noncomputable def inB (X : List Ac) (k : Nat) : Bool := decide (actN k ∈ X)
noncomputable def opB (C D : List Ac) (k : Nat) : Bool := inB C k && !inB D k
def lvB (lv : List Int) (k : Nat) : Int := lvl lv (actN k)
/-- What may fire, by number. -/
noncomputable def elB (lv : List Int) (C D : List Ac) : List Nat := (List.range 21).filter fun k => opB C D k && decide (lvB lv k = bkLow (opB C D) (lvB lv) 21)
theorem mem_open {g : Agd} {a : Ac} : a ∈ openA g ↔ a ∈ g.C ∧ a ∉ g.D := by simp [openA]
theorem open_op {lv : List Int} {C D : List Ac} {k : Nat} : opB C D k = true ↔ actN k ∈ openA ⟨lv, fourL, C, D⟩ := by
  rw [mem_open]
  simp [opB, inB]
theorem elig_num {lv : List Int} {C D : List Ac} (hok : AgOk ⟨lv, fourL, C, D⟩) (hC : ∀ a ∈ C, a ∈ all21) (hl : ∀ k, lvB lv k ≤ 2) : (eligA ⟨lv, fourL, C, D⟩).map numA = elB lv C D ∧ ∀ a ∈ eligA ⟨lv, fourL, C, D⟩, a ∈ all21 := by
  have hx : ∀ a ∈ (openA ⟨lv, fourL, C, D⟩).filter (fun a => decide (lvl lv a = strA ⟨lv, fourL, C, D⟩)), a ∈ all21 := fun a ha => hC a (mem_open.1 (List.mem_filter.1 ha).1).1
  have hn : ((openA ⟨lv, fourL, C, D⟩).filter (fun a => decide (lvl lv a = strA ⟨lv, fourL, C, D⟩))).Nodup := (hok.nodC.filter _).filter _
  refine ⟨?_, fun a ha => hx a ((sortA_perm _ _).mem_iff.1 ha)⟩
  show (sortA fourL ((openA ⟨lv, fourL, C, D⟩).filter (fun a => decide (lvl lv a = strA ⟨lv, fourL, C, D⟩)))).map numA = _
  rw [sort_num hn hx]
  unfold numsIn elB
  refine List.filter_congr fun k hk => ?_
  have hk := List.mem_range.1 hk
  by_cases ho : opB C D k = true
  · rw [ho, Bool.true_and]
    have ho2 := (open_op (lv := lv)).1 ho
    refine decide_eq_decide.2 ?_
    show actN k ∈ List.filter _ _ ↔ _
    rw [List.mem_filter]
    simp only [ho2, true_and, decide_eq_true_eq]
    have e : strA ⟨lv, fourL, C, D⟩ = bkLow (opB C D) (lvB lv) 21 := by
      rcases strL_low (lvl_pos hok) (openA ⟨lv, fourL, C, D⟩) with ⟨h1, _⟩ | ⟨⟨a, ha, h1⟩, h2⟩
      · rw [h1] at ho2; cases ho2
      · rcases bkLow_spec (opB C D) (lvB lv) hl 21 with ⟨h3, _⟩ | ⟨⟨i, h3, h4, h5⟩, h6⟩
        · rw [h3 k hk] at ho; cases ho
        · obtain ⟨n1, n2⟩ := numA_act (hC a (mem_open.1 ha).1)
          have h7 := h6 (numA a) n1 (by rw [open_op (lv := lv), n2]; exact ha)
          have h8 := h2 (actN i) ((open_op (lv := lv)).1 h4)
          obtain ⟨B, hB⟩ : ∃ B, bkLow (opB C D) (lvB lv) 21 = B := ⟨_, rfl⟩
          rw [hB] at h5 h7 ⊢
          unfold strA
          unfold lvB at h5 h7
          rw [n2] at h7
          simp only at h1 h7 h8 ⊢
          omega
    rw [e]
    rfl
  · rw [Bool.not_eq_true] at ho
    rw [ho, Bool.false_and]
    rw [decide_eq_false_iff_not]
    intro h
    have := (open_op (lv := lv)).2 (List.mem_filter.1 (show actN k ∈ List.filter _ _ from h)).1
    rw [ho] at this
    cases this
theorem el_none {lv : List Int} {C D : List Ac} (hok : AgOk ⟨lv, fourL, C, D⟩) (hC : ∀ a ∈ C, a ∈ all21) (hl : ∀ k, lvB lv k ≤ 2) : strA ⟨lv, fourL, C, D⟩ = -1 ↔ elB lv C D = [] := by
  rw [str_none hok, ← elig_ne hok, ← (elig_num hok hC hl).1, List.map_eq_nil_iff]
end Go.Proofs.YtjgigcnjgblekaaDoor

namespace Go.Proofs.YtjgigcnjgblekaaDoor
open Go Go.RowKit Go.Maps Classical

def zN (l : List Nat) : List Int := l.map fun k : Nat => (k : Int)
theorem zN_len (l : List Nat) : (zN l).length = l.length := by simp [zN]
theorem zN_ok {l : List Nat} (h : ∀ k ∈ l, k < 21) : ∀ i ∈ zN l, i64ok i := by
  intro i hi
  obtain ⟨k, hk, rfl⟩ := List.mem_map.1 hi
  have := h k hk
  exact WalkArith.wf_i64 (by omega)
theorem filter_succ (I : Nat → Bool) (k : Nat) : (List.range (k + 1)).filter I = if I k = true then (List.range k).filter I ++ [k] else (List.range k).filter I := by
  rw [List.range_succ, List.filter_append]
  by_cases h : I k = true
  · rw [if_pos h]; simp [h]
  · rw [if_neg h]; simp [h]
theorem filter_len (I : Nat → Bool) (k : Nat) : ((List.range k).filter I).length ≤ k := by
  have := List.length_filter_le I (List.range k)
  simpa using this
theorem filter_lt {I : Nat → Bool} {n : Nat} : ∀ k ∈ (List.range n).filter I, k < n := fun _ h => List.mem_range.1 (List.mem_filter.1 h).1
/-- A number more, in a region that draws nothing. -/
theorem wpList_append_Z {w : World} {ops : Array Oper} {rest : List Oper} {o : Oper} {a : Act} {Q : Exit → Act → World → Prop} {B : Nat} {v : Value} {l : List Int} (h : OwnZ w B v l) (hgd : o.guard = none) (s q : Operand)
    (ho : o.op = .call { callee := .builtin .append, args := #[s, q], argTypes := #[22, 22] }) (hs : a.eval s = v) (x : Int) (T : TypeId) {c H : Nat} (hq : a.eval q = .slice (some ⟨H, 0, none⟩) 1 c) (hH : w.heap.size = H) (hn : l.length ≤ 40000000) (hB : B ≤ w.heap.size)
    (k : ∀ A c' w', OwnZ w' B (.slice A (l.length + 1) c') (l ++ [x]) → Below B w w' → wpList Tryd.prog ops Q rest (a.put o.dst (.slice A (l.length + 1) c')) w') : wpList Tryd.prog ops Q (o :: rest) a (w.alloc (.cells #[.int .i64 x] T)) := by
  subst hH
  refine wpList_append_one hgd s q 22 ho B 3 Tryd.underlying22 infoIntR rfl (by decide) v l.length (intVs l) hs (h.below ((Below.refl w.heap.size w).alloc (Nat.le_refl _) (.cells #[.int .i64 x] T))) ⟨w.heap.size, 0, none⟩ c hq [.int .i64 x] rfl (World.news_of_block (heap_alloc_new w _)) (by simp [Value.oneCell']) (.inl (by omega)) (by decide) (by simp; omega) ?_
  intro g cap w' hown ht
  refine k _ _ w' ?_ (((Below.refl B w).alloc hB _).trans (ht.below (by simp; omega) (fun b hb => (ownBlock_cells h (by simpa using hb)).1)))
  unfold OwnZ
  rw [show intVs (l ++ [x]) = intVs l ++ [.int .i64 x] by simp [intVs], List.length_append]
  exact hown
set_option maxRecDepth 100000 in
set_option maxHeartbeats 4000000 in
theorem markedW (I : Nat → Bool) (bv : Array Value) (hb : ∀ k, k < 21 → bv[k]? = some (.bool (I k))) (w : World) :
    Calls Tryd.prog 40 #[.agg bv] w fun e w' => ∃ v, e = .returned v ∧ OwnZ w' w.heap.size v (zN ((List.range 21).filter I)) ∧ Below w.heap.size w w' := by
  obtain ⟨w0, hw0⟩ : ∃ w0, w0 = w.alloc (.cells bv 45) := ⟨_, rfl⟩
  have hx0 : Below (w.heap.size + 1) (w.alloc (.cells bv 45)) w0 := by rw [hw0]; exact Below.refl _ _
  have hb0 := box_belowD hx0
  have hs0 : w0.heap.size = w.heap.size + 1 := by rw [hw0]; simp
  have BX := Lib.hid (fun (k : Nat) (hk : k < 21) (W : World) (hW : Below w0.heap.size w0 W) => ((hW.cell (p := ⟨w.heap.size, k, none⟩) (by show w.heap.size < w0.heap.size; omega)).trans (box_cellD hx0 k (by rw [Array.getElem?_toList]; exact hb k hk)) : W.cell? ⟨w.heap.size, k, none⟩ = some (.bool (I k))))
  have HB := Lib.hid hb0
  have HS := Lib.hid hs0
  have E0 := Lib.hid (Below.refl w0.heap.size w0)
  clear hx0 hb0 hs0 hb
  go_enter Tryd.func40, Tryd.ntmps40
  go_upto_region 2 with fail
  rw [← hw0]
  clear hw0
  go_wp2
  go_loopw [3, 4] (fun ov i wr => ∃ (k : Nat) (vo : Value), i = .int .i64 (k : Int) ∧ ov = vo ∧ k ≤ 21 ∧ OwnZ wr w0.heap.size vo (zN ((List.range k).filter I)) ∧ Below w0.heap.size w0 wr) (fun _ i _ => 21 - (intOf i).toNat)
  case atStart => exact ⟨0, _, rfl, rfl, by omega, World.ownsRow_nil _ _ _ _, E0.out⟩
  case round =>
    obtain ⟨k, vo, rfl, rfl, hk, ho, hbw⟩ := hrel
    have HBW := Lib.hid hbw
    have HO := Lib.hid ho
    clear hbw
    by_cases hkn : k < 21
    · have d0 := BX.out k hkn wr HBW.out
      have e1 : (0 : Int) ≤ (k : Int) := by omega
      have e2 : (k : Int) < 21 := by omega
      obtain ⟨A, c, hvo⟩ := ho.form
      rw [zN_len] at hvo
      subst hvo
      clear ho
      cases hI : I k with
      | false =>
        rw [hI] at d0
        have HF := Lib.hid (show (List.range (k + 1)).filter I = (List.range k).filter I by rw [filter_succ, if_neg (by rw [hI]; simp)])
        go_wp2
        exact ⟨⟨k + 1, _, by go_num, rfl, by omega, by rw [HF.out]; exact HO.out, HBW.out⟩, by simp [intOf]; omega⟩
      | true =>
        rw [hI] at d0
        have HF := Lib.hid (show (List.range (k + 1)).filter I = (List.range k).filter I ++ [k] by rw [filter_succ, if_pos hI])
        have HL := Lib.hid (show (zN ((List.range k).filter I)).length ≤ 40000000 by rw [zN_len]; have := filter_len I k; omega)
        go_wp2_with (at_builtin; refine wpList_append_Z HO.out rfl (.tmp 12) (.tmp 14) rfl rfl (k : Int) _ rfl rfl HL.out HBW.out.size ?_; intro A2 c2 w2 ho2 hb2; have HO2 := Lib.hid ho2; have HB2 := Lib.hid (HBW.out.trans hb2); clear ho2 hb2)
        exact ⟨⟨k + 1, _, by go_num, rfl, by omega, by rw [HF.out]; unfold zN at HO2 ⊢; rw [List.map_append]; exact HO2.out, HB2.out⟩, by simp [intOf]; omega⟩
    · obtain rfl : k = 21 := by omega
      clear ho
      go_wp2
      go_ret
      exact ⟨_, rfl, HO.out.down (by have := HS.out; omega), HB.out.trans (HBW.out.mono HB.out.size)⟩
set_option maxRecDepth 100000 in
set_option maxHeartbeats 4000000 in
theorem intsW {F F' : Nat → Prop} (v1 v2 : Value) (l : List Int) (w : World) (h1 : RSl F w 1 EInt v1 l) (h2 : RSl F' w 1 EInt v2 l) :
    Calls Tryd.prog 39 #[v1, v2] w fun e w' => e = .returned (.bool true) ∧ Below w.heap.size w w' := by
  obtain ⟨A1, c1, rfl⟩ := h1.form
  obtain ⟨A2, c2, rfl⟩ := h2.form
  have hm := h1.len
  unfold maxLen at hm
  have H1 := Lib.hid h1
  have H2 := Lib.hid h2
  have hll : ((l.length : Int) == (l.length : Int)) = true := by simp
  have E0 := Lib.hid (Below.refl w.heap.size w)
  clear h1 h2
  go_enter Tryd.func39, Tryd.ntmps39
  go_wp2
  go_loopw [5] (fun i wr => ∃ k : Nat, i = .int .i64 (k : Int) ∧ k ≤ l.length ∧ Below w.heap.size w wr) (fun i _ => l.length - (intOf i).toNat)
  case atStart => exact ⟨0, rfl, Nat.zero_le _, E0.out⟩
  case round =>
    obtain ⟨k, rfl, hk, hb⟩ := hrel
    have HBW := Lib.hid hb
    by_cases hkn : k < l.length
    · obtain ⟨s, hs⟩ : ∃ s, l[k]? = some s := ⟨_, List.getElem?_eq_getElem hkn⟩
      obtain ⟨b, off, rfl, _, _, cs, ⟨rfl, hok⟩, hc⟩ := (H1.out.keep (Kp.of_below hb)).at hs
      obtain ⟨b', off', rfl, _, _, cs', ⟨rfl, hok'⟩, hc'⟩ := (H2.out.keep (Kp.of_below hb)).at hs
      have d0 := hc 0 _ rfl
      have d1 := hc' 0 _ rfl
      simp only [Nat.add_zero, Nat.mul_one] at d0 d1
      have e1 : (0 : Int) ≤ (k : Int) := by omega
      have e2 : (k : Int) < (l.length : Int) := by omega
      have DN := Lib.hid (fun q => below_drewNA hb q)
      clear hc hc' hs hb hok hok'
      go_wp2_with fail
      go_quiet (fail)
      go_wp2
      exact ⟨⟨k + 1, by go_num, by omega, DN.out _⟩, by simp [intOf]; omega⟩
    · obtain rfl : k = l.length := by omega
      clear hb
      go_wp2
      go_ret
      exact ⟨rfl, HBW.out⟩
end Go.Proofs.YtjgigcnjgblekaaDoor

namespace Go.Proofs.YtjgigcnjgblekaaDoor
open Go Go.RowKit Go.Maps Classical

theorem all21_shape {a : Ac} (h : a ∈ all21) : a = ⟨0, []⟩ ∨ (∃ i : Nat, i < 4 ∧ a = ⟨1, [(i : Int)]⟩) ∨ ∃ i j : Nat, i < 4 ∧ j < 4 ∧ a = ⟨2, [(i : Int), (j : Int)]⟩ := by
  unfold all21 at h
  simp only [List.mem_cons, List.not_mem_nil, or_false] at h
  rcases h with rfl | rfl | rfl | rfl | rfl | rfl | rfl | rfl | rfl | rfl | rfl | rfl | rfl | rfl | rfl | rfl | rfl | rfl | rfl | rfl | rfl
  · exact .inl rfl
  · exact .inr (.inl ⟨0, by omega, rfl⟩)
  · exact .inr (.inl ⟨1, by omega, rfl⟩)
  · exact .inr (.inl ⟨2, by omega, rfl⟩)
  · exact .inr (.inl ⟨3, by omega, rfl⟩)
  · exact .inr (.inr ⟨0, 0, by omega, by omega, rfl⟩)
  · exact .inr (.inr ⟨0, 1, by omega, by omega, rfl⟩)
  · exact .inr (.inr ⟨0, 2, by omega, by omega, rfl⟩)
  · exact .inr (.inr ⟨0, 3, by omega, by omega, rfl⟩)
  · exact .inr (.inr ⟨1, 0, by omega, by omega, rfl⟩)
  · exact .inr (.inr ⟨1, 1, by omega, by omega, rfl⟩)
  · exact .inr (.inr ⟨1, 2, by omega, by omega, rfl⟩)
  · exact .inr (.inr ⟨1, 3, by omega, by omega, rfl⟩)
  · exact .inr (.inr ⟨2, 0, by omega, by omega, rfl⟩)
  · exact .inr (.inr ⟨2, 1, by omega, by omega, rfl⟩)
  · exact .inr (.inr ⟨2, 2, by omega, by omega, rfl⟩)
  · exact .inr (.inr ⟨2, 3, by omega, by omega, rfl⟩)
  · exact .inr (.inr ⟨3, 0, by omega, by omega, rfl⟩)
  · exact .inr (.inr ⟨3, 1, by omega, by omega, rfl⟩)
  · exact .inr (.inr ⟨3, 2, by omega, by omega, rfl⟩)
  · exact .inr (.inr ⟨3, 3, by omega, by omega, rfl⟩)
theorem all21_facts {a : Ac} (h : a ∈ all21) : (0 ≤ a.rule ∧ a.rule ≤ 2) ∧ (a.sub.length : Int) = a.rule ∧ ∀ i ∈ a.sub, 0 ≤ i ∧ i ≤ 3 := by
  rcases all21_shape h with rfl | ⟨i, hi, rfl⟩ | ⟨i, j, hi, hj, rfl⟩
  · simp
  · simp; omega
  · simp; omega
theorem rk_lt (i : Int) : rk i < 4 := by unfold rk; repeat' split <;> try omega
def rkVs : Array Value := #[.int .i64 2, .int .i64 1, .int .i64 0, .int .i64 3]
theorem rk_at : ∀ {i : Nat}, i < 4 → rkVs[i]? = some (.int .i64 (rk (i : Int)))
  | 0, _ => rfl
  | 1, _ => rfl
  | 2, _ => rfl
  | 3, _ => rfl
  | i + 4, h => by omega
set_option maxRecDepth 100000 in
set_option maxHeartbeats 4000000 in
theorem numberW {F : Nat → Prop} (a : Ac) (v : Value) (w : World) (h : RSl F w 1 EInt v a.sub) (ha : a ∈ all21) :
    Calls Tryd.prog 16 #[.agg #[.int .i64 a.rule, v]] w fun e w' => e = .returned (.int .i64 (numA a)) ∧ Below w.heap.size w w' := by
  obtain ⟨A, c, rfl⟩ := h.form
  obtain ⟨w0, hw0⟩ : ∃ w0, w0 = w.alloc (.cells #[.int .i64 a.rule, .slice A a.sub.length c] 30) := ⟨_, rfl⟩
  have hx0 : Below (w.heap.size + 1) (w.alloc (.cells #[.int .i64 a.rule, .slice A a.sub.length c] 30)) w0 := by rw [hw0]; exact Below.refl _ _
  have hb0 := box_belowD hx0
  have hs0 : w0.heap.size = w.heap.size + 1 := by rw [hw0]; simp
  obtain ⟨w1, hw1⟩ : ∃ w1, w1 = w0.alloc (.cells #[.int .i64 2, .int .i64 1, .int .i64 0, .int .i64 3] 85) := ⟨_, rfl⟩
  have hb1 : Below w0.heap.size w0 w1 := by rw [hw1]; exact (Below.refl _ _).alloc (Nat.le_refl _) _
  have x1 : w1.cell? ⟨w.heap.size, 1, none⟩ = some (.slice A a.sub.length c) := (hb1.cell (p := ⟨w.heap.size, 1, none⟩) (by show w.heap.size < w0.heap.size; omega)).trans (box_cellD hx0 1 rfl)
  have RK := Lib.hid (fun (i : Nat) (hi : i < 4) => (show w1.cell? ⟨w0.heap.size, i, none⟩ = some (.int .i64 (rk (i : Int))) from by
    rw [hw1]
    exact (cell_of_row _ _ i _ _ _ (heap_alloc_new w0 (.cells #[.int .i64 2, .int .i64 1, .int .i64 0, .int .i64 3] 85))).trans (rk_at hi)))
  have HB := Lib.hid (hb0.trans (hb1.mono hb0.size))
  have H1 := Lib.hid (h.keep (Kp.of_below HB.out))
  clear hx0 hb0 hb1 hs0
  go_enter Tryd.func16, Tryd.ntmps16
  go_upto_region 1 with fail
  rw [← hw0]
  clear hw0
  go_upto_region 2 with fail
  rw [← hw1]
  clear hw1
  rcases all21_shape ha with rfl | ⟨i, hi, rfl⟩ | ⟨i, j, hi, hj, rfl⟩ <;> simp only [List.length_cons, List.length_nil, Nat.zero_add, Nat.reduceAdd] at x1
  · go_wp2
    go_ret
    exact ⟨rfl, HB.out⟩
  · have d1 := RK.out i hi
    obtain ⟨b, off, rfl, _, _, cs, ⟨rfl, hok⟩, hc⟩ := H1.out.at (i := 0) (x := (i : Int)) rfl
    have d0 := hc 0 _ rfl
    simp only [Nat.add_zero, Nat.mul_one] at d0
    have hr := rk_lt (i : Int)
    have HR := Lib.hid (show numA ⟨1, [(i : Int)]⟩ = 1 + rk (i : Int) from rfl)
    obtain ⟨r, hrr⟩ : ∃ r, rk (i : Int) = r := ⟨_, rfl⟩
    rw [hrr] at d1 hr HR
    have e1 : (0 : Int) ≤ (i : Int) := by omega
    have e2 : (i : Int) < 4 := by omega
    clear hc hok hrr
    go_wp2
    go_ret
    exact ⟨ret_i64A (by rw [HR.out]; omega), HB.out⟩
  · have d2 := RK.out i hi
    have d3 := RK.out j hj
    obtain ⟨b, off, rfl, _, _, cs, ⟨rfl, hok⟩, hc⟩ := H1.out.at (i := 0) (x := (i : Int)) rfl
    obtain ⟨b', off', hA, _, _, cs', ⟨rfl, hok'⟩, hc'⟩ := H1.out.at (i := 1) (x := (j : Int)) rfl
    simp only [Option.some.injEq, Addr.mk.injEq, and_true] at hA
    obtain ⟨rfl, rfl⟩ := hA
    have d0 := hc 0 _ rfl
    have d1 := hc' 0 _ rfl
    simp only [Nat.add_zero, Nat.mul_one] at d0 d1
    have hr := rk_lt (i : Int)
    have hs := rk_lt (j : Int)
    have HR := Lib.hid (show numA ⟨2, [(i : Int), (j : Int)]⟩ = 5 + 4 * rk (i : Int) + rk (j : Int) from rfl)
    obtain ⟨r, hrr⟩ : ∃ r, rk (i : Int) = r := ⟨_, rfl⟩
    obtain ⟨s, hss⟩ : ∃ s, rk (j : Int) = s := ⟨_, rfl⟩
    rw [hrr] at d2 hr HR
    rw [hss] at d3 hs HR
    have e1 : (0 : Int) ≤ (i : Int) := by omega
    have e2 : (i : Int) < 4 := by omega
    have e3 : (0 : Int) ≤ (j : Int) := by omega
    have e4 : (j : Int) < 4 := by omega
    clear hc hok hc' hok' hrr hss
    go_upto_region 7 with fail
    go_quiet (fail)
    have HQ := Lib.hid (below_drewNA (Below.refl w1.heap.size w1) nq)
    go_wp2
    go_ret
    exact ⟨ret_i64A (by rw [HR.out]; omega), HB.out.trans (HQ.out.mono HB.out.size)⟩
/-- What numbers leaves. -/
def NumRes (l : List Ac) (w : World) (e : Ending) (w' : World) : Prop := ∃ v, e = .returned (.tuple #[v, .bool true]) ∧ OwnZ w' w.heap.size v (zN (l.map numA)) ∧ Below w.heap.size w w'
set_option maxRecDepth 100000 in
set_option maxHeartbeats 8000000 in
theorem numbersW {F : Nat → Prop} (v : Value) (l : List Ac) (w : World) (h : RSl F w 2 (EAc F w) v l) (hl : ∀ a ∈ l, a ∈ all21) (hn : l.length ≤ 40000000) :
    Calls Tryd.prog 26 #[v] w (NumRes l w) := by
  obtain ⟨A, c, rfl⟩ := h.form
  have H := Lib.hid h
  have HLL := Lib.hid hl
  have HN := Lib.hid hn
  have hm : (l.length : Int) ≤ 40000000 := by omega
  have E0 := Lib.hid (Below.refl w.heap.size w)
  clear h hl hn
  go_enter Tryd.func26, Tryd.ntmps26
  go_wp2
  go_loopw [4, 5] (fun ov i wr => ∃ (k : Nat) (vo : Value), i = .int .i64 (k : Int) ∧ ov = vo ∧ k ≤ l.length ∧ OwnZ wr w.heap.size vo (zN ((l.take k).map numA)) ∧ Below w.heap.size w wr) (fun _ i _ => l.length - (intOf i).toNat)
  case atStart => exact ⟨0, _, rfl, rfl, Nat.zero_le _, World.ownsRow_nil _ _ _ _, E0.out⟩
  case round =>
    obtain ⟨k, vo, rfl, rfl, hk, ho, hbw⟩ := hrel
    have HBW := Lib.hid hbw
    have HO := Lib.hid ho
    obtain ⟨A5, c5, hvo⟩ := ho.form
    rw [zN_len, List.length_map, List.length_take, Nat.min_eq_left hk] at hvo
    subst hvo
    clear ho
    by_cases hkn : k < l.length
    · obtain ⟨a, ha⟩ : ∃ a, l[k]? = some a := ⟨_, List.getElem?_eq_getElem hkn⟩
      have HAM := Lib.hid (HLL.out a (List.mem_of_getElem? ha))
      have HTK := Lib.hid (show zN ((l.take (k + 1)).map numA) = zN ((l.take k).map numA) ++ [(numA a : Int)] by
        rw [List.take_add_one, ha]; simp [zN])
      obtain ⟨b, off, rfl, _, _, cs, ⟨sv, rfl, hok, hsv⟩, hc⟩ := (EAc.all H.out (Kp.of_below HBW.out) (fun _ _ h => h)).at ha
      obtain ⟨A3, c3, rfl⟩ := hsv.form
      have d0 := hc 0 _ rfl
      have d1 := hc 1 _ rfl
      simp only [Nat.add_zero] at d0
      obtain ⟨⟨r1, r2⟩, r3, r4⟩ := all21_facts HAM.out
      have R4 := Lib.hid r4
      obtain ⟨w1, hw1⟩ : ∃ w1, w1 = wr.alloc (.cells #[.int .i64 a.rule, .slice A3 a.sub.length c3] 30) := ⟨_, rfl⟩
      have hb1 : Below wr.heap.size wr w1 := by rw [hw1]; exact (Below.refl _ _).alloc (Nat.le_refl _) _
      have y0 : w1.cell? ⟨wr.heap.size, 0, none⟩ = some (.int .i64 a.rule) := by rw [hw1]; exact cell_of_row _ _ 0 _ _ _ (heap_alloc_new wr _)
      have y1 : w1.cell? ⟨wr.heap.size, 1, none⟩ = some (.slice A3 a.sub.length c3) := by rw [hw1]; exact cell_of_row _ _ 1 _ _ _ (heap_alloc_new wr _)
      have HSV := Lib.hid (hsv.keep (Kp.of_below hb1))
      have HO1 := Lib.hid (HO.out.below (HBW.out.trans (hb1.mono HBW.out.size) |> fun _ => hb1))
      have B1 := Lib.hid (HBW.out.trans (hb1.mono HBW.out.size))
      have hne : ((a.sub.length : Int) == a.rule) = true := by simpa using r3
      have e1 : (0 : Int) ≤ (k : Int) := by omega
      have e2 : (k : Int) < (l.length : Int) := by omega
      clear ha hc hok hsv r4 hb1 hbw
      go_upto_region 6 with fail
      rw [← hw1]
      clear hw1 d0 d1
      go_upto_region 9 with fail
      go_loopw [7] (fun j wq => ∃ q : Nat, j = .int .i64 (q : Int) ∧ q ≤ a.sub.length ∧ wq = w1) (fun j _ => a.sub.length - (intOf j).toNat)
      case atStart => exact ⟨0, rfl, Nat.zero_le _, rfl⟩
      case round =>
        obtain ⟨q, rfl, hq, hwq⟩ := hrel
        subst hwq
        by_cases hqn : q < a.sub.length
        · obtain ⟨s, hs⟩ : ∃ s, a.sub[q]? = some s := ⟨_, List.getElem?_eq_getElem hqn⟩
          obtain ⟨s1, s2⟩ := R4.out s (List.mem_of_getElem? hs)
          obtain ⟨b', off', rfl, _, _, cs', ⟨rfl, hok'⟩, hc'⟩ := HSV.out.at hs
          have d0 := hc' 0 _ rfl
          simp only [Nat.add_zero, Nat.mul_one] at d0
          have i1 : (0 : Int) ≤ (q : Int) := by omega
          have i2 : (q : Int) < (a.sub.length : Int) := by omega
          clear hs hc' hok'
          go_wp2
          exact ⟨⟨q + 1, by go_num, by omega, by first | rfl | trivial⟩, by simp [intOf]; omega⟩
        · obtain rfl : q = a.sub.length := by omega
          have NW := Lib.hid (numberW a (.slice A3 a.sub.length c3) _ HSV.out HAM.out)
          go_wp2_with fail
          refine NW.out.mono ?_
          rintro e w2 ⟨rfl, hb2⟩
          have HO2 := Lib.hid (HO1.out.below hb2)
          have B2 := Lib.hid (B1.out.trans (hb2.mono B1.out.size))
          have HL := Lib.hid (show (zN ((l.take k).map numA)).length = k by rw [zN_len, List.length_map, List.length_take, Nat.min_eq_left hk])
          clear hb2 y0 y1
          go_wp2_with (at_builtin; refine wpList_append_Z HO2.out rfl (.tmp 55) (.tmp 58) rfl rfl (numA a : Int) _ rfl rfl (by rw [HL.out]; have := HN.out; omega) B2.out.size ?_; rw [HL.out]; intro A6 c6 w3 ho3 hb3; have HO3 := Lib.hid ho3; have HB3 := Lib.hid (B2.out.trans hb3); clear ho3 hb3)
          exact ⟨⟨k + 1, _, by go_num, rfl, by omega, by rw [HTK.out]; exact HO3.out, HB3.out⟩, by simp [intOf]; omega⟩
    · obtain rfl : k = l.length := by omega
      clear hbw
      go_wp2
      go_ret2
      refine ⟨_, rfl, ?_, HBW.out⟩
      have := HO.out
      rw [List.take_length] at this
      exact this
end Go.Proofs.YtjgigcnjgblekaaDoor
