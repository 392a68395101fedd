/- The reference's New. The walk. Each: the eligible acts one by one, to a yield that may stop. The walk. taken: what Each gives. AgendaPlays' helpers: the state of both agendas; asks: every question has the same answer on both. The walk. -/
import Derived.Test.YtjgigcnjgblekaaDoorKap24
import Derived.Test.YtjgigcnjgblekaaDoorKap26
import Derived.Test.YtjgigcnjgblekaaDoorKap28
namespace Go.Proofs.YtjgigcnjgblekaaDoor
open Go Go.RowKit Go.Maps Classical

/-- A number more, in a region that draws its order and calls nothing ahead of it. -/
theorem step_append_Zd {ops : Array Oper} {o : Oper} {a : Act} {K : Act → World → Prop} {Q : Exit → Act → World → Prop} {E : Prop} {w : World} {B : Nat} {v : Value} {l : List Int} (h : OwnZ w B v l) (hgd : o.guard = none) (s q : Operand)
    (ho : o.op = .call { callee := .builtin .append, args := #[s, q], argTypes := #[22, 22] }) {c H : Nat} (hs : a.eval s = v) (x : Int) (T : TypeId) (hq : a.eval q = .slice (some ⟨H, 0, none⟩) 1 c) (hH : w.heap.size = H) (hn : l.length ≤ 40000000) (hB : B ≤ w.heap.size)
    (k : ∀ g cap w', OwnZ w' B (.slice (some ⟨g, 0, none⟩) (l.length + 1) cap) (l ++ [x]) → Turns v.ownBlock.toList w w' → (v.ownBlock = some g ∨ w.heap.size ≤ g) → g < w'.heap.size →
      K (a.put o.dst (.slice (some ⟨g, 0, none⟩) (l.length + 1) cap)) w') : if Region.wanted o (yielded ops a.tmps) = true then Oper.wp Tryd.prog o a (w.alloc (.cells #[.int .i64 x] T)).drew K Q else E := by
  subst hH
  obtain ⟨i0, hi0, hz0, hz1, hz2⟩ := info_parts infoIntR
  have hbl : Below w.heap.size w (w.alloc (.cells #[.int .i64 x] T)).drew := ((Below.refl w.heap.size w).alloc (Nat.le_refl _) (.cells #[.int .i64 x] T)).drew
  have h1 := h.below hbl
  refine step_append1s (w.alloc (.cells #[.int .i64 x] T)).drew hgd s q 22 ho B 3 i0 (.int .i64 0) 1 8 Tryd.underlying22 hi0 hz0 hz1 hz2 rfl (by decide) v l.length (intVs l) hs h1 ⟨w.heap.size, 0, none⟩ c [.int .i64 x] hq rfl (World.news_of_block (heap_alloc_new w _)) (by simp [Value.oneCell']) hn (by decide) (by simp; omega) _ rfl ?_
  intro g cap w' hown hgrow hat hlt
  refine k g cap w' ?_ (((((Turns.refl [] w).alloc _).drew).mono (by simp)).trans (Turns.of_grown hgrow) (fun x hx => .inl hx)) ?_ hlt
  · unfold OwnZ
    rw [show intVs (l ++ [x]) = intVs l ++ [.int .i64 x] by simp [intVs], List.length_append]
    exact hown
  · rcases hat with h | h
    · exact .inl h
    · exact .inr (by have := h.1; simp at this; omega)
/-- New's state behind k levels. -/
structure RnSt (rb : Nat) (cv : Value) (xs : List Int) (w2 wr : World) (lv : Value) (k : Nat) : Prop where
  row : wr.heap[rb]? = some (.cells #[lv, cv, .slice none 0 0, .slice none 0 0] 89 (0, 0))
  own : OwnZ wr (rb + 1) lv (lev0 (xs.take k))
  below : Below rb w2 wr
section
variable {rb k : Nat} {cv lv v' : Value} {xs : List Int} {w2 wr w3 : World} {l : Int}
theorem RnSt.at0 (h : RnSt rb cv xs w2 wr lv k) (T : Turns lv.ownBlock.toList wr w3) : w3.cell? ⟨rb, 0, none⟩ = some lv ∧ w3.frozen? ⟨rb, 0, none⟩ = false := by
  have e : w3.heap[rb]? = some (.cells #[lv, cv, .slice none 0 0, .slice none 0 0] 89 (0, 0)) := (T.block _ (lt_of_heap h.row) (fun hm => by have := (ownBlock_cells h.own (by simpa using hm)).1; omega)).trans h.row
  exact ⟨cell_of_row _ _ 0 _ _ _ e, by unfold World.frozen?; simp only [e]; simp⟩
theorem RnSt.put (h : RnSt rb cv xs w2 wr lv k) (hl : xs[k]? = some l) (T : Turns lv.ownBlock.toList wr w3) (ho : OwnZ w3 (rb + 1) v' (lev0 (xs.take k) ++ [max l 0])) : RnSt rb cv xs w2 (w3.setCell ⟨rb, 0, none⟩ v') v' (k + 1) := by
  have hr : rb < wr.heap.size := lt_of_heap h.row
  have hn : rb ∉ lv.ownBlock.toList := fun hm => by have := (ownBlock_cells h.own (by simpa using hm)).1; omega
  have T2 : Turns [rb] w3 (w3.setCell ⟨rb, 0, none⟩ v') := (Turns.refl _ _).setCell (.inl (by simp)) _
  refine ⟨heap_setCell_same _ _ 0 _ _ _ ((T.block _ hr hn).trans h.row), ?_, ?_⟩
  · rw [lev0_take hl]
    exact ho.turns T2 (fun b hb hm => by have := (ownBlock_cells ho hb).1; rw [List.mem_singleton.1 hm] at this; omega)
  · have h1 : Below rb wr w3 := T.below (by omega) (fun x hx => by have := (ownBlock_cells h.own (by simpa using hx)).1; omega)
    exact h.below.trans (h1.trans (T2.below (by have := h1.size; omega) (fun x hx => by rw [List.mem_singleton.1 hx]; exact Nat.le_refl _)))
end
/-- What the reference's New leaves. -/
def RnRes (xs : List Int) (cs : List Cst) (w : World) (e : Ending) (w' : World) : Prop :=
  ∃ rb lv cv, e = .returned (.pointer (some ⟨rb, 0, none⟩)) ∧ w'.heap[rb]? = some (.cells #[lv, cv, .slice none 0 0, .slice none 0 0] 89 (0, 0)) ∧
    RSl (fun b => w.heap.size ≤ b ∧ b ≠ rb) w' 1 EInt lv (lev0 xs) ∧ RSl (fun b => w.heap.size ≤ b ∧ b ≠ rb) w' 3 ECst cv cs ∧ w.heap.size ≤ rb ∧ Below w.heap.size w w'
set_option maxRecDepth 100000 in
set_option maxHeartbeats 4000000 in
theorem rnewW {F : Nat → Prop} (lv cv : Value) (xs : List Int) (cs : List Cst) (w : World) (h1 : RSl F w 1 EInt lv xs) (h2 : RSl F w 3 ECst cv cs) (hl : cs.length ≤ 1000000000000) (hx : xs.length ≤ 40000000) :
    Calls Tryd.prog 20 #[lv, cv] w (RnRes xs cs w) := by
  obtain ⟨A1, c1, rfl⟩ := h1.form
  obtain ⟨A2, c2, rfl⟩ := h2.form
  have hm : cs.length ≤ maxLen := h2.len
  have HC := Lib.hid (h2.keep (Kp.of_below ((Below.refl w.heap.size w).alloc (Nat.le_refl _) (.cells #[] 62)))).cstCells
  have O0 := Lib.hid (own0 w 62 3 w.heap.size (Nat.le_refl _))
  have H1 := Lib.hid h1
  have HX := Lib.hid hx
  clear h1 h2
  go_enter Tryd.func20, Tryd.ntmps20
  go_wp2_with (at_builtin; refine wpList_append_any rfl (.tmp 7) (.tmp 8) 26 rfl w.heap.size 62 Tryd.underlying26 infoCst rfl (by decide) (.slice (some ⟨w.heap.size, 0, none⟩) 0 0) 0 [] rfl O0.out A2 cs.length c2 rfl (cstVs cs) (cstVs_len cs) (cstVs_one cs) (HC.out.imp (fun h => by rw [h]; rfl) id) (by omega) (by omega) (by simp) ?_; intro v' w1 hown2 ht2; have ho' := hown2; rw [Nat.zero_add] at ho'; obtain ⟨va, vc, rfl⟩ := own_form1 ho'; clear ho'; have N1 := Lib.hid hown2; have N2 := Lib.hid ht2; clear hown2 ht2)
  have o2 := N1.out
  rw [Nat.zero_add, List.nil_append] at o2
  have HCS := Lib.hid (RSl.of_cst (F := fun b => w.heap.size ≤ b) o2 (fun b hb => (ownBlock_cells o2 hb).1))
  have B1 := Lib.hid (((Below.refl w.heap.size w).alloc (Nat.le_refl _) (.cells #[] 62)).trans (N2.out.below (by simp) (fun x hx => by rw [show x = w.heap.size by simpa [Value.ownBlock] using hx]; exact Nat.le_refl _)))
  obtain ⟨w2, hw2⟩ : ∃ w2, w2 = w1.alloc (.cells #[.slice none 0 0, .slice va cs.length vc, .slice none 0 0, .slice none 0 0] 89) := ⟨_, rfl⟩
  have ST := Lib.hid (show RnSt w1.heap.size (.slice va cs.length vc) xs w2 w2 (.slice none 0 0) 0 from
    ⟨by rw [hw2]; exact heap_alloc_new w1 _, World.ownsRow_nil _ _ _ _, Below.refl _ _⟩)
  have B2 := Lib.hid (show Below w1.heap.size w1 w2 by rw [hw2]; exact (Below.refl _ _).alloc (Nat.le_refl _) _)
  rw [← hw2]
  clear hw2 o2 N1 N2 O0 HC
  go_loopw [6] (fun i wr => ∃ (k : Nat) (lv : Value), i = .int .i64 (k : Int) ∧ k ≤ xs.length ∧ RnSt w1.heap.size (.slice va cs.length vc) xs w2 wr lv k) (fun i _ => xs.length - (intOf i).toNat)
  case atStart => exact ⟨0, _, rfl, Nat.zero_le _, ST.out⟩
  case round =>
    obtain ⟨k, lv, rfl, hk, hst⟩ := hrel
    have HX2 := Lib.hid hst
    obtain ⟨lA, lc, hlv⟩ := hst.own.form
    have hll : (lev0 (xs.take k)).length = k := by rw [lev0_len, List.length_take, Nat.min_eq_left hk]
    rw [hll] at hlv
    subst hlv
    have HW := Lib.hid (show Below w.heap.size w wr from B1.out.trans ((B2.out.trans hst.below).mono B1.out.size))
    have HW1 := Lib.hid (show Below w1.heap.size w1 wr from B2.out.trans hst.below)
    by_cases hkn : k < xs.length
    · obtain ⟨l, hl⟩ : ∃ l, xs[k]? = some l := ⟨_, List.getElem?_eq_getElem hkn⟩
      obtain ⟨b, off, rfl, _, hbs, cs', ⟨rfl, lok⟩, hc⟩ := (H1.out.keep (Kp.of_below HW.out)).at hl
      have d0 := hc 0 _ rfl
      simp only [Nat.add_zero, Nat.mul_one] at d0
      have y0 : wr.cell? ⟨w1.heap.size, 0, none⟩ = some (.slice lA k lc) := (hst.at0 (Turns.refl _ _)).1
      have HL := Lib.hid hl
      have HLL := Lib.hid hll
      have hlen : k ≤ 40000000 := by have := HX.out; omega
      have hsz := lt_of_heap hst.row
      have hmx : max 0 l = max l 0 := Int.max_comm 0 l
      have HMX := Lib.hid hmx
      have e1 : (0 : Int) ≤ (k : Int) := by omega
      have e2 : (k : Int) < (xs.length : Int) := by omega
      clear hl hc lok hst hll hmx
      go_wp2_with fail
      go_region_law (refine step_append_Zd HX2.out.own (by rfl) (.tmp 22) (.tmp 28) (by rfl) (by rfl) (max 0 l) _ (by rfl) (by simp) (by rw [HLL.out]; exact hlen) (by omega) ?_; intro g cap w3 ho ht hat hlt2; rw [HLL.out] at ho ⊢; rw [HMX.out] at ho; obtain ⟨z1, z2⟩ := HX2.out.at0 ht; have N1 := Lib.hid (HX2.out.put HL.out ht ho); clear ho ht hat hlt2)
      all_goals go_wp2
      all_goals exact ⟨⟨k + 1, _, by go_num, by omega, N1.out⟩, by simp [intOf]; omega⟩
    · obtain rfl : k = xs.length := by omega
      go_wp2
      go_ret
      refine ⟨w1.heap.size, _, _, rfl, hst.row, ?_, ?_, B1.out.size, HW.out⟩
      · have ho := hst.own
        rw [List.take_length] at ho
        refine ho.rsl (fun b hb => ?_) (fun i hi => ?_)
        · have := (ownBlock_cells ho hb).1
          have h2 := B1.out.size
          exact ⟨by omega, by omega⟩
        · obtain ⟨j, hj, rfl⟩ := List.mem_map.1 (show i ∈ xs.map (fun l => max l 0) from hi)
          obtain ⟨q, hq⟩ := List.getElem?_of_mem hj
          obtain ⟨_, _, _, _, _, _, ⟨rfl, lok⟩, _⟩ := H1.out.at hq
          rcases Int.le_total j 0 with h | h
          · rw [Int.max_eq_right h]; unfold i64ok; decide
          · rw [Int.max_eq_left h]; exact lok
      · exact (HCS.out.kp (F' := fun b => w.heap.size ≤ b ∧ b ≠ w1.heap.size) (Kp.refl _ _) (fun b hb hf => ⟨hf, by omega⟩) (fun _ _ h => h)).keep (Kp.of_below HW1.out)
end Go.Proofs.YtjgigcnjgblekaaDoor

namespace Go.Proofs.YtjgigcnjgblekaaDoor
open Go Go.RowKit Go.Maps Classical

theorem eqlNilF {P : Program} (W : World) (t : TypeId) {ps rs : Array TypeId} {vd : Bool} (f : Fn) (xs cb : Array Value) (h : P.underlying t = some (.func ps rs vd)) : (binOp .eql t (.func f xs cb) .nilFunc).run P W = .ok (.bool false) W := by
  have h1 : ∀ d, (Op.equalIn (d + 1) t (.func f xs cb) .nilFunc).run P W = .ok false W := fun d => by simp [Op.equalIn, run_underlying h]
  have h2 : (Op.equal t (.func f xs cb) .nilFunc).run P W = .ok false W := h1 9999
  simp only [binOp]
  simp [h2]
/-- Where a yield stops: the first that answers no, or none. -/
def StopAt (go : Nat → Bool) (n k : Nat) : Prop := k ≤ n ∧ (∀ j, j + 1 < k → go j = true) ∧ (k = n ∨ (0 < k ∧ go (k - 1) = false))
set_option maxRecDepth 100000 in
set_option maxHeartbeats 4000000 in
theorem eachW {M : List Nat} {p mc mf N g : Nat} {cb : Array Value} {G : Agd} (St : Nat → Nat → World → Prop) (go : Nat → Bool) (w : World) (h : AgAt M w p mc mf G N) (hlen : G.C.length ≤ 40000000)
    (eg : ∀ args w, (callFunc g args).run Tryd.prog w = .ok (.enter g args) w)
    (h0 : ∀ w1, Below w.heap.size w w1 → St w1.heap.size 0 w1) (hB : ∀ K i W W', St K i W → Below W.heap.size W W' → St K i W')
    (hs : ∀ w1, Below w.heap.size w w1 → ∀ i x sv W, (eligA G)[i]? = some x → Kp (fun b => w.heap.size ≤ b ∧ b < w1.heap.size) w1 W → St w1.heap.size i W → RSl (fun b => w.heap.size ≤ b ∧ b < w1.heap.size) W 1 EInt sv x.sub → i64ok x.rule →
      Calls Tryd.prog g (#[.agg #[.int .i64 x.rule, sv]] ++ cb) W fun e W' => e = .returned (.bool (go i)) ∧ St w1.heap.size (i + 1) W' ∧ Kp (fun b => w.heap.size ≤ b ∧ b < w1.heap.size) W W') :
    Calls Tryd.prog 48 #[.pointer (some ⟨p, 0, none⟩), .func (.func g) #[] cb] w fun e w' => e = .returned (.tuple #[]) ∧ ∃ K k, StopAt go (eligA G).length k ∧ St K k w' := by
  have EW := Lib.hid (eligibleW w h hlen)
  have hnil := fun W => eqlNilF (P := Tryd.prog) W 92 (.func g) #[] cb Tryd.underlying92
  have H0 := Lib.hid h0
  have HBB := Lib.hid hB
  have HS := Lib.hid hs
  clear h hlen h0 hB hs
  go_enter Tryd.func48, Tryd.ntmps48
  go_wp2_with fail
  refine EW.out.mono ?_
  intro e w1 hr
  obtain ⟨A, c, rfl, hb1, hl⟩ := hr.rsl
  obtain ⟨l, hle⟩ : ∃ l, eligA G = l := ⟨_, rfl⟩
  rw [hle] at hl HS ⊢
  have HLE := Lib.hid hle
  have hm := hl.len
  unfold maxLen at hm
  have HL := Lib.hid (EAc.all hl (Kp.refl _ _) (F' := fun b => w.heap.size ≤ b ∧ b < w1.heap.size) (fun b hb hf => ⟨hf, hb⟩))
  have HB1 := Lib.hid hb1
  clear hr hb1 hl hle EW
  go_upto_region 2 with fail
  go_loopw [15] (fun i wr => ∃ k : Nat, i = .int .i64 (k : Int) ∧ k ≤ l.length ∧ (∀ j, j < k → go j = true) ∧ St w1.heap.size k wr ∧ Kp (fun b => w.heap.size ≤ b ∧ b < w1.heap.size) w1 wr) (fun i _ => l.length - (intOf i).toNat)
  case atStart => exact ⟨0, rfl, Nat.zero_le _, fun j hj => by omega, H0.out _ HB1.out, Kp.refl _ _⟩
  case round =>
    obtain ⟨k, rfl, hk, hgo, hst, hkp⟩ := hrel
    have HGO := Lib.hid hgo
    have HST := Lib.hid hst
    have HKP := Lib.hid hkp
    clear hgo hst hkp
    by_cases hkn : k < l.length
    · obtain ⟨x, hx⟩ : ∃ x, l[k]? = some x := ⟨_, List.getElem?_eq_getElem hkn⟩
      obtain ⟨b, off, rfl, hbF, hbs, cs, ⟨sv, rfl, hok, hsv⟩, hc⟩ := (EAc.all HL.out HKP.out (fun _ _ h => h)).at hx
      obtain ⟨A3, c3, rfl⟩ := hsv.form
      have d0 := hc 0 _ rfl
      have d1 := hc 1 _ rfl
      simp only [Nat.add_zero] at d0
      obtain ⟨w2, hw2⟩ : ∃ w2, w2 = wr.alloc (.cells #[.int .i64 x.rule, .slice A3 x.sub.length c3] 30) := ⟨_, rfl⟩
      have hb2 : Below wr.heap.size wr w2 := by rw [hw2]; exact (Below.refl _ _).alloc (Nat.le_refl _) _
      have y0 : w2.cell? ⟨wr.heap.size, 0, none⟩ = some (.int .i64 x.rule) := by rw [hw2]; exact cell_of_row _ _ 0 _ _ _ (heap_alloc_new wr _)
      have y1 : w2.cell? ⟨wr.heap.size, 1, none⟩ = some (.slice A3 x.sub.length c3) := by rw [hw2]; exact cell_of_row _ _ 1 _ _ _ (heap_alloc_new wr _)
      have K2 := Lib.hid (HKP.out.trans (Kp.of_below hb2))
      have SC := Lib.hid (HS.out w1 HB1.out k x (.slice A3 x.sub.length c3) w2 hx K2.out (HBB.out _ _ _ _ HST.out hb2) (hsv.keep (Kp.of_below hb2)) hok)
      have e1 : (0 : Int) ≤ (k : Int) := by omega
      have e2 : (k : Int) < (l.length : Int) := by omega
      clear hx hok hsv hc hb2
      go_upto_region 4 with fail
      rw [← hw2]
      clear hw2 d0 d1
      go_wp2_with fail
      refine SC.out.mono ?_
      rintro e w3 ⟨rfl, hst3, hk3⟩
      have HST3 := Lib.hid hst3
      have HK3 := Lib.hid (K2.out.trans hk3)
      clear hst3 hk3 SC y0 y1
      cases hgk : go k with
      | true =>
        have NX := Lib.hid (fun j (hj : j < k + 1) => (show go j = true by
          rcases Nat.lt_or_ge j k with h | h
          · exact HGO.out j h
          · obtain rfl : j = k := by omega
            exact hgk))
        clear hgk
        go_wp2
        exact ⟨⟨k + 1, by go_num, by omega, NX.out, HST3.out, HK3.out⟩, by simp [intOf]; omega⟩
      | false =>
        have HGK := Lib.hid hgk
        clear hgk
        go_wp2
        refine bodyPost_ret (results_none rfl _ _ _) rfl ?_
        exact ⟨rfl, _, k + 1, ⟨by rw [HLE.out]; omega, fun j hj => HGO.out j (by omega), .inr ⟨by omega, by simpa using HGK.out⟩⟩, HST3.out⟩
    · obtain rfl : k = l.length := by omega
      go_wp2
      go_end0
      exact ⟨rfl, _, l.length, ⟨by rw [HLE.out]; exact Nat.le_refl _, fun j hj => HGO.out j (by omega), .inl (by rw [HLE.out])⟩, HST.out⟩
/-- What is taken: n acts, or all. -/
def tkn (l : List Ac) (n : Int) : List Ac := if 0 < n ∧ n < (l.length : Int) then l.take n.toNat else l
def goT (n : Int) (i : Nat) : Bool := decide (¬ ((i : Int) + 1 = n))
theorem tkn_stop {l : List Ac} {n : Int} {k : Nat} (h : StopAt (goT n) l.length k) : l.take k = tkn l n := by
  obtain ⟨h1, h2, h3⟩ := h
  unfold tkn
  rcases h3 with h3 | ⟨h3, h4⟩
  · subst h3
    rw [List.take_length]
    by_cases hn : 0 < n ∧ n < (l.length : Int)
    · exfalso
      have := h2 (n - 1).toNat (by omega)
      unfold goT at this
      have h5 := of_decide_eq_true this
      exact h5 (by omega)
    · rw [if_neg hn]
  · unfold goT at h4
    have h5 := of_decide_eq_false h4
    have h6 : (k : Int) = n := by omega
    by_cases hn : n < (l.length : Int)
    · rw [if_pos ⟨by omega, hn⟩]
      congr 1
      omega
    · rw [if_neg (fun h => hn h.2)]
      exact List.take_of_length_le (by omega)
/-- The closure's state: its list, the bound. -/
def TkSt (l : List Ac) (n : Int) (w w0 : World) (K i : Nat) (W : World) : Prop :=
  ∃ vo, W.heap[w.heap.size + 1]? = some (.cells #[vo] 23 (0, 0)) ∧ W.heap[w.heap.size]? = some (.cells #[.int .i64 n] 3 (0, 0)) ∧ OwnF (fun b => w0.heap.size ≤ b ∧ b < K) K W 30 cdAc vo (l.take i) ∧ w0.heap.size ≤ K ∧ K ≤ W.heap.size ∧ Below w.heap.size w W
set_option maxRecDepth 100000 in
set_option maxHeartbeats 4000000 in
theorem takenFW {l : List Ac} {n : Int} {w w0 W : World} {K i : Nat} (x : Ac) (sv : Value) (hw0 : w0.heap.size = w.heap.size + 2) (hl : l.length ≤ 40000000) (hx : l[i]? = some x) (hst : TkSt l n w w0 K i W) (hsv : RSl (fun b => w0.heap.size ≤ b ∧ b < K) W 1 EInt sv x.sub) (hok : i64ok x.rule) :
    Calls Tryd.prog 49 #[.agg #[.int .i64 x.rule, sv], .pointer (some ⟨w.heap.size + 1, 0, none⟩), .pointer (some ⟨w.heap.size, 0, none⟩)] W fun e W' => e = .returned (.bool (goT n i)) ∧ TkSt l n w w0 K (i + 1) W' ∧ Kp (fun b => w0.heap.size ≤ b ∧ b < K) W W' := by
  obtain ⟨vo, q1, q2, q3, q4, q5, q6⟩ := hst
  obtain ⟨A3, c3, rfl⟩ := hsv.form
  have hi := (List.getElem?_eq_some_iff.1 hx).1
  have hti : (l.take i).length = i := by rw [List.length_take, Nat.min_eq_left (by omega)]
  obtain ⟨A4, c4, hvo⟩ := q3.form
  rw [hti] at hvo
  subst hvo
  obtain ⟨W0, hW0⟩ : ∃ W0, W0 = W.alloc (.cells #[.int .i64 x.rule, .slice A3 x.sub.length c3] 30) := ⟨_, rfl⟩
  have hb0 : Below W.heap.size W W0 := by rw [hW0]; exact (Below.refl _ _).alloc (Nat.le_refl _) _
  have hs1 := lt_of_heap q1
  have hs2 := lt_of_heap q2
  have r1 := (hb0.block _ hs1).trans q1
  have r2 := (hb0.block _ hs2).trans q2
  have y0 : W0.cell? ⟨W.heap.size, 0, none⟩ = some (.int .i64 x.rule) := by rw [hW0]; exact cell_of_row _ _ 0 _ _ _ (heap_alloc_new W _)
  have y1 : W0.cell? ⟨W.heap.size, 1, none⟩ = some (.slice A3 x.sub.length c3) := by rw [hW0]; exact cell_of_row _ _ 1 _ _ _ (heap_alloc_new W _)
  have b1 : W0.cell? ⟨w.heap.size + 1, 0, none⟩ = some (.slice A4 i c4) := cell_of_row _ _ 0 _ _ _ r1
  have b2 : W0.cell? ⟨w.heap.size, 0, none⟩ = some (.int .i64 n) := cell_of_row _ _ 0 _ _ _ r2
  have OW := Lib.hid (q3.below hb0)
  have R1 := Lib.hid r1
  have R2 := Lib.hid r2
  have HB0 := Lib.hid hb0
  have HB := Lib.hid (q6.trans (hb0.mono q6.size))
  have HEL := Lib.hid (show cdAc.E (fun b => w0.heap.size ≤ b ∧ b < K) W0 [.int .i64 x.rule, .slice A3 x.sub.length c3] x from ⟨_, rfl, hok, hsv.keep (Kp.of_below hb0)⟩)
  have HTK := Lib.hid (show l.take (i + 1) = l.take i ++ [x] by rw [List.take_add_one, hx]; rfl)
  have HLL := Lib.hid (show (l.take i).length ≤ 40000000 by omega)
  have HTI := Lib.hid hti
  have HK := Lib.hid (And.intro q4 (Nat.le_trans q5 hb0.size))
  have hlt : i + 1 ≤ 40000001 := by omega
  -- what lies behind the append and the store
  have FIN : ∀ (g cap : Nat) (w2 : World), OwnF (fun b => w0.heap.size ≤ b ∧ b < K) K w2 30 cdAc (.slice (some ⟨g, 0, none⟩) (i + 1) cap) (l.take i ++ [x]) → Turns (Value.slice A4 i c4).ownBlock.toList W0 w2 →
      (w2.cell? ⟨w.heap.size + 1, 0, none⟩ = some (.slice A4 i c4) ∧ w2.frozen? ⟨w.heap.size + 1, 0, none⟩ = false) ∧
      TkSt l n w w0 K (i + 1) (w2.setCell ⟨w.heap.size + 1, 0, none⟩ (.slice (some ⟨g, 0, none⟩) (i + 1) cap)) ∧ Kp (fun b => w0.heap.size ≤ b ∧ b < K) W (w2.setCell ⟨w.heap.size + 1, 0, none⟩ (.slice (some ⟨g, 0, none⟩) (i + 1) cap)) ∧
      (w2.setCell ⟨w.heap.size + 1, 0, none⟩ (.slice (some ⟨g, 0, none⟩) (i + 1) cap)).cell? ⟨w.heap.size + 1, 0, none⟩ = some (.slice (some ⟨g, 0, none⟩) (i + 1) cap) ∧ (w2.setCell ⟨w.heap.size + 1, 0, none⟩ (.slice (some ⟨g, 0, none⟩) (i + 1) cap)).cell? ⟨w.heap.size, 0, none⟩ = some (.int .i64 n) := by
    intro g cap w2 ho ht
    have hown : ∀ b, b ∈ (Value.slice A4 i c4).ownBlock.toList → K ≤ b := fun b hb => (OW.out.block (by simpa using hb)).1
    have hK := HK.out
    have T2 : Turns [w.heap.size + 1] w2 (w2.setCell ⟨w.heap.size + 1, 0, none⟩ (.slice (some ⟨g, 0, none⟩) (i + 1) cap)) := (Turns.refl _ _).setCell (.inl (by simp)) _
    have e1 := (ht.block _ (lt_of_heap R1.out) (fun hm => by have := hown _ hm; omega)).trans R1.out
    have e2 := (ht.block _ (lt_of_heap R2.out) (fun hm => by have := hown _ hm; omega)).trans R2.out
    have f1 : (w2.setCell ⟨w.heap.size + 1, 0, none⟩ (.slice (some ⟨g, 0, none⟩) (i + 1) cap)).heap[w.heap.size + 1]? = some (.cells #[.slice (some ⟨g, 0, none⟩) (i + 1) cap] 23 (0, 0)) := heap_setCell_same _ _ 0 _ _ _ e1
    have f2 := (T2.block w.heap.size (lt_of_heap e2) (by simp)).trans e2
    refine ⟨⟨cell_of_row _ _ 0 _ _ _ e1, by unfold World.frozen?; simp only [e1]; simp⟩, ⟨_, f1, f2, ?_, hK.1, ?_, ?_⟩, ?_, cell_of_row _ _ 0 _ _ _ f1, cell_of_row _ _ 0 _ _ _ f2⟩
    · rw [HTK.out]
      exact ho.keep T2 (fun b hb hm => by have := (ho.block hb).1; have := List.mem_singleton.1 hm; omega) (fun b hb hf => by have := List.mem_singleton.1 hb; omega) (fun _ _ h => h)
    · have := ht.size; have := T2.size; omega
    · exact HB.out.trans ((ht.below HB.out.size (fun b hb => by have := hown b hb; omega)).trans (T2.below (by have := ht.size; have := HB.out.size; omega) (fun b hb => by rw [List.mem_singleton.1 hb]; omega)))
    · exact (Kp.of_below HB0.out).trans ((Kp.of_turns ht (fun b hb hf => by have := hown b hb; omega)).trans (Kp.of_turns T2 (fun b hb hf => by have := List.mem_singleton.1 hb; omega)))
  have FIN := Lib.hid FIN
  clear hsv q1 q2 q3 q6 r1 r2 hb0 hti hx
  go_enter Tryd.func49, Tryd.ntmps49
  go_upto_region 1 with fail
  rw [← hW0]
  clear hW0
  by_cases hn : (i : Int) + 1 = n
  · have HG := Lib.hid (show goT n i = false from decide_eq_false (fun h => h hn))
    subst hn
    go_wp2_with (at_builtin; refine wpList_append_F OW.out (fun b hb hf => by have := (OW.out.block hb).1; omega) rfl (.tmp 5) (.tmp 7) 23 rfl Tryd.underlying23 infoAct rfl (by decide) rfl #[.int .i64 x.rule, .slice A3 x.sub.length c3] _ rfl rfl HEL.out HLL.out (by decide) HK.out.2 ?_; rw [HTI.out]; intro g cap w2 ho ht _ _; obtain ⟨⟨z1, z2⟩, z3, z4, z5, z6⟩ := FIN.out g cap w2 (ho _ (fun _ _ h => h)) ht; have Z3 := Lib.hid z3; have Z4 := Lib.hid z4; clear ho ht z3 z4)
    go_ret
    exact ⟨ret_boolA (by rw [HG.out]), Z3.out, Z4.out⟩
  · have HG := Lib.hid (show goT n i = true from decide_eq_true hn)
    have f1 : (((i : Int) + 1) == n) = false := beq_false_of_ne hn
    have f2 : (((i : Int) + 1) != n) = true := bne_iff_ne.2 hn
    go_wp2_with (at_builtin; refine wpList_append_F OW.out (fun b hb hf => by have := (OW.out.block hb).1; omega) rfl (.tmp 5) (.tmp 7) 23 rfl Tryd.underlying23 infoAct rfl (by decide) rfl #[.int .i64 x.rule, .slice A3 x.sub.length c3] _ rfl rfl HEL.out HLL.out (by decide) HK.out.2 ?_; rw [HTI.out]; intro g cap w2 ho ht _ _; obtain ⟨⟨z1, z2⟩, z3, z4, z5, z6⟩ := FIN.out g cap w2 (ho _ (fun _ _ h => h)) ht; have Z3 := Lib.hid z3; have Z4 := Lib.hid z4; clear ho ht z3 z4)
    go_ret
    exact ⟨ret_boolA (by rw [HG.out]), Z3.out, Z4.out⟩
/-- What taken leaves. -/
def TknRes (l : List Ac) (w : World) (e : Ending) (w' : World) : Prop := ∃ A c, e = .returned (.slice A l.length c) ∧ Below w.heap.size w w' ∧ RSl (fun b => w.heap.size ≤ b) w' 2 (EAc (fun b => w.heap.size ≤ b) w') (.slice A l.length c) l
set_option maxRecDepth 100000 in
set_option maxHeartbeats 4000000 in
theorem takenW {M : List Nat} {p mc mf N : Nat} {G : Agd} (n : Int) (w : World) (h : AgAt M w p mc mf G N) (hlen : G.C.length ≤ 40000000) (hel : (eligA G).length ≤ 40000000) :
    Calls Tryd.prog 24 #[.pointer (some ⟨p, 0, none⟩), .int .i64 n] w (TknRes (tkn (eligA G) n) w) := by
  have eg : ∀ args w, (callFunc 49 args).run Tryd.prog w = .ok (.enter 49 args) w := enters_of Tryd.func49 (by kernel_rfl) rfl
  obtain ⟨w0, hw0⟩ : ∃ w0, w0 = (w.alloc (.cells #[.int .i64 n] 3)).alloc (.cells #[.slice none 0 0] 23) := ⟨_, rfl⟩
  have hb0 : Below w.heap.size w w0 := by rw [hw0]; exact ((Below.refl _ _).alloc (Nat.le_refl _) _).alloc (by simp) _
  have hs0 : w0.heap.size = w.heap.size + 2 := by rw [hw0]; simp
  have r0 : w0.heap[w.heap.size]? = some (.cells #[.int .i64 n] 3 (0, 0)) := by rw [hw0, heap_alloc_old _ _ (by simp)]; exact heap_alloc_new w _
  have r1 : w0.heap[w.heap.size + 1]? = some (.cells #[.slice none 0 0] 23 (0, 0)) := by
    have := heap_alloc_new (w.alloc (.cells #[.int .i64 n] 3)) (.cells #[.slice none 0 0] 23)
    rw [hw0]; simpa using this
  have EW := Lib.hid (eachW (cb := #[.pointer (some ⟨w.heap.size + 1, 0, none⟩), .pointer (some ⟨w.heap.size, 0, none⟩)]) (fun K i W => TkSt (eligA G) n w w0 K i W) (goT n) w0 (h.below hb0) hlen eg
    (fun w1 hw1 => ⟨_, (hw1.block _ (by omega)).trans r1, (hw1.block _ (by omega)).trans r0, by rw [List.take_zero]; exact OwnF.nil, hw1.size, Nat.le_refl _, hb0.trans (hw1.mono hb0.size)⟩)
    (fun K i W W' ⟨vo, q1, q2, q3, q4, q5, q6⟩ hb => ⟨vo, (hb.block _ (lt_of_heap q1)).trans q1, (hb.block _ (lt_of_heap q2)).trans q2, q3.below hb, q4, Nat.le_trans q5 hb.size, q6.trans (hb.mono q6.size)⟩)
    (fun w1 hw1 i x sv W hx hk hst hsv hok => takenFW x sv hs0 hel hx hst hsv hok))
  have HS0 := Lib.hid hs0
  clear h hlen r0 r1 hb0 hs0
  go_enter Tryd.func24, Tryd.ntmps24
  go_upto_region 2 with fail
  rw [← hw0]
  clear hw0
  go_wp2_with fail
  refine EW.out.mono ?_
  rintro e w1 ⟨rfl, K, k, hsp, vo, q1, q2, q3, q4, q5, q6⟩
  have htk := tkn_stop hsp
  rw [htk] at q3
  obtain ⟨A, c, hvo⟩ := q3.form
  subst hvo
  have z0 : w1.cell? ⟨w.heap.size + 1, 0, none⟩ = some (.slice A (tkn (eligA G) n).length c) := cell_of_row _ _ 0 _ _ _ q1
  have HR := Lib.hid (show RSl (fun b => w.heap.size ≤ b) w1 2 (EAc (fun b => w.heap.size ≤ b) w1) (.slice A (tkn (eligA G) n).length c) (tkn (eligA G) n) from
    (q3.rsl (G := fun b => w.heap.size ≤ b) (fun b hb => by have := (q3.block hb).1; have := HS0.out; show w.heap.size ≤ b; omega)).kp (Kp.refl _ _) (fun _ _ h => h) (fun _ _ hc => EAc.kp hc (Kp.refl _ _) (fun b _ hb => by have := hb.1; have := HS0.out; show w.heap.size ≤ b; omega)))
  have HB := Lib.hid q6
  clear q1 q2 q3 q6 EW hsp htk
  go_wp2
  go_ret
  exact ⟨_, _, rfl, HB.out, HR.out⟩
end Go.Proofs.YtjgigcnjgblekaaDoor

namespace Go.Proofs.YtjgigcnjgblekaaDoor
open Go Go.RowKit Go.Maps Classical

/-- Both agendas hold the same. -/
structure Ply (M : List Nat) (B p mc mf rb N : Nat) (g : Agd) (w : World) : Prop where
  a : AgAt M w p mc mf g N
  b : RfAt M [mc, mf] B w rb g
  ML : ∀ x ∈ M, x < w.heap.size
  BB : B ≤ w.heap.size
section
variable {M : List Nat} {B p mc mf rb N : Nat} {g : Agd} {w w' : World}
theorem Ply.below (h : Ply M B p mc mf rb N g w) (hb : Below w.heap.size w w') : Ply M B p mc mf rb N g w' :=
  ⟨h.a.below hb, h.b.below hb, fun x hx => Nat.lt_of_lt_of_le (h.ML x hx) hb.size, Nat.le_trans h.BB hb.size⟩
theorem Ply.mono {N' : Nat} (h : Ply M B p mc mf rb N g w) (hn : N ≤ N') : Ply M B p mc mf rb N' g w := ⟨h.a.mono hn, h.b, h.ML, h.BB⟩
end
theorem rsl_take {F : Nat → Prop} {w : World} {sz : Nat} {E : List Value → Ac → Prop} {A : Option Addr} {n c k : Nat} {l : List Ac} (h : RSl F w sz E (.slice A n c) l) (hk : k ≤ l.length) : RSl F w sz E (.slice A k c) (l.take k) := by
  obtain ⟨A', c', h1, h2, h3, h5, h4⟩ := h
  simp only [Value.slice.injEq] at h1
  obtain ⟨rfl, rfl, rfl⟩ := h1
  have hl : (l.take k).length = k := by rw [List.length_take, Nat.min_eq_left hk]
  refine ⟨A, c, by rw [hl], by omega, h3, h5, ?_⟩
  rcases h4 with h4 | ⟨b, off, hA, hf, hb, hc⟩
  · exact .inl (by rw [h4]; simp)
  · refine .inr ⟨b, off, hA, hf, hb, fun i x hx => hc i x ?_⟩
    have hi := (List.getElem?_eq_some_iff.1 hx).1
    rw [List.getElem?_take, if_pos (by omega)] at hx
    exact hx
theorem elig_len (g : Agd) : (eligA g).length ≤ g.C.length := by
  unfold eligA
  rw [(sortA_perm _ _).length_eq]
  exact Nat.le_trans (List.length_filter_le _ _) (List.length_filter_le _ _)
/-- Two picks of the same are alike. -/
theorem pck_same {l : List Ac} {n : Int} {x y : Ac} {e f : Int} (h1 : (l = [] ∧ x = ⟨0, []⟩ ∧ e = 50) ∨ (l ≠ [] ∧ l[(idxOf n l.length).toNat]? = some x ∧ e = 0)) (h2 : (l = [] ∧ y = ⟨0, []⟩ ∧ f = 50) ∨ (l ≠ [] ∧ l[(idxOf n l.length).toNat]? = some y ∧ f = 0)) : x = y ∧ e = f := by
  rcases h1 with ⟨a1, a2, a3⟩ | ⟨a1, a2, a3⟩ <;> rcases h2 with ⟨b1, b2, b3⟩ | ⟨b1, b2, b3⟩
  · exact ⟨a2.trans b2.symm, a3.trans b3.symm⟩
  · exact absurd a1 b1
  · exact absurd b1 a1
  · rw [a2] at b2
    exact ⟨Option.some.inj b2, a3.trans b3.symm⟩
set_option maxRecDepth 100000 in
set_option maxHeartbeats 8000000 in
theorem asksW {M : List Nat} {B p mc mf rb N : Nat} {G : Agd} (kind r n : Int) (A1 A2 : Option Addr) (n1 c1 n2 c2 : Nat) (w : World) (h : Ply M B p mc mf rb N G w) (hC : G.C.length ≤ 40000000) (hD : G.D.length ≤ 40000000) (hn : i64ok n) :
    Calls Tryd.prog 22 #[.pointer (some ⟨p, 0, none⟩), .pointer (some ⟨rb, 0, none⟩), .agg #[.int .i64 kind, .slice A1 n1 c1, .int .i64 r, .slice A2 n2 c2, .int .i64 n]] w fun e w' => e = .returned (.bool true) ∧ Below w.heap.size w w' := by
  obtain ⟨w0, hw0⟩ : ∃ w0, w0 = w.alloc (.cells #[.int .i64 kind, .slice A1 n1 c1, .int .i64 r, .slice A2 n2 c2, .int .i64 n] 50) := ⟨_, rfl⟩
  have hb0 : Below w.heap.size w w0 := by rw [hw0]; exact (Below.refl _ _).alloc (Nat.le_refl _) _
  have r0 : w0.heap[w.heap.size]? = some (.cells #[.int .i64 kind, .slice A1 n1 c1, .int .i64 r, .slice A2 n2 c2, .int .i64 n] 50 (0, 0)) := by rw [hw0]; exact heap_alloc_new w _
  have BX := Lib.hid (fun (W : World) (hW : Below w0.heap.size w0 W) => (cell_of_row _ _ 4 _ _ _ ((hW.block _ (lt_of_heap r0)).trans r0) : W.cell? ⟨w.heap.size, 4, none⟩ = some (.int .i64 n)))
  have x0 : w0.cell? ⟨w.heap.size, 0, none⟩ = some (.int .i64 kind) := cell_of_row _ _ 0 _ _ _ r0
  have HS := Lib.hid (h.below hb0)
  have HB := Lib.hid hb0
  have HC := Lib.hid hC
  have HD := Lib.hid hD
  have HN := Lib.hid hn
  have HEL := Lib.hid (Nat.le_trans (elig_len G) hC)
  have E0 := Lib.hid (Below.refl w0.heap.size w0)
  clear h hb0 r0 hC hD hn
  go_enter Tryd.func22, Tryd.ntmps22
  go_upto_region 1 with fail
  rw [← hw0]
  clear hw0
  by_cases k2 : kind = 2
  · subst k2
    obtain ⟨s, hs⟩ : ∃ s, strA G = s := ⟨_, rfl⟩
    have hss : (s == s) = true := by simp
    have SA := Lib.hid (hs ▸ stratumW w0 HS.out.a : Calls Tryd.prog 12 #[.pointer (some ⟨p, 0, none⟩)] w0 fun e w' => e = .returned (.int .i64 s) ∧ Below w0.heap.size w0 w')
    have SB := Lib.hid (fun (W : World) (hW : Below w0.heap.size w0 W) => (hs ▸ rstratumW W (HS.out.below hW).b HC.out : Calls Tryd.prog 44 #[.pointer (some ⟨rb, 0, none⟩)] W fun e w' => e = .returned (.int .i64 s) ∧ Below W.heap.size W w'))
    clear hs
    go_wp2_with fail
    refine SA.out.mono ?_
    rintro e w1 ⟨rfl, hb1⟩
    have B1 := Lib.hid hb1
    clear hb1 SA x0
    go_wp2_with fail
    refine (SB.out w1 B1.out).mono ?_
    rintro e w2 ⟨rfl, hb2⟩
    have B2 := Lib.hid (HB.out.trans ((B1.out.trans (hb2.mono B1.out.size)).mono HB.out.size))
    clear hb2 SB
    go_wp2
    go_ret
    exact ⟨rfl, B2.out⟩
  have f2 : (kind == 2) = false := beq_false_of_ne k2
  by_cases k3 : kind = 3
  · subst k3
    clear k2 f2
    go_wp2_with fail
    refine (eligibleW w0 HS.out.a HC.out).mono ?_
    intro e w1 hr
    obtain ⟨A3, c3, rfl, hb1, hr1⟩ := hr.rsl
    have B1 := Lib.hid hb1
    have R1 := Lib.hid hr1
    clear hr hb1 hr1 x0
    go_wp2_with fail
    refine (religibleW w1 (HS.out.below B1.out).b HC.out).mono ?_
    intro e w2 hr
    obtain ⟨A4, c4, rfl, hb2, hr2⟩ := hr.rsl
    have R2 := Lib.hid hr2
    have R12 := Lib.hid (EAc.all R1.out (Kp.of_below hb2) (fun _ _ h => h))
    have B2 := Lib.hid (B1.out.trans (hb2.mono B1.out.size))
    clear hr hb2 hr2
    go_wp2_with fail
    refine (actsW _ _ _ w2 R12.out R2.out).mono ?_
    rintro e w3 ⟨rfl, hb3⟩
    have B3 := Lib.hid (HB.out.trans ((B2.out.trans (hb3.mono B2.out.size)).mono HB.out.size))
    clear hb3
    go_wp2
    go_ret
    exact ⟨rfl, B3.out⟩
  have f3 : (kind == 3) = false := beq_false_of_ne k3
  by_cases k4 : kind = 4
  · subst k4
    clear k2 f2 k3 f3
    have x4 := BX.out w0 E0.out
    go_wp2_with fail
    refine (takenW n w0 HS.out.a HC.out HEL.out).mono ?_
    rintro e w1 ⟨A3, c3, rfl, hb1, hr1⟩
    have B1 := Lib.hid hb1
    have R1 := Lib.hid hr1
    clear hb1 hr1 x0 x4
    go_wp2_with fail
    refine (religibleW w1 (HS.out.below B1.out).b HC.out).mono ?_
    intro e w2 hr
    obtain ⟨A4, c4, rfl, hb2, hr2⟩ := hr.rsl
    have R12 := Lib.hid (EAc.all R1.out (Kp.of_below hb2) (fun _ _ h => h))
    have B2 := Lib.hid (B1.out.trans (hb2.mono B1.out.size))
    have x4 := BX.out w2 B2.out
    obtain ⟨l, hle⟩ : ∃ l, eligA G = l := ⟨_, rfl⟩
    have hcap : l.length ≤ c4 ∧ c4 ≤ maxLen := by
      obtain ⟨A', c', e1, e2, e3, _⟩ := hr2
      simp only [Value.slice.injEq] at e1
      rw [← hle]
      exact ⟨by omega, by omega⟩
    rw [hle] at hr2 R12 ⊢
    have R2 := Lib.hid hr2
    unfold maxLen at hcap
    clear hr hb2 hr2 hle
    by_cases hn1 : 0 < n
    · by_cases hn2 : n < (l.length : Int)
      · obtain ⟨k, rfl⟩ : ∃ k : Nat, n = (k : Int) := ⟨n.toNat, by omega⟩
        have htk : tkn l (k : Int) = l.take k := by unfold tkn; rw [if_pos ⟨hn1, hn2⟩]; simp
        have hl4 : (l.take k).length = k := by rw [List.length_take, Nat.min_eq_left (by omega)]
        rw [htk] at R12 ⊢
        rw [hl4] at R12 ⊢
        have R3 := Lib.hid (rsl_take R2.out (show k ≤ l.length by omega))
        clear htk hl4
        go_wp2_with fail
        refine (actsW _ _ _ w2 R12.out R3.out).mono ?_
        rintro e w3 ⟨rfl, hb3⟩
        have B3 := Lib.hid (HB.out.trans ((B2.out.trans (hb3.mono B2.out.size)).mono HB.out.size))
        clear hb3
        go_wp2
        go_ret
        exact ⟨rfl, B3.out⟩
      · have htk : tkn l n = l := by unfold tkn; rw [if_neg (fun h => hn2 h.2)]
        rw [htk] at R12 ⊢
        clear htk
        go_wp2_with fail
        refine (actsW _ _ _ w2 R12.out R2.out).mono ?_
        rintro e w3 ⟨rfl, hb3⟩
        have B3 := Lib.hid (HB.out.trans ((B2.out.trans (hb3.mono B2.out.size)).mono HB.out.size))
        clear hb3
        go_wp2
        go_ret
        exact ⟨rfl, B3.out⟩
    · have htk : tkn l n = l := by unfold tkn; rw [if_neg (fun h => hn1 h.1)]
      rw [htk] at R12 ⊢
      clear htk
      go_wp2_with fail
      refine (actsW _ _ _ w2 R12.out R2.out).mono ?_
      rintro e w3 ⟨rfl, hb3⟩
      have B3 := Lib.hid (HB.out.trans ((B2.out.trans (hb3.mono B2.out.size)).mono HB.out.size))
      clear hb3
      go_wp2
      go_ret
      exact ⟨rfl, B3.out⟩
  have f4 : (kind == 4) = false := beq_false_of_ne k4
  by_cases k5 : kind = 5
  · subst k5
    clear k2 f2 k3 f3 k4 f4
    go_wp2_with fail
    refine (conflictW w0 HS.out.a HC.out).mono ?_
    intro e w1 hr
    obtain ⟨A3, c3, rfl, hb1, hr1⟩ := hr.rsl
    have B1 := Lib.hid hb1
    have R1 := Lib.hid hr1
    clear hr hb1 hr1 x0
    go_wp2_with fail
    refine (rconflictW w1 (HS.out.below B1.out).b HC.out).mono ?_
    intro e w2 hr
    obtain ⟨A4, c4, rfl, hb2, hr2⟩ := hr.rsl
    have R2 := Lib.hid hr2
    have R12 := Lib.hid (EAc.all R1.out (Kp.of_below hb2) (fun _ _ h => h))
    have B2 := Lib.hid (B1.out.trans (hb2.mono B1.out.size))
    clear hr hb2 hr2
    go_wp2_with fail
    refine (actsW _ _ _ w2 R12.out R2.out).mono ?_
    rintro e w3 ⟨rfl, hb3⟩
    have B3 := Lib.hid (HB.out.trans ((B2.out.trans (hb3.mono B2.out.size)).mono HB.out.size))
    clear hb3
    go_wp2
    go_ret
    exact ⟨rfl, B3.out⟩
  have f5 : (kind == 5) = false := beq_false_of_ne k5
  by_cases k8 : kind = 8
  · subst k8
    clear k2 f2 k3 f3 k4 f4 k5 f5
    go_wp2_with fail
    refine (firedW w0 HS.out.a HD.out).mono ?_
    intro e w1 hr
    obtain ⟨A3, c3, rfl, hb1, hr1⟩ := hr.rsl
    have B1 := Lib.hid hb1
    have R1 := Lib.hid hr1
    clear hr hb1 hr1 x0
    go_wp2_with fail
    refine (rfiredW w1 (HS.out.below B1.out).b HD.out).mono ?_
    intro e w2 hr
    obtain ⟨A4, c4, rfl, hb2, hr2⟩ := hr.rsl
    have R2 := Lib.hid hr2
    have R12 := Lib.hid (EAc.all R1.out (Kp.of_below hb2) (fun _ _ h => h))
    have B2 := Lib.hid (B1.out.trans (hb2.mono B1.out.size))
    clear hr hb2 hr2
    go_wp2_with fail
    refine (actsW _ _ _ w2 R12.out R2.out).mono ?_
    rintro e w3 ⟨rfl, hb3⟩
    have B3 := Lib.hid (HB.out.trans ((B2.out.trans (hb3.mono B2.out.size)).mono HB.out.size))
    clear hb3
    go_wp2
    go_ret
    exact ⟨rfl, B3.out⟩
  have f8 : (kind == 8) = false := beq_false_of_ne k8
  have x4 := BX.out w0 E0.out
  clear k2 k3 k4 k5 k8
  go_wp2_with fail
  refine (pickW n HN.out w0 HS.out.a HC.out).mono ?_
  rintro e w1 ⟨x, sv, er, rfl, hsv, hb1, hcase⟩
  obtain ⟨A3, c3, rfl⟩ := hsv.form
  obtain ⟨w2, hw2⟩ : ∃ w2, w2 = w1.alloc (.cells #[.int .i64 x.rule, .slice A3 x.sub.length c3] 30) := ⟨_, rfl⟩
  have hb2 : Below w1.heap.size w1 w2 := by rw [hw2]; exact (Below.refl _ _).alloc (Nat.le_refl _) _
  have r2 : w2.heap[w1.heap.size]? = some (.cells #[.int .i64 x.rule, .slice A3 x.sub.length c3] 30 (0, 0)) := by rw [hw2]; exact heap_alloc_new w1 _
  have B2 := Lib.hid (hb1.trans (hb2.mono hb1.size))
  have V2 := Lib.hid (hsv.keep (Kp.of_below hb2))
  have x4 := BX.out w2 B2.out
  have RB := Lib.hid (rpickW n HN.out w2 (HS.out.below B2.out).b HC.out)
  have R2 := Lib.hid r2
  have HCA := Lib.hid hcase
  clear hsv hb1 hb2 r2 hcase x0
  go_upto_region 23 with fail
  rw [← hw2]
  clear hw2
  go_wp2_with fail
  refine RB.out.mono ?_
  rintro e w3 ⟨y, sv4, er4, rfl, hsv4, hb3, hcase4⟩
  obtain ⟨hxy, hef⟩ := pck_same HCA.out hcase4
  subst hxy hef
  obtain ⟨A4, c4, rfl⟩ := hsv4.form
  obtain ⟨w4, hw4⟩ : ∃ w4, w4 = w3.alloc (.cells #[.int .i64 x.rule, .slice A4 x.sub.length c4] 30) := ⟨_, rfl⟩
  have hb4 : Below w3.heap.size w3 w4 := by rw [hw4]; exact (Below.refl _ _).alloc (Nat.le_refl _) _
  have r4 : w4.heap[w3.heap.size]? = some (.cells #[.int .i64 x.rule, .slice A4 x.sub.length c4] 30 (0, 0)) := by rw [hw4]; exact heap_alloc_new w3 _
  have r24 := ((hb3.trans (hb4.mono hb3.size)).block _ (lt_of_heap R2.out)).trans R2.out
  have B4 := Lib.hid (B2.out.trans ((hb3.trans (hb4.mono hb3.size)).mono B2.out.size))
  have y0 : w4.cell? ⟨w1.heap.size, 0, none⟩ = some (.int .i64 x.rule) := cell_of_row _ _ 0 _ _ _ r24
  have y1 : w4.cell? ⟨w1.heap.size, 1, none⟩ = some (.slice A3 x.sub.length c3) := cell_of_row _ _ 1 _ _ _ r24
  have y2 : w4.cell? ⟨w3.heap.size, 0, none⟩ = some (.int .i64 x.rule) := cell_of_row _ _ 0 _ _ _ r4
  have y3 : w4.cell? ⟨w3.heap.size, 1, none⟩ = some (.slice A4 x.sub.length c4) := cell_of_row _ _ 1 _ _ _ r4
  have SM := Lib.hid (sameW x (.slice A3 x.sub.length c3) (.slice A4 x.sub.length c4) w4 (V2.out.keep (Kp.of_below (hb3.trans (hb4.mono hb3.size)))) (hsv4.keep (Kp.of_below hb4)))
  have hee : (er == er) = true := by simp
  clear hsv4 hb3 hb4 r4 r24 hcase4 x4 RB
  go_upto_region 24 with fail
  rw [← hw4]
  clear hw4
  go_wp2_with fail
  refine SM.out.mono ?_
  rintro e w5 ⟨rfl, hb5⟩
  have B5 := Lib.hid (HB.out.trans ((B4.out.trans (hb5.mono B4.out.size)).mono HB.out.size))
  clear hb5 SM y0 y1 y2 y3
  go_wp2
  go_ret
  exact ⟨rfl, B5.out⟩
end Go.Proofs.YtjgigcnjgblekaaDoor
