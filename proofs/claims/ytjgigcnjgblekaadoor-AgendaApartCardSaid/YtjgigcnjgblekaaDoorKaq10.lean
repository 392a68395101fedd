/- compareIDs, CompareFunc, compare: the order of acts, as the sort calls it. CompareFunc, compare: the order of acts, as the sort calls it. compare: the order of acts, as the sort calls it. -/
import Derived.Test.YtjgigcnjgblekaaDoorKaq08
import Derived.Test.YtjgigcnjgblekaaDoorKaq09
import Derived.Deep.RegionHeld3
import Derived.Sort.Grow
namespace Go.Proofs.YtjgigcnjgblekaaDoor
open Go Go.RowKit Go.Sort Classical

/-- Blocks laid behind and draws, nothing else. -/
def GrowD (w w' : World) : Prop := ∃ q os, w' = grow (w.drewN q) os
theorem GrowD.refl (w : World) : GrowD w w := ⟨0, #[], by simp [World.drewN]⟩
theorem GrowD.alloc {w w' : World} (h : GrowD w w') (o : Obj) : GrowD w (w'.alloc o) := by
  obtain ⟨q, os, rfl⟩ := h
  exact ⟨q, os ++ #[o], by rw [alloc_eq_grow, grow_grow]⟩
theorem GrowD.drew {w w' : World} (h : GrowD w w') : GrowD w w'.drew := by
  obtain ⟨q, os, rfl⟩ := h
  exact ⟨q + 1, os, rfl⟩
theorem GrowD.drewN {w w' : World} (h : GrowD w w') (n : Nat) : GrowD w (w'.drewN n) := by
  obtain ⟨q, os, rfl⟩ := h
  exact ⟨q + n, os, by rw [show (grow (w.drewN q) os).drewN n = grow ((w.drewN q).drewN n) os from rfl, World.drewN_drewN]⟩
theorem GrowD.trans {a b c : World} (h : GrowD a b) (k : GrowD b c) : GrowD a c := by
  obtain ⟨q, os, rfl⟩ := h
  obtain ⟨r, os', rfl⟩ := k
  refine ⟨q + r, os ++ os', ?_⟩
  rw [show (grow (a.drewN q) os).drewN r = grow ((a.drewN q).drewN r) os from rfl, World.drewN_drewN, grow_grow]
theorem GrowD.below {w w' : World} (h : GrowD w w') : Below w.heap.size w w' := by
  obtain ⟨q, os, rfl⟩ := h
  exact ⟨rfl, rfl, rfl, by simp [grow], fun j hj => heap_grow_old (w.drewN q) os hj⟩
theorem GrowD.cell {w w' : World} (h : GrowD w w') {a : Addr} (ha : a.block < w.heap.size) : w'.cell? a = w.cell? a := h.below.cell ha

set_option maxRecDepth 100000 in
/-- Compare, and what it leaves. -/
theorem cmp_g (a b : Cst) (w : World) :
    Calls Tryd.prog 89 #[.agg #[.int .i64 a.k, .int .i64 a.n, .string a.s], .agg #[.int .i64 b.k, .int .i64 b.n, .string b.s]] w fun e w' => e = .returned (.int .i64 (cmpC a b)) ∧ GrowD w w' := by
  obtain ⟨ak, an, ax⟩ := a
  obtain ⟨bk, bn, bx⟩ := b
  unfold cmpC
  obtain ⟨x1, h1⟩ : ∃ x1, x1 = cmpI ak bk := ⟨_, rfl⟩
  obtain ⟨x2, h2⟩ : ∃ x2, x2 = cmpI an bn := ⟨_, rfl⟩
  obtain ⟨x3, h3⟩ : ∃ x3, x3 = cmpL ax.toList bx.toList := ⟨_, rfl⟩
  have c1 := fun W => cmp_int ak bk W
  have c2 := fun W => cmp_int64 an bn W
  have c3 := fun W => cmp_str ax bx W
  show Calls _ _ _ _ fun e w' => e = .returned (.int .i64 (firstNz [cmpI ak bk, cmpI an bn, cmpL ax.toList bx.toList])) ∧ GrowD w w'
  rw [← h1, ← h2, ← h3]
  simp only [← h1, ← h2, ← h3] at c1 c2 c3
  have C1 := Lib.hid c1; have C2 := Lib.hid c2; have C3 := Lib.hid c3
  clear h1 h2 h3 c1 c2 c3
  go_enter Tryd.func89, Tryd.ntmps89
  go_wp2
  go_region_held3 (fun w' => w'.cell? ⟨w.heap.size, 0, none⟩ = some (.int .i64 ak) ∧ w'.cell? ⟨w.heap.size, 1, none⟩ = some (.int .i64 an) ∧ w'.cell? ⟨w.heap.size, 2, none⟩ = some (.string ax) ∧
      w'.cell? ⟨w.heap.size + 1, 0, none⟩ = some (.int .i64 bk) ∧ w'.cell? ⟨w.heap.size + 1, 1, none⟩ = some (.int .i64 bn) ∧ w'.cell? ⟨w.heap.size + 1, 2, none⟩ = some (.string bx)) (go_keep)
    (first | (go_at_call 71; refine (C1.out _).mono ?_; rintro e w' ⟨rfl, rfl⟩) | (go_at_call 97; refine (C2.out _).mono ?_; rintro e w' ⟨rfl, rfl⟩) | (go_at_call 98; refine (C3.out _).mono ?_; rintro e w' ⟨rfl, rfl⟩) | (go_at_call 70; refine (or_int _ 0 3 _ [x1, x2, x3] _ rfl (by decide) ?_).mono ?_; exact three_ints _ _ (by simp) x1 x2 x3 _; rintro e w' ⟨rfl, rfl⟩))
  go_wp2
  go_ret
  refine ⟨rfl, ?_⟩
  repeat (first | exact GrowD.refl _ | refine GrowD.drew ?_ | refine GrowD.alloc ?_ _)

theorem two_ints (w : World) (H : Nat) (hH : w.heap.size = H) (x1 x2 : Int) (t : TypeId) (k : Nat) (hk : k < 2) :
    ((w.alloc (.cells #[.int .i64 x1, .int .i64 x2] t)).drew).cell? ⟨H, 0 + k, none⟩ = some (.int .i64 ([x1, x2].getD k 0)) := by
  subst hH
  rcases k with _ | _ | k
  · simp
  · simp
  · omega
theorem first_two (x y : Int) : firstNz [x, y] = if x = 0 then y else x := by
  by_cases h : x = 0 <;> by_cases h2 : y = 0 <;> simp [firstNz, h, h2]

set_option maxRecDepth 100000 in
set_option maxHeartbeats 4000000 in
theorem compareIDsW {F : Nat → Prop} (w : World) (p c : Nat) (A : Option Addr) (cs : List Cst) (x y : Int) (hp : w.cell? ⟨p, 1, none⟩ = some (.slice A cs.length c)) (hpl : p < w.heap.size) (hc : RSl F w 3 ECst (.slice A cs.length c) cs)
    (hx : 0 ≤ x ∧ x < (cs.length : Int)) (hy : 0 ≤ y ∧ y < (cs.length : Int)) :
    Calls Tryd.prog 73 #[.pointer (some ⟨p, 0, none⟩), .int .i64 x, .int .i64 y] w fun e w' => e = .returned (.int .i64 (cmpId cs x y)) ∧ GrowD w w' := by
  have gx : cs[x.toNat]? = some (cs.getD x.toNat default) := by rw [List.getD_eq_getElem?_getD, List.getElem?_eq_getElem (by omega)]; rfl
  have gy : cs[y.toNat]? = some (cs.getD y.toNat default) := by rw [List.getD_eq_getElem?_getD, List.getElem?_eq_getElem (by omega)]; rfl
  obtain ⟨b, off, rfl, _, hb, ds, rfl, hd⟩ := hc.at gx
  obtain ⟨b', off', e1, _, _, ds', rfl, hd'⟩ := hc.at gy
  simp only [Option.some.injEq, Addr.mk.injEq, and_true] at e1
  obtain ⟨rfl, rfl⟩ := e1
  unfold cmpId
  obtain ⟨X, hX⟩ : ∃ X, cs.getD x.toNat default = X := ⟨_, rfl⟩
  obtain ⟨Y, hY⟩ : ∃ Y, cs.getD y.toNat default = Y := ⟨_, rfl⟩
  rw [hX, hY]
  rw [hX] at hd
  rw [hY] at hd'
  have ex : x = (x.toNat : Int) := by omega
  have ey : y = (y.toNat : Int) := by omega
  obtain ⟨i, hi⟩ : ∃ i, x.toNat = i := ⟨_, rfl⟩
  obtain ⟨j, hj⟩ : ∃ j, y.toNat = j := ⟨_, rfl⟩
  rw [hi] at ex hd
  rw [hj] at ey hd'
  subst ex ey
  have x0 := hd 0 _ rfl
  have x1 := hd 1 _ rfl
  have x2 := hd 2 _ rfl
  have y0 := hd' 0 _ rfl
  have y1 := hd' 1 _ rfl
  have y2 := hd' 2 _ rfl
  simp only [Nat.add_zero] at x0 y0
  obtain ⟨u1, hu1⟩ : ∃ u, cmpC X Y = u := ⟨_, rfl⟩
  obtain ⟨u2, hu2⟩ : ∃ u, cmpI (i : Int) (j : Int) = u := ⟨_, rfl⟩
  rw [hu1, hu2]
  have C1 := Lib.hid (fun W => hu1 ▸ cmp_g X Y W)
  have C2 := Lib.hid (fun W => hu2 ▸ cmp_int (i : Int) (j : Int) W)
  obtain ⟨hx1, hx2⟩ := hx
  obtain ⟨hy1, hy2⟩ := hy
  have G0 := Lib.hid (GrowD.refl w)
  have ft := first_two u1 u2
  obtain ⟨R, hR⟩ : ∃ R, (if u1 = 0 then u2 else u1) = R := ⟨_, rfl⟩
  rw [hR] at ft ⊢
  have FT := Lib.hid ft
  clear ft hR
  have hcx : ∀ j (W : World), GrowD w W → W.cell? ⟨b, j, none⟩ = w.cell? ⟨b, j, none⟩ := fun j W h => h.cell (a := ⟨b, j, none⟩) hb
  have SC := Lib.hid (fun (W : World) (h : GrowD w W) => (show W.cell? ⟨p, 1, none⟩ = some (.slice (some ⟨b, off, none⟩) cs.length c) ∧ W.cell? ⟨b, off + i * 3, none⟩ = some (.int .i64 X.k) ∧ W.cell? ⟨b, off + i * 3 + 1, none⟩ = some (.int .i64 X.n) ∧ W.cell? ⟨b, off + i * 3 + 2, none⟩ = some (.string X.s) ∧
      W.cell? ⟨b, off + j * 3, none⟩ = some (.int .i64 Y.k) ∧ W.cell? ⟨b, off + j * 3 + 1, none⟩ = some (.int .i64 Y.n) ∧ W.cell? ⟨b, off + j * 3 + 2, none⟩ = some (.string Y.s) from
    ⟨(h.cell (a := ⟨p, 1, none⟩) hpl).trans hp, (hcx _ W h).trans x0, (hcx _ W h).trans x1, (hcx _ W h).trans x2, (hcx _ W h).trans y0, (hcx _ W h).trans y1, (hcx _ W h).trans y2⟩))
  have D0 : GrowD w w.drew := (GrowD.refl w).drew
  clear gx gy hc hd hd' hX hY hi hj hu1 hu2 hp x0 x1 x2 y0 y1 y2 hcx
  go_enter Tryd.func73, Tryd.ntmps73
  go_upto_region 1 with fail
  go_region_held3 (fun W : World => W.cell? ⟨p, 1, none⟩ = some (.slice (some ⟨b, off, none⟩) cs.length c) ∧ W.cell? ⟨b, off + i * 3, none⟩ = some (.int .i64 X.k) ∧ W.cell? ⟨b, off + i * 3 + 1, none⟩ = some (.int .i64 X.n) ∧ W.cell? ⟨b, off + i * 3 + 2, none⟩ = some (.string X.s) ∧
      W.cell? ⟨b, off + j * 3, none⟩ = some (.int .i64 Y.k) ∧ W.cell? ⟨b, off + j * 3 + 1, none⟩ = some (.int .i64 Y.n) ∧ W.cell? ⟨b, off + j * 3 + 2, none⟩ = some (.string Y.s))
    (first | with_reducible exact SC.out _ D0 | with_reducible exact SC.out _ G1 | go_keep)
    (first
      | (go_at_call 89; refine (C1.out _).mono ?_; rintro e w' ⟨rfl, hg⟩; have G1 := GrowD.trans D0 hg; clear hg)
      | (go_at_call 71; refine (C2.out _).mono ?_; rintro e w' ⟨rfl, rfl⟩)
      | (go_at_call 70; refine (or_int _ 0 2 _ [u1, u2] _ rfl (by decide) ?_).mono ?_; exact two_ints _ _ (by simp) u1 u2 _; rintro e w' ⟨rfl, rfl⟩))
  all_goals
    go_wp2
    go_ret
    refine ⟨ret_i64A FT.out, ?_⟩
    repeat (first | exact GrowD.refl _ | exact G1 | refine GrowD.drew ?_ | refine GrowD.alloc ?_ _)
end Go.Proofs.YtjgigcnjgblekaaDoor

namespace Go.Proofs.YtjgigcnjgblekaaDoor
open Go Go.RowKit Go.Sort Classical

theorem cmpLx_step {α : Type} (c : α → α → Int) : ∀ {l m : List α} {k : Nat} {x y : α}, l[k]? = some x → m[k]? = some y → (∀ (j : Nat) (a b : α), j < k → l[j]? = some a → m[j]? = some b → c a b = 0) → cmpLx c l m = (if c x y = 0 then cmpLx c (l.drop (k + 1)) (m.drop (k + 1)) else c x y)
  | [], _, _, _, _, h, _, _ => by simp at h
  | _ :: _, [], _, _, _, _, h, _ => by simp at h
  | a :: l, b :: m, 0, x, y, h1, h2, _ => by
    simp only [List.getElem?_cons_zero, Option.some.injEq] at h1 h2
    subst h1 h2
    rfl
  | a :: l, b :: m, k + 1, x, y, h1, h2, h3 => by
    have h0 := h3 0 a b (by omega) rfl rfl
    rw [cmpLx, if_pos h0]
    rw [cmpLx_step c (l := l) (m := m) (k := k) (by simpa using h1) (by simpa using h2) (fun j u v hj hu hv => h3 (j + 1) u v (by omega) (by simpa using hu) (by simpa using hv))]
    rfl
theorem cmpLx_end {α : Type} (c : α → α → Int) : ∀ {l m : List α}, (∀ (j : Nat) (a b : α), l[j]? = some a → m[j]? = some b → c a b = 0) → cmpLx c l m = if l.length < m.length then -1 else if m.length < l.length then 1 else 0
  | [], [], _ => rfl
  | [], _ :: _, _ => by simp [cmpLx]
  | _ :: _, [], _ => by simp [cmpLx]
  | a :: l, b :: m, h => by
    have h0 := h 0 a b rfl rfl
    rw [cmpLx, if_pos h0, cmpLx_end c (l := l) (m := m) (fun j u v hu hv => h (j + 1) u v (by simpa using hu) (by simpa using hv))]
    simp only [List.length_cons, Nat.add_lt_add_iff_right]

set_option maxRecDepth 100000 in
set_option maxHeartbeats 4000000 in
theorem compareFuncW {F : Nat → Prop} (w : World) (p c : Nat) (A : Option Addr) (cs : List Cst) (v1 v2 : Value) (l m : List Int) (hp : w.cell? ⟨p, 1, none⟩ = some (.slice A cs.length c)) (hpl : p < w.heap.size) (hc : RSl F w 3 ECst (.slice A cs.length c) cs)
    (h1 : RSl F w 1 EInt v1 l) (h2 : RSl F w 1 EInt v2 m) (hl : ∀ i ∈ l, 0 ≤ i ∧ i < (cs.length : Int)) (hm : ∀ i ∈ m, 0 ≤ i ∧ i < (cs.length : Int)) :
    Calls Tryd.prog 72 #[v1, v2, .func (.func 73) #[.pointer (some ⟨p, 0, none⟩)] #[]] w fun e w' => e = .returned (.int .i64 (cmpLx (cmpId cs) l m)) ∧ GrowD w w' := by
  obtain ⟨A1, c1, rfl⟩ := h1.form
  obtain ⟨A2, c2, rfl⟩ := h2.form
  have m1 := h1.len
  have m2 := h2.len
  unfold maxLen at m1 m2
  have HC := Lib.hid (fun (W : World) (hW : GrowD w W) (x y : Int) (hx : x ∈ l) (hy : y ∈ m) => compareIDsW (F := F) W p c A cs x y ((hW.cell (a := ⟨p, 1, none⟩) hpl).trans hp) (Nat.lt_of_lt_of_le hpl hW.below.size) (hc.keep (Kp.of_below hW.below)) (hl x hx) (hm y hy))
  have H1 := Lib.hid (fun (W : World) (hW : GrowD w W) => h1.keep (Kp.of_below (F := F) hW.below))
  have H2 := Lib.hid (fun (W : World) (hW : GrowD w W) => h2.keep (Kp.of_below (F := F) hW.below))
  clear hp hc h1 h2 hl hm
  go_enter Tryd.func72, Tryd.ntmps72
  go_wp2
  go_loopw [13] (fun i wr => ∃ k : Nat, i = .int .i64 k ∧ k ≤ l.length ∧ k ≤ m.length ∧ (∀ j a b, j < k → l[j]? = some a → m[j]? = some b → cmpId cs a b = 0) ∧ GrowD w wr) (fun i _ => l.length - (intOf i).toNat)
  case atStart => exact ⟨0, rfl, Nat.zero_le _, Nat.zero_le _, fun j a b hj => by omega, GrowD.refl _⟩
  case round =>
    obtain ⟨k, rfl, hk, hk2, hz, hb⟩ := hrel
    by_cases hkn : k < l.length
    · obtain ⟨x, hx⟩ : ∃ x, l[k]? = some x := ⟨_, List.getElem?_eq_getElem hkn⟩
      obtain ⟨b, off, rfl, _, _, ds, ⟨rfl, xok⟩, hd⟩ := (H1.out wr hb).at hx
      have d0 := hd 0 _ rfl
      simp only [Nat.add_zero, Nat.mul_one] at d0
      have e1 : (0 : Int) ≤ (k : Int) := by omega
      have e2 : (k : Int) < (l.length : Int) := by omega
      by_cases hkm : k < m.length
      · obtain ⟨y, hy⟩ : ∃ y, m[k]? = some y := ⟨_, List.getElem?_eq_getElem hkm⟩
        obtain ⟨b2, off2, rfl, _, _, ds2, ⟨rfl, yok⟩, hd2⟩ := (H2.out wr hb).at hy
        have f0 := hd2 0 _ rfl
        simp only [Nat.add_zero, Nat.mul_one] at f0
        have e3 : (k : Int) < (m.length : Int) := by omega
        have C := Lib.hid (HC.out wr hb x y (List.mem_of_getElem? hx) (List.mem_of_getElem? hy))
        have ST := cmpLx_step (cmpId cs) hx hy hz
        have HB := Lib.hid hb
        have HK := Lib.hid (And.intro hkn hkm)
        obtain ⟨u, hu⟩ : ∃ u, cmpId cs x y = u := ⟨_, rfl⟩
        rw [hu] at C ST
        by_cases h0 : u = 0
        · have HZ := Lib.hid (show ∀ j a b, j < k + 1 → l[j]? = some a → m[j]? = some b → cmpId cs a b = 0 from fun j a b hj ha hb' => by
            by_cases e : j = k
            · subst e
              rw [hx] at ha
              rw [hy] at hb'
              rw [← Option.some.inj ha, ← Option.some.inj hb', hu, h0]
            · exact hz j a b (by omega) ha hb')
          subst h0
          clear hd hd2 hx hy hz hb hkn hkm ST hu
          go_wp2_with (go_at_call 73; refine C.out.mono ?_; rintro e w' ⟨rfl, hb2⟩; have HB2 := Lib.hid hb2; clear hb2)
          exact ⟨⟨k + 1, by go_num, HK.out.1, HK.out.2, HZ.out, HB.out.trans HB2.out⟩, by simp [intOf]; have := HK.out.1; omega⟩
        · rw [if_neg h0] at ST
          have HS := Lib.hid ST
          clear hd hd2 hx hy hz hb hkn hkm ST hu
          go_wp2_with (go_at_call 73; refine C.out.mono ?_; rintro e w' ⟨rfl, hb2⟩; have HB2 := Lib.hid hb2; clear hb2)
          go_ret
          exact ⟨ret_i64A HS.out.symm, HB.out.trans HB2.out⟩
      · obtain rfl : k = m.length := by omega
        have HS := Lib.hid (show cmpLx (cmpId cs) l m = 1 by
          rw [cmpLx_end (cmpId cs) (fun j a b ha hb' => hz j a b (List.getElem?_eq_some_iff.1 hb').1 ha hb'), if_neg (by omega), if_pos hkn])
        have HB := Lib.hid hb
        clear hd hx hz hb hkm
        go_wp2
        go_ret
        exact ⟨ret_i64A HS.out.symm, HB.out⟩
    · obtain rfl : k = l.length := by omega
      have HB := Lib.hid hb
      have HE := Lib.hid (cmpLx_end (cmpId cs) (fun j a b ha hb' => hz j a b (List.getElem?_eq_some_iff.1 ha).1 ha hb'))
      clear hz hb
      by_cases hlm : l.length < m.length
      · have HS := Lib.hid (show cmpLx (cmpId cs) l m = -1 by rw [HE.out, if_pos hlm])
        have e4 : (l.length : Int) < (m.length : Int) := by omega
        clear HE
        go_wp2
        go_ret
        exact ⟨ret_i64A HS.out.symm, HB.out⟩
      · have HS := Lib.hid (show cmpLx (cmpId cs) l m = 0 by rw [HE.out, if_neg hlm, if_neg (by omega)])
        have e4 : ¬ (l.length : Int) < (m.length : Int) := by omega
        clear HE
        go_wp2
        go_ret
        exact ⟨ret_i64A HS.out.symm, HB.out⟩
end Go.Proofs.YtjgigcnjgblekaaDoor

namespace Go.Proofs.YtjgigcnjgblekaaDoor
open Go Go.RowKit Go.Sort Classical

set_option maxRecDepth 100000 in
set_option maxHeartbeats 4000000 in
theorem compareW {F : Nat → Prop} (w : World) (p c : Nat) (A : Option Addr) (cs : List Cst) (v1 v2 : Value) (a b : Ac) (hp : w.cell? ⟨p, 1, none⟩ = some (.slice A cs.length c)) (hpl : p < w.heap.size) (hc : RSl F w 3 ECst (.slice A cs.length c) cs)
    (h1 : RSl F w 1 EInt v1 a.sub) (h2 : RSl F w 1 EInt v2 b.sub) (hl : ∀ i ∈ a.sub, 0 ≤ i ∧ i < (cs.length : Int)) (hm : ∀ i ∈ b.sub, 0 ≤ i ∧ i < (cs.length : Int)) :
    Calls Tryd.prog 57 #[.pointer (some ⟨p, 0, none⟩), .agg #[.int .i64 a.rule, v1], .agg #[.int .i64 b.rule, v2]] w fun e w' => e = .returned (.int .i64 (cmpA cs a b)) ∧ GrowD w w' := by
  obtain ⟨A1, c1, rfl⟩ := h1.form
  obtain ⟨A2, c2, rfl⟩ := h2.form
  obtain ⟨w0, hw0⟩ : ∃ w0, w0 = (w.alloc (.cells #[.int .i64 a.rule, .slice A1 a.sub.length c1] 30)).alloc (.cells #[.int .i64 b.rule, .slice A2 b.sub.length c2] 30) := ⟨_, rfl⟩
  have hg0 : GrowD w w0 := by rw [hw0]; exact ((GrowD.refl w).alloc _).alloc _
  have hx0 : Below (w.heap.size + 1) (w.alloc (.cells #[.int .i64 a.rule, .slice A1 a.sub.length c1] 30)) w0 := by rw [hw0]; exact (Below.refl _ _).alloc (by simp) _
  have hsz0 : w0.heap.size = w.heap.size + 1 + 1 := by rw [hw0]; simp
  have y0 : w0.cell? ⟨w.heap.size + 1, 0, none⟩ = some (.int .i64 b.rule) := by
    rw [hw0]; simp
  have y1 : w0.cell? ⟨w.heap.size + 1, 1, none⟩ = some (.slice A2 b.sub.length c2) := by
    rw [hw0]; simp
  have x0 := box_cellD hx0 0 rfl
  have x1 := box_cellD hx0 1 rfl
  have SC := Lib.hid (fun (W : World) (h : GrowD w0 W) => (show W.cell? ⟨w.heap.size, 0, none⟩ = some (.int .i64 a.rule) ∧ W.cell? ⟨w.heap.size, 1, none⟩ = some (.slice A1 a.sub.length c1) ∧ W.cell? ⟨w.heap.size + 1, 0, none⟩ = some (.int .i64 b.rule) ∧ W.cell? ⟨w.heap.size + 1, 1, none⟩ = some (.slice A2 b.sub.length c2) from
    ⟨(h.cell (a := ⟨w.heap.size, 0, none⟩) (by show w.heap.size < _; omega)).trans x0, (h.cell (a := ⟨w.heap.size, 1, none⟩) (by show w.heap.size < _; omega)).trans x1, (h.cell (a := ⟨w.heap.size + 1, 0, none⟩) (by show w.heap.size + 1 < _; omega)).trans y0, (h.cell (a := ⟨w.heap.size + 1, 1, none⟩) (by show w.heap.size + 1 < _; omega)).trans y1⟩))
  have D0 : GrowD w0 w0.drew := (GrowD.refl w0).drew
  unfold cmpA
  obtain ⟨u1, hu1⟩ : ∃ u, cmpI a.rule b.rule = u := ⟨_, rfl⟩
  obtain ⟨u2, hu2⟩ : ∃ u, cmpLx (cmpId cs) a.sub b.sub = u := ⟨_, rfl⟩
  have C1 := Lib.hid (fun W => hu1 ▸ cmp_int a.rule b.rule W)
  have C2 := Lib.hid (fun (W : World) (h : GrowD w0 W) => hu2 ▸ compareFuncW (F := F) W p c A cs (.slice A1 a.sub.length c1) (.slice A2 b.sub.length c2) a.sub b.sub (((hg0.trans h).cell (a := ⟨p, 1, none⟩) hpl).trans hp) (Nat.lt_of_lt_of_le hpl (hg0.trans h).below.size) (hc.keep (Kp.of_below (hg0.trans h).below))
    (h1.keep (Kp.of_below (hg0.trans h).below)) (h2.keep (Kp.of_below (hg0.trans h).below)) hl hm)
  rw [hu1, hu2]
  have ft := first_two u1 u2
  obtain ⟨R, hR⟩ : ∃ R, (if u1 = 0 then u2 else u1) = R := ⟨_, rfl⟩
  rw [hR] at ft ⊢
  have FT := Lib.hid ft
  have HG0 := Lib.hid hg0
  clear ft hR hu1 hu2 hp hc h1 h2 hl hm hg0 hx0
  go_enter Tryd.func57, Tryd.ntmps57
  go_upto_region 1 with fail
  rw [← hw0]
  clear hw0
  clear x0 x1 y0 y1
  go_region_held3 (fun w' : World => w'.cell? ⟨w.heap.size, 0, none⟩ = some (.int .i64 a.rule) ∧ w'.cell? ⟨w.heap.size, 1, none⟩ = some (.slice A1 a.sub.length c1) ∧ w'.cell? ⟨w.heap.size + 1, 0, none⟩ = some (.int .i64 b.rule) ∧ w'.cell? ⟨w.heap.size + 1, 1, none⟩ = some (.slice A2 b.sub.length c2))
    (first | with_reducible exact SC.out _ D0 | with_reducible exact SC.out _ G1 | go_keep)
    (first
      | (go_at_call 72; refine (C2.out _ D0).mono ?_; rintro e w' ⟨rfl, hg⟩; have G1 := GrowD.trans D0 hg; clear hg)
      | (go_at_call 71; refine (C1.out _).mono ?_; rintro e w' ⟨rfl, rfl⟩)
      | (go_at_call 70; refine (or_int _ 0 2 _ [u1, u2] _ rfl (by decide) ?_).mono ?_; exact two_ints _ _ (by simp) u1 u2 _; rintro e w' ⟨rfl, rfl⟩))
  all_goals
    go_wp2
    go_ret
    refine ⟨ret_i64A FT.out, GrowD.trans HG0.out ?_⟩
    repeat (first | exact GrowD.refl _ | exact G1 | refine GrowD.drew ?_ | refine GrowD.alloc ?_ _ )
end Go.Proofs.YtjgigcnjgblekaaDoor
