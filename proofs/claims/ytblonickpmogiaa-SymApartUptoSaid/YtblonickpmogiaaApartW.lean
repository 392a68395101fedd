/- The walk of SymApart, first half: the lists of numbers. -/
import Derived.Test.YtblonickpmogiaaApartL
import Derived.Test.YtblonickpmogiaaNumbers
import Derived.Test.YtblonickpmogiaaEndsW
import Derived.Test.YtblonickpmogiaaMade
import Derived.Test.YtblonickpmogiaaApartS
namespace Go.Proofs.Ytblonickpmogiaa
open Go.RowKit Go.Maps Go.Shelf
attribute [local go_sem ↓] Go.wp_at_zero Go.wp_at_succ

theorem sl_take {α : Type} {w : World} {B sz : Nat} {enc : α → List Value} {A : Option Addr} {xs : List α} (h : SlAt w B sz enc A xs) (n : Nat) : SlAt w B sz enc A (xs.take n) := by
  rcases h with rfl | ⟨b, off, hA, hlt, hc⟩
  · exact .inl (by simp)
  · exact .inr ⟨b, off, hA, hlt, fun i x hx => hc i x (by
      rw [List.getElem?_take] at hx
      split at hx
      · exact hx
      · cases hx)⟩

def ci (n : Int) : Cst := ⟨1, n, ⟨#[]⟩⟩
theorem ci_ok {n : Int} (h : 0 ≤ n ∧ n ≤ 100) : (ci n).ok := by
  refine ⟨(show (Lit.int .i64 1).wf = true from by decide), ?_, (show 0 ≤ maxLen from by decide)⟩
  show (Lit.int .i64 n).wf = true
  simp [Lit.wf, IntKind.min, IntKind.max, IntKind.signed, IntKind.bits]
  omega
theorem stC_ci {ks : List Cst} {n : Int} (h : ci n ∉ ks) : stC ks (ci n) = ks ++ [ci n] := stC_new (valid1 n) h
theorem ci_ne {a b : Int} (h : a ≠ b) : ci a ≠ ci b := fun e => h (by have := congrArg Cst.n e; exact this)
/-- The first table's keys begin with 3 and 2. -/
theorem flC_two (xs : List Cst) : 2 ≤ (flC ([ci 3, ci 2] ++ xs)).length := by
  have e : flC ([ci 3, ci 2] ++ xs) = xs.foldl stC [ci 3, ci 2] := by
    unfold flC
    rw [List.foldl_append]
    simp only [List.foldl_cons, List.foldl_nil]
    rw [stC_ci (ks := []) (by simp), List.nil_append, stC_ci (ks := [ci 3]) (by simpa using ci_ne (a := 2) (b := 3) (by decide))]
    rfl
  rw [e]
  exact (foldC_len xs [ci 3, ci 2]).1
theorem flC_three : flC [ci 9, ci 8, ci 7] = [ci 9, ci 8, ci 7] := by
  unfold flC
  simp only [List.foldl_cons, List.foldl_nil]
  rw [stC_ci (ks := []) (by simp), List.nil_append, stC_ci (ks := [ci 9]) (by simpa using ci_ne (a := 8) (b := 9) (by decide)), List.cons_append, List.nil_append, stC_ci (ks := [ci 9, ci 8]) (by simpa using ⟨ci_ne (a := 7) (b := 9) (by decide), ci_ne (a := 7) (b := 8) (by decide)⟩)]
  rfl
theorem ownC_lit (w : World) (xs : List Cst) (cs : Array Value) (h : cs.toList = xs.flatMap Cst.cells) (hm : xs.length ≤ maxLen) : OwnC (w.alloc (.cells cs 27)) w.heap.size (.slice (some ⟨w.heap.size, 0, none⟩) xs.length xs.length) xs := by
  have hl : cs.size = xs.length * 3 := by rw [← Array.length_toList, h, flat_len3]
  have := World.ownsRow_lit (base := w.heap.size) (e := 27) (size := 3) w cs xs.length (Nat.le_refl _) hm hl
  rw [h] at this
  exact this

theorem two_ok : ∀ c ∈ [ci 3, ci 2], c.ok := by
  intro c hc
  simp only [List.mem_cons, List.not_mem_nil, or_false] at hc
  rcases hc with rfl | rfl <;> exact ci_ok (by decide)
theorem three_ok : ∀ c ∈ [ci 9, ci 8, ci 7], c.ok := by
  intro c hc
  simp only [List.mem_cons, List.not_mem_nil, or_false] at hc
  rcases hc with rfl | rfl | rfl <;> exact ci_ok (by decide)

set_option maxRecDepth 100000 in
set_option maxHeartbeats 8000000 in
theorem apartW (A K : Option Addr) (ca kc : Nat) (cs : List Cst) (keys : List ByteArray) (w : World) (hA : SlAt w w.heap.size 3 Cst.cells A cs) (hnA : A = none → ca = 0) (hca : cs.length ≤ ca) (hcm : ca ≤ maxLen) (hok : ∀ c ∈ cs, c.ok) (hlen : cs.length ≤ 1048576)
    (hK : SlAt w w.heap.size 1 strCells K keys) (hnK : K = none → kc = 0) (hkok : ∀ k ∈ keys, k.size ≤ maxLen) (hklen : keys.length ≤ 1048576) :
    Calls Try.prog 12 #[.slice A cs.length ca, .slice K keys.length kc] w fun e w' => e = .returned (.bool true) ∧ Below w.heap.size w w' := by
  obtain ⟨n0, hn0⟩ : ∃ n0, n0 = min cs.length 60000 := ⟨_, rfl⟩
  have hmin : min (cs.length : Int) 60000 = (n0 : Int) := by omega
  have hz0 : (0 : Int) ≤ (n0 : Int) := by omega
  have hz1 : (n0 : Int) ≤ (ca : Int) := by omega
  have htl : (cs.take n0).length = n0 := by rw [List.length_take]; omega
  have hA1 := sl_take hA n0
  obtain ⟨ys, hys⟩ : ∃ ys, ys = cs.take n0 := ⟨_, rfl⟩
  have hyok : ∀ c ∈ ys, c.ok := fun c hc => hok c (List.mem_of_mem_take (hys ▸ hc))
  rw [← hys] at htl hA1
  have B1 : Below w.heap.size w (w.alloc (.cells #[.int .i64 1, .int .i64 3, .string ⟨#[]⟩, .int .i64 1, .int .i64 2, .string ⟨#[]⟩] 27)) := (Below.refl _ _).alloc (Nat.le_refl _) _
  have O1 := ownC_lit w [ci 3, ci 2] #[.int .i64 1, .int .i64 3, .string ⟨#[]⟩, .int .i64 1, .int .i64 2, .string ⟨#[]⟩] rfl (by decide)
  have hA2 := sl_now hA1 B1
  have L60 : n0 ≤ 60000 := by omega
  obtain ⟨xs2, hxs⟩ : ∃ xs2, xs2 = [ci 3, ci 2] ++ ys := ⟨_, rfl⟩
  have hxok : ∀ c ∈ xs2, c.ok := by
    intro c hc
    rw [hxs] at hc
    rcases List.mem_append.1 hc with h | h
    · exact two_ok c h
    · exact hyok c h
  have hxl : xs2.length ≤ 60002 := by rw [hxs, List.length_append, htl]; simp; omega
  have e1 := flC_two ys
  have e2 := flC_len xs2
  rw [← hxs] at e1
  have HXS := Lib.hid hxs
  have HTL := Lib.hid htl
  clear hA hA1 hca hcm hok hlen hys hn0 hxs htl
  go_enter Try.func12, Try.ntmps12
  go_wp2_with (at_builtin; refine wpList_append_sl rfl (.tmp 36) (.tmp 37) rfl w.heap.size (.slice (some ⟨w.heap.size, 0, none⟩) 2 2) [ci 3, ci 2] ys rfl O1 A n0 ca rfl HTL.out.symm hA2 hnA (by rw [HTL.out]; simp; omega) (by simp) ?_; intro v' w2 h1 h2 h3; rw [← HXS.out] at h1; obtain ⟨A2, c2, rfl, _, _, _, _⟩ := own_all h1; have hb2 := B1.trans ((Turns.of_grown h2).below B1.size (fun x hx => (ownBlock_cells O1 (by simpa using hx)).1)); have FW := Lib.hid (filledU A2 c2 xs2 w2 (own_slA h1) hxok (by omega)); have HB2 := Lib.hid hb2; clear h1 h2 h3 hb2)
  refine FW.out.mono ?_
  rintro e w3 ⟨g1, s1, k1, rfl, hx1, nd1, _, hk1, hb3⟩
  rw [← hk1] at e1 e2
  have e3 : k1.length ≤ 60002 := by omega
  have hg2 : (2 : Int) ≤ (k1.length : Int) := by omega
  have O3 := ownC_lit w3 [ci 9, ci 8, ci 7] #[.int .i64 1, .int .i64 9, .string ⟨#[]⟩, .int .i64 1, .int .i64 8, .string ⟨#[]⟩, .int .i64 1, .int .i64 7, .string ⟨#[]⟩] rfl (by decide)
  have B3 : Below w3.heap.size w3 (w3.alloc (.cells #[.int .i64 1, .int .i64 9, .string ⟨#[]⟩, .int .i64 1, .int .i64 8, .string ⟨#[]⟩, .int .i64 1, .int .i64 7, .string ⟨#[]⟩] 27)) := (Below.refl _ _).alloc (Nat.le_refl _) _
  have FW3 := Lib.hid (filledU (some ⟨w3.heap.size, 0, none⟩) 3 _ _ (own_slA O3) (fun c hc => three_ok c hc) (by decide))
  have HB3 := Lib.hid (below_step HB2.out hb3)
  have H1 := Lib.hid (And.intro hx1 nd1)
  have HS3 := Lib.hid hb3.size
  clear hx1 nd1 hk1 e1 e2 hb3 O3 O1 B1 hA2 hyok hxok hxl
  go_wp2_with fail
  refine FW3.out.mono ?_
  rintro e w4 ⟨g2, s2, k2, rfl, hx2, nd2, _, hk2, hb4⟩
  rw [flC_three] at hk2
  subst hk2
  have hb34 := B3.trans (hb4.mono B3.size)
  have TB := Lib.hid (And.intro (H1.out.1.below hb34) (And.intro hx2 (And.intro H1.out.2 (And.intro nd2 (below_step HB3.out hb34)))))
  clear hx2 nd2 hb4 hb34 B3 FW FW3 H1
  go_wp2_with fail
  obtain ⟨l1, hp1, hsd1⟩ := sdIds_is k1
  have hll := ids_len hp1
  have p2 : [2, 1, 0].Perm (List.range [ci 9, ci 8, ci 7].length) := by decide
  have s210 : SdIds [ci 9, ci 8, ci 7] [2, 1, 0] := by
    obtain ⟨l, q1, q2⟩ := sdIds_is [ci 9, ci 8, ci 7]
    have := sd987 TB.out.2.2.2.1 q1 q2
    rwa [this] at q2
  have C1 := Lib.hid (fun W (hW : Below w4.heap.size w4 W) => (show Calls Try.prog 38 #[.pointer (some ⟨g1, 0, none⟩)] W fun e w' => ∃ a c, e = .returned (.slice a k1.length c) ∧ OwnN w' W.heap.size (.slice a k1.length c) l1 ∧ Below W.heap.size W w' by
    have := sorted_l (TB.out.1.below hW) TB.out.2.2.1 hp1 hsd1 (by omega); rw [hll] at this; exact this))
  have C2 := Lib.hid (fun W (hW : Below w4.heap.size w4 W) => (show Calls Try.prog 39 #[.pointer (some ⟨g1, 0, none⟩)] W fun e w' => ∃ a c, e = .returned (.slice a k1.length c) ∧ OwnN w' W.heap.size (.slice a k1.length c) (rk l1 k1.length) ∧ Below W.heap.size W w' by
    have := ranks_l (TB.out.1.below hW) TB.out.2.2.1 hp1 hsd1 (by omega); rw [hll] at this; exact this))
  have C3 := Lib.hid (fun W (hW : Below w4.heap.size w4 W) => (show Calls Try.prog 38 #[.pointer (some ⟨g2, 0, none⟩)] W fun e w' => ∃ a c, e = .returned (.slice a 3 c) ∧ OwnN w' W.heap.size (.slice a 3 c) [2, 1, 0] ∧ Below W.heap.size W w' from
    sorted_l (TB.out.2.1.below hW) TB.out.2.2.2.1 p2 s210 (by decide)))
  have C4 := Lib.hid (fun W (hW : Below w4.heap.size w4 W) => (show Calls Try.prog 39 #[.pointer (some ⟨g2, 0, none⟩)] W fun e w' => ∃ a c, e = .returned (.slice a 3 c) ∧ OwnN w' W.heap.size (.slice a 3 c) [2, 1, 0] ∧ Below W.heap.size W w' by
    have := ranks_l (TB.out.2.1.below hW) TB.out.2.2.2.1 p2 s210 (by decide)
    rw [show rk [2, 1, 0] [ci 9, ci 8, ci 7].length = [2, 1, 0] from rk210] at this
    exact this))
  obtain ⟨i1, hi1, hz3, hz4, hz5⟩ := info_parts infoSI
  have LP := Lib.hid (And.intro hp1 (And.intro hll hsd1))
  clear p2 s210 hp1 hsd1 hll
  go_loopw [10, 11] (fun lv i wr => ∃ (k : Nat) (v : Value) (vs : List Value), lv = v ∧ i = .int .i64 k ∧ k ≤ 3 ∧ vs.length = 4 * k ∧ Hid (wr.ownsRow w4.heap.size 66 1 v vs.length vs ∧ Nm w4.heap.size (Ea l1 k1.length) wr vs ∧ Below w4.heap.size w4 wr)) (fun _ i _ => 3 - (intOf i).toNat)
  case atStart => exact ⟨0, _, [], rfl, rfl, Nat.zero_le _, rfl, ⟨World.ownsRow_nil _ _ _ _, ⟨fun j v hv => by simp at hv, fun i j vi vj b hv => by simp at hv⟩, Below.refl _ _⟩⟩
  case round =>
    obtain ⟨k, lv, vs, hlv, rfl, hk, hvl, hL⟩ := hrel
    subst hlv
    by_cases hk3 : k < 3
    · have hk3' : (k : Int) < 3 := by omega
      have HVL := Lib.hid hvl
      obtain ⟨lva, lvc, hlvf, _, _⟩ := own_lenC hL.out.1
      subst hlvf
      clear hvl
      go_wp2_with fail
      refine (C1.out wr hL.out.2.2).mono ?_
      rintro e wa ⟨ua, uc, rfl, oa, ba⟩
      have na := Lib.hid (hL.out.2.1.add hL.out.2.2.size ba (show OwnN wa wr.heap.size _ (Ea l1 k1.length vs.length) by unfold Ea; rw [if_pos (by have := HVL.out; omega)]; exact oa))
      have da := Lib.hid (below_step hL.out.2.2 ba)
      have ra := Lib.hid (ownsRow_turns hL.out.1 (Turns.of_below (S := []) ba) (fun _ _ => by simp))
      clear oa ba
      go_wp2_with fail
      refine (C2.out wa da.out).mono ?_
      rintro e wb ⟨va, vc, rfl, ob, bb⟩
      have nb := Lib.hid (na.out.add da.out.size bb (show OwnN wb wa.heap.size _ (Ea l1 k1.length (vs ++ [_]).length) by unfold Ea; rw [if_neg (by have := HVL.out; simp; omega), if_pos (by have := HVL.out; simp; omega)]; exact ob))
      have db := Lib.hid (below_step da.out bb)
      have rb := Lib.hid (ownsRow_turns ra.out (Turns.of_below (S := []) bb) (fun _ _ => by simp))
      clear ob bb
      go_wp2_with fail
      refine (C3.out wb db.out).mono ?_
      rintro e wc ⟨xa, xc, rfl, oc, bc⟩
      have nc := Lib.hid (nb.out.add db.out.size bc (show OwnN wc wb.heap.size _ (Ea l1 k1.length ((vs ++ [_]) ++ [_]).length) by unfold Ea; rw [if_neg (by have := HVL.out; simp; omega), if_neg (by have := HVL.out; simp; omega)]; exact oc))
      have dc := Lib.hid (below_step db.out bc)
      have rc := Lib.hid (ownsRow_turns rb.out (Turns.of_below (S := []) bc) (fun _ _ => by simp))
      clear oc bc
      go_wp2_with fail
      refine (C4.out wc dc.out).mono ?_
      rintro e wd ⟨ya, yc, rfl, od, bd⟩
      have nd' := Lib.hid (nc.out.add dc.out.size bd (show OwnN wd wc.heap.size _ (Ea l1 k1.length (((vs ++ [_]) ++ [_]) ++ [_]).length) by unfold Ea; rw [if_neg (by have := HVL.out; simp; omega), if_neg (by have := HVL.out; simp; omega)]; exact od))
      have dd := Lib.hid (below_step dc.out bd)
      have rd := ownsRow_turns rc.out (Turns.of_below (S := []) bd) (fun _ _ => by simp)
      clear od bd
      have BE : Below wd.heap.size wd (wd.alloc (.cells #[.slice ua k1.length uc, .slice va k1.length vc, .slice xa 3 xc, .slice ya 3 yc] 66)) := (Below.refl _ _).alloc (Nat.le_refl _) _
      have re := ownsRow_turns rd (Turns.of_below (S := []) BE) (fun _ _ => by simp)
      have ne := Lib.hid (nd'.out.below BE)
      have de := Lib.hid (below_step dd.out BE)
      clear rd BE
      go_wp2_with (at_builtin; refine wpList_append_own_at _ rfl (.tmp 68) (.tmp 77) 72 rfl w4.heap.size 66 i1 (.slice none 0 0) 1 24 Try.underlying72 hi1 hz3 hz4 hz5 rfl (by decide) _ _ _ rfl re ⟨wd.heap.size, 0, none⟩ 4 4 [.slice ua k1.length uc, .slice va k1.length vc, .slice xa 3 xc, .slice ya 3 yc] rfl rfl (World.news_of_block (cs := #[.slice ua k1.length uc, .slice va k1.length vc, .slice xa 3 xc, .slice ya 3 yc]) (t := 66) (fr := (0, 0)) (heap_alloc_new wd _)) (by simp [Value.oneCell']) (by unfold maxLen; have := HVL.out; omega) (by have := HVL.out; omega) de.out.size ?_; intro v' wf hown hgr _ _)
      have hgr' : (wd.alloc (.cells #[.slice ua k1.length uc, .slice va k1.length vc, .slice xa 3 xc, .slice ya 3 yc] 66)).grownBy wf (Value.slice lva vs.length lvc).ownBlock := hgr
      have NF := ne.out.listed re hgr'
      have BF := de.out.trans ((Turns.of_grown hgr').below de.out.size (fun x hx => (ownBlock_cells re (by simpa using hx)).1))
      exact ⟨⟨k + 1, v', vs ++ [.slice ua k1.length uc, .slice va k1.length vc, .slice xa 3 xc, .slice ya 3 yc], rfl, by go_num, by omega, by rw [List.length_append]; have := HVL.out; simp; omega, by rw [List.length_append]; exact hown, by simpa using NF, BF⟩, by simp [intOf]; omega⟩
    · obtain rfl : k = 3 := by omega
      obtain ⟨wl, rfl⟩ : ∃ wl : World, wl = wr := ⟨_, rfl⟩
      have hv12 : vs.length = 12 := by omega
      obtain ⟨L, lvc, hlvf, _, _⟩ := own_formC hL.out.1 (by omega)
      rw [hv12] at hlvf
      subst hlvf
      have CV := Lib.hid (fun (W : World) (hW : Below wl.heap.size wl W) (j : Nat) (v : Value) (hv : vs[j]? = some v) => (show W.cell? ⟨L, j, none⟩ = some v by
        have h1 := hL.out.1.cells (g := L) rfl j v hv
        rw [add_none, Nat.zero_add] at h1
        exact (hW.cell (p := ⟨L, j, none⟩) (ownBlock_cells hL.out.1 (b := L) rfl).2.1).trans h1))
      have EV := Lib.hid (fun (j : Nat) (hj : j < 12) => (show ∃ a c, vs[j]? = some (.slice a (Ea l1 k1.length j).length c) ∧ OwnN wl w4.heap.size (.slice a (Ea l1 k1.length j).length c) (Ea l1 k1.length j) by
        obtain ⟨v, hv⟩ : ∃ v, vs[j]? = some v := ⟨_, List.getElem?_eq_getElem (by omega)⟩
        have hn := hL.out.2.1.nums j v hv
        obtain ⟨a, c, rfl⟩ := hn.form
        exact ⟨a, c, hv, hn⟩))
      have hln := LP.out.2.1
      have hrkl : (rk l1 k1.length).length = k1.length := by rw [rk_length, hln]
      obtain ⟨a0, c0, v0, o0⟩ := EV.out 0 (by decide)
      obtain ⟨a1, c1, v1, o1⟩ := EV.out 1 (by decide)
      obtain ⟨a2, c2', v2, o2⟩ := EV.out 2 (by decide)
      obtain ⟨a3, c3, v3, o3⟩ := EV.out 3 (by decide)
      rw [show Ea l1 k1.length 0 = l1 from rfl, hln] at v0 o0
      rw [show Ea l1 k1.length 1 = rk l1 k1.length from rfl, hrkl] at v1 o1
      rw [show Ea l1 k1.length 2 = [2, 1, 0] from rfl] at v2 o2
      rw [show Ea l1 k1.length 3 = [2, 1, 0] from rfl] at v3 o3
      have O0 := Lib.hid o0
      have O1 := Lib.hid o1
      have O2 := Lib.hid o2
      have O3 := Lib.hid o3
      have VV := Lib.hid (And.intro v0 (And.intro v1 (And.intro v2 v3)))
      have p2 := CV.out wl (Below.refl _ _) 2 _ v2
      have HH := Lib.hid (And.intro hv12 (And.intro hln hrkl))
      clear o0 o1 o2 o3 v0 v1 v2 v3 hln hrkl hv12 hvl hk3
      go_wp2_with fail
      have B5 : Below wl.heap.size wl (wl.alloc (.cells #[.int .i64 2, .int .i64 1, .int .i64 0] 3)) := (Below.refl _ _).alloc (Nat.le_refl _) _
      refine (intsW _ _ w4.heap.size wl.heap.size [2, 1, 0] _ (O2.out.below B5) (ownN_210 wl) (by decide)).mono ?_
      rintro e w5 ⟨rfl, b5⟩
      have W5 := Lib.hid (below_step B5 b5)
      have p3 := CV.out w5 W5.out 3 _ VV.out.2.2.2
      clear b5 B5 p2
      go_wp2_with fail
      have B6 : Below w5.heap.size w5 (w5.alloc (.cells #[.int .i64 2, .int .i64 1, .int .i64 0] 3)) := (Below.refl _ _).alloc (Nat.le_refl _) _
      refine (intsW _ _ w4.heap.size w5.heap.size [2, 1, 0] _ ((O3.out.below W5.out).below B6) (ownN_210 w5) (by decide)).mono ?_
      rintro e w6 ⟨rfl, b6⟩
      have W6 := Lib.hid (below_step W5.out (below_step B6 b6))
      have p0 := CV.out w6 W6.out 0 _ VV.out.1
      have p1 := CV.out w6 W6.out 1 _ VV.out.2.1
      clear b6 B6 p3
      go_wp2_with fail
      go_loopw [12, 13] (fun i _ wx => ∃ q : Nat, i = .int .i64 q ∧ q ≤ k1.length ∧ wx = w6) (fun i _ _ => k1.length - (intOf i).toNat)
      case atStart => exact ⟨0, rfl, Nat.zero_le _, rfl⟩
      case round =>
        obtain ⟨q, rfl, hq, rfl⟩ := hrel
        by_cases hqn : q < k1.length
        · obtain ⟨b, hb1, hb2, hb3⟩ := rank_at LP.out.1 hqn
          obtain ⟨g1', c1', hf1⟩ := O1.out.form1 (by have := HH.out.2.2; omega)
          simp only [Value.slice.injEq] at hf1
          obtain ⟨rfl, -, -⟩ := hf1
          obtain ⟨g0', c0', hf0⟩ := O0.out.form1 (by have := HH.out.2.1; omega)
          simp only [Value.slice.injEq] at hf0
          obtain ⟨rfl, -, -⟩ := hf0
          have d1 := (O1.out.below W6.out).cell hb2
          have d0 := (O0.out.below W6.out).cell hb3
          have e1 : (0 : Int) ≤ (q : Int) := by omega
          have e2 : (q : Int) < (k1.length : Int) := by omega
          have e3 : (0 : Int) ≤ (b : Int) := by omega
          have e4 : (b : Int) < (k1.length : Int) := by omega
          have e5 : decide ((k1.length : Int) ≤ (b : Int)) = false := by simp; omega
          have e6 : decide (k1.length ≤ b) = false := by simp; omega
          have HQ := Lib.hid hqn
          clear hb2 hb3 hqn hb1 hq
          go_wp2
          exact ⟨⟨q + 1, by go_num, HQ.out, trivial⟩, by simp [intOf]; have := HQ.out; omega⟩
        · obtain rfl : q = k1.length := by omega
          clear p0 p1 hqn hq
          go_wp2
          go_loopw [14] (fun i wx => ∃ q : Nat, i = .int .i64 q ∧ 4 ≤ q ∧ q ≤ 12 ∧ Below wl.heap.size wl wx) (fun i _ => 12 - (intOf i).toNat)
          case atStart => exact ⟨4, rfl, Nat.le_refl _, by decide, W6.out⟩
          case round =>
            obtain ⟨q, rfl, hq4, hq12, hbx⟩ := hrel
            by_cases hqn : q < 12
            · obtain ⟨p, hp⟩ : ∃ p, p = q - 4 := ⟨_, rfl⟩
              obtain ⟨aq, cq, vq, oq⟩ := EV.out q hqn
              obtain ⟨ap, cp, vp, op⟩ := EV.out p (by omega)
              rw [show Ea l1 k1.length p = Ea l1 k1.length q by rw [hp]; exact Ea_back _ _ hq4] at vp op
              have s1 := CV.out wr.drew hbx.drew q _ vq
              have s2 := CV.out wr.drew hbx.drew p _ vp
              have IW := Lib.hid (fun W hW => intsW _ _ w4.heap.size w4.heap.size _ W (oq.below (w' := W) hW) (op.below hW) (Ea_len HH.out.2.1 (by omega) q))
              have e1 : (0 : Int) ≤ (q : Int) := by omega
              have e2 : (q : Int) < 12 := by omega
              have e3 : (0 : Int) ≤ (p : Int) := by omega
              have e4 : (p : Int) < 12 := by omega
              have e5 : (q : Int) - 4 = (p : Int) := by omega
              have e6 : IntKind.i64.wrap (p : Int) = (p : Int) := IntWalk.i64_in _ (by omega)
              have HQ := Lib.hid (And.intro hq4 hqn)
              have HBX := Lib.hid hbx
              clear hq4 hqn hbx hp vq vp oq op hq12
              go_wp2
              go_still_tail 9, (by kernel_rfl)
              change wpList _ _ _ _ _ wr.drew
              go_wp2_with fail
              refine (IW.out _ HBX.out.drew).mono ?_
              rintro e w7 ⟨rfl, b7⟩
              have W7 := Lib.hid (HBX.out.drew.trans (b7.mono HBX.out.size))
              clear b7 s1 s2 e5 e6
              go_wp2
              exact ⟨⟨q + 1, by go_num, by have := HQ.out.1; omega, HQ.out.2, W7.out⟩, by simp [intOf]; have := HQ.out.2; omega⟩
            · obtain rfl : q = 12 := by omega
              have NM := hL.out.2.1.below hbx
              have hLc := ownBlock_cells hL.out.1 (b := L) rfl
              have NW := numbersW L lvc w4.heap.size vs (fun j => (Ea l1 k1.length j).length) (vs.flatMap fun v => v.ownBlock.toList) wr (CV.out wr hbx) (Nat.lt_of_lt_of_le hLc.2.1 hbx.size) (fun hm => by
                obtain ⟨_, cur, hc⟩ := hL.out.2.1.far L hm
                obtain ⟨_, _, cur', hc'⟩ := hLc
                rw [hc] at hc'
                simp only [Option.some.injEq, Obj.cells.injEq] at hc'
                exact absurd hc'.2.1 (by decide)) NM.rowSet (fun j v hv => ⟨_, NM.nums j v hv⟩) (Ea_len HH.out.2.1 (by omega)) (by rw [HH.out.1]; decide) (Nat.le_trans hL.out.2.2.size hbx.size)
              rw [HH.out.1] at NW
              have NWH := Lib.hid NW
              have BF := Lib.hid (fun W (hT : Turns (vs.flatMap fun v => v.ownBlock.toList) wr W) => (show Below w.heap.size w W from
                ((TB.out.2.2.2.2.trans (hL.out.2.2.mono TB.out.2.2.2.2.size)).trans (hbx.mono (Nat.le_trans TB.out.2.2.2.2.size hL.out.2.2.size))).trans (hT.below (Nat.le_trans (Nat.le_trans TB.out.2.2.2.2.size hL.out.2.2.size) hbx.size) (fun x hx => Nat.le_trans TB.out.2.2.2.2.size (hL.out.2.1.far x hx).1))))
              clear NM hLc NW hbx hqn hq4 hq12
              go_wp2_with fail
              refine NWH.out.mono ?_
              rintro e w8 ⟨rfl, h8⟩
              have B8 := Lib.hid (BF.out _ h8)
              clear h8 NWH BF W6 HH VV O0 O1 O2 O3 EV CV LP C1 C2 C3 C4 TB
              clear hL hk
              have O8 := ownS_lit w8 [sOne, sTwo] #[.string ⟨#[111, 110, 101]⟩, .string ⟨#[116, 119, 111]⟩] rfl (by decide)
              have BA : Below w.heap.size w (w8.alloc (.cells #[.string ⟨#[111, 110, 101]⟩, .string ⟨#[116, 119, 111]⟩] 9)) := B8.out.alloc B8.out.size _
              have HBA := Lib.hid BA
              have HO8 := Lib.hid O8
              have hKA := Lib.hid (sl_now1 hK BA)
              have HBK := Lib.hid (fun W hW => hK.below (w' := W) hW (Nat.le_refl _))
              obtain ⟨xk, hxk⟩ : ∃ xk, xk = [sOne, sTwo] ++ keys := ⟨_, rfl⟩
              have HXK := Lib.hid hxk
              obtain ⟨m, hm⟩ : ∃ m, m = xk.length := ⟨_, rfl⟩
              have hmk : m = keys.length + 2 := by rw [hm, hxk, List.length_append, Nat.add_comm]; rfl
              have HM := Lib.hid (And.intro hm hmk)
              have eK : (keys.length : Int) + 2 = (m : Int) := by omega
              have eK1 : (0 : Int) ≤ (m : Int) := by omega
              have HKL := Lib.hid hklen
              clear O8 BA hK hxk hm hmk
              go_wp2_with (first
                | (at_builtin; refine wpList_append_slS rfl (.tmp 157) (.tmp 158) rfl w8.heap.size (.slice (some ⟨w8.heap.size, 0, none⟩) 2 2) [sOne, sTwo] keys rfl HO8.out K keys.length kc rfl rfl hKA.out hnK (by simp; omega) (by simp) ?_; intro v1 w9 h1 h2 h3; rw [← HXK.out] at h1; obtain ⟨g9, c9, rfl, _, _, _, _⟩ := h1.form (by have := HM.out; omega); rw [← HM.out.1]; have H9 := Lib.hid h1; have B9 := Lib.hid (HBA.out.trans ((Turns.of_grown h2).below HBA.out.size (fun x hx => Nat.le_trans B8.out.size (by simp [Value.ownBlock] at hx; omega)))); have Z9 := Lib.hid h2.size; clear h1 h2 h3)
                | (at_builtin; refine wpList_append_slS rfl (.tmp 159) (.tmp 160) rfl w8.heap.size (.slice (some ⟨g9, 0, none⟩) m c9) xk [sBehind] rfl (by rw [HM.out.1]; exact H9.out.below ((Below.refl _ _).alloc (Nat.le_refl _) _)) (some ⟨w9.heap.size, 0, none⟩) 1 1 rfl rfl (sl_oneS w9 sBehind) (by simp) (by have := HM.out; have := HKL.out; simp; omega) (by have := Z9.out; simp at this ⊢; omega) ?_; intro v1 w10 h1 h2 h3; have hrl : (xk ++ [sBehind]).length = m + 1 := (by rw [List.length_append, HM.out.1]; rfl); obtain ⟨g10, c10, rfl, q1, q2, q3, q4⟩ := h1.form (by omega); rw [hrl] at h1 ⊢; have H10 := Lib.hid h1; have R10 := Lib.hid (And.intro hrl (And.intro q1 q2)); have B10 := Lib.hid (B9.out.trans (((Below.refl w9.heap.size w9).alloc (Nat.le_refl _) (.cells #[.string ⟨#[98, 101, 104, 105, 110, 100]⟩] 9)).mono B9.out.size |>.trans ((Turns.of_grown h2).below (by have := B9.out.size; simp; omega) (fun x hx => Nat.le_trans B8.out.size (by have := (H9.out.form (by have := HM.out; omega)); simp [Value.ownBlock] at hx; subst hx; obtain ⟨_, _, e, h, _⟩ := this; simp only [Value.slice.injEq, Option.some.injEq, Addr.mk.injEq, and_true] at e; omega))))); have e7 : (m : Int) ≤ (c10 : Int) := (by omega); clear h1 h2 h3 hrl q1 q2 q3 q4))
              have hfr := H10.out.front
              have hxok : ∀ k ∈ xk, k.size ≤ maxLen := by
                intro k hk
                rw [HXK.out] at hk
                rcases List.mem_append.1 hk with h | h
                · simp only [List.mem_cons, List.not_mem_nil, or_false] at h
                  rcases h with rfl | rfl <;> decide
                · exact hkok k h
              have NW := newS (some ⟨g10, 0, none⟩) c10 xk w10 hxok hfr (by have := HM.out; have := HKL.out; omega)
              rw [← HM.out.1] at NW
              refine NW.mono ?_
              rintro e w11 ⟨rfl, ⟨s3, hx3⟩, b11⟩
              have HX3 := Lib.hid hx3
              have B11 := Lib.hid b11
              have EW := endsW (some ⟨g10, 0, none⟩) c10 xk w11 hxok (sl_now1 hfr b11) (by have := HM.out; have := HKL.out; omega)
              rw [← HM.out.1] at EW
              have HEW := Lib.hid EW
              clear NW hx3 b11 EW hfr hxok
              go_wp2_with fail
              refine HEW.out.mono ?_
              rintro e w12 ⟨rfl, b12⟩
              have B12 := Lib.hid (B11.out.trans (b12.mono B11.out.size))
              have H12 := Lib.hid (H10.out.below B12.out)
              have HX12 := Lib.hid (HX3.out.below b12)
              have hx0 : (xk ++ [sBehind])[0]? = some sOne := by rw [HXK.out]; rfl
              have hx1 : (xk ++ [sBehind])[1]? = some sTwo := by rw [HXK.out]; rfl
              have hxm : (xk ++ [sBehind])[m]? = some sBehind := by rw [HM.out.1, List.getElem?_append_right (Nat.le_refl _), Nat.sub_self]; rfl
              have p0 : w12.cell? ⟨g10, 0, none⟩ = some (.string ⟨#[111, 110, 101]⟩) := H12.out.cell hx0
              have p1 : w12.cell? ⟨g10, 1, none⟩ = some (.string ⟨#[116, 119, 111]⟩) := H12.out.cell hx1
              have pm : w12.cell? ⟨g10, m, none⟩ = some (.string ⟨#[98, 101, 104, 105, 110, 100]⟩) := H12.out.cell hxm
              have e8 : (0 : Int) < (m : Int) := by have := HM.out.2; omega
              have e9 : (1 : Int) < (m : Int) := by have := HM.out.2; omega
              have e10 : (m : Int) < (m : Int) + 1 := by omega
              clear b12 hx0 hx1 hxm HEW
              go_wp2_with fail
              have B012 := Lib.hid (B10.out.trans (B12.out.mono B10.out.size))
              have HBK12 := Lib.hid (fun W hW => HBK.out W (B012.out.trans (Below.mono hW B012.out.size)))
              go_loopw [18] (fun i wx => ∃ q : Nat, i = .int .i64 q ∧ q ≤ keys.length ∧ Below w12.heap.size w12 wx) (fun i _ => keys.length - (intOf i).toNat)
              case atStart => exact ⟨0, rfl, Nat.zero_le _, Below.refl _ _⟩
              case round =>
                clear p0 p1 pm
                obtain ⟨q, rfl, hq, hbx⟩ := hrel
                by_cases hqn : q < keys.length
                · obtain ⟨bK, oK, rfl, hbl, hcK⟩ := (HBK12.out wr hbx).form (by omega)
                  have d0 := hcK q keys[q] (List.getElem?_eq_getElem hqn) 0 _ rfl
                  obtain ⟨k, hk⟩ : ∃ k, k = keys[q] := ⟨_, rfl⟩
                  rw [← hk] at d0
                  have hxq : (xk ++ [sBehind])[q + 2]? = some k := by
                    rw [List.getElem?_append_left (by have := HM.out; omega), HXK.out, List.getElem?_append_right (by simp), hk]
                    simp [List.getElem?_eq_getElem hqn]
                  have d1 := (H12.out.below hbx).cell hxq
                  simp only [Nat.mul_one, Nat.add_zero] at d0
                  have f1 : (0 : Int) ≤ (q : Int) := by omega
                  have f2 : (q : Int) < (keys.length : Int) := by omega
                  obtain ⟨p, hp⟩ : ∃ p, p = q + 2 := ⟨_, rfl⟩
                  rw [← hp] at d1
                  have f3 : (q : Int) + 2 = (p : Int) := by omega
                  have f4 : IntKind.i64.wrap (p : Int) = (p : Int) := IntWalk.i64_in _ (by have := HKL.out; omega)
                  have f5 : (p : Int) < (m : Int) := by have := HM.out.2; omega
                  have f6 : (0 : Int) ≤ (p : Int) := by omega
                  have HQ := Lib.hid hqn
                  have HBX := Lib.hid hbx
                  clear hqn hq hbx hcK hk hxq hp
                  go_wp2
                  go_quiet (fail)
                  have HB2 := Lib.hid (HBX.out.trans (below_drewN (Below.refl _ _) nq))
                  go_wp2
                  exact ⟨⟨q + 1, by go_num, HQ.out, HB2.out⟩, by simp [intOf]; have := HQ.out; omega⟩
                · obtain rfl : q = keys.length := by omega
                  have LX := Lib.hid (lenS (HX12.out.below hbx))
                  have HBX := Lib.hid hbx
                  have HLE := Lib.hid (allK_len xk)
                  clear hqn hq hbx
                  go_wp2_with fail
                  refine LX.out.mono ?_
                  rintro e w13 ⟨rfl, rfl⟩
                  have H13 := H12.out.below HBX.out
                  have X13 := Lib.hid (HX12.out.below HBX.out)
                  have G13 := Lib.hid (show g10 < wr.heap.size ∧ w8.heap.size ≤ g10 from ⟨Nat.lt_of_lt_of_le R10.out.2.2 (Nat.le_trans B12.out.size HBX.out.size), R10.out.2.1⟩)
                  clear LX
                  obtain ⟨ws, rfl⟩ : ∃ ws : World, ws = wr := ⟨_, rfl⟩
                  go_wp2
                  go_loopw [19] (fun i wx => ∃ q : Nat, i = .int .i64 q ∧ q ≤ m ∧ (∃ ys, ys.length = m + 1 ∧ OwnS wx w8.heap.size (.slice (some ⟨g10, 0, none⟩) (m + 1) c10) ys) ∧ Turns [g10] ws wx) (fun i _ => m - (intOf i).toNat)
                  case atStart => exact ⟨0, rfl, Nat.zero_le _, ⟨_, R10.out.1, H13⟩, Turns.refl _ _⟩
                  case round =>
                    clear H13
                    obtain ⟨q, rfl, hq, ⟨ys, hyl, hy⟩, hT⟩ := hrel
                    by_cases hqn : q < m
                    · obtain ⟨⟨u, s0⟩, s1⟩ := hy.spot (j := q) (by omega)
                      obtain ⟨⟨ys', hl', hy'⟩, hT'⟩ := hy.put q ⟨#[115, 109, 117, 100, 103, 101, 100]⟩
                      have f1 : (0 : Int) ≤ (q : Int) := by omega
                      have f2 : (q : Int) < (m : Int) := by omega
                      have HQ := Lib.hid hqn
                      have HY := Lib.hid (And.intro (hl'.trans hyl) (And.intro hy' (hT.trans hT' (fun x hx => .inl hx))))
                      clear hqn hq hyl hy hT hl' hy' hT'
                      go_wp2
                      exact ⟨⟨q + 1, by go_num, HQ.out, ⟨ys', HY.out.1, HY.out.2.1⟩, HY.out.2.2⟩, by simp [intOf]; have := HQ.out; omega⟩
                    · obtain rfl : q = m := by omega
                      have X14 := Lib.hid (X13.out.turns hT (fun x hx hm => by
                        have h1 := (X13.out.foot_lt x hx).1
                        have h2 := List.mem_singleton.1 hm
                        have h3 := R10.out.2.2
                        omega))
                      have B14 := Lib.hid ((B012.out.trans (HBX.out.mono B012.out.size)).trans (hT.below (Nat.le_trans B012.out.size HBX.out.size) (fun x hx => by rw [List.mem_singleton.1 hx]; exact Nat.le_trans B8.out.size G13.out.2)))
                      have AK : Hid ((allK xk)[0]? = some ⟨#[111, 110, 101]⟩ ∧ (allK xk)[1]? = some ⟨#[116, 119, 111]⟩) := Lib.hid (HXK.out ▸ allK_two keys)
                      have A0 := Lib.hid (atS_in X14.out AK.out.1)
                      have A1 := Lib.hid (atS_in X14.out AK.out.2)
                      have F0 := Lib.hid (findS_hit X14.out AK.out.1)
                      have F1 := Lib.hid (findS_hit X14.out AK.out.2)
                      clear hqn hq hyl hy hT X13 G13
                      go_wp2_with fail
                      refine A0.out.mono ?_
                      rintro e w15 ⟨rfl, rfl⟩
                      go_wp2_with fail
                      refine A1.out.mono ?_
                      rintro e w15 ⟨rfl, rfl⟩
                      go_wp2_with fail
                      refine F0.out.mono ?_
                      rintro e w15 ⟨rfl, rfl⟩
                      go_wp2_with fail
                      refine F1.out.mono ?_
                      rintro e w15 ⟨rfl, rfl⟩
                      go_wp2_with fail
                      obtain ⟨wz, rfl⟩ : ∃ wz : World, wz = wr := ⟨_, rfl⟩
                      clear A0 A1 F0 F1 AK
                      go_loopw [24] (fun i wx => ∃ p : Nat, i = .int .i64 p ∧ p ≤ keys.length ∧ wz = wx) (fun i _ => keys.length - (intOf i).toNat)
                      case atStart => exact ⟨0, rfl, Nat.zero_le _, rfl⟩
                      case round =>
                        obtain ⟨p, rfl, hp, rfl⟩ := hrel
                        by_cases hpn : p < keys.length
                        · obtain ⟨bK, oK, rfl, hbl, hcK⟩ := (HBK.out wz B14.out).form (by omega)
                          have d0 := hcK p keys[p] (List.getElem?_eq_getElem hpn) 0 _ rfl
                          obtain ⟨k, hk⟩ : ∃ k, k = keys[p] := ⟨_, rfl⟩
                          rw [← hk] at d0
                          simp only [Nat.mul_one, Nat.add_zero] at d0
                          obtain ⟨r, hr, -⟩ := first_place (mem_allK (x := k) (xs := xk) (by rw [HXK.out, hk]; exact List.mem_append_right _ (List.getElem_mem hpn)))
                          have hrl := (List.getElem?_eq_some_iff.1 hr).1
                          have F := Lib.hid (findS_hit X14.out hr)
                          have T := Lib.hid (atS_in X14.out hr)
                          have f1 : (0 : Int) ≤ (p : Int) := by omega
                          have f2 : (p : Int) < (keys.length : Int) := by omega
                          have f3 : (0 : Int) ≤ (r : Int) := by omega
                          have f4 : decide (((allK xk).length : Int) ≤ (r : Int)) = false := by simp; omega
                          have f5 : decide ((allK xk).length ≤ r) = false := by simp; omega
                          have HP := Lib.hid hpn
                          clear hr hrl hpn hp hk hcK
                          go_wp2_with fail
                          refine F.out.mono ?_
                          rintro e w15 ⟨rfl, rfl⟩
                          go_wp2_with fail
                          refine T.out.mono ?_
                          rintro e w15 ⟨rfl, rfl⟩
                          go_wp2_with fail
                          exact ⟨⟨p + 1, by go_num, HP.out, trivial⟩, by simp [intOf]; have := HP.out; omega⟩
                        · obtain rfl : p = keys.length := by omega
                          clear hpn hp
                          go_wp2
                          go_ret
                          exact ⟨rfl, B14.out⟩
end Go.Proofs.Ytblonickpmogiaa
