/- The reference's Text. Printed by wip/bin/rtt.py. strings.Builder's copyCheck and WriteString at a builder of the call's own: any length, the empty one too. -/
import Derived.Test.YtonkbjdeaneicaaDoorKpa04
import Derived.Test.YtonkbjdeaneicaaDoorKpa22
import Derived.Test.YtonkbjdeaneicaaDoorKpa24
import Derived.Test.YtonkbjdeaneicaaDoorKpa31
import Derived.Test.YtonkbjdeaneicaaDoorKpa35
import Derived.Lib.AppendStr
import Derived.Lib.Hide
namespace Go.Proofs.YtonkbjdeaneicaaDoor
open Go Go.RowKit Pln Classical

theorem num_zero : num 0 = [48] := by
  unfold num Lib.itoa
  rw [if_neg (by decide), show (0 : Int).toNat = 0 from rfl, dec_small (by decide)]
  rfl
theorem root_line : nodeL 0 rootN = [110, 111, 100, 101, 32, 48, 32, 114, 111, 111, 116, 10] := by
  unfold nodeL
  rw [show num ((0 : Nat) : Int) = [48] from num_zero, show nodeT rootN = [114, 111, 111, 116] from rfl]
  rfl
theorem alpha_line (i : Nat) (s : Shp) : alphaL i s = [97, 108, 112, 104, 97, 32] ++ num i ++ [32] ++ shapeT s ++ [10] := by
  unfold alphaL shapeT
  simp only [List.append_assoc, List.cons_append, List.nil_append]
theorem lines_le {α : Type} {f : Nat → α → List UInt8} {xs : List α} (h : ∀ i x, xs[i]? = some x → (f i x).length ≤ 1000) : ∀ k, k ≤ xs.length → (linesT f xs k).length ≤ k * 1000
  | 0, _ => by simp [linesT]
  | k + 1, hk => by
    have hx : xs[k]? = some xs[k] := List.getElem?_eq_getElem (by omega)
    have h1 := h k _ hx
    have h2 := lines_le h k (by omega)
    rw [linesT_succ hx, List.length_append]
    omega
theorem node_kind2 {al : List Shp} {ns : List Nd} (h : nodesP al ns) {i : Nat} {n : Nd} (hi : 1 ≤ i) (hn : ns[i]? = some n) : n.kind = 1 ∨ n.kind = 3 ∨ (n.kind = 2 ∧ n.links = [] ∧ n.new = []) := by
  obtain ⟨u, up, _, _, _, _, h5, _⟩ := h.2 i hi (List.getElem?_eq_some_iff.1 hn).1 n hn
  rcases h5 with ⟨h, _⟩ | ⟨h, _⟩ | ⟨h, t⟩
  · exact .inl h
  · exact .inr (.inl h)
  · exact .inr (.inr ⟨h, t.2.2.1, t.2.2.2.1⟩)

set_option maxRecDepth 200000 in
set_option maxHeartbeats 16000000 in
theorem rtextW {F : Nat → Prop} (W : World) (av nv ev : Value) (al : List Shp) (ns : List Nd) (es : List Int) (h : RPl F W av nv ev al ns es) (hS : plSm 1048576 al ns es) (ht : Tab W) :
    Calls Tryd.prog 13 #[.agg #[av, nv, ev]] W fun e W' => e = .returned (.string (bs (textF al ns es))) ∧ Below W.heap.size W W' := by
  have HP := Lib.hid h
  have SM := Lib.hid hS
  have TB := Lib.hid (fun (Wx : World) (hx : Below W.heap.size W Wx) => ht.below hx)
  obtain ⟨Aa, ca, rfl⟩ := h.al.form
  obtain ⟨An, cn, rfl⟩ := h.ns.form
  obtain ⟨Ae, ce, rfl⟩ := h.en.form
  have hb0 : Below (W.heap.size + 1) (W.alloc (.cells #[.slice Aa al.length ca, .slice An ns.length cn, .slice Ae es.length ce] 26)) (W.alloc (.cells #[.slice Aa al.length ca, .slice An ns.length cn, .slice Ae es.length ce] 26)) := Below.refl _ _
  have C1 := Lib.hid (rcheckW _ _ _ _ al ns es (h.below (box_below hb0)) hS)
  obtain ⟨R, hR⟩ : ∃ R, textF al ns es = R := ⟨_, rfl⟩
  rw [hR]
  have HB0 := Lib.hid hb0
  clear h hS ht hb0
  go_enter Tryd.func13, Tryd.ntmps13
  by_cases hc : refP al ns es
  rotate_left
  · have HF := Lib.hid (show R = [] by rw [← hR]; unfold textF; rw [if_neg (fun q => hc (ref_check.2 q))])
    rw [if_neg hc] at C1
    clear hc hR
    go_wp2_with fail
    refine C1.out.mono ?_
    rintro e w1 ⟨rfl, hb1⟩
    have HB1 := Lib.hid (box_below (box_step HB0.out hb1))
    clear hb1
    go_wp2
    go_ret
    exact ⟨by rw [HF.out]; rfl, HB1.out⟩
  have hck := ref_check.1 hc
  have HF := Lib.hid (show R = allT al ns es by rw [← hR]; unfold textF; rw [if_pos hck])
  have HCK := Lib.hid hck
  rw [if_pos hc] at C1
  clear hc hR hck
  go_wp2_with fail
  refine C1.out.mono ?_
  rintro e w1 ⟨rfl, hb1⟩
  have HB1 := Lib.hid (box_step HB0.out hb1)
  clear hb1 C1
  have hla := SM.out.al.1
  have hln := SM.out.ns.1
  have hle := SM.out.en
  have LA := Lib.hid (lines_le (f := alphaL) (xs := al) (fun i x hx => by
    have hi := (List.getElem?_eq_some_iff.1 hx).1
    obtain ⟨cs, he⟩ := HP.out.al.mem (List.mem_of_getElem? hx)
    exact (alphaL_len he (shape_len8 HCK.out.1 (List.mem_of_getElem? hx)) (by omega)).1))
  have LN := Lib.hid (lines_le (f := nodeL) (xs := ns) (fun i x hx => by
    have hi := (List.getElem?_eq_some_iff.1 hx).1
    obtain ⟨cs, lv, mv, he⟩ := HP.out.ns.mem (List.mem_of_getElem? hx)
    have h8 := node_len8 HCK.out.1 HCK.out.2.1 (List.mem_of_getElem? hx)
    have hn : NdT F W x lv mv := ⟨he.ok, he.links, he.new, by omega, by omega⟩
    exact nodeL_len hn h8 (by omega)))
  have LR := Lib.hid (lines_le (f := ruleL) (xs := es) (fun i x hx => by
    have hi := (List.getElem?_eq_some_iff.1 hx).1
    obtain ⟨cs, _, he⟩ := HP.out.en.mem (List.mem_of_getElem? hx)
    exact ruleL_len he (by omega)))
  go_wp2
  go_loopw [3, 4] (fun sv iv wr => ∃ k : Nat, iv = .int .i64 k ∧ k ≤ al.length ∧ sv = .string (bs (linesT alphaL al k)) ∧ Below (W.heap.size + 1) (W.alloc (.cells #[.slice Aa al.length ca, .slice An ns.length cn, .slice Ae es.length ce] 26)) wr) (fun _ iv _ => al.length - (intOf iv).toNat)
  case atStart => exact ⟨0, rfl, Nat.zero_le _, rfl, HB1.out⟩
  case round =>
    obtain ⟨k, rfl, hk, rfl, hb⟩ := hrel
    clear HB1
    have y0 := box_cellL hb 0 rfl
    have y1 := box_cellL hb 1 rfl
    have y2 := box_cellL hb 2 rfl
    have hll := LA.out k hk
    by_cases hkn : k < al.length
    · obtain ⟨s, hs⟩ : ∃ s, al[k]? = some s := ⟨_, List.getElem?_eq_getElem hkn⟩
      have hs8 := shape_len8 HCK.out.1 (List.mem_of_getElem? hs)
      obtain ⟨b, off, rfl, -, hbl, cs, hE, hc⟩ := (HP.out.below (box_below hb)).al.at hs
      have hal := (alphaL_len (i := k) hE hs8 (by omega)).1
      obtain ⟨sv, rfl, sok, hcs⟩ := hE
      obtain ⟨As, cc, rfl⟩ := hcs.form
      have hnx := linesT_succ (f := alphaL) hs
      obtain ⟨L, hL⟩ : ∃ L, linesT alphaL al k = L := ⟨_, rfl⟩
      rw [hL] at hnx hll ⊢
      obtain ⟨P, hP⟩ : ∃ P, shapeT s = P := ⟨_, rfl⟩
      have hPl : P.length ≤ 1000 := by
        rw [alpha_line, hP] at hal
        simp only [List.length_append, List.length_cons, List.length_nil] at hal
        omega
      have C1 := Lib.hid (fun (Wx : World) (hx : Below wr.heap.size wr Wx) => rnumW (k : Int) (i64n (by omega)) Wx (TB.out Wx (box_below (box_step hb hx))))
      have C2 := Lib.hid (fun (Wx : World) (hx : Below wr.heap.size wr Wx) => rshapeTextW s _ Wx sok (hcs.keep (Kp.of_below hx)) hs8 (TB.out Wx (box_below (box_step hb hx))))
      rw [hP] at C2
      have STR := Lib.hid (show ((((bs L ++ { data := #[97, 108, 112, 104, 97, 32] }) ++ bs (num k)) ++ { data := #[32] }) ++ bs P) ++ { data := #[10] } = bs (linesT alphaL al (k + 1)) by
        rw [hnx, alpha_line, hP, show ({ data := #[97, 108, 112, 104, 97, 32] } : ByteArray) = bs [97, 108, 112, 104, 97, 32] from rfl, show ({ data := #[32] } : ByteArray) = bs [32] from rfl, show ({ data := #[10] } : ByteArray) = bs [10] from rfl]
        simp only [bs_app, List.append_assoc])
      have n1 := num_len (i64n (n := k) (by omega))
      rw [← bs_size] at n1 hPl hll
      have z1 : ¬ 9223372036854775807 < (bs L).size + 6 := by omega
      have z2 : ¬ 9223372036854775807 < (bs L).size + 6 + (bs (num k)).size := by omega
      have z3 : ¬ 9223372036854775807 < (bs L).size + 6 + (bs (num k)).size + 1 := by omega
      have z4 : ¬ 9223372036854775807 < (bs L).size + 6 + (bs (num k)).size + 1 + (bs P).size := by omega
      have z5 : ¬ 9223372036854775807 < (bs L).size + 6 + (bs (num k)).size + 1 + (bs P).size + 1 := by omega
      obtain ⟨S, hSe⟩ : ∃ S, S = fun Wx => Below wr.heap.size wr Wx := ⟨_, rfl⟩
      have bn := fun (p : Pt S) => (congrFun hSe p.val).mp p.property
      have q0 := fun (p : Pt S) => box_cellL (box_step hb (bn p)) 0 rfl
      have d0 := fun (p : Pt S) => ((bn p).cell (p := ⟨b, off + k * 2 + 0, none⟩) hbl).trans (hc 0 _ rfl)
      have d1 := fun (p : Pt S) => ((bn p).cell (p := ⟨b, off + k * 2 + 1, none⟩) hbl).trans (hc 1 _ rfl)
      simp only [Nat.add_zero] at d0
      have NE : Nonempty (Pt S) := ⟨⟨wr, (congrFun hSe wr).mpr (Below.refl _ _)⟩⟩
      have HDD := Lib.hid ((congrFun hSe wr.drew).mpr (Below.refl _ _).drew)
      have SE := Lib.hid hSe
      have KPP := Lib.hid bn
      have HB := Lib.hid hb
      have HK := Lib.hid hkn
      have e1 : (0 : Int) ≤ (k : Int) := by omega
      have e2 : (k : Int) < (al.length : Int) := by omega
      clear hs hc hb hkn hL hP hnx hal hs8 hcs sok bn hSe
      go_wp2_with fail
      refine wp_region_class (S := S) HDD.out (by kernel_rfl) (by kernel_rfl) ?_
      repeat (go_big_quiet_step ((first
        | (go_at_call 31; with_reducible refine (C1.out _ (KPP.out _)).mono ?_; rintro e w' ⟨rfl, hbel⟩; exact ⟨rfl, ⟨w', (congrFun SE.out w').mpr ((KPP.out _).trans (hbel.mono (KPP.out _).size))⟩, rfl⟩)
        | (go_at_call 32; with_reducible refine (C2.out _ (KPP.out _)).mono ?_; rintro e w' ⟨rfl, hbel⟩; exact ⟨rfl, ⟨w', (congrFun SE.out w').mpr ((KPP.out _).trans (hbel.mono (KPP.out _).size))⟩, rfl⟩))))
      refine wpQuiet_nil ?_
      rintro wq ⟨⟨_, hW⟩, rfl⟩
      have HFB := Lib.hid (box_step HB.out ((congrFun SE.out wq).mp hW))
      clear q0 d0 d1 NE hW y0 y1 y2
      go_wp2
      exact ⟨⟨k + 1, by go_num, HK.out, by rw [STR.out], HFB.out⟩, by simp [intOf]; have := HK.out; omega⟩
    · obtain rfl : k = al.length := by omega
      obtain ⟨L, hL⟩ : ∃ L, linesT alphaL al al.length = L := ⟨_, rfl⟩
      rw [hL] at hll ⊢
      have HL := Lib.hid hL
      have HBL := Lib.hid hb
      have hroot := HCK.out.2.1.1
      have hn1 : 0 < ns.length := (List.getElem?_eq_some_iff.1 hroot).1
      have HRL := Lib.hid (show bs L ++ { data := #[110, 111, 100, 101, 32, 48, 32, 114, 111, 111, 116, 10] } = bs (L ++ linesT nodeL ns 1) by
        rw [show linesT nodeL ns 1 = linesT nodeL ns 0 ++ nodeL 0 rootN from linesT_succ hroot, linesT_zero, root_line, List.nil_append, ← bs_app]
        rfl)
      have LLB := Lib.hid hll
      rw [← bs_size] at hll
      have z1 : ¬ 9223372036854775807 < (bs L).size + 12 := by omega
      clear hb hkn hL hroot
      go_wp2
      rw [HRL.out]
      clear y0 y1 y2 z1 hll
      go_loopw [3, 5] (fun sv iv wr => ∃ k : Nat, iv = .int .i64 k ∧ 1 ≤ k ∧ k ≤ ns.length ∧ sv = .string (bs (L ++ linesT nodeL ns k)) ∧ Below (W.heap.size + 1) (W.alloc (.cells #[.slice Aa al.length ca, .slice An ns.length cn, .slice Ae es.length ce] 26)) wr) (fun _ iv _ => ns.length - (intOf iv).toNat)
      case atStart => exact ⟨1, rfl, Nat.le_refl _, hn1, rfl, HBL.out⟩
      case round =>
        obtain ⟨k, rfl, hk1, hk, rfl, hb⟩ := hrel
        clear HBL
        have y0 := box_cellL hb 0 rfl
        have y1 := box_cellL hb 1 rfl
        have y2 := box_cellL hb 2 rfl
        have hll : (L ++ linesT nodeL ns k).length ≤ 4000000000 := by have h1 := LN.out k hk; have h2 := LLB.out; rw [List.length_append]; omega
        by_cases hkn : k < ns.length
        · obtain ⟨n, hn⟩ : ∃ n, ns[k]? = some n := ⟨_, List.getElem?_eq_getElem hkn⟩
          have hs8 := node_len8 HCK.out.1 HCK.out.2.1 (List.mem_of_getElem? hn)
          have hkd := node_kind2 HCK.out.2.1 hk1 hn
          obtain ⟨b, off, rfl, -, hbl, cs, ⟨lv, mv, hE⟩, hc⟩ := (HP.out.below (box_below hb)).ns.at hn
          obtain rfl := hE.cells
          have hnd : NdT F wr n lv mv := ⟨hE.ok, hE.links, hE.new, by omega, by omega⟩
          have hPl := nodeT_len hnd hs8
          obtain ⟨LA', lc, rfl⟩ := hE.links.form
          obtain ⟨MA, mc, rfl⟩ := hE.new.form
          have hnx := linesT_succ (f := nodeL) hn
          have hnx2 : L ++ linesT nodeL ns (k + 1) = L ++ linesT nodeL ns k ++ nodeL k n := by rw [hnx, List.append_assoc]
          clear hnx
          obtain ⟨M, hM⟩ : ∃ M, L ++ linesT nodeL ns k = M := ⟨_, rfl⟩
          rw [hM] at hnx2 hll ⊢
          obtain ⟨P, hP⟩ : ∃ P, nodeT n = P := ⟨_, rfl⟩
          have C1 := Lib.hid (fun (Wx : World) (hx : Below wr.heap.size wr Wx) => rnumW (k : Int) (i64n (by omega)) Wx (TB.out Wx (box_below (box_step hb hx))))
          have C2 := Lib.hid (fun (Wx : World) (hx : Below wr.heap.size wr Wx) => rnodeTextW (F := F) n _ _ Wx ⟨hE.ok, hE.links.keep (Kp.of_below hx), hE.new.keep (Kp.of_below hx), hnd.ln, hnd.nn⟩ hs8 hkd (TB.out Wx (box_below (box_step hb hx))))
          rw [hP] at C2 hPl
          have STR := Lib.hid (show ((((bs M ++ { data := #[110, 111, 100, 101, 32] }) ++ bs (num k)) ++ { data := #[32] }) ++ bs P) ++ { data := #[10] } = bs (L ++ linesT nodeL ns (k + 1)) by
            rw [hnx2, show nodeL k n = [110, 111, 100, 101, 32] ++ num k ++ [32] ++ nodeT n ++ [10] from rfl, hP, show ({ data := #[110, 111, 100, 101, 32] } : ByteArray) = bs [110, 111, 100, 101, 32] from rfl, show ({ data := #[32] } : ByteArray) = bs [32] from rfl, show ({ data := #[10] } : ByteArray) = bs [10] from rfl]
            simp only [bs_app, List.append_assoc])
          have n1 := num_len (i64n (n := k) (by omega))
          rw [← bs_size] at n1 hPl hll
          have z1 : ¬ 9223372036854775807 < (bs M).size + 5 := by omega
          have z2 : ¬ 9223372036854775807 < (bs M).size + 5 + (bs (num k)).size := by omega
          have z3 : ¬ 9223372036854775807 < (bs M).size + 5 + (bs (num k)).size + 1 := by omega
          have z4 : ¬ 9223372036854775807 < (bs M).size + 5 + (bs (num k)).size + 1 + (bs P).size := by omega
          have z5 : ¬ 9223372036854775807 < (bs M).size + 5 + (bs (num k)).size + 1 + (bs P).size + 1 := by omega
          have HK1 := Lib.hid (show 1 ≤ k + 1 by omega)
          obtain ⟨S, hSe⟩ : ∃ S, S = fun Wx => Below wr.heap.size wr Wx := ⟨_, rfl⟩
          have bn := fun (p : Pt S) => (congrFun hSe p.val).mp p.property
          have q0 := fun (p : Pt S) => box_cellL (box_step hb (bn p)) 1 rfl
          have d0 := fun (p : Pt S) => ((bn p).cell (p := ⟨b, off + k * 11 + 0, none⟩) hbl).trans (hc 0 _ rfl)
          have d1 := fun (p : Pt S) => ((bn p).cell (p := ⟨b, off + k * 11 + 1, none⟩) hbl).trans (hc 1 _ rfl)
          have d2 := fun (p : Pt S) => ((bn p).cell (p := ⟨b, off + k * 11 + 2, none⟩) hbl).trans (hc 2 _ rfl)
          have d3 := fun (p : Pt S) => ((bn p).cell (p := ⟨b, off + k * 11 + 3, none⟩) hbl).trans (hc 3 _ rfl)
          have d4 := fun (p : Pt S) => ((bn p).cell (p := ⟨b, off + k * 11 + 4, none⟩) hbl).trans (hc 4 _ rfl)
          have d5 := fun (p : Pt S) => ((bn p).cell (p := ⟨b, off + k * 11 + 5, none⟩) hbl).trans (hc 5 _ rfl)
          have d6 := fun (p : Pt S) => ((bn p).cell (p := ⟨b, off + k * 11 + 6, none⟩) hbl).trans (hc 6 _ rfl)
          have d7 := fun (p : Pt S) => ((bn p).cell (p := ⟨b, off + k * 11 + 7, none⟩) hbl).trans (hc 7 _ rfl)
          have d8 := fun (p : Pt S) => ((bn p).cell (p := ⟨b, off + k * 11 + 8, none⟩) hbl).trans (hc 8 _ rfl)
          have d9 := fun (p : Pt S) => ((bn p).cell (p := ⟨b, off + k * 11 + 9, none⟩) hbl).trans (hc 9 _ rfl)
          have d10 := fun (p : Pt S) => ((bn p).cell (p := ⟨b, off + k * 11 + 10, none⟩) hbl).trans (hc 10 _ rfl)
          simp only [Nat.add_zero] at d0
          have NE : Nonempty (Pt S) := ⟨⟨wr, (congrFun hSe wr).mpr (Below.refl _ _)⟩⟩
          have HDD := Lib.hid ((congrFun hSe wr.drew).mpr (Below.refl _ _).drew)
          have SE := Lib.hid hSe
          have KPP := Lib.hid bn
          have HB := Lib.hid hb
          have HK := Lib.hid hkn
          have e1 : (0 : Int) ≤ (k : Int) := by omega
          have e2 : (k : Int) < (ns.length : Int) := by omega
          clear hn hc hb hkn hM hP hnx2 hs8 hE hnd hkd hk1 bn hSe
          go_wp2_with fail
          refine wp_region_class (S := S) HDD.out (by kernel_rfl) (by kernel_rfl) ?_
          repeat (go_big_quiet_step ((first
            | (go_at_call 31; with_reducible refine (C1.out _ (KPP.out _)).mono ?_; rintro e w' ⟨rfl, hbel⟩; exact ⟨rfl, ⟨w', (congrFun SE.out w').mpr ((KPP.out _).trans (hbel.mono (KPP.out _).size))⟩, rfl⟩)
            | (go_at_call 33; with_reducible refine (C2.out _ (KPP.out _)).mono ?_; rintro e w' ⟨rfl, hbel⟩; exact ⟨rfl, ⟨w', (congrFun SE.out w').mpr ((KPP.out _).trans (hbel.mono (KPP.out _).size))⟩, rfl⟩))))
          refine wpQuiet_nil ?_
          rintro wq ⟨⟨_, hW⟩, rfl⟩
          have HFB := Lib.hid (box_step HB.out ((congrFun SE.out wq).mp hW))
          clear q0 d0 d1 d2 d3 d4 d5 d6 d7 d8 d9 d10 NE hW y0 y1 y2
          go_wp2
          exact ⟨⟨k + 1, by go_num, HK1.out, HK.out, by rw [STR.out], HFB.out⟩, by simp [intOf]; have := HK.out; omega⟩
        · obtain rfl : k = ns.length := by omega
          obtain ⟨M, hM⟩ : ∃ M, L ++ linesT nodeL ns ns.length = M := ⟨_, rfl⟩
          rw [hM] at hll ⊢
          have HM := Lib.hid hM
          have HBL := Lib.hid hb
          have LLM := Lib.hid hll
          clear hb hkn hM hk1 hll
          go_wp2
          clear y0 y1 y2
          obtain ⟨wo, rfl⟩ : ∃ wo : World, wo = wr := ⟨_, rfl⟩
          go_loopw [3, 6] (fun sv iv wr => ∃ k : Nat, iv = .int .i64 k ∧ k ≤ es.length ∧ sv = .string (bs (M ++ linesT ruleL es k)) ∧ Below (W.heap.size + 1) (W.alloc (.cells #[.slice Aa al.length ca, .slice An ns.length cn, .slice Ae es.length ce] 26)) wr) (fun _ iv _ => es.length - (intOf iv).toNat)
          case atStart => exact ⟨0, rfl, Nat.zero_le _, by rw [linesT_zero, List.append_nil], HBL.out⟩
          case round =>
            obtain ⟨k, rfl, hk, rfl, hb⟩ := hrel
            clear HBL
            have y0 := box_cellL hb 0 rfl
            have y1 := box_cellL hb 1 rfl
            have y2 := box_cellL hb 2 rfl
            have hll : (M ++ linesT ruleL es k).length ≤ 9000000000 := by have h1 := LR.out k hk; have h2 := LLM.out; rw [List.length_append]; omega
            by_cases hkn : k < es.length
            · obtain ⟨n, hn⟩ : ∃ n, es[k]? = some n := ⟨_, List.getElem?_eq_getElem hkn⟩
              obtain ⟨b, off, rfl, -, hbl, cs, ⟨rfl, nok⟩, hc⟩ := (HP.out.below (box_below hb)).en.at hn
              have hnx := linesT_succ (f := ruleL) hn
              have hnx2 : M ++ linesT ruleL es (k + 1) = M ++ linesT ruleL es k ++ ruleL k n := by rw [hnx, List.append_assoc]
              clear hnx
              obtain ⟨N, hN⟩ : ∃ N, M ++ linesT ruleL es k = N := ⟨_, rfl⟩
              rw [hN] at hnx2 hll ⊢
              have C1 := Lib.hid (fun (Wx : World) (hx : Below wr.heap.size wr Wx) => rnumW (k : Int) (i64n (by omega)) Wx (TB.out Wx (box_below (box_step hb hx))))
              have C2 := Lib.hid (fun (Wx : World) (hx : Below wr.heap.size wr Wx) => rnumW n nok.lo Wx (TB.out Wx (box_below (box_step hb hx))))
              have STR := Lib.hid (show ((((bs N ++ { data := #[114, 117, 108, 101, 32] }) ++ bs (num k)) ++ { data := #[32, 97, 116, 32] }) ++ bs (num n)) ++ { data := #[10] } = bs (M ++ linesT ruleL es (k + 1)) by
                rw [hnx2, show ruleL k n = [114, 117, 108, 101, 32] ++ num k ++ [32, 97, 116, 32] ++ num n ++ [10] from rfl, show ({ data := #[114, 117, 108, 101, 32] } : ByteArray) = bs [114, 117, 108, 101, 32] from rfl, show ({ data := #[32, 97, 116, 32] } : ByteArray) = bs [32, 97, 116, 32] from rfl, show ({ data := #[10] } : ByteArray) = bs [10] from rfl]
                simp only [bs_app, List.append_assoc])
              have n1 := num_len (i64n (n := k) (by omega))
              have n2 := num_len nok.lo
              rw [← bs_size] at n1 n2 hll
              have z1 : ¬ 9223372036854775807 < (bs N).size + 5 := by omega
              have z2 : ¬ 9223372036854775807 < (bs N).size + 5 + (bs (num k)).size := by omega
              have z3 : ¬ 9223372036854775807 < (bs N).size + 5 + (bs (num k)).size + 4 := by omega
              have z4 : ¬ 9223372036854775807 < (bs N).size + 5 + (bs (num k)).size + 4 + (bs (num n)).size := by omega
              have z5 : ¬ 9223372036854775807 < (bs N).size + 5 + (bs (num k)).size + 4 + (bs (num n)).size + 1 := by omega
              obtain ⟨S, hSe⟩ : ∃ S, S = fun Wx => Below wr.heap.size wr Wx := ⟨_, rfl⟩
              have bn := fun (p : Pt S) => (congrFun hSe p.val).mp p.property
              have q0 := fun (p : Pt S) => box_cellL (box_step hb (bn p)) 2 rfl
              have d0 := fun (p : Pt S) => ((bn p).cell (p := ⟨b, off + k * 1 + 0, none⟩) hbl).trans (hc 0 _ rfl)
              simp only [Nat.add_zero, Nat.mul_one] at d0
              have NE : Nonempty (Pt S) := ⟨⟨wr, (congrFun hSe wr).mpr (Below.refl _ _)⟩⟩
              have HDD := Lib.hid ((congrFun hSe wr.drew).mpr (Below.refl _ _).drew)
              have SE := Lib.hid hSe
              have KPP := Lib.hid bn
              have HB := Lib.hid hb
              have HK := Lib.hid hkn
              have e1 : (0 : Int) ≤ (k : Int) := by omega
              have e2 : (k : Int) < (es.length : Int) := by omega
              clear hn hc hb hkn hN hnx2 nok bn hSe
              go_wp2_with fail
              refine wp_region_class (S := S) HDD.out (by kernel_rfl) (by kernel_rfl) ?_
              repeat (go_big_quiet_step ((first
                | (go_at_call 31; with_reducible refine (C1.out _ (KPP.out _)).mono ?_; rintro e w' ⟨rfl, hbel⟩; exact ⟨rfl, ⟨w', (congrFun SE.out w').mpr ((KPP.out _).trans (hbel.mono (KPP.out _).size))⟩, rfl⟩)
                | (go_at_call 31; with_reducible refine (C2.out _ (KPP.out _)).mono ?_; rintro e w' ⟨rfl, hbel⟩; exact ⟨rfl, ⟨w', (congrFun SE.out w').mpr ((KPP.out _).trans (hbel.mono (KPP.out _).size))⟩, rfl⟩))))
              refine wpQuiet_nil ?_
              rintro wq ⟨⟨_, hW⟩, rfl⟩
              have HFB := Lib.hid (box_step HB.out ((congrFun SE.out wq).mp hW))
              clear q0 d0 NE hW y0 y1 y2
              go_wp2
              exact ⟨⟨k + 1, by go_num, HK.out, by rw [STR.out], HFB.out⟩, by simp [intOf]; have := HK.out; omega⟩
            · obtain rfl : k = es.length := by omega
              have HBE := Lib.hid (box_below hb)
              have HEQ := Lib.hid (show R = M ++ linesT ruleL es es.length by rw [HF.out, ← HM.out, ← HL.out]; rfl)
              clear hb hkn
              go_wp2
              go_ret
              refine ⟨?_, HBE.out⟩
              rw [HEQ.out]
              rfl
end Go.Proofs.YtonkbjdeaneicaaDoor

namespace Go.Proofs.YtonkbjdeaneicaaDoor
open Go.RowKit

theorem sizeBld : (Tryd.prog.info? 61).map (·.size) = some 2 := by kernel_rfl
theorem liesBld : liesAt Tryd.prog Tryd.prog.depth 61 (2 / Tryd.prog.cellsOf 61) 0 61 1 = true := by kernel_rfl
theorem infoByte : (Tryd.prog.info? 5).map (fun i => (i.zero, i.size, i.bytes)) = some (some (.int .u8 0), 1, 1) := by kernel_rfl

set_option maxHeartbeats 1000000 in
set_option maxRecDepth 100000 in
theorem copyCheck_used (b : Nat) (w : World) (h0 : w.cell? ⟨b, 0, none⟩ = some (.pointer (some ⟨b, 0, none⟩))) :
    Calls Tryd.prog 47 #[.pointer (some ⟨b, 0, none⟩)] w fun e w' => e = .returned (.tuple #[]) ∧ w' = w := by
  obtain ⟨j, hj, _⟩ := Option.map_eq_some_iff.1 sizeBld
  go_enter Tryd.func47, Tryd.ntmps47
  go_wp2
  rw [Lib.run_neq_ptr_same w _ Tryd.underlying58 hj]
  go_wp2
  go_end0
  exact ⟨rfl, rfl⟩

set_option maxHeartbeats 1000000 in
set_option maxRecDepth 100000 in
theorem copyCheck_fresh (b : Nat) (w : World) (h0 : w.cell? ⟨b, 0, none⟩ = some (.pointer none)) (hsh : w.shape? b = some (61, 2)) (hfz : w.frozen? ⟨b, 0, none⟩ = false) :
    Calls Tryd.prog 47 #[.pointer (some ⟨b, 0, none⟩)] w fun e w' => e = .returned (.tuple #[]) ∧ w' = w.setCell ⟨b, 0, none⟩ (.pointer (some ⟨b, 0, none⟩)) := by
  obtain ⟨j, hj, hjs⟩ := Option.map_eq_some_iff.1 sizeBld
  go_enter Tryd.func47, Tryd.ntmps47
  go_wp2
  rw [Lib.run_to_unsafe w ⟨b, 0, none⟩ Tryd.underlying58 Tryd.underlying121 hj (by rw [hjs]; decide) hsh (Nat.zero_lt_succ 1)]
  simp only [Result.andThen]
  rw [Oper.upon_value]
  go_wp2
  rw [run_callFunc_extern Tryd.func72 (by kernel_rfl) (by kernel_rfl) (by kernel_rfl) (e := Extern.AbiNoEscape.same) (by kernel_rfl)]
  rw [Lib.run_noEscape]
  simp only [Result.andThen]
  rw [Oper.upon_value]
  go_wp2
  rw [Lib.run_from_unsafe w ⟨b, 0, none⟩ Tryd.underlying121 Tryd.underlying58 hj hsh liesBld]
  simp only [Result.andThen]
  rw [Oper.upon_value]
  go_wp2
  go_end0
  exact ⟨rfl, rfl⟩

/-- A builder at block b, its buffer v lying from block H on, b below H; what it holds. -/
structure Bw (w : World) (H b : Nat) (v : Value) (l : List UInt8) : Prop where
  blk : w.heap[b]? = some (.cells #[.pointer none, v] 61 (0, 0)) ∨ w.heap[b]? = some (.cells #[.pointer (some ⟨b, 0, none⟩), v] 61 (0, 0))
  own : w.ownsRow H 5 1 v l.length (Lib.byteCells l)
  bH : b < H
theorem Bw.ne {w : World} {H b : Nat} {v : Value} {l : List UInt8} (h : Bw w H b v l) {g : Nat} (hg : v.ownBlock = some g) : H ≤ g ∧ g < w.heap.size := by
  rcases h.own.2 with ⟨rfl, _⟩ | ⟨g', cap, cur, rfl, hbg, hh, _⟩
  · simp [Value.ownBlock] at hg
  · simp only [Value.ownBlock, Option.some.injEq] at hg
    subst hg
    exact ⟨hbg, lt_of_heap hh⟩
theorem Bw.lt {w : World} {H b : Nat} {v : Value} {l : List UInt8} (h : Bw w H b v l) : b < w.heap.size := by
  rcases h.blk with h | h <;> exact lt_of_heap h
theorem Bw.below {w w' : World} {H b : Nat} {v : Value} {l : List UInt8} (h : Bw w H b v l) (hb : Below w.heap.size w w') : Bw w' H b v l :=
  ⟨by rw [hb.block b h.lt]; exact h.blk, ownsRow_turns h.own (Turns.of_below (S := []) hb) (by simp), h.bH⟩

theorem bw_check {w : World} {H b : Nat} {v : Value} {l : List UInt8} (h : Bw w H b v l) :
    Calls Tryd.prog 47 #[.pointer (some ⟨b, 0, none⟩)] w fun e w1 => e = .returned (.tuple #[]) ∧ (w1.heap[b]? = some (.cells #[.pointer (some ⟨b, 0, none⟩), v] 61 (0, 0)) ∧ w1.ownsRow H 5 1 v l.length (Lib.byteCells l)) ∧ Turns [b] w w1 ∧ w1.heap.size = w.heap.size := by
  rcases h.blk with hb | hb
  · have hlt := lt_of_heap hb
    refine (copyCheck_fresh b w (cell_of_row w b 0 _ _ _ hb) (by simp [World.shape?, hb]) (frozen_of_row w b 0 _ _ hb)).mono ?_
    rintro e w1 ⟨rfl, rfl⟩
    have T : Turns [b] w (w.setCell ⟨b, 0, none⟩ (.pointer (some ⟨b, 0, none⟩))) := (Turns.refl [b] w).setCell (p := ⟨b, 0, none⟩) (.inl (by simp)) _
    refine ⟨rfl, ⟨?_, ownsRow_turns h.own T (fun g hg hm => by have := (h.ne hg).1; have := h.bH; rw [List.mem_singleton.1 hm] at *; omega)⟩, T, by simp [World.setCell]⟩
    rw [heap_setCell_same w b 0 _ _ _ hb]
    rfl
  · refine (copyCheck_used b w (cell_of_row w b 0 _ _ _ hb)).mono ?_
    rintro e w1 ⟨rfl, rfl⟩
    exact ⟨rfl, ⟨hb, h.own⟩, Turns.refl _ _, rfl⟩

theorem own_form {w : World} {H n : Nat} {e : TypeId} {v : Value} {xs : List Value} (h : w.ownsRow H e 1 v n xs) : ∃ A c, v = .slice A n c := by
  rcases h.2 with ⟨h1, h2⟩ | ⟨g', cap, cur, h1, _⟩
  · exact ⟨none, 0, by rw [h1, h2]⟩
  · exact ⟨_, _, h1⟩
/-- Behind the append: the new buffer is stored. -/
theorem bw_wrote {w w1 w2 : World} {H b n : Nat} {v v' : Value} {l l' : List UInt8} (hu : Bw w H b v l) (h1 : w1.heap[b]? = some (.cells #[.pointer (some ⟨b, 0, none⟩), v] 61 (0, 0))) (ht : Turns [b] w w1) (hz : w1.heap.size = w.heap.size)
    (hown : w2.ownsRow H 5 1 v' n (Lib.byteCells l')) (hn : n = l'.length) (hg : w1.grownBy w2 v.ownBlock) :
    w2.cell? ⟨b, 1, none⟩ = some v ∧ w2.frozen? ⟨b, 1, none⟩ = false ∧ Bw (w2.setCell ⟨b, 1, none⟩ v') H b v' l' ∧ Turns (b :: v.ownBlock.toList) w (w2.setCell ⟨b, 1, none⟩ v') := by
  subst hn
  have hlt := lt_of_heap h1
  have T : Turns v.ownBlock.toList w1 w2 := Turns.of_grown hg
  have hb2 : w2.heap[b]? = some (.cells #[.pointer (some ⟨b, 0, none⟩), v] 61 (0, 0)) := by
    rw [T.block b hlt (fun hm => by have := (hu.ne (by simpa using hm)).1; have := hu.bH; omega)]
    exact h1
  have T2 : Turns [b] w2 (w2.setCell ⟨b, 1, none⟩ v') := (Turns.refl [b] w2).setCell (p := ⟨b, 1, none⟩) (.inl (by simp)) _
  refine ⟨cell_of_row w2 b 1 _ _ _ hb2, frozen_of_row w2 b 1 _ _ hb2, ⟨.inr ?_, ownsRow_turns hown T2 (fun x hx hm => ?_), hu.bH⟩, ?_⟩
  · rw [heap_setCell_same w2 b 1 _ _ _ hb2]
    rfl
  · rcases hown.2 with ⟨rfl, _⟩ | ⟨g', cap, cur, rfl, hbg, hh, _⟩
    · simp [Value.ownBlock] at hx
    · simp only [Value.ownBlock, Option.some.injEq] at hx
      subst hx
      have := hu.bH
      rw [List.mem_singleton.1 hm] at hbg
      omega
  · have T1 : Turns (b :: v.ownBlock.toList) w w1 := ht.mono (fun x hx => by rw [List.mem_singleton.1 hx]; exact List.mem_cons_self)
    exact (T1.trans T (fun x hx => .inl (List.mem_cons_of_mem _ hx))).trans T2 (fun x hx => .inl (by rw [List.mem_singleton.1 hx]; exact List.mem_cons_self))

set_option maxHeartbeats 1000000 in
set_option maxRecDepth 100000 in
theorem bw_write {w : World} {H b : Nat} {v : Value} {l : List UInt8} (h : Bw w H b v l) (hH : H ≤ w.heap.size) (s : ByteArray) (hl : l.length + s.size ≤ 130000000000000) :
    Calls Tryd.prog 23 #[.pointer (some ⟨b, 0, none⟩), .string s] w fun e w' => e = .returned (.tuple #[.int .i64 s.size, .nilIface]) ∧ ∃ v', Bw w' H b v' (l ++ s.data.toList) ∧ Turns (b :: v.ownBlock.toList) w w' := by
  obtain ⟨i0, hi, hz0, hz1, hz2⟩ := info_parts infoByte
  have CH := Lib.hid (bw_check h)
  have HW := Lib.hid h
  clear h
  go_enter Tryd.func23, Tryd.ntmps23
  go_wp2_with (first
    | (go_at_call 47; refine CH.out.mono ?_; rintro e w1 ⟨rfl, ⟨hu, ho⟩, ht, hz⟩; have c1 : w1.cell? ⟨b, 1, none⟩ = some v := cell_of_row w1 b 1 _ _ _ hu; have HU := Lib.hid hu; have HO := Lib.hid ho; have HT := Lib.hid ht; have HZ := Lib.hid hz; clear hu ho ht hz)
    | (at_builtin; refine Lib.wpList_append_own_string _ rfl (.tmp 12) (.tmp 13) 59 9 rfl H 5 i0 Tryd.underlying59 Tryd.underlying9 hi hz0 hz1 hz2 _ _ _ rfl HO.out s rfl (by unfold maxLen; omega) (by omega) (by have := HZ.out; omega) ?_; intro v' w2 hown hgrow hat; obtain ⟨A', c', hv⟩ := own_form hown; subst hv; obtain ⟨d1, f1, hb3, hw⟩ := bw_wrote HW.out HU.out HT.out HZ.out (l' := l ++ s.data.toList) (n := l.length + s.size) (by simpa [Lib.byteCells, Lib.strCells] using hown) (by rw [List.length_append]; simp) hgrow; have HB3 := Lib.hid hb3; have HW3 := Lib.hid hw; clear hown hgrow hat hb3 hw))
  go_ret2
  exact ⟨rfl, _, HB3.out, HW3.out⟩
/-- A new one. -/
theorem bw_new (w : World) : Bw (w.alloc (.cells #[.pointer none, .slice none 0 0] 61)) (w.heap.size + 1) w.heap.size (.slice none 0 0) [] :=
  ⟨.inl (heap_alloc_new w _), World.ownsRow_nil _ _ _ _, by omega⟩
end Go.Proofs.YtonkbjdeaneicaaDoor
