/- `full` of the law package: marks in every list of a plan, and one behind its end: no two share memory. Printed by wip/bin/full.py. -/
import Derived.Test.YtonkbjdeaneicaaKpo09
import Derived.Test.YtonkbjdeaneicaaKpo10
import Derived.Test.YtonkbjdeaneicaaKpo13
import Derived.Test.YtonkbjdeaneicaaKpo22
import Derived.Deep.Cut
import Derived.Deep.RegionLaw
namespace Go.Proofs.Ytonkbjdeaneicaa
open Go Go.RowKit Pln Classical

theorem i64_w {n : Int} (h : -9223372036854775808 ≤ n ∧ n ≤ 9223372036854775807) : IntKind.i64.wrap n = n := IntWalk.i64_in _ h
theorem w64_w {n : Int} (h : -9223372036854775808 ≤ n ∧ n ≤ 9223372036854775807) : wrap64 n = n := IntWalk.wrap64_in _ h

/-- Orders of a region that end alike are one. -/
theorem merge3 {α β γ : Type} {F : α → β → γ → Prop} {G : Prop} {T : α → β → γ → Prop} (hg : (∀ a b c, F a b c → T a b c) → G) (body : ∀ a b c, F a b c → T a b c) : G := hg body
/-- One more behind list k: what `full` leaves. -/
theorem fs_app {W w : World} {S0 : List Nat} {pl : Array Value} {A N al : Nat} {L : List Slo} (h : FS W S0 pl A N al w L) {k O o : Nat} {s : Slo} (hs : L[k]? = some s) (hb : plB al A N k = O) (ho : plO al k = o) {e : TypeId} {sz n n0 c0 : Nat} {A0 : Option Addr} (he : s.e = e) (hz : s.sz = sz) (hn : s.n = n) (hv : s.v = .slice A0 n c0) (hnn : n = n0)
    {w3 : World} {g' cap : Nat} {news : List Value} (ht : Turns (Value.slice A0 n0 c0).ownBlock.toList w w3) (hat : (Value.slice A0 n0 c0).ownBlock = some g' ∨ w.heap.size ≤ g') (hw : w3.ownsRow 0 e sz (.slice (some ⟨g', 0, none⟩) (n0 + 1) cap) (n0 + 1) (s.x ++ news)) :
    FS W S0 pl A N al (w3.setCell ⟨O, o, none⟩ (.slice (some ⟨g', 0, none⟩) (n0 + 1) cap)) (L.set k ⟨.slice (some ⟨g', 0, none⟩) (n0 + 1) cap, s.l, n0 + 1, s.x ++ news⟩) ∧
      w3.cell? ⟨O, o, none⟩ = some (.slice A0 n0 c0) ∧ w3.frozen? ⟨O, o, none⟩ = false := by
  subst hb ho he hz hnn hn
  rw [← hv] at ht hat ⊢
  exact h.app hs ht hat hw

set_option maxRecDepth 200000 in
set_option maxHeartbeats 32000000 in
theorem fullW (W : World) (S0 : List Nat) (A N al m ca cn : Nat) (Aa : Option Addr) (L0 : List Slo) (hAa : 0 < al → Aa = some ⟨A, 0, none⟩) (h0 : FS0 W S0 A N al L0) (hlen : L0.length = al + 2 * m) (hkd : ∀ (k : Nat) (s : Slo), L0[k]? = some s → s.l = decide (al ≤ k ∧ (k - al) % 2 = 0))
    (hn : ∀ (k : Nat) (s : Slo), L0[k]? = some s → s.n ≤ 30000000) (hal : al ≤ 1000000000) (hm : m ≤ 1000000000) :
    Calls Try.prog 13 #[.agg #[.slice Aa al ca, .slice (some ⟨N, 0, none⟩) m cn, .slice none 0 0]] W fun e W' => e = .returned (.bool true) ∧ Turns S0 W W' := by
  have hst0 := h0.start #[.slice Aa al ca, .slice (some ⟨N, 0, none⟩) m cn, .slice none 0 0]
  have OW := Lib.hid (fun (k : Nat) (s : Slo) (hs : L0[k]? = some s) => And.intro (h0.own k s hs).1 (own_formS (h0.own k s hs)))
  have LEN := Lib.hid hlen
  have KD := Lib.hid hkd
  have HN := Lib.hid hn
  have HAA := Lib.hid hAa
  have ST := Lib.hid (StI.start al L0)
  have FSS := Lib.hid hst0
  clear h0 hlen hkd hn hAa hst0
  go_enter Try.func13, Try.ntmps13
  go_upto_region 2 with fail
  obtain ⟨w0, hw0⟩ : ∃ w0, w0 = W.alloc (.cells #[.slice Aa al ca, .slice (some ⟨N, 0, none⟩) m cn, .slice none 0 0] 27) := ⟨_, rfl⟩
  rw [← hw0] at FSS ⊢
  clear hw0
  have y0 := rboxL FSS.out.box 0 rfl
  have y1 := rboxL FSS.out.box 1 rfl
  have y2 := rboxL FSS.out.box 2 rfl
  go_wp2
  clear y0 y1 y2
  go_loopw [3, 4] (fun mv iv wr => ∃ (i : Nat) (L : List Slo), iv = .int .i64 i ∧ mv = .int .i64 (i : Int) ∧ i ≤ al ∧ StI al L0 L i 0 ∧ FS W S0 #[.slice Aa al ca, .slice (some ⟨N, 0, none⟩) m cn, .slice none 0 0] A N al wr L) (fun _ iv _ => al - (intOf iv).toNat)
  case atStart => exact ⟨0, L0, rfl, rfl, Nat.zero_le _, ST.out, FSS.out⟩
  case round =>
    obtain ⟨i, L, rfl, rfl, hi, hst, hfs⟩ := hrel
    clear ST FSS
    have y0 := rboxL hfs.box 0 rfl
    have hwr := hfs.size
    by_cases hin : i < al
    · have e1 : (0 : Int) ≤ (i : Int) := by omega
      have e2 : (i : Int) < (al : Int) := by omega
      have HI := Lib.hid hin
      have HAe := Lib.hid (HAA.out (by omega))
      have hmk : mkF al i = (i : Int) + 1 := by unfold mkF; rw [if_pos hin]
      have hvl : valF al i = [.int .i64 (1000 + ((i : Int) + 1))] := by unfold valF; rw [if_pos hin, hmk]
      have hpb : plB al A N i = A := by unfold plB; rw [if_pos hin]
      have hpo : plO al i = i * 2 + 1 := by unfold plO; rw [if_pos hin]; omega
      have HV := Lib.hid (And.intro hvl (And.intro hpb hpo))
      have W1 := Lib.hid (show IntKind.i64.wrap (1000 + ((i : Int) + 1)) = 1000 + ((i : Int) + 1) from i64_w (by omega))
      have W2 := Lib.hid (show wrap64 (1000 + ((i : Int) + 1)) = 1000 + ((i : Int) + 1) from w64_w (by omega))
      have hlt0 : i < L0.length := by rw [LEN.out]; omega
      have HL0 := Lib.hid hlt0
      have HLB := Lib.hid (show decide (al ≤ i ∧ (i - al) % 2 = 0) = false from decide_eq_false (by omega))
      have HST := Lib.hid hst
      have HFS := Lib.hid hfs
      have HALL := Lib.hid (HAe.out)
      rw [HAe.out] at y0
      clear hin hmk hvl hpb hpo hst hfs hlt0
      obtain ⟨s0, hs0⟩ : ∃ s0, L0[i]? = some s0 := ⟨_, List.getElem?_eq_getElem HL0.out⟩
      obtain ⟨hxl, A0, c0, hv0, hA0⟩ := OW.out _ s0 hs0
      have hl0 : s0.l = false := (KD.out _ s0 hs0).trans HLB.out
      have hsz0 : s0.sz = 1 := by unfold Slo.sz; rw [hl0]; rfl
      have hn0 := HN.out _ s0 hs0
      rw [hsz0] at hxl
      have HS0 := Lib.hid hs0
      have HXL := Lib.hid hxl
      have HV0 := Lib.hid hv0
      have HA0 := Lib.hid hA0
      have HL0' := Lib.hid hl0
      obtain ⟨n0, hnn⟩ : ∃ n0, s0.n = n0 := ⟨_, rfl⟩
      have HNN := Lib.hid hnn
      rw [hnn] at hn0
      clear hs0 hxl hv0 hA0 hl0 hsz0 hnn
      go_wp2
      clear y0 hwr
      obtain ⟨wo1, rfl⟩ : ∃ wo1 : World, wo1 = wr := ⟨_, rfl⟩
      go_loopw [5] (fun jv wr => ∃ (j : Nat) (L : List Slo), jv = .int .i64 j ∧ j ≤ n0 ∧ StI al L0 L (i) j ∧ FS W S0 #[.slice Aa al ca, .slice (some ⟨N, 0, none⟩) m cn, .slice none 0 0] A N al wr L) (fun jv _ => n0 - (intOf jv).toNat)
      case atStart => exact ⟨0, _, rfl, Nat.zero_le _, HST.out, HFS.out⟩
      case round =>
        obtain ⟨j, L, rfl, hj, hst, hfs⟩ := hrel
        clear HST HFS
        obtain ⟨s, hs, hsl, hsv, hsn, hsx⟩ := hst.now s0 HS0.out
        have y0 := rboxL hfs.box 0 rfl
        rw [HALL.out] at y0
        have hwr := hfs.size
        have o1 := hfs.out _ s hs
        rw [hsv, HV0.out, HV.out.2.1, HV.out.2.2, HNN.out] at o1
        have he : s.e = 3 := by unfold Slo.e; rw [hsl, HL0'.out]; rfl
        have hz : s.sz = 1 := by unfold Slo.sz; rw [hsl, HL0'.out]; rfl
        have own := hfs.own _ s hs
        rw [he, hz, hsv, HV0.out, hsn] at own
        rw [HNN.out] at own
        by_cases hjn : j < n0
        · obtain ⟨g, hg⟩ := HA0.out (by rw [HNN.out]; omega)
          rw [hg] at o1 own
          have hvg : s.v = .slice (some ⟨g, 0, none⟩) n0 c0 := by rw [hsv, HV0.out, hg, HNN.out]
          have hxlen : s.x.length = n0 * 1 := own.1
          have hxl1 : s.x.length = n0 * 1 := hxlen
          obtain ⟨old, c1⟩ : ∃ old, wr.cell? ⟨g, j, none⟩ = some old := ⟨_, (World.ownsRow.cellAt own j (by rw [Nat.mul_one]; exact hjn)).trans (List.getElem?_eq_getElem (show j < s.x.length by rw [hxlen]; omega))⟩
          have f1 := World.ownsRow.frozenAt own j
          have HFS := Lib.hid (hfs.put hs hvg j (.int .i64 (1000 + ((i : Int) + 1))))
          have HST := Lib.hid (hst.put hs HS0.out (s' := { s with x := s.x.set j (.int .i64 (1000 + ((i : Int) + 1))) }) rfl rfl rfl (by
            rw [show s.x.set j (.int .i64 (1000 + ((i : Int) + 1))) = (fillV (valF al (i)) j ++ s0.x.drop (j * (valF al (i)).length)).set j (.int .i64 (1000 + ((i : Int) + 1))) from by rw [hsx], HV.out.1]
            exact fill_put1 (by rw [HXL.out, HNN.out]; omega)))
          have HJ := Lib.hid hjn
          have e3 : (0 : Int) ≤ (j : Int) := by omega
          have e4 : (j : Int) < (n0 : Int) := by omega
          clear hs hsl hsv hsn hsx he hz own hjn hst hfs hg hvg hxlen hxl1 
          have fx1 := W1.out
          have fx2 := W2.out
          go_wp2
          clear fx1 fx2
          exact ⟨⟨j + 1, _, by go_num, HJ.out, HST.out, HFS.out⟩, by simp [intOf]; have := HJ.out; omega⟩
        · obtain rfl : n0 = j := by omega
          have AW := Lib.hid (hfs.out _ s hs)
          have HFS1 := Lib.hid hfs
          have HS := Lib.hid hs
          have HST1 := Lib.hid hst
          have HOWN := Lib.hid own
          have HE := Lib.hid (And.intro he (And.intro hz (And.intro hsn (And.intro hsl hsv))))
          have hob := hfs.plB_lt (i)
          rw [HV.out.2.1] at hob
          have hOB : A < wr.heap.size := by have := hob.1; omega
          have hne : A ≠ W.heap.size := by have := hob.1; omega
          have Z0 := Lib.hid hob
          have hn40 : n0 ≤ 40000000 := by omega
          clear hs hsl hsv hsn hsx he hz own hjn hst hfs hob AW Z0
          have fx1 := W1.out
          have fx2 := W2.out
          go_wp2
          apply merge3 (F := fun (g' cap : Nat) (w3 : World) => FS W S0 #[.slice Aa al ca, .slice (some ⟨N, 0, none⟩) m cn, .slice none 0 0] A N al (w3.setCell ⟨A, i * 2 + 1, none⟩ (.slice (some ⟨g', 0, none⟩) (n0 + 1) cap)) (L.set (i) ⟨.slice (some ⟨g', 0, none⟩) (n0 + 1) cap, s.l, n0 + 1, s.x ++ [.int .i64 (1000 + ((i : Int) + 1))]⟩))
          case hg =>
            intro hc
            go_region_law (refine step_append_S HOWN.out (by rfl) (.tmp 66) (.tmp 69) 25 (by rfl) Try.underlying25 infoIntR rfl (by decide) (by rfl) #[.int .i64 (1000 + ((i : Int) + 1))] _ (by rfl) rfl rfl (by intro u hu; simp only [List.mem_cons, List.not_mem_nil, or_false] at hu; rw [hu]; rfl) hn40 (by decide) ?_; intro g' cap w3 ho ht hat hlt3; have ⟨f1, f2, f3⟩ := fs_app HFS1.out HS.out HV.out.2.1 HV.out.2.2 HE.out.1 HE.out.2.1 HE.out.2.2.1 (HE.out.2.2.2.2.trans HV0.out) HNN.out ht hat ho; have HFS := Lib.hid f1; have b3 := ht.block _ HFS1.out.size (fun hm => (HFS1.out.far HS.out (by rw [HE.out.2.2.2.2, HV0.out, HNN.out]; simpa using hm)).1 rfl); have b4 := rboxL (b3.trans HFS1.out.box) 0 rfl; rw [HALL.out] at b4; clear f1 ho ht hat hlt3 b3)
            all_goals exact hc g' cap w3 HFS.out
          intro g' cap w3 hfs
          have HFS := Lib.hid hfs
          clear hfs
          clear fx1 fx2
          have HST := Lib.hid (StI.next (k := i) (L := L) (s0 := s0) (s := s) (by rw [HNN.out]; exact HST1.out) HS0.out HS.out (by rw [HXL.out, HV.out.1]; rfl) (s' := ⟨.slice (some ⟨g', 0, none⟩) (n0 + 1) cap, s.l, n0 + 1, s.x ++ [.int .i64 (1000 + ((i : Int) + 1))]⟩) rfl (by rw [HNN.out]) (by rw [HV.out.1]))
          clear HST1 HFS1 HS HOWN HE
          go_wp2
          exact ⟨⟨i + 1, _, by go_num, by go_num, HI.out, HST.out, HFS.out⟩, by simp [intOf]; have := HI.out; omega⟩
    · obtain rfl : al = i := by omega
      have HST := Lib.hid hst
      have HFS := Lib.hid hfs
      clear hin hst hfs
      go_wp2
      clear y0 hwr
      go_loopw [3, 6] (fun mv iv wr => ∃ (i : Nat) (L : List Slo), iv = .int .i64 i ∧ mv = .int .i64 ((al : Int) + (i : Int)) ∧ i ≤ m ∧ StI al L0 L (al + 2 * i) 0 ∧ FS W S0 #[.slice Aa al ca, .slice (some ⟨N, 0, none⟩) m cn, .slice none 0 0] A N al wr L) (fun _ iv _ => m - (intOf iv).toNat)
      case atStart => exact ⟨0, L, rfl, by simp, Nat.zero_le _, HST.out, HFS.out⟩
      case round =>
        obtain ⟨i, L, rfl, rfl, hi, hst, hfs⟩ := hrel
        clear HST HFS
        have y0 := rboxL hfs.box 1 rfl
        have y2 := rboxL hfs.box 2 rfl
        have hwr := hfs.size
        by_cases hin : i < m
        · have e1 : (0 : Int) ≤ (i : Int) := by omega
          have e2 : (i : Int) < (m : Int) := by omega
          have HI := Lib.hid hin
          have hmk : mkF al (al + 2 * i) = (al : Int) + (i : Int) + 1 := by unfold mkF; rw [if_neg (by omega), show al + (al + 2 * i - al) / 2 = al + i by omega]; omega
          have hmk2 : mkF al (al + 2 * i + 1) = (al : Int) + (i : Int) + 1 := by unfold mkF; rw [if_neg (by omega), show al + (al + 2 * i + 1 - al) / 2 = al + i by omega]; omega
          have hvl : valF al (al + 2 * i) = [.int .i64 (1000 + ((al : Int) + (i : Int) + 1)), .int .i64 0] := by unfold valF; rw [if_neg (by omega), if_pos (by omega), hmk]
          have hvl2 : valF al (al + 2 * i + 1) = [.int .i64 (2000 + ((al : Int) + (i : Int) + 1))] := by unfold valF; rw [if_neg (by omega), if_neg (by omega), hmk2]
          have hpb : plB al A N (al + 2 * i) = N := by unfold plB; rw [if_neg (by omega)]
          have hpb2 : plB al A N (al + 2 * i + 1) = N := by unfold plB; rw [if_neg (by omega)]
          have hpo : plO al (al + 2 * i) = i * 11 + 3 := by unfold plO; rw [if_neg (by omega)]; omega
          have hpo2 : plO al (al + 2 * i + 1) = i * 11 + 4 := by unfold plO; rw [if_neg (by omega)]; omega
          have HV := Lib.hid (And.intro hvl (And.intro hpb hpo))
          have HV2 := Lib.hid (And.intro hvl2 (And.intro hpb2 hpo2))
          have W0 := Lib.hid (show IntKind.i64.wrap ((al : Int) + (i : Int) + 1) = (al : Int) + (i : Int) + 1 from i64_w (by omega))
          have W1 := Lib.hid (show IntKind.i64.wrap (1000 + ((al : Int) + (i : Int) + 1)) = 1000 + ((al : Int) + (i : Int) + 1) from i64_w (by omega))
          have W2 := Lib.hid (show wrap64 (1000 + ((al : Int) + (i : Int) + 1)) = 1000 + ((al : Int) + (i : Int) + 1) from w64_w (by omega))
          have W3 := Lib.hid (show IntKind.i64.wrap (2000 + ((al : Int) + (i : Int) + 1)) = 2000 + ((al : Int) + (i : Int) + 1) from i64_w (by omega))
          have W4 := Lib.hid (show wrap64 (2000 + ((al : Int) + (i : Int) + 1)) = 2000 + ((al : Int) + (i : Int) + 1) from w64_w (by omega))
          have hlt0 : al + 2 * i < L0.length := by rw [LEN.out]; omega
          have hlt1 : al + 2 * i + 1 < L0.length := by rw [LEN.out]; omega
          have HL0 := Lib.hid hlt0
          have HL1 := Lib.hid hlt1
          have HLB := Lib.hid (show decide (al ≤ al + 2 * i ∧ (al + 2 * i - al) % 2 = 0) = true from decide_eq_true (by omega))
          have HLB1 := Lib.hid (show decide (al ≤ al + 2 * i + 1 ∧ (al + 2 * i + 1 - al) % 2 = 0) = false from decide_eq_false (by omega))
          have HST := Lib.hid hst
          have HFS := Lib.hid hfs
          clear hin hmk hvl hpb hpo hst hfs hlt0 hlt1 hmk2 hvl2 hpb2 hpo2 y2
          obtain ⟨s0, hs0⟩ : ∃ s0, L0[al + 2 * i]? = some s0 := ⟨_, List.getElem?_eq_getElem HL0.out⟩
          obtain ⟨hxl, A0, c0, hv0, hA0⟩ := OW.out _ s0 hs0
          have hl0 : s0.l = true := (KD.out _ s0 hs0).trans HLB.out
          have hsz0 : s0.sz = 2 := by unfold Slo.sz; rw [hl0]; rfl
          have hn0 := HN.out _ s0 hs0
          rw [hsz0] at hxl
          have HS0 := Lib.hid hs0
          have HXL := Lib.hid hxl
          have HV0 := Lib.hid hv0
          have HA0 := Lib.hid hA0
          have HL0' := Lib.hid hl0
          obtain ⟨n0, hnn⟩ : ∃ n0, s0.n = n0 := ⟨_, rfl⟩
          have HNN := Lib.hid hnn
          rw [hnn] at hn0
          clear hs0 hxl hv0 hA0 hl0 hsz0 hnn
          have fx0 := W0.out
          go_wp2
          clear fx0
          clear y0 hwr
          obtain ⟨wo3, rfl⟩ : ∃ wo3 : World, wo3 = wr := ⟨_, rfl⟩
          go_loopw [7] (fun jv wr => ∃ (j : Nat) (L : List Slo), jv = .int .i64 j ∧ j ≤ n0 ∧ StI al L0 L (al + 2 * i) j ∧ FS W S0 #[.slice Aa al ca, .slice (some ⟨N, 0, none⟩) m cn, .slice none 0 0] A N al wr L) (fun jv _ => n0 - (intOf jv).toNat)
          case atStart => exact ⟨0, _, rfl, Nat.zero_le _, HST.out, HFS.out⟩
          case round =>
            obtain ⟨j, L, rfl, hj, hst, hfs⟩ := hrel
            clear HST HFS
            obtain ⟨s, hs, hsl, hsv, hsn, hsx⟩ := hst.now s0 HS0.out
            have y0 := rboxL hfs.box 1 rfl
            have hwr := hfs.size
            have o1 := hfs.out _ s hs
            rw [hsv, HV0.out, HV.out.2.1, HV.out.2.2, HNN.out] at o1
            have he : s.e = 83 := by unfold Slo.e; rw [hsl, HL0'.out]; rfl
            have hz : s.sz = 2 := by unfold Slo.sz; rw [hsl, HL0'.out]; rfl
            have own := hfs.own _ s hs
            rw [he, hz, hsv, HV0.out, hsn] at own
            rw [HNN.out] at own
            by_cases hjn : j < n0
            · obtain ⟨g, hg⟩ := HA0.out (by rw [HNN.out]; omega)
              rw [hg] at o1 own
              have hvg : s.v = .slice (some ⟨g, 0, none⟩) n0 c0 := by rw [hsv, HV0.out, hg, HNN.out]
              have hxlen : s.x.length = n0 * 2 := own.1
              have hxl1 : s.x.length = n0 * 2 := hxlen
              obtain ⟨old, c1⟩ : ∃ old, wr.cell? ⟨g, j * 2, none⟩ = some old := ⟨_, (World.ownsRow.cellAt own (j * 2) (by omega)).trans (List.getElem?_eq_getElem (show j * 2 < s.x.length by rw [hxlen]; omega))⟩
              have f1 := World.ownsRow.frozenAt own (j * 2)
              have hf1 := hfs.put hs hvg (j * 2) (.int .i64 (1000 + ((al : Int) + (i : Int) + 1)))
              have hs1 : (L.set (al + 2 * i) { s with x := s.x.set (j * 2) (.int .i64 (1000 + ((al : Int) + (i : Int) + 1))) })[al + 2 * i]? = some { s with x := s.x.set (j * 2) (.int .i64 (1000 + ((al : Int) + (i : Int) + 1))) } := List.getElem?_set_self (List.getElem?_eq_some_iff.1 hs).1
              have own2 := hf1.own _ _ hs1
              rw [show Slo.e { s with x := s.x.set (j * 2) (.int .i64 (1000 + ((al : Int) + (i : Int) + 1))) } = s.e from rfl, show Slo.sz { s with x := s.x.set (j * 2) (.int .i64 (1000 + ((al : Int) + (i : Int) + 1))) } = s.sz from rfl, he, hz] at own2
              rw [show ({ s with x := s.x.set (j * 2) (.int .i64 (1000 + ((al : Int) + (i : Int) + 1))) } : Slo).v = .slice (some ⟨g, 0, none⟩) n0 c0 from hvg, show ({ s with x := s.x.set (j * 2) (.int .i64 (1000 + ((al : Int) + (i : Int) + 1))) } : Slo).n = n0 from hsn.trans HNN.out] at own2
              have hxlen2 : (s.x.set (j * 2) (.int .i64 (1000 + ((al : Int) + (i : Int) + 1)))).length = n0 * 2 := by rw [List.length_set]; exact hxlen
              obtain ⟨old2, c2⟩ : ∃ old, (wr.setCell ⟨g, j * 2, none⟩ (.int .i64 (1000 + ((al : Int) + (i : Int) + 1)))).cell? ⟨g, j * 2 + 1, none⟩ = some old := ⟨_, (World.ownsRow.cellAt own2 (j * 2 + 1) (by omega)).trans (List.getElem?_eq_getElem (show j * 2 + 1 < (s.x.set (j * 2) (.int .i64 (1000 + ((al : Int) + (i : Int) + 1)))).length by rw [hxlen2]; omega))⟩
              have f2 := World.ownsRow.frozenAt own2 (j * 2 + 1)
              obtain ⟨old3, c3⟩ : ∃ old, wr.cell? ⟨g, j * 2 + 1, none⟩ = some old := ⟨_, (World.ownsRow.cellAt own (j * 2 + 1) (by omega)).trans (List.getElem?_eq_getElem (show j * 2 + 1 < s.x.length by rw [hxlen]; omega))⟩
              have f3 := World.ownsRow.frozenAt own (j * 2 + 1)
              have hf2 := hf1.put hs1 (show ({ s with x := s.x.set (j * 2) (.int .i64 (1000 + ((al : Int) + (i : Int) + 1))) } : Slo).v = .slice (some ⟨g, 0, none⟩) n0 c0 from hvg) (j * 2 + 1) (.int .i64 0)
              rw [List.set_set] at hf2
              have HFS := Lib.hid hf2
              have HST := Lib.hid (hst.put hs HS0.out (s' := { s with x := (s.x.set (j * 2) (.int .i64 (1000 + ((al : Int) + (i : Int) + 1)))).set (j * 2 + 1) (.int .i64 0) }) rfl rfl rfl (by
                show (s.x.set (j * 2) (.int .i64 (1000 + ((al : Int) + (i : Int) + 1)))).set (j * 2 + 1) (.int .i64 0) = _
                rw [hsx, HV.out.1]
                exact fill_put2 (by rw [HXL.out, HNN.out]; omega)))
              have HJ := Lib.hid hjn
              have e3 : (0 : Int) ≤ (j : Int) := by omega
              have e4 : (j : Int) < (n0 : Int) := by omega
              clear hs hsl hsv hsn hsx he hz own hjn hst hfs hg hvg hxlen hxl1 hf1 hs1 own2 hxlen2 hf2
              have fx1 := W1.out
              have fx2 := W2.out
              go_wp2
              clear fx1 fx2
              exact ⟨⟨j + 1, _, by go_num, HJ.out, HST.out, HFS.out⟩, by simp [intOf]; have := HJ.out; omega⟩
            · obtain rfl : n0 = j := by omega
              have AW := Lib.hid (hfs.out _ s hs)
              have HFS1 := Lib.hid hfs
              have HS := Lib.hid hs
              have HST1 := Lib.hid hst
              have HOWN := Lib.hid own
              have HE := Lib.hid (And.intro he (And.intro hz (And.intro hsn (And.intro hsl hsv))))
              have hob := hfs.plB_lt (al + 2 * i)
              rw [HV.out.2.1] at hob
              have hOB : N < wr.heap.size := by have := hob.1; omega
              have hne : N ≠ W.heap.size := by have := hob.1; omega
              have Z0 := Lib.hid hob
              have hn40 : n0 ≤ 40000000 := by omega
              clear hs hsl hsv hsn hsx he hz own hjn hst hfs hob AW Z0
              have fx1 := W1.out
              have fx2 := W2.out
              go_wp2
              apply merge3 (F := fun (g' cap : Nat) (w3 : World) => FS W S0 #[.slice Aa al ca, .slice (some ⟨N, 0, none⟩) m cn, .slice none 0 0] A N al (w3.setCell ⟨N, i * 11 + 3, none⟩ (.slice (some ⟨g', 0, none⟩) (n0 + 1) cap)) (L.set (al + 2 * i) ⟨.slice (some ⟨g', 0, none⟩) (n0 + 1) cap, s.l, n0 + 1, s.x ++ [.int .i64 (1000 + ((al : Int) + (i : Int) + 1)), .int .i64 0]⟩))
              case hg =>
                intro hc
                go_region_law (refine step_append_S HOWN.out (by rfl) (.tmp 112) (.tmp 116) 48 (by rfl) Try.underlying48 infoLnk rfl (by decide) (by rfl) #[.int .i64 (1000 + ((al : Int) + (i : Int) + 1)), .int .i64 0] _ (by rfl) rfl rfl (by intro u hu; simp only [List.mem_cons, List.not_mem_nil, or_false] at hu; rcases hu with rfl | rfl <;> rfl) hn40 (by decide) ?_; intro g' cap w3 ho ht hat hlt3; have ⟨f1, f2, f3⟩ := fs_app HFS1.out HS.out HV.out.2.1 HV.out.2.2 HE.out.1 HE.out.2.1 HE.out.2.2.1 (HE.out.2.2.2.2.trans HV0.out) HNN.out ht hat ho; have HFS := Lib.hid f1; have b3 := ht.block _ HFS1.out.size (fun hm => (HFS1.out.far HS.out (by rw [HE.out.2.2.2.2, HV0.out, HNN.out]; simpa using hm)).1 rfl); have b4 := rboxL (b3.trans HFS1.out.box) 1 rfl;  clear f1 ho ht hat hlt3 b3)
                all_goals exact hc g' cap w3 HFS.out
              intro g' cap w3 hfs
              have HFS := Lib.hid hfs
              clear hfs
              clear fx1 fx2
              have HST := Lib.hid (StI.next (k := al + 2 * i) (L := L) (s0 := s0) (s := s) (by rw [HNN.out]; exact HST1.out) HS0.out HS.out (by rw [HXL.out, HV.out.1]; rfl) (s' := ⟨.slice (some ⟨g', 0, none⟩) (n0 + 1) cap, s.l, n0 + 1, s.x ++ [.int .i64 (1000 + ((al : Int) + (i : Int) + 1)), .int .i64 0]⟩) rfl (by rw [HNN.out]) (by rw [HV.out.1]))
              clear HST1 HFS1 HS HOWN HE
              obtain ⟨s0, hs0⟩ : ∃ s0, L0[al + 2 * i + 1]? = some s0 := ⟨_, List.getElem?_eq_getElem HL1.out⟩
              obtain ⟨hxl, A0, c0, hv0, hA0⟩ := OW.out _ s0 hs0
              have hl0 : s0.l = false := (KD.out _ s0 hs0).trans HLB1.out
              have hsz0 : s0.sz = 1 := by unfold Slo.sz; rw [hl0]; rfl
              have hn0 := HN.out _ s0 hs0
              rw [hsz0] at hxl
              have HS0 := Lib.hid hs0
              have HXL := Lib.hid hxl
              have HV0 := Lib.hid hv0
              have HA0 := Lib.hid hA0
              have HL0' := Lib.hid hl0
              obtain ⟨n0, hnn⟩ : ∃ n0, s0.n = n0 := ⟨_, rfl⟩
              have HNN := Lib.hid hnn
              rw [hnn] at hn0
              clear hs0 hxl hv0 hA0 hl0 hsz0 hnn
              go_wp2
              clear y0 hwr
              obtain ⟨wo4, rfl⟩ : ∃ wo4 : World, wo4 = wr := ⟨_, rfl⟩
              go_loopw [8] (fun jv wr => ∃ (j : Nat) (L : List Slo), jv = .int .i64 j ∧ j ≤ n0 ∧ StI al L0 L (al + 2 * i + 1) j ∧ FS W S0 #[.slice Aa al ca, .slice (some ⟨N, 0, none⟩) m cn, .slice none 0 0] A N al wr L) (fun jv _ => n0 - (intOf jv).toNat)
              case atStart => exact ⟨0, _, rfl, Nat.zero_le _, HST.out, HFS.out⟩
              case round =>
                obtain ⟨j, L, rfl, hj, hst, hfs⟩ := hrel
                clear HST HFS
                obtain ⟨s, hs, hsl, hsv, hsn, hsx⟩ := hst.now s0 HS0.out
                have y0 := rboxL hfs.box 1 rfl
                have hwr := hfs.size
                have o1 := hfs.out _ s hs
                rw [hsv, HV0.out, HV2.out.2.1, HV2.out.2.2, HNN.out] at o1
                have he : s.e = 3 := by unfold Slo.e; rw [hsl, HL0'.out]; rfl
                have hz : s.sz = 1 := by unfold Slo.sz; rw [hsl, HL0'.out]; rfl
                have own := hfs.own _ s hs
                rw [he, hz, hsv, HV0.out, hsn] at own
                rw [HNN.out] at own
                by_cases hjn : j < n0
                · obtain ⟨g, hg⟩ := HA0.out (by rw [HNN.out]; omega)
                  rw [hg] at o1 own
                  have hvg : s.v = .slice (some ⟨g, 0, none⟩) n0 c0 := by rw [hsv, HV0.out, hg, HNN.out]
                  have hxlen : s.x.length = n0 * 1 := own.1
                  have hxl1 : s.x.length = n0 * 1 := hxlen
                  obtain ⟨old, c1⟩ : ∃ old, wr.cell? ⟨g, j, none⟩ = some old := ⟨_, (World.ownsRow.cellAt own j (by rw [Nat.mul_one]; exact hjn)).trans (List.getElem?_eq_getElem (show j < s.x.length by rw [hxlen]; omega))⟩
                  have f1 := World.ownsRow.frozenAt own j
                  have HFS := Lib.hid (hfs.put hs hvg j (.int .i64 (2000 + ((al : Int) + (i : Int) + 1))))
                  have HST := Lib.hid (hst.put hs HS0.out (s' := { s with x := s.x.set j (.int .i64 (2000 + ((al : Int) + (i : Int) + 1))) }) rfl rfl rfl (by
                    rw [show s.x.set j (.int .i64 (2000 + ((al : Int) + (i : Int) + 1))) = (fillV (valF al (al + 2 * i + 1)) j ++ s0.x.drop (j * (valF al (al + 2 * i + 1)).length)).set j (.int .i64 (2000 + ((al : Int) + (i : Int) + 1))) from by rw [hsx], HV2.out.1]
                    exact fill_put1 (by rw [HXL.out, HNN.out]; omega)))
                  have HJ := Lib.hid hjn
                  have e3 : (0 : Int) ≤ (j : Int) := by omega
                  have e4 : (j : Int) < (n0 : Int) := by omega
                  clear hs hsl hsv hsn hsx he hz own hjn hst hfs hg hvg hxlen hxl1 
                  have fx3 := W3.out
                  have fx4 := W4.out
                  go_wp2
                  clear fx3 fx4
                  exact ⟨⟨j + 1, _, by go_num, HJ.out, HST.out, HFS.out⟩, by simp [intOf]; have := HJ.out; omega⟩
                · obtain rfl : n0 = j := by omega
                  have AW := Lib.hid (hfs.out _ s hs)
                  have HFS1 := Lib.hid hfs
                  have HS := Lib.hid hs
                  have HST1 := Lib.hid hst
                  have HOWN := Lib.hid own
                  have HE := Lib.hid (And.intro he (And.intro hz (And.intro hsn (And.intro hsl hsv))))
                  have hob := hfs.plB_lt (al + 2 * i + 1)
                  rw [HV2.out.2.1] at hob
                  have hOB : N < wr.heap.size := by have := hob.1; omega
                  have hne : N ≠ W.heap.size := by have := hob.1; omega
                  have Z0 := Lib.hid hob
                  have hn40 : n0 ≤ 40000000 := by omega
                  clear hs hsl hsv hsn hsx he hz own hjn hst hfs hob AW Z0
                  have fx3 := W3.out
                  have fx4 := W4.out
                  go_wp2
                  apply merge3 (F := fun (g' cap : Nat) (w3 : World) => FS W S0 #[.slice Aa al ca, .slice (some ⟨N, 0, none⟩) m cn, .slice none 0 0] A N al (w3.setCell ⟨N, i * 11 + 4, none⟩ (.slice (some ⟨g', 0, none⟩) (n0 + 1) cap)) (L.set (al + 2 * i + 1) ⟨.slice (some ⟨g', 0, none⟩) (n0 + 1) cap, s.l, n0 + 1, s.x ++ [.int .i64 (2000 + ((al : Int) + (i : Int) + 1))]⟩))
                  case hg =>
                    intro hc
                    go_region_law (refine step_append_S HOWN.out (by rfl) (.tmp 149) (.tmp 152) 25 (by rfl) Try.underlying25 infoIntR rfl (by decide) (by rfl) #[.int .i64 (2000 + ((al : Int) + (i : Int) + 1))] _ (by rfl) rfl rfl (by intro u hu; simp only [List.mem_cons, List.not_mem_nil, or_false] at hu; rw [hu]; rfl) hn40 (by decide) ?_; intro g' cap w3 ho ht hat hlt3; have ⟨f1, f2, f3⟩ := fs_app HFS1.out HS.out HV2.out.2.1 HV2.out.2.2 HE.out.1 HE.out.2.1 HE.out.2.2.1 (HE.out.2.2.2.2.trans HV0.out) HNN.out ht hat ho; have HFS := Lib.hid f1; have b3 := ht.block _ HFS1.out.size (fun hm => (HFS1.out.far HS.out (by rw [HE.out.2.2.2.2, HV0.out, HNN.out]; simpa using hm)).1 rfl); have b4 := rboxL (b3.trans HFS1.out.box) 1 rfl;  clear f1 ho ht hat hlt3 b3)
                    all_goals exact hc g' cap w3 HFS.out
                  intro g' cap w3 hfs
                  have HFS := Lib.hid hfs
                  clear hfs
                  clear fx3 fx4
                  have HST := Lib.hid (StI.next (k := al + 2 * i + 1) (L := L) (s0 := s0) (s := s) (by rw [HNN.out]; exact HST1.out) HS0.out HS.out (by rw [HXL.out, HV2.out.1]; rfl) (s' := ⟨.slice (some ⟨g', 0, none⟩) (n0 + 1) cap, s.l, n0 + 1, s.x ++ [.int .i64 (2000 + ((al : Int) + (i : Int) + 1))]⟩) rfl (by rw [HNN.out]) (by rw [HV2.out.1]))
                  clear HST1 HFS1 HS HOWN HE
                  go_wp2
                  exact ⟨⟨i + 1, _, by go_num, by rw [show ((i + 1 : Nat) : Int) = (i : Int) + 1 by omega, ← Int.add_assoc], HI.out, HST.out, HFS.out⟩, by simp [intOf]; have := HI.out; omega⟩
        · obtain rfl : m = i := by omega
          have HST := Lib.hid hst
          have HFS := Lib.hid hfs
          clear hin hst hfs
          go_wp2
          clear y0 y2 hwr
          obtain ⟨wo5, rfl⟩ : ∃ wo5 : World, wo5 = wr := ⟨_, rfl⟩
          go_loopw [9] (fun jv wr => jv = .int .i64 0 ∧ FS W S0 #[.slice Aa al ca, .slice (some ⟨N, 0, none⟩) m cn, .slice none 0 0] A N al wr L) (fun _ _ => 0)
          case atStart => exact ⟨rfl, HFS.out⟩
          case round =>
            obtain ⟨rfl, hfs⟩ := hrel
            clear HFS
            have y2 := rboxL hfs.box 2 rfl
            have HFS := Lib.hid hfs
            have hwr := hfs.size
            clear hfs
            go_wp2_with (at_builtin; refine wpList_append_S (World.ownsRow_nil wr 0 3 1) rfl (.tmp 168) (.tmp 169) 25 rfl Try.underlying25 infoIntR rfl (by decide) rfl #[.int .i64 (-3000)] _ rfl rfl rfl (by intro u hu; simp only [List.mem_cons, List.not_mem_nil, or_false] at hu; rw [hu]; rfl) (by omega) (by decide) ?_; intro g9 cap w9 ho ht hat hlt9; have HF9 := Lib.hid (HFS.out.below (ht.below (Nat.le_refl _) (by simp [Value.ownBlock]))); have HO9 := Lib.hid ho; clear ho ht hat hlt9)
            clear y2 hwr HFS
            obtain ⟨wo6, rfl⟩ : ∃ wo6 : World, wo6 = w9 := ⟨_, rfl⟩
            go_loopw [11] (fun jv wr => ∃ j : Nat, jv = .int .i64 j ∧ j ≤ 1 ∧ wr.cell? ⟨g9, 0, none⟩ = some (.int .i64 (-3000)) ∧ FS W S0 #[.slice Aa al ca, .slice (some ⟨N, 0, none⟩) m cn, .slice none 0 0] A N al wr L) (fun jv _ => 1 - (intOf jv).toNat)
            case atStart => exact ⟨0, rfl, by omega, HO9.out.cellAt 0 (by simp), HF9.out⟩
            case round =>
              obtain ⟨j, rfl, hj, hc9, hfs⟩ := hrel
              clear HF9 HO9
              rcases Nat.eq_zero_or_pos j with rfl | hjp
              · have HFS := Lib.hid hfs
                have HC := Lib.hid hc9
                clear hfs
                go_wp2
                exact ⟨⟨1, rfl, Nat.le_refl _, HC.out, HFS.out⟩, by simp [intOf]⟩
              · obtain rfl : j = 1 := by omega
                have HFS := Lib.hid hfs
                clear hfs hc9
                go_wp2
                obtain ⟨wo7, rfl⟩ : ∃ wo7 : World, wo7 = wr := ⟨_, rfl⟩
                go_loopw [3, 12] (fun mv iv wr => ∃ i : Nat, iv = .int .i64 i ∧ mv = .int .i64 (i : Int) ∧ i ≤ al ∧ FS W S0 #[.slice Aa al ca, .slice (some ⟨N, 0, none⟩) m cn, .slice none 0 0] A N al wr L) (fun _ iv _ => al - (intOf iv).toNat)
                case atStart => exact ⟨0, rfl, rfl, Nat.zero_le _, HFS.out⟩
                case round =>
                  obtain ⟨i, rfl, rfl, hi, hfs⟩ := hrel
                  clear HFS
                  have y0 := rboxL hfs.box 0 rfl
                  by_cases hin : i < al
                  · have e1 : (0 : Int) ≤ (i : Int) := by omega
                    have e2 : (i : Int) < (al : Int) := by omega
                    have HI := Lib.hid hin
                    have HAe := Lib.hid (HAA.out (by omega))
                    have hmk : mkF al i = (i : Int) + 1 := by unfold mkF; rw [if_pos hin]
                    have hvl : valF al i = [.int .i64 (1000 + ((i : Int) + 1))] := by unfold valF; rw [if_pos hin, hmk]
                    have hpb : plB al A N i = A := by unfold plB; rw [if_pos hin]
                    have hpo : plO al i = i * 2 + 1 := by unfold plO; rw [if_pos hin]; omega
                    have HV := Lib.hid (And.intro hvl (And.intro hpb hpo))
                    have W1 := Lib.hid (show IntKind.i64.wrap (1000 + ((i : Int) + 1)) = 1000 + ((i : Int) + 1) from i64_w (by omega))
                    have W2 := Lib.hid (show wrap64 (1000 + ((i : Int) + 1)) = 1000 + ((i : Int) + 1) from w64_w (by omega))
                    have HL0 := Lib.hid (show i < L0.length by rw [LEN.out]; omega)
                    have HQ := Lib.hid (show i < al + 2 * m by omega)
                    have HLB := Lib.hid (show decide (al ≤ i ∧ (i - al) % 2 = 0) = false from decide_eq_false (by omega))
                    have HFS := Lib.hid hfs
                    rw [HAe.out] at y0
                    clear hin hmk hvl hpb hpo hfs
                    obtain ⟨s0, hs0⟩ : ∃ s0, L0[i]? = some s0 := ⟨_, List.getElem?_eq_getElem HL0.out⟩
                    obtain ⟨s, hs, hsl, hsn, hsx⟩ := HST.out.done _ s0 hs0 HQ.out
                    have hl0 : s0.l = false := (KD.out _ s0 hs0).trans HLB.out
                    have he : s.e = 3 := by unfold Slo.e; rw [hsl, hl0]; rfl
                    have hz : s.sz = 1 := by unfold Slo.sz; rw [hsl, hl0]; rfl
                    have hn0 := HN.out _ s0 hs0
                    obtain ⟨n0, hnn⟩ : ∃ n0, s0.n = n0 := ⟨_, rfl⟩
                    rw [hnn] at hsn hsx hn0
                    obtain ⟨A0, c0, hv0, hA0⟩ := own_formS (HFS.out.own _ s hs)
                    obtain ⟨g, hg⟩ := hA0 (by rw [hsn]; omega)
                    rw [hg, hsn] at hv0
                    have HS := Lib.hid hs
                    have HE := Lib.hid (And.intro he (And.intro hz (And.intro hsn (And.intro hv0 hsx))))
                    clear hs0 hs hsl hsn hsx hl0 he hz hnn hv0 hA0 hg
                    go_wp2
                    clear y0
                    obtain ⟨woe, rfl⟩ : ∃ woe : World, woe = wr := ⟨_, rfl⟩
                    go_loopw [13] (fun jv wr => ∃ j : Nat, jv = .int .i64 j ∧ j ≤ n0 + 1 ∧ FS W S0 #[.slice Aa al ca, .slice (some ⟨N, 0, none⟩) m cn, .slice none 0 0] A N al wr L) (fun jv _ => n0 + 1 - (intOf jv).toNat)
                    case atStart => exact ⟨0, rfl, Nat.zero_le _, HFS.out⟩
                    case round =>
                      obtain ⟨j, rfl, hj, hfs⟩ := hrel
                      clear HFS
                      have y0 := rboxL hfs.box 0 rfl
                      rw [HAe.out] at y0
                      have o1 := hfs.out _ s HS.out
                      rw [HE.out.2.2.2.1, HV.out.2.1, HV.out.2.2] at o1
                      have own := hfs.own _ s HS.out
                      rw [HE.out.1, HE.out.2.1, HE.out.2.2.1, HE.out.2.2.2.1] at own
                      by_cases hjn : j < n0 + 1
                      · have c1 : wr.cell? ⟨g, j, none⟩ = some (.int .i64 (1000 + ((i : Int) + 1))) := (World.ownsRow.cellAt own (j) (by omega)).trans (by
                          rw [HE.out.2.2.2.2, HV.out.1]
                          exact by have := fillV_at (e := [.int .i64 (1000 + ((i : Int) + 1))]) (i := 0) hjn rfl; simpa using this)
                        have HJ := Lib.hid hjn
                        have HFS := Lib.hid hfs
                        have e3 : (0 : Int) ≤ (j : Int) := by omega
                        have e4 : (j : Int) < ((n0 + 1 : Nat) : Int) := by omega
                        have e5 : (j : Int) < (n0 : Int) + 1 := by omega
                        clear own hjn hfs
                        have fx1 := W1.out
                        have fx2 := W2.out
                        go_wp2
                        clear fx1 fx2
                        exact ⟨⟨j + 1, by go_num, HJ.out, HFS.out⟩, by simp [intOf]; have := HJ.out; omega⟩
                      · obtain rfl : j = n0 + 1 := by omega
                        have HFS := Lib.hid hfs
                        clear own hjn hfs
                        go_wp2
                        exact ⟨⟨i + 1, by go_num, by go_num, HI.out, HFS.out⟩, by simp [intOf]; have := HI.out; omega⟩
                  · obtain rfl : al = i := by omega
                    have HFS := Lib.hid hfs
                    clear hin hfs
                    go_wp2
                    clear y0
                    obtain ⟨wo8, rfl⟩ : ∃ wo8 : World, wo8 = wr := ⟨_, rfl⟩
                    go_loopw [3, 14] (fun mv iv wr => ∃ i : Nat, iv = .int .i64 i ∧ mv = .int .i64 ((al : Int) + (i : Int)) ∧ i ≤ m ∧ FS W S0 #[.slice Aa al ca, .slice (some ⟨N, 0, none⟩) m cn, .slice none 0 0] A N al wr L) (fun _ iv _ => m - (intOf iv).toNat)
                    case atStart => exact ⟨0, rfl, by simp, Nat.zero_le _, HFS.out⟩
                    case round =>
                      obtain ⟨i, rfl, rfl, hi, hfs⟩ := hrel
                      clear HFS
                      have y0 := rboxL hfs.box 1 rfl
                      by_cases hin : i < m
                      · have e1 : (0 : Int) ≤ (i : Int) := by omega
                        have e2 : (i : Int) < (m : Int) := by omega
                        have HI := Lib.hid hin
                        have hmk : mkF al (al + 2 * i) = (al : Int) + (i : Int) + 1 := by unfold mkF; rw [if_neg (by omega), show al + (al + 2 * i - al) / 2 = al + i by omega]; omega
                        have hmk2 : mkF al (al + 2 * i + 1) = (al : Int) + (i : Int) + 1 := by unfold mkF; rw [if_neg (by omega), show al + (al + 2 * i + 1 - al) / 2 = al + i by omega]; omega
                        have hvl : valF al (al + 2 * i) = [.int .i64 (1000 + ((al : Int) + (i : Int) + 1)), .int .i64 0] := by unfold valF; rw [if_neg (by omega), if_pos (by omega), hmk]
                        have hvl2 : valF al (al + 2 * i + 1) = [.int .i64 (2000 + ((al : Int) + (i : Int) + 1))] := by unfold valF; rw [if_neg (by omega), if_neg (by omega), hmk2]
                        have hpb : plB al A N (al + 2 * i) = N := by unfold plB; rw [if_neg (by omega)]
                        have hpb2 : plB al A N (al + 2 * i + 1) = N := by unfold plB; rw [if_neg (by omega)]
                        have hpo : plO al (al + 2 * i) = i * 11 + 3 := by unfold plO; rw [if_neg (by omega)]; omega
                        have hpo2 : plO al (al + 2 * i + 1) = i * 11 + 4 := by unfold plO; rw [if_neg (by omega)]; omega
                        have HV := Lib.hid (And.intro hvl (And.intro hpb hpo))
                        have HV2 := Lib.hid (And.intro hvl2 (And.intro hpb2 hpo2))
                        have W0 := Lib.hid (show IntKind.i64.wrap ((al : Int) + (i : Int) + 1) = (al : Int) + (i : Int) + 1 from i64_w (by omega))
                        have W1 := Lib.hid (show IntKind.i64.wrap (1000 + ((al : Int) + (i : Int) + 1)) = 1000 + ((al : Int) + (i : Int) + 1) from i64_w (by omega))
                        have W2 := Lib.hid (show wrap64 (1000 + ((al : Int) + (i : Int) + 1)) = 1000 + ((al : Int) + (i : Int) + 1) from w64_w (by omega))
                        have W3 := Lib.hid (show IntKind.i64.wrap (2000 + ((al : Int) + (i : Int) + 1)) = 2000 + ((al : Int) + (i : Int) + 1) from i64_w (by omega))
                        have W4 := Lib.hid (show wrap64 (2000 + ((al : Int) + (i : Int) + 1)) = 2000 + ((al : Int) + (i : Int) + 1) from w64_w (by omega))
                        have HL0 := Lib.hid (show al + 2 * i < L0.length by rw [LEN.out]; omega)
                        have HL1 := Lib.hid (show al + 2 * i + 1 < L0.length by rw [LEN.out]; omega)
                        have HQ := Lib.hid (show al + 2 * i < al + 2 * m by omega)
                        have HQ1 := Lib.hid (show al + 2 * i + 1 < al + 2 * m by omega)
                        have HLB := Lib.hid (show decide (al ≤ al + 2 * i ∧ (al + 2 * i - al) % 2 = 0) = true from decide_eq_true (by omega))
                        have HLB1 := Lib.hid (show decide (al ≤ al + 2 * i + 1 ∧ (al + 2 * i + 1 - al) % 2 = 0) = false from decide_eq_false (by omega))
                        have HFS := Lib.hid hfs
                        clear hin hmk hvl hpb hpo hfs hmk2 hvl2 hpb2 hpo2
                        obtain ⟨s0, hs0⟩ : ∃ s0, L0[al + 2 * i]? = some s0 := ⟨_, List.getElem?_eq_getElem HL0.out⟩
                        obtain ⟨s, hs, hsl, hsn, hsx⟩ := HST.out.done _ s0 hs0 HQ.out
                        have hl0 : s0.l = true := (KD.out _ s0 hs0).trans HLB.out
                        have he : s.e = 83 := by unfold Slo.e; rw [hsl, hl0]; rfl
                        have hz : s.sz = 2 := by unfold Slo.sz; rw [hsl, hl0]; rfl
                        have hn0 := HN.out _ s0 hs0
                        obtain ⟨n0, hnn⟩ : ∃ n0, s0.n = n0 := ⟨_, rfl⟩
                        rw [hnn] at hsn hsx hn0
                        obtain ⟨A0, c0, hv0, hA0⟩ := own_formS (HFS.out.own _ s hs)
                        obtain ⟨g, hg⟩ := hA0 (by rw [hsn]; omega)
                        rw [hg, hsn] at hv0
                        have HS := Lib.hid hs
                        have HE := Lib.hid (And.intro he (And.intro hz (And.intro hsn (And.intro hv0 hsx))))
                        clear hs0 hs hsl hsn hsx hl0 he hz hnn hv0 hA0 hg
                        have fx0 := W0.out
                        go_wp2
                        clear fx0
                        clear y0
                        obtain ⟨wof, rfl⟩ : ∃ wof : World, wof = wr := ⟨_, rfl⟩
                        go_loopw [15] (fun jv wr => ∃ j : Nat, jv = .int .i64 j ∧ j ≤ n0 + 1 ∧ FS W S0 #[.slice Aa al ca, .slice (some ⟨N, 0, none⟩) m cn, .slice none 0 0] A N al wr L) (fun jv _ => n0 + 1 - (intOf jv).toNat)
                        case atStart => exact ⟨0, rfl, Nat.zero_le _, HFS.out⟩
                        case round =>
                          obtain ⟨j, rfl, hj, hfs⟩ := hrel
                          clear HFS
                          have y0 := rboxL hfs.box 1 rfl
                          have o1 := hfs.out _ s HS.out
                          rw [HE.out.2.2.2.1, HV.out.2.1, HV.out.2.2] at o1
                          have own := hfs.own _ s HS.out
                          rw [HE.out.1, HE.out.2.1, HE.out.2.2.1, HE.out.2.2.2.1] at own
                          by_cases hjn : j < n0 + 1
                          · have c1 : wr.cell? ⟨g, j * 2, none⟩ = some (.int .i64 (1000 + ((al : Int) + (i : Int) + 1))) := (World.ownsRow.cellAt own (j * 2) (by omega)).trans (by
                              rw [HE.out.2.2.2.2, HV.out.1]
                              exact by have := fillV_at (e := [.int .i64 (1000 + ((al : Int) + (i : Int) + 1)), .int .i64 0]) (i := 0) hjn rfl; simpa using this)
                            have HJ := Lib.hid hjn
                            have HFS := Lib.hid hfs
                            have e3 : (0 : Int) ≤ (j : Int) := by omega
                            have e4 : (j : Int) < ((n0 + 1 : Nat) : Int) := by omega
                            have e5 : (j : Int) < (n0 : Int) + 1 := by omega
                            clear own hjn hfs
                            have fx1 := W1.out
                            have fx2 := W2.out
                            go_wp2
                            clear fx1 fx2
                            exact ⟨⟨j + 1, by go_num, HJ.out, HFS.out⟩, by simp [intOf]; have := HJ.out; omega⟩
                          · obtain rfl : j = n0 + 1 := by omega
                            have HFS := Lib.hid hfs
                            clear own hjn hfs
                            obtain ⟨s0, hs0⟩ : ∃ s0, L0[al + 2 * i + 1]? = some s0 := ⟨_, List.getElem?_eq_getElem HL1.out⟩
                            obtain ⟨s, hs, hsl, hsn, hsx⟩ := HST.out.done _ s0 hs0 HQ1.out
                            have hl0 : s0.l = false := (KD.out _ s0 hs0).trans HLB1.out
                            have he : s.e = 3 := by unfold Slo.e; rw [hsl, hl0]; rfl
                            have hz : s.sz = 1 := by unfold Slo.sz; rw [hsl, hl0]; rfl
                            have hn0 := HN.out _ s0 hs0
                            obtain ⟨n0, hnn⟩ : ∃ n0, s0.n = n0 := ⟨_, rfl⟩
                            rw [hnn] at hsn hsx hn0
                            obtain ⟨A0, c0, hv0, hA0⟩ := own_formS (HFS.out.own _ s hs)
                            obtain ⟨g, hg⟩ := hA0 (by rw [hsn]; omega)
                            rw [hg, hsn] at hv0
                            have HS := Lib.hid hs
                            have HE := Lib.hid (And.intro he (And.intro hz (And.intro hsn (And.intro hv0 hsx))))
                            clear hs0 hs hsl hsn hsx hl0 he hz hnn hv0 hA0 hg
                            go_wp2
                            clear y0
                            obtain ⟨wog, rfl⟩ : ∃ wog : World, wog = wr := ⟨_, rfl⟩
                            go_loopw [16] (fun jv wr => ∃ j : Nat, jv = .int .i64 j ∧ j ≤ n0 + 1 ∧ FS W S0 #[.slice Aa al ca, .slice (some ⟨N, 0, none⟩) m cn, .slice none 0 0] A N al wr L) (fun jv _ => n0 + 1 - (intOf jv).toNat)
                            case atStart => exact ⟨0, rfl, Nat.zero_le _, HFS.out⟩
                            case round =>
                              obtain ⟨j, rfl, hj, hfs⟩ := hrel
                              clear HFS
                              have y0 := rboxL hfs.box 1 rfl
                              have o1 := hfs.out _ s HS.out
                              rw [HE.out.2.2.2.1, HV2.out.2.1, HV2.out.2.2] at o1
                              have own := hfs.own _ s HS.out
                              rw [HE.out.1, HE.out.2.1, HE.out.2.2.1, HE.out.2.2.2.1] at own
                              by_cases hjn : j < n0 + 1
                              · have c1 : wr.cell? ⟨g, j, none⟩ = some (.int .i64 (2000 + ((al : Int) + (i : Int) + 1))) := (World.ownsRow.cellAt own (j) (by omega)).trans (by
                                  rw [HE.out.2.2.2.2, HV2.out.1]
                                  exact by have := fillV_at (e := [.int .i64 (2000 + ((al : Int) + (i : Int) + 1))]) (i := 0) hjn rfl; simpa using this)
                                have HJ := Lib.hid hjn
                                have HFS := Lib.hid hfs
                                have e3 : (0 : Int) ≤ (j : Int) := by omega
                                have e4 : (j : Int) < ((n0 + 1 : Nat) : Int) := by omega
                                have e5 : (j : Int) < (n0 : Int) + 1 := by omega
                                clear own hjn hfs
                                have fx3 := W3.out
                                have fx4 := W4.out
                                go_wp2
                                clear fx3 fx4
                                exact ⟨⟨j + 1, by go_num, HJ.out, HFS.out⟩, by simp [intOf]; have := HJ.out; omega⟩
                              · obtain rfl : j = n0 + 1 := by omega
                                have HFS := Lib.hid hfs
                                clear own hjn hfs
                                go_wp2
                                exact ⟨⟨i + 1, by go_num, by rw [show ((i + 1 : Nat) : Int) = (i : Int) + 1 by omega, ← Int.add_assoc], HI.out, HFS.out⟩, by simp [intOf]; have := HI.out; omega⟩
                      · obtain rfl : m = i := by omega
                        have HT := Lib.hid hfs.turns
                        clear hin hfs
                        go_wp2
                        go_ret
                        exact ⟨rfl, HT.out⟩
end Go.Proofs.Ytonkbjdeaneicaa
