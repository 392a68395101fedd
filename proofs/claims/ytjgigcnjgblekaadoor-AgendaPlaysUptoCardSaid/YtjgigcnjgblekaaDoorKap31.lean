/- AgendaPlays: the walk. -/
import Derived.Test.YtjgigcnjgblekaaDoorKap30
namespace Go.Proofs.YtjgigcnjgblekaaDoor
open Go Go.RowKit Go.Maps Classical

def sumCh (l : List OpP) : Nat := (l.map fun o => o.cl.length).sum
theorem sumCh_snoc {l : List OpP} {k : Nat} {o : OpP} (h : l[k]? = some o) : sumCh (l.take (k + 1)) = sumCh (l.take k) + o.cl.length := by
  unfold sumCh
  rw [List.take_add_one, h]
  simp
theorem sumCh_le (l : List OpP) (k : Nat) : sumCh (l.take k) ≤ sumCh l := by
  have e : sumCh l = sumCh (l.take k) + sumCh (l.drop k) := by
    unfold sumCh
    rw [← List.sum_append, ← List.map_append, List.take_append_drop]
  omega
/-- The law's start: the reference, then the agenda. -/
theorem mix_start {w w1 w2 : World} {rb p mc mf : Nat} {lv cv : Value} {xs : List Int} {cs : List Cst} (r : w1.heap[rb]? = some (.cells #[lv, cv, .slice none 0 0, .slice none 0 0] 89 (0, 0)))
    (h1 : RSl (fun b => w.heap.size ≤ b ∧ b ≠ rb) w1 1 EInt lv (lev0 xs)) (h2 : RSl (fun b => w.heap.size ≤ b ∧ b ≠ rb) w1 3 ECst cv cs) (hrb : w.heap.size ≤ rb) (b1 : Below w.heap.size w w1) (hA : AgAt [mc, mf, rb] w2 p mc mf ⟨lev0 xs, cs, [], []⟩ 0) (b2 : Below w1.heap.size w1 w2) (g1 : w1.heap.size ≤ mc) (g2 : w1.heap.size ≤ mf)
    (hcz : ∀ c ∈ cs, c.s.size ≤ maxLen) : Mix [mc, mf, rb] w.heap.size p mc mf rb 0 ⟨lev0 xs, cs, [], []⟩ ⟨lev0 xs, cs, [], []⟩ w2 := by
  have hlt := lt_of_heap r
  have hs1 := b1.size
  have hF : ∀ b, b < w1.heap.size → (w.heap.size ≤ b ∧ b ≠ rb) → b ∉ [mc, mf, rb] := fun b hb hf hm => by
    simp only [List.mem_cons, List.not_mem_nil, or_false] at hm
    rcases hm with e | e | e
    · omega
    · omega
    · exact hf.2 e
  refine ⟨hA, ⟨⟨lv, cv, _, _, (b2.block _ hlt).trans r, h1.kp (Kp.of_below b2) hF (fun _ _ h => h), h2.kp (Kp.of_below b2) hF (fun _ _ h => h), OwnF.nil, OwnF.nil, fun b hb => by simp [Value.ownBlock] at hb, fun b hb => by simp [Value.ownBlock] at hb, fun b hb => by simp [Value.ownBlock] at hb⟩, ⟨by simp, ?_⟩, hA.ok, fun a ha => by simp at ha, fun a ha => by simp at ha, hA.big, hcz⟩, fun x hx => ?_, Nat.le_trans hs1 b2.size, fun x hx => ?_⟩
  · intro hm
    simp only [List.mem_cons, List.not_mem_nil, or_false] at hm
    rcases hm with e | e <;> omega
  · have k1 := hA.con.lt
    have k2 := hA.fir.lt
    have k3 := b2.size
    simp only [List.mem_cons, List.not_mem_nil, or_false] at hx
    rcases hx with e | e | e <;> omega
  · simp only [List.mem_cons, List.not_mem_nil, or_false] at hx
    rcases hx with e | e | e <;> omega
set_option maxRecDepth 100000 in
set_option maxHeartbeats 8000000 in
theorem playsW (lvv cvv scv : Value) (levels : List Int) (cs : List Cst) (script : List OpP) (w : World) (h1 : RSl (fun b => b < w.heap.size) w 1 EInt lvv levels) (h2 : RSl (fun b => b < w.heap.size) w 3 ECst cvv cs) (h3 : RSl (fun b => b < w.heap.size) w 5 (EOpP (fun b => b < w.heap.size) w) scv script)
    (hl : levels.length ≤ 1048576) (hc : cs.length ≤ 1048576) (hs : script.length ≤ 1048576) (hch : sumCh script ≤ 1048576) (hcz : ∀ c ∈ cs, c.s.size ≤ maxLen) (ht : Tab w) :
    Calls Tryd.prog 5 #[lvv, cvv, scv] w fun e w' => e = .returned (.bool true) ∧ Below w.heap.size w w' := by
  obtain ⟨A1, c1, rfl⟩ := h1.form
  obtain ⟨A2, c2, rfl⟩ := h2.form
  obtain ⟨A3, c3, rfl⟩ := h3.form
  have RN := Lib.hid (rnewW (.slice A1 levels.length c1) (.slice A2 cs.length c2) levels cs w h1 h2 (by omega) (by omega))
  have H1 := Lib.hid h1
  have H2 := Lib.hid h2
  have H3 := Lib.hid h3
  have HL := Lib.hid hl
  have HC := Lib.hid hc
  have HSL := Lib.hid hs
  have HCH := Lib.hid hch
  have HZ := Lib.hid hcz
  have HT := Lib.hid (fun (W : World) (hW : Below w.heap.size w W) => ht.below hW)
  clear h1 h2 h3 hl hc hch hcz ht
  go_enter Tryd.func5, Tryd.ntmps5
  go_wp2_with fail
  refine RN.out.mono ?_
  rintro e w1 ⟨rb, lv, cv, rfl, q1, q2, q3, q4, q5⟩
  have NW := Lib.hid (newW (F := fun b => b < w.heap.size) [rb] (.slice A1 levels.length c1) (.slice A2 cs.length c2) levels cs w1 (H1.out.keep (Kp.of_below q5)) (H2.out.keep (Kp.of_below q5)) (by have := HC.out; omega) (by have := HL.out; omega) (fun x hx => by rw [List.mem_singleton.1 hx]; exact lt_of_heap q1))
  have Q := Lib.hid (And.intro q1 (And.intro q2 (And.intro q3 (And.intro q4 q5))))
  clear q1 q2 q3 q4 q5 RN
  go_wp2_with fail
  refine NW.out.mono ?_
  rintro e w2 ⟨p, mc, mf, rfl, hA, hb2, g1, g2, g3⟩
  have MX := Lib.hid (mix_start Q.out.1 Q.out.2.1 Q.out.2.2.1 Q.out.2.2.2.1 Q.out.2.2.2.2 hA hb2 g1 g2 HZ.out)
  have B2 := Lib.hid (Q.out.2.2.2.2.trans (hb2.mono Q.out.2.2.2.2.size))
  clear hA hb2 g1 g2 g3 Q NW
  go_upto_region 6 with fail
  go_loopw [9] (fun i wr => ∃ (k : Nat) (M : List Nat) (g : Agd), i = .int .i64 (k : Int) ∧ k ≤ script.length ∧ Mix M w.heap.size p mc mf rb (sumCh (script.take k) + k) g g wr ∧ g.C.length ≤ sumCh (script.take k) ∧ g.D.length ≤ k ∧ Below w.heap.size w wr) (fun i _ => script.length - (intOf i).toNat)
  case atStart => exact ⟨0, _, _, rfl, Nat.zero_le _, by simpa [sumCh] using MX.out, by simp, by simp, B2.out⟩
  case round =>
    obtain ⟨k, M, g, rfl, hk, hm, hgC, hgD, hb⟩ := hrel
    clear MX B2
    have MX := Lib.hid hm
    have HG := Lib.hid (And.intro hgC hgD)
    have HBW := Lib.hid hb
    clear hm hgC hgD hb
    by_cases hkn : k < script.length
    · obtain ⟨o, ho⟩ : ∃ o, script[k]? = some o := ⟨_, List.getElem?_eq_getElem hkn⟩
      have HSN := Lib.hid (sumCh_snoc ho)
      obtain ⟨b, off, rfl, _, _, cs', ⟨chv, sv, rfl, hchv, hsv, hok, hn⟩, hc'⟩ := (EOpP.all H3.out (Kp.of_below HBW.out) (fun _ _ h => h)).at ho
      obtain ⟨A4, c4, rfl⟩ := hchv.form
      obtain ⟨A5, c5, rfl⟩ := hsv.form
      have d0 := hc' 0 _ rfl
      have d1 := hc' 1 _ rfl
      have d2 := hc' 2 _ rfl
      have d3 := hc' 3 _ rfl
      have d4 := hc' 4 _ rfl
      simp only [Nat.add_zero] at d0
      have hle : sumCh (script.take k) + o.cl.length ≤ 1048576 := by
        have h1 := sumCh_le script (k + 1)
        have h2 := HSN.out
        have h3 := HCH.out
        omega
      have SW := Lib.hid (stepW o.kind o.n o.ac o.cl (.slice A4 o.cl.length c4) (.slice A5 o.ac.sub.length c5) wr MX.out hchv hsv hok hn (by have := HG.out.1; omega) (by have := HG.out.2; omega) (by unfold maxLen; omega) (fun W hW => HT.out W (HBW.out.trans hW)))
      have e1 : (0 : Int) ≤ (k : Int) := by omega
      have e2 : (k : Int) < (script.length : Int) := by omega
      clear ho hchv hsv hok hn hc'
      go_wp2_with fail
      refine SW.out.mono ?_
      rintro e w5 ⟨rfl, M', g', hm', hr', hc5, hd5⟩
      have M5 := Lib.hid (show Mix M' w.heap.size p mc mf rb (sumCh (script.take (k + 1)) + (k + 1)) g' g' w5 by rw [HSN.out]; exact hm'.mono (by omega))
      have G5 := Lib.hid (show g'.C.length ≤ sumCh (script.take (k + 1)) ∧ g'.D.length ≤ k + 1 by rw [HSN.out]; have h1 := HG.out.1; have h2 := HG.out.2; exact ⟨by omega, by omega⟩)
      have B5 := Lib.hid (HBW.out.trans (hr'.to MX.out.MB MX.out.BB))
      clear hm' hr' hc5 hd5 SW d0 d1 d2 d3 d4 hle
      go_wp2
      exact ⟨⟨k + 1, M', g', by go_num, by omega, M5.out, G5.out.1, G5.out.2, B5.out⟩, by simp [intOf]; omega⟩
    · obtain rfl : k = script.length := by omega
      have hgC : g.C.length ≤ 40000000 := by have := HG.out.1; have := sumCh_le script script.length; have := HCH.out; omega
      have hgD : g.D.length ≤ 40000000 := by have := HG.out.2; omega
      have AW := Lib.hid (fun (kd : Int) (W : World) (hW : Below wr.heap.size wr W) => asksW kd 0 0 none none 0 0 0 0 W (MX.out.ply.below hW) hgC hgD (by unfold i64ok; decide))
      obtain ⟨wb, rfl⟩ : ∃ x, x = wr := ⟨_, rfl⟩
      clear hgC hgD
      go_upto_region 11 with fail
      go_loopw [10] (fun i wr => ∃ q : Nat, i = .int .i64 (q : Int) ∧ 2 ≤ q ∧ q ≤ 7 ∧ Below wb.heap.size wb wr) (fun i _ => 7 - (intOf i).toNat)
      case atStart => exact ⟨2, rfl, by omega, by omega, Below.refl _ _⟩
      case round =>
        obtain ⟨q, rfl, hq1, hq2, hb⟩ := hrel
        have HBQ := Lib.hid hb
        clear hb
        by_cases hq : q ≤ 6
        · have CW := Lib.hid (AW.out (q : Int) wr HBQ.out)
          have e1 : (q : Int) ≤ 6 := by omega
          go_wp2_with fail
          refine CW.out.mono ?_
          rintro e w6 ⟨rfl, hb6⟩
          have B6 := Lib.hid (HBQ.out.trans (hb6.mono HBQ.out.size))
          clear hb6 CW
          go_wp2
          exact ⟨⟨q + 1, by go_num, by omega, by omega, B6.out⟩, by simp [intOf]; omega⟩
        · have e1 : ¬ (q : Int) ≤ 6 := by omega
          have CW := Lib.hid (AW.out 8 wr HBQ.out)
          go_wp2_with fail
          refine CW.out.mono ?_
          rintro e w6 ⟨rfl, hb6⟩
          have B6 := Lib.hid (HBQ.out.trans (hb6.mono HBQ.out.size))
          clear hb6 CW
          go_wp2
          go_ret
          exact ⟨rfl, HBW.out.trans (B6.out.mono HBW.out.size)⟩
end Go.Proofs.YtjgigcnjgblekaaDoor
