/- endsRight. -/
import Derived.Test.YtonkbjdeaneicaaWay
namespace Go.Proofs.Ytonkbjdeaneicaa.Pln
open Classical
/-- The next node that no earlier way had. -/
noncomputable def onF (x : Option Nat) (n : Nat) : Option Nat := match x with
  | none => none
  | some q => if n ≤ q then (if n = q then some (q + 1) else some q) else none
noncomputable def endE (ns : List Nd) (x : Option Nat) (e : Int) : Option Nat := match x with
  | none => none
  | some q => if 0 ≤ e ∧ e < (ns.length : Int) then (wayN ns e.toNat).foldl onF (some q) else none
def endsP (ns : List Nd) (es : List Int) : Prop := es.foldl (endE ns) (some 1) = some ns.length
theorem onF_none (l : List Nat) : l.foldl onF none = none := by
  induction l with
  | nil => rfl
  | cons n r ih => exact ih
theorem endE_none (ns : List Nd) (es : List Int) : es.foldl (endE ns) none = none := by
  induction es with
  | nil => rfl
  | cons n r ih => exact ih
theorem fold_next {α β : Type} (f : β → α → β) (b : β) {l : List α} {k : Nat} {x : α} (h : l[k]? = some x) : (l.take (k + 1)).foldl f b = f ((l.take k).foldl f b) x := by
  rw [List.take_add_one, h, List.foldl_append]; rfl
theorem fold_all {α β : Type} (f : β → α → β) (b : β) (l : List α) (k : Nat) : l.foldl f b = (l.drop k).foldl f ((l.take k).foldl f b) := by
  rw [← List.foldl_append, List.take_append_drop]
end Go.Proofs.Ytonkbjdeaneicaa.Pln
namespace Go.Proofs.Ytonkbjdeaneicaa
open Go.RowKit Pln Classical Go.Maps

set_option maxRecDepth 200000 in
set_option maxHeartbeats 4000000 in
theorem endsW {F : Nat → Prop} (W : World) (av nv ev : Value) (al : List Shp) (ns : List Nd) (es : List Int) (hN : RSl F W 11 (ENode F W) nv ns) (hE : RSl F W 1 EInt ev es) (hP : Par ns) (hn0 : 1 ≤ ns.length) (hn : ns.length ≤ 1000000000) (hw : ∀ e, e < ns.length → (wayN ns e).length ≤ 1000000) :
    Calls Try.prog 43 #[.agg #[av, nv, ev]] W fun e W' => e = .returned (.bool (decide (endsP ns es))) ∧ Below W.heap.size W W' := by
  have WW := Lib.hid (fun (Wx : World) (hb : Below W.heap.size W Wx) (k : Nat) (hk : k < ns.length) => wayW Wx av nv ev al ns (RSl.kp hN (Kp.of_below hb) (fun _ _ h => h) (fun _ _ h => h.kp (Kp.of_below hb) (fun _ _ h => h))) hP k hk hn (hw k hk))
  have HW := Lib.hid hw
  have HUP := Lib.hid (fun (e : Nat) (he : e < ns.length) => (wayN_up hP al he).1)
  obtain ⟨An, cn, rfl⟩ := hN.form
  obtain ⟨Ae, ce, rfl⟩ := hE.form
  have hml := hE.len
  unfold maxLen at hml
  have HE := Lib.hid hE
  obtain ⟨R, hR⟩ : ∃ R, decide (endsP ns es) = R := ⟨_, rfl⟩
  rw [hR]
  have HR := Lib.hid hR
  clear hR hN hE hP hw
  go_enter Try.func43, Try.ntmps43
  go_wp2
  go_loopw [3, 11] (fun qv iv wr => ∃ i q : Nat, iv = .int .i64 i ∧ qv = .int .i64 q ∧ i ≤ es.length ∧ q ≤ ns.length ∧ (es.take i).foldl (endE ns) (some 1) = some q ∧ Below (W.heap.size + 1) (W.alloc (.cells #[av, .slice An ns.length cn, .slice Ae es.length ce] 27)) wr) (fun _ i _ => es.length - (intOf i).toNat)
  case atStart => exact ⟨0, 1, rfl, rfl, Nat.zero_le _, hn0, rfl, Below.refl _ _⟩
  case round =>
    obtain ⟨i, q, rfl, rfl, hi, hq, hF, hb⟩ := hrel
    have y0 := box_cellL hb 0 rfl
    have y1 := box_cellL hb 1 rfl
    have y2 := box_cellL hb 2 rfl
    by_cases hin : i < es.length
    · obtain ⟨e, he⟩ : ∃ e, es[i]? = some e := ⟨_, List.getElem?_eq_getElem hin⟩
      obtain ⟨eb, eo, cs, rfl, ⟨rfl, -⟩, hc⟩ := HE.out.rd he
      have c0 := hc wr (box_below hb) 0 _ rfl
      simp only [Nat.add_zero, Nat.mul_one] at c0
      have e1 : (0 : Int) ≤ (i : Int) := by omega
      have e2 : (i : Int) < (es.length : Int) := by omega
      have hnx := fold_next (endE ns) (some 1) he
      rw [hF] at hnx
      have HI := Lib.hid hin
      have HB := Lib.hid hb
      have STOP := Lib.hid (show (es.take (i + 1)).foldl (endE ns) (some 1) = none → R = false from fun h => by
        rw [← HR.out]
        refine decide_eq_false (fun h2 => ?_)
        unfold endsP at h2
        rw [fold_all (endE ns) (some 1) es (i + 1), h, endE_none] at h2
        cases h2)
      by_cases h1 : 0 ≤ e
      · by_cases h2 : e < (ns.length : Int)
        · obtain ⟨k, rfl⟩ : ∃ k : Nat, e = (k : Int) := ⟨e.toNat, by omega⟩
          have hk : k < ns.length := by omega
          have hnx2 : (es.take (i + 1)).foldl (endE ns) (some 1) = (wayN ns k).foldl onF (some q) := by
            rw [hnx]; unfold endE; simp only; rw [if_pos ⟨h1, h2⟩, Int.toNat_natCast]
          have HX := Lib.hid hnx2
          have WC := Lib.hid (WW.out wr (box_below hb) k hk)
          have hwl := HW.out k hk
          have hup := HUP.out k hk
          obtain ⟨l, hl⟩ : ∃ l, wayN ns k = l := ⟨_, rfl⟩
          rw [hl] at HX WC hwl hup
          have hlt : ∀ u ∈ l, u < ns.length := fun u hu => by
            obtain ⟨j, hj, rfl⟩ := List.getElem_of_mem hu
            obtain ⟨_, _, m, hm, _⟩ := hup j _ (List.getElem?_eq_getElem hj)
            exact (List.getElem?_eq_some_iff.1 hm).1
          have HLT := Lib.hid hlt
          have f1 : ¬ (k : Int) < 0 := by omega
          have f2 : ¬ (ns.length : Int) ≤ (k : Int) := by omega
          clear hc he hin hb hnx hnx2 hl hup hlt hF hi
          go_wp2_with fail
          refine WC.out.mono ?_
          rintro e' w2 ⟨v, rfl, hO, hb2⟩
          obtain ⟨A, c, rfl, -⟩ := hO.form
          have HB2 := Lib.hid (box_step HB.out hb2)
          have HO := Lib.hid hO
          clear y0 y1 y2 c0 hb2 hO WC
          go_wp2
          obtain ⟨wo, rfl⟩ : ∃ wo : World, wo = wr := ⟨_, rfl⟩
          go_loopw [3, 28] (fun qv jv wr => ∃ j q2 : Nat, jv = .int .i64 j ∧ qv = .int .i64 q2 ∧ j ≤ l.length ∧ q2 ≤ ns.length ∧ (l.take j).foldl onF (some q) = some q2 ∧ wr = w2) (fun _ j _ => l.length - (intOf j).toNat)
          case atStart => exact ⟨0, q, rfl, rfl, Nat.zero_le _, hq, rfl, rfl⟩
          case round =>
            obtain ⟨j, q2, rfl, rfl, hj, hq2, hG, rfl⟩ := hrel
            by_cases hjn : j < l.length
            · obtain ⟨u, hu⟩ : ∃ u, l[j]? = some u := ⟨_, List.getElem?_eq_getElem hjn⟩
              obtain ⟨g, rfl, -, d0⟩ := HO.out.at hu
              have hun := HLT.out u (List.mem_of_getElem? hu)
              have e3 : (0 : Int) ≤ (j : Int) := by omega
              have e4 : (j : Int) < (l.length : Int) := by omega
              have hnx := fold_next onF (some q) hu
              rw [hG] at hnx
              have HJ := Lib.hid hjn
              by_cases h3 : u ≤ q2
              · have e5 : ¬ (q2 : Int) < (u : Int) := by omega
                by_cases h4 : u = q2
                · subst h4
                  have HN := Lib.hid (show (l.take (j + 1)).foldl onF (some q) = some (u + 1) by rw [hnx]; unfold onF; simp)
                  clear hnx hG hu hjn hj h3
                  go_wp2_with fail
                  exact ⟨⟨j + 1, u + 1, by go_num, by go_num, HJ.out, by omega, HN.out, trivial⟩, by simp [intOf]; have := HJ.out; omega⟩
                · have HN := Lib.hid (show (l.take (j + 1)).foldl onF (some q) = some q2 by rw [hnx]; unfold onF; simp [h3, h4])
                  have e6 : ((u : Int) == (q2 : Int)) = false := by simp only [beq_eq_false_iff_ne, ne_eq]; omega
                  have e7 : ¬ (u : Int) = (q2 : Int) := by omega
                  clear hnx hG hu hjn hj h3
                  go_wp2_with fail
                  exact ⟨⟨j + 1, q2, by go_num, rfl, HJ.out, by omega, HN.out, trivial⟩, by simp [intOf]; have := HJ.out; omega⟩
              · have e5 : (q2 : Int) < (u : Int) := by omega
                have hno : (l.take (j + 1)).foldl onF (some q) = none := by rw [hnx]; unfold onF; simp only; rw [if_neg h3]
                have HF := Lib.hid (STOP.out (by rw [HX.out, fold_all onF (some q) l (j + 1), hno, onF_none]))
                clear hnx hG hu hjn hj h3 hno
                go_wp2
                go_ret
                exact ⟨by rw [HF.out]; rfl, box_below HB2.out⟩
            · obtain rfl : j = l.length := by omega
              rw [List.take_length] at hG
              have HN := Lib.hid (HX.out.trans hG)
              clear hG hjn hj
              go_wp2
              exact ⟨⟨i + 1, q2, by go_num, rfl, HI.out, hq2, HN.out, HB2.out⟩, by simp [intOf]; have := HI.out; omega⟩
        · have e3 : (ns.length : Int) ≤ e := by omega
          have e4 : ¬ e < 0 := by omega
          have HF := Lib.hid (STOP.out (by rw [hnx]; unfold endE; simp only; rw [if_neg (fun h => h2 h.2)]))
          clear hc he hin hb hnx h2 hF hi
          go_wp2
          go_ret
          exact ⟨by rw [HF.out]; rfl, box_below HB.out⟩
      · have e3 : e < 0 := by omega
        have HF := Lib.hid (STOP.out (by rw [hnx]; unfold endE; simp only; rw [if_neg (fun h => h1 h.1)]))
        clear hc he hin hb hnx h1 hF hi
        go_wp2
        go_ret
        exact ⟨by rw [HF.out]; rfl, box_below HB.out⟩
    · obtain rfl : i = es.length := by omega
      rw [List.take_length] at hF
      have HB := Lib.hid (box_below hb)
      clear hb hin hi
      by_cases he : q = ns.length
      · subst he
        have HF := Lib.hid (show R = true by rw [← HR.out]; exact decide_eq_true hF)
        clear hF
        go_wp2
        go_ret
        exact ⟨by rw [HF.out]; simp, HB.out⟩
      · have HF := Lib.hid (show R = false by
          rw [← HR.out]
          refine decide_eq_false (fun h => he ?_)
          unfold endsP at h
          rw [hF] at h
          exact Option.some.inj h)
        have e3 : ¬ (q : Int) = (ns.length : Int) := by omega
        clear hF he
        go_wp2
        go_ret
        exact ⟨by rw [HF.out]; simp [e3], HB.out⟩
end Go.Proofs.Ytonkbjdeaneicaa
