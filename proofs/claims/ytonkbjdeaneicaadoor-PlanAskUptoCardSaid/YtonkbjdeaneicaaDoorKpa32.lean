/- The text of a link. plan.list: parts with a comma and a blank between each two; at cells, places, links. plan.nodeText: what stands behind a node's number. -/
import Derived.Test.YtonkbjdeaneicaaDoorKpa05
import Derived.Test.YtonkbjdeaneicaaDoorKpa10
import Derived.Test.YtonkbjdeaneicaaDoorKpa22
import Derived.BigFrame
import Derived.Deep.Cut
import Derived.IntWalk
import Derived.KernelRfl
import Derived.Lib.Join
namespace Go.Proofs.YtonkbjdeaneicaaDoor
open Go Go.RowKit Pln Classical

set_option maxRecDepth 100000 in
set_option maxHeartbeats 2000000 in
theorem linkTextW (i : Int) (l : Int × Int) (h1 : -9223372036854775808 ≤ l.1 ∧ l.1 ≤ 9223372036854775807) (h2 : -9223372036854775808 ≤ l.2 ∧ l.2 ≤ 9223372036854775807) (w : World) (ht : Tab w) :
    Calls Tryd.prog 52 #[.int .i64 i, .agg #[.int .i64 l.1, .int .i64 l.2]] w fun e w' => e = .returned (.string (bs (linkT l))) ∧ Below w.heap.size w w' := by
  obtain ⟨a, b⟩ := l
  simp only at h1 h2 ⊢
  have l1 := num_len h1
  rw [← bs_size] at l1
  have l2 := num_len h2
  rw [← bs_size] at l2
  have s1 : ¬ 9223372036854775807 < (bs (num a)).size + 2 := by omega
  have s2 : ¬ 9223372036854775807 < (bs (num a)).size + 2 + (bs (num b)).size := by omega
  obtain ⟨wb, hwb⟩ : ∃ wb, wb = w.alloc (.cells #[.int .i64 a, .int .i64 b] 56) := ⟨_, rfl⟩
  have hb0 : Below (w.heap.size + 1) (w.alloc (.cells #[.int .i64 a, .int .i64 b] 56)) wb := by rw [hwb]; exact Below.refl _ _
  have hbw : Below w.heap.size w wb := by rw [hwb]; exact (Below.refl _ _).alloc (Nat.le_refl _) _
  have hrow : wb.heap[w.heap.size]? = some (.cells #[.int .i64 a, .int .i64 b] 56 (0, 0)) := by rw [hwb]; exact heap_alloc_new w _
  obtain ⟨S, hSe⟩ : ∃ S, S = fun Wx => Below wb.heap.size wb Wx := ⟨_, rfl⟩
  have hlr := lt_of_heap hrow
  have bn := fun (p : Pt S) => (congrFun hSe p.val).mp p.property
  have q0 := fun (p : Pt S) => (cell_of_row _ _ 0 _ _ _ (((bn p).block _ hlr).trans hrow)).trans (show _ = some (Value.int .i64 a) from rfl)
  have q1 := fun (p : Pt S) => (cell_of_row _ _ 1 _ _ _ (((bn p).block _ hlr).trans hrow)).trans (show _ = some (Value.int .i64 b) from rfl)
  have NE : Nonempty (Pt S) := ⟨⟨wb, (congrFun hSe wb).mpr (Below.refl _ _)⟩⟩
  have HDD := Lib.hid ((congrFun hSe wb.drew).mpr (Below.refl _ _).drew)
  have SE := Lib.hid hSe
  have KPP := Lib.hid bn
  have TB := Lib.hid (ht.below hbw)
  have C1 := Lib.hid (fun (Wx : World) (hx : Below wb.heap.size wb Wx) => itoaW a h1 Wx (TB.out.below hx))
  have C2 := Lib.hid (fun (Wx : World) (hx : Below wb.heap.size wb Wx) => itoaW b h2 Wx (TB.out.below hx))
  have HBW := Lib.hid hbw
  clear hb0 hbw hrow hSe bn
  go_enter Tryd.func52, Tryd.ntmps52
  go_upto_region 1 with fail
  rw [← hwb]
  clear hwb
  refine wp_region_class (S := S) HDD.out (by kernel_rfl) (by kernel_rfl) ?_
  repeat (go_big_quiet_step ((first
    | (go_at_call 24; refine (C1.out _ (KPP.out _)).mono ?_; rintro e w' ⟨rfl, hbel⟩; exact ⟨rfl, ⟨w', (congrFun SE.out w').mpr ((KPP.out _).trans (hbel.mono (KPP.out _).size))⟩, rfl⟩)
    | (go_at_call 24; refine (C2.out _ (KPP.out _)).mono ?_; rintro e w' ⟨rfl, hbel⟩; exact ⟨rfl, ⟨w', (congrFun SE.out w').mpr ((KPP.out _).trans (hbel.mono (KPP.out _).size))⟩, rfl⟩))))
  refine wpQuiet_nil ?_
  rintro wq ⟨⟨_, hW⟩, rfl⟩
  have HF := Lib.hid ((congrFun SE.out wq).mp hW)
  clear q0 q1 NE hW
  go_wp2
  go_ret
  refine ⟨?_, HBW.out.trans (HF.out.mono HBW.out.size)⟩
  have e1 : (⟨#[61, 118]⟩ : ByteArray) = bs [61, 118] := rfl
  simp only [e1, bs_app, linkT, List.append_assoc]
  rfl
end Go.Proofs.YtonkbjdeaneicaaDoor

namespace Go.Proofs.YtonkbjdeaneicaaDoor
open Go Go.RowKit Pln Classical

theorem infoStrT : (Tryd.prog.info? 9).map (fun i => (i.zero, i.size, i.bytes)) = some (some (.string ⟨#[]⟩), 1, 16) := by kernel_rfl
def sepT : List UInt8 := [44, 32]
theorem join_len {m : Nat} : ∀ (ps : List (List UInt8)), (∀ p ∈ ps, p.length ≤ m) → (Lib.join ps sepT).length ≤ (m + 2) * ps.length
  | [], _ => by simp [Lib.join_nil]
  | x :: r, h => by
    rw [Lib.join_cons]
    have hx := h x (List.mem_cons_self ..)
    have hr : (Lib.joinTail sepT r).length ≤ (m + 2) * r.length := by
      unfold Lib.joinTail
      have : ∀ (q : List (List UInt8)), (∀ p ∈ q, p.length ≤ m) → (q.map (sepT ++ ·)).flatten.length ≤ (m + 2) * q.length := by
        intro q
        induction q with
        | nil => intro _; simp
        | cons y q ih =>
          intro hq
          have h1 := hq y (List.mem_cons_self ..)
          have h2 := ih (fun p hp => hq p (List.mem_cons_of_mem _ hp))
          simp only [List.map_cons, List.flatten_cons, List.length_append, List.length_cons, sepT, List.length_nil, Nat.mul_add, Nat.mul_one] at h2 ⊢
          omega
      exact this r (fun p hp => h p (List.mem_cons_of_mem _ hp))
    simp only [List.length_append, List.length_cons, Nat.mul_add, Nat.mul_one] at hr ⊢
    omega
/-- Join over any row of strings that is read. -/
theorem joinW {F : Nat → Prop} (v : Value) (ps : List (List UInt8)) (m : Nat) (w : World) (h : RSl F w 1 EStr v (ps.map bs)) (hp : ∀ p ∈ ps, p.length ≤ m) (hm : m ≤ 1000000) (hn : ps.length ≤ 1048576) :
    Calls Tryd.prog 49 #[v, .string (bs sepT)] w fun e w' => e = .returned (.string (bs (Lib.join ps sepT))) ∧ Below w.heap.size w w' := by
  obtain ⟨A, c, rfl, hc, hcm, -, hx⟩ := h
  cases ps with
  | nil =>
    refine (Tryd.strings_Join_none A c (bs sepT) w).mono ?_
    rintro e w' ⟨rfl, rfl⟩
    exact ⟨rfl, Below.refl _ _⟩
  | cons p r =>
    rcases hx with hx | ⟨b, off, rfl, hF, hb, hcell⟩
    · simp at hx
    · have hl := join_len (p :: r) hp
      have e1 : ((p :: r).map bs).map (·.data.toList) = p :: r := by
        rw [List.map_map]
        conv => rhs; rw [← List.map_id (p :: r)]
        refine List.map_congr_left (fun q _ => ?_)
        show (bs q).data.toList = q
        unfold bs
        simp
      have e2 : (bs sepT).data.toList = sepT := by unfold bs; simp
      have hbig : (m + 2) * (p :: r).length ≤ 140737488355328 := by
        have : (m + 2) * (p :: r).length ≤ 1000002 * 1048576 := Nat.mul_le_mul (by omega) hn
        omega
      refine (Tryd.strings_Join b off c ((p :: r).map bs) (bs sepT) w (fun j x hj => ?_) hb (by rw [List.length_map]; omega) hc (by rw [e1, e2]; omega)).mono ?_
      · obtain ⟨cs, ⟨rfl, _⟩, h2⟩ := hcell j x hj
        have := h2 0 _ rfl
        simpa using this
      · rintro e w' ⟨rfl, hbl⟩
        rw [e1, e2]
        exact ⟨rfl, hbl⟩
theorem cellT_len (i : Nat) (hi : i ≤ 1000000000) {c : Int} (h : -9223372036854775808 ≤ c ∧ c ≤ 9223372036854775807) : (cellT i c).length ≤ 100 := by
  unfold cellT
  split
  · have := num_len h
    simp only [List.length_cons]; omega
  · split
    · simp
    · have := num_len (n := -1 - c) (by omega)
      simp only [List.length_cons]; omega
/-- The parts of the first k. -/
def cellPs (xs : List Int) (k : Nat) : List (List UInt8) := (List.range k).map fun i => match xs[i]? with | some c => cellT i c | none => []
theorem cellPs_len (xs : List Int) (k : Nat) : (cellPs xs k).length = k := by simp [cellPs]
theorem cellPs_succ {xs : List Int} {k : Nat} {c : Int} (h : xs[k]? = some c) : cellPs xs (k + 1) = cellPs xs k ++ [let i := k; cellT i c] := by
  unfold cellPs
  rw [List.range_succ, List.map_append]
  simp [h]
set_option maxRecDepth 100000 in
set_option maxHeartbeats 4000000 in
theorem list_cellPW {F : Nat → Prop} (v : Value) (xs : List Int) (w : World) (h : RSl F w 1 EInt v xs) (hn : xs.length ≤ 1048576) (ht : Tab w) :
    Calls Tryd.prog 25 #[v, .func (.func 26) #[] #[]] w fun e w' => e = .returned (.string (bs (Lib.join (cellPs xs xs.length) sepT))) ∧ Below w.heap.size w w' := by
  obtain ⟨A, c, rfl⟩ := h.form
  have H := Lib.hid h
  have TB := Lib.hid ht
  clear h ht
  go_enter Tryd.func25, Tryd.ntmps25
  go_wp2
  go_loopw [5, 10] (fun m i wr => ∃ (k : Nat) (mv : Value), i = .int .i64 k ∧ m = mv ∧ k ≤ xs.length ∧ (∀ p ∈ cellPs xs k, p.length ≤ 100) ∧ OwnL w.heap.size wr 9 cdStr mv ((cellPs xs k).map bs) ∧ Below w.heap.size w wr) (fun _ i _ => xs.length - (intOf i).toNat)
  case atStart => exact ⟨0, _, rfl, rfl, Nat.zero_le _, by simp [cellPs], OwnL.nil, Below.refl _ _⟩
  case round =>
    obtain ⟨k, mv, rfl, hmv, hk, hp, hown, hb⟩ := hrel
    obtain ⟨ma, mc, hmf⟩ := hown.form
    rw [List.length_map, cellPs_len] at hmf
    subst hmf
    subst hmv
    have hsz := hb.size
    by_cases hkn : k < xs.length
    · obtain ⟨x, hx⟩ : ∃ x, xs[k]? = some x := ⟨_, List.getElem?_eq_getElem hkn⟩
      obtain ⟨b, off, rfl, hFb, hbs, cs, ⟨rfl, xok⟩, hc⟩ := (H.out.keep (Kp.of_below hb)).at hx
      have d0 := hc 0 _ rfl
      simp only [Nat.add_zero, Nat.mul_one] at d0
      have f1 : (0 : Int) ≤ (k : Int) := by omega
      have f2 : (k : Int) < (xs.length : Int) := by omega
      obtain ⟨tx, htx⟩ : ∃ tx, (let i := k; let c := x; cellT i c) = tx := ⟨_, rfl⟩
      have HBC := Lib.hid (show Below wr.heap.size wr wr from Below.refl _ _)
      have CT := Lib.hid (cellTextW k (by omega) x xok.lo wr (TB.out.below hb))
      have htl : tx.length ≤ 100 := by rw [← htx]; exact cellT_len k (by omega) xok.lo
      rw [show cellT k x = tx from htx] at CT
      have HPS := Lib.hid (show ∀ p ∈ cellPs xs (k + 1), p.length ≤ 100 from fun p hp2 => by
        rw [cellPs_succ hx] at hp2
        rcases List.mem_append.1 hp2 with hp2 | hp2
        · exact hp p hp2
        · rw [List.mem_singleton.1 hp2]
          exact (show (let i := k; let c := x; cellT i c).length ≤ 100 from by rw [htx]; exact htl))
      have HNX := Lib.hid (show (cellPs xs k).map bs ++ [bs tx] = (cellPs xs (k + 1)).map bs by
        rw [cellPs_succ hx, List.map_append, ← htx]; rfl)
      have hst : (bs tx).size ≤ maxLen := by rw [bs_size]; unfold maxLen; omega
      have HK := Lib.hid hkn
      have HO := Lib.hid hown
      have HB := Lib.hid hb
      have HTL := Lib.hid (show ((cellPs xs k).map bs).length = k by rw [List.length_map, cellPs_len])
      have HST := Lib.hid hst
      clear hkn hx hown hb hc hp htx htl hst
      go_wp2_with fail
      refine CT.out.mono ?_
      rintro e w2 ⟨rfl, hb2⟩
      have hbw := HBC.out.trans (hb2.mono HBC.out.size)
      have HO2 := Lib.hid (HO.out.below hbw)
      have HB2 := Lib.hid (HB.out.trans (hbw.mono hsz))
      have hsz2 : w.heap.size ≤ w2.heap.size := HB2.out.size
      clear hb2 hbw CT
      go_wp2_with (at_builtin; refine wpList_append_L HO2.out rfl (.tmp 15) (.tmp 20) 83 rfl Tryd.underlying83 infoStrT rfl (by decide) rfl #[.string (bs tx)] _ rfl rfl (x := bs tx) ⟨rfl, HST.out⟩ (by rw [HTL.out]; omega) (by decide) hsz2 ?_; intro g cap w3 hown3 ht3 hat3 hlt3; rw [HTL.out, HNX.out] at hown3; rw [HTL.out]; have N1 := Lib.hid hown3; have N2 := Lib.hid (HB2.out.trans (ht3.below HB2.out.size (fun b hb => (HO2.out.block (by simpa using hb)).1))); clear hown3 ht3 hat3 hlt3)
      exact ⟨⟨k + 1, _, by go_num, rfl, HK.out, HPS.out, N1.out, N2.out⟩, by simp [intOf]; have := HK.out; omega⟩
    · obtain rfl : k = xs.length := by omega
      have CJ := Lib.hid (joinW _ (cellPs xs xs.length) 100 wr (hown.rsl (F := fun _ => True) (fun _ _ => trivial)) hp (by omega) (by rw [cellPs_len]; exact hn))
      have HB := Lib.hid hb
      clear hown hb hkn hp
      go_wp2_with fail
      refine CJ.out.mono ?_
      rintro e w2 ⟨rfl, hb2⟩
      have HB2 := Lib.hid (HB.out.trans (hb2.mono HB.out.size))
      clear hb2 CJ
      go_wp2
      go_ret
      exact ⟨rfl, HB2.out⟩
/-- The parts of the first k. -/
def placePs (xs : List Int) (k : Nat) : List (List UInt8) := (List.range k).map fun i => match xs[i]? with | some c => (let _ := i; num c) | none => []
theorem placePs_len (xs : List Int) (k : Nat) : (placePs xs k).length = k := by simp [placePs]
theorem placePs_succ {xs : List Int} {k : Nat} {c : Int} (h : xs[k]? = some c) : placePs xs (k + 1) = placePs xs k ++ [let i := k; (let _ := i; num c)] := by
  unfold placePs
  rw [List.range_succ, List.map_append]
  simp [h]
set_option maxRecDepth 100000 in
set_option maxHeartbeats 4000000 in
theorem list_placePW {F : Nat → Prop} (v : Value) (xs : List Int) (w : World) (h : RSl F w 1 EInt v xs) (hn : xs.length ≤ 1048576) (ht : Tab w) :
    Calls Tryd.prog 25 #[v, .func (.func 53) #[] #[]] w fun e w' => e = .returned (.string (bs (Lib.join (placePs xs xs.length) sepT))) ∧ Below w.heap.size w w' := by
  obtain ⟨A, c, rfl⟩ := h.form
  have H := Lib.hid h
  have TB := Lib.hid ht
  clear h ht
  go_enter Tryd.func25, Tryd.ntmps25
  go_wp2
  go_loopw [5, 10] (fun m i wr => ∃ (k : Nat) (mv : Value), i = .int .i64 k ∧ m = mv ∧ k ≤ xs.length ∧ (∀ p ∈ placePs xs k, p.length ≤ 100) ∧ OwnL w.heap.size wr 9 cdStr mv ((placePs xs k).map bs) ∧ Below w.heap.size w wr) (fun _ i _ => xs.length - (intOf i).toNat)
  case atStart => exact ⟨0, _, rfl, rfl, Nat.zero_le _, by simp [placePs], OwnL.nil, Below.refl _ _⟩
  case round =>
    obtain ⟨k, mv, rfl, hmv, hk, hp, hown, hb⟩ := hrel
    obtain ⟨ma, mc, hmf⟩ := hown.form
    rw [List.length_map, placePs_len] at hmf
    subst hmf
    subst hmv
    have hsz := hb.size
    by_cases hkn : k < xs.length
    · obtain ⟨x, hx⟩ : ∃ x, xs[k]? = some x := ⟨_, List.getElem?_eq_getElem hkn⟩
      obtain ⟨b, off, rfl, hFb, hbs, cs, ⟨rfl, xok⟩, hc⟩ := (H.out.keep (Kp.of_below hb)).at hx
      have d0 := hc 0 _ rfl
      simp only [Nat.add_zero, Nat.mul_one] at d0
      have f1 : (0 : Int) ≤ (k : Int) := by omega
      have f2 : (k : Int) < (xs.length : Int) := by omega
      obtain ⟨tx, htx⟩ : ∃ tx, (let i := k; let c := x; (let _ := i; num c)) = tx := ⟨_, rfl⟩
      have HBC := Lib.hid (show Below wr.heap.size wr wr from Below.refl _ _)
      have CT := Lib.hid (placeTextW k x xok.lo wr (TB.out.below hb))
      have htl : tx.length ≤ 100 := by rw [← htx]; exact (show (num x).length ≤ 100 by have := num_len xok.lo; omega)
      rw [show num x = tx from htx] at CT
      have HPS := Lib.hid (show ∀ p ∈ placePs xs (k + 1), p.length ≤ 100 from fun p hp2 => by
        rw [placePs_succ hx] at hp2
        rcases List.mem_append.1 hp2 with hp2 | hp2
        · exact hp p hp2
        · rw [List.mem_singleton.1 hp2]
          exact (show (let i := k; let c := x; (let _ := i; num c)).length ≤ 100 from by rw [htx]; exact htl))
      have HNX := Lib.hid (show (placePs xs k).map bs ++ [bs tx] = (placePs xs (k + 1)).map bs by
        rw [placePs_succ hx, List.map_append, ← htx]; rfl)
      have hst : (bs tx).size ≤ maxLen := by rw [bs_size]; unfold maxLen; omega
      have HK := Lib.hid hkn
      have HO := Lib.hid hown
      have HB := Lib.hid hb
      have HTL := Lib.hid (show ((placePs xs k).map bs).length = k by rw [List.length_map, placePs_len])
      have HST := Lib.hid hst
      clear hkn hx hown hb hc hp htx htl hst
      go_wp2_with fail
      refine CT.out.mono ?_
      rintro e w2 ⟨rfl, hb2⟩
      have hbw := HBC.out.trans (hb2.mono HBC.out.size)
      have HO2 := Lib.hid (HO.out.below hbw)
      have HB2 := Lib.hid (HB.out.trans (hbw.mono hsz))
      have hsz2 : w.heap.size ≤ w2.heap.size := HB2.out.size
      clear hb2 hbw CT
      go_wp2_with (at_builtin; refine wpList_append_L HO2.out rfl (.tmp 15) (.tmp 20) 83 rfl Tryd.underlying83 infoStrT rfl (by decide) rfl #[.string (bs tx)] _ rfl rfl (x := bs tx) ⟨rfl, HST.out⟩ (by rw [HTL.out]; omega) (by decide) hsz2 ?_; intro g cap w3 hown3 ht3 hat3 hlt3; rw [HTL.out, HNX.out] at hown3; rw [HTL.out]; have N1 := Lib.hid hown3; have N2 := Lib.hid (HB2.out.trans (ht3.below HB2.out.size (fun b hb => (HO2.out.block (by simpa using hb)).1))); clear hown3 ht3 hat3 hlt3)
      exact ⟨⟨k + 1, _, by go_num, rfl, HK.out, HPS.out, N1.out, N2.out⟩, by simp [intOf]; have := HK.out; omega⟩
    · obtain rfl : k = xs.length := by omega
      have CJ := Lib.hid (joinW _ (placePs xs xs.length) 100 wr (hown.rsl (F := fun _ => True) (fun _ _ => trivial)) hp (by omega) (by rw [placePs_len]; exact hn))
      have HB := Lib.hid hb
      clear hown hb hkn hp
      go_wp2_with fail
      refine CJ.out.mono ?_
      rintro e w2 ⟨rfl, hb2⟩
      have HB2 := Lib.hid (HB.out.trans (hb2.mono HB.out.size))
      clear hb2 CJ
      go_wp2
      go_ret
      exact ⟨rfl, HB2.out⟩
/-- The parts of the first k. -/
def linkPs (xs : List (Int × Int)) (k : Nat) : List (List UInt8) := (List.range k).map fun i => match xs[i]? with | some c => (let _ := i; linkT c) | none => []
theorem linkPs_len (xs : List (Int × Int)) (k : Nat) : (linkPs xs k).length = k := by simp [linkPs]
theorem linkPs_succ {xs : List (Int × Int)} {k : Nat} {c : (Int × Int)} (h : xs[k]? = some c) : linkPs xs (k + 1) = linkPs xs k ++ [let i := k; (let _ := i; linkT c)] := by
  unfold linkPs
  rw [List.range_succ, List.map_append]
  simp [h]
set_option maxRecDepth 100000 in
set_option maxHeartbeats 4000000 in
theorem list_linkPW {F : Nat → Prop} (v : Value) (xs : List (Int × Int)) (w : World) (h : RSl F w 2 ELnk v xs) (hn : xs.length ≤ 1048576) (ht : Tab w) :
    Calls Tryd.prog 51 #[v, .func (.func 52) #[] #[]] w fun e w' => e = .returned (.string (bs (Lib.join (linkPs xs xs.length) sepT))) ∧ Below w.heap.size w w' := by
  obtain ⟨A, c, rfl⟩ := h.form
  have H := Lib.hid h
  have TB := Lib.hid ht
  clear h ht
  go_enter Tryd.func51, Tryd.ntmps51
  go_wp2
  go_loopw [5, 10] (fun m i wr => ∃ (k : Nat) (mv : Value), i = .int .i64 k ∧ m = mv ∧ k ≤ xs.length ∧ (∀ p ∈ linkPs xs k, p.length ≤ 100) ∧ OwnL w.heap.size wr 9 cdStr mv ((linkPs xs k).map bs) ∧ Below w.heap.size w wr) (fun _ i _ => xs.length - (intOf i).toNat)
  case atStart => exact ⟨0, _, rfl, rfl, Nat.zero_le _, by simp [linkPs], OwnL.nil, Below.refl _ _⟩
  case round =>
    obtain ⟨k, mv, rfl, hmv, hk, hp, hown, hb⟩ := hrel
    obtain ⟨ma, mc, hmf⟩ := hown.form
    rw [List.length_map, linkPs_len] at hmf
    subst hmf
    subst hmv
    have hsz := hb.size
    by_cases hkn : k < xs.length
    · obtain ⟨x, hx⟩ : ∃ x, xs[k]? = some x := ⟨_, List.getElem?_eq_getElem hkn⟩
      obtain ⟨b, off, rfl, hFb, hbs, cs, ⟨rfl, xok, yok⟩, hc⟩ := (H.out.keep (Kp.of_below hb)).at hx
      have d0 := hc 0 _ rfl
      have d1 := hc 1 _ rfl
      simp only [Nat.add_zero] at d0
      have f1 : (0 : Int) ≤ (k : Int) := by omega
      have f2 : (k : Int) < (xs.length : Int) := by omega
      obtain ⟨tx, htx⟩ : ∃ tx, (let i := k; let c := x; (let _ := i; linkT c)) = tx := ⟨_, rfl⟩
      have HBC := Lib.hid (show Below wr.heap.size wr (wr.alloc (.cells #[.int .i64 x.1, .int .i64 x.2] 56)) from (Below.refl _ _).alloc (Nat.le_refl _) _)
      have CT := Lib.hid (linkTextW k x xok.lo yok.lo _ (TB.out.below (hb.trans (HBC.out.mono hsz))))
      have htl : tx.length ≤ 100 := by rw [← htx]; exact (show (linkT x).length ≤ 100 by have h1 := num_len xok.lo; have h2 := num_len yok.lo; simp only [linkT, List.length_append, List.length_cons, List.length_nil]; omega)
      rw [show linkT x = tx from htx] at CT
      have HPS := Lib.hid (show ∀ p ∈ linkPs xs (k + 1), p.length ≤ 100 from fun p hp2 => by
        rw [linkPs_succ hx] at hp2
        rcases List.mem_append.1 hp2 with hp2 | hp2
        · exact hp p hp2
        · rw [List.mem_singleton.1 hp2]
          exact (show (let i := k; let c := x; (let _ := i; linkT c)).length ≤ 100 from by rw [htx]; exact htl))
      have HNX := Lib.hid (show (linkPs xs k).map bs ++ [bs tx] = (linkPs xs (k + 1)).map bs by
        rw [linkPs_succ hx, List.map_append, ← htx]; rfl)
      have hst : (bs tx).size ≤ maxLen := by rw [bs_size]; unfold maxLen; omega
      have HK := Lib.hid hkn
      have HO := Lib.hid hown
      have HB := Lib.hid hb
      have HTL := Lib.hid (show ((linkPs xs k).map bs).length = k by rw [List.length_map, linkPs_len])
      have HST := Lib.hid hst
      clear hkn hx hown hb hc hp htx htl hst
      go_wp2_with fail
      refine CT.out.mono ?_
      rintro e w2 ⟨rfl, hb2⟩
      have hbw := HBC.out.trans (hb2.mono HBC.out.size)
      have HO2 := Lib.hid (HO.out.below hbw)
      have HB2 := Lib.hid (HB.out.trans (hbw.mono hsz))
      have hsz2 : w.heap.size ≤ w2.heap.size := HB2.out.size
      clear hb2 hbw CT
      go_wp2_with (at_builtin; refine wpList_append_L HO2.out rfl (.tmp 15) (.tmp 20) 83 rfl Tryd.underlying83 infoStrT rfl (by decide) rfl #[.string (bs tx)] _ rfl rfl (x := bs tx) ⟨rfl, HST.out⟩ (by rw [HTL.out]; omega) (by decide) hsz2 ?_; intro g cap w3 hown3 ht3 hat3 hlt3; rw [HTL.out, HNX.out] at hown3; rw [HTL.out]; have N1 := Lib.hid hown3; have N2 := Lib.hid (HB2.out.trans (ht3.below HB2.out.size (fun b hb => (HO2.out.block (by simpa using hb)).1))); clear hown3 ht3 hat3 hlt3)
      exact ⟨⟨k + 1, _, by go_num, rfl, HK.out, HPS.out, N1.out, N2.out⟩, by simp [intOf]; have := HK.out; omega⟩
    · obtain rfl : k = xs.length := by omega
      have CJ := Lib.hid (joinW _ (linkPs xs xs.length) 100 wr (hown.rsl (F := fun _ => True) (fun _ _ => trivial)) hp (by omega) (by rw [linkPs_len]; exact hn))
      have HB := Lib.hid hb
      clear hown hb hkn hp
      go_wp2_with fail
      refine CJ.out.mono ?_
      rintro e w2 ⟨rfl, hb2⟩
      have HB2 := Lib.hid (HB.out.trans (hb2.mono HB.out.size))
      clear hb2 CJ
      go_wp2
      go_ret
      exact ⟨rfl, HB2.out⟩
end Go.Proofs.YtonkbjdeaneicaaDoor

namespace Go.Proofs.YtonkbjdeaneicaaDoor
open Go Go.RowKit Pln Classical

def opT (op : Int) : List UInt8 := if op = 1 then [61] else if op = 2 then [33, 61] else if op = 3 then [60] else if op = 4 then [60, 61] else if op = 5 then [62] else [62, 61]
theorem ops_at {op : Nat} (h1 : 1 ≤ op) (h6 : op ≤ 6) : opsA[op]? = some (.string (bs (opT op))) := by
  have : op = 1 ∨ op = 2 ∨ op = 3 ∨ op = 4 ∨ op = 5 ∨ op = 6 := by omega
  rcases this with rfl | rfl | rfl | rfl | rfl | rfl <;> rfl
theorem opT_len (op : Int) : (opT op).length ≤ 2 := by
  unfold opT
  split
  · simp
  · split
    · simp
    · split
      · simp
      · split
        · simp
        · split <;> simp
theorem gOps : Tryd.prog.globalNamed "edict/plan.ops" = some 0 := by kernel_rfl
theorem Ops.cell {w : World} (h : Ops w) {op : Nat} (h1 : 1 ≤ op) (h6 : op ≤ 6) : w.cell? ⟨0, op, none⟩ = some (.string (bs (opT op))) := by
  unfold Ops World.var? at h
  rw [gOps] at h
  simp only [Option.bind_some] at h
  split at h
  · rename_i cs t fr he
    simp only [Option.some.injEq] at h
    subst h
    rw [cell_of_row _ 0 op _ _ _ he]
    exact ops_at h1 h6
  · cases h
def underT (n : Nd) : List UInt8 := [32, 117, 110, 100, 101, 114, 32] ++ num n.parent
def testT (n : Nd) : List UInt8 := [116, 101, 115, 116, 32] ++ slotT n.test.l ++ [32] ++ opT n.test.op ++ [32] ++ slotT n.test.r ++ underT n
def headT (n : Nd) : List UInt8 := if n.kind = 1 then [106, 111, 105, 110, 32] ++ num n.alpha ++ underT n else if n.kind = 3 then [110, 101, 103, 32] ++ num n.alpha ++ underT n else testT n
def linksT (n : Nd) : List UInt8 := if n.links = [] then [] else [32, 108, 105, 110, 107, 32] ++ Lib.join (linkPs n.links n.links.length) sepT
def newT (n : Nd) : List UInt8 := if n.new = [] then [] else [32, 110, 101, 119, 32] ++ Lib.join (placePs n.new n.new.length) sepT
def widthT (n : Nd) : List UInt8 := [32, 119, 105, 100, 116, 104, 32] ++ num n.width
def nodeT (n : Nd) : List UInt8 := if n.kind = 0 then [114, 111, 111, 116] else headT n ++ linksT n ++ newT n ++ widthT n
theorem slotT_len {s : Slt} (h : -9223372036854775808 ≤ s.n ∧ s.n ≤ 9223372036854775807) : (slotT s).length ≤ 21 := by
  have := num_len h
  unfold slotT
  split <;> simp only [List.length_cons] <;> omega
theorem linkPs_le (xs : List (Int × Int)) (h : ∀ x ∈ xs, i64ok x.1 ∧ i64ok x.2) : ∀ p ∈ linkPs xs xs.length, p.length ≤ 100 := by
  intro p hp
  obtain ⟨i, hi, rfl⟩ := List.mem_map.1 hp
  have hi2 : i < xs.length := List.mem_range.1 hi
  rw [List.getElem?_eq_getElem hi2]
  obtain ⟨h1, h2⟩ := h xs[i] (List.getElem_mem _)
  have l1 := num_len h1.lo
  have l2 := num_len h2.lo
  simp only [linkT, List.length_append, List.length_cons, List.length_nil]
  omega
theorem placePs_le (xs : List Int) (h : ∀ x ∈ xs, i64ok x) : ∀ p ∈ placePs xs xs.length, p.length ≤ 100 := by
  intro p hp
  obtain ⟨i, hi, rfl⟩ := List.mem_map.1 hp
  have hi2 : i < xs.length := List.mem_range.1 hi
  rw [List.getElem?_eq_getElem hi2]
  have l1 := num_len (h xs[i] (List.getElem_mem _)).lo
  simp only
  omega
theorem memE {α : Type} {F : Nat → Prop} {w : World} {sz : Nat} {E : List Value → α → Prop} {v : Value} {xs : List α} (h : RSl F w sz E v xs) {x : α} (hx : x ∈ xs) : ∃ cs, E cs x := by
  obtain ⟨i, hi⟩ := List.getElem?_of_mem hx
  obtain ⟨A, c, rfl, _, _, _, hq⟩ := h
  rcases hq with rfl | ⟨b, off, _, _, _, hc⟩
  · simp at hi
  · obtain ⟨cs, h1, _⟩ := hc i x hi
    exact ⟨cs, h1⟩
end Go.Proofs.YtonkbjdeaneicaaDoor
