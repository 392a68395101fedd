/- The key of an act: the walk. copied: an act with a list of its own. own: one of the agenda's acts? The walk. -/
import Derived.Test.YtjgigcnjgblekaaDoorKaq07
import Derived.BigCall
import Derived.BigQuiet
import Derived.Deep.Cut
import Derived.Deep.OwnRows
import Derived.Deep.QuietTactic
import Derived.Deep.RegionHeld3
import Derived.Deep.RegionWith
import Derived.Laws.AppendOwnNone
import Derived.Laws.IdiomStrings
import Derived.Lib.Hide
import Derived.Lib.ItoaLen
import Derived.Lib.Slices
import Derived.OwnWalk
import Derived.StillTailTactics
import Derived.WalkKit
namespace Go.Proofs.YtjgigcnjgblekaaDoor
open Go Go.RowKit Go.Maps Classical

theorem infoByte : (Tryd.prog.info? 5).map (fun i => (i.zero, i.size, i.bytes)) = some (some (.int .u8 0), 1, 1) := by kernel_rfl
theorem box_cellD {w wr : World} {cs : Array Value} {T : TypeId} (hb : Below (w.heap.size + 1) (w.alloc (.cells cs T)) wr) (j : Nat) {u : Value} (hu : cs.toList[j]? = some u) : wr.cell? ⟨w.heap.size, j, none⟩ = some u :=
  (hb.cell (p := ⟨w.heap.size, j, none⟩) (by simp)).trans (cell_of_row _ _ j _ _ _ (heap_alloc_new w _)) |>.trans (by rw [← Array.getElem?_toList]; exact hu)
theorem box_belowD {w wr : World} {o : Obj} (hb : Below (w.heap.size + 1) (w.alloc o) wr) : Below w.heap.size w wr :=
  ((Below.refl _ _).alloc (Nat.le_refl _) o).trans (hb.mono (by omega))
theorem own_form1 {w : World} {H n : Nat} {e : TypeId} {sz : Nat} {v : Value} {xs : List Value} (h : w.ownsRow H e sz v n xs) : ∃ A c, v = .slice A n c := by
  rcases h.2 with ⟨h1, h2⟩ | ⟨g', cap, cur, h1, _⟩
  · exact ⟨none, 0, by rw [h1, h2]⟩
  · exact ⟨_, _, h1⟩
theorem cells_app (l m : List UInt8) : Lib.byteCells l ++ Lib.byteCells m = Lib.byteCells (l ++ m) := by simp [Lib.byteCells]

set_option maxRecDepth 100000 in
set_option maxHeartbeats 4000000 in
theorem keyW {F : Nat → Prop} (a : Ac) (sv : Value) (w : World) (h : RSl F w 1 EInt sv a.sub) (hok : AcOk a) (ht : Tab w) :
    Calls Tryd.prog 54 #[.agg #[.int .i64 a.rule, sv]] w fun e w' => e = .returned (keyV a) ∧ Below w.heap.size w w' := by
  obtain ⟨A, c, rfl⟩ := h.form
  obtain ⟨i0, hi, hz0, hz1, hz2⟩ := info_parts infoByte
  obtain ⟨w0, hw0⟩ : ∃ w0, w0 = w.alloc (.cells #[.int .i64 a.rule, .slice A a.sub.length c] 30) := ⟨_, rfl⟩
  have hx0 : Below (w.heap.size + 1) (w.alloc (.cells #[.int .i64 a.rule, .slice A a.sub.length c] 30)) w0 := by rw [hw0]; exact Below.refl _ _
  have hsz0 : w0.heap.size = w.heap.size + 1 := by rw [hw0]; simp
  have hT := Lib.tabBelow_of_tabIs (ht.below (box_belowD hx0))
  rw [hsz0] at hT
  have HT := Lib.hid hT
  have x0 := box_cellD hx0 0 rfl
  have x1 := box_cellD hx0 1 rfl
  have HX := Lib.hid hx0
  have hln := hok.len
  have C1 := Lib.hid (Tryd.strconv_AppendInt_10 (w.heap.size + 1) 0 a.rule hok.rule.lo.1 hok.rule.lo.2 (.slice none 0 0) [] w0 (World.ownsRow_nil _ _ _ _) (by omega) (by omega) hT)
  have CN := Lib.hid (fun (v : Value) (n : Nat) (xs : List Value) (W : World) (h1 : W.ownsRow (w.heap.size + 1) 5 1 v n xs) (h2 : w.heap.size + 1 ≤ W.heap.size) (h3 : n + 21 ≤ 140737488355328) (h4 : Below (w.heap.size + 1) w0 W) (i : Int) (hio : i64ok i) => Tryd.strconv_AppendInt_10 (w.heap.size + 1) n i hio.lo.1 hio.lo.2 v xs W h1 h2 h3 (hT.on h4))
  have HH := Lib.hid h
  have HO := Lib.hid hok
  obtain ⟨R, hR⟩ : ∃ R, keyV a = R := ⟨_, rfl⟩
  rw [hR]
  have HR := Lib.hid hR
  clear h hok ht hx0 hT hR
  go_enter Tryd.func54, Tryd.ntmps54
  go_upto_region 1 with fail
  rw [← hw0]
  clear hw0
  go_wp2_with fail
  refine C1.out.mono ?_
  rintro e w1 ⟨v1, rfl, hown1, hb1, -⟩
  rw [Nat.zero_add, List.nil_append] at hown1
  have y1 := box_cellD (HX.out.trans hb1) 1 rfl
  have HO1 := Lib.hid hown1
  have HB1 := Lib.hid hb1
  clear hown1 hb1 x0 x1 C1
  go_wp2
  go_loopw [3, 12] (fun bv i wr => ∃ (k : Nat) (v : Value) (l : List UInt8), i = .int .i64 k ∧ bv = v ∧ k ≤ a.sub.length ∧ l = num a.rule ++ subT (a.sub.take k) ∧ wr.ownsRow (w.heap.size + 1) 5 1 v l.length (Lib.byteCells l) ∧ Below (w.heap.size + 1) w0 wr) (fun _ i _ => a.sub.length - (intOf i).toNat)
  case atStart => exact ⟨0, _, _, rfl, rfl, Nat.zero_le _, by simp [subT, num], HO1.out, HB1.out⟩
  case round =>
    obtain ⟨k, v, l, rfl, rfl, hk, hl, hown, hb⟩ := hrel
    have hll : l.length ≤ 20 + a.sub.length * 21 := by
      have h1 := subT_len (l := a.sub.take k) (fun i hi => HO.out.sub i (List.mem_of_mem_take hi))
      have h2 := num_len HO.out.rule.lo
      rw [hl, List.length_append]
      rw [List.length_take] at h1
      omega
    have hsz : w.heap.size + 1 ≤ wr.heap.size := by have := hb.size; omega
    have HL := Lib.hid hl
    clear hl
    by_cases hkn : k < a.sub.length
    · obtain ⟨s, hs⟩ : ∃ s, a.sub[k]? = some s := ⟨_, List.getElem?_eq_getElem hkn⟩
      obtain ⟨b, off, rfl, _, _, cs, ⟨rfl, hok⟩, hc⟩ := (HH.out.keep (Kp.of_below (box_belowD (HX.out.trans hb)))).at hs
      have c0 := hc 0 _ rfl
      simp only [Nat.add_zero, Nat.mul_one] at c0
      have e1 : (0 : Int) ≤ (k : Int) := by omega
      have e2 : (k : Int) < (a.sub.length : Int) := by omega
      have HS := Lib.hid hs
      have HK := Lib.hid hkn
      have HB := Lib.hid hb
      have HW := Lib.hid hown
      have OK := Lib.hid hok
      clear hc hs hkn hb hown hok
      go_wp2_with (at_builtin; refine wpList_append_own _ rfl _ _ 101 rfl (w.heap.size + 1) 5 i0 (.int .u8 0) 1 1 Tryd.underlying101 hi hz0 hz1 hz2 rfl (by decide) _ _ _ rfl (HW.out.alloc _) ⟨wr.heap.size, 0, none⟩ 1 1 [Value.int .u8 32] rfl rfl (by intro j u' hj; match j, hj with | 0, hj => simp at hj; subst hj; simp [Addr.add]) (by intro u' hu'; simp at hu'; subst hu'; rfl) (by unfold maxLen; omega) (by omega) (by simp; omega) ?_; intro v2 w2 hown2 hgrow _; have HW2 := Lib.hid hown2; have HB2 := Lib.hid ((HB.out.alloc hsz _).grown hgrow (by simp; omega) (fun k hk => (HW.out.lt k hk).1)); clear hown2 hgrow)
      refine (CN.out _ _ _ _ HW2.out (by have := HB2.out.size; omega) (by omega) HB2.out s OK.out).mono ?_
      rintro e w3 ⟨v3, rfl, hown3, hb3, -⟩
      have HW3 := Lib.hid hown3
      have HB3 := Lib.hid (HB2.out.trans hb3)
      clear hown3 hb3 HW2 HB2
      go_wp2
      refine ⟨⟨k + 1, _, l ++ (32 :: num s), by go_num, rfl, HK.out, ?_, ?_, HB3.out⟩, by simp [intOf]; have := HK.out; omega⟩
      · rw [HL.out, subT_take HS.out, List.append_assoc]
      · have := HW3.out
        rw [show Lib.byteCells l ++ [Value.int .u8 32] ++ Lib.byteCells (Lib.itoa s) = Lib.byteCells (l ++ (32 :: num s)) by simp [Lib.byteCells, num], show l.length + 1 + (Lib.itoa s).length = (l ++ (32 :: num s)).length by simp [num]; omega] at this
        exact this
    · obtain rfl : k = a.sub.length := by omega
      have hpos : 0 < l.length := by
        rw [HL.out, List.length_append]
        have := dec_ne_nil a.rule.natAbs
        have : 0 < (num a.rule).length := by
          obtain ⟨c, q, hq, _⟩ := num_head a.rule
          rw [hq]; simp
        omega
      rcases hown.2 with ⟨-, h0⟩ | ⟨g, cap, cur, rfl, -, -, -, -, -, -⟩
      · omega
      · have hcv := run_convert_bytes_back (P := Tryd.prog) wr 101 9 5 ⟨g, 0, none⟩ cap l Tryd.underlying101 Tryd.underlying5 Tryd.underlying9 (fun j hj => hown.cells (g := g) rfl j _ (by simp [Lib.byteCells, hj]))
        have HB := Lib.hid hb
        clear hown hb hkn
        go_wp2
        go_ret
        refine ⟨?_, box_belowD (HX.out.trans HB.out)⟩
        rw [← HR.out, HL.out, List.take_length]
        rfl
end Go.Proofs.YtjgigcnjgblekaaDoor

namespace Go.Proofs.YtjgigcnjgblekaaDoor
open Go Go.RowKit Go.Maps Classical

def intVs (l : List Int) : List Value := l.map fun (n : Int) => .int .i64 n
theorem intVs_one (l : List Int) : ∀ u ∈ intVs l, u.oneCell' = true := by
  intro u hu
  obtain ⟨n, _, rfl⟩ := List.mem_map.1 hu
  rfl
theorem intVs_len (l : List Int) : (intVs l).length = l.length := by simp [intVs]
theorem infoIntR : (Tryd.prog.info? 3).map (fun i => (i.zero, i.size, i.bytes)) = some (some (.int .i64 0), 1, 8) := by kernel_rfl
theorem infoAct : (Tryd.prog.info? 30).map (fun i => (i.zero, i.size, i.bytes)) = some (some (.agg #[.int .i64 0, .slice none 0 0]), 2, 32) := by kernel_rfl
theorem sizeAct : (Tryd.prog.info? 30).map (·.size) = some 2 := by kernel_rfl
theorem results_row_slot1 {P : Program} {fn : Func} {p : Tmp} {ty : TypeId} (h : fn.results = #[.cell p ty]) (tmps : Array Value) (w : World) (g : Nat) (t : TypeId) (cs : Array Value) (fr : Nat × Nat) (d : TypeDesc)
    (hp : tmps.getD p undef = .pointer (some ⟨g, 0, none⟩)) (hg : w.heap[g]? = some (.cells cs t fr))
    (hu : P.underlying ty = some d) (hd : (match d with | .struct _ | .array _ _ => true | _ => false) = true) (hi : (P.info? ty).map (·.size) = some cs.size) :
    (results fn tmps).run P w = .ok (.agg cs) w := by
  have hp' : tmps[p]?.getD undef = .pointer (some ⟨g, 0, none⟩) := by simpa using hp
  simp [results, h, hp', asAddr, run_loadVar_row w g t ty cs fr d hg hu hd hi]
/-- A list of numbers of the call's own. -/
def OwnZ (w : World) (B : Nat) (v : Value) (l : List Int) : Prop := w.ownsRow B 3 1 v l.length (intVs l)
section
variable {w w' : World} {B : Nat} {v : Value} {l : List Int}
theorem OwnZ.turns {S : List Nat} (h : OwnZ w B v l) (ht : Turns S w w') (hs : ∀ b, v.ownBlock = some b → b ∉ S) : OwnZ w' B v l := ownsRow_turns h ht hs
theorem OwnZ.below (h : OwnZ w B v l) (hb : Below w.heap.size w w') : OwnZ w' B v l := h.turns (S := []) (Turns.of_below hb) (fun _ _ => by simp)
theorem OwnZ.down {B' : Nat} (h : OwnZ w B v l) (hb : B' ≤ B) : OwnZ w B' v l := by
  refine ⟨h.1, ?_⟩
  rcases h.2 with h2 | ⟨g, cap, cur, h1, h2, h3⟩
  · exact .inl h2
  · exact .inr ⟨g, cap, cur, h1, Nat.le_trans hb h2, h3⟩
theorem OwnZ.form (h : OwnZ w B v l) : ∃ A c, v = .slice A l.length c := own_form1 h
theorem OwnZ.rsl {F : Nat → Prop} (h : OwnZ w B v l) (hF : ∀ b, v.ownBlock = some b → F b) (hi : ∀ i ∈ l, i64ok i) : RSl F w 1 EInt v l := by
  refine RSl.of_own h rfl hF (fun i x hx => ⟨[.int .i64 x], ⟨rfl, hi x (List.mem_of_getElem? hx)⟩, fun j v hv => ?_⟩)
  match j with
  | 0 =>
    simp only [List.getElem?_cons_zero, Option.some.injEq] at hv
    subst hv
    rw [Nat.mul_one, Nat.add_zero]
    unfold intVs
    rw [List.getElem?_map, hx]
    rfl
  | j + 1 => simp at hv
end
/-- The numbers of a list that is read, cell by cell. -/
theorem RSl.intCells {F : Nat → Prop} {w : World} {A : Option Addr} {n c : Nat} {l : List Int} (h : RSl F w 1 EInt (.slice A n c) l) : n = l.length ∧ (l = [] ∨ ∃ ad, A = some ad ∧ ∀ j u, (intVs l)[j]? = some u → w.cell? (ad.add j) = some u) := by
  obtain ⟨A', c', h1, h2, h3, _, h4⟩ := h
  simp only [Value.slice.injEq] at h1
  obtain ⟨rfl, rfl, rfl⟩ := h1
  refine ⟨rfl, ?_⟩
  rcases h4 with h4 | ⟨b, off, hA, hf, hb, hc⟩
  · exact .inl h4
  · refine .inr ⟨_, hA, fun j u hu => ?_⟩
    unfold intVs at hu
    rw [List.getElem?_map, Option.map_eq_some_iff] at hu
    obtain ⟨x, hx, rfl⟩ := hu
    obtain ⟨cs, ⟨rfl, _⟩, h5⟩ := hc j x hx
    have := h5 0 _ rfl
    rw [rd_add]
    simpa using this
section
variable {P : Program}
/-- A list that is read is appended onto a row of the call's own. -/
theorem run_append_ints {F : Nat → Prop} (w : World) (t ty : TypeId) (base : Nat) (e : TypeId) (i : TypeInfo) (z : Value) (ht : P.underlying t = some (.slice e)) (hi : P.info? e = some i) (hz : i.zero = some z)
    (hsize : i.size = 1) (hby : i.bytes = 8) (hzs : z.cells.size = 1)
    (v : Value) (n : Nat) (xs : List Value) (hown : w.ownsRow base e 1 v n xs) (u : Value) (l : List Int) (hu : RSl F w 1 EInt u l)
    (hn : n + l.length ≤ 17000000000000) (hbase : base ≤ w.heap.size) :
    ∃ v' w', (Builtin.append_ #[t, t] ty #[v, u]).run P w = .ok v' w' ∧ w'.ownsRow base e 1 v' (n + l.length) (xs ++ intVs l) ∧ w.grownBy w' v.ownBlock ∧ (v'.ownBlock = v.ownBlock ∨ v'.ownBlock = some w.heap.size) := by
  have h63 : n + l.length ≤ maxLen := by unfold maxLen; omega
  have hbytes : (n + l.length) * 8 ≤ 140737488355328 := by omega
  obtain ⟨A, c, rfl⟩ := hu.form
  obtain ⟨_, hu2⟩ := hu.intCells
  have none_case : ∀ A, l = [] → ∃ v' w', (Builtin.append_ #[t, t] ty #[v, .slice A l.length c]).run P w = .ok v' w' ∧ w'.ownsRow base e 1 v' (n + l.length) (xs ++ intVs l) ∧ w.grownBy w' v.ownBlock ∧ (v'.ownBlock = v.ownBlock ∨ v'.ownBlock = some w.heap.size) := by
    intro A h0
    subst h0
    have hl0 : ∀ (x : Addr), (loadCells x 0).run P w = .ok #[] w := fun x => by simpa using run_loadCells_list (P := P) w x [] (by simp)
    refine ⟨v, w, ?_, by simpa [intVs] using hown, ⟨rfl, rfl, rfl, Nat.le_refl _, fun _ _ _ => rfl⟩, .inl rfl⟩
    rcases hown.2 with ⟨rfl, rfl⟩ | ⟨g, cap, cur, rfl, _, _, hnc, _⟩
    · cases A <;> simp [Builtin.append_, run_underlying ht, sizeOf, typeInfo, hi, Builtin.lenOf, Builtin.firstCells, loadCells, loadCellsFrom]
    · cases A <;> simp [Builtin.append_, run_underlying ht, sizeOf, typeInfo, hi, Builtin.lenOf, Builtin.firstCells, loadCells, loadCellsFrom, storeCells, hnc]
  rcases hu2 with h0 | ⟨ad, rfl, hc⟩
  · exact none_case A h0
  · obtain ⟨v', w', hr, h2, h3, _, h5⟩ := run_append_own_at (P := P) w base t ty e i z 1 8 ht hi hz hsize hby hzs (by decide) v n xs hown ad l.length c (intVs l) (by simp [intVs]) hc (intVs_one l) h63 hbytes hbase
    exact ⟨v', w', hr, h2, h3, h5⟩
theorem step_append_ints {F : Nat → Prop} {w : World} {ops : Array Oper} {o : Oper} {a : Act} {K : Act → World → Prop} {Q : Exit → Act → World → Prop} {E : Prop} {base : Nat} {e : TypeId} {n : Nat} {v u : Value} {xs : List Value} {l : List Int}
    (hown : w.ownsRow base e 1 v n xs) (hu : RSl F w 1 EInt u l) (hgd : o.guard = none) (s x : Operand) (t : TypeId)
    (ho : o.op = .call { callee := .builtin .append, args := #[s, x], argTypes := #[t, t] }) {z : Value} (ht : P.underlying t = some (.slice e)) (hi : (P.info? e).map (fun i => (i.zero, i.size, i.bytes)) = some (some z, 1, 8))
    (hzs : z.cells.size = 1) (hs : a.eval s = v) (hx : a.eval x = u)
    (hn : n + l.length ≤ 17000000000000) (hbase : base ≤ w.heap.size)
    (k : ∀ v' w', w'.ownsRow base e 1 v' (n + l.length) (xs ++ intVs l) → Turns v.ownBlock.toList w w' → K (a.put o.dst v') w') :
    if Region.wanted o (yielded ops a.tmps) = true then Oper.wp P o a w.drew K Q else E := by
  have hw : Region.wanted o (yielded ops a.tmps) = true := by simp [Region.wanted, hgd]
  rw [if_pos hw]
  obtain ⟨i0, hi0, hz0, hz1, hz2⟩ := info_parts hi
  have T0 : Turns ([] : List Nat) w w.drew := (Turns.refl [] w).drew
  obtain ⟨v', w', hr, h2, h3, _⟩ := run_append_ints (P := P) w.drew t o.type base e i0 z ht hi0 hz0 hz1 hz2 hzs v n xs (ownsRow_turns hown T0 (fun _ _ => by simp)) u l (hu.keep (Kp.of_turns (F := F) T0 (fun x hx => by simp at hx))) hn (by simpa using hbase)
  unfold Oper.wp execOp
  simp only [ho, resolve, invoke, builtin, Sem.run_bind, Sem.run_pure, Result.andThen_ok, List.map_toArray, List.map_cons, List.map_nil, hs, hx, hr]
  exact k v' w' h2 ((T0.mono (by simp)).trans (Turns.of_grown h3) (fun x hx => .inl hx))
end
theorem own0 (w : World) (T : TypeId) (sz B : Nat) (hB : B ≤ w.heap.size) : (w.alloc (.cells #[] T)).ownsRow B T sz (.slice (some ⟨w.heap.size, 0, none⟩) 0 0) 0 [] :=
  ⟨by simp, .inr ⟨w.heap.size, 0, #[], rfl, hB, heap_alloc_new w _, Nat.le_refl _, Nat.zero_le _, by simp, by simp⟩⟩

/-- What `copied` leaves. -/
def CopRes (a : Ac) (w : World) (e : Ending) (w' : World) : Prop := ∃ sv, e = .returned (.agg #[.int .i64 a.rule, sv]) ∧ OwnZ w' w.heap.size sv a.sub ∧ Below w.heap.size w w'
theorem copRes_of {a : Ac} {w w3 : World} {v : Value} {u1 u2 : Value} (h2 : OwnZ w3 (w.heap.size + 2) v a.sub) (h3 : Below w.heap.size w w3) :
    CopRes a w (.returned (.agg #[.int .i64 a.rule, v])) ((w3.setCell ⟨w.heap.size + 1, 0, none⟩ u1).setCell ⟨w.heap.size + 1, 1, none⟩ u2) := by
  have T : Turns [w.heap.size + 1] w3 ((w3.setCell ⟨w.heap.size + 1, 0, none⟩ u1).setCell ⟨w.heap.size + 1, 1, none⟩ u2) := ((Turns.refl _ _).setCell (.inl (by simp)) _).setCell (.inl (by simp)) _
  refine ⟨v, rfl, (h2.turns T (fun b hb hm => ?_)).down (by omega), h3.trans (T.below h3.size (fun x hx => by rw [List.mem_singleton.1 hx]; omega))⟩
  have := (ownBlock_cells h2 hb).1
  rw [List.mem_singleton.1 hm] at this
  omega
set_option maxRecDepth 100000 in
set_option maxHeartbeats 4000000 in
theorem copiedW {F : Nat → Prop} (a : Ac) (sv : Value) (w : World) (h : RSl F w 1 EInt sv a.sub) (hl : a.sub.length ≤ 17000000000000) :
    Calls Tryd.prog 55 #[.agg #[.int .i64 a.rule, sv]] w (CopRes a w) := by
  obtain ⟨A, c, rfl⟩ := h.form
  obtain ⟨w0, hw0⟩ : ∃ w0, w0 = (w.alloc (.cells #[.int .i64 a.rule, .slice A a.sub.length c] 30)).alloc (.cells #[.int .i64 0, .slice none 0 0] 30) := ⟨_, rfl⟩
  have hx0 : Below (w.heap.size + 1) (w.alloc (.cells #[.int .i64 a.rule, .slice A a.sub.length c] 30)) w0 := by rw [hw0]; exact (Below.refl _ _).alloc (by simp) _
  have hsz0 : w0.heap.size = w.heap.size + 1 + 1 := by rw [hw0]; simp
  have hr0 : w0.heap[w.heap.size + 1]? = some (.cells #[.int .i64 0, .slice none 0 0] 30 (0, 0)) := by
    have := heap_alloc_new (w.alloc (.cells #[.int .i64 a.rule, .slice A a.sub.length c] 30)) (.cells #[.int .i64 0, .slice none 0 0] 30)
    rw [hw0]
    simpa using this
  have x0 := box_cellD hx0 0 rfl
  have x1 := box_cellD hx0 1 rfl
  have HB := Lib.hid (box_belowD hx0)
  have HE := Lib.hid (show w.heap.size + 1 + 1 ≤ (w0.alloc (.cells #[] 3)).heap.size by simp; omega)
  have HH := Lib.hid ((h.keep (Kp.of_below (F := F) (box_belowD hx0))).keep (Kp.of_below (F := F) ((Below.refl _ w0).alloc (Nat.le_refl _) (.cells #[] 3))))
  have HR := Lib.hid hr0
  have HB0 := Lib.hid ((Below.refl w0.heap.size w0).alloc (Nat.le_refl _) (.cells #[] 3))
  have HL := Lib.hid (show 0 + a.sub.length ≤ 17000000000000 by omega)
  have ho0 := own0 w0 3 1 w0.heap.size (Nat.le_refl _)
  rw [hsz0] at ho0
  have HO := Lib.hid ho0
  clear ho0
  clear h hx0 hr0
  go_enter Tryd.func55, Tryd.ntmps55
  go_upto_region 1 with fail
  rw [← hw0]
  clear hw0
  have KEY : ∀ v' w3, w3.ownsRow (w.heap.size + 1 + 1) 3 1 v' (0 + a.sub.length) ([] ++ intVs a.sub) → Turns (Value.slice (some ⟨w.heap.size + 1 + 1, 0, none⟩) 0 0).ownBlock.toList (w0.alloc (.cells #[] 3)) w3 →
      w3.heap[w.heap.size + 1]? = some (.cells #[.int .i64 0, .slice none 0 0] 30 (0, 0)) ∧ OwnZ w3 (w.heap.size + 2) v' a.sub ∧ Below w.heap.size w w3 ∧ w3.cell? ⟨w.heap.size, 0, none⟩ = some (.int .i64 a.rule) := by
    intro v' w3 ho ht
    rw [Nat.zero_add, List.nil_append] at ho
    have hs := HB.out.size
    refine ⟨?_, OwnZ.down (show OwnZ w3 _ v' a.sub from ho) (by omega), ?_, ?_⟩
    · rw [ht.block _ (by simp; omega) (by simp [Value.ownBlock]), heap_alloc_old _ _ (by omega)]
      exact HR.out
    · exact (HB.out.alloc (by omega) _).trans (ht.below (by simp; omega) (fun x hx => by simp [Value.ownBlock] at hx; omega))
    · exact (ht.cell (by simp; omega) (by simp [Value.ownBlock]; omega)).trans ((HB0.out.cell (p := ⟨w.heap.size, 0, none⟩) (by show w.heap.size < _; omega)).trans x0)
  have KY := Lib.hid KEY
  clear KEY
  go_region_law (refine step_append_ints HO.out HH.out (by rfl) (.tmp 5) (.tmp 7) 22 (by rfl) Tryd.underlying22 infoIntR rfl (by rfl) (by rfl) HL.out HE.out ?_; intro v' w3 ho ht; have ho' := ho; rw [Nat.zero_add] at ho'; obtain ⟨va, vc, rfl⟩ := own_form1 ho'; clear ho'; obtain ⟨q1, q2, q3, q4⟩ := KY.out _ w3 ho ht; have Q1 := Lib.hid q1; have Q2 := Lib.hid q2; have Q3 := Lib.hid q3; have c0 := cell_of_row _ _ 0 _ _ _ q1; have c1 := cell_of_row _ _ 1 _ _ _ q1; have fz := fun o => frozen_of_row _ _ o _ _ q1; clear ho ht q1 q2 q3)
  all_goals go_wp2
  all_goals
    have EF := heap_setCell_same _ _ 1 _ _ (.slice va a.sub.length vc) (heap_setCell_same _ _ 0 _ _ (.int .i64 a.rule) Q1.out)
    refine bodyPost_ret (v := .agg #[.int .i64 a.rule, .slice va a.sub.length vc]) (results_row_slot1 rfl _ _ (w.heap.size + 1) 30 #[.int .i64 a.rule, .slice va a.sub.length vc] (0, 0) _ rfl EF Tryd.underlying30 rfl sizeAct) rfl ?_
    exact copRes_of Q2.out Q3.out
end Go.Proofs.YtjgigcnjgblekaaDoor

namespace Go.Proofs.YtjgigcnjgblekaaDoor
open Go Go.RowKit Go.Maps Classical

def outI (m : Nat) (i : Int) : Bool := decide (i < 0 ∨ (m : Int) ≤ i)
theorem ret_boolA {a b : Bool} (h : a = b) : Ending.returned (.bool a) = .returned (.bool b) := by rw [h]
theorem ret_i64A {a b : Int} (h : a = b) : Ending.returned (.int .i64 a) = .returned (.int .i64 b) := by rw [h]
set_option maxRecDepth 100000 in
theorem own1W (i : Int) (B p m c : Nat) (A : Option Addr) (w : World) (hB : w.cell? ⟨B, 0, none⟩ = some (.pointer (some ⟨p, 0, none⟩))) (hp : w.cell? ⟨p, 1, none⟩ = some (.slice A m c)) :
    Calls Tryd.prog 66 #[.int .i64 i, .pointer (some ⟨B, 0, none⟩)] w fun e w' => e = .returned (.bool (outI m i)) ∧ Below w.heap.size w w' := by
  by_cases h0 : i < 0
  · have hb : outI m i = true := by simp [outI, h0]
    have HB := Lib.hid hb
    clear hb
    go_enter Tryd.func66, Tryd.ntmps66
    go_wp2
    go_ret
    exact ⟨ret_boolA HB.out.symm, Below.refl _ _⟩
  · have hb : outI m i = decide ((m : Int) ≤ i) := by simp [outI, h0]
    have HB := Lib.hid hb
    clear hb
    go_enter Tryd.func66, Tryd.ntmps66
    go_wp2
    go_ret
    exact ⟨ret_boolA HB.out.symm, Below.refl _ _⟩
/-- The first place of which p holds. -/
def idxZ (p : Int → Bool) : List Int → Nat
  | [] => 0
  | s :: r => if p s = true then 0 else idxZ p r + 1
def idxY (p : Int → Bool) (xs : List Int) : Int := if idxZ p xs < xs.length then (idxZ p xs : Int) else -1
theorem idxZ_none {p : Int → Bool} : ∀ {xs : List Int}, (∀ s ∈ xs, p s = false) → idxZ p xs = xs.length
  | [], _ => rfl
  | s :: r, h => by
    unfold idxZ
    rw [if_neg (by rw [h s (List.mem_cons_self ..)]; decide), idxZ_none (fun t ht => h t (List.mem_cons_of_mem _ ht))]
    rfl
theorem idxZ_at {p : Int → Bool} : ∀ {xs : List Int} {k : Nat} {s : Int}, xs[k]? = some s → p s = true → (∀ s ∈ xs.take k, p s = false) → idxZ p xs = k
  | [], k, s, h, _, _ => by simp at h
  | a :: r, 0, s, h, hp, _ => by
    simp at h
    subst h
    unfold idxZ
    rw [if_pos hp]
  | a :: r, k + 1, s, h, hp, hq => by
    unfold idxZ
    rw [if_neg (by rw [hq a (by simp)]; decide), idxZ_at (k := k) (s := s) (by simpa using h) hp (fun t ht => hq t (by rw [List.take_succ_cons]; exact List.mem_cons_of_mem _ ht))]
theorem idxY_none {p : Int → Bool} {xs : List Int} (h : ∀ s ∈ xs, p s = false) : idxY p xs = -1 := by
  unfold idxY
  rw [idxZ_none h, if_neg (Nat.lt_irrefl _)]
theorem idxY_at {p : Int → Bool} {xs : List Int} {k : Nat} {s : Int} (h : xs[k]? = some s) (hp : p s = true) (hq : ∀ s ∈ xs.take k, p s = false) : idxY p xs = k := by
  unfold idxY
  rw [idxZ_at h hp hq, if_pos (List.getElem?_eq_some_iff.1 h).1]
theorem idxY_ge {p : Int → Bool} {xs : List Int} : (0 ≤ idxY p xs) ↔ ∃ s ∈ xs, p s = true := by
  constructor
  · intro h
    by_cases hn : ∀ s ∈ xs, p s = false
    · rw [idxY_none hn] at h; omega
    · have : ∃ s, ¬ (s ∈ xs → p s = false) := Classical.not_forall.1 hn
      obtain ⟨s, hs⟩ := this
      have := Classical.not_imp.1 hs
      exact ⟨s, this.1, by simpa using this.2⟩
  · rintro ⟨s, hs, hp⟩
    unfold idxY
    have : idxZ p xs < xs.length := by
      induction xs with
      | nil => cases hs
      | cons a r ih =>
        unfold idxZ
        split
        · simp
        · rename_i hna
          rcases List.mem_cons.1 hs with rfl | hs
          · exact absurd hp hna
          · have := ih hs
            simp only [List.length_cons]
            omega
    rw [if_pos this]
    omega
theorem take_allA {p : Int → Bool} {xs : List Int} {k : Nat} {s : Int} (h : ∀ s ∈ xs.take k, p s = false) (hs : xs[k]? = some s) (hp : p s = false) : ∀ s ∈ xs.take (k + 1), p s = false := by
  intro t ht
  rw [List.take_add_one, hs] at ht
  rcases List.mem_append.1 ht with ht | ht
  · exact h t ht
  · simp at ht; rw [ht]; exact hp
set_option maxRecDepth 100000 in
set_option maxHeartbeats 1000000 in
theorem indexFuncW {F : Nat → Prop} (v : Value) (xs : List Int) (B : Nat) (p : Int → Bool) (w : World) (h : RSl F w 1 EInt v xs)
    (hp : ∀ s ∈ xs, ∀ W, Below w.heap.size w W → Calls Tryd.prog 66 #[.int .i64 s, .pointer (some ⟨B, 0, none⟩)] W fun e w' => e = .returned (.bool (p s)) ∧ Below W.heap.size W w') :
    Calls Tryd.prog 76 #[v, .func (.func 66) #[] #[.pointer (some ⟨B, 0, none⟩)]] w fun e w' => e = .returned (.int .i64 (idxY p xs)) ∧ Below w.heap.size w w' := by
  obtain ⟨A, c, rfl⟩ := h.form
  have hm := h.len
  unfold maxLen at hm
  have HP := Lib.hid hp
  have HH := Lib.hid h
  clear hp h
  go_enter Tryd.func76, Tryd.ntmps76
  go_wp2
  go_loopw [8] (fun i wr => ∃ k : Nat, i = .int .i64 k ∧ k ≤ xs.length ∧ (∀ s ∈ xs.take k, p s = false) ∧ Below w.heap.size w wr) (fun i _ => xs.length - (intOf i).toNat)
  case atStart => exact ⟨0, rfl, Nat.zero_le _, by simp, Below.refl _ _⟩
  case round =>
    obtain ⟨k, rfl, hk, hq, hb⟩ := hrel
    by_cases hkn : k < xs.length
    · obtain ⟨s, hs⟩ : ∃ s, xs[k]? = some s := ⟨_, List.getElem?_eq_getElem hkn⟩
      obtain ⟨b, off, rfl, _, _, cs, ⟨rfl, hok⟩, hc⟩ := (HH.out.keep (Kp.of_below hb)).at hs
      have c0 := hc 0 _ rfl
      simp only [Nat.add_zero, Nat.mul_one] at c0
      have e1 : (0 : Int) ≤ (k : Int) := by omega
      have e2 : (k : Int) < (xs.length : Int) := by omega
      have hsz := hb.size
      have C := Lib.hid (HP.out s (List.mem_of_getElem? hs) wr hb)
      have HS := Lib.hid hs
      have HQ := Lib.hid hq
      have HB := Lib.hid hb
      have HK := Lib.hid hkn
      clear hc hs hkn hb hq
      by_cases hps : p s = true
      · have HI := Lib.hid (idxY_at HS.out hps HQ.out)
        have HPS := Lib.hid hps
        clear hps
        go_wp2_with (go_at_call 66; refine C.out.mono ?_; rintro e w' ⟨he, hb2⟩; rw [HPS.out] at he; subst he; have HB2 := Lib.hid hb2; clear hb2)
        go_ret
        exact ⟨ret_i64A HI.out.symm, HB.out.trans (HB2.out.mono hsz)⟩
      · have hps' : p s = false := by simpa using hps
        have HQ2 := Lib.hid (take_allA HQ.out HS.out hps')
        have HPS := Lib.hid hps'
        clear hps hps'
        go_wp2_with (go_at_call 66; refine C.out.mono ?_; rintro e w' ⟨he, hb2⟩; rw [HPS.out] at he; subst he; have HB2 := Lib.hid hb2; clear hb2)
        exact ⟨⟨k + 1, by go_num, HK.out, HQ2.out, HB.out.trans (HB2.out.mono hsz)⟩, by simp [intOf]; have := HK.out; omega⟩
    · obtain rfl : k = xs.length := by omega
      rw [List.take_length] at hq
      have HI := Lib.hid (idxY_none hq)
      clear hq
      go_wp2
      go_ret
      exact ⟨ret_i64A HI.out.symm, hb⟩
theorem containsFuncW {F : Nat → Prop} (v : Value) (xs : List Int) (B : Nat) (p : Int → Bool) (w : World) (h : RSl F w 1 EInt v xs)
    (hp : ∀ s ∈ xs, ∀ W, Below w.heap.size w W → Calls Tryd.prog 66 #[.int .i64 s, .pointer (some ⟨B, 0, none⟩)] W fun e w' => e = .returned (.bool (p s)) ∧ Below W.heap.size W w') :
    Calls Tryd.prog 65 #[v, .func (.func 66) #[] #[.pointer (some ⟨B, 0, none⟩)]] w fun e w' => e = .returned (.bool (decide (0 ≤ idxY p xs))) ∧ Below w.heap.size w w' := by
  have C := Lib.hid (indexFuncW v xs B p w h hp)
  clear h hp
  go_enter Tryd.func65, Tryd.ntmps65
  go_wp2_with (go_at_call 76; refine C.out.mono ?_; rintro e w' ⟨rfl, hb2⟩; have HB2 := Lib.hid hb2; clear hb2)
  go_ret
  exact ⟨rfl, HB2.out⟩

theorem own_law {g : Agd} {a : Ac} (h0 : 0 ≤ a.rule) (h1 : a.rule < (g.lv.length : Int)) : (!decide (0 ≤ idxY (outI g.cs.length) a.sub)) = decide (ownA g a) := by
  by_cases ho : ownA g a
  · rw [decide_eq_true ho]
    have : ¬ 0 ≤ idxY (outI g.cs.length) a.sub := by
      rw [idxY_ge]
      rintro ⟨s, hs, hp⟩
      have := ho.2 s hs
      simp only [outI, decide_eq_true_eq] at hp
      omega
    rw [decide_eq_false this]; rfl
  · rw [decide_eq_false ho]
    have : 0 ≤ idxY (outI g.cs.length) a.sub := by
      rw [idxY_ge]
      refine Classical.byContradiction fun hn => ho ⟨⟨h0, h1⟩, fun i hi => ?_⟩
      have : ¬ outI g.cs.length i = true := fun hp => hn ⟨i, hi, hp⟩
      simp only [outI, decide_eq_true_eq] at this
      omega
    rw [decide_eq_true this]; rfl
theorem AgAt.cells {M : List Nat} {w : World} {p mc mf N : Nat} {g : Agd} (h : AgAt M w p mc mf g N) : ∃ A1 c1 A2 c2, w.cell? ⟨p, 0, none⟩ = some (.slice A1 g.lv.length c1) ∧ w.cell? ⟨p, 1, none⟩ = some (.slice A2 g.cs.length c2) ∧ w.cell? ⟨p, 2, none⟩ = some (.map (some mc)) ∧ w.cell? ⟨p, 3, none⟩ = some (.map (some mf)) ∧
    RSl (fun b => b ∉ M) w 1 EInt (.slice A1 g.lv.length c1) g.lv ∧ RSl (fun b => b ∉ M) w 3 ECst (.slice A2 g.cs.length c2) g.cs := by
  obtain ⟨lv, cv, h1, h2, h3⟩ := h.blk
  obtain ⟨A1, c1, rfl⟩ := h2.form
  obtain ⟨A2, c2, rfl⟩ := h3.form
  exact ⟨A1, c1, A2, c2, cell_of_row _ _ 0 _ _ _ h1, cell_of_row _ _ 1 _ _ _ h1, cell_of_row _ _ 2 _ _ _ h1, cell_of_row _ _ 3 _ _ _ h1, h2, h3⟩
set_option maxRecDepth 100000 in
set_option maxHeartbeats 4000000 in
theorem ownW {F : Nat → Prop} {M : List Nat} {p mc mf N : Nat} {g : Agd} (a : Ac) (sv : Value) (w : World) (h : AgAt M w p mc mf g N) (hs : RSl F w 1 EInt sv a.sub) (hr : i64ok a.rule) :
    Calls Tryd.prog 53 #[.pointer (some ⟨p, 0, none⟩), .agg #[.int .i64 a.rule, sv]] w fun e w' => e = .returned (.bool (decide (ownA g a))) ∧ Below w.heap.size w w' := by
  obtain ⟨A, c, rfl⟩ := hs.form
  obtain ⟨w0, hw0⟩ : ∃ w0, w0 = (w.alloc (.cells #[.pointer (some ⟨p, 0, none⟩)] 24)).alloc (.cells #[.int .i64 a.rule, .slice A a.sub.length c] 30) := ⟨_, rfl⟩
  have hx0 : Below (w.heap.size + 1) (w.alloc (.cells #[.pointer (some ⟨p, 0, none⟩)] 24)) w0 := by rw [hw0]; exact (Below.refl _ _).alloc (by simp) _
  have hsz0 : w0.heap.size = w.heap.size + 1 + 1 := by rw [hw0]; simp
  have hb0 := box_belowD hx0
  have x0 := box_cellD hx0 0 rfl
  have x1 : w0.cell? ⟨w.heap.size + 1, 0, none⟩ = some (.int .i64 a.rule) := by
    rw [hw0]; simp
  have x2 : w0.cell? ⟨w.heap.size + 1, 1, none⟩ = some (.slice A a.sub.length c) := by
    rw [hw0]; simp
  obtain ⟨A1, c1, A2, c2, y0, y1, _, _, _, _⟩ := (h.below hb0).cells
  have hlt : w0.heap.size ≤ w0.heap.size := Nat.le_refl _
  have hp := (h.below hb0).lt
  have CF := Lib.hid (fun (W0 : World) (hW0 : Below w0.heap.size w0 W0) => containsFuncW (.slice A a.sub.length c) a.sub w.heap.size (outI g.cs.length) W0 (hs.keep (Kp.of_below (F := F) (hb0.trans (hW0.mono (by omega))))) (fun s _ W hW => own1W s w.heap.size p g.cs.length c2 A2 W
    (((hW0.trans (hW.mono hW0.size)).cell (p := ⟨w.heap.size, 0, none⟩) (by show w.heap.size < w0.heap.size; omega)).trans x0) (((hW0.trans (hW.mono hW0.size)).cell (p := ⟨p, 1, none⟩) hp).trans y1)))
  have DN := Lib.hid (fun n => ((Turns.refl [] w0).drewN n).below (Nat.le_refl _) (fun x hx => by simp at hx))
  have HB := Lib.hid hb0
  have hm := h.big.1
  have hlo := hr.lo
  unfold maxLen at hm
  have HG := Lib.hid (fun h0 h1 => own_law (g := g) (a := a) h0 h1)
  have HN := Lib.hid (fun (hn : ¬ (0 ≤ a.rule ∧ a.rule < (g.lv.length : Int))) => (show decide (ownA g a) = false from decide_eq_false (fun ho => hn ho.1)))
  clear h hs hx0 hb0
  go_enter Tryd.func53, Tryd.ntmps53
  go_upto_region 1 with fail
  rw [← hw0]
  clear hw0
  by_cases h0 : a.rule < 0
  · have HR := Lib.hid (HN.out (by omega))
    clear HG HN CF
    go_quiet (fail)
    go_wp2
    go_ret
    exact ⟨ret_boolA HR.out.symm, HB.out.trans ((DN.out _).mono HB.out.size)⟩
  · by_cases h1 : a.rule < (g.lv.length : Int)
    · have HR := Lib.hid (HG.out (by omega) h1)
      clear HG HN
      go_quiet (fail)
      go_wp2_with fail
      refine (CF.out _ (DN.out _)).mono ?_
      rintro e w' ⟨rfl, hb2⟩
      have HB2 := Lib.hid (HB.out.trans (((DN.out _).trans (hb2.mono (DN.out _).size)).mono HB.out.size))
      clear hb2 CF
      go_wp2
      go_ret
      exact ⟨ret_boolA HR.out, HB2.out⟩
    · have HR := Lib.hid (HN.out (by omega))
      clear HG HN CF
      go_quiet (fail)
      go_wp2
      go_ret
      exact ⟨ret_boolA HR.out.symm, HB.out.trans ((DN.out _).mono HB.out.size)⟩
end Go.Proofs.YtjgigcnjgblekaaDoor
