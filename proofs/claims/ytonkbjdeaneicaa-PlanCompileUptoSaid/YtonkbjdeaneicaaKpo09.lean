/- A map to ints: 'MapG': block b is a map that answers as f; what a lookup and a store do to it. Over any program. alpha.Shape: a pattern's shape. Lists that are the same: slices.Equal, equalInts, equalSlots. -/
import Derived.Test.YtonkbjdeaneicaaKpo08
import Derived.Below
import Derived.Deep.DrawnRows
import Derived.Deep.RegionHeld3
import Derived.Deep.RegionLaw
import Derived.DeepKeys4
import Derived.Maps.OwnOps
import Derived.Maps.OwnSet
import Derived.Maps.Views
import Derived.StillTailTactics
import Derived.WalkKit
namespace Go.Proofs.Ytonkbjdeaneicaa
open Go.RowKit Go.Maps Classical

section
variable {P : Program} {k e : TypeId}

/-- A datum that answers as f. -/
def Answers (P : Program) (k : TypeId) (D : DataW Unit) (f : Value → Option Int) : Prop :=
  Tidy D ∧ ∀ v l, keyOf P k v = some l → (∀ z, f v = some z → has D l = true ∧ ∀ y, D.atKey l y = .lit (.int .i64 z)) ∧ (f v = none → has D l = false)

def MapG (P : Program) (k e : TypeId) (w : World) (b : Nat) (N : Nat) (f : Value → Option Int) : Prop :=
  ∃ (n : Nat) (D : DataW Unit), w.ownsMap P k (plainElem P e) b n D ∧ n ≤ N ∧ Answers P k D f

theorem MapG.lt {w : World} {b N : Nat} {f : Value → Option Int} (h : MapG P k e w b N f) : b < w.heap.size := by
  obtain ⟨n, D, h, _⟩ := h; exact h.lt
theorem MapG.of_block {w w' : World} {b N : Nat} {f : Value → Option Int} (h : MapG P k e w b N f) (hb : w'.heap[b]? = w.heap[b]?) : MapG P k e w' b N f := by
  obtain ⟨n, D, ⟨es, c, h1, h2, h3, h4⟩, hn, hN⟩ := h
  exact ⟨n, D, ⟨es, c, hb.trans h1, h2, h3, h4⟩, hn, hN⟩
theorem MapG.obj {w : World} {b N : Nat} {f : Value → Option Int} (h : MapG P k e w b N f) : ∃ es c, w.heap[b]? = some (.map es c) := by
  obtain ⟨n, D, ⟨es, c, h1, _⟩, _⟩ := h
  exact ⟨es, c, h1⟩
theorem MapG.made (w : World) : MapG P k e (w.alloc (.map #[] 0)) w.heap.size 0 (fun _ => none) :=
  ⟨0, .map [], World.ownsMap_made w P k _, Nat.le_refl _, tidy_empty, fun v l _ => ⟨fun z h => (by cases h), fun _ => rfl⟩⟩
theorem MapG.congr {w : World} {b N : Nat} {f g : Value → Option Int} (h : MapG P k e w b N f) (hg : ∀ v l, keyOf P k v = some l → g v = f v) : MapG P k e w b N g := by
  obtain ⟨n, D, h1, h2, h3, h4⟩ := h
  refine ⟨n, D, h1, h2, h3, fun v l hl => ?_⟩
  rw [hg v l hl]
  exact h4 v l hl

theorem MapG.hit {w : World} {b N : Nat} {f : Value → Option Int} {t : TypeId} (h : MapG P k e w b N f) (K : Keyed P k) (ht : P.underlying t = some (.map k e)) (he : P.underlying e = some (.int .i64)) (hz : (zeroValue e).run P w = .ok (.int .i64 0) w)
    {v : Value} {l : Lit} (hl : keyOf P k v = some l) {z : Int} (hv : f v = some z) : (Instr.lookup t (.map (some b)) v true).run P w = .ok (.tuple #[.int .i64 z, .bool true]) w := by
  obtain ⟨n, D, hown, _, _, hat⟩ := h
  obtain ⟨h1, h2⟩ := (hat v l hl).1 z hv
  obtain ⟨v', ps, hrun, hv'⟩ := hown.look_ok K ht hz (plainElem_int he (by decide)) hl
  rw [h2] at hv'
  obtain ⟨a, rfl, ha, _⟩ := plainElem_int_inv he hv'
  simp only [Prod.mk.injEq, DataW.lit.injEq, Lit.int.injEq, true_and] at ha
  rw [hrun, h1, ← ha.1]
theorem MapG.miss {w : World} {b N : Nat} {f : Value → Option Int} {t : TypeId} (h : MapG P k e w b N f) (K : Keyed P k) (ht : P.underlying t = some (.map k e)) (he : P.underlying e = some (.int .i64)) (hz : (zeroValue e).run P w = .ok (.int .i64 0) w)
    {v : Value} {l : Lit} (hl : keyOf P k v = some l) (hv : f v = none) : (Instr.lookup t (.map (some b)) v true).run P w = .ok (.tuple #[.int .i64 0, .bool false]) w := by
  obtain ⟨n, D, hown, _, _, hat⟩ := h
  have h1 := (hat v l hl).2 hv
  obtain ⟨v', ps, hrun, hv'⟩ := hown.look_ok K ht hz (plainElem_int he (by decide)) hl
  rw [atKey_of_not_has h1] at hv'
  obtain ⟨a, rfl, ha, _⟩ := plainElem_int_inv he hv'
  simp only [Prod.mk.injEq, DataW.lit.injEq, Lit.int.injEq, true_and] at ha
  rw [hrun, h1, ← ha.1]
noncomputable def putG (f : Value → Option Int) (v : Value) (z : Int) : Value → Option Int := fun u => if u = v then some z else f u
theorem MapG.store {w : World} {b N : Nat} {f : Value → Option Int} {t : TypeId} (h : MapG P k e w b N f) (K : Keyed P k) (ht : P.underlying t = some (.map k e)) (he : P.underlying e = some (.int .i64)) (hn : N < maxLen)
    {v : Value} {l : Lit} (hl : keyOf P k v = some l) {z : Int} (hz : (Lit.int .i64 z).wf = true) :
    ∃ w', (Instr.mapUpdate t (.map (some b)) v (.int .i64 z)).run P w = .ok () w' ∧ MapG P k e w' b (N + 1) (putG f v z) ∧ w.grownBy w' (some b) := by
  obtain ⟨n, D, hown, hle, hT, hat⟩ := h
  obtain ⟨w', hrun, hown', hg⟩ := hown.update (t := t) K ht (Nat.lt_of_le_of_lt hle hn) (val := .int .i64 z) hl (plainElem_int he hz)
  refine ⟨w', hrun, ⟨n + 1, _, hown', by omega, hT.put (K.key hl) _, fun u lu hlu => ?_⟩, hg⟩
  by_cases huv : u = v
  · subst huv
    have : lu = l := by rw [hl] at hlu; exact (Option.some.inj hlu).symm
    subst this
    refine ⟨fun y hy => ?_, fun hy => ?_⟩
    · simp only [putG, if_pos, Option.some.injEq] at hy
      subst hy
      exact ⟨has_put_same hT.isMap (K.key hl) _, fun y => by rw [atKey_put_same hT.isMap (K.key hl)]⟩
    · simp [putG] at hy
  · have hne : lu ≠ l := by
      rintro rfl
      exact huv (K.inj hlu hl)
    obtain ⟨h1, h2⟩ := hat u lu hlu
    refine ⟨fun y hy => ?_, fun hy => ?_⟩
    · simp only [putG, if_neg huv] at hy
      obtain ⟨h3, h4⟩ := h1 y hy
      exact ⟨by rw [has_put_other hne]; exact h3, fun y => by rw [atKey_put_other hne]; exact h4 y⟩
    · simp only [putG, if_neg huv] at hy
      rw [has_put_other hne]
      exact h2 hy
end
end Go.Proofs.Ytonkbjdeaneicaa

namespace Go.Proofs.Ytonkbjdeaneicaa
open Go.RowKit Pln Classical Go.Maps

theorem infoIntR : (Try.prog.info? 3).map (fun i => (i.zero, i.size, i.bytes)) = some (some (.int .i64 0), 1, 8) := by kernel_rfl
theorem freeW (i : Int) (w : World) (h : -9223372036854775807 ≤ i ∧ i ≤ 9223372036854775806) : Calls Try.prog 71 #[.int .i64 i] w fun e w' => e = .returned (.int .i64 (-1 - i)) ∧ w = w' := by
  obtain ⟨h1, h2⟩ := h
  go_enter Try.func71, Try.ntmps71
  go_wp2
  go_ret
  exact ⟨rfl, rfl⟩
theorem laidR : laidOutB Try.prog = true := by kernel_rfl
theorem keyedI : Keyed Try.prog 3 := int_keyed Try.underlying3
theorem zeroI (w : World) : (zeroValue 3).run Try.prog w = .ok (.int .i64 0) w := by kernel_rfl
theorem keyI {n : Int} (h : i64ok n) : keyOf Try.prog 3 (.int .i64 n) = some (.int .i64 n) := keyOf_int_mk Try.underlying3 h

/-- What the map of first places holds behind k places. -/
noncomputable def firstMap (args : List Slt) (k : Nat) : Value → Option Int := fun v => match v with
  | .int .i64 n => if firstV args n < k then some (firstV args n : Int) else none
  | _ => none
theorem firstMap_same {args : List Slt} {k : Nat} (h : ∀ m, firstV args m ≠ k) : firstMap args (k + 1) = firstMap args k := by
  funext v
  unfold firstMap
  split
  · rename_i n
    by_cases h1 : firstV args n < k
    · rw [if_pos h1, if_pos (by omega)]
    · rw [if_neg h1, if_neg (by have := h n; omega)]
  · rfl
theorem firstMap_put {args : List Slt} {k : Nat} {n : Int} (hk : firstV args n = k) (hl : args[k]? = some ⟨true, n⟩) : firstMap args (k + 1) = putG (firstMap args k) (.int .i64 n) k := by
  funext v
  unfold putG
  by_cases hv : v = .int .i64 n
  · subst hv
    rw [if_pos rfl]
    simp only [firstMap]
    rw [hk, if_pos (by omega)]
  · rw [if_neg hv]
    unfold firstMap
    split
    · rename_i m
      have hne : firstV args m ≠ k := by
        intro e
        have h1 := firstV_at (args := args) (n := m) (by rw [e]; exact (List.getElem?_eq_some_iff.1 hl).1)
        rw [e, hl] at h1
        have : n = m := by simpa using h1
        exact hv (by rw [this])
      by_cases h1 : firstV args m < k
      · rw [if_pos h1, if_pos (by omega)]
      · rw [if_neg h1, if_neg (by omega)]
    · rfl
theorem firstV_ne {args : List Slt} {k : Nat} {s : Slt} (hs : args[k]? = some s) (h : s.v = true → firstV args s.n ≠ k) : ∀ m, firstV args m ≠ k := by
  intro m e
  have h1 := firstV_at (args := args) (n := m) (by rw [e]; exact (List.getElem?_eq_some_iff.1 hs).1)
  rw [e, hs] at h1
  obtain rfl := Option.some.inj h1
  exact h rfl e

/-- The state of Shape behind k places. -/
structure ShSt (p : Pat) (w wr : World) (cv : Value) (k m : Nat) : Prop where
  sb : wr.heap[w.heap.size + 1 + 1 + 1]? = some (.cells #[.int .i64 p.pred, cv] 79 (0, 0))
  rb : wr.heap[w.heap.size + 1]? = some (.cells #[.int .i64 0, .slice none 0 0] 79 (0, 0))
  own : OwnF (fun _ => False) (w.heap.size + 5) wr 3 cdInt cv ((p.args.take k).map (cellF p.args))
  map : MapG Try.prog 3 3 wr (w.heap.size + 1 + 1 + 1 + 1) m (firstMap p.args m)
  below : Below w.heap.size w wr
theorem ShSt.lt {p : Pat} {w wr : World} {cv : Value} {k m : Nat} (h : ShSt p w wr cv k m) : w.heap.size + 1 + 1 + 1 + 1 < wr.heap.size := h.map.lt
theorem ShSt.step {p : Pat} {w wr wr' : World} {cv : Value} {k m : Nat} (h : ShSt p w wr cv k m) (hb : Below wr.heap.size wr wr') : ShSt p w wr' cv k m :=
  ⟨(hb.block _ (by have := h.lt; omega)).trans h.sb, (hb.block _ (by have := h.lt; omega)).trans h.rb, h.own.below hb, h.map.of_block (hb.block _ h.lt), h.below.trans (hb.mono h.below.size)⟩
/-- Behind an append and the store of the list. -/
theorem ShSt.put {p : Pat} {w wr w2 : World} {cv : Value} {k m : Nat} (h : ShSt p w wr cv k m) {v' : Value} {c : Int} (ht : Turns cv.ownBlock.toList wr w2) (ho : OwnF (fun _ => False) (w.heap.size + 5) w2 3 cdInt v' (((p.args.take k).map (cellF p.args)) ++ [c]))
    {s : Slt} (hs : p.args[k]? = some s) (hc : cellF p.args s = c) (hm : firstMap p.args (k + 1) = firstMap p.args m) (hmk : m ≤ k + 1) :
    ShSt p w (w2.setCell ⟨w.heap.size + 1 + 1 + 1, 1, none⟩ v') v' (k + 1) (k + 1) := by
  have hn : ∀ x, x < w.heap.size + 5 → x ∉ cv.ownBlock.toList := fun x hx hm => by have := (h.own.block (by simpa using hm)).1; omega
  have hlt := h.lt
  have hne : ∀ b, v'.ownBlock = some b → b ≠ w.heap.size + 1 + 1 + 1 := fun b hb => by have := (ho.block hb).1; omega
  refine ⟨heap_setCell_same _ _ 1 _ _ _ ((ht.block _ (by omega) (hn _ (by omega))).trans h.sb), ?_, ?_, ?_, ?_⟩
  · rw [Below.heap_setCell _ _ _ _ (by simp)]
    exact (ht.block _ (by omega) (hn _ (by omega))).trans h.rb
  · rw [List.take_add_one, hs, List.map_append]
    simp only [Option.toList_some, List.map_cons, List.map_nil, hc]
    exact ho.keep (S := [w.heap.size + 1 + 1 + 1]) ((Turns.refl _ _).setCell (.inl (by simp)) _) (fun b hb => by simpa using hne b hb) (by simp) (fun _ _ h => h)
  · rw [hm]
    obtain ⟨n, D, h1, h2, h3⟩ := h.map.of_block (w' := w2.setCell ⟨w.heap.size + 1 + 1 + 1, 1, none⟩ v') (by
      rw [Below.heap_setCell _ _ _ _ (by simp)]
      exact ht.block _ hlt (hn _ (by omega)))
    exact ⟨n, D, h1, by omega, h3⟩
  · exact (h.below.trans (ht.below h.below.size (fun x hx => by have := (h.own.block (by simpa using hx)).1; omega))).setCell (by simp <;> omega) _

theorem ShSt.at2 {p : Pat} {w wr w2 : World} {cv : Value} {k m : Nat} (h : ShSt p w wr cv k m) (ht : Turns cv.ownBlock.toList wr w2) : w2.cell? ⟨w.heap.size + 1 + 1 + 1, 1, none⟩ = some cv ∧ w2.frozen? ⟨w.heap.size + 1 + 1 + 1, 1, none⟩ = false ∧ w.heap.size + 1 + 1 + 1 < w2.heap.size := by
  have hlt := h.lt
  have e : w2.heap[w.heap.size + 1 + 1 + 1]? = some (.cells #[.int .i64 p.pred, cv] 79 (0, 0)) := (ht.block _ (by omega) (fun hm => by have := (h.own.block (by simpa using hm)).1; omega)).trans h.sb
  exact ⟨cell_of_row _ _ 1 _ _ _ e, by simp [World.frozen?, e], lt_of_heap e⟩
theorem ShSt.c1 {p : Pat} {w wr : World} {cv : Value} {k m : Nat} (h : ShSt p w wr cv k m) : wr.cell? ⟨w.heap.size + 1 + 1 + 1, 1, none⟩ = some cv := cell_of_row _ _ 1 _ _ _ h.sb

set_option maxRecDepth 100000 in
set_option maxHeartbeats 4000000 in
theorem shapeW {F : Nat → Prop} (p : Pat) (v : Value) (w : World) (h : RSl F w 2 ESlt v p.args) (hp : 0 ≤ p.pred) (hn : ∀ s ∈ p.args, 0 ≤ s.n) (hS : p.args.length ≤ 1048576) :
    Calls Try.prog 68 #[.agg #[.int .i64 p.pred, v]] w fun e w' => ∃ cv, e = .returned (.agg #[.int .i64 p.pred, cv]) ∧ RSl (fun b => w.heap.size ≤ b) w' 1 EInt cv (p.args.map (cellF p.args)) ∧ Below w.heap.size w w' ∧ ∃ x, w'.ownsRow w.heap.size 3 1 cv p.args.length x := by
  obtain ⟨A, c, rfl⟩ := h.form
  have H := Lib.hid h
  have HN := Lib.hid hn
  clear h hn
  have hmm := @run_makeMap Try.prog
  go_enter Try.func68, Try.ntmps68
  go_wp2
  have h0 : ShSt p w (((((w.alloc (.cells #[.int .i64 p.pred, .slice A p.args.length c] 34)).alloc (.cells #[.int .i64 0, .slice none 0 0] 79)).alloc (.cells #[.int .i64 (-1), .slice none 0 0] 79)).alloc (.cells #[.int .i64 p.pred, .slice none 0 0] 79)).alloc (.map #[] 0)) (.slice none 0 0) 0 0 := by
    refine ⟨?_, ?_, OwnF.nil, ?_, ?_⟩
    · rw [Below.heap_alloc _ _ _ (by simp)]
      have := heap_alloc_new (((w.alloc (.cells #[.int .i64 p.pred, .slice A p.args.length c] 34)).alloc (.cells #[.int .i64 0, .slice none 0 0] 79)).alloc (.cells #[.int .i64 (-1), .slice none 0 0] 79)) (.cells #[.int .i64 p.pred, .slice none 0 0] 79)
      simpa using this
    · rw [Below.heap_alloc _ _ _ (by simp), Below.heap_alloc _ _ _ (by simp), Below.heap_alloc _ _ _ (by simp)]
      have := heap_alloc_new (w.alloc (.cells #[.int .i64 p.pred, .slice A p.args.length c] 34)) (.cells #[.int .i64 0, .slice none 0 0] 79)
      simpa using this
    · have := (MapG.made (P := Try.prog) (k := 3) (e := 3) ((((w.alloc (.cells #[.int .i64 p.pred, .slice A p.args.length c] 34)).alloc (.cells #[.int .i64 0, .slice none 0 0] 79)).alloc (.cells #[.int .i64 (-1), .slice none 0 0] 79)).alloc (.cells #[.int .i64 p.pred, .slice none 0 0] 79))).congr (g := firstMap p.args 0) (fun v l _ => by unfold firstMap; split <;> simp)
      simpa using this
    · exact (((((Below.refl w.heap.size w).alloc (Nat.le_refl _) _).alloc (by simp) _).alloc (by simp <;> omega) _).alloc (by simp <;> omega) _).alloc (by simp <;> omega) _
  go_loopw [22] (fun i wr => ∃ (k : Nat) (cv : Value), i = .int .i64 k ∧ k ≤ p.args.length ∧ ShSt p w wr cv k k) (fun i _ => p.args.length - (intOf i).toNat)
  case atStart => exact ⟨0, _, rfl, Nat.zero_le _, h0⟩
  case round =>
    obtain ⟨k, cv, rfl, hk, hst⟩ := hrel
    clear h0
    have htl : ((p.args.take k).map (cellF p.args)).length = k := by rw [List.length_map]; exact List.length_take_of_le hk
    obtain ⟨ca, cc, hcv⟩ := hst.own.form
    rw [htl] at hcv
    subst hcv
    have hlt := hst.lt
    by_cases hkn : k < p.args.length
    · obtain ⟨s, hs⟩ : ∃ s, p.args[k]? = some s := ⟨_, List.getElem?_eq_getElem hkn⟩
      obtain ⟨b, off, rfl, hFb, hbs, cs, ⟨rfl, sok⟩, hc⟩ := (H.out.keep (Kp.of_below hst.below)).at hs
      have c0 := hc 0 _ rfl
      have c1 := hc 1 _ rfl
      simp only [Nat.add_zero] at c0
      have hs0 : 0 ≤ s.n := HN.out s (List.mem_of_getElem? hs)
      obtain ⟨sv, sn⟩ := s
      simp only at c0 c1 hs0 sok
      have hcell : cellF p.args ⟨sv, sn⟩ = if sv = true then -1 - (firstV p.args sn : Int) else sn := rfl
      have e1 : (0 : Int) ≤ (k : Int) := by omega
      have e2 : (k : Int) < (p.args.length : Int) := by omega
      have HS := Lib.hid hs
      have HK := Lib.hid hkn
      have HT := Lib.hid htl
      have HC := Lib.hid hcell
      have HX := Lib.hid (hst.step ((Below.refl _ _).alloc (Nat.le_refl _) (.cells #[.bool sv, .int .i64 sn] 50)))
      have x1 := hst.c1
      have hl3 : w.heap.size + 1 + 1 + 1 < wr.heap.size := by omega
      have hsz := hst.below.size
      clear hs hkn hc htl hcell hst
      cases sv with
      | false =>
        have HV := Lib.hid (firstMap_same (firstV_ne HS.out (fun h => by cases h)))
        have HC2 := Lib.hid (show cellF p.args ⟨false, sn⟩ = sn by rw [HC.out, if_neg (by decide)])
        go_wp2_with (at_builtin; refine wpList_append_F HX.out.own (fun _ _ h => h) rfl (.tmp 35) (.tmp 38) 25 rfl Try.underlying25 infoIntR rfl (by decide) rfl #[.int .i64 sn] _ rfl (by simp) (x := sn) ⟨rfl, sok⟩ (by rw [HT.out]; omega) (by decide) (by simp; omega) ?_; intro g cap w2 ho ht hat hlt2; rw [HT.out] at ho ⊢; obtain ⟨z1, z2, z3⟩ := HX.out.at2 ht; have N1 := Lib.hid (HX.out.put ht (ho _ (fun _ _ h => h)) HS.out HC2.out HV.out (by omega)); clear ho ht hat hlt2)
        exact ⟨⟨k + 1, _, by go_num, HK.out, N1.out⟩, by simp [intOf]; have := HK.out; omega⟩
      | true =>
        have hle := firstV_le HS.out rfl
        simp only at hle
        have hl4 : w.heap.size + 1 + 1 + 1 + 1 < wr.heap.size := by omega
        have hl3' : w.heap.size + 1 + 1 + 1 < wr.heap.size + 1 := by omega
        have x1a : ∀ o, ((wr.alloc (.cells #[.bool true, .int .i64 sn] 50)).alloc o).cell? ⟨w.heap.size + 1 + 1 + 1, 1, none⟩ = some (.slice ca k cc) := fun o => (HX.out.step ((Below.refl _ _).alloc (Nat.le_refl _) o)).c1
        by_cases hf : firstV p.args sn < k
        · have hrun := HX.out.map.hit (t := 115) keyedI Try.underlying115 Try.underlying3 (zeroI _) (keyI sok) (z := (firstV p.args sn : Int)) (by simp [firstMap, hf])
          have HV := Lib.hid (firstMap_same (firstV_ne HS.out (fun _ => by simp only; omega)))
          obtain ⟨j, hj⟩ : ∃ j, firstV p.args sn = j := ⟨_, rfl⟩
          have HC2 := Lib.hid (show cellF p.args ⟨true, sn⟩ = -1 - (j : Int) by rw [HC.out, if_pos rfl, hj])
          rw [hj] at hrun hf hle
          have FW := Lib.hid (fun W => freeW (j : Int) W (by omega))
          have hc1 : i64ok (-1 - (j : Int)) := WalkArith.wf_i64 (by omega)
          have HC1 := Lib.hid hc1
          clear hj hc1
          go_wp2
          go_region_law (first | (refine step_append_F HX.out.own (fun _ _ h => h) (by rfl) (.tmp 56) (.tmp 59) 25 (by rfl) Try.underlying25 infoIntR rfl (by decide) (by rfl) #[.int .i64 (-1 - (j : Int))] _ (by rfl) (by simp) (x := (-1 - (j : Int))) ⟨rfl, HC1.out⟩ (by rw [HT.out]; omega) (by decide) (by simp; omega) ?_; intro g cap w2 ho ht hat hlt2; rw [HT.out] at ho ⊢; obtain ⟨z1, z2, z3⟩ := HX.out.at2 ht; have N1 := Lib.hid (HX.out.put ht (ho _ (fun _ _ h => h)) HS.out HC2.out HV.out (by omega)); clear ho ht hat hlt2) | (go_simp; go_at_call 71; refine (FW.out _).mono ?_; rintro e w2 ⟨rfl, rfl⟩))
          all_goals go_wp2
          all_goals
            exact ⟨⟨k + 1, _, by go_num, HK.out, N1.out⟩, by simp [intOf]; have := HK.out; omega⟩
        · have hf2 : firstV p.args sn = k := by omega
          have hrun := HX.out.map.miss (t := 115) keyedI Try.underlying115 Try.underlying3 (zeroI _) (keyI sok) (by simp [firstMap, hf2])
          obtain ⟨w1, hput, hm1, hg1⟩ := HX.out.map.store (t := 115) keyedI Try.underlying115 Try.underlying3 (by unfold maxLen; omega) (keyI sok) (z := (k : Int)) (WalkArith.wf_i64 (by omega))
          have HC2 := Lib.hid (show cellF p.args ⟨true, sn⟩ = -1 - (k : Int) by rw [HC.out, if_pos rfl, hf2])
          have HX1 : ShSt p w w1 (.slice ca k cc) k (k + 1) := by
            have T1 : Turns [w.heap.size + 1 + 1 + 1 + 1] (wr.alloc (.cells #[.bool true, .int .i64 sn] 50)) w1 := (Turns.of_grown hg1).mono (by simp)
            have hx := HX.out
            refine ⟨(T1.block _ (by simp; omega) (by simp)).trans hx.sb, (T1.block _ (by simp; omega) (by simp)).trans hx.rb, hx.own.keep T1 (fun b hb => by have := (hx.own.block hb).1; simp; omega) (by simp) (fun _ _ h => h), ?_, hx.below.trans (T1.below hx.below.size (by simp <;> omega))⟩
            rw [firstMap_put hf2 HS.out]
            exact hm1
          have FW := Lib.hid (fun W => freeW (k : Int) W (by omega))
          have hc1 : i64ok (-1 - (k : Int)) := WalkArith.wf_i64 (by omega)
          have HC1 := Lib.hid hc1
          have hl1 := HX1.lt
          have xx := HX1.c1
          have hl3d : w.heap.size + 1 + 1 + 1 < w1.heap.size := by omega
          have HX1' := Lib.hid HX1
          clear hc1 HX1 hm1 hg1 hf2 hf
          go_wp2
          go_region_law (first | (refine step_append_F HX1'.out.own (fun _ _ h => h) (by rfl) (.tmp 56) (.tmp 59) 25 (by rfl) Try.underlying25 infoIntR rfl (by decide) (by rfl) #[.int .i64 (-1 - (k : Int))] _ (by rfl) (by simp) (x := (-1 - (k : Int))) ⟨rfl, HC1.out⟩ (by rw [HT.out]; omega) (by decide) (by omega) ?_; intro g cap w2 ho ht hat hlt2; rw [HT.out] at ho ⊢; obtain ⟨z1, z2, z3⟩ := HX1'.out.at2 ht; have N1 := Lib.hid (HX1'.out.put ht (ho _ (fun _ _ h => h)) HS.out HC2.out rfl (by omega)); clear ho ht hat hlt2) | (go_simp; go_at_call 71; refine (FW.out _).mono ?_; rintro e w2 ⟨rfl, rfl⟩))
          all_goals go_wp2
          all_goals
            exact ⟨⟨k + 1, _, by go_num, HK.out, N1.out⟩, by simp [intOf]; have := HK.out; omega⟩
    · obtain rfl : k = p.args.length := by omega
      have x0 : wr.cell? ⟨w.heap.size + 1 + 1 + 1, 0, none⟩ = some (.int .i64 p.pred) := cell_of_row _ _ 0 _ _ _ hst.sb
      have x1 := hst.c1
      have y0 : wr.cell? ⟨w.heap.size + 1, 0, none⟩ = some (.int .i64 0) := cell_of_row _ _ 0 _ _ _ hst.rb
      have y1 : wr.cell? ⟨w.heap.size + 1, 1, none⟩ = some (.slice none 0 0) := cell_of_row _ _ 1 _ _ _ hst.rb
      have yf : ∀ o, wr.frozen? ⟨w.heap.size + 1, o, none⟩ = false := fun o => by have := hst.rb; simp [World.frozen?, this]
      have HX := Lib.hid hst
      have hown := hst.own
      rw [List.take_length] at hown
      have HO := Lib.hid hown
      have ef : ((wr.setCell ⟨w.heap.size + 1, 0, none⟩ (.int .i64 p.pred)).setCell ⟨w.heap.size + 1, 1, none⟩ (.slice ca p.args.length cc)).heap[w.heap.size + 1]? = some (.cells #[.int .i64 p.pred, .slice ca p.args.length cc] 79 (0, 0)) :=
        heap_setCell_same _ _ 1 _ _ _ (heap_setCell_same _ _ 0 _ _ _ hst.rb)
      have f0 := cell_of_row _ _ 0 _ _ _ ef
      have f1 := cell_of_row _ _ 1 _ _ _ ef
      simp only [List.getElem?_toArray, List.getElem?_cons_zero, List.getElem?_cons_succ] at f0 f1
      clear hst hown htl hkn ef
      go_wp2
      refine bodyPost_ret (v := .agg #[.int .i64 p.pred, .slice ca p.args.length cc]) (by simp [results, Try.results68, go_sem, f0, f1]) rfl ?_
      refine ⟨_, rfl, ?_, ?_, ?_⟩
      · have K : Kp (fun b => w.heap.size + 5 ≤ b) wr ((wr.setCell ⟨w.heap.size + 1, 0, none⟩ (.int .i64 p.pred)).setCell ⟨w.heap.size + 1, 1, none⟩ (.slice ca p.args.length cc)) :=
          ⟨by simp, fun b _ hb => by rw [Below.heap_setCell _ _ _ _ (by simp; omega), Below.heap_setCell _ _ _ _ (by simp; omega)]⟩
        exact (HO.out.rsl (G := fun b => w.heap.size + 5 ≤ b) (fun b hb => (HO.out.block hb).1)).kp K (fun b _ hb => by omega) (fun _ _ h => h)
      · exact (HX.out.below.setCell (by simp) _).setCell (by simp) _
      · obtain ⟨cells, h1, _⟩ := HO.out
        rw [List.length_map] at h1
        have T : Turns [w.heap.size + 1] wr ((wr.setCell ⟨w.heap.size + 1, 0, none⟩ (.int .i64 p.pred)).setCell ⟨w.heap.size + 1, 1, none⟩ (.slice ca p.args.length cc)) := ((Turns.refl _ _).setCell (.inl (by simp)) _).setCell (.inl (by simp)) _
        have h2 := ownsRow_turns h1 T (fun b hb hm => by have := (ownBlock_cells h1 hb).1; rw [List.mem_singleton.1 hm] at this; omega)
        exact ⟨cells, h2.1, h2.2.imp id (fun ⟨g, cap, cur, q1, q2, r⟩ => ⟨g, cap, cur, q1, by omega, r⟩)⟩
end Go.Proofs.Ytonkbjdeaneicaa

namespace Go.Proofs.Ytonkbjdeaneicaa
open Go.RowKit Pln Classical

theorem drewN_below {w wr : World} (h : Below w.heap.size w wr) (n : Nat) : Below w.heap.size w (wr.drewN n) := ⟨h.os, h.tape, h.output, h.size, h.block⟩
noncomputable def eqB {α : Type} (xs ys : List α) : Bool := decide (xs = ys)
theorem eqB_ne {α : Type} {xs ys : List α} (h : xs ≠ ys) : eqB xs ys = false := by simp only [eqB, decide_eq_false_iff_not]; exact h
theorem eqB_eq {α : Type} {xs ys : List α} (h : xs = ys) : eqB xs ys = true := by simp only [eqB, decide_eq_true_eq]; exact h
theorem list_eq {α : Type} {xs ys : List α} (hl : xs.length = ys.length) (h : ∀ i, i < xs.length → xs[i]? = ys[i]?) : xs = ys := by
  apply List.ext_getElem? 
  intro i
  rcases Nat.lt_or_ge i xs.length with h1 | h1
  · exact h i h1
  · rw [List.getElem?_eq_none h1, List.getElem?_eq_none (by omega)]
theorem neq_slt_same (s : Slt) (w : World) : (binOp .neq 50 (.agg #[.bool s.v, .int .i64 s.n]) (.agg #[.bool s.v, .int .i64 s.n])).run Try.prog w = .ok (.bool false) w := by
  simp [go_sem]
theorem neq_slt_diff {s t : Slt} (h : s ≠ t) (w : World) : (binOp .neq 50 (.agg #[.bool s.v, .int .i64 s.n]) (.agg #[.bool t.v, .int .i64 t.n])).run Try.prog w = .ok (.bool true) w := by
  obtain ⟨a, b⟩ := s
  obtain ⟨c, d⟩ := t
  have h' : ¬ (a = c ∧ b = d) := fun ⟨h1, h2⟩ => h (by rw [h1, h2])
  simp [go_sem]
  by_cases h1 : a = c
  · by_cases h2 : b = d
    · exact absurd ⟨h1, h2⟩ h'
    · simp [h1, h2]
  · simp [h1]

set_option maxRecDepth 100000 in
theorem equalW {F G : Nat → Prop} (va vb : Value) (xs ys : List Int) (w : World) (ha : RSl F w 1 EInt va xs) (hb : RSl G w 1 EInt vb ys) :
    Calls Try.prog 63 #[va, vb] w fun e w' => e = .returned (.bool (eqB xs ys)) ∧ Below w.heap.size w w' := by
  obtain ⟨A, ca, rfl⟩ := ha.form
  obtain ⟨B, cb, rfl⟩ := hb.form
  have hm := ha.len
  have hm2 := hb.len
  unfold maxLen at hm hm2
  have HA := Lib.hid ha
  have HB := Lib.hid hb
  clear ha hb
  by_cases hl : xs.length = ys.length
  · have HL := Lib.hid hl
    have hl2 : ((xs.length : Int) != (ys.length : Int)) = false := by simp; omega
    clear hl
    go_enter Try.func63, Try.ntmps63
    go_wp2
    go_loopw [13] (fun i wr => ∃ k : Nat, i = .int .i64 k ∧ k ≤ xs.length ∧ (∀ i, i < k → xs[i]? = ys[i]?) ∧ Below w.heap.size w wr) (fun i _ => xs.length - (intOf i).toNat)
    case atStart => exact ⟨0, rfl, Nat.zero_le _, fun i h => by omega, Below.refl _ _⟩
    case round =>
      obtain ⟨k, rfl, hk, hq, hbl⟩ := hrel
      by_cases hkn : k < xs.length
      · obtain ⟨x, hx⟩ : ∃ x, xs[k]? = some x := ⟨_, List.getElem?_eq_getElem hkn⟩
        obtain ⟨y, hy⟩ : ∃ y, ys[k]? = some y := ⟨_, List.getElem?_eq_getElem (by have := HL.out; omega)⟩
        obtain ⟨b1, o1, rfl, _, _, cs1, ⟨rfl, _⟩, hc1⟩ := (HA.out.keep (Kp.of_below hbl)).at hx
        obtain ⟨b2, o2, rfl, _, _, cs2, ⟨rfl, _⟩, hc2⟩ := (HB.out.keep (Kp.of_below hbl)).at hy
        have d1 := hc1 0 _ rfl
        have d2 := hc2 0 _ rfl
        simp only [Nat.add_zero, Nat.mul_one] at d1 d2
        have e1 : (0 : Int) ≤ (k : Int) := by omega
        have e2 : (k : Int) < (xs.length : Int) := by omega
        have e3 : (k : Int) < (ys.length : Int) := by have := HL.out; omega
        have HX := Lib.hid hx
        have HY := Lib.hid hy
        have HQ := Lib.hid hq
        have HK := Lib.hid hkn
        have HBL := Lib.hid hbl
        clear hc1 hc2 hx hy hq hkn hbl
        by_cases hxy : x = y
        · subst hxy
          have hne : (x != x) = false := by simp
          have HQ2 := Lib.hid (show ∀ i, i < k + 1 → xs[i]? = ys[i]? from fun i hi => by
            rcases Nat.lt_or_ge i k with h1 | h1
            · exact HQ.out i h1
            · rw [show i = k by omega, HX.out, HY.out])
          go_wp2
          go_quiet (fail)
          have HB2 := Lib.hid (drewN_below HBL.out nq)
          go_wp2
          exact ⟨⟨k + 1, by go_num, HK.out, HQ2.out, HB2.out⟩, by simp [intOf]; have := HK.out; omega⟩
        · have hne : (x != y) = true := by simpa using hxy
          have HF := Lib.hid (eqB_ne (xs := xs) (ys := ys) (fun e => hxy (by
            have h1 := HX.out
            rw [e, HY.out] at h1
            exact (Option.some.inj h1).symm)))
          clear hxy
          go_wp2
          go_quiet (fail)
          have HB2 := Lib.hid (drewN_below HBL.out nq)
          go_wp2
          go_ret
          exact ⟨ret_bool HF.out.symm, HB2.out⟩
      · obtain rfl : k = xs.length := by omega
        have HF := Lib.hid (eqB_eq (list_eq HL.out hq))
        clear hq
        go_wp2
        go_ret
        exact ⟨ret_bool HF.out.symm, hbl⟩
  · have HF := Lib.hid (eqB_ne (xs := xs) (ys := ys) (fun e => hl (by rw [e])))
    have hl2 : ((xs.length : Int) != (ys.length : Int)) = true := by simp; omega
    clear hl
    go_enter Try.func63, Try.ntmps63
    go_wp2
    go_ret
    exact ⟨ret_bool HF.out.symm, Below.refl _ _⟩

set_option maxRecDepth 100000 in
theorem equalIntsW {F G : Nat → Prop} (va vb : Value) (xs ys : List Int) (w : World) (ha : RSl F w 1 EInt va xs) (hb : RSl G w 1 EInt vb ys) :
    Calls Try.prog 19 #[va, vb] w fun e w' => e = .returned (.bool (eqB xs ys)) ∧ Below w.heap.size w w' := by
  obtain ⟨A, ca, rfl⟩ := ha.form
  obtain ⟨B, cb, rfl⟩ := hb.form
  have hm := ha.len
  have hm2 := hb.len
  unfold maxLen at hm hm2
  have HA := Lib.hid ha
  have HB := Lib.hid hb
  clear ha hb
  by_cases hl : xs.length = ys.length
  · have HL := Lib.hid hl
    have hl2 : ((xs.length : Int) != (ys.length : Int)) = false := by simp; omega
    clear hl
    go_enter Try.func19, Try.ntmps19
    go_wp2
    go_loopw [5] (fun i wr => ∃ k : Nat, i = .int .i64 k ∧ k ≤ xs.length ∧ (∀ i, i < k → xs[i]? = ys[i]?) ∧ Below w.heap.size w wr) (fun i _ => xs.length - (intOf i).toNat)
    case atStart => exact ⟨0, rfl, Nat.zero_le _, fun i h => by omega, Below.refl _ _⟩
    case round =>
      obtain ⟨k, rfl, hk, hq, hbl⟩ := hrel
      by_cases hkn : k < xs.length
      · obtain ⟨x, hx⟩ : ∃ x, xs[k]? = some x := ⟨_, List.getElem?_eq_getElem hkn⟩
        obtain ⟨y, hy⟩ : ∃ y, ys[k]? = some y := ⟨_, List.getElem?_eq_getElem (by have := HL.out; omega)⟩
        obtain ⟨b1, o1, rfl, _, _, cs1, ⟨rfl, _⟩, hc1⟩ := (HA.out.keep (Kp.of_below hbl)).at hx
        obtain ⟨b2, o2, rfl, _, _, cs2, ⟨rfl, _⟩, hc2⟩ := (HB.out.keep (Kp.of_below hbl)).at hy
        have d1 := hc1 0 _ rfl
        have d2 := hc2 0 _ rfl
        simp only [Nat.add_zero, Nat.mul_one] at d1 d2
        have e1 : (0 : Int) ≤ (k : Int) := by omega
        have e2 : (k : Int) < (xs.length : Int) := by omega
        have e3 : (k : Int) < (ys.length : Int) := by have := HL.out; omega
        have HX := Lib.hid hx
        have HY := Lib.hid hy
        have HQ := Lib.hid hq
        have HK := Lib.hid hkn
        have HBL := Lib.hid hbl
        clear hc1 hc2 hx hy hq hkn hbl
        by_cases hxy : x = y
        · subst hxy
          have hne : (x != x) = false := by simp
          have HQ2 := Lib.hid (show ∀ i, i < k + 1 → xs[i]? = ys[i]? from fun i hi => by
            rcases Nat.lt_or_ge i k with h1 | h1
            · exact HQ.out i h1
            · rw [show i = k by omega, HX.out, HY.out])
          go_wp2
          go_quiet (fail)
          have HB2 := Lib.hid (drewN_below HBL.out nq)
          go_wp2
          exact ⟨⟨k + 1, by go_num, HK.out, HQ2.out, HB2.out⟩, by simp [intOf]; have := HK.out; omega⟩
        · have hne : (x != y) = true := by simpa using hxy
          have HF := Lib.hid (eqB_ne (xs := xs) (ys := ys) (fun e => hxy (by
            have h1 := HX.out
            rw [e, HY.out] at h1
            exact (Option.some.inj h1).symm)))
          clear hxy
          go_wp2
          go_quiet (fail)
          have HB2 := Lib.hid (drewN_below HBL.out nq)
          go_wp2
          go_ret
          exact ⟨ret_bool HF.out.symm, HB2.out⟩
      · obtain rfl : k = xs.length := by omega
        have HF := Lib.hid (eqB_eq (list_eq HL.out hq))
        clear hq
        go_wp2
        go_ret
        exact ⟨ret_bool HF.out.symm, hbl⟩
  · have HF := Lib.hid (eqB_ne (xs := xs) (ys := ys) (fun e => hl (by rw [e])))
    have hl2 : ((xs.length : Int) != (ys.length : Int)) = true := by simp; omega
    clear hl
    go_enter Try.func19, Try.ntmps19
    go_wp2
    go_ret
    exact ⟨ret_bool HF.out.symm, Below.refl _ _⟩

end Go.Proofs.Ytonkbjdeaneicaa
