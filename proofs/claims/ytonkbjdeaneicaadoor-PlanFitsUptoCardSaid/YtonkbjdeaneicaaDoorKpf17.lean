/- Rows of numbers, of truth values, that are the call's own (OwnI, OwnB). slices.Reverse at a row of numbers of the call's own. node: the walk. -/
import Derived.Test.YtonkbjdeaneicaaDoorKpf12
import Derived.Test.YtonkbjdeaneicaaDoorKpf16
import Derived.BigRegion
import Derived.Deep.Cut
import Derived.Deep.OwnRows
import Derived.Deep.RegionWith
import Derived.Laws.AppendOwnNone
import Derived.StillTailTactics
namespace Go.Proofs.YtonkbjdeaneicaaDoor
open Go.RowKit Pln Classical Go.Maps

def natVs (l : List Nat) : List Value := l.map fun (n : Nat) => .int .i64 n
/-- A list of numbers of the call's own. -/
def OwnI (w : World) (base : Nat) (v : Value) (l : List Nat) : Prop := w.ownsRow base 3 1 v l.length (natVs l)
theorem OwnI.below {w w' : World} {base : Nat} {v : Value} {l : List Nat} (h : OwnI w base v l) (hb : Below w.heap.size w w') : OwnI w' base v l :=
  ownsRow_turns h (Turns.of_below (S := []) hb) (by simp)
theorem ownI_one {w : World} {base k : Nat} (hb : base ≤ w.heap.size) : OwnI (w.alloc (.cells #[.int .i64 k] 3)) base (.slice (some ⟨w.heap.size, 0, none⟩) 1 1) [k] :=
  ⟨rfl, .inr ⟨w.heap.size, 1, #[.int .i64 k], rfl, hb, heap_alloc_new w _, Nat.le_refl _, by unfold maxLen; decide, rfl, rfl⟩⟩
theorem natVs_one (l : List Nat) : ∀ u ∈ natVs l, u.oneCell' = true := by
  intro u hu
  obtain ⟨n, _, rfl⟩ := List.mem_map.1 hu
  rfl
theorem wpList_append_I {w : World} {ops : Array Oper} {rest : List Oper} {o : Oper} {a : Act} {Q : Exit → Act → World → Prop} (hgd : o.guard = none) (s x : Operand)
    (ho : o.op = .call { callee := .builtin .append, args := #[s, x], argTypes := #[24, 24] })
    (base base2 : Nat) (v v2 : Value) (xs ys : List Nat) (hs : a.eval s = v) (hown : OwnI w base v xs) (hx : a.eval x = v2) (hown2 : OwnI w base2 v2 ys)
    (hlen : xs.length + ys.length ≤ 1000000000) (hbase : base ≤ w.heap.size)
    (h : ∀ v' w', OwnI w' base v' (xs ++ ys) → w.grownBy w' v.ownBlock → wpList Tryd.prog ops Q rest (a.put o.dst v') w') : wpList Tryd.prog ops Q (o :: rest) a w := by
  obtain ⟨i0, hi0, hz0, hz1, hz2⟩ := info_parts infoIntR
  have h2 := hown2
  rcases hown2.2 with ⟨rfl, h0⟩ | ⟨g, cap, cur, rfl, hg, hh, h3, h4, h5, h6⟩
  · obtain rfl := List.eq_nil_of_length_eq_zero h0
    refine wpList_append_own_none hgd s x 24 ho base 3 i0 1 Tryd.underlying24 hi0 v _ _ hs hown hx ?_
    exact h v w (by simpa using hown) ⟨rfl, rfl, rfl, Nat.le_refl _, fun _ _ _ => rfl⟩
  · refine wpList_append_own w hgd s x 24 ho base 3 i0 (.int .i64 0) 1 8 Tryd.underlying24 hi0 hz0 hz1 hz2 rfl (by decide) v _ _ hs hown ⟨g, 0, none⟩ ys.length cap (natVs ys) hx (by simp [natVs]) (fun j u hu => h2.cells (g := g) rfl j u hu) (natVs_one _) (by unfold maxLen; omega) (by omega) hbase ?_
    intro v' w' h1 h2' _
    refine h v' w' ?_ h2'
    unfold OwnI natVs
    rw [List.length_append, List.map_append]
    exact h1

/-- A row of numbers, to be read. -/
theorem OwnI.form {w : World} {base : Nat} {v : Value} {l : List Nat} (h : OwnI w base v l) : ∃ A c, v = .slice A l.length c ∧ l.length ≤ c := by
  rcases h.2 with ⟨rfl, h0⟩ | ⟨g, cap, cur, rfl, _, _, h1, h2, _⟩
  · exact ⟨none, 0, by rw [h0], by omega⟩
  · exact ⟨_, cap, rfl, h1⟩
theorem OwnI.at {w : World} {base : Nat} {A : Option Addr} {n c : Nat} {l : List Nat} (h : OwnI w base (.slice A n c) l) {t u : Nat} (hu : l[t]? = some u) : ∃ g, A = some ⟨g, 0, none⟩ ∧ base ≤ g ∧ w.cell? ⟨g, t, none⟩ = some (.int .i64 (u : Int)) := by
  have hlt := (List.getElem?_eq_some_iff.1 hu).1
  rcases h.2 with ⟨_, h0⟩ | ⟨g, cap, cur, he, hg, hh, h1, h2, _⟩
  · omega
  · simp only [Value.slice.injEq] at he
    obtain ⟨rfl, rfl, rfl⟩ := he
    refine ⟨g, rfl, hg, ?_⟩
    have := World.ownsRow.cellAt (show w.ownsRow base 3 1 (.slice (some ⟨g, 0, none⟩) l.length c) l.length (natVs l) from h) t (by omega)
    rw [this]
    unfold natVs
    rw [List.getElem?_map, hu]
    rfl
theorem OwnI.turns {w w' : World} {base x : Nat} {v : Value} {l : List Nat} (h : OwnI w base v l) (ht : Turns [x] w w') (hx : x < base) : OwnI w' base v l :=
  ownsRow_turns h ht (fun b hb hm => by
    have := (ownBlock_cells h hb).1
    rw [List.mem_singleton.1 hm] at this
    omega)
theorem OwnI.step {w w' : World} {base : Nat} {v : Value} {l : List Nat} (h : OwnI w base v l) (ht : Below w.heap.size w w') : OwnI w' base v l :=
  ownsRow_turns h (Turns.of_below (S := []) ht) (fun _ _ => by simp)
theorem OwnI.rsl {w : World} {base : Nat} {v : Value} {l : List Nat} (h : OwnI w base v l) (hl : ∀ u ∈ l, u < 1000000000) : RSl (fun b => base ≤ b) w 1 EInt v (l.map fun (n : Nat) => (n : Int)) := by
  refine RSl.of_own h (by simp) (fun b hb => (ownBlock_cells h hb).1) (fun i x hx => ?_)
  rw [List.getElem?_map, Option.map_eq_some_iff] at hx
  obtain ⟨u, hu, rfl⟩ := hx
  have := hl u (List.mem_of_getElem? hu)
  refine ⟨[.int .i64 u], ⟨rfl, ?_⟩, fun j v hv => ?_⟩
  · unfold i64ok
    simp [Lit.wf, IntKind.min, IntKind.max, IntKind.signed, IntKind.bits]
    omega
  · match j with
    | 0 =>
      simp only [List.getElem?_cons_zero, Option.some.injEq] at hv
      subst hv
      rw [Nat.mul_one, Nat.add_zero]
      unfold natVs
      rw [List.getElem?_map, hu]
      rfl
    | j + 1 => simp at hv
theorem RSl.take {α : Type} {F : Nat → Prop} {w : World} {sz : Nat} {E : List Value → α → Prop} {A : Option Addr} {n c : Nat} {xs : List α} (h : RSl F w sz E (.slice A n c) xs) {k : Nat} (hk : k ≤ xs.length) : RSl F w sz E (.slice A k c) (xs.take k) := by
  obtain ⟨A', c', h1, h2, h3, h5, h4⟩ := h
  simp only [Value.slice.injEq] at h1
  obtain ⟨rfl, rfl, rfl⟩ := h1
  have e : (xs.take k).length = k := by rw [List.length_take]; omega
  refine ⟨A, c, by rw [e], by omega, h3, h5, ?_⟩
  rcases h4 with rfl | ⟨b, off, hA, hf, hb, hc⟩
  · exact .inl (by simp)
  · refine .inr ⟨b, off, hA, hf, hb, fun i x hx => hc i x ?_⟩
    rw [List.getElem?_take] at hx
    split at hx
    · exact hx
    · cases hx
theorem run_cutI (A : Option Addr) (l c n : Nat) (h : n ≤ l) (hc : l ≤ c) (W : World) : (Instr.slice 24 (.slice A l c) none (some (.int .i64 (n : Int))) none).run Tryd.prog W = .ok (.slice A n c) W := by
  rw [run_slice_h (t := 24) (ht := by kernel_rfl) (h0 := by omega) (h2 := by omega)]
  have hs : (sizeOf (Tryd.prog.elem 24)).run Tryd.prog W = .ok 1 W := by kernel_rfl
  rw [hs]
  have e : (if c = 0 then A else A.map (fun a => a.add (0 * 1))) = A := by
    split
    · rfl
    · cases A <;> simp [Addr.add]
  simp only [Result.andThen, sliced, Int.toNat_natCast, Nat.sub_zero, e]

/-- The nodes of a way, each the next one's parent. -/
def Up (st : St) (l : List Nat) : Prop := ∀ i u, l[i]? = some u → 0 < u ∧ (0 :: l).getD i 0 < u ∧ ∃ n, st.ns[u]? = some n ∧ n.parent = (((0 :: l).getD i 0 : Nat) : Int)
end Go.Proofs.YtonkbjdeaneicaaDoor

namespace Go.Proofs.YtonkbjdeaneicaaDoor
open Go.RowKit Pln Classical Go.Maps

theorem OwnI.len {w : World} {base : Nat} {A : Option Addr} {n c : Nat} {l : List Nat} (h : OwnI w base (.slice A n c) l) : n = l.length := by
  rcases h.2 with ⟨h', h0⟩ | ⟨g', cap', cur, h', _⟩
  · simp only [Value.slice.injEq] at h'
    omega
  · simp only [Value.slice.injEq] at h'
    exact h'.2.1
theorem OwnI.put {w : World} {base g n cap : Nat} {l : List Nat} (h : OwnI w base (.slice (some ⟨g, 0, none⟩) n cap) l) (j x : Nat) :
    OwnI (w.setCell ⟨g, j, none⟩ (.int .i64 (x : Int))) base (.slice (some ⟨g, 0, none⟩) n cap) (l.set j x) ∧ Turns [g] w (w.setCell ⟨g, j, none⟩ (.int .i64 (x : Int))) := by
  obtain rfl := h.len
  obtain ⟨h1, h2⟩ := World.ownsRow.stored (show w.ownsRow base 3 1 (.slice (some ⟨g, 0, none⟩) l.length cap) l.length (natVs l) from h) j (.int .i64 (x : Int))
  refine ⟨?_, by simpa using Turns.of_grown h2⟩
  unfold OwnI natVs
  rw [List.length_set, List.map_set]
  exact h1
theorem OwnI.frozen {w : World} {base g n cap : Nat} {l : List Nat} (h : OwnI w base (.slice (some ⟨g, 0, none⟩) n cap) l) (i : Nat) : w.frozen? ⟨g, i, none⟩ = false := by
  obtain rfl := h.len
  exact World.ownsRow.frozenAt (show w.ownsRow base 3 1 (.slice (some ⟨g, 0, none⟩) l.length cap) l.length (natVs l) from h) i
/-- The first and the last k places are exchanged. -/
def RevTo (l m : List Nat) (k : Nat) : Prop := ∀ q, q < l.length → m[q]? = if q < k ∨ l.length - k ≤ q then l[l.length - 1 - q]? else l[q]?
theorem RevTo.next {l m : List Nat} {k x y : Nat} (h : RevTo l m k) (hl : m.length = l.length) (hk : k + 1 < l.length - k) (hx : m[k]? = some x) (hy : m[l.length - 1 - k]? = some y) : RevTo l ((m.set k y).set (l.length - 1 - k) x) (k + 1) := by
  have ex := h k (by omega)
  rw [if_neg (by omega), hx] at ex
  have ey := h (l.length - 1 - k) (by omega)
  rw [if_neg (by omega), hy] at ey
  intro q hq
  by_cases e1 : q = l.length - 1 - k
  · subst e1
    rw [List.getElem?_set_self (by rw [List.length_set]; omega), if_pos (by omega), ex]
    congr 1
    omega
  · rw [List.getElem?_set_ne (fun h => e1 h.symm)]
    by_cases e2 : q = k
    · subst e2
      rw [List.getElem?_set_self (by omega), if_pos (by omega), ey]
    · rw [List.getElem?_set_ne (fun h => e2 h.symm), h q hq]
      by_cases h1 : q < k ∨ l.length - k ≤ q
      · rw [if_pos h1, if_pos (by omega)]
      · rw [if_neg h1, if_neg (by omega)]
theorem RevTo.done {l m : List Nat} {k : Nat} (h : RevTo l m k) (hl : m.length = l.length) (hk : ¬ k + 1 < l.length - k) : m = l.reverse := by
  apply List.ext_getElem?
  intro q
  by_cases hq : q < l.length
  · rw [h q hq, List.getElem?_reverse hq]
    by_cases h1 : q < k ∨ l.length - k ≤ q
    · rw [if_pos h1]
    · rw [if_neg h1]
      congr 1
      omega
  · rw [List.getElem?_eq_none (by omega), List.getElem?_eq_none (by simp; omega)]

set_option maxRecDepth 200000 in
set_option maxHeartbeats 4000000 in
theorem reverseW (w : World) (base g cap : Nat) (l : List Nat) (h : OwnI w base (.slice (some ⟨g, 0, none⟩) l.length cap) l) (hl : l.length ≤ 1000000) :
    Calls Tryd.prog 46 #[.slice (some ⟨g, 0, none⟩) l.length cap] w fun e w' => e = .returned (.tuple #[]) ∧ OwnI w' base (.slice (some ⟨g, 0, none⟩) l.length cap) l.reverse ∧ Turns [g] w w' := by
  have H := Lib.hid h
  clear h
  go_enter Tryd.func46, Tryd.ntmps46
  have e0 : IntKind.i64.wrap ((l.length : Int) - 1) = (l.length : Int) - 1 := IntWalk.i64_in _ (by omega)
  go_wp2
  clear e0
  go_loopw [2, 3] (fun iv jv wr => ∃ (k : Nat) (m : List Nat), iv = .int .i64 k ∧ jv = .int .i64 ((l.length : Int) - 1 - (k : Int)) ∧ 2 * k ≤ l.length + 1 ∧ m.length = l.length ∧ RevTo l m k ∧ OwnI wr base (.slice (some ⟨g, 0, none⟩) l.length cap) m ∧ Turns [g] w wr) (fun i _ _ => l.length - (intOf i).toNat)
  case atStart => exact ⟨0, l, rfl, by simp, by omega, rfl, fun q hq => by rw [if_neg (by omega)], H.out, Turns.refl _ _⟩
  case round =>
    obtain ⟨k, m, rfl, rfl, hk, hml, hR, hO, hT⟩ := hrel
    by_cases hkj : k + 1 < l.length - k
    · obtain ⟨j, hj⟩ : ∃ j, l.length - 1 - k = j := ⟨_, rfl⟩
      have hjj : (l.length : Int) - 1 - (k : Int) = (j : Int) := by omega
      obtain ⟨x, hx⟩ : ∃ x, m[k]? = some x := ⟨_, List.getElem?_eq_getElem (by omega)⟩
      obtain ⟨y, hy⟩ : ∃ y, m[j]? = some y := ⟨_, List.getElem?_eq_getElem (by omega)⟩
      have hN := hR.next hml hkj hx (by rw [hj]; exact hy)
      rw [hj] at hN
      rw [hjj]
      obtain ⟨g', hg', -, c0⟩ := hO.at hx
      obtain ⟨g'', hg'', -, c1⟩ := hO.at hy
      simp only [Option.some.injEq, Addr.mk.injEq, and_true] at hg' hg''
      subst hg'
      subst hg''
      have f0 := hO.frozen k
      have f1 := hO.frozen j
      have hkj2 : k < j := by omega
      have hjl : j < l.length := by omega
      have e1 : (0 : Int) ≤ (k : Int) := by omega
      have e2 : (k : Int) < (l.length : Int) := by omega
      have e3 : (0 : Int) ≤ (j : Int) := by omega
      have e4 : (j : Int) < (l.length : Int) := by omega
      have e5 : (k : Int) < (j : Int) := by omega
      have hne : ¬ k = j := by omega
      have P1 := hO.put k y
      have P2 := P1.1.put j x
      have Q1 := hO.put j x
      have Q2 := Q1.1.put k y
      rw [List.set_comm _ _ (by omega : j ≠ k)] at Q2
      have HP := Lib.hid (And.intro P2.1 ((hT.trans P1.2 (by simp)).trans P2.2 (by simp)))
      have HQ := Lib.hid (And.intro Q2.1 ((hT.trans Q1.2 (by simp)).trans Q2.2 (by simp)))
      have HN := Lib.hid hN
      have HJ := Lib.hid (And.intro hj hjj)
      have HML := Lib.hid hml
      clear hR hO hT P1 P2 Q1 Q2 hN hj hjj hx hy
      go_wp2_with fail
      go_region
      have e6 : IntKind.i64.wrap ((j : Int) - 1) = (j : Int) - 1 := IntWalk.i64_in _ (by omega)
      clear c0 c1 f0 f1
      go_wp2
      have hjv : Value.int IntKind.i64 ((j : Int) - 1) = .int .i64 ((l.length : Int) - 1 - ((k + 1 : Nat) : Int)) := by have := HJ.out.2; congr 1; omega
      exact ⟨⟨k + 1, (m.set k y).set j x, by go_num, hjv, by omega, by rw [List.length_set, List.length_set]; exact HML.out, HN.out, HP.out.1.step (Below.refl _ _).drew, HP.out.2.drew⟩, by simp [intOf]; omega⟩
    · have hRD := hR.done hml hkj
      subst hRD
      have HO := Lib.hid hO
      have HT := Lib.hid hT
      have e1 : ¬ (k : Int) < (l.length : Int) - 1 - (k : Int) := by omega
      clear hR hO hT hml
      go_wp2
      go_end0
      exact ⟨rfl, HO.out, HT.out⟩
end Go.Proofs.YtonkbjdeaneicaaDoor

namespace Go.Proofs.YtonkbjdeaneicaaDoor
open Go.RowKit Pln Classical Go.Maps

theorem infoNd : (Tryd.prog.info? 40).map (fun i => (i.zero, i.size, i.bytes)) = some (some (.agg #[.int .i64 0, .int .i64 0, .int .i64 0, .slice none 0 0, .slice none 0 0, .int .i64 0, .bool false, .int .i64 0, .bool false, .int .i64 0, .int .i64 0]), 11, 120) := by kernel_rfl
theorem St.eta (st : St) : (⟨st.al, st.ns⟩ : St) = st := rfl
theorem mfoot_g {g mb : Nat} {av nv ev : Value} : g ∈ mfoot g mb av nv ev := by simp [mfoot]

theorem MkAt.foot_lt {base g mb : Nat} {W : World} {av nv ev : Value} {st : St} {es : List Nat} (h : MkAt base g mb W av nv ev st es) : ∀ x ∈ mfoot g mb av nv ev, base ≤ x ∧ x < W.heap.size := by
  intro x hx
  simp only [mfoot, List.mem_cons, List.mem_append, Option.mem_toList] at hx
  rcases hx with rfl | rfl | hx | hx | hx
  · exact ⟨h.gb, h.lt⟩
  · exact ⟨h.mbb, h.map.lt⟩
  · exact ⟨(h.al.block hx).1, (h.al.block hx).2.1⟩
  · exact ⟨(h.ns.block hx).1, (h.ns.block hx).2.1⟩
  · exact ⟨(h.en.block hx).1, (h.en.block hx).2.1⟩

set_option maxRecDepth 200000 in
set_option maxHeartbeats 4000000 in
theorem node_hit {base g mb : Nat} {W : World} {S : List Nat} {st : St} {es : List Nat} (h : Mkr base g mb W S st es) {cs : List Value} {lv nv : Value} (n : Nd) (hn : ENd (Off base S) W cs n lv nv) (ok : NdOk n) (hk : n.kind ≠ 0) (hm : n ∈ st.ns) :
    Calls Tryd.prog 44 #[.pointer (some ⟨g, 0, none⟩), .agg #[.int .i64 n.kind, .int .i64 n.parent, .int .i64 n.alpha, lv, nv, .int .i64 n.test.op, .bool n.test.l.v, .int .i64 n.test.l.n, .bool n.test.r.v, .int .i64 n.test.r.n, .int .i64 n.width]] W fun e W' => e = .returned (.int .i64 (placeF st.ns n)) ∧ Below W.heap.size W W' := by
  obtain ⟨av, nv0, ev, rfl, hM⟩ := h
  obtain ⟨l, hl⟩ := keyA ok
  have CA := Lib.hid (fun W' (hb : Below W.heap.size W W') => asksW n W' (hn.kp (F' := Off base (mfoot g mb av nv0 ev)) (Kp.of_below hb) (fun _ _ h => h)) ok.l8 ok.n8)
  obtain ⟨la, lc, rfl⟩ := hn.links.form
  obtain ⟨na, nc, rfl⟩ := hn.new.form
  have HM := Lib.hid hM
  have KL := Lib.hid hl
  have AF := Lib.hid (atF_hit hm hk ok.l8 ok.n8)
  clear hn hl hM
  obtain ⟨pl, hpl⟩ : ∃ pl, placeF st.ns n = pl := ⟨_, rfl⟩
  rw [hpl] at AF ⊢
  clear hpl hm
  go_enter Tryd.func44, Tryd.ntmps44
  go_wp2_with (first
    | (go_at_call 62; refine (CA.out _ ?_).mono ?_; exact (Below.refl _ _).alloc (Nat.le_refl _) _; rintro e w2 ⟨rfl, hb2⟩; have HB2 := Lib.hid (((Below.refl W.heap.size W).alloc (Nat.le_refl _) _).trans (hb2.mono (by simp))); clear hb2)
    | (with_reducible refine stop_store rfl 110 (.tmp 5) (.tmp 12) rfl ?_))
  refine Lib.hid ?_
  refine wpList_store_new rfl 110 (.tmp 5) (.tmp 12) rfl w2.heap.size rfl _ _ _ rfl rfl sizeAsk rfl (askA_one n) ?_
  go_wp2_with fail
  refine wp_region_still_lit (by kernel_rfl) (by kernel_rfl) ?_
  have hB3 := HB2.out.trans ((((Below.refl w2.heap.size w2).alloc (Nat.le_refl _) (.cells (askA n) 110)).drew).mono HB2.out.size)
  have hrow : (w2.alloc (.cells (askA n) 110)).drew.heap[w2.heap.size]? = some (.cells (askA n) 110 (0, 0)) := heap_alloc_new w2 _
  change wpStill _ _ (w2.alloc (.cells (askA n) 110)).drew (fun a' => Exit.then _ _ _ a' (w2.alloc (.cells (askA n) 110)).drew) _ _
  generalize (w2.alloc (.cells (askA n) 110)).drew = wd at hB3 hrow ⊢
  have HMd := HM.out.step hB3
  have hrun := HMd.map.hit (t := 89) keyedA Tryd.underlying89 Tryd.underlying3 (zeroI _) KL.out AF.out
  have x3 := HMd.cell 3 rfl
  have hR := Lib.hid hrow
  have HB3 := Lib.hid hB3
  clear HMd hB3 hrow
  still_step
  still_step
  still_step
  still_step
  refine wpStill_load_row rfl 110 (.tmp 5) rfl w2.heap.size (by simp [Act.eval]) 110 (askA n) (0, 0) _ hR.out Tryd.underlying110 rfl sizeAsk ?_
  repeat still_step
  refine wpStill_nil ?_
  go_wp2
  go_ret
  exact ⟨rfl, HB3.out⟩

set_option maxRecDepth 200000 in
set_option maxHeartbeats 4000000 in
theorem node_miss {base g mb : Nat} {W : World} {S : List Nat} {st : St} {es : List Nat} (h : Mkr base g mb W S st es) {cs : List Value} {lv nv : Value} (n : Nd) (hn : ENd (Off base S) W cs n lv nv) (ok : NdOk n) (hk : n.kind ≠ 0) (hm : n ∉ st.ns) (hlen : st.ns.length ≤ 30000000) :
    Calls Tryd.prog 44 #[.pointer (some ⟨g, 0, none⟩), .agg #[.int .i64 n.kind, .int .i64 n.parent, .int .i64 n.alpha, lv, nv, .int .i64 n.test.op, .bool n.test.l.v, .int .i64 n.test.l.n, .bool n.test.r.v, .int .i64 n.test.r.n, .int .i64 n.width]] W fun e W' => e = .returned (.int .i64 st.ns.length) ∧ MkrTo base g mb W S ⟨st.al, st.ns ++ [n]⟩ es W' := by
  obtain ⟨av, nv0, ev, rfl, hM⟩ := h
  obtain ⟨l, hl⟩ := keyA ok
  have hcs := hn.cells
  subst hcs
  have CA := Lib.hid (fun W' (hb : Below W.heap.size W W') => asksW n W' (hn.kp (F' := Off base (mfoot g mb av nv0 ev)) (Kp.of_below hb) (fun _ _ h => h)) ok.l8 ok.n8)
  obtain ⟨la, lc, rfl⟩ := hn.links.form
  obtain ⟨na, nc, rfl⟩ := hn.new.form
  have HM := Lib.hid hM
  have KL := Lib.hid hl
  have AF := Lib.hid (atF_miss hm ok.l8 ok.n8)
  have HNO := Lib.hid hm
  have HEN := Lib.hid hn
  have OK := Lib.hid ok
  have HK := Lib.hid hk
  clear hn hl hM hm ok hk
  obtain ⟨A0, C0, rfl⟩ := HM.out.ns.form
  go_enter Tryd.func44, Tryd.ntmps44
  go_wp2_with (first
    | (go_at_call 62; refine (CA.out _ ?_).mono ?_; exact (Below.refl _ _).alloc (Nat.le_refl _) _; rintro e w2 ⟨rfl, hb2⟩; have HBX := Lib.hid (hb2.mono (show W.heap.size + 1 ≤ _ by simp)); have HB2 := Lib.hid (((Below.refl W.heap.size W).alloc (Nat.le_refl _) _).trans (hb2.mono (by simp))); clear hb2)
    | (with_reducible refine stop_store rfl 110 (.tmp 5) (.tmp 12) rfl ?_))
  refine Lib.hid ?_
  refine wpList_store_new rfl 110 (.tmp 5) (.tmp 12) rfl w2.heap.size rfl _ _ _ rfl rfl sizeAsk rfl (askA_one n) ?_
  go_wp2_with fail
  refine wp_region_still_lit (by kernel_rfl) (by kernel_rfl) ?_
  have hB3 := HB2.out.trans ((((Below.refl w2.heap.size w2).alloc (Nat.le_refl _) (.cells (askA n) 110)).drew).mono HB2.out.size)
  have hrow : (w2.alloc (.cells (askA n) 110)).drew.heap[w2.heap.size]? = some (.cells (askA n) 110 (0, 0)) := heap_alloc_new w2 _
  have hB4 : Below w2.heap.size w2 (w2.alloc (.cells (askA n) 110)).drew := ((Below.refl w2.heap.size w2).alloc (Nat.le_refl _) _).drew
  change wpStill _ _ (w2.alloc (.cells (askA n) 110)).drew (fun a' => Exit.then _ _ _ a' (w2.alloc (.cells (askA n) 110)).drew) _ _
  generalize (w2.alloc (.cells (askA n) 110)).drew = wd at hB3 hB4 hrow ⊢
  have HMd := HM.out.step hB3
  have hrun := HMd.map.miss (t := 89) keyedA Tryd.underlying89 Tryd.underlying3 (zeroI _) KL.out AF.out
  have x3 := HMd.cell 3 rfl
  have x1 := HMd.cell 1 rfl
  have BX := HBX.out.trans (hB4.mono (by have := HBX.out.size; simpa using this))
  have y0 := box_cell BX 0 _ rfl
  have y1 := box_cell BX 1 _ rfl
  have y2 := box_cell BX 2 _ rfl
  have y3 := box_cell BX 3 _ rfl
  have y4 := box_cell BX 4 _ rfl
  have y5 := box_cell BX 5 _ rfl
  have y6 := box_cell BX 6 _ rfl
  have y7 := box_cell BX 7 _ rfl
  have y8 := box_cell BX 8 _ rfl
  have y9 := box_cell BX 9 _ rfl
  have y10 := box_cell BX 10 _ rfl
  have hWs : W.heap.size < wd.heap.size := by have := BX.size; simp at this; omega
  have hw2l : w2.heap.size < wd.heap.size := lt_of_heap hrow
  have hR := Lib.hid hrow
  have HB3 := Lib.hid hB3
  have HMD := Lib.hid HMd
  have hgl := HMd.lt
  have HE := Lib.hid (HEN.out.kp (F' := Off base (mfoot g mb av (.slice A0 st.ns.length C0) ev)) (Kp.of_below hB3) (fun _ _ h => h))
  have hbs := (HM.out.foot_lt g mfoot_g).1
  have HFL := Lib.hid HM.out.foot_lt
  have hbase : base ≤ wd.heap.size := by omega
  clear HMd hB3 hrow hB4 BX
  still_step
  still_step
  still_step
  still_step
  refine wpStill_load_row rfl 110 (.tmp 5) rfl w2.heap.size (by simp [Act.eval]) 110 (askA n) (0, 0) _ hR.out Tryd.underlying110 rfl sizeAsk ?_
  repeat still_step
  refine wpStill_nil ?_
  clear hrun
  go_wp2_with fail
  go_region_law (refine step_append_F HMD.out.ns (fun b hb hf => hf.2 (by simp [mfoot, hb])) (by rfl) (.tmp 30) (.tmp 32) 23 (by rfl) Tryd.underlying23 infoNd rfl (by decide) (by rfl) #[.int .i64 n.kind, .int .i64 n.parent, .int .i64 n.alpha, .slice la n.links.length lc, .slice na n.new.length nc, .int .i64 n.test.op, .bool n.test.l.v, .int .i64 n.test.l.n, .bool n.test.r.v, .int .i64 n.test.r.n, .int .i64 n.width] _ (by rfl) rfl (x := n) ⟨_, _, HE.out⟩ (by omega) (by decide) hbase ?_; intro g' cap w3 ho ht hat hlt3; have hgn := (HMD.out.apart).2.2.1; have e3 := (ht.block g HMD.out.lt (fun hm => (hgn g (by simpa using hm)).1 rfl)).trans HMD.out.blk; have z1 := (cell_of_row _ _ 1 _ _ _ e3).trans (show _ = some (Value.slice A0 st.ns.length C0) from rfl); have z2 : ∀ o, w3.frozen? ⟨g, o, none⟩ = false := (fun o => by simp [World.frozen?, e3]); have z3 := lt_of_heap e3; have GR := Lib.hid (HMD.out.grown ho ht hat); have HAT := Lib.hid hat; clear ho ht hat hlt3 hgn e3)
  all_goals
    have GB := GR.out.blk
    have GT := GR.out.tn
    have GM := GR.out.map
    have hr4 := (GT.block w2.heap.size hw2l (fun hm => by have h1 := (HFL.out _ hm).2; have h2 := HB2.out.size; omega)).trans hR.out
    have hrd : (w3.setCell ⟨g, 1, none⟩ (.slice (some ⟨g', 0, none⟩) (st.ns.length + 1) cap)).drew.heap[w2.heap.size]? = some (.cells (askA n) 110 (0, 0)) := hr4
    have gbd : (w3.setCell ⟨g, 1, none⟩ (.slice (some ⟨g', 0, none⟩) (st.ns.length + 1) cap)).drew.heap[g]? = some (.cells #[av, .slice (some ⟨g', 0, none⟩) (st.ns.length + 1) cap, ev, .map (some mb)] 91 (0, 0)) := GB
    have gmd : MapG Tryd.prog 110 3 (w3.setCell ⟨g, 1, none⟩ (.slice (some ⟨g', 0, none⟩) (st.ns.length + 1) cap)).drew mb st.ns.length (atF st.ns) := GM.of_block rfl
    have bd : Below (w3.setCell ⟨g, 1, none⟩ (.slice (some ⟨g', 0, none⟩) (st.ns.length + 1) cap)).heap.size (w3.setCell ⟨g, 1, none⟩ (.slice (some ⟨g', 0, none⟩) (st.ns.length + 1) cap)) (w3.setCell ⟨g, 1, none⟩ (.slice (some ⟨g', 0, none⟩) (st.ns.length + 1) cap)).drew := (Below.refl _ _).drew
    have HRD := Lib.hid hrd
    have BD := Lib.hid bd
    have GBD := Lib.hid gbd
    have GMD := Lib.hid gmd
    clear GB GT GM hr4 hrd gbd gmd bd z1 z2 z3 x1 x3 y0 y1 y2 y3 y4 y5 y6 y7 y8 y9 y10
    go_wp2_with fail
    refine wp_region_still_tail 12 (by kernel_rfl) (by kernel_rfl) ?_
    change wpStill _ _ (w3.setCell ⟨g, 1, none⟩ (.slice (some ⟨g', 0, none⟩) (st.ns.length + 1) cap)).drew (fun a' => wpList _ _ _ _ a' (w3.setCell ⟨g, 1, none⟩ (.slice (some ⟨g', 0, none⟩) (st.ns.length + 1) cap)).drew) _ _
    generalize (w3.setCell ⟨g, 1, none⟩ (.slice (some ⟨g', 0, none⟩) (st.ns.length + 1) cap)).drew = w4 at HRD BD GBD GMD ⊢
    have x1 : w4.cell? ⟨g, 1, none⟩ = some (.slice (some ⟨g', 0, none⟩) (st.ns.length + 1) cap) := cell_of_row _ _ 1 _ _ _ GBD.out
    have x3 : w4.cell? ⟨g, 3, none⟩ = some (.map (some mb)) := cell_of_row _ _ 3 _ _ _ GBD.out
    obtain ⟨w5, hput, hm5, hg5⟩ := GMD.out.store (t := 89) keyedA Tryd.underlying89 Tryd.underlying3 (by unfold maxLen; omega) KL.out (z := (st.ns.length : Int)) (WalkArith.wf_i64 (by omega))
    have D := GR.out.done HNO.out HK.out OK.out hbs HM.out.mbb HM.out.lens BD.out hm5 hg5
    have DM := Lib.hid D.1
    have DT := Lib.hid D.2
    clear hm5 hg5 D
    have hl1 : IntKind.i64.wrap (st.ns.length : Int) = (st.ns.length : Int) := IntWalk.i64_in _ (by omega)
    simp only [List.take_succ_cons, List.take_zero, List.drop_succ_cons, List.drop_zero]
    still_step
    still_step
    still_step
    still_step
    refine wpStill_load_row rfl 110 (.tmp 5) rfl w2.heap.size (by simp [Act.eval]) 110 (askA n) (0, 0) _ HRD.out Tryd.underlying110 rfl sizeAsk ?_
    repeat still_step
    refine wpStill_nil ?_
    have x5 : w5.cell? ⟨g, 1, none⟩ = some (.slice (some ⟨g', 0, none⟩) (st.ns.length + 1) cap) := DM.out.cell 1 rfl
    clear x1 x3
    go_wp2
    go_ret
    refine ⟨by first | rfl | simp [hl1], _, ⟨_, _, _, rfl, DM.out⟩, ?_, ?_⟩
    · exact (Turns.of_below (S := mfoot g mb av (.slice A0 st.ns.length C0) ev) HB3.out).trans DT.out (fun x hx => .inl hx)
    · intro b hb
      simp only [mfoot, List.mem_cons, List.mem_append, Option.mem_toList] at hb ⊢
      rcases hb with hb | hb | hb | hb | hb
      · exact .inl (.inl hb)
      · exact .inl (.inr (.inl hb))
      · exact .inl (.inr (.inr (.inl hb)))
      · have e : g' = b := by simpa [Value.ownBlock] using hb
        rcases HAT.out with h1 | h1
        · exact .inl (.inr (.inr (.inr (.inl (by rw [← e]; exact h1)))))
        · exact .inr (by omega)
      · exact .inl (.inr (.inr (.inr (.inr hb))))

/-- node, whatever the node. -/
theorem nodeW {base g mb : Nat} {W : World} {S : List Nat} {st : St} {es : List Nat} (h : Mkr base g mb W S st es) {cs : List Value} {lv nv : Value} (n : Nd) (hn : ENd (Off base S) W cs n lv nv) (ok : NdOk n) (hk : n.kind ≠ 0) (hlen : st.ns.length ≤ 30000000) :
    Calls Tryd.prog 44 #[.pointer (some ⟨g, 0, none⟩), .agg #[.int .i64 n.kind, .int .i64 n.parent, .int .i64 n.alpha, lv, nv, .int .i64 n.test.op, .bool n.test.l.v, .int .i64 n.test.l.n, .bool n.test.r.v, .int .i64 n.test.r.n, .int .i64 n.width]] W fun e W' => e = .returned (.int .i64 (placeF st.ns n)) ∧ MkrTo base g mb W S ⟨st.al, addF st.ns n⟩ es W' := by
  by_cases hm : n ∈ st.ns
  · refine (node_hit h n hn ok hk hm).mono ?_
    rintro e w' ⟨rfl, hb⟩
    refine ⟨rfl, S, ?_, Turns.of_below hb, fun b hb => .inl hb⟩
    obtain ⟨av, nv0, ev, rfl, hM⟩ := h
    have e1 : addF st.ns n = st.ns := by unfold addF; rw [if_pos hm]
    rw [e1]
    exact ⟨av, nv0, ev, rfl, hM.step hb⟩
  · refine (node_miss h n hn ok hk hm hlen).mono ?_
    rintro e w' ⟨rfl, hT⟩
    have e1 : addF st.ns n = st.ns ++ [n] := by unfold addF; rw [if_neg hm]
    rw [e1, placeF_none hm]
    exact ⟨rfl, hT⟩
end Go.Proofs.YtonkbjdeaneicaaDoor
