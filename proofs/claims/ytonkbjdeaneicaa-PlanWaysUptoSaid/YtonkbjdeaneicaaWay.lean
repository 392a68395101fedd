/- plan.way: the nodes from the one below the root to a node. -/
import Derived.Test.YtonkbjdeaneicaaRev
import Derived.Test.YtonkbjdeaneicaaChkS
namespace Go.Proofs.Ytonkbjdeaneicaa.Pln
open Classical
def parentOf (ns : List Nd) (e : Nat) : Nat := match ns[e]? with | some n => n.parent.toNat | none => 0
def wayG (ns : List Nd) : Nat → Nat → List Nat
  | 0, _ => []
  | f + 1, e => if e = 0 then [] else wayG ns f (parentOf ns e) ++ [e]
/-- The way to a node. -/
def wayN (ns : List Nd) (e : Nat) : List Nat := wayG ns e e
/-- Parents come ahead. -/
def Par (ns : List Nd) : Prop := ∀ (i : Nat) (n : Nd), ns[i]? = some n → 0 < i → ∃ u : Nat, u < i ∧ n.parent = u
end Go.Proofs.Ytonkbjdeaneicaa.Pln
namespace Go.Proofs.Ytonkbjdeaneicaa
open Go.RowKit Pln Classical Go.Maps

theorem wayG_up {ns : List Nd} (h : Par ns) (al : List Shp) : ∀ (f e : Nat), e ≤ f → e < ns.length → Up ⟨al, ns⟩ (wayG ns f e) ∧ (0 :: wayG ns f e).getD (wayG ns f e).length 0 = e ∧ (wayG ns f e).length ≤ e
  | 0, e, he, _ => by
    obtain rfl : e = 0 := by omega
    exact ⟨fun i u hu => by simp [wayG] at hu, rfl, Nat.le_refl _⟩
  | f + 1, e, he, hn => by
    by_cases h0 : e = 0
    · subst h0
      simp only [wayG, if_true]
      exact ⟨fun i u hu => by simp at hu, rfl, Nat.le_refl _⟩
    · obtain ⟨n, hne⟩ : ∃ n, ns[e]? = some n := ⟨_, List.getElem?_eq_getElem hn⟩
      obtain ⟨u, hu, hp⟩ := h e n hne (by omega)
      have hpo : parentOf ns e = u := by unfold parentOf; rw [hne]; simp only; omega
      simp only [wayG, if_neg h0, hpo]
      obtain ⟨i1, i2, i3⟩ := wayG_up h al f u (by omega) (by omega)
      refine ⟨fun i v hv => ?_, by simp [List.getD], by simp; omega⟩
      rcases Nat.lt_or_ge i (wayG ns f u).length with hlt | hge
      · rw [List.getElem?_append_left hlt] at hv
        obtain ⟨j1, j2, m, j3, j4⟩ := i1 i v hv
        have e1 : (0 :: (wayG ns f u ++ [e])).getD i 0 = (0 :: wayG ns f u).getD i 0 := by
          rw [List.getD_eq_getElem?_getD, List.getD_eq_getElem?_getD, ← List.cons_append, List.getElem?_append_left (by simp; omega)]
        rw [e1]
        exact ⟨j1, j2, m, j3, j4⟩
      · have hl := (List.getElem?_eq_some_iff.1 hv).1
        simp at hl
        obtain rfl : i = (wayG ns f u).length := by omega
        rw [List.getElem?_append_right (Nat.le_refl _), Nat.sub_self] at hv
        simp at hv
        subst hv
        have e1 : (0 :: (wayG ns f u ++ [e])).getD (wayG ns f u).length 0 = u := by
          rw [List.getD_eq_getElem?_getD, ← List.cons_append, List.getElem?_append_left (by simp), ← List.getD_eq_getElem?_getD]
          exact i2
        rw [e1]
        exact ⟨by omega, hu, n, hne, hp⟩
theorem wayN_up {ns : List Nd} (h : Par ns) (al : List Shp) {e : Nat} (he : e < ns.length) : Up ⟨al, ns⟩ (wayN ns e) ∧ (0 :: wayN ns e).getD (wayN ns e).length 0 = e ∧ (wayN ns e).length ≤ e := wayG_up h al e e (Nat.le_refl _) he

set_option maxRecDepth 200000 in
set_option maxHeartbeats 4000000 in
theorem reverse_nil (w : World) : Calls Try.prog 65 #[.slice none 0 0] w fun e w' => e = .returned (.tuple #[]) ∧ w' = w := by
  go_enter Try.func65, Try.ntmps65
  go_wp2
  go_loopw [2, 3] (fun iv jv wr => iv = .int .i64 0 ∧ jv = .int .i64 (-1) ∧ wr = w) (fun _ _ _ => 0)
  case atStart => exact ⟨rfl, rfl, rfl⟩
  case round =>
    obtain ⟨rfl, rfl, rfl⟩ := hrel
    go_wp2
    go_end0
    exact ⟨rfl, rfl⟩
/-- Reverse at any row of the call's own. -/
theorem reverseI (w : World) (base : Nat) (v : Value) (l : List Nat) (h : OwnI w base v l) (hl : l.length ≤ 1000000) :
    Calls Try.prog 65 #[v] w fun e w' => e = .returned (.tuple #[]) ∧ OwnI w' base v l.reverse ∧ Turns v.ownBlock.toList w w' := by
  rcases h.2 with ⟨rfl, h0⟩ | ⟨g, cap, cur, rfl, hg, hh, h1, h2, h3⟩
  · have hn := List.eq_nil_of_length_eq_zero h0
    subst hn
    refine (reverse_nil w).mono ?_
    rintro e w' ⟨rfl, rfl⟩
    exact ⟨rfl, h, Turns.refl _ _⟩
  · refine (reverseW w base g cap l h hl).mono ?_
    rintro e w' ⟨rfl, hO, hT⟩
    exact ⟨rfl, hO, by simpa [Value.ownBlock] using hT⟩

set_option maxRecDepth 200000 in
set_option maxHeartbeats 4000000 in
theorem wayW {F : Nat → Prop} (W : World) (av nv ev : Value) (al : List Shp) (ns : List Nd) (hN : RSl F W 11 (ENode F W) nv ns) (hP : Par ns) (k : Nat) (hk : k < ns.length) (hn : ns.length ≤ 1000000000) (hw : (wayN ns k).length ≤ 1000000) :
    Calls Try.prog 44 #[.agg #[av, nv, ev], .int .i64 (k : Int)] W fun e W' => ∃ v, e = .returned v ∧ OwnI W' (W.heap.size + 1) v (wayN ns k) ∧ Below W.heap.size W W' := by
  obtain ⟨hl, hlast, _⟩ := wayN_up hP al hk
  obtain ⟨l, hll⟩ : ∃ l, wayN ns k = l := ⟨_, rfl⟩
  rw [hll] at hl hlast hw ⊢
  clear hll
  obtain ⟨nb, no, C2, rfl, -, hnb, hat⟩ := RSl.base hN (by omega)
  have HN := Lib.hid hN
  have HL := Lib.hid hl
  have HK := Lib.hid hlast
  clear hl hlast hN hP hat
  go_enter Try.func44, Try.ntmps44
  go_wp2
  go_loopw [1, 5] (fun kv ov wr => ∃ (i : Nat) (v : Value), kv = .int .i64 (((0 :: l).getD i 0 : Nat) : Int) ∧ ov = v ∧ i ≤ l.length ∧ OwnI wr (W.heap.size + 1) v (l.drop i).reverse ∧
    Below (W.heap.size + 1) (W.alloc (.cells #[av, .slice (some ⟨nb, no, none⟩) ns.length C2, ev] 27)) wr) (fun kv _ _ => (intOf kv).toNat)
  case atStart => exact ⟨l.length, _, by rw [HK.out], rfl, Nat.le_refl _, by rw [List.drop_length]; exact World.ownsRow_nil _ _ _ _, Below.refl _ _⟩
  case round =>
    obtain ⟨i, v, rfl, rfl, hi, hO, hb⟩ := hrel
    match i, hi with
    | 0, _ =>
      have RV := Lib.hid (reverseI wr _ u5 _ hO (by simp; omega))
      have HO := Lib.hid hO
      have HB := Lib.hid hb
      clear hO hb
      simp only [List.getD_cons_zero]
      go_wp2_with fail
      refine RV.out.mono ?_
      rintro e w2 ⟨rfl, hO2, hT⟩
      rw [List.reverse_reverse, List.drop_zero] at hO2
      have HO2 := Lib.hid hO2
      have HB2 := Lib.hid ((box_below HB.out).trans (hT.below (box_below HB.out).size (fun x hx => by
        simp only [Option.mem_toList] at hx
        have := (ownBlock_cells HO.out hx).1
        omega)))
      clear hO2 hT RV
      go_wp2
      go_ret
      exact ⟨_, rfl, HO2.out, HB2.out⟩
    | j + 1, hi =>
      obtain ⟨u, hu⟩ : ∃ u, l[j]? = some u := ⟨_, List.getElem?_eq_getElem hi⟩
      obtain ⟨hu0, hlt, n, hn1, hpar⟩ := HL.out j u hu
      have hg : (0 :: l).getD (j + 1) 0 = u := by simp [List.getD, hu]
      obtain ⟨q, hq⟩ : ∃ q, (0 :: l).getD j 0 = q := ⟨_, rfl⟩
      rw [hq] at hpar hlt
      have hdrop : (l.drop (j + 1)).reverse ++ [u] = (l.drop j).reverse := by
        rw [List.drop_eq_getElem_cons hi]
        rw [List.getElem?_eq_getElem hi] at hu
        injection hu with hu
        rw [hu, List.reverse_cons]
      rw [hg]
      have hsz : W.heap.size + 1 ≤ wr.heap.size := by have := hb.size; simp at this; omega
      obtain ⟨nb', no', cs, hA', ⟨lv, mv, hE⟩, hc⟩ := HN.out.rd hn1
      simp only [Option.some.injEq, Addr.mk.injEq, and_true] at hA'
      obtain ⟨rfl, rfl⟩ := hA'
      have hcs := hE.cells
      subst hcs
      rw [hpar] at hc
      have O1 := Lib.hid (ownI_one (w := wr) (base := W.heap.size + 1) (k := u) hsz)
      have O2 := Lib.hid (hO.below ((Below.refl _ _).alloc (Nat.le_refl _) (.cells #[.int .i64 u] 3)))
      have HR := Lib.hid (And.intro hdrop (And.intro hq (And.intro hi hlt)))
      have hul : u < ns.length := (List.getElem?_eq_some_iff.1 hn1).1
      have HB := Lib.hid hb
      have HC := Lib.hid (fun w' hw' => hc w' hw' 1 _ rfl)
      have STEP := Lib.hid (show ∀ w', (wr.alloc (.cells #[.int .i64 (u : Int)] 3)).grownBy w' u5.ownBlock → Below (W.heap.size + 1) (W.alloc (.cells #[av, .slice (some ⟨nb, no, none⟩) ns.length C2, ev] 27)) w' from fun w' hgr =>
        HB.out.trans (((Turns.alloc (Turns.refl _ wr) (.cells #[.int .i64 (u : Int)] 3)).trans (Turns.of_grown hgr) (fun x hx => .inl hx)).below (by omega) (fun x hx => by
          simp only [Option.mem_toList] at hx
          exact (ownBlock_cells hO hx).1)))
      have e1 : (0 : Int) < (u : Int) := by omega
      have e2 : (0 : Int) ≤ (u : Int) := by omega
      have e3 : (u : Int) < (ns.length : Int) := by omega
      have hsz2 : W.heap.size + 1 ≤ (wr.alloc (.cells #[.int .i64 (u : Int)] 3)).heap.size := by simp; omega
      clear hO hb hu hlt hn1 hpar hg hq hdrop hc hE
      go_wp2_with (at_builtin; refine wpList_append_I rfl (.tmp 8) (.tmp 10) rfl (W.heap.size + 1) (W.heap.size + 1) _ _ (l.drop (j + 1)).reverse [u] rfl O2.out rfl O1.out (by simp; omega) hsz2 ?_; intro v' w' hw1 hw2; have HB2 := Lib.hid (STEP.out w' hw2); have HO2 := Lib.hid hw1; have d3 := box_cellL HB2.out 1 rfl; have d4 := HC.out w' (box_below HB2.out); clear hw1 hw2)
      rw [HR.out.1] at HO2
      refine ⟨⟨j, v', by rw [HR.out.2.1], rfl, by have := HR.out.2.2.1; omega, HO2.out, HB2.out⟩, by have := HR.out.2.2.2; simp [intOf]; omega⟩
end Go.Proofs.Ytonkbjdeaneicaa
