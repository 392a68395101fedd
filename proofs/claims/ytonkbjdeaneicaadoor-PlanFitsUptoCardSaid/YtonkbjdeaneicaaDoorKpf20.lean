/- plan.way: the nodes from the one below the root to a node. nodesRight: what it looks for; its state. What a node says of its pattern, place by place. No program in sight. -/
import Derived.Test.YtonkbjdeaneicaaDoorKpf05
import Derived.Test.YtonkbjdeaneicaaDoorKpf13
import Derived.Test.YtonkbjdeaneicaaDoorKpf14
import Derived.Test.YtonkbjdeaneicaaDoorKpf16
import Derived.Test.YtonkbjdeaneicaaDoorKpf17
import Derived.Test.YtonkbjdeaneicaaDoorKpf19
namespace Go.Proofs.YtonkbjdeaneicaaDoor.Pln
open Classical
def parentOf (ns : List Nd) (e : Nat) : Nat := match ns[e]? with | some n => n.parent.toNat | none => 0
def wayG (ns : List Nd) : Nat → Nat → List Nat
  | 0, _ => []
  | f + 1, e => if e = 0 then [] else wayG ns f (parentOf ns e) ++ [e]
/-- The way to a node. -/
def wayN (ns : List Nd) (e : Nat) : List Nat := wayG ns e e
/-- Parents come ahead. -/
def Par (ns : List Nd) : Prop := ∀ (i : Nat) (n : Nd), ns[i]? = some n → 0 < i → ∃ u : Nat, u < i ∧ n.parent = u
end Go.Proofs.YtonkbjdeaneicaaDoor.Pln
namespace Go.Proofs.YtonkbjdeaneicaaDoor
open Go.RowKit Pln Classical Go.Maps

theorem wayG_up {ns : List Nd} (h : Par ns) (al : List Shp) : ∀ (f e : Nat), e ≤ f → e < ns.length → Up ⟨al, ns⟩ (wayG ns f e) ∧ (0 :: wayG ns f e).getD (wayG ns f e).length 0 = e ∧ (wayG ns f e).length ≤ e
  | 0, e, he, _ => by
    obtain rfl : e = 0 := by omega
    exact ⟨fun i u hu => by simp [wayG] at hu, rfl, Nat.le_refl _⟩
  | f + 1, e, he, hn => by
    by_cases h0 : e = 0
    · subst h0
      simp only [wayG, if_true]
      exact ⟨fun i u hu => by simp at hu, rfl, Nat.le_refl _⟩
    · obtain ⟨n, hne⟩ : ∃ n, ns[e]? = some n := ⟨_, List.getElem?_eq_getElem hn⟩
      obtain ⟨u, hu, hp⟩ := h e n hne (by omega)
      have hpo : parentOf ns e = u := by unfold parentOf; rw [hne]; simp only; omega
      simp only [wayG, if_neg h0, hpo]
      obtain ⟨i1, i2, i3⟩ := wayG_up h al f u (by omega) (by omega)
      refine ⟨fun i v hv => ?_, by simp [List.getD], by simp; omega⟩
      rcases Nat.lt_or_ge i (wayG ns f u).length with hlt | hge
      · rw [List.getElem?_append_left hlt] at hv
        obtain ⟨j1, j2, m, j3, j4⟩ := i1 i v hv
        have e1 : (0 :: (wayG ns f u ++ [e])).getD i 0 = (0 :: wayG ns f u).getD i 0 := by
          rw [List.getD_eq_getElem?_getD, List.getD_eq_getElem?_getD, ← List.cons_append, List.getElem?_append_left (by simp; omega)]
        rw [e1]
        exact ⟨j1, j2, m, j3, j4⟩
      · have hl := (List.getElem?_eq_some_iff.1 hv).1
        simp at hl
        obtain rfl : i = (wayG ns f u).length := by omega
        rw [List.getElem?_append_right (Nat.le_refl _), Nat.sub_self] at hv
        simp at hv
        subst hv
        have e1 : (0 :: (wayG ns f u ++ [e])).getD (wayG ns f u).length 0 = u := by
          rw [List.getD_eq_getElem?_getD, ← List.cons_append, List.getElem?_append_left (by simp), ← List.getD_eq_getElem?_getD]
          exact i2
        rw [e1]
        exact ⟨by omega, hu, n, hne, hp⟩
theorem wayN_up {ns : List Nd} (h : Par ns) (al : List Shp) {e : Nat} (he : e < ns.length) : Up ⟨al, ns⟩ (wayN ns e) ∧ (0 :: wayN ns e).getD (wayN ns e).length 0 = e ∧ (wayN ns e).length ≤ e := wayG_up h al e e (Nat.le_refl _) he

set_option maxRecDepth 200000 in
set_option maxHeartbeats 4000000 in
theorem reverse_nil (w : World) : Calls Tryd.prog 46 #[.slice none 0 0] w fun e w' => e = .returned (.tuple #[]) ∧ w' = w := by
  go_enter Tryd.func46, Tryd.ntmps46
  go_wp2
  go_loopw [2, 3] (fun iv jv wr => iv = .int .i64 0 ∧ jv = .int .i64 (-1) ∧ wr = w) (fun _ _ _ => 0)
  case atStart => exact ⟨rfl, rfl, rfl⟩
  case round =>
    obtain ⟨rfl, rfl, rfl⟩ := hrel
    go_wp2
    go_end0
    exact ⟨rfl, rfl⟩
/-- Reverse at any row of the call's own. -/
theorem reverseI (w : World) (base : Nat) (v : Value) (l : List Nat) (h : OwnI w base v l) (hl : l.length ≤ 1000000) :
    Calls Tryd.prog 46 #[v] w fun e w' => e = .returned (.tuple #[]) ∧ OwnI w' base v l.reverse ∧ Turns v.ownBlock.toList w w' := by
  rcases h.2 with ⟨rfl, h0⟩ | ⟨g, cap, cur, rfl, hg, hh, h1, h2, h3⟩
  · have hn := List.eq_nil_of_length_eq_zero h0
    subst hn
    refine (reverse_nil w).mono ?_
    rintro e w' ⟨rfl, rfl⟩
    exact ⟨rfl, h, Turns.refl _ _⟩
  · refine (reverseW w base g cap l h hl).mono ?_
    rintro e w' ⟨rfl, hO, hT⟩
    exact ⟨rfl, hO, by simpa [Value.ownBlock] using hT⟩

set_option maxRecDepth 200000 in
set_option maxHeartbeats 4000000 in
theorem wayW {F : Nat → Prop} (W : World) (av nv ev : Value) (al : List Shp) (ns : List Nd) (hN : RSl F W 11 (ENode F W) nv ns) (hP : Par ns) (k : Nat) (hk : k < ns.length) (hn : ns.length ≤ 1000000000) (hw : (wayN ns k).length ≤ 1000000) :
    Calls Tryd.prog 22 #[.agg #[av, nv, ev], .int .i64 (k : Int)] W fun e W' => ∃ v, e = .returned v ∧ OwnI W' (W.heap.size + 1) v (wayN ns k) ∧ Below W.heap.size W W' := by
  obtain ⟨hl, hlast, _⟩ := wayN_up hP al hk
  obtain ⟨l, hll⟩ : ∃ l, wayN ns k = l := ⟨_, rfl⟩
  rw [hll] at hl hlast hw ⊢
  clear hll
  obtain ⟨nb, no, C2, rfl, -, hnb, hat⟩ := RSl.base hN (by omega)
  have HN := Lib.hid hN
  have HL := Lib.hid hl
  have HK := Lib.hid hlast
  clear hl hlast hN hP hat
  go_enter Tryd.func22, Tryd.ntmps22
  go_wp2
  go_loopw [1, 5] (fun kv ov wr => ∃ (i : Nat) (v : Value), kv = .int .i64 (((0 :: l).getD i 0 : Nat) : Int) ∧ ov = v ∧ i ≤ l.length ∧ OwnI wr (W.heap.size + 1) v (l.drop i).reverse ∧
    Below (W.heap.size + 1) (W.alloc (.cells #[av, .slice (some ⟨nb, no, none⟩) ns.length C2, ev] 26)) wr) (fun kv _ _ => (intOf kv).toNat)
  case atStart => exact ⟨l.length, _, by rw [HK.out], rfl, Nat.le_refl _, by rw [List.drop_length]; exact World.ownsRow_nil _ _ _ _, Below.refl _ _⟩
  case round =>
    obtain ⟨i, v, rfl, rfl, hi, hO, hb⟩ := hrel
    match i, hi with
    | 0, _ =>
      have RV := Lib.hid (reverseI wr _ u5 _ hO (by simp; omega))
      have HO := Lib.hid hO
      have HB := Lib.hid hb
      clear hO hb
      simp only [List.getD_cons_zero]
      go_wp2_with fail
      refine RV.out.mono ?_
      rintro e w2 ⟨rfl, hO2, hT⟩
      rw [List.reverse_reverse, List.drop_zero] at hO2
      have HO2 := Lib.hid hO2
      have HB2 := Lib.hid ((box_below HB.out).trans (hT.below (box_below HB.out).size (fun x hx => by
        simp only [Option.mem_toList] at hx
        have := (ownBlock_cells HO.out hx).1
        omega)))
      clear hO2 hT RV
      go_wp2
      go_ret
      exact ⟨_, rfl, HO2.out, HB2.out⟩
    | j + 1, hi =>
      obtain ⟨u, hu⟩ : ∃ u, l[j]? = some u := ⟨_, List.getElem?_eq_getElem hi⟩
      obtain ⟨hu0, hlt, n, hn1, hpar⟩ := HL.out j u hu
      have hg : (0 :: l).getD (j + 1) 0 = u := by simp [List.getD, hu]
      obtain ⟨q, hq⟩ : ∃ q, (0 :: l).getD j 0 = q := ⟨_, rfl⟩
      rw [hq] at hpar hlt
      have hdrop : (l.drop (j + 1)).reverse ++ [u] = (l.drop j).reverse := by
        rw [List.drop_eq_getElem_cons hi]
        rw [List.getElem?_eq_getElem hi] at hu
        injection hu with hu
        rw [hu, List.reverse_cons]
      rw [hg]
      have hsz : W.heap.size + 1 ≤ wr.heap.size := by have := hb.size; simp at this; omega
      obtain ⟨nb', no', cs, hA', ⟨lv, mv, hE⟩, hc⟩ := HN.out.rd hn1
      simp only [Option.some.injEq, Addr.mk.injEq, and_true] at hA'
      obtain ⟨rfl, rfl⟩ := hA'
      have hcs := hE.cells
      subst hcs
      rw [hpar] at hc
      have O1 := Lib.hid (ownI_one (w := wr) (base := W.heap.size + 1) (k := u) hsz)
      have O2 := Lib.hid (hO.below ((Below.refl _ _).alloc (Nat.le_refl _) (.cells #[.int .i64 u] 3)))
      have HR := Lib.hid (And.intro hdrop (And.intro hq (And.intro hi hlt)))
      have hul : u < ns.length := (List.getElem?_eq_some_iff.1 hn1).1
      have HB := Lib.hid hb
      have HC := Lib.hid (fun w' hw' => hc w' hw' 1 _ rfl)
      have STEP := Lib.hid (show ∀ w', (wr.alloc (.cells #[.int .i64 (u : Int)] 3)).grownBy w' u5.ownBlock → Below (W.heap.size + 1) (W.alloc (.cells #[av, .slice (some ⟨nb, no, none⟩) ns.length C2, ev] 26)) w' from fun w' hgr =>
        HB.out.trans (((Turns.alloc (Turns.refl _ wr) (.cells #[.int .i64 (u : Int)] 3)).trans (Turns.of_grown hgr) (fun x hx => .inl hx)).below (by omega) (fun x hx => by
          simp only [Option.mem_toList] at hx
          exact (ownBlock_cells hO hx).1)))
      have e1 : (0 : Int) < (u : Int) := by omega
      have e2 : (0 : Int) ≤ (u : Int) := by omega
      have e3 : (u : Int) < (ns.length : Int) := by omega
      have hsz2 : W.heap.size + 1 ≤ (wr.alloc (.cells #[.int .i64 (u : Int)] 3)).heap.size := by simp; omega
      clear hO hb hu hlt hn1 hpar hg hq hdrop hc hE
      go_wp2_with (at_builtin; refine wpList_append_I rfl (.tmp 8) (.tmp 10) rfl (W.heap.size + 1) (W.heap.size + 1) _ _ (l.drop (j + 1)).reverse [u] rfl O2.out rfl O1.out (by simp; omega) hsz2 ?_; intro v' w' hw1 hw2; have HB2 := Lib.hid (STEP.out w' hw2); have HO2 := Lib.hid hw1; have d3 := box_cellL HB2.out 1 rfl; have d4 := HC.out w' (box_below HB2.out); clear hw1 hw2)
      rw [HR.out.1] at HO2
      refine ⟨⟨j, v', by rw [HR.out.2.1], rfl, by have := HR.out.2.2.1; omega, HO2.out, HB2.out⟩, by have := HR.out.2.2.2; simp [intOf]; omega⟩
end Go.Proofs.YtonkbjdeaneicaaDoor

namespace Go.Proofs.YtonkbjdeaneicaaDoor.Pln
open Classical

/-- How deep the first nodes lie. -/
def depS (ns : List Nd) : Nat → List Nat
  | 0 => []
  | k + 1 => depS ns k ++ [if k = 0 then 0 else (depS ns k).getD (parentOf ns k) 0 + 1]
theorem depS_len (ns : List Nd) : ∀ k, (depS ns k).length = k
  | 0 => rfl
  | k + 1 => by simp [depS, depS_len ns k]
def depOf (ns : List Nd) (i : Nat) : Nat := (depS ns (i + 1)).getD i 0
theorem depS_at (ns : List Nd) (j : Nat) : ∀ d, (depS ns (j + 1 + d))[j]? = some (depOf ns j)
  | 0 => by
    unfold depOf
    have h : j < (depS ns (j + 1)).length := by rw [depS_len]; omega
    rw [List.getD_eq_getElem?_getD, List.getElem?_eq_getElem h]; rfl
  | d + 1 => by
    rw [← Nat.add_assoc]
    have := depS_at ns j d
    rw [depS, List.getElem?_append_left (by rw [depS_len]; omega)]
    exact this
theorem depOf_zero (ns : List Nd) : depOf ns 0 = 0 := rfl
theorem depOf_next {ns : List Nd} {i u : Nat} (h : parentOf ns i = u) (hu : u < i) : depOf ns i = depOf ns u + 1 := by
  have h1 := depS_at ns i 0
  have h2 := depS_at ns u (i - (u + 1))
  rw [show u + 1 + (i - (u + 1)) = i by omega] at h2
  rw [Nat.add_zero, depS, List.getElem?_append_right (by rw [depS_len]; exact Nat.le_refl _), depS_len, Nat.sub_self, if_neg (by omega), h] at h1
  simp only [List.getElem?_cons_zero, Option.some.injEq] at h1
  rw [← h1, List.getD_eq_getElem?_getD, h2]
  rfl
def nodeAt (al : List Shp) (ns : List Nd) (i : Nat) : Prop := ∀ n, ns[i]? = some n → ∃ (u : Nat) (up : Nd), n.parent = u ∧ u < i ∧ ns[u]? = some up ∧ depOf ns i ≤ 16 ∧ nodeP al n up ∧ ∀ k, 1 ≤ k → k < i → ns[k]? ≠ some n
def nodesP (al : List Shp) (ns : List Nd) : Prop := ns[0]? = some rootN ∧ ∀ i, 1 ≤ i → i < ns.length → nodeAt al ns i

theorem need_alpha {m : Nat} : ∀ (ns : List Nd) (q q' : Nat), ns.foldl (needF m) (some q) = some q' → ∀ n ∈ ns, n.kind = 1 ∨ n.kind = 3 → 0 ≤ n.alpha ∧ n.alpha < (m : Int)
  | [], _, _, _, n, hn, _ => by cases hn
  | a :: r, q, q', h, n, hn, hk => by
    rw [List.foldl_cons] at h
    cases hx : needF m (some q) a with
    | none => rw [hx, needs_none] at h; cases h
    | some b =>
      rw [hx] at h
      rcases List.mem_cons.1 hn with rfl | hn
      · unfold needF at hx
        simp only at hx
        rw [if_pos hk] at hx
        split at hx
        · rename_i hc
          exact ⟨hc.1, hc.2.2⟩
        · cases hx
      · exact need_alpha r b q' h n hn hk
/-- Out of the shapes: what a node's shape is. -/
theorem shapes_at {al : List Shp} {ns : List Nd} (h : shapesP al ns) {n : Nd} (hn : n ∈ ns) (hk : n.kind = 1 ∨ n.kind = 3) : ∃ (ai : Nat) (s : Shp), n.alpha = ai ∧ al[ai]? = some s ∧ s.cells.length ≤ 8 := by
  obtain ⟨h1, h2⟩ := need_alpha ns 0 _ h.2 n hn hk
  obtain ⟨ai, hai⟩ : ∃ ai : Nat, n.alpha = ai := ⟨n.alpha.toNat, by omega⟩
  have hl : ai < al.length := by omega
  exact ⟨ai, al[ai], hai, List.getElem?_eq_getElem hl, (h.1 ai hl _ (List.getElem?_eq_getElem hl)).2.1⟩
theorem nodeP_lens {al : List Shp} {n up : Nd} (h : nodeP al n up) (hs : n.kind = 1 ∨ n.kind = 3 → ∃ (ai : Nat) (s : Shp), n.alpha = ai ∧ al[ai]? = some s ∧ s.cells.length ≤ 8) : n.links.length ≤ 8 ∧ n.new.length ≤ 8 := by
  have key : placesN al n up.width → (n.kind = 1 ∨ n.kind = 3) → n.links.length ≤ 8 ∧ n.new.length ≤ 8 := by
    intro hp hk
    obtain ⟨ai, s, h1, h2, h3⟩ := hs hk
    rw [placesN_iff h1 h2] at hp
    have := links_len hp.2.1
    have := new_len hp.2.2.1
    omega
  rcases h with ⟨h1, _, h2⟩ | ⟨h1, _, h2⟩ | ⟨_, h2⟩
  · exact key h2 (.inl h1)
  · exact key h2 (.inr h1)
  · rw [h2.2.2.1, h2.2.2.2.1]; simp
theorem nodeP_width {al : List Shp} {n up : Nd} {w : Nat} (h : nodeP al n up) (hw : up.width = (w : Int)) (h16 : w ≤ 16) : ∃ w' : Nat, w' ≤ 16 ∧ n.width = (w' : Int) := by
  have key : placesN al n up.width → ∃ w' : Nat, w' ≤ 16 ∧ n.width = (w' : Int) := by
    rintro ⟨ai, s, _, _, hp⟩
    obtain ⟨⟨_, h1, h2⟩, _⟩ := hp
    exact ⟨w + n.new.length, by omega, by omega⟩
  rcases h with ⟨_, _, h2⟩ | ⟨_, _, h2⟩ | ⟨_, h2⟩
  · exact key h2
  · exact key h2
  · exact ⟨w, h16, by rw [h2.2.2.2.2.1, hw]⟩
end Go.Proofs.YtonkbjdeaneicaaDoor.Pln
namespace Go.Proofs.YtonkbjdeaneicaaDoor
open Go.RowKit Pln Classical Go.Maps

theorem RSl.mem {α : Type} {F : Nat → Prop} {w : World} {sz : Nat} {E : List Value → α → Prop} {v : Value} {xs : List α} (h : RSl F w sz E v xs) {x : α} (hx : x ∈ xs) : ∃ cs, E cs x := by
  obtain ⟨A, c, rfl⟩ := h.form
  obtain ⟨i, hi, rfl⟩ := List.getElem_of_mem hx
  obtain ⟨_, _, _, _, _, cs, hE, _⟩ := RSl.at h (List.getElem?_eq_getElem hi)
  exact ⟨cs, hE⟩
theorem ndOk_of {F : Nat → Prop} {w : World} {cs : List Value} {n : Nd} {lv mv : Value} (h : ENd F w cs n lv mv) (h1 : n.links.length ≤ 8) (h2 : n.new.length ≤ 8) : NdOk n :=
  ⟨h.ok, fun l hl => by obtain ⟨_, _, a, b⟩ := h.links.mem hl; exact ⟨a, b⟩, fun x hx => by obtain ⟨_, _, a⟩ := h.new.mem hx; exact a, h1, h2⟩
/-- What has been seen. -/
def Seen (ns : List Nd) (i : Nat) (f : Value → Option Int) : Prop := ∀ n, NdOk n → (f (.agg (askA n)) ≠ none ↔ ∃ k, 1 ≤ k ∧ k < i ∧ ns[k]? = some n)
theorem seen_start (ns : List Nd) : Seen ns 1 (fun _ => none) := fun n _ => ⟨fun h => absurd rfl h, fun ⟨k, h1, h2, _⟩ => by omega⟩
theorem Seen.next {ns : List Nd} {i : Nat} {f : Value → Option Int} (h : Seen ns i f) (hi : 1 ≤ i) {n : Nd} (hn : ns[i]? = some n) (ok : NdOk n) (z : Int) : Seen ns (i + 1) (putG f (.agg (askA n)) z) := by
  intro m hm
  unfold putG
  by_cases e : m = n
  · subst e
    rw [if_pos rfl]
    exact ⟨fun _ => ⟨i, hi, by omega, hn⟩, fun _ => by simp⟩
  · rw [if_neg (fun he => e (agg_inj he hm.l8 hm.n8)), h m hm]
    constructor
    · rintro ⟨k, h1, h2, h3⟩
      exact ⟨k, h1, by omega, h3⟩
    · rintro ⟨k, h1, h2, h3⟩
      by_cases hk : k = i
      · subst hk
        rw [hn] at h3
        exact absurd (Option.some.inj h3).symm e
      · exact ⟨k, h1, by omega, h3⟩
def dpV (ns : List Nd) (i : Nat) : List Value := ((depS ns i ++ List.replicate (ns.length - i) 0).map fun (d : Nat) => Value.int .i64 (d : Int))
theorem dpV_len (ns : List Nd) {i : Nat} (h : i ≤ ns.length) : (dpV ns i).length = ns.length := by simp [dpV, depS_len]; omega
theorem dpV_at (ns : List Nd) {u i : Nat} (hu : u < i) : (dpV ns i)[u]? = some (.int .i64 (depOf ns u : Int)) := by
  unfold dpV
  have h2 := depS_at ns u (i - (u + 1))
  rw [show u + 1 + (i - (u + 1)) = i by omega] at h2
  rw [List.getElem?_map, List.getElem?_append_left (by rw [depS_len]; exact hu), h2]
  rfl
theorem dpV_next (ns : List Nd) {i : Nat} (h : i < ns.length) : dpV ns (i + 1) = (dpV ns i).set i (.int .i64 (depOf ns i : Int)) := by
  apply List.ext_getElem?
  intro q
  by_cases e : i = q
  · subst e
    rw [List.getElem?_set_self (by rw [dpV_len ns (by omega)]; exact h), dpV_at ns (by omega)]
  · rw [List.getElem?_set_ne e]
    rcases Nat.lt_or_ge q i with h1 | h1
    · rw [dpV_at ns h1, dpV_at ns (by omega)]
    · unfold dpV
      rw [List.getElem?_map, List.getElem?_map, List.getElem?_append_right (by rw [depS_len]; omega), List.getElem?_append_right (by rw [depS_len]; omega), depS_len, depS_len]
      by_cases hq : q < ns.length
      · rw [List.getElem?_replicate, if_pos (by omega), List.getElem?_replicate, if_pos (by omega)]
      · rw [List.getElem?_eq_none (by simp; omega), List.getElem?_eq_none (by simp; omega)]
structure NRS (W : World) (D mb : Nat) (pl : Array Value) (ns : List Nd) (i : Nat) (wr : World) : Prop where
  below : Below (W.heap.size + 1) (W.alloc (.cells pl 26)) wr
  dep : Arr wr D 3 (dpV ns i)
  map : ∃ f, MapG Tryd.prog 110 3 wr mb i f ∧ Seen ns i f
theorem MapG.step {P : Program} {k e : TypeId} {w w' : World} {b N : Nat} {f : Value → Option Int} (h : MapG P k e w b N f) (hb : Below w.heap.size w w') : MapG P k e w' b N f := h.of_block (hb.block b h.lt)
theorem NRS.step {W : World} {D mb : Nat} {pl : Array Value} {ns : List Nd} {i : Nat} {wr wr' : World} (h : NRS W D mb pl ns i wr) (hb : Below wr.heap.size wr wr') : NRS W D mb pl ns i wr' := by
  obtain ⟨f, h1, h2⟩ := h.map
  exact ⟨box_step h.below hb, h.dep.step hb, f, h1.step hb, h2⟩
theorem Arr.far {w : World} {D mb N : Nat} {e k e' : TypeId} {xs : List Value} {P : Program} {f : Value → Option Int} (h : Arr w D e xs) (hm : MapG P k e' w mb N f) : D ≠ mb := by
  rintro rfl
  obtain ⟨_, _, cur, hc⟩ := ownBlock_cells h (b := D) rfl
  obtain ⟨es, c, ho⟩ := hm.obj
  rw [hc] at ho
  cases ho
/-- Behind a round: the depth is stored; the key, too. -/
theorem NRS.put {W : World} {D mb : Nat} {pl : Array Value} {ns : List Nd} {i : Nat} {wr : World} (h : NRS W D mb pl ns i wr) (hD : W.heap.size + 1 ≤ D) (hi : i < ns.length) :
    ∃ f, Below (W.heap.size + 1) (W.alloc (.cells pl 26)) (wr.setCell ⟨D, i, none⟩ (.int .i64 (depOf ns i : Int))) ∧ Arr (wr.setCell ⟨D, i, none⟩ (.int .i64 (depOf ns i : Int))) D 3 (dpV ns (i + 1)) ∧
      MapG Tryd.prog 110 3 (wr.setCell ⟨D, i, none⟩ (.int .i64 (depOf ns i : Int))) mb i f ∧ Seen ns i f ∧ Turns [D] wr (wr.setCell ⟨D, i, none⟩ (.int .i64 (depOf ns i : Int))) := by
  obtain ⟨f, h1, h2⟩ := h.map
  obtain ⟨p1, p2⟩ := h.dep.put i (.int .i64 (depOf ns i : Int))
  rw [← dpV_next ns hi] at p1
  have hs := h.below.size
  simp at hs
  exact ⟨f, h.below.trans (p2.below (by omega) (fun x hx => by rw [List.mem_singleton.1 hx]; exact hD)), p1, h1.of_block (p2.block mb h1.lt (by simpa using (h.dep.far h1).symm)), h2, p2⟩
end Go.Proofs.YtonkbjdeaneicaaDoor

namespace Go.Proofs.YtonkbjdeaneicaaDoor.Pln
open Classical

theorem linksK_pre (args : List Slt) (w : Int) (i : Nat) : ∀ d, ∃ r, linksK args w (i + d) = linksK args w i ++ r
  | 0 => ⟨[], by simp⟩
  | d + 1 => by
    obtain ⟨r, h⟩ := linksK_pre args w i d
    exact ⟨r ++ linkAt args w (i + d), by rw [← Nat.add_assoc, linksK_succ, h, List.append_assoc]⟩
theorem newK_pre (args : List Slt) (w : Int) (i : Nat) : ∀ d, ∃ r, newK args w (i + d) = newK args w i ++ r
  | 0 => ⟨[], by simp⟩
  | d + 1 => by
    obtain ⟨r, h⟩ := newK_pre args w i d
    exact ⟨r ++ newAt args w (i + d), by rw [← Nat.add_assoc, newK_succ, h, List.append_assoc]⟩
theorem linksK_at {args : List Slt} {w : Int} {i k : Nat} {x : Int × Int} (h : linkAt args w i = [x]) (hk : i < k) : (linksK args w k)[(linksK args w i).length]? = some x := by
  obtain ⟨r, hr⟩ := linksK_pre args w (i + 1) (k - (i + 1))
  rw [show i + 1 + (k - (i + 1)) = k by omega, linksK_succ, h, List.append_assoc] at hr
  rw [hr, List.getElem?_append_right (Nat.le_refl _), Nat.sub_self]
  rfl
theorem newK_at {args : List Slt} {w : Int} {i k : Nat} {x : Int} (h : newAt args w i = [x]) (hk : i < k) : (newK args w k)[(newK args w i).length]? = some x := by
  obtain ⟨r, hr⟩ := newK_pre args w (i + 1) (k - (i + 1))
  rw [show i + 1 + (k - (i + 1)) = k by omega, newK_succ, h, List.append_assoc] at hr
  rw [hr, List.getElem?_append_right (Nat.le_refl _), Nat.sub_self]
  rfl
theorem linkAt_one (args : List Slt) (w : Int) (i : Nat) : (linkAt args w i).length ≤ 1 := by
  unfold linkAt
  split
  · split <;> simp
  · simp
theorem newAt_one (args : List Slt) (w : Int) (i : Nat) : (newAt args w i).length ≤ 1 := by
  unfold newAt
  split
  · split <;> simp
  · simp
theorem linksK_le (args : List Slt) (w : Int) : ∀ k, (linksK args w k).length ≤ k
  | 0 => by simp [linksK_zero]
  | k + 1 => by
    rw [linksK_succ, List.length_append]
    have h1 := linksK_le args w k
    have h2 := linkAt_one args w k
    omega
theorem newK_le (args : List Slt) (w : Int) : ∀ k, (newK args w k).length ≤ k
  | 0 => by simp [newK_zero]
  | k + 1 => by
    rw [newK_succ, List.length_append]
    have h1 := newK_le args w k
    have h2 := newAt_one args w k
    omega
section
variable {args : List Slt} {w : Nat} {i : Nat} {s : Slt}
/-- A constant's place. -/
theorem place_const (h : args[i]? = some s) (hv : s.v = false) : cellF args s = s.n ∧ linkAt args w i = [] ∧ newAt args w i = [] := by
  refine ⟨by unfold cellF; rw [hv]; rfl, ?_, ?_⟩
  · unfold linkAt; simp only [h]; rw [if_neg (by rw [hv]; intro h; exact absurd h.1 (by decide))]
  · unfold newAt; simp only [h]; rw [if_neg (by rw [hv]; intro h; exact absurd h.1 (by decide))]
/-- A variable's place. -/
theorem place_var (h : args[i]? = some s) (hv : s.v = true) : cellF args s = -1 - (firstV args s.n : Int) ∧ firstV args s.n ≤ i ∧ args[firstV args s.n]? = some s := by
  have hle := firstV_le h hv
  refine ⟨by unfold cellF; rw [hv]; rfl, hle, ?_⟩
  rw [firstV_at (Nat.lt_of_le_of_lt hle (List.getElem?_eq_some_iff.1 h).1), ← slt_var hv]
theorem place_again (h : args[i]? = some s) (hj : firstV args s.n < i) : linkAt args w i = [] ∧ newAt args w i = [] := by
  refine ⟨?_, ?_⟩
  · unfold linkAt; simp only [h]; rw [if_neg (by intro h; have := h.2.1; omega)]
  · unfold newAt; simp only [h]; rw [if_neg (by intro h; have := h.2.1; omega)]
theorem place_first (h : args[i]? = some s) (hv : s.v = true) (hj : firstV args s.n = i) : ∀ k, k < i → ∀ t, args[k]? = some t → t ≠ s := by
  intro k hk t ht e
  subst e
  refine firstV_first k (by rw [hj]; exact hk) ?_
  rw [ht]
  exact congrArg some (slt_var hv)
theorem place_link (h : args[i]? = some s) (hv : s.v = true) (hj : firstV args s.n = i) (hw : s.n < (w : Int)) : linkAt args w i = [((i : Int), s.n)] ∧ newAt args w i = [] := by
  refine ⟨?_, ?_⟩
  · unfold linkAt; simp only [h]; rw [if_pos ⟨hv, hj, hw⟩]
  · unfold newAt; simp only [h]; rw [if_neg (by intro h; exact h.2.2 hw)]
theorem place_new (ok : okA args w) (h : args[i]? = some s) (hv : s.v = true) (hj : firstV args s.n = i) (hw : ¬ s.n < (w : Int)) : linkAt args w i = [] ∧ newAt args w i = [(i : Int)] ∧ s.n = (w : Int) + (newK args w i).length := by
  refine ⟨?_, ?_, ?_⟩
  · unfold linkAt; simp only [h]; rw [if_neg (by intro h; exact hw h.2.2)]
  · unfold newAt; simp only [h]; rw [if_pos ⟨hv, hj, hw⟩]
  · rw [fresh_at ok h hv hj hw]
    have := new_count ok i (Nat.le_of_lt (List.getElem?_eq_some_iff.1 h).1)
    omega
end
end Go.Proofs.YtonkbjdeaneicaaDoor.Pln
