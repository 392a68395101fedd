/- nodesRight: what it looks for; its state. -/
import Derived.Test.YtonkbjdeaneicaaChkN
import Derived.Test.YtonkbjdeaneicaaChkA
import Derived.Test.YtonkbjdeaneicaaWay
namespace Go.Proofs.Ytonkbjdeaneicaa.Pln
open Classical

/-- How deep the first nodes lie. -/
def depS (ns : List Nd) : Nat → List Nat
  | 0 => []
  | k + 1 => depS ns k ++ [if k = 0 then 0 else (depS ns k).getD (parentOf ns k) 0 + 1]
theorem depS_len (ns : List Nd) : ∀ k, (depS ns k).length = k
  | 0 => rfl
  | k + 1 => by simp [depS, depS_len ns k]
def depOf (ns : List Nd) (i : Nat) : Nat := (depS ns (i + 1)).getD i 0
theorem depS_at (ns : List Nd) (j : Nat) : ∀ d, (depS ns (j + 1 + d))[j]? = some (depOf ns j)
  | 0 => by
    unfold depOf
    have h : j < (depS ns (j + 1)).length := by rw [depS_len]; omega
    rw [List.getD_eq_getElem?_getD, List.getElem?_eq_getElem h]; rfl
  | d + 1 => by
    rw [← Nat.add_assoc]
    have := depS_at ns j d
    rw [depS, List.getElem?_append_left (by rw [depS_len]; omega)]
    exact this
theorem depOf_zero (ns : List Nd) : depOf ns 0 = 0 := rfl
theorem depOf_next {ns : List Nd} {i u : Nat} (h : parentOf ns i = u) (hu : u < i) : depOf ns i = depOf ns u + 1 := by
  have h1 := depS_at ns i 0
  have h2 := depS_at ns u (i - (u + 1))
  rw [show u + 1 + (i - (u + 1)) = i by omega] at h2
  rw [Nat.add_zero, depS, List.getElem?_append_right (by rw [depS_len]; exact Nat.le_refl _), depS_len, Nat.sub_self, if_neg (by omega), h] at h1
  simp only [List.getElem?_cons_zero, Option.some.injEq] at h1
  rw [← h1, List.getD_eq_getElem?_getD, h2]
  rfl
def nodeAt (al : List Shp) (ns : List Nd) (i : Nat) : Prop := ∀ n, ns[i]? = some n → ∃ (u : Nat) (up : Nd), n.parent = u ∧ u < i ∧ ns[u]? = some up ∧ depOf ns i ≤ 16 ∧ nodeP al n up ∧ ∀ k, 1 ≤ k → k < i → ns[k]? ≠ some n
def nodesP (al : List Shp) (ns : List Nd) : Prop := ns[0]? = some rootN ∧ ∀ i, 1 ≤ i → i < ns.length → nodeAt al ns i

theorem need_alpha {m : Nat} : ∀ (ns : List Nd) (q q' : Nat), ns.foldl (needF m) (some q) = some q' → ∀ n ∈ ns, n.kind = 1 ∨ n.kind = 3 → 0 ≤ n.alpha ∧ n.alpha < (m : Int)
  | [], _, _, _, n, hn, _ => by cases hn
  | a :: r, q, q', h, n, hn, hk => by
    rw [List.foldl_cons] at h
    cases hx : needF m (some q) a with
    | none => rw [hx, needs_none] at h; cases h
    | some b =>
      rw [hx] at h
      rcases List.mem_cons.1 hn with rfl | hn
      · unfold needF at hx
        simp only at hx
        rw [if_pos hk] at hx
        split at hx
        · rename_i hc
          exact ⟨hc.1, hc.2.2⟩
        · cases hx
      · exact need_alpha r b q' h n hn hk
/-- Out of the shapes: what a node's shape is. -/
theorem shapes_at {al : List Shp} {ns : List Nd} (h : shapesP al ns) {n : Nd} (hn : n ∈ ns) (hk : n.kind = 1 ∨ n.kind = 3) : ∃ (ai : Nat) (s : Shp), n.alpha = ai ∧ al[ai]? = some s ∧ s.cells.length ≤ 8 := by
  obtain ⟨h1, h2⟩ := need_alpha ns 0 _ h.2 n hn hk
  obtain ⟨ai, hai⟩ : ∃ ai : Nat, n.alpha = ai := ⟨n.alpha.toNat, by omega⟩
  have hl : ai < al.length := by omega
  exact ⟨ai, al[ai], hai, List.getElem?_eq_getElem hl, (h.1 ai hl _ (List.getElem?_eq_getElem hl)).2.1⟩
theorem nodeP_lens {al : List Shp} {n up : Nd} (h : nodeP al n up) (hs : n.kind = 1 ∨ n.kind = 3 → ∃ (ai : Nat) (s : Shp), n.alpha = ai ∧ al[ai]? = some s ∧ s.cells.length ≤ 8) : n.links.length ≤ 8 ∧ n.new.length ≤ 8 := by
  have key : placesN al n up.width → (n.kind = 1 ∨ n.kind = 3) → n.links.length ≤ 8 ∧ n.new.length ≤ 8 := by
    intro hp hk
    obtain ⟨ai, s, h1, h2, h3⟩ := hs hk
    rw [placesN_iff h1 h2] at hp
    have := links_len hp.2.1
    have := new_len hp.2.2.1
    omega
  rcases h with ⟨h1, _, h2⟩ | ⟨h1, _, h2⟩ | ⟨_, h2⟩
  · exact key h2 (.inl h1)
  · exact key h2 (.inr h1)
  · rw [h2.2.2.1, h2.2.2.2.1]; simp
theorem nodeP_width {al : List Shp} {n up : Nd} {w : Nat} (h : nodeP al n up) (hw : up.width = (w : Int)) (h16 : w ≤ 16) : ∃ w' : Nat, w' ≤ 16 ∧ n.width = (w' : Int) := by
  have key : placesN al n up.width → ∃ w' : Nat, w' ≤ 16 ∧ n.width = (w' : Int) := by
    rintro ⟨ai, s, _, _, hp⟩
    obtain ⟨⟨_, h1, h2⟩, _⟩ := hp
    exact ⟨w + n.new.length, by omega, by omega⟩
  rcases h with ⟨_, _, h2⟩ | ⟨_, _, h2⟩ | ⟨_, h2⟩
  · exact key h2
  · exact key h2
  · exact ⟨w, h16, by rw [h2.2.2.2.2.1, hw]⟩
end Go.Proofs.Ytonkbjdeaneicaa.Pln
namespace Go.Proofs.Ytonkbjdeaneicaa
open Go.RowKit Pln Classical Go.Maps

theorem RSl.mem {α : Type} {F : Nat → Prop} {w : World} {sz : Nat} {E : List Value → α → Prop} {v : Value} {xs : List α} (h : RSl F w sz E v xs) {x : α} (hx : x ∈ xs) : ∃ cs, E cs x := by
  obtain ⟨A, c, rfl⟩ := h.form
  obtain ⟨i, hi, rfl⟩ := List.getElem_of_mem hx
  obtain ⟨_, _, _, _, _, cs, hE, _⟩ := RSl.at h (List.getElem?_eq_getElem hi)
  exact ⟨cs, hE⟩
theorem ndOk_of {F : Nat → Prop} {w : World} {cs : List Value} {n : Nd} {lv mv : Value} (h : ENd F w cs n lv mv) (h1 : n.links.length ≤ 8) (h2 : n.new.length ≤ 8) : NdOk n :=
  ⟨h.ok, fun l hl => by obtain ⟨_, _, a, b⟩ := h.links.mem hl; exact ⟨a, b⟩, fun x hx => by obtain ⟨_, _, a⟩ := h.new.mem hx; exact a, h1, h2⟩
/-- What has been seen. -/
def Seen (ns : List Nd) (i : Nat) (f : Value → Option Int) : Prop := ∀ n, NdOk n → (f (.agg (askA n)) ≠ none ↔ ∃ k, 1 ≤ k ∧ k < i ∧ ns[k]? = some n)
theorem seen_start (ns : List Nd) : Seen ns 1 (fun _ => none) := fun n _ => ⟨fun h => absurd rfl h, fun ⟨k, h1, h2, _⟩ => by omega⟩
theorem Seen.next {ns : List Nd} {i : Nat} {f : Value → Option Int} (h : Seen ns i f) (hi : 1 ≤ i) {n : Nd} (hn : ns[i]? = some n) (ok : NdOk n) (z : Int) : Seen ns (i + 1) (putG f (.agg (askA n)) z) := by
  intro m hm
  unfold putG
  by_cases e : m = n
  · subst e
    rw [if_pos rfl]
    exact ⟨fun _ => ⟨i, hi, by omega, hn⟩, fun _ => by simp⟩
  · rw [if_neg (fun he => e (agg_inj he hm.l8 hm.n8)), h m hm]
    constructor
    · rintro ⟨k, h1, h2, h3⟩
      exact ⟨k, h1, by omega, h3⟩
    · rintro ⟨k, h1, h2, h3⟩
      by_cases hk : k = i
      · subst hk
        rw [hn] at h3
        exact absurd (Option.some.inj h3).symm e
      · exact ⟨k, h1, by omega, h3⟩
def dpV (ns : List Nd) (i : Nat) : List Value := ((depS ns i ++ List.replicate (ns.length - i) 0).map fun (d : Nat) => Value.int .i64 (d : Int))
theorem dpV_len (ns : List Nd) {i : Nat} (h : i ≤ ns.length) : (dpV ns i).length = ns.length := by simp [dpV, depS_len]; omega
theorem dpV_at (ns : List Nd) {u i : Nat} (hu : u < i) : (dpV ns i)[u]? = some (.int .i64 (depOf ns u : Int)) := by
  unfold dpV
  have h2 := depS_at ns u (i - (u + 1))
  rw [show u + 1 + (i - (u + 1)) = i by omega] at h2
  rw [List.getElem?_map, List.getElem?_append_left (by rw [depS_len]; exact hu), h2]
  rfl
theorem dpV_next (ns : List Nd) {i : Nat} (h : i < ns.length) : dpV ns (i + 1) = (dpV ns i).set i (.int .i64 (depOf ns i : Int)) := by
  apply List.ext_getElem?
  intro q
  by_cases e : i = q
  · subst e
    rw [List.getElem?_set_self (by rw [dpV_len ns (by omega)]; exact h), dpV_at ns (by omega)]
  · rw [List.getElem?_set_ne e]
    rcases Nat.lt_or_ge q i with h1 | h1
    · rw [dpV_at ns h1, dpV_at ns (by omega)]
    · unfold dpV
      rw [List.getElem?_map, List.getElem?_map, List.getElem?_append_right (by rw [depS_len]; omega), List.getElem?_append_right (by rw [depS_len]; omega), depS_len, depS_len]
      by_cases hq : q < ns.length
      · rw [List.getElem?_replicate, if_pos (by omega), List.getElem?_replicate, if_pos (by omega)]
      · rw [List.getElem?_eq_none (by simp; omega), List.getElem?_eq_none (by simp; omega)]
structure NRS (W : World) (D mb : Nat) (pl : Array Value) (ns : List Nd) (i : Nat) (wr : World) : Prop where
  below : Below (W.heap.size + 1) (W.alloc (.cells pl 27)) wr
  dep : Arr wr D 3 (dpV ns i)
  map : ∃ f, MapG Try.prog 101 3 wr mb i f ∧ Seen ns i f
theorem MapG.step {P : Program} {k e : TypeId} {w w' : World} {b N : Nat} {f : Value → Option Int} (h : MapG P k e w b N f) (hb : Below w.heap.size w w') : MapG P k e w' b N f := h.of_block (hb.block b h.lt)
theorem NRS.step {W : World} {D mb : Nat} {pl : Array Value} {ns : List Nd} {i : Nat} {wr wr' : World} (h : NRS W D mb pl ns i wr) (hb : Below wr.heap.size wr wr') : NRS W D mb pl ns i wr' := by
  obtain ⟨f, h1, h2⟩ := h.map
  exact ⟨box_step h.below hb, h.dep.step hb, f, h1.step hb, h2⟩
theorem Arr.far {w : World} {D mb N : Nat} {e k e' : TypeId} {xs : List Value} {P : Program} {f : Value → Option Int} (h : Arr w D e xs) (hm : MapG P k e' w mb N f) : D ≠ mb := by
  rintro rfl
  obtain ⟨_, _, cur, hc⟩ := ownBlock_cells h (b := D) rfl
  obtain ⟨es, c, ho⟩ := hm.obj
  rw [hc] at ho
  cases ho
/-- Behind a round: the depth is stored; the key, too. -/
theorem NRS.put {W : World} {D mb : Nat} {pl : Array Value} {ns : List Nd} {i : Nat} {wr : World} (h : NRS W D mb pl ns i wr) (hD : W.heap.size + 1 ≤ D) (hi : i < ns.length) :
    ∃ f, Below (W.heap.size + 1) (W.alloc (.cells pl 27)) (wr.setCell ⟨D, i, none⟩ (.int .i64 (depOf ns i : Int))) ∧ Arr (wr.setCell ⟨D, i, none⟩ (.int .i64 (depOf ns i : Int))) D 3 (dpV ns (i + 1)) ∧
      MapG Try.prog 101 3 (wr.setCell ⟨D, i, none⟩ (.int .i64 (depOf ns i : Int))) mb i f ∧ Seen ns i f ∧ Turns [D] wr (wr.setCell ⟨D, i, none⟩ (.int .i64 (depOf ns i : Int))) := by
  obtain ⟨f, h1, h2⟩ := h.map
  obtain ⟨p1, p2⟩ := h.dep.put i (.int .i64 (depOf ns i : Int))
  rw [← dpV_next ns hi] at p1
  have hs := h.below.size
  simp at hs
  exact ⟨f, h.below.trans (p2.below (by omega) (fun x hx => by rw [List.mem_singleton.1 hx]; exact hD)), p1, h1.of_block (p2.block mb h1.lt (by simpa using (h.dep.far h1).symm)), h2, p2⟩
end Go.Proofs.Ytonkbjdeaneicaa
