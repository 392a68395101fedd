/- The sort of ids by their constants: the closure's answer, the library's call. -/
import Derived.Test.YtblonickpmogiaaIdsAllT
import Derived.Test.YtblonickpmogiaaSymSort
import Derived.Test.YtblonickpmogiaaClass
namespace Go.Proofs.Ytblonickpmogiaa
open Go.RowKit Go.Sort

theorem GrowD.cell {w w' : World} (h : GrowD w w') {a : Addr} (ha : a.block < w.heap.size) : w'.cell? a = w.cell? a := by
  obtain ⟨q, os, rfl⟩ := h
  exact cell?_grow (w.drewN q) os a ha
theorem GrowD.trans {a b c : World} (h : GrowD a b) (k : GrowD b c) : GrowD a c := by
  obtain ⟨q, os, rfl⟩ := h
  obtain ⟨r, os', rfl⟩ := k
  refine ⟨q + r, os ++ os', ?_⟩
  rw [show (grow (a.drewN q) os).drewN r = grow ((a.drewN q).drewN r) os from rfl, World.drewN_drewN, grow_grow]

set_option maxRecDepth 100000 in
set_option maxHeartbeats 4000000 in
theorem closW {W : World} {Bt g kb n kc i j : Nat} {x y : Cst} (cB : W.cell? ⟨Bt, 0, none⟩ = some (.pointer (some ⟨g, 0, none⟩))) (cg : W.cell? ⟨g, 0, none⟩ = some (.slice (some ⟨kb, 0, none⟩) n kc))
    (lB : Bt < W.heap.size) (lg : g < W.heap.size) (lk : kb < W.heap.size) (hx : CsAt W kb (i * 3) x.cells) (hy : CsAt W kb (j * 3) y.cells) (hi : i < n) (hj : j < n) :
    Calls Try.prog 84 #[.int .i64 i, .int .i64 j, .pointer (some ⟨Bt, 0, none⟩)] W fun e w' => e = .returned (.int .i64 (cmpC x y)) ∧ GrowD W w' := by
  have NE : Nonempty (Pt (GrowD W)) := ⟨⟨W, GrowD.refl W⟩⟩
  have p0 := fun p : Pt (GrowD W) => (p.property.cell (a := ⟨Bt, 0, none⟩) lB).trans cB
  have p1 := fun p : Pt (GrowD W) => (p.property.cell (a := ⟨g, 0, none⟩) lg).trans cg
  have x0 := fun p : Pt (GrowD W) => (p.property.cell (a := ⟨kb, i * 3, none⟩) lk).trans (hx 0 _ rfl)
  have x1 := fun p : Pt (GrowD W) => (p.property.cell (a := ⟨kb, i * 3 + 1, none⟩) lk).trans (hx 1 _ rfl)
  have x2 := fun p : Pt (GrowD W) => (p.property.cell (a := ⟨kb, i * 3 + 2, none⟩) lk).trans (hx 2 _ rfl)
  have y0 := fun p : Pt (GrowD W) => (p.property.cell (a := ⟨kb, j * 3, none⟩) lk).trans (hy 0 _ rfl)
  have y1 := fun p : Pt (GrowD W) => (p.property.cell (a := ⟨kb, j * 3 + 1, none⟩) lk).trans (hy 1 _ rfl)
  have y2 := fun p : Pt (GrowD W) => (p.property.cell (a := ⟨kb, j * 3 + 2, none⟩) lk).trans (hy 2 _ rfl)
  have CC := Lib.hid (fun W => cmp_g x y W)
  have h1 : (0 : Int) ≤ (i : Int) := by omega
  have h2 : (i : Int) < (n : Int) := by omega
  have h3 : (0 : Int) ≤ (j : Int) := by omega
  have h4 : (j : Int) < (n : Int) := by omega
  clear cB cg hx hy hi hj
  go_enter Try.func84, Try.ntmps84
  go_wp2
  refine wp_region_class (S := GrowD W) (GrowD.refl W).drew (by kernel_rfl) (by kernel_rfl) ?_
  repeat (go_big_quiet_step ((go_at_call 17; refine (CC.out _).mono ?_; rintro e w' ⟨rfl, hbel⟩; exact ⟨rfl, ⟨w', GrowD.trans (Pt.property _) hbel⟩, rfl⟩)))
  refine wpQuiet_nil ?_
  rintro _ ⟨⟨W2, hW⟩, rfl⟩
  have HF := Lib.hid hW
  clear hW p0 p1 x0 x1 x2 y0 y1 y2
  go_wp2
  go_ret
  exact ⟨rfl, HF.out⟩

/-- A row of numbers of the call's own. -/
def OwnN (w : World) (base : Nat) (v : Value) (l : List Nat) : Prop := w.ownsRow base 3 1 v l.length (l.map fun (i : Nat) => Value.int .i64 (i : Int))
/-- The constants' order of ids. -/
def byC (ks : List Cst) (n : Nat) (i j : Fin n) : Int := cmpC (ks.getD i.val ⟨0, 0, ⟨#[]⟩⟩) (ks.getD j.val ⟨0, 0, ⟨#[]⟩⟩)
def encN (n : Nat) (i : Fin n) : Value := .int .i64 (i.val : Int)
theorem swoN (ks : List Cst) (n : Nat) : SWO (ltOf (byC ks n)) where
  irrefl _ := swoC.irrefl _
  trans _ y _ h1 h2 := swoC.trans _ (ks.getD y.val ⟨0, 0, ⟨#[]⟩⟩) _ h1 h2
  ntrans _ y _ h1 h2 := swoC.ntrans _ (ks.getD y.val ⟨0, 0, ⟨#[]⟩⟩) _ h1 h2

/-- What the sort leaves lies as it lay, but for the row. -/
theorem sortW_block {α : Type} [Inhabited α] (enc : α → Value) (w : World) (b m : Nat) (dk : Array α) (os : Array Obj) {k : Nat} (hk : k < w.heap.size) (hne : k ≠ b) : (sortWorld enc w b 0 m dk os).heap[k]? = w.heap[k]? := by
  unfold sortWorld
  rw [heap_grow_old _ _ (by simpa using hk)]
  have : b ≠ k := fun e => hne e.symm
  simp [putRow, mapBlock, Sort.ahead, Array.getElem?_modify, this]
theorem sortW_size {α : Type} [Inhabited α] (enc : α → Value) (w : World) (b m : Nat) (dk : Array α) (os : Array Obj) : w.heap.size ≤ (sortWorld enc w b 0 m dk os).heap.size := by
  simp [sortWorld, putRow, mapBlock, Sort.ahead]

theorem ownN_block {w : World} {base g n cap : Nat} {l : List Nat} (h : OwnN w base (.slice (some ⟨g, 0, none⟩) n cap) l) : ∃ cur, w.heap[g]? = some (.cells cur 3 (0, 0)) ∧ base ≤ g ∧ n ≤ cap ∧ cap ≤ maxLen ∧ cur.size = cap ∧ n = l.length ∧ cur.toList.take l.length = l.map fun (i : Nat) => Value.int .i64 (i : Int) := by
  rcases h.2 with ⟨e, _⟩ | ⟨g', c', cur, e, hb, hg, h1, h2, h3, h4⟩
  · cases e
  · simp only [Value.slice.injEq, Option.some.injEq, Addr.mk.injEq, and_true] at e
    obtain ⟨rfl, rfl, rfl⟩ := e
    exact ⟨cur, hg, hb, h1, h2, by omega, rfl, by simpa using h4⟩
/-- The row behind the sort. -/
theorem own_sortedN {w : World} {base g n cap q : Nat} {l : List Nat} {d : Array (Fin n)} {os : Array Obj} [Inhabited (Fin n)] (h : OwnN w base (.slice (some ⟨g, 0, none⟩) n cap) l) (hd : d.size = n) :
    OwnN (sortWorld (encN n) w g 0 q d os) base (.slice (some ⟨g, 0, none⟩) n cap) (d.toList.map Fin.val) ∧ Turns [g] w (sortWorld (encN n) w g 0 q d os) := by
  obtain ⟨cur, hg, hb, h1, h2, h3, hn, h4⟩ := ownN_block h
  have hglt : g < w.heap.size := (Array.getElem?_eq_some_iff.1 hg).1
  constructor
  · refine ⟨by simp, .inr ⟨g, cap, putCells (encN n) 0 d cur, by simp [hd], hb, ?_, by simp [hd]; omega, h2, by simp [putCells, h3], ?_⟩⟩
    · unfold sortWorld
      rw [heap_grow_old _ _ (by simpa using hglt)]
      simp [putRow, mapBlock, Sort.ahead, Array.getElem?_modify, hg, onCells]
    · apply List.ext_getElem?
      intro j
      simp only [List.length_map, Array.length_toList, hd, Nat.mul_one, List.map_map]
      by_cases hj : j < n
      · have hjc : j < cur.size := by omega
        have hjd : j < d.size := by omega
        rw [List.getElem?_take_of_lt hj, Array.getElem?_toList]
        simp only [putCells, Array.getElem?_mapIdx, Array.getElem?_eq_getElem hjc, Option.map_some]
        rw [if_pos (by omega), Nat.sub_zero, getElem!_pos d j hjd, List.getElem?_map, Array.getElem?_toList, Array.getElem?_eq_getElem hjd]
        rfl
      · rw [List.getElem?_take_eq_none (by omega), List.getElem?_eq_none (by simp; omega)]
  · exact ⟨rfl, rfl, rfl, sortW_size _ _ _ _ _ _, fun k hk hne => sortW_block _ _ _ _ _ _ hk (by simpa using hne)⟩

def cst0 : Cst := ⟨0, 0, ⟨#[]⟩⟩
/-- Ids in the order of their constants. -/
def SdIds (ks : List Cst) (l : List Nat) : Prop := l.Pairwise fun i j => cmpC (ks.getD i cst0) (ks.getD j cst0) ≤ 0
theorem sorted_ids {ks : List Cst} {n : Nat} [Inhabited (Fin n)] {d' : Array (Fin n)} (hp : PermIn 0 (Array.ofFn fun i : Fin n => i).size (Array.ofFn fun i : Fin n => i) d') (hs : SortedIn (ltOf (byC ks n)) 0 (Array.ofFn fun i : Fin n => i).size d') :
    (d'.toList.map Fin.val).Perm (List.range n) ∧ SdIds ks (d'.toList.map Fin.val) ∧ d'.size = n := by
  obtain ⟨h1, _, h2⟩ := hp
  have e1 : d'.extract 0 (Array.ofFn fun i : Fin n => i).size = d' := by rw [← h1]; simp
  have e2 : (Array.ofFn fun i : Fin n => i).extract 0 (Array.ofFn fun i : Fin n => i).size = (Array.ofFn fun i : Fin n => i) := by simp
  rw [e1, e2] at h2
  have hsz : d'.size = n := by rw [h1]; simp
  refine ⟨?_, ?_, hsz⟩
  · have := h2.map Fin.val
    refine this.trans (List.Perm.of_eq ?_)
    apply List.ext_getElem
    · simp
    · intro i h1 h2
      simp
  · unfold SdIds
    rw [List.pairwise_map, List.pairwise_iff_getElem]
    intro i j hi hj hij
    have hi' : i < d'.size := by simpa using hi
    have hj' : j < d'.size := by simpa using hj
    have := hs i j (Nat.zero_le _) hij (by simp; omega)
    rw [getElem!_pos d' i hi', getElem!_pos d' j hj'] at this
    have this := of_decide_eq_false this
    unfold byC at this
    have e := cmpC_neg (ks.getD d'[i].val cst0) (ks.getD d'[j].val cst0)
    simp only [Array.getElem_toList]
    unfold cst0 at e ⊢
    omega

theorem sortIds_call {w : World} {base b n cap Bt g kb kc : Nat} {ks : List Cst} (hks : ks.length = n) (hn : 0 < n) (h : OwnN w base (.slice (some ⟨b, 0, none⟩) n cap) (List.range n)) (cB : w.cell? ⟨Bt, 0, none⟩ = some (.pointer (some ⟨g, 0, none⟩))) (cg : w.cell? ⟨g, 0, none⟩ = some (.slice (some ⟨kb, 0, none⟩) n kc))
    (hk : ∀ i c, ks[i]? = some c → CsAt w kb (i * 3) c.cells) (lB : Bt < w.heap.size) (lg : g < w.heap.size) (lk : kb < w.heap.size) (nB : Bt ≠ b) (ng : g ≠ b) (nk : kb ≠ b) (hlen : n < 4611686018427387904) :
    Calls Try.prog 83 #[.slice (some ⟨b, 0, none⟩) n cap, .func (.func 84) #[] #[.pointer (some ⟨Bt, 0, none⟩)]] w fun e w' => e = .returned (.tuple #[]) ∧ ∃ l : List Nat, l.Perm (List.range n) ∧ SdIds ks l ∧ OwnN w' base (.slice (some ⟨b, 0, none⟩) n cap) l ∧ Turns [b] w w' := by
  have : Inhabited (Fin n) := ⟨⟨0, hn⟩⟩
  have eg : ∀ args w, (callFunc 84 args).run Try.prog w = .ok (.enter 84 args) w := enters_of Try.func84 (by kernel_rfl) rfl
  have hsz : (Array.ofFn fun i : Fin n => i).size = n := by simp
  obtain ⟨cur, hg, _⟩ := ownN_block h
  have hglt : b < w.heap.size := (Array.getElem?_eq_some_iff.1 hg).1
  have hH : Holds (encN n) w b 0 (Array.ofFn fun i : Fin n => i) := by
    intro j hj
    rw [hsz] at hj
    have h2 : w.ownsRow base 3 1 (.slice (some ⟨b, 0, none⟩) n cap) n ((List.range n).map fun (i : Nat) => Value.int .i64 (i : Int)) := by simpa [OwnN] using h
    rw [Nat.zero_add, getElem!_pos _ j (by rw [hsz]; exact hj)]
    refine ⟨?_, h2.frozenAt j⟩
    rw [h2.cellAt j (by omega)]
    simp [hj, encN]
  have hC : CmpLays1 Try.prog 84 #[.pointer (some ⟨Bt, 0, none⟩)] (encN n) (byC ks n) b 0 (Array.ofFn fun i : Fin n => i).size w := by
    intro m os dk _ x y
    have keep : ∀ (k o : Nat), k < w.heap.size → k ≠ b → (sortWorld (encN n) w b 0 m dk os).cell? ⟨k, o, none⟩ = w.cell? ⟨k, o, none⟩ := fun k o h1 h2 => World.cell?_of_block (a := ⟨k, o, none⟩) (sortW_block _ _ _ _ _ _ h1 h2)
    have hz := sortW_size (encN n) w b m dk os
    have gx : ks[x.val]? = some (ks.getD x.val cst0) := by rw [List.getD_eq_getElem?_getD, List.getElem?_eq_getElem (by omega)]; rfl
    have gy : ks[y.val]? = some (ks.getD y.val cst0) := by rw [List.getD_eq_getElem?_getD, List.getElem?_eq_getElem (by omega)]; rfl
    exact closW ((keep Bt 0 lB nB).trans cB) ((keep g 0 lg ng).trans cg) (by omega) (by omega) (by omega) (fun j u hu => (keep kb _ lk nk).trans (hk _ _ gx j u hu)) (fun j u hu => (keep kb _ lk nk).trans (hk _ _ gy j u hu)) x.isLt y.isLt
  have hcon := Any.slices_SortFunc Ytblonickpmogiaa.sortI (encN n) (fun _ => rfl) (byC ks n) (swoN ks n) 84 #[.pointer (some ⟨Bt, 0, none⟩)] b 0 cap (Array.ofFn fun i : Fin n => i) w eg hC hH hglt (by rw [hsz]; exact hlen)
  change Calls Try.prog 83 _ _ _ at hcon
  rw [hsz] at hcon
  refine hcon.mono ?_
  rintro e w' ⟨rfl, d', q, os, hp, hs, rfl⟩
  obtain ⟨q1, q2, q3⟩ := sorted_ids (by rw [hsz]; exact hp) (by rw [hsz]; exact hs)
  obtain ⟨r1, r2⟩ := own_sortedN (q := q) (os := os) h q3
  exact ⟨rfl, _, q1, q2, r1, r2⟩
end Go.Proofs.Ytblonickpmogiaa
