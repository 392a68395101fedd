/- lists: rows of acts that are written full of a mark, and grown. lists: do no two of these lists, nor any two of their acts, share memory? The walk. within: its state. Pieces of rows; rows of two acts. -/
import Derived.Test.YtjgigcnjgblekaaDoorKaq25
import Derived.Test.YtjgigcnjgblekaaDoorKaq29
namespace Go.Proofs.YtjgigcnjgblekaaDoor
open Go Go.RowKit Go.Maps Classical

def mkR (k : Nat) : Int := -100 - (k : Int)
/-- The cells of a row whose first m acts bear the mark. -/
def RkC (k m n : Nat) (cs : List Value) : Prop := cs.length = n * 2 ∧ ∀ i, i < m → cs[i * 2]? = some (.int .i64 (mkR k))
/-- Where the rows lie. -/
structure LoOk (K : Nat) (lo : Nat → Nat) (rv : Nat → Value) (S : List Nat) (w : World) : Prop where
  hi : ∀ k, k < K → ∀ b, (rv k).ownBlock = some b → b < lo (k + 1) ∧ b ∈ S
  mono : ∀ i j, i ≤ j → lo i ≤ lo j
  top : lo K ≤ w.heap.size
structure RwSt (K : Nat) (lo : Nat → Nat) (rv : Nat → Value) (n : Nat → Nat) (S : List Nat) (w wr : World) (mk : Nat → Nat) : Prop where
  row : ∀ k, k < K → ∃ cs, RkC k (mk k) (n k) cs ∧ wr.ownsRow (lo k) 30 2 (rv k) (n k) cs
  L : LoOk K lo rv S w
  T : Turns S w wr
section
variable {K : Nat} {lo : Nat → Nat} {rv : Nat → Value} {n mk : Nat → Nat} {S : List Nat} {w wr w3 : World} {k i : Nat}
theorem LoOk.ne (h : LoOk K lo rv S w) {j k g b : Nat} (hj : j < K) (hk : k < K) (hjk : j ≠ k) (h1 : (rv j).ownBlock = some g) (h2 : (rv k).ownBlock = some b) (hl1 : lo j ≤ g) (hl2 : lo k ≤ b) : g ≠ b := by
  have a1 := (h.hi j hj g h1).1
  have a2 := (h.hi k hk b h2).1
  rcases Nat.lt_or_ge j k with x | x
  · have := h.mono (j + 1) k x; omega
  · have := h.mono (k + 1) j (by omega); omega
theorem LoOk.lt (h : LoOk K lo rv S w) (hk : k < K) {b : Nat} (h1 : (rv k).ownBlock = some b) : b < w.heap.size := by
  have a1 := (h.hi k hk b h1).1
  have := h.mono (k + 1) K hk
  have := h.top
  omega
theorem own_hd {B cnt : Nat} {v : Value} {cs : List Value} (h : wr.ownsRow B 30 2 v cnt cs) (hi : i < cnt) : ∃ g c u, v = .slice (some ⟨g, 0, none⟩) cnt c ∧ B ≤ g ∧ g < wr.heap.size ∧ cs[i * 2]? = some u ∧ wr.cell? ⟨g, i * 2, none⟩ = some u ∧ wr.frozen? ⟨g, i * 2, none⟩ = false := by
  have hl := h.1
  rcases h.2 with ⟨_, h0⟩ | ⟨g, cap, cur, h', hb, hh, _⟩
  · omega
  · subst h'
    have hlt : i * 2 < cs.length := by omega
    refine ⟨g, cap, cs[i * 2], rfl, hb, (Array.getElem?_eq_some_iff.1 hh).1, List.getElem?_eq_getElem hlt, ?_, frozen_of_row _ _ _ _ _ hh⟩
    rw [World.ownsRow.cellAt h (i * 2) (by omega), List.getElem?_eq_getElem hlt]
theorem RwSt.hd (h : RwSt K lo rv n S w wr mk) (hk : k < K) (hi : i < n k) : ∃ g c u, rv k = .slice (some ⟨g, 0, none⟩) (n k) c ∧ wr.cell? ⟨g, i * 2, none⟩ = some u ∧ wr.frozen? ⟨g, i * 2, none⟩ = false := by
  obtain ⟨cs, _, ho⟩ := h.row k hk
  obtain ⟨g, c, u, h1, _, _, _, h2, h3⟩ := own_hd ho hi
  exact ⟨g, c, u, h1, h2, h3⟩
theorem RwSt.form (h : RwSt K lo rv n S w wr mk) (hk : k < K) : ∃ A c, rv k = .slice A (n k) c := by
  obtain ⟨cs, _, ho⟩ := h.row k hk
  exact own_form1 ho
theorem RwSt.write (h : RwSt K lo rv n S w wr mk) (hk : k < K) (hm : mk k = i) (hi : i < n k) {g c : Nat} (hv : rv k = .slice (some ⟨g, 0, none⟩) (n k) c) : RwSt K lo rv n S w (wr.setCell ⟨g, i * 2, none⟩ (.int .i64 (mkR k))) (upd mk k (i + 1)) := by
  have hg : (rv k).ownBlock = some g := by rw [hv]; rfl
  have T2 : Turns [g] wr (wr.setCell ⟨g, i * 2, none⟩ (.int .i64 (mkR k))) := (Turns.refl _ _).setCell (.inl (by simp)) _
  obtain ⟨cs, hc, ho⟩ := h.row k hk
  have hgl := (ownBlock_cells ho hg).1
  refine ⟨fun q hq => ?_, h.L, h.T.trans T2 (fun x hx => .inl (by rw [List.mem_singleton.1 hx]; exact (h.L.hi k hk g hg).2))⟩
  by_cases e : q = k
  · subst e
    rw [upd_same]
    refine ⟨cs.set (i * 2) (.int .i64 (mkR q)), ⟨by rw [List.length_set]; exact hc.1, fun j hj => ?_⟩, ?_⟩
    · by_cases ej : j = i
      · subst ej
        rw [List.getElem?_set_self (by rw [hc.1]; omega)]
      · rw [List.getElem?_set_ne (by omega)]
        exact hc.2 j (by omega)
    · rw [hv] at ho ⊢
      exact (World.ownsRow.stored ho (i * 2) (.int .i64 (mkR q))).1
  · rw [upd_ne e]
    obtain ⟨cs', hc', ho'⟩ := h.row q hq
    exact ⟨cs', hc', ownsRow_turns ho' T2 (fun b hb hx => by
      rw [List.mem_singleton.1 hx] at hb
      exact h.L.ne hq hk e hb hg (ownBlock_cells ho' hb).1 hgl rfl)⟩
end
/-- Rows grown: kn of them, kr laid in a row of headers. -/
structure MoSt (K : Nat) (lo : Nat → Nat) (rv : Nat → Value) (n : Nat → Nat) (S : List Nat) (w wr : World) (kn kr : Nat) (mv : Nat → Value) (vm : Value) : Prop where
  old : ∀ k, k < K → ∀ i, i < n k → ∃ g c, rv k = .slice (some ⟨g, 0, none⟩) (n k) c ∧ wr.cell? ⟨g, i * 2, none⟩ = some (.int .i64 (mkR k)) ∧ g < wr.heap.size
  rest : ∀ k, kn ≤ k → k < K → ∃ cs, RkC k (n k) (n k) cs ∧ wr.ownsRow (lo k) 30 2 (rv k) (n k) cs
  new : ∀ k, k < kn → ∃ g c, mv k = .slice (some ⟨g, 0, none⟩) (n k + 1) c ∧ (∀ i, i < n k + 1 → wr.cell? ⟨g, i * 2, none⟩ = some (.int .i64 (mkR k))) ∧ ((rv k).ownBlock = some g ∧ lo k ≤ g ∨ w.heap.size ≤ g) ∧ vm.ownBlock ≠ some g ∧ g < wr.heap.size
  row : wr.ownsRow w.heap.size 23 1 vm kr ((List.range kr).map mv)
  L : LoOk K lo rv S w
  T : Turns S w wr
section
variable {K : Nat} {lo : Nat → Nat} {rv : Nat → Value} {n mk : Nat → Nat} {S : List Nat} {w wr w1 w2 w3 : World} {k kn kr i : Nat} {mv : Nat → Value} {vm : Value}
theorem RwSt.mo (h : RwSt K lo rv n S w wr mk) (hm : ∀ k, k < K → mk k = n k) : MoSt K lo rv n S w wr 0 0 (fun _ => .slice none 0 0) (.slice none 0 0) := by
  refine ⟨fun k hk i hi => ?_, fun k _ hk => ?_, fun k hk => by omega, World.ownsRow_nil _ _ _ _, h.L, h.T⟩
  · obtain ⟨cs, hc, ho⟩ := h.row k hk
    obtain ⟨g, c, u, h1, _, hl, h2, h3, _⟩ := own_hd ho hi
    rw [hc.2 i (by rw [hm k hk]; exact hi)] at h2
    exact ⟨g, c, h1, by rw [h3, ← h2], hl⟩
  · obtain ⟨cs, hc, ho⟩ := h.row k hk
    rw [hm k hk] at hc
    exact ⟨cs, hc, ho⟩
theorem MoSt.below (h : MoSt K lo rv n S w wr kn kr mv vm) (hb : Below wr.heap.size wr w3) : MoSt K lo rv n S w w3 kn kr mv vm := by
  refine ⟨fun k hk i hi => ?_, fun k hk hk2 => ?_, fun k hk => ?_, ownsRow_turns h.row (Turns.of_below (S := []) hb) (fun _ _ => by simp), h.L, h.T.trans (Turns.of_below (S := []) hb) (fun x hx => by simp at hx)⟩
  · obtain ⟨g, c, h1, h2, h3⟩ := h.old k hk i hi
    exact ⟨g, c, h1, (hb.cell (p := ⟨g, i * 2, none⟩) h3).trans h2, Nat.lt_of_lt_of_le h3 hb.size⟩
  · obtain ⟨cs, hc, ho⟩ := h.rest k hk hk2
    exact ⟨cs, hc, ownsRow_turns ho (Turns.of_below (S := []) hb) (fun _ _ => by simp)⟩
  · obtain ⟨g, c, h1, h2, h3, h4, h5⟩ := h.new k hk
    exact ⟨g, c, h1, fun i hi => (hb.cell (p := ⟨g, i * 2, none⟩) h5).trans (h2 i hi), h3, h4, Nat.lt_of_lt_of_le h5 hb.size⟩
/-- The next row grew. -/
theorem MoSt.grow (h : MoSt K lo rv n S w wr k k mv vm) (hk : k < K) {g c : Nat} {cs : List Value} {u : Value} (hc : RkC k (n k) (n k) cs) (T : Turns (rv k).ownBlock.toList wr w2)
    (ho : w2.ownsRow (lo k) 30 2 (.slice (some ⟨g, 0, none⟩) (n k + 1) c) (n k + 1) (cs ++ [.int .i64 (mkR k), u])) (hat : (rv k).ownBlock = some g ∨ wr.heap.size ≤ g ∧ Turns [] wr w2) (hg2 : g < w2.heap.size) :
    MoSt K lo rv n S w w2 (k + 1) k (upd mv k (.slice (some ⟨g, 0, none⟩) (n k + 1) c)) vm := by
  have hm : ∀ {b : Nat}, b ∈ (rv k).ownBlock.toList → (rv k).ownBlock = some b := fun hb => by simpa using hb
  obtain ⟨cs0, hc0, ho0⟩ := h.rest k (Nat.le_refl _) hk
  have hlo : ∀ b, (rv k).ownBlock = some b → lo k ≤ b := fun b hb => (ownBlock_cells ho0 hb).1
  have hvm : ∀ b, vm.ownBlock = some b → w.heap.size ≤ b ∧ b < wr.heap.size := fun b hb => ⟨(ownBlock_cells h.row hb).1, (ownBlock_cells h.row hb).2.1⟩
  have hnew : ∀ i, i < n k + 1 → w2.cell? ⟨g, i * 2, none⟩ = some (.int .i64 (mkR k)) := fun i hi => by
    rw [World.ownsRow.cellAt ho (i * 2) (by omega)]
    rcases Nat.lt_or_ge i (n k) with hi2 | hi2
    · rw [List.getElem?_append_left (by rw [hc.1]; omega), hc.2 i hi2]
    · obtain rfl : i = n k := by omega
      rw [List.getElem?_append_right (by rw [hc.1]; exact Nat.le_refl _), hc.1, Nat.sub_self]; rfl
  refine ⟨fun q hq i hi => ?_, fun q hq hq2 => ?_, fun q hq => ?_, ?_, h.L, h.T.trans T (fun x hx => .inl (h.L.hi k hk x (hm hx)).2)⟩
  · obtain ⟨g1, c1, h1, h2, h3⟩ := h.old q hq i hi
    refine ⟨g1, c1, h1, ?_, Nat.lt_of_lt_of_le h3 T.size⟩
    by_cases e : q = k
    · subst e
      rcases hat with ha | ⟨ha, T0⟩
      · rw [h1] at ha
        have e2 : g1 = g := by simpa [Value.ownBlock] using ha
        subst e2
        exact hnew i (by omega)
      · exact (T0.cell (b := g1) (o := i * 2) h3 (by simp)).trans h2
    · refine (T.cell (b := g1) (o := i * 2) h3 (fun hx => ?_)).trans h2
      have e1 : (rv q).ownBlock = some g1 := by rw [h1]; rfl
      have hx2 := hm hx
      rcases Nat.lt_or_ge q k with hlt | hge
      · have := (h.L.hi q hq g1 e1).1
        have := h.L.mono (q + 1) k hlt
        have := hlo g1 hx2
        omega
      · obtain ⟨cs1, _, ho1⟩ := h.rest q hge hq
        exact h.L.ne hq hk e e1 hx2 (ownBlock_cells ho1 e1).1 (hlo _ hx2) rfl
  · obtain ⟨cs1, hc1, ho1⟩ := h.rest q (by omega) hq2
    exact ⟨cs1, hc1, ownsRow_turns ho1 T (fun b hb hx => h.L.ne hq2 hk (by omega) hb (hm hx) (ownBlock_cells ho1 hb).1 (hlo _ (hm hx)) rfl)⟩
  · by_cases e : q = k
    · subst e
      rw [upd_same]
      refine ⟨g, c, rfl, hnew, ?_, fun hx => ?_, hg2⟩
      · rcases hat with ha | ha
        · exact .inl ⟨ha, hlo _ ha⟩
        · exact .inr (Nat.le_trans h.T.size ha.1)
      · have := hvm g hx
        rcases hat with ha | ha
        · have := h.L.lt hk ha; omega
        · have := ha.1; omega
    · rw [upd_ne e]
      obtain ⟨g1, c1, h1, h2, h3, h4, h5⟩ := h.new q (by omega)
      refine ⟨g1, c1, h1, fun i hi => (T.cell (b := g1) (o := i * 2) h5 (fun hx => ?_)).trans (h2 i hi), h3, h4, Nat.lt_of_lt_of_le h5 T.size⟩
      have hx2 := hm hx
      rcases h3 with ⟨h3, h3l⟩ | h3
      · exact h.L.ne (by omega) hk e h3 hx2 h3l (hlo _ hx2) rfl
      · have := h.L.lt hk hx2
        omega
  · rw [show (List.range k).map (upd mv k (.slice (some ⟨g, 0, none⟩) (n k + 1) c)) = (List.range k).map mv from List.map_congr_left (fun q hq => upd_ne (by have := List.mem_range.1 hq; omega))]
    exact ownsRow_turns h.row T (fun b hb hx => by
      have := hvm b hb
      have := h.L.lt hk (hm hx)
      omega)
/-- Its header is laid behind the others. -/
theorem MoSt.push (h : MoSt K lo rv n S w wr (k + 1) k mv vm) (hk : k < K) (T : Turns vm.ownBlock.toList wr w2) {g c : Nat}
    (ho : w2.ownsRow w.heap.size 23 1 (.slice (some ⟨g, 0, none⟩) (k + 1) c) (k + 1) ((List.range k).map mv ++ [mv k])) (hat : vm.ownBlock = some g ∨ wr.heap.size ≤ g) : MoSt K lo rv n S w w2 (k + 1) (k + 1) mv (.slice (some ⟨g, 0, none⟩) (k + 1) c) := by
  have hm : ∀ {b : Nat}, b ∈ vm.ownBlock.toList → vm.ownBlock = some b := fun hb => by simpa using hb
  have hvm : ∀ b, vm.ownBlock = some b → w.heap.size ≤ b := fun b hb => (ownBlock_cells h.row hb).1
  refine ⟨fun q hq i hi => ?_, fun q hq hq2 => ?_, fun q hq => ?_, by rw [List.range_succ, List.map_append]; exact ho, h.L, h.T.trans T (fun x hx => .inr (hvm x (hm hx)))⟩
  · obtain ⟨g1, c1, h1, h2, h3⟩ := h.old q hq i hi
    refine ⟨g1, c1, h1, (T.cell (b := g1) (o := i * 2) h3 (fun hx => ?_)).trans h2, Nat.lt_of_lt_of_le h3 T.size⟩
    have := hvm _ (hm hx)
    have := h.L.lt hq (b := g1) (by rw [h1]; rfl)
    omega
  · obtain ⟨cs1, hc1, ho1⟩ := h.rest q hq hq2
    exact ⟨cs1, hc1, ownsRow_turns ho1 T (fun b hb hx => by have := hvm _ (hm hx); have := h.L.lt hq2 hb; omega)⟩
  · obtain ⟨g1, c1, h1, h2, h3, h4, h5⟩ := h.new q hq
    refine ⟨g1, c1, h1, fun i hi => (T.cell (b := g1) (o := i * 2) h5 (fun hx => h4 (hm hx))).trans (h2 i hi), h3, fun hx => ?_, Nat.lt_of_lt_of_le h5 T.size⟩
    have e : g = g1 := by simpa [Value.ownBlock] using hx
    subst e
    rcases hat with ha | ha
    · exact h4 ha
    · omega
/-- What is read. -/
theorem MoSt.hdr (h : MoSt K lo rv n S w wr kn kr mv vm) (hm : k < kr) : ∃ gs cap, vm = .slice (some ⟨gs, 0, none⟩) kr cap ∧ wr.cell? ⟨gs, k, none⟩ = some (mv k) := by
  rcases h.row.2 with ⟨_, h0⟩ | ⟨g, cap, cur, h', _, hh, _⟩
  · omega
  · have ho := h.row
    subst h'
    refine ⟨g, cap, rfl, ?_⟩
    rw [World.ownsRow.cellAt ho k (by omega)]
    simp [hm]
end
def rwB (K : Nat) (rv : Nat → Value) : List Nat := (List.range K).flatMap fun k => (rv k).ownBlock.toList
/-- The rows, behind separate. -/
theorem LsOk.rw {K : Nat} {lo : Nat → Nat} {w w' : World} {rv : Nat → Value} {zz : Nat → List (Ac × Value)} (h : LsOk K lo w rv zz) (T : Turns ((cat zz K).flatMap fun z => z.2.ownBlock.toList) w w') :
    RwSt K lo rv (fun k => (zz k).length) (((cat zz K).flatMap fun z => z.2.ownBlock.toList) ++ rwB K rv) w w' (fun _ => 0) := by
  refine ⟨fun k hk => ⟨zCells (zz k), ⟨zCells_len _, fun i hi => by omega⟩, ownsRow_turns (h.zs k hk).row T (fun b hb hx => ?_)⟩, ⟨fun k hk b hb => ⟨h.rhi k hk b hb, List.mem_append_right _ (List.mem_flatMap.2 ⟨k, List.mem_range.2 hk, by simpa using hb⟩)⟩, h.mono, h.top⟩, T.mono (fun x hx => List.mem_append_left _ hx)⟩
  obtain ⟨z, hz, hzb⟩ := List.mem_flatMap.1 hx
  have hzb2 : z.2.ownBlock = some b := by simpa using hzb
  obtain ⟨i, hi, hzi⟩ := cat_mem hz
  have h1 := h.sub hi hzi hzb2
  have h2 := h.row hk hb
  by_cases e : i = k
  · subst e
    exact (h.zs i hi).ne z hzi b hzb2 hb
  · rcases Nat.lt_or_ge i k with x | x
    · have := h.mono (i + 1) k x; omega
    · have := h.mono (k + 1) i (by omega); omega
theorem infoSAct : (Tryd.prog.info? 23).map (fun i => (i.zero, i.size, i.bytes)) = some (some (.slice none 0 0), 1, 24) := by kernel_rfl
end Go.Proofs.YtjgigcnjgblekaaDoor

namespace Go.Proofs.YtjgigcnjgblekaaDoor
open Go Go.RowKit Go.Maps Classical

theorem cat_len_le {zz : Nat → List (Ac × Value)} : ∀ {K k : Nat}, k ≤ K → (cat zz k).length ≤ (cat zz K).length
  | 0, k, h => by obtain rfl : k = 0 := by omega
                  exact Nat.le_refl _
  | K + 1, k, h => by
    rcases Nat.lt_or_ge k (K + 1) with h1 | h1
    · have := cat_len_le (zz := zz) (K := K) (k := k) (by omega)
      rw [cat_succ, List.length_append]; omega
    · obtain rfl : k = K + 1 := by omega
      exact Nat.le_refl _
/-- The cells of a row of acts of the call's own, from its head. -/
theorem zs_src {B : Nat} {w : World} {A : Option Addr} {n c : Nat} {zs : List (Ac × Value)} (h : Zs B w (.slice A n c) zs) : n = zs.length ∧ (n = 0 ∨ ∃ ad, A = some ad ∧ ∀ j u, (zCells zs)[j]? = some u → w.cell? (ad.add j) = some u) := by
  rcases h.row.2 with ⟨h1, h0⟩ | ⟨g, cap, cur, h', _, hh, _⟩
  · simp only [Value.slice.injEq] at h1
    exact ⟨by omega, .inl h1.2.1⟩
  · have hr := h.row
    simp only [Value.slice.injEq] at h'
    obtain ⟨rfl, rfl, rfl⟩ := h'
    refine ⟨rfl, .inr ⟨_, rfl, fun j u hu => ?_⟩⟩
    rw [rd_add, Nat.zero_add, World.ownsRow.cellAt hr j (by have := (List.getElem?_eq_some_iff.1 hu).1; rw [zCells_len] at this; exact this)]
    exact hu
set_option maxRecDepth 100000 in
set_option maxHeartbeats 8000000 in
theorem listsW (K h : Nat) (lo : Nat → Nat) (rv : Nat → Value) (zz : Nat → List (Ac × Value)) (w : World) (hL : LsOk K lo w rv zz) (hh : ∀ k, k < K → w.cell? ⟨h, k, none⟩ = some (rv k)) (hlt : h < w.heap.size) (hlo : ∀ b, lo 0 ≤ b → b < lo K → b ≠ h) (hK : K ≤ 100) (hn : (cat zz K).length ≤ 100000) (hs : ∀ z ∈ cat zz K, z.1.sub.length ≤ 100000) :
    Calls Tryd.prog 27 #[.slice (some ⟨h, 0, none⟩) K K] w fun e w' => e = .returned (.bool true) ∧ Turns (((cat zz K).flatMap fun z => z.2.ownBlock.toList) ++ rwB K rv) w w' := by
  have HL := Lib.hid hL
  have HH := Lib.hid hh
  have HN := Lib.hid hn
  have HLT := Lib.hid hlt
  have HSS := Lib.hid hs
  have HLO := Lib.hid hlo
  have E0 := Lib.hid (Below.refl w.heap.size w)
  clear hL hh hs hlt hlo
  go_enter Tryd.func27, Tryd.ntmps27
  go_upto_region 3 with fail
  go_loopw [3, 4] (fun ov i wr => ∃ (k : Nat) (vo : Value), i = .int .i64 (k : Int) ∧ ov = vo ∧ k ≤ K ∧ wr.ownsRow w.heap.size 30 2 vo (cat zz k).length (zCells (cat zz k)) ∧ Below w.heap.size w wr) (fun _ i _ => K - (intOf i).toNat)
  case atStart => exact ⟨0, _, rfl, rfl, Nat.zero_le _, World.ownsRow_nil _ _ _ _, E0.out⟩
  case round =>
    obtain ⟨k, vo, rfl, rfl, hk, ho, hb⟩ := hrel
    have OW := Lib.hid ho
    have HB := Lib.hid hb
    obtain ⟨A5, c5, hvo⟩ := own_form1 ho
    subst hvo
    clear ho hb
    by_cases hkn : k < K
    · have hz := HL.out.below HB.out |>.zs k hkn
      obtain ⟨A6, c6, hrv⟩ := hz.form
      have x0 := ((HB.out.cell (p := ⟨h, k, none⟩) HLT.out).trans (HH.out k hkn))
      rw [hrv] at x0 hz
      have hsrc := (zs_src hz).2
      have SRC := Lib.hid hsrc
      have hle := cat_len_le (zz := zz) (show k + 1 ≤ K from hkn)
      rw [cat_succ, List.length_append] at hle
      have HLE := Lib.hid hle
      have hONE : ∀ u ∈ zCells (zz k), u.oneCell' = true := fun u hu => by
        obtain ⟨z, hzz, hu⟩ := List.mem_flatMap.1 (show u ∈ (zz k).flatMap _ from hu)
        obtain ⟨A9, c9, h9⟩ := (hz.sub z hzz).1.form
        rw [h9] at hu
        simp only [List.mem_cons, List.not_mem_nil, or_false] at hu
        rcases hu with rfl | rfl <;> rfl
      have HONE := Lib.hid hONE
      have e1 : (0 : Int) ≤ (k : Int) := by omega
      have e2 : (k : Int) < (K : Int) := by omega
      have hwsz : w.heap.size ≤ wr.heap.size := HB.out.size
      clear hz hrv hsrc hONE hle
      go_wp2_with (at_builtin; refine wpList_append_any rfl (.tmp 17) (.tmp 21) 23 rfl w.heap.size 30 Tryd.underlying23 infoAct rfl (by decide) (.slice A5 (cat zz k).length c5) (cat zz k).length (zCells (cat zz k)) rfl OW.out A6 (zz k).length c6 rfl (zCells (zz k)) (zCells_len _) HONE.out SRC.out (by have := HLE.out; have := HN.out; unfold maxLen; omega) (by have := HLE.out; have := HN.out; omega) hwsz ?_; intro v' w3 hown3 ht3; have N1 := Lib.hid hown3; have N2 := Lib.hid ht3; clear hown3 ht3)
      have O3 := Lib.hid (show w3.ownsRow w.heap.size 30 2 v' (cat zz (k + 1)).length (zCells (cat zz (k + 1))) by rw [cat_succ, List.length_append, zCells_app]; exact N1.out)
      have B3 := Lib.hid (HB.out.trans (N2.out.below HB.out.size (fun x hx => (ownBlock_cells OW.out (by simpa using hx)).1)))
      exact ⟨⟨k + 1, _, by go_num, rfl, by omega, O3.out, B3.out⟩, by simp [intOf]; omega⟩
    · obtain rfl : k = K := by omega
      have LK := Lib.hid (HL.out.below HB.out)
      obtain ⟨S, hS⟩ : ∃ S, ((cat zz k).flatMap fun z => z.2.ownBlock.toList) = S := ⟨_, rfl⟩
      obtain ⟨S2, hS2⟩ : ∃ S2, S ++ rwB k rv = S2 := ⟨_, rfl⟩
      have hRW := fun (w4 : World) (hT : Turns S wr w4) => (show RwSt k lo rv (fun k => (zz k).length) S2 wr w4 (fun _ => 0) by
        rw [← hS] at hT
        have := LK.out.rw hT
        rw [hS, hS2] at this
        exact this)
      have hSb : ∀ b ∈ S, lo 0 ≤ b ∧ b < lo k := fun b hb => by
        rw [← hS] at hb
        obtain ⟨z, hz, hzb⟩ := List.mem_flatMap.1 hb
        obtain ⟨i, hi, hzi⟩ := cat_mem hz
        have h1 := LK.out.sub hi hzi (by simpa using hzb)
        have h2 := LK.out.mono 0 i (Nat.zero_le _)
        have h3 := LK.out.mono (i + 1) k hi
        omega
      have hSb2 : ∀ b ∈ S2, lo 0 ≤ b ∧ b < lo k := fun b hb => by
        rw [← hS2] at hb
        rcases List.mem_append.1 hb with hb | hb
        · exact hSb b hb
        · obtain ⟨i, hi, hzb⟩ := List.mem_flatMap.1 hb
          have hi2 := List.mem_range.1 hi
          have h1 := LK.out.row hi2 (b := b) (by simpa using hzb)
          have h2 := LK.out.mono 0 i (Nat.zero_le _)
          have h3 := LK.out.mono (i + 1) k hi2
          omega
      have hsep := LK.out.sep
      rw [hS] at hsep
      have HROW := Lib.hid (show RSl (fun b => b ∉ S) wr 2 EZ (.slice A5 (cat zz k).length c5) (cat zz k) from
        RSl.of_own OW.out rfl (fun b hb hm => by have := (ownBlock_cells OW.out hb).1; have := hSb b hm; have := HL.out.top; omega) (fun i z hz => ⟨_, rfl, fun j u hu => by
          obtain ⟨q1, q2⟩ := zCells_at hz
          match j with
          | 0 => simp only [List.getElem?_cons_zero, Option.some.injEq] at hu; rw [Nat.add_zero, q1, hu]
          | 1 => simp only [List.getElem?_cons_succ, List.getElem?_cons_zero, Option.some.injEq] at hu; rw [q2, hu]
          | j + 2 => simp at hu⟩))
      have SW := Lib.hid (separateW (cat zz k) (.slice A5 (cat zz k).length c5) wr (lo 0) S HROW.out hsep HN.out (fun q hq => HSS.out _ (by rw [List.getD_eq_getElem?_getD, List.getElem?_eq_getElem hq]; exact List.getElem_mem hq)))
      have HDR := Lib.hid (fun (W : World) (hT : Turns S2 wr W) (j : Nat) (hj : j < k) => (show W.cell? ⟨h, j, none⟩ = some (rv j) from
        (hT.cell (b := h) (o := j) (Nat.lt_of_lt_of_le HLT.out HB.out.size) (fun hx => by have := hSb2 h hx; exact HLO.out h this.1 this.2 rfl)).trans ((HB.out.cell (p := ⟨h, j, none⟩) HLT.out).trans (HH.out j hj))))
      have FIN := Lib.hid (fun (W : World) (hT : Turns S2 wr W) => (show Turns (((cat zz k).flatMap fun z => z.2.ownBlock.toList) ++ rwB k rv) w W by
        rw [hS, hS2]
        exact (Turns.of_below (S := S2) HB.out).trans hT (fun x hx => .inl hx)))
      obtain ⟨nn, hnn⟩ : ∃ f : Nat → Nat, (fun k => (zz k).length) = f := ⟨_, rfl⟩
      have HLEN := Lib.hid (fun (q : Nat) (hq : q < k) => (show nn q ≤ 100000 by
        rw [← hnn]
        show (zz q).length ≤ 100000
        have h1 := cat_len_le (zz := zz) (show q + 1 ≤ k from hq)
        rw [cat_succ, List.length_append] at h1
        have := HN.out
        omega))
      rw [hnn] at hRW
      have HRW := Lib.hid hRW
      clear hsep hS hSb hRW hS2 hSb2 hnn HH HL HN HSS HLO E0 LK
      go_wp2_with fail
      refine SW.out.mono ?_
      rintro e w4 ⟨rfl, hT4⟩
      have R4 := Lib.hid (HRW.out w4 hT4)
      clear hT4 SW HRW HROW OW
      obtain ⟨wb, rfl⟩ : ∃ x, x = wr := ⟨_, rfl⟩
      go_upto_region 9 with fail
      go_loopw [5] (fun i wr => ∃ (q : Nat) (mk : Nat → Nat), i = .int .i64 (q : Int) ∧ q ≤ k ∧ RwSt k lo rv nn S2 wb wr mk ∧ Hid ((∀ j, j < q → mk j = nn j) ∧ ∀ j, q ≤ j → mk j = 0)) (fun i _ => k - (intOf i).toNat)
      case atStart => exact ⟨0, _, rfl, Nat.zero_le _, R4.out, ⟨fun j hj => by omega, fun _ _ => rfl⟩⟩
      case round =>
        obtain ⟨q, mk, rfl, hq, hst, HM⟩ := hrel
        have ST := Lib.hid hst
        clear hst R4
        by_cases hqk : q < k
        · have g1 : (0 : Int) ≤ (q : Int) := by omega
          have g2 : (q : Int) < (k : Int) := by omega
          go_upto_region 12 with fail
          go_loopw [6] (fun jv wq => ∃ (i : Nat) (mq : Nat → Nat), jv = .int .i64 (i : Int) ∧ i ≤ nn q ∧ RwSt k lo rv nn S2 wb wq mq ∧ Hid (mq q = i ∧ ∀ j, j ≠ q → mq j = mk j)) (fun jv _ => nn q - (intOf jv).toNat)
          case atStart => exact ⟨0, mk, rfl, Nat.zero_le _, ST.out, ⟨HM.out.2 q (Nat.le_refl _), fun _ _ => rfl⟩⟩
          case round =>
            obtain ⟨i, mq, rfl, hi, hstq, HQ⟩ := hrel
            have SQ := Lib.hid hstq
            obtain ⟨A6, c6, hf6⟩ := hstq.form hqk
            have x0 := HDR.out wr hstq.T q hqk
            rw [hf6] at x0
            have hln := HLEN.out q hqk
            clear hstq
            by_cases hin : i < nn q
            · obtain ⟨g, c, u, hv, d0, fz⟩ := SQ.out.hd hqk hin
              rw [hf6] at hv
              simp only [Value.slice.injEq, true_and] at hv
              obtain ⟨rfl, rfl⟩ := hv
              have WR := Lib.hid (show RwSt k lo rv nn S2 wb (wr.setCell ⟨g, i * 2, none⟩ (.int .i64 (-100 - (q : Int)))) (upd mq q (i + 1)) from SQ.out.write hqk HQ.out.1 hin hf6)
              have NX := Lib.hid (show upd mq q (i + 1) q = i + 1 ∧ ∀ j, j ≠ q → upd mq q (i + 1) j = mk j from ⟨upd_same _ _ _, fun j hj => by rw [upd_ne hj]; exact HQ.out.2 j hj⟩)
              have e3 : (0 : Int) ≤ (i : Int) := by omega
              have e4 : (i : Int) < (nn q : Int) := by omega
              clear hf6
              go_wp2
              exact ⟨⟨i + 1, _, by go_num, by omega, WR.out, NX⟩, by simp [intOf]; omega⟩
            · obtain rfl : i = nn q := by omega
              have NX := Lib.hid (show (∀ j, j < q + 1 → mq j = nn j) ∧ ∀ j, q + 1 ≤ j → mq j = 0 from ⟨fun j hj => by
                by_cases e : j = q
                · subst e; exact HQ.out.1
                · rw [HQ.out.2 j e]; exact HM.out.1 j (by omega), fun j hj => by rw [HQ.out.2 j (by omega)]; exact HM.out.2 j (by omega)⟩)
              clear hf6
              go_wp2
              exact ⟨⟨q + 1, _, by go_num, by omega, SQ.out, NX⟩, by simp [intOf]; omega⟩
        · obtain rfl : q = k := by omega
          have M0 := Lib.hid (ST.out.mo (fun j hj => HM.out.1 j hj))
          have M5 := Lib.hid (show ∀ j, j < q → ∃ A c, rv j = .slice A (nn j) c from fun j hj => ST.out.form hj)
          clear HM ST
          go_upto_region 17 with fail
          obtain ⟨w5, rfl⟩ : ∃ x, x = wr := ⟨_, rfl⟩
          obtain ⟨i0, hi0, hz0, hz1, hz2⟩ := info_parts infoAct
          obtain ⟨i1, hj0, hy0, hy1, hy2⟩ := info_parts infoSAct
          go_loopw [7, 8] (fun ov i wr => ∃ (k : Nat) (mv : Nat → Value) (vm : Value), i = .int .i64 (k : Int) ∧ ov = vm ∧ k ≤ q ∧ MoSt q lo rv nn S2 wb wr k k mv vm) (fun _ i _ => q - (intOf i).toNat)
          case atStart => exact ⟨0, _, _, rfl, rfl, Nat.zero_le _, M0.out⟩
          case round =>
            obtain ⟨k, mv, vm, rfl, rfl, hkq, hmo⟩ := hrel
            have MO := Lib.hid hmo
            obtain ⟨A5, c5, hvm⟩ := own_form1 hmo.row
            subst hvm
            by_cases hk : k < q
            · obtain ⟨cs, hc, ho⟩ := hmo.rest k (Nat.le_refl _) hk
              obtain ⟨A6, c6, hf6⟩ := own_form1 ho
              rw [hf6] at ho
              have x0 := HDR.out wr hmo.T k hk
              rw [hf6] at x0
              have OW := Lib.hid ho
              have hln := HLEN.out k hk
              have hBw : wb.heap.size ≤ wr.heap.size := hmo.T.size
              have hlo : lo k ≤ wr.heap.size := Nat.le_trans (hmo.L.mono k q (by omega)) (Nat.le_trans hmo.L.top hBw)
              have e1 : (0 : Int) ≤ (k : Int) := by omega
              have e2 : (k : Int) < (q : Int) := by omega
              have v1 : IntKind.i64.wrap (-100 - (k : Int)) = -100 - (k : Int) := IntWalk.i64_in _ (by omega)
              have x0a := fun (o : Obj) => show (wr.alloc o).cell? ⟨h, k, none⟩ = some (.slice A6 (nn k) c6) from HDR.out (wr.alloc o) (hmo.T.trans (((Turns.refl [] wr).alloc o)) (fun x hx => by simp at hx)) k hk |>.trans (by rw [hf6])
              have h40 : nn k ≤ 40000000 := by omega
              have h41 : k ≤ 40000000 := by omega
              have FIN1 := Lib.hid (fun (T : TypeId) (g cap : Nat) (w6 : World) (hown : w6.ownsRow (lo k) 30 2 (.slice (some ⟨g, 0, none⟩) (nn k + 1) cap) (nn k + 1) (cs ++ [.int .i64 (-100 - (k : Int)), .slice none 0 0])) (hgrow : (wr.alloc (.cells #[.int .i64 (-100 - (k : Int)), .slice none 0 0] T)).grownBy w6 (Value.slice A6 (nn k) c6).ownBlock) (hat : (Value.slice A6 (nn k) c6).ownBlock = some g ∨ g = (wr.alloc (.cells #[.int .i64 (-100 - (k : Int)), .slice none 0 0] T)).heap.size ∧ (wr.alloc (.cells #[.int .i64 (-100 - (k : Int)), .slice none 0 0] T)).grownBy w6 none) (hlt : g < w6.heap.size) => (show MoSt q lo rv nn S2 wb w6 (k + 1) k (upd mv k (.slice (some ⟨g, 0, none⟩) (nn k + 1) cap)) (.slice A5 k c5) by
                refine MO.out.grow hk hc ?_ hown ?_ hlt
                · rw [hf6]
                  exact (((Turns.refl [] wr).alloc _).mono (by simp)).trans (Turns.of_grown hgrow) (fun x hx => .inl hx)
                · rw [hf6]
                  rcases hat with ha | ⟨ha, hb⟩
                  · exact .inl ha
                  · exact .inr ⟨by simp at ha; omega, ((Turns.refl [] wr).alloc _).trans (Turns.of_grown hb) (fun x hx => by simp at hx)⟩))
              have FIN2 := Lib.hid (fun (T : TypeId) (g cap : Nat) (w6 : World) (M6 : MoSt q lo rv nn S2 wb w6 (k + 1) k (upd mv k (.slice (some ⟨g, 0, none⟩) (nn k + 1) cap)) (.slice A5 k c5)) (g2 cap2 : Nat) (w7 : World) (hown : w7.ownsRow wb.heap.size 23 1 (.slice (some ⟨g2, 0, none⟩) (k + 1) cap2) (k + 1) ((List.range k).map (upd mv k (.slice (some ⟨g, 0, none⟩) (nn k + 1) cap)) ++ [.slice (some ⟨g, 0, none⟩) (nn k + 1) cap])) (hgrow : (w6.alloc (.cells #[.slice (some ⟨g, 0, none⟩) (nn k + 1) cap] T)).grownBy w7 (Value.slice A5 k c5).ownBlock) (hat : (Value.slice A5 k c5).ownBlock = some g2 ∨ g2 = (w6.alloc (.cells #[.slice (some ⟨g, 0, none⟩) (nn k + 1) cap] T)).heap.size ∧ (w6.alloc (.cells #[.slice (some ⟨g, 0, none⟩) (nn k + 1) cap] T)).grownBy w7 none) => (show MoSt q lo rv nn S2 wb w7 (k + 1) (k + 1) (upd mv k (.slice (some ⟨g, 0, none⟩) (nn k + 1) cap)) (.slice (some ⟨g2, 0, none⟩) (k + 1) cap2) by
                refine M6.push hk ?_ (by rw [upd_same]; exact hown) ?_
                · exact (((Turns.refl [] w6).alloc _).mono (by simp)).trans (Turns.of_grown hgrow) (fun x hx => .inl hx)
                · rcases hat with ha | ⟨ha, hb⟩
                  · exact .inl ha
                  · exact .inr (by simp at ha; omega)))
              clear hmo ho hc hf6
              go_wp2_with (at_builtin; first
                | (refine wpList_append1s _ rfl (.tmp 60) (.tmp 64) 23 rfl (lo k) 30 i0 _ 2 32 Tryd.underlying23 hi0 hz0 hz1 hz2 rfl (by decide) (.slice A6 (nn k) c6) (nn k) cs rfl (ownsRow_turns OW.out (Turns.of_below (S := []) ((Below.refl _ wr).alloc (Nat.le_refl _) _)) (fun _ _ => by simp)) ⟨wr.heap.size, 0, none⟩ 1 [.int .i64 (-100 - (k : Int)), .slice none 0 0] rfl rfl (World.news_of_block (heap_alloc_new wr _)) (by simp [Value.oneCell']) h40 (by decide) (by simp; omega) _ rfl ?_; intro g cap w6 hown hgrow hat hlt6; have M6 := Lib.hid (FIN1.out _ g cap w6 hown hgrow hat hlt6); clear hown hgrow hat hlt6)
                | (refine wpList_append1s _ rfl (.tmp 56) (.tmp 66) 68 rfl wb.heap.size 23 i1 _ 1 24 Tryd.underlying68 hj0 hy0 hy1 hy2 rfl (by decide) (.slice A5 k c5) k _ rfl (ownsRow_turns M6.out.row (Turns.of_below (S := []) ((Below.refl _ w6).alloc (Nat.le_refl _) _)) (fun _ _ => by simp)) ⟨w6.heap.size, 0, none⟩ 1 [.slice (some ⟨g, 0, none⟩) (nn k + 1) cap] rfl rfl (World.news_of_block (heap_alloc_new w6 _)) (by simp [Value.oneCell']) h41 (by decide) (by have := M6.out.T.size; simp; omega) _ rfl ?_; intro g2 cap2 w7 hown hgrow hat hlt6; have M7 := Lib.hid (FIN2.out _ g cap w6 M6.out g2 cap2 w7 hown hgrow hat); clear hown hgrow hat hlt6))
              exact ⟨⟨k + 1, _, _, by go_num, rfl, by omega, M7.out⟩, by simp [intOf]; omega⟩
            · obtain rfl : k = q := by omega
              clear hmo M0
              obtain ⟨wd, rfl⟩ : ∃ x, x = wr := ⟨_, rfl⟩
              go_upto_region 21 with fail
              go_loopw [9] (fun i wr => ∃ j : Nat, i = .int .i64 (j : Int) ∧ j ≤ k ∧ Below wd.heap.size wd wr) (fun i _ => k - (intOf i).toNat)
              case atStart => exact ⟨0, rfl, Nat.zero_le _, Below.refl _ _⟩
              case round =>
                obtain ⟨j, rfl, hj, hb⟩ := hrel
                have HB2 := Lib.hid hb
                clear hb
                by_cases hjk : j < k
                · have e1 : (0 : Int) ≤ (j : Int) := by omega
                  have e2 : (j : Int) < (k : Int) := by omega
                  have hln := HLEN.out j hjk
                  go_upto_region 24 with fail
                  go_loopw [10] (fun jv wr => ∃ i : Nat, jv = .int .i64 (i : Int) ∧ i ≤ nn j + 1 ∧ Below wd.heap.size wd wr) (fun jv _ => nn j + 1 - (intOf jv).toNat)
                  case atStart => exact ⟨0, rfl, Nat.zero_le _, HB2.out⟩
                  case round =>
                    obtain ⟨i, rfl, hi, hb⟩ := hrel
                    have HB3 := Lib.hid hb
                    have hmo := MO.out.below hb
                    obtain ⟨gs, cap', hgs, y0⟩ := hmo.hdr hjk
                    simp only [Value.slice.injEq, true_and] at hgs
                    obtain ⟨rfl, rfl⟩ := hgs
                    obtain ⟨g, c, hmv, hrd, -, -, -⟩ := hmo.new j hjk
                    rw [hmv] at y0
                    have HOLD := Lib.hid (fun i (hi : i < nn j) => hmo.old j hjk i hi)
                    have x0 := HDR.out wr hmo.T j hjk
                    clear hb
                    by_cases hin : i < nn j + 1
                    · have d0 := hrd i hin
                      unfold mkR at d0
                      have e3 : (0 : Int) ≤ (i : Int) := by omega
                      have e4 : (i : Int) < ((nn j + 1 : Nat) : Int) := by omega
                      have e5 : (i : Int) < (nn j : Int) + 1 := by omega
                      have v1 : IntKind.i64.wrap (-100 - (j : Int)) = -100 - (j : Int) := IntWalk.i64_in _ (by omega)
                      by_cases hin2 : i < nn j
                      · obtain ⟨g3, c3, h3, d1, -⟩ := HOLD.out i hin2
                        unfold mkR at d1
                        rw [h3] at x0
                        have e6 : (i : Int) < (nn j : Int) := by omega
                        clear hmo hmv hrd h3 HOLD
                        go_wp2
                        exact ⟨⟨i + 1, by go_num, by omega, HB3.out⟩, by simp [intOf]; omega⟩
                      · obtain ⟨A3, c3, h3⟩ := M5.out j hjk
                        rw [h3] at x0
                        have e6 : ¬ (i : Int) < (nn j : Int) := by omega
                        clear hmo hmv hrd h3 HOLD
                        go_wp2
                        exact ⟨⟨i + 1, by go_num, by omega, HB3.out⟩, by simp [intOf]; omega⟩
                    · obtain rfl : i = nn j + 1 := by omega
                      clear hmo hmv hrd HOLD
                      go_wp2
                      exact ⟨⟨j + 1, by go_num, by omega, HB3.out⟩, by simp [intOf]; omega⟩
                · obtain rfl : j = k := by omega
                  have FT := Lib.hid (FIN.out wr (MO.out.T.trans (Turns.of_below (S := []) HB2.out) (fun x hx => by simp at hx)))
                  go_wp2
                  go_ret
                  exact ⟨rfl, FT.out⟩
end Go.Proofs.YtjgigcnjgblekaaDoor

namespace Go.Proofs.YtjgigcnjgblekaaDoor
open Go Go.RowKit Go.Maps Classical

/-- A piece of a row. -/
theorem RSl.cut {α : Type} {F : Nat → Prop} {w : World} {sz : Nat} {E : List Value → α → Prop} {b off n c : Nat} {xs : List α} (h : RSl F w sz E (.slice (some ⟨b, off, none⟩) n c) xs) {i j : Nat} (hij : i < j) (hj : j ≤ xs.length) :
    RSl F w sz E (.slice (some ⟨b, off + i * sz, none⟩) (j - i) (c - i)) ((xs.take j).drop i) := by
  obtain ⟨A', c', h1, h2, h3, _, h4⟩ := h
  simp only [Value.slice.injEq] at h1
  obtain ⟨rfl, rfl, rfl⟩ := h1
  have hl : ((xs.take j).drop i).length = j - i := by rw [List.length_drop, List.length_take]; omega
  refine ⟨_, _, by rw [hl], by rw [hl]; omega, by omega, (fun h => by cases h), .inr ?_⟩
  rcases h4 with h4 | ⟨b', off', hA, hf, hb, hc⟩
  · subst h4; simp at hj; omega
  · simp only [Option.some.injEq, Addr.mk.injEq, and_true] at hA
    obtain ⟨rfl, rfl⟩ := hA
    refine ⟨_, _, rfl, hf, hb, fun k x hx => ?_⟩
    rw [List.getElem?_drop, List.getElem?_take] at hx
    by_cases hk : i + k < j
    · rw [if_pos hk] at hx
      rw [show off + i * sz + k * sz = off + (i + k) * sz by rw [Nat.add_mul]; omega]
      exact hc _ _ hx
    · rw [if_neg hk] at hx; simp at hx
theorem two_act {F : Nat → Prop} {w : World} {H : Nat} {x y : Ac} {sv su : Value} {T : TypeId} (h : w.heap[H]? = some (.cells #[.int .i64 x.rule, sv, .int .i64 y.rule, su] T (0, 0))) (hF : F H) (hok : i64ok x.rule) (hs : RSl F w 1 EInt sv x.sub) (hok2 : i64ok y.rule) (hs2 : RSl F w 1 EInt su y.sub) : RSl F w 2 (EAc F w) (.slice (some ⟨H, 0, none⟩) 2 2) [x, y] := by
  refine ⟨some ⟨H, 0, none⟩, 2, rfl, Nat.le_refl _, by unfold maxLen; decide, (fun h => by cases h), .inr ⟨H, 0, rfl, hF, lt_of_heap h, fun i z hz => ?_⟩⟩
  match i with
  | 0 =>
    simp only [List.getElem?_cons_zero, Option.some.injEq] at hz
    subst hz
    refine ⟨_, ⟨sv, rfl, hok, hs⟩, fun j u hu => ?_⟩
    rw [show 0 + 0 * 2 + j = j by omega]
    refine (cell_of_row _ _ j _ _ _ h).trans ?_
    match j with
    | 0 => simpa using hu
    | 1 => simpa using hu
    | j + 2 => simp at hu
  | 1 =>
    simp only [List.getElem?_cons_succ, List.getElem?_cons_zero, Option.some.injEq] at hz
    subst hz
    refine ⟨_, ⟨su, rfl, hok2, hs2⟩, fun j u hu => ?_⟩
    rw [show 0 + 1 * 2 + j = j + 2 by omega]
    refine (cell_of_row _ _ (j + 2) _ _ _ h).trans ?_
    match j with
    | 0 => simpa using hu
    | 1 => simpa using hu
    | j + 2 => simp at hu
  | i + 2 => simp at hz
/-- The closure's state: the boxes of a, want, n and ok. -/
structure WiSt (w : World) (p : Nat) (A : Option Addr) (m c i : Nat) (W : World) : Prop where
  r0 : W.heap[w.heap.size]? = some (.cells #[.pointer (some ⟨p, 0, none⟩)] 24 (0, 0))
  r1 : W.heap[w.heap.size + 1]? = some (.cells #[.slice A m c] 23 (0, 0))
  r2 : W.heap[w.heap.size + 2]? = some (.cells #[.int .i64 (i : Int)] 3 (0, 0))
  r3 : W.heap[w.heap.size + 3]? = some (.cells #[.bool true] 4 (0, 0))
  B : Below w.heap.size w W
theorem WiSt.turns {w W W' : World} {p m c i : Nat} {A : Option Addr} (h : WiSt w p A m c i W) (hb : Below W.heap.size W W') : WiSt w p A m c i W' :=
  ⟨(hb.block _ (lt_of_heap h.r0)).trans h.r0, (hb.block _ (lt_of_heap h.r1)).trans h.r1, (hb.block _ (lt_of_heap h.r2)).trans h.r2, (hb.block _ (lt_of_heap h.r3)).trans h.r3, h.B.trans (hb.mono h.B.size)⟩
/-- An agenda all of whose acts are eligible, in stratum 0, none fired. -/
structure AllE (G : Agd) (l : List Ac) : Prop where
  el : eligA G = l
  cf : sortA G.cs G.C = l
  fi : G.D = []
  st : strA G = 0
  len : G.C.length ≤ 40000000
/-- A cell is written what it holds. -/
theorem below_again {w V : World} {b : Nat} {v : Value} {T : TypeId} (h : Below w.heap.size w V) (hb : w.heap[b]? = some (.cells #[v] T (0, 0))) : Below w.heap.size w (V.setCell ⟨b, 0, none⟩ v) := by
  have hV := (h.block _ (lt_of_heap hb)).trans hb
  have T1 : Turns [b] V (V.setCell ⟨b, 0, none⟩ v) := (Turns.refl _ _).setCell (.inl (by simp)) _
  refine ⟨T1.os.trans h.os, T1.tape.trans h.tape, T1.output.trans h.output, Nat.le_trans h.size T1.size, fun k hk => ?_⟩
  by_cases e : k = b
  · subst e
    rw [heap_setCell_same _ _ 0 _ _ _ hV, hb]
    rfl
  · exact (T1.block k (Nat.lt_of_lt_of_le hk h.size) (by simpa using e)).trans (h.block k hk)
theorem eligLen (g : Agd) : (eligA g).length ≤ g.C.length := by
  unfold eligA
  rw [(sortA_perm _ _).length_eq]
  exact Nat.le_trans (List.length_filter_le _ _) (List.length_filter_le _ _)
theorem idx_self {i n : Nat} (h : i < n) : (idxOf (i : Int) (n : Int)).toNat = i := by
  unfold idxOf
  rw [if_neg (by omega), Int.emod_eq_of_lt (by omega) (by omega)]
  omega
theorem tkn_one {l : List Ac} (h : 0 < l.length) : tkn l 1 = l.take 1 := by
  unfold tkn
  by_cases h1 : (1 : Int) < (l.length : Int)
  · rw [if_pos ⟨by decide, h1⟩]; rfl
  · rw [if_neg (fun x => h1 x.2), List.take_of_length_le (by omega)]
end Go.Proofs.YtjgigcnjgblekaaDoor
