/- AgendaApart: what the agenda holds, in plain words. AgendaApart: its state behind the loops; the lists that are told, as lists wants them. Each once more, with the rows that it gives: what is taken lies apart. The walks. -/
import Derived.Test.YtjgigcnjgblekaaDoorKaq25
import Derived.Test.YtjgigcnjgblekaaDoorKaq27
import Derived.Test.YtjgigcnjgblekaaDoorKaq28
import Derived.Test.YtjgigcnjgblekaaDoorKaq29
import Derived.Test.YtjgigcnjgblekaaDoorKaq30
import Derived.Test.YtjgigcnjgblekaaDoorKaq31
namespace Go.Proofs.YtjgigcnjgblekaaDoor
open Go Go.RowKit Go.Maps Classical

/-- An act comes, if it is not there. -/
noncomputable def insA (C : List Ac) (a : Ac) : List Ac := if a ∈ C then C else C ++ [a]
noncomputable def insL (l : List Ac) : List Ac := l.foldl insA []
theorem insL_snoc (l : List Ac) (a : Ac) : insL (l ++ [a]) = insA (insL l) a := by unfold insL; rw [List.foldl_append]; rfl
theorem mem_insA {C : List Ac} {a b : Ac} : b ∈ insA C a ↔ b ∈ C ∨ b = a := by
  unfold insA
  by_cases h : a ∈ C
  · rw [if_pos h]
    exact ⟨.inl, fun h2 => h2.elim id (fun e => by rw [e]; exact h)⟩
  · rw [if_neg h]; simp
theorem mem_insF {b : Ac} : ∀ (l C : List Ac), b ∈ l.foldl insA C ↔ b ∈ C ∨ b ∈ l
  | [], C => by simp
  | a :: l, C => by
    rw [List.foldl_cons, mem_insF l, mem_insA, List.mem_cons]
    constructor
    · rintro ((h | h) | h)
      · exact .inl h
      · exact .inr (.inl h)
      · exact .inr (.inr h)
    · rintro (h | h | h)
      · exact .inl (.inl h)
      · exact .inl (.inr h)
      · exact .inr h
theorem mem_insL {l : List Ac} {b : Ac} : b ∈ insL l ↔ b ∈ l := by
  unfold insL
  rw [mem_insF]
  simp
theorem insA_nod {C : List Ac} {a : Ac} (h : C.Nodup) : (insA C a).Nodup := by
  unfold insA
  by_cases h1 : a ∈ C
  · rw [if_pos h1]; exact h
  · rw [if_neg h1]; exact nod_snoc h h1
theorem insF_nod : ∀ (l C : List Ac), C.Nodup → (l.foldl insA C).Nodup
  | [], _, h => h
  | _a :: l, _C, h => insF_nod l _ (insA_nod h)
theorem insL_nod (l : List Ac) : (insL l).Nodup := insF_nod l [] List.nodup_nil
theorem app_ins {g : Agd} (a : Ac) (ho : ownA g a) : (appF g [(true, a)] 0).2.2 = { g with C := insA g.C a } := by
  rw [app_one a ho]
  unfold insA
  by_cases h : a ∈ g.C
  · rw [if_pos h, if_pos h]
  · rw [if_neg h, if_neg h]
theorem lev3 : lev0 [0, 0, 0] = [0, 0, 0] := rfl
theorem lvl_zero (a : Ac) : lvl [0, 0, 0] a = 0 := by
  unfold lvl
  match a.rule.toNat with
  | 0 => rfl
  | 1 => rfl
  | 2 => rfl
  | n + 3 => simp
theorem all21_own {C D : List Ac} {a : Ac} (h : a ∈ all21) : ownA ⟨[0, 0, 0], fourL, C, D⟩ a := by
  obtain ⟨⟨h1, h2⟩, _, h4⟩ := all21_facts h
  refine ⟨⟨h1, by simp; omega⟩, fun i hi => ⟨(h4 i hi).1, by have := (h4 i hi).2; simp [fourL]; omega⟩⟩
/-- All its acts are eligible. -/
theorem allE {C : List Ac} (hne : C ≠ []) (hal : ∀ a ∈ C, a ∈ all21) (hn : C.Nodup) : AllE ⟨[0, 0, 0], fourL, C, []⟩ (sortA fourL C) := by
  have ho : openA ⟨[0, 0, 0], fourL, C, []⟩ = C := by
    unfold openA
    exact List.filter_eq_self.2 (fun a _ => by simp)
  have hs : strA ⟨[0, 0, 0], fourL, C, []⟩ = 0 := by
    unfold strA
    rw [ho]
    rcases strL_low (lv := [0, 0, 0]) (fun a => by rw [lvl_zero]; exact Int.le_refl _) C with ⟨h1, _⟩ | ⟨⟨a, _, h1⟩, _⟩
    · exact absurd h1 hne
    · show strL [0, 0, 0] C = 0
      rw [← h1, lvl_zero]
  refine ⟨?_, rfl, rfl, hs, Nat.le_trans (all21_len hal hn) (by decide)⟩
  unfold eligA
  rw [ho, hs]
  congr 1
  exact List.filter_eq_self.2 (fun a _ => by simp [lvl_zero])
theorem sort_mem {C : List Ac} {a : Ac} : a ∈ sortA fourL C ↔ a ∈ C := (sortA_perm fourL C).mem_iff
/-- Their numbers rise. -/
theorem num_rise {C : List Ac} (hal : ∀ a ∈ C, a ∈ all21) (hn : C.Nodup) {i : Nat} {x y : Ac} (hx : (sortA fourL C)[i]? = some x) (hy : (sortA fourL C)[i + 1]? = some y) : numA x < numA y := by
  have h := sort_num hn hal
  have hp : ((sortA fourL C).map numA).Pairwise (· < ·) := by rw [h]; exact List.pairwise_lt_range.filter _
  rw [List.pairwise_map] at hp
  obtain ⟨h1, rfl⟩ := List.getElem?_eq_some_iff.1 hx
  obtain ⟨h2, rfl⟩ := List.getElem?_eq_some_iff.1 hy
  exact List.pairwise_iff_getElem.1 hp i (i + 1) h1 h2 (by omega)
/-- An act of it fires. -/
theorem fire_one {C : List Ac} {a : Ac} (hne : C ≠ []) (hal : ∀ a ∈ C, a ∈ all21) (hn : C.Nodup) (ha : a ∈ C) : fireF ⟨[0, 0, 0], fourL, C, []⟩ a = (0, ⟨[0, 0, 0], fourL, C, [a]⟩) := by
  have hE := allE hne hal hn
  rw [fir_go (all21_own (hal a ha)) (by simp) ha (by rw [hE.st]; show ¬ 0 < lvl [0, 0, 0] a; rw [lvl_zero]; decide)]
  rfl
theorem sort_one (a : Ac) : sortA fourL [a] = [a] := by
  have h := sortA_perm fourL [a]
  exact List.perm_singleton.1 h
end Go.Proofs.YtjgigcnjgblekaaDoor

namespace Go.Proofs.YtjgigcnjgblekaaDoor
open Go Go.RowKit Go.Maps Classical

/-- What is told, with its rows. -/
theorem LstRes.both {l : List Ac} {w w' : World} {e : Ending} (h : LstRes l w e w') : ∃ A c zs, e = .returned (.slice A l.length c) ∧ Zs w.heap.size w' (.slice A l.length c) zs ∧ zs.map Prod.fst = l ∧ Below w.heap.size w w' := by
  obtain ⟨v, zs, rfl, hz, hm, hb⟩ := h
  obtain ⟨A, c, rfl⟩ := hz.form
  have hl : zs.length = l.length := by rw [← hm, List.length_map]
  rw [hl] at hz
  exact ⟨A, c, zs, by rw [hl], hz, hm, hb⟩
structure ApSt (w : World) (M : List Nat) (lo p mc mf Hr : Nat) (G : Agd) (N : Nat) (W : World) : Prop where
  ag : AgAt (mm M lo W.heap.size) W p mc mf G N
  r77 : W.cell? ⟨Hr, 2, none⟩ = some (.int .i64 77)
  le : lo ≤ W.heap.size
  B : Below w.heap.size w W
  k : mc < lo ∧ mf < lo ∧ Hr < lo ∧ w.heap.size ≤ lo
  hm : ∀ x ∈ M, x < lo
section
variable {w W W' : World} {M S : List Nat} {lo p mc mf Hr N : Nat} {G : Agd}
theorem AgAt.growM (h : AgAt (mm M lo W.heap.size) W p mc mf G N) (hlo : lo ≤ W.heap.size) (T : Turns S W W') (hS : ∀ x ∈ S, (x ∈ M ∨ lo ≤ x) ∧ x ≠ mc ∧ x ≠ mf) : AgAt (mm M lo W'.heap.size) W' p mc mf G N := by
  have hs := T.size
  refine h.step (S := S.filter (· < W.heap.size)) ⟨T.os, T.tape, T.output, T.size, fun k hk hn => T.block k hk (fun hm => hn (List.mem_filter.2 ⟨hm, by simpa using hk⟩))⟩ (fun x hx => ?_) (fun x hx => ?_) (fun x hx => ?_)
  · obtain ⟨h3, h4⟩ := List.mem_filter.1 hx
    obtain ⟨h5, h6, h7⟩ := hS x h3
    have h8 : x < W.heap.size := by simpa using h4
    exact ⟨(mem_mm hlo).2 (h5.imp id (fun h => ⟨h, h8⟩)), h6, h7⟩
  · rcases (mem_mm hlo).1 hx with h3 | h3
    · exact (mem_mm (by omega)).2 (.inl h3)
    · exact (mem_mm (by omega)).2 (.inr ⟨h3.1, by omega⟩)
  · rcases (mem_mm (by omega)).1 hx with h3 | h3
    · exact .inl ((mem_mm hlo).2 (.inl h3))
    · rcases Nat.lt_or_ge x W.heap.size with h4 | h4
      · exact .inl ((mem_mm hlo).2 (.inr ⟨h3.1, h4⟩))
      · exact .inr h4
theorem ApSt.turnsM (h : ApSt w M lo p mc mf Hr G N W) (T : Turns S W W') (hS : ∀ x ∈ S, (x ∈ M ∨ lo ≤ x) ∧ x ≠ mc ∧ x ≠ mf ∧ x ≠ Hr ∧ w.heap.size ≤ x) : ApSt w M lo p mc mf Hr G N W' := by
  have hk := h.k
  have hl := h.le
  exact ⟨h.ag.growM h.le T (fun x hx => ⟨(hS x hx).1, (hS x hx).2.1, (hS x hx).2.2.1⟩), (T.cell (b := Hr) (o := 2) (by omega) (fun hm => (hS _ hm).2.2.2.1 rfl)).trans h.r77, Nat.le_trans h.le T.size, h.B.trans (T.below h.B.size (fun x hx => (hS x hx).2.2.2.2)), h.k, h.hm⟩
theorem ApSt.turns (h : ApSt w M lo p mc mf Hr G N W) (T : Turns S W W') (hS : ∀ x ∈ S, lo ≤ x) : ApSt w M lo p mc mf Hr G N W' := by
  have hk := h.k
  exact h.turnsM T (fun x hx => by
    have := hS x hx
    exact ⟨.inr this, by omega, by omega, by omega, by omega⟩)
theorem ApSt.below (h : ApSt w M lo p mc mf Hr G N W) (hb : Below W.heap.size W W') : ApSt w M lo p mc mf Hr G N W' := h.turns (S := []) (Turns.of_below hb) (fun x hx => by simp at hx)
theorem ApSt.lt (h : ApSt w M lo p mc mf Hr G N W) : ∀ x ∈ mm M lo W.heap.size, x < W.heap.size := fun x hx => by
  have hl := h.le
  rcases (mem_mm h.le).1 hx with h1 | h1
  · have := h.hm x h1; omega
  · exact h1.2
/-- Fire. -/
theorem ApSt.fire (h : ApSt w M lo p mc mf Hr G N W) {R : Int × Agd} {N' : Nat} {e : Ending} (hr : FirRes (mm M lo W.heap.size) p mc mf N' R W e W') (hf : w.heap.size ≤ mf) (hn : mf ≠ Hr) : e = .returned (.int .i64 R.1) ∧ ApSt w (mm M lo W.heap.size) W'.heap.size p mc mf Hr R.2 N' W' ∧ Turns [mf] W W' := by
  obtain ⟨h1, h2, T⟩ := hr
  have hk := h.k
  have hl := h.le
  have hs := T.size
  exact ⟨h1, ⟨h2.more, (T.cell (b := Hr) (o := 2) (by omega) (fun hm => hn (List.mem_singleton.1 hm).symm)).trans h.r77, Nat.le_refl _, h.B.trans (T.below h.B.size (fun x hx => by rw [List.mem_singleton.1 hx]; exact hf)), by omega, fun x hx => Nat.lt_of_lt_of_le (h.lt x hx) hs⟩, T⟩
end
/-- Blocks of lists that were told one behind another. -/
def los (n0 n1 n2 n3 n4 n5 : Nat) (k : Nat) : Nat := if k = 0 then n0 else if k = 1 then n1 else if k = 2 then n2 else if k = 3 then n3 else if k = 4 then n4 else n5
theorem los_mono {n0 n1 n2 n3 n4 n5 : Nat} (h1 : n0 ≤ n1) (h2 : n1 ≤ n2) (h3 : n2 ≤ n3) (h4 : n3 ≤ n4) (h5 : n4 ≤ n5) : ∀ i j, i ≤ j → los n0 n1 n2 n3 n4 n5 i ≤ los n0 n1 n2 n3 n4 n5 j := by
  intro i j h
  unfold los
  repeat' split
  all_goals omega
theorem Zs.hi {B hi : Nat} {w : World} {v : Value} {zs : List (Ac × Value)} (h : Zs B w v zs) (hw : w.heap.size ≤ hi) : (∀ b, v.ownBlock = some b → b < hi) ∧ ∀ z ∈ zs, ∀ b, z.2.ownBlock = some b → b < hi :=
  ⟨fun _b hb => Nat.lt_of_lt_of_le (ownBlock_cells h.row hb).2.1 hw, fun z hz _b hb => Nat.lt_of_lt_of_le (ownBlock_cells (h.sub z hz).1 hb).2.1 hw⟩
def fv (v0 v1 v2 v3 v4 : Value) (k : Nat) : Value := if k = 0 then v0 else if k = 1 then v1 else if k = 2 then v2 else if k = 3 then v3 else v4
def fz (z0 z1 z2 z3 z4 : List (Ac × Value)) (k : Nat) : List (Ac × Value) := if k = 0 then z0 else if k = 1 then z1 else if k = 2 then z2 else if k = 3 then z3 else z4
theorem five {P : Nat → Prop} (h0 : P 0) (h1 : P 1) (h2 : P 2) (h3 : P 3) (h4 : P 4) : ∀ k, k < 5 → P k := fun k hk => by
  match k with
  | 0 => exact h0
  | 1 => exact h1
  | 2 => exact h2
  | 3 => exact h3
  | 4 => exact h4
  | k + 5 => omega
/-- Five lists. -/
theorem ls5 {w0 w1 w2 w3 w4 w5 W : World} {v0 v1 v2 v3 v4 : Value} {z0 z1 z2 z3 z4 : List (Ac × Value)} (b1 : Below w0.heap.size w0 w1) (b2 : Below w1.heap.size w1 w2) (b3 : Below w2.heap.size w2 w3) (b4 : Below w3.heap.size w3 w4) (b5 : Below w4.heap.size w4 w5) (bW : Below w5.heap.size w5 W)
    (h0 : Zs w0.heap.size w1 v0 z0) (h1 : Zs w1.heap.size w2 v1 z1) (h2 : Zs w2.heap.size w3 v2 z2) (h3 : Zs w3.heap.size w4 v3 z3) (h4 : Zs w4.heap.size w5 v4 z4) :
    LsOk 5 (los w0.heap.size w1.heap.size w2.heap.size w3.heap.size w4.heap.size w5.heap.size) W (fv v0 v1 v2 v3 v4) (fz z0 z1 z2 z3 z4) := by
  have b4W := b5.trans (bW.mono b5.size)
  have b3W := b4.trans (b4W.mono b4.size)
  have b2W := b3.trans (b3W.mono b3.size)
  have b1W := b2.trans (b2W.mono b2.size)
  refine ⟨five ?_ ?_ ?_ ?_ ?_, five ?_ ?_ ?_ ?_ ?_, five ?_ ?_ ?_ ?_ ?_, los_mono b1.size b2.size b3.size b4.size b5.size, bW.size⟩
  · exact h0.below b1W
  · exact h1.below b2W
  · exact h2.below b3W
  · exact h3.below b4W
  · exact h4.below bW
  · exact (h0.hi (Nat.le_refl _)).1
  · exact (h1.hi (Nat.le_refl _)).1
  · exact (h2.hi (Nat.le_refl _)).1
  · exact (h3.hi (Nat.le_refl _)).1
  · exact (h4.hi (Nat.le_refl _)).1
  · exact (h0.hi (Nat.le_refl _)).2
  · exact (h1.hi (Nat.le_refl _)).2
  · exact (h2.hi (Nat.le_refl _)).2
  · exact (h3.hi (Nat.le_refl _)).2
  · exact (h4.hi (Nat.le_refl _)).2
/-- What is written, lies in its stretch. -/
theorem LsOk.where {K : Nat} {lo : Nat → Nat} {w : World} {rv : Nat → Value} {zz : Nat → List (Ac × Value)} (h : LsOk K lo w rv zz) : ∀ x ∈ ((cat zz K).flatMap fun z => z.2.ownBlock.toList) ++ rwB K rv, lo 0 ≤ x ∧ x < lo K := by
  intro x hx
  rcases List.mem_append.1 hx with hx | hx
  · obtain ⟨z, hz, hzb⟩ := List.mem_flatMap.1 hx
    obtain ⟨i, hi, hzi⟩ := cat_mem hz
    have h1 := h.sub hi hzi (b := x) (by simpa using hzb)
    have h2 := h.mono 0 i (Nat.zero_le _)
    have h3 := h.mono (i + 1) K hi
    omega
  · obtain ⟨k, hk, hb⟩ := List.mem_flatMap.1 hx
    have hk := List.mem_range.1 hk
    have h1 := h.row hk (b := x) (by simpa using hb)
    have h2 := h.mono 0 k (Nat.zero_le _)
    have h3 := h.mono (k + 1) K hk
    omega
theorem Zs.rslT {B : Nat} {w : World} {v : Value} {zs : List (Ac × Value)} {l : List Ac} (h : Zs B w v zs) (hm : zs.map Prod.fst = l) : RSl (fun _ => True) w 2 (EAc (fun _ => True) w) v l := by
  rw [← hm]
  exact h.rsl.kp (Kp.refl _ _) (fun _ _ _ => trivial) (fun _ _ hc => hc.kp (Kp.refl _ _) (fun _ _ _ => trivial))
theorem zs_acts {B1 B2 : Nat} {w : World} {v1 v2 : Value} {z1 z2 : List (Ac × Value)} {l : List Ac} (h1 : Zs B1 w v1 z1) (m1 : z1.map Prod.fst = l) (h2 : Zs B2 w v2 z2) (m2 : z2.map Prod.fst = l) :
    Calls Tryd.prog 13 #[v1, v2] w fun e w' => e = .returned (.bool true) ∧ Below w.heap.size w w' := actsW v1 v2 l w (h1.rslT m1) (h2.rslT m2)
theorem two_cut {α : Type} {l : List α} {q : Nat} {x y : α} (h : l[q]? = some x) (h2 : l[q + 1]? = some y) : (l.take (q + 2)).drop q = [x, y] := by
  have hq := (List.getElem?_eq_some_iff.1 h2).1
  rw [show q + 2 = q + 1 + 1 from rfl, List.take_add_one, h2, List.drop_append_of_le_length (by rw [List.length_take]; omega), one_cut h]
  rfl
theorem cat_five (z0 z1 z2 z3 z4 : List (Ac × Value)) : cat (fz z0 z1 z2 z3 z4) 5 = z0 ++ (z1 ++ (z2 ++ (z3 ++ z4))) := by simp [cat, List.range_succ, fz]
theorem cat_two (z0 z1 z2 z3 z4 : List (Ac × Value)) : cat (fz z0 z1 z2 z3 z4) 2 = z0 ++ z1 := by simp [cat, List.range_succ, fz]
theorem tkn_zero (l : List Ac) : tkn l 0 = l := by simp [tkn]
theorem Zs.keep {B : Nat} {w w' : World} {v : Value} {zs : List (Ac × Value)} (h : Zs B w v zs) {S : List Nat} (ht : Turns S w w') (hs : ∀ x ∈ S, x < B ∨ w.heap.size ≤ x) : Zs B w' v zs :=
  ⟨ownsRow_turns h.row ht (fun b hb hm => by have h1 := ownBlock_cells h.row hb; have h2 := h1.1; have h3 := h1.2.1; have := hs b hm; omega),
   fun z hz => ⟨(h.sub z hz).1.turns ht (fun b hb hm => by have h1 := ownBlock_cells (h.sub z hz).1 hb; have h2 := h1.1; have h3 := h1.2.1; have := hs b hm; omega), (h.sub z hz).2⟩, h.ne, h.ap⟩
theorem ls2 {w0 w1 w2 W : World} {v0 v1 : Value} {z0 z1 : List (Ac × Value)} (b1 : Below w0.heap.size w0 w1) (b2 : Below w1.heap.size w1 w2) (bW : Below w2.heap.size w2 W) (h0 : Zs w0.heap.size w1 v0 z0) (h1 : Zs w1.heap.size w2 v1 z1) :
    LsOk 2 (los w0.heap.size w1.heap.size w2.heap.size w2.heap.size w2.heap.size w2.heap.size) W (fv v0 v1 v1 v1 v1) (fz z0 z1 z1 z1 z1) := by
  have b1W := b2.trans (bW.mono b2.size)
  have two : ∀ {P : Nat → Prop}, P 0 → P 1 → ∀ k, k < 2 → P k := fun {P} p0 p1 k hk => by
    match k with
    | 0 => exact p0
    | 1 => exact p1
    | k + 2 => omega
  refine ⟨two ?_ ?_, two ?_ ?_, two ?_ ?_, los_mono b1.size b2.size (Nat.le_refl _) (Nat.le_refl _) (Nat.le_refl _), bW.size⟩
  · exact h0.below b1W
  · exact h1.below bW
  · exact (h0.hi (Nat.le_refl _)).1
  · exact (h1.hi (Nat.le_refl _)).1
  · exact (h0.hi (Nat.le_refl _)).2
  · exact (h1.hi (Nat.le_refl _)).2
/-- One act against one. -/
theorem one2 (V : World) {x : Ac} {s1 s2 : Value} (hok : AcOk x) (h1 : RSl (fun _ => True) V 1 EInt s1 x.sub) (h2 : RSl (fun _ => True) V 1 EInt s2 x.sub) :
    Calls Tryd.prog 13 #[.slice (some ⟨V.heap.size, 0, none⟩) 1 1, .slice (some ⟨V.heap.size + 1, 0, none⟩) 1 1] ((V.alloc (.cells #[.int .i64 x.rule, s1] 30)).alloc (.cells #[.int .i64 x.rule, s2] 30)) fun e w' => e = .returned (.bool true) ∧ Below V.heap.size V w' := by
  have hb : Below V.heap.size V ((V.alloc (.cells #[.int .i64 x.rule, s1] 30)).alloc (.cells #[.int .i64 x.rule, s2] 30)) := ((Below.refl _ _).alloc (Nat.le_refl _) _).alloc (by simp) _
  refine (actsW (F := fun _ => True) (F' := fun _ => True) _ _ [x] _ (one_actA (H := V.heap.size) (by rw [heap_alloc_old _ _ (by simp)]; exact heap_alloc_new V _) trivial hok.rule (h1.keep (Kp.of_below hb))) (one_actA (H := V.heap.size + 1) (by
    have := heap_alloc_new (V.alloc (.cells #[.int .i64 x.rule, s1] 30)) (.cells #[.int .i64 x.rule, s2] 30)
    simpa using this) trivial hok.rule (h2.keep (Kp.of_below hb)))).mono ?_
  rintro e w' ⟨rfl, h⟩
  exact ⟨rfl, hb.trans (h.mono hb.size)⟩
/-- One act against a row. -/
theorem one1 (V : World) {B : Nat} {x : Ac} {s1 v2 : Value} {z2 : List (Ac × Value)} (hok : AcOk x) (h1 : RSl (fun _ => True) V 1 EInt s1 x.sub) (h2 : Zs B V v2 z2) (m2 : z2.map Prod.fst = [x]) :
    Calls Tryd.prog 13 #[.slice (some ⟨V.heap.size, 0, none⟩) 1 1, v2] (V.alloc (.cells #[.int .i64 x.rule, s1] 30)) fun e w' => e = .returned (.bool true) ∧ Below V.heap.size V w' := by
  have hb : Below V.heap.size V (V.alloc (.cells #[.int .i64 x.rule, s1] 30)) := (Below.refl _ _).alloc (Nat.le_refl _) _
  refine (actsW (F := fun _ => True) (F' := fun _ => True) _ _ [x] _ (one_actA (H := V.heap.size) (heap_alloc_new V _) trivial hok.rule (h1.keep (Kp.of_below hb))) ((h2.below hb).rslT m2)).mono ?_
  rintro e w' ⟨rfl, h⟩
  exact ⟨rfl, hb.trans (h.mono hb.size)⟩
/-- One act is copied. -/
theorem one_copied (V : World) {x : Ac} {s1 : Value} (hok : AcOk x) (h1 : RSl (fun _ => True) V 1 EInt s1 x.sub) :
    Calls Tryd.prog 25 #[.slice (some ⟨V.heap.size, 0, none⟩) 1 1] (V.alloc (.cells #[.int .i64 x.rule, s1] 30)) (LstRes [x] V) := by
  have hb : Below V.heap.size V (V.alloc (.cells #[.int .i64 x.rule, s1] 30)) := (Below.refl _ _).alloc (Nat.le_refl _) _
  refine (lcopiedW (F := fun _ => True) _ [x] _ (one_actA (H := V.heap.size) (heap_alloc_new V _) trivial hok.rule (h1.keep (Kp.of_below hb))) (by simp) (fun a ha => by rw [List.mem_singleton.1 ha]; exact hok)).mono ?_
  intro e w' h
  exact h.from hb
/-- One act is smudged. -/
theorem one_smudged (V : World) {B : Nat} {x : Ac} {s1 : Value} (mark : Int) (hok : x ∈ all21) (h1 : OwnZ V B s1 x.sub) (hB : B ≤ V.heap.size) (hm : -100000 ≤ mark ∧ mark ≤ 100000) :
    Calls Tryd.prog 30 #[.slice (some ⟨V.heap.size, 0, none⟩) 1 1, .int .i64 mark] (V.alloc (.cells #[.int .i64 x.rule, s1] 30)) fun e w' => e = .returned (.tuple #[]) ∧ Turns s1.ownBlock.toList V w' := by
  have hb : Below V.heap.size V (V.alloc (.cells #[.int .i64 x.rule, s1] 30)) := (Below.refl _ _).alloc (Nat.le_refl _) _
  obtain ⟨⟨_, h2⟩, h3, _⟩ := all21_facts hok
  refine (smudgeW B V.heap.size x s1 mark _ (heap_alloc_new V _) (h1.below hb) (fun e => by have := (ownBlock_cells h1 e).2.1; omega) (by omega) hm (Nat.le_trans hB hb.size)).mono ?_
  rintro e w' ⟨rfl, h⟩
  refine ⟨rfl, (Turns.of_below (S := s1.ownBlock.toList) hb).trans h (fun y hy => ?_)⟩
  rcases List.mem_cons.1 hy with rfl | hy
  · exact .inr (Nat.le_refl _)
  · exact .inl hy
end Go.Proofs.YtjgigcnjgblekaaDoor

namespace Go.Proofs.YtjgigcnjgblekaaDoor
open Go Go.RowKit Go.Maps Classical

theorem Zs.rd {B : Nat} {w : World} {v : Value} {zs : List (Ac × Value)} (h : Zs B w v zs) {i : Nat} {z : Ac × Value} (hz : zs[i]? = some z) : ∃ g c, v = .slice (some ⟨g, 0, none⟩) zs.length c ∧ B ≤ g ∧ g < w.heap.size ∧ w.cell? ⟨g, i * 2, none⟩ = some (.int .i64 z.1.rule) ∧ w.cell? ⟨g, i * 2 + 1, none⟩ = some z.2 := by
  have hi := (List.getElem?_eq_some_iff.1 hz).1
  have hl := h.row.1
  obtain ⟨q1, q2⟩ := zCells_at hz
  rcases h.row.2 with ⟨_, h0⟩ | ⟨g, cap, cur, h', hb, hh, _⟩
  · omega
  · have ho := h.row
    subst h'
    exact ⟨g, cap, rfl, hb, (Array.getElem?_eq_some_iff.1 hh).1, by rw [World.ownsRow.cellAt ho (i * 2) (by omega), q1], by rw [World.ownsRow.cellAt ho (i * 2 + 1) (by omega), q2]⟩
set_option maxRecDepth 100000 in
set_option maxHeartbeats 4000000 in
theorem each2W {M : List Nat} {p mc mf N g : Nat} {cb : Array Value} {G : Agd} (St : List (Ac × Value) → Nat → Nat → World → Prop) (go : Nat → Bool) (w : World) (h : AgAt M w p mc mf G N) (hlen : G.C.length ≤ 40000000)
    (eg : ∀ args w, (callFunc g args).run Tryd.prog w = .ok (.enter g args) w)
    (h0 : ∀ w1 v zs, Below w.heap.size w w1 → Zs w.heap.size w1 v zs → St zs w1.heap.size 0 w1) (hB : ∀ zs K i W W', St zs K i W → Below W.heap.size W W' → St zs K i W')
    (hs : ∀ w1 zs, Below w.heap.size w w1 → zs.map Prod.fst = eligA G → ∀ i x sv W, zs[i]? = some (x, sv) → Kp (fun b => w.heap.size ≤ b ∧ b < w1.heap.size) w1 W → St zs w1.heap.size i W → RSl (fun b => w.heap.size ≤ b ∧ b < w1.heap.size) W 1 EInt sv x.sub → i64ok x.rule →
      Calls Tryd.prog g (#[.agg #[.int .i64 x.rule, sv]] ++ cb) W fun e W' => e = .returned (.bool (go i)) ∧ St zs w1.heap.size (i + 1) W' ∧ Kp (fun b => w.heap.size ≤ b ∧ b < w1.heap.size) W W') :
    Calls Tryd.prog 48 #[.pointer (some ⟨p, 0, none⟩), .func (.func g) #[] cb] w fun e w' => e = .returned (.tuple #[]) ∧ ∃ zs K k, zs.map Prod.fst = eligA G ∧ StopAt go (eligA G).length k ∧ St zs K k w' := by
  have EW := Lib.hid (eligibleW w h hlen)
  have hnil := fun W => eqlNilF (P := Tryd.prog) W 92 (.func g) #[] cb Tryd.underlying92
  have H0 := Lib.hid h0
  have HBB := Lib.hid hB
  have HS := Lib.hid hs
  clear h hlen h0 hB hs
  go_enter Tryd.func48, Tryd.ntmps48
  go_wp2_with fail
  refine EW.out.mono ?_
  rintro e w1 ⟨v, zs, rfl, hz, hm, hb1⟩
  have hmx := hz.rsl.len
  unfold maxLen at hmx
  rw [List.length_map] at hmx
  obtain ⟨A, c, rfl⟩ := hz.form
  have HZ := Lib.hid hz
  have HM := Lib.hid hm
  have HLE := Lib.hid (show zs.length = (eligA G).length by rw [← hm, List.length_map])
  have HB1 := Lib.hid hb1
  have HST0 := Lib.hid (H0.out w1 _ zs hb1 hz)
  clear hb1 hz hm EW
  go_upto_region 2 with fail
  go_loopw [15] (fun i wr => ∃ k : Nat, i = .int .i64 (k : Int) ∧ k ≤ zs.length ∧ (∀ j, j < k → go j = true) ∧ St zs w1.heap.size k wr ∧ Kp (fun b => w.heap.size ≤ b ∧ b < w1.heap.size) w1 wr) (fun i _ => zs.length - (intOf i).toNat)
  case atStart => exact ⟨0, rfl, Nat.zero_le _, fun j hj => by omega, HST0.out, Kp.refl _ _⟩
  case round =>
    obtain ⟨k, rfl, hk, hgo, hst, hkp⟩ := hrel
    have HGO := Lib.hid hgo
    have HST := Lib.hid hst
    have HKP := Lib.hid hkp
    clear hgo hst hkp
    by_cases hkn : k < zs.length
    · obtain ⟨⟨x, sv⟩, hx⟩ : ∃ x, zs[k]? = some x := ⟨_, List.getElem?_eq_getElem hkn⟩
      obtain ⟨b, c', hA, hbF, hbs, hc0, hc1⟩ := HZ.out.rd hx
      simp only [Value.slice.injEq] at hA
      obtain ⟨rfl, -, rfl⟩ := hA
      have hzs := HZ.out.sub _ (List.mem_of_getElem? hx)
      have hsv := (hzs.1.rsl (F := fun b => w.heap.size ≤ b ∧ b < w1.heap.size) (fun b hb => ⟨(ownBlock_cells hzs.1 hb).1, (ownBlock_cells hzs.1 hb).2.1⟩) hzs.2.sub).keep HKP.out
      have hok : i64ok x.rule := hzs.2.rule
      obtain ⟨A3, c3, hsf⟩ : ∃ A c, sv = .slice A x.sub.length c := hzs.1.form
      subst hsf
      simp only at hc0 hc1 hsv
      have d0 : wr.cell? ⟨b, k * 2, none⟩ = some (.int .i64 x.rule) := by rw [HKP.out.cell hbs ⟨hbF, hbs⟩]; exact hc0
      have d1 : wr.cell? ⟨b, k * 2 + 1, none⟩ = some (.slice A3 x.sub.length c3) := by rw [HKP.out.cell hbs ⟨hbF, hbs⟩]; exact hc1
      obtain ⟨w2, hw2⟩ : ∃ w2, w2 = wr.alloc (.cells #[.int .i64 x.rule, .slice A3 x.sub.length c3] 30) := ⟨_, rfl⟩
      have hb2 : Below wr.heap.size wr w2 := by rw [hw2]; exact (Below.refl _ _).alloc (Nat.le_refl _) _
      have y0 : w2.cell? ⟨wr.heap.size, 0, none⟩ = some (.int .i64 x.rule) := by rw [hw2]; exact cell_of_row _ _ 0 _ _ _ (heap_alloc_new wr _)
      have y1 : w2.cell? ⟨wr.heap.size, 1, none⟩ = some (.slice A3 x.sub.length c3) := by rw [hw2]; exact cell_of_row _ _ 1 _ _ _ (heap_alloc_new wr _)
      have K2 := Lib.hid (HKP.out.trans (Kp.of_below hb2))
      have SC := Lib.hid (HS.out w1 zs HB1.out HM.out k x (.slice A3 x.sub.length c3) w2 hx K2.out (HBB.out _ _ _ _ _ HST.out hb2) (hsv.keep (Kp.of_below hb2)) hok)
      have e1 : (0 : Int) ≤ (k : Int) := by omega
      have e2 : (k : Int) < (zs.length : Int) := by omega
      clear hx hok hsv hb2 hc0 hc1 hzs
      go_upto_region 4 with fail
      rw [← hw2]
      clear hw2 d0 d1
      go_wp2_with fail
      refine SC.out.mono ?_
      rintro e w3 ⟨rfl, hst3, hk3⟩
      have HST3 := Lib.hid hst3
      have HK3 := Lib.hid (K2.out.trans hk3)
      clear hst3 hk3 SC y0 y1
      cases hgk : go k with
      | true =>
        have NX := Lib.hid (fun j (hj : j < k + 1) => (show go j = true by
          rcases Nat.lt_or_ge j k with h | h
          · exact HGO.out j h
          · obtain rfl : j = k := by omega
            exact hgk))
        clear hgk
        go_wp2
        exact ⟨⟨k + 1, by go_num, by omega, NX.out, HST3.out, HK3.out⟩, by simp [intOf]; omega⟩
      | false =>
        have HGK := Lib.hid hgk
        clear hgk
        go_wp2
        refine bodyPost_ret (results_none rfl _ _ _) rfl ?_
        exact ⟨rfl, zs, _, k + 1, HM.out, ⟨by rw [← HLE.out]; omega, fun j hj => HGO.out j (by omega), .inr ⟨by omega, by simpa using HGK.out⟩⟩, HST3.out⟩
    · obtain rfl : k = zs.length := by omega
      go_wp2
      go_end0
      exact ⟨rfl, zs, _, zs.length, HM.out, ⟨by rw [← HLE.out]; exact Nat.le_refl _, fun j hj => HGO.out j (by omega), .inl HLE.out⟩, HST.out⟩
/-- An act as its two cells. -/
def cdAz : Cdc (Ac × Value) where
  E := fun _ _ cs z => cs = [.int .i64 z.1.rule, z.2] ∧ z.2.oneCell' = true
  sz := 2
  len := fun F w cs x h => by rw [h.1]; rfl
  kp := fun F F' w w' cs x h _ _ => h
  one := fun F w cs x h u hu => by
    rw [h.1] at hu
    simp only [List.mem_cons, List.not_mem_nil, or_false] at hu
    rcases hu with rfl | rfl
    · rfl
    · exact h.2
theorem OwnF.zrow {F : Nat → Prop} {B : Nat} {w : World} {v : Value} {zs : List (Ac × Value)} (h : OwnF F B w 30 cdAz v zs) : w.ownsRow B 30 2 v zs.length (zCells zs) := by
  obtain ⟨cells, h1, h2⟩ := h
  have hl : cells.length = zs.length * 2 := h1.1
  rw [show zCells zs = cells from ?_]
  · exact h1
  · refine List.ext_getElem? (fun i => ?_)
    rcases Nat.lt_or_ge (i / 2) zs.length with hi | hi
    · obtain ⟨cs, ⟨rfl, _⟩, hc⟩ := h2 _ _ (List.getElem?_eq_getElem hi)
      obtain ⟨q1, q2⟩ := zCells_at (List.getElem?_eq_getElem hi)
      have hc0 := hc 0 _ rfl
      have hc1 := hc 1 _ rfl
      simp only [cdAz, Nat.add_zero] at hc0 hc1
      rcases Nat.mod_two_eq_zero_or_one i with h0 | h0
      · rw [show i = i / 2 * 2 by omega, q1, hc0]
      · rw [show i = i / 2 * 2 + 1 by omega, q2, hc1]
    · rw [List.getElem?_eq_none (by rw [zCells_len]; omega), List.getElem?_eq_none (by omega)]
/-- The closure's state: its list, the bound. -/
structure Tk2 (l : List Ac) (n : Int) (w w0 : World) (zs : List (Ac × Value)) (K i : Nat) (W : World) : Prop where
  bx : ∃ vo, W.heap[w.heap.size + 1]? = some (.cells #[vo] 23 (0, 0)) ∧ OwnF (fun _ => False) K W 30 cdAz vo (zs.take i)
  bn : W.heap[w.heap.size]? = some (.cells #[.int .i64 n] 3 (0, 0))
  sub : ∀ z ∈ zs, (OwnZ W w0.heap.size z.2 z.1.sub ∧ AcOk z.1) ∧ ∀ b, z.2.ownBlock = some b → b < K
  ap : zs.Pairwise (fun x y => ∀ b, x.2.ownBlock = some b → y.2.ownBlock ≠ some b)
  lo : w0.heap.size ≤ K
  hi : K ≤ W.heap.size
  B : Below w.heap.size w W
theorem Tk2.below {l : List Ac} {n : Int} {w w0 : World} {zs : List (Ac × Value)} {K i : Nat} {W W' : World} (h : Tk2 l n w w0 zs K i W) (hb : Below W.heap.size W W') : Tk2 l n w w0 zs K i W' := by
  obtain ⟨vo, h1, h2⟩ := h.bx
  exact ⟨⟨vo, (hb.block _ (lt_of_heap h1)).trans h1, h2.below hb⟩, (hb.block _ (lt_of_heap h.bn)).trans h.bn, fun z hz => ⟨⟨(h.sub z hz).1.1.below hb, (h.sub z hz).1.2⟩, (h.sub z hz).2⟩, h.ap, h.lo, Nat.le_trans h.hi hb.size, h.B.trans (hb.mono h.B.size)⟩
set_option maxRecDepth 100000 in
set_option maxHeartbeats 4000000 in
theorem taken2FW {l : List Ac} {n : Int} {w w0 W : World} {zs : List (Ac × Value)} {K i : Nat} (x : Ac) (sv : Value) (hw0 : w0.heap.size = w.heap.size + 2) (hl : zs.length ≤ 40000000) (hx : zs[i]? = some (x, sv)) (hst : Tk2 l n w w0 zs K i W) :
    Calls Tryd.prog 49 #[.agg #[.int .i64 x.rule, sv], .pointer (some ⟨w.heap.size + 1, 0, none⟩), .pointer (some ⟨w.heap.size, 0, none⟩)] W fun e W' => e = .returned (.bool (goT n i)) ∧ Tk2 l n w w0 zs K (i + 1) W' ∧ Kp (fun b => w0.heap.size ≤ b ∧ b < K) W W' := by
  have HST := Lib.hid hst
  obtain ⟨⟨vo, q1, q3⟩, q2, q7, -, q4, q5, q6⟩ := hst
  have hzx := q7 _ (List.mem_of_getElem? hx)
  obtain ⟨A3, c3, hsvf⟩ : ∃ A c, sv = .slice A x.sub.length c := hzx.1.1.form
  subst hsvf
  have hi := (List.getElem?_eq_some_iff.1 hx).1
  have hti : (zs.take i).length = i := by rw [List.length_take, Nat.min_eq_left (by omega)]
  obtain ⟨A4, c4, hvo⟩ := q3.form
  rw [hti] at hvo
  subst hvo
  obtain ⟨W0, hW0⟩ : ∃ W0, W0 = W.alloc (.cells #[.int .i64 x.rule, .slice A3 x.sub.length c3] 30) := ⟨_, rfl⟩
  have hb0 : Below W.heap.size W W0 := by rw [hW0]; exact (Below.refl _ _).alloc (Nat.le_refl _) _
  have hs1 := lt_of_heap q1
  have hs2 := lt_of_heap q2
  have r1 := (hb0.block _ hs1).trans q1
  have r2 := (hb0.block _ hs2).trans q2
  have y0 : W0.cell? ⟨W.heap.size, 0, none⟩ = some (.int .i64 x.rule) := by rw [hW0]; exact cell_of_row _ _ 0 _ _ _ (heap_alloc_new W _)
  have y1 : W0.cell? ⟨W.heap.size, 1, none⟩ = some (.slice A3 x.sub.length c3) := by rw [hW0]; exact cell_of_row _ _ 1 _ _ _ (heap_alloc_new W _)
  have b1 : W0.cell? ⟨w.heap.size + 1, 0, none⟩ = some (.slice A4 i c4) := cell_of_row _ _ 0 _ _ _ r1
  have b2 : W0.cell? ⟨w.heap.size, 0, none⟩ = some (.int .i64 n) := cell_of_row _ _ 0 _ _ _ r2
  have OW := Lib.hid (q3.below hb0)
  have R1 := Lib.hid r1
  have R2 := Lib.hid r2
  have HB0 := Lib.hid hb0
  have HB := Lib.hid (q6.trans (hb0.mono q6.size))
  have HEL := Lib.hid (show cdAz.E (fun _ => False) W0 [.int .i64 x.rule, .slice A3 x.sub.length c3] (x, .slice A3 x.sub.length c3) from ⟨rfl, rfl⟩)
  have HTK := Lib.hid (show zs.take (i + 1) = zs.take i ++ [(x, .slice A3 x.sub.length c3)] by rw [List.take_add_one, hx]; rfl)
  have HLL := Lib.hid (show (zs.take i).length ≤ 40000000 by omega)
  have HTI := Lib.hid hti
  have HK := Lib.hid (And.intro q4 (Nat.le_trans q5 hb0.size))
  have hlt : i + 1 ≤ 40000001 := by omega
  -- what lies behind the append and the store
  have FIN : ∀ (g cap : Nat) (w2 : World), OwnF (fun _ => False) K w2 30 cdAz (.slice (some ⟨g, 0, none⟩) (i + 1) cap) (zs.take i ++ [(x, .slice A3 x.sub.length c3)]) → Turns (Value.slice A4 i c4).ownBlock.toList W0 w2 →
      (w2.cell? ⟨w.heap.size + 1, 0, none⟩ = some (.slice A4 i c4) ∧ w2.frozen? ⟨w.heap.size + 1, 0, none⟩ = false) ∧
      Tk2 l n w w0 zs K (i + 1) (w2.setCell ⟨w.heap.size + 1, 0, none⟩ (.slice (some ⟨g, 0, none⟩) (i + 1) cap)) ∧ Kp (fun b => w0.heap.size ≤ b ∧ b < K) W (w2.setCell ⟨w.heap.size + 1, 0, none⟩ (.slice (some ⟨g, 0, none⟩) (i + 1) cap)) ∧
      (w2.setCell ⟨w.heap.size + 1, 0, none⟩ (.slice (some ⟨g, 0, none⟩) (i + 1) cap)).cell? ⟨w.heap.size + 1, 0, none⟩ = some (.slice (some ⟨g, 0, none⟩) (i + 1) cap) ∧ (w2.setCell ⟨w.heap.size + 1, 0, none⟩ (.slice (some ⟨g, 0, none⟩) (i + 1) cap)).cell? ⟨w.heap.size, 0, none⟩ = some (.int .i64 n) := by
    intro g cap w2 ho ht
    have hown : ∀ b, b ∈ (Value.slice A4 i c4).ownBlock.toList → K ≤ b := fun b hb => (OW.out.block (by simpa using hb)).1
    have hK := HK.out
    have T2 : Turns [w.heap.size + 1] w2 (w2.setCell ⟨w.heap.size + 1, 0, none⟩ (.slice (some ⟨g, 0, none⟩) (i + 1) cap)) := (Turns.refl _ _).setCell (.inl (by simp)) _
    have e1 := (ht.block _ (lt_of_heap R1.out) (fun hm => by have := hown _ hm; omega)).trans R1.out
    have e2 := (ht.block _ (lt_of_heap R2.out) (fun hm => by have := hown _ hm; omega)).trans R2.out
    have f1 : (w2.setCell ⟨w.heap.size + 1, 0, none⟩ (.slice (some ⟨g, 0, none⟩) (i + 1) cap)).heap[w.heap.size + 1]? = some (.cells #[.slice (some ⟨g, 0, none⟩) (i + 1) cap] 23 (0, 0)) := heap_setCell_same _ _ 0 _ _ _ e1
    have f2 := (T2.block w.heap.size (lt_of_heap e2) (by simp)).trans e2
    refine ⟨⟨cell_of_row _ _ 0 _ _ _ e1, by unfold World.frozen?; simp only [e1]; simp⟩, ⟨⟨_, f1, ?_⟩, f2, fun z hz => ?_, HST.out.ap, hK.1, ?_, ?_⟩, ?_, cell_of_row _ _ 0 _ _ _ f1, cell_of_row _ _ 0 _ _ _ f2⟩
    · rw [HTK.out]
      exact ho.keep T2 (fun b hb hm => by have := (ho.block hb).1; have := List.mem_singleton.1 hm; omega) (fun b hb hf => hf) (fun _ _ h => h)
    · obtain ⟨⟨u1, u2⟩, u3⟩ := HST.out.sub z hz
      have u0 : ∀ b, z.2.ownBlock = some b → w0.heap.size ≤ b := fun b hb => (ownBlock_cells u1 hb).1
      exact ⟨⟨((u1.below HB0.out).turns ht (fun b hb hm => by have := hown b hm; have := u3 b hb; omega)).turns T2 (fun b hb hm => by have := List.mem_singleton.1 hm; have := u0 b hb; omega), u2⟩, u3⟩
    · have := ht.size; have := T2.size; omega
    · exact HB.out.trans ((ht.below HB.out.size (fun b hb => by have := hown b hb; omega)).trans (T2.below (by have := ht.size; have := HB.out.size; omega) (fun b hb => by rw [List.mem_singleton.1 hb]; omega)))
    · exact (Kp.of_below HB0.out).trans ((Kp.of_turns ht (fun b hb hf => by have := hown b hb; omega)).trans (Kp.of_turns T2 (fun b hb hf => by have := List.mem_singleton.1 hb; omega)))
  have FIN := Lib.hid FIN
  clear q1 q2 q3 q6 q7 r1 r2 hb0 hti hx hzx
  go_enter Tryd.func49, Tryd.ntmps49
  go_upto_region 1 with fail
  rw [← hW0]
  clear hW0
  by_cases hn : (i : Int) + 1 = n
  · have HG := Lib.hid (show goT n i = false from decide_eq_false (fun h => h hn))
    subst hn
    go_wp2_with (at_builtin; refine wpList_append_F OW.out (fun b hb hf => hf) rfl (.tmp 5) (.tmp 7) 23 rfl Tryd.underlying23 infoAct rfl (by decide) rfl #[.int .i64 x.rule, .slice A3 x.sub.length c3] _ rfl rfl HEL.out HLL.out (by decide) HK.out.2 ?_; rw [HTI.out]; intro g cap w2 ho ht _ _; obtain ⟨⟨z1, z2⟩, z3, z4, z5, z6⟩ := FIN.out g cap w2 (ho _ (fun _ _ h => h)) ht; have Z3 := Lib.hid z3; have Z4 := Lib.hid z4; clear ho ht z3 z4)
    go_ret
    exact ⟨ret_boolA (by rw [HG.out]), Z3.out, Z4.out⟩
  · have HG := Lib.hid (show goT n i = true from decide_eq_true hn)
    have f1 : (((i : Int) + 1) == n) = false := beq_false_of_ne hn
    have f2 : (((i : Int) + 1) != n) = true := bne_iff_ne.2 hn
    go_wp2_with (at_builtin; refine wpList_append_F OW.out (fun b hb hf => hf) rfl (.tmp 5) (.tmp 7) 23 rfl Tryd.underlying23 infoAct rfl (by decide) rfl #[.int .i64 x.rule, .slice A3 x.sub.length c3] _ rfl rfl HEL.out HLL.out (by decide) HK.out.2 ?_; rw [HTI.out]; intro g cap w2 ho ht _ _; obtain ⟨⟨z1, z2⟩, z3, z4, z5, z6⟩ := FIN.out g cap w2 (ho _ (fun _ _ h => h)) ht; have Z3 := Lib.hid z3; have Z4 := Lib.hid z4; clear ho ht z3 z4)
    go_ret
    exact ⟨ret_boolA (by rw [HG.out]), Z3.out, Z4.out⟩
set_option maxRecDepth 100000 in
set_option maxHeartbeats 4000000 in
theorem taken2W {M : List Nat} {p mc mf N : Nat} {G : Agd} (n : Int) (w : World) (h : AgAt M w p mc mf G N) (hlen : G.C.length ≤ 40000000) (hel : (eligA G).length ≤ 40000000) :
    Calls Tryd.prog 24 #[.pointer (some ⟨p, 0, none⟩), .int .i64 n] w (LstRes (tkn (eligA G) n) w) := by
  have eg : ∀ args w, (callFunc 49 args).run Tryd.prog w = .ok (.enter 49 args) w := enters_of Tryd.func49 (by kernel_rfl) rfl
  obtain ⟨w0, hw0⟩ : ∃ w0, w0 = (w.alloc (.cells #[.int .i64 n] 3)).alloc (.cells #[.slice none 0 0] 23) := ⟨_, rfl⟩
  have hb0 : Below w.heap.size w w0 := by rw [hw0]; exact ((Below.refl _ _).alloc (Nat.le_refl _) _).alloc (by simp) _
  have hs0 : w0.heap.size = w.heap.size + 2 := by rw [hw0]; simp
  have r0 : w0.heap[w.heap.size]? = some (.cells #[.int .i64 n] 3 (0, 0)) := by rw [hw0, heap_alloc_old _ _ (by simp)]; exact heap_alloc_new w _
  have r1 : w0.heap[w.heap.size + 1]? = some (.cells #[.slice none 0 0] 23 (0, 0)) := by
    have := heap_alloc_new (w.alloc (.cells #[.int .i64 n] 3)) (.cells #[.slice none 0 0] 23)
    rw [hw0]; simpa using this
  have EW := Lib.hid (each2W (cb := #[.pointer (some ⟨w.heap.size + 1, 0, none⟩), .pointer (some ⟨w.heap.size, 0, none⟩)]) (fun zs K i W => Tk2 (eligA G) n w w0 zs K i W) (goT n) w0 (h.below hb0) hlen eg
    (fun w1 v zs hw1 hz => ⟨⟨_, (hw1.block _ (by omega)).trans r1, by rw [List.take_zero]; exact OwnF.nil⟩, (hw1.block _ (by omega)).trans r0, fun z hzm => ⟨hz.sub z hzm, fun b hb => (ownBlock_cells (hz.sub z hzm).1 hb).2.1⟩, hz.ap, hw1.size, Nat.le_refl _, hb0.trans (hw1.mono hb0.size)⟩)
    (fun zs K i W W' h hb => h.below hb)
    (fun w1 zs hw1 hm i x sv W hx hk hst hsv hok => taken2FW x sv hs0 (by rw [← List.length_map (f := Prod.fst), hm]; exact hel) hx hst))
  have HS0 := Lib.hid hs0
  clear h hlen r0 r1 hb0 hs0
  go_enter Tryd.func24, Tryd.ntmps24
  go_upto_region 2 with fail
  rw [← hw0]
  clear hw0
  go_wp2_with fail
  refine EW.out.mono ?_
  rintro e w1 ⟨rfl, zs, K, k, hm, hsp, ⟨vo, q1, q3⟩, q2, q7, q8, q4, q5, q6⟩
  have htk := tkn_stop hsp
  have hfst : (zs.take k).map Prod.fst = tkn (eligA G) n := by rw [List.map_take, hm, htk]
  have HR := Lib.hid (show Zs w.heap.size w1 vo (zs.take k) from by
    have h2 := HS0.out
    refine ⟨?_, fun z hz => ?_, fun z hz b hb hb2 => ?_, q8.sublist (List.take_sublist _ _)⟩
    · have := q3.zrow
      refine ⟨this.1, ?_⟩
      rcases this.2 with h2 | ⟨g, cap, cur, h1, h2, h3⟩
      · exact .inl h2
      · exact .inr ⟨g, cap, cur, h1, by omega, h3⟩
    · have hz2 := q7 z (List.mem_of_mem_take hz)
      exact ⟨hz2.1.1.down (by omega), hz2.1.2⟩
    · have a1 := (q7 z (List.mem_of_mem_take hz)).2 b hb
      have a2 := (q3.block hb2).1
      omega)
  obtain ⟨A, c, hvo⟩ := q3.form
  obtain ⟨m, hml⟩ : ∃ m, (zs.take k).length = m := ⟨_, rfl⟩
  rw [hml] at hvo
  subst hvo
  have z0 : w1.cell? ⟨w.heap.size + 1, 0, none⟩ = some (.slice A m c) := cell_of_row _ _ 0 _ _ _ q1
  have HB := Lib.hid q6
  have HF := Lib.hid hfst
  clear q1 q2 q3 q6 q7 q8 EW hsp htk hfst hm hml
  go_wp2
  go_ret
  exact ⟨_, _, rfl, HR.out, HF.out, HB.out⟩
end Go.Proofs.YtjgigcnjgblekaaDoor
