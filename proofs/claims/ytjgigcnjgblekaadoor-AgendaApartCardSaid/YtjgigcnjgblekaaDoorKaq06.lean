/- The order of the agenda's acts, in plain words. Over any program. What the agenda tells, in plain words. Over any program. The law AgendaOrderless in plain words: made acts, changes, what is left. Over any program. -/
import Derived.Test.YtjgigcnjgblekaaDoorKaq03
import Derived.Test.YtjgigcnjgblekaaDoorKaq05
namespace Go.Proofs.YtjgigcnjgblekaaDoor
open Go Go.RowKit

/-- A comparison that orders, up to being alike; one that tells all apart. -/
structure Pre3 {α : Type} (c : α → α → Int) : Prop where
  neg : ∀ x y, c x y = - c y x
  tr : ∀ x y z, c x y ≤ 0 → c y z ≤ 0 → c x z ≤ 0
structure Ord3 {α : Type} (c : α → α → Int) : Prop extends Pre3 c where
  zero : ∀ x y, c x y = 0 → x = y
section
variable {α β : Type} {c c1 c2 : α → α → Int}
theorem Pre3.self (h : Pre3 c) (x : α) : c x x = 0 := by have := h.neg x x; omega
theorem Pre3.ze (h : Pre3 c) {x y z : α} (h1 : c x y = 0) (h2 : c y z = 0) : c x z = 0 := by
  have a := h.tr x y z (by omega) (by omega)
  have b := h.tr z y x (by have := h.neg y z; omega) (by have := h.neg x y; omega)
  have := h.neg x z
  omega
theorem Pre3.lt (h : Pre3 c) {x y z : α} (h1 : c x y < 0) (h2 : c y z ≤ 0) : c x z < 0 := by
  have a := h.tr x y z (by omega) h2
  rcases Int.lt_or_eq_of_le a with h3 | h3
  · exact h3
  · have b := h.tr y z x h2 (by have := h.neg x z; omega)
    have := h.neg x y
    omega
theorem Pre3.lt' (h : Pre3 c) {x y z : α} (h1 : c x y ≤ 0) (h2 : c y z < 0) : c x z < 0 := by
  have a := h.tr x y z h1 (by omega)
  rcases Int.lt_or_eq_of_le a with h3 | h3
  · exact h3
  · have b := h.tr z x y (by have := h.neg x z; omega) h1
    have := h.neg y z
    omega
theorem Pre3.comap (h : Pre3 c) (f : β → α) : Pre3 (fun x y => c (f x) (f y)) := ⟨fun _x _y => h.neg _ _, fun _x _y _z => h.tr _ _ _⟩
theorem Pre3.lex (h1 : Pre3 c1) (h2 : Pre3 c2) : Pre3 (fun x y => if c1 x y = 0 then c2 x y else c1 x y) := by
  refine ⟨fun x y => ?_, fun x y z => ?_⟩
  · have n1 := h1.neg x y
    have n2 := h2.neg x y
    by_cases e : c1 x y = 0
    · rw [if_pos e, if_pos (by omega)]; exact n2
    · rw [if_neg e, if_neg (by omega)]; exact n1
  · intro a b
    by_cases e1 : c1 x y = 0
    · rw [if_pos e1] at a
      by_cases e2 : c1 y z = 0
      · rw [if_pos e2] at b
        rw [if_pos (h1.ze e1 e2)]
        exact h2.tr x y z a b
      · rw [if_neg e2] at b
        have := h1.lt' (x := x) (y := y) (z := z) (by omega) (by omega)
        rw [if_neg (by omega)]; omega
    · rw [if_neg e1] at a
      have hb : c1 y z ≤ 0 := by
        by_cases e2 : c1 y z = 0
        · omega
        · rw [if_neg e2] at b; exact b
      have := h1.lt (x := x) (y := y) (z := z) (by omega) hb
      rw [if_neg (by omega)]; omega
theorem lex_zero {a b : Int} (h : (if a = 0 then b else a) = 0) : a = 0 ∧ b = 0 := by
  by_cases e : a = 0
  · rw [if_pos e] at h; exact ⟨e, h⟩
  · rw [if_neg e] at h; exact absurd h e
end
/-- Lists, element by element. -/
def cmpLx {α : Type} (c : α → α → Int) : List α → List α → Int
  | [], [] => 0
  | [], _ :: _ => -1
  | _ :: _, [] => 1
  | x :: r, y :: s => if c x y = 0 then cmpLx c r s else c x y
theorem ord_lx {α : Type} {c : α → α → Int} (h : Ord3 c) : Ord3 (cmpLx c) := by
  refine ⟨⟨?_, ?_⟩, ?_⟩
  · intro x
    induction x with
    | nil => intro y; cases y <;> simp [cmpLx]
    | cons a r ih =>
      intro y
      cases y with
      | nil => simp [cmpLx]
      | cons b s =>
        have n := h.neg a b
        simp only [cmpLx]
        by_cases e : c a b = 0
        · rw [if_pos e, if_pos (by omega)]; exact ih s
        · rw [if_neg e, if_neg (by omega)]; exact n
  · intro x
    induction x with
    | nil => intro y z _ _; cases z <;> simp [cmpLx]
    | cons a r ih =>
      intro y z h1 h2
      cases y with
      | nil => simp [cmpLx] at h1
      | cons b s =>
        cases z with
        | nil => simp [cmpLx] at h2
        | cons d t =>
          simp only [cmpLx] at h1 h2 ⊢
          by_cases e1 : c a b = 0
          · rw [if_pos e1] at h1
            have := h.zero _ _ e1
            subst this
            by_cases e2 : c a d = 0
            · rw [if_pos e2] at h2 ⊢
              exact ih s t h1 h2
            · rw [if_neg e2] at h2 ⊢
              exact h2
          · rw [if_neg e1] at h1
            have hb : c b d ≤ 0 := by
              by_cases e2 : c b d = 0
              · omega
              · rw [if_neg e2] at h2; exact h2
            have := h.toPre3.lt (x := a) (y := b) (z := d) (by omega) hb
            rw [if_neg (by omega)]; omega
  · intro x
    induction x with
    | nil => intro y e; cases y with
      | nil => rfl
      | cons b s => simp [cmpLx] at e
    | cons a r ih =>
      intro y e
      cases y with
      | nil => simp [cmpLx] at e
      | cons b s =>
        simp only [cmpLx] at e
        obtain ⟨e1, e2⟩ := lex_zero e
        rw [h.zero _ _ e1, ih s e2]
instance instCstA : Inhabited Cst := ⟨⟨0, 0, ⟨#[]⟩⟩⟩
/-- Ids by their constants, then by themselves. -/
def cmpId (cs : List Cst) (x y : Int) : Int := if cmpC (cs.getD x.toNat default) (cs.getD y.toNat default) = 0 then cmpI x y else cmpC (cs.getD x.toNat default) (cs.getD y.toNat default)
def cmpA (cs : List Cst) (a b : Ac) : Int := if cmpI a.rule b.rule = 0 then cmpLx (cmpId cs) a.sub b.sub else cmpI a.rule b.rule
theorem pre_I : Pre3 cmpI := ⟨cmpI_neg, fun x y z => by unfold cmpI; intro h1 h2; split at h1 <;> split at h2 <;> split <;> omega⟩
theorem pre_C : Pre3 cmpC := ⟨cmpC_neg, fun _ _ _ h1 h2 => cmpC_le_trans h1 h2⟩
theorem ord_id (cs : List Cst) : Ord3 (cmpId cs) :=
  ⟨(pre_C.comap (fun x : Int => cs.getD x.toNat default)).lex pre_I, fun _x _y h => cmpI_zero.1 (lex_zero h).2⟩
theorem ord_A (cs : List Cst) : Ord3 (cmpA cs) := by
  refine ⟨(pre_I.comap Ac.rule).lex ((ord_lx (ord_id cs)).toPre3.comap Ac.sub), fun x y h => ?_⟩
  obtain ⟨h1, h2⟩ := lex_zero h
  have e1 := cmpI_zero.1 h1
  have e2 := (ord_lx (ord_id cs)).zero _ _ h2
  obtain ⟨xr, xs⟩ := x
  obtain ⟨yr, ys⟩ := y
  simp only at e1 e2
  subst e1 e2
  rfl
/-- In order; the one list in order with the same acts. -/
def leA (cs : List Cst) (a b : Ac) : Bool := decide (cmpA cs a b ≤ 0)
def SdA (cs : List Cst) (l : List Ac) : Prop := l.Pairwise (fun a b => leA cs a b = true)
theorem leA_trans (cs : List Cst) (a b c : Ac) (h1 : leA cs a b = true) (h2 : leA cs b c = true) : leA cs a c = true := by
  unfold leA at *
  simp only [decide_eq_true_eq] at *
  exact (ord_A cs).tr a b c h1 h2
theorem leA_total (cs : List Cst) (a b : Ac) : (leA cs a b || leA cs b a) = true := by
  unfold leA
  have := (ord_A cs).neg a b
  simp only [Bool.or_eq_true, decide_eq_true_eq]
  omega
theorem leA_anti {cs : List Cst} {a b : Ac} (h1 : leA cs a b = true) (h2 : leA cs b a = true) : a = b := by
  unfold leA at *
  simp only [decide_eq_true_eq] at *
  have := (ord_A cs).neg a b
  exact (ord_A cs).zero a b (by omega)
theorem sdA_eq {cs : List Cst} {l m : List Ac} (hl : SdA cs l) (hm : SdA cs m) (h : l.Perm m) : l = m :=
  h.eq_of_pairwise (fun _a _b _ _ h1 h2 => leA_anti h1 h2) hl hm
def sortA (cs : List Cst) (l : List Ac) : List Ac := l.mergeSort (leA cs)
theorem sortA_perm (cs : List Cst) (l : List Ac) : (sortA cs l).Perm l := List.mergeSort_perm l _
theorem sortA_sd (cs : List Cst) (l : List Ac) : SdA cs (sortA cs l) := List.pairwise_mergeSort (leA_trans cs) (leA_total cs) l
theorem sortA_of {cs : List Cst} {l m : List Ac} (hm : SdA cs m) (h : m.Perm l) : m = sortA cs l := sdA_eq hm (sortA_sd cs l) (h.trans (sortA_perm cs l).symm)
theorem sortA_congr {cs : List Cst} {l m : List Ac} (h : l.Perm m) : sortA cs l = sortA cs m := sortA_of (sortA_sd cs l) ((sortA_perm cs l).trans h)
end Go.Proofs.YtjgigcnjgblekaaDoor

namespace Go.Proofs.YtjgigcnjgblekaaDoor
open Go Go.RowKit Classical

/-- An agenda: strata, constants, the conflict set, what has fired. -/
structure Agd where
  lv : List Int
  cs : List Cst
  C : List Ac
  D : List Ac
/-- One of the agenda's acts? -/
def ownA (g : Agd) (a : Ac) : Prop := (0 ≤ a.rule ∧ a.rule < (g.lv.length : Int)) ∧ ∀ i ∈ a.sub, 0 ≤ i ∧ i < (g.cs.length : Int)
def lvl (lv : List Int) (a : Ac) : Int := lv.getD a.rule.toNat 0
/-- All is well in it. -/
structure AgOk (g : Agd) : Prop where
  lv : ∀ l ∈ g.lv, 0 ≤ l
  ownC : ∀ a ∈ g.C, ownA g a
  ownD : ∀ a ∈ g.D, ownA g a
  nodC : g.C.Nodup
  nodD : g.D.Nodup
theorem lvl_pos {g : Agd} (h : AgOk g) (a : Ac) : 0 ≤ lvl g.lv a := by
  unfold lvl
  rw [List.getD_eq_getElem?_getD]
  cases e : g.lv[a.rule.toNat]? with
  | none => exact Int.le_refl _
  | some l => exact h.lv l (List.mem_of_getElem? e)
noncomputable def openA (g : Agd) : List Ac := g.C.filter fun a => decide (a ∉ g.D)
/-- The lowest stratum, act by act. -/
noncomputable def lowS (lv : List Int) (s : Int) (a : Ac) : Int := if s < 0 ∨ lvl lv a < s then lvl lv a else s
noncomputable def strL (lv : List Int) (l : List Ac) : Int := l.foldl (lowS lv) (-1)
noncomputable def strA (g : Agd) : Int := strL g.lv (openA g)
noncomputable def eligA (g : Agd) : List Ac := sortA g.cs ((openA g).filter fun a => decide (lvl g.lv a = strA g))
/-- The lowest: none where there is no act; else one that is met, and no act lies lower. -/
def Low (lv : List Int) (l : List Ac) (s : Int) : Prop := (l = [] ∧ s = -1) ∨ (∃ a ∈ l, lvl lv a = s) ∧ ∀ a ∈ l, s ≤ lvl lv a
theorem low_un {lv : List Int} {l m : List Ac} {s t : Int} (hm : ∀ a, a ∈ l ↔ a ∈ m) (h : Low lv l s) (h' : Low lv m t) : s = t := by
  rcases h with ⟨rfl, rfl⟩ | ⟨⟨a, ha, rfl⟩, h2⟩ <;> rcases h' with ⟨rfl, rfl⟩ | ⟨⟨b, hb, rfl⟩, h4⟩
  · rfl
  · exact absurd ((hm b).2 hb) (by simp)
  · exact absurd ((hm a).1 ha) (by simp)
  · have h5 := h2 b ((hm b).2 hb)
    have h6 := h4 a ((hm a).1 ha)
    omega
theorem low_step {lv : List Int} {l : List Ac} {s : Int} (hp : ∀ a ∈ l, 0 ≤ lvl lv a) (h : Low lv l s) (a : Ac) : Low lv (l ++ [a]) (lowS lv s a) := by
  right
  unfold lowS
  rcases h with ⟨rfl, rfl⟩ | ⟨⟨b, hb, rfl⟩, h2⟩
  · rw [if_pos (.inl (by omega))]
    exact ⟨⟨a, by simp, rfl⟩, fun x hx => by simp at hx; rw [hx]; exact Int.le_refl _⟩
  · have hb0 := hp b hb
    by_cases h3 : lvl lv a < lvl lv b
    · rw [if_pos (.inr h3)]
      refine ⟨⟨a, by simp, rfl⟩, fun x hx => ?_⟩
      rcases List.mem_append.1 hx with hx | hx
      · have := h2 x hx; omega
      · rw [List.mem_singleton.1 hx]; exact Int.le_refl _
    · rw [if_neg (by omega)]
      refine ⟨⟨b, List.mem_append_left _ hb, rfl⟩, fun x hx => ?_⟩
      rcases List.mem_append.1 hx with hx | hx
      · exact h2 x hx
      · rw [List.mem_singleton.1 hx]; omega
theorem low_strL {lv : List Int} : ∀ (m l : List Ac) (s : Int), (∀ a, a ∈ l ∨ a ∈ m → 0 ≤ lvl lv a) → Low lv l s → Low lv (l ++ m) (m.foldl (lowS lv) s)
  | [], l, s, _, h => by simpa using h
  | a :: m, l, s, hp, h => by
    have := low_strL m (l ++ [a]) (lowS lv s a) (fun x hx => hp x (by
      rcases hx with hx | hx
      · rcases List.mem_append.1 hx with hx | hx
        · exact .inl hx
        · exact .inr (by rw [List.mem_singleton.1 hx]; exact List.mem_cons_self ..)
      · exact .inr (List.mem_cons_of_mem _ hx))) (low_step (fun x hx => hp x (.inl hx)) h a)
    simpa using this
theorem strL_low {lv : List Int} (hl : ∀ a, 0 ≤ lvl lv a) (l : List Ac) : Low lv l (strL lv l) := by
  have := low_strL l [] (-1) (fun a _ => hl a) (.inl ⟨rfl, rfl⟩)
  simpa [strL] using this
/-- Two agendas that hold the same acts tell the same. -/
structure Alike (g h : Agd) : Prop where
  lv : g.lv = h.lv
  cs : g.cs = h.cs
  C : g.C.Perm h.C
  D : ∀ a, a ∈ g.D ↔ a ∈ h.D
theorem Alike.open {g h : Agd} (k : Alike g h) : (openA g).Perm (openA h) := by
  unfold openA
  have e : (fun a => decide (a ∉ g.D)) = (fun a => decide (a ∉ h.D)) := by
    funext a
    exact decide_eq_decide.2 (not_congr (k.D a))
  rw [e]
  exact k.C.filter _
theorem Alike.str {g h : Agd} (k : Alike g h) (hg : AgOk g) : strA g = strA h := by
  unfold strA
  have l2 := strL_low (lvl_pos hg) (openA h)
  rw [k.lv] at l2
  have l1 := strL_low (lvl_pos hg) (openA g)
  rw [k.lv] at l1 ⊢
  exact low_un (fun a => k.open.mem_iff) l1 l2
theorem Alike.elig {g h : Agd} (k : Alike g h) (hg : AgOk g) : eligA g = eligA h := by
  unfold eligA
  rw [k.str hg, k.lv, k.cs]
  exact sortA_congr (k.open.filter _)
end Go.Proofs.YtjgigcnjgblekaaDoor

namespace Go.Proofs.YtjgigcnjgblekaaDoor
open Go Go.RowKit Classical

/-- k modulo n, from 0 on. -/
def modZ (k n : Int) : Int := k % n
theorem modZ_rng {k n : Int} (h : 0 < n) : 0 ≤ modZ k n ∧ modZ k n < n := ⟨Int.emod_nonneg _ (by omega), Int.emod_lt_of_pos _ h⟩
/-- The act that is made of any. -/
def madeSub (x : Ac) (k : Nat) : List Int := (List.range k).map fun i => modZ (x.sub.getD i 0) 4
def madeA (x : Ac) : Ac := ⟨modZ x.rule 3, madeSub x (modZ x.rule 3).toNat⟩
theorem madeSub_succ (x : Ac) (k : Nat) : madeSub x (k + 1) = madeSub x k ++ [modZ (x.sub.getD k 0) 4] := by simp [madeSub, List.range_succ]
theorem made_own {g : Agd} (h1 : 3 ≤ g.lv.length) (h2 : g.cs.length = 4) (x : Ac) : ownA g (madeA x) := by
  have h3 := modZ_rng (k := x.rule) (n := 3) (by omega)
  refine ⟨⟨h3.1, by show modZ x.rule 3 < _; omega⟩, fun i hi => ?_⟩
  obtain ⟨j, _, rfl⟩ := List.mem_map.1 (show i ∈ madeSub x _ from hi)
  have h4 := modZ_rng (k := x.sub.getD j 0) (n := 4) (by omega)
  exact ⟨h4.1, by rw [h2]; exact h4.2⟩
/-- An act comes: where it is not there yet. -/
noncomputable def addA (C : List Ac) (a : Ac) : List Ac := if a ∈ C then C else C ++ [a]
noncomputable def dropA (C : List Ac) (a : Ac) : List Ac := C.filter fun b => decide (b ≠ a)
theorem nod_snoc {C : List Ac} {a : Ac} (h : C.Nodup) (ha : a ∉ C) : (C ++ [a]).Nodup := by
  rw [List.nodup_append]
  exact ⟨h, by simp, fun b hb c hc e => ha (by rw [List.mem_singleton.1 hc] at e; rw [← e]; exact hb)⟩
theorem addA_nod {C : List Ac} (h : C.Nodup) (a : Ac) : (addA C a).Nodup := by
  unfold addA
  by_cases ha : a ∈ C
  · rw [if_pos ha]; exact h
  · rw [if_neg ha]; exact nod_snoc h ha
theorem dropA_nod {C : List Ac} (h : C.Nodup) (a : Ac) : (dropA C a).Nodup := h.filter _
theorem dropA_mem {C : List Ac} {a b : Ac} : b ∈ dropA C a ↔ b ∈ C ∧ b ≠ a := by simp [dropA]
theorem AgOk.add {g : Agd} (h : AgOk g) {a : Ac} (ho : ownA g a) (ha : a ∉ g.C) : AgOk { g with C := g.C ++ [a] } :=
  ⟨h.lv, fun b hb => by
    rcases List.mem_append.1 hb with hb | hb
    · exact h.ownC b hb
    · rw [List.mem_singleton.1 hb]; exact ho, h.ownD, nod_snoc h.nodC ha, h.nodD⟩
theorem AgOk.drop {g : Agd} (h : AgOk g) (a : Ac) : AgOk { g with C := dropA g.C a } :=
  ⟨h.lv, fun b hb => h.ownC b (dropA_mem.1 hb).1, h.ownD, dropA_nod h.nodC a, h.nodD⟩
theorem AgOk.fire {g : Agd} (h : AgOk g) {a : Ac} (ho : ownA g a) (ha : a ∉ g.D) : AgOk { g with D := g.D ++ [a] } :=
  ⟨h.lv, h.ownC, fun b hb => by
    rcases List.mem_append.1 hb with hb | hb
    · exact h.ownD b hb
    · rw [List.mem_singleton.1 hb]; exact ho, h.nodC, nod_snoc h.nodD ha⟩
/-- All taken out again: nothing is left. -/
theorem drop_all : ∀ (l C : List Ac), (∀ a ∈ C, a ∈ l) → l.foldl dropA C = []
  | [], C, h => by
    cases C with
    | nil => rfl
    | cons a r => exact absurd (h a (List.mem_cons_self ..)) (by simp)
  | a :: l, C, h => drop_all l (dropA C a) (fun b hb => by
      obtain ⟨h1, h2⟩ := dropA_mem.1 hb
      rcases List.mem_cons.1 (h b h1) with e | e
      · exact absurd e h2
      · exact e)
theorem drop_mem : ∀ (l C : List Ac) (b : Ac), b ∈ l.foldl dropA C ↔ b ∈ C ∧ b ∉ l
  | [], C, b => by simp
  | a :: l, C, b => by
    rw [List.foldl_cons, drop_mem l (dropA C a) b, dropA_mem]
    simp only [List.mem_cons, not_or]
    exact ⟨fun ⟨⟨h1, h2⟩, h3⟩ => ⟨h1, h2, h3⟩, fun ⟨h1, h2, h3⟩ => ⟨⟨h1, h2⟩, h3⟩⟩
/-- What may fire: some just if something is open. -/
theorem elig_ne {g : Agd} (h : AgOk g) : eligA g = [] ↔ openA g = [] := by
  unfold eligA
  constructor
  · intro e
    have e2 : (openA g).filter (fun a => decide (lvl g.lv a = strA g)) = [] := by
      have := (sortA_perm g.cs ((openA g).filter fun a => decide (lvl g.lv a = strA g))).length_eq
      rw [e] at this
      exact List.eq_nil_of_length_eq_zero this.symm
    rcases strL_low (lvl_pos h) (openA g) with ⟨h1, _⟩ | ⟨⟨a, ha, h2⟩, _⟩
    · exact h1
    · have h3 : a ∈ (openA g).filter (fun a => decide (lvl g.lv a = strA g)) := List.mem_filter.2 ⟨ha, decide_eq_true h2⟩
      rw [e2] at h3
      cases h3
  · intro e
    rw [e]
    simp [sortA]
theorem str_none {g : Agd} (h : AgOk g) : strA g = -1 ↔ openA g = [] := by
  constructor
  · intro e
    rcases strL_low (lvl_pos h) (openA g) with ⟨h1, _⟩ | ⟨⟨a, ha, h2⟩, _⟩
    · exact h1
    · have := lvl_pos h a
      unfold strA at e
      omega
  · intro e
    unfold strA
    rw [e]
    rfl
theorem open_noD {g : Agd} (h : g.D = []) : openA g = g.C := by
  unfold openA
  rw [h]
  simp
end Go.Proofs.YtjgigcnjgblekaaDoor
