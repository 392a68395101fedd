/- AgendaOrderless: the state between its calls. The reference's Same, at, copied, without. The walks. The reference's at, without. The walks. -/
import Derived.Test.YtjgigcnjgblekaaDoorKap11
import Derived.Test.YtjgigcnjgblekaaDoorKap23
namespace Go.Proofs.YtjgigcnjgblekaaDoor
open Go Go.RowKit Go.Maps Classical

def fourL : List Cst := [⟨2, 0, ⟨#[98]⟩⟩, ⟨2, 0, ⟨#[97]⟩⟩, ⟨1, 9, ⟨#[]⟩⟩, ⟨3, 0, ⟨#[]⟩⟩]
/-- Where the two agendas lie. -/
structure OrC where
  w1 : World
  pa : Nat
  ma : Nat
  fa : Nat
  pb : Nat
  mb : Nat
  fb : Nat
  lv : List Int
structure OrC.Ok (c : OrC) : Prop where
  lv : 3 ≤ c.lv.length
  ma : c.ma < c.w1.heap.size
  fa : c.fa < c.w1.heap.size
  mb : c.mb < c.w1.heap.size
  fb : c.fb < c.w1.heap.size
  n1 : c.ma ≠ c.mb
  n2 : c.ma ≠ c.fb
  n3 : c.fa ≠ c.mb
/-- Two agendas, one with the acts C, one with D; the changes li and lo in rows. -/
structure Orl (c : OrC) (N : Nat) (M : List Nat) (vi vo : Value) (C D li lo : List Ac) (w : World) : Prop where
  a : AgAt M w c.pa c.ma c.fa ⟨c.lv, fourL, C, []⟩ N
  b : AgAt M w c.pb c.mb c.fb ⟨c.lv, fourL, D, []⟩ N
  inn : OwnF (fun b => b ∉ M) c.w1.heap.size w 36 cdChg vi (li.map fun x => (true, x))
  out : OwnF (fun b => b ∉ M) c.w1.heap.size w 36 cdChg vo (lo.map fun x => (false, x))
  iM : ∀ b, vi.ownBlock = some b → b ∈ M
  oM : ∀ b, vo.ownBlock = some b → b ∈ M
  io : ∀ b, vi.ownBlock = some b → vo.ownBlock ≠ some b
  M : ∀ x ∈ M, x < w.heap.size
  turns : Turns [c.ma, c.mb] c.w1 w
section
variable {c : OrC} {N : Nat} {M : List Nat} {vi vo v : Value} {C D li lo C' : List Ac} {w w' : World}
theorem Orl.below (h : Orl c N M vi vo C D li lo w) (hb : Below w.heap.size w w') : Orl c N M vi vo C D li lo w' :=
  ⟨h.a.below hb, h.b.below hb, h.inn.below hb, h.out.below hb, h.iM, h.oM, h.io, fun x hx => Nat.lt_of_lt_of_le (h.M x hx) hb.size, h.turns.trans (S' := []) (Turns.of_below hb) (fun x hx => by simp at hx)⟩
theorem Orl.mono {N' : Nat} (h : Orl c N M vi vo C D li lo w) (hn : N ≤ N') : Orl c N' M vi vo C D li lo w :=
  ⟨h.a.mono hn, h.b.mono hn, h.inn, h.out, h.iM, h.oM, h.io, h.M, h.turns⟩
theorem Orl.iB (h : Orl c N M vi vo C D li lo w) {b : Nat} (hb : vi.ownBlock = some b) : c.w1.heap.size ≤ b ∧ b < w.heap.size := ⟨(h.inn.block hb).1, (h.inn.block hb).2.1⟩
theorem Orl.oB (h : Orl c N M vi vo C D li lo w) {b : Nat} (hb : vo.ownBlock = some b) : c.w1.heap.size ≤ b ∧ b < w.heap.size := ⟨(h.out.block hb).1, (h.out.block hb).2.1⟩
theorem Orl.stepA (h : Orl c N M vi vo C D li lo w) (k : c.Ok) {N' : Nat} (hn : N ≤ N') (ha : AgAt M w' c.pa c.ma c.fa ⟨c.lv, fourL, C', []⟩ N') (T : Turns [c.ma] w w') : Orl c N' M vi vo C' D li lo w' := by
  have hF : ∀ b ∈ [c.ma], ¬ b ∉ M := fun b hb hm => by rw [List.mem_singleton.1 hb] at hm; exact hm h.a.cM
  have km := k.ma
  exact ⟨ha, (h.b.step T (fun x hx => by rw [List.mem_singleton.1 hx]; exact ⟨h.a.cM, k.n1, k.n2⟩) (fun _ h => h) (fun _ h => .inl h)).mono hn,
    h.inn.keep T (fun b hb hm => by have := h.iB hb; rw [List.mem_singleton.1 hm] at this; omega) hF (fun _ _ h => h),
    h.out.keep T (fun b hb hm => by have := h.oB hb; rw [List.mem_singleton.1 hm] at this; omega) hF (fun _ _ h => h),
    h.iM, h.oM, h.io, fun x hx => Nat.lt_of_lt_of_le (h.M x hx) T.size, h.turns.trans T (fun x hx => .inl (by rw [List.mem_singleton.1 hx]; simp))⟩
theorem Orl.stepB (h : Orl c N M vi vo C D li lo w) (k : c.Ok) {N' : Nat} (hn : N ≤ N') (hb : AgAt M w' c.pb c.mb c.fb ⟨c.lv, fourL, C', []⟩ N') (T : Turns [c.mb] w w') : Orl c N' M vi vo C C' li lo w' := by
  have hF : ∀ b ∈ [c.mb], ¬ b ∉ M := fun b hx hm => by rw [List.mem_singleton.1 hx] at hm; exact hm h.b.cM
  have km := k.mb
  exact ⟨(h.a.step T (fun x hx => by rw [List.mem_singleton.1 hx]; exact ⟨h.b.cM, k.n1.symm, k.n3.symm⟩) (fun _ h => h) (fun _ h => .inl h)).mono hn, hb,
    h.inn.keep T (fun b hb hm => by have := h.iB hb; rw [List.mem_singleton.1 hm] at this; omega) hF (fun _ _ h => h),
    h.out.keep T (fun b hb hm => by have := h.oB hb; rw [List.mem_singleton.1 hm] at this; omega) hF (fun _ _ h => h),
    h.iM, h.oM, h.io, fun x hx => Nat.lt_of_lt_of_le (h.M x hx) T.size, h.turns.trans T (fun x hx => .inl (by rw [List.mem_singleton.1 hx]; simp))⟩
/-- A row of its own turns, or grows into a new block g. -/
theorem Orl.rowI (h : Orl c N M vi vo C D li lo w) (k : c.Ok) {g : Nat} {li' : List Ac} (T : Turns vi.ownBlock.toList w w') (hat : vi.ownBlock = some g ∨ w.heap.size ≤ g) (hg : g < w'.heap.size) (hv : v.ownBlock = some g)
    (hO : ∀ F', (∀ b, b < w.heap.size → b ∉ M → F' b) → OwnF F' c.w1.heap.size w' 36 cdChg v (li'.map fun x => (true, x))) : Orl c N (g :: M) v vo C D li' lo w' := by
  have hS : ∀ x ∈ vi.ownBlock.toList, x ∈ M ∧ c.w1.heap.size ≤ x := fun x hx => ⟨h.iM x (by simpa using hx), (h.iB (by simpa using hx)).1⟩
  have hM' : ∀ x ∈ g :: M, x ∈ M ∨ w.heap.size ≤ x := fun x hx => by
    rcases List.mem_cons.1 hx with rfl | hx
    · rcases hat with e | e
      · exact .inl (h.iM _ e)
      · exact .inr e
    · exact .inl hx
  have hF : ∀ b, b < w.heap.size → b ∉ M → b ∉ g :: M := fun b hb hn hm => by
    rcases hM' b hm with e | e
    · exact hn e
    · omega
  have k1 := k.ma; have k2 := k.fa; have k3 := k.mb; have k4 := k.fb
  refine ⟨h.a.step T (fun x hx => ⟨(hS x hx).1, by have := (hS x hx).2; omega, by have := (hS x hx).2; omega⟩) (fun _ h => List.mem_cons_of_mem _ h) hM',
    h.b.step T (fun x hx => ⟨(hS x hx).1, by have := (hS x hx).2; omega, by have := (hS x hx).2; omega⟩) (fun _ h => List.mem_cons_of_mem _ h) hM',
    hO _ hF, h.out.keep T (fun b hb hm => h.io b (by simpa using hm) hb) (fun b hb hm => hm (hS b hb).1) hF,
    fun b hb => by rw [hv] at hb; simp only [Option.some.injEq] at hb; rw [hb]; exact List.mem_cons_self .., fun b hb => List.mem_cons_of_mem _ (h.oM b hb), fun b hb e => ?_, fun x hx => ?_,
    h.turns.trans T (fun x hx => .inr (hS x hx).2)⟩
  · rw [hv] at hb
    simp only [Option.some.injEq] at hb
    subst hb
    rcases hat with hat | hat
    · exact h.io _ hat e
    · have := h.oB e; omega
  · rcases List.mem_cons.1 hx with rfl | hx
    · exact hg
    · exact Nat.lt_of_lt_of_le (h.M x hx) T.size
theorem Orl.rowO (h : Orl c N M vi vo C D li lo w) (k : c.Ok) {g : Nat} {lo' : List Ac} (T : Turns vo.ownBlock.toList w w') (hat : vo.ownBlock = some g ∨ w.heap.size ≤ g) (hg : g < w'.heap.size) (hv : v.ownBlock = some g)
    (hO : ∀ F', (∀ b, b < w.heap.size → b ∉ M → F' b) → OwnF F' c.w1.heap.size w' 36 cdChg v (lo'.map fun x => (false, x))) : Orl c N (g :: M) vi v C D li lo' w' := by
  have hS : ∀ x ∈ vo.ownBlock.toList, x ∈ M ∧ c.w1.heap.size ≤ x := fun x hx => ⟨h.oM x (by simpa using hx), (h.oB (by simpa using hx)).1⟩
  have hM' : ∀ x ∈ g :: M, x ∈ M ∨ w.heap.size ≤ x := fun x hx => by
    rcases List.mem_cons.1 hx with rfl | hx
    · rcases hat with e | e
      · exact .inl (h.oM _ e)
      · exact .inr e
    · exact .inl hx
  have hF : ∀ b, b < w.heap.size → b ∉ M → b ∉ g :: M := fun b hb hn hm => by
    rcases hM' b hm with e | e
    · exact hn e
    · omega
  have k1 := k.ma; have k2 := k.fa; have k3 := k.mb; have k4 := k.fb
  refine ⟨h.a.step T (fun x hx => ⟨(hS x hx).1, by have := (hS x hx).2; omega, by have := (hS x hx).2; omega⟩) (fun _ h => List.mem_cons_of_mem _ h) hM',
    h.b.step T (fun x hx => ⟨(hS x hx).1, by have := (hS x hx).2; omega, by have := (hS x hx).2; omega⟩) (fun _ h => List.mem_cons_of_mem _ h) hM',
    h.inn.keep T (fun b hb hm => h.io b hb (by simpa using hm)) (fun b hb hm => hm (hS b hb).1) hF, hO _ hF,
    fun b hb => List.mem_cons_of_mem _ (h.iM b hb), fun b hb => by rw [hv] at hb; simp only [Option.some.injEq] at hb; rw [hb]; exact List.mem_cons_self .., fun b hb e => ?_, fun x hx => ?_,
    h.turns.trans T (fun x hx => .inr (hS x hx).2)⟩
  · rw [hv] at e
    simp only [Option.some.injEq] at e
    subst e
    rcases hat with hat | hat
    · exact h.io _ hb hat
    · have := h.iB hb; omega
  · rcases List.mem_cons.1 hx with rfl | hx
    · exact hg
    · exact Nat.lt_of_lt_of_le (h.M x hx) T.size
/-- The row `in` is written over. -/
theorem Orl.turnI (h : Orl c N M vi vo C D li lo w) (k : c.Ok) {g : Nat} {li' : List Ac} (hvi : vi.ownBlock = some g) (T : Turns [g] w w') (hO : OwnF (fun b => b ∉ M) c.w1.heap.size w' 36 cdChg vi (li'.map fun x => (true, x))) : Orl c N M vi vo C D li' lo w' := by
  have hgM := h.iM g hvi
  have hgB := (h.iB hvi).1
  have hS : ∀ x ∈ [g], x ∈ M ∧ c.w1.heap.size ≤ x := fun x hx => by rw [List.mem_singleton.1 hx]; exact ⟨hgM, hgB⟩
  have k1 := k.ma; have k2 := k.fa; have k3 := k.mb; have k4 := k.fb
  exact ⟨h.a.step T (fun x hx => ⟨(hS x hx).1, by have := (hS x hx).2; omega, by have := (hS x hx).2; omega⟩) (fun _ h => h) (fun _ h => .inl h),
    h.b.step T (fun x hx => ⟨(hS x hx).1, by have := (hS x hx).2; omega, by have := (hS x hx).2; omega⟩) (fun _ h => h) (fun _ h => .inl h),
    hO, h.out.keep T (fun b hb hm => h.io b (by rw [List.mem_singleton.1 hm]; exact hvi) hb) (fun b hb hm => hm (hS b hb).1) (fun _ _ h => h), h.iM, h.oM, h.io, fun x hx => Nat.lt_of_lt_of_le (h.M x hx) T.size,
    h.turns.trans T (fun x hx => .inr (hS x hx).2)⟩
end
/-- One change alone, in a new block. -/
theorem one_chg {F : Nat → Prop} {w : World} {H : Nat} {x : Bool × Ac} {sv : Value} {T : TypeId} (h : w.heap[H]? = some (.cells #[.bool x.1, .int .i64 x.2.rule, sv] T (0, 0))) (hF : F H) (hok : AcOk x.2) (hs : RSl F w 1 EInt sv x.2.sub) : RSl F w 3 (EChg F w) (.slice (some ⟨H, 0, none⟩) 1 1) [x] := by
  refine ⟨some ⟨H, 0, none⟩, 1, rfl, Nat.le_refl _, by unfold maxLen; decide, (fun h => by cases h), .inr ⟨H, 0, rfl, hF, lt_of_heap h, fun i y hy => ?_⟩⟩
  match i with
  | 0 =>
    simp only [List.getElem?_cons_zero, Option.some.injEq] at hy
    subst hy
    refine ⟨_, ⟨sv, rfl, hok, hs⟩, fun j u hu => ?_⟩
    rw [show 0 + 0 * 3 + j = j by omega]
    exact (cell_of_row _ _ j _ _ _ h).trans (by simpa using hu)
  | i + 1 => simp at hy
theorem app_one {g : Agd} (a : Ac) (ho : ownA g a) : appF g [(true, a)] 0 = if a ∈ g.C then (0, 51, g) else (1, 0, { g with C := g.C ++ [a] }) := by
  by_cases h : a ∈ g.C
  · rw [if_pos h, app_stop (by rw [chg_twice ho h]; exact (by decide : (51 : Int) ≠ 0)), chg_twice ho h]
  · rw [if_neg h]
    have := app_come [a] g 0 (fun b hb => by rw [List.mem_singleton.1 hb]; exact ho) (by simp) (fun b hb => by rw [List.mem_singleton.1 hb]; exact h)
    simpa using this
/-- Both agendas new. -/
theorem orl_start {w4 w6 : World} {pa ma fa pb mb fb : Nat} {lv : List Int} (hA : AgAt [ma, fa] w4 pa ma fa ⟨lv, fourL, [], []⟩ 0) (hb : Below w4.heap.size w4 w6) (hB : AgAt [mb, fb, ma, fa] w6 pb mb fb ⟨lv, fourL, [], []⟩ 0)
    (g1 : w4.heap.size ≤ mb) (g2 : w4.heap.size ≤ fb) (h3 : 3 ≤ lv.length) : (OrC.mk w6 pa ma fa pb mb fb lv).Ok ∧ Orl (OrC.mk w6 pa ma fa pb mb fb lv) 0 [mb, fb, ma, fa] (.slice none 0 0) (.slice none 0 0) [] [] [] [] w6 := by
  have a1 := hA.con.lt
  have a2 := hA.fir.lt
  have b1 := hB.con.lt
  have b2 := hB.fir.lt
  have hs := hb.size
  refine ⟨⟨h3, Nat.lt_of_lt_of_le a1 hs, Nat.lt_of_lt_of_le a2 hs, b1, b2, by show ma ≠ mb; omega, by show ma ≠ fb; omega, by show fa ≠ mb; omega⟩, ⟨hA.step (S := []) (Turns.of_below hb) (fun _ hx => by simp at hx) (fun x hx => ?_) (fun x hx => ?_), hB, OwnF.nil, OwnF.nil, (fun b hb => by simp [Value.ownBlock] at hb), (fun b hb => by simp [Value.ownBlock] at hb), (fun b hb => by simp [Value.ownBlock] at hb), fun x hx => ?_, Turns.refl _ _⟩⟩
  · simp only [List.mem_cons, List.not_mem_nil, or_false] at hx ⊢
    rcases hx with rfl | rfl <;> simp
  · simp only [List.mem_cons, List.not_mem_nil, or_false] at hx ⊢
    rcases hx with rfl | rfl | rfl | rfl <;> simp [g1, g2]
  · simp only [List.mem_cons, List.not_mem_nil, or_false] at hx
    show x < w6.heap.size
    rcases hx with rfl | rfl | rfl | rfl <;> omega
section
variable {c : OrC} {N : Nat} {M : List Nat} {vi vo v : Value} {C D li lo : List Ac} {w : World}
theorem mk_own (k : c.Ok) (C : List Ac) {a : Ac} (h : ∃ x, madeA x = a) : ownA ⟨c.lv, fourL, C, []⟩ a := by
  obtain ⟨x, rfl⟩ := h
  exact made_own k.lv rfl x
/-- An act that is there comes. -/
theorem orl_twice (h : Orl c N M vi vo C D li lo w) (k : c.Ok) {a : Ac} (hm : ∃ x, madeA x = a) (ha : a ∈ C) (hs : RSl (fun b => b ∉ M) w 3 (EChg (fun b => b ∉ M) w) v [(true, a)]) (hN : N + 1 < maxLen) (ht : ∀ W, Turns [c.ma] w W → Tab W) :
    Calls Tryd.prog 10 #[.pointer (some ⟨c.pa, 0, none⟩), v] w fun e w' => e = .returned (.tuple #[.int .i64 0, .int .i64 51]) ∧ Orl c (N + 1) M vi vo C D li lo w' ∧ Turns [c.ma] w w' := by
  refine (applyW v [(true, a)] w h.a hs (fun hm => hm h.a.cM) h.M hN ht).mono ?_
  intro e w' hr
  rw [app_one a (mk_own k C hm), if_pos ha] at hr
  exact ⟨hr.1, h.stepA k (Nat.le_succ N) hr.2.1 hr.2.2, hr.2.2⟩
/-- A new act comes. -/
theorem orl_come (h : Orl c N M vi vo C D li lo w) (k : c.Ok) {a : Ac} (hm : ∃ x, madeA x = a) (ha : a ∉ C) (hs : RSl (fun b => b ∉ M) w 3 (EChg (fun b => b ∉ M) w) v [(true, a)]) (hN : N + 1 < maxLen) (ht : ∀ W, Turns [c.ma] w W → Tab W) :
    Calls Tryd.prog 10 #[.pointer (some ⟨c.pa, 0, none⟩), v] w fun e w' => e = .returned (.tuple #[.int .i64 1, .int .i64 0]) ∧ Orl c (N + 1) M vi vo (C ++ [a]) D li lo w' ∧ Turns [c.ma] w w' := by
  refine (applyW v [(true, a)] w h.a hs (fun hm => hm h.a.cM) h.M hN ht).mono ?_
  intro e w' hr
  rw [app_one a (mk_own k C hm), if_neg ha] at hr
  exact ⟨hr.1, h.stepA k (Nat.le_succ N) hr.2.1 hr.2.2, hr.2.2⟩
/-- All of the row `in` come. -/
theorem orl_in (h : Orl c N M vi vo C [] li lo w) (k : c.Ok) (hm : ∀ a ∈ li, ∃ x, madeA x = a) (hn : li.Nodup) (hN : N + li.length < maxLen) (ht : ∀ W, Turns [c.mb] w W → Tab W) :
    Calls Tryd.prog 10 #[.pointer (some ⟨c.pb, 0, none⟩), vi] w fun e w' => e = .returned (.tuple #[.int .i64 (li.length : Int), .int .i64 0]) ∧ Orl c (N + li.length) M vi vo C li li lo w' := by
  have hs : RSl (fun _ => True) w 3 (EChg (fun b => b ∉ M) w) vi (li.map fun x => (true, x)) := h.inn.rsl (fun _ _ => trivial)
  have hs' : RSl (fun b => b ∉ M ∨ vi.ownBlock = some b) w 3 (EChg (fun b => b ∉ M ∨ vi.ownBlock = some b) w) vi (li.map fun x => (true, x)) :=
    (h.inn.rsl (G := fun b => b ∉ M ∨ vi.ownBlock = some b) (fun b hb => .inr hb)).kp (Kp.refl _ _) (fun _ _ h => h) (fun _ _ hc => EChg.kp hc (Kp.refl _ _) (fun _ _ h => .inl h))
  refine (applyW vi (li.map fun x => (true, x)) w h.b hs' (fun hm => ?_) h.M (by rw [List.length_map]; exact hN) ht).mono ?_
  · rcases hm with hm | hm
    · exact hm h.b.cM
    · have := h.iB hm; have := k.mb; omega
  intro e w' hr
  rw [app_come li _ 0 (fun a ha => mk_own k [] (hm a ha)) hn (fun a _ hc => by simp at hc), List.length_map] at hr
  simp only [Nat.zero_add, List.nil_append] at hr
  exact ⟨hr.1, h.stepB k (Nat.le_add_right _ _) hr.2.1 hr.2.2⟩
/-- All of the row `out` go. -/
theorem orl_out (h : Orl c N M vi vo C D li lo w) (k : c.Ok) (hm : ∀ a ∈ lo, ∃ x, madeA x = a) (hn : lo.Nodup) (hD : ∀ a, a ∈ D ↔ a ∈ lo) (hN : N + lo.length < maxLen) (ht : ∀ W, Turns [c.mb] w W → Tab W) :
    Calls Tryd.prog 10 #[.pointer (some ⟨c.pb, 0, none⟩), vo] w fun e w' => e = .returned (.tuple #[.int .i64 (lo.length : Int), .int .i64 0]) ∧ Orl c (N + lo.length) M vi vo C [] li lo w' := by
  have hs' : RSl (fun b => b ∉ M ∨ vo.ownBlock = some b) w 3 (EChg (fun b => b ∉ M ∨ vo.ownBlock = some b) w) vo (lo.map fun x => (false, x)) :=
    (h.out.rsl (G := fun b => b ∉ M ∨ vo.ownBlock = some b) (fun b hb => .inr hb)).kp (Kp.refl _ _) (fun _ _ h => h) (fun _ _ hc => EChg.kp hc (Kp.refl _ _) (fun _ _ h => .inl h))
  refine (applyW vo (lo.map fun x => (false, x)) w h.b hs' (fun hm => ?_) h.M (by rw [List.length_map]; exact hN) ht).mono ?_
  · rcases hm with hm | hm
    · exact hm h.b.cM
    · have := h.oB hm; have := k.mb; omega
  intro e w' hr
  rw [app_go lo _ 0 (fun a ha => mk_own k D (hm a ha)) hn (fun a ha => (hD a).2 ha), List.length_map] at hr
  simp only [Nat.zero_add] at hr
  rw [drop_all lo D (fun a ha => (hD a).1 ha)] at hr
  exact ⟨hr.1, h.stepB k (Nat.le_add_right _ _) hr.2.1 hr.2.2⟩
end
section
variable {c : OrC} {N : Nat} {M : List Nat} {vi vo v : Value} {C D li lo : List Ac} {w : World}
theorem wpList_in {ops : Array Oper} {rest : List Oper} {o : Oper} {a : Act} {Q : Exit → Act → World → Prop} (h : Orl c N M vi vo C D li lo w) (k : c.Ok) (hgd : o.guard = none) (s q : Operand)
    (ho : o.op = .call { callee := .builtin .append, args := #[s, q], argTypes := #[28, 28] }) (hs : a.eval s = vi) {cap0 H : Nat} (hq : a.eval q = .slice (some ⟨H, 0, none⟩) 1 cap0) (hH : w.heap.size = H) {x : Ac} {sv : Value} (T : TypeId) (hok : AcOk x) (hel : RSl (fun b => b ∉ M) w 1 EInt sv x.sub) (hn : li.length ≤ 40000000)
    (kk : ∀ g cap w', Orl c N (g :: M) (.slice (some ⟨g, 0, none⟩) (li.length + 1) cap) vo C D (li ++ [x]) lo w' → Turns vi.ownBlock.toList w w' → (∀ b, b < w.heap.size → b ∉ M → b ∉ g :: M) → wpList Tryd.prog ops Q rest (a.put o.dst (.slice (some ⟨g, 0, none⟩) (li.length + 1) cap)) w') : wpList Tryd.prog ops Q (o :: rest) a (w.alloc (.cells #[.bool true, .int .i64 x.rule, sv] T)) := by
  refine wpList_append_F h.inn (fun b hb hm => hm (h.iM b hb)) hgd s q 28 ho Tryd.underlying28 infoChg rfl (by decide) hs #[.bool true, .int .i64 x.rule, sv] T hq hH (x := (true, x)) ⟨sv, rfl, hok, hel⟩ (by rw [List.length_map]; exact hn) (by decide) h.turns.size ?_
  intro g cap w' hO hT hat hlt
  rw [List.length_map] at hO ⊢
  exact kk g cap w' (h.rowI k hT hat hlt rfl (fun F' hF => by rw [List.map_append]; exact hO F' hF)) hT (fun b hb hn hm => by
    rcases List.mem_cons.1 hm with e | hm
    · rcases hat with e2 | e2
      · exact hn (h.iM b (by rw [e]; exact e2))
      · omega
    · exact hn hm)
theorem wpList_out {ops : Array Oper} {rest : List Oper} {o : Oper} {a : Act} {Q : Exit → Act → World → Prop} (h : Orl c N M vi vo C D li lo w) (k : c.Ok) (hgd : o.guard = none) (s q : Operand)
    (ho : o.op = .call { callee := .builtin .append, args := #[s, q], argTypes := #[28, 28] }) (hs : a.eval s = vo) {cap0 H : Nat} (hq : a.eval q = .slice (some ⟨H, 0, none⟩) 1 cap0) (hH : w.heap.size = H) {x : Ac} {sv : Value} (T : TypeId) (hok : AcOk x) (hel : RSl (fun b => b ∉ M) w 1 EInt sv x.sub) (hn : lo.length ≤ 40000000)
    (kk : ∀ g cap w', Orl c N (g :: M) vi (.slice (some ⟨g, 0, none⟩) (lo.length + 1) cap) C D li (lo ++ [x]) w' → Turns vo.ownBlock.toList w w' → (∀ b, b < w.heap.size → b ∉ M → b ∉ g :: M) → wpList Tryd.prog ops Q rest (a.put o.dst (.slice (some ⟨g, 0, none⟩) (lo.length + 1) cap)) w') : wpList Tryd.prog ops Q (o :: rest) a (w.alloc (.cells #[.bool false, .int .i64 x.rule, sv] T)) := by
  refine wpList_append_F h.out (fun b hb hm => hm (h.oM b hb)) hgd s q 28 ho Tryd.underlying28 infoChg rfl (by decide) hs #[.bool false, .int .i64 x.rule, sv] T hq hH (x := (false, x)) ⟨sv, rfl, hok, hel⟩ (by rw [List.length_map]; exact hn) (by decide) h.turns.size ?_
  intro g cap w' hO hT hat hlt
  rw [List.length_map] at hO ⊢
  exact kk g cap w' (h.rowO k hT hat hlt rfl (fun F' hF => by rw [List.map_append]; exact hO F' hF)) hT (fun b hb hn hm => by
    rcases List.mem_cons.1 hm with e | hm
    · rcases hat with e2 | e2
      · exact hn (h.oM b (by rw [e]; exact e2))
      · omega
    · exact hn hm)
end
theorem OwnF.head {α : Type} {F : Nat → Prop} {B : Nat} {w : World} {e : TypeId} {C : Cdc α} {A : Option Addr} {n c : Nat} {xs : List α} (h : OwnF F B w e C (.slice A n c) xs) (hne : 0 < xs.length) : ∃ g, A = some ⟨g, 0, none⟩ ∧ ∀ o, w.frozen? ⟨g, o, none⟩ = false := by
  obtain ⟨cells, h1, _⟩ := h
  rcases h1.2 with ⟨_, h0⟩ | ⟨g, cap, cur, h', _, hh, _⟩
  · omega
  · simp only [Value.slice.injEq] at h'
    exact ⟨g, h'.1, fun o => frozen_of_row _ _ _ _ _ hh⟩
theorem swap_perm {ys : List Ac} {i j : Nat} {y x : Ac} (hy : ys[i]? = some y) (hx : ys[j]? = some x) : ((ys.set i x).set j y).Perm ys := by
  obtain ⟨h1, e1⟩ := List.getElem?_eq_some_iff.1 hy
  obtain ⟨h2, e2⟩ := List.getElem?_eq_some_iff.1 hx
  have := List.set_set_perm h1 h2
  rw [e1, e2] at this
  exact this
theorem mem_made {a : Ac} (h : a ∈ all21) : ∃ x, madeA x = a := by
  refine ⟨a, ?_⟩
  unfold all21 at h
  simp only [List.mem_cons, List.not_mem_nil, or_false] at h
  rcases h with rfl | rfl | rfl | rfl | rfl | rfl | rfl | rfl | rfl | rfl | rfl | rfl | rfl | rfl | rfl | rfl | rfl | rfl | rfl | rfl | rfl <;> rfl
theorem or_alike {lv : List Int} {l ys : List Ac} (hp : ys.Perm l) : Alike ⟨lv, fourL, l, []⟩ ⟨lv, fourL, ys, []⟩ := ⟨rfl, rfl, hp.symm, fun _ => Iff.rfl⟩
theorem or_ne {lv : List Int} {l : List Ac} (h : AgOk ⟨lv, fourL, l, []⟩) : eligA ⟨lv, fourL, l, []⟩ = [] ↔ l = [] := by
  rw [elig_ne h, open_noD rfl]
theorem or_none (lv : List Int) (cs : List Cst) : strA ⟨lv, cs, [], []⟩ = -1 := rfl
theorem or_sort (cs : List Cst) : sortA cs [] = [] := List.eq_nil_of_length_eq_zero (sortA_perm cs []).length_eq
/-- A told list's length. -/
theorem LstRes.len {l : List Ac} {w w' : World} {e : Ending} (h : LstRes l w e w') : ∃ A c, e = .returned (.slice A l.length c) ∧ Below w.heap.size w w' ∧ RSl (fun _ => True) w' 2 (EAc (fun _ => True) w') (.slice A l.length c) l := by
  obtain ⟨v, zs, rfl, hz, hm, hb⟩ := h
  obtain ⟨A, c, rfl⟩ := hz.form
  have hl : zs.length = l.length := by rw [← hm, List.length_map]
  have hr := EAc.all hz.rsl (Kp.refl _ _) (F' := fun _ => True) (fun _ _ _ => trivial)
  rw [hm, hl] at hr
  exact ⟨A, c, by rw [hl], hb, hr.kp (Kp.refl _ _) (fun _ _ _ => trivial) (fun _ _ h => h)⟩
end Go.Proofs.YtjgigcnjgblekaaDoor

namespace Go.Proofs.YtjgigcnjgblekaaDoor
open Go Go.RowKit Go.Maps Classical

theorem ac_ext {a b : Ac} (h1 : a.rule = b.rule) (h2 : a.sub = b.sub) : a = b := by
  cases a; cases b; simp only at h1 h2; rw [h1, h2]
theorem take_step {l m : List Int} {k : Nat} {s : Int} (h : l.take k = m.take k) (h1 : l[k]? = some s) (h2 : m[k]? = some s) : l.take (k + 1) = m.take (k + 1) := by
  rw [List.take_add_one, List.take_add_one, h1, h2, h]
set_option maxRecDepth 100000 in
set_option maxHeartbeats 4000000 in
theorem sameGW {F F' : Nat → Prop} (a b : Ac) (v1 v2 : Value) (w : World) (h1 : RSl F w 1 EInt v1 a.sub) (h2 : RSl F' w 1 EInt v2 b.sub) :
    Calls Tryd.prog 35 #[.agg #[.int .i64 a.rule, v1], .agg #[.int .i64 b.rule, v2]] w fun e w' => e = .returned (.bool (decide (a = b))) ∧ Below w.heap.size w w' := by
  obtain ⟨A1, c1, rfl⟩ := h1.form
  obtain ⟨A2, c2, rfl⟩ := h2.form
  have hm := h1.len
  have hm2 := h2.len
  unfold maxLen at hm hm2
  obtain ⟨w0, hw0⟩ : ∃ w0, w0 = (w.alloc (.cells #[.int .i64 a.rule, .slice A1 a.sub.length c1] 30)).alloc (.cells #[.int .i64 b.rule, .slice A2 b.sub.length c2] 30) := ⟨_, rfl⟩
  have hx0 : Below (w.heap.size + 1) (w.alloc (.cells #[.int .i64 a.rule, .slice A1 a.sub.length c1] 30)) w0 := by rw [hw0]; exact (Below.refl _ _).alloc (by simp) _
  have hsz0 : w0.heap.size = w.heap.size + 1 + 1 := by rw [hw0]; simp
  have hb0 := box_belowD hx0
  have r0 : w0.heap[w.heap.size + 1]? = some (.cells #[.int .i64 b.rule, .slice A2 b.sub.length c2] 30 (0, 0)) := by
    have := heap_alloc_new (w.alloc (.cells #[.int .i64 a.rule, .slice A1 a.sub.length c1] 30)) (.cells #[.int .i64 b.rule, .slice A2 b.sub.length c2] 30)
    rw [hw0]; simpa using this
  have BX := Lib.hid (fun (W : World) (hW : Below w0.heap.size w0 W) => (show W.cell? ⟨w.heap.size, 0, none⟩ = some (.int .i64 a.rule) ∧ W.cell? ⟨w.heap.size, 1, none⟩ = some (.slice A1 a.sub.length c1) ∧ W.cell? ⟨w.heap.size + 1, 0, none⟩ = some (.int .i64 b.rule) ∧ W.cell? ⟨w.heap.size + 1, 1, none⟩ = some (.slice A2 b.sub.length c2) from
    ⟨(hW.cell (p := ⟨w.heap.size, 0, none⟩) (by show w.heap.size < w0.heap.size; omega)).trans (box_cellD hx0 0 rfl), (hW.cell (p := ⟨w.heap.size, 1, none⟩) (by show w.heap.size < w0.heap.size; omega)).trans (box_cellD hx0 1 rfl),
     cell_of_row _ _ 0 _ _ _ ((hW.block _ (by omega)).trans r0), cell_of_row _ _ 1 _ _ _ ((hW.block _ (by omega)).trans r0)⟩))
  have H1 := Lib.hid (h1.keep (Kp.of_below hb0))
  have H2 := Lib.hid (h2.keep (Kp.of_below hb0))
  have HB := Lib.hid hb0
  have E0 := Lib.hid (Below.refl w0.heap.size w0)
  obtain ⟨x0, x1, x2, x3⟩ := BX.out w0 E0.out
  clear h1 h2 hx0 hb0 r0
  by_cases hr : a.rule = b.rule
  rotate_left
  · have HR := Lib.hid (show decide (a = b) = false from decide_eq_false fun e => hr (by rw [e]))
    have f1 : (a.rule == b.rule) = false := beq_false_of_ne hr
    have f2 : (a.rule != b.rule) = true := by simpa using hr
    clear hr
    go_enter Tryd.func35, Tryd.ntmps35
    go_upto_region 1 with fail
    rw [← hw0]
    clear hw0
    go_wp2
    go_ret
    exact ⟨ret_boolA HR.out.symm, HB.out⟩
  have f1 : (a.rule == b.rule) = true := by simpa using hr
  have f0 : (a.rule != b.rule) = false := by simpa using hr
  by_cases hl : a.sub.length = b.sub.length
  rotate_left
  · have HR := Lib.hid (show decide (a = b) = false from decide_eq_false fun e => hl (by rw [e]))
    have f2 : ((a.sub.length : Int) == (b.sub.length : Int)) = false := beq_false_of_ne (by omega)
    have f3 : ((a.sub.length : Int) != (b.sub.length : Int)) = true := bne_iff_ne.2 (by omega)
    clear hr hl
    go_enter Tryd.func35, Tryd.ntmps35
    go_upto_region 1 with fail
    rw [← hw0]
    clear hw0
    go_wp2
    go_ret
    exact ⟨ret_boolA HR.out.symm, HB.out⟩
  have f2 : ((a.sub.length : Int) == (b.sub.length : Int)) = true := beq_iff_eq.2 (by omega)
  have f3 : ((a.sub.length : Int) != (b.sub.length : Int)) = false := by rw [bne, f2]; rfl
  have HRU := Lib.hid hr
  have HLE := Lib.hid hl
  clear hr hl
  go_enter Tryd.func35, Tryd.ntmps35
  go_upto_region 1 with fail
  rw [← hw0]
  clear hw0
  go_wp2
  go_loopw [5] (fun i wr => ∃ k : Nat, i = .int .i64 (k : Int) ∧ k ≤ a.sub.length ∧ a.sub.take k = b.sub.take k ∧ Below w0.heap.size w0 wr) (fun i _ => a.sub.length - (intOf i).toNat)
  case atStart => exact ⟨0, rfl, Nat.zero_le _, by simp, E0.out⟩
  case round =>
    obtain ⟨k, rfl, hk, htk, hb⟩ := hrel
    have HTK := Lib.hid htk
    obtain ⟨x0, x1, x2, x3⟩ := BX.out wr hb
    have HBW := Lib.hid hb
    clear htk
    by_cases hkn : k < a.sub.length
    · have hl := HLE.out
      obtain ⟨s, hs⟩ : ∃ s, a.sub[k]? = some s := ⟨_, List.getElem?_eq_getElem hkn⟩
      obtain ⟨t, ht⟩ : ∃ t, b.sub[k]? = some t := ⟨_, List.getElem?_eq_getElem (by omega)⟩
      obtain ⟨b1, o1, rfl, _, _, cs, ⟨rfl, hok⟩, hc⟩ := (H1.out.keep (Kp.of_below hb)).at hs
      obtain ⟨b2, o2, rfl, _, _, cs', ⟨rfl, hok'⟩, hc'⟩ := (H2.out.keep (Kp.of_below hb)).at ht
      have d0 := hc 0 _ rfl
      have d1 := hc' 0 _ rfl
      simp only [Nat.add_zero, Nat.mul_one] at d0 d1
      have e1 : (0 : Int) ≤ (k : Int) := by omega
      have e2 : (k : Int) < (a.sub.length : Int) := by omega
      have e3 : (k : Int) < (b.sub.length : Int) := by omega
      have DN := Lib.hid (fun q => below_drewNA hb q)
      have HS := Lib.hid hs
      have HTT := Lib.hid ht
      clear hc hc' hs ht hb hok hok' hl
      by_cases hst : s = t
      · subst hst
        have f3 : (s == s) = true := by simp
        have f4 : (s != s) = false := by simp
        have NX := Lib.hid (take_step HTK.out HS.out HTT.out)
        go_wp2_with fail
        go_quiet (fail)
        go_wp2
        exact ⟨⟨k + 1, by go_num, by omega, NX.out, DN.out _⟩, by simp [intOf]; omega⟩
      · have f3 : (s == t) = false := beq_false_of_ne hst
        have f4 : (s != t) = true := bne_iff_ne.2 hst
        have HR := Lib.hid (show decide (a = b) = false from decide_eq_false fun e => hst (by
          have h1 := HS.out
          rw [e, HTT.out] at h1
          exact (Option.some.inj h1).symm))
        clear hst
        go_wp2_with fail
        go_quiet (fail)
        have DQ := Lib.hid (DN.out nq)
        go_wp2
        go_ret
        exact ⟨ret_boolA HR.out.symm, HB.out.trans (DQ.out.mono HB.out.size)⟩
    · obtain rfl : k = a.sub.length := by omega
      have HR := Lib.hid (show decide (a = b) = true from decide_eq_true (ac_ext HRU.out (by
        have := HTK.out
        rw [List.take_length, HLE.out, List.take_length] at this
        exact this)))
      clear hb
      go_wp2
      go_ret
      exact ⟨ret_boolA HR.out.symm, HB.out.trans (HBW.out.mono HB.out.size)⟩
set_option maxRecDepth 100000 in
set_option maxHeartbeats 4000000 in
theorem rcopiedW {F : Nat → Prop} (a : Ac) (sv : Value) (w : World) (h : RSl F w 1 EInt sv a.sub) (hl : a.sub.length ≤ 17000000000000) :
    Calls Tryd.prog 61 #[.agg #[.int .i64 a.rule, sv]] w (CopRes a w) := by
  obtain ⟨A, c, rfl⟩ := h.form
  obtain ⟨w0, hw0⟩ : ∃ w0, w0 = (w.alloc (.cells #[.int .i64 a.rule, .slice A a.sub.length c] 30)).alloc (.cells #[.int .i64 0, .slice none 0 0] 30) := ⟨_, rfl⟩
  have hx0 : Below (w.heap.size + 1) (w.alloc (.cells #[.int .i64 a.rule, .slice A a.sub.length c] 30)) w0 := by rw [hw0]; exact (Below.refl _ _).alloc (by simp) _
  have hsz0 : w0.heap.size = w.heap.size + 1 + 1 := by rw [hw0]; simp
  have hr0 : w0.heap[w.heap.size + 1]? = some (.cells #[.int .i64 0, .slice none 0 0] 30 (0, 0)) := by
    have := heap_alloc_new (w.alloc (.cells #[.int .i64 a.rule, .slice A a.sub.length c] 30)) (.cells #[.int .i64 0, .slice none 0 0] 30)
    rw [hw0]
    simpa using this
  have x0 := box_cellD hx0 0 rfl
  have x1 := box_cellD hx0 1 rfl
  have HB := Lib.hid (box_belowD hx0)
  have HE := Lib.hid (show w.heap.size + 1 + 1 ≤ (w0.alloc (.cells #[] 3)).heap.size by simp; omega)
  have HH := Lib.hid ((h.keep (Kp.of_below (F := F) (box_belowD hx0))).keep (Kp.of_below (F := F) ((Below.refl _ w0).alloc (Nat.le_refl _) (.cells #[] 3))))
  have HR := Lib.hid hr0
  have HB0 := Lib.hid ((Below.refl w0.heap.size w0).alloc (Nat.le_refl _) (.cells #[] 3))
  have HL := Lib.hid (show 0 + a.sub.length ≤ 17000000000000 by omega)
  have ho0 := own0 w0 3 1 w0.heap.size (Nat.le_refl _)
  rw [hsz0] at ho0
  have HO := Lib.hid ho0
  clear ho0
  clear h hx0 hr0
  go_enter Tryd.func61, Tryd.ntmps61
  go_upto_region 1 with fail
  rw [← hw0]
  clear hw0
  have KEY : ∀ v' w3, w3.ownsRow (w.heap.size + 1 + 1) 3 1 v' (0 + a.sub.length) ([] ++ intVs a.sub) → Turns (Value.slice (some ⟨w.heap.size + 1 + 1, 0, none⟩) 0 0).ownBlock.toList (w0.alloc (.cells #[] 3)) w3 →
      w3.heap[w.heap.size + 1]? = some (.cells #[.int .i64 0, .slice none 0 0] 30 (0, 0)) ∧ OwnZ w3 (w.heap.size + 2) v' a.sub ∧ Below w.heap.size w w3 ∧ w3.cell? ⟨w.heap.size, 0, none⟩ = some (.int .i64 a.rule) := by
    intro v' w3 ho ht
    rw [Nat.zero_add, List.nil_append] at ho
    have hs := HB.out.size
    refine ⟨?_, OwnZ.down (show OwnZ w3 _ v' a.sub from ho) (by omega), ?_, ?_⟩
    · rw [ht.block _ (by simp; omega) (by simp [Value.ownBlock]), heap_alloc_old _ _ (by omega)]
      exact HR.out
    · exact (HB.out.alloc (by omega) _).trans (ht.below (by simp; omega) (fun x hx => by simp [Value.ownBlock] at hx; omega))
    · exact (ht.cell (by simp; omega) (by simp [Value.ownBlock]; omega)).trans ((HB0.out.cell (p := ⟨w.heap.size, 0, none⟩) (by show w.heap.size < _; omega)).trans x0)
  have KY := Lib.hid KEY
  clear KEY
  go_region_law (refine step_append_ints HO.out HH.out (by rfl) (.tmp 5) (.tmp 7) 22 (by rfl) Tryd.underlying22 infoIntR rfl (by rfl) (by rfl) HL.out HE.out ?_; intro v' w3 ho ht; have ho' := ho; rw [Nat.zero_add] at ho'; obtain ⟨va, vc, rfl⟩ := own_form1 ho'; clear ho'; obtain ⟨q1, q2, q3, q4⟩ := KY.out _ w3 ho ht; have Q1 := Lib.hid q1; have Q2 := Lib.hid q2; have Q3 := Lib.hid q3; have c0 := cell_of_row _ _ 0 _ _ _ q1; have c1 := cell_of_row _ _ 1 _ _ _ q1; have fz := fun o => frozen_of_row _ _ o _ _ q1; clear ho ht q1 q2 q3)
  all_goals go_wp2
  all_goals
    have EF := heap_setCell_same _ _ 1 _ _ (.slice va a.sub.length vc) (heap_setCell_same _ _ 0 _ _ (.int .i64 a.rule) Q1.out)
    refine bodyPost_ret (v := .agg #[.int .i64 a.rule, .slice va a.sub.length vc]) (results_row_slot1 rfl _ _ (w.heap.size + 1) 30 #[.int .i64 a.rule, .slice va a.sub.length vc] (0, 0) _ rfl EF Tryd.underlying30 rfl sizeAct) rfl ?_
    exact copRes_of Q2.out Q3.out
end Go.Proofs.YtjgigcnjgblekaaDoor

namespace Go.Proofs.YtjgigcnjgblekaaDoor
open Go Go.RowKit Go.Maps Classical

/-- How an act is told. -/
def cdAc : Cdc Ac where
  E := EAc
  sz := 2
  len := fun F w cs x ⟨sv, h, _⟩ => by rw [h]; rfl
  kp := fun F F' w w' cs x h hk hF => h.kp hk hF
  one := fun F w cs x ⟨sv, h, _, h3⟩ u hu => by
    obtain ⟨A, c, rfl⟩ := h3.form
    rw [h] at hu
    simp only [List.mem_cons, List.not_mem_nil, or_false] at hu
    rcases hu with rfl | rfl <;> rfl
/-- An act's first place in a list, or -1. -/
noncomputable def atF (l : List Ac) (x : Ac) : Int := if h : ∃ k : Nat, l[k]? = some x ∧ ∀ j, j < k → l[j]? ≠ some x then (h.choose : Int) else -1
theorem atF_eq {l : List Ac} {x : Ac} {k : Nat} (h1 : l[k]? = some x) (h2 : ∀ j, j < k → l[j]? ≠ some x) : atF l x = (k : Int) := by
  have h : ∃ k : Nat, l[k]? = some x ∧ ∀ j, j < k → l[j]? ≠ some x := ⟨k, h1, h2⟩
  unfold atF
  rw [dif_pos h]
  obtain ⟨g1, g2⟩ := h.choose_spec
  rcases Nat.lt_trichotomy h.choose k with e | e | e
  · exact absurd g1 (h2 _ e)
  · rw [e]
  · exact absurd h1 (g2 _ e)
theorem atF_none {l : List Ac} {x : Ac} (h : x ∉ l) : atF l x = -1 := by
  unfold atF
  rw [dif_neg]
  rintro ⟨k, h1, _⟩
  exact h (List.mem_of_getElem? h1)
theorem first_at : ∀ {l : List Ac} {x : Ac}, x ∈ l → ∃ k : Nat, l[k]? = some x ∧ ∀ j, j < k → l[j]? ≠ some x
  | [], x, h => by cases h
  | y :: r, x, h => by
    by_cases e : y = x
    · exact ⟨0, by rw [e]; rfl, fun j hj => by omega⟩
    · rcases List.mem_cons.1 h with h | h
      · exact absurd h.symm e
      · obtain ⟨k, h1, h2⟩ := first_at h
        refine ⟨k + 1, by simpa using h1, fun j hj => ?_⟩
        match j with
        | 0 => simpa using e
        | j + 1 => simpa using h2 j (by omega)
theorem atF_mem {l : List Ac} {x : Ac} (h : x ∈ l) : ∃ k : Nat, k < l.length ∧ l[k]? = some x ∧ atF l x = (k : Int) := by
  obtain ⟨k, h1, h2⟩ := first_at h
  exact ⟨k, (List.getElem?_eq_some_iff.1 h1).1, h1, atF_eq h1 h2⟩
/-- Taken out at its place: as all of it is taken out, where it is there once. -/
theorem erase_drop : ∀ {l : List Ac} {x : Ac} {k : Nat}, l.Nodup → l[k]? = some x → l.eraseIdx k = dropA l x
  | [], x, k, _, h => by simp at h
  | y :: r, x, 0, hn, h => by
    simp only [List.getElem?_cons_zero, Option.some.injEq] at h
    subst h
    rw [List.nodup_cons] at hn
    unfold dropA
    rw [List.eraseIdx_cons_zero, List.filter_cons, if_neg (by simp)]
    symm
    exact List.filter_eq_self.2 fun z hz => decide_eq_true fun e => hn.1 (e ▸ hz)
  | y :: r, x, k + 1, hn, h => by
    rw [List.nodup_cons] at hn
    have h' : r[k]? = some x := by simpa using h
    have hne : y ≠ x := fun e => hn.1 (e ▸ List.mem_of_getElem? h')
    unfold dropA
    rw [List.eraseIdx_cons_succ, List.filter_cons, if_pos (by simpa using hne), erase_drop hn.2 h']
    rfl
theorem wo_step {l : List Ac} {i k : Nat} {x : Ac} (hx : l[i]? = some x) : (l.take (i + 1)).eraseIdx k = if i = k then (l.take i).eraseIdx k else (l.take i).eraseIdx k ++ [x] := by
  have hi := (List.getElem?_eq_some_iff.1 hx).1
  have e : l.take (i + 1) = l.take i ++ [x] := by rw [List.take_add_one, hx]; rfl
  rw [e]
  obtain ⟨m, hm⟩ : ∃ m, l.take i = m := ⟨_, rfl⟩
  have hl : m.length = i := by rw [← hm, List.length_take, Nat.min_eq_left (by omega)]
  rw [hm]
  by_cases h : i = k
  · subst h
    rw [if_pos rfl, List.eraseIdx_append_of_length_le (by omega), hl, Nat.sub_self, List.eraseIdx_cons_zero, List.append_nil, List.eraseIdx_of_length_le (l := m) (by omega)]
  · rw [if_neg h]
    rcases Nat.lt_or_ge k i with h1 | h1
    · rw [List.eraseIdx_append_of_lt_length (by omega)]
    · rw [List.eraseIdx_append_of_length_le (by omega), List.eraseIdx_of_length_le (l := [x]) (by simp only [List.length_singleton]; omega), List.eraseIdx_of_length_le (by omega)]
theorem wo_len {l : List Ac} {i k : Nat} : ((l.take i).eraseIdx k).length ≤ l.length := by
  have h1 : ((l.take i).eraseIdx k).length ≤ (l.take i).length := by rw [List.length_eraseIdx]; split <;> omega
  have h2 := List.length_take_le i l
  rw [List.length_take] at h1
  omega
set_option maxRecDepth 100000 in
set_option maxHeartbeats 4000000 in
theorem atW {F F' : Nat → Prop} (v : Value) (l : List Ac) (x : Ac) (sv : Value) (w : World) (h1 : RSl F w 2 (EAc F w) v l) (h2 : RSl F' w 1 EInt sv x.sub) :
    Calls Tryd.prog 60 #[v, .agg #[.int .i64 x.rule, sv]] w fun e w' => e = .returned (.int .i64 (atF l x)) ∧ Below w.heap.size w w' := by
  obtain ⟨A1, c1, rfl⟩ := h1.form
  obtain ⟨A2, c2, rfl⟩ := h2.form
  have hm := h1.len
  unfold maxLen at hm
  obtain ⟨w0, hw0⟩ : ∃ w0, w0 = w.alloc (.cells #[.int .i64 x.rule, .slice A2 x.sub.length c2] 30) := ⟨_, rfl⟩
  have hx0 : Below (w.heap.size + 1) (w.alloc (.cells #[.int .i64 x.rule, .slice A2 x.sub.length c2] 30)) w0 := by rw [hw0]; exact Below.refl _ _
  have hb0 := box_belowD hx0
  have hs0 : w0.heap.size = w.heap.size + 1 := by rw [hw0]; simp
  have BX := Lib.hid (fun (W : World) (hW : Below w0.heap.size w0 W) => (show W.cell? ⟨w.heap.size, 0, none⟩ = some (.int .i64 x.rule) ∧ W.cell? ⟨w.heap.size, 1, none⟩ = some (.slice A2 x.sub.length c2) from
    ⟨(hW.cell (p := ⟨w.heap.size, 0, none⟩) (by show w.heap.size < w0.heap.size; omega)).trans (box_cellD hx0 0 rfl), (hW.cell (p := ⟨w.heap.size, 1, none⟩) (by show w.heap.size < w0.heap.size; omega)).trans (box_cellD hx0 1 rfl)⟩))
  have H1 := Lib.hid (EAc.all h1 (Kp.of_below hb0) (fun _ _ h => h))
  have H2 := Lib.hid (h2.keep (Kp.of_below hb0))
  have HB := Lib.hid hb0
  have HS := Lib.hid hs0
  have E0 := Lib.hid (Below.refl w0.heap.size w0)
  clear h1 h2 hx0 hb0 hs0
  go_enter Tryd.func60, Tryd.ntmps60
  go_upto_region 1 with fail
  rw [← hw0]
  clear hw0
  go_wp2
  go_loopw [5] (fun i wr => ∃ k : Nat, i = .int .i64 (k : Int) ∧ k ≤ l.length ∧ (∀ j, j < k → l[j]? ≠ some x) ∧ Below w0.heap.size w0 wr) (fun i _ => l.length - (intOf i).toNat)
  case atStart => exact ⟨0, rfl, Nat.zero_le _, fun j hj => by omega, E0.out⟩
  case round =>
    obtain ⟨k, rfl, hk, hno, hb⟩ := hrel
    have HNO := Lib.hid hno
    have HBW := Lib.hid hb
    clear hno
    by_cases hkn : k < l.length
    · obtain ⟨y, hy⟩ : ∃ y, l[k]? = some y := ⟨_, List.getElem?_eq_getElem hkn⟩
      obtain ⟨b, off, rfl, _, hbs, cs, ⟨sv', rfl, hok, hsv⟩, hc⟩ := (EAc.all H1.out (Kp.of_below hb) (fun _ _ h => h)).at hy
      obtain ⟨A3, c3, rfl⟩ := hsv.form
      have d0 := hc 0 _ rfl
      have d1 := hc 1 _ rfl
      simp only [Nat.add_zero] at d0
      have NE : Nonempty (Pt (Below wr.heap.size wr)) := ⟨⟨wr, Below.refl _ _⟩⟩
      have p0 := fun p : Pt (Below wr.heap.size wr) => (p.property.cell (p := ⟨b, off + k * 2, none⟩) hbs).trans d0
      have p1 := fun p : Pt (Below wr.heap.size wr) => (p.property.cell (p := ⟨b, off + k * 2 + 1, none⟩) hbs).trans d1
      have p2 := fun p : Pt (Below wr.heap.size wr) => (BX.out p.val (hb.trans (p.property.mono hb.size))).1
      have p3 := fun p : Pt (Below wr.heap.size wr) => (BX.out p.val (hb.trans (p.property.mono hb.size))).2
      have CC := Lib.hid (fun p : Pt (Below wr.heap.size wr) => sameGW y x (.slice A3 y.sub.length c3) (.slice A2 x.sub.length c2) p.val (hsv.keep (Kp.of_below p.property)) ((H2.out.keep (Kp.of_below hb)).keep (Kp.of_below p.property)))
      have i1 : (0 : Int) ≤ (k : Int) := by omega
      have i2 : (k : Int) < (l.length : Int) := by omega
      have HY := Lib.hid hy
      clear hb hy hok hsv hc d0 d1
      go_wp2_with fail
      refine wp_region_class (S := Below wr.heap.size wr) (Below.refl _ _).drew (by kernel_rfl) (by kernel_rfl) ?_
      repeat (go_big_quiet_step (first | (go_at_call 35; refine (CC.out _).mono ?_; rintro e w' ⟨rfl, hbel⟩; exact ⟨rfl, ⟨w', below_stepA (Pt.property _) hbel⟩, rfl⟩)))
      refine wpQuiet_nil ?_
      rintro W2 ⟨⟨W2, hW⟩, rfl⟩
      have HW := Lib.hid (HBW.out.trans (Below.mono hW HBW.out.size))
      clear p0 p1 p2 p3 CC hW
      by_cases hyx : y = x
      · have hd : decide (y = x) = true := decide_eq_true hyx
        have HR := Lib.hid (atF_eq (hyx ▸ HY.out) HNO.out)
        rw [hd]
        clear hd hyx
        go_wp2
        go_ret
        exact ⟨ret_i64A HR.out.symm, HB.out.trans (HW.out.mono HB.out.size)⟩
      · have hd : decide (y = x) = false := decide_eq_false hyx
        have NX := Lib.hid (fun j (hj : j < k + 1) => (show l[j]? ≠ some x by
          rcases Nat.lt_or_ge j k with h | h
          · exact HNO.out j h
          · obtain rfl : j = k := by omega
            rw [HY.out]
            exact fun e => hyx (Option.some.inj e)))
        rw [hd]
        clear hd hyx
        go_wp2
        exact ⟨⟨k + 1, by go_num, by omega, NX.out, HW.out⟩, by simp [intOf]; omega⟩
    · obtain rfl : k = l.length := by omega
      have HR := Lib.hid (show atF l x = -1 from atF_none fun hm => by
        obtain ⟨j, hj⟩ := List.getElem?_of_mem hm
        exact HNO.out j (List.getElem?_eq_some_iff.1 hj).1 hj)
      clear hb
      go_wp2
      go_ret
      exact ⟨ret_i64A HR.out.symm, HB.out.trans (HBW.out.mono HB.out.size)⟩
/-- What `without` leaves. -/
def WoRes (F : Nat → Prop) (l : List Ac) (w : World) (e : Ending) (w' : World) : Prop := ∃ v, e = .returned v ∧ OwnF (fun b => F b ∧ b < w.heap.size) w.heap.size w' 30 cdAc v l ∧ Below w.heap.size w w'
theorem rsl_lt {F : Nat → Prop} {w : World} {sz : Nat} {E : List Value → Int → Prop} {v : Value} {xs : List Int} (h : RSl F w sz E v xs) : RSl (fun b => F b ∧ b < w.heap.size) w sz E v xs :=
  h.kp (Kp.refl _ _) (fun _ hb hf => ⟨hf, hb⟩) (fun _ _ h => h)
set_option maxRecDepth 100000 in
set_option maxHeartbeats 4000000 in
theorem withoutW {F F1 : Nat → Prop} (v : Value) (l : List Ac) (k : Nat) (w : World) (h1 : RSl F1 w 2 (EAc F w) v l) (hl : l.length ≤ 40000000) :
    Calls Tryd.prog 74 #[v, .int .i64 (k : Int)] w (WoRes F (l.eraseIdx k) w) := by
  obtain ⟨A1, c1, rfl⟩ := h1.form
  have H1 := Lib.hid (h1.kp (F' := fun _ => True) (E' := EAc (fun b => F b ∧ b < w.heap.size) w) (Kp.refl _ _) (fun _ _ _ => trivial) (fun _ _ hc => hc.kp (Kp.refl _ _) (fun _ hb hf => ⟨hf, hb⟩)))
  have E0 := Lib.hid (Below.refl w.heap.size w)
  have HL := Lib.hid hl
  clear h1
  go_enter Tryd.func74, Tryd.ntmps74
  go_wp2
  go_loopw [5, 6] (fun ov i wr => ∃ (j : Nat) (vo : Value), i = .int .i64 (j : Int) ∧ ov = vo ∧ j ≤ l.length ∧ OwnF (fun b => F b ∧ b < w.heap.size) w.heap.size wr 30 cdAc vo ((l.take j).eraseIdx k) ∧ Below w.heap.size w wr) (fun _ i _ => l.length - (intOf i).toNat)
  case atStart => exact ⟨0, _, rfl, rfl, Nat.zero_le _, by rw [List.take_zero]; exact OwnF.nil, E0.out⟩
  case round =>
    obtain ⟨j, vo, rfl, rfl, hj, ho, hb⟩ := hrel
    have HBW := Lib.hid hb
    have HO := Lib.hid ho
    obtain ⟨A5, c5, hvo⟩ := ho.form
    subst hvo
    clear ho
    by_cases hjn : j < l.length
    · obtain ⟨y, hy⟩ : ∃ y, l[j]? = some y := ⟨_, List.getElem?_eq_getElem hjn⟩
      obtain ⟨b, off, rfl, _, hbs, cs, ⟨sv', rfl, hok, hsv⟩, hc⟩ := (H1.out.kp (F' := fun _ => True) (E' := EAc (fun b => F b ∧ b < w.heap.size) wr) (Kp.of_below hb) (fun _ _ _ => trivial) (fun _ _ hc => hc.kp (Kp.of_below hb) (fun _ _ h => h))).at hy
      obtain ⟨A3, c3, rfl⟩ := hsv.form
      have d0 := hc 0 _ rfl
      have d1 := hc 1 _ rfl
      simp only [Nat.add_zero] at d0
      have i1 : (0 : Int) ≤ (j : Int) := by omega
      have i2 : (j : Int) < (l.length : Int) := by omega
      have HST := Lib.hid (wo_step (k := k) hy)
      have HEL := Lib.hid (show cdAc.E (fun b => F b ∧ b < w.heap.size) wr [.int .i64 y.rule, .slice A3 y.sub.length c3] y from ⟨_, rfl, hok, hsv⟩)
      clear hb hy hok hsv hc
      by_cases hjk : j = k
      · have f1 : ((j : Int) == (k : Int)) = true := beq_iff_eq.2 (by omega)
        have f2 : ((j : Int) != (k : Int)) = false := by rw [bne, f1]; rfl
        rw [if_pos hjk] at HST
        clear hjk
        go_wp2
        exact ⟨⟨j + 1, _, by go_num, rfl, by omega, by rw [HST.out]; exact HO.out, HBW.out⟩, by simp [intOf]; omega⟩
      · have f1 : ((j : Int) == (k : Int)) = false := beq_false_of_ne (by omega)
        have f2 : ((j : Int) != (k : Int)) = true := bne_iff_ne.2 (by omega)
        rw [if_neg hjk] at HST
        have HLL := Lib.hid (show ((l.take j).eraseIdx k).length ≤ 40000000 from Nat.le_trans wo_len HL.out)
        clear hjk
        go_wp2_with (at_builtin; refine wpList_append_F HO.out (fun b hb hf => by have := (HO.out.block hb).1; omega) rfl (.tmp 16) (.tmp 21) 23 rfl Tryd.underlying23 infoAct rfl (by decide) rfl #[.int .i64 y.rule, .slice A3 y.sub.length c3] _ rfl rfl HEL.out HLL.out (by decide) HBW.out.size ?_; intro g cap w3 ho3 ht3 _ _; have HO3 := Lib.hid (ho3 _ (fun _ _ h => h)); have HB3 := Lib.hid (HBW.out.trans (ht3.below HBW.out.size (fun b hb => (HO.out.block (by simpa using hb)).1))); clear ho3 ht3)
        exact ⟨⟨j + 1, _, by go_num, rfl, by omega, by rw [HST.out]; exact HO3.out, HB3.out⟩, by simp [intOf]; omega⟩
    · obtain rfl : j = l.length := by omega
      clear hb
      go_wp2
      go_ret
      refine ⟨_, rfl, ?_, HBW.out⟩
      have := HO.out
      rw [List.take_length] at this ⊢
      exact this
end Go.Proofs.YtjgigcnjgblekaaDoor
