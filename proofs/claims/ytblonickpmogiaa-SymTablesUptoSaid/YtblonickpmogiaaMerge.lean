/- The document's merge: two lists in order in one. -/
import Derived.Test.YtblonickpmogiaaCmpC
import Derived.Test.YtblonickpmogiaaSl
import Derived.Test.YtblonickpmogiaaSortLaw
import Derived.Test.YtblonickpmogiaaTurns
import Derived.StillTailTactics
import Derived.Deep.AppendLies
namespace Go.Proofs.Ytblonickpmogiaa
open Go.RowKit
attribute [local go_sem ↓] Go.wp_at_zero Go.wp_at_succ

theorem infoK : (Try.prog.info? 27).map (fun i => (i.zero, i.size, i.bytes)) = some (some (.agg #[.int .i64 0, .int .i64 0, .string ⟨#[]⟩]), 3, 32) := by kernel_rfl

/-- A list of the call's own. -/
def OwnC (w : World) (base : Nat) (v : Value) (xs : List Cst) : Prop := w.ownsRow base 27 3 v xs.length (xs.flatMap Cst.cells)

/-- Between two rounds of merge. -/
inductive Mg (w : World) (xs ys : List Cst) (l i j : Value) (wr : World) : Prop
  | mk (m n : Nat) (o : List Cst) (hm : m ≤ xs.length) (hn : n ≤ ys.length) (hi : i = .int .i64 m) (hj : j = .int .i64 n) (ho : o ++ mg xs ys m n = mergeC xs ys) (hl : o.length = m + n) (hr : OwnC wr w.heap.size l o) (hb : Below w.heap.size w wr)

theorem cst_one (a : Cst) : ∀ u ∈ a.cells, u.oneCell' = true := by
  intro u hu
  simp only [Cst.cells, List.mem_cons, List.not_mem_nil, or_false] at hu
  rcases hu with rfl | rfl | rfl <;> rfl

theorem cst_news (W : World) (a : Cst) : ∀ j u, a.cells[j]? = some u → (W.alloc (.cells #[.int .i64 a.k, .int .i64 a.n, .string a.s] 27)).cell? ((⟨W.heap.size, 0, none⟩ : Addr).add j) = some u := by
  intro j u hu
  match j, hu with
  | 0, hu => simp [Cst.cells] at hu; subst hu; simp [Addr.add]
  | 1, hu => simp [Cst.cells] at hu; subst hu; simp [Addr.add]
  | 2, hu => simp [Cst.cells] at hu; subst hu; simp [Addr.add]
  | j + 3, hu => simp [Cst.cells] at hu

/-- One element more. -/
theorem own_push {w wr w2 : World} {l v' : Value} {o : List Cst} {a : Cst} {obj : Obj} (hb : Below w.heap.size w wr) (hr : OwnC wr w.heap.size l o) (hown : w2.ownsRow w.heap.size 27 3 v' (o.length + 1) (o.flatMap Cst.cells ++ a.cells)) (hg : (wr.alloc obj).grownBy w2 l.ownBlock) :
    OwnC w2 w.heap.size v' (o ++ [a]) ∧ Below w.heap.size w w2 := by
  refine ⟨?_, ?_⟩
  · unfold OwnC
    rw [List.length_append, List.flatMap_append]
    simpa using hown
  · have T : Turns l.ownBlock.toList wr w2 := (((Turns.refl [] wr).alloc obj).mono (S' := l.ownBlock.toList) (fun _ h => by cases h)).trans (Turns.of_grown hg) (fun x hx => .inl hx)
    exact hb.trans (T.below hb.size (fun x hx => (ownBlock_cells hr (by simpa using hx)).1))

set_option maxRecDepth 100000 in
set_option maxHeartbeats 2000000 in
theorem mergeW (A B : Option Addr) (ca cb : Nat) (xs ys : List Cst) (w : World) (hA : SlAt w w.heap.size 3 Cst.cells A xs) (hB : SlAt w w.heap.size 3 Cst.cells B ys)
    (ox : ∀ c ∈ xs, c.s.size ≤ maxLen) (oy : ∀ c ∈ ys, c.s.size ≤ maxLen) (hlen : (xs.length + ys.length) * 32 ≤ 140737488355328) :
    Calls Try.prog 75 #[.slice A xs.length ca, .slice B ys.length cb] w fun e w' => ∃ v, e = .returned v ∧ OwnC w' w.heap.size v (mergeC xs ys) ∧ Below w.heap.size w w' := by
  obtain ⟨i0, hi0, hz0, hz1, hz2⟩ := info_parts infoK
  go_enter Try.func75, Try.ntmps75
  go_wp2
  go_loopw [5, 6, 7] (fun l i j wr => Mg w xs ys l i j wr) (fun _ i j _ => xs.length + ys.length - ((intOf i).toNat + (intOf j).toNat))
  case atStart => exact .mk 0 0 [] (Nat.zero_le _) (Nat.zero_le _) rfl rfl (by simp [mg_start]) rfl (World.ownsRow_nil _ _ _ _) (Below.refl _ _)
  case round =>
    obtain ⟨m, n, o, hm, hn, rfl, rfl, ho, hl, hr, hb⟩ := hrel
    have hii : (0 : Int) ≤ (m : Int) := by omega
    have hjj : (0 : Int) ≤ (n : Int) := by omega
    by_cases hmx : m < xs.length
    · obtain ⟨b, off, rfl, hblt, hc⟩ := hA.form (by omega)
      have hci := (hc m xs[m] (List.getElem?_eq_getElem hmx)).below hb hblt
      have oi := ox _ (List.getElem_mem hmx)
      obtain ⟨a, ha⟩ : ∃ a, a = xs[m] := ⟨_, rfl⟩
      rw [← ha] at hci oi
      have a0 := hci 0 _ rfl; have a1 := hci 1 _ rfl; have a2 := hci 2 _ rfl
      simp only [Nat.add_zero] at a0
      have hin' : (m : Int) < (xs.length : Int) := by omega
      have hsz := hb.size
      clear hc hci
      by_cases hny : n < ys.length
      · obtain ⟨b', off', rfl, hblt', hc'⟩ := hB.form (by omega)
        have hcj := (hc' n ys[n] (List.getElem?_eq_getElem hny)).below hb hblt'
        have oj := oy _ (List.getElem_mem hny)
        obtain ⟨c, hcy⟩ : ∃ c, c = ys[n] := ⟨_, rfl⟩
        rw [← hcy] at hcj oj
        have d0 := hcj 0 _ rfl; have d1 := hcj 1 _ rfl; have d2 := hcj 2 _ rfl
        simp only [Nat.add_zero] at d0
        have hjn' : (n : Int) < (ys.length : Int) := by omega
        have qn : decide (ys.length ≤ n) = false := decide_eq_false (by omega)
        have HC := Lib.hid (fun W => rcmp_c a c W oi oj)
        obtain ⟨x, hx⟩ : ∃ x, x = cmpC a c := ⟨_, rfl⟩
        rw [← hx] at HC
        have hlt1 : b < wr.heap.size := by omega
        have hlt2' : b' < wr.heap.size := by omega
        clear hc' hcj oi oj
        by_cases hle : x ≤ 0
        · have hx1 : x ≤ 0 := hle
          have HO := Lib.hid (snoc_mg ho (mg_left hmx hny (by rw [← ha, ← hcy, ← hx]; exact hle)))
          rw [← ha] at HO
          clear ho ha hcy hx
          have hrd : wr.drew.ownsRow w.heap.size 27 3 u5 (m + n) (o.flatMap Cst.cells) := by
            have : wr.ownsRow w.heap.size 27 3 u5 o.length (o.flatMap Cst.cells) := hr
            rw [hl] at this
            exact this
          have hszd : w.heap.size ≤ wr.drew.heap.size := hsz
          clear hr
          go_wp2
          go_still_tail 8, (by kernel_rfl)
          change wpList _ _ _ _ _ wr.drew
          go_wp2_with (first | (go_at_call 18; refine (HC.out _).mono ?_; rintro e w4 ⟨rfl, hbel⟩; have HB := Lib.hid (hb.drew.trans (hbel.mono hb.size)); have hr' := ownsRow_turns hrd (Turns.of_below (S := []) hbel) (fun _ _ => by simp); have e0 := (hbel.cell (p := ⟨b, off + m * 3, none⟩) hlt1).trans a0; have e1 := (hbel.cell (p := ⟨b, off + m * 3 + 1, none⟩) hlt1).trans a1; have e2 := (hbel.cell (p := ⟨b, off + m * 3 + 2, none⟩) hlt1).trans a2; have hsz4 := hbel.size; clear hbel) | (at_builtin; refine wpList_append_lies _ rfl (.tmp 42) (.tmp 47) 24 rfl w.heap.size 27 i0 (.agg #[.int .i64 0, .int .i64 0, .string ⟨#[]⟩]) 3 32 Try.underlying24 hi0 hz0 hz1 hz2 rfl (by decide) _ _ _ rfl (hr'.alloc _) ⟨w4.heap.size, 0, none⟩ 1 1 a.cells rfl rfl (cst_news w4 a) (cst_one a) (by decide) (by unfold maxLen; omega) (by omega) (by simp; omega) (w4.heap.size + 1) (by simp) ?_; intro g' cap w2 hown2 hgrow2 hat2 hlt2))
          obtain ⟨r2, b2⟩ := own_push (l := u5) (o := o) HB.out (by unfold OwnC; rw [hl]; exact hr') (by rw [hl]; exact hown2) hgrow2
          exact ⟨.mk (m + 1) n _ (by omega) hn (by go_num) rfl HO.out (by rw [List.length_append, hl]; simp; omega) r2 b2, by simp [intOf]; omega⟩
        · have hx1 : 0 < x := by omega
          have HO := Lib.hid (snoc_mg ho (mg_right hmx hny (by rw [← ha, ← hcy, ← hx]; exact hle)))
          rw [← hcy] at HO
          clear ho ha hcy hx
          have hrd : wr.drew.ownsRow w.heap.size 27 3 u5 (m + n) (o.flatMap Cst.cells) := by
            have : wr.ownsRow w.heap.size 27 3 u5 o.length (o.flatMap Cst.cells) := hr
            rw [hl] at this
            exact this
          have hszd : w.heap.size ≤ wr.drew.heap.size := hsz
          clear hr
          go_wp2
          go_still_tail 8, (by kernel_rfl)
          change wpList _ _ _ _ _ wr.drew
          go_wp2_with (first | (go_at_call 18; refine (HC.out _).mono ?_; rintro e w4 ⟨rfl, hbel⟩; have HB := Lib.hid (hb.drew.trans (hbel.mono hb.size)); have hr' := ownsRow_turns hrd (Turns.of_below (S := []) hbel) (fun _ _ => by simp); have e0 := (hbel.cell (p := ⟨b', off' + n * 3, none⟩) hlt2').trans d0; have e1 := (hbel.cell (p := ⟨b', off' + n * 3 + 1, none⟩) hlt2').trans d1; have e2 := (hbel.cell (p := ⟨b', off' + n * 3 + 2, none⟩) hlt2').trans d2; have hsz4 := hbel.size; clear hbel) | (at_builtin; refine wpList_append_lies _ rfl (.tmp 51) (.tmp 56) 24 rfl w.heap.size 27 i0 (.agg #[.int .i64 0, .int .i64 0, .string ⟨#[]⟩]) 3 32 Try.underlying24 hi0 hz0 hz1 hz2 rfl (by decide) _ _ _ rfl (hr'.alloc _) ⟨w4.heap.size, 0, none⟩ 1 1 c.cells rfl rfl (cst_news w4 c) (cst_one c) (by decide) (by unfold maxLen; omega) (by omega) (by simp; omega) (w4.heap.size + 1) (by simp) ?_; intro g' cap w2 hown2 hgrow2 hat2 hlt2))
          obtain ⟨r2, b2⟩ := own_push (l := u5) (o := o) HB.out (by unfold OwnC; rw [hl]; exact hr') (by rw [hl]; exact hown2) hgrow2
          exact ⟨.mk m (n + 1) _ hm (by omega) rfl (by go_num) HO.out (by rw [List.length_append, hl]; simp; omega) r2 b2, by simp [intOf]; omega⟩
      · have HO := Lib.hid (snoc_mg ho (mg_rest (b := ys) hmx (by omega)))
        rw [← ha] at HO
        have HR := Lib.hid hr
        have HB := Lib.hid hb
        unfold OwnC at hr
        rw [hl] at hr
        have hge : (ys.length : Int) ≤ (n : Int) := by omega
        clear hb ho ha
        go_wp2_with (at_builtin; refine wpList_append_lies _ rfl (.tmp 42) (.tmp 47) 24 rfl w.heap.size 27 i0 (.agg #[.int .i64 0, .int .i64 0, .string ⟨#[]⟩]) 3 32 Try.underlying24 hi0 hz0 hz1 hz2 rfl (by decide) _ _ _ rfl (hr.alloc _) ⟨wr.heap.size, 0, none⟩ 1 1 a.cells rfl rfl (cst_news wr a) (cst_one a) (by decide) (by unfold maxLen; omega) (by omega) (by simp; omega) (wr.heap.size + 1) (by simp) ?_; intro g' cap w2 hown2 hgrow2 hat2 hlt2)
        obtain ⟨r2, b2⟩ := own_push HB.out HR.out (by rw [hl]; exact hown2) hgrow2
        exact ⟨.mk (m + 1) n _ (by omega) hn (by go_num) rfl HO.out (by rw [List.length_append, hl]; simp; omega) r2 b2, by simp [intOf]; omega⟩
    · have hge : (xs.length : Int) ≤ (m : Int) := by omega
      by_cases hny : n < ys.length
      · obtain ⟨b', off', rfl, hblt', hc'⟩ := hB.form (by omega)
        have hcj := (hc' n ys[n] (List.getElem?_eq_getElem hny)).below hb hblt'
        have HO := Lib.hid (snoc_mg ho (mg_rest' (a := xs) (by omega) hny))
        obtain ⟨c, hcy⟩ : ∃ c, c = ys[n] := ⟨_, rfl⟩
        rw [← hcy] at hcj HO
        have d0 := hcj 0 _ rfl; have d1 := hcj 1 _ rfl; have d2 := hcj 2 _ rfl
        simp only [Nat.add_zero] at d0
        have hjn' : (n : Int) < (ys.length : Int) := by omega
        have hsz := hb.size
        have HR := Lib.hid hr
        have HB := Lib.hid hb
        unfold OwnC at hr
        rw [hl] at hr
        clear hc' hcj hb ho hcy
        go_wp2_with (at_builtin; refine wpList_append_lies _ rfl (.tmp 51) (.tmp 56) 24 rfl w.heap.size 27 i0 (.agg #[.int .i64 0, .int .i64 0, .string ⟨#[]⟩]) 3 32 Try.underlying24 hi0 hz0 hz1 hz2 rfl (by decide) _ _ _ rfl (hr.alloc _) ⟨wr.heap.size, 0, none⟩ 1 1 c.cells rfl rfl (cst_news wr c) (cst_one c) (by decide) (by unfold maxLen; omega) (by omega) (by simp; omega) (wr.heap.size + 1) (by simp) ?_; intro g' cap w2 hown2 hgrow2 hat2 hlt2)
        obtain ⟨r2, b2⟩ := own_push HB.out HR.out (by rw [hl]; exact hown2) hgrow2
        exact ⟨.mk m (n + 1) _ hm (by omega) rfl (by go_num) HO.out (by rw [List.length_append, hl]; simp; omega) r2 b2, by simp [intOf]; omega⟩
      · rw [mg_end (by omega) (by omega), List.append_nil] at ho
        subst ho
        have hge' : (ys.length : Int) ≤ (n : Int) := by omega
        go_wp2
        go_ret
        exact ⟨_, rfl, hr, hb⟩
end Go.Proofs.Ytblonickpmogiaa
