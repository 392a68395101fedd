/- The document's Sort: runs of one, two, four, .. merged. -/
import Derived.Test.YtblonickpmogiaaMerge
namespace Go.Proofs.Ytblonickpmogiaa
open Go.RowKit
attribute [local go_sem ↓] Go.wp_at_zero Go.wp_at_succ

theorem ownC_weak {w : World} {base base' : Nat} {v : Value} {xs : List Cst} (ho : OwnC w base v xs) (hb : base' ≤ base) : OwnC w base' v xs :=
  ⟨ho.1, ho.2.imp id (fun ⟨g, c, cur, h1, h2, h3⟩ => ⟨g, c, cur, h1, Nat.le_trans hb h2, h3⟩)⟩

/-- A list of the call's own reads as a list of constants. -/
theorem flat_at : ∀ (xs : List Cst) (i : Nat) (c : Cst), xs[i]? = some c → ∀ j u, c.cells[j]? = some u → (xs.flatMap Cst.cells)[i * 3 + j]? = some u
  | [], i, c, h, _, _, _ => by simp at h
  | a :: l, 0, c, h, j, u, hu => by
    simp only [List.getElem?_cons_zero, Option.some.injEq] at h
    subst h
    have hj : j < a.cells.length := (List.getElem?_eq_some_iff.1 hu).1
    rw [List.flatMap_cons, Nat.zero_mul, Nat.zero_add, List.getElem?_append_left hj]
    exact hu
  | a :: l, i + 1, c, h, j, u, hu => by
    rw [List.getElem?_cons_succ] at h
    have e : (i + 1) * 3 + j - a.cells.length = i * 3 + j := by show (i + 1) * 3 + j - 3 = _; omega
    rw [List.flatMap_cons, List.getElem?_append_right (by show 3 ≤ _; omega), e]
    exact flat_at l i c h j u hu
theorem own_sub {w : World} {base g n cap : Nat} {xs : List Cst} (h : OwnC w base (.slice (some ⟨g, 0, none⟩) n cap) xs) (i k : Nat) : SlAt w w.heap.size 3 Cst.cells (some ⟨g, i * 3, none⟩) ((xs.drop i).take k) := by
  rcases h.2 with ⟨e, _⟩ | ⟨g', c', cur, e, _, hg, _⟩
  · cases e
  · simp only [Value.slice.injEq, Option.some.injEq, Addr.mk.injEq, and_true] at e
    obtain ⟨rfl, _, _⟩ := e
    refine .inr ⟨g, i * 3, rfl, lt_of_heap hg, fun j x hx m u hu => ?_⟩
    have hx' : xs[i + j]? = some x := by
      rw [List.getElem?_take] at hx
      split at hx
      · rwa [List.getElem?_drop] at hx
      · cases hx
    have := World.ownsRow.cells h (g := g) rfl ((i + j) * 3 + m) u (flat_at xs _ _ hx' m u hu)
    rw [add_none] at this
    rw [show i * 3 + j * 3 + m = (i + j) * 3 + m by omega]
    simpa using this
theorem own_form3 {w : World} {base : Nat} {v : Value} {xs : List Cst} (h : OwnC w base v xs) (hne : 0 < xs.length) : ∃ g cap, v = .slice (some ⟨g, 0, none⟩) xs.length cap ∧ base ≤ g ∧ xs.length ≤ cap ∧ cap ≤ maxLen := by
  rcases h.2 with ⟨_, h0⟩ | ⟨g, cap, cur, rfl, hb, hg, h1, h2, _⟩
  · omega
  · exact ⟨g, cap, rfl, hb, h1, h2⟩
theorem own_anyC {w : World} {base : Nat} {v : Value} {xs : List Cst} (h : OwnC w base v xs) : ∃ A c, v = .slice A xs.length c := by
  rcases h.2 with ⟨rfl, h0⟩ | ⟨g, cap, cur, rfl, _⟩
  · exact ⟨none, 0, by rw [h0]⟩
  · exact ⟨_, cap, rfl⟩
theorem ownC_below {w w' : World} {base : Nat} {v : Value} {xs : List Cst} (h : OwnC w base v xs) (hb : Below w.heap.size w w') : OwnC w' base v xs := ownsRow_turns h (Turns.of_below (S := []) hb) (fun _ _ => by simp)

/-- merge at lengths that are written otherwise. -/
theorem mergeE {A B : Option Addr} {ca cb n1 n2 : Nat} {xs ys : List Cst} {w : World} (e1 : n1 = xs.length) (e2 : n2 = ys.length) (hA : SlAt w w.heap.size 3 Cst.cells A xs) (hB : SlAt w w.heap.size 3 Cst.cells B ys)
    (ox : ∀ c ∈ xs, c.s.size ≤ maxLen) (oy : ∀ c ∈ ys, c.s.size ≤ maxLen) (hlen : (xs.length + ys.length) * 32 ≤ 140737488355328) :
    Calls Try.prog 75 #[.slice A n1 ca, .slice B n2 cb] w fun e w' => ∃ v, e = .returned v ∧ OwnC w' w.heap.size v (mergeC xs ys) ∧ Below w.heap.size w w' := by
  subst e1; subst e2
  exact mergeW A B ca cb xs ys w hA hB ox oy hlen

/-- A whole list behind another. -/
theorem own_push2 {wl wr w2 : World} {m v' : Value} {M P : List Cst} (hb : Below wl.heap.size wl wr) (hr : OwnC wr wl.heap.size m M) (hown : w2.ownsRow wl.heap.size 27 3 v' (M.length + P.length) (M.flatMap Cst.cells ++ P.flatMap Cst.cells)) (hg : wr.grownBy w2 m.ownBlock) :
    OwnC w2 wl.heap.size v' (M ++ P) ∧ Below wl.heap.size wl w2 := by
  refine ⟨?_, ?_⟩
  · unfold OwnC
    rw [List.length_append, List.flatMap_append]
    exact hown
  · exact hb.trans ((Turns.of_grown hg).below hb.size (fun x hx => (ownBlock_cells hr (by simpa using hx)).1))
theorem csts_one (xs : List Cst) : ∀ u ∈ xs.flatMap Cst.cells, u.oneCell' = true := by
  intro u hu
  obtain ⟨a, _, ha⟩ := List.mem_flatMap.1 hu
  exact cst_one a u ha
theorem own_cells {w : World} {base g n cap : Nat} {xs : List Cst} (h : OwnC w base (.slice (some ⟨g, 0, none⟩) n cap) xs) : ∀ j u, (xs.flatMap Cst.cells)[j]? = some u → w.cell? ((⟨g, 0, none⟩ : Addr).add j) = some u :=
  fun j u hu => World.ownsRow.cells h (g := g) rfl j u hu

/-- Between two rounds of the copying. -/
inductive Cp (w : World) (cs : List Cst) (l i : Value) (wr : World) : Prop
  | mk (n : Nat) (hn : n ≤ cs.length) (hi : i = .int .i64 n) (hr : OwnC wr w.heap.size l (cs.take n)) (hb : Below w.heap.size w wr)
/-- Between two passes. -/
inductive Out (w : World) (cs : List Cst) (l k : Value) (wr : World) : Prop
  | mk (n : Nat) (L : List Cst) (h1 : 1 ≤ n) (hn : n ≤ 2 * cs.length + 1) (hk : k = .int .i64 n) (hr : OwnC wr w.heap.size l L) (hp : L.Perm cs) (hs : Runs n L) (hb : Below w.heap.size w wr)
/-- Between two merges. -/
inductive In (wl : World) (k : Nat) (L : List Cst) (m i : Value) (wr : World) : Prop
  | mk (n : Nat) (M : List Cst) (hi : i = .int .i64 n) (hn : n ≤ L.length + 2 * k) (hr : OwnC wr wl.heap.size m M) (hp : Pass k n L M) (hb : Below wl.heap.size wl wr)

set_option maxRecDepth 100000 in
set_option maxHeartbeats 2000000 in
theorem rsortW (A : Option Addr) (ca : Nat) (cs : List Cst) (w : World) (hA : SlAt w w.heap.size 3 Cst.cells A cs) (ok : ∀ c ∈ cs, c.s.size ≤ maxLen) (hlen : cs.length * 32 ≤ 140737488355328) :
    Calls Try.prog 31 #[.slice A cs.length ca] w fun e w' => ∃ v m, e = .returned v ∧ OwnC w' w.heap.size v m ∧ Sd m ∧ m.Perm cs ∧ Below w.heap.size w w' := by
  obtain ⟨i0, hi0, hz0, hz1, hz2⟩ := info_parts infoK
  go_enter Try.func31, Try.ntmps31
  go_wp2
  go_loopw [3, 4] (fun l i wr => Cp w cs l i wr) (fun _ i _ => cs.length - (intOf i).toNat)
  case atStart => exact .mk 0 (Nat.zero_le _) rfl (World.ownsRow_nil _ _ _ _) (Below.refl _ _)
  case round =>
    obtain ⟨n, hn, rfl, hr, hb⟩ := hrel
    have hii : (0 : Int) ≤ (n : Int) := by omega
    by_cases hin : n < cs.length
    · obtain ⟨b, off, rfl, hblt, hc⟩ := hA.form (by omega)
      have hci := (hc n cs[n] (List.getElem?_eq_getElem hin)).below hb hblt
      have e : cs.take (n + 1) = cs.take n ++ [cs[n]] := List.take_succ_eq_append_getElem hin
      obtain ⟨a, ha⟩ : ∃ a, a = cs[n] := ⟨_, rfl⟩
      rw [← ha] at hci e
      have a0 := hci 0 _ rfl; have a1 := hci 1 _ rfl; have a2 := hci 2 _ rfl
      simp only [Nat.add_zero] at a0
      have hin' : (n : Int) < (cs.length : Int) := by omega
      have hsz := hb.size
      have hl : (cs.take n).length = n := by rw [List.length_take]; omega
      have E := Lib.hid e
      have HR := Lib.hid hr
      have HB := Lib.hid hb
      unfold OwnC at hr
      rw [hl] at hr
      clear hc hci ha e hb
      go_wp2_with (at_builtin; refine wpList_append_lies _ rfl (.tmp 17) (.tmp 22) 24 rfl w.heap.size 27 i0 (.agg #[.int .i64 0, .int .i64 0, .string ⟨#[]⟩]) 3 32 Try.underlying24 hi0 hz0 hz1 hz2 rfl (by decide) _ _ _ rfl (hr.alloc _) ⟨wr.heap.size, 0, none⟩ 1 1 a.cells rfl rfl (cst_news wr a) (cst_one a) (by decide) (by unfold maxLen; omega) (by omega) (by simp; omega) (wr.heap.size + 1) (by simp) ?_; intro g' cap w2 hown2 hgrow2 hat2 hlt2)
      obtain ⟨r2, b2⟩ := own_push HB.out HR.out (by rw [hl]; exact hown2) hgrow2
      exact ⟨.mk (n + 1) (by omega) (by go_num) (by rw [E.out]; exact r2) b2, by simp [intOf]; omega⟩
    · obtain rfl : n = cs.length := by omega
      rw [List.take_length] at hr
      go_wp2
      go_loopw [3, 5] (fun l k wr => Out w cs l k wr) (fun _ k _ => cs.length - (intOf k).toNat)
      case atStart => exact .mk 1 cs (Nat.le_refl _) (by omega) rfl hr (List.Perm.refl _) (runs_one _) hb
      case round =>
        clear hr hb hn hin hii
        obtain ⟨k, L, h1, hk, rfl, hr, hp, hs, hb⟩ := hrel
        have HL := Lib.hid (show L.length = cs.length from hp.length_eq)
        have okL : ∀ c ∈ L, c.s.size ≤ maxLen := fun c hc => ok c (hp.mem_iff.1 hc)
        have hkk : (0 : Int) ≤ (k : Int) := by omega
        by_cases hkl : k < L.length
        · have hkl' : (k : Int) < (L.length : Int) := by omega
          obtain ⟨g, cap, rfl, hbg, hlc, hcm⟩ := own_form3 hr (by omega)
          have hlb : L.length * 32 ≤ 140737488355328 := by rw [HL.out]; exact hlen
          unfold maxLen at hcm
          obtain ⟨wl, rfl⟩ : ∃ wl : World, wl = wr := ⟨_, rfl⟩
          have hszl := hb.size
          go_wp2
          go_loopw [6, 7] (fun m i wr' => In wl k L m i wr') (fun _ i _ => L.length - (intOf i).toNat)
          case atStart => exact .mk 0 [] rfl (by omega) (World.ownsRow_nil _ _ _ _) (pass_start _ _) (Below.refl _ _)
          case round =>
            obtain ⟨n, M, rfl, hn, hrm, hpa, hbl⟩ := hrel
            have hnn : (0 : Int) ≤ (n : Int) := by omega
            by_cases hin : n < L.length
            · have hin' : (n : Int) < (L.length : Int) := by omega
              have hrl : OwnC wr.drew w.heap.size (.slice (some ⟨g, 0, none⟩) L.length cap) L := ownC_below hr hbl.drew
              have hml := pass_len hpa
              have hpl := part_len (w := k) (i := n) (l := L)
              have P1 := own_sub hrl n k
              have P2 := own_sub hrl (n + k) k
              have hlen1 : ((L.drop n).take k).length = min k (L.length - n) := by rw [List.length_take, List.length_drop]
              have hlen2 : ((L.drop (n + k)).take k).length = min k (L.length - (n + k)) := by rw [List.length_take, List.length_drop]
              have HP := Lib.hid (pass_step hpa hs hin)
              have hp0 : 0 < (part k n L).length := by omega
              have hp1 : M.length + (part k n L).length ≤ L.length := by omega
              have hrmd : OwnC wr.drew wl.heap.size u6 M := hrm
              have hszd : wl.heap.size ≤ wr.drew.heap.size := hbl.size
              have HM := Lib.hid hrm
              clear hrm hpa
              rcases (show n + 2 * k ≤ L.length ∨ (n + k < L.length ∧ L.length < n + 2 * k) ∨ L.length < n + k ∨ L.length = n + k by omega) with hc | ⟨hc, hc'⟩ | hc | hc
              · have hc2 : (n : Int) + (k : Int) ≤ (L.length : Int) := by omega
                have hc1 : (n : Int) + 2 * (k : Int) ≤ (L.length : Int) := by omega
                have s2 : (n : Int) + 2 * (k : Int) ≤ (cap : Int) := by omega
                have s4 : (n : Int) + (k : Int) ≤ (n : Int) + 2 * (k : Int) := by omega
                have s1 : (n : Int) + (k : Int) ≤ (cap : Int) := by omega
                have s3 : (n : Int) ≤ (n : Int) + (k : Int) := by omega
                have s5 : (0 : Int) ≤ (n : Int) + (k : Int) := by omega
                have HC := Lib.hid (fun c1 c2 => mergeE (ca := c1) (cb := c2) (n1 := k) (n2 := n + 2 * k - (n + k)) (by omega) (by omega) P1 P2 (fun c hc => okL c (List.mem_of_mem_drop (List.mem_of_mem_take hc))) (fun c hc => okL c (List.mem_of_mem_drop (List.mem_of_mem_take hc))) (by omega))
                clear hlen1 hlen2 hpl hml P1 P2
                go_wp2
                go_still_tail 8, (by kernel_rfl)
                change wpList _ _ _ _ _ wr.drew
                go_wp2_with fail
                all_goals (refine (HC.out _ _).mono ?_; rintro e w4 ⟨vp, rfl, hpo, hbel⟩; have hpo' : OwnC w4 _ vp (part k n L) := hpo; obtain ⟨gp, cp, rfl, _, _, _⟩ := own_form3 hpo' hp0; have hrm4 := ownC_below hrmd hbel; have hrm5 : w4.ownsRow wl.heap.size 27 3 u6 M.length (M.flatMap Cst.cells) := hrm4; have HB := Lib.hid (hbl.drew.trans (hbel.mono hszd)); have hsz4 : wl.heap.size ≤ w4.heap.size := Nat.le_trans hszd hbel.size; have HQ := Lib.hid hpo'; clear hpo hpo' hbel; go_wp2_with (at_builtin; refine wpList_append_lies _ rfl (.tmp 60) (.tmp 61) 24 rfl wl.heap.size 27 i0 (.agg #[.int .i64 0, .int .i64 0, .string ⟨#[]⟩]) 3 32 Try.underlying24 hi0 hz0 hz1 hz2 rfl (by decide) _ _ _ rfl hrm5 ⟨gp, 0, none⟩ (part k n L).length cp ((part k n L).flatMap Cst.cells) rfl HQ.out.1 (own_cells HQ.out) (csts_one _) (by omega) (by unfold maxLen; omega) (by omega) hsz4 w4.heap.size rfl ?_; intro g' cap' w2 hown2 hgrow2 hat2 hlt2); obtain ⟨r2, b2⟩ := own_push2 (m := u6) HB.out hrm4 hown2 hgrow2; first | exact ⟨.mk (n + 2 * k) _ (by go_num) (by omega) r2 HP.out b2, by simp [intOf]; omega⟩ | (refine ⟨?_, by simp [intOf]; omega⟩; (repeat apply Exists.intro); exact ⟨.mk (n + 2 * k) _ (by go_num) (by omega) r2 HP.out b2, rfl⟩))
              · have hc2 : (n : Int) + (k : Int) ≤ (L.length : Int) := by omega
                have hc1 : (L.length : Int) < (n : Int) + 2 * (k : Int) := by omega
                have s2 : (L.length : Int) ≤ (cap : Int) := by omega
                have s1 : (n : Int) + (k : Int) < (cap : Int) := by omega
                have s6 : n + k < cap := by omega
                have s7 : (n : Int) + (k : Int) ≤ (cap : Int) := by omega
                have s8 : (n : Int) + (k : Int) ≤ (L.length : Int) := by omega
                have s3 : (n : Int) ≤ (n : Int) + (k : Int) := by omega
                have s5 : (0 : Int) ≤ (n : Int) + (k : Int) := by omega
                have HC := Lib.hid (fun c1 c2 => mergeE (ca := c1) (cb := c2) (n1 := k) (n2 := L.length - (n + k)) (by omega) (by omega) P1 P2 (fun c hc => okL c (List.mem_of_mem_drop (List.mem_of_mem_take hc))) (fun c hc => okL c (List.mem_of_mem_drop (List.mem_of_mem_take hc))) (by omega))
                clear hlen1 hlen2 hpl hml P1 P2
                go_wp2
                go_still_tail 8, (by kernel_rfl)
                change wpList _ _ _ _ _ wr.drew
                go_wp2_with fail
                all_goals (refine (HC.out _ _).mono ?_; rintro e w4 ⟨vp, rfl, hpo, hbel⟩; have hpo' : OwnC w4 _ vp (part k n L) := hpo; obtain ⟨gp, cp, rfl, _, _, _⟩ := own_form3 hpo' hp0; have hrm4 := ownC_below hrmd hbel; have hrm5 : w4.ownsRow wl.heap.size 27 3 u6 M.length (M.flatMap Cst.cells) := hrm4; have HB := Lib.hid (hbl.drew.trans (hbel.mono hszd)); have hsz4 : wl.heap.size ≤ w4.heap.size := Nat.le_trans hszd hbel.size; have HQ := Lib.hid hpo'; clear hpo hpo' hbel; go_wp2_with (at_builtin; refine wpList_append_lies _ rfl (.tmp 60) (.tmp 61) 24 rfl wl.heap.size 27 i0 (.agg #[.int .i64 0, .int .i64 0, .string ⟨#[]⟩]) 3 32 Try.underlying24 hi0 hz0 hz1 hz2 rfl (by decide) _ _ _ rfl hrm5 ⟨gp, 0, none⟩ (part k n L).length cp ((part k n L).flatMap Cst.cells) rfl HQ.out.1 (own_cells HQ.out) (csts_one _) (by omega) (by unfold maxLen; omega) (by omega) hsz4 w4.heap.size rfl ?_; intro g' cap' w2 hown2 hgrow2 hat2 hlt2); obtain ⟨r2, b2⟩ := own_push2 (m := u6) HB.out hrm4 hown2 hgrow2; first | exact ⟨.mk (n + 2 * k) _ (by go_num) (by omega) r2 HP.out b2, by simp [intOf]; omega⟩ | (refine ⟨?_, by simp [intOf]; omega⟩; (repeat apply Exists.intro); exact ⟨.mk (n + 2 * k) _ (by go_num) (by omega) r2 HP.out b2, rfl⟩))
              · have hc2 : (L.length : Int) < (n : Int) + (k : Int) := by omega
                have hc1 : (L.length : Int) < (n : Int) + 2 * (k : Int) := by omega
                have s2 : (L.length : Int) ≤ (cap : Int) := by omega
                have s3 : (n : Int) ≤ (L.length : Int) := by omega
                have s5 : (0 : Int) ≤ (L.length : Int) := by omega
                have HC := Lib.hid (fun c1 c2 (B : Option Addr) (n2 : Nat) (h2 : n2 = 0) => mergeE (ca := c1) (cb := c2) (n1 := L.length - n) (n2 := n2) (B := B) (ys := (L.drop (n + k)).take k) (by omega) (by omega) P1 (.inl (List.eq_nil_of_length_eq_zero (by omega))) (fun c hc => okL c (List.mem_of_mem_drop (List.mem_of_mem_take hc))) (fun c hc => okL c (List.mem_of_mem_drop (List.mem_of_mem_take hc))) (by omega))
                clear hlen1 hlen2 hpl hml P1 P2
                go_wp2
                go_still_tail 8, (by kernel_rfl)
                change wpList _ _ _ _ _ wr.drew
                go_wp2_with fail
                all_goals (refine (HC.out _ _ _ _ (by omega)).mono ?_; rintro e w4 ⟨vp, rfl, hpo, hbel⟩; have hpo' : OwnC w4 _ vp (part k n L) := hpo; obtain ⟨gp, cp, rfl, _, _, _⟩ := own_form3 hpo' hp0; have hrm4 := ownC_below hrmd hbel; have hrm5 : w4.ownsRow wl.heap.size 27 3 u6 M.length (M.flatMap Cst.cells) := hrm4; have HB := Lib.hid (hbl.drew.trans (hbel.mono hszd)); have hsz4 : wl.heap.size ≤ w4.heap.size := Nat.le_trans hszd hbel.size; have HQ := Lib.hid hpo'; clear hpo hpo' hbel; go_wp2_with (at_builtin; refine wpList_append_lies _ rfl (.tmp 60) (.tmp 61) 24 rfl wl.heap.size 27 i0 (.agg #[.int .i64 0, .int .i64 0, .string ⟨#[]⟩]) 3 32 Try.underlying24 hi0 hz0 hz1 hz2 rfl (by decide) _ _ _ rfl hrm5 ⟨gp, 0, none⟩ (part k n L).length cp ((part k n L).flatMap Cst.cells) rfl HQ.out.1 (own_cells HQ.out) (csts_one _) (by omega) (by unfold maxLen; omega) (by omega) hsz4 w4.heap.size rfl ?_; intro g' cap' w2 hown2 hgrow2 hat2 hlt2); obtain ⟨r2, b2⟩ := own_push2 (m := u6) HB.out hrm4 hown2 hgrow2; first | exact ⟨.mk (n + 2 * k) _ (by go_num) (by omega) r2 HP.out b2, by simp [intOf]; omega⟩ | (refine ⟨?_, by simp [intOf]; omega⟩; (repeat apply Exists.intro); refine ⟨.mk (n + 2 * k) _ (by go_num) (by omega) r2 HP.out b2, ?_⟩; rw [show cap = L.length by omega]; (try rfl)))
              · have hc2 : (n : Int) + (k : Int) ≤ (L.length : Int) := by omega
                have hc1 : (L.length : Int) < (n : Int) + 2 * (k : Int) := by omega
                have s2 : (L.length : Int) ≤ (cap : Int) := by omega
                have s3 : (n : Int) ≤ (L.length : Int) := by omega
                have s1 : (n : Int) + (k : Int) ≤ (cap : Int) := by omega
                have s4 : (n : Int) ≤ (n : Int) + (k : Int) := by omega
                have s5 : (0 : Int) ≤ (n : Int) + (k : Int) := by omega
                have hc0 : L.length ≤ n + k := by omega
                have hc9 : n + k ≤ L.length := by omega
                have HC := Lib.hid (fun c1 c2 (B : Option Addr) (n2 : Nat) (h2 : n2 = 0) => mergeE (ca := c1) (cb := c2) (n1 := k) (n2 := n2) (B := B) (ys := (L.drop (n + k)).take k) (by omega) (by omega) P1 (.inl (List.eq_nil_of_length_eq_zero (by omega))) (fun c hc => okL c (List.mem_of_mem_drop (List.mem_of_mem_take hc))) (fun c hc => okL c (List.mem_of_mem_drop (List.mem_of_mem_take hc))) (by omega))
                clear hc
                clear hlen1 hlen2 hpl hml P1 P2
                go_wp2
                go_still_tail 8, (by kernel_rfl)
                change wpList _ _ _ _ _ wr.drew
                go_wp2_with fail
                all_goals (refine (HC.out _ _ _ _ (by omega)).mono ?_; rintro e w4 ⟨vp, rfl, hpo, hbel⟩; have hpo' : OwnC w4 _ vp (part k n L) := hpo; obtain ⟨gp, cp, rfl, _, _, _⟩ := own_form3 hpo' hp0; have hrm4 := ownC_below hrmd hbel; have hrm5 : w4.ownsRow wl.heap.size 27 3 u6 M.length (M.flatMap Cst.cells) := hrm4; have HB := Lib.hid (hbl.drew.trans (hbel.mono hszd)); have hsz4 : wl.heap.size ≤ w4.heap.size := Nat.le_trans hszd hbel.size; have HQ := Lib.hid hpo'; clear hpo hpo' hbel; go_wp2_with (at_builtin; refine wpList_append_lies _ rfl (.tmp 60) (.tmp 61) 24 rfl wl.heap.size 27 i0 (.agg #[.int .i64 0, .int .i64 0, .string ⟨#[]⟩]) 3 32 Try.underlying24 hi0 hz0 hz1 hz2 rfl (by decide) _ _ _ rfl hrm5 ⟨gp, 0, none⟩ (part k n L).length cp ((part k n L).flatMap Cst.cells) rfl HQ.out.1 (own_cells HQ.out) (csts_one _) (by omega) (by unfold maxLen; omega) (by omega) hsz4 w4.heap.size rfl ?_; intro g' cap' w2 hown2 hgrow2 hat2 hlt2); obtain ⟨r2, b2⟩ := own_push2 (m := u6) HB.out hrm4 hown2 hgrow2; first | exact ⟨.mk (n + 2 * k) _ (by go_num) (by omega) r2 HP.out b2, by simp [intOf]; omega⟩ | (refine ⟨?_, by simp [intOf]; omega⟩; (repeat apply Exists.intro); refine ⟨.mk (n + 2 * k) _ (by go_num) (by omega) r2 HP.out b2, ?_⟩; rw [show cap = n + k by omega]; (try rfl)))
            · have hin' : (L.length : Int) ≤ (n : Int) := by omega
              obtain ⟨hpe, hre⟩ := pass_end hpa (by omega)
              have HE := Lib.hid (And.intro hpe hre)
              obtain ⟨va, vc, rfl⟩ := own_anyC hrm
              clear hpe hre
              go_wp2
              exact ⟨.mk (2 * k) M (by omega) (by have := HL.out; omega) (by go_num) (ownC_weak hrm hszl) (HE.out.1.trans hp) HE.out.2 (hb.trans (hbl.mono hszl)), by have := HL.out; simp [intOf]; omega⟩
        · have hkl' : (L.length : Int) ≤ (k : Int) := by omega
          obtain ⟨va, vc, rfl⟩ := own_anyC hr
          have HF := Lib.hid (runs_all hs (by omega))
          clear hs
          go_wp2
          go_ret
          exact ⟨_, L, rfl, hr, HF.out, hp, hb⟩
end Go.Proofs.Ytblonickpmogiaa
