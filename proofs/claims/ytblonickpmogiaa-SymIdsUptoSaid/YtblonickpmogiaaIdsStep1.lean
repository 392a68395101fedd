/- idsStep's call 1: Intern on both. -/
import Derived.Test.YtblonickpmogiaaIdsStep
import Derived.Deep.RegionWith
namespace Go.Proofs.Ytblonickpmogiaa
open Go.RowKit Go.Maps

theorem mem_addK (ks : List ByteArray) (k : ByteArray) : k ∈ addK ks k := by
  unfold addK
  split
  · assumption
  · simp
/-- Intern on both, before and behind itself: the same answer. -/
theorem intern_again {ks : List ByteArray} (k : ByteArray) (hk : k.size ≤ maxLen) (hlen : ks.length ≤ 5900000000000) : ∃ r : Int, ∀ a, a = ks ∨ a = addK ks k →
    (∀ (base : Nat) (w : World) (g m : Nat) (s : Value), base ≤ w.heap.size → IdsAt Try.prog kindS base w g m s a → Calls Try.prog 64 #[.pointer (some ⟨g, 0, none⟩), .string k] w fun e w' => e = .returned (.int .i64 r) ∧ Left Try.prog kindS base w g m s (addK ks k) w') ∧
    (∀ (base : Nat) (w : World) (g : Nat) (s : Value), base ≤ w.heap.size → RefAt base w g s a → Calls Try.prog 63 #[.pointer (some ⟨g, 0, none⟩), .string k] w fun e w' => e = .returned (.int .i64 r) ∧ RefLeft base w g s (addK ks k) w') := by
  have hl := addK_len ks k
  obtain ⟨i, h1, h2⟩ := first_place (mem_addK ks k)
  refine ⟨i, ?_⟩
  rintro a (rfl | rfl)
  · by_cases h : k ∈ a
    · have e : addK a k = a := by unfold addK; rw [if_pos h]
      rw [e] at h1 h2 ⊢
      exact ⟨fun base w g m s hb hx => (internS_old hx h1).mono fun e w' ⟨he, hw⟩ => ⟨he, hw ▸ left_same hx⟩, fun base w g s hb hy => (internR_old hy (by omega) h1 h2).mono fun e w' ⟨he, hw⟩ => ⟨he, hw ▸ refLeft_same hy⟩⟩
    · have e : addK a k = a ++ [k] := by unfold addK; rw [if_neg h]
      rw [e] at h1 h2 ⊢
      have hi : i = a.length := by
        rcases Nat.lt_trichotomy i a.length with hlt | he | hgt
        · rw [List.getElem?_append_left hlt] at h1
          exact absurd (List.mem_of_getElem? h1) h
        · exact he
        · exact absurd (by simp) (h2 a.length hgt)
      subst hi
      exact ⟨fun base w g m s hb hx => internS_new hx hb hk h (by omega), fun base w g s hb hy => internR_new hy hb (by omega) h⟩
  · exact ⟨fun base w g m s hb hx => (internS_old hx h1).mono fun e w' ⟨he, hw⟩ => ⟨he, hw ▸ left_same hx⟩, fun base w g s hb hy => (internR_old hy (by omega) h1 h2).mono fun e w' ⟨he, hw⟩ => ⟨he, hw ▸ refLeft_same hy⟩⟩

theorem ref_cell {base : Nat} {w w' : World} {g : Nat} {s : Value} {ks ks' : List ByteArray} (hl : RefLeft base w g s ks' w') (h : RefAt base w g s ks) {H : Nat} {cs : Array Value} (hb : w.heap[H]? = some (.cells cs 51 (0, 0))) : w'.heap[H]? = some (.cells cs 51 (0, 0)) := by
  obtain ⟨s', _, ht, _⟩ := hl
  refine (ht.block H (lt_of_heap hb) ?_).trans hb
  intro hm
  simp only [rfoot, List.mem_cons, Option.mem_toList] at hm
  rcases hm with rfl | hm
  · have := h.blk
    rw [hb] at this
    injection this with this
    injection this with _ e
    exact absurd e (by decide)
  · obtain ⟨_, _, cur, h3⟩ := ownBlock_cells h.own hm
    rw [hb] at h3
    injection h3 with h3
    injection h3 with _ e
    exact absurd e (by decide)

set_option maxRecDepth 100000 in
set_option maxHeartbeats 2000000 in
theorem step1 {base : Nat} {w : World} {g1 m1 : Nat} {s1 : Value} {g2 : Nat} {s2 : Value} {ks : List ByteArray} (h : Both base w g1 m1 s1 g2 s2 ks) (K : ByteArray) (N : Int) (hK : K.size ≤ maxLen) (hlen : ks.length ≤ 5900000000000) :
    Calls Try.prog 30 #[.pointer (some ⟨g1, 0, none⟩), .pointer (some ⟨g2, 0, none⟩), .agg #[.int .i64 1, .string K, .int .i64 N]] w fun e w' => e = .returned (.bool true) ∧ DoneS base w g1 m1 g2 (ks.length + 1) w' := by
  obtain ⟨W, hW, hbox, B, hB⟩ := h.boxed 1 N K
  have o1 : W.cell? ⟨w.heap.size, 1, none⟩ = some (.string K) := cell_of_row W _ 1 _ _ _ hbox
  have o0 : W.cell? ⟨w.heap.size, 0, none⟩ = some (.int .i64 1) := cell_of_row W _ 0 _ _ _ hbox
  obtain ⟨r, hx, hy⟩ := intern_two (ks := ks) K hK (by omega)
  have hwf := addK_wf h.wf hK
  have hal := addK_len ks K
  have HX := Lib.hid hx
  have HY := Lib.hid hy
  have hbd : W.drew.heap[w.heap.size]? = some (.cells #[.int .i64 1, .string K, .int .i64 N] 51 (0, 0)) := hbox
  have M : Mid base W.drew g1 m1 s1 ks g2 s2 ks := (B.drewN 1).mid
  have hBd : Below base w W.drew := drewN_below hB 1
  clear h hbox hx hy hB B
  subst hW
  go_enter Try.func30, Try.ntmps30
  go_wp2_with fail
  go_region_with (first
    | (go_at_call 64; refine (HX.out _ _ _ _ _ M.hb M.x).mono ?_; rintro e w' ⟨rfl, hl⟩; obtain ⟨t1, M1, b1⟩ := M.leftX hl; have hbx2 := left_cell hl M.x hbd; have q1 : w'.cell? ⟨w.heap.size, 1, none⟩ = some (.string K) := cell_of_row w' _ 1 _ _ _ hbx2; clear hl)
    | (go_at_call 63; refine (HY.out _ _ _ _ M1.hb M1.y).mono ?_; rintro e w'' ⟨rfl, hl⟩; obtain ⟨t2, M2, b2⟩ := M1.leftY hl; have hbx3 := ref_cell hl M1.y hbx2; have q2 : w''.cell? ⟨w.heap.size, 1, none⟩ = some (.string K) := cell_of_row w'' _ 1 _ _ _ hbx3; clear hl))
  all_goals go_wp2
  all_goals (go_ret; exact ⟨by first | rfl | (simp; rfl), _, _, _, M2.both hwf, hal, (hBd.trans b1).trans b2⟩)
end Go.Proofs.Ytblonickpmogiaa
