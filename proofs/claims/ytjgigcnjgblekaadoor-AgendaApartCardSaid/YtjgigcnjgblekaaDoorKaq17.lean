/- append of one element onto an owned row, at more elements than the kit's law bears: the growth is a quarter there. Over any program. -/
import Derived.Deep.AppendLies
namespace Go.Proofs.YtjgigcnjgblekaaDoor
open Go

theorem quarterN {n : Nat} (h : 256 ≤ n) : 4 * Builtin.nextslicecap (n + 1) n ≤ 5 * n + 772 := by
  unfold Builtin.nextslicecap
  rw [if_neg (by omega), if_neg (by omega)]
  simp only [Builtin.growBy]
  rw [if_neg (by omega), if_pos (by omega)]
  omega
theorem quarter {n : Nat} (h : 256 ≤ n) (hn : n ≤ 6000000000000) : Builtin.nextslicecap (n + 1) n ≤ 7500000000193 := by
  have := quarterN h
  omega
/-- Room for one more. -/
theorem room_of {n bytes : Nat} (hn : n ≤ 6000000000000 ∨ (0 < bytes ∧ n * bytes ≤ 200000000000000)) (hb : bytes ≤ 32) : n ≤ 200000000000000 ∧ (256 ≤ n → Builtin.nextslicecap (n + 1) n * bytes ≤ 281474976710656) := by
  have hm : n * bytes ≤ 200000000000000 := by
    rcases hn with h | h
    · exact Nat.le_trans (Nat.mul_le_mul h hb) (by decide)
    · exact h.2
  refine ⟨?_, fun h => ?_⟩
  · rcases hn with h | h
    · omega
    · exact Nat.le_trans (Nat.le_mul_of_pos_right n h.1) h.2
  · have q := Nat.mul_le_mul_right bytes (quarterN h)
    rw [Nat.mul_assoc, Nat.add_mul, Nat.mul_assoc] at q
    have : 772 * bytes ≤ 772 * 32 := Nat.mul_le_mul_left _ hb
    omega

section
variable {P : Program} (w : World)
theorem run_append1 (t ty : TypeId) (base : Nat) (e : TypeId) (i : TypeInfo) (z : Value) (size bytes : Nat) (ht : P.underlying t = some (.slice e)) (hi : P.info? e = some i) (hz : i.zero = some z)
    (hsize : i.size = size) (hby : i.bytes = bytes) (hzs : z.cells.size = size) (hsz : 0 < size)
    (v : Value) (n : Nat) (xs : List Value) (hown : w.ownsRow base e size v n xs)
    (ad : Addr) (c : Nat) (news : List Value) (hl : news.length = 1 * size) (hnews : ∀ j u, news[j]? = some u → w.cell? (ad.add j) = some u) (h1 : ∀ u ∈ news, u.oneCell' = true)
    (hn : n ≤ 6000000000000 ∨ (0 < bytes ∧ n * bytes ≤ 200000000000000)) (hb : bytes ≤ 32) (hbase : base ≤ w.heap.size) (H : Nat) (hH : w.heap.size = H) :
    ∃ g cap w', (Builtin.append_ #[t, t] ty #[v, .slice (some ad) 1 c]).run P w = .ok (.slice (some ⟨g, 0, none⟩) (n + 1) cap) w' ∧
      w'.ownsRow base e size (.slice (some ⟨g, 0, none⟩) (n + 1) cap) (n + 1) (xs ++ news) ∧ w.grownBy w' v.ownBlock ∧ (v.ownBlock = some g ∨ g = H) ∧ g < w'.heap.size := by
  have hroo := room_of hn hb
  have h63 : n + 1 ≤ maxLen := by have := hroo.1; unfold maxLen; omega
  by_cases hbytes : (n + 1) * bytes ≤ 140737488355328
  · exact run_append_lies (P := P) w t ty base e i z size bytes ht hi hz hsize hby hzs hsz v n xs hown ad 1 c news hl hnews h1 (by omega) h63 hbytes hbase H hH
  subst hsize
  subst hby
  have hbig : 256 ≤ n := by
    rcases Nat.lt_or_ge n 256 with h | h
    · exact absurd (Nat.le_trans (Nat.mul_le_mul (show n + 1 ≤ 256 by omega) hb) (by decide)) hbytes
    · exact h
  have hlen : (xs ++ news).length = (n + 1) * i.size := by rw [List.length_append, hown.1, hl, Nat.add_mul]
  rcases hown.2 with ⟨_, h0⟩ | ⟨g, cap, cur, rfl, hbg, hg, hnc, hcm, hcs, htake⟩
  · omega
  by_cases hroom : n + 1 ≤ cap
  · have hfit : n * i.size + news.length ≤ cur.size := by rw [hl, hcs, ← Nat.add_mul]; exact Nat.mul_le_mul_right _ hroom
    have hr := run_append_room (P := P) w t ty e i ht hi g n cap cur hg ad 1 c news hl hnews h1 hroom hfit
    have hglt : g < w.heap.size := (Array.getElem?_eq_some_iff.1 hg).1
    refine ⟨g, cap, _, hr, ⟨hlen, .inr ⟨g, cap, _, rfl, hbg, setRow_heap w g cur _ e _ hg, hroom, hcm, ?_, ?_⟩⟩, ⟨rfl, rfl, rfl, by simp, fun k _ hk => setRow_other w g k _ (fun e => hk (by simp [Value.ownBlock, e]))⟩, .inl rfl, by simpa using hglt⟩
    · simp only [List.size_toArray, List.length_append, List.length_take, List.length_drop, Array.length_toList]
      omega
    · rw [htake, ← hlen]
      exact List.take_left
  · obtain rfl : cap = n := by omega
    have holds : ∀ j u, xs[j]? = some u → w.cell? ((⟨g, 0, none⟩ : Addr).add j) = some u := hown.cells (g := g) rfl
    have hfits : Builtin.nextslicecap (cap + 1) cap * i.bytes ≤ 281474976710656 := hroo.2 hbig
    have hr := run_append_grow (P := P) w t ty e i z ht hi hz ⟨g, 0, none⟩ cap cap xs hown.1 holds ad 1 c news hl hnews (by omega) (by unfold maxLen at h63; omega) hfits
    have hge := grownCap_ge w (cap + 1) cap e
    have hgm := grownCap_le_maxLen w (cap + 1) cap e h63
    refine ⟨w.heap.size, _, _, hr, ⟨hlen, .inr ⟨w.heap.size, _, _, rfl, hbase, heap_alloc_new w.drew _, hge, hgm, ?_, ?_⟩⟩, ⟨rfl, rfl, rfl, by simp, fun k hk _ => heap_alloc_old w.drew _ k hk⟩, .inr hH, by simp⟩
    · simp only [Array.size_append, List.size_toArray, size_zeroCells, hzs, hown.1, hl, ← Nat.add_mul]
      congr 1
      omega
    · simp only [Array.toList_append, List.append_assoc]
      rw [← List.append_assoc, ← hlen]
      exact List.take_left

theorem step_append1 {ops : Array Oper} {o : Oper} {a : Act} {K : Act → World → Prop} {Q : Exit → Act → World → Prop} {E : Prop} (hgd : o.guard = none) (s x : Operand) (t : TypeId)
    (ho : o.op = .call { callee := .builtin .append, args := #[s, x], argTypes := #[t, t] })
    (base : Nat) (e : TypeId) (i : TypeInfo) (z : Value) (size bytes : Nat) (ht : P.underlying t = some (.slice e)) (hi : P.info? e = some i) (hz : i.zero = some z)
    (hsize : i.size = size) (hby : i.bytes = bytes) (hzs : z.cells.size = size) (hsz : 0 < size)
    (v : Value) (n : Nat) (xs : List Value) (hs : a.eval s = v) (hown : w.ownsRow base e size v n xs)
    (ad : Addr) (c : Nat) (news : List Value) (hx : a.eval x = .slice (some ad) 1 c) (hl : news.length = 1 * size) (hnews : ∀ j u, news[j]? = some u → w.cell? (ad.add j) = some u) (h1 : ∀ u ∈ news, u.oneCell' = true)
    (hn : n ≤ 6000000000000 ∨ (0 < bytes ∧ n * bytes ≤ 200000000000000)) (hb : bytes ≤ 32) (hbase : base ≤ w.heap.size) (H : Nat) (hH : w.heap.size = H)
    (h : ∀ g cap w', w'.ownsRow base e size (.slice (some ⟨g, 0, none⟩) (n + 1) cap) (n + 1) (xs ++ news) → w.grownBy w' v.ownBlock → (v.ownBlock = some g ∨ g = H) → g < w'.heap.size → K (a.put o.dst (.slice (some ⟨g, 0, none⟩) (n + 1) cap)) w') :
    if Region.wanted o (yielded ops a.tmps) = true then Oper.wp P o a w K Q else E := by
  have hw : Region.wanted o (yielded ops a.tmps) = true := by simp [Region.wanted, hgd]
  rw [if_pos hw]
  obtain ⟨g, cap, w', hr, h2, h3, h4, h5⟩ := run_append1 (P := P) w t o.type base e i z size bytes ht hi hz hsize hby hzs hsz v n xs hown ad c news hl hnews h1 hn hb hbase H hH
  unfold Oper.wp execOp
  simp only [ho, resolve, invoke, builtin, Sem.run_bind, Sem.run_pure, Result.andThen_ok, List.map_toArray, List.map_cons, List.map_nil, hs, hx, hr]
  exact h g cap w' h2 h3 h4 h5
end
end Go.Proofs.YtjgigcnjgblekaaDoor
