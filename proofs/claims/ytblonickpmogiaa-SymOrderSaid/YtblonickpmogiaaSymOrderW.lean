/- The walk of SymOrder: it returns true. -/
import Derived.Test.YtblonickpmogiaaCmpC
import Derived.Test.YtblonickpmogiaaSl
import Derived.Deep.DeepCutAuto
import Derived.Deep.RegionHeld3
import Derived.WalkSpells
namespace Go.Proofs.Ytblonickpmogiaa.symOrder
open Go.RowKit
attribute [local go_sem ↓] Go.wp_at_zero Go.wp_at_succ

/-- Block b holds the constant c. -/
def Blk3 (w : World) (b : Nat) (k n : Int) (x : ByteArray) : Prop :=
  w.cell? ⟨b, 0, none⟩ = some (.int .i64 k) ∧ w.cell? ⟨b, 1, none⟩ = some (.int .i64 n) ∧ w.cell? ⟨b, 2, none⟩ = some (.string x) ∧ b < w.heap.size
theorem Blk3.below {w w' : World} {b : Nat} {k n : Int} {x : ByteArray} (h : Blk3 w b k n x) (hb : Below w.heap.size w w') : Blk3 w' b k n x :=
  ⟨(hb.cell (p := ⟨b, 0, none⟩) h.2.2.2).trans h.1, (hb.cell (p := ⟨b, 1, none⟩) h.2.2.2).trans h.2.1, (hb.cell (p := ⟨b, 2, none⟩) h.2.2.2).trans h.2.2.1, Nat.lt_of_lt_of_le h.2.2.2 hb.size⟩
theorem Blk3.new (w : World) (k n : Int) (x : ByteArray) (t : TypeId) : Blk3 (w.alloc (.cells #[.int .i64 k, .int .i64 n, .string x] t)) w.heap.size k n x := by
  refine ⟨?_, ?_, ?_, ?_⟩ <;> simp
theorem Blk3.alloc {w : World} {b : Nat} {k n : Int} {x : ByteArray} (h : Blk3 w b k n x) (o : Obj) : Blk3 (w.alloc o) b k n x :=
  h.below ((Below.refl _ _).alloc (Nat.le_refl _) _)
theorem Blk3.drew {w : World} {b : Nat} {k n : Int} {x : ByteArray} (h : Blk3 w b k n x) : Blk3 w.drew b k n x := h
theorem Blk3.at_ {w : World} {b b' : Nat} {k n : Int} {x : ByteArray} (h : Blk3 w b k n x) (e : b = b') : Blk3 w b' k n x := e ▸ h

theorem keep11 {W w' w : World} {H1 : Nat} {ak an bk bn : Int} {ax bx z : ByteArray} (h1 : Blk3 W w.heap.size ak an ax) (h2 : Blk3 W (w.heap.size + 1) bk bn bx) (h3 : Below w.heap.size w W) (h4 : Blk3 W H1 1 an z) (h5 : Blk3 W (H1 + 1) 1 bn z)
    (hb : Below W.heap.size W w') : Blk3 w' w.heap.size ak an ax ∧ Blk3 w' (w.heap.size + 1) bk bn bx ∧ Below w.heap.size w w' ∧ w'.cell? ⟨w.heap.size, 1, none⟩ = some (.int .i64 an) ∧ w'.cell? ⟨w.heap.size + 1, 1, none⟩ = some (.int .i64 bn) ∧
          w'.cell? ⟨H1, 0, none⟩ = some (.int .i64 1) ∧ w'.cell? ⟨H1, 1, none⟩ = some (.int .i64 an) ∧ w'.cell? ⟨H1, 2, none⟩ = some (.string z) ∧
          w'.cell? ⟨H1 + 1, 0, none⟩ = some (.int .i64 1) ∧ w'.cell? ⟨H1 + 1, 1, none⟩ = some (.int .i64 bn) ∧ w'.cell? ⟨H1 + 1, 2, none⟩ = some (.string z) ∧ Blk3 w' H1 1 an z ∧ Blk3 w' (H1 + 1) 1 bn z :=
  ⟨h1.below hb, h2.below hb, below_step h3 hb, (h1.below hb).2.1, (h2.below hb).2.1, (h4.below hb).1, (h4.below hb).2.1, (h4.below hb).2.2.1, (h5.below hb).1, (h5.below hb).2.1, (h5.below hb).2.2.1, h4.below hb, h5.below hb⟩
theorem out11 {w' w : World} {H1 : Nat} {ak an bk bn : Int} {ax bx z : ByteArray} (h : Blk3 w' w.heap.size ak an ax ∧ Blk3 w' (w.heap.size + 1) bk bn bx ∧ Below w.heap.size w w' ∧ w'.cell? ⟨w.heap.size, 1, none⟩ = some (.int .i64 an) ∧ w'.cell? ⟨w.heap.size + 1, 1, none⟩ = some (.int .i64 bn) ∧
          w'.cell? ⟨H1, 0, none⟩ = some (.int .i64 1) ∧ w'.cell? ⟨H1, 1, none⟩ = some (.int .i64 an) ∧ w'.cell? ⟨H1, 2, none⟩ = some (.string z) ∧
          w'.cell? ⟨H1 + 1, 0, none⟩ = some (.int .i64 1) ∧ w'.cell? ⟨H1 + 1, 1, none⟩ = some (.int .i64 bn) ∧ w'.cell? ⟨H1 + 1, 2, none⟩ = some (.string z) ∧ Blk3 w' H1 1 an z ∧ Blk3 w' (H1 + 1) 1 bn z) :
    Blk3 w' w.heap.size ak an ax ∧ Blk3 w' (w.heap.size + 1) bk bn bx ∧ Blk3 w' H1 1 an z ∧ Below w.heap.size w w' :=
  let ⟨g1, g2, g3, _, _, _, _, _, _, _, _, g4, _⟩ := h
  ⟨g1, g2, g4, g3⟩
def longs (k : Nat) : ByteArray := ⟨(List.replicate k 120).toArray⟩
theorem longs_succ (k : Nat) : longs k ++ ⟨#[120]⟩ = longs (k + 1) := by
  unfold longs
  apply toList_inj
  rw [ByteArray.toList_eq, ByteArray.toList_eq]
  simp [List.replicate_succ']
theorem longs_size (k : Nat) : (longs k).size = k := by unfold longs; show (Array.size _) = _; simp

theorem mk20 {w' w : World} {H1 H2 : Nat} {ak an bk bn : Int} {ax bx sx tx : ByteArray} (h1 : Blk3 w' w.heap.size ak an ax) (h2 : Blk3 w' (w.heap.size + 1) bk bn bx) (h3 : Blk3 w' H1 1 an ⟨#[]⟩) (h4 : Blk3 w' H2 3 0 sx) (h5 : Blk3 w' (H2 + 1) 3 0 tx) (h6 : Below w.heap.size w w') :
    Blk3 w' w.heap.size ak an ax ∧ Blk3 w' (w.heap.size + 1) bk bn bx ∧ Blk3 w' H1 1 an ⟨#[]⟩ ∧ Blk3 w' H2 3 0 sx ∧ Blk3 w' (H2 + 1) 3 0 tx ∧ Below w.heap.size w w' ∧ w'.cell? ⟨w.heap.size, 2, none⟩ = some (.string ax) ∧ w'.cell? ⟨w.heap.size + 1, 2, none⟩ = some (.string bx) ∧
      w'.cell? ⟨H2, 0, none⟩ = some (.int .i64 3) ∧ w'.cell? ⟨H2, 1, none⟩ = some (.int .i64 0) ∧ w'.cell? ⟨H2, 2, none⟩ = some (.string sx) ∧
      w'.cell? ⟨H2 + 1, 0, none⟩ = some (.int .i64 3) ∧ w'.cell? ⟨H2 + 1, 1, none⟩ = some (.int .i64 0) ∧ w'.cell? ⟨H2 + 1, 2, none⟩ = some (.string tx) :=
  ⟨h1, h2, h3, h4, h5, h6, h1.2.2.1, h2.2.2.1, h4.1, h4.2.1, h4.2.2.1, h5.1, h5.2.1, h5.2.2.1⟩
theorem keep20 {W : World} {w' w : World} {H1 H2 : Nat} {ak an bk bn : Int} {ax bx sx tx : ByteArray} (h1 : Blk3 W w.heap.size ak an ax) (h2 : Blk3 W (w.heap.size + 1) bk bn bx) (h3 : Blk3 W H1 1 an ⟨#[]⟩) (h4 : Blk3 W H2 3 0 sx) (h5 : Blk3 W (H2 + 1) 3 0 tx) (h6 : Below w.heap.size w W) (hb : Below W.heap.size W w') :
    Blk3 w' w.heap.size ak an ax ∧ Blk3 w' (w.heap.size + 1) bk bn bx ∧ Blk3 w' H1 1 an ⟨#[]⟩ ∧ Blk3 w' H2 3 0 sx ∧ Blk3 w' (H2 + 1) 3 0 tx ∧ Below w.heap.size w w' ∧ w'.cell? ⟨w.heap.size, 2, none⟩ = some (.string ax) ∧ w'.cell? ⟨w.heap.size + 1, 2, none⟩ = some (.string bx) ∧
      w'.cell? ⟨H2, 0, none⟩ = some (.int .i64 3) ∧ w'.cell? ⟨H2, 1, none⟩ = some (.int .i64 0) ∧ w'.cell? ⟨H2, 2, none⟩ = some (.string sx) ∧
      w'.cell? ⟨H2 + 1, 0, none⟩ = some (.int .i64 3) ∧ w'.cell? ⟨H2 + 1, 1, none⟩ = some (.int .i64 0) ∧ w'.cell? ⟨H2 + 1, 2, none⟩ = some (.string tx) :=
  mk20 (h1.below hb) (h2.below hb) (h3.below hb) (h4.below hb) (h5.below hb) (below_step h6 hb)
theorem out20 {w' w : World} {H1 H2 : Nat} {ak an bk bn : Int} {ax bx sx tx : ByteArray} (h : Blk3 w' w.heap.size ak an ax ∧ Blk3 w' (w.heap.size + 1) bk bn bx ∧ Blk3 w' H1 1 an ⟨#[]⟩ ∧ Blk3 w' H2 3 0 sx ∧ Blk3 w' (H2 + 1) 3 0 tx ∧ Below w.heap.size w w' ∧ w'.cell? ⟨w.heap.size, 2, none⟩ = some (.string ax) ∧ w'.cell? ⟨w.heap.size + 1, 2, none⟩ = some (.string bx) ∧
      w'.cell? ⟨H2, 0, none⟩ = some (.int .i64 3) ∧ w'.cell? ⟨H2, 1, none⟩ = some (.int .i64 0) ∧ w'.cell? ⟨H2, 2, none⟩ = some (.string sx) ∧
      w'.cell? ⟨H2 + 1, 0, none⟩ = some (.int .i64 3) ∧ w'.cell? ⟨H2 + 1, 1, none⟩ = some (.int .i64 0) ∧ w'.cell? ⟨H2 + 1, 2, none⟩ = some (.string tx)) : Blk3 w' H1 1 an ⟨#[]⟩ ∧ Blk3 w' w.heap.size ak an ax ∧ Blk3 w' (w.heap.size + 1) bk bn bx ∧ Below w.heap.size w w' :=
  let ⟨g1, g2, g3, _, _, g6, _⟩ := h
  ⟨g3, g1, g2, g6⟩

theorem cmp6 (ak an : Int) (ax : ByteArray) (bk bn : Int) (bx : ByteArray) (r : Int) (h : r = cmpC ⟨ak, an, ax⟩ ⟨bk, bn, bx⟩) (w : World) :
    Calls Try.prog 17 #[.agg #[.int .i64 ak, .int .i64 an, .string ax], .agg #[.int .i64 bk, .int .i64 bn, .string bx]] w fun e w' => e = .returned (.int .i64 r) ∧ Below w.heap.size w w' := by
  subst h; exact cmp_c ⟨ak, an, ax⟩ ⟨bk, bn, bx⟩ w

set_option maxRecDepth 100000 in
set_option maxHeartbeats 4000000 in
theorem walk (ak an : Int) (ax : ByteArray) (bk bn : Int) (bx : ByteArray) (ck cn : Int) (cx : ByteArray) (w : World) (hax : ax.size ≤ 140737488351232) (hbx : bx.size ≤ 140737488351232) (ab bc ac nm pq : Int) (hpq : Hid (pq = cmpC ⟨3, 0, longs 250 ++ ax⟩ ⟨3, 0, longs 250 ++ bx⟩)) (hpq2 : Hid (pq = cmpL ax.toList bx.toList)) (htr : ab ≤ 0 → bc ≤ 0 → ac ≤ 0) (hnm : Hid (nm = cmpC ⟨1, an, ⟨#[]⟩⟩ ⟨1, bn, ⟨#[]⟩⟩)) (hnm2 : Hid (decide (nm < 0) = decide (an < bn)))
    (lo : -1 ≤ ab) (hi : ab ≤ 1) (hz : Hid (ab = 0 ↔ ak = bk ∧ an = bn ∧ ax.toList = bx.toList))
    (hab : Hid (ab = cmpC ⟨ak, an, ax⟩ ⟨bk, bn, bx⟩)) (hba : Hid (-ab = cmpC ⟨bk, bn, bx⟩ ⟨ak, an, ax⟩)) (hbc : Hid (bc = cmpC ⟨bk, bn, bx⟩ ⟨ck, cn, cx⟩)) (hac : Hid (ac = cmpC ⟨ak, an, ax⟩ ⟨ck, cn, cx⟩)) :
    Calls Try.prog 6 #[.agg #[.int .i64 ak, .int .i64 an, .string ax], .agg #[.int .i64 bk, .int .i64 bn, .string bx], .agg #[.int .i64 ck, .int .i64 cn, .string cx]] w fun e w' => e = .returned (.bool true) ∧ Below w.heap.size w w' := by
  have A0 : Blk3 (((w.alloc (.cells #[.int .i64 ak, .int .i64 an, .string ax] 27)).alloc (.cells #[.int .i64 bk, .int .i64 bn, .string bx] 27)).alloc (.cells #[.int .i64 ck, .int .i64 cn, .string cx] 27)) w.heap.size ak an ax :=
    ((Blk3.new _ _ _ _ _).alloc _).alloc _
  have B0 : Blk3 (((w.alloc (.cells #[.int .i64 ak, .int .i64 an, .string ax] 27)).alloc (.cells #[.int .i64 bk, .int .i64 bn, .string bx] 27)).alloc (.cells #[.int .i64 ck, .int .i64 cn, .string cx] 27)) (w.heap.size + 1) bk bn bx :=
    ((Blk3.new _ _ _ _ _).alloc _).at_ (by simp)
  have C0 : Blk3 (((w.alloc (.cells #[.int .i64 ak, .int .i64 an, .string ax] 27)).alloc (.cells #[.int .i64 bk, .int .i64 bn, .string bx] 27)).alloc (.cells #[.int .i64 ck, .int .i64 cn, .string cx] 27)) (w.heap.size + 1 + 1) ck cn cx :=
    (Blk3.new _ _ _ _ _).at_ (by simp)
  have L0 : Below w.heap.size w (((w.alloc (.cells #[.int .i64 ak, .int .i64 an, .string ax] 27)).alloc (.cells #[.int .i64 bk, .int .i64 bn, .string bx] 27)).alloc (.cells #[.int .i64 ck, .int .i64 cn, .string cx] 27)) :=
    (((Below.refl _ _).alloc (Nat.le_refl _) _).alloc (by simp) _).alloc (by simp; omega) _
  go_enter Try.func6, Try.ntmps6
  go_wp2_with fail
  refine (cmp6 _ _ _ _ _ _ ab hab.out _).mono ?_
  rintro e w1 ⟨rfl, b1⟩
  have A1 := A0.below b1; have B1 := B0.below b1; have C1 := C0.below b1; have L1 := below_step L0 b1
  clear A0 B0 C0 L0 b1
  have ⟨a11, a12, a13, _⟩ := A1; have ⟨b11, b12, b13, _⟩ := B1; have ⟨c11, c12, c13, _⟩ := C1
  go_wp2_with fail
  refine (cmp6 _ _ _ _ _ _ (-ab) hba.out _).mono ?_
  rintro e w2 ⟨rfl, b1⟩
  clear a11 a12 a13 b11 b12 b13 c11 c12 c13
  have A2 := A1.below b1; have B2 := B1.below b1; have C2 := C1.below b1; have L2 := below_step L1 b1
  clear A1 B1 C1 L1 b1
  have ⟨a11, a12, a13, _⟩ := A2; have ⟨b11, b12, b13, _⟩ := B2; have ⟨c11, c12, c13, _⟩ := C2
  go_wp2_with fail
  refine (cmp6 _ _ _ _ _ _ bc hbc.out _).mono ?_
  rintro e w3 ⟨rfl, b1⟩
  clear a11 a12 a13 b11 b12 b13 c11 c12 c13
  have A3 := A2.below b1; have B3 := B2.below b1; have C3 := C2.below b1; have L3 := below_step L2 b1
  clear A2 B2 C2 L2 b1
  have ⟨a11, a12, a13, _⟩ := A3; have ⟨b11, b12, b13, _⟩ := B3; have ⟨c11, c12, c13, _⟩ := C3
  go_wp2_with fail
  refine (cmp6 _ _ _ _ _ _ ac hac.out _).mono ?_
  rintro e w4 ⟨rfl, b1⟩
  clear a11 a12 a13 b11 b12 b13 c11 c12 c13
  have A4 := A3.below b1; have B4 := B3.below b1; have L4 := below_step L3 b1
  clear A3 B3 C3 L3 b1
  have ⟨a11, a12, a13, a14⟩ := A4; have ⟨b11, b12, b13, b14⟩ := B4
  go_upto_region 5 with fail
  go_cut [56] (fun t wx => t = .bool false ∧ Blk3 wx w.heap.size ak an ax ∧ Blk3 wx (w.heap.size + 1) bk bn bx ∧ Below w.heap.size w wx)
  case first =>
    by_cases h1 : ak = bk
    · by_cases h2 : an = bn
      · by_cases h3 : ax = bx
        · subst h1 h2 h3
          obtain rfl : ab = 0 := hz.out.2 ⟨rfl, rfl, rfl⟩
          go_wp2_with (go_at_call 17; refine (cmp6 _ _ _ _ _ _ 0 (cmpC_self _).symm _).mono ?_; rintro e w5 ⟨rfl, b5⟩)
          go_meet
          exact ⟨rfl, A4.below b5, B4.below b5, below_step L4 b5⟩
        · have h3' : ¬ ax.toList = bx.toList := fun h => h3 (toList_inj h)
          have hne : ((ab : Int) == 0) = false := by have := hz.out; simp; intro h; exact h3' (this.1 h).2.2
          subst h1 h2
          go_wp2_with (go_at_call 17; refine (cmp6 _ _ _ _ _ _ 0 (cmpC_self _).symm _).mono ?_; rintro e w5 ⟨rfl, b5⟩)
          go_meet
          exact ⟨by rw [show (decide (ab < -1) || decide (1 < ab)) = false by simp; omega], A4.below b5, B4.below b5, below_step L4 b5⟩
      · have hne : ((ab : Int) == 0) = false := by have := hz.out; simp; intro h; exact h2 (this.1 h).2.1
        subst h1
        go_wp2_with (go_at_call 17; refine (cmp6 _ _ _ _ _ _ 0 (cmpC_self _).symm _).mono ?_; rintro e w5 ⟨rfl, b5⟩)
        go_meet
        exact ⟨by rw [show (decide (ab < -1) || decide (1 < ab)) = false by simp; omega], A4.below b5, B4.below b5, below_step L4 b5⟩
    · have hne : ((ab : Int) == 0) = false := by have := hz.out; simp; intro h; exact h1 (this.1 h).1
      go_wp2_with (go_at_call 17; refine (cmp6 _ _ _ _ _ _ 0 (cmpC_self _).symm _).mono ?_; rintro e w5 ⟨rfl, b5⟩)
      go_meet
      exact ⟨by rw [show (decide (ab < -1) || decide (1 < ab)) = false by simp; omega], A4.below b5, B4.below b5, below_step L4 b5⟩
  case rest =>
    obtain ⟨rfl, A5, B5, L5⟩ := hcut
    clear a11 a12 a13 a14 b11 b12 b13 b14 A4 B4 L4
    go_upto_region 7 with fail
    go_cut [66] (fun t wx => t = .bool false ∧ wc = wx)
    case first =>
      by_cases h1 : ab ≤ 0
      · by_cases h2 : bc ≤ 0
        · have h3 := htr h1 h2
          go_wp2
          go_meet
          exact ⟨by rw [show decide (0 < ac) = false by simp; omega], rfl⟩
        · go_wp2
          go_meet
          exact ⟨rfl, rfl⟩
      · go_wp2
        go_meet
        exact ⟨rfl, rfl⟩
    case rest =>
      obtain ⟨rfl, rfl⟩ := hcut
      have ⟨a11, a12, a13, a14⟩ := A5; have ⟨b11, b12, b13, b14⟩ := B5
      go_wp2_with fail
      have N0 : Blk3 ((wc.alloc (.cells #[.int .i64 1, .int .i64 an, .string ⟨#[]⟩] 27)).alloc (.cells #[.int .i64 1, .int .i64 bn, .string ⟨#[]⟩] 27)) wc.heap.size 1 an ⟨#[]⟩ := (Blk3.new _ _ _ _ _).alloc _
      have M0 : Blk3 ((wc.alloc (.cells #[.int .i64 1, .int .i64 an, .string ⟨#[]⟩] 27)).alloc (.cells #[.int .i64 1, .int .i64 bn, .string ⟨#[]⟩] 27)) (wc.heap.size + 1) 1 bn ⟨#[]⟩ := (Blk3.new _ _ _ _ _).at_ (by simp)
      have A6 : Blk3 ((wc.alloc (.cells #[.int .i64 1, .int .i64 an, .string ⟨#[]⟩] 27)).alloc (.cells #[.int .i64 1, .int .i64 bn, .string ⟨#[]⟩] 27)) w.heap.size ak an ax := (A5.alloc _).alloc _
      have B6 : Blk3 ((wc.alloc (.cells #[.int .i64 1, .int .i64 an, .string ⟨#[]⟩] 27)).alloc (.cells #[.int .i64 1, .int .i64 bn, .string ⟨#[]⟩] 27)) (w.heap.size + 1) bk bn bx := (B5.alloc _).alloc _
      have L6 : Below w.heap.size w ((wc.alloc (.cells #[.int .i64 1, .int .i64 an, .string ⟨#[]⟩] 27)).alloc (.cells #[.int .i64 1, .int .i64 bn, .string ⟨#[]⟩] 27)) := (L5.alloc L5.size _).alloc (by have := L5.size; simp; omega) _
      obtain ⟨H1, hH1⟩ : ∃ H1, H1 = wc.heap.size := ⟨_, rfl⟩
      obtain ⟨W6, hW6⟩ : ∃ W6, W6 = (wc.alloc (.cells #[.int .i64 1, .int .i64 an, .string ⟨#[]⟩] 27)).alloc (.cells #[.int .i64 1, .int .i64 bn, .string ⟨#[]⟩] 27) := ⟨_, rfl⟩
      rw [← hW6] at N0 M0 A6 B6 L6 ⊢
      rw [← hH1] at N0 M0 ⊢
      clear hW6 hH1 A5 B5 L5 a11 a12 a13 a14 b11 b12 b13 b14
      have ⟨a11, a12, a13, a14⟩ := A6; have ⟨b11, b12, b13, b14⟩ := B6
      have ⟨n11, n12, n13, n14⟩ := N0; have ⟨m11, m12, m13, m14⟩ := M0
      have hS : (fun w' : World => Blk3 w' w.heap.size ak an ax ∧ Blk3 w' (w.heap.size + 1) bk bn bx ∧ Below w.heap.size w w' ∧ w'.cell? ⟨w.heap.size, 1, none⟩ = some (.int .i64 an) ∧ w'.cell? ⟨w.heap.size + 1, 1, none⟩ = some (.int .i64 bn) ∧
          w'.cell? ⟨H1, 0, none⟩ = some (.int .i64 1) ∧ w'.cell? ⟨H1, 1, none⟩ = some (.int .i64 an) ∧ w'.cell? ⟨H1, 2, none⟩ = some (.string ⟨#[]⟩) ∧
          w'.cell? ⟨H1 + 1, 0, none⟩ = some (.int .i64 1) ∧ w'.cell? ⟨H1 + 1, 1, none⟩ = some (.int .i64 bn) ∧ w'.cell? ⟨H1 + 1, 2, none⟩ = some (.string ⟨#[]⟩) ∧ Blk3 w' H1 1 an ⟨#[]⟩ ∧ Blk3 w' (H1 + 1) 1 bn ⟨#[]⟩) W6.drew :=
        ⟨A6, B6, L6.drew, a12, b12, n11, n12, n13, m11, m12, m13, N0, M0⟩
      clear a11 a13 b11 b13
      go_cut [82] (fun t wx => t = .bool false ∧ Blk3 wx w.heap.size ak an ax ∧ Blk3 wx (w.heap.size + 1) bk bn bx ∧ Blk3 wx H1 1 an ⟨#[]⟩ ∧ Below w.heap.size w wx)
      case first =>
        go_region_held3 (fun w' : World => Blk3 w' w.heap.size ak an ax ∧ Blk3 w' (w.heap.size + 1) bk bn bx ∧ Below w.heap.size w w' ∧ w'.cell? ⟨w.heap.size, 1, none⟩ = some (.int .i64 an) ∧ w'.cell? ⟨w.heap.size + 1, 1, none⟩ = some (.int .i64 bn) ∧
          w'.cell? ⟨H1, 0, none⟩ = some (.int .i64 1) ∧ w'.cell? ⟨H1, 1, none⟩ = some (.int .i64 an) ∧ w'.cell? ⟨H1, 2, none⟩ = some (.string ⟨#[]⟩) ∧
          w'.cell? ⟨H1 + 1, 0, none⟩ = some (.int .i64 1) ∧ w'.cell? ⟨H1 + 1, 1, none⟩ = some (.int .i64 bn) ∧ w'.cell? ⟨H1 + 1, 2, none⟩ = some (.string ⟨#[]⟩) ∧ Blk3 w' H1 1 an ⟨#[]⟩ ∧ Blk3 w' (H1 + 1) 1 bn ⟨#[]⟩)
          (first | go_keep | (go_split_ands; exact keep11 (by assumption) (by assumption) (by assumption) (by assumption) (by assumption) hbel))
          (first | (go_at_call 17; refine (cmp6 _ _ _ _ _ _ nm hnm.out _).mono ?_; rintro e w' ⟨rfl, hbel⟩))
        go_wp2_with fail
        go_meet
        exact ⟨by rw [hnm2.out]; simp, out11 (by assumption)⟩
      case rest =>
        obtain ⟨rfl, A7, B7, N7, L7⟩ := hcut
        clear hS A6 B6 N0 M0 L6 a12 a14 b12 b14 n11 n12 n13 n14 m11 m12 m13 m14
        go_wp2_with fail
        go_loop [13, 14] (fun s i => ∃ k : Nat, k ≤ 250 ∧ i = .int .i64 k ∧ s = .string (longs k)) (fun _ i => 250 - (intOf i).toNat)
        case atStart => exact ⟨0, Nat.zero_le _, rfl, rfl⟩
        case round =>
          obtain ⟨k, hk, rfl, rfl⟩ := hrel
          by_cases hlt : k < 250
          · have e1 := longs_succ k
            have e2 := longs_size k
            go_wp2_with fail
            go_round
            case rel => exact ⟨k + 1, by omega, by go_num, rfl⟩
            case measure => simp [intOf]; omega
          · obtain rfl : k = 250 := by omega
            have e2 := longs_size 250
            have ⟨a11, a12, a13, a14⟩ := A7; have ⟨b11, b12, b13, b14⟩ := B7
            obtain ⟨lx, hlx⟩ : ∃ lx, lx = longs 250 := ⟨_, rfl⟩
            rw [← hlx] at e2 hpq
            rw [← hlx]
            clear hlx hk hlt
            have e3 : lx.size + ax.size ≤ 9223372036854775807 := by omega
            have e4 : lx.size + bx.size ≤ 9223372036854775807 := by omega
            go_wp2_with fail
            obtain ⟨sx, hsx⟩ : ∃ sx, sx = lx ++ ax := ⟨_, rfl⟩
            obtain ⟨tx, htx⟩ : ∃ tx, tx = lx ++ bx := ⟨_, rfl⟩
            rw [← hsx, ← htx] at hpq ⊢
            have A8 : Blk3 ((wc.alloc (.cells #[.int .i64 3, .int .i64 0, .string sx] 27)).alloc (.cells #[.int .i64 3, .int .i64 0, .string tx] 27)) w.heap.size ak an ax := (A7.alloc _).alloc _
            have B8 : Blk3 ((wc.alloc (.cells #[.int .i64 3, .int .i64 0, .string sx] 27)).alloc (.cells #[.int .i64 3, .int .i64 0, .string tx] 27)) (w.heap.size + 1) bk bn bx := (B7.alloc _).alloc _
            have N8 : Blk3 ((wc.alloc (.cells #[.int .i64 3, .int .i64 0, .string sx] 27)).alloc (.cells #[.int .i64 3, .int .i64 0, .string tx] 27)) H1 1 an ⟨#[]⟩ := (N7.alloc _).alloc _
            have P8 : Blk3 ((wc.alloc (.cells #[.int .i64 3, .int .i64 0, .string sx] 27)).alloc (.cells #[.int .i64 3, .int .i64 0, .string tx] 27)) wc.heap.size 3 0 sx := (Blk3.new _ _ _ _ _).alloc _
            have Q8 : Blk3 ((wc.alloc (.cells #[.int .i64 3, .int .i64 0, .string sx] 27)).alloc (.cells #[.int .i64 3, .int .i64 0, .string tx] 27)) (wc.heap.size + 1) 3 0 tx := (Blk3.new _ _ _ _ _).at_ (by simp)
            have L8 : Below w.heap.size w ((wc.alloc (.cells #[.int .i64 3, .int .i64 0, .string sx] 27)).alloc (.cells #[.int .i64 3, .int .i64 0, .string tx] 27)) := (L7.alloc L7.size _).alloc (by have := L7.size; simp; omega) _
            obtain ⟨H2, hH2⟩ : ∃ H2, H2 = wc.heap.size := ⟨_, rfl⟩
            obtain ⟨W8, hW8⟩ : ∃ W8, W8 = (wc.alloc (.cells #[.int .i64 3, .int .i64 0, .string sx] 27)).alloc (.cells #[.int .i64 3, .int .i64 0, .string tx] 27) := ⟨_, rfl⟩
            rw [← hW8] at A8 B8 N8 P8 Q8 L8 ⊢
            rw [← hH2] at P8 Q8 ⊢
            clear hW8 hH2 A7 B7 N7 L7 a11 a12 a13 a14 b11 b12 b13 b14 hsx htx e2 e3 e4
            have hS := mk20 A8.drew B8.drew N8.drew P8.drew Q8.drew L8.drew
            clear A8 B8 N8 P8 Q8 L8
            go_cut [120] (fun t wx => t = .bool false ∧ Blk3 wx H1 1 an ⟨#[]⟩ ∧ Blk3 wx w.heap.size ak an ax ∧ Blk3 wx (w.heap.size + 1) bk bn bx ∧ Below w.heap.size w wx)
            case first =>
              rcases less_total ax.toList bx.toList with hl | hl | hl
              · have g1 : pq < 0 := by rw [hpq2.out]; exact cmpL_lt.2 hl
                have g2 : ((pq : Int) == 0) = false := by simp; omega
                have g3 : (ax.toList == bx.toList) = false := by
                  rw [beq_eq_false_iff_ne]; intro h; rw [h, less_irrefl] at hl; cases hl
                go_region_held3 (fun w' : World => Blk3 w' w.heap.size ak an ax ∧ Blk3 w' (w.heap.size + 1) bk bn bx ∧ Blk3 w' H1 1 an ⟨#[]⟩ ∧ Blk3 w' H2 3 0 sx ∧ Blk3 w' (H2 + 1) 3 0 tx ∧ Below w.heap.size w w' ∧ w'.cell? ⟨w.heap.size, 2, none⟩ = some (.string ax) ∧ w'.cell? ⟨w.heap.size + 1, 2, none⟩ = some (.string bx) ∧
      w'.cell? ⟨H2, 0, none⟩ = some (.int .i64 3) ∧ w'.cell? ⟨H2, 1, none⟩ = some (.int .i64 0) ∧ w'.cell? ⟨H2, 2, none⟩ = some (.string sx) ∧
      w'.cell? ⟨H2 + 1, 0, none⟩ = some (.int .i64 3) ∧ w'.cell? ⟨H2 + 1, 1, none⟩ = some (.int .i64 0) ∧ w'.cell? ⟨H2 + 1, 2, none⟩ = some (.string tx))
                  (first | go_keep | (go_split_ands; exact keep20 (by assumption) (by assumption) (by assumption) (by assumption) (by assumption) (by assumption) hbel))
                  (first | (go_at_call 17; refine (cmp6 _ _ _ _ _ _ pq hpq.out _).mono ?_; rintro e w' ⟨rfl, hbel⟩))
                go_wp2_with fail
                go_meet
                exact ⟨rfl, out20 (by assumption)⟩
              · have g3 : (ax.toList == bx.toList) = true := by rw [hl]; simp
                have g1 : Op.bytesLess ax.toList bx.toList = false := by rw [hl]; exact less_irrefl _
                obtain rfl : pq = 0 := by rw [hpq2.out, hl, cmpL_self]
                clear hl
                go_region_held3 (fun w' : World => Blk3 w' w.heap.size ak an ax ∧ Blk3 w' (w.heap.size + 1) bk bn bx ∧ Blk3 w' H1 1 an ⟨#[]⟩ ∧ Blk3 w' H2 3 0 sx ∧ Blk3 w' (H2 + 1) 3 0 tx ∧ Below w.heap.size w w' ∧ w'.cell? ⟨w.heap.size, 2, none⟩ = some (.string ax) ∧ w'.cell? ⟨w.heap.size + 1, 2, none⟩ = some (.string bx) ∧
      w'.cell? ⟨H2, 0, none⟩ = some (.int .i64 3) ∧ w'.cell? ⟨H2, 1, none⟩ = some (.int .i64 0) ∧ w'.cell? ⟨H2, 2, none⟩ = some (.string sx) ∧
      w'.cell? ⟨H2 + 1, 0, none⟩ = some (.int .i64 3) ∧ w'.cell? ⟨H2 + 1, 1, none⟩ = some (.int .i64 0) ∧ w'.cell? ⟨H2 + 1, 2, none⟩ = some (.string tx))
                  (first | go_keep | (go_split_ands; exact keep20 (by assumption) (by assumption) (by assumption) (by assumption) (by assumption) (by assumption) hbel))
                  (first | (go_at_call 17; refine (cmp6 _ _ _ _ _ _ 0 hpq.out _).mono ?_; rintro e w' ⟨rfl, hbel⟩))
                go_wp2_with fail
                go_meet
                exact ⟨rfl, out20 (by assumption)⟩
              · have g1 : ¬ pq < 0 := by rw [hpq2.out, cmpL_neg]; have := cmpL_lt.2 hl; omega
                have g2 : ((pq : Int) == 0) = false := by have := hpq2.out; have h2 := cmpL_neg ax.toList bx.toList; have h3 := cmpL_lt.2 hl; simp; omega
                have g3 : (ax.toList == bx.toList) = false := by
                  rw [beq_eq_false_iff_ne]; intro h; rw [h, less_irrefl] at hl; cases hl
                have g4 := less_asymm _ _ hl
                have g5 : decide (pq < 0) = false := by simpa using g1
                clear hl
                go_region_held3 (fun w' : World => Blk3 w' w.heap.size ak an ax ∧ Blk3 w' (w.heap.size + 1) bk bn bx ∧ Blk3 w' H1 1 an ⟨#[]⟩ ∧ Blk3 w' H2 3 0 sx ∧ Blk3 w' (H2 + 1) 3 0 tx ∧ Below w.heap.size w w' ∧ w'.cell? ⟨w.heap.size, 2, none⟩ = some (.string ax) ∧ w'.cell? ⟨w.heap.size + 1, 2, none⟩ = some (.string bx) ∧
      w'.cell? ⟨H2, 0, none⟩ = some (.int .i64 3) ∧ w'.cell? ⟨H2, 1, none⟩ = some (.int .i64 0) ∧ w'.cell? ⟨H2, 2, none⟩ = some (.string sx) ∧
      w'.cell? ⟨H2 + 1, 0, none⟩ = some (.int .i64 3) ∧ w'.cell? ⟨H2 + 1, 1, none⟩ = some (.int .i64 0) ∧ w'.cell? ⟨H2 + 1, 2, none⟩ = some (.string tx))
                  (first | go_keep | (go_split_ands; exact keep20 (by assumption) (by assumption) (by assumption) (by assumption) (by assumption) (by assumption) hbel))
                  (first | (go_at_call 17; refine (cmp6 _ _ _ _ _ _ pq hpq.out _).mono ?_; rintro e w' ⟨rfl, hbel⟩))
                go_wp2_with fail
                go_meet
                exact ⟨rfl, out20 (by assumption)⟩
            case rest =>
              obtain ⟨rfl, N9, A9, B9, L9⟩ := hcut
              clear hS
              have ⟨a11, a12, a13, a14⟩ := A9; have ⟨b11, b12, b13, b14⟩ := B9; have ⟨n11, n12, n13, n14⟩ := N9
              go_wp2_with fail
              have Na : Blk3 ((wc.alloc (.cells #[.int .i64 2, .int .i64 0, .string ax] 27)).alloc (.cells #[.int .i64 3, .int .i64 0, .string bx] 27)) H1 1 an ⟨#[]⟩ := (N9.alloc _).alloc _
              have Pa : Blk3 ((wc.alloc (.cells #[.int .i64 2, .int .i64 0, .string ax] 27)).alloc (.cells #[.int .i64 3, .int .i64 0, .string bx] 27)) wc.heap.size 2 0 ax := (Blk3.new _ _ _ _ _).alloc _
              have Qa : Blk3 ((wc.alloc (.cells #[.int .i64 2, .int .i64 0, .string ax] 27)).alloc (.cells #[.int .i64 3, .int .i64 0, .string bx] 27)) (wc.heap.size + 1) 3 0 bx := (Blk3.new _ _ _ _ _).at_ (by simp)
              have La : Below w.heap.size w ((wc.alloc (.cells #[.int .i64 2, .int .i64 0, .string ax] 27)).alloc (.cells #[.int .i64 3, .int .i64 0, .string bx] 27)) := (L9.alloc L9.size _).alloc (by have := L9.size; simp; omega) _
              clear N9 A9 B9 L9 a11 a12 a13 a14 b11 b12 b13 b14 n11 n12 n13 n14
              refine (cmp6 _ _ _ _ _ _ (-1) (by rw [cmpC_eq]; rfl) _).mono ?_
              rintro e w9 ⟨rfl, b9⟩
              have Nb := Na.below b9; have Pb := Pa.below b9; have Qb := Qa.below b9; have Lb := below_step La b9
              clear Na Pa Qa La b9
              have ⟨n11, n12, n13, n14⟩ := Nb; have ⟨p11, p12, p13, p14⟩ := Pb; have ⟨q11, q12, q13, q14⟩ := Qb
              go_wp2_with fail
              refine (cmp6 _ _ _ _ _ _ (-1) (by rw [cmpC_eq]; rfl) _).mono ?_
              rintro e w10 ⟨rfl, b9⟩
              clear n11 n12 n13 n14 p11 p12 p13 p14 q11 q12 q13 q14
              have Nc := Nb.below b9; have Qc := Qb.below b9; have Lc := below_step Lb b9
              clear Nb Pb Qb Lb b9
              have ⟨n11, n12, n13, n14⟩ := Nc; have ⟨q11, q12, q13, q14⟩ := Qc
              go_wp2_with fail
              refine (cmp6 _ _ _ _ _ _ (-1) (by rw [cmpC_eq]; rfl) _).mono ?_
              rintro e w11 ⟨rfl, b9⟩
              have Ld := below_step Lc b9
              clear n11 n12 n13 n14 q11 q12 q13 q14 Nc Qc Lc b9
              go_wp2_with fail
              go_ret
              exact ⟨rfl, Ld⟩
end Go.Proofs.Ytblonickpmogiaa.symOrder
