/- The walk of SymTally: it returns true. -/
import Derived.Test.YtblonickpmogiaaTimes
import Derived.Test.YtblonickpmogiaaAlone
import Derived.Test.YtblonickpmogiaaSymSortsW
import Derived.Maps.AppendAt
import Derived.Laws.AppendOwnNone
namespace Go.Proofs.Ytblonickpmogiaa
open Go.RowKit
attribute [local go_sem ↓] Go.wp_at_zero Go.wp_at_succ

/-- append of any slice of constants, nil too, onto a list of the call's own. -/
theorem wpList_append_sl {w : World} {ops : Array Oper} {rest : List Oper} {o : Oper} {a : Act} {Q : Exit → Act → World → Prop} (hgd : o.guard = none) (s x : Operand)
    (ho : o.op = .call { callee := .builtin .append, args := #[s, x], argTypes := #[24, 24] })
    (base : Nat) (v : Value) (xs ys : List Cst) (hs : a.eval s = v) (hown : OwnC w base v xs) (A : Option Addr) (n c : Nat) (hx : a.eval x = .slice A n c) (hn : n = ys.length) (hA : SlAt w w.heap.size 3 Cst.cells A ys) (hnil : A = none → c = 0)
    (hlen : (xs.length + ys.length) * 32 ≤ 140737488355328) (hbase : base ≤ w.heap.size)
    (h : ∀ v' w', OwnC w' base v' (xs ++ ys) → w.grownBy w' v.ownBlock → (v'.ownBlock = v.ownBlock ∨ v'.ownBlock = some w.heap.size) → wpList Try.prog ops Q rest (a.put o.dst v') w') : wpList Try.prog ops Q (o :: rest) a w := by
  subst hn
  obtain ⟨i0, hi0, hz0, hz1, hz2⟩ := info_parts infoK
  cases A with
  | none =>
    obtain rfl := hnil rfl
    obtain rfl : ys = [] := by
      rcases Nat.eq_zero_or_pos ys.length with h0 | hp
      · exact List.eq_nil_of_length_eq_zero h0
      · obtain ⟨b, off, e, _⟩ := hA.form hp
        cases e
    refine wpList_append_own_none hgd s x 24 ho base 27 i0 3 Try.underlying24 hi0 v _ _ hs hown hx ?_
    refine h v w (by simpa using hown) ⟨rfl, rfl, rfl, Nat.le_refl _, fun _ _ _ => rfl⟩ (.inl rfl)
  | some ad =>
    have hnews : ∀ j u, (ys.flatMap Cst.cells)[j]? = some u → w.cell? (ad.add j) = some u := by
      rcases Nat.eq_zero_or_pos ys.length with h0 | hp
      · obtain rfl := List.eq_nil_of_length_eq_zero h0
        intro j u hu
        simp at hu
      · obtain ⟨b, off, e, _, hc⟩ := hA.form hp
        obtain rfl := Option.some.inj e
        exact sl_flat hc
    refine wpList_append_own_at (w := w) hgd s x 24 ho base 27 i0 (.agg #[.int .i64 0, .int .i64 0, .string ⟨#[]⟩]) 3 32 Try.underlying24 hi0 hz0 hz1 hz2 rfl (by decide) v _ _ hs hown ad ys.length c (ys.flatMap Cst.cells) hx (flat_len3 _) hnews (csts_one _) (by unfold maxLen; omega) hlen hbase ?_
    intro v' w' h1 h2 _ h4
    refine h v' w' ?_ h2 h4
    unfold OwnC
    rw [List.length_append, List.flatMap_append]
    exact h1

theorem ownC_nil (w : World) (base : Nat) (hb : base ≤ w.heap.size) : OwnC (w.alloc (.cells #[] 27)) base (.slice (some ⟨w.heap.size, 0, none⟩) 0 0) [] :=
  ⟨rfl, .inr ⟨w.heap.size, 0, #[], rfl, hb, heap_alloc_new w _, Nat.le_refl _, Nat.zero_le _, rfl, rfl⟩⟩

/-- What a list of the call's own looks like. -/
theorem own_all {w : World} {base : Nat} {v : Value} {xs : List Cst} (h : OwnC w base v xs) :
    ∃ (A : Option Addr) (c : Nat), v = .slice A xs.length c ∧ xs.length ≤ c ∧ c ≤ maxLen ∧ (A = none → c = 0) ∧ SlAt w w.heap.size 3 Cst.cells A xs := by
  obtain ⟨A, c, rfl, hs⟩ := own_slC h
  refine ⟨A, c, rfl, ?_⟩
  rcases h.2 with ⟨h, h0⟩ | ⟨g, cap, cur, h, _, _, h1, h2, _⟩
  · simp only [Value.slice.injEq] at h
    obtain ⟨_, _, rfl⟩ := h
    exact ⟨by omega, Nat.zero_le _, fun _ => rfl, hs⟩
  · simp only [Value.slice.injEq] at h
    obtain ⟨rfl, _, rfl⟩ := h
    exact ⟨h1, h2, fun h => by simp at h, hs⟩

theorem below_app {w w1 w2 : World} {B base : Nat} {v : Value} {xs : List Cst} (hb : Below B w w1) (h : OwnC w1 base v xs) (hB : B ≤ base) (hg : w1.grownBy w2 v.ownBlock) (hs : B ≤ w.heap.size := by exact Nat.le_refl _) : Below B w w2 :=
  hb.trans ((Turns.of_grown hg).below (Nat.le_trans hs hb.size) (fun x hx => Nat.le_trans hB (ownBlock_cells h (by simpa using hx)).1))
theorem sl_one (w : World) (c : Cst) : SlAt (w.alloc (.cells #[.int .i64 c.k, .int .i64 c.n, .string c.s] 27)) (w.alloc (.cells #[.int .i64 c.k, .int .i64 c.n, .string c.s] 27)).heap.size 3 Cst.cells (some ⟨w.heap.size, 0, none⟩) [c] := by
  refine .inr ⟨w.heap.size, 0, rfl, by simp, fun i x hx j u hu => ?_⟩
  match i, hx with
  | 0, hx =>
    obtain rfl : c = x := by simpa using hx
    have := cell_of_row _ w.heap.size j _ _ _ (heap_alloc_new w (.cells #[.int .i64 c.k, .int .i64 c.n, .string c.s] 27))
    rw [Nat.zero_mul]
    simp only [Nat.zero_add]
    exact this.trans (by simpa [Cst.cells] using hu)
  | i + 1, hx => simp at hx

theorem own_front {w : World} {base g n cap : Nat} {cs l : List Cst} (h : OwnC w base (.slice (some ⟨g, 0, none⟩) n cap) (cs ++ l)) : SlAt w w.heap.size 3 Cst.cells (some ⟨g, 0, none⟩) cs := by
  have := own_sub h 0 cs.length
  simpa using this
/-- Three rows, made one behind the other. -/
theorem rows3 {vl vm vk : Value} {H1 H2 H3 H4 H : Nat} (hl : ∀ b, vl.ownBlock = some b → H1 ≤ b ∧ b < H2) (hm : ∀ b, vm.ownBlock = some b → H2 ≤ b ∧ b < H3) (hk : ∀ b, vk.ownBlock = some b → H3 ≤ b ∧ b < H4) (h4 : H4 ≤ H) (h12 : H2 ≤ H3) (h34 : H3 ≤ H4) :
    RowSet (vl.ownBlock.toList ++ vm.ownBlock.toList ++ vk.ownBlock.toList) H [vl, vm, vk] := by
  have e : ∀ (j : Nat) (v : Value), [vl, vm, vk][j]? = some v → (j = 0 ∧ v = vl) ∨ (j = 1 ∧ v = vm) ∨ (j = 2 ∧ v = vk) := by
    intro j v hv
    match j, hv with
    | 0, hv => exact .inl ⟨rfl, by simpa using hv.symm⟩
    | 1, hv => exact .inr (.inl ⟨rfl, by simpa using hv.symm⟩)
    | 2, hv => exact .inr (.inr ⟨rfl, by simpa using hv.symm⟩)
    | j + 3, hv => simp at hv
  constructor
  · intro i j vi vj b hi hj bi bj
    rcases e i vi hi with ⟨rfl, rfl⟩ | ⟨rfl, rfl⟩ | ⟨rfl, rfl⟩ <;> rcases e j vj hj with ⟨rfl, rfl⟩ | ⟨rfl, rfl⟩ | ⟨rfl, rfl⟩ <;>
      first | rfl | (have x1 := hl b (by assumption); have x2 := hm b (by assumption); omega) | (have x1 := hl b (by assumption); have x2 := hk b (by assumption); omega) | (have x1 := hm b (by assumption); have x2 := hk b (by assumption); omega)
  · intro j v b hj hb
    rcases e j v hj with ⟨rfl, rfl⟩ | ⟨rfl, rfl⟩ | ⟨rfl, rfl⟩
    · have := hl b hb; omega
    · have := hm b hb; omega
    · have := hk b hb; omega
  · intro j v b hj hb
    rcases e j v hj with ⟨rfl, rfl⟩ | ⟨rfl, rfl⟩ | ⟨rfl, rfl⟩ <;> simp [hb]
theorem own3 {w : World} {base b1 b2 b3 : Nat} {vl vm vk : Value} {ml mm mk : List Cst} (hl : OwnC w b1 vl ml) (hm : OwnC w b2 vm mm) (hk : OwnC w b3 vk mk) (h1 : base ≤ b1) (h2 : base ≤ b2) (h3 : base ≤ b3) :
    ∀ j v, [vl, vm, vk][j]? = some v → ∃ xs, w.ownsRow base 27 3 v (if j = 0 then ml.length else if j = 1 then mm.length else mk.length) xs := by
  intro j v hv
  match j, hv with
  | 0, hv => obtain rfl : v = vl := by simpa using hv.symm
             exact ⟨_, ownC_weak hl h1⟩
  | 1, hv => obtain rfl : v = vm := by simpa using hv.symm
             exact ⟨_, ownC_weak hm h2⟩
  | 2, hv => obtain rfl : v = vk := by simpa using hv.symm
             exact ⟨_, ownC_weak hk h3⟩
  | j + 3, hv => simp at hv
theorem own_range {w : World} {base : Nat} {v : Value} {xs : List Cst} (h : OwnC w base v xs) : ∀ b, v.ownBlock = some b → base ≤ b ∧ b < w.heap.size := fun _ hb => ⟨(ownBlock_cells h hb).1, (ownBlock_cells h hb).2.1⟩

theorem rows3_in {vl vm vk : Value} {H1 H2 H3 H4 : Nat} (hl : ∀ b, vl.ownBlock = some b → H1 ≤ b ∧ b < H2) (hm : ∀ b, vm.ownBlock = some b → H2 ≤ b ∧ b < H3) (hk : ∀ b, vk.ownBlock = some b → H3 ≤ b ∧ b < H4) (h12 : H2 ≤ H3) (h34 : H3 ≤ H4) (h01 : H1 ≤ H2) :
    ∀ x ∈ vl.ownBlock.toList ++ vm.ownBlock.toList ++ vk.ownBlock.toList, H1 ≤ x ∧ x < H4 := by
  intro x hx
  simp only [List.mem_append, Option.mem_toList] at hx
  rcases hx with (hx | hx) | hx
  · have := hl x hx; omega
  · have := hm x hx; omega
  · have := hk x hx; omega
theorem own_turns {w w' : World} {S : List Nat} {base H : Nat} {v : Value} {xs : List Cst} (h : OwnC w base v xs) (hw : w.heap.size ≤ H) (hS : ∀ x ∈ S, H ≤ x) {wm : World} (hb : Below w.heap.size w wm) (ht : Turns S wm w') : OwnC w' base v xs :=
  ownsRow_turns (ownC_below h hb) ht (fun b hb hm => by have := (own_range h b hb).2; have := hS b hm; omega)
theorem vs_cells (w : World) (a b c : Value) : ∀ (j : Nat) (v : Value), [a, b, c][j]? = some v → (w.alloc (.cells #[a, b, c] 24)).cell? ⟨w.heap.size, j, none⟩ = some v := by
  intro j v hv
  rw [cell_of_row _ w.heap.size j _ _ _ (heap_alloc_new w _)]
  simpa using hv

def c77 : Cst := ⟨77, 0, ⟨#[]⟩⟩
def cOne : Cst := ⟨3, 0, ⟨#[111, 110, 101, 32, 109, 111, 114, 101]⟩⟩
def cFive : Cst := ⟨1, -5, ⟨#[]⟩⟩

theorem own_two (w : World) (base : Nat) (hb : base ≤ w.heap.size) : OwnC (w.alloc (.cells #[.int .i64 3, .int .i64 0, .string ⟨#[111, 110, 101, 32, 109, 111, 114, 101]⟩, .int .i64 1, .int .i64 (-5), .string ⟨#[]⟩] 27)) base (.slice (some ⟨w.heap.size, 0, none⟩) 2 2) [cOne, cFive] :=
  ⟨rfl, .inr ⟨w.heap.size, 2, _, rfl, hb, heap_alloc_new w _, Nat.le_refl _, by decide, rfl, rfl⟩⟩

set_option maxRecDepth 100000 in
set_option maxHeartbeats 2000000 in
theorem tallyW (A : Option Addr) (ca : Nat) (cs : List Cst) (w : World) (hn : A = none → ca = 0) (hcap : cs.length ≤ ca) (hA : SlAt w w.heap.size 3 Cst.cells A cs) (hlen : cs.length * 32 ≤ 140737488351232) :
    Calls Try.prog 10 #[.slice A cs.length ca] w fun e w' => e = .returned (.bool true) ∧ Below w.heap.size w w' := by
  have i1 : (0 : Int) ≤ (cs.length : Int) := by omega
  have i2 : (cs.length : Int) ≤ (ca : Int) := by omega
  have B0 : Below w.heap.size w (w.alloc (.cells #[] 27)) := (Below.refl _ w).alloc (Nat.le_refl _) _
  have O0 := Lib.hid (ownC_nil w w.heap.size (Nat.le_refl _))
  have H0 := Lib.hid hA
  have HB0 := Lib.hid B0
  have HN := Lib.hid hn
  clear hA B0 hn
  go_enter Try.func10, Try.ntmps10
  go_wp2_with (first
    | (at_builtin; refine wpList_append_sl rfl (.tmp 13) (.tmp 16) rfl w.heap.size (.slice (some ⟨w.heap.size, 0, none⟩) 0 0) [] cs rfl O0.out A cs.length ca rfl rfl (sl_now H0.out HB0.out) HN.out (by simp; omega) (by simp) ?_; intro v1 w1 h1 h2 h3; have hb1 := below_app HB0.out O0.out (Nat.le_refl _) h2; have hk1 : OwnC w1 w.heap.size v1 cs := h1; clear h1 h2 h3; obtain ⟨A1, c1, rfl, f1, f2, f3, f4⟩ := own_all hk1; have K1 := Lib.hid hk1; have BB1 := Lib.hid hb1; have F3 := Lib.hid f3; have F4 := Lib.hid f4; have F1 := Lib.hid f1; clear hk1 hb1 f1 f2 f3 f4; have O1 := Lib.hid (ownC_nil w1 w1.heap.size (Nat.le_refl _)); have N1 := Lib.hid ((Below.refl w1.heap.size w1).alloc (Nat.le_refl _) (.cells #[] 27)))
    | (at_builtin; refine wpList_append_sl rfl (.tmp 18) (.tmp 19) rfl w1.heap.size (.slice (some ⟨w1.heap.size, 0, none⟩) 0 0) [] cs rfl O1.out A1 cs.length c1 rfl rfl (sl_now F4.out N1.out) F3.out (by simp; omega) (by simp) ?_; intro v2 w2 h1 h2 h3; have hb2 := below_app N1.out O1.out (Nat.le_refl _) h2; have hk2 : OwnC w2 w1.heap.size v2 cs := h1; clear h1 h2 h3; obtain ⟨A2, c2, rfl, _, _, _, _⟩ := own_all hk2; have K2 := Lib.hid hk2; have BB2 := Lib.hid hb2; clear hk2 hb2; have M2 := Lib.hid ((Below.refl w2.heap.size w2).alloc (Nat.le_refl _) (.cells #[.int .i64 77, .int .i64 0, .string ⟨#[]⟩] 27)))
    | (at_builtin; refine wpList_append_sl rfl (.tmp 20) (.tmp 22) rfl w1.heap.size (.slice A2 cs.length c2) cs [c77] rfl (ownC_below K2.out M2.out) (some ⟨w2.heap.size, 0, none⟩) 1 1 rfl rfl (sl_one w2 c77) (by simp) (by simp; omega) (by have := BB2.out.size; simp; omega) ?_; intro v3 w3 h1 h2 h3; have hb3 := below_app (BB2.out.trans (M2.out.mono BB2.out.size)) (ownC_below K2.out M2.out) (Nat.le_refl _) h2; obtain ⟨room, hroom⟩ : ∃ r, r = cs ++ [c77] := ⟨_, rfl⟩; rw [← hroom] at h1; clear h2 h3; have hrl : room.length = cs.length + 1 := (by rw [hroom]; simp); obtain ⟨g3, c3, rfl, hg3, hl3, hm3⟩ := own_form3 h1 (by omega); have K3 := Lib.hid h1; have BB3 := Lib.hid hb3; have HR := Lib.hid hroom; have i3 : (cs.length : Int) ≤ (c3 : Int) := (by omega); have i4 : (cs.length : Int) < (room.length : Int) := (by omega); have HL := Lib.hid hrl; clear h1 hb3 hroom hrl hg3 hl3 hm3; have O3 := Lib.hid (own_two w3 w3.heap.size (Nat.le_refl _)); have N3 := Lib.hid ((Below.refl w3.heap.size w3).alloc (Nat.le_refl _) (.cells #[.int .i64 3, .int .i64 0, .string ⟨#[111, 110, 101, 32, 109, 111, 114, 101]⟩, .int .i64 1, .int .i64 (-5), .string ⟨#[]⟩] 27)))
    | (at_builtin; refine wpList_append_sl rfl (.tmp 29) (.tmp 30) rfl w3.heap.size (.slice (some ⟨w3.heap.size, 0, none⟩) 2 2) [cOne, cFive] cs rfl O3.out A1 cs.length c1 rfl rfl (sl_now F4.out (BB3.out.trans (N3.out.mono BB3.out.size))) F3.out (by simp; omega) (by simp) ?_; intro v4 w4 h1 h2 h3; have hb4 := below_app N3.out O3.out (Nat.le_refl _) h2; obtain ⟨other, hother⟩ : ∃ r, r = [cOne, cFive] ++ cs := ⟨_, rfl⟩; rw [← hother] at h1; clear h2 h3; have hol : other.length = cs.length + 2 := (by rw [hother]; simp); obtain ⟨A4, c4, rfl, f1, f2, f3, f4⟩ := own_all h1; have G3 := Lib.hid f3; have G4 := Lib.hid f4; have K4 := Lib.hid h1; have BB4 := Lib.hid hb4; have HO := Lib.hid hol; clear h1 hb4 hother hol f1 f2 f3 f4))
  have SF := Lib.hid (sl_now (own_front (HR.out ▸ K3.out)) BB4.out)
  refine (ssortW (some ⟨g3, 0, none⟩) c3 cs w4 (fun h => by simp at h) SF.out (by omega)).mono ?_
  rintro e w5 ⟨vl, ml, rfl, p1, p2, p3, p4⟩
  obtain ⟨Al, cl, rfl, _, _, _, p5⟩ := own_all p1
  have L1 := Lib.hid p1; have L2 := Lib.hid p2; have L3 := Lib.hid p3; have L4 := Lib.hid p5; have BB5 := Lib.hid p4
  clear p1 p2 p3 p4 p5
  go_wp2_with fail
  refine (ssortW A4 c4 other w5 G3.out (sl_now G4.out BB5.out) (by have := HO.out; omega)).mono ?_
  rintro e w6 ⟨vm, mm, rfl, p1, p2, p3, p4⟩
  obtain ⟨Am, cm, rfl, _, _, _, p5⟩ := own_all p1
  have M1 := Lib.hid p1; have M3 := Lib.hid p3; have M4 := Lib.hid p2; have M5 := Lib.hid p5; have BB6 := Lib.hid p4
  clear p1 p2 p3 p4 p5
  go_wp2_with fail
  have B56 := Lib.hid (BB5.out.trans (BB6.out.mono BB5.out.size))
  refine (ssortW (some ⟨g3, 0, none⟩) c3 cs w6 (fun h => by simp at h) (sl_now SF.out B56.out) (by omega)).mono ?_
  rintro e w7 ⟨vk, mk, rfl, p1, p2, p3, p4⟩
  obtain ⟨Ak, ck, rfl, _, _, _, p5⟩ := own_all p1
  have Q1 := Lib.hid p1; have Q2 := Lib.hid p2; have Q3 := Lib.hid p3; have Q4 := Lib.hid p5; have BB7 := Lib.hid p4
  clear p1 p2 p3 p4 p5
  have C14 := Lib.hid (BB3.out.trans (BB4.out.mono BB3.out.size))
  have C47 := Lib.hid (B56.out.trans (BB7.out.mono B56.out.size))
  have C57 := Lib.hid (BB6.out.trans (BB7.out.mono BB6.out.size))
  have KE := Lib.hid (sl_now F4.out (C14.out.trans (C47.out.mono C14.out.size)))
  have OT := Lib.hid (sl_now G4.out C47.out)
  have el := Lib.hid L3.out.length_eq
  have em := Lib.hid M3.out.length_eq
  have ek := Lib.hid Q3.out.length_eq
  go_wp2_with fail
  refine (toldW Al A1 cl c1 ml cs w7 (sl_now L4.out C57.out) KE.out L2.out L3.out (by have := el.out; omega)).mono ?_
  rintro e w8 ⟨rfl, q8⟩
  have D8 := Lib.hid q8
  clear q8
  go_wp2_with fail
  refine (toldW Am A4 cm c4 mm other w8 (sl_now M5.out (BB7.out.trans (D8.out.mono BB7.out.size))) (sl_now OT.out D8.out) M4.out M3.out (by have := em.out; have := HO.out; omega)).mono ?_
  rintro e w9 ⟨rfl, q9⟩
  have D9 := Lib.hid (D8.out.trans (q9.mono D8.out.size))
  clear q9
  go_wp2_with fail
  refine (toldW Ak A1 ck c1 mk cs w9 (sl_now Q4.out D9.out) (sl_now KE.out D9.out) Q2.out Q3.out (by have := ek.out; omega)).mono ?_
  rintro e w10 ⟨rfl, q10⟩
  have D10 := Lib.hid (D9.out.trans (q10.mono D9.out.size))
  clear q10
  go_wp2_with fail
  have RS := Lib.hid (rows3 (own_range L1.out) (own_range M1.out) (own_range Q1.out) (H := (w10.alloc (.cells #[.slice Al ml.length cl, .slice Am mm.length cm, .slice Ak mk.length ck] 24)).heap.size) (by have := D10.out.size; simp; omega) BB6.out.size BB7.out.size)
  have IS := Lib.hid (rows3_in (own_range L1.out) (own_range M1.out) (own_range Q1.out) BB6.out.size BB7.out.size BB5.out.size)
  obtain ⟨S, hS⟩ : ∃ S, S = (Value.slice Al ml.length cl).ownBlock.toList ++ (Value.slice Am mm.length cm).ownBlock.toList ++ (Value.slice Ak mk.length ck).ownBlock.toList := ⟨_, rfl⟩
  rw [← hS] at RS IS
  clear hS
  have BA := Lib.hid ((Below.refl w10.heap.size w10).alloc (Nat.le_refl _) (.cells #[.slice Al ml.length cl, .slice Am mm.length cm, .slice Ak mk.length ck] 24))
  have C7A := Lib.hid (D10.out.trans (BA.out.mono D10.out.size))
  have C6A := Lib.hid (BB7.out.trans (C7A.out.mono BB7.out.size))
  have C5A := Lib.hid (BB6.out.trans (C6A.out.mono BB6.out.size))
  have C4A := Lib.hid (BB5.out.trans (C5A.out.mono BB5.out.size))
  have C3A := Lib.hid (BB4.out.trans (C4A.out.mono BB4.out.size))
  have C1A := Lib.hid (BB3.out.trans (C3A.out.mono BB3.out.size))
  have hAL := aloneW w10.heap.size 3 w4.heap.size [.slice Al ml.length cl, .slice Am mm.length cm, .slice Ak mk.length ck] (fun j => if j = 0 then ml.length else if j = 1 then mm.length else mk.length) S _ (vs_cells w10 _ _ _) (by simp) (fun hm => by have := (IS.out _ hm).2; have := D10.out.size; omega) RS.out
    (own3 (ownC_below L1.out C5A.out) (ownC_below M1.out C6A.out) (ownC_below Q1.out C7A.out) (Nat.le_refl _) BB5.out.size B56.out.size) (fun j => by have := el.out; have := em.out; have := ek.out; have := HO.out; split; omega; split <;> omega) (by simp) (by have := C47.out.size; have := D10.out.size; simp; omega)
  refine Calls.mono (show Calls Try.prog 35 #[.slice (some ⟨w10.heap.size, 0, none⟩) 3 3] _ _ from hAL) ?_
  clear hAL
  rintro e w11 ⟨rfl, tn⟩
  have TN := Lib.hid tn
  clear tn
  have KR := Lib.hid (own_turns K3.out BB4.out.size (fun x hx => (IS.out x hx).1) C3A.out TN.out)
  have KK := Lib.hid (own_turns K1.out C14.out.size (fun x hx => (IS.out x hx).1) C1A.out TN.out)
  have SR := Lib.hid (own_front (HR.out ▸ KR.out))
  obtain ⟨_, _, hsl, sk⟩ := own_slC KK.out
  obtain ⟨rfl, _, rfl⟩ := Value.slice.inj hsl
  have SK := Lib.hid sk
  clear hsl sk
  have FIN := Lib.hid (show Below w.heap.size w w11 from (BB1.out.trans (C1A.out.mono BB1.out.size)).trans (TN.out.below (Nat.le_trans BB1.out.size C1A.out.size) (fun x hx => by have := (IS.out x hx).1; have := BB1.out.size; have := C14.out.size; omega)))
  go_wp2
  go_loopw [10] (fun i wr => ∃ k : Nat, i = .int .i64 k ∧ k ≤ cs.length ∧ Below w11.heap.size w11 wr) (fun i _ => cs.length - (intOf i).toNat)
  case atStart => exact ⟨0, rfl, Nat.zero_le _, Below.refl _ _⟩
  case round =>
    obtain ⟨i, rfl, hi, hb⟩ := hrel
    by_cases hin : i < cs.length
    · obtain ⟨b, off, e0, hblt, hc⟩ := SR.out.form (by omega)
      obtain ⟨b', off', e1, hblt', hc'⟩ := SK.out.form (by omega)
      subst e1
      obtain ⟨rfl, rfl⟩ : g3 = b ∧ 0 = off := by simpa using e0
      clear e0
      have hci := ((hc i cs[i] (List.getElem?_eq_getElem hin)).below hb hblt).at3
      have hcj := ((hc' i cs[i] (List.getElem?_eq_getElem hin)).below hb hblt').at3
      have NQ := fun W => neq_self cs[i] W
      obtain ⟨⟨ak, an, ax⟩, ha⟩ : ∃ a, a = cs[i] := ⟨_, rfl⟩
      rw [← ha] at hci hcj NQ
      obtain ⟨k0, k1, k2⟩ := hci
      obtain ⟨l0, l1, l2⟩ := hcj
      have hii : (0 : Int) ≤ (i : Int) := by omega
      have hin' : (i : Int) < (cs.length : Int) := by omega
      have HB := Lib.hid hb
      have HI := Lib.hid hin
      simp only [Nat.zero_add] at k0 k1 k2
      clear hc hc' ha hb hin hi
      go_wp2
      go_quiet (fail)
      go_wp2
      exact ⟨⟨i + 1, by go_num, HI.out, below_drewN HB.out _⟩, by simp [intOf]; have := HI.out; omega⟩
    · obtain rfl : i = cs.length := by omega
      have hr := ownC_below KR.out hb
      have hk0 : room[cs.length]? = some c77 := by rw [HR.out]; simp
      have h77 : wr.cell? ⟨g3, cs.length * 3, none⟩ = some (.int .i64 77) := by
        have := World.ownsRow.cells hr (g := g3) rfl (cs.length * 3 + 0) _ (flat_at room _ _ hk0 0 _ rfl)
        simpa [add_none, c77] using this
      have HF := Lib.hid (FIN.out.trans (hb.mono FIN.out.size))
      clear hr hk0 hb hi hin
      go_wp2
      go_ret
      exact ⟨rfl, HF.out⟩
end Go.Proofs.Ytblonickpmogiaa
