/- width and fitSlots: may a rule be compiled? -/
import Derived.Test.YtonkbjdeaneicaaKpo03
import Derived.BigQuiet
import Derived.Deep.QuietTactic
import Derived.IntWalk
import Derived.KernelRfl
import Derived.Lib.Hide
import Derived.Test.YtonkbjdeaneicaaChecked
import Derived.WalkLawsBesides
import Derived.WalkSpells
namespace Go.Proofs.Ytonkbjdeaneicaa
open Go.RowKit Pln Classical

/-- All slots are fit, with variables below w. -/
noncomputable def fitB (xs : List Slt) (w : Nat) : Bool := decide (∀ s ∈ xs, belowP w s)
theorem fitB_true {xs : List Slt} {w : Nat} (h : ∀ s ∈ xs, belowP w s) : fitB xs w = true := by simp only [fitB, decide_eq_true_eq]; exact h
theorem fitB_false {xs : List Slt} {w : Nat} {s : Slt} {k : Nat} (hs : xs[k]? = some s) (h : ¬ belowP w s) : fitB xs w = false := by
  simp only [fitB, decide_eq_false_iff_not]
  exact fun hh => h (hh s (List.mem_of_getElem? hs))
theorem take_all {α : Type} {p : α → Prop} {xs : List α} {k : Nat} {s : α} (h : ∀ x ∈ xs.take k, p x) (hs : xs[k]? = some s) (h2 : p s) : ∀ x ∈ xs.take (k + 1), p x := by
  intro x hx
  rw [List.take_add_one, hs] at hx
  rcases List.mem_append.1 hx with hx | hx
  · exact h x hx
  · rw [List.mem_singleton.1 hx]; exact h2

theorem ret_bool {a b : Bool} (h : a = b) : Ending.returned (.bool a) = .returned (.bool b) := by rw [h]
set_option maxRecDepth 100000 in
theorem fitSlotsW {F : Nat → Prop} (v : Value) (xs : List Slt) (wd : Nat) (w : World) (h : RSl F w 2 ESlt v xs) :
    Calls Try.prog 59 #[v, .int .i64 wd] w fun e w' => e = .returned (.bool (fitB xs wd)) ∧ w = w' := by
  obtain ⟨A, c, rfl⟩ := h.form
  have hm := h.len
  unfold maxLen at hm
  go_enter Try.func59, Try.ntmps59
  go_wp2
  go_loop [5] (fun i => ∃ k : Nat, i = .int .i64 k ∧ k ≤ xs.length ∧ ∀ s ∈ xs.take k, belowP wd s) (fun i => xs.length - (intOf i).toNat)
  case atStart => exact ⟨0, rfl, Nat.zero_le _, by simp⟩
  case round =>
    obtain ⟨k, rfl, hk, hq⟩ := hrel
    by_cases hkn : k < xs.length
    · obtain ⟨s, hs⟩ : ∃ s, xs[k]? = some s := ⟨_, List.getElem?_eq_getElem hkn⟩
      obtain ⟨b, off, rfl, _, _, cs, ⟨rfl, hok⟩, hc⟩ := h.at hs
      have c0 := hc 0 _ rfl
      have c1 := hc 1 _ rfl
      simp only [Nat.add_zero] at c0
      obtain ⟨sv, sn⟩ := s
      have e1 : (0 : Int) ≤ (k : Int) := by omega
      have e2 : (k : Int) < (xs.length : Int) := by omega
      have HS := Lib.hid hs
      have HQ := Lib.hid hq
      have HK := Lib.hid hkn
      clear hc h hs hq hkn
      simp only at c0 c1
      by_cases h0 : sn < 0
      · have HF := Lib.hid (fitB_false (w := wd) HS.out (fun h => by have := h.1; simp only at this; omega))
        go_wp2
        go_ret
        exact ⟨ret_bool HF.out.symm, rfl⟩
      · cases sv with
        | false =>
          go_wp2
          go_round
          case rel => exact ⟨k + 1, by go_num, HK.out, take_all HQ.out HS.out ⟨by simp only; omega, fun h => by cases h⟩⟩
          case measure => simp [intOf]; have := HK.out; omega
        | true =>
          by_cases h1 : sn < (wd : Int)
          · go_wp2
            go_round
            case rel => exact ⟨k + 1, by go_num, HK.out, take_all HQ.out HS.out ⟨by simp only; omega, fun _ => h1⟩⟩
            case measure => simp [intOf]; have := HK.out; omega
          · have HF := Lib.hid (fitB_false (w := wd) HS.out (fun h => by have := h.2 rfl; simp only at this; omega))
            go_wp2
            go_ret
            exact ⟨ret_bool HF.out.symm, rfl⟩
    · obtain rfl : k = xs.length := by omega
      rw [List.take_length] at hq
      have HF := Lib.hid (fitB_true hq)
      clear hq
      go_wp2
      go_ret
      exact ⟨ret_bool HF.out.symm, rfl⟩

noncomputable def mayB (r : Rl) : Bool := decide (mayP r)
theorem mayB_false {r : Rl} (h : ¬ mayP r) : mayB r = false := by simp only [mayB, decide_eq_false_iff_not]; exact h
theorem mayB_true {r : Rl} (h : mayP r) : mayB r = true := by simp only [mayB, decide_eq_true_eq]; exact h
theorem flat_len : ∀ (l : List Pat), (∀ p ∈ l, p.args.length ≤ 8) → (l.flatMap Pat.args).length ≤ 8 * l.length
  | [], _ => by simp
  | p :: l, h => by
    have h1 := h p (List.mem_cons_self ..)
    have h2 := flat_len l (fun q hq => h q (List.mem_cons_of_mem _ hq))
    rw [List.flatMap_cons, List.length_append, List.length_cons]
    omega
theorem flat_take {l : List Pat} {k : Nat} {p : Pat} (h : l[k]? = some p) : (l.take (k + 1)).flatMap Pat.args = (l.take k).flatMap Pat.args ++ p.args := by
  rw [List.take_add_one, h, List.flatMap_append]
  simp
theorem flat_split {l : List Pat} {k : Nat} {p : Pat} (h : l[k]? = some p) : l.flatMap Pat.args = (l.take k).flatMap Pat.args ++ (p.args ++ (l.drop (k + 1)).flatMap Pat.args) := by
  have e : l = l.take (k + 1) ++ l.drop (k + 1) := (List.take_append_drop _ _).symm
  conv => lhs; rw [e]
  rw [List.flatMap_append, flat_take h, List.append_assoc]
/-- Two slots in a new block. -/
theorem lit2 (W : World) (B : Nat) (hB : W.heap.size = B) (a c : Bool) (b d : Int) (t : TypeId) (hb : i64ok b) (hd : i64ok d) : RSl (fun _ => True) (W.alloc (.cells #[.bool a, .int .i64 b, .bool c, .int .i64 d] t)) 2 ESlt (.slice (some ⟨B, 0, none⟩) 2 2) [⟨a, b⟩, ⟨c, d⟩] := by
  subst hB
  have hh := heap_alloc_new W (.cells #[.bool a, .int .i64 b, .bool c, .int .i64 d] t)
  refine ⟨_, 2, rfl, Nat.le_refl _, by unfold maxLen; decide, (fun h => by cases h), .inr ⟨W.heap.size, 0, rfl, trivial, by simp, fun i x hx => ?_⟩⟩
  match i with
  | 0 =>
    simp only [List.getElem?_cons_zero, Option.some.injEq] at hx
    subst hx
    refine ⟨_, ⟨rfl, hb⟩, fun j u hu => ?_⟩
    have := cell_of_row _ W.heap.size j _ _ _ hh
    match j with
    | 0 => simp at hu; subst hu; exact this
    | 1 => simp at hu; subst hu; exact this
    | j + 2 => simp at hu
  | 1 =>
    simp only [List.getElem?_cons_succ, List.getElem?_cons_zero, Option.some.injEq] at hx
    subst hx
    refine ⟨_, ⟨rfl, hd⟩, fun j u hu => ?_⟩
    have := cell_of_row _ W.heap.size (2 + j) _ _ _ hh
    match j with
    | 0 => simp at hu; subst hu; exact this
    | 1 => simp at hu; subst hu; exact this
    | j + 2 => simp at hu
  | i + 2 => simp at hx

def SomeMay (r : Rl) (w : World) (e : Ending) (w' : World) : Prop := ∃ n : Int, e = .returned (.tuple #[.int .i64 n, .bool (mayB r)]) ∧ Below w.heap.size w w'
theorem someMay {r : Rl} {w w' : World} {n : Int} {b : Bool} (hb : mayB r = b) (h : Below w.heap.size w w') : SomeMay r w (.returned (.tuple #[.int .i64 n, .bool b])) w' := ⟨n, by rw [hb], h⟩

/-- How far the positive atoms have been looked at. -/
structure PosTo (r : Rl) (k : Nat) : Prop where
  le : k ≤ r.pos.length
  pats : ∀ p ∈ r.pos.take k, 0 ≤ p.pred ∧ p.args.length ≤ 8
  ok : okA ((r.pos.take k).flatMap Pat.args) 0
noncomputable def wAt (r : Rl) (k : Nat) : Nat := scanD ((r.pos.take k).flatMap Pat.args) 0
theorem PosTo.wle {r : Rl} {k : Nat} (h : PosTo r k) (hr : r.pos.length ≤ 16) : wAt r k ≤ 128 := by
  have h1 := scanD_len ((r.pos.take k).flatMap Pat.args) 0
  have h2 := flat_len (r.pos.take k) (fun p hp => (h.pats p hp).2)
  have h3 : (r.pos.take k).length ≤ 16 := by rw [List.length_take]; omega
  unfold wAt
  omega
theorem PosTo.next {r : Rl} {k : Nat} (h : PosTo r k) {p : Pat} (hp : r.pos[k]? = some p) (h1 : 0 ≤ p.pred) (h2 : p.args.length ≤ 8) (h3 : okA p.args (wAt r k)) : PosTo r (k + 1) ∧ wAt r (k + 1) = scanD p.args (wAt r k) := by
  refine ⟨⟨(List.getElem?_eq_some_iff.1 hp).1, take_all h.pats hp ⟨h1, h2⟩, ?_⟩, ?_⟩
  · rw [flat_take hp, okA_app]; exact ⟨h.ok, h3⟩
  · unfold wAt; rw [flat_take hp, scanD_app]
theorem fit_at {r : Rl} (h : mayP r) {k : Nat} {p : Pat} (hp : r.pos[k]? = some p) : okA p.args (wAt r k) ∧ 0 ≤ p.pred ∧ p.args.length ≤ 8 := by
  obtain ⟨w, h⟩ := h
  have h1 := h.ok
  rw [flat_split hp, okA_app, okA_app] at h1
  exact ⟨h1.2.1, h.pats p (List.mem_of_getElem? hp)⟩

theorem box_cell {w wr : World} {cs : Array Value} {T : TypeId} (hb : Below (w.heap.size + 1) (w.alloc (.cells cs T)) wr) (j : Nat) (u : Value) (hu : cs[j]? = some u) : wr.cell? ⟨w.heap.size, j, none⟩ = some u :=
  (hb.cell (p := ⟨w.heap.size, j, none⟩) (by simp)).trans (cell_of_row _ _ j _ _ _ (heap_alloc_new w _) |>.trans hu)
theorem box_below {w wr : World} {o : Obj} (hb : Below (w.heap.size + 1) (w.alloc o) wr) : Below w.heap.size w wr :=
  ((Below.refl _ _).alloc (Nat.le_refl _) o).trans (hb.mono (by omega))
theorem box_step {w wr wr' : World} {o : Obj} (hb : Below (w.heap.size + 1) (w.alloc o) wr) (h : Below wr.heap.size wr wr') : Below (w.heap.size + 1) (w.alloc o) wr' :=
  hb.trans (h.mono (by have := hb.size; simpa using this))

set_option maxRecDepth 100000 in
set_option maxHeartbeats 4000000 in
theorem widthW {F : Nat → Prop} {cs : List Value} {hv pv tv nv vv : Value} (r : Rl) (w : World) (h : ERl F w cs r hv pv tv nv vv) (hS : rlSm 1048576 r) :
    Calls Try.prog 37 #[.agg #[.int .i64 r.head.pred, hv, pv, tv, nv, vv, .int .i64 r.clause]] w (SomeMay r w) := by
  obtain ⟨Ap, cp, hpv⟩ := h.pos.form
  obtain ⟨At, ct, htv⟩ := h.tests.form
  obtain ⟨An, cn, hnv⟩ := h.neg.form
  subst hpv; subst htv; subst hnv
  have l1 := hS.pos.1
  have l2 := hS.tests
  have l3 := hS.neg.1
  have H := Lib.hid h
  have SM := Lib.hid hS
  clear h hS
  by_cases hmany : 16 < r.pos.length + r.tests.length + r.neg.length
  · have hb := Lib.hid (mayB_false (r := r) (fun ⟨w, hh⟩ => by have := hh.many; omega))
    go_enter Try.func37, Try.ntmps37
    go_wp2
    go_ret2
    exact someMay hb.out ((Below.refl _ _).alloc (Nat.le_refl _) _)
  · go_enter Try.func37, Try.ntmps37
    go_wp2
    go_loopw [4, 5] (fun wd i wr => ∃ k : Nat, i = .int .i64 k ∧ wd = .int .i64 (wAt r k) ∧ PosTo r k ∧ Below (w.heap.size + 1) (w.alloc (.cells #[.int .i64 r.head.pred, hv, .slice Ap r.pos.length cp, .slice At r.tests.length ct, .slice An r.neg.length cn, vv, .int .i64 r.clause] 39)) wr) (fun _ i _ => r.pos.length - (intOf i).toNat)
    case atStart => exact ⟨0, rfl, rfl, ⟨Nat.zero_le _, by simp, trivial⟩, Below.refl _ _⟩
    case round =>
      obtain ⟨k, rfl, rfl, hP, hb⟩ := hrel
      have x1 := box_cell hb 2 _ rfl
      have hw128 := hP.wle (by omega)
      have hwz : w.heap.size < wr.heap.size := by have := hb.size; simp at this; omega
      by_cases hkn : k < r.pos.length
      · obtain ⟨p, hp⟩ : ∃ p, r.pos[k]? = some p := ⟨_, List.getElem?_eq_getElem hkn⟩
        obtain ⟨b, off, rfl, hFb, hbs, cs, ⟨av, rfl, pok, ha⟩, hc⟩ := (H.out.pos.kp (Kp.of_below (box_below hb)) (fun _ _ h => h) (fun _ _ h => h.kp (Kp.of_below (box_below hb)) (fun _ _ h => h))).at hp
        have c0 := hc 0 _ rfl
        have c1 := hc 1 _ rfl
        simp only [Nat.add_zero] at c0
        obtain ⟨Aa, ca, rfl⟩ := ha.form
        have hpl := SM.out.pos.2 p (List.mem_of_getElem? hp)
        unfold patSm at hpl
        obtain ⟨w0, hw0⟩ : ∃ w0, wAt r k = w0 := ⟨_, rfl⟩
        have HW0 := Lib.hid hw0
        rw [hw0] at hw128 ⊢
        have e1 : (0 : Int) ≤ (k : Int) := by omega
        have e2 : (k : Int) < (r.pos.length : Int) := by omega
        have HP := Lib.hid hp
        have HH := Lib.hid hP
        have HK := Lib.hid hkn
        have HB := Lib.hid hb
        have HA := Lib.hid ha
        have hc' := Lib.hid hc
        clear hc hw0 hp hP hkn hb ha
        go_wp2
        obtain ⟨wo, rfl⟩ : ∃ wo : World, wo = wr := ⟨_, rfl⟩
        go_loopw [4, 6] (fun wd i wr => ∃ j : Nat, i = .int .i64 j ∧ wd = .int .i64 (scanD (p.args.take j) w0) ∧ j ≤ p.args.length ∧ okA (p.args.take j) w0 ∧ Below wo.heap.size wo wr) (fun _ i _ => p.args.length - (intOf i).toNat)
        case atStart => exact ⟨0, rfl, rfl, Nat.zero_le _, trivial, Below.refl _ _⟩
        case round =>
          obtain ⟨j, rfl, rfl, hj, hok, hb2⟩ := hrel
          have x1' := (hb2.cell (p := ⟨w.heap.size, 2, none⟩) hwz).trans x1
          have hwz' : w.heap.size < wr.heap.size := Nat.lt_of_lt_of_le hwz hb2.size
          have hC2 := hc'.out.kp (F := fun _ => True) (Kp.of_below hb2) hbs trivial
          have c1' := hC2 1 _ rfl
          have hlen := scanD_len (p.args.take j) w0
          have hlj : (p.args.take j).length ≤ j := List.length_take_le _ _
          have HB2 := Lib.hid hb2
          clear x1 c0 c1 hC2
          by_cases hjn : j < p.args.length
          · obtain ⟨s, hs⟩ : ∃ s, p.args[j]? = some s := ⟨_, List.getElem?_eq_getElem hjn⟩
            obtain ⟨b', off', hAe, hF', hbs', cs', ⟨rfl, sok⟩, hc2⟩ := (HA.out.keep (Kp.of_below hb2)).at hs
            subst hAe
            have d0 := hc2 0 _ rfl
            have d1 := hc2 1 _ rfl
            simp only [Nat.add_zero] at d0
            obtain ⟨sv, sn⟩ := s
            simp only at d0 d1
            have f1 : (0 : Int) ≤ (j : Int) := by omega
            have f2 : (j : Int) < (p.args.length : Int) := by omega
            have hbb : b' < wr.heap.size := hbs'
            have hbb2 : b < wr.heap.size := Nat.lt_of_lt_of_le hbs hb2.size
            obtain ⟨wc, hwc⟩ : ∃ wc, scanD (p.args.take j) w0 = wc := ⟨_, rfl⟩
            have HWC := Lib.hid hwc
            have HOK := Lib.hid hok
            have HJ := Lib.hid hjn
            have HS := Lib.hid hs
            rw [hwc] at hlen ⊢
            have hwc2 : wc ≤ 1048704 := by omega
            clear hwc hlen hok hc2 hs hjn hlj hb2
            by_cases h0 : sn < 0
            · have HF := Lib.hid (mayB_false (r := r) (fun hh => by have := (okA_at (fit_at hh HP.out).1 HS.out).1; simp only at this; omega))
              go_wp2
              go_ret2
              exact someMay HF.out (((box_below HB.out).trans (HB2.out.mono (by omega))).trans (((Below.refl _ _).alloc (Nat.le_refl _) _).mono (by omega)))
            · have HW2 := Lib.hid (HB2.out.trans (((Below.refl wr.heap.size wr).alloc (Nat.le_refl _) (.cells #[.bool sv, .int .i64 sn] 50)).mono HB2.out.size))
              cases sv with
              | false =>
                have HX := Lib.hid (show scanD (p.args.take (j + 1)) w0 = wc by rw [scanD_succ HS.out, if_neg (by simp)]; exact HWC.out)
                have HO := Lib.hid (okA_snoc HS.out HOK.out (by simp only; omega) (by simp))
                go_wp2
                exact ⟨⟨j + 1, by go_num, by rw [HX.out], HJ.out, HO.out, HW2.out⟩, by simp [intOf]; have := HJ.out; omega⟩
              | true =>
                by_cases h1 : (wc : Int) < sn
                · have HF := Lib.hid (mayB_false (r := r) (fun hh => by
                    have h2 := (okA_at (fit_at hh HP.out).1 HS.out).2 rfl
                    rw [HW0.out, HWC.out] at h2
                    simp only at h2
                    omega))
                  go_wp2
                  go_ret2
                  exact someMay HF.out (((box_below HB.out).trans (HB2.out.mono (by omega))).trans (((Below.refl _ _).alloc (Nat.le_refl _) _).mono (by omega)))
                · have HO := Lib.hid (okA_snoc HS.out HOK.out (by simp only; omega) (fun _ => by rw [HWC.out]; simp only; omega))
                  by_cases h2 : sn = (wc : Int)
                  · have HX := Lib.hid (show scanD (p.args.take (j + 1)) w0 = wc + 1 by rw [scanD_succ HS.out, HWC.out, if_pos ⟨rfl, h2⟩])
                    have h2b : (sn == (wc : Int)) = true := by simpa using h2
                    clear h2
                    go_wp2
                    exact ⟨⟨j + 1, by go_num, by rw [HX.out]; go_num, HJ.out, HO.out, HW2.out⟩, by simp [intOf]; have := HJ.out; omega⟩
                  · have HX := Lib.hid (show scanD (p.args.take (j + 1)) w0 = wc by rw [scanD_succ HS.out, HWC.out, if_neg (fun h => h2 h.2)])
                    have h2b : (sn == (wc : Int)) = false := by simpa using h2
                    clear h2
                    go_wp2
                    exact ⟨⟨j + 1, by go_num, by rw [HX.out], HJ.out, HO.out, HW2.out⟩, by simp [intOf]; have := HJ.out; omega⟩
          · obtain rfl : j = p.args.length := by omega
            rw [List.take_length] at hok ⊢
            have hbb2 : b < wr.heap.size := Nat.lt_of_lt_of_le hbs hb2.size
            have c0' := hc'.out.kp (F := fun _ => True) (Kp.of_below hb2) hbs trivial 0 _ rfl
            simp only [Nat.add_zero] at c0'
            have HOK := Lib.hid hok
            have HBB := Lib.hid (box_step HB.out hb2)
            clear hok hb2 hjn hlj
            by_cases h0 : p.pred < 0
            · have HF := Lib.hid (mayB_false (r := r) (fun hh => by have := (fit_at hh HP.out).2.1; omega))
              go_wp2
              go_ret2
              exact someMay HF.out (box_below HBB.out)
            · by_cases h8 : 8 < p.args.length
              · have HF := Lib.hid (mayB_false (r := r) (fun hh => by have := (fit_at hh HP.out).2.2; omega))
                go_wp2
                go_ret2
                exact someMay HF.out (box_below HBB.out)
              · have N := HH.out.next HP.out (by omega) (by omega) (by rw [HW0.out]; exact HOK.out)
                rw [HW0.out] at N
                have N1 := Lib.hid N.1
                have N2 := Lib.hid N.2
                clear N
                go_wp2
                exact ⟨⟨k + 1, by go_num, by rw [N2.out], N1.out, HBB.out⟩, by simp [intOf]; have := HK.out; omega⟩
      · obtain rfl : k = r.pos.length := by have := hP.le; omega
        have hP' : okA (r.pos.flatMap Pat.args) 0 ∧ ∀ p ∈ r.pos, 0 ≤ p.pred ∧ p.args.length ≤ 8 := by
          have h1 := hP.ok
          have h2 := hP.pats
          rw [List.take_length] at h1 h2
          exact ⟨h1, h2⟩
        obtain ⟨wn, hwn⟩ : ∃ wn, wAt r r.pos.length = wn := ⟨_, rfl⟩
        have HW := Lib.hid (show scanD (r.pos.flatMap Pat.args) 0 = wn by unfold wAt at hwn; rw [List.take_length] at hwn; exact hwn)
        rw [hwn] at hw128 ⊢
        have HP := Lib.hid hP'
        have HB := Lib.hid hb
        clear hwn hP' hP hb hkn
        go_wp2
        clear x1 hwz
        obtain ⟨wo, rfl⟩ : ∃ wo : World, wo = wr := ⟨_, rfl⟩
        go_loopw [8] (fun i wr => ∃ k : Nat, i = .int .i64 k ∧ k ≤ r.tests.length ∧ (∀ t ∈ r.tests.take k, 1 ≤ t.op ∧ t.op ≤ 6 ∧ belowP wn t.l ∧ belowP wn t.r) ∧ Below (w.heap.size + 1) (w.alloc (.cells #[.int .i64 r.head.pred, hv, .slice Ap r.pos.length cp, .slice At r.tests.length ct, .slice An r.neg.length cn, vv, .int .i64 r.clause] 39)) wr) (fun i _ => r.tests.length - (intOf i).toNat)
        case atStart => exact ⟨0, rfl, Nat.zero_le _, by simp, HB.out⟩
        case round =>
          obtain ⟨k, rfl, hk, hq, hb⟩ := hrel
          have x1 := box_cell hb 3 _ rfl
          have hwz : w.heap.size < wr.heap.size := by have := hb.size; simp at this; omega
          by_cases hkn : k < r.tests.length
          · obtain ⟨t, ht⟩ : ∃ t, r.tests[k]? = some t := ⟨_, List.getElem?_eq_getElem hkn⟩
            obtain ⟨b, off, rfl, hFb, hbs, cs, ⟨rfl, ok1, ok2, ok3⟩, hc⟩ := (H.out.tests.keep (Kp.of_below (box_below hb))).at ht
            have c0 := hc 0 _ rfl
            have c1 := hc 1 _ rfl
            have c2 := hc 2 _ rfl
            have c3 := hc 3 _ rfl
            have c4 := hc 4 _ rfl
            simp only [Nat.add_zero] at c0
            have e1 : (0 : Int) ≤ (k : Int) := by omega
            have e2 : (k : Int) < (r.tests.length : Int) := by omega
            have HT := Lib.hid ht
            have HQ := Lib.hid hq
            have HK := Lib.hid hkn
            have HBB := Lib.hid hb
            have HM : ∀ h : mayP r, 1 ≤ t.op ∧ t.op ≤ 6 ∧ belowP wn t.l ∧ belowP wn t.r := fun ⟨w', hh⟩ => by
              have := hh.tst t (List.mem_of_getElem? ht)
              rw [← hh.wid, HW.out] at this
              exact this
            have HM' := Lib.hid HM
            clear hc ht hq hkn hb HM
            by_cases h1 : t.op < 1
            · have HF := Lib.hid (mayB_false (r := r) (fun hh => by have := (HM'.out hh).1; omega))
              go_wp2
              go_ret2
              exact someMay HF.out ((box_below HBB.out).trans (((Below.refl _ _).alloc (Nat.le_refl _) _).mono (by omega)))
            · by_cases h2 : 6 < t.op
              · have HF := Lib.hid (mayB_false (r := r) (fun hh => by have := (HM'.out hh).2.1; omega))
                go_wp2
                go_ret2
                exact someMay HF.out ((box_below HBB.out).trans (((Below.refl _ _).alloc (Nat.le_refl _) _).mono (by omega)))
              · by_cases h3 : fitB [⟨t.l.v, t.l.n⟩, ⟨t.r.v, t.r.n⟩] wn = true
                · have HQ2 := Lib.hid (take_all HQ.out HT.out (by
                    simp only [fitB, decide_eq_true_eq] at h3
                    exact ⟨by omega, by omega, h3 _ (by simp), h3 _ (by simp)⟩))
                  have H3 := Lib.hid h3
                  clear h3
                  go_wp2_with (go_at_call 59; refine (fitSlotsW (F := fun _ => True) _ [⟨t.l.v, t.l.n⟩, ⟨t.r.v, t.r.n⟩] wn _ (lit2 _ _ (by simp) _ _ _ _ _ ok2 ok3)).mono ?_; rintro e w' ⟨he, rfl⟩; rw [H3.out] at he; subst he)
                  exact ⟨⟨k + 1, by go_num, HK.out, HQ2.out, box_step HBB.out (((Below.refl _ _).alloc (Nat.le_refl _) _).alloc (by simp) _)⟩, by simp [intOf]; have := HK.out; omega⟩
                · have HF := Lib.hid (mayB_false (r := r) (fun hh => h3 (by
                    obtain ⟨_, _, a1, a2⟩ := HM'.out hh
                    exact fitB_true (fun s hs => by
                      simp only [List.mem_cons, List.not_mem_nil, or_false] at hs
                      rcases hs with rfl | rfl
                      · exact a1
                      · exact a2))))
                  have H3 := Lib.hid (Bool.eq_false_iff.2 h3)
                  clear h3
                  go_wp2_with (go_at_call 59; refine (fitSlotsW (F := fun _ => True) _ [⟨t.l.v, t.l.n⟩, ⟨t.r.v, t.r.n⟩] wn _ (lit2 _ _ (by simp) _ _ _ _ _ ok2 ok3)).mono ?_; rintro e w' ⟨he, rfl⟩; rw [H3.out] at he; subst he)
                  go_ret2
                  exact someMay HF.out ((box_below HBB.out).trans ((((Below.refl _ _).alloc (Nat.le_refl _) _).alloc (by simp) _).mono (by omega)))
          · obtain rfl : k = r.tests.length := by omega
            rw [List.take_length] at hq
            have HQ := Lib.hid hq
            have HBB := Lib.hid hb
            clear hq hb HB
            go_wp2
            clear x1 hwz
            obtain ⟨wo2, rfl⟩ : ∃ wo : World, wo = wr := ⟨_, rfl⟩
            go_loopw [10] (fun i wr => ∃ k : Nat, i = .int .i64 k ∧ k ≤ r.neg.length ∧ (∀ p ∈ r.neg.take k, 0 ≤ p.pred ∧ p.args.length ≤ 8 ∧ ∀ s ∈ p.args, belowP wn s) ∧ Below (w.heap.size + 1) (w.alloc (.cells #[.int .i64 r.head.pred, hv, .slice Ap r.pos.length cp, .slice At r.tests.length ct, .slice An r.neg.length cn, vv, .int .i64 r.clause] 39)) wr) (fun i _ => r.neg.length - (intOf i).toNat)
            case atStart => exact ⟨0, rfl, Nat.zero_le _, by simp, HBB.out⟩
            case round =>
              obtain ⟨k, rfl, hk, hq, hb⟩ := hrel
              have x1 := box_cell hb 4 _ rfl
              have hwz : w.heap.size < wr.heap.size := by have := hb.size; simp at this; omega
              clear HBB
              by_cases hkn : k < r.neg.length
              · obtain ⟨p, hp⟩ : ∃ p, r.neg[k]? = some p := ⟨_, List.getElem?_eq_getElem hkn⟩
                obtain ⟨b, off, rfl, hFb, hbs, cs, ⟨av, rfl, pok, ha⟩, hc⟩ := (H.out.neg.kp (Kp.of_below (box_below hb)) (fun _ _ h => h) (fun _ _ h => h.kp (Kp.of_below (box_below hb)) (fun _ _ h => h))).at hp
                have c0 := hc 0 _ rfl
                have c1 := hc 1 _ rfl
                simp only [Nat.add_zero] at c0
                obtain ⟨Aa, ca, rfl⟩ := ha.form
                have e1 : (0 : Int) ≤ (k : Int) := by omega
                have e2 : (k : Int) < (r.neg.length : Int) := by omega
                have HT := Lib.hid hp
                have HQ' := Lib.hid hq
                have HK := Lib.hid hkn
                have HBB := Lib.hid hb
                have HA := Lib.hid ha
                have HM : ∀ h : mayP r, 0 ≤ p.pred ∧ p.args.length ≤ 8 ∧ ∀ s ∈ p.args, belowP wn s := fun ⟨w', hh⟩ => by
                  have := hh.ngs p (List.mem_of_getElem? hp)
                  rw [← hh.wid, HW.out] at this
                  exact this
                have HM' := Lib.hid HM
                clear hc hp hq hkn hb ha HM
                by_cases h1 : p.pred < 0
                · have HF := Lib.hid (mayB_false (r := r) (fun hh => by have := (HM'.out hh).1; omega))
                  go_wp2
                  go_ret2
                  exact someMay HF.out (box_below HBB.out)
                · by_cases h2 : 8 < p.args.length
                  · have HF := Lib.hid (mayB_false (r := r) (fun hh => by have := (HM'.out hh).2.1; omega))
                    go_wp2
                    go_ret2
                    exact someMay HF.out (box_below HBB.out)
                  · by_cases h3 : fitB p.args wn = true
                    · have HQ2 := Lib.hid (take_all HQ'.out HT.out (by
                        simp only [fitB, decide_eq_true_eq] at h3
                        exact ⟨by omega, by omega, h3⟩))
                      have H3 := Lib.hid h3
                      clear h3
                      go_wp2_with (go_at_call 59; refine (fitSlotsW _ p.args wn _ HA.out).mono ?_; rintro e w' ⟨he, rfl⟩; rw [H3.out] at he; subst he)
                      exact ⟨⟨k + 1, by go_num, HK.out, HQ2.out, HBB.out⟩, by simp [intOf]; have := HK.out; omega⟩
                    · have HF := Lib.hid (mayB_false (r := r) (fun hh => h3 (fitB_true (HM'.out hh).2.2)))
                      have H3 := Lib.hid (Bool.eq_false_iff.2 h3)
                      clear h3
                      go_wp2_with (go_at_call 59; refine (fitSlotsW _ p.args wn _ HA.out).mono ?_; rintro e w' ⟨he, rfl⟩; rw [H3.out] at he; subst he)
                      go_ret2
                      exact someMay HF.out (box_below HBB.out)
              · obtain rfl : k = r.neg.length := by omega
                rw [List.take_length] at hq
                have HBB := Lib.hid hb
                by_cases h16 : wn ≤ 16
                · have HF := Lib.hid (mayB_true (r := r) ⟨wn, ⟨by omega, HP.out.2, HP.out.1, HW.out, h16, HQ.out, hq⟩⟩)
                  clear hq hb
                  go_wp2
                  go_ret2
                  exact someMay (by rw [HF.out]; simp; omega) (box_below HBB.out)
                · have HF := Lib.hid (mayB_false (r := r) (fun ⟨w', hh⟩ => by have h1 := hh.wid; have h2 := hh.w16; rw [HW.out] at h1; omega))
                  clear hq hb
                  go_wp2
                  go_ret2
                  exact someMay (by rw [HF.out]; simp; omega) (box_below HBB.out)
end Go.Proofs.Ytonkbjdeaneicaa
