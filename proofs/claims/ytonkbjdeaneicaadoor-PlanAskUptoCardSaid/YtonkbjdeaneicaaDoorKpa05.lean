/- The texts of numbers, slots, cells, links; on the program's side. What a condition on the plan rows' four variables gives: the table of powers, the operators' names. Plans, in plain Lean: rules that may be compiled; what a node says of its condition; ways that are one as far as the chains agree. -/
import Derived.Test.YtonkbjdeaneicaaDoorKpa04
import Derived.BigQuiet
import Derived.Deep.QuietTactic
import Derived.LaidMore
import Derived.Lib.Hide
import Derived.Lib.LaidTab
import Derived.MakeChecks
import Derived.Stop.LaidErr
import Derived.Test.YtonkbjdeaneicaaDoorRows
namespace Go.Proofs.YtonkbjdeaneicaaDoor
open Go.RowKit Pln

/-- A string of these bytes. -/
def bs (l : List UInt8) : ByteArray := ⟨l.toArray⟩
theorem bs_app (a b : List UInt8) : bs a ++ bs b = bs (a ++ b) := by
  unfold bs
  apply ByteArray.ext
  simp
theorem bs_lit (a : List UInt8) : (⟨a.toArray⟩ : ByteArray) = bs a := rfl
/-- The library's table of powers of ten; the operators' names. -/
def Tab (w : World) : Prop := Lib.TabIs Tryd.prog w "internal/strconv.uint64pow10" .u64 Lib.pow10Tab
def opsA : Array Value := #[.string (bs []), .string (bs [61]), .string (bs [33, 61]), .string (bs [60]), .string (bs [60, 61]), .string (bs [62]), .string (bs [62, 61])]
def Ops (w : World) : Prop := w.var? Tryd.prog "edict/plan.ops" = some opsA
theorem var_below {w w' : World} {B : Nat} {name : String} {cs : Array Value} (h : w.var? Tryd.prog name = some cs) (hB : w.heap.size ≤ B) (hb : Below B w w') : w'.var? Tryd.prog name = some cs := by
  unfold World.var? at *
  cases hg : Tryd.prog.globalNamed name with
  | none => rw [hg] at h; simp at h
  | some g =>
    rw [hg] at h
    simp only [Option.bind_some] at h ⊢
    have hlt : g < w.heap.size := by
      rcases Nat.lt_or_ge g w.heap.size with h' | h'
      · exact h'
      · rw [Array.getElem?_eq_none h'] at h; simp at h
    rw [hb.block g (by omega)]
    exact h
theorem Tab.below {w w' : World} (h : Tab w) (hb : Below w.heap.size w w') : Tab w' := var_below h (Nat.le_refl _) hb
theorem Ops.below {w w' : World} (h : Ops w) (hb : Below w.heap.size w w') : Ops w' := var_below h (Nat.le_refl _) hb
theorem below_grow {w : World} (k : Nat) (os : Array Obj) : Below w.heap.size w (Sort.grow (w.drewN k) os) :=
  ⟨rfl, rfl, rfl, by simp [Sort.grow], fun j hj => Sort.heap_grow_old (w.drewN k) os hj⟩
theorem dec_big {M : Nat} (h : M / 10 ≠ 0) : Lib.decDigits M = Lib.decDigits (M / 10) ++ [UInt8.ofNat (48 + M % 10)] := by
  rw [Lib.decDigits, dif_neg (by omega)]
theorem dec_small {M : Nat} (h : M / 10 = 0) : Lib.decDigits M = [UInt8.ofNat (48 + M % 10)] := by
  rw [Lib.decDigits, dif_pos (by omega), Nat.mod_eq_of_lt (by omega)]
theorem dec_len : ∀ (k u : Nat), 0 < k → u < 10 ^ k → (Lib.decDigits u).length ≤ k
  | 0, _, h, _ => by omega
  | k + 1, u, _, hu => by
    rw [Lib.decDigits]
    by_cases h : u < 10
    · rw [dif_pos h]; simp
    · rw [dif_neg h, List.length_append]
      have hk : 0 < k := by
        rcases Nat.eq_zero_or_pos k with rfl | hp
        · simp at hu; omega
        · exact hp
      have := dec_len k (u / 10) hk (by rw [Nat.pow_succ] at hu; omega)
      simp
      omega
theorem dec_ne (u : Nat) : 1 ≤ (Lib.decDigits u).length := by
  rw [Lib.decDigits]
  split
  · simp
  · simp
/-- Never more than twenty digits. -/
def num (n : Int) : List UInt8 := Lib.itoa n
theorem bs_size (l : List UInt8) : (bs l).size = l.length := by
  show l.toArray.size = _
  simp
theorem num_len {n : Int} (h : -9223372036854775808 ≤ n ∧ n ≤ 9223372036854775807) : (num n).length ≤ 20 := by
  have h1 := dec_len 19 n.natAbs (by omega) (by omega)
  have h2 := dec_len 19 n.toNat (by omega) (by omega)
  unfold num Lib.itoa
  split
  · simp only [List.length_cons]; omega
  · omega
theorem num_ne (n : Int) : 1 ≤ (num n).length := by
  have h1 := dec_ne n.natAbs
  have h2 := dec_ne n.toNat
  unfold num Lib.itoa
  split
  · simp only [List.length_cons]; omega
  · omega
theorem itoaW (n : Int) (h : -9223372036854775808 ≤ n ∧ n ≤ 9223372036854775807) (w : World) (ht : Tab w) : Calls Tryd.prog 24 #[.int .i64 n] w fun e w' => e = .returned (.string (bs (num n))) ∧ Below w.heap.size w w' := by
  refine (Tryd.strconv_Itoa n h.1 h.2 w ht).mono ?_
  rintro e w' ⟨rfl, k, os, rfl⟩
  exact ⟨rfl, below_grow k os⟩
/-- A slot, a cell at its place, a link. -/
def slotT (s : Slt) : List UInt8 := if s.v = true then 118 :: num s.n else 35 :: num s.n
def cellT (i : Nat) (c : Int) : List UInt8 := if 0 ≤ c then 35 :: num c else if c = -1 - (i : Int) then [42] else 61 :: num (-1 - c)
def linkT (l : Int × Int) : List UInt8 := num l.1 ++ ([61, 118] ++ num l.2)

set_option maxRecDepth 100000 in
theorem slotTextW (s : Slt) (h : -9223372036854775808 ≤ s.n ∧ s.n ≤ 9223372036854775807) (w : World) (ht : Tab w) :
    Calls Tryd.prog 50 #[.agg #[.bool s.v, .int .i64 s.n]] w fun e w' => e = .returned (.string (bs (slotT s))) ∧ Below w.heap.size w w' := by
  have hb0 : Below (w.heap.size + 1) (w.alloc (.cells #[.bool s.v, .int .i64 s.n] 36)) (w.alloc (.cells #[.bool s.v, .int .i64 s.n] 36)) := Below.refl _ _
  have hb1 : Below w.heap.size w (w.alloc (.cells #[.bool s.v, .int .i64 s.n] 36)) := (Below.refl _ _).alloc (Nat.le_refl _) _
  have CI := Lib.hid (itoaW s.n h _ (ht.below hb1))
  have HB := Lib.hid hb1
  obtain ⟨R, hR⟩ : ∃ R, slotT s = R := ⟨_, rfl⟩
  rw [hR]
  have HR := Lib.hid hR
  clear ht hb0 hb1 hR
  obtain ⟨v, n⟩ := s
  simp only at CI HB h ⊢
  have hl := num_len h
  rw [← bs_size] at hl
  have hl2 : ¬ 9223372036854775807 < 1 + (bs (num n)).size := by omega
  go_enter Tryd.func50, Tryd.ntmps50
  cases v with
  | false =>
    go_wp2_with fail
    refine CI.out.mono ?_
    rintro e w2 ⟨rfl, hb2⟩
    have HB2 := Lib.hid (HB.out.trans (hb2.mono HB.out.size))
    clear hb2 CI
    go_wp2
    go_ret
    refine ⟨?_, HB2.out⟩
    rw [← HR.out]
    exact congrArg (fun x => Ending.returned (.string x)) (bs_app [35] (num n))
  | true =>
    go_wp2_with fail
    refine CI.out.mono ?_
    rintro e w2 ⟨rfl, hb2⟩
    have HB2 := Lib.hid (HB.out.trans (hb2.mono HB.out.size))
    clear hb2 CI
    go_wp2
    go_ret
    refine ⟨?_, HB2.out⟩
    rw [← HR.out]
    exact congrArg (fun x => Ending.returned (.string x)) (bs_app [118] (num n))

set_option maxRecDepth 100000 in
theorem cellTextW (i : Nat) (hi : i ≤ 1000000000) (c : Int) (h : -9223372036854775808 ≤ c ∧ c ≤ 9223372036854775807) (w : World) (ht : Tab w) :
    Calls Tryd.prog 26 #[.int .i64 (i : Int), .int .i64 c] w fun e w' => e = .returned (.string (bs (cellT i c))) ∧ Below w.heap.size w w' := by
  obtain ⟨R, hR⟩ : ∃ R, cellT i c = R := ⟨_, rfl⟩
  rw [hR]
  have HR := Lib.hid hR
  clear hR
  go_enter Tryd.func26, Tryd.ntmps26
  by_cases h0 : 0 ≤ c
  · have CI := Lib.hid (itoaW c h w ht)
    have hl := num_len h
    rw [← bs_size] at hl
    have hl2 : ¬ 9223372036854775807 < 1 + (bs (num c)).size := by omega
    have HF := Lib.hid (show R = [35] ++ num c by rw [← HR.out]; unfold cellT; rw [if_pos h0]; rfl)
    go_wp2_with fail
    refine CI.out.mono ?_
    rintro e w2 ⟨rfl, hb2⟩
    have HB2 := Lib.hid hb2
    clear hb2 CI
    go_wp2
    go_ret
    refine ⟨?_, HB2.out⟩
    rw [HF.out]
    exact congrArg (fun x => Ending.returned (.string x)) (bs_app [35] (num c))
  · have e5 : IntKind.i64.wrap (-1 - (i : Int)) = -1 - (i : Int) := IntWalk.i64_in _ (by omega)
    have e6 : wrap64 (-1 - (i : Int)) = -1 - (i : Int) := IntWalk.wrap64_in _ (by omega)
    by_cases h1 : c = -1 - (i : Int)
    · have HF := Lib.hid (show R = [42] by rw [← HR.out]; unfold cellT; rw [if_neg h0, if_pos h1])
      have hb : (c == -1 - (i : Int)) = true := by simpa using h1
      clear h1
      go_wp2
      go_ret
      exact ⟨by rw [HF.out]; rfl, Below.refl _ _⟩
    · have h2 : -9223372036854775808 ≤ -1 - c ∧ -1 - c ≤ 9223372036854775807 := by omega
      have CI := Lib.hid (itoaW (-1 - c) h2 w ht)
      have hl := num_len h2
      rw [← bs_size] at hl
      have hl2 : ¬ 9223372036854775807 < 1 + (bs (num (-1 - c))).size := by omega
      have HF := Lib.hid (show R = [61] ++ num (-1 - c) by rw [← HR.out]; unfold cellT; rw [if_neg h0, if_neg h1]; rfl)
      have hb : (c == -1 - (i : Int)) = false := by simpa using h1
      have e7 : IntKind.i64.wrap (-1 - c) = -1 - c := IntWalk.i64_in _ h2
      have e8 : wrap64 (-1 - c) = -1 - c := IntWalk.wrap64_in _ h2
      clear h1
      go_wp2_with fail
      refine CI.out.mono ?_
      rintro e w2 ⟨rfl, hb2⟩
      have HB2 := Lib.hid hb2
      clear hb2 CI
      go_wp2
      go_ret
      refine ⟨?_, HB2.out⟩
      rw [HF.out]
      exact congrArg (fun x => Ending.returned (.string x)) (bs_app [61] (num (-1 - c)))
theorem placeTextW (i : Int) (c : Int) (h : -9223372036854775808 ≤ c ∧ c ≤ 9223372036854775807) (w : World) (ht : Tab w) :
    Calls Tryd.prog 53 #[.int .i64 i, .int .i64 c] w fun e w' => e = .returned (.string (bs (num c))) ∧ Below w.heap.size w w' := by
  have CI := Lib.hid (itoaW c h w ht)
  go_enter Tryd.func53, Tryd.ntmps53
  go_wp2_with fail
  refine CI.out.mono ?_
  rintro e w2 ⟨rfl, hb2⟩
  have HB2 := Lib.hid hb2
  clear hb2 CI
  go_wp2
  go_ret
  exact ⟨rfl, HB2.out⟩
end Go.Proofs.YtonkbjdeaneicaaDoor

namespace Go.Proofs.YtonkbjdeaneicaaDoor
open Go.RowKit Go.ChangeShapes

theorem gTab4 : Tryd.prog.globalNamed "internal/strconv.uint64pow10" = some 1 := by kernel_rfl
theorem tTab4 : (Tryd.prog.globals[1]?).map (·.type) = some 144 := by kernel_rfl
theorem cellsU4 : Tryd.prog.cellsOf 133 = 1 := by kernel_rfl
theorem cellsT4 : Tryd.prog.cellsOf 144 = 20 := by kernel_rfl
theorem gOps4 : Tryd.prog.globalNamed "edict/plan.ops" = some 0 := by kernel_rfl
theorem tOps4 : (Tryd.prog.globals[0]?).map (·.type) = some 98 := by kernel_rfl
theorem cellsS4 : Tryd.prog.cellsOf 9 = 1 := by kernel_rfl
theorem cellsO4 : Tryd.prog.cellsOf 98 = 7 := by kernel_rfl

/-- An array of strings that reads as the list holds the list's strings. -/
theorem cells_of_strs {H : Type} {enc : TypeId × Value → H} {P : Program} {w : World} {base : Nat} {sp : Nat → Bool} {held : Bool} {fuel : Nat} {t e : TypeId} {n : Nat} {cs : List Value} {ss : List (List UInt8)} {p : List MemPlace}
    (ht : P.underlying t = some (.array n e)) (he : P.underlying e = some .string) (hce : P.cellsOf e = 1) (hct : P.cellsOf t = n)
    (h : DataW.trod enc P w base sp held fuel t cs = some (.agg (ss.map fun s => .lit (.string s)), p)) : cs = ss.map fun s => Value.string (bs s) := by
  cases fuel with
  | zero => simp [DataW.trod] at h
  | succ fuel =>
    simp only [DataW.trod, ht, hce, hct, Nat.mul_one] at h
    split at h
    · rename_i hl
      obtain ⟨xs, hm, hx⟩ := Option.map_eq_some_iff.1 h
      have hxs : xs.map (·.1) = ss.map fun s => (DataW.lit (.string s) : DataW H) := by
        have := congrArg Prod.fst hx
        simpa using this
      have hxl : xs.length = n := by simpa using Lib.mapM_length hm
      have hzl : ss.length = n := by
        have := congrArg List.length hxs
        simp at this
        omega
      apply List.ext_getElem?
      intro i
      by_cases hi : i < n
      · obtain ⟨b, hb, hf⟩ := Lib.mapM_at hm i i (by simp [hi])
        obtain ⟨z, hc, rfl, _⟩ := DataW.trod_string he hf
        have h1 : cs[i]? = some (.string z) := by
          have := congrArg (·[0]?) hc
          simpa [List.getElem?_take, List.getElem?_drop] using this
        have h2 : (xs.map (·.1))[i]? = some (DataW.lit (.string z.data.toList) : DataW H) := by simp [hb]
        rw [hxs] at h2
        simp only [List.getElem?_map, Option.map_eq_some_iff, DataW.lit.injEq, Lit.string.injEq] at h2
        obtain ⟨z', hz', he2⟩ := h2
        have : bs z' = z := by
          rw [he2]
          unfold bs
          apply ByteArray.ext
          simp
        simp [h1, hz', this]
      · rw [List.getElem?_eq_none (by omega), List.getElem?_eq_none (by simp; omega)]
    · cases h
/-- What the condition gives the walks. -/
theorem of_laid4 {W : World} (h : laidMet Tryd.prog Rows.planAskRow.laid W) : Tab W ∧ Ops W := by
  refine ⟨?_, ?_⟩
  · obtain ⟨ps, ⟨g2, t2, cs2, f2, p2, q2, hg2, ht2, hv2, hd2, _, _⟩, _, _⟩ := h.tail.tail
    obtain rfl := Option.some.inj (gTab4.symm.trans hg2)
    obtain rfl := Option.some.inj (tTab4.symm.trans ht2)
    unfold Tab Lib.TabIs
    have hd : DataW.trod _ Tryd.prog W 0 _ false f2 144 cs2.toList = some (Lib.tabData .u64 Lib.pow10Tab, p2) := hd2
    rw [hv2, ← Lib.cells_of_tab Tryd.underlying144 Tryd.underlying133 cellsU4 cellsT4 hd]
  · obtain ⟨ps, ⟨g2, t2, cs2, f2, p2, q2, hg2, ht2, hv2, hd2, _, _⟩, _, _⟩ := h.tail.tail.tail
    obtain rfl := Option.some.inj (gOps4.symm.trans hg2)
    obtain rfl := Option.some.inj (tOps4.symm.trans ht2)
    unfold Ops
    have hd : DataW.trod _ Tryd.prog W 0 _ false f2 98 cs2.toList = some (.agg (([[], [61], [33, 61], [60], [60, 61], [62], [62, 61]] : List (List UInt8)).map fun s => .lit (.string s)), p2) := hd2
    have hc := cells_of_strs Tryd.underlying98 Tryd.underlying9 cellsS4 cellsO4 hd
    rw [hv2, show cs2 = cs2.toList.toArray by simp, hc]
    rfl
end Go.Proofs.YtonkbjdeaneicaaDoor

namespace Go.Proofs.YtonkbjdeaneicaaDoor.Pln
open Classical

/-- How many variables are bound behind the slots. -/
noncomputable def scanD : List Slt → Nat → Nat
  | [], w => w
  | s :: r, w => scanD r (if s.v = true ∧ s.n = (w : Int) then w + 1 else w)
/-- Numbers 0 and above; new variables come in order. -/
def okA : List Slt → Nat → Prop
  | [], _ => True
  | s :: r, w => 0 ≤ s.n ∧ (s.v = true → s.n ≤ (w : Int)) ∧ okA r (if s.v = true ∧ s.n = (w : Int) then w + 1 else w)
def belowP (w : Nat) (s : Slt) : Prop := 0 ≤ s.n ∧ (s.v = true → s.n < (w : Int))

theorem scanD_app (a b : List Slt) : ∀ w, scanD (a ++ b) w = scanD b (scanD a w) := by
  induction a with
  | nil => intro w; rfl
  | cons s r ih => intro w; exact ih _
theorem okA_app (a b : List Slt) : ∀ w, okA (a ++ b) w ↔ okA a w ∧ okA b (scanD a w) := by
  induction a with
  | nil => intro w; simp [okA, scanD]
  | cons s r ih =>
    intro w
    simp only [List.cons_append, okA, scanD]
    rw [ih]
    constructor
    · rintro ⟨h1, h2, h3, h4⟩; exact ⟨⟨h1, h2, h3⟩, h4⟩
    · rintro ⟨⟨h1, h2, h3⟩, h4⟩; exact ⟨h1, h2, h3, h4⟩
theorem scanD_succ {args : List Slt} {k : Nat} {s : Slt} (h : args[k]? = some s) (w : Nat) : scanD (args.take (k + 1)) w = if s.v = true ∧ s.n = (scanD (args.take k) w : Int) then scanD (args.take k) w + 1 else scanD (args.take k) w := by
  rw [List.take_add_one, h, scanD_app]
  simp only [Option.toList_some, scanD]
theorem okA_take {args : List Slt} {w : Nat} (h : okA args w) (k : Nat) : okA (args.take k) w := by
  rw [← List.take_append_drop k args, okA_app] at h
  exact h.1
theorem okA_at {args : List Slt} {w : Nat} (h : okA args w) {k : Nat} {s : Slt} (hs : args[k]? = some s) : 0 ≤ s.n ∧ (s.v = true → s.n ≤ (scanD (args.take k) w : Int)) := by
  have h1 := okA_take h (k + 1)
  rw [List.take_add_one, hs, okA_app] at h1
  simp only [Option.toList_some, okA] at h1
  exact ⟨h1.2.1, h1.2.2.1⟩
theorem okA_snoc {args : List Slt} {w k : Nat} {s : Slt} (hs : args[k]? = some s) (h : okA (args.take k) w) (h0 : 0 ≤ s.n) (h1 : s.v = true → s.n ≤ (scanD (args.take k) w : Int)) : okA (args.take (k + 1)) w := by
  rw [List.take_add_one, hs, okA_app]
  exact ⟨h, by simp only [Option.toList_some, okA]; exact ⟨h0, h1, trivial⟩⟩
theorem scanD_le (a : List Slt) : ∀ w, w ≤ scanD a w := by
  induction a with
  | nil => intro w; exact Nat.le_refl _
  | cons s r ih =>
    intro w
    refine Nat.le_trans ?_ (ih _)
    split <;> omega
theorem scanD_len (a : List Slt) : ∀ w, scanD a w ≤ w + a.length := by
  induction a with
  | nil => intro w; exact Nat.le_refl _
  | cons s r ih =>
    intro w
    refine Nat.le_trans (ih _) ?_
    simp only [List.length_cons]
    split <;> omega
theorem scanD_mono {args : List Slt} {w j k : Nat} (h : j ≤ k) : scanD (args.take j) w ≤ scanD (args.take k) w := by
  have e : args.take k = args.take j ++ (args.drop j).take (k - j) := by
    obtain ⟨d, rfl⟩ : ∃ d, k = j + d := ⟨k - j, by omega⟩
    rw [Nat.add_sub_cancel_left, List.take_add]
  rw [e, scanD_app]
  exact scanD_le _ _
theorem below_okA {args : List Slt} {w : Nat} (h : ∀ s ∈ args, belowP w s) : okA args w ∧ scanD args w = w := by
  induction args with
  | nil => exact ⟨trivial, rfl⟩
  | cons s r ih =>
    obtain ⟨h0, h1⟩ := h s (List.mem_cons_self ..)
    obtain ⟨i1, i2⟩ := ih (fun t ht => h t (List.mem_cons_of_mem _ ht))
    have e : ¬ (s.v = true ∧ s.n = (w : Int)) := fun hh => by have := h1 hh.1; omega
    simp only [okA, scanD]
    rw [if_neg e]
    exact ⟨⟨h0, fun hv => by have := h1 hv; omega, i1⟩, i2⟩
/-- A variable that is bound behind k places and not ahead stands among them. -/
theorem seen {args : List Slt} {w : Nat} : ∀ (k : Nat), k ≤ args.length → ∀ n : Nat, w ≤ n → n < scanD (args.take k) w → ∃ j, j < k ∧ args[j]? = some ⟨true, n⟩
  | 0, _, n, h1, h2 => by simp [scanD] at h2; omega
  | k + 1, hk, n, h1, h2 => by
    obtain ⟨s, hs⟩ : ∃ s, args[k]? = some s := ⟨_, List.getElem?_eq_getElem (by omega)⟩
    rw [scanD_succ hs] at h2
    by_cases hlt : n < scanD (args.take k) w
    · obtain ⟨j, hj, h⟩ := seen k (by omega) n h1 hlt
      exact ⟨j, by omega, h⟩
    · by_cases hc : s.v = true ∧ s.n = (scanD (args.take k) w : Int)
      · rw [if_pos hc] at h2
        obtain rfl : n = scanD (args.take k) w := by omega
        refine ⟨k, by omega, ?_⟩
        rw [hs]
        obtain ⟨v, m⟩ := s
        obtain ⟨h3, h4⟩ := hc
        simp only at h3 h4
        rw [h3, h4]
      · rw [if_neg hc] at h2; omega

theorem firstV_le {args : List Slt} {k : Nat} {s : Slt} (h : args[k]? = some s) (hv : s.v = true) : firstV args s.n ≤ k := by
  induction args generalizing k with
  | nil => simp at h
  | cons a r ih =>
    unfold firstV
    split
    · omega
    · rename_i hn
      match k with
      | 0 =>
        simp at h
        subst h
        exact absurd ⟨hv, rfl⟩ hn
      | k + 1 =>
        have := ih (k := k) (by simpa using h)
        omega
theorem firstV_at {args : List Slt} {n : Int} (h : firstV args n < args.length) : args[firstV args n]? = some ⟨true, n⟩ := by
  induction args with
  | nil => simp at h
  | cons a r ih =>
    unfold firstV at h ⊢
    split
    · rename_i hn
      obtain ⟨v, m⟩ := a
      obtain ⟨h3, h4⟩ := hn
      simp only at h3 h4
      simp [h3, h4]
    · rename_i hn
      rw [if_neg hn] at h
      simp only [List.getElem?_cons_succ]
      exact ih (by simpa using h)
theorem firstV_first {args : List Slt} {n : Int} : ∀ j, j < firstV args n → args[j]? ≠ some ⟨true, n⟩ := by
  induction args with
  | nil => intro j h; simp
  | cons a r ih =>
    intro j h
    unfold firstV at h
    split at h
    · omega
    · rename_i hn
      match j with
      | 0 =>
        intro he
        simp at he
        subst he
        exact hn ⟨rfl, rfl⟩
      | j + 1 => simpa using ih j (by omega)
theorem slt_var {s : Slt} (h : s.v = true) : s = ⟨true, s.n⟩ := by
  obtain ⟨v, n⟩ := s
  simp only at h
  rw [h]

/-- A variable that comes for the first time and is not bound ahead is the next one. -/
theorem fresh_at {args : List Slt} {w k : Nat} {s : Slt} (h : okA args w) (hs : args[k]? = some s) (hv : s.v = true) (hf : firstV args s.n = k) (hw : ¬ s.n < (w : Int)) : s.n = (scanD (args.take k) w : Int) := by
  obtain ⟨h0, h1⟩ := okA_at h hs
  have h1 := h1 hv
  obtain ⟨n, hn⟩ := Int.eq_ofNat_of_zero_le h0
  rcases Int.lt_or_eq_of_le h1 with hlt | heq
  · obtain ⟨j, hj, he⟩ := seen (args := args) (w := w) k (Nat.le_of_lt (List.getElem?_eq_some_iff.1 hs).1) n (by omega) (by omega)
    exact absurd he (by have := firstV_first (args := args) (n := s.n) j (by omega); rw [hn] at this; exact this)
  · exact heq
/-- The next variable comes for the first time. -/
theorem next_first {args : List Slt} {w k : Nat} {s : Slt} (h : okA args w) (hs : args[k]? = some s) (hv : s.v = true) (hn : s.n = (scanD (args.take k) w : Int)) : firstV args s.n = k ∧ ¬ s.n < (w : Int) := by
  have hle := firstV_le hs hv
  have hl := (List.getElem?_eq_some_iff.1 hs).1
  refine ⟨?_, by have := scanD_le (args.take k) w; omega⟩
  rcases Nat.lt_or_ge (firstV args s.n) k with hlt | hge
  · exfalso
    have ha := firstV_at (args := args) (n := s.n) (by omega)
    obtain ⟨-, h1⟩ := okA_at h ha
    have h1 := h1 rfl
    have hm := scanD_mono (args := args) (w := w) (j := firstV args s.n + 1) (k := k) (by omega)
    have hm0 := scanD_mono (args := args) (w := w) (j := firstV args s.n) (k := k) (by omega)
    rw [scanD_succ ha] at hm
    simp only [true_and] at h1 hm
    rw [if_pos (by omega)] at hm
    omega
  · omega
theorem new_count {args : List Slt} {w : Nat} (h : okA args w) : ∀ k, k ≤ args.length → w + (newK args w k).length = scanD (args.take k) w
  | 0, _ => by simp [newK_zero, scanD]
  | k + 1, hk => by
    obtain ⟨s, hs⟩ : ∃ s, args[k]? = some s := ⟨_, List.getElem?_eq_getElem (by omega)⟩
    have ih := new_count h k (by omega)
    rw [scanD_succ hs, newK_succ, List.length_append]
    unfold newAt
    rw [hs]
    by_cases hc : s.v = true ∧ s.n = (scanD (args.take k) w : Int)
    · obtain ⟨h1, h2⟩ := next_first h hs hc.1 hc.2
      rw [if_pos hc]
      simp only
      rw [if_pos ⟨hc.1, h1, h2⟩]
      simp only [List.length_singleton]
      omega
    · rw [if_neg hc]
      simp only
      rw [if_neg (fun hh => hc ⟨hh.1, fresh_at h hs hh.1 hh.2.1 hh.2.2⟩)]
      simp only [List.length_nil]
      omega
theorem new_below {args : List Slt} {w : Nat} (h : ∀ s ∈ args, belowP w s) (k : Nat) (hk : k ≤ args.length) : newK args w k = [] := by
  obtain ⟨h1, h2⟩ := below_okA h
  have := new_count h1 k hk
  have hm := scanD_mono (args := args) (w := w) hk
  rw [List.take_length, h2] at hm
  exact List.eq_nil_of_length_eq_zero (by omega)

/-- May a rule be compiled? w variables. -/
structure Fit (r : Rl) (w : Nat) : Prop where
  many : r.pos.length + r.tests.length + r.neg.length ≤ 16
  pats : ∀ p ∈ r.pos, 0 ≤ p.pred ∧ p.args.length ≤ 8
  ok : okA (r.pos.flatMap Pat.args) 0
  wid : scanD (r.pos.flatMap Pat.args) 0 = w
  w16 : w ≤ 16
  tst : ∀ t ∈ r.tests, 1 ≤ t.op ∧ t.op ≤ 6 ∧ belowP w t.l ∧ belowP w t.r
  ngs : ∀ p ∈ r.neg, 0 ≤ p.pred ∧ p.args.length ≤ 8 ∧ ∀ s ∈ p.args, belowP w s
def mayP (r : Rl) : Prop := ∃ w, Fit r w

/-- The conditions fit, under which w variables are bound: how many are bound behind them. -/
def okC (w : Nat) (c : Cnd) : Prop :=
  (c.kind = 1 ∧ c.t = noTst ∧ okA c.p.args w) ∨ (c.kind = 2 ∧ c.p = noPat ∧ belowP w c.t.l ∧ belowP w c.t.r) ∨ (c.kind = 3 ∧ c.t = noTst ∧ ∀ s ∈ c.p.args, belowP w s)
noncomputable def nextW (w : Nat) (c : Cnd) : Nat := if c.kind = 1 then scanD c.p.args w else w
def okCs : Nat → List Cnd → Prop
  | _, [] => True
  | w, c :: r => okC w c ∧ okCs (nextW w c) r
theorem okCs_pos (w' : Nat) (cs : List Cnd) : ∀ (pos : List Pat) (w : Nat), okA (pos.flatMap Pat.args) w → scanD (pos.flatMap Pat.args) w = w' → okCs w' cs → okCs w (pos.map (fun p => (⟨1, p, noTst⟩ : Cnd)) ++ cs)
  | [], w, _, h2, h3 => by
    have e : w = w' := h2
    rw [e]; exact h3
  | p :: l, w, h1, h2, h3 => by
    rw [List.flatMap_cons, okA_app] at h1
    rw [List.flatMap_cons, scanD_app] at h2
    refine ⟨.inl ⟨rfl, rfl, h1.1⟩, ?_⟩
    simp only [nextW, if_true]
    exact okCs_pos w' cs l _ h1.2 h2 h3
theorem okCs_const (w : Nat) : ∀ (cs : List Cnd), (∀ c ∈ cs, okC w c ∧ c.kind ≠ 1) → okCs w cs
  | [], _ => trivial
  | c :: l, h => by
    obtain ⟨h1, h2⟩ := h c (List.mem_cons_self ..)
    refine ⟨h1, ?_⟩
    unfold nextW
    rw [if_neg h2]
    exact okCs_const w l (fun d hd => h d (List.mem_cons_of_mem _ hd))
theorem Fit.okCs {r : Rl} {w : Nat} (h : Fit r w) : okCs 0 (conds r) := by
  unfold conds
  rw [List.append_assoc]
  refine okCs_pos w _ r.pos 0 h.ok h.wid (okCs_const w _ (fun c hc => ?_))
  rcases List.mem_append.1 hc with hc | hc
  · obtain ⟨t, ht, rfl⟩ := List.mem_map.1 hc
    obtain ⟨_, _, h1, h2⟩ := h.tst t ht
    exact ⟨.inr (.inl ⟨rfl, rfl, h1, h2⟩), by show (2 : Int) ≠ 1; decide⟩
  · obtain ⟨p, hp, rfl⟩ := List.mem_map.1 hc
    obtain ⟨_, _, h1⟩ := h.ngs p hp
    exact ⟨.inr (.inr ⟨rfl, rfl, h1⟩), by show (3 : Int) ≠ 1; decide⟩
theorem conds_len (r : Rl) : (conds r).length = r.pos.length + r.tests.length + r.neg.length := by
  unfold conds; simp; omega
theorem okC.okA {w : Nat} {c : Cnd} (h : okC w c) (hk : c.kind ≠ 2) : okA c.p.args w := by
  rcases h with ⟨_, _, h⟩ | ⟨h, _⟩ | ⟨_, _, h⟩
  · exact h
  · exact absurd h hk
  · exact (below_okA h).1
theorem okC.next {w : Nat} {c : Cnd} (h : okC w c) (hk : c.kind ≠ 2) : nextW w c = w + (newK c.p.args w c.p.args.length).length := by
  rcases h with ⟨h1, _, h⟩ | ⟨h, _⟩ | ⟨h1, _, h⟩
  · unfold nextW
    rw [if_pos h1, new_count h _ (Nat.le_refl _), List.take_length]
  · exact absurd h hk
  · unfold nextW
    rw [if_neg (by rw [h1]; decide), new_below h _ (Nat.le_refl _)]
    rfl
theorem nodeC_width {st : St} {u w : Nat} {c : Cnd} (h : okC w c) (hw : widthAt st u = w) : (nodeC st u c).width = nextW w c := by
  unfold nodeC
  by_cases hk : c.kind = 2
  · rw [if_pos hk]
    unfold nextW
    rw [if_neg (by rw [hk]; decide)]
    exact hw
  · rw [if_neg hk, h.next hk]
    unfold nodeOf
    rw [hw]
    simp

/-- Two patterns of one shape, with the same links and new places. -/
theorem pat_inj {p q : Pat} {w : Nat} (hp : okA p.args w) (hq : okA q.args w) (hs : shapeF p = shapeF q) (hl : linksK p.args w p.args.length = linksK q.args w q.args.length) (hn : newK p.args w p.args.length = newK q.args w q.args.length) : p = q := by
  obtain ⟨pp, pa⟩ := p
  obtain ⟨qp, qa⟩ := q
  simp only [shapeF, Shp.mk.injEq] at hs hl hn hp hq
  obtain ⟨rfl, hc⟩ := hs
  have hlen : pa.length = qa.length := by have := congrArg List.length hc; simpa using this
  suffices h : ∀ k, k ≤ pa.length → pa.take k = qa.take k ∧ linksK pa w k = linksK qa w k ∧ newK pa w k = newK qa w k by
    have := (h pa.length (Nat.le_refl _)).1
    rw [List.take_length, hlen, List.take_length] at this
    rw [this]
  have pre : ∀ (a : List Slt) (k : Nat), k ≤ a.length → ∃ r, linksK a w a.length = linksK a w k ++ r ∧ ∀ x ∈ r, (k : Int) ≤ x.1 := by
    intro a k hk
    obtain ⟨d, hd⟩ : ∃ d, a.length = k + d := ⟨a.length - k, by omega⟩
    rw [hd]
    clear hd hk
    induction d with
    | zero => exact ⟨[], by simp, by simp⟩
    | succ d ih =>
      obtain ⟨r, h1, h2⟩ := ih
      refine ⟨r ++ linkAt a w (k + d), by rw [← Nat.add_assoc, linksK_succ, h1, List.append_assoc], fun x hx => ?_⟩
      rcases List.mem_append.1 hx with hx | hx
      · exact h2 x hx
      · unfold linkAt at hx
        split at hx
        · split at hx
          · rw [List.mem_singleton.1 hx]; simp; omega
          · simp at hx
        · simp at hx
  have pren : ∀ (a : List Slt) (k : Nat), k ≤ a.length → ∃ r, newK a w a.length = newK a w k ++ r ∧ ∀ x ∈ r, (k : Int) ≤ x := by
    intro a k hk
    obtain ⟨d, hd⟩ : ∃ d, a.length = k + d := ⟨a.length - k, by omega⟩
    rw [hd]
    clear hd hk
    induction d with
    | zero => exact ⟨[], by simp, by simp⟩
    | succ d ih =>
      obtain ⟨r, h1, h2⟩ := ih
      refine ⟨r ++ newAt a w (k + d), by rw [← Nat.add_assoc, newK_succ, h1, List.append_assoc], fun x hx => ?_⟩
      rcases List.mem_append.1 hx with hx | hx
      · exact h2 x hx
      · unfold newAt at hx
        split at hx
        · split at hx
          · rw [List.mem_singleton.1 hx]; omega
          · simp at hx
        · simp at hx
  intro k
  induction k with
  | zero => intro _; exact ⟨by simp, rfl, rfl⟩
  | succ k ih =>
    intro hk
    obtain ⟨i1, i2, i3⟩ := ih (by omega)
    obtain ⟨s, hs⟩ : ∃ s, pa[k]? = some s := ⟨_, List.getElem?_eq_getElem (by omega)⟩
    obtain ⟨t, ht⟩ : ∃ t, qa[k]? = some t := ⟨_, List.getElem?_eq_getElem (by omega)⟩
    have hcell : cellF pa s = cellF qa t := by
      have h1 : (pa.map (cellF pa))[k]? = some (cellF pa s) := by rw [List.getElem?_map, hs]; rfl
      have h2 : (qa.map (cellF qa))[k]? = some (cellF qa t) := by rw [List.getElem?_map, ht]; rfl
      rw [hc, h2] at h1
      exact (Option.some.inj h1).symm
    have s0 := (okA_at hp hs).1
    have t0 := (okA_at hq ht).1
    have hv : s.v = t.v ∧ (s.v = false → s.n = t.n) ∧ (s.v = true → firstV pa s.n = firstV qa t.n) := by
      unfold cellF at hcell
      by_cases h1 : s.v = true <;> by_cases h2 : t.v = true
      · rw [if_pos h1, if_pos h2] at hcell
        exact ⟨by rw [h1, h2], fun h => absurd (h1.symm.trans h) (by decide), fun _ => by omega⟩
      · rw [if_pos h1, if_neg h2] at hcell; omega
      · rw [if_neg h1, if_pos h2] at hcell; omega
      · rw [if_neg h1, if_neg h2] at hcell
        exact ⟨by simp only [Bool.not_eq_true] at h1 h2; rw [h1, h2], fun _ => hcell, fun h => absurd h h1⟩
    obtain ⟨hv1, hv2, hv3⟩ := hv
    have hst : s = t := by
      obtain ⟨sv, sn⟩ := s
      obtain ⟨tv, tn⟩ := t
      simp only at hv1 hv2 hv3 hs ht s0 t0
      subst hv1
      cases sv with
      | false => rw [hv2 rfl]
      | true =>
        have hf := hv3 rfl
        have hle := firstV_le hs rfl
        simp only at hle
        rcases Nat.lt_or_ge (firstV pa sn) k with hlt | hge
        · have h1 := firstV_at (args := pa) (n := sn) (by omega)
          have h2 := firstV_at (args := qa) (n := tn) (by omega)
          have h3 : (pa.take k)[firstV pa sn]? = (qa.take k)[firstV qa tn]? := by rw [i1, hf]
          rw [List.getElem?_take_of_lt hlt, List.getElem?_take_of_lt (by omega), h1, h2] at h3
          exact Option.some.inj h3
        · have e1 : firstV pa sn = k := by omega
          have e2 : firstV qa tn = k := by omega
          obtain ⟨rp, l1, l2⟩ := pre pa (k + 1) hk
          obtain ⟨rq, l3, l4⟩ := pre qa (k + 1) (by omega)
          rw [linksK_succ] at l1 l3
          rw [l1, l3, i2, List.append_assoc, List.append_assoc] at hl
          have hl := List.append_cancel_left hl
          unfold linkAt at hl
          rw [hs, ht] at hl
          simp only [e1, e2, true_and] at hl
          by_cases c1 : sn < (w : Int) <;> by_cases c2 : tn < (w : Int)
          · rw [if_pos c1, if_pos c2] at hl
            simp only [List.singleton_append, List.cons.injEq, Prod.mk.injEq, true_and] at hl
            rw [hl.1]
          · rw [if_pos c1, if_neg c2] at hl
            have := l4 ((k : Int), sn) (by rw [← show [((k : Int), sn)] ++ rp = rq by simpa using hl]; simp)
            simp at this
            omega
          · rw [if_neg c1, if_pos c2] at hl
            have := l2 ((k : Int), tn) (by rw [show rp = [((k : Int), tn)] ++ rq by simpa using hl]; simp)
            simp at this
            omega
          · have f1 := fresh_at hp hs rfl e1 c1
            have f2 := fresh_at hq ht rfl e2 c2
            rw [i1] at f1
            simp only at f1 f2
            rw [f1, f2]
    subst hst
    have i1' : pa.take (k + 1) = qa.take (k + 1) := by rw [List.take_add_one, List.take_add_one, hs, ht, i1]
    have hff : s.v = true → firstV pa s.n = firstV qa s.n := hv3
    refine ⟨i1', ?_, ?_⟩
    · rw [linksK_succ, linksK_succ, i2]
      unfold linkAt
      rw [hs, ht]
      by_cases h1 : s.v = true
      · simp only [hff h1]
      · simp only
        rw [if_neg (fun h : s.v = true ∧ _ => h1 h.1), if_neg (fun h : s.v = true ∧ _ => h1 h.1)]
    · rw [newK_succ, newK_succ, i3]
      unfold newAt
      rw [hs, ht]
      by_cases h1 : s.v = true
      · simp only [hff h1]
      · simp only
        rw [if_neg (fun h : s.v = true ∧ _ => h1 h.1), if_neg (fun h : s.v = true ∧ _ => h1 h.1)]

theorem nodeC_inj {st : St} {u w : Nat} {c d : Cnd} (hc : okC w c) (hd : okC w d) (hw : widthAt st u = w) (sc : Shaped st c) (sd : Shaped st d) (h : nodeC st u c = nodeC st u d) : c = d := by
  obtain ⟨ck, cp, ct⟩ := c
  obtain ⟨dk, dp, dt⟩ := d
  have hk : ck = dk := by
    have := congrArg Nd.kind h
    unfold nodeC at this
    by_cases h1 : ck = 2 <;> by_cases h2 : dk = 2
    · rw [h1, h2]
    · simp only [h1, h2, if_true, if_false, testOf, nodeOf] at this; exact absurd this.symm h2
    · simp only [h1, h2, if_true, if_false, testOf, nodeOf] at this
    · simp only [h1, h2, if_false, nodeOf] at this; exact this
  subst hk
  by_cases h1 : ck = 2
  · subst h1
    unfold nodeC at h
    simp only [if_true, testOf, Nd.mk.injEq, true_and, and_true] at h
    rcases hc with ⟨hh, _⟩ | ⟨_, e1, _⟩ | ⟨hh, _⟩
    · exact absurd hh (by intro h; cases h)
    · rcases hd with ⟨hh, _⟩ | ⟨_, e2, _⟩ | ⟨hh, _⟩
      · exact absurd hh (by intro h; cases h)
      · simp only at e1 e2
        rw [e1, e2, h]
      · exact absurd hh (by intro h; cases h)
    · exact absurd hh (by intro h; cases h)
  · have o1 := hc.okA h1
    have o2 := hd.okA h1
    unfold nodeC at h
    simp only [h1, if_false, nodeOf, Nd.mk.injEq, true_and] at h
    obtain ⟨ha, hl, hn, _⟩ := h
    rw [hw] at hl hn
    have hs := placeF_inj (sc h1) (sd h1) (Int.ofNat.inj ha)
    have e := pat_inj o1 o2 hs hl hn
    simp only at e
    have t1 : ct = noTst := by
      rcases hc with ⟨_, e1, _⟩ | ⟨hh, _⟩ | ⟨_, e1, _⟩
      · exact e1
      · exact absurd hh h1
      · exact e1
    have t2 : dt = noTst := by
      rcases hd with ⟨_, e1, _⟩ | ⟨hh, _⟩ | ⟨_, e1, _⟩
      · exact e1
      · exact absurd hh h1
      · exact e1
    rw [e, t1, t2]
end Go.Proofs.YtonkbjdeaneicaaDoor.Pln
