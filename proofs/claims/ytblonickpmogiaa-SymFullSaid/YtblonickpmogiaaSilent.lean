/- What a nil Ids and a nil Table answer (edictlaw01.silent). -/
import Derived.Test.YtblonickpmogiaaIdsEvery
import Derived.Test.YtblonickpmogiaaNewIds
import Derived.Test.YtblonickpmogiaaTable
import Derived.Sort.QuietIn
namespace Go.Proofs.Ytblonickpmogiaa
open Go.RowKit Go.Maps Go.Shelf

set_option maxRecDepth 100000 in
theorem nilCut (w : World) : Calls Try.prog 72 #[.pointer none, .int .i64 0] w fun e w' => e = .returned (.tuple #[]) ∧ w = w' := by
  go_enter Try.func72, Try.ntmps72
  go_wp2
  refine bodyPost_ret (results_none rfl _ _ _) rfl ?_
  exact ⟨rfl, rfl⟩
theorem nilAt (w : World) : Calls Try.prog 47 #[.pointer none, .int .i64 0] w fun e w' => e = .returned (.tuple #[.string ⟨#[]⟩, .bool false]) ∧ Below w.heap.size w w' := by
  go_enter Try.func47, Try.ntmps47
  go_wp2
  go_ret2
  exact ⟨rfl, by repeat (first | exact Below.refl _ _ | refine Below.alloc ?_ (by first | (simp; done) | (simp; omega)) _)⟩
theorem nilIntern (k : ByteArray) (w : World) : Calls Try.prog 64 #[.pointer none, .string k] w fun e w' => e = .returned (.int .i64 0) ∧ w = w' := by
  go_enter Try.func64, Try.ntmps64
  go_wp2
  go_ret
  exact ⟨rfl, rfl⟩
theorem nilFind (k : ByteArray) (w : World) : Calls Try.prog 48 #[.pointer none, .string k] w fun e w' => e = .returned (.int .i64 0) ∧ w = w' := by
  go_enter Try.func48, Try.ntmps48
  go_wp2
  go_ret
  exact ⟨rfl, rfl⟩
theorem nilLen (w : World) : Calls Try.prog 46 #[.pointer none] w fun e w' => e = .returned (.int .i64 0) ∧ w = w' := by
  go_enter Try.func46, Try.ntmps46
  go_wp2
  go_ret
  exact ⟨rfl, rfl⟩
theorem nilSorted (w : World) : Calls Try.prog 38 #[.pointer none] w fun e w' => e = .returned (.slice none 0 0) ∧ Below w.heap.size w w' := by
  go_enter Try.func38, Try.ntmps38
  go_wp2
  go_ret
  exact ⟨rfl, by repeat (first | exact Below.refl _ _ | refine Below.alloc ?_ (by first | (simp; done) | (simp; omega)) _)⟩
theorem nilRanks (w : World) : Calls Try.prog 39 #[.pointer none] w fun e w' => e = .returned (.slice none 0 0) ∧ Below w.heap.size w w' := by
  go_enter Try.func39, Try.ntmps39
  go_wp2
  go_ret
  exact ⟨rfl, by repeat (first | exact Below.refl _ _ | refine Below.alloc ?_ (by first | (simp; done) | (simp; omega)) _)⟩
set_option maxRecDepth 100000 in
theorem nilConst (w : World) : Calls Try.prog 40 #[.pointer none, .int .i64 0] w fun e w' => e = .returned (.tuple #[.agg #[.int .i64 0, .int .i64 0, .string ⟨#[]⟩], .int .i64 0]) ∧ Below w.heap.size w w' := by
  go_enter Try.func40, Try.ntmps40
  go_wp2
  refine bodyPost_ret (v := .tuple #[.agg #[.int .i64 0, .int .i64 0, .string ⟨#[]⟩], .int .i64 0]) (by simp [results, Try.results40, go_sem]) rfl ⟨rfl, ?_⟩
  exact (Below.refl _ _).alloc (Nat.le_refl _) _

theorem one_wf : ∀ k ∈ [(⟨#[97]⟩ : ByteArray)], k.size ≤ maxLen := by
  intro k hk
  rw [List.mem_singleton.1 hk]
  decide
theorem allK_one : allK [(⟨#[97]⟩ : ByteArray)] = [⟨#[97]⟩] := by
  unfold allK
  rw [List.foldl_cons, List.foldl_nil]
  unfold addK
  rw [if_neg (by simp)]
  rfl
theorem other_key : (⟨#[98]⟩ : ByteArray) ∉ [(⟨#[97]⟩ : ByteArray)] := by
  intro h
  have := congrArg (fun b : ByteArray => b.data.toList) (List.mem_singleton.1 h)
  exact absurd this (by decide)

attribute [local go_sem] Oper.semAt_some

set_option maxRecDepth 100000 in
set_option maxHeartbeats 2000000 in
/-- A ranging over a nil Ids: no round. -/
theorem nilAll1 (n : Nat) (hn : 1 ≤ n) (l Bn : Nat) (J : List (Nat × ByteArray) → World → Prop) (W : World) (hc : W.cell? ⟨Bn, 0, none⟩ = some (.pointer none)) (h0 : J [] W) :
    CallsIn Fence.wide n Try.prog 104 #[.func (.yield l) #[] #[], .pointer (some ⟨Bn, 0, none⟩)] W fun e W' => (∃ v, e = .returned v) ∧ J [] W' := by
  refine callsIn_of_wp Try.func104 rfl trivial ?_ rfl
  simp only [Try.ntmps104, List.size_toArray, List.length_cons, List.length_nil, Nat.reduceAdd, Nat.reduceSub, Array.replicate_succ, Array.replicate_zero, List.push_toArray, List.append_toArray, List.nil_append, List.cons_append]
  gi_wp2_with (refine ⟨trivial, ?_⟩; gi_at_call 46; refine (callsIn_wide.2 (nilLen _)).mono ?_; rintro e w' ⟨rfl, rfl⟩)
  gi_loopw [6] (fun i wr => i = .int .i64 0 ∧ J [] wr) (fun _ _ => 0)
  case atStart => exact ⟨rfl, h0⟩
  case round =>
    obtain ⟨rfl, hJs⟩ := hrel
    gi_wp2
    go_end0
    exact ⟨⟨_, rfl⟩, hJs⟩
theorem nilAll_stops (n : Nat) (hn : 1 ≤ n) (Bn : Nat) (w0 : World) (hBn : Bn < w0.heap.size) (hc : w0.cell? ⟨Bn, 0, none⟩ = some (.pointer none)) :
    SeqStopsK Fence.wide n Try.prog 104 #[.pointer (some ⟨Bn, 0, none⟩)] (fun x : Nat × ByteArray => #[Value.int .i64 (x.1 : Int), .string x.2]) (Below w0.heap.size) (fun ys => ys = [])
      (fun _ => False) 0 w0 := fun l J _ W hW _ _ _ h0 => (nilAll1 n hn l Bn J W ((hW.cell (p := ⟨Bn, 0, none⟩) hBn).trans hc) h0).mono fun _ _ ⟨he, hj⟩ => ⟨he, .inl ⟨_, rfl, hj⟩⟩

set_option maxRecDepth 100000 in
set_option maxHeartbeats 4000000 in
theorem silentW (w : World) : Calls Try.prog 52 #[] w fun e w' => e = .returned (.bool true) ∧ Below w.heap.size w w' := by
  have hq : ∀ (w : World) (f : Fn) (a b : Array Value), (binOp .eql 124 (.func f a b) .nilFunc).run Try.prog w = .ok (.bool false) w := fun w f a b => run_eql_func_nil w _ f a b Try.underlying124
  refine (callsIn_wide (n := 6)).1 ?_
  refine callsIn_of_wp_marks Try.func52 rfl trivial ?_ rfl
  simp only [Try.ntmps52, List.size_toArray, List.length_nil, Nat.reduceSub, Array.replicate_succ, Array.replicate_zero, List.push_toArray, List.append_toArray, List.nil_append, List.cons_append]
  gi_wp2_with (first
    | (refine ⟨trivial, ?_⟩; gi_at_call 85; refine (callsIn_wide.2 (allS _ _)).mono ?_; rintro e w' ⟨rfl, rfl⟩)
    | (refine ⟨trivial, ?_⟩; gi_at_call 72; refine (callsIn_wide.2 (nilCut _)).mono ?_; rintro e w' ⟨rfl, rfl⟩))
  have bX := Boxed.new ((w.alloc (.cells #[.pointer none] 47)).alloc (.cells #[.int .i64 0] 3)) 47 (.pointer none)
  have bN := (Boxed.new (w.alloc (.cells #[.pointer none] 47)) 3 (.int .i64 0)).alloc (.cells #[.pointer none] 47)
  rw [World.size_alloc, World.size_alloc] at bX
  rw [World.size_alloc] at bN
  have hB : Below w.heap.size w (((w.alloc (.cells #[.pointer none] 47)).alloc (.cells #[.int .i64 0] 3)).alloc (.cells #[.pointer none] 47)) := (((Below.refl _ w).alloc (Nat.le_refl _) _).alloc (by simp) _).alloc (by simp; omega) _
  obtain ⟨W0, hW0⟩ : ∃ W0, W0 = ((w.alloc (.cells #[.pointer none] 47)).alloc (.cells #[.int .i64 0] 3)).alloc (.cells #[.pointer none] 47) := ⟨_, rfl⟩
  rw [← hW0] at bX bN hB ⊢
  have hsz := hB.size
  clear hW0
  refine wpIn_rangeFunc_ownG (n := 6) rfl (by omega) (gf := 104) (lb := #[.pointer (some ⟨w.heap.size + 1 + 1, 0, none⟩)]) rfl trivial (enters_of Try.func104 (by kernel_rfl) rfl)
    (nilAll_stops 5 (by omega) (w.heap.size + 1 + 1) W0 bX.lt bX.cell) belowK_t (belowK_b (Nat.le_refl _)) (Below.refl _ _) (fun _ => rfl)
    (fun pre W' => Boxed W' (w.heap.size + 1) 3 (.int .i64 0) ∧ Below w.heap.size w W' ∧ pre = ([] : List (Nat × ByteArray)))
    (fun _ _ _ => False)
    (OwnFrom.and (Own.from (boxed_own _ _ (fun _ => .int .i64 0)) _) (OwnFrom.and (ownFrom_below (Nat.le_refl _) hsz) (ownFrom_pure _ (fun (pre : List (Nat × ByteArray)) => pre = []))))
    (fun _ _ _ _ _ hs _ _ => hs)
    ⟨bN, hB, rfl⟩
    (fun x => { tmps := #[.bool false, .pointer none, .pointer (some ⟨w.heap.size + 1, 0, none⟩), undef, undef, undef, undef, undef, undef, undef, undef, .pointer none, .tuple #[], .pointer none, .func (.func 104) #[] #[.pointer (some ⟨w.heap.size, 0, none⟩)], .bool false, .pointer none, .func (.func 104) #[] #[.pointer (some ⟨w.heap.size + 1 + 1, 0, none⟩)], .int .i64 (x.1 : Int), .string x.2, undef, undef, undef, undef, undef, undef, undef, undef, undef, undef, undef, undef, undef, undef, undef, undef, undef, undef, undef, undef, undef, undef, undef, undef, undef, undef, undef, undef, undef, undef, undef, undef, undef, undef, undef, undef, undef, undef, undef, undef, undef, undef, undef, undef, undef, undef, undef, undef, undef, undef, undef, undef, undef, undef, undef, undef, undef, undef, undef, undef, undef, undef, undef, undef, undef, undef, undef, undef, undef, undef, undef, undef, undef, undef, undef, undef, undef, undef, undef, undef, undef, undef, undef], defers := [] }) ?assign ?body ?done ?stop
  case assign =>
    intro l x W K hK
    gi_wp2
    exact hK
  case body =>
    rintro l pre x W' _ hlt
    exact absurd hlt (Nat.not_lt_zero _)
  case done =>
    rintro D ys W' hD rfl ⟨hN, hB', -⟩ hK
    have cN := hN.cell
    gi_wp2_with (first
      | (refine ⟨trivial, ?_⟩; gi_at_call 47; refine (callsIn_wide.2 (nilAt _)).mono ?_; rintro e w1 ⟨rfl, b1⟩; have cN1 := (b1.cell (p := ⟨w.heap.size + 1, 0, none⟩) hN.lt).trans cN)
      | (refine ⟨trivial, ?_⟩; gi_at_call 64; refine (callsIn_wide.2 (nilIntern _ _)).mono ?_; rintro e w' ⟨rfl, rfl⟩)
      | (refine ⟨trivial, ?_⟩; gi_at_call 48; refine (callsIn_wide.2 (nilFind _ _)).mono ?_; rintro e w' ⟨rfl, rfl⟩)
      | (refine ⟨trivial, ?_⟩; gi_at_call 46; refine (callsIn_wide.2 (nilLen _)).mono ?_; rintro e w' ⟨rfl, rfl⟩)
      | (refine ⟨trivial, ?_⟩; gi_at_call 53; refine (callsIn_wide.2 (tIntern_nil ⟨1, 0, ⟨#[]⟩⟩ _)).mono ?_; rintro e w2 ⟨rfl, b2⟩))
    have B2 : Below w.heap.size w w2 := (hB'.trans (b1.mono hB'.size)).trans (b2.mono (Nat.le_trans hB'.size b1.size))
    have HK := Lib.hid ((b2.block D (Nat.lt_of_lt_of_le (Array.getElem?_eq_some_iff.1 hK).1 b1.size)).trans ((b1.block D (Array.getElem?_eq_some_iff.1 hK).1).trans hK))
    clear cN cN1 b1 b2 hN hB' hK bX bN hB
    refine ⟨trivial, ?_⟩
    refine (callsIn_wide.2 (nilConst w2)).mono ?_
    rintro e w3 ⟨rfl, b3⟩
    gi_wp2_with (first
      | (refine ⟨trivial, ?_⟩; gi_at_call 38; refine (callsIn_wide.2 (nilSorted _)).mono ?_; rintro e w4 ⟨rfl, b4⟩)
      | (refine ⟨trivial, ?_⟩; gi_at_call 39; refine (callsIn_wide.2 (nilRanks _)).mono ?_; rintro e w5 ⟨rfl, b5⟩))
    have B3 := B2.trans (b3.mono B2.size)
    have bA : Below w3.heap.size w3 (w3.alloc (.cells #[.int .i64 0, .int .i64 0, .string ⟨#[]⟩] 27)) := (Below.refl _ w3).alloc (Nat.le_refl _) _
    have b35 : Below w3.heap.size w3 w5 := (bA.trans (b4.mono bA.size)).trans (b5.mono (Nat.le_trans bA.size b4.size))
    have B5 := B3.trans (b35.mono B3.size)
    have bL : Below w5.heap.size w5 (w5.alloc (.cells #[.string ⟨#[97]⟩] 9)) := (Below.refl _ w5).alloc (Nat.le_refl _) _
    have HK5 := Lib.hid ((bL.block D (Nat.lt_of_lt_of_le (Array.getElem?_eq_some_iff.1 HK.out).1 (Nat.le_trans b3.size b35.size))).trans ((b35.block D (Nat.lt_of_lt_of_le (Array.getElem?_eq_some_iff.1 HK.out).1 b3.size)).trans ((b3.block D (Array.getElem?_eq_some_iff.1 HK.out).1).trans HK.out)))
    have B6 := B5.trans (bL.mono B5.size)
    have hA : SlAt (w5.alloc (.cells #[.string ⟨#[97]⟩] 9)) (w5.alloc (.cells #[.string ⟨#[97]⟩] 9)).heap.size 1 strCells (some ⟨w5.heap.size, 0, none⟩) [⟨#[97]⟩] := by
      refine .inr ⟨w5.heap.size, 0, rfl, by simp, fun i x hx j u hu => ?_⟩
      match i, hx with
      | 0, hx =>
        simp only [List.getElem?_cons_zero, Option.some.injEq] at hx
        subst hx
        match j, hu with
        | 0, hu =>
          simp only [strCells, List.getElem?_cons_zero, Option.some.injEq] at hu
          subst hu
          exact (Boxed.new w5 9 (.string ⟨#[97]⟩)).cell
        | j + 1, hu => simp [strCells] at hu
      | i + 1, hx => simp at hx
    clear b3 b4 b5 bA b35 B2 B3 B5 HK bL
    obtain ⟨W5, hW5⟩ : ∃ W5, W5 = w5.alloc (.cells #[.string ⟨#[97]⟩] 9) := ⟨_, rfl⟩
    rw [← hW5] at hA B6 HK5 ⊢
    clear hW5
    have hn := newS (some ⟨w5.heap.size, 0, none⟩) 1 [⟨#[97]⟩] _ one_wf hA (by show 1 ≤ 5900000000000; omega)
    rw [List.length_singleton, allK_one] at hn
    have HN := Lib.hid hn
    clear hn
    clear hA
    refine ⟨trivial, ?_⟩
    refine (callsIn_wide.2 HN.out).mono ?_
    rintro e w6 ⟨rfl, ⟨s6, h6⟩, b6⟩
    have HF := Lib.hid (findS_miss h6 (k := ⟨#[98]⟩) (by decide) other_key)
    have hl := lenS h6
    rw [List.length_singleton] at hl
    have HL := Lib.hid hl
    clear hl
    have HK6 := Lib.hid ((b6.block D (Array.getElem?_eq_some_iff.1 HK5.out).1).trans HK5.out)
    have HB := Lib.hid (B6.trans (b6.mono B6.size))
    clear h6 b6 B6 HN HK5
    gi_wp2_with (first
      | (refine ⟨trivial, ?_⟩; gi_at_call 48; refine (callsIn_wide.2 HF.out).mono ?_; rintro e w7 ⟨rfl, rfl⟩)
      | (refine ⟨trivial, ?_⟩; gi_at_call 46; refine (callsIn_wide.2 HL.out).mono ?_; rintro e w7 ⟨rfl, rfl⟩))
    refine ⟨by simp, .inl ⟨_, _, rfl, run_takeDeferred HK6.out, ?_⟩⟩
    exact ⟨_, results_tmp (t := 0) rfl _ _ _, rfl, HB.out.trans (belowK_b (w := w) (Nat.le_refl _) _ D _ _ (Nat.le_trans hsz hD) HK6.out rfl rfl)⟩
  case stop =>
    rintro D c pre W' _ _ h _
    exact h.elim
end Go.Proofs.Ytblonickpmogiaa
