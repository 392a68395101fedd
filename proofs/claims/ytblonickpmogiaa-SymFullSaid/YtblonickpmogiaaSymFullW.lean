/- The walk of SymFull: it returns true. -/
import Derived.Test.YtblonickpmogiaaSilent
import Derived.Test.YtblonickpmogiaaRen
import Derived.Deep.Cut
import Derived.IntWalk
namespace Go.Proofs.Ytblonickpmogiaa
open Go.RowKit Go.Maps

/-- The first n keys that come. -/
def keyOfN (n : Nat) : Int := 7 * (n : Int) - 100000
def fullK (n : Nat) : List Cst := (List.range n).map fun i => cstOf (keyOfN i)
theorem fullK_succ (n : Nat) : fullK (n + 1) = fullK n ++ [cstOf (keyOfN n)] := by simp [fullK, List.range_succ]
theorem fullK_len (n : Nat) : (fullK n).length = n := by simp [fullK]
theorem fullK_get {n i : Nat} (h : i < n) : (fullK n)[i]? = some (cstOf (keyOfN i)) := by simp [fullK, h]
theorem fullK_take {n m : Nat} (h : m ≤ n) : (fullK n).take m = fullK m := by
  unfold fullK
  rw [← List.map_take, List.take_range, Nat.min_eq_left h]
theorem not_fullK {n : Nat} {k : Int} (h : ∀ i : Nat, i < n → k ≠ keyOfN i) : cstOf k ∉ fullK n := by
  intro hm
  obtain ⟨i, hi, he⟩ := List.mem_map.1 hm
  exact h i (List.mem_range.1 hi) (cstOf_inj he).symm
theorem keyOfN_ne {i n : Nat} (h : i < n) : keyOfN n ≠ keyOfN i := by unfold keyOfN; omega
theorem keyOfN_wf {n : Nat} (h : n < 100000) : (Lit.int .i64 (keyOfN n)).wf = true := by
  simp [Lit.wf, IntKind.min, IntKind.max, IntKind.signed, IntKind.bits, keyOfN]
  omega
theorem three_ne (i : Nat) : (3 : Int) ≠ keyOfN i := by unfold keyOfN; omega

section
variable {base : Nat} {w : World} {g m : Nat} {sv : Value}
/-- The next key comes. -/
theorem fullNew {n : Nat} {ks : List Cst} {k : Int} (h : IdsAt Try.prog kindT base w g m sv ks) (hbase : base ≤ w.heap.size) (hl : ks.length = n) (hn : n < 65536) (hk : (Lit.int .i64 k).wf = true) (hnot : cstOf k ∉ ks) :
    Calls Try.prog 53 #[.pointer (some ⟨g, 0, none⟩), .agg #[.int .i64 1, .int .i64 k, .string ⟨#[]⟩]] w fun e w' => e = .returned (.tuple #[.int .i64 n, .int .i64 0]) ∧ Left Try.prog kindT base w g m sv (ks ++ [cstOf k]) w' := by
  subst hl
  exact tIntern_new (c := cstOf k) h hbase (valid_int k) (cstOf_ok hk) hnot hn
theorem fullOld {i : Nat} {ks : List Cst} {k : Int} (h : IdsAt Try.prog kindT base w g m sv ks) (hk : ks[i]? = some (cstOf k)) :
    Calls Try.prog 53 #[.pointer (some ⟨g, 0, none⟩), .agg #[.int .i64 1, .int .i64 k, .string ⟨#[]⟩]] w fun e w' => e = .returned (.tuple #[.int .i64 i, .int .i64 0]) ∧ Below w.heap.size w w' :=
  tIntern_old (c := cstOf k) h (valid_int k) hk
theorem fullFull {ks : List Cst} {k : Int} (h : IdsAt Try.prog kindT base w g m sv ks) (hk : (Lit.int .i64 k).wf = true) (hnot : cstOf k ∉ ks) (hn : 65536 ≤ ks.length) :
    Calls Try.prog 53 #[.pointer (some ⟨g, 0, none⟩), .agg #[.int .i64 1, .int .i64 k, .string ⟨#[]⟩]] w fun e w' => e = .returned (.tuple #[.int .i64 0, .int .i64 6]) ∧ Below w.heap.size w w' :=
  tIntern_full (c := cstOf k) h (valid_int k) (cstOf_ok hk) hnot hn
theorem fullBad : Calls Try.prog 53 #[.pointer (some ⟨g, 0, none⟩), .agg #[.int .i64 0, .int .i64 0, .string ⟨#[]⟩]] w fun e w' => e = .returned (.tuple #[.int .i64 0, .int .i64 5]) ∧ Below w.heap.size w w' :=
  tIntern_bad (c := ⟨0, 0, ⟨#[]⟩⟩) valid_zero
theorem fullFind {i : Nat} {ks : List Cst} {k : Int} (h : IdsAt Try.prog kindT base w g m sv ks) (hk : ks[i]? = some (cstOf k)) :
    Calls Try.prog 41 #[.pointer (some ⟨g, 0, none⟩), .agg #[.int .i64 1, .int .i64 k, .string ⟨#[]⟩]] w fun e w' => e = .returned (.int .i64 i) ∧ Below w.heap.size w w' :=
  findT_hit (c := cstOf k) h hk
theorem fullMiss {ks : List Cst} {k : Int} (h : IdsAt Try.prog kindT base w g m sv ks) (hk : (Lit.int .i64 k).wf = true) (hnot : cstOf k ∉ ks) :
    Calls Try.prog 41 #[.pointer (some ⟨g, 0, none⟩), .agg #[.int .i64 1, .int .i64 k, .string ⟨#[]⟩]] w fun e w' => e = .returned (.int .i64 (-1)) ∧ Below w.heap.size w w' :=
  findT_miss (c := cstOf k) h (cstOf_ok hk) hnot
theorem fullAt {i : Nat} {ks : List Cst} {k : Int} (h : IdsAt Try.prog kindT base w g m sv ks) (hk : ks[i]? = some (cstOf k)) :
    Calls Try.prog 54 #[.pointer (some ⟨g, 0, none⟩), .int .i64 i] w fun e w' => e = .returned (.tuple #[.agg #[.int .i64 1, .int .i64 k, .string ⟨#[]⟩], .bool true]) ∧ Below w.heap.size w w' :=
  atT_in (c := cstOf k) h hk
end

/-- Between two rounds of the first loop. -/
inductive F1 (M : Nat) (w : World) (g : Nat) (i : Value) (wr : World) : Prop
  | mk (n : Nat) (sv : Value) (hn : n ≤ M) (hi : i = .int .i64 n) (h : IdsAt Try.prog kindT w.heap.size wr g w.heap.size sv (fullK n)) (hb : Below w.heap.size w wr)

/-- What is held while the calls of a round are made in whatever order. -/
theorem keepF {WB w1 w2 : World} {C : Nat} {a b c : Value} (hC : C < WB.heap.size) (x0 : w1.cell? ⟨C, 0, none⟩ = some a) (x1 : w1.cell? ⟨C, 1, none⟩ = some b) (x2 : w1.cell? ⟨C, 2, none⟩ = some c) (hb : Below WB.heap.size WB w1) (hbel : Below w1.heap.size w1 w2) :
    w2.cell? ⟨C, 0, none⟩ = some a ∧ w2.cell? ⟨C, 1, none⟩ = some b ∧ w2.cell? ⟨C, 2, none⟩ = some c ∧ Below WB.heap.size WB w2 := by
  have h : C < w1.heap.size := Nat.lt_of_lt_of_le hC hb.size
  exact ⟨(hbel.cell (p := ⟨C, 0, none⟩) h).trans x0, (hbel.cell (p := ⟨C, 1, none⟩) h).trans x1, (hbel.cell (p := ⟨C, 2, none⟩) h).trans x2, hb.trans (hbel.mono hb.size)⟩

/-- Between two rounds of the second loop. -/
inductive F2 (M : Nat) (wl : World) (i : Value) (wr : World) : Prop
  | mk (k : Nat) (hk : k ≤ M) (hi : i = .int .i64 k) (hb : Below wl.heap.size wl wr)

set_option maxRecDepth 2000000 in
set_option maxHeartbeats 16000000 in
theorem symFullW (w : World) : Calls Try.prog 14 #[] w fun e w' => e = .returned (.bool true) ∧ Below w.heap.size w w' := by
  have HN := Lib.hid (newT w)
  obtain ⟨M, hM⟩ : ∃ M : Nat, M = 65536 := ⟨_, rfl⟩
  have HM := Lib.hid hM
  clear hM
  go_enter Try.func14, Try.ntmps14
  go_wp2_with fail
  refine HN.out.mono ?_
  rintro e w1 ⟨g, rfl, h1, b1⟩
  go_wp2_with fail
  refine (silentW w1).mono ?_
  rintro e w2 ⟨rfl, b2⟩
  have h2 := h1.below b2
  have B2 : Below w.heap.size w w2 := b1.trans (b2.mono b1.size)
  clear h1 b1 b2 HN
  go_wp2_with fail
  go_loopw [2] (fun i wr => F1 M w g i wr) (fun i _ => M - (intOf i).toNat)
  case atStart => exact .mk 0 _ (Nat.zero_le _) rfl h2 B2
  case round =>
    clear h2 B2
    obtain ⟨n, sv, hn, rfl, h, hb⟩ := hrel
    by_cases hlt : n < M
    · have hlt' : (n : Int) < 65536 := by have := HM.out; omega
      have hnn : (0 : Int) ≤ (n : Int) := by omega
      have HB := Lib.hid hb
      have HH := Lib.hid h
      have HL := Lib.hid hlt
      clear hb h hlt hn
      go_wp2_with fail
      refine (key_any _ _).mono ?_
      rintro e w3 ⟨rfl, b3⟩
      have h3 := HH.out.below b3
      have B3 := HB.out.trans (b3.mono HB.out.size)
      have HI := Lib.hid (fullNew (k := 7 * (n : Int) - 100000) h3 B3.size (fullK_len n) (by have := HL.out; have := HM.out; omega) (keyOfN_wf (n := n) (by have := HL.out; have := HM.out; omega)) (not_fullK fun i hi => keyOfN_ne hi))
      clear b3
      go_wp2_with fail
      refine HI.out.mono ?_
      rintro e w4 ⟨rfl, sv', h4, ht, -⟩
      have h5 : IdsAt Try.prog kindT w.heap.size w4 g w.heap.size sv' (fullK (n + 1)) := by rw [fullK_succ]; exact h4
      have B4 := B3.trans (ht.below B3.size (fun b hb => (h3.foot_lt b hb).1))
      have H5 := Lib.hid h5
      have HB4 := Lib.hid B4
      clear h3 h4 ht B3 HI h5 B4
      go_upto_if 36 with fail
      have hn1 : (n : Int) < 9223372036854775807 := by omega
      clear hlt'
      go_wp2_with fail
      exact ⟨.mk (n + 1) sv' HL.out (by go_num) H5.out HB4.out, by have := HL.out; simp [intOf]; omega⟩
    · have hge : (65536 : Int) ≤ (n : Int) := by have := HM.out; omega
      have HG := Lib.hid hlt
      have HN := Lib.hid hn
      obtain ⟨wl, rfl⟩ : ∃ wl : World, wl = wr := ⟨_, rfl⟩
      have HH := Lib.hid h
      have HB := Lib.hid hb
      clear hlt hn h hb
      go_wp2_with fail
      go_loopw [5] (fun i wr => F2 M wl i wr) (fun i _ => M - (intOf i).toNat)
      case atStart => exact .mk 0 (Nat.zero_le _) rfl (Below.refl _ _)
      case round =>
        obtain ⟨k, hk, rfl, hb⟩ := hrel
        by_cases hkl : k < M
        · have hlt' : (k : Int) < 65536 := by have := HM.out; omega
          have hkk : (0 : Int) ≤ (k : Int) := by omega
          have hkn : k < n := by have := HG.out; omega
          have HA := Lib.hid (fullAt (k := 7 * (k : Int) - 100000) (HH.out.below hb) (fullK_get hkn))
          have HL := Lib.hid hkl
          have HB2 := Lib.hid hb
          have HKN := Lib.hid hkn
          clear hb hkl hk hkn
          go_wp2_with fail
          refine HA.out.mono ?_
          rintro e w5 ⟨rfl, b5⟩
          have B5 := HB2.out.trans (b5.mono HB2.out.size)
          clear b5 HA
          go_wp2_with fail
          obtain ⟨WB, hWB⟩ : ∃ WB, WB = w5.alloc (.cells #[.int .i64 1, .int .i64 (7 * (k : Int) - 100000), .string ⟨#[]⟩] 27) := ⟨_, rfl⟩
          rw [← hWB]
          have hCB : WB.heap[w5.heap.size]? = some (.cells #[.int .i64 1, .int .i64 (7 * (k : Int) - 100000), .string ⟨#[]⟩] 27 (0, 0)) := by rw [hWB]; exact heap_alloc_new w5 _
          have hC : w5.heap.size < WB.heap.size := lt_of_heap hCB
          have BW : Below wl.heap.size wl WB := by rw [hWB]; exact B5.alloc B5.size _
          obtain ⟨C, hCC⟩ : ∃ C, C = w5.heap.size := ⟨_, rfl⟩
          rw [← hCC] at hC hCB ⊢
          clear hWB B5 hCC
          have HF := Lib.hid (fun (W : World) (hW : Below WB.heap.size WB W) => fullFind (k := 7 * (k : Int) - 100000) (HH.out.below (BW.trans (hW.mono BW.size))) (fullK_get HKN.out))
          have hS : (fun w' : World => w'.cell? ⟨C, 0, none⟩ = some (.int .i64 1) ∧ w'.cell? ⟨C, 1, none⟩ = some (.int .i64 (7 * (k : Int) - 100000)) ∧ w'.cell? ⟨C, 2, none⟩ = some (.string ⟨#[]⟩) ∧ Below WB.heap.size WB w') WB.drew := ⟨cell_of_row WB C 0 _ _ _ hCB, cell_of_row WB C 1 _ _ _ hCB, cell_of_row WB C 2 _ _ _ hCB, (Below.refl _ _).drew⟩
          have HBW := Lib.hid BW
          clear BW hCB
          have e1 : IntKind.i64.wrap (7 * (k : Int)) = 7 * (k : Int) := IntWalk.i64_in _ (by omega)
          have e2 : IntKind.i64.wrap (7 * (k : Int) - 100000) = 7 * (k : Int) - 100000 := IntWalk.i64_in _ (by omega)
          first | go_region_held3 (fun w' : World => w'.cell? ⟨C, 0, none⟩ = some (.int .i64 1) ∧ w'.cell? ⟨C, 1, none⟩ = some (.int .i64 (7 * (k : Int) - 100000)) ∧ w'.cell? ⟨C, 2, none⟩ = some (.string ⟨#[]⟩) ∧ Below WB.heap.size WB w')
            (first | go_keep | (go_split_ands; exact keepF hC (by assumption) (by assumption) (by assumption) (by assumption) hbel))
            (first | (go_at_call 23; refine (key_any _ _).mono ?_; rintro e w' ⟨rfl, hbel⟩) | (go_at_call 41; refine (HF.out _ (by assumption : _ ∧ _ ∧ _ ∧ Below WB.heap.size WB _).2.2.2).mono ?_; rintro e w' ⟨rfl, hbel⟩)) | fail "x"
          have hbe := (by assumption : _ ∧ _ ∧ _ ∧ Below WB.heap.size WB _).2.2.2
          have B8 := HBW.out.trans (hbe.mono HBW.out.size)
          clear hbe e1 e2
          have hk1 : (k : Int) + 1 < 9223372036854775807 := by omega
          clear hlt'
          go_wp2_with fail
          exact ⟨.mk (k + 1) HL.out (by go_num) B8, by have := HL.out; simp [intOf]; omega⟩
        · have hge2 : (65536 : Int) ≤ (k : Int) := by have := HM.out; omega
          obtain ⟨wm, rfl⟩ : ∃ wm : World, wm = wr := ⟨_, rfl⟩
          have hnM : n = M := by have := HG.out; have := HN.out; omega
          subst hnM
          have HH2 := Lib.hid (HH.out.below hb)
          have HB2 := Lib.hid (HB.out.trans (hb.mono HB.out.size))
          clear hb hkl hk HH HG HN HB
          go_wp2_with fail
          refine (key_any _ _).mono ?_
          rintro e w5 ⟨rfl, b5⟩
          have h5 := HH2.out.below b5
          have B5 := HB2.out.trans (b5.mono HB2.out.size)
          have HF := Lib.hid (fullFull (k := 3) h5 (by decide) (not_fullK fun i _ => three_ne i) (by rw [fullK_len]; have := HM.out; omega))
          have HH5 := Lib.hid h5
          have HB5 := Lib.hid B5
          clear h5 b5 B5
          go_wp2_with fail
          refine HF.out.mono ?_
          rintro e w6 ⟨rfl, b6⟩
          have h6 := HH5.out.below b6
          have B6 := HB5.out.trans (b6.mono HB5.out.size)
          obtain ⟨W1, hW1⟩ : ∃ W1, W1 = w6 := ⟨_, rfl⟩
          rw [← hW1] at h6 B6 ⊢
          have HH6 := Lib.hid h6
          have HB6 := Lib.hid B6
          clear h6 b6 B6 hW1 HF HH5 HB5
          go_wp2_with fail
          have hS : (fun w' : World => Below W1.heap.size W1 w') W1.drew := (Below.refl _ _).drew
          have HLn := Lib.hid (fun (W : World) (hW : Below W1.heap.size W1 W) => (show Calls Try.prog 27 #[.pointer (some ⟨g, 0, none⟩)] W (fun e w' => e = .returned (.int .i64 65536) ∧ W = w') by
            have h := lenT (HH6.out.below hW)
            rw [fullK_len] at h
            exact h.mono (by rintro e w' ⟨rfl, h⟩; exact ⟨by rw [HM.out]; rfl, h⟩)))
          have HMs := Lib.hid (fun (W : World) (hW : Below W1.heap.size W1 W) => fullMiss (k := 3) (HH6.out.below hW) (by decide) (not_fullK fun i _ => three_ne i))
          first | go_region_held3 (fun w' : World => Below W1.heap.size W1 w')
            (first | go_keep | exact (by assumption : Below W1.heap.size W1 _).trans (hbel.mono (by assumption : Below W1.heap.size W1 _).size))
            (first | (go_at_call 23; refine (key_any _ _).mono ?_; rintro e w' ⟨rfl, hbel⟩) | (go_at_call 41; refine (HMs.out _ (by assumption : Below W1.heap.size W1 _)).mono ?_; rintro e w' ⟨rfl, hbel⟩) | (go_at_call 27; refine (HLn.out _ (by assumption : Below W1.heap.size W1 _)).mono ?_; rintro e w' ⟨rfl, rfl⟩)) | fail "x"
          have hbe := (by assumption : Below W1.heap.size W1 _)
          have B7 := HB6.out.trans (hbe.mono HB6.out.size)
          have h7 := HH6.out.below hbe
          have HH7 := Lib.hid h7
          have HB7 := Lib.hid B7
          clear hbe h7 B7 HH6 HB6 HLn HMs hS
          go_wp2_with fail
          refine (key_any _ _).mono ?_
          rintro e w8 ⟨rfl, b8⟩
          have h8 := HH7.out.below b8
          have B8 := HB7.out.trans (b8.mono HB7.out.size)
          have HF := Lib.hid (fullOld (k := -99937) (i := 9) h8 (by have h := fullK_get (n := n) (i := 9) (by have := HM.out; omega); rw [show keyOfN 9 = -99937 from by decide] at h; exact h))
          have HH8 := Lib.hid h8
          have HB8 := Lib.hid B8
          clear h8 b8 B8 HH7 HB7
          go_wp2_with fail
          refine HF.out.mono ?_
          rintro e w9 ⟨rfl, b9⟩
          have HH9 := Lib.hid (HH8.out.below b9)
          have HB9 := Lib.hid (HB8.out.trans (b9.mono HB8.out.size))
          clear b9 HH8 HB8 HF
          go_wp2_with fail
          refine fullBad.mono ?_
          rintro e w10 ⟨rfl, b10⟩
          have HH10 := Lib.hid (HH9.out.below b10)
          have HB10 := Lib.hid (HB9.out.trans (b10.mono HB9.out.size))
          have HC := Lib.hid (cutT HH10.out 65535 (by omega) (by omega) (by rw [fullK_len]; have := HM.out; omega))
          clear b10 HH9 HB9
          go_wp2_with fail
          refine HC.out.mono ?_
          rintro e w11 ⟨rfl, sv11, h11, t11, -⟩
          have h11' : IdsAt Try.prog kindT w.heap.size w11 g w.heap.size sv11 (fullK 65535) := by
            have h := h11
            rw [fullK_take (by show (65535 : Int).toNat ≤ n; have := HM.out; omega)] at h
            exact h
          have HH11 := Lib.hid h11'
          have HB11 := Lib.hid (HB10.out.trans ((t11.below HB10.out.size (fun b hb => (HH10.out.foot_lt b hb).1)).mono (Nat.le_refl _)))
          clear t11 h11 h11' HC HH10 HB10
          go_wp2_with fail
          refine (key_any _ _).mono ?_
          rintro e w12 ⟨rfl, b12⟩
          have h12 := HH11.out.below b12
          have B12 := HB11.out.trans (b12.mono HB11.out.size)
          have HI := Lib.hid (fullNew (n := 65535) (k := 3) h12 B12.size (fullK_len 65535) (by omega) (by decide) (not_fullK fun i _ => three_ne i))
          have HH12 := Lib.hid h12
          have HB12 := Lib.hid B12
          clear h12 b12 B12 HH11 HB11
          go_wp2_with fail
          refine HI.out.mono ?_
          rintro e w13 ⟨rfl, sv13, h13, t13, -⟩
          have B13 := HB12.out.trans ((t13.below HB12.out.size (fun b hb => (HH12.out.foot_lt b hb).1)).mono (Nat.le_refl _))
          obtain ⟨W2, hW2⟩ : ∃ W2, W2 = w13 := ⟨_, rfl⟩
          rw [← hW2] at h13 B13 ⊢
          have HB13 := Lib.hid B13
          have hnot : cstOf 358745 ∉ fullK 65535 ++ [cstOf 3] := by
            intro hm
            rcases List.mem_append.1 hm with hm | hm
            · exact not_fullK (k := keyOfN 65535) (fun i hi => keyOfN_ne hi) (by rw [show keyOfN 65535 = 358745 from by decide]; exact hm)
            · have := cstOf_inj (List.mem_singleton.1 hm)
              omega
          have HMs := Lib.hid (fun (W : World) (hW : Below W2.heap.size W2 W) => fullMiss (k := 358745) (h13.below hW) (by decide) hnot)
          have hS : (fun w' : World => Below W2.heap.size W2 w') W2.drew := (Below.refl _ _).drew
          clear hnot h13 t13 B13 hW2 HI HH12 HB12
          go_wp2_with fail
          first | go_region_held3 (fun w' : World => Below W2.heap.size W2 w')
            (first | go_keep | exact (by assumption : Below W2.heap.size W2 _).trans (hbel.mono (by assumption : Below W2.heap.size W2 _).size))
            (first | (go_at_call 23; refine (key_any _ _).mono ?_; rintro e w' ⟨rfl, hbel⟩) | (go_at_call 41; refine (HMs.out _ (by assumption : Below W2.heap.size W2 _)).mono ?_; rintro e w' ⟨rfl, hbel⟩)) | fail "x"
          have hbe := (by assumption : Below W2.heap.size W2 _)
          have B14 := HB13.out.trans (hbe.mono HB13.out.size)
          clear hbe hS HMs HB13
          go_wp2_with fail
          go_ret
          exact ⟨rfl, B14⟩
end Go.Proofs.Ytblonickpmogiaa
