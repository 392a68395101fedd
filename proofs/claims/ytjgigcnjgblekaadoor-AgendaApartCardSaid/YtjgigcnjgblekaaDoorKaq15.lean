/- pdqsort by a method value: the walk. -/
import Derived.Test.YtjgigcnjgblekaaDoorKaq12
import Derived.Test.YtjgigcnjgblekaaDoorKaq13
import Derived.Test.YtjgigcnjgblekaaDoorKaq14
import Derived.Sort.Walk13a
namespace Go.Proofs.YtjgigcnjgblekaaDoor
open Go Go.RowKit Go.Sort Classical

section
variable {α : Type} [Inhabited α] {E : SEnv α} {d : Array α} {W W' : World}
/-- What pdqsort leaves, from a state of its loop on. -/
def PdqC (E : SEnv α) (a b limit : Nat) (d : Array α) (W : World) : Prop :=
  Calls Tryd.prog 68 #[.slice (some ⟨E.b, 0, none⟩) E.n E.cap, .int .i64 (a : Int), .int .i64 (b : Int), .int .i64 (limit : Int), .func (.func 57) #[.pointer (some ⟨E.p, 0, none⟩)] #[]] W fun e w' => e = .returned (.tuple #[]) ∧ SW E (pdq E.lt d a b limit true true) w'
theorem hintZ_two (h : Hint) : (hintZ h = 2) ↔ h = .decreasing := by cases h <;> simp [hintZ]
theorem hintZ_one (h : Hint) : (hintZ h = 1) ↔ h = .increasing := by cases h <;> simp [hintZ]
set_option maxRecDepth 100000 in
set_option maxHeartbeats 8000000 in
theorem pdqW (HC : SC E) (hn : E.n ≤ 1000000000000000) : ∀ (m a b limit : Nat) (d : Array α) (W : World), b - a ≤ m → a ≤ b → b ≤ E.n → limit ≤ 1000 → SW E d W → PdqC E a b limit d W := by
  intro m
  induction m using Nat.strongRecOn with
  | _ m ih =>
  intro a0 b0 limit0 d W hm0 hab0 hb0 hl0 h
  have IH := Lib.hid ih
  have HCH := Lib.hid HC
  have HH := Lib.hid h
  clear HC h ih
  unfold PdqC
  obtain ⟨R, hR⟩ : ∃ R, pdq E.lt d a0 b0 limit0 true true = R := ⟨_, rfl⟩
  rw [hR]
  have HR := Lib.hid hR
  clear hR
  go_enter Tryd.func68, Tryd.ntmps68
  go_wp2
  go_loopw [1, 2, 3, 10, 11] (fun av bv lv wbv wpv wr => ∃ (a b limit : Nat) (wb wp : Bool) (dk : Array α), av = .int .i64 (a : Int) ∧ bv = .int .i64 (b : Int) ∧ lv = .int .i64 (limit : Int) ∧ wbv = .bool wb ∧ wpv = .bool wp ∧ a ≤ b ∧ b ≤ E.n ∧ b - a ≤ m ∧ limit ≤ 1000 ∧ SW E dk wr ∧ Hid (pdq E.lt dk a b limit wb wp = R)) (fun av bv _ _ _ _ => (intOf bv - intOf av).toNat)
  case atStart => exact ⟨a0, b0, limit0, true, true, d, rfl, rfl, rfl, rfl, rfl, hab0, hb0, hm0, hl0, HH.out, HR⟩
  case round =>
    obtain ⟨a, b, limit, wb, wp, dk, rfl, rfl, rfl, rfl, rfl, hab, hb, hm, hl, hs, HO⟩ := hrel
    clear HH HR
    by_cases h12 : b - a ≤ 12
    · have i1 : (b : Int) - (a : Int) ≤ 12 := by omega
      have C := Lib.hid (insW HCH.out a b dk wr hs hab hb hn)
      have HF := Lib.hid ((pdq_small h12).symm.trans HO.out)
      clear hs
      go_wp2_with fail
      with_reducible refine C.out.mono ?_
      rintro e w1 ⟨rfl, hs1⟩
      have HS := Lib.hid hs1
      clear hs1
      go_wp2
      refine bodyPost_ret (results_none rfl _ _ _) rfl ?_
      rw [← HF.out]
      exact ⟨rfl, HS.out⟩
    · have i1 : ¬ (b : Int) - (a : Int) ≤ 12 := by omega
      by_cases hl0 : limit = 0
      · have C := Lib.hid (heapW HCH.out a b dk wr hs (by omega) hb hn)
        have HF := Lib.hid ((pdq_heap h12 hl0).symm.trans HO.out)
        subst hl0
        clear hs
        go_wp2_with fail
        with_reducible refine C.out.mono ?_
        rintro e w1 ⟨rfl, hs1⟩
        have HS := Lib.hid hs1
        clear hs1
        go_wp2
        refine bodyPost_ret (results_none rfl _ _ _) rfl ?_
        rw [← HF.out]
        exact ⟨rfl, HS.out⟩
      · have i2 : ¬ (limit : Int) = 0 := by omega
        have i3 : ((limit : Int) == 0) = false := by simpa using i2
        obtain ⟨r, hr⟩ : ∃ r, rd E.lt dk a b limit wb wp = r := ⟨_, rfl⟩
        obtain ⟨L, hL⟩ : ∃ L, b - a = L := ⟨_, rfl⟩
        have hbL : a + L = b := by omega
        have PD := Lib.hid (fun h1 => pdq_done (lt := E.lt) (d := dk) (a := a) (b := b) (limit := limit) (wb := wb) (wp := wp) h12 hl0 h1)
        have PE := Lib.hid (fun h1 h2 h3 => pdq_eq (lt := E.lt) (d := dk) (a := a) (b := b) (limit := limit) (wb := wb) (wp := wp) h12 hl0 h1 h2 h3)
        have PL := Lib.hid (fun h1 h2 h3 h4 => pdq_left (lt := E.lt) (d := dk) (a := a) (b := b) (limit := limit) (wb := wb) (wp := wp) h12 hl0 h1 h2 h3 h4)
        have PR := Lib.hid (fun h1 h2 h3 h4 => pdq_right (lt := E.lt) (d := dk) (a := a) (b := b) (limit := limit) (wb := wb) (wp := wp) h12 hl0 h1 h2 h3 h4)
        have rc : r.c = choosePivot E.lt r.d1 a b := by rw [← hr]; exact rd_c
        have rdec : r.c.2 = .decreasing → r.d2 = reverseRange r.d1 a b ∧ r.pivot = (b - 1) - (r.c.1 - a) ∧ r.hint = .increasing := by rw [← hr]; exact rd_dec
        have rnot : r.c.2 ≠ .decreasing → r.d2 = r.d1 ∧ r.pivot = r.c.1 ∧ r.hint = r.c.2 := by rw [← hr]; exact rd_not
        have ryes : (wb && wp && decide (r.hint = .increasing)) = true → r.pi = partialInsertionSort E.lt r.d2 a b := by rw [← hr]; exact rd_pi_yes
        have rno : (wb && wp && decide (r.hint = .increasing)) = false → r.pi = (r.d2, false) := by rw [← hr]; exact rd_pi_no
        have rlim : r.lim ≤ limit := by rw [← hr]; exact rd_lim_le
        have rtrue : wb = true → r.d1 = dk ∧ r.lim = limit := by rintro rfl; rw [← hr]; exact rd_true
        have rfalse : wb = false → r.d1 = breakPatterns dk a b ∧ r.lim = limit - 1 := by rintro rfl; rw [← hr]; exact rd_false
        have rcr : a ≤ r.c.1 ∧ r.c.1 < b := by rw [rc]; exact choosePivot_holds E.lt r.d1 a b (by omega)
        rw [hr] at PD PE PL PR
        clear hr
        have RC := Lib.hid rc
        have RDEC := Lib.hid rdec
        have RNOT := Lib.hid rnot
        have RYES := Lib.hid ryes
        have RNO := Lib.hid rno
        have RT := Lib.hid rtrue
        have RF := Lib.hid rfalse
        have HSk := Lib.hid hs
        clear hs rc rdec rnot ryes rno rtrue rfalse
        go_upto_if 39 with fail
        go_cut [3] from 21 to 147 (fun l wx => l = .int .i64 (r.lim : Int) ∧ SW E r.d1 wx)
        case first =>
          cases wb with
          | true =>
            have HE := Lib.hid (RT.out rfl)
            clear RT RF
            go_wp2
            go_meet
            rw [HE.out.1, HE.out.2]
            exact ⟨rfl, HSk.out⟩
          | false =>
            have HE := Lib.hid (RF.out rfl)
            clear RT RF
            have C := breakW a L dk wr HSk.out (by omega) (by omega) hn
            rw [hbL] at C
            have C := Lib.hid C
            go_wp2_with fail
            with_reducible refine C.out.mono ?_
            rintro e w1 ⟨rfl, hs1⟩
            have HS := Lib.hid hs1
            clear hs1
            go_wp2
            go_meet
            rw [HE.out.1, HE.out.2]
            exact ⟨by go_num, HS.out⟩
        case rest =>
          obtain ⟨rfl, hs1⟩ := hcut
          clear HSk RT RF
          have C := pivotW HCH.out a L r.d1 wc hs1 (by omega) (by omega) hn
          rw [hbL, ← RC.out] at C
          have C := Lib.hid C
          clear hs1
          go_wp2_with fail
          with_reducible refine C.out.mono ?_
          rintro e w1 ⟨rfl, hs1⟩
          have HS1 := Lib.hid hs1
          clear hs1 C
          go_upto_if 56 with fail
          go_cut [13, 14] from 21 to 147 (fun pv hv wx => pv = .int .i64 (r.pivot : Int) ∧ hv = .int .i64 (hintZ r.hint) ∧ SW E r.d2 wx)
          case first =>
            by_cases hd : r.c.2 = .decreasing
            · have HE := Lib.hid (RDEC.out hd)
              have C := Lib.hid (revW a b r.d1 w1 HS1.out (by omega) hb hn)
              have z1 : hintZ r.c.2 = 2 := (hintZ_two _).2 hd
              go_wp2_with fail
              with_reducible refine C.out.mono ?_
              rintro e w2 ⟨rfl, hs1⟩
              have HS := Lib.hid hs1
              clear hs1
              go_wp2
              go_meet
              rw [HE.out.1, HE.out.2.1, HE.out.2.2]
              exact ⟨congrArg (Value.int .i64) (by omega), rfl, HS.out⟩
            · have HE := Lib.hid (RNOT.out hd)
              have z1 : ¬ hintZ r.c.2 = 2 := fun e => hd ((hintZ_two _).1 e)
              have z2 : (hintZ r.c.2 == 2) = false := by simpa using z1
              go_wp2
              go_meet
              rw [HE.out.1, HE.out.2.1, HE.out.2.2]
              exact ⟨rfl, rfl, HS1.out⟩
          case rest =>
            obtain ⟨rfl, rfl, hs2⟩ := hcut
            have hpv : a ≤ r.pivot ∧ r.pivot < b := by
              by_cases hd : r.c.2 = .decreasing
              · have := (RDEC.out hd).2.1; omega
              · have := (RNOT.out hd).2.1; omega
            have HS2 := Lib.hid hs2
            clear hs2 HS1 RDEC RNOT
            obtain ⟨cond, hcond⟩ : ∃ c, (wb && wp && decide (r.hint = .increasing)) = c := ⟨_, rfl⟩
            have HCO := Lib.hid hcond
            go_upto_region 15 with fail
            go_cut [75] from 21 to 147 (fun t wx => t = .bool cond ∧ SW E r.d2 wx)
            case first =>
              cases wb with
              | false =>
                clear hcond
                go_wp2
                go_meet
                rw [← HCO.out]
                exact ⟨rfl, HS2.out⟩
              | true =>
                cases wp with
                | false =>
                  clear hcond
                  go_wp2
                  go_meet
                  rw [← HCO.out]
                  exact ⟨rfl, HS2.out⟩
                | true =>
                  by_cases hi : r.hint = .increasing
                  · have z1 : hintZ r.hint = 1 := (hintZ_one _).2 hi
                    have Z3 := Lib.hid (show cond = true by rw [← hcond, decide_eq_true hi]; rfl)
                    clear hcond HCO
                    go_wp2
                    go_meet
                    rw [Z3.out]
                    exact ⟨rfl, HS2.out⟩
                  · have z1 : ¬ hintZ r.hint = 1 := fun e => hi ((hintZ_one _).1 e)
                    have z2 : (hintZ r.hint == 1) = false := by simpa using z1
                    have Z3 := Lib.hid (show cond = false by rw [← hcond, decide_eq_false hi]; rfl)
                    clear hcond HCO
                    go_wp2
                    go_meet
                    rw [Z3.out]
                    exact ⟨rfl, HS2.out⟩
            case rest =>
              obtain ⟨rfl, hs3⟩ := hcut
              have HS3 := Lib.hid hs3
              clear hs3 HS2 hcond
              go_upto_if 75 with fail
              go_cut [] from 21 to 147 (fun wx => SW E r.pi.1 wx ∧ r.pi.2 = false)
              case first =>
                cases cond with
                | false =>
                  have HP := Lib.hid (RNO.out HCO.out)
                  clear RYES RNO HCO
                  go_wp2
                  go_meet
                  rw [HP.out]
                  exact ⟨HS3.out, rfl⟩
                | true =>
                  have HP := Lib.hid (RYES.out HCO.out)
                  have C := partInsW HCH.out a b r.d2 wc HS3.out (by omega) hb hn
                  rw [← HP.out] at C
                  obtain ⟨pb, hpb⟩ : ∃ x, r.pi.2 = x := ⟨_, rfl⟩
                  rw [hpb] at C
                  have C := Lib.hid C
                  have HPB := Lib.hid hpb
                  clear RYES RNO HCO hpb
                  go_wp2_with fail
                  with_reducible refine C.out.mono ?_
                  rintro e w1 ⟨rfl, hs1⟩
                  have HS := Lib.hid hs1
                  clear hs1 C
                  cases pb with
                  | false =>
                    go_wp2
                    go_meet
                    exact ⟨HS.out, HPB.out⟩
                  | true =>
                    have HF := Lib.hid ((PD.out HPB.out).symm.trans HO.out)
                    go_wp2
                    refine bodyPost_ret (results_none rfl _ _ _) rfl ?_
                    rw [← HF.out]
                    exact ⟨rfl, HS.out⟩
              case rest =>
                obtain ⟨hs4, hpi⟩ := hcut
                have HPI := Lib.hid hpi
                obtain ⟨d3, hd3⟩ : ∃ x, r.pi.1 = x := ⟨_, rfl⟩
                rw [hd3] at hs4 PE PL PR
                have HS4 := Lib.hid hs4
                clear hpi hd3 hs4 RYES RNO HCO HS3 PD
                obtain ⟨pv, hpve⟩ : ∃ x, r.pivot = x := ⟨_, rfl⟩
                obtain ⟨lm, hlm⟩ : ∃ x, r.lim = x := ⟨_, rfl⟩
                rw [hpve] at hpv PE PL PR
                rw [hlm] at rlim PE PL PR
                rw [hpve, hlm]
                clear hpve hlm
                obtain ⟨cq, hcq⟩ : ∃ c, (decide (a > 0) && !E.lt d3[a - 1]! d3[pv]!) = c := ⟨_, rfl⟩
                have HCQ := Lib.hid hcq
                go_upto_region 17 with fail
                go_cut [97] from 21 to 147 (fun t wx => t = .bool cq ∧ SW E d3 wx)
                case first =>
                  by_cases ha0 : 0 < a
                  · obtain ⟨u, rfl⟩ : ∃ u, a = u + 1 := ⟨a - 1, by omega⟩
                    have n1 : (0 : Int) < (u : Int) + 1 := by omega
                    have n2 : (u : Int) < (E.n : Int) := by omega
                    have n3 : (pv : Int) < (E.n : Int) := by omega
                    have n6 : IntKind.i64.wrap (u : Int) = (u : Int) := by rw [IntKind.wrap_i64]; omega
                    have hs := HS4.out
                    obtain ⟨wy, hwy⟩ : ∃ wy, wy = wc := ⟨_, rfl⟩
                    rw [← hwy] at hs ⊢
                    have HS5 := Lib.hid hs
                    clear hwy
                    have NE : Nonempty (Pt (Below wy.heap.size wy)) := ⟨⟨wy, Below.refl _ _⟩⟩
                    have p0 := fun p : Pt (Below wy.heap.size wy) => (hs.step p.property).c0 (i := u) (by omega)
                    have p1 := fun p : Pt (Below wy.heap.size wy) => (hs.step p.property).c1 (i := u) (by omega)
                    have p2 := fun p : Pt (Below wy.heap.size wy) => (hs.step p.property).c0 (i := pv) (by omega)
                    have p3 := fun p : Pt (Below wy.heap.size wy) => (hs.step p.property).c1 (i := pv) (by omega)
                    have CC := Lib.hid (fun p : Pt (Below wy.heap.size wy) => HCH.out d3[u]! d3[pv]! p.val (hs.step p.property).turns)
                    rw [Nat.add_sub_cancel] at hcq
                    obtain ⟨x, hx⟩ : ∃ x, d3[u]! = x := ⟨_, rfl⟩
                    obtain ⟨y, hy⟩ : ∃ y, d3[pv]! = y := ⟨_, rfl⟩
                    rw [hx, hy] at CC hcq
                    rw [hx] at p0 p1
                    rw [hy] at p2 p3
                    clear hx hy hs
                    by_cases hl : E.cf x y < 0
                    · have Z3 := Lib.hid (show cq = false by rw [← hcq, E.lt_t hl]; simp)
                      clear hcq HCQ
                      go_wp2_with fail
                      refine wp_region_class (S := Below wy.heap.size wy) (Below.refl _ _).drew (by kernel_rfl) (by kernel_rfl) ?_
                      repeat (go_big_quiet_step (first | (go_at_call 57; refine (CC.out _).mono ?_; rintro e w' ⟨rfl, hbel⟩; exact ⟨rfl, ⟨w', below_stepA (Pt.property _) hbel⟩, rfl⟩)))
                      refine wpQuiet_nil ?_
                      rintro W2 ⟨⟨_, hW⟩, rfl⟩
                      have HS6 := Lib.hid (HS5.out.step hW)
                      clear p0 p1 p2 p3 CC hW NE
                      go_wp2
                      go_meet
                      rw [Z3.out]
                      exact ⟨rfl, HS6.out⟩
                    · have Z3 := Lib.hid (show cq = true by rw [← hcq, E.lt_f hl]; simp)
                      have hdd : decide (E.cf x y < 0) = false := decide_eq_false hl
                      clear hcq HCQ
                      go_wp2_with fail
                      refine wp_region_class (S := Below wy.heap.size wy) (Below.refl _ _).drew (by kernel_rfl) (by kernel_rfl) ?_
                      repeat (go_big_quiet_step (first | (go_at_call 57; refine (CC.out _).mono ?_; rintro e w' ⟨rfl, hbel⟩; exact ⟨rfl, ⟨w', below_stepA (Pt.property _) hbel⟩, rfl⟩)))
                      refine wpQuiet_nil ?_
                      rintro W2 ⟨⟨_, hW⟩, rfl⟩
                      have HS6 := Lib.hid (HS5.out.step hW)
                      clear p0 p1 p2 p3 CC hW NE
                      go_wp2
                      go_meet
                      rw [Z3.out]
                      exact ⟨rfl, HS6.out⟩
                  · obtain rfl : a = 0 := by omega
                    have Z3 := Lib.hid (show cq = false by rw [← hcq]; simp)
                    have HS1 := Lib.hid (fun q => HS4.out.step (((Turns.refl [] wc).drewN q).below (Nat.le_refl _) (fun x hx => by simp at hx)))
                    clear hcq HCQ
                    go_wp2_with fail
                    go_quiet (fail)
                    go_wp2
                    go_meet
                    rw [Z3.out]
                    exact ⟨rfl, HS1.out _⟩
                case rest =>
                  obtain ⟨rfl, hs5⟩ := hcut
                  have HS5 := Lib.hid hs5
                  clear hs5 HS4 hcq
                  cases cq with
                  | true =>
                    obtain ⟨P, hP⟩ : ∃ x, partitionEqual E.lt d3 a b pv = x := ⟨_, rfl⟩
                    have C := partEqW HCH.out a b pv d3 wc HS5.out hpv.1 hpv.2 hb hn
                    have PE2 := PE.out HPI.out HCQ.out
                    rw [hP] at C PE2
                    have C := Lib.hid C
                    have PE2 := Lib.hid PE2
                    clear hP PE PL PR
                    go_wp2_with fail
                    with_reducible refine C.out.mono ?_
                    rintro e w1 ⟨rfl, hs1, hr1, hr2⟩
                    have HS := Lib.hid hs1
                    have HN := Lib.hid ((PE2.out ⟨hr1, hr2⟩).symm.trans HO.out)
                    clear hs1 C PE2
                    go_wp2
                    exact ⟨⟨P.1, b, lm, wb, wp, P.2, rfl, rfl, rfl, rfl, rfl, by omega, hb, by omega, by omega, HS.out, HN⟩, by simp [intOf]; omega⟩
                  | false =>
                    obtain ⟨P, hP⟩ : ∃ x, partition E.lt d3 a b pv = x := ⟨_, rfl⟩
                    have C := partW HCH.out a b pv d3 wc HS5.out hpv.1 hpv.2 hb hn
                    have PL2 := PL.out HPI.out HCQ.out
                    have PR2 := PR.out HPI.out HCQ.out
                    rw [hP] at C PL2 PR2
                    have C := Lib.hid C
                    have PL2 := Lib.hid PL2
                    have PR2 := Lib.hid PR2
                    clear hP PE PL PR
                    go_wp2_with fail
                    with_reducible refine C.out.mono ?_
                    rintro e w1 ⟨rfl, hs1, hr1, hr2⟩
                    have HS := Lib.hid hs1
                    clear hs1 C
                    obtain ⟨mid, already, d4⟩ := P
                    simp only at hr1 hr2 PL2 PR2 HS ⊢
                    by_cases hlr : mid - a < b - mid
                    · have HN := Lib.hid ((PL2.out ⟨hr1, hr2⟩ hlr).symm.trans HO.out)
                      have g1 : (mid : Int) - (a : Int) < (b : Int) - (mid : Int) := by omega
                      have C0 := IH.out (mid - a) (by omega) a mid lm d4 w1 (Nat.le_refl _) hr1 (by omega) (by omega) HS.out
                      unfold PdqC at C0
                      have C := Lib.hid C0
                      clear PL2 PR2 HS C0
                      go_wp2_with fail
                      with_reducible refine C.out.mono ?_
                      rintro e w2 ⟨rfl, hs1⟩
                      have HS := Lib.hid hs1
                      clear hs1 C
                      go_wp2
                      exact ⟨⟨mid + 1, b, lm, _, already, _, by go_num, rfl, rfl, congrArg Value.bool (decide_eq_decide.2 (by omega)), rfl, by omega, hb, by omega, by omega, HS.out, HN⟩, by simp [intOf]; omega⟩
                    · have HN := Lib.hid ((PR2.out ⟨hr1, hr2⟩ hlr).symm.trans HO.out)
                      have g1 : ¬ (mid : Int) - (a : Int) < (b : Int) - (mid : Int) := by omega
                      have C0 := IH.out (b - (mid + 1)) (by omega) (mid + 1) b lm d4 w1 (Nat.le_refl _) (by omega) hb (by omega) HS.out
                      unfold PdqC at C0
                      rw [show ((mid + 1 : Nat) : Int) = (mid : Int) + 1 by omega] at C0
                      have C := Lib.hid C0
                      clear PL2 PR2 HS C0
                      go_wp2_with fail
                      with_reducible refine C.out.mono ?_
                      rintro e w2 ⟨rfl, hs1⟩
                      have HS := Lib.hid hs1
                      clear hs1 C
                      go_wp2
                      exact ⟨⟨a, mid, lm, _, already, _, rfl, rfl, rfl, congrArg Value.bool (decide_eq_decide.2 (by omega)), rfl, by omega, by omega, by omega, by omega, HS.out, HN⟩, by simp [intOf]; omega⟩
end
end Go.Proofs.YtjgigcnjgblekaaDoor
