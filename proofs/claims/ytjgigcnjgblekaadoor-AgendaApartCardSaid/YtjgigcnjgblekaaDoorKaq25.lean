/- The reference's at, without. The walks. Each: the eligible acts one by one, to a yield that may stop. The walk. taken: what Each gives. A nil agenda answers zero values. The walks. -/
import Derived.Test.YtjgigcnjgblekaaDoorKaq24
namespace Go.Proofs.YtjgigcnjgblekaaDoor
open Go Go.RowKit Go.Maps Classical

/-- How an act is told. -/
def cdAc : Cdc Ac where
  E := EAc
  sz := 2
  len := fun F w cs x ⟨sv, h, _⟩ => by rw [h]; rfl
  kp := fun F F' w w' cs x h hk hF => h.kp hk hF
  one := fun F w cs x ⟨sv, h, _, h3⟩ u hu => by
    obtain ⟨A, c, rfl⟩ := h3.form
    rw [h] at hu
    simp only [List.mem_cons, List.not_mem_nil, or_false] at hu
    rcases hu with rfl | rfl <;> rfl
/-- An act's first place in a list, or -1. -/
noncomputable def atF (l : List Ac) (x : Ac) : Int := if h : ∃ k : Nat, l[k]? = some x ∧ ∀ j, j < k → l[j]? ≠ some x then (h.choose : Int) else -1
theorem atF_eq {l : List Ac} {x : Ac} {k : Nat} (h1 : l[k]? = some x) (h2 : ∀ j, j < k → l[j]? ≠ some x) : atF l x = (k : Int) := by
  have h : ∃ k : Nat, l[k]? = some x ∧ ∀ j, j < k → l[j]? ≠ some x := ⟨k, h1, h2⟩
  unfold atF
  rw [dif_pos h]
  obtain ⟨g1, g2⟩ := h.choose_spec
  rcases Nat.lt_trichotomy h.choose k with e | e | e
  · exact absurd g1 (h2 _ e)
  · rw [e]
  · exact absurd h1 (g2 _ e)
theorem atF_none {l : List Ac} {x : Ac} (h : x ∉ l) : atF l x = -1 := by
  unfold atF
  rw [dif_neg]
  rintro ⟨k, h1, _⟩
  exact h (List.mem_of_getElem? h1)
theorem first_at : ∀ {l : List Ac} {x : Ac}, x ∈ l → ∃ k : Nat, l[k]? = some x ∧ ∀ j, j < k → l[j]? ≠ some x
  | [], x, h => by cases h
  | y :: r, x, h => by
    by_cases e : y = x
    · exact ⟨0, by rw [e]; rfl, fun j hj => by omega⟩
    · rcases List.mem_cons.1 h with h | h
      · exact absurd h.symm e
      · obtain ⟨k, h1, h2⟩ := first_at h
        refine ⟨k + 1, by simpa using h1, fun j hj => ?_⟩
        match j with
        | 0 => simpa using e
        | j + 1 => simpa using h2 j (by omega)
theorem atF_mem {l : List Ac} {x : Ac} (h : x ∈ l) : ∃ k : Nat, k < l.length ∧ l[k]? = some x ∧ atF l x = (k : Int) := by
  obtain ⟨k, h1, h2⟩ := first_at h
  exact ⟨k, (List.getElem?_eq_some_iff.1 h1).1, h1, atF_eq h1 h2⟩
/-- Taken out at its place: as all of it is taken out, where it is there once. -/
theorem erase_drop : ∀ {l : List Ac} {x : Ac} {k : Nat}, l.Nodup → l[k]? = some x → l.eraseIdx k = dropA l x
  | [], x, k, _, h => by simp at h
  | y :: r, x, 0, hn, h => by
    simp only [List.getElem?_cons_zero, Option.some.injEq] at h
    subst h
    rw [List.nodup_cons] at hn
    unfold dropA
    rw [List.eraseIdx_cons_zero, List.filter_cons, if_neg (by simp)]
    symm
    exact List.filter_eq_self.2 fun z hz => decide_eq_true fun e => hn.1 (e ▸ hz)
  | y :: r, x, k + 1, hn, h => by
    rw [List.nodup_cons] at hn
    have h' : r[k]? = some x := by simpa using h
    have hne : y ≠ x := fun e => hn.1 (e ▸ List.mem_of_getElem? h')
    unfold dropA
    rw [List.eraseIdx_cons_succ, List.filter_cons, if_pos (by simpa using hne), erase_drop hn.2 h']
    rfl
theorem wo_step {l : List Ac} {i k : Nat} {x : Ac} (hx : l[i]? = some x) : (l.take (i + 1)).eraseIdx k = if i = k then (l.take i).eraseIdx k else (l.take i).eraseIdx k ++ [x] := by
  have hi := (List.getElem?_eq_some_iff.1 hx).1
  have e : l.take (i + 1) = l.take i ++ [x] := by rw [List.take_add_one, hx]; rfl
  rw [e]
  obtain ⟨m, hm⟩ : ∃ m, l.take i = m := ⟨_, rfl⟩
  have hl : m.length = i := by rw [← hm, List.length_take, Nat.min_eq_left (by omega)]
  rw [hm]
  by_cases h : i = k
  · subst h
    rw [if_pos rfl, List.eraseIdx_append_of_length_le (by omega), hl, Nat.sub_self, List.eraseIdx_cons_zero, List.append_nil, List.eraseIdx_of_length_le (l := m) (by omega)]
  · rw [if_neg h]
    rcases Nat.lt_or_ge k i with h1 | h1
    · rw [List.eraseIdx_append_of_lt_length (by omega)]
    · rw [List.eraseIdx_append_of_length_le (by omega), List.eraseIdx_of_length_le (l := [x]) (by simp only [List.length_singleton]; omega), List.eraseIdx_of_length_le (by omega)]
theorem wo_len {l : List Ac} {i k : Nat} : ((l.take i).eraseIdx k).length ≤ l.length := by
  have h1 : ((l.take i).eraseIdx k).length ≤ (l.take i).length := by rw [List.length_eraseIdx]; split <;> omega
  have h2 := List.length_take_le i l
  rw [List.length_take] at h1
  omega
set_option maxRecDepth 100000 in
set_option maxHeartbeats 4000000 in
theorem atW {F F' : Nat → Prop} (v : Value) (l : List Ac) (x : Ac) (sv : Value) (w : World) (h1 : RSl F w 2 (EAc F w) v l) (h2 : RSl F' w 1 EInt sv x.sub) :
    Calls Tryd.prog 60 #[v, .agg #[.int .i64 x.rule, sv]] w fun e w' => e = .returned (.int .i64 (atF l x)) ∧ Below w.heap.size w w' := by
  obtain ⟨A1, c1, rfl⟩ := h1.form
  obtain ⟨A2, c2, rfl⟩ := h2.form
  have hm := h1.len
  unfold maxLen at hm
  obtain ⟨w0, hw0⟩ : ∃ w0, w0 = w.alloc (.cells #[.int .i64 x.rule, .slice A2 x.sub.length c2] 30) := ⟨_, rfl⟩
  have hx0 : Below (w.heap.size + 1) (w.alloc (.cells #[.int .i64 x.rule, .slice A2 x.sub.length c2] 30)) w0 := by rw [hw0]; exact Below.refl _ _
  have hb0 := box_belowD hx0
  have hs0 : w0.heap.size = w.heap.size + 1 := by rw [hw0]; simp
  have BX := Lib.hid (fun (W : World) (hW : Below w0.heap.size w0 W) => (show W.cell? ⟨w.heap.size, 0, none⟩ = some (.int .i64 x.rule) ∧ W.cell? ⟨w.heap.size, 1, none⟩ = some (.slice A2 x.sub.length c2) from
    ⟨(hW.cell (p := ⟨w.heap.size, 0, none⟩) (by show w.heap.size < w0.heap.size; omega)).trans (box_cellD hx0 0 rfl), (hW.cell (p := ⟨w.heap.size, 1, none⟩) (by show w.heap.size < w0.heap.size; omega)).trans (box_cellD hx0 1 rfl)⟩))
  have H1 := Lib.hid (EAc.all h1 (Kp.of_below hb0) (fun _ _ h => h))
  have H2 := Lib.hid (h2.keep (Kp.of_below hb0))
  have HB := Lib.hid hb0
  have HS := Lib.hid hs0
  have E0 := Lib.hid (Below.refl w0.heap.size w0)
  clear h1 h2 hx0 hb0 hs0
  go_enter Tryd.func60, Tryd.ntmps60
  go_upto_region 1 with fail
  rw [← hw0]
  clear hw0
  go_wp2
  go_loopw [5] (fun i wr => ∃ k : Nat, i = .int .i64 (k : Int) ∧ k ≤ l.length ∧ (∀ j, j < k → l[j]? ≠ some x) ∧ Below w0.heap.size w0 wr) (fun i _ => l.length - (intOf i).toNat)
  case atStart => exact ⟨0, rfl, Nat.zero_le _, fun j hj => by omega, E0.out⟩
  case round =>
    obtain ⟨k, rfl, hk, hno, hb⟩ := hrel
    have HNO := Lib.hid hno
    have HBW := Lib.hid hb
    clear hno
    by_cases hkn : k < l.length
    · obtain ⟨y, hy⟩ : ∃ y, l[k]? = some y := ⟨_, List.getElem?_eq_getElem hkn⟩
      obtain ⟨b, off, rfl, _, hbs, cs, ⟨sv', rfl, hok, hsv⟩, hc⟩ := (EAc.all H1.out (Kp.of_below hb) (fun _ _ h => h)).at hy
      obtain ⟨A3, c3, rfl⟩ := hsv.form
      have d0 := hc 0 _ rfl
      have d1 := hc 1 _ rfl
      simp only [Nat.add_zero] at d0
      have NE : Nonempty (Pt (Below wr.heap.size wr)) := ⟨⟨wr, Below.refl _ _⟩⟩
      have p0 := fun p : Pt (Below wr.heap.size wr) => (p.property.cell (p := ⟨b, off + k * 2, none⟩) hbs).trans d0
      have p1 := fun p : Pt (Below wr.heap.size wr) => (p.property.cell (p := ⟨b, off + k * 2 + 1, none⟩) hbs).trans d1
      have p2 := fun p : Pt (Below wr.heap.size wr) => (BX.out p.val (hb.trans (p.property.mono hb.size))).1
      have p3 := fun p : Pt (Below wr.heap.size wr) => (BX.out p.val (hb.trans (p.property.mono hb.size))).2
      have CC := Lib.hid (fun p : Pt (Below wr.heap.size wr) => sameGW y x (.slice A3 y.sub.length c3) (.slice A2 x.sub.length c2) p.val (hsv.keep (Kp.of_below p.property)) ((H2.out.keep (Kp.of_below hb)).keep (Kp.of_below p.property)))
      have i1 : (0 : Int) ≤ (k : Int) := by omega
      have i2 : (k : Int) < (l.length : Int) := by omega
      have HY := Lib.hid hy
      clear hb hy hok hsv hc d0 d1
      go_wp2_with fail
      refine wp_region_class (S := Below wr.heap.size wr) (Below.refl _ _).drew (by kernel_rfl) (by kernel_rfl) ?_
      repeat (go_big_quiet_step (first | (go_at_call 35; refine (CC.out _).mono ?_; rintro e w' ⟨rfl, hbel⟩; exact ⟨rfl, ⟨w', below_stepA (Pt.property _) hbel⟩, rfl⟩)))
      refine wpQuiet_nil ?_
      rintro W2 ⟨⟨W2, hW⟩, rfl⟩
      have HW := Lib.hid (HBW.out.trans (Below.mono hW HBW.out.size))
      clear p0 p1 p2 p3 CC hW
      by_cases hyx : y = x
      · have hd : decide (y = x) = true := decide_eq_true hyx
        have HR := Lib.hid (atF_eq (hyx ▸ HY.out) HNO.out)
        rw [hd]
        clear hd hyx
        go_wp2
        go_ret
        exact ⟨ret_i64A HR.out.symm, HB.out.trans (HW.out.mono HB.out.size)⟩
      · have hd : decide (y = x) = false := decide_eq_false hyx
        have NX := Lib.hid (fun j (hj : j < k + 1) => (show l[j]? ≠ some x by
          rcases Nat.lt_or_ge j k with h | h
          · exact HNO.out j h
          · obtain rfl : j = k := by omega
            rw [HY.out]
            exact fun e => hyx (Option.some.inj e)))
        rw [hd]
        clear hd hyx
        go_wp2
        exact ⟨⟨k + 1, by go_num, by omega, NX.out, HW.out⟩, by simp [intOf]; omega⟩
    · obtain rfl : k = l.length := by omega
      have HR := Lib.hid (show atF l x = -1 from atF_none fun hm => by
        obtain ⟨j, hj⟩ := List.getElem?_of_mem hm
        exact HNO.out j (List.getElem?_eq_some_iff.1 hj).1 hj)
      clear hb
      go_wp2
      go_ret
      exact ⟨ret_i64A HR.out.symm, HB.out.trans (HBW.out.mono HB.out.size)⟩
/-- What `without` leaves. -/
def WoRes (F : Nat → Prop) (l : List Ac) (w : World) (e : Ending) (w' : World) : Prop := ∃ v, e = .returned v ∧ OwnF (fun b => F b ∧ b < w.heap.size) w.heap.size w' 30 cdAc v l ∧ Below w.heap.size w w'
theorem rsl_lt {F : Nat → Prop} {w : World} {sz : Nat} {E : List Value → Int → Prop} {v : Value} {xs : List Int} (h : RSl F w sz E v xs) : RSl (fun b => F b ∧ b < w.heap.size) w sz E v xs :=
  h.kp (Kp.refl _ _) (fun _ hb hf => ⟨hf, hb⟩) (fun _ _ h => h)
set_option maxRecDepth 100000 in
set_option maxHeartbeats 4000000 in
theorem withoutW {F F1 : Nat → Prop} (v : Value) (l : List Ac) (k : Nat) (w : World) (h1 : RSl F1 w 2 (EAc F w) v l) (hl : l.length ≤ 40000000) :
    Calls Tryd.prog 74 #[v, .int .i64 (k : Int)] w (WoRes F (l.eraseIdx k) w) := by
  obtain ⟨A1, c1, rfl⟩ := h1.form
  have H1 := Lib.hid (h1.kp (F' := fun _ => True) (E' := EAc (fun b => F b ∧ b < w.heap.size) w) (Kp.refl _ _) (fun _ _ _ => trivial) (fun _ _ hc => hc.kp (Kp.refl _ _) (fun _ hb hf => ⟨hf, hb⟩)))
  have E0 := Lib.hid (Below.refl w.heap.size w)
  have HL := Lib.hid hl
  clear h1
  go_enter Tryd.func74, Tryd.ntmps74
  go_wp2
  go_loopw [5, 6] (fun ov i wr => ∃ (j : Nat) (vo : Value), i = .int .i64 (j : Int) ∧ ov = vo ∧ j ≤ l.length ∧ OwnF (fun b => F b ∧ b < w.heap.size) w.heap.size wr 30 cdAc vo ((l.take j).eraseIdx k) ∧ Below w.heap.size w wr) (fun _ i _ => l.length - (intOf i).toNat)
  case atStart => exact ⟨0, _, rfl, rfl, Nat.zero_le _, by rw [List.take_zero]; exact OwnF.nil, E0.out⟩
  case round =>
    obtain ⟨j, vo, rfl, rfl, hj, ho, hb⟩ := hrel
    have HBW := Lib.hid hb
    have HO := Lib.hid ho
    obtain ⟨A5, c5, hvo⟩ := ho.form
    subst hvo
    clear ho
    by_cases hjn : j < l.length
    · obtain ⟨y, hy⟩ : ∃ y, l[j]? = some y := ⟨_, List.getElem?_eq_getElem hjn⟩
      obtain ⟨b, off, rfl, _, hbs, cs, ⟨sv', rfl, hok, hsv⟩, hc⟩ := (H1.out.kp (F' := fun _ => True) (E' := EAc (fun b => F b ∧ b < w.heap.size) wr) (Kp.of_below hb) (fun _ _ _ => trivial) (fun _ _ hc => hc.kp (Kp.of_below hb) (fun _ _ h => h))).at hy
      obtain ⟨A3, c3, rfl⟩ := hsv.form
      have d0 := hc 0 _ rfl
      have d1 := hc 1 _ rfl
      simp only [Nat.add_zero] at d0
      have i1 : (0 : Int) ≤ (j : Int) := by omega
      have i2 : (j : Int) < (l.length : Int) := by omega
      have HST := Lib.hid (wo_step (k := k) hy)
      have HEL := Lib.hid (show cdAc.E (fun b => F b ∧ b < w.heap.size) wr [.int .i64 y.rule, .slice A3 y.sub.length c3] y from ⟨_, rfl, hok, hsv⟩)
      clear hb hy hok hsv hc
      by_cases hjk : j = k
      · have f1 : ((j : Int) == (k : Int)) = true := beq_iff_eq.2 (by omega)
        have f2 : ((j : Int) != (k : Int)) = false := by rw [bne, f1]; rfl
        rw [if_pos hjk] at HST
        clear hjk
        go_wp2
        exact ⟨⟨j + 1, _, by go_num, rfl, by omega, by rw [HST.out]; exact HO.out, HBW.out⟩, by simp [intOf]; omega⟩
      · have f1 : ((j : Int) == (k : Int)) = false := beq_false_of_ne (by omega)
        have f2 : ((j : Int) != (k : Int)) = true := bne_iff_ne.2 (by omega)
        rw [if_neg hjk] at HST
        have HLL := Lib.hid (show ((l.take j).eraseIdx k).length ≤ 40000000 from Nat.le_trans wo_len HL.out)
        clear hjk
        go_wp2_with (at_builtin; refine wpList_append_F HO.out (fun b hb hf => by have := (HO.out.block hb).1; omega) rfl (.tmp 16) (.tmp 21) 23 rfl Tryd.underlying23 infoAct rfl (by decide) rfl #[.int .i64 y.rule, .slice A3 y.sub.length c3] _ rfl rfl HEL.out HLL.out (by decide) HBW.out.size ?_; intro g cap w3 ho3 ht3 _ _; have HO3 := Lib.hid (ho3 _ (fun _ _ h => h)); have HB3 := Lib.hid (HBW.out.trans (ht3.below HBW.out.size (fun b hb => (HO.out.block (by simpa using hb)).1))); clear ho3 ht3)
        exact ⟨⟨j + 1, _, by go_num, rfl, by omega, by rw [HST.out]; exact HO3.out, HB3.out⟩, by simp [intOf]; omega⟩
    · obtain rfl : j = l.length := by omega
      clear hb
      go_wp2
      go_ret
      refine ⟨_, rfl, ?_, HBW.out⟩
      have := HO.out
      rw [List.take_length] at this ⊢
      exact this
end Go.Proofs.YtjgigcnjgblekaaDoor

namespace Go.Proofs.YtjgigcnjgblekaaDoor
open Go Go.RowKit Go.Maps Classical

theorem eqlNilF {P : Program} (W : World) (t : TypeId) {ps rs : Array TypeId} {vd : Bool} (f : Fn) (xs cb : Array Value) (h : P.underlying t = some (.func ps rs vd)) : (binOp .eql t (.func f xs cb) .nilFunc).run P W = .ok (.bool false) W := by
  have h1 : ∀ d, (Op.equalIn (d + 1) t (.func f xs cb) .nilFunc).run P W = .ok false W := fun d => by simp [Op.equalIn, run_underlying h]
  have h2 : (Op.equal t (.func f xs cb) .nilFunc).run P W = .ok false W := h1 9999
  simp only [binOp]
  simp [h2]
/-- Where a yield stops: the first that answers no, or none. -/
def StopAt (go : Nat → Bool) (n k : Nat) : Prop := k ≤ n ∧ (∀ j, j + 1 < k → go j = true) ∧ (k = n ∨ (0 < k ∧ go (k - 1) = false))
set_option maxRecDepth 100000 in
set_option maxHeartbeats 4000000 in
theorem eachW {M : List Nat} {p mc mf N g : Nat} {cb : Array Value} {G : Agd} (St : Nat → Nat → World → Prop) (go : Nat → Bool) (w : World) (h : AgAt M w p mc mf G N) (hlen : G.C.length ≤ 40000000)
    (eg : ∀ args w, (callFunc g args).run Tryd.prog w = .ok (.enter g args) w)
    (h0 : ∀ w1, Below w.heap.size w w1 → St w1.heap.size 0 w1) (hB : ∀ K i W W', St K i W → Below W.heap.size W W' → St K i W')
    (hs : ∀ w1, Below w.heap.size w w1 → ∀ i x sv W, (eligA G)[i]? = some x → Kp (fun b => w.heap.size ≤ b ∧ b < w1.heap.size) w1 W → St w1.heap.size i W → RSl (fun b => w.heap.size ≤ b ∧ b < w1.heap.size) W 1 EInt sv x.sub → i64ok x.rule →
      Calls Tryd.prog g (#[.agg #[.int .i64 x.rule, sv]] ++ cb) W fun e W' => e = .returned (.bool (go i)) ∧ St w1.heap.size (i + 1) W' ∧ Kp (fun b => w.heap.size ≤ b ∧ b < w1.heap.size) W W') :
    Calls Tryd.prog 48 #[.pointer (some ⟨p, 0, none⟩), .func (.func g) #[] cb] w fun e w' => e = .returned (.tuple #[]) ∧ ∃ K k, StopAt go (eligA G).length k ∧ St K k w' := by
  have EW := Lib.hid (eligibleW w h hlen)
  have hnil := fun W => eqlNilF (P := Tryd.prog) W 92 (.func g) #[] cb Tryd.underlying92
  have H0 := Lib.hid h0
  have HBB := Lib.hid hB
  have HS := Lib.hid hs
  clear h hlen h0 hB hs
  go_enter Tryd.func48, Tryd.ntmps48
  go_wp2_with fail
  refine EW.out.mono ?_
  intro e w1 hr
  obtain ⟨A, c, rfl, hb1, hl⟩ := hr.rsl
  obtain ⟨l, hle⟩ : ∃ l, eligA G = l := ⟨_, rfl⟩
  rw [hle] at hl HS ⊢
  have HLE := Lib.hid hle
  have hm := hl.len
  unfold maxLen at hm
  have HL := Lib.hid (EAc.all hl (Kp.refl _ _) (F' := fun b => w.heap.size ≤ b ∧ b < w1.heap.size) (fun b hb hf => ⟨hf, hb⟩))
  have HB1 := Lib.hid hb1
  clear hr hb1 hl hle EW
  go_upto_region 2 with fail
  go_loopw [15] (fun i wr => ∃ k : Nat, i = .int .i64 (k : Int) ∧ k ≤ l.length ∧ (∀ j, j < k → go j = true) ∧ St w1.heap.size k wr ∧ Kp (fun b => w.heap.size ≤ b ∧ b < w1.heap.size) w1 wr) (fun i _ => l.length - (intOf i).toNat)
  case atStart => exact ⟨0, rfl, Nat.zero_le _, fun j hj => by omega, H0.out _ HB1.out, Kp.refl _ _⟩
  case round =>
    obtain ⟨k, rfl, hk, hgo, hst, hkp⟩ := hrel
    have HGO := Lib.hid hgo
    have HST := Lib.hid hst
    have HKP := Lib.hid hkp
    clear hgo hst hkp
    by_cases hkn : k < l.length
    · obtain ⟨x, hx⟩ : ∃ x, l[k]? = some x := ⟨_, List.getElem?_eq_getElem hkn⟩
      obtain ⟨b, off, rfl, hbF, hbs, cs, ⟨sv, rfl, hok, hsv⟩, hc⟩ := (EAc.all HL.out HKP.out (fun _ _ h => h)).at hx
      obtain ⟨A3, c3, rfl⟩ := hsv.form
      have d0 := hc 0 _ rfl
      have d1 := hc 1 _ rfl
      simp only [Nat.add_zero] at d0
      obtain ⟨w2, hw2⟩ : ∃ w2, w2 = wr.alloc (.cells #[.int .i64 x.rule, .slice A3 x.sub.length c3] 30) := ⟨_, rfl⟩
      have hb2 : Below wr.heap.size wr w2 := by rw [hw2]; exact (Below.refl _ _).alloc (Nat.le_refl _) _
      have y0 : w2.cell? ⟨wr.heap.size, 0, none⟩ = some (.int .i64 x.rule) := by rw [hw2]; exact cell_of_row _ _ 0 _ _ _ (heap_alloc_new wr _)
      have y1 : w2.cell? ⟨wr.heap.size, 1, none⟩ = some (.slice A3 x.sub.length c3) := by rw [hw2]; exact cell_of_row _ _ 1 _ _ _ (heap_alloc_new wr _)
      have K2 := Lib.hid (HKP.out.trans (Kp.of_below hb2))
      have SC := Lib.hid (HS.out w1 HB1.out k x (.slice A3 x.sub.length c3) w2 hx K2.out (HBB.out _ _ _ _ HST.out hb2) (hsv.keep (Kp.of_below hb2)) hok)
      have e1 : (0 : Int) ≤ (k : Int) := by omega
      have e2 : (k : Int) < (l.length : Int) := by omega
      clear hx hok hsv hc hb2
      go_upto_region 4 with fail
      rw [← hw2]
      clear hw2 d0 d1
      go_wp2_with fail
      refine SC.out.mono ?_
      rintro e w3 ⟨rfl, hst3, hk3⟩
      have HST3 := Lib.hid hst3
      have HK3 := Lib.hid (K2.out.trans hk3)
      clear hst3 hk3 SC y0 y1
      cases hgk : go k with
      | true =>
        have NX := Lib.hid (fun j (hj : j < k + 1) => (show go j = true by
          rcases Nat.lt_or_ge j k with h | h
          · exact HGO.out j h
          · obtain rfl : j = k := by omega
            exact hgk))
        clear hgk
        go_wp2
        exact ⟨⟨k + 1, by go_num, by omega, NX.out, HST3.out, HK3.out⟩, by simp [intOf]; omega⟩
      | false =>
        have HGK := Lib.hid hgk
        clear hgk
        go_wp2
        refine bodyPost_ret (results_none rfl _ _ _) rfl ?_
        exact ⟨rfl, _, k + 1, ⟨by rw [HLE.out]; omega, fun j hj => HGO.out j (by omega), .inr ⟨by omega, by simpa using HGK.out⟩⟩, HST3.out⟩
    · obtain rfl : k = l.length := by omega
      go_wp2
      go_end0
      exact ⟨rfl, _, l.length, ⟨by rw [HLE.out]; exact Nat.le_refl _, fun j hj => HGO.out j (by omega), .inl (by rw [HLE.out])⟩, HST.out⟩
/-- What is taken: n acts, or all. -/
def tkn (l : List Ac) (n : Int) : List Ac := if 0 < n ∧ n < (l.length : Int) then l.take n.toNat else l
def goT (n : Int) (i : Nat) : Bool := decide (¬ ((i : Int) + 1 = n))
theorem tkn_stop {l : List Ac} {n : Int} {k : Nat} (h : StopAt (goT n) l.length k) : l.take k = tkn l n := by
  obtain ⟨h1, h2, h3⟩ := h
  unfold tkn
  rcases h3 with h3 | ⟨h3, h4⟩
  · subst h3
    rw [List.take_length]
    by_cases hn : 0 < n ∧ n < (l.length : Int)
    · exfalso
      have := h2 (n - 1).toNat (by omega)
      unfold goT at this
      have h5 := of_decide_eq_true this
      exact h5 (by omega)
    · rw [if_neg hn]
  · unfold goT at h4
    have h5 := of_decide_eq_false h4
    have h6 : (k : Int) = n := by omega
    by_cases hn : n < (l.length : Int)
    · rw [if_pos ⟨by omega, hn⟩]
      congr 1
      omega
    · rw [if_neg (fun h => hn h.2)]
      exact List.take_of_length_le (by omega)
/-- The closure's state: its list, the bound. -/
def TkSt (l : List Ac) (n : Int) (w w0 : World) (K i : Nat) (W : World) : Prop :=
  ∃ vo, W.heap[w.heap.size + 1]? = some (.cells #[vo] 23 (0, 0)) ∧ W.heap[w.heap.size]? = some (.cells #[.int .i64 n] 3 (0, 0)) ∧ OwnF (fun b => w0.heap.size ≤ b ∧ b < K) K W 30 cdAc vo (l.take i) ∧ w0.heap.size ≤ K ∧ K ≤ W.heap.size ∧ Below w.heap.size w W
set_option maxRecDepth 100000 in
set_option maxHeartbeats 4000000 in
theorem takenFW {l : List Ac} {n : Int} {w w0 W : World} {K i : Nat} (x : Ac) (sv : Value) (hw0 : w0.heap.size = w.heap.size + 2) (hl : l.length ≤ 40000000) (hx : l[i]? = some x) (hst : TkSt l n w w0 K i W) (hsv : RSl (fun b => w0.heap.size ≤ b ∧ b < K) W 1 EInt sv x.sub) (hok : i64ok x.rule) :
    Calls Tryd.prog 49 #[.agg #[.int .i64 x.rule, sv], .pointer (some ⟨w.heap.size + 1, 0, none⟩), .pointer (some ⟨w.heap.size, 0, none⟩)] W fun e W' => e = .returned (.bool (goT n i)) ∧ TkSt l n w w0 K (i + 1) W' ∧ Kp (fun b => w0.heap.size ≤ b ∧ b < K) W W' := by
  obtain ⟨vo, q1, q2, q3, q4, q5, q6⟩ := hst
  obtain ⟨A3, c3, rfl⟩ := hsv.form
  have hi := (List.getElem?_eq_some_iff.1 hx).1
  have hti : (l.take i).length = i := by rw [List.length_take, Nat.min_eq_left (by omega)]
  obtain ⟨A4, c4, hvo⟩ := q3.form
  rw [hti] at hvo
  subst hvo
  obtain ⟨W0, hW0⟩ : ∃ W0, W0 = W.alloc (.cells #[.int .i64 x.rule, .slice A3 x.sub.length c3] 30) := ⟨_, rfl⟩
  have hb0 : Below W.heap.size W W0 := by rw [hW0]; exact (Below.refl _ _).alloc (Nat.le_refl _) _
  have hs1 := lt_of_heap q1
  have hs2 := lt_of_heap q2
  have r1 := (hb0.block _ hs1).trans q1
  have r2 := (hb0.block _ hs2).trans q2
  have y0 : W0.cell? ⟨W.heap.size, 0, none⟩ = some (.int .i64 x.rule) := by rw [hW0]; exact cell_of_row _ _ 0 _ _ _ (heap_alloc_new W _)
  have y1 : W0.cell? ⟨W.heap.size, 1, none⟩ = some (.slice A3 x.sub.length c3) := by rw [hW0]; exact cell_of_row _ _ 1 _ _ _ (heap_alloc_new W _)
  have b1 : W0.cell? ⟨w.heap.size + 1, 0, none⟩ = some (.slice A4 i c4) := cell_of_row _ _ 0 _ _ _ r1
  have b2 : W0.cell? ⟨w.heap.size, 0, none⟩ = some (.int .i64 n) := cell_of_row _ _ 0 _ _ _ r2
  have OW := Lib.hid (q3.below hb0)
  have R1 := Lib.hid r1
  have R2 := Lib.hid r2
  have HB0 := Lib.hid hb0
  have HB := Lib.hid (q6.trans (hb0.mono q6.size))
  have HEL := Lib.hid (show cdAc.E (fun b => w0.heap.size ≤ b ∧ b < K) W0 [.int .i64 x.rule, .slice A3 x.sub.length c3] x from ⟨_, rfl, hok, hsv.keep (Kp.of_below hb0)⟩)
  have HTK := Lib.hid (show l.take (i + 1) = l.take i ++ [x] by rw [List.take_add_one, hx]; rfl)
  have HLL := Lib.hid (show (l.take i).length ≤ 40000000 by omega)
  have HTI := Lib.hid hti
  have HK := Lib.hid (And.intro q4 (Nat.le_trans q5 hb0.size))
  have hlt : i + 1 ≤ 40000001 := by omega
  -- what lies behind the append and the store
  have FIN : ∀ (g cap : Nat) (w2 : World), OwnF (fun b => w0.heap.size ≤ b ∧ b < K) K w2 30 cdAc (.slice (some ⟨g, 0, none⟩) (i + 1) cap) (l.take i ++ [x]) → Turns (Value.slice A4 i c4).ownBlock.toList W0 w2 →
      (w2.cell? ⟨w.heap.size + 1, 0, none⟩ = some (.slice A4 i c4) ∧ w2.frozen? ⟨w.heap.size + 1, 0, none⟩ = false) ∧
      TkSt l n w w0 K (i + 1) (w2.setCell ⟨w.heap.size + 1, 0, none⟩ (.slice (some ⟨g, 0, none⟩) (i + 1) cap)) ∧ Kp (fun b => w0.heap.size ≤ b ∧ b < K) W (w2.setCell ⟨w.heap.size + 1, 0, none⟩ (.slice (some ⟨g, 0, none⟩) (i + 1) cap)) ∧
      (w2.setCell ⟨w.heap.size + 1, 0, none⟩ (.slice (some ⟨g, 0, none⟩) (i + 1) cap)).cell? ⟨w.heap.size + 1, 0, none⟩ = some (.slice (some ⟨g, 0, none⟩) (i + 1) cap) ∧ (w2.setCell ⟨w.heap.size + 1, 0, none⟩ (.slice (some ⟨g, 0, none⟩) (i + 1) cap)).cell? ⟨w.heap.size, 0, none⟩ = some (.int .i64 n) := by
    intro g cap w2 ho ht
    have hown : ∀ b, b ∈ (Value.slice A4 i c4).ownBlock.toList → K ≤ b := fun b hb => (OW.out.block (by simpa using hb)).1
    have hK := HK.out
    have T2 : Turns [w.heap.size + 1] w2 (w2.setCell ⟨w.heap.size + 1, 0, none⟩ (.slice (some ⟨g, 0, none⟩) (i + 1) cap)) := (Turns.refl _ _).setCell (.inl (by simp)) _
    have e1 := (ht.block _ (lt_of_heap R1.out) (fun hm => by have := hown _ hm; omega)).trans R1.out
    have e2 := (ht.block _ (lt_of_heap R2.out) (fun hm => by have := hown _ hm; omega)).trans R2.out
    have f1 : (w2.setCell ⟨w.heap.size + 1, 0, none⟩ (.slice (some ⟨g, 0, none⟩) (i + 1) cap)).heap[w.heap.size + 1]? = some (.cells #[.slice (some ⟨g, 0, none⟩) (i + 1) cap] 23 (0, 0)) := heap_setCell_same _ _ 0 _ _ _ e1
    have f2 := (T2.block w.heap.size (lt_of_heap e2) (by simp)).trans e2
    refine ⟨⟨cell_of_row _ _ 0 _ _ _ e1, by unfold World.frozen?; simp only [e1]; simp⟩, ⟨_, f1, f2, ?_, hK.1, ?_, ?_⟩, ?_, cell_of_row _ _ 0 _ _ _ f1, cell_of_row _ _ 0 _ _ _ f2⟩
    · rw [HTK.out]
      exact ho.keep T2 (fun b hb hm => by have := (ho.block hb).1; have := List.mem_singleton.1 hm; omega) (fun b hb hf => by have := List.mem_singleton.1 hb; omega) (fun _ _ h => h)
    · have := ht.size; have := T2.size; omega
    · exact HB.out.trans ((ht.below HB.out.size (fun b hb => by have := hown b hb; omega)).trans (T2.below (by have := ht.size; have := HB.out.size; omega) (fun b hb => by rw [List.mem_singleton.1 hb]; omega)))
    · exact (Kp.of_below HB0.out).trans ((Kp.of_turns ht (fun b hb hf => by have := hown b hb; omega)).trans (Kp.of_turns T2 (fun b hb hf => by have := List.mem_singleton.1 hb; omega)))
  have FIN := Lib.hid FIN
  clear hsv q1 q2 q3 q6 r1 r2 hb0 hti hx
  go_enter Tryd.func49, Tryd.ntmps49
  go_upto_region 1 with fail
  rw [← hW0]
  clear hW0
  by_cases hn : (i : Int) + 1 = n
  · have HG := Lib.hid (show goT n i = false from decide_eq_false (fun h => h hn))
    subst hn
    go_wp2_with (at_builtin; refine wpList_append_F OW.out (fun b hb hf => by have := (OW.out.block hb).1; omega) rfl (.tmp 5) (.tmp 7) 23 rfl Tryd.underlying23 infoAct rfl (by decide) rfl #[.int .i64 x.rule, .slice A3 x.sub.length c3] _ rfl rfl HEL.out HLL.out (by decide) HK.out.2 ?_; rw [HTI.out]; intro g cap w2 ho ht _ _; obtain ⟨⟨z1, z2⟩, z3, z4, z5, z6⟩ := FIN.out g cap w2 (ho _ (fun _ _ h => h)) ht; have Z3 := Lib.hid z3; have Z4 := Lib.hid z4; clear ho ht z3 z4)
    go_ret
    exact ⟨ret_boolA (by rw [HG.out]), Z3.out, Z4.out⟩
  · have HG := Lib.hid (show goT n i = true from decide_eq_true hn)
    have f1 : (((i : Int) + 1) == n) = false := beq_false_of_ne hn
    have f2 : (((i : Int) + 1) != n) = true := bne_iff_ne.2 hn
    go_wp2_with (at_builtin; refine wpList_append_F OW.out (fun b hb hf => by have := (OW.out.block hb).1; omega) rfl (.tmp 5) (.tmp 7) 23 rfl Tryd.underlying23 infoAct rfl (by decide) rfl #[.int .i64 x.rule, .slice A3 x.sub.length c3] _ rfl rfl HEL.out HLL.out (by decide) HK.out.2 ?_; rw [HTI.out]; intro g cap w2 ho ht _ _; obtain ⟨⟨z1, z2⟩, z3, z4, z5, z6⟩ := FIN.out g cap w2 (ho _ (fun _ _ h => h)) ht; have Z3 := Lib.hid z3; have Z4 := Lib.hid z4; clear ho ht z3 z4)
    go_ret
    exact ⟨ret_boolA (by rw [HG.out]), Z3.out, Z4.out⟩
/-- What taken leaves. -/
def TknRes (l : List Ac) (w : World) (e : Ending) (w' : World) : Prop := ∃ A c, e = .returned (.slice A l.length c) ∧ Below w.heap.size w w' ∧ RSl (fun b => w.heap.size ≤ b) w' 2 (EAc (fun b => w.heap.size ≤ b) w') (.slice A l.length c) l
set_option maxRecDepth 100000 in
set_option maxHeartbeats 4000000 in
theorem takenW {M : List Nat} {p mc mf N : Nat} {G : Agd} (n : Int) (w : World) (h : AgAt M w p mc mf G N) (hlen : G.C.length ≤ 40000000) (hel : (eligA G).length ≤ 40000000) :
    Calls Tryd.prog 24 #[.pointer (some ⟨p, 0, none⟩), .int .i64 n] w (TknRes (tkn (eligA G) n) w) := by
  have eg : ∀ args w, (callFunc 49 args).run Tryd.prog w = .ok (.enter 49 args) w := enters_of Tryd.func49 (by kernel_rfl) rfl
  obtain ⟨w0, hw0⟩ : ∃ w0, w0 = (w.alloc (.cells #[.int .i64 n] 3)).alloc (.cells #[.slice none 0 0] 23) := ⟨_, rfl⟩
  have hb0 : Below w.heap.size w w0 := by rw [hw0]; exact ((Below.refl _ _).alloc (Nat.le_refl _) _).alloc (by simp) _
  have hs0 : w0.heap.size = w.heap.size + 2 := by rw [hw0]; simp
  have r0 : w0.heap[w.heap.size]? = some (.cells #[.int .i64 n] 3 (0, 0)) := by rw [hw0, heap_alloc_old _ _ (by simp)]; exact heap_alloc_new w _
  have r1 : w0.heap[w.heap.size + 1]? = some (.cells #[.slice none 0 0] 23 (0, 0)) := by
    have := heap_alloc_new (w.alloc (.cells #[.int .i64 n] 3)) (.cells #[.slice none 0 0] 23)
    rw [hw0]; simpa using this
  have EW := Lib.hid (eachW (cb := #[.pointer (some ⟨w.heap.size + 1, 0, none⟩), .pointer (some ⟨w.heap.size, 0, none⟩)]) (fun K i W => TkSt (eligA G) n w w0 K i W) (goT n) w0 (h.below hb0) hlen eg
    (fun w1 hw1 => ⟨_, (hw1.block _ (by omega)).trans r1, (hw1.block _ (by omega)).trans r0, by rw [List.take_zero]; exact OwnF.nil, hw1.size, Nat.le_refl _, hb0.trans (hw1.mono hb0.size)⟩)
    (fun K i W W' ⟨vo, q1, q2, q3, q4, q5, q6⟩ hb => ⟨vo, (hb.block _ (lt_of_heap q1)).trans q1, (hb.block _ (lt_of_heap q2)).trans q2, q3.below hb, q4, Nat.le_trans q5 hb.size, q6.trans (hb.mono q6.size)⟩)
    (fun w1 hw1 i x sv W hx hk hst hsv hok => takenFW x sv hs0 hel hx hst hsv hok))
  have HS0 := Lib.hid hs0
  clear h hlen r0 r1 hb0 hs0
  go_enter Tryd.func24, Tryd.ntmps24
  go_upto_region 2 with fail
  rw [← hw0]
  clear hw0
  go_wp2_with fail
  refine EW.out.mono ?_
  rintro e w1 ⟨rfl, K, k, hsp, vo, q1, q2, q3, q4, q5, q6⟩
  have htk := tkn_stop hsp
  rw [htk] at q3
  obtain ⟨A, c, hvo⟩ := q3.form
  subst hvo
  have z0 : w1.cell? ⟨w.heap.size + 1, 0, none⟩ = some (.slice A (tkn (eligA G) n).length c) := cell_of_row _ _ 0 _ _ _ q1
  have HR := Lib.hid (show RSl (fun b => w.heap.size ≤ b) w1 2 (EAc (fun b => w.heap.size ≤ b) w1) (.slice A (tkn (eligA G) n).length c) (tkn (eligA G) n) from
    (q3.rsl (G := fun b => w.heap.size ≤ b) (fun b hb => by have := (q3.block hb).1; have := HS0.out; show w.heap.size ≤ b; omega)).kp (Kp.refl _ _) (fun _ _ h => h) (fun _ _ hc => EAc.kp hc (Kp.refl _ _) (fun b _ hb => by have := hb.1; have := HS0.out; show w.heap.size ≤ b; omega)))
  have HB := Lib.hid q6
  clear q1 q2 q3 q6 EW hsp htk
  go_wp2
  go_ret
  exact ⟨_, _, rfl, HB.out, HR.out⟩
end Go.Proofs.YtjgigcnjgblekaaDoor

namespace Go.Proofs.YtjgigcnjgblekaaDoor
open Go Go.RowKit Go.Maps Classical

theorem eqlNilN {P : Program} (W : World) (t : TypeId) {ps rs : Array TypeId} {vd : Bool} (h : P.underlying t = some (.func ps rs vd)) : (binOp .eql t .nilFunc .nilFunc).run P W = .ok (.bool true) W := by
  have h1 : ∀ d, (Op.equalIn (d + 1) t .nilFunc .nilFunc).run P W = .ok true W := fun d => by simp [Op.equalIn, run_underlying h]
  have h2 : (Op.equal t .nilFunc .nilFunc).run P W = .ok true W := h1 9999
  simp only [binOp]
  simp [h2]
theorem napplyW (A : Option Addr) (n c : Nat) (w : World) : Calls Tryd.prog 10 #[.pointer none, .slice A n c] w fun e w' => e = .returned (.tuple #[.int .i64 0, .int .i64 0]) ∧ Below w.heap.size w w' := by
  go_enter Tryd.func10, Tryd.ntmps10
  go_wp2
  go_ret2
  exact ⟨rfl, Below.refl _ _⟩
theorem nstratumW (w : World) : Calls Tryd.prog 12 #[.pointer none] w fun e w' => e = .returned (.int .i64 0) ∧ Below w.heap.size w w' := by
  go_enter Tryd.func12, Tryd.ntmps12
  go_wp2
  go_ret
  exact ⟨rfl, Below.refl _ _⟩
theorem neligibleW (w : World) : Calls Tryd.prog 14 #[.pointer none] w fun e w' => e = .returned (.slice none 0 0) ∧ Below w.heap.size w w' := by
  go_enter Tryd.func14, Tryd.ntmps14
  go_wp2
  go_ret
  exact ⟨rfl, (Below.refl _ _).alloc (Nat.le_refl _) _⟩
theorem nconflictW (w : World) : Calls Tryd.prog 15 #[.pointer none] w fun e w' => e = .returned (.slice none 0 0) ∧ Below w.heap.size w w' := by
  go_enter Tryd.func15, Tryd.ntmps15
  go_wp2
  go_ret
  exact ⟨rfl, Below.refl _ _⟩
theorem nfiredW (w : World) : Calls Tryd.prog 32 #[.pointer none] w fun e w' => e = .returned (.slice none 0 0) ∧ Below w.heap.size w w' := by
  go_enter Tryd.func32, Tryd.ntmps32
  go_wp2
  go_ret
  exact ⟨rfl, Below.refl _ _⟩
theorem nfireW (r : Int) (A : Option Addr) (n c : Nat) (w : World) : Calls Tryd.prog 31 #[.pointer none, .agg #[.int .i64 r, .slice A n c]] w fun e w' => e = .returned (.int .i64 0) ∧ Below w.heap.size w w' := by
  go_enter Tryd.func31, Tryd.ntmps31
  go_wp2
  go_ret
  exact ⟨rfl, (Below.refl _ _).alloc (Nat.le_refl _) _⟩
theorem npickW (n : Int) (w : World) : Calls Tryd.prog 29 #[.pointer none, .int .i64 n] w fun e w' => e = .returned (.tuple #[.agg #[.int .i64 0, .slice none 0 0], .int .i64 0]) ∧ Below w.heap.size w w' := by
  obtain ⟨w0, hw0⟩ : ∃ w0, w0 = w.alloc (.cells #[.int .i64 0, .slice none 0 0] 30) := ⟨_, rfl⟩
  have R1 : w0.heap[w.heap.size]? = some (.cells #[.int .i64 0, .slice none 0 0] 30 (0, 0)) := by rw [hw0]; exact heap_alloc_new w _
  have HB := Lib.hid (show Below w.heap.size w w0 by rw [hw0]; exact (Below.refl _ _).alloc (Nat.le_refl _) _)
  have y0 : w0.cell? ⟨w.heap.size, 0, none⟩ = some (.int .i64 0) := cell_of_row _ _ 0 _ _ _ R1
  have y1 : w0.cell? ⟨w.heap.size, 1, none⟩ = some (.slice none 0 0) := cell_of_row _ _ 1 _ _ _ R1
  have yf : ∀ o, w0.frozen? ⟨w.heap.size, o, none⟩ = false := fun o => by simp [World.frozen?, R1]
  have FIN := Lib.hid (show Turns [w.heap.size] w0 ((w0.setCell ⟨w.heap.size, 0, none⟩ (.int .i64 0)).setCell ⟨w.heap.size, 1, none⟩ (.slice none 0 0)) from ((Turns.refl _ _).setCell (.inl (by simp)) _).setCell (.inl (by simp)) _)
  have EF := Lib.hid (heap_setCell_same _ _ 1 _ _ _ (heap_setCell_same _ _ 0 _ _ _ R1) : ((w0.setCell ⟨w.heap.size, 0, none⟩ (.int .i64 0)).setCell ⟨w.heap.size, 1, none⟩ (.slice none 0 0)).heap[w.heap.size]? = some (.cells #[.int .i64 0, .slice none 0 0] 30 (0, 0)))
  clear R1
  go_enter Tryd.func29, Tryd.ntmps29
  go_upto_region 1 with fail
  rw [← hw0]
  clear hw0
  go_wp2
  refine bodyPost_ret (results_row_slot rfl _ _ (w.heap.size) 30 #[.int .i64 0, .slice none 0 0] (0, 0) _ _ rfl rfl EF.out Tryd.underlying30 rfl sizeAct) rfl ?_
  exact ⟨rfl, HB.out.trans (FIN.out.below HB.out.size (fun x hx => by rw [List.mem_singleton.1 hx]; exact Nat.le_refl _))⟩
theorem neachW (g : Nat) (cb : Array Value) (w : World) : Calls Tryd.prog 48 #[.pointer none, .func (.func g) #[] cb] w fun e w' => e = .returned (.tuple #[]) ∧ Below w.heap.size w w' := by
  go_enter Tryd.func48, Tryd.ntmps48
  go_wp2
  refine bodyPost_ret (results_none rfl _ _ _) rfl ?_
  exact ⟨rfl, Below.refl _ _⟩
theorem each0W (p : Nat) (w : World) : Calls Tryd.prog 48 #[.pointer (some ⟨p, 0, none⟩), .nilFunc] w fun e w' => e = .returned (.tuple #[]) ∧ Below w.heap.size w w' := by
  have hnil := fun W => eqlNilN (P := Tryd.prog) W 92 Tryd.underlying92
  go_enter Tryd.func48, Tryd.ntmps48
  go_wp2
  refine bodyPost_ret (results_none rfl _ _ _) rfl ?_
  exact ⟨rfl, Below.refl _ _⟩
theorem ntakenW (n : Int) (w : World) : Calls Tryd.prog 24 #[.pointer none, .int .i64 n] w fun e w' => e = .returned (.slice none 0 0) ∧ Below w.heap.size w w' := by
  obtain ⟨w0, hw0⟩ : ∃ w0, w0 = (w.alloc (.cells #[.int .i64 n] 3)).alloc (.cells #[.slice none 0 0] 23) := ⟨_, rfl⟩
  have hb0 : Below w.heap.size w w0 := by rw [hw0]; exact ((Below.refl _ _).alloc (Nat.le_refl _) _).alloc (by simp) _
  have r1 : w0.heap[w.heap.size + 1]? = some (.cells #[.slice none 0 0] 23 (0, 0)) := by
    have := heap_alloc_new (w.alloc (.cells #[.int .i64 n] 3)) (.cells #[.slice none 0 0] 23)
    rw [hw0]; simpa using this
  have HB := Lib.hid hb0
  have NE := Lib.hid (neachW 49 #[.pointer (some ⟨w.heap.size + 1, 0, none⟩), .pointer (some ⟨w.heap.size, 0, none⟩)] w0)
  go_enter Tryd.func24, Tryd.ntmps24
  go_upto_region 2 with fail
  rw [← hw0]
  clear hw0
  go_wp2_with fail
  refine NE.out.mono ?_
  rintro e w1 ⟨rfl, hb1⟩
  have z0 : w1.cell? ⟨w.heap.size + 1, 0, none⟩ = some (.slice none 0 0) := cell_of_row _ _ 0 _ _ _ ((hb1.block _ (lt_of_heap r1)).trans r1)
  have B1 := Lib.hid (hb0.trans (hb1.mono hb0.size))
  clear r1 hb0 hb1 NE
  go_wp2
  go_ret
  exact ⟨rfl, B1.out⟩
end Go.Proofs.YtjgigcnjgblekaaDoor
