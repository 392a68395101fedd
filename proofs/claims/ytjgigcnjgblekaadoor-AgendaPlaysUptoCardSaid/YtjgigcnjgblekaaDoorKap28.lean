/- The reference's one: a change. The walk. The reference's Apply. The walk. The reference's Fire. The walk. -/
import Derived.Test.YtjgigcnjgblekaaDoorKap27
namespace Go.Proofs.YtjgigcnjgblekaaDoor
open Go Go.RowKit Go.Maps Classical

section
variable {α : Type} {F F' : Nat → Prop} {B : Nat} {w w' : World} {e : TypeId} {C : Cdc α} {v : Value} {xs : List α}
/-- One more, as a step behind a call in a region that draws its order. -/
theorem step_append_F0 {P : Program} {ops : Array Oper} {o : Oper} {a : Act} {K : Act → World → Prop} {Q : Exit → Act → World → Prop} {E : Prop} (h : OwnF F B w e C v xs) (hF : ∀ b, v.ownBlock = some b → ¬ F b) (hgd : o.guard = none) (s q : Operand) (t : TypeId)
    (ho : o.op = .call { callee := .builtin .append, args := #[s, q], argTypes := #[t, t] }) {z : Value} {bytes c H : Nat} (ht : P.underlying t = some (.slice e)) (hi : (P.info? e).map (fun i => (i.zero, i.size, i.bytes)) = some (some z, C.sz, bytes))
    (hzs : z.cells.size = C.sz) (hsz : 0 < C.sz) (hs : a.eval s = v) (ncs : Array Value) (T : TypeId) (hq : a.eval q = .slice (some ⟨H, 0, none⟩) 1 c) (hH : w.heap.size = H)
    {x : α} (hel : C.E F w ncs.toList x) (hn : xs.length ≤ 40000000) (hb : bytes ≤ 1000) (hB : B ≤ w.heap.size)
    (k : ∀ g cap w', (∀ F' : Nat → Prop, (∀ b, b < w.heap.size → F b → F' b) → OwnF F' B w' e C (.slice (some ⟨g, 0, none⟩) (xs.length + 1) cap) (xs ++ [x])) → Turns v.ownBlock.toList w w' → (v.ownBlock = some g ∨ w.heap.size ≤ g) → g < w'.heap.size →
      K (a.put o.dst (.slice (some ⟨g, 0, none⟩) (xs.length + 1) cap)) w') : if Region.wanted o (yielded ops a.tmps) = true then Oper.wp P o a (w.alloc (.cells ncs T)) K Q else E := by
  subst hH
  obtain ⟨i0, hi0, hz0, hz1, hz2⟩ := info_parts hi
  have hbl : Below w.heap.size w (w.alloc (.cells ncs T)) := (Below.refl w.heap.size w).alloc (Nat.le_refl _) (.cells ncs T)
  obtain ⟨cells, h0, h2⟩ := h
  have h1 := ownsRow_turns h0 (Turns.of_below (S := []) hbl) (fun _ _ => by simp)
  have hln := C.len _ _ _ _ hel
  have hone := C.one _ _ _ _ hel
  refine step_append1s (w.alloc (.cells ncs T)) hgd s q t ho B e i0 z C.sz bytes ht hi0 hz0 hz1 hz2 hzs hsz v xs.length cells hs h1 ⟨w.heap.size, 0, none⟩ c ncs.toList hq (by rw [hln, Nat.one_mul]) ?_ hone hn hb (by simp; omega) _ rfl ?_
  · exact World.news_of_block (heap_alloc_new w (.cells ncs T))
  · intro g cap w' hown hgrow hat hlt
    have T1 : Turns v.ownBlock.toList w w' := (((Turns.refl [] w).alloc (.cells ncs T)).mono (by simp)).trans (Turns.of_grown hgrow) (fun x hx => .inl hx)
    have hat2 : v.ownBlock = some g ∨ w.heap.size ≤ g := by
      rcases hat with h | h
      · exact .inl h
      · exact .inr (by have := h.1; simp at this; omega)
    exact k g cap w' (fun F' hFF => OwnF.grow h2 hel (Kp.of_turns T1 (fun b hb => hF b (by simpa using hb))) hFF h0.1 hown) T1 hat2 hlt
end

section
variable {M X : List Nat} {B : Nat} {w w2 : World} {rb g cap : Nat} {G : Agd} {lv cv cn fr : Value} {a : Ac}
/-- An act came: its row grew, and was laid back. -/
theorem RfV.come (h : RfV M X B w rb G lv cv cn fr) (hA : RfAt M X B w rb G) (ML : ∀ x ∈ M, x < w.heap.size) (XM : ∀ x ∈ X, x ∈ M)
    (ho : ∀ F' : Nat → Prop, (∀ b, b < w.heap.size → b ∉ M → F' b) → OwnF F' B w2 30 cdAc (.slice (some ⟨g, 0, none⟩) (G.C.length + 1) cap) (G.C ++ [a])) (T : Turns cn.ownBlock.toList w w2) (hat : cn.ownBlock = some g ∨ w.heap.size ≤ g) (hlt : g < w2.heap.size)
    (hown : ownA G a) (hnin : a ∉ G.C) (hok : AcOk a) : RfTo M X B rb { G with C := G.C ++ [a] } w (w2.setCell ⟨rb, 2, none⟩ (.slice (some ⟨g, 0, none⟩) (G.C.length + 1) cap)) := by
  have hg : ∀ b, b < w.heap.size → b ∉ M → b ∉ g :: M := fun b hb hn hm => by
    rcases List.mem_cons.1 hm with e | hm
    · rcases hat with h1 | h1
      · exact hn (e ▸ (h.cnM g h1).1)
      · omega
    · exact hn hm
  obtain ⟨r1, r2⟩ := h.setC (M' := g :: M) hA ML XM T (fun x hx => List.mem_cons_of_mem _ hx) (fun x hx => by
      rcases List.mem_cons.1 hx with e | hx
      · rcases hat with h1 | h1
        · exact .inl (e ▸ (h.cnM g h1).1)
        · exact .inr (by omega)
      · exact .inl hx) (ho _ hg) (fun b hb => by
        have e : g = b := by simpa [Value.ownBlock] using hb
        subst e
        exact ⟨List.mem_cons_self .., hat⟩) (hA.ok.add hown hnin) (fun x hx => by
        rcases List.mem_append.1 hx with hx | hx
        · exact hA.acC x hx
        · rw [List.mem_singleton.1 hx]; exact hok)
  refine ⟨g :: M, r2, r1, fun x hx => List.mem_cons_of_mem _ hx, fun x hx => ?_, fun x hx => ?_⟩
  · rcases List.mem_cons.1 hx with e | hx
    · rcases hat with h1 | h1
      · exact .inl (e ▸ (h.cnM g h1).1)
      · exact .inr (by omega)
    · exact .inl hx
  · have hs := T.size
    rcases List.mem_cons.1 hx with e | hx
    · simp; omega
    · have := ML x hx; simp; omega
/-- An act fired. -/
theorem RfV.fire (h : RfV M X B w rb G lv cv cn fr) (hA : RfAt M X B w rb G) (ML : ∀ x ∈ M, x < w.heap.size) (XM : ∀ x ∈ X, x ∈ M)
    (ho : ∀ F' : Nat → Prop, (∀ b, b < w.heap.size → b ∉ M → F' b) → OwnF F' B w2 30 cdAc (.slice (some ⟨g, 0, none⟩) (G.D.length + 1) cap) (G.D ++ [a])) (T : Turns fr.ownBlock.toList w w2) (hat : fr.ownBlock = some g ∨ w.heap.size ≤ g) (hlt : g < w2.heap.size)
    (hown : ownA G a) (hnin : a ∉ G.D) (hok : AcOk a) : RfTo M X B rb { G with D := G.D ++ [a] } w (w2.setCell ⟨rb, 3, none⟩ (.slice (some ⟨g, 0, none⟩) (G.D.length + 1) cap)) := by
  have hg : ∀ b, b < w.heap.size → b ∉ M → b ∉ g :: M := fun b hb hn hm => by
    rcases List.mem_cons.1 hm with e | hm
    · rcases hat with h1 | h1
      · exact hn (e ▸ (h.frM g h1).1)
      · omega
    · exact hn hm
  obtain ⟨r1, r2⟩ := h.setD (M' := g :: M) hA ML XM T (fun x hx => List.mem_cons_of_mem _ hx) (fun x hx => by
      rcases List.mem_cons.1 hx with e | hx
      · rcases hat with h1 | h1
        · exact .inl (e ▸ (h.frM g h1).1)
        · exact .inr (by omega)
      · exact .inl hx) (ho _ hg) (fun b hb => by
        have e : g = b := by simpa [Value.ownBlock] using hb
        subst e
        exact ⟨List.mem_cons_self .., hat⟩) (hA.ok.fire hown hnin) (fun x hx => by
        rcases List.mem_append.1 hx with hx | hx
        · exact hA.acD x hx
        · rw [List.mem_singleton.1 hx]; exact hok)
  refine ⟨g :: M, r2, r1, fun x hx => List.mem_cons_of_mem _ hx, fun x hx => ?_, fun x hx => ?_⟩
  · rcases List.mem_cons.1 hx with e | hx
    · rcases hat with h1 | h1
      · exact .inl (e ▸ (h.frM g h1).1)
      · exact .inr (by omega)
    · exact .inl hx
  · have hs := T.size
    rcases List.mem_cons.1 hx with e | hx
    · simp; omega
    · have := ML x hx; simp; omega
/-- An act went: the row is another. -/
theorem RfV.go {w4 : World} {v4 : Value} {k : Nat} (h : RfV M X B w rb G lv cv cn fr) (hA : RfAt M X B w rb G) (ML : ∀ x ∈ M, x < w.heap.size) (XM : ∀ x ∈ X, x ∈ M) (hB : B ≤ w.heap.size)
    (ho : OwnF (fun b => (fun b => b ∉ M) b ∧ b < w.heap.size) w.heap.size w4 30 cdAc v4 (G.C.eraseIdx k)) (hb : Below w.heap.size w w4) (hk : G.C[k]? = some a) : RfTo M X B rb { G with C := dropA G.C a } w (w4.setCell ⟨rb, 2, none⟩ v4) := by
  have he := erase_drop hA.ok.nodC hk
  rw [he] at ho
  have hv : ∀ b, v4.ownBlock = some b → w.heap.size ≤ b ∧ b < w4.heap.size := fun b hb => ⟨(ho.block hb).1, (ho.block hb).2.1⟩
  have ho' : OwnF (fun b => b ∉ v4.ownBlock.toList ++ M) B w4 30 cdAc v4 (dropA G.C a) := by
    have h1 := ho.keep (F' := fun b => b ∉ v4.ownBlock.toList ++ M) (S := []) (Turns.refl _ _) (fun _ _ => by simp) (by simp) (fun b _ hf hm => by
      rcases List.mem_append.1 hm with hm | hm
      · have := (hv b (by simpa using hm)).1; omega
      · exact hf.1 hm)
    obtain ⟨cells, c1, c2⟩ := h1
    refine ⟨cells, ⟨c1.1, ?_⟩, c2⟩
    rcases c1.2 with e | ⟨g, cap, cur, e1, e2, e3⟩
    · exact .inl e
    · exact .inr ⟨g, cap, cur, e1, Nat.le_trans hB e2, e3⟩
  have hM' : ∀ x ∈ v4.ownBlock.toList ++ M, x ∈ M ∨ w.heap.size ≤ x := fun x hx => by
    rcases List.mem_append.1 hx with hx | hx
    · exact .inr (hv x (by simpa using hx)).1
    · exact .inl hx
  have hac : ∀ x ∈ dropA G.C a, AcOk x := fun x hx => hA.acC x (dropA_mem.1 hx).1
  obtain ⟨r1, r2⟩ := h.setC (M' := v4.ownBlock.toList ++ M) hA ML XM ((Turns.of_below (S := []) hb).mono (by simp)) (fun x hx => List.mem_append_right _ hx) hM' ho'
    (fun b hb => ⟨List.mem_append_left _ (by simpa using hb), .inr (hv b hb).1⟩) (hA.ok.drop a) hac
  refine ⟨v4.ownBlock.toList ++ M, r2, r1, fun x hx => List.mem_append_right _ hx, hM', fun x hx => ?_⟩
  rcases List.mem_append.1 hx with hx | hx
  · have := (hv x (by simpa using hx)).2; simpa using this
  · have := ML x hx; have := hb.size; simp; omega
end
theorem at_rb {M X : List Nat} {B : Nat} {w w2 : World} {rb : Nat} {G : Agd} {lv cv cn fr : Value} (h : RfV M X B w rb G lv cv cn fr) (T : Turns cn.ownBlock.toList w w2) : w2.cell? ⟨rb, 2, none⟩ = some cn ∧ w2.frozen? ⟨rb, 2, none⟩ = false := by
  have e : w2.heap[rb]? = some (.cells #[lv, cv, cn, fr] 89 (0, 0)) := (T.block _ h.lt (fun hm => (h.cnM rb (by simpa using hm)).2.2 rfl)).trans h.row
  exact ⟨cell_of_row _ _ 2 _ _ _ e, by unfold World.frozen?; simp only [e]; simp⟩
theorem at_rd {M X : List Nat} {B : Nat} {w w2 : World} {rb : Nat} {G : Agd} {lv cv cn fr : Value} (h : RfV M X B w rb G lv cv cn fr) (T : Turns fr.ownBlock.toList w w2) : w2.cell? ⟨rb, 3, none⟩ = some fr ∧ w2.frozen? ⟨rb, 3, none⟩ = false := by
  have e : w2.heap[rb]? = some (.cells #[lv, cv, cn, fr] 89 (0, 0)) := (T.block _ h.lt (fun hm => (h.frM rb (by simpa using hm)).2.2 rfl)).trans h.row
  exact ⟨cell_of_row _ _ 3 _ _ _ e, by unfold World.frozen?; simp only [e]; simp⟩
theorem el_copied {F : Nat → Prop} {w w' : World} {a : Ac} {sv : Value} (h : OwnZ w' w.heap.size sv a.sub) (hok : AcOk a) (hF : ∀ b, w.heap.size ≤ b → F b) : cdAc.E F w' [.int .i64 a.rule, sv] a :=
  ⟨sv, rfl, hok.rule, h.rsl (fun b hb => hF b (ownBlock_cells h hb).1) hok.sub⟩
set_option maxRecDepth 100000 in
set_option maxHeartbeats 8000000 in
theorem roneW {F : Nat → Prop} {M X : List Nat} {B rb : Nat} {G : Agd} (came : Bool) (a : Ac) (sv : Value) (w : World) (h : RfAt M X B w rb G) (hs : RSl F w 1 EInt sv a.sub) (hok : AcOk a) (ML : ∀ x ∈ M, x < w.heap.size) (XM : ∀ x ∈ X, x ∈ M) (hB : B ≤ w.heap.size) (hn : G.C.length ≤ 40000000) :
    Calls Tryd.prog 58 #[.pointer (some ⟨rb, 0, none⟩), .agg #[.bool came, .int .i64 a.rule, sv]] w (RfRes M X B rb (chgF G came a) w) := by
  obtain ⟨A2, c2, rfl⟩ := hs.form
  obtain ⟨w0, hw0⟩ : ∃ w0, w0 = w.alloc (.cells #[.bool came, .int .i64 a.rule, .slice A2 a.sub.length c2] 36) := ⟨_, rfl⟩
  have hx0 : Below (w.heap.size + 1) (w.alloc (.cells #[.bool came, .int .i64 a.rule, .slice A2 a.sub.length c2] 36)) w0 := by rw [hw0]; exact Below.refl _ _
  have hb0 := box_belowD hx0
  have hs0 : w0.heap.size = w.heap.size + 1 := by rw [hw0]; simp
  have BX := Lib.hid (fun (W : World) (hW : Below w0.heap.size w0 W) => (show W.cell? ⟨w.heap.size, 0, none⟩ = some (.bool came) ∧ W.cell? ⟨w.heap.size, 1, none⟩ = some (.int .i64 a.rule) ∧ W.cell? ⟨w.heap.size, 2, none⟩ = some (.slice A2 a.sub.length c2) from
    ⟨(hW.cell (p := ⟨w.heap.size, 0, none⟩) (by show w.heap.size < w0.heap.size; omega)).trans (box_cellD hx0 0 rfl), (hW.cell (p := ⟨w.heap.size, 1, none⟩) (by show w.heap.size < w0.heap.size; omega)).trans (box_cellD hx0 1 rfl), (hW.cell (p := ⟨w.heap.size, 2, none⟩) (by show w.heap.size < w0.heap.size; omega)).trans (box_cellD hx0 2 rfl)⟩))
  have HA := Lib.hid (h.below hb0)
  have HS := Lib.hid (hs.keep (Kp.of_below hb0))
  have HB := Lib.hid hb0
  have HML := Lib.hid (fun x (hx : x ∈ M) => Nat.lt_of_lt_of_le (ML x hx) hb0.size)
  have HXM := Lib.hid XM
  have HBB := Lib.hid (Nat.le_trans hB hb0.size)
  have HOK := Lib.hid hok
  have HN := Lib.hid hn
  have E0 := Lib.hid (Below.refl w0.heap.size w0)
  obtain ⟨x0, x1, x2⟩ := BX.out w0 E0.out
  have OW := Lib.hid (rownW a (.slice A2 a.sub.length c2) w0 HA.out HS.out)
  have STAY := Lib.hid (fun (W : World) (hW : Below w0.heap.size w0 W) => ((RfTo.here HA.out HML.out).then hW |>.from HB.out : RfTo M X B rb G w W))
  clear h hs hok ML XM hB hn hx0 hb0 hs0
  go_enter Tryd.func58, Tryd.ntmps58
  go_upto_region 1 with fail
  rw [← hw0]
  clear hw0
  go_wp2_with fail
  refine OW.out.mono ?_
  rintro e w1 ⟨rfl, hb1⟩
  have B1 := Lib.hid hb1
  clear hb1 OW x0 x1 x2
  by_cases ho : ownA G a
  rotate_left
  · have HR := Lib.hid (show chgF G came a = (2, G) by unfold chgF; rw [if_pos ho])
    have hd : decide (ownA G a) = false := decide_eq_false ho
    rw [hd]
    clear hd ho
    go_wp2
    go_ret
    rw [HR.out]
    exact ⟨rfl, STAY.out _ B1.out⟩
  have hd : decide (ownA G a) = true := decide_eq_true ho
  rw [hd]
  have HO := Lib.hid ho
  clear hd ho
  have A1 := Lib.hid (HA.out.below B1.out)
  obtain ⟨D1, j1, D2, j2, D3, j3, D4, j4, t0, t1, t2, t3, K1, K2, K3, K4⟩ := A1.out.cells
  have hrb := A1.out.lt
  have NE : Nonempty (Pt (Below w1.heap.size w1)) := ⟨⟨w1, Below.refl _ _⟩⟩
  have u0 := fun p : Pt (Below w1.heap.size w1) => (p.property.cell (p := ⟨rb, 2, none⟩) hrb).trans t2
  have u1 := fun p : Pt (Below w1.heap.size w1) => (BX.out p.val (B1.out.trans (p.property.mono B1.out.size))).2.1
  have u2 := fun p : Pt (Below w1.heap.size w1) => (BX.out p.val (B1.out.trans (p.property.mono B1.out.size))).2.2
  have CC := Lib.hid (fun p : Pt (Below w1.heap.size w1) => atW (.slice D3 G.C.length j3) G.C a (.slice A2 a.sub.length c2) p.val (EAc.all K3 (Kp.of_below p.property) (fun _ _ h => h)) (HS.out.keep (Kp.of_below (B1.out.trans (p.property.mono B1.out.size)))))
  obtain ⟨r, hr⟩ : ∃ r, atF G.C a = r := ⟨_, rfl⟩
  rw [hr] at CC
  have HR := Lib.hid hr
  clear t0 t1 t2 t3 K1 K2 K3 K4 hr
  go_upto_region 3 with fail
  refine wp_region_class (S := Below w1.heap.size w1) (Below.refl _ _).drew (by kernel_rfl) (by kernel_rfl) ?_
  repeat (go_big_quiet_step (first | (go_at_call 60; refine (CC.out _).mono ?_; rintro e w' ⟨rfl, hbel⟩; exact ⟨rfl, ⟨w', below_stepA (Pt.property _) hbel⟩, rfl⟩)))
  refine wpQuiet_nil ?_
  rintro w2 ⟨⟨w2, hW⟩, rfl⟩
  have B2 := Lib.hid (B1.out.trans (Below.mono hW B1.out.size))
  clear u0 u1 u2 CC hW
  obtain ⟨x0, x1, x2⟩ := BX.out w2 B2.out
  have A2' := Lib.hid (HA.out.below B2.out)
  cases came with
  | true =>
    by_cases hin : a ∈ G.C
    · have hge : r ≥ 0 := by obtain ⟨k, _, _, hk⟩ := atF_mem hin; have := HR.out; omega
      have HRR := Lib.hid (show chgF G true a = (51, G) by unfold chgF; rw [if_neg (by simpa using HO.out), if_pos rfl, if_pos hin])
      clear hin
      go_wp2
      go_ret
      rw [HRR.out]
      exact ⟨rfl, STAY.out _ B2.out⟩
    · have hge : ¬ r ≥ 0 := by have := atF_none hin; have := HR.out; omega
      have HRR := Lib.hid (show chgF G true a = (0, { G with C := G.C ++ [a] }) by unfold chgF; rw [if_neg (by simpa using HO.out), if_pos rfl, if_neg hin])
      have HNIN := Lib.hid hin
      clear hin
      go_upto_region 7 with fail
      obtain ⟨lv, cv, cn, fr, hV⟩ := A2'.out.view
      have HV := Lib.hid hV
      obtain ⟨cA, cc, hcn⟩ := hV.cnR.form
      subst hcn
      have hrb2 := hV.lt
      have y2 : w2.cell? ⟨rb, 2, none⟩ = some (.slice cA G.C.length cc) := cell_of_row _ _ 2 _ _ _ hV.row
      have ML2 := Lib.hid (fun x (hx : x ∈ M) => Nat.lt_of_lt_of_le (HML.out x hx) B2.out.size)
      have CW := Lib.hid (fun (W : World) (hW : Below w2.heap.size w2 W) => rcopiedW a (.slice A2 a.sub.length c2) W (HS.out.keep (Kp.of_below (B2.out.trans (hW.mono B2.out.size)))) (by have := HOK.out.len; omega))
      clear hV hge hrb2
      go_region_law (first
        | (refine step_append_F0 V7.out.cnR (fun b hb h => h (V7.out.cnM b hb).1) (by rfl) (.tmp 26) (.tmp 30) 23 (by rfl) Tryd.underlying23 infoAct rfl (by decide) (by rfl) #[.int .i64 a.rule, .slice sA a.sub.length sc] _ (by rfl) (by simp) (x := a) EL.out HN.out (by decide) G7.out.2 ?_; intro g cap w8 ho ht hat hlt2; obtain ⟨z1, z2⟩ := at_rb V7.out ht; have N1 := Lib.hid (V7.out.come A7.out ML7.out HXM.out ho ht hat hlt2 HO.out HNIN.out HOK.out); clear ho ht hat hlt2)
        | (go_simp; go_at_call 61; refine (CW.out _ (Below.refl _ _).drew).mono ?_; rintro e w7 ⟨sv7, rfl, hsv7, hb7⟩; obtain ⟨sA, sc, rfl⟩ := hsv7.form; have g7 : Below w2.heap.size w2 w7 := ((Below.refl w2.heap.size w2).drew).trans (hb7.mono (Nat.le_refl _)); have G7 := Lib.hid (And.intro g7 (Nat.le_trans HBB.out (Nat.le_trans B2.out.size g7.size))); have V7 := Lib.hid (HV.out.below g7); have A7 := Lib.hid (A2'.out.below g7); have ML7 := Lib.hid (fun x (hx : x ∈ M) => Nat.lt_of_lt_of_le (ML2.out x hx) g7.size); have EL := Lib.hid (el_copied (F := fun b => b ∉ M) hsv7 HOK.out (fun b hb hm => by have := ML2.out b hm; have h2 : w2.heap.size ≤ b := hb; omega)); have y7 : w7.cell? ⟨rb, 2, none⟩ = some (.slice cA G.C.length cc) := cell_of_row _ _ 2 _ _ _ V7.out.row; have y7a := fun (o : Obj) => show (w7.alloc o).cell? ⟨rb, 2, none⟩ = some (.slice cA G.C.length cc) from cell_of_row _ _ 2 _ _ _ (V7.out.below ((Below.refl w7.heap.size w7).alloc (Nat.le_refl _) o)).row; clear hsv7 hb7 g7))
      all_goals
        have HF := Lib.hid (HB.out.trans ((B2.out.trans (G7.out.1.mono B2.out.size)).mono HB.out.size))
        clear x0 x1 x2 y2
        go_wp2
        go_ret
        rw [HRR.out]
        exact ⟨rfl, N1.out.from HF.out⟩
  | false =>
    by_cases hin : a ∈ G.C
    rotate_left
    · have hlt : r < 0 := by have := atF_none hin; have := HR.out; omega
      have HRR := Lib.hid (chg_none HO.out hin)
      clear hin
      go_wp2
      go_ret
      rw [HRR.out]
      exact ⟨rfl, STAY.out _ B2.out⟩
    obtain ⟨k, hk1, hk2, hk3⟩ := atF_mem hin
    have hrk : r = (k : Int) := HR.out.symm.trans hk3
    subst hrk
    have HRR := Lib.hid (chg_go HO.out hin)
    obtain ⟨lv, cv, cn, fr, hV⟩ := A2'.out.view
    have HV := Lib.hid hV
    obtain ⟨cA, cc, hcn⟩ := hV.cnR.form
    subst hcn
    have y2 : w2.cell? ⟨rb, 2, none⟩ = some (.slice cA G.C.length cc) := cell_of_row _ _ 2 _ _ _ hV.row
    have WW := Lib.hid (withoutW (F := fun b => b ∉ M) (F1 := fun _ => True) (.slice cA G.C.length cc) G.C k w2 (hV.cnR.rsl (G := fun _ => True) (fun _ _ => trivial)) HN.out)
    have ML2 := Lib.hid (fun x (hx : x ∈ M) => Nat.lt_of_lt_of_le (HML.out x hx) B2.out.size)
    have HK := Lib.hid hk2
    have e0 : ¬ (k : Int) < 0 := by omega
    clear hin hk1 hk2 hk3 hV
    go_wp2_with fail
    refine WW.out.mono ?_
    rintro e w4 ⟨v4, rfl, ho4, hb4⟩
    obtain ⟨A5, c5, rfl⟩ := ho4.form
    have N1 := Lib.hid (HV.out.go A2'.out ML2.out HXM.out (Nat.le_trans HBB.out B2.out.size) ho4 hb4 HK.out)
    have hV4 := HV.out.below hb4
    obtain ⟨z1, z2⟩ := at_rb hV4 (Turns.refl _ _)
    have HF := Lib.hid (HB.out.trans (B2.out.mono HB.out.size))
    clear hV4 ho4 hb4 x0 x1 x2 y2 WW
    go_wp2
    go_ret
    rw [HRR.out]
    exact ⟨rfl, N1.out.from HF.out⟩
end Go.Proofs.YtjgigcnjgblekaaDoor

namespace Go.Proofs.YtjgigcnjgblekaaDoor
open Go Go.RowKit Go.Maps Classical

section
variable {M X : List Nat} {B : Nat} {w w' w'' : World} {rb : Nat} {g g' : Agd}
theorem RfTo.trans (h : RfTo M X B rb g w w') (k : ∀ M', RfAt M' X B w' rb g → (∀ x ∈ M, x ∈ M') → (∀ x ∈ M', x < w'.heap.size) → RfTo M' X B rb g' w' w'') : RfTo M X B rb g' w w'' := by
  obtain ⟨M', h1, h2, h3, h4, h5⟩ := h
  obtain ⟨M2, k1, k2, k3, k4, k5⟩ := k M' h2 h3 h5
  refine ⟨M2, h1.trans k1 (fun x hx => ?_), k2, fun x hx => k3 x (h3 x hx), fun x hx => ?_, k5⟩
  · obtain ⟨e1, e2⟩ := List.mem_filter.1 hx
    rcases h4 x e1 with h | h
    · exact .inl (List.mem_filter.2 ⟨h, e2⟩)
    · exact .inr h
  · rcases k4 x hx with h | h
    · exact h4 x h
    · exact .inr (Nat.le_trans h1.size h)
theorem RfTo.size (h : RfTo M X B rb g w w') : w.heap.size ≤ w'.heap.size := by obtain ⟨M', h1, _⟩ := h; exact h1.size
end
theorem chg_len (g : Agd) (came : Bool) (a : Ac) : (chgF g came a).2.C.length ≤ g.C.length + 1 ∧ (chgF g came a).2.D = g.D := by
  by_cases ho : ownA g a
  · by_cases hc : a ∈ g.C
    · cases came with
      | true => rw [chg_twice ho hc]; exact ⟨Nat.le_succ _, rfl⟩
      | false => rw [chg_go ho hc]; exact ⟨Nat.le_trans (List.length_filter_le _ _) (Nat.le_succ _), rfl⟩
    · cases came with
      | true => rw [chg_come ho hc]; exact ⟨by simp, rfl⟩
      | false => rw [chg_none ho hc]; exact ⟨Nat.le_succ _, rfl⟩
  · rw [chg_arg ho]; exact ⟨Nat.le_succ _, rfl⟩
/-- What Apply leaves. -/
def RApRes (M X : List Nat) (B rb : Nat) (R : Nat × Int × Agd) (w : World) (e : Ending) (w' : World) : Prop := e = .returned (.tuple #[.int .i64 (R.1 : Int), .int .i64 R.2.1]) ∧ RfTo M X B rb R.2.2 w w'
set_option maxRecDepth 100000 in
set_option maxHeartbeats 8000000 in
theorem rapplyW {F : Nat → Prop} {M X : List Nat} {B rb : Nat} {G : Agd} (v : Value) (xs : List (Bool × Ac)) (w : World) (h : RfAt M X B w rb G) (hs : RSl F w 3 (EChg F w) v xs) (hF : ∀ b, F b → b ∉ M) (ML : ∀ x ∈ M, x < w.heap.size) (XM : ∀ x ∈ X, x ∈ M) (hB : B ≤ w.heap.size) (hn : G.C.length + xs.length ≤ 40000000) :
    Calls Tryd.prog 41 #[.pointer (some ⟨rb, 0, none⟩), v] w (RApRes M X B rb (appF G xs 0) w) := by
  obtain ⟨A, c, rfl⟩ := hs.form
  obtain ⟨R, hR⟩ : ∃ R, appF G xs 0 = R := ⟨_, rfl⟩
  rw [hR]
  have HR := Lib.hid (show appF G (xs.drop 0) 0 = R from hR)
  have H0 := Lib.hid (RfTo.here h ML)
  have HS := Lib.hid (fun (W : World) (T : Turns (M.filter fun x => decide (x ∉ X)) w W) => (hs.kp (E' := EChg F W) (Kp.of_turns T (fun x hx hf => hF x hf (List.mem_filter.1 hx).1)) (fun _ _ h => h) (fun _ _ hc => hc.kp (Kp.of_turns T (fun x hx hf => hF x hf (List.mem_filter.1 hx).1)) (fun _ _ h => h)) : RSl F W 3 (EChg F W) (.slice A xs.length c) xs))
  have HXM := Lib.hid XM
  have HB := Lib.hid hB
  have HN := Lib.hid hn
  clear h hs hF ML XM hB hR
  go_enter Tryd.func41, Tryd.ntmps41
  go_upto_region 2 with fail
  go_loopw [6] (fun i wr => ∃ (k : Nat) (g : Agd), i = .int .i64 (k : Int) ∧ k ≤ xs.length ∧ RfTo M X B rb g w wr ∧ g.C.length ≤ G.C.length + k ∧ Hid (appF g (xs.drop k) k = R)) (fun i _ => xs.length - (intOf i).toNat)
  case atStart => exact ⟨0, G, rfl, Nat.zero_le _, H0.out, Nat.le_refl _, HR⟩
  case round =>
    obtain ⟨k, g, rfl, hk, hT, hgl, HO⟩ := hrel
    have HT := Lib.hid hT
    have HGL := Lib.hid hgl
    clear hgl
    by_cases hkn : k < xs.length
    · obtain ⟨M', t1, t2, t3, t4, t5⟩ := hT
      obtain ⟨x, hx⟩ : ∃ x, xs[k]? = some x := ⟨_, List.getElem?_eq_getElem hkn⟩
      obtain ⟨b, off, rfl, _, _, cs, ⟨sv, rfl, hok, hsv⟩, hc⟩ := (HS.out wr t1).at hx
      have d0 := hc 0 _ rfl
      have d1 := hc 1 _ rfl
      have d2 := hc 2 _ rfl
      simp only [Nat.add_zero] at d0
      obtain ⟨came, a⟩ := x
      simp only at hok hsv d0 d1 d2
      obtain ⟨A2, c2, rfl⟩ := hsv.form
      have hdrop : xs.drop k = (came, a) :: xs.drop (k + 1) := by
        rw [List.drop_eq_getElem_cons hkn]
        rw [List.getElem?_eq_getElem hkn] at hx
        rw [Option.some.inj hx]
      have OW := roneW came a (.slice A2 a.sub.length c2) wr t2 hsv hok t5 (fun x hx => t3 x (HXM.out x hx)) (Nat.le_trans HB.out t1.size) (by have := HGL.out; have := HN.out; omega)
      obtain ⟨r, hr⟩ : ∃ r, chgF g came a = r := ⟨_, rfl⟩
      have hlen := (chg_len g came a).1
      rw [hr] at OW hlen
      have OW := Lib.hid OW
      have HRC := Lib.hid hr
      have HM' := Lib.hid (And.intro t1 (And.intro t3 t4))
      have HLN := Lib.hid hlen
      rw [hdrop] at HO
      have e1 : (0 : Int) ≤ (k : Int) := by omega
      have e2 : (k : Int) < (xs.length : Int) := by omega
      clear hx hok hsv hc hdrop hr t1 t2 t3 t4 t5 hlen
      go_wp2_with fail
      refine OW.out.mono ?_
      rintro e w2 ⟨rfl, hT2⟩
      have HT2 := Lib.hid (show RfTo M X B rb r.2 w w2 by
        obtain ⟨M2, k1, k2, k3, k4, k5⟩ := hT2
        obtain ⟨q1, q2, q3⟩ := HM'.out
        refine ⟨M2, q1.trans k1 (fun x hx => ?_), k2, fun x hx => k3 x (q2 x hx), fun x hx => ?_, k5⟩
        · obtain ⟨e1, e2⟩ := List.mem_filter.1 hx
          rcases q3 x e1 with h | h
          · exact .inl (List.mem_filter.2 ⟨h, e2⟩)
          · exact .inr h
        · rcases k4 x hx with h | h
          · exact q3 x h
          · exact .inr (Nat.le_trans q1.size h))
      clear hT2 OW d0 d1 d2
      by_cases h0 : r.1 = 0
      · have HN2 := Lib.hid (show appF r.2 (xs.drop (k + 1)) (k + 1) = R by
          rw [← HO.out, app_next (by rw [HRC.out]; exact h0), HRC.out])
        rw [h0]
        go_wp2
        exact ⟨⟨k + 1, r.2, by go_num, by omega, HT2.out, by have := HLN.out; have := HGL.out; omega, HN2⟩, by simp [intOf]; omega⟩
      · have HN2 := Lib.hid (show (k, r.1, g) = R by
          rw [← HO.out, app_stop (by rw [HRC.out]; exact h0), HRC.out])
        have HG := Lib.hid (show r.2 = g by rw [← HRC.out]; exact chg_bad (by rw [HRC.out]; exact h0))
        have z1 : (r.1 == 0) = false := by simpa using h0
        have z2 : (r.1 != 0) = true := by simpa using h0
        go_wp2
        go_ret2
        rw [← HN2.out]
        refine ⟨rfl, ?_⟩
        have := HT2.out
        rw [HG.out] at this
        exact this
    · obtain rfl : k = xs.length := by omega
      have HN2 := Lib.hid (show (xs.length, 0, g) = R by rw [← HO.out, List.drop_length, app_nil])
      clear hT
      go_wp2
      go_ret2
      rw [← HN2.out]
      exact ⟨rfl, HT.out⟩
end Go.Proofs.YtjgigcnjgblekaaDoor

namespace Go.Proofs.YtjgigcnjgblekaaDoor
open Go Go.RowKit Go.Maps Classical

set_option maxRecDepth 100000 in
set_option maxHeartbeats 8000000 in
theorem rfireW {F : Nat → Prop} {M X : List Nat} {B rb : Nat} {G : Agd} (a : Ac) (sv : Value) (w : World) (h : RfAt M X B w rb G) (hs : RSl F w 1 EInt sv a.sub) (hok : AcOk a) (ML : ∀ x ∈ M, x < w.heap.size) (XM : ∀ x ∈ X, x ∈ M) (hB : B ≤ w.heap.size) (hn : G.C.length ≤ 40000000) (hn2 : G.D.length ≤ 40000000) :
    Calls Tryd.prog 42 #[.pointer (some ⟨rb, 0, none⟩), .agg #[.int .i64 a.rule, sv]] w (RfRes M X B rb (fireF G a) w) := by
  obtain ⟨A2, c2, rfl⟩ := hs.form
  obtain ⟨w0, hw0⟩ : ∃ w0, w0 = w.alloc (.cells #[.int .i64 a.rule, .slice A2 a.sub.length c2] 30) := ⟨_, rfl⟩
  have hx0 : Below (w.heap.size + 1) (w.alloc (.cells #[.int .i64 a.rule, .slice A2 a.sub.length c2] 30)) w0 := by rw [hw0]; exact Below.refl _ _
  have hb0 := box_belowD hx0
  have hs0 : w0.heap.size = w.heap.size + 1 := by rw [hw0]; simp
  have BX := Lib.hid (fun (W : World) (hW : Below w0.heap.size w0 W) => (show W.cell? ⟨w.heap.size, 0, none⟩ = some (.int .i64 a.rule) ∧ W.cell? ⟨w.heap.size, 1, none⟩ = some (.slice A2 a.sub.length c2) from
    ⟨(hW.cell (p := ⟨w.heap.size, 0, none⟩) (by show w.heap.size < w0.heap.size; omega)).trans (box_cellD hx0 0 rfl), (hW.cell (p := ⟨w.heap.size, 1, none⟩) (by show w.heap.size < w0.heap.size; omega)).trans (box_cellD hx0 1 rfl)⟩))
  have HA := Lib.hid (h.below hb0)
  have HS := Lib.hid (hs.keep (Kp.of_below hb0))
  have HB := Lib.hid hb0
  have HML := Lib.hid (fun x (hx : x ∈ M) => Nat.lt_of_lt_of_le (ML x hx) hb0.size)
  have HXM := Lib.hid XM
  have HBB := Lib.hid (Nat.le_trans hB hb0.size)
  have HOK := Lib.hid hok
  have HN := Lib.hid hn
  have HN2 := Lib.hid hn2
  have E0 := Lib.hid (Below.refl w0.heap.size w0)
  obtain ⟨x0, x1⟩ := BX.out w0 E0.out
  have OW := Lib.hid (rownW a (.slice A2 a.sub.length c2) w0 HA.out HS.out)
  have STAY := Lib.hid (fun (W : World) (hW : Below w0.heap.size w0 W) => ((RfTo.here HA.out HML.out).then hW |>.from HB.out : RfTo M X B rb G w W))
  clear h hs hok ML XM hB hn hn2 hx0 hb0 hs0
  go_enter Tryd.func42, Tryd.ntmps42
  go_upto_region 1 with fail
  rw [← hw0]
  clear hw0
  go_wp2_with fail
  refine OW.out.mono ?_
  rintro e w1 ⟨rfl, hb1⟩
  have B1 := Lib.hid hb1
  clear hb1 OW x0 x1
  by_cases ho : ownA G a
  rotate_left
  · have HR := Lib.hid (fir_arg ho)
    have hd : decide (ownA G a) = false := decide_eq_false ho
    rw [hd]
    clear hd ho
    go_wp2
    go_ret
    rw [HR.out]
    exact ⟨rfl, STAY.out _ B1.out⟩
  have hd : decide (ownA G a) = true := decide_eq_true ho
  rw [hd]
  have HO := Lib.hid ho
  clear hd ho
  -- fired already?
  have A1 := Lib.hid (HA.out.below B1.out)
  obtain ⟨D1, j1, D2, j2, D3, j3, D4, j4, t0, t1, t2, t3, K1, K2, K3, K4⟩ := A1.out.cells
  have hrb := A1.out.lt
  have NE : Nonempty (Pt (Below w1.heap.size w1)) := ⟨⟨w1, Below.refl _ _⟩⟩
  have u0 := fun p : Pt (Below w1.heap.size w1) => (p.property.cell (p := ⟨rb, 3, none⟩) hrb).trans t3
  have u1 := fun p : Pt (Below w1.heap.size w1) => (BX.out p.val (B1.out.trans (p.property.mono B1.out.size))).1
  have u2 := fun p : Pt (Below w1.heap.size w1) => (BX.out p.val (B1.out.trans (p.property.mono B1.out.size))).2
  have CC := Lib.hid (fun p : Pt (Below w1.heap.size w1) => atW (.slice D4 G.D.length j4) G.D a (.slice A2 a.sub.length c2) p.val (EAc.all K4 (Kp.of_below p.property) (fun _ _ h => h)) (HS.out.keep (Kp.of_below (B1.out.trans (p.property.mono B1.out.size)))))
  obtain ⟨r, hr⟩ : ∃ r, atF G.D a = r := ⟨_, rfl⟩
  rw [hr] at CC
  have HR := Lib.hid hr
  clear t0 t1 t2 t3 K1 K2 K3 K4 hr hrb
  go_upto_region 3 with fail
  refine wp_region_class (S := Below w1.heap.size w1) (Below.refl _ _).drew (by kernel_rfl) (by kernel_rfl) ?_
  repeat (go_big_quiet_step (first | (go_at_call 60; refine (CC.out _).mono ?_; rintro e w' ⟨rfl, hbel⟩; exact ⟨rfl, ⟨w', below_stepA (Pt.property _) hbel⟩, rfl⟩)))
  refine wpQuiet_nil ?_
  rintro w2 ⟨⟨w2, hW⟩, rfl⟩
  have B2 := Lib.hid (B1.out.trans (Below.mono hW B1.out.size))
  clear u0 u1 u2 CC hW NE A1
  by_cases hin : a ∈ G.D
  · have hge : r ≥ 0 := by obtain ⟨k, _, _, hk⟩ := atF_mem hin; have := HR.out; omega
    have HRR := Lib.hid (fir_twice HO.out hin)
    clear hin
    go_wp2
    go_ret
    rw [HRR.out]
    exact ⟨rfl, STAY.out _ B2.out⟩
  have hge : ¬ r ≥ 0 := by have := atF_none hin; have := HR.out; omega
  have HND := Lib.hid hin
  clear hin
  -- in the conflict set?
  have A2' := Lib.hid (HA.out.below B2.out)
  obtain ⟨D1, j1, D2, j2, D3, j3, D4, j4, t0, t1, t2, t3, K1, K2, K3, K4⟩ := A2'.out.cells
  have hrb := A2'.out.lt
  have NE : Nonempty (Pt (Below w2.heap.size w2)) := ⟨⟨w2, Below.refl _ _⟩⟩
  have u0 := fun p : Pt (Below w2.heap.size w2) => (p.property.cell (p := ⟨rb, 2, none⟩) hrb).trans t2
  have u1 := fun p : Pt (Below w2.heap.size w2) => (BX.out p.val (B2.out.trans (p.property.mono B2.out.size))).1
  have u2 := fun p : Pt (Below w2.heap.size w2) => (BX.out p.val (B2.out.trans (p.property.mono B2.out.size))).2
  have CC := Lib.hid (fun p : Pt (Below w2.heap.size w2) => atW (.slice D3 G.C.length j3) G.C a (.slice A2 a.sub.length c2) p.val (EAc.all K3 (Kp.of_below p.property) (fun _ _ h => h)) (HS.out.keep (Kp.of_below (B2.out.trans (p.property.mono B2.out.size)))))
  obtain ⟨r2, hr⟩ : ∃ r, atF G.C a = r := ⟨_, rfl⟩
  rw [hr] at CC
  have HR2 := Lib.hid hr
  clear t0 t1 t2 t3 K1 K2 K3 K4 hr hrb
  go_upto_region 5 with fail
  refine wp_region_class (S := Below w2.heap.size w2) (Below.refl _ _).drew (by kernel_rfl) (by kernel_rfl) ?_
  repeat (go_big_quiet_step (first | (go_at_call 60; refine (CC.out _).mono ?_; rintro e w' ⟨rfl, hbel⟩; exact ⟨rfl, ⟨w', below_stepA (Pt.property _) hbel⟩, rfl⟩)))
  refine wpQuiet_nil ?_
  rintro w3 ⟨⟨w3, hW⟩, rfl⟩
  have B3 := Lib.hid (B2.out.trans (Below.mono hW B2.out.size))
  clear u0 u1 u2 CC hW NE A2'
  by_cases hin : a ∈ G.C
  rotate_left
  · have hlt : r2 < 0 := by have := atF_none hin; have := HR2.out; omega
    have HRR := Lib.hid (fir_none HO.out HND.out hin)
    clear hin
    go_wp2
    go_ret
    rw [HRR.out]
    exact ⟨rfl, STAY.out _ B3.out⟩
  have hlt : ¬ r2 < 0 := by obtain ⟨k, _, _, hk⟩ := atF_mem hin; have := HR2.out; omega
  have HIC := Lib.hid hin
  clear hin
  -- its stratum
  have A3' := Lib.hid (HA.out.below B3.out)
  obtain ⟨D1, j1, D2, j2, D3, j3, D4, j4, t0, t1, t2, t3, K1, K2, K3, K4⟩ := A3'.out.cells
  have hrb := A3'.out.lt
  obtain ⟨lb, lo, hAe, _, hlb, ds, ⟨rfl, lok⟩, hd⟩ := K1.at (lvl_at HO.out)
  subst hAe
  have d0 := hd 0 _ rfl
  simp only [Nat.add_zero, Nat.mul_one] at d0
  obtain ⟨lv, hlv⟩ : ∃ x, lvl G.lv a = x := ⟨_, rfl⟩
  obtain ⟨s, hs⟩ : ∃ s, strA G = s := ⟨_, rfl⟩
  rw [hlv] at d0
  have i1 := HO.out.1.1
  have i2 := HO.out.1.2
  have hbig := A3'.out.big
  unfold maxLen at hbig
  have NE : Nonempty (Pt (Below w3.heap.size w3)) := ⟨⟨w3, Below.refl _ _⟩⟩
  have u0 := fun p : Pt (Below w3.heap.size w3) => (p.property.cell (p := ⟨rb, 0, none⟩) hrb).trans t0
  have u1 := fun p : Pt (Below w3.heap.size w3) => (BX.out p.val (B3.out.trans (p.property.mono B3.out.size))).1
  have u2 := fun p : Pt (Below w3.heap.size w3) => (p.property.cell (p := ⟨lb, lo + a.rule.toNat, none⟩) hlb).trans d0
  have CC := Lib.hid (fun p : Pt (Below w3.heap.size w3) => (hs ▸ rstratumW p.val (A3'.out.below p.property) HN.out : Calls Tryd.prog 44 #[.pointer (some ⟨rb, 0, none⟩)] p.val fun e w' => e = .returned (.int .i64 s) ∧ Below p.val.heap.size p.val w'))
  have HLV := Lib.hid hlv
  have HSS := Lib.hid hs
  clear t0 t1 t2 t3 K1 K2 K3 K4 hrb hlb hd d0 lok hlv hs
  go_upto_region 7 with fail
  refine wp_region_class (S := Below w3.heap.size w3) (Below.refl _ _).drew (by kernel_rfl) (by kernel_rfl) ?_
  repeat (go_big_quiet_step (first | (go_at_call 44; refine (CC.out _).mono ?_; rintro e w' ⟨rfl, hbel⟩; exact ⟨rfl, ⟨w', below_stepA (Pt.property _) hbel⟩, rfl⟩)))
  refine wpQuiet_nil ?_
  rintro w4 ⟨⟨w4, hW⟩, rfl⟩
  have B4 := Lib.hid (B3.out.trans (Below.mono hW B3.out.size))
  clear u0 u1 u2 CC hW NE A3'
  by_cases hl : s < lv
  · have HRR := Lib.hid (fir_state HO.out HND.out HIC.out (show strA G < lvl G.lv a by rw [HSS.out, HLV.out]; exact hl))
    go_wp2
    go_ret
    rw [HRR.out]
    exact ⟨rfl, STAY.out _ B4.out⟩
  have HRR := Lib.hid (fir_go HO.out HND.out HIC.out (show ¬ strA G < lvl G.lv a by rw [HSS.out, HLV.out]; exact hl))
  have A4' := Lib.hid (HA.out.below B4.out)
  obtain ⟨x0, x1⟩ := BX.out w4 B4.out
  go_upto_region 9 with fail
  obtain ⟨lvv, cvv, cn, fr, hV⟩ := A4'.out.view
  have HV := Lib.hid hV
  obtain ⟨cA, cc, hfr⟩ := hV.frR.form
  subst hfr
  have y3 : w4.cell? ⟨rb, 3, none⟩ = some (.slice cA G.D.length cc) := cell_of_row _ _ 3 _ _ _ hV.row
  have ML4 := Lib.hid (fun x (hx : x ∈ M) => Nat.lt_of_lt_of_le (HML.out x hx) B4.out.size)
  have CW := Lib.hid (fun (W : World) (hW : Below w4.heap.size w4 W) => rcopiedW a (.slice A2 a.sub.length c2) W (HS.out.keep (Kp.of_below (B4.out.trans (hW.mono B4.out.size)))) (by have := HOK.out.len; omega))
  clear hV hbig
  go_region_law (first
    | (refine step_append_F0 V7.out.frR (fun b hb h => h (V7.out.frM b hb).1) (by rfl) (.tmp 42) (.tmp 45) 23 (by rfl) Tryd.underlying23 infoAct rfl (by decide) (by rfl) #[.int .i64 a.rule, .slice sA a.sub.length sc] _ (by rfl) (by simp) (x := a) EL.out HN2.out (by decide) G7.out.2 ?_; intro g cap w8 ho ht hat hlt2; obtain ⟨z1, z2⟩ := at_rd V7.out ht; have N1 := Lib.hid (V7.out.fire A7.out ML7.out HXM.out ho ht hat hlt2 HO.out HND.out HOK.out); clear ho ht hat hlt2)
    | (go_simp; go_at_call 61; refine (CW.out _ (Below.refl _ _).drew).mono ?_; rintro e w7 ⟨sv7, rfl, hsv7, hb7⟩; obtain ⟨sA, sc, rfl⟩ := hsv7.form; have g7 : Below w4.heap.size w4 w7 := ((Below.refl w4.heap.size w4).drew).trans (hb7.mono (Nat.le_refl _)); have G7 := Lib.hid (And.intro g7 (Nat.le_trans HBB.out (Nat.le_trans B4.out.size g7.size))); have V7 := Lib.hid (HV.out.below g7); have A7 := Lib.hid (A4'.out.below g7); have ML7 := Lib.hid (fun x (hx : x ∈ M) => Nat.lt_of_lt_of_le (ML4.out x hx) g7.size); have EL := Lib.hid (el_copied (F := fun b => b ∉ M) hsv7 HOK.out (fun b hb hm => by have := ML4.out b hm; have h2 : w4.heap.size ≤ b := hb; omega)); have y7 : w7.cell? ⟨rb, 3, none⟩ = some (.slice cA G.D.length cc) := cell_of_row _ _ 3 _ _ _ V7.out.row; have y7a := fun (o : Obj) => show (w7.alloc o).cell? ⟨rb, 3, none⟩ = some (.slice cA G.D.length cc) from cell_of_row _ _ 3 _ _ _ (V7.out.below ((Below.refl w7.heap.size w7).alloc (Nat.le_refl _) o)).row; clear hsv7 hb7 g7))
  all_goals
    have HF := Lib.hid (HB.out.trans ((B4.out.trans (G7.out.1.mono B4.out.size)).mono HB.out.size))
    clear x0 x1 y3
    go_wp2
    go_ret
    rw [HRR.out]
    exact ⟨rfl, N1.out.from HF.out⟩
end Go.Proofs.YtjgigcnjgblekaaDoor
