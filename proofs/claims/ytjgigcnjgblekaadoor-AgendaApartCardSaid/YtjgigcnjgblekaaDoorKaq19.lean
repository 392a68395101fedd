/- sorted: the acts of a map that are asked for, in their order. The walk. Stratum: the lowest stratum of an act that may fire. The walk. Eligible, Conflict, Fired: what may fire, all acts, what has fired. The walks. -/
import Derived.Test.YtjgigcnjgblekaaDoorKaq16
import Derived.Test.YtjgigcnjgblekaaDoorKaq18
import Derived.Deep.LoopGhost
import Derived.Shelf.Abstract
namespace Go.Proofs.YtjgigcnjgblekaaDoor
open Go Go.RowKit Go.Maps Classical

/-- Acts of the call's own: a row, each act's list in a row of its own. -/
structure Zs (B : Nat) (w : World) (v : Value) (zs : List (Ac × Value)) : Prop where
  row : w.ownsRow B 30 2 v zs.length (zCells zs)
  sub : ∀ z ∈ zs, OwnZ w B z.2 z.1.sub ∧ AcOk z.1
  ne : ∀ z ∈ zs, ∀ b, z.2.ownBlock = some b → v.ownBlock ≠ some b
  ap : zs.Pairwise (fun x y => ∀ b, x.2.ownBlock = some b → y.2.ownBlock ≠ some b)
section
variable {B : Nat} {w w' : World} {v : Value} {zs : List (Ac × Value)}
theorem Zs.nil : Zs B w (.slice none 0 0) [] := ⟨World.ownsRow_nil _ _ _ _, fun z h => by simp at h, fun z h => by simp at h, List.Pairwise.nil⟩
theorem Zs.turns (h : Zs B w v zs) {S : List Nat} (ht : Turns S w w') (hs : ∀ x ∈ S, x < B) : Zs B w' v zs :=
  ⟨ownsRow_turns h.row ht (fun b hb hm => by have := (ownBlock_cells h.row hb).1; have := hs b hm; omega),
   fun z hz => ⟨(h.sub z hz).1.turns ht (fun b hb hm => by have := (ownBlock_cells (h.sub z hz).1 hb).1; have := hs b hm; omega), (h.sub z hz).2⟩, h.ne, h.ap⟩
theorem Zs.below (h : Zs B w v zs) (hb : Below w.heap.size w w') : Zs B w' v zs :=
  ⟨ownsRow_turns h.row (Turns.of_below (S := []) hb) (fun _ _ => by simp), fun z hz => ⟨(h.sub z hz).1.below hb, (h.sub z hz).2⟩, h.ne, h.ap⟩
theorem Zs.down {B' : Nat} (h : Zs B w v zs) (hb : B' ≤ B) : Zs B' w v zs := by
  refine ⟨?_, fun z hz => ⟨(h.sub z hz).1.down hb, (h.sub z hz).2⟩, h.ne, h.ap⟩
  refine ⟨h.row.1, ?_⟩
  rcases h.row.2 with h2 | ⟨g, cap, cur, h1, h2, h3⟩
  · exact .inl h2
  · exact .inr ⟨g, cap, cur, h1, Nat.le_trans hb h2, h3⟩
theorem Zs.form (h : Zs B w v zs) : ∃ A c, v = .slice A zs.length c := own_form1 h.row
theorem zCells_app (zs ys : List (Ac × Value)) : zCells (zs ++ ys) = zCells zs ++ zCells ys := by simp [zCells]
/-- One more comes. -/
theorem Zs.push (h : Zs B w v zs) {w1 w2 : World} (hb : Below w.heap.size w w1) (hB : B ≤ w.heap.size) {a : Ac} {sv : Value} (hs : OwnZ w1 w.heap.size sv a.sub) (hok : AcOk a) {g cap : Nat}
    (hown : w2.ownsRow B 30 2 (.slice (some ⟨g, 0, none⟩) (zs.length + 1) cap) (zs.length + 1) (zCells zs ++ [.int .i64 a.rule, sv])) (T : Turns v.ownBlock.toList w1 w2) (hat : v.ownBlock = some g ∨ w1.heap.size ≤ g) :
    Zs B w2 (.slice (some ⟨g, 0, none⟩) (zs.length + 1) cap) (zs ++ [(a, sv)]) := by
  have h1 := h.below hb
  have svb : ∀ b, sv.ownBlock = some b → w.heap.size ≤ b ∧ b < w1.heap.size := fun b e => ⟨(ownBlock_cells hs e).1, (ownBlock_cells hs e).2.1⟩
  have vb : ∀ b, v.ownBlock = some b → b < w.heap.size := fun b e => (ownBlock_cells h.row e).2.1
  have zb : ∀ z ∈ zs, ∀ b, z.2.ownBlock = some b → b < w.heap.size := fun z hz b e => (ownBlock_cells (h.sub z hz).1 e).2.1
  have memv : ∀ {b : Nat}, b ∈ v.ownBlock.toList → v.ownBlock = some b := fun hm => by simpa using hm
  refine ⟨by rw [zCells_app]; simpa [zCells] using hown, fun z hz => ?_, fun z hz b e => ?_, ?_⟩
  · rcases List.mem_append.1 hz with hz | hz
    · exact ⟨(h1.sub z hz).1.turns T (fun b e hm => h.ne z hz b e (memv hm)), (h.sub z hz).2⟩
    · rw [List.mem_singleton.1 hz]
      exact ⟨(hs.turns T (fun b e hm => by have := svb b e; have := vb b (memv hm); omega)).down hB, hok⟩
  · intro e2
    have eg : b = g := by simpa [Value.ownBlock] using e2.symm
    subst eg
    rcases List.mem_append.1 hz with hz | hz
    · rcases hat with hat | hat
      · exact h.ne z hz b e hat
      · have := zb z hz b e; have := hb.size; omega
    · rw [List.mem_singleton.1 hz] at e
      have := svb b e
      rcases hat with hat | hat
      · have := vb b hat; omega
      · omega
  · rw [List.pairwise_append]
    refine ⟨h.ap, by simp, fun x hx y hy b e e2 => ?_⟩
    rw [List.mem_singleton.1 hy] at e2
    have := zb x hx b e
    have := svb b e2
    omega
/-- In another order. -/
theorem Zs.perm (h : Zs B w v zs) {ys : List (Ac × Value)} (hp : ys.Perm zs) (T : Turns v.ownBlock.toList w w') (hrow : w'.ownsRow B 30 2 v zs.length (zCells ys)) : Zs B w' v ys := by
  have memv : ∀ {b : Nat}, b ∈ v.ownBlock.toList → v.ownBlock = some b := fun hm => by simpa using hm
  refine ⟨by rw [hp.length_eq]; exact hrow, fun z hz => ?_, fun z hz => h.ne z (hp.mem_iff.1 hz), ?_⟩
  · have hz' := hp.mem_iff.1 hz
    exact ⟨(h.sub z hz').1.turns T (fun b e hm => h.ne z hz' b e (memv hm)), (h.sub z hz').2⟩
  · exact (hp.pairwise_iff (fun {x y} hxy b e e2 => hxy b e2 e)).2 h.ap
end
/-- The sort, at none too. -/
theorem sortAny {w : World} {B p c : Nat} {A : Option Addr} {cs : List Cst} {v : Value} {zs : List (Ac × Value)} (h : Zs B w v zs) (hown : ∀ z ∈ zs, ∀ i ∈ z.1.sub, 0 ≤ i ∧ i < (cs.length : Int))
    (hp : w.cell? ⟨p, 1, none⟩ = some (.slice A cs.length c)) (hpB : p < B) (hB : B ≤ w.heap.size) (hc : RSl (fun x => x < B) w 3 ECst (.slice A cs.length c) cs) (hn : zs.length ≤ 1000000000000000) :
    Calls Tryd.prog 56 #[v, .func (.func 57) #[.pointer (some ⟨p, 0, none⟩)] #[]] w fun e w' =>
      e = .returned (.tuple #[]) ∧ ∃ ys : List (Ac × Value), ys.Perm zs ∧ SdA cs (ys.map Prod.fst) ∧ Zs B w' v ys ∧ Turns v.ownBlock.toList w w' := by
  rcases h.row.2 with ⟨rfl, h0⟩ | ⟨b, cap, cur, rfl, hBb, hh, _⟩
  · obtain rfl := List.eq_nil_of_length_eq_zero h0
    have SN := AnyF.slices_SortFunc_none (P := Tryd.prog) (ρ := Tryd.sortA_ren) { Tryd.sortA with } none 0 (.func (.func 57) #[.pointer (some ⟨p, 0, none⟩)] #[]) w
    change Calls Tryd.prog 56 _ _ _ at SN
    refine SN.mono ?_
    rintro e w' ⟨rfl, rfl⟩
    exact ⟨rfl, [], List.Perm.refl _, List.Pairwise.nil, h, Turns.refl _ _⟩
  · refine (sortActs h.row (fun z hz => ⟨(h.sub z hz).1.rsl (fun x e => fun ex => h.ne z hz x e (by rw [ex]; rfl)) (h.sub z hz).2.sub, hown z hz⟩) hp (by omega) (by omega) (hc.kp (Kp.refl _ _) (fun x _ hx e => by omega) (fun _ _ h => h)) hn).mono ?_
    rintro e w' ⟨rfl, ys, h1, h2, h3, h4⟩
    have T : Turns (Value.slice (some ⟨b, 0, none⟩) zs.length cap).ownBlock.toList w w' := by simpa [Value.ownBlock] using h4
    exact ⟨rfl, ys, h1, h2, h.perm h1 T h3, T⟩

theorem RgV.turns {P : Program} {k : TypeId} {w w' : World} {b r N cnt : Nat} {f : Value → Option Value} {left : Value → Prop} {row : Option Nat} (h : RgV P k w b r N f left cnt) (T : Turns row.toList w w') (hb : b ∉ row.toList) (hr : r ∉ row.toList) : RgV P k w' b r N f left cnt :=
  h.kept (row := row) ⟨T.os, T.tape, T.output, T.size, fun x hx hn => T.block x hx (fun hm => hn (by simpa [eq_comm] using hm))⟩ (fun e => hb (by rw [← e]; simp)) (fun e => hr (by rw [← e]; simp))
/-- What `sorted` leaves. -/
def SrtRes (cs : List Cst) (l : List Ac) (w : World) (e : Ending) (w' : World) : Prop := ∃ v zs, e = .returned v ∧ Zs w.heap.size w' v zs ∧ zs.map Prod.fst = sortA cs l ∧ Below w.heap.size w w'
theorem nod_len {l S : List Ac} (h1 : l.Nodup) (h2 : S.Nodup) (h : ∀ a ∈ l, a ∈ S) : l.length ≤ S.length := by
  have hp : l.Perm (S.filter fun a => decide (a ∈ l)) := (List.perm_ext_iff_of_nodup h1 (h2.filter _)).2 (fun a => by
    rw [List.mem_filter]
    simp only [decide_eq_true_eq]
    exact ⟨fun ha => ⟨h a ha, ha⟩, fun ha => ha.2⟩)
  rw [hp.length_eq]
  exact List.length_filter_le _ _
theorem filter_snoc {α : Type} (p : α → Bool) (l : List α) (a : α) : (l ++ [a]).filter p = l.filter p ++ (if p a = true then [a] else []) := by
  rw [List.filter_append]
  congr 1
  by_cases h : p a = true <;> simp [List.filter, h]
set_option maxRecDepth 100000 in
set_option maxHeartbeats 4000000 in
theorem sortedW {M : List Nat} {p mc mf N g N0 : Nat} {cb : Array Value} {G : Agd} {S : List Ac} (P : Ac → Bool) (m : Nat) (w : World) (h : AgAt M w p mc mf G N0) (hS : ActMap (fun b => b ∉ M) w m S N) (hnd : S.Nodup) (hown : ∀ a ∈ S, ownA G a) (hlen : S.length ≤ 40000000)
    (eg : ∀ args w, (callFunc g args).run Tryd.prog w = .ok (.enter g args) w)
    (hask : ∀ a ∈ S, ∀ (sv : Value) (W : World), Below w.heap.size w W → RSl (fun _ => True) W 1 EInt sv a.sub → Calls Tryd.prog g (#[keyV a, .agg #[.int .i64 a.rule, sv]] ++ cb) W fun e w' => e = .returned (.bool (P a)) ∧ Below W.heap.size W w') :
    Calls Tryd.prog 36 #[.pointer (some ⟨p, 0, none⟩), .map (some m), .func (.func g) #[] cb] w (SrtRes G.cs (S.filter P) w) := by
  obtain ⟨f, hmap, hf1, hf2⟩ := hS
  obtain ⟨i0, hi, hz0, hz1, hz2⟩ := info_parts infoAct
  obtain ⟨w1, cnt0, hrange, hR0, hcN, hgr, hsz1⟩ := hmap.range keyedS (t := 77) Tryd.underlying77
  have hb1 : Below w.heap.size w w1 := ((Turns.of_grown hgr).below (Nat.le_refl _) (fun x hx => by simp at hx))
  have HA := Lib.hid h
  have HF1 := Lib.hid hf1
  have HF2 := Lib.hid hf2
  have HW := Lib.hid hown
  have HN := Lib.hid hnd
  have HK := Lib.hid hask
  have HLEN := Lib.hid hlen
  have HR0 := Lib.hid hR0
  have HB1 := Lib.hid hb1
  have hml := hmap.lt
  have HML := Lib.hid hml
  clear h hf1 hf2 hown hnd hask hlen hR0 hmap hgr hb1 hml
  go_enter Tryd.func36, Tryd.ntmps36
  go_wp2
  go_loopg [7] cnt0 (fun gk lv wr => ∃ (done : List Ac) (zs : List (Ac × Value)) (cnt : Nat), RgV Tryd.prog 9 wr m w.heap.size N f (fun u => f u ≠ none ∧ ∀ a ∈ done, u ≠ keyV a) cnt ∧ cnt ≤ gk ∧ Zs (w.heap.size + 1) wr lv zs ∧
    zs.map Prod.fst = done.filter P ∧ done.Nodup ∧ (∀ a ∈ done, a ∈ S) ∧ Below w.heap.size w wr ∧ w.heap.size + 1 ≤ wr.heap.size)
  case atStart =>
    refine ⟨[], [], cnt0, ?_, Nat.le_refl _, Zs.nil, rfl, List.nodup_nil, fun a ha => by simp at ha, HB1.out, by omega⟩
    have := HR0.out
    simpa using this
  case round =>
    obtain ⟨done, zs, cnt, hR, hcnt, hZ, hzd, hdn, hdS, hb, hsz⟩ := hrel
    have HZ := Lib.hid hZ
    have HZD := Lib.hid hzd
    have HDN := Lib.hid hdn
    have HDS := Lib.hid hdS
    have HB := Lib.hid hb
    have HR := Lib.hid hR
    obtain ⟨va, vc, rfl⟩ := hZ.form
    rcases hR.next keyedS 0 with ⟨h0, hno, hnext⟩ | ⟨key, v, l, w2, cnt2, hkey, hleft, hfk, hnext, hR2, hlt, hgr2, hsz2, hentry⟩
    · -- the end: the sort
      have hall : ∀ a ∈ S, a ∈ done := fun a ha => by
        obtain ⟨hok, sv, hfa, _⟩ := HF1.out a ha
        obtain ⟨l, hl⟩ := keyV_key hok
        have := hno _ _ hl
        refine Classical.byContradiction fun hn => this ⟨(by rw [hfa]; exact (fun h => by cases h)), fun b hb e => hn (by rw [keyV_inj e]; exact hb)⟩
      have hperm : done.Perm S := (List.perm_ext_iff_of_nodup hdn HN.out).2 (fun a => ⟨fun h => hdS a h, fun h => hall a h⟩)
      obtain ⟨A1, c1, A2, c2, y0, y1, y2, y3, L1, L2⟩ := (HA.out.below hb).cells
      have hlz : zs.length ≤ 40000000 := by
        have e1 : zs.length = (zs.map Prod.fst).length := by simp
        rw [e1, hzd]
        have h2 := List.length_filter_le P done
        have h3 := hperm.length_eq
        have := HLEN.out
        omega
      have hpl := HA.out.lt
      have L2' := (HA.out.cells).choose_spec.choose_spec.choose_spec.choose_spec
      have SC := Lib.hid (sortAny (B := w.heap.size + 1) (w := wr) (p := p) (c := c2) (A := A2) (cs := G.cs) (v := .slice va zs.length vc) (zs := zs) hZ (fun z hz i hi => by
        have hz1 : z.1 ∈ done := by
          have : z.1 ∈ zs.map Prod.fst := List.mem_map_of_mem hz
          rw [hzd] at this
          exact (List.mem_filter.1 this).1
        exact (HW.out z.1 (hdS _ hz1)).2 i hi) y1 (by omega) hsz (by
          have e1 := L2'.2.1
          rw [(hb.cell (p := ⟨p, 1, none⟩) hpl)] at y1
          have e2 : some (Value.slice A2 G.cs.length c2) = some (Value.slice _ G.cs.length _) := y1.symm.trans e1
          injection e2 with e2
          rw [e2]
          exact (L2'.2.2.2.2.2.kp (F' := fun x => x < w.heap.size + 1) (Kp.refl _ _) (fun x hx _ => by show x < w.heap.size + 1; omega) (fun _ _ h => h)).keep (Kp.of_below hb)) (by omega))
      have HP := Lib.hid hperm
      clear hno hall hperm y0 y1 y2 y3 L1 L2 L2' hR hZ hzd hdn hdS hb
      go_wp2_with fail
      refine SC.out.mono ?_
      rintro e w4 ⟨rfl, ys, k1, k2, k3, k4⟩
      have HE := Lib.hid (And.intro k1 (And.intro k2 (And.intro k3 k4)))
      clear k1 k2 k3 k4 SC
      go_wp2
      go_ret
      refine ⟨_, ys, rfl, HE.out.2.2.1.down (Nat.le_succ _), ?_, HB.out.trans (HE.out.2.2.2.below HB.out.size (fun x hx => by have := (ownBlock_cells HZ.out.row (by simpa using hx)).1; omega))⟩
      refine sortA_of HE.out.2.1 ?_
      have e1 := HE.out.1.map Prod.fst
      rw [HZD.out] at e1
      exact e1.trans (HP.out.filter P)
    · -- one more key
      obtain ⟨a, haS, rfl⟩ := HF2.out key v hfk
      obtain ⟨hok, sv, hfa, hsv⟩ := HF1.out a haS
      have ev : v = .agg #[.int .i64 a.rule, sv] := by
        rw [hfa] at hfk
        exact (Option.some.inj hfk).symm
      subst ev
      have hnd : a ∉ done := fun hm => hleft.2 a hm rfl
      have T2 : Turns [w.heap.size] wr w2 := Turns.of_grown hgr2
      have hb2 : Below w.heap.size w w2 := hb.trans (T2.below (by omega) (fun x hx => by rw [List.mem_singleton.1 hx]; exact Nat.le_refl _))
      have hZ2 := hZ.turns T2 (fun x hx => by rw [List.mem_singleton.1 hx]; omega)
      obtain ⟨sA, sc, rfl⟩ := hsv.form
      have hR3 : RgV Tryd.prog 9 w2 m w.heap.size N f (fun u => f u ≠ none ∧ ∀ b ∈ done ++ [a], u ≠ keyV b) cnt2 := by
        have e : (fun u => (f u ≠ none ∧ ∀ a ∈ done, u ≠ keyV a) ∧ u ≠ keyV a) = (fun u => f u ≠ none ∧ ∀ b ∈ done ++ [a], u ≠ keyV b) := by
          funext u
          apply propext
          constructor
          · rintro ⟨⟨h1, h2⟩, h3⟩
            refine ⟨h1, fun b hb => ?_⟩
            rcases List.mem_append.1 hb with hb | hb
            · exact h2 b hb
            · rw [List.mem_singleton.1 hb]; exact h3
          · rintro ⟨h1, h2⟩
            exact ⟨⟨h1, fun b hb => h2 b (List.mem_append_left _ hb)⟩, h2 a (by simp)⟩
        rw [← e]
        exact hR2
      have HR3 := Lib.hid hR3
      have HZ2 := Lib.hid hZ2
      have HB2 := Lib.hid hb2
      have hdn2 : (done ++ [a]).Nodup := nod_snoc hdn hnd
      have HD2 := Lib.hid (And.intro hdn2 (show ∀ b ∈ done ++ [a], b ∈ S from fun b hb => by
        rcases List.mem_append.1 hb with hb | hb
        · exact hdS b hb
        · rw [List.mem_singleton.1 hb]; exact haS))
      have HSV := Lib.hid hsv
      have HOK := Lib.hid hok
      have hlz : zs.length ≤ 40000000 := by
        have e1 : zs.length = (zs.map Prod.fst).length := by simp
        rw [e1, hzd]
        have h2 := List.length_filter_le P done
        have h3 : done.length ≤ S.length := nod_len hdn HN.out hdS
        have := HLEN.out
        omega
      obtain ⟨w3, hw3⟩ : ∃ w3, w3 = w2.alloc (.cells #[.int .i64 a.rule, .slice sA a.sub.length sc] 30) := ⟨_, rfl⟩
      have hb3 : Below w2.heap.size w2 w3 := by rw [hw3]; exact (Below.refl _ _).alloc (Nat.le_refl _) _
      have hs23 : w3.heap.size = w2.heap.size + 1 := by rw [hw3]; simp
      have b0 : w3.cell? ⟨w2.heap.size, 0, none⟩ = some (.int .i64 a.rule) := by rw [hw3]; exact cell_of_row _ _ 0 _ _ _ (heap_alloc_new w2 _)
      have b1 : w3.cell? ⟨w2.heap.size, 1, none⟩ = some (.slice sA a.sub.length sc) := by rw [hw3]; exact cell_of_row _ _ 1 _ _ _ (heap_alloc_new w2 _)
      rw [hsz2] at b0 b1
      have CA := Lib.hid (HK.out a haS (.slice sA a.sub.length sc) w3 (hb2.trans (hb3.mono hb2.size)) ((hsv.keep (Kp.of_below (hb2.trans (hb3.mono hb2.size)))).kp (Kp.refl _ _) (fun _ _ _ => trivial) (fun _ _ h => h)))
      have HB3 := Lib.hid hb3
      have B0 := Lib.hid (And.intro b0 b1)
      clear hR hZ hzd hdn hdS hb hkey hleft hfk hR2 hR3 hZ2 hb2 hfa hsv hok hnd hdn2 hb3 hgr2 T2 b0 b1
      go_upto_region 5 with fail
      rw [← hw3]
      clear hw3
      obtain ⟨b0, b1⟩ := B0.out
      cases hP : P a with
      | false =>
        rw [hP] at CA
        have HPF := Lib.hid hP
        clear hP
        go_wp2_with fail
        refine CA.out.mono ?_
        rintro e w4 ⟨rfl, hb4⟩
        have hbb := HB3.out.trans (hb4.mono HB3.out.size)
        have FR := Lib.hid (show RgV Tryd.prog 9 w4 m w.heap.size N f _ cnt2 from HR3.out.kept (row := none) ⟨hbb.os, hbb.tape, hbb.output, hbb.size, fun k hk _ => hbb.block k hk⟩ (by simp) (by simp))
        have FZ := Lib.hid (HZ2.out.below hbb)
        have FB := Lib.hid (HB2.out.trans (hbb.mono HB2.out.size))
        have FS := Lib.hid (show w.heap.size + 1 ≤ w4.heap.size by have := hbb.size; omega)
        clear hb4 hbb CA
        go_wp2
        go_roundg cnt2
        case measure => omega
        case rel => exact ⟨done ++ [a], zs, cnt2, FR.out, Nat.le_refl _, FZ.out, by rw [filter_snoc, HPF.out, HZD.out]; simp, HD2.out.1, HD2.out.2, FB.out, FS.out⟩
      | true =>
        rw [hP] at CA
        have HPF := Lib.hid hP
        clear hP
        go_wp2_with fail
        refine CA.out.mono ?_
        rintro e w4 ⟨rfl, hb4⟩
        have hbb := HB3.out.trans (hb4.mono HB3.out.size)
        have FR := Lib.hid (show RgV Tryd.prog 9 w4 m w.heap.size N f _ cnt2 from HR3.out.kept (row := none) ⟨hbb.os, hbb.tape, hbb.output, hbb.size, fun k hk _ => hbb.block k hk⟩ (by simp) (by simp))
        have FZ := Lib.hid (HZ2.out.below hbb)
        have FB := Lib.hid (HB2.out.trans (hbb.mono HB2.out.size))
        have FS := Lib.hid (show w.heap.size + 1 ≤ w4.heap.size by have := hbb.size; omega)
        have z0 := (hb4.cell (p := ⟨wr.heap.size, 0, none⟩) (by show wr.heap.size < w3.heap.size; omega)).trans b0
        have z1 := (hb4.cell (p := ⟨wr.heap.size, 1, none⟩) (by show wr.heap.size < w3.heap.size; omega)).trans b1
        have CP := Lib.hid (copiedW a (.slice sA a.sub.length sc) w4 (HSV.out.keep (Kp.of_below FB.out)) (by have := HOK.out.len; omega))
        clear hb4 hbb CA b0 b1
        go_wp2_with fail
        refine CP.out.mono ?_
        rintro e w5 ⟨sv5, rfl, ho5, hb5⟩
        obtain ⟨s5, c5, hsv5⟩ := ho5.form
        subst hsv5
        have HO5 := Lib.hid ho5
        have HB5 := Lib.hid hb5
        clear ho5 hb5 CP z0 z1
        have RW := Lib.hid ((FZ.out.below HB5.out).row)
        have hs5 : w.heap.size + 1 ≤ w5.heap.size := by have := HB5.out.size; have := FS.out; omega
        go_wp2_with (at_builtin; refine wpList_append1s _ rfl (.tmp 21) (.tmp 24) 23 rfl (w.heap.size + 1) 30 i0 _ 2 32 Tryd.underlying23 hi hz0 hz1 hz2 rfl (by decide) _ _ _ rfl (ownsRow_turns RW.out (Turns.of_below (S := []) ((Below.refl _ w5).alloc (Nat.le_refl _) _)) (fun _ _ => by simp)) ⟨w5.heap.size, 0, none⟩ 1 [.int .i64 a.rule, .slice s5 a.sub.length c5] rfl rfl (World.news_of_block (heap_alloc_new w5 _)) (by simp [Value.oneCell']) hlz (by decide) (by simp; omega) _ rfl ?_; intro g6 cap w6 hown6 hgrow6 hat6 hlt6; have N1 := Lib.hid hown6; have N2 := Lib.hid hgrow6; have N3 := Lib.hid hat6; clear hown6 hgrow6 hat6 hlt6)
        have T6 : Turns (Value.slice va zs.length vc).ownBlock.toList w5 w6 := (((Turns.refl [] w5).alloc _).mono (by simp)).trans (Turns.of_grown N2.out) (fun x hx => .inl hx)
        have hvb : ∀ x ∈ (Value.slice va zs.length vc).ownBlock.toList, w.heap.size + 1 ≤ x := fun x hx => (ownBlock_cells HZ.out.row (by simpa using hx)).1
        have FZ6 := Lib.hid (FZ.out.push (w1 := w5) (w2 := w6) HB5.out FS.out HO5.out HOK.out N1.out T6 (by
          rcases N3.out with h | h
          · exact .inl h
          · right; rw [h.1]; simp))
        have FR6 := Lib.hid (((FR.out.kept (row := none) ⟨HB5.out.os, HB5.out.tape, HB5.out.output, HB5.out.size, fun k hk _ => HB5.out.block k hk⟩ (by simp) (by simp))).turns T6 (fun hm => by have := hvb m hm; have := HML.out; omega) (fun hm => by have := hvb _ hm; omega))
        have FB6 := Lib.hid ((FB.out.trans (HB5.out.mono FB.out.size)).trans (T6.below (by omega) (fun x hx => by have := hvb x hx; omega)))
        have FS6 := Lib.hid (show w.heap.size + 1 ≤ w6.heap.size by have := T6.size; omega)
        clear T6 hvb
        go_wp2
        go_roundg cnt2
        case measure => omega
        case rel => exact ⟨done ++ [a], zs ++ [(a, .slice s5 a.sub.length c5)], cnt2, FR6.out, Nat.le_refl _, FZ6.out, by rw [filter_snoc, HPF.out, List.map_append, HZD.out]; simp, HD2.out.1, HD2.out.2, FB6.out, FS6.out⟩
end Go.Proofs.YtjgigcnjgblekaaDoor

namespace Go.Proofs.YtjgigcnjgblekaaDoor
open Go Go.RowKit Go.Maps Classical

theorem lvl_at {g : Agd} {a : Ac} (h : ownA g a) : g.lv[a.rule.toNat]? = some (lvl g.lv a) := by
  have h1 := h.1
  unfold lvl
  rw [List.getD_eq_getElem?_getD, List.getElem?_eq_getElem (by omega)]
  rfl
theorem low_filter {lv : List Int} {D : List Ac} {l : List Ac} {a : Ac} {s : Int} (hp : ∀ b, 0 ≤ lvl lv b) (h : Low lv (l.filter fun b => decide (b ∉ D)) s) (ha : a ∉ D) : Low lv ((l ++ [a]).filter fun b => decide (b ∉ D)) (lowS lv s a) := by
  rw [filter_snoc, if_pos (decide_eq_true ha)]
  exact low_step (fun b _ => hp b) h a
theorem low_skip {lv : List Int} {D : List Ac} {l : List Ac} {a : Ac} {s : Int} (h : Low lv (l.filter fun b => decide (b ∉ D)) s) (ha : a ∈ D) : Low lv ((l ++ [a]).filter fun b => decide (b ∉ D)) s := by
  rw [filter_snoc, if_neg (by simpa using ha), List.append_nil]
  exact h
/-- The keys that are left, with one more done. -/
theorem left_snoc {f : Value → Option Value} {done : List Ac} {a : Ac} : (fun u => (f u ≠ none ∧ ∀ b ∈ done, u ≠ keyV b) ∧ u ≠ keyV a) = (fun u => f u ≠ none ∧ ∀ b ∈ done ++ [a], u ≠ keyV b) := by
  funext u
  apply propext
  constructor
  · rintro ⟨⟨h1, h2⟩, h3⟩
    refine ⟨h1, fun b hb => ?_⟩
    rcases List.mem_append.1 hb with hb | hb
    · exact h2 b hb
    · rw [List.mem_singleton.1 hb]; exact h3
  · rintro ⟨h1, h2⟩
    exact ⟨⟨h1, fun b hb => h2 b (List.mem_append_left _ hb)⟩, h2 a (by simp)⟩
theorem RgV.below {P : Program} {k : TypeId} {w w' : World} {b r N cnt : Nat} {f : Value → Option Value} {left : Value → Prop} (h : RgV P k w b r N f left cnt) (hb : Below w.heap.size w w') : RgV P k w' b r N f left cnt :=
  h.kept (row := none) ⟨hb.os, hb.tape, hb.output, hb.size, fun x hx _ => hb.block x hx⟩ (by simp) (by simp)
theorem below_drewNA {B : Nat} {a w : World} (h : Below B a w) (n : Nat) : Below B a (w.drewN n) := ⟨h.os, h.tape, h.output, h.size, h.block⟩
theorem lookAct {M : List Nat} {w : World} {p mc mf N : Nat} {g : Agd} (h : AgAt M w p mc mf g N) {a : Ac} (ha : AcOk a) : ∃ (u0 : Int) (uA : Option Addr) (u1 u2 : Nat), (Instr.lookup 77 (.map (some mf)) (keyV a) true).run Tryd.prog w = .ok (.tuple #[.agg #[.int .i64 u0, .slice uA u1 u2], .bool (decide (a ∈ g.D))]) w := by
  by_cases hd : a ∈ g.D
  · obtain ⟨sv, h1, h2⟩ := h.fir.in hd
    obtain ⟨A, c, rfl⟩ := h2.form
    exact ⟨a.rule, A, _, c, by rw [h1, decide_eq_true hd]⟩
  · exact ⟨0, none, 0, 0, by rw [h.fir.out ha hd, decide_eq_false hd]; rfl⟩

set_option maxRecDepth 100000 in
set_option maxHeartbeats 4000000 in
theorem stratumW {M : List Nat} {p mc mf N : Nat} {G : Agd} (w : World) (h : AgAt M w p mc mf G N) :
    Calls Tryd.prog 12 #[.pointer (some ⟨p, 0, none⟩)] w fun e w' => e = .returned (.int .i64 (strA G)) ∧ Below w.heap.size w w' := by
  obtain ⟨f, hmap, hf1, hf2⟩ := h.con
  obtain ⟨w1, cnt0, hrange, hR0, hcN, hgr, hsz1⟩ := hmap.range keyedS (t := 77) Tryd.underlying77
  have hb1 : Below w.heap.size w w1 := ((Turns.of_grown hgr).below (Nat.le_refl _) (fun x hx => by simp at hx))
  have HA := Lib.hid h
  have HF1 := Lib.hid hf1
  have HF2 := Lib.hid hf2
  have HR0 := Lib.hid hR0
  have HB1 := Lib.hid hb1
  obtain ⟨A1, c1, A2, c2, y0, y1, y2, y3, L1, L2⟩ := h.cells
  have HL0 := Lib.hid (show Low G.lv (([] : List Ac).filter fun b => decide (b ∉ G.D)) (-1) from .inl ⟨rfl, rfl⟩)
  clear h hf1 hf2 hR0 hmap hgr hb1 y0 y1 y3 L1 L2
  go_enter Tryd.func12, Tryd.ntmps12
  go_wp2
  go_loopg [3] cnt0 (fun gk lv wr => ∃ (s : Int) (done : List Ac) (cnt : Nat), lv = .int .i64 s ∧ RgV Tryd.prog 9 wr mc w.heap.size N f (fun u => f u ≠ none ∧ ∀ a ∈ done, u ≠ keyV a) cnt ∧ cnt ≤ gk ∧
    Hid (Low G.lv (done.filter fun b => decide (b ∉ G.D)) s) ∧ done.Nodup ∧ (∀ a ∈ done, a ∈ G.C) ∧ Below w.heap.size w wr ∧ w.heap.size + 1 ≤ wr.heap.size)
  case atStart =>
    refine ⟨-1, [], cnt0, rfl, ?_, Nat.le_refl _, HL0, List.nodup_nil, fun a ha => by simp at ha, HB1.out, by omega⟩
    have := HR0.out
    simpa using this
  case round =>
    obtain ⟨s, done, cnt, rfl, hR, hcnt, HLO, hdn, hdS, hb, hsz⟩ := hrel
    have HB := Lib.hid hb
    rcases hR.next keyedS 0 with ⟨h0, hno, hnext⟩ | ⟨key, v, l, w2, cnt2, hkey, hleft, hfk, hnext, hR2, hlt, hgr2, hsz2, hentry⟩
    · have hall : ∀ a ∈ G.C, a ∈ done := fun a ha => by
        obtain ⟨hok, sv, hfa, _⟩ := HF1.out a ha
        obtain ⟨l, hl⟩ := keyV_key hok
        have := hno _ _ hl
        refine Classical.byContradiction fun hn => this ⟨(by rw [hfa]; exact (fun h => by cases h)), fun b hb e => hn (by rw [keyV_inj e]; exact hb)⟩
      have hs : s = strA G := by
        refine low_un (lv := G.lv) (l := done.filter fun b => decide (b ∉ G.D)) (m := openA G) (fun a => ?_) HLO.out (strL_low (lvl_pos HA.out.ok) (openA G))
        unfold openA
        simp only [List.mem_filter]
        exact ⟨fun h => ⟨hdS a h.1, h.2⟩, fun h => ⟨hall a h.1, h.2⟩⟩
      have HS := Lib.hid hs
      clear hno hall hs hR hdn hdS hb
      go_wp2
      go_ret
      exact ⟨ret_i64A HS.out, HB.out⟩
    · obtain ⟨a, haS, rfl⟩ := HF2.out key v hfk
      obtain ⟨hok, sv, hfa, hsv⟩ := HF1.out a haS
      have ev : v = .agg #[.int .i64 a.rule, sv] := by
        rw [hfa] at hfk
        exact (Option.some.inj hfk).symm
      subst ev
      obtain ⟨sA, sc, rfl⟩ := hsv.form
      have hnd : a ∉ done := fun hm => hleft.2 a hm rfl
      have T2 : Turns [w.heap.size] wr w2 := Turns.of_grown hgr2
      have hb2 : Below w.heap.size w w2 := hb.trans (T2.below (by omega) (fun x hx => by rw [List.mem_singleton.1 hx]; exact Nat.le_refl _))
      rw [left_snoc] at hR2
      have HD2 := Lib.hid (And.intro (nod_snoc hdn hnd) (show ∀ b ∈ done ++ [a], b ∈ G.C from fun b hb => by
        rcases List.mem_append.1 hb with hb | hb
        · exact hdS b hb
        · rw [List.mem_singleton.1 hb]; exact haS))
      obtain ⟨w3, hw3⟩ : ∃ w3, w3 = w2.alloc (.cells #[.int .i64 a.rule, .slice sA a.sub.length sc] 30) := ⟨_, rfl⟩
      have hb3 : Below w2.heap.size w2 w3 := by rw [hw3]; exact (Below.refl _ _).alloc (Nat.le_refl _) _
      have hs23 : w3.heap.size = wr.heap.size + 1 := by rw [hw3]; simp [hsz2]
      have b0 : w3.cell? ⟨wr.heap.size, 0, none⟩ = some (.int .i64 a.rule) := by rw [hw3, ← hsz2]; exact cell_of_row _ _ 0 _ _ _ (heap_alloc_new w2 _)
      have hA3 := HA.out.below (hb2.trans (hb3.mono hb2.size))
      have HB3 := Lib.hid (hb2.trans (hb3.mono hb2.size))
      obtain ⟨u0, uA, u1, u2, hlook⟩ := lookAct hA3 hok
      obtain ⟨A3, c3, A4, c4, q0, q1, q2, q3, L3, L4⟩ := hA3.cells
      have HRR := Lib.hid (hR2.below hb3)
      have b0w := Lib.hid b0
      have own := HA.out.ok.ownC a haS
      have HOWN := Lib.hid own
      have HA3 := Lib.hid hA3
      have HPS := Lib.hid (lvl_pos HA.out.ok)
      clear hR hdn hdS hb hkey hleft hfk hR2 hb2 hfa hsv hnd hb3 hgr2 T2 own hA3 q0 q1 q2 L3 L4
      by_cases hD : a ∈ G.D
      · have HLN := Lib.hid (low_skip HLO.out hD)
        rw [decide_eq_true hD] at hlook
        go_upto_region 7 with fail
        rw [← hw3]
        have HB4 := Lib.hid (show Below w3.heap.size w3 (w3.alloc (.cells #[.int .i64 u0, .slice uA u1 u2] 30)) from (Below.refl _ _).alloc (Nat.le_refl _) _)
        clear hw3
        go_wp2
        go_roundg cnt2
        case measure => omega
        case rel => exact ⟨s, done ++ [a], cnt2, rfl, HRR.out.below HB4.out, Nat.le_refl _, HLN, HD2.out.1, HD2.out.2, HB3.out.trans (HB4.out.mono HB3.out.size), by have := HB4.out.size; omega⟩
      · have HLN := Lib.hid (low_filter HPS.out HLO.out hD)
        rw [decide_eq_false hD] at hlook
        go_upto_region 7 with fail
        rw [← hw3]
        obtain ⟨w4, hw4⟩ : ∃ w4, w4 = w3.alloc (.cells #[.int .i64 u0, .slice uA u1 u2] 30) := ⟨_, rfl⟩
        have hb4 : Below w3.heap.size w3 w4 := by rw [hw4]; exact (Below.refl _ _).alloc (Nat.le_refl _) _
        have HB4 := Lib.hid hb4
        obtain ⟨A5, c5, A6, c6, k0, k1, k2, k3, L5, L6⟩ := (HA3.out.below hb4).cells
        obtain ⟨lb, lo, hAe, _, _, ds, ⟨rfl, lok⟩, hd⟩ := L5.at (lvl_at HOWN.out)
        subst hAe
        have d0 := hd 0 _ rfl
        simp only [Nat.add_zero, Nat.mul_one] at d0
        have b4 := (hb4.cell (p := ⟨wr.heap.size, 0, none⟩) (by show wr.heap.size < w3.heap.size; omega)).trans b0
        have i1 := HOWN.out.1.1
        have i2 := HOWN.out.1.2
        obtain ⟨lv, hlv⟩ : ∃ x, lvl G.lv a = x := ⟨_, rfl⟩
        rw [hlv] at d0
        have HLV := Lib.hid hlv
        clear hw3 hb4 k1 k2 k3 L5 L6 hd lok hlv
        go_upto_region 9 with fail
        rw [← hw4]
        clear hw4
        go_quiet (fail)
        have HQ := Lib.hid (below_drewNA (Below.refl w4.heap.size w4) nq)
        have HBQ := Lib.hid (HB4.out.trans (HQ.out.mono HB4.out.size))
        by_cases hlow : s < 0 ∨ lv < s
        · have HE := Lib.hid (show lowS G.lv s a = lv by unfold lowS; rw [HLV.out, if_pos hlow])
          by_cases hs0 : s < 0
          · go_wp2
            go_roundg cnt2
            case measure => omega
            case rel => exact ⟨lv, done ++ [a], cnt2, rfl, HRR.out.below HBQ.out, Nat.le_refl _, (by rw [← HE.out]; exact HLN), HD2.out.1, HD2.out.2, HB3.out.trans (HBQ.out.mono HB3.out.size), by have := HBQ.out.size; omega⟩
          · have hls : lv < s := by omega
            go_wp2
            go_roundg cnt2
            case measure => omega
            case rel => exact ⟨lv, done ++ [a], cnt2, rfl, HRR.out.below HBQ.out, Nat.le_refl _, (by rw [← HE.out]; exact HLN), HD2.out.1, HD2.out.2, HB3.out.trans (HBQ.out.mono HB3.out.size), by have := HBQ.out.size; omega⟩
        · have HE := Lib.hid (show lowS G.lv s a = s by unfold lowS; rw [HLV.out, if_neg hlow])
          have hs0 : ¬ s < 0 := fun h => hlow (.inl h)
          have hls : ¬ lv < s := fun h => hlow (.inr h)
          have hd1 : decide (s < 0) = false := decide_eq_false hs0
          have hd2 : decide (lv < s) = false := decide_eq_false hls
          go_wp2
          go_roundg cnt2
          case measure => omega
          case rel => exact ⟨s, done ++ [a], cnt2, rfl, HRR.out.below HBQ.out, Nat.le_refl _, (by rw [HE.out] at HLN; exact HLN), HD2.out.1, HD2.out.2, HB3.out.trans (HBQ.out.mono HB3.out.size), by have := HBQ.out.size; omega⟩
end Go.Proofs.YtjgigcnjgblekaaDoor

namespace Go.Proofs.YtjgigcnjgblekaaDoor
open Go Go.RowKit Go.Maps Classical

theorem everyW (k : ByteArray) (r : Int) (A : Option Addr) (n c : Nat) (w : World) : Calls Tryd.prog 38 #[.string k, .agg #[.int .i64 r, .slice A n c]] w fun e w' => e = .returned (.bool true) ∧ Below w.heap.size w w' := by
  go_enter Tryd.func38, Tryd.ntmps38
  go_wp2
  go_ret
  exact ⟨rfl, by first | exact Below.refl _ _ | exact (Below.refl _ _).alloc (Nat.le_refl _) _⟩
/-- Asked for by Eligible. -/
noncomputable def elP (g : Agd) (a : Ac) : Bool := decide (lvl g.lv a = strA g) && decide (a ∉ g.D)
theorem elig_filter (g : Agd) : sortA g.cs (g.C.filter (elP g)) = eligA g := by
  unfold eligA openA
  rw [List.filter_filter]
  rfl
set_option maxRecDepth 100000 in
set_option maxHeartbeats 4000000 in
theorem elig1W {M : List Nat} {p mc mf N ba bl : Nat} {G : Agd} (a : Ac) (sv : Value) (w : World) (h : AgAt M w p mc mf G N) (hown : ownA G a) (hok : AcOk a) (hsv : RSl (fun _ => True) w 1 EInt sv a.sub) (ca : w.cell? ⟨ba, 0, none⟩ = some (.pointer (some ⟨p, 0, none⟩))) (cl : w.cell? ⟨bl, 0, none⟩ = some (.int .i64 (strA G)))
    (la : ba < w.heap.size) (ll : bl < w.heap.size) :
    Calls Tryd.prog 37 #[keyV a, .agg #[.int .i64 a.rule, sv], .pointer (some ⟨ba, 0, none⟩), .pointer (some ⟨bl, 0, none⟩)] w fun e w' => e = .returned (.bool (elP G a)) ∧ Below w.heap.size w w' := by
  obtain ⟨A, c, rfl⟩ := hsv.form
  obtain ⟨w0, hw0⟩ : ∃ w0, w0 = w.alloc (.cells #[.int .i64 a.rule, .slice A a.sub.length c] 30) := ⟨_, rfl⟩
  have hx0 : Below (w.heap.size + 1) (w.alloc (.cells #[.int .i64 a.rule, .slice A a.sub.length c] 30)) w0 := by rw [hw0]; exact Below.refl _ _
  have hb0 := box_belowD hx0
  have hs0 : w0.heap.size = w.heap.size + 1 := by rw [hw0]; simp
  have hA0 := h.below hb0
  obtain ⟨u0, uA, u1, u2, hlook⟩ := lookAct hA0 hok
  have x0 := box_cellD hx0 0 rfl
  have ca0 := (hb0.cell (p := ⟨ba, 0, none⟩) la).trans ca
  have cl0 := (hb0.cell (p := ⟨bl, 0, none⟩) ll).trans cl
  obtain ⟨A3, c3, A4, c4, q0, q1, q2, q3, L3, L4⟩ := hA0.cells
  have HP := Lib.hid h
  have HB0 := Lib.hid hb0
  obtain ⟨s, hs⟩ : ∃ s, strA G = s := ⟨_, rfl⟩
  rw [hs] at cl0
  have HS := Lib.hid hs
  have HA0 := Lib.hid hA0
  have HOWN := Lib.hid hown
  have i1 := hown.1.1
  have i2 := hown.1.2
  clear h hx0 hb0 hA0 ca cl hown hs q0 q1 q2 L3 L4
  go_enter Tryd.func37, Tryd.ntmps37
  go_upto_region 1 with fail
  rw [← hw0]
  clear hw0
  obtain ⟨w1, hw1⟩ : ∃ w1, w1 = w0.alloc (.cells #[.int .i64 u0, .slice uA u1 u2] 30) := ⟨_, rfl⟩
  have hb1 : Below w0.heap.size w0 w1 := by rw [hw1]; exact (Below.refl _ _).alloc (Nat.le_refl _) _
  have HB1 := Lib.hid (HB0.out.trans (hb1.mono HB0.out.size))
  obtain ⟨A5, c5, A6, c6, k0, k1, k2, k3, L5, L6⟩ := (HA0.out.below hb1).cells
  obtain ⟨lb, lo, hAe, _, _, ds, ⟨rfl, lok⟩, hd⟩ := L5.at (lvl_at HOWN.out)
  subst hAe
  have d0 := hd 0 _ rfl
  simp only [Nat.add_zero, Nat.mul_one] at d0
  have b4 := (hb1.cell (p := ⟨w.heap.size, 0, none⟩) (by show w.heap.size < w0.heap.size; omega)).trans x0
  have ca1 := (hb1.cell (p := ⟨ba, 0, none⟩) (by show ba < w0.heap.size; omega)).trans ca0
  have cl1 := (hb1.cell (p := ⟨bl, 0, none⟩) (by show bl < w0.heap.size; omega)).trans cl0
  obtain ⟨lv, hlv⟩ : ∃ x, lvl G.lv a = x := ⟨_, rfl⟩
  rw [hlv] at d0
  have HLV := Lib.hid hlv
  clear hb1 k1 k2 k3 L5 L6 hd lok hlv
  by_cases hD : a ∈ G.D
  · rw [decide_eq_true hD] at hlook
    have HR := Lib.hid (show elP G a = false by unfold elP; rw [decide_eq_false (show ¬ a ∉ G.D by simpa using hD), Bool.and_false])
    go_upto_region 2 with fail
    rw [← hw1]
    clear hw1
    go_quiet (fail)
    have HQ := Lib.hid (below_drewNA (Below.refl w1.heap.size w1) nq)
    go_wp2
    go_ret
    exact ⟨ret_boolA HR.out.symm, HB1.out.trans (HQ.out.mono HB1.out.size)⟩
  · rw [decide_eq_false hD] at hlook
    have HR := Lib.hid (show elP G a = decide (lv = s) by unfold elP; rw [decide_eq_true (show a ∉ G.D from hD), Bool.and_true, HLV.out, HS.out])
    go_upto_region 2 with fail
    rw [← hw1]
    clear hw1
    by_cases hls : lv = s
    · have hb : (lv == s) = true := by simpa using hls
      have HR2 := Lib.hid (HR.out.trans (decide_eq_true hls))
      subst hls
      go_quiet (fail)
      have HQ := Lib.hid (below_drewNA (Below.refl w1.heap.size w1) nq)
      go_wp2
      go_ret
      exact ⟨ret_boolA HR2.out.symm, HB1.out.trans (HQ.out.mono HB1.out.size)⟩
    · have hb : (lv == s) = false := by simpa using hls
      have HR2 := Lib.hid (HR.out.trans (decide_eq_false hls))
      go_quiet (fail)
      have HQ := Lib.hid (below_drewNA (Below.refl w1.heap.size w1) nq)
      go_wp2
      go_ret
      exact ⟨ret_boolA HR2.out.symm, HB1.out.trans (HQ.out.mono HB1.out.size)⟩
/-- What Eligible, Conflict, Fired leave. -/
def LstRes (l : List Ac) (w : World) (e : Ending) (w' : World) : Prop := ∃ v zs, e = .returned v ∧ Zs w.heap.size w' v zs ∧ zs.map Prod.fst = l ∧ Below w.heap.size w w'
theorem LstRes.from {l : List Ac} {w w1 w' : World} {e : Ending} (h : LstRes l w1 e w') (hb : Below w.heap.size w w1) : LstRes l w e w' := by
  obtain ⟨v, zs, h1, h2, h3, h4⟩ := h
  exact ⟨v, zs, h1, h2.down hb.size, h3, hb.trans (h4.mono hb.size)⟩
set_option maxRecDepth 100000 in
set_option maxHeartbeats 4000000 in
theorem conflictW {M : List Nat} {p mc mf N : Nat} {G : Agd} (w : World) (h : AgAt M w p mc mf G N) (hlen : G.C.length ≤ 40000000) :
    Calls Tryd.prog 15 #[.pointer (some ⟨p, 0, none⟩)] w (LstRes (sortA G.cs G.C) w) := by
  have eg : ∀ args w, (callFunc 38 args).run Tryd.prog w = .ok (.enter 38 args) w := enters_of Tryd.func38 (by kernel_rfl) rfl
  have SW0 := sortedW (cb := #[]) (fun _ => true) mc w h h.con h.ok.nodC h.ok.ownC hlen eg (fun a _ sv W' _ hs => by
    obtain ⟨A, c, rfl⟩ := hs.form
    exact everyW (bs (keyT a)) a.rule A a.sub.length c W')
  rw [List.filter_eq_self.2 (fun _ _ => rfl)] at SW0
  have SW1 := Lib.hid SW0
  obtain ⟨A3, c3, A4, c4, q0, q1, q2, q3, L3, L4⟩ := h.cells
  clear SW0 h q0 q1 L3 L4
  go_enter Tryd.func15, Tryd.ntmps15
  go_wp2_with fail
  refine SW1.out.mono ?_
  rintro e w' ⟨v, zs, rfl, h1, h2, h3⟩
  have HE := Lib.hid (And.intro h1 (And.intro h2 h3))
  clear h1 h2 h3 SW1
  go_wp2
  go_ret
  exact ⟨v, zs, rfl, HE.out⟩
set_option maxRecDepth 100000 in
set_option maxHeartbeats 4000000 in
theorem firedW {M : List Nat} {p mc mf N : Nat} {G : Agd} (w : World) (h : AgAt M w p mc mf G N) (hlen : G.D.length ≤ 40000000) :
    Calls Tryd.prog 32 #[.pointer (some ⟨p, 0, none⟩)] w (LstRes (sortA G.cs G.D) w) := by
  have eg : ∀ args w, (callFunc 38 args).run Tryd.prog w = .ok (.enter 38 args) w := enters_of Tryd.func38 (by kernel_rfl) rfl
  have SW0 := sortedW (cb := #[]) (fun _ => true) mf w h h.fir h.ok.nodD h.ok.ownD hlen eg (fun a _ sv W' _ hs => by
    obtain ⟨A, c, rfl⟩ := hs.form
    exact everyW (bs (keyT a)) a.rule A a.sub.length c W')
  rw [List.filter_eq_self.2 (fun _ _ => rfl)] at SW0
  have SW1 := Lib.hid SW0
  obtain ⟨A3, c3, A4, c4, q0, q1, q2, q3, L3, L4⟩ := h.cells
  clear SW0 h q0 q1 L3 L4
  go_enter Tryd.func32, Tryd.ntmps32
  go_wp2_with fail
  refine SW1.out.mono ?_
  rintro e w' ⟨v, zs, rfl, h1, h2, h3⟩
  have HE := Lib.hid (And.intro h1 (And.intro h2 h3))
  clear h1 h2 h3 SW1
  go_wp2
  go_ret
  exact ⟨v, zs, rfl, HE.out⟩
set_option maxRecDepth 100000 in
set_option maxHeartbeats 4000000 in
theorem eligibleW {M : List Nat} {p mc mf N : Nat} {G : Agd} (w : World) (h : AgAt M w p mc mf G N) (hlen : G.C.length ≤ 40000000) :
    Calls Tryd.prog 14 #[.pointer (some ⟨p, 0, none⟩)] w (LstRes (eligA G) w) := by
  have eg : ∀ args w, (callFunc 37 args).run Tryd.prog w = .ok (.enter 37 args) w := enters_of Tryd.func37 (by kernel_rfl) rfl
  obtain ⟨w0, hw0⟩ : ∃ w0, w0 = w.alloc (.cells #[.pointer (some ⟨p, 0, none⟩)] 24) := ⟨_, rfl⟩
  have hx0 : Below (w.heap.size + 1) (w.alloc (.cells #[.pointer (some ⟨p, 0, none⟩)] 24)) w0 := by rw [hw0]; exact Below.refl _ _
  have hb0 := box_belowD hx0
  have hs0 : w0.heap.size = w.heap.size + 1 := by rw [hw0]; simp
  have x0 := box_cellD hx0 0 rfl
  have ST := Lib.hid (stratumW w0 (h.below hb0))
  obtain ⟨s, hs⟩ : ∃ s, strA G = s := ⟨_, rfl⟩
  rw [hs] at ST
  have HB0 := Lib.hid hb0
  have HA := Lib.hid h
  have HLEN := Lib.hid hlen
  have HS := Lib.hid hs
  clear h hx0 hb0 hlen hs
  go_enter Tryd.func14, Tryd.ntmps14
  go_upto_region 1 with fail
  rw [← hw0]
  clear hw0
  go_wp2_with fail
  refine ST.out.mono ?_
  rintro e w1 ⟨rfl, hb1⟩
  obtain ⟨w2, hw2⟩ : ∃ w2, w2 = w1.alloc (.cells #[.int .i64 s] 3) := ⟨_, rfl⟩
  have hb2 : Below w0.heap.size w0 w2 := by rw [hw2]; exact hb1.alloc hb1.size _
  have hsz1 := hb1.size
  have hsz2 : w2.heap.size = w1.heap.size + 1 := by rw [hw2]; simp
  have y0 : w2.cell? ⟨w.heap.size, 0, none⟩ = some (.pointer (some ⟨p, 0, none⟩)) := (hb2.cell (p := ⟨w.heap.size, 0, none⟩) (by show w.heap.size < w0.heap.size; omega)).trans x0
  have y1 : w2.cell? ⟨w1.heap.size, 0, none⟩ = some (.int .i64 s) := by rw [hw2]; exact cell_of_row _ _ 0 _ _ _ (heap_alloc_new w1 _)
  have HB2 := Lib.hid (HB0.out.trans (hb2.mono HB0.out.size))
  have hA2 := HA.out.below HB2.out
  obtain ⟨A3, c3, A4, c4, q0, q1, q2, q3, L3, L4⟩ := hA2.cells
  have hpl := hA2.lt
  have HA2 := Lib.hid hA2
  have Y := Lib.hid (And.intro y0 y1)
  have SW0 := Lib.hid (fun (W : World) (hW : Below w2.heap.size w2 W) => sortedW (cb := #[.pointer (some ⟨w.heap.size, 0, none⟩), .pointer (some ⟨w1.heap.size, 0, none⟩)]) (elP G) mc W (HA2.out.below hW) (HA2.out.below hW).con (HA2.out.below hW).ok.nodC (HA2.out.below hW).ok.ownC HLEN.out eg (fun a ha sv W' hW' hsv =>
    elig1W (ba := w.heap.size) (bl := w1.heap.size) a sv W' ((HA2.out.below hW).below hW') ((HA2.out.below hW).ok.ownC a ha) (HA2.out.con.choose_spec.2.1 a ha).1 hsv
      (((hW.trans (hW'.mono hW.size)).cell (p := ⟨w.heap.size, 0, none⟩) (by show w.heap.size < w2.heap.size; omega)).trans Y.out.1)
      ((((hW.trans (hW'.mono hW.size)).cell (p := ⟨w1.heap.size, 0, none⟩) (by show w1.heap.size < w2.heap.size; omega)).trans Y.out.2).trans (by rw [HS.out]))
      (by have := hW.size; have := hW'.size; omega) (by have := hW.size; have := hW'.size; omega)))
  have SCc := Lib.hid (fun (W : World) (hW : Below w2.heap.size w2 W) => (show W.cell? ⟨w.heap.size, 0, none⟩ = some (.pointer (some ⟨p, 0, none⟩)) ∧ W.cell? ⟨p, 2, none⟩ = some (.map (some mc)) from
    ⟨(hW.cell (p := ⟨w.heap.size, 0, none⟩) (by show w.heap.size < w2.heap.size; omega)).trans Y.out.1, (hW.cell (p := ⟨p, 2, none⟩) hpl).trans q2⟩))
  have D0 : Below w2.heap.size w2 w2.drew := (Below.refl _ _).drew
  clear hb1 hb2 hA2 q0 q1 q2 q3 L3 L4 ST x0 y0 y1
  go_upto_region 4 with fail
  rw [← hw2]
  clear hw2
  go_region_held3 (fun W : World => W.cell? ⟨w.heap.size, 0, none⟩ = some (.pointer (some ⟨p, 0, none⟩)) ∧ W.cell? ⟨p, 2, none⟩ = some (.map (some mc)))
    (first | with_reducible exact SCc.out _ D0 | with_reducible exact SCc.out _ G1 | go_keep)
    (first
      | (go_at_call 36; refine (SW0.out _ D0).mono ?_; rintro e w' ⟨v, zs, rfl, g1, g2, g3⟩; have G1 := D0.trans (g3.mono D0.size); have Z1 := Lib.hid g1; have Z2 := Lib.hid g2; clear g1 g2 g3))
  all_goals
    have HG1 := Lib.hid G1
    clear G1
    go_wp2
    go_ret
    refine ⟨_, _, rfl, Z1.out.down ?_, ?_, HB2.out.trans (HG1.out.mono HB2.out.size)⟩
    · have := HB2.out.size
      have := D0.size
      omega
    · rw [Z2.out]; exact elig_filter G
end Go.Proofs.YtjgigcnjgblekaaDoor
