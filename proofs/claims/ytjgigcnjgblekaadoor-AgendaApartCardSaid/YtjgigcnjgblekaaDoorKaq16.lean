/- slices.SortFunc at acts, by the agenda's method value: acts and their lists, in order. -/
import Derived.Test.YtjgigcnjgblekaaDoorKaq15
import Derived.Shelf.SlSortCmp.NoneTotal
namespace Go.Proofs.YtjgigcnjgblekaaDoor
open Go Go.RowKit Go.Sort Classical

section
variable {α : Type} [Inhabited α] {E : SEnv α} {d : Array α} {W W' : World}
theorem bitsLenW (n : Nat) (hn : n ≤ 1000000000000000) (w : World) : Calls Tryd.prog 69 #[.int .u64 (n : Int)] w fun e w' => e = .returned (.int .i64 (Lib.bitLen n : Nat)) ∧ w' = w := by
  have h := Any.bits_Len (SlLaysF0.n15.bits (P := Tryd.prog) (ρ := Tryd.sortA_ren) { Tryd.sortA with }) (n : Int) w (by omega) (by omega)
  rw [Int.toNat_natCast] at h
  exact h
set_option maxRecDepth 100000 in
set_option maxHeartbeats 1000000 in
theorem sortFuncW (HC : SC E) (hn : E.n ≤ 1000000000000000) (d : Array α) (W : World) (h : SW E d W) :
    Calls Tryd.prog 56 #[.slice (some ⟨E.b, 0, none⟩) E.n E.cap, .func (.func 57) #[.pointer (some ⟨E.p, 0, none⟩)] #[]] W fun e w' => e = .returned (.tuple #[]) ∧ SW E (pdq E.lt d 0 E.n (Lib.bitLen E.n) true true) w' := by
  have hlim : Lib.bitLen E.n ≤ 64 := Lib.bitLen_le E.n 64 (by omega) (by omega)
  have C0 := pdqW HC hn E.n 0 E.n (Lib.bitLen E.n) d W (by omega) (Nat.zero_le _) (Nat.le_refl _) (by omega) h
  unfold PdqC at C0
  have C := Lib.hid C0
  have BL := Lib.hid (bitsLenW E.n hn W)
  have wr : IntKind.u64.wrap (E.n : Int) = E.n := by simp [IntKind.wrap, IntKind.bits, IntKind.signed]; omega
  clear C0 h
  go_enter Tryd.func56, Tryd.ntmps56
  go_wp2_with fail
  refine BL.out.mono ?_
  rintro e w1 ⟨rfl, rfl⟩
  clear BL
  go_wp2_with fail
  refine C.out.mono ?_
  rintro e w1 ⟨rfl, hs1⟩
  have HS := Lib.hid hs1
  clear hs1 C
  go_wp2
  go_end0
  exact ⟨rfl, HS.out⟩
end

/-- An act's cells: its rule, its list. -/
def zCells (zs : List (Ac × Value)) : List Value := zs.flatMap fun z => [.int .i64 z.1.rule, z.2]
theorem zCells_len : ∀ zs : List (Ac × Value), (zCells zs).length = zs.length * 2
  | [] => rfl
  | z :: r => by
    have := zCells_len r
    unfold zCells at *
    rw [List.flatMap_cons, List.length_append, this]
    simp only [List.length_cons, List.length_nil]
    omega
theorem zCells_at : ∀ {zs : List (Ac × Value)} {j : Nat} {z : Ac × Value}, zs[j]? = some z → (zCells zs)[j * 2]? = some (.int .i64 z.1.rule) ∧ (zCells zs)[j * 2 + 1]? = some z.2
  | [], _, _, h => by simp at h
  | y :: r, 0, z, h => by
    simp only [List.getElem?_cons_zero, Option.some.injEq] at h
    subst h
    exact ⟨rfl, rfl⟩
  | y :: r, j + 1, z, h => by
    have := zCells_at (zs := r) (j := j) (z := z) (by simpa using h)
    unfold zCells at *
    rw [List.flatMap_cons, show (j + 1) * 2 = j * 2 + 2 by omega, show j * 2 + 2 + 1 = j * 2 + 1 + 2 by omega]
    exact this
def svA : Value → Option Addr
  | .slice A _ _ => A
  | _ => none
def svL : Value → Nat
  | .slice _ n _ => n
  | _ => 0
def svC : Value → Nat
  | .slice _ _ c => c
  | _ => 0
theorem sv_eq {v : Value} (h : ∃ A n c, v = .slice A n c) : Value.slice (svA v) (svL v) (svC v) = v := by
  obtain ⟨A, n, c, rfl⟩ := h
  rfl
/-- Acts and their lists are sorted. -/
def envA (cs : List Cst) (zs : List (Ac × Value)) (p b cap : Nat) (w : World) : SEnv (Fin zs.length) where
  r := fun i => zs[i].1.rule
  A := fun i => svA zs[i].2
  l := fun i => svL zs[i].2
  c := fun i => svC zs[i].2
  cf := fun i j => cmpA cs zs[i].1 zs[j].1
  p := p
  b := b
  n := zs.length
  cap := cap
  w := w
theorem swoA (cs : List Cst) {α : Type} (f : α → Ac) : SWO (fun x y : α => decide (cmpA cs (f x) (f y) < 0)) := by
  have P := ord_A cs
  refine ⟨fun x => ?_, fun x y z h1 h2 => ?_, fun x y z h1 h2 => ?_⟩
  · have := P.self (f x)
    simp [this]
  · simp only [decide_eq_true_eq] at *
    exact P.toPre3.lt h1 (by omega)
  · simp only [decide_eq_false_iff_not] at *
    have n1 := P.neg (f x) (f y)
    have n2 := P.neg (f y) (f z)
    have n3 := P.neg (f x) (f z)
    have := P.tr (f z) (f y) (f x) (by omega) (by omega)
    omega
/-- What is asked of the acts' lists. -/
def ZOk (F : Nat → Prop) (w : World) (cs : List Cst) (z : Ac × Value) : Prop := RSl F w 1 EInt z.2 z.1.sub ∧ ∀ i ∈ z.1.sub, 0 ≤ i ∧ i < (cs.length : Int)
set_option maxRecDepth 100000 in
theorem sortActs {w : World} {B b cap p c : Nat} {A : Option Addr} {cs : List Cst} {zs : List (Ac × Value)} (hrow : w.ownsRow B 30 2 (.slice (some ⟨b, 0, none⟩) zs.length cap) zs.length (zCells zs))
    (hz : ∀ z ∈ zs, ZOk (fun x => x ≠ b) w cs z) (hp : w.cell? ⟨p, 1, none⟩ = some (.slice A cs.length c)) (hpl : p < w.heap.size) (hpb : p ≠ b) (hc : RSl (fun x => x ≠ b) w 3 ECst (.slice A cs.length c) cs) (hn : zs.length ≤ 1000000000000000) :
    Calls Tryd.prog 56 #[.slice (some ⟨b, 0, none⟩) zs.length cap, .func (.func 57) #[.pointer (some ⟨p, 0, none⟩)] #[]] w fun e w' =>
      e = .returned (.tuple #[]) ∧ ∃ ys : List (Ac × Value), ys.Perm zs ∧ SdA cs (ys.map Prod.fst) ∧ w'.ownsRow B 30 2 (.slice (some ⟨b, 0, none⟩) zs.length cap) zs.length (zCells ys) ∧ Turns [b] w w' := by
  by_cases h0 : zs.length = 0
  · obtain rfl := List.eq_nil_of_length_eq_zero h0
    have SN := AnyF.slices_SortFunc_none (P := Tryd.prog) (ρ := Tryd.sortA_ren) { Tryd.sortA with } (some ⟨b, 0, none⟩) cap (.func (.func 57) #[.pointer (some ⟨p, 0, none⟩)] #[]) w
    change Calls Tryd.prog 56 _ _ _ at SN
    refine SN.mono ?_
    rintro e w' ⟨rfl, rfl⟩
    exact ⟨rfl, [], List.Perm.refl _, List.Pairwise.nil, hrow, Turns.refl _ _⟩
  have hpos : 0 < zs.length := by omega
  have inst : Inhabited (Fin zs.length) := ⟨⟨0, hpos⟩⟩
  obtain ⟨cur, hcur, hBb, hlc, hcm, hcs, htk⟩ : ∃ cur, w.heap[b]? = some (.cells cur 30 (0, 0)) ∧ B ≤ b ∧ zs.length ≤ cap ∧ cap ≤ maxLen ∧ cur.size = cap * 2 ∧ cur.toList.take (zs.length * 2) = zCells zs := by
    rcases hrow.2 with ⟨e, _⟩ | ⟨g', c', cur, e, hb, hg, h1, h2, h3, h4⟩
    · cases e
    · simp only [Value.slice.injEq, Option.some.injEq, Addr.mk.injEq, and_true] at e
      obtain ⟨rfl, -, rfl⟩ := e
      exact ⟨cur, hg, hb, h1, h2, h3, h4⟩
  have sv : ∀ i : Fin zs.length, Value.slice (svA zs[i].2) (svL zs[i].2) (svC zs[i].2) = zs[i].2 := fun i => by
    obtain ⟨A', c', e⟩ := (hz zs[i] (List.getElem_mem _)).1.form
    exact sv_eq ⟨_, _, _, e⟩
  have cat : ∀ j (hj : j < zs.length), cur[j * 2]? = some (.int .i64 zs[j].1.rule) ∧ cur[j * 2 + 1]? = some zs[j].2 := fun j hj => by
    obtain ⟨h1, h2⟩ := zCells_at (List.getElem?_eq_getElem hj)
    rw [← htk] at h1 h2
    rw [List.getElem?_take_of_lt (by omega), Array.getElem?_toList] at h1 h2
    exact ⟨h1, h2⟩
  obtain ⟨d, hd⟩ : ∃ d : Array (Fin zs.length), d = Array.ofFn (fun i : Fin zs.length => i) := ⟨_, rfl⟩
  have hds : d.size = zs.length := by rw [hd]; simp
  have hdg : ∀ j (hj : j < zs.length), d[j]! = ⟨j, hj⟩ := fun j hj => by rw [getElem!_pos d j (by omega)]; simp [hd]
  have hw : SW (envA cs zs p b cap w) d w := by
    refine ⟨hds, ⟨cur, hcur, hcs, fun j hj => ?_⟩, Turns.refl _ _⟩
    have hj' : j < zs.length := hj
    obtain ⟨h1, h2⟩ := cat j hj'
    rw [hdg j hj']
    exact ⟨h1, h2.trans (congrArg some (sv ⟨j, hj'⟩).symm)⟩
  have hC : SC (envA cs zs p b cap w) := by
    intro x y W hT
    have K : Kp (fun x => x ≠ b) w W := Kp.of_turns hT (fun x hx h => h (List.mem_singleton.1 hx))
    have e1 : Value.slice ((envA cs zs p b cap w).A x) ((envA cs zs p b cap w).l x) ((envA cs zs p b cap w).c x) = zs[x].2 := sv x
    have e2 : Value.slice ((envA cs zs p b cap w).A y) ((envA cs zs p b cap w).l y) ((envA cs zs p b cap w).c y) = zs[y].2 := sv y
    rw [e1, e2]
    refine (compareW W p c A cs zs[x].2 zs[y].2 zs[x].1 zs[y].1 ((hT.cell hpl (fun hm => hpb (List.mem_singleton.1 hm))).trans hp) (Nat.lt_of_lt_of_le hpl hT.size) (hc.keep K) ((hz _ (List.getElem_mem _)).1.keep K) ((hz _ (List.getElem_mem _)).1.keep K) (hz _ (List.getElem_mem _)).2 (hz _ (List.getElem_mem _)).2).mono ?_
    rintro e w' ⟨rfl, hg⟩
    exact ⟨rfl, hg.below⟩
  refine (sortFuncW hC hn d w hw).mono ?_
  rintro e w' ⟨rfl, hs⟩
  obtain ⟨hP, hS⟩ := pdq_sorts (envA cs zs p b cap w).lt (swoA cs (fun i : Fin zs.length => zs[i].1)) d 0 zs.length (Lib.bitLen zs.length) true true (Nat.zero_le _) (by omega) (.inl rfl)
  obtain ⟨D, hD⟩ : ∃ D, pdq (envA cs zs p b cap w).lt d 0 zs.length (Lib.bitLen zs.length) true true = D := ⟨_, rfl⟩
  have hs' : SW (envA cs zs p b cap w) D w' := by rw [← hD]; exact hs
  rw [hD] at hP hS
  have hDs : D.size = zs.length := hs'.len
  refine ⟨rfl, D.toList.map (fun i => zs[i]), ?_, ?_, ?_, hs'.turns⟩
  · have ex : ∀ D : Array (Fin zs.length), D.size = zs.length → (D.extract 0 zs.length).toList = D.toList := fun D hD => by
      rw [Array.toList_extract]
      simp only [List.extract, List.drop_zero, Nat.sub_zero]
      exact List.take_of_length_le (by rw [Array.length_toList]; omega)
    have e1 := ex D hDs
    have e2 := ex d hds
    have h3 := hP.2.2
    rw [e1, e2] at h3
    refine (h3.map (fun i => zs[i])).trans (List.Perm.of_eq ?_)
    apply List.ext_getElem
    · simp [hds]
    · intro i h1 h2
      simp [hd]
  · unfold SdA
    rw [List.map_map, List.pairwise_map, List.pairwise_iff_getElem]
    intro i j hi hj hij
    have hi' : i < D.size := by simpa using hi
    have hj' : j < D.size := by simpa using hj
    have h3 := hS i j (Nat.zero_le _) hij (by omega)
    rw [getElem!_pos D i hi', getElem!_pos D j hj'] at h3
    have h4 : ¬ cmpA cs zs[D[j]].1 zs[D[i]].1 < 0 := of_decide_eq_false h3
    have h5 := (ord_A cs).neg zs[D[j]].1 zs[D[i]].1
    unfold leA
    simp only [Function.comp_apply, Array.getElem_toList, decide_eq_true_eq]
    omega
  · obtain ⟨cur', r1, r2, r3⟩ := hs'.row
    have hl : (D.toList.map (fun i => zs[i])).length = zs.length := by simp [hDs]
    refine ⟨by rw [zCells_len, hl], .inr ⟨b, cap, cur', rfl, hBb, r1, hlc, hcm, r2, ?_⟩⟩
    apply List.ext_getElem?
    intro t
    by_cases ht : t < zs.length * 2
    · obtain ⟨j, r, hr, rfl⟩ : ∃ j r, r < 2 ∧ t = j * 2 + r := ⟨t / 2, t % 2, by omega, by omega⟩
      have hj : j < zs.length := by omega
      obtain ⟨q1, q2⟩ := r3 j hj
      have hDj : D[j]! = D[j]'(by omega) := getElem!_pos D j (by omega)
      have gz : (D.toList.map (fun i => zs[i]))[j]? = some zs[D[j]'(by omega)] := by
        rw [List.getElem?_map, Array.getElem?_toList, Array.getElem?_eq_getElem (by omega)]
        rfl
      obtain ⟨p1, p2⟩ := zCells_at gz
      rw [List.getElem?_take_of_lt ht, Array.getElem?_toList]
      rw [hDj] at q1 q2
      match r, hr with
      | 0, _ => rw [Nat.add_zero, q1, p1]; rfl
      | 1, _ => rw [q2, p2]; exact congrArg some (sv _)
    · rw [List.getElem?_take_eq_none (by omega), List.getElem?_eq_none (by rw [zCells_len, hl]; omega)]
end Go.Proofs.YtjgigcnjgblekaaDoor
