/- strings.Builder: copyCheck, WriteByte, Write, WriteString: what turns, and what stays (rows of bytes of others, too). -/
import Derived.Test.YtblonickpmogiaaDoorShelfD
import Derived.Test.YtblonickpmogiaaDoorKeep
import Derived.Test.YtblonickpmogiaaDoorTurns
import Derived.Lib.Hide
import Derived.Lib.AppendStr
namespace Go.Proofs.YtblonickpmogiaaDoor
open Go.RowKit

theorem sizeBld : (Tryd.prog.info? 47).map (·.size) = some 2 := by kernel_rfl
theorem liesBld : liesAt Tryd.prog Tryd.prog.depth 47 (2 / Tryd.prog.cellsOf 47) 0 47 1 = true := by kernel_rfl
theorem infoByte : (Tryd.prog.info? 5).map (fun i => (i.zero, i.size, i.bytes)) = some (some (.int .u8 0), 1, 1) := by kernel_rfl

set_option maxHeartbeats 1000000 in
set_option maxRecDepth 100000 in
theorem copyCheck_used (b : Nat) (w : World) (h0 : w.cell? ⟨b, 0, none⟩ = some (.pointer (some ⟨b, 0, none⟩))) :
    Calls Tryd.prog 48 #[.pointer (some ⟨b, 0, none⟩)] w fun e w' => e = .returned (.tuple #[]) ∧ w' = w := by
  obtain ⟨j, hj, _⟩ := Option.map_eq_some_iff.1 sizeBld
  go_enter Tryd.func48, Tryd.ntmps48
  go_wp2
  rw [Lib.run_neq_ptr_same w _ Tryd.underlying45 hj]
  go_wp2
  go_end0
  exact ⟨rfl, rfl⟩

set_option maxHeartbeats 1000000 in
set_option maxRecDepth 100000 in
theorem copyCheck_fresh (b : Nat) (w : World) (h0 : w.cell? ⟨b, 0, none⟩ = some (.pointer none)) (hsh : w.shape? b = some (47, 2)) (hfz : w.frozen? ⟨b, 0, none⟩ = false) :
    Calls Tryd.prog 48 #[.pointer (some ⟨b, 0, none⟩)] w fun e w' => e = .returned (.tuple #[]) ∧ w' = w.setCell ⟨b, 0, none⟩ (.pointer (some ⟨b, 0, none⟩)) := by
  obtain ⟨j, hj, hjs⟩ := Option.map_eq_some_iff.1 sizeBld
  go_enter Tryd.func48, Tryd.ntmps48
  go_wp2
  rw [Lib.run_to_unsafe w ⟨b, 0, none⟩ Tryd.underlying45 Tryd.underlying80 hj (by rw [hjs]; decide) hsh (Nat.zero_lt_succ 1)]
  simp only [Result.andThen]
  rw [Oper.upon_value]
  go_wp2
  rw [run_callFunc_extern Tryd.func57 (by kernel_rfl) (by kernel_rfl) (by kernel_rfl) (e := Extern.AbiNoEscape.same) (by kernel_rfl)]
  rw [Lib.run_noEscape]
  simp only [Result.andThen]
  rw [Oper.upon_value]
  go_wp2
  rw [Lib.run_from_unsafe w ⟨b, 0, none⟩ Tryd.underlying80 Tryd.underlying45 hj hsh liesBld]
  simp only [Result.andThen]
  rw [Oper.upon_value]
  go_wp2
  go_end0
  exact ⟨rfl, rfl⟩

theorem add_none' (b off n : Nat) : (Addr.add ⟨b, off, none⟩ n) = ⟨b, off + n, none⟩ := by
  unfold Addr.add
  by_cases h : n = 0 <;> simp [h]
/-- A builder at block b, its buffer v, of the bytes bs. -/
structure Bl (w : World) (H b : Nat) (v : Value) (bs : List UInt8) : Prop where
  blk : w.heap[b]? = some (.cells #[.pointer none, v] 47 (0, 0)) ∨ w.heap[b]? = some (.cells #[.pointer (some ⟨b, 0, none⟩), v] 47 (0, 0))
  own : w.ownsRow H 5 1 v bs.length (Lib.byteCells bs)
  ne : v.ownBlock ≠ some b
/-- .. that has been used. -/
structure Bu (w : World) (H b : Nat) (v : Value) (bs : List UInt8) : Prop where
  blk : w.heap[b]? = some (.cells #[.pointer (some ⟨b, 0, none⟩), v] 47 (0, 0))
  own : w.ownsRow H 5 1 v bs.length (Lib.byteCells bs)
  ne : v.ownBlock ≠ some b
theorem Bu.bl {w : World} {H b : Nat} {v : Value} {bs : List UInt8} (h : Bu w H b v bs) : Bl w H b v bs := ⟨.inr h.blk, h.own, h.ne⟩
theorem Bu.turns {w w' : World} {H b : Nat} {v : Value} {bs : List UInt8} {S : List Nat} (h : Bu w H b v bs) (ht : Turns S w w') (hb : b ∉ S) (hv : ∀ g, v.ownBlock = some g → g ∉ S) : Bu w' H b v bs :=
  ⟨by rw [ht.block b (lt_of_heap h.blk) hb]; exact h.blk, ownsRow_turns h.own ht hv, h.ne⟩
/-- What a write leaves: the buffer's block is the old one, or new. -/
def Wr (w w' : World) (H b : Nat) (v : Value) (bs' : List UInt8) : Prop :=
  ∃ v', Bu w' H b v' bs' ∧ Turns (b :: v.ownBlock.toList) w w' ∧ (v'.ownBlock = v.ownBlock ∨ ∃ g, v'.ownBlock = some g ∧ w.heap.size ≤ g)

theorem checkW {w : World} {H b : Nat} {v : Value} {bs : List UInt8} (h : Bl w H b v bs) :
    Calls Tryd.prog 48 #[.pointer (some ⟨b, 0, none⟩)] w fun e w1 => e = .returned (.tuple #[]) ∧ Bu w1 H b v bs ∧ Turns [b] w w1 ∧ w1.heap.size = w.heap.size := by
  rcases h.blk with hb | hb
  · have hlt := lt_of_heap hb
    refine (copyCheck_fresh b w (cell_of_row w b 0 _ _ _ hb) (by simp [World.shape?, hb]) (frozen_of_row w b 0 _ _ hb)).mono ?_
    rintro e w1 ⟨rfl, rfl⟩
    have T : Turns [b] w (w.setCell ⟨b, 0, none⟩ (.pointer (some ⟨b, 0, none⟩))) := (Turns.refl [b] w).setCell (p := ⟨b, 0, none⟩) (.inl (by simp)) _
    refine ⟨rfl, ⟨?_, ownsRow_turns h.own T (fun g hg hm => h.ne (by rw [hg, List.mem_singleton.1 hm])), h.ne⟩, T, by simp [World.setCell]⟩
    rw [heap_setCell_same w b 0 _ _ _ hb]
    rfl
  · refine (copyCheck_used b w (cell_of_row w b 0 _ _ _ hb)).mono ?_
    rintro e w1 ⟨rfl, rfl⟩
    exact ⟨rfl, ⟨hb, h.own, h.ne⟩, Turns.refl _ _, rfl⟩

/-- Behind the append: the new buffer is stored. -/
theorem wrote {w w1 w2 : World} {H b g n cap : Nat} {v : Value} {bs bs' : List UInt8} (hu : Bu w1 H b v bs) (ht : Turns [b] w w1) (hz : w1.heap.size = w.heap.size) {wm : World} (hm : Below w1.heap.size w1 wm)
    (hown : w2.ownsRow H 5 1 (.slice (some ⟨g, 0, none⟩) n cap) bs'.length (Lib.byteCells bs')) (hg : wm.grownBy w2 v.ownBlock) (hat : v.ownBlock = some g ∨ w1.heap.size ≤ g) :
    w2.cell? ⟨b, 1, none⟩ = some v ∧ w2.frozen? ⟨b, 1, none⟩ = false ∧ Wr w (w2.setCell ⟨b, 1, none⟩ (.slice (some ⟨g, 0, none⟩) n cap)) H b v bs' := by
  have hlt := lt_of_heap hu.blk
  have T : Turns v.ownBlock.toList w1 w2 := (Turns.of_below hm).trans (S' := v.ownBlock.toList) (Turns.of_grown hg) (fun x hx => .inl hx)
  have hb2 : w2.heap[b]? = some (.cells #[.pointer (some ⟨b, 0, none⟩), v] 47 (0, 0)) := by
    rw [T.block b hlt (fun hm => hu.ne (by simpa using hm))]
    exact hu.blk
  have hgb : g ≠ b := by
    rintro rfl
    rcases hat with h | h
    · exact hu.ne h
    · omega
  have T2 : Turns [b] w2 (w2.setCell ⟨b, 1, none⟩ (.slice (some ⟨g, 0, none⟩) n cap)) := (Turns.refl [b] w2).setCell (p := ⟨b, 1, none⟩) (.inl (by simp)) _
  refine ⟨cell_of_row w2 b 1 _ _ _ hb2, frozen_of_row w2 b 1 _ _ hb2, _, ⟨?_, ownsRow_turns hown T2 (fun x hx hm => ?_), fun h => ?_⟩, ?_, ?_⟩
  · rw [heap_setCell_same w2 b 1 _ _ _ hb2]
    rfl
  · have e1 : g = x := by simpa [Value.ownBlock] using hx
    exact hgb (e1.trans (List.mem_singleton.1 hm))
  · have e1 : g = b := by simpa [Value.ownBlock] using h
    exact hgb e1
  · have T1 : Turns (b :: v.ownBlock.toList) w w1 := ht.mono (fun x hx => by rw [List.mem_singleton.1 hx]; exact List.mem_cons_self)
    exact (T1.trans T (fun x hx => .inl (List.mem_cons_of_mem _ hx))).trans T2 (fun x hx => .inl (by rw [List.mem_singleton.1 hx]; exact List.mem_cons_self))
  · rcases hat with h | h
    · exact .inl (by rw [h]; rfl)
    · exact .inr ⟨g, rfl, by omega⟩

set_option maxHeartbeats 1000000 in
set_option maxRecDepth 100000 in
theorem writeByteW {w : World} {H b : Nat} {v : Value} {bs : List UInt8} (h : Bl w H b v bs) (hH : H ≤ w.heap.size) (c : UInt8) (hl : bs.length ≤ 100000) :
    Calls Tryd.prog 35 #[.pointer (some ⟨b, 0, none⟩), .int .u8 c.toNat] w fun e w' => e = .returned .nilIface ∧ Wr w w' H b v (bs ++ [c]) := by
  obtain ⟨i0, hi, hz0, hz1, hz2⟩ := info_parts infoByte
  go_enter Tryd.func35, Tryd.ntmps35
  have CH := Lib.hid (checkW h)
  clear h
  go_wp2_with (first
    | (go_at_call 48; refine CH.out.mono ?_; rintro e w1 ⟨rfl, hu, ht, hz⟩; have c1 : w1.cell? ⟨b, 1, none⟩ = some v := cell_of_row w1 b 1 _ _ _ hu.blk; have HU := Lib.hid hu; have HT := Lib.hid ht; have HZ := Lib.hid hz; have BA := Lib.hid ((Below.refl w1.heap.size w1).alloc (Nat.le_refl _) (.cells #[.int .u8 c.toNat] 5)); clear hu ht hz)
    | (at_builtin; refine wpList_append1k _ rfl (.tmp 11) (.tmp 13) 44 rfl H 5 i0 _ 1 1 Tryd.underlying44 hi hz0 hz1 hz2 rfl (by decide) _ _ _ rfl (ownsRow_turns HU.out.own (Turns.of_below (S := []) BA.out) (fun _ _ => by simp)) ⟨w1.heap.size, 0, none⟩ 1 [.int .u8 c.toNat] rfl rfl (World.news_of_block (heap_alloc_new w1 _)) (by simp [Value.oneCell']) (by omega) (by decide) (by have := HZ.out; simp; omega) _ rfl ?_; intro g cap w2 hown hgrow hat hlt; obtain ⟨d1, f1, hw⟩ := wrote HU.out HT.out HZ.out BA.out (bs' := bs ++ [c]) (n := bs.length + 1) (cap := cap) (by simpa [Lib.byteCells] using hown) hgrow (hat.imp id (fun h => by rw [h.1]; simp)); have HW := Lib.hid hw; clear hown hgrow hat hw hlt))
  go_ret
  exact ⟨rfl, HW.out⟩

set_option maxHeartbeats 1000000 in
set_option maxRecDepth 100000 in
theorem writeW {w : World} {H b : Nat} {v : Value} {bs : List UInt8} (h : Bl w H b v bs) (hH : H ≤ w.heap.size) (r m cp : Nat) (ys : List UInt8) (hm : ys.length = m) (hm0 : 0 < m) (hrb : r ≠ b) (hr : ∀ j u, (Lib.byteCells ys)[j]? = some u → w.cell? ⟨r, j, none⟩ = some u) (hrl : r < w.heap.size) (hl : bs.length + ys.length ≤ 100000) :
    Calls Tryd.prog 37 #[.pointer (some ⟨b, 0, none⟩), .slice (some ⟨r, 0, none⟩) m cp] w fun e w' => e = .returned (.tuple #[.int .i64 m, .nilIface]) ∧ Wr w w' H b v (bs ++ ys) := by
  obtain ⟨i0, hi, hz0, hz1, hz2⟩ := info_parts infoByte
  have CH := Lib.hid (checkW h)
  have HR := Lib.hid hr
  have HM := Lib.hid hm
  have hl' : bs.length + m ≤ 100000 := by omega
  clear h hr hm hl
  go_enter Tryd.func37, Tryd.ntmps37
  go_wp2_with (first
    | (go_at_call 48; refine CH.out.mono ?_; rintro e w1 ⟨rfl, hu, ht, hz⟩; have c1 : w1.cell? ⟨b, 1, none⟩ = some v := cell_of_row w1 b 1 _ _ _ hu.blk; have NW := Lib.hid (show ∀ j u, (Lib.byteCells ys)[j]? = some u → w1.cell? ((⟨r, 0, none⟩ : Addr).add j) = some u from fun j u hj => (by rw [add_none', Nat.zero_add, ht.cell hrl (fun hx => hrb (List.mem_singleton.1 hx))]; exact HR.out j u hj)); have HU := Lib.hid hu; have HT := Lib.hid ht; have HZ := Lib.hid hz; clear hu ht hz)
    | (at_builtin; refine wpList_append_lies _ rfl (.tmp 12) (.tmp 13) 44 rfl H 5 i0 _ 1 1 Tryd.underlying44 hi hz0 hz1 hz2 rfl (by decide) _ _ _ rfl HU.out.own ⟨r, 0, none⟩ m cp (Lib.byteCells ys) rfl (by rw [Lib.byteCells_length, HM.out, Nat.mul_one]) NW.out (fun u hu => by obtain ⟨x, _, rfl⟩ := List.mem_map.1 hu; rfl) hm0 (by unfold maxLen; omega) (by omega) (by have := HZ.out; omega) _ rfl ?_; intro g cap w2 hown hgrow hat hlt; obtain ⟨d1, f1, hw⟩ := wrote HU.out HT.out HZ.out (Below.refl _ _) (bs' := bs ++ ys) (n := bs.length + m) (cap := cap) (by rw [List.length_append, HM.out]; simpa [Lib.byteCells] using hown) hgrow (hat.imp id (fun h => Nat.le_of_eq h.symm)); have HW := Lib.hid hw; clear hown hgrow hat hw hlt))
  go_ret2
  exact ⟨rfl, HW.out⟩

section
variable {P : Program} (w : World)
/-- append of a string onto a row that is there. -/
theorem run_append_str (t u ty : TypeId) (base : Nat) (e : TypeId) (i : TypeInfo) (ht : P.underlying t = some (.slice e)) (hu : P.underlying u = some .string) (hi : P.info? e = some i) (hz : i.zero = some (.int .u8 0))
    (hsize : i.size = 1) (hby : i.bytes = 1)
    (v : Value) (n : Nat) (xs : List Value) (hown : w.ownsRow base e 1 v n xs) (hn : 0 < n) (s : ByteArray)
    (h63 : n + s.size ≤ maxLen) (hbytes : n + s.size ≤ 140737488355328) (hbase : base ≤ w.heap.size) :
    ∃ g cap w', (Builtin.append_ #[t, u] ty #[v, .string s]).run P w = .ok (.slice (some ⟨g, 0, none⟩) (n + s.size) cap) w' ∧ w'.ownsRow base e 1 (.slice (some ⟨g, 0, none⟩) (n + s.size) cap) (n + s.size) (xs ++ Lib.strCells s) ∧ w.grownBy w' v.ownBlock ∧
      (v.ownBlock = some g ∨ g = w.heap.size) := by
  have hxl : xs.length = n := by simpa using hown.1
  have hlen : (xs ++ Lib.strCells s).length = (n + s.size) * 1 := by rw [List.length_append, hxl, Lib.strCells_length, Nat.mul_one]
  rcases hown.2 with ⟨_, h0⟩ | ⟨g, cap, cur, rfl, hbg, hg, hnc, hcm, hcs, htake⟩
  · omega
  by_cases hroom : n + s.size ≤ cap
  · have hcs' : cur.size = cap := by simpa using hcs
    have hr := Lib.run_append_room_string (P := P) w t u ty e i ht hu hi hsize g n cap cur hg s hroom (by omega)
    refine ⟨g, cap, _, hr, ⟨hlen, .inr ⟨g, cap, _, rfl, hbg, setRow_heap w g cur _ e _ hg, hroom, hcm, ?_, ?_⟩⟩, ⟨rfl, rfl, rfl, by simp, fun k _ hk => setRow_other w g k _ (fun e => hk (by simp [Value.ownBlock, e]))⟩, .inl rfl⟩
    · simp only [List.size_toArray, List.length_append, List.length_take, List.length_drop, Array.length_toList, Lib.strCells_length]
      omega
    · have ht' : cur.toList.take n = xs := by simpa using htake
      rw [ht', ← hlen]
      exact List.take_left
  · have holds : ∀ j u, xs[j]? = some u → w.cell? ((⟨g, 0, none⟩ : Addr).add j) = some u := hown.cells (g := g) rfl
    have hr := Lib.run_append_grow_string (P := P) w t u ty e i (.int .u8 0) ht hu hi hz ⟨g, 0, none⟩ n cap xs (by rw [hsize]; simpa using hxl) holds s (by omega) (by unfold maxLen at h63; omega) (by rw [hby]; exact growslice_fits (by omega) (by omega))
    have hge := grownCap_ge w (n + s.size) cap e
    have hcm' : grownCap w (n + s.size) cap e ≤ maxLen := grownCap_le_maxLen w (n + s.size) cap e h63
    refine ⟨w.heap.size, _, _, hr, ⟨hlen, .inr ⟨w.heap.size, _, _, rfl, hbase, heap_alloc_new w.drew _, hge, hcm', ?_, ?_⟩⟩, ⟨rfl, rfl, rfl, by simp, fun k hk _ => by first | exact heap_alloc_old w.drew _ hk | exact heap_alloc_old w.drew _ k hk⟩, .inr rfl⟩
    · have hz1 : (Value.int IntKind.u8 0).cells.size = 1 := rfl
      simp only [Array.size_append, List.size_toArray, size_zeroCells, hz1, hxl, Lib.strCells_length]
      omega
    · simp only [Array.toList_append, List.append_assoc]
      rw [← List.append_assoc, ← hlen]
      exact List.take_left

theorem wpList_append_str {ops : Array Oper} {rest : List Oper} {o : Oper} {a : Act} {Q : Exit → Act → World → Prop} (hgd : o.guard = none) (sl x : Operand) (t u : TypeId)
    (ho : o.op = .call { callee := .builtin .append, args := #[sl, x], argTypes := #[t, u] })
    (base : Nat) (e : TypeId) (i : TypeInfo) (ht : P.underlying t = some (.slice e)) (hu : P.underlying u = some .string) (hi : P.info? e = some i) (hz : i.zero = some (.int .u8 0))
    (hsize : i.size = 1) (hby : i.bytes = 1)
    (v : Value) (n : Nat) (xs : List Value) (hs : a.eval sl = v) (hown : w.ownsRow base e 1 v n xs) (hn : 0 < n) (s : ByteArray) (hx : a.eval x = .string s)
    (h63 : n + s.size ≤ maxLen) (hbytes : n + s.size ≤ 140737488355328) (hbase : base ≤ w.heap.size)
    (h : ∀ g cap w', w'.ownsRow base e 1 (.slice (some ⟨g, 0, none⟩) (n + s.size) cap) (n + s.size) (xs ++ Lib.strCells s) → w.grownBy w' v.ownBlock → (v.ownBlock = some g ∨ g = w.heap.size) → wpList P ops Q rest (a.put o.dst (.slice (some ⟨g, 0, none⟩) (n + s.size) cap)) w') : wpList P ops Q (o :: rest) a w := by
  refine wpList_plain hgd fun K hK => ?_
  obtain ⟨g, cap, w', hr, h2, h3, h4⟩ := run_append_str (P := P) w t u o.type base e i ht hu hi hz hsize hby v n xs hown hn s h63 hbytes hbase
  unfold Oper.wp execOp
  simp only [ho, resolve, invoke, builtin, Sem.run_bind, Sem.run_pure, Result.andThen_ok, List.map_toArray, List.map_cons, List.map_nil, hs, hx, hr]
  exact hK _ _ (h g cap w' h2 h3 h4)
end

set_option maxHeartbeats 1000000 in
set_option maxRecDepth 100000 in
theorem writeStringW {w : World} {H b : Nat} {v : Value} {bs : List UInt8} (h : Bl w H b v bs) (hH : H ≤ w.heap.size) (h0 : 0 < bs.length) (s : ByteArray) (hl : bs.length + s.size ≤ 100000) :
    Calls Tryd.prog 38 #[.pointer (some ⟨b, 0, none⟩), .string s] w fun e w' => e = .returned (.tuple #[.int .i64 s.size, .nilIface]) ∧ Wr w w' H b v (bs ++ s.data.toList) := by
  obtain ⟨i0, hi, hz0, hz1, hz2⟩ := info_parts infoByte
  have CH := Lib.hid (checkW h)
  clear h
  go_enter Tryd.func38, Tryd.ntmps38
  go_wp2_with (first
    | (go_at_call 48; refine CH.out.mono ?_; rintro e w1 ⟨rfl, hu, ht, hz⟩; have c1 : w1.cell? ⟨b, 1, none⟩ = some v := cell_of_row w1 b 1 _ _ _ hu.blk; have HU := Lib.hid hu; have HT := Lib.hid ht; have HZ := Lib.hid hz; clear hu ht hz)
    | (at_builtin; refine wpList_append_str _ rfl (.tmp 12) (.tmp 13) 44 9 rfl H 5 i0 Tryd.underlying44 Tryd.underlying9 hi hz0 hz1 hz2 _ _ _ rfl HU.out.own h0 s rfl (by unfold maxLen; omega) (by omega) (by have := HZ.out; omega) ?_; intro g cap w2 hown hgrow hat; obtain ⟨d1, f1, hw⟩ := wrote HU.out HT.out HZ.out (Below.refl _ _) (bs' := bs ++ s.data.toList) (n := bs.length + s.size) (cap := cap) (by rw [List.length_append]; simpa [Lib.byteCells, Lib.strCells] using hown) hgrow (hat.imp id (fun h => Nat.le_of_eq h.symm)); have HW := Lib.hid hw; clear hown hgrow hat hw))
  go_ret2
  exact ⟨rfl, HW.out⟩
end Go.Proofs.YtblonickpmogiaaDoor
