/- The agenda's calls in plain words. Over any program. The agenda in memory: its two maps, its levels and constants. strconv.AppendInt at this program (the Agenda laws' door seat): laid by the kit's shelf, in plain words. -/
import Derived.Test.YtjgigcnjgblekaaDoorKaq04
import Derived.Test.YtjgigcnjgblekaaDoorKaq05
import Derived.Test.YtjgigcnjgblekaaDoorKaq06
import Derived.KernelRfl
import Derived.Shelf.LaysM
import Derived.Shelf.Small.Bits
import Derived.Shelf.Strconv.AppendInt10
import Derived.Shelf.Strconv.AppendIntPublic10
import Derived.Shelf.Strconv.AppendUint10
import Derived.Shelf.Strconv.Itoa0
import Derived.Shelf.Strconv.Itoa1
import Derived.Shelf.Strconv.Itoa2
import Derived.StringKeys
import Derived.Test.YtjgigcnjgblekaaDoorChecked
namespace Go.Proofs.YtjgigcnjgblekaaDoor
open Go Go.RowKit Classical

/-- One change: the error, what is left. -/
noncomputable def chgF (g : Agd) (came : Bool) (a : Ac) : Int × Agd :=
  if ¬ ownA g a then (2, g)
  else if came = true then (if a ∈ g.C then (51, g) else (0, { g with C := g.C ++ [a] }))
  else if a ∈ g.C then (0, { g with C := dropA g.C a }) else (50, g)
/-- Changes, up to the first that may not be. -/
noncomputable def appF : Agd → List (Bool × Ac) → Nat → Nat × Int × Agd
  | g, [], n => (n, 0, g)
  | g, x :: r, n => if (chgF g x.1 x.2).1 = 0 then appF (chgF g x.1 x.2).2 r (n + 1) else (n, (chgF g x.1 x.2).1, g)
/-- An act fires. -/
noncomputable def fireF (g : Agd) (a : Ac) : Int × Agd :=
  if ¬ ownA g a then (2, g) else if a ∈ g.D then (51, g) else if a ∉ g.C then (50, g) else if strA g < lvl g.lv a then (53, g) else (0, { g with D := g.D ++ [a] })
theorem chg_ok {g : Agd} (h : AgOk g) (came : Bool) (a : Ac) : AgOk (chgF g came a).2 := by
  unfold chgF
  by_cases h1 : ownA g a
  · rw [if_neg (by simpa using h1)]
    cases came with
    | true =>
      rw [if_pos rfl]
      by_cases h2 : a ∈ g.C
      · rw [if_pos h2]; exact h
      · rw [if_neg h2]; exact h.add h1 h2
    | false =>
      rw [if_neg (by simp)]
      by_cases h2 : a ∈ g.C
      · rw [if_pos h2]; exact h.drop a
      · rw [if_neg h2]; exact h
  · rw [if_pos h1]; exact h
theorem app_ok : ∀ (l : List (Bool × Ac)) {g : Agd} (n : Nat), AgOk g → AgOk (appF g l n).2.2
  | [], _, _, h => h
  | x :: r, g, n, h => by
    unfold appF
    by_cases h1 : (chgF g x.1 x.2).1 = 0
    · rw [if_pos h1]; exact app_ok r (n + 1) (chg_ok h x.1 x.2)
    · rw [if_neg h1]; exact h
theorem fire_ok {g : Agd} (h : AgOk g) (a : Ac) : AgOk (fireF g a).2 := by
  unfold fireF
  by_cases h1 : ownA g a
  · rw [if_neg (by simpa using h1)]
    by_cases h2 : a ∈ g.D
    · rw [if_pos h2]; exact h
    · rw [if_neg h2]
      by_cases h3 : a ∈ g.C
      · rw [if_neg (by simpa using h3)]
        by_cases h4 : strA g < lvl g.lv a
        · rw [if_pos h4]; exact h
        · rw [if_neg h4]; exact h.fire h1 h2
      · rw [if_pos h3]; exact h
  · rw [if_pos h1]; exact h
/-- Acts that are not there yet, no two alike: all come. -/
theorem app_come : ∀ (l : List Ac) (g : Agd) (n : Nat), (∀ a ∈ l, ownA g a) → l.Nodup → (∀ a ∈ l, a ∉ g.C) → appF g (l.map fun a => (true, a)) n = (n + l.length, 0, { g with C := g.C ++ l })
  | [], g, n, _, _, _ => by simp [appF]
  | a :: l, g, n, ho, hn, hc => by
    rw [List.nodup_cons] at hn
    have e : chgF g true a = (0, { g with C := g.C ++ [a] }) := by
      unfold chgF
      rw [if_neg (by simpa using ho a (List.mem_cons_self ..)), if_pos rfl, if_neg (hc a (List.mem_cons_self ..))]
    simp only [List.map_cons, appF, e, if_true]
    rw [app_come l { g with C := g.C ++ [a] } (n + 1) (fun b hb => ho b (List.mem_cons_of_mem _ hb)) hn.2 (fun b hb hm => by
      rcases List.mem_append.1 hm with hm | hm
      · exact hc b (List.mem_cons_of_mem _ hb) hm
      · rw [List.mem_singleton.1 hm] at hb; exact hn.1 hb)]
    simp only [List.length_cons, List.append_assoc, List.cons_append, List.nil_append]
    congr 1
    omega
/-- Acts that are there, no two alike: all go. -/
theorem app_go : ∀ (l : List Ac) (g : Agd) (n : Nat), (∀ a ∈ l, ownA g a) → l.Nodup → (∀ a ∈ l, a ∈ g.C) → appF g (l.map fun a => (false, a)) n = (n + l.length, 0, { g with C := l.foldl dropA g.C })
  | [], g, n, _, _, _ => by simp [appF]
  | a :: l, g, n, ho, hn, hc => by
    rw [List.nodup_cons] at hn
    have e : chgF g false a = (0, { g with C := dropA g.C a }) := by
      unfold chgF
      rw [if_neg (by simpa using ho a (List.mem_cons_self ..)), if_neg (by simp), if_pos (hc a (List.mem_cons_self ..))]
    simp only [List.map_cons, appF, e, if_true]
    rw [app_go l { g with C := dropA g.C a } (n + 1) (fun b hb => ho b (List.mem_cons_of_mem _ hb)) hn.2 (fun b hb => dropA_mem.2 ⟨hc b (List.mem_cons_of_mem _ hb), fun e => hn.1 (e ▸ hb)⟩)]
    simp only [List.length_cons, List.foldl_cons]
    congr 1
    omega
end Go.Proofs.YtjgigcnjgblekaaDoor

namespace Go.Proofs.YtjgigcnjgblekaaDoor
open Go Go.RowKit Go.Maps Classical

theorem keyedS : Keyed Tryd.prog 9 := string_keyed Tryd.underlying9
theorem dec_len : ∀ (k u : Nat), 0 < k → u < 10 ^ k → (Lib.decDigits u).length ≤ k
  | 0, _, h, _ => by omega
  | k + 1, u, _, hu => by
    rw [Lib.decDigits]
    by_cases h : u < 10
    · rw [dif_pos h]; simp
    · rw [dif_neg h, List.length_append]
      have hk : 0 < k := by
        rcases Nat.eq_zero_or_pos k with rfl | hp
        · simp at hu; omega
        · exact hp
      have := dec_len k (u / 10) hk (by rw [Nat.pow_succ] at hu; omega)
      simp
      omega
theorem num_len {n : Int} (h : -9223372036854775808 ≤ n ∧ n ≤ 9223372036854775807) : (num n).length ≤ 20 := by
  have h1 := dec_len 19 n.natAbs (by omega) (by omega)
  have h2 := dec_len 19 n.toNat (by omega) (by omega)
  unfold num Lib.itoa
  split
  · simp only [List.length_cons]; omega
  · omega
/-- A string of these bytes. -/
def bs (l : List UInt8) : ByteArray := ⟨l.toArray⟩
theorem bs_size (l : List UInt8) : (bs l).size = l.length := by
  show l.toArray.size = _
  simp
theorem bs_inj {l m : List UInt8} (h : bs l = bs m) : l = m := by
  have := congrArg (fun b : ByteArray => b.data.toList) h
  simpa [bs] using this
/-- An act whose key can be told. -/
structure AcOk (a : Ac) : Prop where
  rule : i64ok a.rule
  sub : ∀ i ∈ a.sub, i64ok i
  len : a.sub.length ≤ 1000000000000
theorem subT_len : ∀ {l : List Int}, (∀ i ∈ l, i64ok i) → (subT l).length ≤ l.length * 21
  | [], _ => by simp [subT]
  | i :: r, h => by
    have h1 := subT_len (l := r) (fun j hj => h j (List.mem_cons_of_mem _ hj))
    have h2 := num_len (h i (List.mem_cons_self ..)).lo
    simp only [subT, List.length_cons, List.length_append]
    omega
theorem keyT_len {a : Ac} (h : AcOk a) : (keyT a).length ≤ 20 + a.sub.length * 21 := by
  have h1 := subT_len h.sub
  have h2 := num_len h.rule.lo
  unfold keyT
  rw [List.length_append]
  omega
def keyV (a : Ac) : Value := .string (bs (keyT a))
theorem keyV_inj {a b : Ac} (h : keyV a = keyV b) : a = b := by
  unfold keyV at h
  injection h with h
  exact keyT_inj (bs_inj h)
theorem keyV_key {a : Ac} (h : AcOk a) : ∃ l, keyOf Tryd.prog 9 (keyV a) = some l :=
  ⟨_, Go.WideMaps.keyOf_string_mk Tryd.underlying9 (s := bs (keyT a)) (by rw [bs_size]; have := keyT_len h; have := h.len; unfold maxLen; omega)⟩

/-- A map of acts by their keys. -/
def ActMap (F : Nat → Prop) (w : World) (m : Nat) (S : List Ac) (N : Nat) : Prop :=
  ∃ f : Value → Option Value, MapV Tryd.prog 9 w m N f ∧ (∀ a ∈ S, AcOk a ∧ ∃ sv, f (keyV a) = some (.agg #[.int .i64 a.rule, sv]) ∧ RSl F w 1 EInt sv a.sub) ∧ ∀ v z, f v = some z → ∃ a ∈ S, v = keyV a
section
variable {F F' : Nat → Prop} {w w' : World} {m N : Nat} {S : List Ac}
theorem ActMap.lt (h : ActMap F w m S N) : m < w.heap.size := by
  obtain ⟨f, h1, _⟩ := h; exact h1.lt
theorem ActMap.keep (h : ActMap F w m S N) (hb : w'.heap[m]? = w.heap[m]?) (hk : Kp F w w') (hF : ∀ b, b < w.heap.size → F b → F' b) : ActMap F' w' m S N := by
  obtain ⟨f, h1, h2, h3⟩ := h
  refine ⟨f, h1.of_block hb, fun a ha => ?_, h3⟩
  obtain ⟨h4, sv, h5, h6⟩ := h2 a ha
  exact ⟨h4, sv, h5, h6.kp hk hF (fun _ _ h => h)⟩
theorem ActMap.made (F : Nat → Prop) (w : World) : ActMap F (w.alloc (.map #[] 0)) w.heap.size [] 0 :=
  ⟨_, MapV.made w, fun a ha => by simp at ha, fun v z h => by cases h⟩
theorem ActMap.mono {M : Nat} (h : ActMap F w m S N) (hm : N ≤ M) : ActMap F w m S M := by
  obtain ⟨f, h1, h2⟩ := h
  exact ⟨f, h1.mono hm, h2⟩
/-- The zero act. -/
def zeroAct : Value := .agg #[.int .i64 0, .slice none 0 0]
theorem zAct (w : World) : (zeroValue 30).run Tryd.prog w = .ok zeroAct w := by rw [Tryd.zeroValue30]; rfl
theorem ActMap.in (h : ActMap F w m S N) {a : Ac} (ha : a ∈ S) : ∃ sv, (Instr.lookup 77 (.map (some m)) (keyV a) true).run Tryd.prog w = .ok (.tuple #[.agg #[.int .i64 a.rule, sv], .bool true]) w ∧ RSl F w 1 EInt sv a.sub := by
  obtain ⟨f, h1, h2, h3⟩ := h
  obtain ⟨h4, sv, h5, h6⟩ := h2 a ha
  obtain ⟨l, hl⟩ := keyV_key h4
  exact ⟨sv, h1.hit keyedS Tryd.underlying77 (zAct w) hl h5, h6⟩
theorem ActMap.out (h : ActMap F w m S N) {a : Ac} (hok : AcOk a) (ha : a ∉ S) : (Instr.lookup 77 (.map (some m)) (keyV a) true).run Tryd.prog w = .ok (.tuple #[zeroAct, .bool false]) w := by
  obtain ⟨f, h1, h2, h3⟩ := h
  obtain ⟨l, hl⟩ := keyV_key hok
  refine h1.miss keyedS Tryd.underlying77 (zAct w) hl ?_
  cases hf : f (keyV a) with
  | none => rfl
  | some z =>
    obtain ⟨b, hb, e⟩ := h3 _ _ hf
    rw [keyV_inj e] at ha
    exact absurd hb ha
theorem ActMap.store (h : ActMap F w m S N) {a : Ac} (hok : AcOk a) (hN : N < maxLen) (hm : ¬ F m) {sv : Value} (hs : RSl F w 1 EInt sv a.sub) :
    ∃ w', (Instr.mapUpdate 77 (.map (some m)) (keyV a) (.agg #[.int .i64 a.rule, sv])).run Tryd.prog w = .ok () w' ∧ ActMap F w' m (S ++ [a]) (N + 1) ∧ Turns [m] w w' := by
  obtain ⟨f, h1, h2, h3⟩ := h
  obtain ⟨l, hl⟩ := keyV_key hok
  obtain ⟨w', hrun, hmap, hg⟩ := h1.store keyedS (t := 77) Tryd.underlying77 hN hl (.agg #[.int .i64 a.rule, sv])
  have T : Turns [m] w w' := Turns.of_grown hg
  have K : Kp F w w' := Kp.of_turns T (fun x hx => by rw [List.mem_singleton.1 hx]; exact hm)
  refine ⟨w', hrun, ⟨_, hmap, fun b hb => ?_, fun v z hv => ?_⟩, T⟩
  · by_cases e : b = a
    · subst e
      exact ⟨hok, sv, by simp [putV], hs.keep K⟩
    · have hbS : b ∈ S := by
        rcases List.mem_append.1 hb with hb | hb
        · exact hb
        · exact absurd (List.mem_singleton.1 hb) e
      obtain ⟨h4, sv', h5, h6⟩ := h2 b hbS
      refine ⟨h4, sv', ?_, h6.keep K⟩
      unfold putV
      rw [if_neg (fun h => e (keyV_inj h))]
      exact h5
  · unfold putV at hv
    by_cases e : v = keyV a
    · exact ⟨a, by simp, e⟩
    · rw [if_neg e] at hv
      obtain ⟨b, hb, e2⟩ := h3 v z hv
      exact ⟨b, List.mem_append_left _ hb, e2⟩
theorem ActMap.drop (h : ActMap F w m S N) {a : Ac} (hok : AcOk a) (hm : ¬ F m) (ty : TypeId) :
    ∃ w', (Builtin.delete_ #[77, 9] ty #[.map (some m), keyV a]).run Tryd.prog w = .ok (.tuple #[]) w' ∧ ActMap F w' m (dropA S a) N ∧ Turns [m] w w' := by
  obtain ⟨f, h1, h2, h3⟩ := h
  obtain ⟨l, hl⟩ := keyV_key hok
  obtain ⟨w', hrun, hmap, hg⟩ := h1.drop keyedS (t := 77) Tryd.underlying77 hl ty
  have T : Turns [m] w w' := Turns.of_grown hg.grown
  have K : Kp F w w' := Kp.of_turns T (fun x hx => by rw [List.mem_singleton.1 hx]; exact hm)
  refine ⟨w', hrun, ⟨_, hmap, fun b hb => ?_, fun v z hv => ?_⟩, T⟩
  · obtain ⟨hbS, e⟩ := dropA_mem.1 hb
    obtain ⟨h4, sv', h5, h6⟩ := h2 b hbS
    refine ⟨h4, sv', ?_, h6.keep K⟩
    unfold delV
    rw [if_neg (fun h => e (keyV_inj h))]
    exact h5
  · unfold delV at hv
    by_cases e : v = keyV a
    · rw [if_pos e] at hv; cases hv
    · rw [if_neg e] at hv
      obtain ⟨b, hb, e2⟩ := h3 v z hv
      exact ⟨b, dropA_mem.2 ⟨hb, fun h => e (by rw [e2, h])⟩, e2⟩
end

/-- A constant's cells. -/
def ECst (cs : List Value) (c : Cst) : Prop := cs = [.int .i64 c.k, .int .i64 c.n, .string c.s]
/-- The agenda at block p, its maps at mc and mf; none of the blocks M is read but the two maps. -/
structure AgAt (M : List Nat) (w : World) (p mc mf : Nat) (g : Agd) (N : Nat) : Prop where
  ok : AgOk g
  big : g.lv.length ≤ maxLen ∧ g.cs.length ≤ maxLen
  blk : ∃ lv cv, w.heap[p]? = some (.cells #[lv, cv, .map (some mc), .map (some mf)] 79 (0, 0)) ∧ RSl (fun b => b ∉ M) w 1 EInt lv g.lv ∧ RSl (fun b => b ∉ M) w 3 ECst cv g.cs
  pM : p ∉ M
  cM : mc ∈ M
  fM : mf ∈ M
  ne : mc ≠ mf
  con : ActMap (fun b => b ∉ M) w mc g.C N
  fir : ActMap (fun b => b ∉ M) w mf g.D N
section
variable {M M' S : List Nat} {w w' : World} {p mc mf N : Nat} {g : Agd}
theorem AgAt.lt (h : AgAt M w p mc mf g N) : p < w.heap.size := by
  obtain ⟨lv, cv, h1, _⟩ := h.blk; exact lt_of_heap h1
/-- Other blocks of M turn; some new ones come to M. -/
theorem AgAt.step (h : AgAt M w p mc mf g N) (T : Turns S w w') (hs : ∀ x ∈ S, x ∈ M ∧ x ≠ mc ∧ x ≠ mf) (hM : ∀ x ∈ M, x ∈ M') (hM' : ∀ x ∈ M', x ∈ M ∨ w.heap.size ≤ x) : AgAt M' w' p mc mf g N := by
  have K : Kp (fun b => b ∉ M) w w' := Kp.of_turns T (fun x hx h => h (hs x hx).1)
  have hF : ∀ b, b < w.heap.size → b ∉ M → b ∉ M' := fun b hb hn hm => by
    rcases hM' b hm with h1 | h1
    · exact hn h1
    · omega
  have hp := h.lt
  obtain ⟨lv, cv, h1, h2, h3⟩ := h.blk
  exact ⟨h.ok, h.big, ⟨lv, cv, by rw [T.block p hp (fun hx => h.pM (hs p hx).1)]; exact h1, h2.kp K hF (fun _ _ h => h), h3.kp K hF (fun _ _ h => h)⟩, hF p hp h.pM, hM _ h.cM, hM _ h.fM, h.ne,
    h.con.keep (T.block mc h.con.lt (fun hx => (hs mc hx).2.1 rfl)) K hF, h.fir.keep (T.block mf h.fir.lt (fun hx => (hs mf hx).2.2 rfl)) K hF⟩
theorem AgAt.below (h : AgAt M w p mc mf g N) (hb : Below w.heap.size w w') : AgAt M w' p mc mf g N :=
  h.step (S := []) (Turns.of_below hb) (fun _ hx => by simp at hx) (fun _ h => h) (fun _ h => .inl h)
theorem AgAt.mono {N' : Nat} (h : AgAt M w p mc mf g N) (hn : N ≤ N') : AgAt M w p mc mf g N' :=
  ⟨h.ok, h.big, h.blk, h.pM, h.cM, h.fM, h.ne, h.con.mono hn, h.fir.mono hn⟩
end
/-- The library's table of powers of ten. -/
def Tab (w : World) : Prop := Lib.TabIs Tryd.prog w "internal/strconv.uint64pow10" .u64 Lib.pow10Tab
theorem var_below {w w' : World} {B : Nat} {name : String} {cs : Array Value} (h : w.var? Tryd.prog name = some cs) (hB : w.heap.size ≤ B) (hb : Below B w w') : w'.var? Tryd.prog name = some cs := by
  unfold World.var? at *
  cases hg : Tryd.prog.globalNamed name with
  | none => rw [hg] at h; simp at h
  | some g =>
    rw [hg] at h
    simp only [Option.bind_some] at h ⊢
    have hlt : g < w.heap.size := by
      rcases Nat.lt_or_ge g w.heap.size with h' | h'
      · exact h'
      · rw [Array.getElem?_eq_none h'] at h; simp at h
    rw [hb.block g (by omega)]
    exact h
theorem Tab.below {w w' : World} (h : Tab w) (hb : Below w.heap.size w w') : Tab w' := var_below h (Nat.le_refl _) hb
end Go.Proofs.YtjgigcnjgblekaaDoor

namespace Go.Proofs
open Go.Shelf
def Tryd.laysM176_ren : Go.Shelf.Ren := ⟨fun | 176 => 67 | 249 => 77 | 288 => 91 | 283 => 100 | 284 => 101 | 285 => 102 | 286 => 103 | 129 => 87 | 317 => 107 | 318 => 108 | 319 => 109 | 320 => 110 | 337 => 111 | 338 => 112 | n => n, fun | 37 => 101 | 2 => 2 | 3 => 3 | 53 => 122 | 4 => 4 | 9 => 9 | 171 => 134 | 0 => 0 | 173 => 136 | 212 => 145 | 51 => 120 | 5 => 5 | 20 => 20 | 213 => 146 | 46 => 105 | 232 => 147 | 233 => 148 | n => n, fun | 17 => 0 | 18 => 1 | 19 => 2 | n => n⟩
theorem Tryd.laysM176 : Go.Proofs.LaysM.n176 Tryd.prog Tryd.laysM176_ren := {
  mixed := by kernel_rfl
  f129 := Tryd.func87.trans (congrArg some (by kernel_rfl))
  f176 := Tryd.func67.trans (congrArg some (by kernel_rfl))
  f249 := Tryd.func77.trans (congrArg some (by kernel_rfl))
  f283 := Tryd.func100.trans (congrArg some (by kernel_rfl))
  f284 := Tryd.func101.trans (congrArg some (by kernel_rfl))
  f285 := Tryd.func102.trans (congrArg some (by kernel_rfl))
  f286 := Tryd.func103.trans (congrArg some (by kernel_rfl))
  f288 := Tryd.func91.trans (congrArg some (by kernel_rfl))
  f317 := Tryd.func107.trans (congrArg some (by kernel_rfl))
  f318 := Tryd.func108.trans (congrArg some (by kernel_rfl))
  f319 := Tryd.func109.trans (congrArg some (by kernel_rfl))
  f320 := Tryd.func110.trans (congrArg some (by kernel_rfl))
  f337 := Tryd.func111.trans (congrArg some (by kernel_rfl))
  f338 := Tryd.func112.trans (congrArg some (by kernel_rfl))
  t0 := Tryd.underlying0
  a0 := Tryd.isAgg0
  z0 := Tryd.sizeOf0
  v0 := Tryd.zeroValue0
  t2 := Tryd.underlying2
  a2 := Tryd.isAgg2
  z2 := Tryd.sizeOf2
  v2 := Tryd.zeroValue2
  t3 := Tryd.underlying3
  a3 := Tryd.isAgg3
  z3 := Tryd.sizeOf3
  v3 := Tryd.zeroValue3
  t4 := Tryd.underlying4
  a4 := Tryd.isAgg4
  z4 := Tryd.sizeOf4
  v4 := Tryd.zeroValue4
  t5 := Tryd.underlying5
  a5 := Tryd.isAgg5
  z5 := Tryd.sizeOf5
  v5 := Tryd.zeroValue5
  t9 := Tryd.underlying9
  a9 := Tryd.isAgg9
  z9 := Tryd.sizeOf9
  v9 := Tryd.zeroValue9
  t20 := Tryd.underlying20
  a20 := Tryd.isAgg20
  z20 := Tryd.sizeOf20
  v20 := Tryd.zeroValue20
  t37 := Tryd.underlying101
  a37 := Tryd.isAgg101
  z37 := Tryd.sizeOf101
  v37 := Tryd.zeroValue101
  t46 := Tryd.underlying105
  a46 := Tryd.isAgg105
  z46 := Tryd.sizeOf105
  v46 := Tryd.zeroValue105
  t51 := Tryd.underlying120
  a51 := Tryd.isAgg120
  z51 := Tryd.sizeOf120
  v51 := Tryd.zeroValue120
  t53 := Tryd.underlying122
  a53 := Tryd.isAgg122
  z53 := Tryd.sizeOf122
  v53 := Tryd.zeroValue122
  t171 := Tryd.underlying134
  a171 := Tryd.isAgg134
  z171 := Tryd.sizeOf134
  v171 := Tryd.zeroValue134
  t173 := Tryd.underlying136
  a173 := Tryd.isAgg136
  z173 := Tryd.sizeOf136
  v173 := Tryd.zeroValue136
  t212 := Tryd.underlying145
  a212 := Tryd.isAgg145
  z212 := Tryd.sizeOf145
  v212 := Tryd.zeroValue145
  t213 := Tryd.underlying146
  a213 := Tryd.isAgg146
  z213 := Tryd.sizeOf146
  t232 := Tryd.underlying147
  a232 := Tryd.isAgg147
  z232 := Tryd.sizeOf147
  v232 := Tryd.zeroValue147
  t233 := Tryd.underlying148
  a233 := Tryd.isAgg148
  z233 := Tryd.sizeOf148
  v233 := Tryd.zeroValue148
  g17 := by kernel_rfl
  g18 := by kernel_rfl
  g19 := by kernel_rfl
  i0 := by kernel_rfl
  i2 := by kernel_rfl
  i3 := by kernel_rfl
  i4 := by kernel_rfl
  i5 := by kernel_rfl
  i9 := by kernel_rfl
  i20 := by kernel_rfl
  i37 := by kernel_rfl
  i46 := by kernel_rfl
  i51 := by kernel_rfl
  i53 := by kernel_rfl
  i171 := by kernel_rfl
  i173 := by kernel_rfl
  i212 := by kernel_rfl
  i232 := by kernel_rfl
  i233 := by kernel_rfl
  m17 := by kernel_rfl
  m18 := by kernel_rfl
  m19 := by kernel_rfl }
open Go.RowKit Go.Sort Go.Lib in
/-- strconv.AppendInt: "AppendInt appends the string form of the integer i, as generated by FormatInt, to dst and returns the extended buffer.": AT BASE 10: WHAT COMES BACK OWNS dst's CELLS AND, BEHIND THEM, i's DECIMAL NUMERAL ('Lib.itoa i': at most 20 bytes), for every int64. Below the call's own blocks nothing has turned. (LAID: no walk: one application.) -/
theorem Tryd.strconv_AppendInt_10 (B n : Nat) (i : Int) (h0 : -9223372036854775808 ≤ i) (h1 : i ≤ 9223372036854775807) (sv : Value) (xs : List Value) (w : World) (hown : w.ownsRow B 5 1 sv n xs) (hBw : B ≤ w.heap.size) (hlim : n + 21 ≤ 140737488355328) (htab : Lib.TabBelow Tryd.prog B w "internal/strconv.uint64pow10" .u64 Lib.pow10Tab) :
    Calls Tryd.prog 67 #[sv, .int .i64 i, .int .i64 10] w fun e w' => ∃ v', e = .returned v' ∧ w'.ownsRow B 5 1 v' (n + (Lib.itoa i).length) (xs ++ Lib.byteCells (Lib.itoa i)) ∧ Below B w w' ∧ Lib.OthersKept 5 none w w' := Any.strconv_AppendInt_10 Tryd.laysM176 B n i h0 h1 sv xs w hown hBw hlim htab
end Go.Proofs
