/- Changes in a row of the call's own: grown, one laid in another's place. The acts that can be made. Over any program but for the codec. AgendaOrderless: the state between its calls. Contracts of agenda.Index and of the reference's Index: both answer the pick modulo n (0 where n is none). -/
import Derived.Test.YtjgigcnjgblekaaDoorKaq22
import Derived.Lib.Hide
import Derived.OpenShut
import Derived.Test.YtjgigcnjgblekaaDoorChecked
import Derived.WalkKit
import Derived.WalkLawsBesides
namespace Go.Proofs.YtjgigcnjgblekaaDoor
open Go Go.RowKit Go.Maps Classical

/-- A list of cells is written, one by one. -/
def setL (w : World) (g : Nat) : Nat → List Value → World
  | _, [] => w
  | o, c :: cs => setL (w.setCell ⟨g, o, none⟩ c) g (o + 1) cs
def setX (xs : List Value) : Nat → List Value → List Value
  | _, [] => xs
  | o, c :: cs => setX (xs.set o c) (o + 1) cs
theorem setL_turns (g : Nat) : ∀ (cs : List Value) (w : World) (o : Nat), Turns [g] w (setL w g o cs)
  | [], w, _ => Turns.refl _ _
  | c :: cs, w, o => ((Turns.refl [g] w).setCell (.inl (by simp)) c).trans (setL_turns g cs _ (o + 1)) (fun x hx => .inl hx)
theorem setL_own {base n cap : Nat} {e : TypeId} {sz g : Nat} : ∀ (cs : List Value) {w : World} {xs : List Value} (o : Nat), w.ownsRow base e sz (.slice (some ⟨g, 0, none⟩) n cap) n xs → (setL w g o cs).ownsRow base e sz (.slice (some ⟨g, 0, none⟩) n cap) n (setX xs o cs)
  | [], _, _, _, h => h
  | c :: cs, _, _, o, h => setL_own cs (o + 1) (h.stored o c).1
theorem setX_far : ∀ (cs xs : List Value) (o k : Nat), k < o ∨ o + cs.length ≤ k → (setX xs o cs)[k]? = xs[k]?
  | [], _, _, _, _ => rfl
  | c :: cs, xs, o, k, h => by
    simp only [List.length_cons] at h
    rw [setX, setX_far cs _ (o + 1) k (by omega), List.getElem?_set_ne (by omega)]
theorem setX_at : ∀ (cs xs : List Value) (o j : Nat), j < cs.length → o + cs.length ≤ xs.length → (setX xs o cs)[o + j]? = cs[j]?
  | [], _, _, j, h, _ => by simp at h
  | c :: cs, xs, o, j, h, hl => by
    simp only [List.length_cons] at h hl
    match j with
    | 0 =>
      rw [setX, setX_far cs _ (o + 1) (o + 0) (by omega)]
      simp only [Nat.add_zero, List.getElem?_cons_zero]
      rw [List.getElem?_set_self (by omega)]
    | j + 1 =>
      rw [setX, show o + (j + 1) = o + 1 + j by omega, setX_at cs _ (o + 1) j (by omega) (by rw [List.length_set]; omega)]
      rfl
/-- An element is laid in another's place. -/
theorem OwnF.put {α : Type} {F : Nat → Prop} {B : Nat} {w : World} {e : TypeId} {C : Cdc α} {g n cap : Nat} {xs : List α} (h : OwnF F B w e C (.slice (some ⟨g, 0, none⟩) n cap) xs) (hF : ¬ F g) {i : Nat} (hi : i < xs.length) {y : α} {cs : List Value} (hy : C.E F w cs y) :
    OwnF F B (setL w g (i * C.sz) cs) e C (.slice (some ⟨g, 0, none⟩) n cap) (xs.set i y) := by
  obtain ⟨cells, h1, h2⟩ := h
  have hn : n = xs.length := by
    rcases h1.2 with ⟨h', _⟩ | ⟨g', cap', cur, h', _⟩
    · simp at h'
    · simp only [Value.slice.injEq] at h'; exact h'.2.1
  subst hn
  have hl := C.len _ _ _ _ hy
  have K : Kp F w (setL w g (i * C.sz) cs) := Kp.of_turns (setL_turns g cs w _) (fun b hb hnw => by
    rw [List.mem_singleton.1 hb] at hnw
    exact hF hnw)
  have hmul : ∀ q, q < xs.length → q * C.sz + C.sz ≤ xs.length * C.sz := fun q hq => by
    have := Nat.mul_le_mul_right C.sz (show q + 1 ≤ xs.length from hq)
    rw [Nat.add_mul, Nat.one_mul] at this
    exact this
  refine ⟨setX cells (i * C.sz) cs, by rw [List.length_set]; exact setL_own cs _ h1, fun q x hx => ?_⟩
  by_cases e : q = i
  · subst e
    rw [List.getElem?_set_self hi] at hx
    rw [← Option.some.inj hx]
    refine ⟨cs, C.kp _ _ _ _ _ _ hy K (fun _ _ h => h), fun j u hu => ?_⟩
    rw [setX_at cs cells _ j (List.getElem?_eq_some_iff.1 hu).1 (by rw [h1.1, hl]; exact hmul q hi)]
    exact hu
  · rw [List.getElem?_set_ne (fun x => e x.symm)] at hx
    obtain ⟨ds, d1, d2⟩ := h2 q x hx
    refine ⟨ds, C.kp _ _ _ _ _ _ d1 K (fun _ _ h => h), fun j u hu => ?_⟩
    have hj : j < C.sz := by rw [← C.len _ _ _ _ d1]; exact (List.getElem?_eq_some_iff.1 hu).1
    rw [setX_far cs cells _ _ ?_]
    · exact d2 j u hu
    · rw [hl]
      rcases Nat.lt_or_ge q i with h3 | h3
      · left
        have := Nat.mul_le_mul_right C.sz (show q + 1 ≤ i from h3)
        rw [Nat.add_mul, Nat.one_mul] at this
        omega
      · right
        have := Nat.mul_le_mul_right C.sz (show i + 1 ≤ q by omega)
        rw [Nat.add_mul, Nat.one_mul] at this
        omega
/-- How a change is told. -/
def cdChg : Cdc (Bool × Ac) where
  E := EChg
  sz := 3
  len := fun F w cs x ⟨sv, h, _⟩ => by rw [h]; rfl
  kp := fun F F' w w' cs x h hk hF => h.kp hk hF
  one := fun F w cs x ⟨sv, h, _, h3⟩ u hu => by
    obtain ⟨A, c, rfl⟩ := h3.form
    rw [h] at hu
    simp only [List.mem_cons, List.not_mem_nil, or_false] at hu
    rcases hu with rfl | rfl | rfl <;> rfl
theorem infoChg : (Tryd.prog.info? 36).map (fun i => (i.zero, i.size, i.bytes)) = some (some (.agg #[.bool false, .int .i64 0, .slice none 0 0]), 3, 40) := by kernel_rfl

/-- The acts that can be made. -/
def all21 : List Ac := [⟨0, []⟩, ⟨1, [0]⟩, ⟨1, [1]⟩, ⟨1, [2]⟩, ⟨1, [3]⟩, ⟨2, [0, 0]⟩, ⟨2, [0, 1]⟩, ⟨2, [0, 2]⟩, ⟨2, [0, 3]⟩, ⟨2, [1, 0]⟩, ⟨2, [1, 1]⟩, ⟨2, [1, 2]⟩, ⟨2, [1, 3]⟩, ⟨2, [2, 0]⟩, ⟨2, [2, 1]⟩, ⟨2, [2, 2]⟩, ⟨2, [2, 3]⟩, ⟨2, [3, 0]⟩, ⟨2, [3, 1]⟩, ⟨2, [3, 2]⟩, ⟨2, [3, 3]⟩]
theorem all21_nod : all21.Nodup := by
  have h : (all21.map fun a => (a.rule, a.sub)).Nodup := by decide
  rw [List.nodup_iff_pairwise_ne] at h ⊢
  rw [List.pairwise_map] at h
  exact h.imp (fun h e => h (by rw [e]))
theorem made_mem (x : Ac) : madeA x ∈ all21 := by
  obtain ⟨r, s⟩ := x
  have h := modZ_rng (k := r) (n := 3) (by omega)
  unfold madeA
  simp only
  generalize modZ r 3 = m at h
  have h0 := modZ_rng (k := s.getD 0 0) (n := 4) (by omega)
  have h1 := modZ_rng (k := s.getD 1 0) (n := 4) (by omega)
  have e : m = 0 ∨ m = 1 ∨ m = 2 := by omega
  have two : madeSub ⟨r, s⟩ 2 = [modZ (s.getD 0 0) 4, modZ (s.getD 1 0) 4] := rfl
  have one : madeSub ⟨r, s⟩ 1 = [modZ (s.getD 0 0) 4] := rfl
  generalize modZ (s.getD 0 0) 4 = u at h0 one two
  generalize modZ (s.getD 1 0) 4 = v at h1 two
  have e0 : u = 0 ∨ u = 1 ∨ u = 2 ∨ u = 3 := by omega
  have e1 : v = 0 ∨ v = 1 ∨ v = 2 ∨ v = 3 := by omega
  rcases e with rfl | rfl | rfl
  · show (⟨0, madeSub ⟨r, s⟩ 0⟩ : Ac) ∈ all21
    rw [show madeSub ⟨r, s⟩ 0 = [] from rfl]
    simp [all21]
  · show (⟨1, madeSub ⟨r, s⟩ 1⟩ : Ac) ∈ all21
    rw [one]
    rcases e0 with rfl | rfl | rfl | rfl <;> simp [all21]
  · show (⟨2, madeSub ⟨r, s⟩ 2⟩ : Ac) ∈ all21
    rw [two]
    rcases e0 with rfl | rfl | rfl | rfl <;> rcases e1 with rfl | rfl | rfl | rfl <;> simp [all21]
theorem all21_ok {a : Ac} (h : a ∈ all21) : AcOk a := by
  have h3 : (0 ≤ a.rule ∧ a.rule ≤ 2) ∧ (∀ i ∈ a.sub, 0 ≤ i ∧ i ≤ 3) ∧ a.sub.length ≤ 2 := by
    unfold all21 at h
    simp only [List.mem_cons, List.not_mem_nil, or_false] at h
    rcases h with rfl | rfl | rfl | rfl | rfl | rfl | rfl | rfl | rfl | rfl | rfl | rfl | rfl | rfl | rfl | rfl | rfl | rfl | rfl | rfl | rfl <;> simp
  exact ⟨WalkArith.wf_i64 (by omega), fun i hi => WalkArith.wf_i64 (by have := h3.2.1 i hi; omega), by omega⟩
theorem all21_len {l : List Ac} (h : ∀ a ∈ l, a ∈ all21) (hn : l.Nodup) : l.length ≤ 21 := nod_len hn all21_nod h
end Go.Proofs.YtjgigcnjgblekaaDoor

namespace Go.Proofs.YtjgigcnjgblekaaDoor
open Go Go.RowKit Go.Maps Classical

def fourL : List Cst := [⟨2, 0, ⟨#[98]⟩⟩, ⟨2, 0, ⟨#[97]⟩⟩, ⟨1, 9, ⟨#[]⟩⟩, ⟨3, 0, ⟨#[]⟩⟩]
/-- Where the two agendas lie. -/
structure OrC where
  w1 : World
  pa : Nat
  ma : Nat
  fa : Nat
  pb : Nat
  mb : Nat
  fb : Nat
  lv : List Int
structure OrC.Ok (c : OrC) : Prop where
  lv : 3 ≤ c.lv.length
  ma : c.ma < c.w1.heap.size
  fa : c.fa < c.w1.heap.size
  mb : c.mb < c.w1.heap.size
  fb : c.fb < c.w1.heap.size
  n1 : c.ma ≠ c.mb
  n2 : c.ma ≠ c.fb
  n3 : c.fa ≠ c.mb
/-- Two agendas, one with the acts C, one with D; the changes li and lo in rows. -/
structure Orl (c : OrC) (N : Nat) (M : List Nat) (vi vo : Value) (C D li lo : List Ac) (w : World) : Prop where
  a : AgAt M w c.pa c.ma c.fa ⟨c.lv, fourL, C, []⟩ N
  b : AgAt M w c.pb c.mb c.fb ⟨c.lv, fourL, D, []⟩ N
  inn : OwnF (fun b => b ∉ M) c.w1.heap.size w 36 cdChg vi (li.map fun x => (true, x))
  out : OwnF (fun b => b ∉ M) c.w1.heap.size w 36 cdChg vo (lo.map fun x => (false, x))
  iM : ∀ b, vi.ownBlock = some b → b ∈ M
  oM : ∀ b, vo.ownBlock = some b → b ∈ M
  io : ∀ b, vi.ownBlock = some b → vo.ownBlock ≠ some b
  M : ∀ x ∈ M, x < w.heap.size
  turns : Turns [c.ma, c.mb] c.w1 w
section
variable {c : OrC} {N : Nat} {M : List Nat} {vi vo v : Value} {C D li lo C' : List Ac} {w w' : World}
theorem Orl.below (h : Orl c N M vi vo C D li lo w) (hb : Below w.heap.size w w') : Orl c N M vi vo C D li lo w' :=
  ⟨h.a.below hb, h.b.below hb, h.inn.below hb, h.out.below hb, h.iM, h.oM, h.io, fun x hx => Nat.lt_of_lt_of_le (h.M x hx) hb.size, h.turns.trans (S' := []) (Turns.of_below hb) (fun x hx => by simp at hx)⟩
theorem Orl.mono {N' : Nat} (h : Orl c N M vi vo C D li lo w) (hn : N ≤ N') : Orl c N' M vi vo C D li lo w :=
  ⟨h.a.mono hn, h.b.mono hn, h.inn, h.out, h.iM, h.oM, h.io, h.M, h.turns⟩
theorem Orl.iB (h : Orl c N M vi vo C D li lo w) {b : Nat} (hb : vi.ownBlock = some b) : c.w1.heap.size ≤ b ∧ b < w.heap.size := ⟨(h.inn.block hb).1, (h.inn.block hb).2.1⟩
theorem Orl.oB (h : Orl c N M vi vo C D li lo w) {b : Nat} (hb : vo.ownBlock = some b) : c.w1.heap.size ≤ b ∧ b < w.heap.size := ⟨(h.out.block hb).1, (h.out.block hb).2.1⟩
theorem Orl.stepA (h : Orl c N M vi vo C D li lo w) (k : c.Ok) {N' : Nat} (hn : N ≤ N') (ha : AgAt M w' c.pa c.ma c.fa ⟨c.lv, fourL, C', []⟩ N') (T : Turns [c.ma] w w') : Orl c N' M vi vo C' D li lo w' := by
  have hF : ∀ b ∈ [c.ma], ¬ b ∉ M := fun b hb hm => by rw [List.mem_singleton.1 hb] at hm; exact hm h.a.cM
  have km := k.ma
  exact ⟨ha, (h.b.step T (fun x hx => by rw [List.mem_singleton.1 hx]; exact ⟨h.a.cM, k.n1, k.n2⟩) (fun _ h => h) (fun _ h => .inl h)).mono hn,
    h.inn.keep T (fun b hb hm => by have := h.iB hb; rw [List.mem_singleton.1 hm] at this; omega) hF (fun _ _ h => h),
    h.out.keep T (fun b hb hm => by have := h.oB hb; rw [List.mem_singleton.1 hm] at this; omega) hF (fun _ _ h => h),
    h.iM, h.oM, h.io, fun x hx => Nat.lt_of_lt_of_le (h.M x hx) T.size, h.turns.trans T (fun x hx => .inl (by rw [List.mem_singleton.1 hx]; simp))⟩
theorem Orl.stepB (h : Orl c N M vi vo C D li lo w) (k : c.Ok) {N' : Nat} (hn : N ≤ N') (hb : AgAt M w' c.pb c.mb c.fb ⟨c.lv, fourL, C', []⟩ N') (T : Turns [c.mb] w w') : Orl c N' M vi vo C C' li lo w' := by
  have hF : ∀ b ∈ [c.mb], ¬ b ∉ M := fun b hx hm => by rw [List.mem_singleton.1 hx] at hm; exact hm h.b.cM
  have km := k.mb
  exact ⟨(h.a.step T (fun x hx => by rw [List.mem_singleton.1 hx]; exact ⟨h.b.cM, k.n1.symm, k.n3.symm⟩) (fun _ h => h) (fun _ h => .inl h)).mono hn, hb,
    h.inn.keep T (fun b hb hm => by have := h.iB hb; rw [List.mem_singleton.1 hm] at this; omega) hF (fun _ _ h => h),
    h.out.keep T (fun b hb hm => by have := h.oB hb; rw [List.mem_singleton.1 hm] at this; omega) hF (fun _ _ h => h),
    h.iM, h.oM, h.io, fun x hx => Nat.lt_of_lt_of_le (h.M x hx) T.size, h.turns.trans T (fun x hx => .inl (by rw [List.mem_singleton.1 hx]; simp))⟩
/-- A row of its own turns, or grows into a new block g. -/
theorem Orl.rowI (h : Orl c N M vi vo C D li lo w) (k : c.Ok) {g : Nat} {li' : List Ac} (T : Turns vi.ownBlock.toList w w') (hat : vi.ownBlock = some g ∨ w.heap.size ≤ g) (hg : g < w'.heap.size) (hv : v.ownBlock = some g)
    (hO : ∀ F', (∀ b, b < w.heap.size → b ∉ M → F' b) → OwnF F' c.w1.heap.size w' 36 cdChg v (li'.map fun x => (true, x))) : Orl c N (g :: M) v vo C D li' lo w' := by
  have hS : ∀ x ∈ vi.ownBlock.toList, x ∈ M ∧ c.w1.heap.size ≤ x := fun x hx => ⟨h.iM x (by simpa using hx), (h.iB (by simpa using hx)).1⟩
  have hM' : ∀ x ∈ g :: M, x ∈ M ∨ w.heap.size ≤ x := fun x hx => by
    rcases List.mem_cons.1 hx with rfl | hx
    · rcases hat with e | e
      · exact .inl (h.iM _ e)
      · exact .inr e
    · exact .inl hx
  have hF : ∀ b, b < w.heap.size → b ∉ M → b ∉ g :: M := fun b hb hn hm => by
    rcases hM' b hm with e | e
    · exact hn e
    · omega
  have k1 := k.ma; have k2 := k.fa; have k3 := k.mb; have k4 := k.fb
  refine ⟨h.a.step T (fun x hx => ⟨(hS x hx).1, by have := (hS x hx).2; omega, by have := (hS x hx).2; omega⟩) (fun _ h => List.mem_cons_of_mem _ h) hM',
    h.b.step T (fun x hx => ⟨(hS x hx).1, by have := (hS x hx).2; omega, by have := (hS x hx).2; omega⟩) (fun _ h => List.mem_cons_of_mem _ h) hM',
    hO _ hF, h.out.keep T (fun b hb hm => h.io b (by simpa using hm) hb) (fun b hb hm => hm (hS b hb).1) hF,
    fun b hb => by rw [hv] at hb; simp only [Option.some.injEq] at hb; rw [hb]; exact List.mem_cons_self .., fun b hb => List.mem_cons_of_mem _ (h.oM b hb), fun b hb e => ?_, fun x hx => ?_,
    h.turns.trans T (fun x hx => .inr (hS x hx).2)⟩
  · rw [hv] at hb
    simp only [Option.some.injEq] at hb
    subst hb
    rcases hat with hat | hat
    · exact h.io _ hat e
    · have := h.oB e; omega
  · rcases List.mem_cons.1 hx with rfl | hx
    · exact hg
    · exact Nat.lt_of_lt_of_le (h.M x hx) T.size
theorem Orl.rowO (h : Orl c N M vi vo C D li lo w) (k : c.Ok) {g : Nat} {lo' : List Ac} (T : Turns vo.ownBlock.toList w w') (hat : vo.ownBlock = some g ∨ w.heap.size ≤ g) (hg : g < w'.heap.size) (hv : v.ownBlock = some g)
    (hO : ∀ F', (∀ b, b < w.heap.size → b ∉ M → F' b) → OwnF F' c.w1.heap.size w' 36 cdChg v (lo'.map fun x => (false, x))) : Orl c N (g :: M) vi v C D li lo' w' := by
  have hS : ∀ x ∈ vo.ownBlock.toList, x ∈ M ∧ c.w1.heap.size ≤ x := fun x hx => ⟨h.oM x (by simpa using hx), (h.oB (by simpa using hx)).1⟩
  have hM' : ∀ x ∈ g :: M, x ∈ M ∨ w.heap.size ≤ x := fun x hx => by
    rcases List.mem_cons.1 hx with rfl | hx
    · rcases hat with e | e
      · exact .inl (h.oM _ e)
      · exact .inr e
    · exact .inl hx
  have hF : ∀ b, b < w.heap.size → b ∉ M → b ∉ g :: M := fun b hb hn hm => by
    rcases hM' b hm with e | e
    · exact hn e
    · omega
  have k1 := k.ma; have k2 := k.fa; have k3 := k.mb; have k4 := k.fb
  refine ⟨h.a.step T (fun x hx => ⟨(hS x hx).1, by have := (hS x hx).2; omega, by have := (hS x hx).2; omega⟩) (fun _ h => List.mem_cons_of_mem _ h) hM',
    h.b.step T (fun x hx => ⟨(hS x hx).1, by have := (hS x hx).2; omega, by have := (hS x hx).2; omega⟩) (fun _ h => List.mem_cons_of_mem _ h) hM',
    h.inn.keep T (fun b hb hm => h.io b hb (by simpa using hm)) (fun b hb hm => hm (hS b hb).1) hF, hO _ hF,
    fun b hb => List.mem_cons_of_mem _ (h.iM b hb), fun b hb => by rw [hv] at hb; simp only [Option.some.injEq] at hb; rw [hb]; exact List.mem_cons_self .., fun b hb e => ?_, fun x hx => ?_,
    h.turns.trans T (fun x hx => .inr (hS x hx).2)⟩
  · rw [hv] at e
    simp only [Option.some.injEq] at e
    subst e
    rcases hat with hat | hat
    · exact h.io _ hb hat
    · have := h.iB hb; omega
  · rcases List.mem_cons.1 hx with rfl | hx
    · exact hg
    · exact Nat.lt_of_lt_of_le (h.M x hx) T.size
/-- The row `in` is written over. -/
theorem Orl.turnI (h : Orl c N M vi vo C D li lo w) (k : c.Ok) {g : Nat} {li' : List Ac} (hvi : vi.ownBlock = some g) (T : Turns [g] w w') (hO : OwnF (fun b => b ∉ M) c.w1.heap.size w' 36 cdChg vi (li'.map fun x => (true, x))) : Orl c N M vi vo C D li' lo w' := by
  have hgM := h.iM g hvi
  have hgB := (h.iB hvi).1
  have hS : ∀ x ∈ [g], x ∈ M ∧ c.w1.heap.size ≤ x := fun x hx => by rw [List.mem_singleton.1 hx]; exact ⟨hgM, hgB⟩
  have k1 := k.ma; have k2 := k.fa; have k3 := k.mb; have k4 := k.fb
  exact ⟨h.a.step T (fun x hx => ⟨(hS x hx).1, by have := (hS x hx).2; omega, by have := (hS x hx).2; omega⟩) (fun _ h => h) (fun _ h => .inl h),
    h.b.step T (fun x hx => ⟨(hS x hx).1, by have := (hS x hx).2; omega, by have := (hS x hx).2; omega⟩) (fun _ h => h) (fun _ h => .inl h),
    hO, h.out.keep T (fun b hb hm => h.io b (by rw [List.mem_singleton.1 hm]; exact hvi) hb) (fun b hb hm => hm (hS b hb).1) (fun _ _ h => h), h.iM, h.oM, h.io, fun x hx => Nat.lt_of_lt_of_le (h.M x hx) T.size,
    h.turns.trans T (fun x hx => .inr (hS x hx).2)⟩
end
/-- One change alone, in a new block. -/
theorem one_chg {F : Nat → Prop} {w : World} {H : Nat} {x : Bool × Ac} {sv : Value} {T : TypeId} (h : w.heap[H]? = some (.cells #[.bool x.1, .int .i64 x.2.rule, sv] T (0, 0))) (hF : F H) (hok : AcOk x.2) (hs : RSl F w 1 EInt sv x.2.sub) : RSl F w 3 (EChg F w) (.slice (some ⟨H, 0, none⟩) 1 1) [x] := by
  refine ⟨some ⟨H, 0, none⟩, 1, rfl, Nat.le_refl _, by unfold maxLen; decide, (fun h => by cases h), .inr ⟨H, 0, rfl, hF, lt_of_heap h, fun i y hy => ?_⟩⟩
  match i with
  | 0 =>
    simp only [List.getElem?_cons_zero, Option.some.injEq] at hy
    subst hy
    refine ⟨_, ⟨sv, rfl, hok, hs⟩, fun j u hu => ?_⟩
    rw [show 0 + 0 * 3 + j = j by omega]
    exact (cell_of_row _ _ j _ _ _ h).trans (by simpa using hu)
  | i + 1 => simp at hy
theorem app_one {g : Agd} (a : Ac) (ho : ownA g a) : appF g [(true, a)] 0 = if a ∈ g.C then (0, 51, g) else (1, 0, { g with C := g.C ++ [a] }) := by
  by_cases h : a ∈ g.C
  · rw [if_pos h, app_stop (by rw [chg_twice ho h]; exact (by decide : (51 : Int) ≠ 0)), chg_twice ho h]
  · rw [if_neg h]
    have := app_come [a] g 0 (fun b hb => by rw [List.mem_singleton.1 hb]; exact ho) (by simp) (fun b hb => by rw [List.mem_singleton.1 hb]; exact h)
    simpa using this
/-- Both agendas new. -/
theorem orl_start {w4 w6 : World} {pa ma fa pb mb fb : Nat} {lv : List Int} (hA : AgAt [ma, fa] w4 pa ma fa ⟨lv, fourL, [], []⟩ 0) (hb : Below w4.heap.size w4 w6) (hB : AgAt [mb, fb, ma, fa] w6 pb mb fb ⟨lv, fourL, [], []⟩ 0)
    (g1 : w4.heap.size ≤ mb) (g2 : w4.heap.size ≤ fb) (h3 : 3 ≤ lv.length) : (OrC.mk w6 pa ma fa pb mb fb lv).Ok ∧ Orl (OrC.mk w6 pa ma fa pb mb fb lv) 0 [mb, fb, ma, fa] (.slice none 0 0) (.slice none 0 0) [] [] [] [] w6 := by
  have a1 := hA.con.lt
  have a2 := hA.fir.lt
  have b1 := hB.con.lt
  have b2 := hB.fir.lt
  have hs := hb.size
  refine ⟨⟨h3, Nat.lt_of_lt_of_le a1 hs, Nat.lt_of_lt_of_le a2 hs, b1, b2, by show ma ≠ mb; omega, by show ma ≠ fb; omega, by show fa ≠ mb; omega⟩, ⟨hA.step (S := []) (Turns.of_below hb) (fun _ hx => by simp at hx) (fun x hx => ?_) (fun x hx => ?_), hB, OwnF.nil, OwnF.nil, (fun b hb => by simp [Value.ownBlock] at hb), (fun b hb => by simp [Value.ownBlock] at hb), (fun b hb => by simp [Value.ownBlock] at hb), fun x hx => ?_, Turns.refl _ _⟩⟩
  · simp only [List.mem_cons, List.not_mem_nil, or_false] at hx ⊢
    rcases hx with rfl | rfl <;> simp
  · simp only [List.mem_cons, List.not_mem_nil, or_false] at hx ⊢
    rcases hx with rfl | rfl | rfl | rfl <;> simp [g1, g2]
  · simp only [List.mem_cons, List.not_mem_nil, or_false] at hx
    show x < w6.heap.size
    rcases hx with rfl | rfl | rfl | rfl <;> omega
section
variable {c : OrC} {N : Nat} {M : List Nat} {vi vo v : Value} {C D li lo : List Ac} {w : World}
theorem mk_own (k : c.Ok) (C : List Ac) {a : Ac} (h : ∃ x, madeA x = a) : ownA ⟨c.lv, fourL, C, []⟩ a := by
  obtain ⟨x, rfl⟩ := h
  exact made_own k.lv rfl x
/-- An act that is there comes. -/
theorem orl_twice (h : Orl c N M vi vo C D li lo w) (k : c.Ok) {a : Ac} (hm : ∃ x, madeA x = a) (ha : a ∈ C) (hs : RSl (fun b => b ∉ M) w 3 (EChg (fun b => b ∉ M) w) v [(true, a)]) (hN : N + 1 < maxLen) (ht : ∀ W, Turns [c.ma] w W → Tab W) :
    Calls Tryd.prog 10 #[.pointer (some ⟨c.pa, 0, none⟩), v] w fun e w' => e = .returned (.tuple #[.int .i64 0, .int .i64 51]) ∧ Orl c (N + 1) M vi vo C D li lo w' ∧ Turns [c.ma] w w' := by
  refine (applyW v [(true, a)] w h.a hs (fun hm => hm h.a.cM) h.M hN ht).mono ?_
  intro e w' hr
  rw [app_one a (mk_own k C hm), if_pos ha] at hr
  exact ⟨hr.1, h.stepA k (Nat.le_succ N) hr.2.1 hr.2.2, hr.2.2⟩
/-- A new act comes. -/
theorem orl_come (h : Orl c N M vi vo C D li lo w) (k : c.Ok) {a : Ac} (hm : ∃ x, madeA x = a) (ha : a ∉ C) (hs : RSl (fun b => b ∉ M) w 3 (EChg (fun b => b ∉ M) w) v [(true, a)]) (hN : N + 1 < maxLen) (ht : ∀ W, Turns [c.ma] w W → Tab W) :
    Calls Tryd.prog 10 #[.pointer (some ⟨c.pa, 0, none⟩), v] w fun e w' => e = .returned (.tuple #[.int .i64 1, .int .i64 0]) ∧ Orl c (N + 1) M vi vo (C ++ [a]) D li lo w' ∧ Turns [c.ma] w w' := by
  refine (applyW v [(true, a)] w h.a hs (fun hm => hm h.a.cM) h.M hN ht).mono ?_
  intro e w' hr
  rw [app_one a (mk_own k C hm), if_neg ha] at hr
  exact ⟨hr.1, h.stepA k (Nat.le_succ N) hr.2.1 hr.2.2, hr.2.2⟩
/-- All of the row `in` come. -/
theorem orl_in (h : Orl c N M vi vo C [] li lo w) (k : c.Ok) (hm : ∀ a ∈ li, ∃ x, madeA x = a) (hn : li.Nodup) (hN : N + li.length < maxLen) (ht : ∀ W, Turns [c.mb] w W → Tab W) :
    Calls Tryd.prog 10 #[.pointer (some ⟨c.pb, 0, none⟩), vi] w fun e w' => e = .returned (.tuple #[.int .i64 (li.length : Int), .int .i64 0]) ∧ Orl c (N + li.length) M vi vo C li li lo w' := by
  have hs : RSl (fun _ => True) w 3 (EChg (fun b => b ∉ M) w) vi (li.map fun x => (true, x)) := h.inn.rsl (fun _ _ => trivial)
  have hs' : RSl (fun b => b ∉ M ∨ vi.ownBlock = some b) w 3 (EChg (fun b => b ∉ M ∨ vi.ownBlock = some b) w) vi (li.map fun x => (true, x)) :=
    (h.inn.rsl (G := fun b => b ∉ M ∨ vi.ownBlock = some b) (fun b hb => .inr hb)).kp (Kp.refl _ _) (fun _ _ h => h) (fun _ _ hc => EChg.kp hc (Kp.refl _ _) (fun _ _ h => .inl h))
  refine (applyW vi (li.map fun x => (true, x)) w h.b hs' (fun hm => ?_) h.M (by rw [List.length_map]; exact hN) ht).mono ?_
  · rcases hm with hm | hm
    · exact hm h.b.cM
    · have := h.iB hm; have := k.mb; omega
  intro e w' hr
  rw [app_come li _ 0 (fun a ha => mk_own k [] (hm a ha)) hn (fun a _ hc => by simp at hc), List.length_map] at hr
  simp only [Nat.zero_add, List.nil_append] at hr
  exact ⟨hr.1, h.stepB k (Nat.le_add_right _ _) hr.2.1 hr.2.2⟩
/-- All of the row `out` go. -/
theorem orl_out (h : Orl c N M vi vo C D li lo w) (k : c.Ok) (hm : ∀ a ∈ lo, ∃ x, madeA x = a) (hn : lo.Nodup) (hD : ∀ a, a ∈ D ↔ a ∈ lo) (hN : N + lo.length < maxLen) (ht : ∀ W, Turns [c.mb] w W → Tab W) :
    Calls Tryd.prog 10 #[.pointer (some ⟨c.pb, 0, none⟩), vo] w fun e w' => e = .returned (.tuple #[.int .i64 (lo.length : Int), .int .i64 0]) ∧ Orl c (N + lo.length) M vi vo C [] li lo w' := by
  have hs' : RSl (fun b => b ∉ M ∨ vo.ownBlock = some b) w 3 (EChg (fun b => b ∉ M ∨ vo.ownBlock = some b) w) vo (lo.map fun x => (false, x)) :=
    (h.out.rsl (G := fun b => b ∉ M ∨ vo.ownBlock = some b) (fun b hb => .inr hb)).kp (Kp.refl _ _) (fun _ _ h => h) (fun _ _ hc => EChg.kp hc (Kp.refl _ _) (fun _ _ h => .inl h))
  refine (applyW vo (lo.map fun x => (false, x)) w h.b hs' (fun hm => ?_) h.M (by rw [List.length_map]; exact hN) ht).mono ?_
  · rcases hm with hm | hm
    · exact hm h.b.cM
    · have := h.oB hm; have := k.mb; omega
  intro e w' hr
  rw [app_go lo _ 0 (fun a ha => mk_own k D (hm a ha)) hn (fun a ha => (hD a).2 ha), List.length_map] at hr
  simp only [Nat.zero_add] at hr
  rw [drop_all lo D (fun a ha => (hD a).1 ha)] at hr
  exact ⟨hr.1, h.stepB k (Nat.le_add_right _ _) hr.2.1 hr.2.2⟩
end
section
variable {c : OrC} {N : Nat} {M : List Nat} {vi vo v : Value} {C D li lo : List Ac} {w : World}
theorem wpList_in {ops : Array Oper} {rest : List Oper} {o : Oper} {a : Act} {Q : Exit → Act → World → Prop} (h : Orl c N M vi vo C D li lo w) (k : c.Ok) (hgd : o.guard = none) (s q : Operand)
    (ho : o.op = .call { callee := .builtin .append, args := #[s, q], argTypes := #[28, 28] }) (hs : a.eval s = vi) {cap0 H : Nat} (hq : a.eval q = .slice (some ⟨H, 0, none⟩) 1 cap0) (hH : w.heap.size = H) {x : Ac} {sv : Value} (T : TypeId) (hok : AcOk x) (hel : RSl (fun b => b ∉ M) w 1 EInt sv x.sub) (hn : li.length ≤ 40000000)
    (kk : ∀ g cap w', Orl c N (g :: M) (.slice (some ⟨g, 0, none⟩) (li.length + 1) cap) vo C D (li ++ [x]) lo w' → Turns vi.ownBlock.toList w w' → (∀ b, b < w.heap.size → b ∉ M → b ∉ g :: M) → wpList Tryd.prog ops Q rest (a.put o.dst (.slice (some ⟨g, 0, none⟩) (li.length + 1) cap)) w') : wpList Tryd.prog ops Q (o :: rest) a (w.alloc (.cells #[.bool true, .int .i64 x.rule, sv] T)) := by
  refine wpList_append_F h.inn (fun b hb hm => hm (h.iM b hb)) hgd s q 28 ho Tryd.underlying28 infoChg rfl (by decide) hs #[.bool true, .int .i64 x.rule, sv] T hq hH (x := (true, x)) ⟨sv, rfl, hok, hel⟩ (by rw [List.length_map]; exact hn) (by decide) h.turns.size ?_
  intro g cap w' hO hT hat hlt
  rw [List.length_map] at hO ⊢
  exact kk g cap w' (h.rowI k hT hat hlt rfl (fun F' hF => by rw [List.map_append]; exact hO F' hF)) hT (fun b hb hn hm => by
    rcases List.mem_cons.1 hm with e | hm
    · rcases hat with e2 | e2
      · exact hn (h.iM b (by rw [e]; exact e2))
      · omega
    · exact hn hm)
theorem wpList_out {ops : Array Oper} {rest : List Oper} {o : Oper} {a : Act} {Q : Exit → Act → World → Prop} (h : Orl c N M vi vo C D li lo w) (k : c.Ok) (hgd : o.guard = none) (s q : Operand)
    (ho : o.op = .call { callee := .builtin .append, args := #[s, q], argTypes := #[28, 28] }) (hs : a.eval s = vo) {cap0 H : Nat} (hq : a.eval q = .slice (some ⟨H, 0, none⟩) 1 cap0) (hH : w.heap.size = H) {x : Ac} {sv : Value} (T : TypeId) (hok : AcOk x) (hel : RSl (fun b => b ∉ M) w 1 EInt sv x.sub) (hn : lo.length ≤ 40000000)
    (kk : ∀ g cap w', Orl c N (g :: M) vi (.slice (some ⟨g, 0, none⟩) (lo.length + 1) cap) C D li (lo ++ [x]) w' → Turns vo.ownBlock.toList w w' → (∀ b, b < w.heap.size → b ∉ M → b ∉ g :: M) → wpList Tryd.prog ops Q rest (a.put o.dst (.slice (some ⟨g, 0, none⟩) (lo.length + 1) cap)) w') : wpList Tryd.prog ops Q (o :: rest) a (w.alloc (.cells #[.bool false, .int .i64 x.rule, sv] T)) := by
  refine wpList_append_F h.out (fun b hb hm => hm (h.oM b hb)) hgd s q 28 ho Tryd.underlying28 infoChg rfl (by decide) hs #[.bool false, .int .i64 x.rule, sv] T hq hH (x := (false, x)) ⟨sv, rfl, hok, hel⟩ (by rw [List.length_map]; exact hn) (by decide) h.turns.size ?_
  intro g cap w' hO hT hat hlt
  rw [List.length_map] at hO ⊢
  exact kk g cap w' (h.rowO k hT hat hlt rfl (fun F' hF => by rw [List.map_append]; exact hO F' hF)) hT (fun b hb hn hm => by
    rcases List.mem_cons.1 hm with e | hm
    · rcases hat with e2 | e2
      · exact hn (h.oM b (by rw [e]; exact e2))
      · omega
    · exact hn hm)
end
theorem OwnF.head {α : Type} {F : Nat → Prop} {B : Nat} {w : World} {e : TypeId} {C : Cdc α} {A : Option Addr} {n c : Nat} {xs : List α} (h : OwnF F B w e C (.slice A n c) xs) (hne : 0 < xs.length) : ∃ g, A = some ⟨g, 0, none⟩ ∧ ∀ o, w.frozen? ⟨g, o, none⟩ = false := by
  obtain ⟨cells, h1, _⟩ := h
  rcases h1.2 with ⟨_, h0⟩ | ⟨g, cap, cur, h', _, hh, _⟩
  · omega
  · simp only [Value.slice.injEq] at h'
    exact ⟨g, h'.1, fun o => frozen_of_row _ _ _ _ _ hh⟩
theorem swap_perm {ys : List Ac} {i j : Nat} {y x : Ac} (hy : ys[i]? = some y) (hx : ys[j]? = some x) : ((ys.set i x).set j y).Perm ys := by
  obtain ⟨h1, e1⟩ := List.getElem?_eq_some_iff.1 hy
  obtain ⟨h2, e2⟩ := List.getElem?_eq_some_iff.1 hx
  have := List.set_set_perm h1 h2
  rw [e1, e2] at this
  exact this
theorem mem_made {a : Ac} (h : a ∈ all21) : ∃ x, madeA x = a := by
  refine ⟨a, ?_⟩
  unfold all21 at h
  simp only [List.mem_cons, List.not_mem_nil, or_false] at h
  rcases h with rfl | rfl | rfl | rfl | rfl | rfl | rfl | rfl | rfl | rfl | rfl | rfl | rfl | rfl | rfl | rfl | rfl | rfl | rfl | rfl | rfl <;> rfl
theorem or_alike {lv : List Int} {l ys : List Ac} (hp : ys.Perm l) : Alike ⟨lv, fourL, l, []⟩ ⟨lv, fourL, ys, []⟩ := ⟨rfl, rfl, hp.symm, fun _ => Iff.rfl⟩
theorem or_ne {lv : List Int} {l : List Ac} (h : AgOk ⟨lv, fourL, l, []⟩) : eligA ⟨lv, fourL, l, []⟩ = [] ↔ l = [] := by
  rw [elig_ne h, open_noD rfl]
theorem or_none (lv : List Int) (cs : List Cst) : strA ⟨lv, cs, [], []⟩ = -1 := rfl
theorem or_sort (cs : List Cst) : sortA cs [] = [] := List.eq_nil_of_length_eq_zero (sortA_perm cs []).length_eq
/-- A told list's length. -/
theorem LstRes.len {l : List Ac} {w w' : World} {e : Ending} (h : LstRes l w e w') : ∃ A c, e = .returned (.slice A l.length c) ∧ Below w.heap.size w w' ∧ RSl (fun _ => True) w' 2 (EAc (fun _ => True) w') (.slice A l.length c) l := by
  obtain ⟨v, zs, rfl, hz, hm, hb⟩ := h
  obtain ⟨A, c, rfl⟩ := hz.form
  have hl : zs.length = l.length := by rw [← hm, List.length_map]
  have hr := EAc.all hz.rsl (Kp.refl _ _) (F' := fun _ => True) (fun _ _ _ => trivial)
  rw [hm, hl] at hr
  exact ⟨A, c, by rw [hl], hb, hr.kp (Kp.refl _ _) (fun _ _ _ => trivial) (fun _ _ h => h)⟩
end Go.Proofs.YtjgigcnjgblekaaDoor

namespace Go.Proofs.YtjgigcnjgblekaaDoor
open Go.RowKit Go.OpenShut

/-- The pick modulo n, from 0 to n-1; 0 where n is none. -/
def idxOf (a b : Int) : Int := if b ≤ 0 then 0 else a % b

theorem tmod_neg (a b : Int) (hb : 0 < b) (h : a.tmod b < 0) : a.tmod b + b = a % b := by
  have h1 := Int.tmod_eq_emod (a := a) (b := b)
  split at h1
  · have := Int.emod_nonneg a (b := b) (by omega)
    omega
  · have : (b.natAbs : Int) = b := by omega
    omega
theorem tmod_pos (a b : Int) (hb : 0 < b) (h : 0 ≤ a.tmod b) : a.tmod b = a % b := by
  have h1 := Int.tmod_eq_emod (a := a) (b := b)
  split at h1
  · simpa using h1
  · have := Int.emod_lt_of_pos a hb
    omega
theorem tmod_bds (a b : Int) (hb : 0 < b) : -b < a.tmod b ∧ a.tmod b < b := by
  have h1 := Int.lt_tmod_of_pos a hb
  have h2 := Int.tmod_lt_of_pos a hb
  exact ⟨h1, h2⟩

theorem idx_none (a b : Int) (w : World) (hb : b ≤ 0) :
    Calls Tryd.prog 52 #[.int .i64 a, .int .i64 b] w fun e w' => e = .returned (.int .i64 0) ∧ w = w' := by
  go_enter Tryd.func52, Tryd.ntmps52
  go_wp2
  go_ret
  exact ⟨rfl, rfl⟩

theorem idx_pos (a b : Int) (w : World) (hb : 0 < b) (hb2 : b ≤ 9223372036854775807) (ha1 : -9223372036854775808 ≤ a) (ha2 : a ≤ 9223372036854775807) :
    Calls Tryd.prog 52 #[.int .i64 a, .int .i64 b] w fun e w' => e = .returned (.int .i64 (a % b)) ∧ w = w' := by
  by_cases ha : 0 ≤ a
  · have h1 : 0 ≤ a % b := Int.emod_nonneg _ (by omega)
    have h2 : a % b < b := Int.emod_lt_of_pos _ hb
    go_enter Tryd.func52, Tryd.ntmps52
    go_wp2
    go_ret
    exact ⟨rfl, rfl⟩
  · have ⟨h1, h2⟩ := tmod_bds a b hb
    by_cases hn : a.tmod b < 0
    · have E := Lib.hid (tmod_neg a b hb hn)
      go_enter Tryd.func52, Tryd.ntmps52
      go_wp2
      go_ret
      exact ⟨by rw [E.out]; rfl, rfl⟩
    · have E := Lib.hid (tmod_pos a b hb (by omega))
      go_enter Tryd.func52, Tryd.ntmps52
      go_wp2
      go_ret
      exact ⟨by rw [E.out]; rfl, rfl⟩
theorem idx_any (a b : Int) (w : World) (ha : (Lit.int .i64 a).wf = true) (hb : (Lit.int .i64 b).wf = true) :
    Calls Tryd.prog 52 #[.int .i64 a, .int .i64 b] w fun e w' => e = .returned (.int .i64 (idxOf a b)) ∧ w = w' := by
  have := bounds_i64 ha
  have := bounds_i64 hb
  unfold idxOf
  split
  · exact idx_none a b w ‹_›
  · exact idx_pos a b w (by omega) (by omega) (by omega) (by omega)

theorem ridx_none (a b : Int) (w : World) (hb : b ≤ 0) :
    Calls Tryd.prog 62 #[.int .i64 a, .int .i64 b] w fun e w' => e = .returned (.int .i64 0) ∧ w = w' := by
  go_enter Tryd.func62, Tryd.ntmps62
  go_wp2
  go_ret
  exact ⟨rfl, rfl⟩
theorem tdiv_mul (a b : Int) : a - a.tdiv b * b = a.tmod b := by
  have := Int.tmod_add_mul_tdiv a b
  rw [Int.mul_comm] at this
  omega
theorem wrap_id (n : Int) (h1 : -9223372036854775808 ≤ n) (h2 : n ≤ 9223372036854775807) : wrap64 n = n := IntWalk.wrap64_in n ⟨h1, h2⟩
theorem tdiv_bds (a b : Int) (hb : 0 < b) (ha1 : -9223372036854775808 ≤ a) (ha2 : a ≤ 9223372036854775807) :
    (-9223372036854775808 ≤ a.tdiv b ∧ a.tdiv b ≤ 9223372036854775807) ∧ -9223372036854775808 ≤ a.tdiv b * b ∧ a.tdiv b * b ≤ 9223372036854775807 := by
  have h := tdiv_mul a b
  have h1 := Int.natAbs_tdiv_le_natAbs a b
  by_cases h0 : 0 ≤ a
  · have h2 := Int.tmod_nonneg (b := b) (a := a) h0
    have h3 : 0 ≤ a.tdiv b := Int.tdiv_nonneg h0 (by omega)
    have h4 : 0 ≤ a.tdiv b * b := Int.mul_nonneg h3 (by omega)
    omega
  · have h2 : (-a).tmod b = - a.tmod b := Int.neg_tmod ..
    have h2' := Int.tmod_nonneg (b := b) (a := -a) (by omega)
    have h3 : 0 ≤ (-a).tdiv b := Int.tdiv_nonneg (by omega) (by omega)
    rw [Int.neg_tdiv] at h3
    have h4 : 0 ≤ (- a.tdiv b) * b := Int.mul_nonneg h3 (by omega)
    rw [Int.neg_mul] at h4
    omega
theorem ridx_pos (a b : Int) (w : World) (hb : 0 < b) (hb2 : b ≤ 9223372036854775807) (ha1 : -9223372036854775808 ≤ a) (ha2 : a ≤ 9223372036854775807) :
    Calls Tryd.prog 62 #[.int .i64 a, .int .i64 b] w fun e w' => e = .returned (.int .i64 (a % b)) ∧ w = w' := by
  have ⟨h1, h2⟩ := tmod_bds a b hb
  have ⟨⟨h3, h4⟩, h5, h6⟩ := tdiv_bds a b hb ha1 ha2
  have E := Lib.hid (tdiv_mul a b)
  have h7 : -b < a - a.tdiv b * b := by rw [E.out]; exact h1
  have h8 : a - a.tdiv b * b < b := by rw [E.out]; exact h2
  by_cases hn : a.tmod b < 0
  · have E2 := Lib.hid (tmod_neg a b hb hn)
    have hn' : a - a.tdiv b * b < 0 := by rw [E.out]; exact hn
    clear h1 h2 hn
    go_enter Tryd.func62, Tryd.ntmps62
    go_wp2
    go_ret
    exact ⟨by rw [← E2.out, ← E.out]; rfl, rfl⟩
  · have E2 := Lib.hid (tmod_pos a b hb (by omega))
    have hn' : ¬ a - a.tdiv b * b < 0 := by rw [E.out]; exact hn
    clear h1 h2 hn
    go_enter Tryd.func62, Tryd.ntmps62
    go_wp2
    go_ret
    exact ⟨by rw [← E2.out, ← E.out]; rfl, rfl⟩
theorem ridx_any (a b : Int) (w : World) (ha : (Lit.int .i64 a).wf = true) (hb : (Lit.int .i64 b).wf = true) :
    Calls Tryd.prog 62 #[.int .i64 a, .int .i64 b] w fun e w' => e = .returned (.int .i64 (idxOf a b)) ∧ w = w' := by
  have := bounds_i64 ha
  have := bounds_i64 hb
  unfold idxOf
  split
  · exact ridx_none a b w ‹_›
  · exact ridx_pos a b w (by omega) (by omega) (by omega) (by omega)
end Go.Proofs.YtjgigcnjgblekaaDoor
