/- The law SymOrder returns true for every three constants, valid or not. No condition. -/
import Derived.Test.YtblonickpmogiaaRows
import Derived.Test.YtblonickpmogiaaFrame
import Derived.Test.YtblonickpmogiaaSlR
import Derived.Test.YtblonickpmogiaaSymOrderW
namespace Go.Proofs.Ytblonickpmogiaa.symOrder
open Go.ChangeShapes Go.WideShapes Go.ChangeAt Go.RowKit Go.Deep

theorem own : ownKnob Try.prog.godebug = none := by kernel_rfl
theorem laidOut : laidOutB Try.prog = true := by kernel_rfl
theorem cells3 : Try.prog.cellsOf 27 = 3 := by kernel_rfl
theorem reads : Try.prog.readableRec 27 = true := by kernel_rfl
theorem inTypes : 27 < Try.prog.types.size := of_decide_eq_true (by kernel_rfl)

/-- The walk, its facts laid. -/
theorem walk3 (a b c : Cst) (w : World) (ha : a.okR) (hb : b.okR) :
    Calls Try.prog 6 #[.agg #[.int .i64 a.k, .int .i64 a.n, .string a.s], .agg #[.int .i64 b.k, .int .i64 b.n, .string b.s], .agg #[.int .i64 c.k, .int .i64 c.n, .string c.s]] w fun e w' => e = .returned (.bool true) ∧ Below w.heap.size w w' := by
  have hr := cmpC_rng a b
  have hn := cmpC_neg a b
  have hz := @cmpC_zero a b
  have ht := @cmpC_le_trans a b c
  have e : ∀ x y : ByteArray, (x ++ y).toList = x.toList ++ y.toList := fun x y => by simp [ByteArray.toList_eq]
  have hp : ∀ l : ByteArray, cmpC ⟨3, 0, l ++ a.s⟩ ⟨3, 0, l ++ b.s⟩ = cmpL a.s.toList b.s.toList := by
    intro l
    rw [cmpC_eq]
    show cmpL (l ++ a.s).toList (l ++ b.s).toList = _
    rw [e, e, cmpL_prefix]
  have hm : cmpC ⟨1, a.n, ⟨#[]⟩⟩ ⟨1, b.n, ⟨#[]⟩⟩ = cmpI a.n b.n := by
    rw [cmpC_eq]
    show (if cmpI a.n b.n = 0 then cmpL (⟨#[]⟩ : ByteArray).toList (⟨#[]⟩ : ByteArray).toList else cmpI a.n b.n) = _
    split
    · rename_i h; rw [h, cmpL_self]
    · rfl
  have hm2 : decide (cmpC ⟨1, a.n, ⟨#[]⟩⟩ ⟨1, b.n, ⟨#[]⟩⟩ < 0) = decide (a.n < b.n) := by rw [hm]; simp only [cmpI_lt]
  obtain ⟨pq, hpq⟩ : ∃ pq, pq = cmpC ⟨3, 0, longs 250 ++ a.s⟩ ⟨3, 0, longs 250 ++ b.s⟩ := ⟨_, rfl⟩
  have hpq2 : pq = cmpL a.s.toList b.s.toList := by rw [hpq, hp]
  obtain ⟨nm, hnm⟩ : ∃ nm, nm = cmpC ⟨1, a.n, ⟨#[]⟩⟩ ⟨1, b.n, ⟨#[]⟩⟩ := ⟨_, rfl⟩
  rw [← hnm] at hm2
  obtain ⟨ab, hab⟩ : ∃ ab, ab = cmpC a b := ⟨_, rfl⟩
  obtain ⟨bc, hbc⟩ : ∃ bc, bc = cmpC b c := ⟨_, rfl⟩
  obtain ⟨ac, hac⟩ : ∃ ac, ac = cmpC a c := ⟨_, rfl⟩
  have hba : -ab = cmpC b a := by rw [hab]; omega
  rw [← hab] at hr hn hz ht
  rw [← hbc, ← hac] at ht
  exact walk a.k a.n a.s b.k b.n b.s c.k c.n c.s w ha.2 hb.2 ab bc ac nm pq hpq hpq2 ht hnm hm2 (by omega) (by omega) hz hab hba hbc hac

set_option maxRecDepth 100000 in
/-- A constant as an argument. -/
theorem open_arg {H : Type} {enc : TypeId × Value → H} {W : World} {r : Reach} {b0 : Nat} {v : Value} {d : DataW H} {p : List MemPlace} (hv : Value.okWide Try.prog W r b0 27 v) (h : DataW.Trod enc Try.prog W 0 (fun _ => true) true 27 v d p)
    (hR : InReach Try.prog 27 d) : ∃ c : Cst, c.okR ∧ v = .agg #[.int .i64 c.k, .int .i64 c.n, .string c.s] := by
  obtain ⟨cs, rfl, _⟩ := okWide_struct Try.underlying27 hv
  obtain ⟨fuel, hf⟩ := h
  obtain ⟨c, hc, hcs⟩ := open_cstR Try.underlying27 (by kernel_rfl) Try.underlying3 Try.underlying2 Try.underlying9 cells3 hf hR
  refine ⟨c, hc, ?_⟩
  have : cs.toList = c.cells := hcs
  rw [show cs = cs.toList.toArray by simp, this]
  rfl

set_option maxRecDepth 100000 in
theorem lifted (os : Os) (started : os.Started) (H : Type) (enc : TypeId × Value → H) :
    ReturnsInHanded {} Try.checked os 6 .any (Rows.symOrderSpec.pre6 enc Try.prog Try.f6 Rows.symOrderRow.domain false) (Rows.symOrderSpec.post enc Try.prog Try.f6 false true false false) := by
  refine Frm.law_lifted (C := Try.checked) own started (by kernel_rfl) Try.func6
    (ChangeSpec.witness6 (enc := enc) (C := Try.checked) false ⟨#[], #[.agg #[.int .i64 0, .int .i64 0, .string ⟨#[]⟩], .agg #[.int .i64 0, .int .i64 0, .string ⟨#[]⟩], .agg #[.int .i64 0, .int .i64 0, .string ⟨#[]⟩]], []⟩ 8 (by kernel_rfl) (by kernel_rfl) (by kernel_rfl) (by kernel_rfl)) laidOut ?_ rfl rfl Try.underlying4 ?_ ?_
  · rw [Try.params6]
    intro t ht
    obtain rfl : t = 27 := by simpa using ht
    exact ⟨reads, inTypes⟩
  · intro ds hd
    rw [Try.params6] at hd
    match ds, hd with
    | [d1, d2, d3], _ => rfl
  · intro W base args ds p hval0 hA hlt hz
    have hval : ∀ (j : Nat) t v, Try.f6.params[j]? = some t → args[j]? = some v → Value.okWide Try.prog W .any base t v := hval0
    rw [Try.params6] at hA hz hval
    obtain ⟨v0, vs0, d0, ds0, p0, q0, hargs, rfl, rfl, h0, r0⟩ := trodAll_cons hA
    obtain ⟨v1, vs1, d1, ds1, p1, q1, rfl, rfl, rfl, h1, r1⟩ := trodAll_cons r0
    obtain ⟨v2, vs2, d2, ds2, p2, q2, rfl, rfl, rfl, h2, r2⟩ := trodAll_cons r1
    obtain ⟨rfl, rfl, rfl⟩ := trodAll_nil r2
    obtain rfl : args = #[v0, v1, v2] := by cases args; simp_all
    obtain ⟨a, ha, rfl⟩ := open_arg (hval 0 27 v0 rfl rfl) h0 (reach_each hz (j := 0) rfl rfl)
    obtain ⟨b, hb, rfl⟩ := open_arg (hval 1 27 v1 rfl rfl) h1 (reach_each hz (j := 1) rfl rfl)
    obtain ⟨c, hc, rfl⟩ := open_arg (hval 2 27 v2 rfl rfl) h2 (reach_each hz (j := 2) rfl rfl)
    exact walk3 a b c W ha hb

theorem over : Rows.symOrderRow.holds Try.pinned (OpenSpec.ofChange Rows.symOrderSpec) :=
  OpenClaim.holds_of_wide 6 Try.f6 rfl rfl rfl rfl rfl rfl rfl ⟨rfl, rfl, rfl, rfl, rfl⟩ rfl rfl rfl rfl rfl (by kernel_rfl) Try.func6 (by kernel_rfl)
    (of_decide_eq_true (by kernel_rfl)) (by unfold Func.isWrapper; first | (rw [if_pos (by decide +kernel)]; kernel_rfl) | (rw [if_neg (by decide +kernel)]; exact ⟨rfl, rfl⟩))
    (fun os started H enc _ => lifted os started H enc)

theorem proved : Rows.SymOrderSaid := over
#print axioms proved
end Go.Proofs.Ytblonickpmogiaa.symOrder
