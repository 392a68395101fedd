/- `==` at two tests. -/
import Derived.Test.YtonkbjdeaneicaaSame
namespace Go.Proofs.Ytonkbjdeaneicaa
open Go.RowKit Pln Classical Go.Maps

set_option maxRecDepth 100000 in
set_option maxHeartbeats 4000000 in
theorem eql_tst (a b : Tst) (w : World) : (binOp .eql 52 (.agg #[.int .i64 a.op, .bool a.l.v, .int .i64 a.l.n, .bool a.r.v, .int .i64 a.r.n]) (.agg #[.int .i64 b.op, .bool b.l.v, .int .i64 b.l.n, .bool b.r.v, .int .i64 b.r.n])).run Try.prog w = .ok (.bool (decide (a = b))) w := by
  obtain ⟨ao, ⟨alv, aln⟩, ⟨arv, arn⟩⟩ := a
  obtain ⟨bo, ⟨blv, bln⟩, ⟨brv, brn⟩⟩ := b
  rw [show decide ((⟨ao, ⟨alv, aln⟩, ⟨arv, arn⟩⟩ : Tst) = ⟨bo, ⟨blv, bln⟩, ⟨brv, brn⟩⟩) = decide (ao = bo ∧ (alv = blv ∧ aln = bln) ∧ (arv = brv ∧ arn = brn)) from by simp only [Tst.mk.injEq, Slt.mk.injEq]]
  by_cases h1 : ao = bo
  · by_cases h0 : alv = blv
    · by_cases h2 : aln = bln
      · by_cases h4 : arv = brv
        · by_cases h3 : arn = brn
          · simp [go_sem, h0, h1, h2, h3, h4]
          · simp [go_sem, h0, h1, h2, h3, h4]
        · simp [go_sem, h0, h1, h2, h4]
      · simp [go_sem, h0, h1, h2]
    · simp [go_sem, h0, h1]
  · simp [go_sem, h1]
end Go.Proofs.Ytonkbjdeaneicaa
