/- The law SymApart returns true for every list of constants, valid or not, and every list of keys, where the arguments are together of bulk at most 1048576. -/
import Derived.Test.YtblonickpmogiaaRows
import Derived.Test.YtblonickpmogiaaFrameU
import Derived.Test.YtblonickpmogiaaSlR
import Derived.Test.YtblonickpmogiaaApartW
namespace Go.Proofs.Ytblonickpmogiaa.symApart
open Go.ChangeShapes Go.WideShapes Go.ChangeAt Go.RowKit Go.Deep

theorem own : ownKnob Try.prog.godebug = none := by kernel_rfl
theorem laidOut : laidOutB Try.prog = true := by kernel_rfl
theorem cells3 : Try.prog.cellsOf 27 = 3 := by kernel_rfl
theorem cells1 : Try.prog.cellsOf 9 = 1 := by kernel_rfl
theorem reads : Try.prog.readableRec 24 = true := by kernel_rfl
theorem inTypes : 24 < Try.prog.types.size := of_decide_eq_true (by kernel_rfl)
theorem reads' : Try.prog.readableRec 43 = true := by kernel_rfl
theorem inTypes' : 43 < Try.prog.types.size := of_decide_eq_true (by kernel_rfl)

/-- What the bound gives: how long the lists are. -/
theorem bulk_ge {H : Type} (l : List (DataW H)) : l.length ≤ Rows.uptoBulkAll l := by
  induction l with
  | nil => simp [Rows.uptoBulkAll]
  | cons d l ih =>
    have : 1 ≤ Rows.uptoBulk d := by
      cases d with
      | lit l => cases l <;> simp [Rows.uptoBulk]
      | nil => simp [Rows.uptoBulk]
      | ptr d => simp [Rows.uptoBulk]
      | slice e s => simp [Rows.uptoBulk]
      | agg p => simp [Rows.uptoBulk]
      | iface t d => simp [Rows.uptoBulk]
      | map e => simp [Rows.uptoBulk]
      | held h => simp [Rows.uptoBulk]
    simp only [Rows.uptoBulkAll, List.length_cons]
    omega
theorem bulk_two {H : Type} {d e : DataW H} (h : Rows.uptoSmall H [d, e] = true) : Rows.uptoBulk d ≤ 1048576 ∧ Rows.uptoBulk e ≤ 1048576 := by
  have h : Rows.uptoBulkAll [d, e] ≤ 1048576 := of_decide_eq_true h
  simp only [Rows.uptoBulkAll] at h
  omega

section
variable {H : Type} {enc : TypeId × Value → H} {P : Program} {w : World} {base : Nat} {spare : Nat → Bool} {held : Bool}
theorem slice_bulk {t e : TypeId} {fuel : Nat} {A : Option Addr} {n c : Nat} {x : DataW H × List MemPlace} (ht : P.underlying t = some (.slice e)) (h : DataW.trod enc P w base spare held fuel t [.slice A n c] = some x) : n ≤ Rows.uptoBulk x.1 := by
  rcases open_slice ht h with ⟨hv, _⟩ | ⟨a, len, cap, m, k, D, Pl, hv, _, _, _, _, hx, _⟩
  · simp only [List.cons.injEq, and_true, Value.slice.injEq] at hv
    omega
  · simp only [List.cons.injEq, and_true, Value.slice.injEq] at hv
    obtain ⟨_, rfl, _⟩ := hv
    subst hx
    have := bulk_ge ((List.range n).map D)
    simp only [List.length_map, List.length_range] at this
    simp only [Rows.uptoBulk]
    omega
theorem slice_nil {t e : TypeId} {fuel : Nat} {A : Option Addr} {n c : Nat} {x : DataW H × List MemPlace} (ht : P.underlying t = some (.slice e)) (h : DataW.trod enc P w base spare held fuel t [.slice A n c] = some x) : A = none → c = 0 := by
  rintro rfl
  rcases open_slice ht h with ⟨hv, _⟩ | ⟨a, len, cap, m, k, D, Pl, hv, _⟩
  · simp only [List.cons.injEq, and_true, Value.slice.injEq] at hv
    exact hv.2.2
  · simp at hv
theorem open_str {e : TypeId} {fuel : Nat} {cs : List Value} {x : DataW H × List MemPlace} (he : P.underlying e = some .string)
    (h : DataW.trod enc P w base spare held fuel e cs = some x) : ∃ k : ByteArray, k.size ≤ maxLen ∧ cs = strCells k := by
  obtain ⟨s, hs, _, ws⟩ := DataW.trod_string he h
  exact ⟨s, ws, hs⟩
end

set_option maxRecDepth 100000 in
theorem lifted (os : Os) (started : os.Started) (H : Type) (enc : TypeId × Value → H) (F : Stop.Interp) :
    ReturnsInHanded {} Try.checked os 12 .any ((Rows.OpenSpec.upto Rows.symApartSpec).pre6 enc Try.prog Try.f12 Rows.symApartUptoRow.domain false) (((Rows.OpenSpec.upto Rows.symApartSpec).at F).post enc Try.prog Try.f12 false true false false) := by
  refine Frm.law_lifted_upto (C := Try.checked) (s := Rows.OpenSpec.upto Rows.symApartSpec) (k := Rows.uptoSmall) (c := Rows.symApartSpec) rfl rfl own started (by kernel_rfl) Try.func12
    (OpenSpec.witness (enc := enc) (C := Try.checked) (s := Rows.OpenSpec.upto Rows.symApartSpec) (k := Rows.uptoSmall) rfl false ⟨#[], #[.slice none 0 0, .slice none 0 0], []⟩ 8 (by kernel_rfl) (by kernel_rfl) (by kernel_rfl)
      (x := ([.nil, .nil], [], [])) (by kernel_rfl) rfl (by kernel_rfl)) laidOut ?_ rfl rfl rfl rfl Try.underlying4 ?_ ?_
  · rw [Try.params12]
    intro t ht
    rcases (show t = 24 ∨ t = 43 by simpa using ht) with rfl | rfl
    · exact ⟨reads, inTypes⟩
    · exact ⟨reads', inTypes'⟩
  · intro ds hd
    rw [Try.params12] at hd
    match ds, hd with
    | [d, e], _ => rfl
  · intro W base args ds p hval hA hlt hz hk
    rw [Try.params12] at hA
    obtain ⟨v0, vs0, d0, ds0, p0, q0, hargs, rfl, rfl, h0, r0⟩ := trodAll_cons hA
    obtain ⟨v1, vs1, d1, ds1, p1, q1, hargs1, rfl, rfl, h1, r1⟩ := trodAll_cons r0
    obtain ⟨rfl, rfl, rfl⟩ := trodAll_nil r1
    obtain rfl : args = #[v0, v1] := by cases args; simp_all
    obtain ⟨a0, len0, cap0, rfl⟩ := okWide_slice Try.underlying24 (hval 0 24 v0 (by rw [Try.params12]; rfl) rfl)
    obtain ⟨a1, len1, cap1, rfl⟩ := okWide_slice Try.underlying43 (hval 1 43 v1 (by rw [Try.params12]; rfl) rfl)
    obtain ⟨k0, k1⟩ := bulk_two hk
    obtain ⟨fuel, hf⟩ := h0
    have hf2 : DataW.trod enc Try.prog W 0 (fun _ => true) true fuel 24 [.slice a0 len0 cap0] = some (d0, p0) := hf
    obtain ⟨fuel', hf'⟩ := h1
    have hf3 : DataW.trod enc Try.prog W 0 (fun _ => true) true fuel' 43 [.slice a1 len1 cap1] = some (d1, p1) := hf'
    have l0 : len0 ≤ Rows.uptoBulk d0 := slice_bulk Try.underlying24 hf2
    have l1 : len1 ≤ Rows.uptoBulk d1 := slice_bulk Try.underlying43 hf3
    obtain ⟨A, cap, xs, hv, hl, hm, hok, hs⟩ := open_sl (cells := Cst.cells) (ok := Cst.ok) (sz := 3) Try.underlying24 cells3 (by decide) (fun _ => rfl)
      (fun _ _ _ h => open_cst Try.underlying27 (by kernel_rfl) Try.underlying3 Try.underlying2 Try.underlying9 cells3 h) hf2
    obtain ⟨A', cap', ys, hv', hl', hm', hok', hs'⟩ := open_sl (cells := strCells) (ok := fun k => k.size ≤ maxLen) (sz := 1) Try.underlying43 cells1 (by decide) (fun _ => rfl)
      (fun _ _ _ h => open_str Try.underlying9 h) hf3
    have hn := slice_nil Try.underlying24 (hv ▸ hf2)
    have hn' := slice_nil Try.underlying43 (hv' ▸ hf3)
    rw [hv, hv']
    simp only [Value.slice.injEq] at hv hv'
    exact apartW A A' cap cap' xs ys W hs hn hl hm hok (by omega) hs' hn' hok' (by omega)

set_option maxRecDepth 100000 in
theorem proved : Rows.SymApartUptoSaid :=
  OpenClaim.holds_of_cond 12 Try.f12 rfl rfl rfl rfl rfl rfl rfl ⟨rfl, rfl, rfl, rfl, rfl⟩ rfl rfl rfl rfl rfl (by kernel_rfl) Try.func12 (by kernel_rfl)
    (of_decide_eq_true (by kernel_rfl)) (by unfold Func.isWrapper; first | (rw [if_pos (by decide +kernel)]; kernel_rfl) | (rw [if_neg (by decide +kernel)]; exact ⟨rfl, rfl⟩))
    (fun os started H enc _ F => lifted os started H enc F)
#print axioms proved
end Go.Proofs.Ytblonickpmogiaa.symApart
