/- The walk of SymReads: it returns true. -/
import Derived.Test.YtblonickpmogiaaDoorRefRead
import Derived.Test.YtblonickpmogiaaDoorBackW
import Derived.Test.YtblonickpmogiaaDoorSl
namespace Go.Proofs.YtblonickpmogiaaDoor
open Go.RowKit

def strCells (k : ByteArray) : List Value := [.string k]
set_option maxRecDepth 100000 in
theorem sameSelfW (a : Cst) (w : World) : Calls Tryd.prog 17 #[.agg #[.int .i64 a.k, .int .i64 a.n, .string a.s], .agg #[.int .i64 a.k, .int .i64 a.n, .string a.s]] w fun e w' => e = .returned (.bool true) ∧ Below w.heap.size w w' := by
  go_enter Tryd.func17, Tryd.ntmps17
  go_wp2
  go_ret
  exact ⟨rfl, ((Below.refl _ _).alloc (Nat.le_refl _) _).alloc (by simp) _⟩

set_option maxRecDepth 100000 in
set_option maxHeartbeats 8000000 in
theorem readsW (A : Option Addr) (ca : Nat) (ss : List ByteArray) (w : World) (hA : SlAt w w.heap.size 1 strCells A ss) (hok : ∀ s ∈ ss, s.size ≤ 140737488355328) (hv : Ev w) (ht : Tab w) (hlen : ss.length ≤ 140737488355328) :
    Calls Tryd.prog 4 #[.slice A ss.length ca] w fun e w' => e = .returned (.bool true) ∧ Below w.heap.size w w' := by
  have EV := Lib.hid (fun (W : World) (hW : Below w.heap.size w W) => hv.below (Nat.le_refl _) hW)
  have TB := Lib.hid (fun (W : World) (hW : Below w.heap.size w W) => ht.below (Nat.le_refl _) hW)
  clear hv ht
  go_enter Tryd.func4, Tryd.ntmps4
  go_wp2_with fail
  go_loopw [3] (fun i wr => ∃ k : Nat, i = .int .i64 k ∧ k ≤ ss.length ∧ Hid (Below w.heap.size w wr)) (fun i _ => ss.length - (intOf i).toNat)
  case atStart => exact ⟨0, rfl, Nat.zero_le _, Below.refl _ _⟩
  case round =>
    obtain ⟨i, rfl, hi, hb⟩ := hrel
    by_cases hin : i < ss.length
    · obtain ⟨b, off, rfl, hblt, hc⟩ := hA.form (by omega)
      have i0 := hc i ss[i] (List.getElem?_eq_getElem hin) 0 _ rfl
      have hsz := hok _ (List.getElem_mem hin)
      obtain ⟨s, hs⟩ : ∃ s, s = ss[i] := ⟨_, rfl⟩
      rw [← hs] at i0 hsz
      simp only [Nat.mul_one, Nat.add_zero] at i0
      have i1 : wr.cell? ⟨b, off + i, none⟩ = some (.string s) := (hb.out.cell (p := ⟨b, off + i, none⟩) hblt).trans i0
      have IW := Lib.hid (fun (W : World) (hW : Below w.heap.size w W) => (hW.cell (p := ⟨b, off + i, none⟩) hblt).trans i0)
      have RW := Lib.hid (fun (W : World) (hW : Below w.heap.size w W) => readW s hsz W (EV.out W hW) (TB.out W hW))
      have QW := Lib.hid (fun (W : World) => rreadW s hsz W)
      obtain ⟨c, hcc⟩ : ∃ c, c = (readB s).1 := ⟨_, rfl⟩
      obtain ⟨x, hxx⟩ : ∃ x, x = (readB s).2 := ⟨_, rfl⟩
      rw [← hcc, ← hxx] at RW QW
      have SW := Lib.hid (fun W => sameSelfW c W)
      have hii : (0 : Int) ≤ (i : Int) := by omega
      have hin' : (i : Int) < (ss.length : Int) := by omega
      have HIN := Lib.hid hin
      clear hs hc i0 hcc hxx hsz hin hi hA hok
      go_wp2_with fail
      refine (RW.out _ hb.out).mono ?_
      rintro e w1 ⟨rfl, hb1⟩
      have H2 := Lib.hid ((hb.out.trans (hb1.mono hb.out.size)).alloc (by have := hb.out.size; have := hb1.size; omega) (.cells #[.int .i64 c.k, .int .i64 c.n, .string c.s] 25))
      have C2 := Lib.hid (Bx.new w1 c)
      have i2 := IW.out _ H2.out
      clear hb1 i1
      go_wp2_with fail
      refine (QW.out _).mono ?_
      rintro e w3 ⟨rfl, hb3⟩
      have H4 := Lib.hid ((H2.out.trans (hb3.mono H2.out.size)).alloc (by have := H2.out.size; have := hb3.size; omega) (.cells #[.int .i64 c.k, .int .i64 c.n, .string c.s] 25))
      have C4 := (C2.out.below (Nat.le_refl _) hb3).below (Nat.le_refl _) ((Below.refl _ w3).alloc (Nat.le_refl _) (.cells #[.int .i64 c.k, .int .i64 c.n, .string c.s] 25))
      obtain ⟨c0, c1, c2⟩ := C4
      clear hb3 i2 H2 C2
      go_wp2_with fail
      refine (SW.out _).mono ?_
      rintro e w5 ⟨rfl, hb5⟩
      have H6 := Lib.hid (H4.out.trans (hb5.mono H4.out.size))
      clear hb5 c0 c1 c2 H4
      go_wp2_with fail
      exact ⟨⟨i + 1, by go_num, HIN.out, H6.out⟩, by simp [intOf]; have := HIN.out; omega⟩
    · have hin' : ¬ (i : Int) < (ss.length : Int) := by omega
      clear hA hok
      go_wp2_with fail
      go_ret
      exact ⟨rfl, hb.out⟩
end Go.Proofs.YtblonickpmogiaaDoor
