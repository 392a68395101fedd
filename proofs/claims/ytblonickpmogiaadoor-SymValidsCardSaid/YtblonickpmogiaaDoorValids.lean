/- The walk of SymValids: it returns true. -/
import Derived.Test.YtblonickpmogiaaDoorText
import Derived.Test.YtblonickpmogiaaDoorVar
namespace Go.Proofs.YtblonickpmogiaaDoor
open Go.RowKit

def At3 (w : World) (b o : Nat) (c : Cst) : Prop := w.cell? ⟨b, o, none⟩ = some (.int .i64 c.k) ∧ w.cell? ⟨b, o + 1, none⟩ = some (.int .i64 c.n) ∧ w.cell? ⟨b, o + 2, none⟩ = some (.string c.s)
theorem CsAt.at3 {w : World} {b o : Nat} {c : Cst} (h : CsAt w b o c.cells) : At3 w b o c := ⟨h 0 _ rfl, h 1 _ rfl, h 2 _ rfl⟩

set_option maxRecDepth 100000 in
set_option maxHeartbeats 4000000 in
theorem validsW (A : Option Addr) (ca : Nat) (cs : List Cst) (w : World) (hA : SlAt w w.heap.size 3 Cst.cells A cs) (hok : ∀ c ∈ cs, c.ok) (ht : Tab w) (hlen : cs.length * 32 ≤ 140737488355328) :
    Calls Tryd.prog 3 #[.slice A cs.length ca] w fun e w' => e = .returned (.bool true) ∧ Below w.heap.size w w' := by
  have NE : Nonempty (Pt (Below w.heap.size w)) := ⟨⟨w, Below.refl _ _⟩⟩
  go_enter Tryd.func3, Tryd.ntmps3
  go_wp2
  go_loopw [3] (fun i wr => ∃ k : Nat, i = .int .i64 k ∧ k ≤ cs.length ∧ Below w.heap.size w wr) (fun i _ => cs.length - (intOf i).toNat)
  case atStart => exact ⟨0, rfl, Nat.zero_le _, Below.refl _ _⟩
  case round =>
    obtain ⟨i, rfl, hi, hb⟩ := hrel
    by_cases hin : i < cs.length
    · obtain ⟨b, off, rfl, hblt, hc⟩ := hA.form (by omega)
      have hci := (hc i cs[i] (List.getElem?_eq_getElem hin)).at3
      have oki := hok _ (List.getElem_mem hin)
      obtain ⟨a, ha⟩ : ∃ a, a = cs[i] := ⟨_, rfl⟩
      rw [← ha] at hci oki
      have hii : (0 : Int) ≤ (i : Int) := by omega
      have hin' : (i : Int) < (cs.length : Int) := by omega
      obtain ⟨k0, k1, k2⟩ := hci
      have p0 := fun p : Pt (Below w.heap.size w) => (p.property.cell (p := ⟨b, off + i * 3, none⟩) hblt).trans k0
      have p1 := fun p : Pt (Below w.heap.size w) => (p.property.cell (p := ⟨b, off + i * 3 + 1, none⟩) hblt).trans k1
      have p2 := fun p : Pt (Below w.heap.size w) => (p.property.cell (p := ⟨b, off + i * 3 + 2, none⟩) hblt).trans k2
      have V1 := Lib.hid (validW a oki.2.2)
      have V2 := Lib.hid (rvalidW a oki.2.2)
      have T1 := Lib.hid (fun (W : World) (hW : Below w.heap.size w W) => textW a oki W (ht.below (Nat.le_refl _) hW))
      have T2 := Lib.hid (fun (W : World) => rtextW a oki W)
      have N1 := Lib.hid (isNameW a.s oki.2.2)
      have N2 := Lib.hid (risNameW a.s oki.2.2)
      have R1 := Lib.hid (isVarW a.s oki.2.2)
      have R2 := Lib.hid (risVarW a.s oki.2.2)
      obtain ⟨bv, hbv⟩ : ∃ x, x = validB a := ⟨_, rfl⟩
      obtain ⟨bt, hbt⟩ : ∃ x, x = textB a := ⟨_, rfl⟩
      obtain ⟨bn, hbn⟩ : ∃ x, x = nameB a.s := ⟨_, rfl⟩
      obtain ⟨br, hbr⟩ : ∃ x, x = varB a.s := ⟨_, rfl⟩
      rw [← hbv] at V1 V2
      rw [← hbt] at T1 T2
      rw [← hbn] at N1 N2
      rw [← hbr] at R1 R2
      have HIN := Lib.hid hin
      have HD := Lib.hid hb.drew
      clear ha hc hA hok ht hb k0 k1 k2 oki hin hi hbv hbt hbn hbr
      go_wp2
      refine wp_region_class (S := Below w.heap.size w) HD.out (by kernel_rfl) (by kernel_rfl) ?_
      repeat (go_big_quiet_step (first
        | (go_at_call 7; refine (V1.out _).mono ?_; rintro e w' ⟨rfl, hbel⟩; exact ⟨rfl, ⟨w', below_step (Pt.property _) hbel⟩, rfl⟩)
        | (go_at_call 8; refine (V2.out _).mono ?_; rintro e w' ⟨rfl, hbel⟩; exact ⟨rfl, ⟨w', below_step (Pt.property _) hbel⟩, rfl⟩)
        | (go_at_call 9; refine (T1.out _ (Pt.property _)).mono ?_; rintro e w' ⟨rfl, hbel⟩; exact ⟨rfl, ⟨w', below_step (Pt.property _) hbel⟩, rfl⟩)
        | (go_at_call 10; refine (T2.out _).mono ?_; rintro e w' ⟨rfl, hbel⟩; exact ⟨rfl, ⟨w', below_step (Pt.property _) hbel⟩, rfl⟩)))
      refine wpQuiet_nil ?_
      rintro _ ⟨⟨W, hW⟩, rfl⟩
      have HF := Lib.hid hW.drew
      clear hW
      go_wp2
      refine wp_region_class (S := Below w.heap.size w) HF.out (by kernel_rfl) (by kernel_rfl) ?_
      repeat (go_big_quiet_step (first
        | (go_at_call 11; refine (N1.out _).mono ?_; rintro e w' ⟨rfl, hbel⟩; exact ⟨rfl, ⟨w', below_step (Pt.property _) hbel⟩, rfl⟩)
        | (go_at_call 12; refine (N2.out _).mono ?_; rintro e w' ⟨rfl, hbel⟩; exact ⟨rfl, ⟨w', below_step (Pt.property _) hbel⟩, rfl⟩)
        | (go_at_call 13; refine (R1.out _).mono ?_; rintro e w' ⟨rfl, hbel⟩; exact ⟨rfl, ⟨w', below_step (Pt.property _) hbel⟩, rfl⟩)
        | (go_at_call 14; refine (R2.out _).mono ?_; rintro e w' ⟨rfl, hbel⟩; exact ⟨rfl, ⟨w', below_step (Pt.property _) hbel⟩, rfl⟩)))
      refine wpQuiet_nil ?_
      rintro _ ⟨⟨W2, hW2⟩, rfl⟩
      have HG := Lib.hid hW2
      clear hW2 p0 p1 p2 NE
      go_wp2
      exact ⟨⟨i + 1, by go_num, HIN.out, HG.out⟩, by simp [intOf]; have := HIN.out; omega⟩
    · go_wp2
      go_ret
      exact ⟨rfl, hb⟩
end Go.Proofs.YtblonickpmogiaaDoor
