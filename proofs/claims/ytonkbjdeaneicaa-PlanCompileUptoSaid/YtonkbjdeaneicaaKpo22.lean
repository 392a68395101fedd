/- `joined` of the law package: three plans in one, the old rows written over. nodeRight. -/
import Derived.Test.YtonkbjdeaneicaaKpo07
import Derived.Test.YtonkbjdeaneicaaKpo17
import Derived.Test.YtonkbjdeaneicaaKpo21
import Derived.Deep.Cut
namespace Go.Proofs.Ytonkbjdeaneicaa
open Go.RowKit Pln Classical Go.Maps

theorem results_row_slot1 {P : Program} {fn : Func} {p : Tmp} {ty : TypeId} (h : fn.results = #[.cell p ty]) (tmps : Array Value) (w : World) (g : Nat) (t : TypeId) (cs : Array Value) (fr : Nat × Nat) (d : TypeDesc)
    (hp : tmps.getD p undef = .pointer (some ⟨g, 0, none⟩)) (hg : w.heap[g]? = some (.cells cs t fr))
    (hu : P.underlying ty = some d) (hd : (match d with | .struct _ | .array _ _ => true | _ => false) = true) (hi : (P.info? ty).map (·.size) = some cs.size) :
    (results fn tmps).run P w = .ok (.agg cs) w := by
  have hp' : tmps[p]?.getD undef = .pointer (some ⟨g, 0, none⟩) := by simpa using hp
  simp [results, h, hp', asAddr, run_loadVar_row w g t ty cs fr d hg hu hd hi]
theorem mergeJ {α β γ : Type} {F : α → β → γ → Prop} {G : Prop} {T : α → β → γ → Prop} (hg : (∀ a b c, F a b c → T a b c) → G) (body : ∀ a b c, F a b c → T a b c) : G := hg body
/-- What `joined` leaves. -/
def JnRes (W : World) (A N E : Nat → Value) (la ln : Nat → Nat) (xa xn : Nat → List Value) (e : Ending) (W' : World) : Prop :=
  ∃ pa pn, e = .returned (.agg #[pa, pn, .slice none 0 0]) ∧ W'.ownsRow W.heap.size 79 2 pa (sumN la 3) (catL xa 3) ∧
    W'.ownsRow W.heap.size 54 11 pn (sumN ln 3 + 3) (catL xn 3 ++ catL (fun k => endNd (E k)) 3) ∧ Turns (jS A N) W W'
theorem jsum {f : Nat → Nat} {n : Nat} (h : ∀ i, i < 3 → f i ≤ n) : ∀ k, k ≤ 3 → sumN f k ≤ k * n
  | 0, _ => by simp [sumN]
  | k + 1, hk => by
    have h1 := jsum h k (by omega)
    have h2 := h k (by omega)
    simp only [sumN]
    rw [Nat.add_mul, Nat.one_mul]
    omega
theorem own_addr {w : World} {lo : Nat} {e : TypeId} {sz n n' c : Nat} {a : Option Addr} {xs : List Value} (h : w.ownsRow lo e sz (.slice a n' c) n xs) (hn : 0 < n) : ∃ b, a = some ⟨b, 0, none⟩ := by
  rcases h.2 with ⟨_, h0⟩ | ⟨g, cap, cur, e, _⟩
  · omega
  · simp only [Value.slice.injEq] at e
    exact ⟨g, e.1⟩

set_option maxRecDepth 200000 in
set_option maxHeartbeats 32000000 in
theorem joinedW (W : World) (aa an ae : Nat → Option Addr) (ca cn ce la ln le : Nat → Nat) (lo : Nat) (xa xn : Nat → List Value)
    (hA : ∀ i, i < 3 → W.ownsRow lo 79 2 (.slice (aa i) (la i) (ca i)) (la i) (xa i)) (hN : ∀ i, i < 3 → W.ownsRow lo 54 11 (.slice (an i) (ln i) (cn i)) (ln i) (xn i))
    (oA : ∀ i, i < 3 → ∀ u ∈ xa i, u.oneCell' = true) (oN : ∀ i, i < 3 → ∀ u ∈ xn i, u.oneCell' = true)
    (hp : JAp (fun i => .slice (aa i) (la i) (ca i)) (fun i => .slice (an i) (ln i) (cn i))) (bA : ∀ i, i < 3 → la i ≤ 100000000) (bN : ∀ i, i < 3 → ln i ≤ 100000000) :
    Calls Try.prog 14 #[.agg #[.slice (aa 0) (la 0) (ca 0), .slice (an 0) (ln 0) (cn 0), .slice (ae 0) (le 0) (ce 0)], .agg #[.slice (aa 1) (la 1) (ca 1), .slice (an 1) (ln 1) (cn 1), .slice (ae 1) (le 1) (ce 1)],
      .agg #[.slice (aa 2) (la 2) (ca 2), .slice (an 2) (ln 2) (cn 2), .slice (ae 2) (le 2) (ce 2)]] W
      (JnRes W (fun i => .slice (aa i) (la i) (ca i)) (fun i => .slice (an i) (ln i) (cn i)) (fun i => .slice (ae i) (le i) (ce i)) la ln xa xn) := by
  have sA := jsum bA
  have sN := jsum bN
  have HA := Lib.hid hA
  have HN := Lib.hid hN
  have OA := Lib.hid oA
  have ON := Lib.hid oN
  have HP := Lib.hid hp
  have BA := Lib.hid bA
  have BN := Lib.hid bN
  have SA := Lib.hid sA
  have SN := Lib.hid sN
  have AF : ∀ i, i < 3 → 0 < la i → ∃ b, aa i = some ⟨b, 0, none⟩ := fun i hi h0 => own_addr (hA i hi) h0
  have NF : ∀ i, i < 3 → 0 < ln i → ∃ b, an i = some ⟨b, 0, none⟩ := fun i hi h0 => own_addr (hN i hi) h0
  have AF := Lib.hid AF
  have NF := Lib.hid NF
  clear hA hN oA oN hp bA bN sA sN
  go_enter Try.func14, Try.ntmps14
  go_upto_region 3 with fail
  obtain ⟨w0, hw0⟩ : ∃ w0, w0 = ((((((W.alloc (Obj.cells #[Value.slice (aa 0) (la 0) (ca 0), Value.slice (an 0) (ln 0) (cn 0), Value.slice (ae 0) (le 0) (ce 0)] 27)).alloc (Obj.cells #[Value.slice (aa 1) (la 1) (ca 1), Value.slice (an 1) (ln 1) (cn 1), Value.slice (ae 1) (le 1) (ce 1)] 27)).alloc (Obj.cells #[Value.slice (aa 2) (la 2) (ca 2), Value.slice (an 2) (ln 2) (cn 2), Value.slice (ae 2) (le 2) (ce 2)] 27)).alloc (Obj.cells #[Value.slice none 0 0, Value.slice none 0 0, Value.slice none 0 0] 27)).alloc (Obj.cells #[Value.slice none 0 0, Value.slice none 0 0, Value.slice none 0 0] 27)).alloc (Obj.cells #[Value.slice (aa 0) (la 0) (ca 0), Value.slice (an 0) (ln 0) (cn 0), Value.slice (ae 0) (le 0) (ce 0), Value.slice (aa 1) (la 1) (ca 1), Value.slice (an 1) (ln 1) (cn 1), Value.slice (ae 1) (le 1) (ce 1), Value.slice (aa 2) (la 2) (ca 2), Value.slice (an 2) (ln 2) (cn 2), Value.slice (ae 2) (le 2) (ce 2)] 84)) := ⟨_, rfl⟩
  have J0 := Lib.hid (show JB W (fun i => .slice (aa i) (la i) (ca i)) (fun i => .slice (an i) (ln i) (cn i)) (fun i => .slice (ae i) (le i) (ce i)) w0 (.slice none 0 0) (.slice none 0 0) 0 0 [] [] from by rw [hw0]; exact jb_start W (fun i => .slice (aa i) (la i) (ca i)) (fun i => .slice (an i) (ln i) (cn i)) (fun i => .slice (ae i) (le i) (ce i)) _ _ _)
  have B0 := Lib.hid (show Below W.heap.size W w0 from by
    rw [hw0]
    exact ((((((Below.refl W.heap.size W).alloc (Nat.le_refl _) _).alloc (by simp) _).alloc (by simp <;> omega) _).alloc (by simp <;> omega) _).alloc (by simp <;> omega) _).alloc (by simp <;> omega) _)
  rw [← hw0]
  clear hw0
  go_wp2
  go_loopw [9] (fun iv wr => ∃ (k : Nat) (pa pn : Value), iv = .int .i64 k ∧ k ≤ 3 ∧ JB W (fun i => .slice (aa i) (la i) (ca i)) (fun i => .slice (an i) (ln i) (cn i)) (fun i => .slice (ae i) (le i) (ce i)) wr pa pn (sumN la k) (sumN ln k) (catL xa k) (catL xn k) ∧ Below W.heap.size W wr) (fun iv _ => 3 - (intOf iv).toNat)
  case atStart => exact ⟨0, _, _, rfl, by decide, J0.out, B0.out⟩
  case round =>
    obtain ⟨k, pa, pn, rfl, hk, hj, hb⟩ := hrel
    clear J0 B0
    by_cases hk3 : k < 3
    · have e1 : (0 : Int) ≤ (k : Int) := by omega
      have e2 : (k : Int) < 3 := by omega
      obtain ⟨y0, y1, y2⟩ := hj.at8 hk3
      obtain ⟨z0, z1, z2⟩ := hj.at7
      have hsz := hj.sz
      have hs1 := Nat.le_trans (SA.out k hk) (show k * 100000000 ≤ 400000000 by omega)
      have hs2 := Nat.le_trans (SN.out k hk) (show k * 100000000 ≤ 400000000 by omega)
      have HK := Lib.hid hk3
      have HJ := Lib.hid hj
      have HB := Lib.hid hb
      have RA := Lib.hid (ownsRow_turns (HA.out k hk3) (Turns.of_below (S := []) hb) (fun _ _ => by simp))
      have RN := Lib.hid (ownsRow_turns (HN.out k hk3) (Turns.of_below (S := []) hb) (fun _ _ => by simp))
      have LA := Lib.hid (Nat.le_trans (BA.out k hk3) (show 100000000 ≤ 400000000 by decide))
      have LN := Lib.hid (Nat.le_trans (BN.out k hk3) (show 100000000 ≤ 400000000 by decide))
      clear hk3 hj hb
      go_wp2
      apply mergeJ (F := fun (ga : Option Addr) (gc : Nat) (w3 : World) => JB W (fun i => .slice (aa i) (la i) (ca i)) (fun i => .slice (an i) (ln i) (cn i)) (fun i => .slice (ae i) (le i) (ce i)) (w3.setCell ⟨W.heap.size + 1 + 1 + 1 + 1, 0, none⟩ (.slice ga (sumN la k + la k) gc)) (.slice ga (sumN la k + la k) gc) pn (sumN la k + la k) (sumN ln k) (catL xa k ++ xa k) (catL xn k) ∧ Below W.heap.size W (w3.setCell ⟨W.heap.size + 1 + 1 + 1 + 1, 0, none⟩ (.slice ga (sumN la k + la k) gc)))
      case hg =>
        intro hc
        go_region_law (refine step_append_rows HJ.out.pa RA.out (by rfl) (.tmp 25) (.tmp 29) 23 (by rfl) Try.underlying23 infoShpR rfl (by decide) (by rfl) (by rfl) (OA.out k HK.out) hs1 LA.out (by decide) hsz ?_; intro pa' w3 ho ht; obtain ⟨ga, gc, rfl⟩ := own_form ho; obtain ⟨q7, f7⟩ := HJ.out.afterA ht; have HG := Lib.hid (HJ.out.growA ho ht); have HF := Lib.hid (HB.out.trans (jb_far (o := 0) (u := .slice ga (sumN la k + la k) gc) HJ.out.pa ht HB.out.size)); clear ho ht)
        all_goals exact hc ga gc w3 ⟨HG.out, HF.out⟩
      rintro ga gc w3 ⟨hj2, hb2⟩
      clear y0 y1 y2 z0 z1 z2 HJ HB RN hsz
      generalize w3.setCell ⟨W.heap.size + 1 + 1 + 1 + 1, 0, none⟩ (.slice ga (sumN la k + la k) gc) = wr at hj2 hb2 ⊢
      obtain ⟨y0, y1, y2⟩ := hj2.at8 HK.out
      obtain ⟨z0, z1, z2⟩ := hj2.at7
      have hsz := hj2.sz
      have HJ := Lib.hid hj2
      have HB := Lib.hid hb2
      have RN := Lib.hid (ownsRow_turns (HN.out k HK.out) (Turns.of_below (S := []) hb2) (fun _ _ => by simp))
      clear hj2 hb2
      go_wp2
      apply mergeJ (F := fun (ga2 : Option Addr) (gc2 : Nat) (w3 : World) => JB W (fun i => .slice (aa i) (la i) (ca i)) (fun i => .slice (an i) (ln i) (cn i)) (fun i => .slice (ae i) (le i) (ce i)) (w3.setCell ⟨W.heap.size + 1 + 1 + 1 + 1, 1, none⟩ (.slice ga2 (sumN ln k + ln k) gc2)) (.slice ga (sumN la k + la k) gc) (.slice ga2 (sumN ln k + ln k) gc2) (sumN la k + la k) (sumN ln k + ln k) (catL xa k ++ xa k) (catL xn k ++ xn k) ∧ Below W.heap.size W (w3.setCell ⟨W.heap.size + 1 + 1 + 1 + 1, 1, none⟩ (.slice ga2 (sumN ln k + ln k) gc2)))
      case hg =>
        intro hc
        go_region_law (refine step_append_rows HJ.out.pn RN.out (by rfl) (.tmp 33) (.tmp 37) 24 (by rfl) Try.underlying24 infoNdR rfl (by decide) (by rfl) (by rfl) (ON.out k HK.out) hs2 LN.out (by decide) hsz ?_; intro pn' w3 ho ht; obtain ⟨ga2, gc2, rfl⟩ := own_form ho; obtain ⟨q7, f7⟩ := HJ.out.afterN ht; have HG := Lib.hid (HJ.out.growN ho ht); have HF := Lib.hid (HB.out.trans (jb_far (o := 1) (u := .slice ga2 (sumN ln k + ln k) gc2) HJ.out.pn ht HB.out.size)); clear ho ht)
        all_goals exact hc ga2 gc2 w3 ⟨HG.out, HF.out⟩
      rintro ga2 gc2 w3 ⟨hj2, hb2⟩
      have HJ := Lib.hid hj2
      have HB := Lib.hid hb2
      clear y0 y1 y2 z0 z1 z2 hsz hj2 hb2
      go_wp2
      exact ⟨⟨k + 1, _, _, by go_num, HK.out, HJ.out, HB.out⟩, by simp [intOf]; have := HK.out; omega⟩
    · obtain rfl : k = 3 := by omega
      rw [show (((3 : Nat) : Int)) = 3 from rfl]
      obtain ⟨ga, gc, rfl⟩ := own_form hj.pa
      obtain ⟨gn0, cn0, rfl⟩ := own_form hj.pn
      have T0 := Lib.hid (Turns.of_below (S := jS (fun i => .slice (aa i) (la i) (ca i)) (fun i => .slice (an i) (ln i) (cn i))) hb)
      have HS := Lib.hid (show ∀ b, b ∈ jS (fun i => .slice (aa i) (la i) (ca i)) (fun i => .slice (an i) (ln i) (cn i)) → b < W.heap.size from fun b hm => by
        rcases jS_cases hm with ⟨i, hi, h1⟩ | ⟨i, hi, h1⟩
        · exact (ownBlock_cells (HA.out i hi) h1).2.1
        · exact (ownBlock_cells (HN.out i hi) h1).2.1)
      have O0 := Lib.hid (show JO wr (fun i => .slice (aa i) (la i) (ca i)) (fun i => .slice (an i) (ln i) (cn i)) la ln (fun q => if q < 0 then la q else 0) (fun q => if q < 0 then ln q else 0) from
        ⟨fun i hi => Mk.start (ownsRow_turns (HA.out i hi) (Turns.of_below (S := []) hb) (fun _ _ => by simp)), fun i hi => Mk.start (ownsRow_turns (HN.out i hi) (Turns.of_below (S := []) hb) (fun _ _ => by simp))⟩)
      have J0 := Lib.hid (show JB W (fun i => .slice (aa i) (la i) (ca i)) (fun i => .slice (an i) (ln i) (cn i)) (fun i => .slice (ae i) (le i) (ce i)) wr (.slice ga (sumN la 3) gc) (.slice gn0 (sumN ln 3) cn0) (sumN la 3) (sumN ln 3 + 0) (catL xa 3) (catL xn 3 ++ catL (fun k => endNd (.slice (ae k) (le k) (ce k))) 0) from by simpa [catL] using hj)
      clear hj hb hk hk3
      go_wp2
      go_loopw [10] (fun iv wr => ∃ (k : Nat) (gn : Option Addr) (cn9 : Nat), iv = .int .i64 k ∧ k ≤ 3 ∧ JB W (fun i => .slice (aa i) (la i) (ca i)) (fun i => .slice (an i) (ln i) (cn i)) (fun i => .slice (ae i) (le i) (ce i)) wr (.slice ga (sumN la 3) gc) (.slice gn (sumN ln 3 + k) cn9) (sumN la 3) (sumN ln 3 + k) (catL xa 3) (catL xn 3 ++ catL (fun k => endNd (.slice (ae k) (le k) (ce k))) k) ∧ JO wr (fun i => .slice (aa i) (la i) (ca i)) (fun i => .slice (an i) (ln i) (cn i)) la ln (fun q => if q < k then la q else 0) (fun q => if q < k then ln q else 0) ∧ Turns (jS (fun i => .slice (aa i) (la i) (ca i)) (fun i => .slice (an i) (ln i) (cn i))) W wr) (fun iv _ => 3 - (intOf iv).toNat)
      case atStart => exact ⟨0, _, _, rfl, by decide, J0.out, O0.out, T0.out⟩
      case round =>
        obtain ⟨k, gn, cn9, rfl, hk, hj, ho, ht⟩ := hrel
        clear J0 O0 T0
        by_cases hk3 : k < 3
        · have e1 : (0 : Int) ≤ (k : Int) := by omega
          have e2 : (k : Int) < 3 := by omega
          have HK := Lib.hid hk3
          have W1 := Lib.hid (show Value.int .i64 (IntKind.i64.wrap (-1 - (k : Int))) = .int .i64 (-1 - (k : Int)) from congrArg _ (IntWalk.i64_in _ (by omega)))
          have W2 := Lib.hid (show Value.int .i64 (wrap64 (-1 - (k : Int))) = .int .i64 (-1 - (k : Int)) from congrArg _ (IntWalk.wrap64_in _ (by omega)))
          have HJ := Lib.hid hj
          have HO := Lib.hid (ho.congr (ka' := fun q => if q < k then la q else if q = k then 0 else 0) (kn' := fun q => if q < k then ln q else 0) (fun q _ => by simp only [ite_self]) (fun q _ => rfl))
          have HT := Lib.hid ht
          clear hk3 hj ho ht
          go_wp2
          go_loopw [11] (fun jv wr => ∃ (j : Nat), jv = .int .i64 j ∧ j ≤ la k ∧ JB W (fun i => .slice (aa i) (la i) (ca i)) (fun i => .slice (an i) (ln i) (cn i)) (fun i => .slice (ae i) (le i) (ce i)) wr (.slice ga (sumN la 3) gc) (.slice gn (sumN ln 3 + k) cn9) (sumN la 3) (sumN ln 3 + k) (catL xa 3) (catL xn 3 ++ catL (fun k => endNd (.slice (ae k) (le k) (ce k))) k) ∧ JO wr (fun i => .slice (aa i) (la i) (ca i)) (fun i => .slice (an i) (ln i) (cn i)) la ln (fun q => if q < k then la q else if q = k then j else 0) (fun q => if q < k then ln q else 0) ∧ Turns (jS (fun i => .slice (aa i) (la i) (ca i)) (fun i => .slice (an i) (ln i) (cn i))) W wr) (fun jv _ => la k - (intOf jv).toNat)
          case atStart => exact ⟨0, rfl, Nat.zero_le _, HJ.out, HO.out, HT.out⟩
          case round =>
            obtain ⟨j, rfl, hjl, hj, ho, ht⟩ := hrel
            clear HJ HO HT
            obtain ⟨y0, y1, y2⟩ := hj.at8 HK.out
            have hsz := hj.sz
            by_cases hjn : j < la k
            · obtain ⟨b, hab⟩ := AF.out k HK.out (by omega)
              rw [hab] at y0
              have hob : (Value.slice (aa k) (la k) (ca k)).ownBlock = some b := by rw [hab]; rfl
              have hmem : b ∈ jS (fun i => .slice (aa i) (la i) (ca i)) (fun i => .slice (an i) (ln i) (cn i)) := jS_a (A := fun i => .slice (aa i) (la i) (ca i)) HK.out hob
              obtain ⟨u0, c0⟩ := (ho.a k HK.out).is hob (o := j * 2) (by omega)
              obtain ⟨u1, c1⟩ := (ho.a k HK.out).is hob (o := j * 2 + 1) (by omega)
              have f0 := (ho.a k HK.out).fz hob
              have HO2 := Lib.hid (show JO ((wr.setCell ⟨b, j * 2, none⟩ (.int .i64 (-1 - (k : Int)))).setCell ⟨b, j * 2 + 1, none⟩ (.slice none 0 0)) (fun i => .slice (aa i) (la i) (ca i)) (fun i => .slice (an i) (ln i) (cn i)) la ln (fun q => if q < k then la q else if q = k then j + 1 else 0) (fun q => if q < k then ln q else 0) from by
                have h1 := ho.headA HP.out (i := k) (ka' := fun q => if q < k then la q else if q = k then j + 1 else 0) HK.out hob (j := j) (by simp) hjn (by simp) (fun q hq => by simp [hq])
                exact h1.restA HP.out HK.out hob j (d := 1) (by decide) (by decide) _)
              have TT : Turns (jS (fun i => .slice (aa i) (la i) (ca i)) (fun i => .slice (an i) (ln i) (cn i))) wr ((wr.setCell ⟨b, j * 2, none⟩ (.int .i64 (-1 - (k : Int)))).setCell ⟨b, j * 2 + 1, none⟩ (.slice none 0 0)) := ((Turns.refl _ _).setCell (.inl hmem) _).setCell (.inl hmem) _
              have HJ2 := Lib.hid (hj.turns TT HS.out)
              have HT2 := Lib.hid (ht.trans TT (fun x hx => .inl hx))
              have HJN := Lib.hid hjn
              have hlb := BA.out k HK.out
              have e3 : (0 : Int) ≤ (j : Int) := by omega
              have e4 : (j : Int) < (la k : Int) := by omega
              clear hjn hj ho ht TT hob hmem hab
              have fx1 := W1.out
              have fx2 := W2.out
              go_wp2
              clear fx1 fx2
              exact ⟨⟨j + 1, by go_num, HJN.out, HJ2.out, HO2.out, HT2.out⟩, by simp [intOf]; have := HJN.out; omega⟩
            · obtain rfl : la k = j := by omega
              have HJ := Lib.hid hj
              have HO := Lib.hid (ho.congr (ka' := fun q => if q < k + 1 then la q else 0) (kn' := fun q => if q < k then ln q else if q = k then 0 else 0) (fun q _ => by
                by_cases h1 : q < k
                · rw [if_pos (by omega), if_pos h1]
                · by_cases h2 : q = k
                  · subst h2; rw [if_pos (by omega), if_neg h1, if_pos rfl]
                  · rw [if_neg (by omega), if_neg h1, if_neg h2]) (fun q _ => by simp only [ite_self]))
              have HT := Lib.hid ht
              have hlb := BA.out k HK.out
              clear hj ho ht hjn
              go_wp2
              clear y0 y1 y2 hsz hlb
              go_loopw [12] (fun jv wr => ∃ (j : Nat), jv = .int .i64 j ∧ j ≤ ln k ∧ JB W (fun i => .slice (aa i) (la i) (ca i)) (fun i => .slice (an i) (ln i) (cn i)) (fun i => .slice (ae i) (le i) (ce i)) wr (.slice ga (sumN la 3) gc) (.slice gn (sumN ln 3 + k) cn9) (sumN la 3) (sumN ln 3 + k) (catL xa 3) (catL xn 3 ++ catL (fun k => endNd (.slice (ae k) (le k) (ce k))) k) ∧ JO wr (fun i => .slice (aa i) (la i) (ca i)) (fun i => .slice (an i) (ln i) (cn i)) la ln (fun q => if q < k + 1 then la q else 0) (fun q => if q < k then ln q else if q = k then j else 0) ∧ Turns (jS (fun i => .slice (aa i) (la i) (ca i)) (fun i => .slice (an i) (ln i) (cn i))) W wr) (fun jv _ => ln k - (intOf jv).toNat)
              case atStart => exact ⟨0, rfl, Nat.zero_le _, HJ.out, HO.out, HT.out⟩
              case round =>
                obtain ⟨j, rfl, hjl, hj, ho, ht⟩ := hrel
                clear HJ HO HT
                obtain ⟨y0, y1, y2⟩ := hj.at8 HK.out
                have hsz := hj.sz
                by_cases hjn : j < ln k
                · obtain ⟨b, hab⟩ := NF.out k HK.out (by omega)
                  rw [hab] at y1
                  have hob : (Value.slice (an k) (ln k) (cn k)).ownBlock = some b := by rw [hab]; rfl
                  have hmem : b ∈ jS (fun i => .slice (aa i) (la i) (ca i)) (fun i => .slice (an i) (ln i) (cn i)) := jS_n (N := fun i => .slice (an i) (ln i) (cn i)) HK.out hob
                  obtain ⟨u0, c0⟩ := (ho.n k HK.out).is hob (o := j * 11) (by omega)
                  obtain ⟨u1, c1⟩ := (ho.n k HK.out).is hob (o := j * 11 + 1) (by omega)
                  obtain ⟨u2, c2⟩ := (ho.n k HK.out).is hob (o := j * 11 + 2) (by omega)
                  obtain ⟨u3, c3⟩ := (ho.n k HK.out).is hob (o := j * 11 + 3) (by omega)
                  obtain ⟨u4, c4⟩ := (ho.n k HK.out).is hob (o := j * 11 + 4) (by omega)
                  obtain ⟨u5, c5⟩ := (ho.n k HK.out).is hob (o := j * 11 + 5) (by omega)
                  obtain ⟨u6, c6⟩ := (ho.n k HK.out).is hob (o := j * 11 + 6) (by omega)
                  obtain ⟨u7, c7⟩ := (ho.n k HK.out).is hob (o := j * 11 + 7) (by omega)
                  obtain ⟨u8, c8⟩ := (ho.n k HK.out).is hob (o := j * 11 + 8) (by omega)
                  obtain ⟨u9, c9⟩ := (ho.n k HK.out).is hob (o := j * 11 + 9) (by omega)
                  obtain ⟨u10, c10⟩ := (ho.n k HK.out).is hob (o := j * 11 + 10) (by omega)
                  have f0 := (ho.n k HK.out).fz hob
                  have HO2 := Lib.hid (show JO (((((((((((wr.setCell ⟨b, j * 11, none⟩ (.int .i64 (-1 - (k : Int)))).setCell ⟨b, j * 11 + 1, none⟩ (.int .i64 0)).setCell ⟨b, j * 11 + 2, none⟩ (.int .i64 0)).setCell ⟨b, j * 11 + 3, none⟩ (.slice none 0 0)).setCell ⟨b, j * 11 + 4, none⟩ (.slice none 0 0)).setCell ⟨b, j * 11 + 5, none⟩ (.int .i64 0)).setCell ⟨b, j * 11 + 6, none⟩ (.bool false)).setCell ⟨b, j * 11 + 7, none⟩ (.int .i64 0)).setCell ⟨b, j * 11 + 8, none⟩ (.bool false)).setCell ⟨b, j * 11 + 9, none⟩ (.int .i64 0)).setCell ⟨b, j * 11 + 10, none⟩ (.int .i64 0)) (fun i => .slice (aa i) (la i) (ca i)) (fun i => .slice (an i) (ln i) (cn i)) la ln (fun q => if q < k + 1 then la q else 0) (fun q => if q < k then ln q else if q = k then j + 1 else 0) from by
                    have h1 := ho.headN HP.out (i := k) (kn' := fun q => if q < k then ln q else if q = k then j + 1 else 0) HK.out hob (j := j) (by simp) hjn (by simp) (fun q hq => by simp [hq])
                    exact ((((((((((h1.restN HP.out HK.out hob j (d := 1) (by decide) (by decide) (.int .i64 0)).restN HP.out HK.out hob j (d := 2) (by decide) (by decide) (.int .i64 0)).restN HP.out HK.out hob j (d := 3) (by decide) (by decide) (.slice none 0 0)).restN HP.out HK.out hob j (d := 4) (by decide) (by decide) (.slice none 0 0)).restN HP.out HK.out hob j (d := 5) (by decide) (by decide) (.int .i64 0)).restN HP.out HK.out hob j (d := 6) (by decide) (by decide) (.bool false)).restN HP.out HK.out hob j (d := 7) (by decide) (by decide) (.int .i64 0)).restN HP.out HK.out hob j (d := 8) (by decide) (by decide) (.bool false)).restN HP.out HK.out hob j (d := 9) (by decide) (by decide) (.int .i64 0)).restN HP.out HK.out hob j (d := 10) (by decide) (by decide) (.int .i64 0)))
                  have TT : Turns (jS (fun i => .slice (aa i) (la i) (ca i)) (fun i => .slice (an i) (ln i) (cn i))) wr (((((((((((wr.setCell ⟨b, j * 11, none⟩ (.int .i64 (-1 - (k : Int)))).setCell ⟨b, j * 11 + 1, none⟩ (.int .i64 0)).setCell ⟨b, j * 11 + 2, none⟩ (.int .i64 0)).setCell ⟨b, j * 11 + 3, none⟩ (.slice none 0 0)).setCell ⟨b, j * 11 + 4, none⟩ (.slice none 0 0)).setCell ⟨b, j * 11 + 5, none⟩ (.int .i64 0)).setCell ⟨b, j * 11 + 6, none⟩ (.bool false)).setCell ⟨b, j * 11 + 7, none⟩ (.int .i64 0)).setCell ⟨b, j * 11 + 8, none⟩ (.bool false)).setCell ⟨b, j * 11 + 9, none⟩ (.int .i64 0)).setCell ⟨b, j * 11 + 10, none⟩ (.int .i64 0)) := ((((((((((((Turns.refl _ _).setCell (.inl hmem) _).setCell (.inl hmem) _).setCell (.inl hmem) _).setCell (.inl hmem) _).setCell (.inl hmem) _).setCell (.inl hmem) _).setCell (.inl hmem) _).setCell (.inl hmem) _).setCell (.inl hmem) _).setCell (.inl hmem) _).setCell (.inl hmem) _)
                  have HJ2 := Lib.hid (hj.turns TT HS.out)
                  have HT2 := Lib.hid (ht.trans TT (fun x hx => .inl hx))
                  have HJN := Lib.hid hjn
                  have hlb := BN.out k HK.out
                  have e3 : (0 : Int) ≤ (j : Int) := by omega
                  have e4 : (j : Int) < (ln k : Int) := by omega
                  clear hjn hj ho ht TT hob hmem hab
                  have fx1 := W1.out
                  have fx2 := W2.out
                  go_wp2
                  clear fx1 fx2
                  exact ⟨⟨j + 1, by go_num, HJN.out, HJ2.out, HO2.out, HT2.out⟩, by simp [intOf]; have := HJN.out; omega⟩
                · obtain rfl : ln k = j := by omega
                  obtain ⟨z0, z1, z2⟩ := hj.at7
                  have HJ := Lib.hid hj
                  have HO := Lib.hid (ho.congr (ka' := fun q => if q < k + 1 then la q else 0) (kn' := fun q => if q < k + 1 then ln q else 0) (fun q _ => rfl) (fun q _ => by
                    by_cases h1 : q < k
                    · rw [if_pos (by omega), if_pos h1]
                    · by_cases h2 : q = k
                      · subst h2; rw [if_pos (by omega), if_neg h1, if_pos rfl]
                      · rw [if_neg (by omega), if_neg h1, if_neg h2]))
                  have HT := Lib.hid ht
                  have hlb := BN.out k HK.out
                  have hs2 := Nat.le_trans (Nat.add_le_add_right (SN.out 3 (by decide)) k) (show 3 * 100000000 + k ≤ 400000000 by omega)
                  have HW1 := Lib.hid (show W.heap.size ≤ wr.heap.size from ht.size)
                  have hl7 : W.heap.size + 1 + 1 + 1 + 1 < wr.heap.size := by omega
                  have hl8 : W.heap.size + 1 + 1 + 1 + 1 + 1 < wr.heap.size := by omega
                  clear hj ho ht hjn
                  go_wp2
                  apply mergeJ (F := fun (g' : Nat) (cap : Nat) (w3 : World) => JB W (fun i => .slice (aa i) (la i) (ca i)) (fun i => .slice (an i) (ln i) (cn i)) (fun i => .slice (ae i) (le i) (ce i)) (w3.setCell ⟨W.heap.size + 1 + 1 + 1 + 1, 1, none⟩ (.slice (some ⟨g', 0, none⟩) (sumN ln 3 + k + 1) cap)) (.slice ga (sumN la 3) gc) (.slice (some ⟨g', 0, none⟩) (sumN ln 3 + (k + 1)) cap) (sumN la 3) (sumN ln 3 + (k + 1)) (catL xa 3) (catL xn 3 ++ catL (fun k => endNd (.slice (ae k) (le k) (ce k))) (k + 1)) ∧ JO (w3.setCell ⟨W.heap.size + 1 + 1 + 1 + 1, 1, none⟩ (.slice (some ⟨g', 0, none⟩) (sumN ln 3 + k + 1) cap)) (fun i => .slice (aa i) (la i) (ca i)) (fun i => .slice (an i) (ln i) (cn i)) la ln (fun q => if q < k + 1 then la q else 0) (fun q => if q < k + 1 then ln q else 0) ∧ Turns (jS (fun i => .slice (aa i) (la i) (ca i)) (fun i => .slice (an i) (ln i) (cn i))) W (w3.setCell ⟨W.heap.size + 1 + 1 + 1 + 1, 1, none⟩ (.slice (some ⟨g', 0, none⟩) (sumN ln 3 + k + 1) cap)))
                  case hg =>
                    intro hc
                    go_region_law (refine step_append_raw HJ.out.pn (by rfl) (.tmp 81) (.tmp 87) 24 (by rfl) Try.underlying24 infoNdR rfl (by decide) (by rfl) #[.int .i64 0, .int .i64 0, .int .i64 0, .slice none 0 0, .slice (ae k) (le k) (ce k), .int .i64 0, .bool false, .int .i64 0, .bool false, .int .i64 0, .int .i64 0] _ (by rfl) rfl (by rfl) (by intro u hu; simp only [List.mem_cons, List.not_mem_nil, or_false] at hu; rcases hu with rfl | rfl | rfl | rfl | rfl | rfl | rfl | rfl | rfl | rfl | rfl <;> rfl) hs2 (by decide) hsz ?_; intro g' cap w3 ho ht; obtain ⟨q7, f7⟩ := HJ.out.afterN ht; have HG := Lib.hid (HJ.out.growN ho ht); have HF := Lib.hid (jb_far (o := 1) (u := .slice (some ⟨g', 0, none⟩) (sumN ln 3 + k + 1) cap) HJ.out.pn ht HW1.out); have HT3 := Lib.hid (HT.out.trans ht (fun x hx => .inr (by have h1 : (Value.slice gn (sumN ln 3 + k) cn9).ownBlock = some x := (by simpa only [Option.mem_toList] using hx); have := (ownBlock_cells HJ.out.pn h1).1; omega))); clear ho ht)
                    all_goals
                      refine hc g' cap w3 ⟨?_, HO.out.keep (fun i b hi hb => HF.out.block b (HS.out b (jS_a hi hb))) (fun i b hi hb => HF.out.block b (HS.out b (jS_n hi hb))), HT3.out.setCell (.inr (by simp; omega)) _⟩
                      have h9 := HG.out
                      simpa only [catL, endNd, List.append_assoc, Nat.add_assoc] using h9
                  rintro g' cap w3 ⟨hj2, ho2, ht2⟩
                  have HJ2 := Lib.hid hj2
                  have HO2 := Lib.hid ho2
                  have HT2 := Lib.hid ht2
                  clear y0 y1 y2 z0 z1 z2 hsz hj2 ho2 ht2 hs2 hl7 hl8
                  go_wp2
                  exact ⟨⟨k + 1, _, _, by go_num, HK.out, HJ2.out, HO2.out, HT2.out⟩, by simp [intOf]; have := HK.out; omega⟩
        · obtain rfl : k = 3 := by omega
          rw [show (((3 : Nat) : Int)) = 3 from rfl]
          have HJ := Lib.hid hj
          have HO := Lib.hid (ho.congr (ka' := la) (kn' := ln) (fun q hq => by rw [if_pos hq]) (fun q hq => by rw [if_pos hq]))
          have HT := Lib.hid ht
          clear hk hk3 hj ho ht
          go_wp2
          go_loopw [13] (fun iv wr => ∃ (k : Nat), iv = .int .i64 k ∧ k ≤ 3 ∧ JB W (fun i => .slice (aa i) (la i) (ca i)) (fun i => .slice (an i) (ln i) (cn i)) (fun i => .slice (ae i) (le i) (ce i)) wr (.slice ga (sumN la 3) gc) (.slice gn (sumN ln 3 + 3) cn9) (sumN la 3) (sumN ln 3 + 3) (catL xa 3) (catL xn 3 ++ catL (fun k => endNd (.slice (ae k) (le k) (ce k))) 3) ∧ JO wr (fun i => .slice (aa i) (la i) (ca i)) (fun i => .slice (an i) (ln i) (cn i)) la ln la ln ∧ Turns (jS (fun i => .slice (aa i) (la i) (ca i)) (fun i => .slice (an i) (ln i) (cn i))) W wr) (fun iv _ => 3 - (intOf iv).toNat)
          case atStart => exact ⟨0, rfl, by decide, HJ.out, HO.out, HT.out⟩
          case round =>
            obtain ⟨k, rfl, hk, hj, ho, ht⟩ := hrel
            clear HJ HO HT
            by_cases hk3 : k < 3
            · have e1 : (0 : Int) ≤ (k : Int) := by omega
              have e2 : (k : Int) < 3 := by omega
              have HK := Lib.hid hk3
              have W1 := Lib.hid (show Value.int .i64 (IntKind.i64.wrap (-1 - (k : Int))) = .int .i64 (-1 - (k : Int)) from congrArg _ (IntWalk.i64_in _ (by omega)))
              have W2 := Lib.hid (show Value.int .i64 (wrap64 (-1 - (k : Int))) = .int .i64 (-1 - (k : Int)) from congrArg _ (IntWalk.wrap64_in _ (by omega)))
              have HJ := Lib.hid hj
              have HO := Lib.hid ho
              have HT := Lib.hid ht
              clear hk3 hj ho ht
              go_wp2
              go_loopw [14] (fun jv wr => ∃ (j : Nat), jv = .int .i64 j ∧ j ≤ la k ∧ JB W (fun i => .slice (aa i) (la i) (ca i)) (fun i => .slice (an i) (ln i) (cn i)) (fun i => .slice (ae i) (le i) (ce i)) wr (.slice ga (sumN la 3) gc) (.slice gn (sumN ln 3 + 3) cn9) (sumN la 3) (sumN ln 3 + 3) (catL xa 3) (catL xn 3 ++ catL (fun k => endNd (.slice (ae k) (le k) (ce k))) 3) ∧ JO wr (fun i => .slice (aa i) (la i) (ca i)) (fun i => .slice (an i) (ln i) (cn i)) la ln la ln ∧ Turns (jS (fun i => .slice (aa i) (la i) (ca i)) (fun i => .slice (an i) (ln i) (cn i))) W wr) (fun jv _ => la k - (intOf jv).toNat)
              case atStart => exact ⟨0, rfl, Nat.zero_le _, HJ.out, HO.out, HT.out⟩
              case round =>
                obtain ⟨j, rfl, hjl, hj, ho, ht⟩ := hrel
                clear HJ HO HT
                obtain ⟨y0, y1, y2⟩ := hj.at8 HK.out
                have hlb := BA.out k HK.out
                by_cases hjn : j < la k
                · obtain ⟨b, hab⟩ := AF.out k HK.out (by omega)
                  rw [hab] at y0
                  have hob : (Value.slice (aa k) (la k) (ca k)).ownBlock = some b := by rw [hab]; rfl
                  have c0 := (ho.a k HK.out).at hob hjn
                  have HJ := Lib.hid hj
                  have HO := Lib.hid ho
                  have HT := Lib.hid ht
                  have HJN := Lib.hid hjn
                  have e3 : (0 : Int) ≤ (j : Int) := by omega
                  have e4 : (j : Int) < (la k : Int) := by omega
                  clear hjn hj ho ht hob hab
                  have fx1 := W1.out
                  have fx2 := W2.out
                  go_wp2
                  clear fx1 fx2
                  exact ⟨⟨j + 1, by go_num, HJN.out, HJ.out, HO.out, HT.out⟩, by simp [intOf]; have := HJN.out; omega⟩
                · obtain rfl : la k = j := by omega
                  have HJ := Lib.hid hj
                  have HO := Lib.hid ho
                  have HT := Lib.hid ht
                  clear hj ho ht hjn
                  go_wp2
                  clear y0 y1 y2 hlb
                  go_loopw [15] (fun jv wr => ∃ (j : Nat), jv = .int .i64 j ∧ j ≤ ln k ∧ JB W (fun i => .slice (aa i) (la i) (ca i)) (fun i => .slice (an i) (ln i) (cn i)) (fun i => .slice (ae i) (le i) (ce i)) wr (.slice ga (sumN la 3) gc) (.slice gn (sumN ln 3 + 3) cn9) (sumN la 3) (sumN ln 3 + 3) (catL xa 3) (catL xn 3 ++ catL (fun k => endNd (.slice (ae k) (le k) (ce k))) 3) ∧ JO wr (fun i => .slice (aa i) (la i) (ca i)) (fun i => .slice (an i) (ln i) (cn i)) la ln la ln ∧ Turns (jS (fun i => .slice (aa i) (la i) (ca i)) (fun i => .slice (an i) (ln i) (cn i))) W wr) (fun jv _ => ln k - (intOf jv).toNat)
                  case atStart => exact ⟨0, rfl, Nat.zero_le _, HJ.out, HO.out, HT.out⟩
                  case round =>
                    obtain ⟨j, rfl, hjl, hj, ho, ht⟩ := hrel
                    clear HJ HO HT
                    obtain ⟨y0, y1, y2⟩ := hj.at8 HK.out
                    have hlb := BN.out k HK.out
                    by_cases hjn : j < ln k
                    · obtain ⟨b, hab⟩ := NF.out k HK.out (by omega)
                      rw [hab] at y1
                      have hob : (Value.slice (an k) (ln k) (cn k)).ownBlock = some b := by rw [hab]; rfl
                      have c0 := (ho.n k HK.out).at hob hjn
                      have HJ := Lib.hid hj
                      have HO := Lib.hid ho
                      have HT := Lib.hid ht
                      have HJN := Lib.hid hjn
                      have e3 : (0 : Int) ≤ (j : Int) := by omega
                      have e4 : (j : Int) < (ln k : Int) := by omega
                      clear hjn hj ho ht hob hab
                      have fx1 := W1.out
                      have fx2 := W2.out
                      go_wp2
                      clear fx1 fx2
                      exact ⟨⟨j + 1, by go_num, HJN.out, HJ.out, HO.out, HT.out⟩, by simp [intOf]; have := HJN.out; omega⟩
                    · obtain rfl : ln k = j := by omega
                      have HJ := Lib.hid hj
                      have HO := Lib.hid ho
                      have HT := Lib.hid ht
                      clear hj ho ht hjn
                      go_wp2
                      clear y0 y1 y2 hlb
                      exact ⟨⟨k + 1, by go_num, HK.out, HJ.out, HO.out, HT.out⟩, by simp [intOf]; have := HK.out; omega⟩
            · obtain ⟨z0, z1, z2⟩ := hj.at7
              obtain ⟨x0, x1, x2⟩ := hj.at6
              have b6 := hj.b6
              have fz : ∀ o, wr.frozen? ⟨W.heap.size + 1 + 1 + 1, o, none⟩ = false := fun o => frozen_of_row _ _ _ _ _ b6
              have hsz := hj.sz
              have EF := Lib.hid (heap_setCell_same _ _ 2 _ _ (.slice none 0 0) (heap_setCell_same _ _ 1 _ _ (.slice gn (sumN ln 3 + 3) cn9) (heap_setCell_same _ _ 0 _ _ (.slice ga (sumN la 3) gc) b6)))
              have HJ := Lib.hid hj
              have HT := Lib.hid ht
              clear hj ho ht b6
              go_wp2
              refine bodyPost_ret (v := .agg #[.slice ga (sumN la 3) gc, .slice gn (sumN ln 3 + 3) cn9, .slice none 0 0]) (results_row_slot1 rfl _ _ (W.heap.size + 1 + 1 + 1) 27 #[.slice ga (sumN la 3) gc, .slice gn (sumN ln 3 + 3) cn9, .slice none 0 0] (0, 0) _ rfl EF.out Try.underlying27 rfl sizePlan) rfl ?_
              have T6 : Turns [W.heap.size + 1 + 1 + 1] wr (((wr.setCell ⟨W.heap.size + 1 + 1 + 1, 0, none⟩ (.slice ga (sumN la 3) gc)).setCell ⟨W.heap.size + 1 + 1 + 1, 1, none⟩ (.slice gn (sumN ln 3 + 3) cn9)).setCell ⟨W.heap.size + 1 + 1 + 1, 2, none⟩ (.slice none 0 0)) :=
                (((Turns.refl _ _).setCell (.inl (by simp)) _).setCell (.inl (by simp)) _).setCell (.inl (by simp)) _
              refine ⟨_, _, rfl, ?_, ?_, HT.out.trans T6 (fun x hx => .inr (by simp only [List.mem_singleton] at hx; omega))⟩
              · exact own_lower (ownsRow_turns HJ.out.pa T6 (fun b hb => by have := (ownBlock_cells HJ.out.pa hb).1; simp only [List.mem_singleton]; omega)) (by omega)
              · exact own_lower (ownsRow_turns HJ.out.pn T6 (fun b hb => by have := (ownBlock_cells HJ.out.pn hb).1; simp only [List.mem_singleton]; omega)) (by omega)
end Go.Proofs.Ytonkbjdeaneicaa

namespace Go.Proofs.Ytonkbjdeaneicaa.Pln
open Classical
def placesN (al : List Shp) (n : Nd) (w : Int) : Prop := ∃ (ai : Nat) (s : Shp), n.alpha = ai ∧ al[ai]? = some s ∧ placesP s.cells n w
def belowI (w : Int) (s : Slt) : Prop := 0 ≤ s.n ∧ (s.v = true → s.n < w)
def testP (n up : Nd) : Prop := up.kind ≠ 3 ∧ n.alpha = -1 ∧ n.links = [] ∧ n.new = [] ∧ n.width = up.width ∧ 1 ≤ n.test.op ∧ n.test.op ≤ 6 ∧ belowI up.width n.test.l ∧ belowI up.width n.test.r
/-- A node by itself and against its parent. -/
def nodeP (al : List Shp) (n up : Nd) : Prop :=
  (n.kind = 1 ∧ (up.kind = 0 ∨ up.kind = 1) ∧ placesN al n up.width) ∨ (n.kind = 3 ∧ n.new = [] ∧ placesN al n up.width) ∨ (n.kind = 2 ∧ testP n up)
theorem placesN_iff {al : List Shp} {n : Nd} {w : Int} {ai : Nat} {s : Shp} (ha : n.alpha = ai) (hs : al[ai]? = some s) : placesN al n w ↔ placesP s.cells n w := by
  constructor
  · rintro ⟨ai', s', h1, h2, h3⟩
    have : ai' = ai := by omega
    subst this
    rw [hs] at h2
    rw [Option.some.inj h2]
    exact h3
  · intro h
    exact ⟨ai, s, ha, hs, h⟩
end Go.Proofs.Ytonkbjdeaneicaa.Pln
namespace Go.Proofs.Ytonkbjdeaneicaa
open Go.RowKit Pln Classical Go.Maps

/-- Three boxes. -/
structure Three (W W3 : World) (a b c : Array Value) (ta tb tc : TypeId) : Prop where
  below : Below W.heap.size W W3
  size : W3.heap.size = W.heap.size + 3
  ha : W3.heap[W.heap.size]? = some (.cells a ta (0, 0))
  hb : W3.heap[W.heap.size + 1]? = some (.cells b tb (0, 0))
  hc : W3.heap[W.heap.size + 1 + 1]? = some (.cells c tc (0, 0))
theorem three (W : World) (a b c : Array Value) (ta tb tc : TypeId) : Three W (((W.alloc (.cells a ta)).alloc (.cells b tb)).alloc (.cells c tc)) a b c ta tb tc := by
  refine ⟨(((Below.refl _ _).alloc (Nat.le_refl _) _).alloc (by simp) _).alloc (by simp; omega) _, by simp, ?_, ?_, ?_⟩
  · rw [Below.heap_alloc _ _ _ (by simp; omega), Below.heap_alloc _ _ _ (by simp)]
    exact heap_alloc_new W _
  · rw [Below.heap_alloc _ _ _ (by simp)]
    have := heap_alloc_new (W.alloc (.cells a ta)) (.cells b tb)
    simpa using this
  · have := heap_alloc_new ((W.alloc (.cells a ta)).alloc (.cells b tb)) (.cells c tc)
    simpa using this
section
variable {W W3 wr : World} {a b c sh : Array Value} {ta tb tc ts : TypeId}
theorem Three.ca (h : Three W W3 a b c ta tb tc) (hb : Below W3.heap.size W3 wr) (j : Nat) {u : Value} (hu : a.toList[j]? = some u) : wr.cell? ⟨W.heap.size, j, none⟩ = some u := rboxL ((hb.block _ (by have := h.size; omega)).trans h.ha) j hu
theorem Three.cb (h : Three W W3 a b c ta tb tc) (hb : Below W3.heap.size W3 wr) (j : Nat) {u : Value} (hu : b.toList[j]? = some u) : wr.cell? ⟨W.heap.size + 1, j, none⟩ = some u := rboxL ((hb.block _ (by have := h.size; omega)).trans h.hb) j hu
theorem Three.cc (h : Three W W3 a b c ta tb tc) (hb : Below W3.heap.size W3 wr) (j : Nat) {u : Value} (hu : c.toList[j]? = some u) : wr.cell? ⟨W.heap.size + 1 + 1, j, none⟩ = some u := rboxL ((hb.block _ (by have := h.size; omega)).trans h.hc) j hu
theorem Three.all (h : Three W W3 a b c ta tb tc) (hb : Below W3.heap.size W3 wr) : Below W.heap.size W wr := h.below.trans (hb.mono (by have := h.size; omega))
end
theorem bel_iff (w : Nat) (s : Slt) : bel w s = decide (belowI w s) := by
  unfold bel
  congr 1

set_option maxRecDepth 200000 in
set_option maxHeartbeats 8000000 in
theorem nodeRW {F G : Nat → Prop} (W : World) (av nv ev : Value) (al : List Shp) (hA : RSl F W 2 (EShp F W) av al) (n : Nd) (ncs : List Value) (lv mv : Value) (hN : ENd F W ncs n lv mv) (up : Nd) (ucs : List Value) (ulv umv : Value) (hU : ENd G W ucs up ulv umv)
    (hk : n.kind = 1 ∨ n.kind = 3 → ∃ (ai : Nat) (s : Shp), n.alpha = ai ∧ al[ai]? = some s ∧ s.cells.length ≤ 8) (w : Nat) (hw : w ≤ 16) (huw : up.width = (w : Int)) (hml : n.new.length ≤ 1000000000) :
    Calls Try.prog 64 #[.agg #[av, nv, ev], .agg #[.int .i64 n.kind, .int .i64 n.parent, .int .i64 n.alpha, lv, mv, .int .i64 n.test.op, .bool n.test.l.v, .int .i64 n.test.l.n, .bool n.test.r.v, .int .i64 n.test.r.n, .int .i64 n.width], .agg #[.int .i64 up.kind, .int .i64 up.parent, .int .i64 up.alpha, ulv, umv, .int .i64 up.test.op, .bool up.test.l.v, .int .i64 up.test.l.n, .bool up.test.r.v, .int .i64 up.test.r.n, .int .i64 up.width]] W
      fun e W' => e = .returned (.bool (decide (nodeP al n up))) ∧ Below W.heap.size W W' := by
  have PW := Lib.hid (fun (Wx : World) (hb : Below W.heap.size W Wx) (ai : Nat) (s : Shp) (h1 : n.alpha = ai) (h2 : al[ai]? = some s) (h3 : s.cells.length ≤ 8) => placesW Wx av nv ev al (RSl.kp hA (Kp.of_below hb) (fun _ _ h => h) (fun _ _ h => h.kp (Kp.of_below hb) (fun _ _ h => h))) n ncs lv mv (hN.kp (Kp.of_below hb) (fun _ _ h => h)) ai s h2 h1 h3 w hw hml)
  obtain ⟨Aa, ca, rfl⟩ := hA.form
  obtain ⟨Al, cl, rfl⟩ := hN.links.form
  obtain ⟨Am, cm, rfl⟩ := hN.new.form
  obtain ⟨Bl, dl, rfl⟩ := hU.links.form
  obtain ⟨Bm, dm, rfl⟩ := hU.new.form
  have hll := hN.links.len
  have hml2 := hN.new.len
  unfold maxLen at hll hml2
  obtain ⟨R, hR⟩ : ∃ R, decide (nodeP al n up) = R := ⟨_, rfl⟩
  rw [hR]
  have HR := Lib.hid hR
  have HK := Lib.hid hk
  have HU := Lib.hid huw
  rw [huw]
  have T := Lib.hid (three W #[.slice Aa al.length ca, nv, ev] #[.int .i64 n.kind, .int .i64 n.parent, .int .i64 n.alpha, .slice Al n.links.length cl, .slice Am n.new.length cm, .int .i64 n.test.op, .bool n.test.l.v, .int .i64 n.test.l.n, .bool n.test.r.v, .int .i64 n.test.r.n, .int .i64 n.width] #[.int .i64 up.kind, .int .i64 up.parent, .int .i64 up.alpha, .slice Bl up.links.length dl, .slice Bm up.new.length dm, .int .i64 up.test.op, .bool up.test.l.v, .int .i64 up.test.l.n, .bool up.test.r.v, .int .i64 up.test.r.n, .int .i64 (w : Int)] 27 54 54)
  clear hR hA hN hU huw hk
  go_enter Try.func64, Try.ntmps64
  go_upto_region 1 with fail
  obtain ⟨W3, hW3⟩ : ∃ W3, W3 = (((W.alloc (.cells #[.slice Aa al.length ca, nv, ev] 27)).alloc (.cells #[.int .i64 n.kind, .int .i64 n.parent, .int .i64 n.alpha, .slice Al n.links.length cl, .slice Am n.new.length cm, .int .i64 n.test.op, .bool n.test.l.v, .int .i64 n.test.l.n, .bool n.test.r.v, .int .i64 n.test.r.n, .int .i64 n.width] 54)).alloc (.cells #[.int .i64 up.kind, .int .i64 up.parent, .int .i64 up.alpha, .slice Bl up.links.length dl, .slice Bm up.new.length dm, .int .i64 up.test.op, .bool up.test.l.v, .int .i64 up.test.l.n, .bool up.test.r.v, .int .i64 up.test.r.n, .int .i64 (w : Int)] 54)) := ⟨_, rfl⟩
  rw [← hW3] at T ⊢
  clear hW3
  have DT := Lib.hid (Below.refl W3.heap.size W3)
  have hD := Below.refl W3.heap.size W3
  have y0 := T.out.ca hD 0 rfl
  have y1 := T.out.ca hD 1 rfl
  have y2 := T.out.ca hD 2 rfl
  have b0 := T.out.cb hD 0 rfl
  have b1 := T.out.cb hD 1 rfl
  have b2 := T.out.cb hD 2 rfl
  have b3 := T.out.cb hD 3 rfl
  have b4 := T.out.cb hD 4 rfl
  have b5 := T.out.cb hD 5 rfl
  have b6 := T.out.cb hD 6 rfl
  have b7 := T.out.cb hD 7 rfl
  have b8 := T.out.cb hD 8 rfl
  have b9 := T.out.cb hD 9 rfl
  have b10 := T.out.cb hD 10 rfl
  have u0 := T.out.cc hD 0 rfl
  have u10 := T.out.cc hD 10 rfl
  clear hD
  obtain ⟨uk, huk⟩ : ∃ uk, up.kind = uk := ⟨_, rfl⟩
  have HUK := Lib.hid huk
  rw [huk] at u0
  clear huk
  by_cases k1 : n.kind = 1
  · obtain ⟨ai, s, h1, h2, h3⟩ := HK.out (.inl k1)
    have PC := Lib.hid (PW.out W3 T.out.below ai s h1 h2 h3)
    have HP := Lib.hid (show R = decide ((uk = 0 ∨ uk = 1) ∧ placesP s.cells n (w : Int)) from by
      rw [← HR.out]
      apply decide_eq_decide.2
      unfold nodeP
      rw [HUK.out, HU.out, placesN_iff h1 h2]
      constructor
      · rintro (h | h | h)
        · exact h.2
        · omega
        · omega
      · intro h
        exact .inl ⟨k1, h⟩)
    rw [k1] at PC b0
    clear k1 h1 h2 h3
    by_cases hu0 : uk = 0
    · subst hu0
      go_wp2_with fail
      refine PC.out.mono ?_
      rintro e w2 ⟨rfl, hb2⟩
      have HB := Lib.hid (T.out.all (Below.trans DT.out hb2))
      have HF := Lib.hid (show R = decide (placesP s.cells n (w : Int)) by rw [HP.out]; simp)
      clear hb2 PC
      go_wp2
      go_ret
      exact ⟨by rw [HF.out]; rfl, HB.out⟩
    · by_cases hu1 : uk = 1
      · subst hu1
        go_wp2_with fail
        refine PC.out.mono ?_
        rintro e w2 ⟨rfl, hb2⟩
        have HB := Lib.hid (T.out.all (Below.trans DT.out hb2))
        have HF := Lib.hid (show R = decide (placesP s.cells n (w : Int)) by rw [HP.out]; simp)
        clear hb2 PC
        go_wp2
        go_ret
        exact ⟨by rw [HF.out]; rfl, HB.out⟩
      · have HF := Lib.hid (show R = false by rw [HP.out]; exact decide_eq_false (fun h => by omega))
        clear PC
        have g0 : (uk == 0) = false := by simpa using hu0
        have g1 : (uk == 1) = false := by simpa using hu1
        go_wp2
        go_ret
        exact ⟨by rw [HF.out]; rfl, T.out.below⟩
  · by_cases k3 : n.kind = 3
    · obtain ⟨ai, s, h1, h2, h3⟩ := HK.out (.inr k3)
      have PC := Lib.hid (PW.out W3 T.out.below ai s h1 h2 h3)
      have HP := Lib.hid (show R = decide (n.new = [] ∧ placesP s.cells n (w : Int)) from by
        rw [← HR.out]
        apply decide_eq_decide.2
        unfold nodeP
        rw [HU.out, placesN_iff h1 h2]
        constructor
        · rintro (h | h | h)
          · omega
          · exact h.2
          · omega
        · intro h
          exact .inr (.inl ⟨k3, h⟩))
      rw [k3] at PC b0
      clear k1 k3 h1 h2 h3
      by_cases hn0 : n.new.length = 0
      · have hnn := List.eq_nil_of_length_eq_zero hn0
        rw [hn0] at PC b4
        have HF := Lib.hid (show R = decide (placesP s.cells n (w : Int)) by rw [HP.out]; simp [hnn])
        clear hn0 hnn
        go_wp2_with fail
        refine PC.out.mono ?_
        rintro e w2 ⟨rfl, hb2⟩
        have HB := Lib.hid (T.out.all (Below.trans DT.out hb2))
        clear hb2 PC
        go_wp2
        go_ret
        exact ⟨by rw [HF.out]; rfl, HB.out⟩
      · have HF := Lib.hid (show R = false by rw [HP.out]; exact decide_eq_false (fun h => hn0 (by rw [h.1]; rfl)))
        have g0 : ¬ (n.new.length : Int) = 0 := by omega
        have g1 : ((n.new.length : Int) == 0) = false := by simpa using g0
        clear PC
        go_wp2
        go_ret
        exact ⟨by rw [HF.out]; rfl, T.out.below⟩
    · have e1 : (n.kind == 1) = false := by simpa using k1
      have e3 : (n.kind == 3) = false := by simpa using k3
      have HP := Lib.hid (show R = decide (n.kind = 2 ∧ testP n up) from by
        rw [← HR.out]
        apply decide_eq_decide.2
        unfold nodeP
        constructor
        · rintro (h | h | h)
          · exact absurd h.1 k1
          · exact absurd h.1 k3
          · exact h
        · intro h
          exact .inr (.inr h))
      clear PW HK
      by_cases k2 : n.kind = 2
      · rw [k2] at b0
        obtain ⟨wa, hwa⟩ : ∃ wa, wa = W3.alloc (.cells #[.int .i64 n.test.op, .bool n.test.l.v, .int .i64 n.test.l.n, .bool n.test.r.v, .int .i64 n.test.r.n] 52) := ⟨_, rfl⟩
        have hba : Below W3.heap.size W3 wa := by rw [hwa]; exact (Below.refl _ _).alloc (Nat.le_refl _) _
        have hrow : wa.heap[W3.heap.size]? = some (.cells #[.int .i64 n.test.op, .bool n.test.l.v, .int .i64 n.test.l.n, .bool n.test.r.v, .int .i64 n.test.r.n] 52 (0, 0)) := by rw [hwa]; exact heap_alloc_new W3 _
        have HBA := Lib.hid hba
        have HROW := Lib.hid hrow
        have K2 := Lib.hid k2
        have x2 := T.out.cb hba 2 rfl
        have x3 := T.out.cb hba 3 rfl
        have x4 := T.out.cb hba 4 rfl
        have x10 := T.out.cb hba 10 rfl
        have v0 := T.out.cc hba 0 rfl
        have v10 := T.out.cc hba 10 rfl
        rw [HUK.out] at v0
        have t0 := rboxL hrow 0 rfl
        have t1 := rboxL hrow 1 rfl
        have t2 := rboxL hrow 2 rfl
        have t3 := rboxL hrow 3 rfl
        have t4 := rboxL hrow 4 rfl
        clear e1 e3 k1 k3 k2 hba hrow
        go_upto_region 8 with fail
        rw [← hwa]
        clear hwa b0 b1 b2 b3 b4 b5 b6 b7 b8 b9 b10 u0 u10 y0 y1 y2
        have NOT := Lib.hid (show ¬ testP n up → R = false from fun h => by rw [HP.out]; exact decide_eq_false (fun h2 => h h2.2))
        by_cases c1 : uk = 3
        · have HF := Lib.hid (NOT.out (fun h => h.1 (by rw [HUK.out]; exact c1)))
          subst c1
          go_wp2
          go_ret
          exact ⟨by rw [HF.out]; rfl, T.out.all HBA.out⟩
        · have d1 : (uk == 3) = false := by simpa using c1
          have d1' : (uk != 3) = true := by simpa using c1
          by_cases c2 : n.alpha = -1
          · by_cases c3 : n.links.length = 0
            · by_cases c4 : n.new.length = 0
              · by_cases c5 : n.width = (w : Int)
                · by_cases c6 : 1 ≤ n.test.op
                  · by_cases c7 : n.test.op ≤ 6
                    · have HC := Lib.hid (And.intro c2 (And.intro c3 (And.intro c4 (And.intro c5 (And.intro c6 c7)))))
                      have C1 := Lib.hid c1
                      rw [c2] at x2
                      rw [c3] at x3
                      rw [c4] at x4
                      rw [c5] at x10
                      clear c2 c3 c4 c5 c1
                      have BL := Lib.hid (belowW n.test.l w wa)
                      go_wp2_with fail
                      refine BL.out.mono ?_
                      rintro e w2 ⟨rfl, hb2⟩
                      have hba2 := HBA.out.trans (hb2.mono HBA.out.size)
                      have hrow2 := (hb2.block _ (lt_of_heap HROW.out)).trans HROW.out
                      have x10 := T.out.cb hba2 10 rfl
                      rw [HC.out.2.2.2.1] at x10
                      have t3 := rboxL hrow2 3 rfl
                      have t4 := rboxL hrow2 4 rfl
                      have HBA2 := Lib.hid hba2
                      clear hba2 hrow2 hb2 BL
                      rw [bel_iff]
                      by_cases c8 : belowI w n.test.l
                      · rw [decide_eq_true c8]
                        have BR := Lib.hid (belowW n.test.r w w2)
                        have HC8 := Lib.hid c8
                        clear c8
                        go_wp2_with fail
                        refine BR.out.mono ?_
                        rintro e w3 ⟨rfl, hb3⟩
                        have HB3 := Lib.hid (T.out.all (HBA2.out.trans (hb3.mono HBA2.out.size)))
                        have HF := Lib.hid (show R = bel w n.test.r from by
                          rw [HP.out, bel_iff]
                          apply decide_eq_decide.2
                          unfold testP
                          rw [HU.out, HUK.out]
                          constructor
                          · intro h
                            exact h.2.2.2.2.2.2.2.2.2
                          · intro h
                            exact ⟨K2.out, C1.out, HC.out.1, List.eq_nil_of_length_eq_zero HC.out.2.1, List.eq_nil_of_length_eq_zero HC.out.2.2.1, HC.out.2.2.2.1, HC.out.2.2.2.2.1, HC.out.2.2.2.2.2, HC8.out, h⟩)
                        clear hb3 BR
                        go_wp2
                        go_ret
                        exact ⟨by rw [HF.out]; rfl, HB3.out⟩
                      · rw [decide_eq_false c8]
                        have HF := Lib.hid (NOT.out (fun h => c8 (by have := h.2.2.2.2.2.2.2.1; rw [HU.out] at this; exact this)))
                        clear c8
                        go_wp2
                        go_ret
                        exact ⟨by rw [HF.out]; rfl, T.out.all HBA2.out⟩
                    · have HF := Lib.hid (NOT.out (fun h => c7 (h.2.2.2.2.2.2.1)))
                      have d7 : ¬ n.test.op ≤ 6 := c7
                      go_wp2
                      go_ret
                      exact ⟨by rw [HF.out]; rfl, T.out.all HBA.out⟩
                  · have HF := Lib.hid (NOT.out (fun h => c6 (h.2.2.2.2.2.1)))
                    have d6 : ¬ 1 ≤ n.test.op := c6
                    go_wp2
                    go_ret
                    exact ⟨by rw [HF.out]; rfl, T.out.all HBA.out⟩
                · have HF := Lib.hid (NOT.out (fun h => c5 ((by have := h.2.2.2.2.1; rw [HU.out] at this; exact this))))
                  have d5 : (n.width == (w : Int)) = false := by simpa using c5
                  go_wp2
                  go_ret
                  exact ⟨by rw [HF.out]; rfl, T.out.all HBA.out⟩
              · have HF := Lib.hid (NOT.out (fun h => c4 ((by rw [h.2.2.2.1]; rfl))))
                have d4 : ((n.new.length : Int) == 0) = false := by simp only [beq_eq_false_iff_ne, ne_eq]; omega
                go_wp2
                go_ret
                exact ⟨by rw [HF.out]; rfl, T.out.all HBA.out⟩
            · have HF := Lib.hid (NOT.out (fun h => c3 ((by rw [h.2.2.1]; rfl))))
              have d3 : ((n.links.length : Int) == 0) = false := by simp only [beq_eq_false_iff_ne, ne_eq]; omega
              go_wp2
              go_ret
              exact ⟨by rw [HF.out]; rfl, T.out.all HBA.out⟩
          · have HF := Lib.hid (NOT.out (fun h => c2 (h.2.1)))
            have d2 : (n.alpha == -1) = false := by simpa using c2
            go_wp2
            go_ret
            exact ⟨by rw [HF.out]; rfl, T.out.all HBA.out⟩
      · have HF := Lib.hid (show R = false by rw [HP.out]; exact decide_eq_false (fun h => k2 h.1))
        have e2 : (n.kind == 2) = false := by simpa using k2
        go_wp2
        go_ret
        exact ⟨by rw [HF.out]; rfl, T.out.below⟩
end Go.Proofs.Ytonkbjdeaneicaa
