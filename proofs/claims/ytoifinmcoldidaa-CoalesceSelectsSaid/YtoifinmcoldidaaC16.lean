import Derived.Test.YtoifinmcoldidaaC15
set_option maxRecDepth 100000
set_option linter.unusedVariables false
set_option linter.unusedSimpArgs false
namespace Go.Proofs.Ytoifinmcoldidaa
open Go.RowKit Go.Mm Sb

theorem wr_ext {x y : Wr} (h1 : x.vol = y.vol) (h2 : x.start = y.start) (h3 : x.data = y.data) : x = y := by cases x; cases y; simp_all
set_option maxHeartbeats 4000000 in
theorem sameWrites_any (va vb : Value) (a b : List Wr) (w : World) (S : Nat → Prop) (ha : RWrs w S va a) (hb : RWrs w S vb b) :
    Calls Try.prog 43 #[va, vb] w fun e w' => e = .returned (.bool (decide (a = b))) ∧ Below w.heap.size w w' := by
  obtain ⟨Aa, ca, rfl, ha1, ha2⟩ := ha.val
  obtain ⟨Ab, cb, rfl, hb1, hb2⟩ := hb.val
  unfold maxLen at ha2 hb2
  by_cases hl : a.length = b.length
  · go_enter Try.func43, Try.ntmps43
    go_wp2
    go_loopw [5] (fun i wr => ∃ k : Nat, k ≤ a.length ∧ i = .int .i64 k ∧ a.take k = b.take k ∧ Below w.heap.size w wr) (fun i _ => a.length - (intOf i).toNat)
    case atStart => exact ⟨0, Nat.zero_le _, rfl, rfl, Below.refl _ _⟩
    case round =>
      obtain ⟨k, hk, rfl, hn, hbw⟩ := hrel
      by_cases hlt : k < a.length
      · obtain ⟨x, hx⟩ : ∃ x, a[k]? = some x := ⟨_, List.getElem?_eq_getElem hlt⟩
        obtain ⟨y, hy⟩ : ∃ y, b[k]? = some y := ⟨_, List.getElem?_eq_getElem (by omega)⟩
        obtain ⟨b1, off1, cs1, rfl, hbl1, _, hl1, hc1, _, _, dv1, rfl, hd1⟩ := ha.at_ hx
        obtain ⟨b2, off2, cs2, rfl, hbl2, _, hl2, hc2, _, _, dv2, rfl, hd2⟩ := hb.at_ hy
        obtain ⟨Ad1, cd1, rfl, hd11, hd12⟩ := hd1.val
        obtain ⟨Ad2, cd2, rfl, hd21, hd22⟩ := hd2.val
        have hD : ∀ W, Below w.heap.size w W → (Below w.heap.size w W ∧ W.cell? ⟨b1, off1 + k * 3, none⟩ = some (.int .i64 x.vol) ∧ W.cell? ⟨b1, off1 + k * 3 + 1, none⟩ = some (.int .i64 x.start) ∧ W.cell? ⟨b1, off1 + k * 3 + 2, none⟩ = some (.slice Ad1 x.data.length cd1) ∧
            W.cell? ⟨b2, off2 + k * 3, none⟩ = some (.int .i64 y.vol) ∧ W.cell? ⟨b2, off2 + k * 3 + 1, none⟩ = some (.int .i64 y.start) ∧ W.cell? ⟨b2, off2 + k * 3 + 2, none⟩ = some (.slice Ad2 y.data.length cd2)) := fun W hW =>
          ⟨hW, (hW.cell hbl1).trans (hc1 0 (by omega)), (hW.cell hbl1).trans (hc1 1 (by omega)), (hW.cell hbl1).trans (hc1 2 (by omega)), (hW.cell hbl2).trans (hc2 0 (by omega)), (hW.cell hbl2).trans (hc2 1 (by omega)), (hW.cell hbl2).trans (hc2 2 (by omega))⟩
        have hdr : Below w.heap.size w wr.drew := hbw.drew
        have hsz : ∀ W, Below w.heap.size w W → w.heap.size ≤ W.heap.size := fun W h => h.size
        clear hc1 hc2 hl1 hl2
        have hltb : k < b.length := by omega
        clear hl
        by_cases hv : x.vol = y.vol
        · by_cases hs : x.start = y.start
          · have t1 : (x.vol != y.vol) = false := by simpa using hv
            have t2 : (x.start != y.start) = false := by simpa using hs
            have HV := Lib.hid hv
            have HSS := Lib.hid hs
            by_cases hd : x.data = y.data
            · have hq := decide_eq_true hd
              have HDD := Lib.hid hd
              clear hd
              go_wp2_with fail
              go_region_held3 (fun W => Below w.heap.size w W ∧ W.cell? ⟨b1, off1 + k * 3, none⟩ = some (.int .i64 x.vol) ∧ W.cell? ⟨b1, off1 + k * 3 + 1, none⟩ = some (.int .i64 x.start) ∧ W.cell? ⟨b1, off1 + k * 3 + 2, none⟩ = some (.slice Ad1 x.data.length cd1) ∧ W.cell? ⟨b2, off2 + k * 3, none⟩ = some (.int .i64 y.vol) ∧ W.cell? ⟨b2, off2 + k * 3 + 1, none⟩ = some (.int .i64 y.start) ∧ W.cell? ⟨b2, off2 + k * 3 + 2, none⟩ = some (.slice Ad2 y.data.length cd2))
                (first | (exact hD _ hS1) | (exact hD _ hdr) | assumption | go_keep)
                (first | (go_at_call 71; refine (sameSectors_any _ _ x.data y.data _ S (hd1.below hdr) (hd2.below hdr)).mono ?_; rintro e w1 ⟨rfl, hb1⟩; rw [hq]; have hS1 : Below w.heap.size w w1 := below_then hdr (hsz _ hdr) hb1))
              go_wp2
              go_roundw
              case rel => exact ⟨k + 1, by omega, by go_num, same_next hn hx hy (wr_ext HV.out HSS.out HDD.out), by assumption⟩
              case measure => simp [intOf]; omega
            · have hq := decide_eq_false hd
              go_wp2_with fail
              go_region_held3 (fun W => Below w.heap.size w W ∧ W.cell? ⟨b1, off1 + k * 3, none⟩ = some (.int .i64 x.vol) ∧ W.cell? ⟨b1, off1 + k * 3 + 1, none⟩ = some (.int .i64 x.start) ∧ W.cell? ⟨b1, off1 + k * 3 + 2, none⟩ = some (.slice Ad1 x.data.length cd1) ∧ W.cell? ⟨b2, off2 + k * 3, none⟩ = some (.int .i64 y.vol) ∧ W.cell? ⟨b2, off2 + k * 3 + 1, none⟩ = some (.int .i64 y.start) ∧ W.cell? ⟨b2, off2 + k * 3 + 2, none⟩ = some (.slice Ad2 y.data.length cd2))
                (first | (exact hD _ hS1) | (exact hD _ hdr) | assumption | go_keep)
                (first | (go_at_call 71; refine (sameSectors_any _ _ x.data y.data _ S (hd1.below hdr) (hd2.below hdr)).mono ?_; rintro e w1 ⟨rfl, hb1⟩; rw [hq]; have hS1 : Below w.heap.size w w1 := below_then hdr (hsz _ hdr) hb1))
              go_wp2
              go_ret
              exact ⟨ret_bool (decide_eq_false (same_not hx hy (fun e => hd (by rw [e])))).symm, by assumption⟩
          · have t1 : (x.vol != y.vol) = false := by simpa using hv
            have t2 : (x.start != y.start) = true := by simpa using hs
            go_wp2
            go_quiet (fail)
            go_wp2
            go_ret
            exact ⟨ret_bool (decide_eq_false (same_not hx hy (fun e => hs (by rw [e])))).symm, pw_below_drewN hbw _⟩
        · have t1 : (x.vol != y.vol) = true := by simpa using hv
          go_wp2
          go_quiet (fail)
          go_wp2
          go_ret
          exact ⟨ret_bool (decide_eq_false (same_not hx hy (fun e => hv (by rw [e])))).symm, pw_below_drewN hbw _⟩
      · go_wp2
        go_ret
        obtain rfl : k = a.length := by omega
        rw [List.take_length, hl, List.take_length] at hn
        exact ⟨ret_bool (decide_eq_true hn).symm, hbw⟩
  · have t1 : ((a.length : Int) == (b.length : Int)) = false := by simp; omega
    go_enter Try.func43, Try.ntmps43
    go_wp2
    go_ret
    exact ⟨ret_bool (decide_eq_false (fun e => hl (by rw [e]))).symm, Below.refl _ _⟩
theorem same22_any (va vb : Value) (a b : List Wr) (w : World) (S : Nat → Prop) (ha : RWrs w S va a) (hb : RWrs w S vb b) :
    Calls Try.prog 16 #[va, vb] w fun e w' => e = .returned (.bool (decide (a = b))) ∧ Below w.heap.size w w' := by
  go_enter Try.func16, Try.ntmps16
  go_wp2_with (first | (go_at_call 43; refine (sameWrites_any _ _ a b _ S ha hb).mono ?_; rintro e w1 ⟨rfl, hb1⟩))
  go_ret
  exact ⟨rfl, hb1⟩
end Go.Proofs.Ytoifinmcoldidaa
