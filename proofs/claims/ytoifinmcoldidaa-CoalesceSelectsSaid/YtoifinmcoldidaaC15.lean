import Derived.Test.YtoifinmcoldidaaC14
set_option maxRecDepth 100000
set_option linter.unusedVariables false
set_option linter.unusedSimpArgs false
namespace Go.Proofs.Ytoifinmcoldidaa
open Go.RowKit Go.Mm Sb

/-! ### Same -/
theorem same_next {α : Type} {a b : List α} {k : Nat} {x y : α} (hk : a.take k = b.take k) (hx : a[k]? = some x) (hy : b[k]? = some y) (h : x = y) : a.take (k + 1) = b.take (k + 1) := by
  obtain ⟨h1, rfl⟩ := List.getElem?_eq_some_iff.1 hx
  obtain ⟨h2, rfl⟩ := List.getElem?_eq_some_iff.1 hy
  rw [List.take_succ_eq_append_getElem h1, List.take_succ_eq_append_getElem h2, hk, h]
theorem same_not {α : Type} {a b : List α} {k : Nat} {x y : α} (hx : a[k]? = some x) (hy : b[k]? = some y) (h : x ≠ y) : a ≠ b := by
  rintro rfl
  rw [hx] at hy
  injection hy with hy
  exact h hy
set_option maxHeartbeats 2000000 in
theorem sameSectors_any (va vb : Value) (a b : List Sec) (w : World) (S : Nat → Prop) (ha : RSecs w S va a) (hb : RSecs w S vb b) :
    Calls Try.prog 71 #[va, vb] w fun e w' => e = .returned (.bool (decide (a = b))) ∧ Below w.heap.size w w' := by
  obtain ⟨Aa, ca, rfl, ha1, ha2⟩ := ha.val
  obtain ⟨Ab, cb, rfl, hb1, hb2⟩ := hb.val
  unfold maxLen at ha2 hb2
  have hnS := fun x y w => neqS x y w
  simp only [encS_eq] at hnS
  have hgS := guardS
  by_cases hl : a.length = b.length
  · go_enter Try.func71, Try.ntmps71
    go_wp2
    go_loopw [5] (fun i wr => ∃ k : Nat, k ≤ a.length ∧ i = .int .i64 k ∧ a.take k = b.take k ∧ Below w.heap.size w wr) (fun i _ => a.length - (intOf i).toNat)
    case atStart => exact ⟨0, Nat.zero_le _, rfl, rfl, Below.refl _ _⟩
    case round =>
      obtain ⟨k, hk, rfl, hn, hbw⟩ := hrel
      by_cases hlt : k < a.length
      · obtain ⟨x, hx⟩ : ∃ x, a[k]? = some x := ⟨_, List.getElem?_eq_getElem hlt⟩
        obtain ⟨y, hy⟩ : ∃ y, b[k]? = some y := ⟨_, List.getElem?_eq_getElem (by omega)⟩
        obtain ⟨b1, off1, cs1, rfl, hbl1, _, hl1, hc1, hr1⟩ := ha.at_ hx
        obtain ⟨b2, off2, cs2, rfl, hbl2, _, hl2, hc2, hr2⟩ := hb.at_ hy
        obtain rfl : cs1 = secCells x := hr1
        obtain rfl : cs2 = secCells y := hr2
        have c0 := (hbw.cell (p := ⟨b1, off1 + k * 8 + 0, none⟩) hbl1).trans (hc1 0 (by omega))
        have c1 := (hbw.cell (p := ⟨b1, off1 + k * 8 + 1, none⟩) hbl1).trans (hc1 1 (by omega))
        have c2 := (hbw.cell (p := ⟨b1, off1 + k * 8 + 2, none⟩) hbl1).trans (hc1 2 (by omega))
        have c3 := (hbw.cell (p := ⟨b1, off1 + k * 8 + 3, none⟩) hbl1).trans (hc1 3 (by omega))
        have c4 := (hbw.cell (p := ⟨b1, off1 + k * 8 + 4, none⟩) hbl1).trans (hc1 4 (by omega))
        have c5 := (hbw.cell (p := ⟨b1, off1 + k * 8 + 5, none⟩) hbl1).trans (hc1 5 (by omega))
        have c6 := (hbw.cell (p := ⟨b1, off1 + k * 8 + 6, none⟩) hbl1).trans (hc1 6 (by omega))
        have c7 := (hbw.cell (p := ⟨b1, off1 + k * 8 + 7, none⟩) hbl1).trans (hc1 7 (by omega))
        have d0 := (hbw.cell (p := ⟨b2, off2 + k * 8 + 0, none⟩) hbl2).trans (hc2 0 (by omega))
        have d1 := (hbw.cell (p := ⟨b2, off2 + k * 8 + 1, none⟩) hbl2).trans (hc2 1 (by omega))
        have d2 := (hbw.cell (p := ⟨b2, off2 + k * 8 + 2, none⟩) hbl2).trans (hc2 2 (by omega))
        have d3 := (hbw.cell (p := ⟨b2, off2 + k * 8 + 3, none⟩) hbl2).trans (hc2 3 (by omega))
        have d4 := (hbw.cell (p := ⟨b2, off2 + k * 8 + 4, none⟩) hbl2).trans (hc2 4 (by omega))
        have d5 := (hbw.cell (p := ⟨b2, off2 + k * 8 + 5, none⟩) hbl2).trans (hc2 5 (by omega))
        have d6 := (hbw.cell (p := ⟨b2, off2 + k * 8 + 6, none⟩) hbl2).trans (hc2 6 (by omega))
        have d7 := (hbw.cell (p := ⟨b2, off2 + k * 8 + 7, none⟩) hbl2).trans (hc2 7 (by omega))
        clear hc1 hc2 hl1 hl2
        simp [secCells] at c0 c1 c2 c3 c4 c5 c6 c7 d0 d1 d2 d3 d4 d5 d6 d7
        by_cases he : x = y
        · have t1 := decide_eq_true he
          have t2 := hnS x y
          rw [t1] at t2
          have HE := Lib.hid he
          clear he hnS
          go_wp2
          go_quiet (fail)
          go_wp2
          go_roundw
          case rel => exact ⟨k + 1, by omega, by go_num, same_next hn hx hy HE.out, pw_below_drewN hbw _⟩
          case measure => simp [intOf]; omega
        · have t1 := decide_eq_false he
          have t2 := hnS x y
          rw [t1] at t2
          clear hnS
          go_wp2
          go_quiet (fail)
          go_wp2
          go_ret
          exact ⟨ret_bool (decide_eq_false (same_not hx hy he)).symm, pw_below_drewN hbw _⟩
      · go_wp2
        go_ret
        obtain rfl : k = a.length := by omega
        rw [List.take_length, hl, List.take_length] at hn
        exact ⟨ret_bool (decide_eq_true hn).symm, hbw⟩
  · have t1 : ((a.length : Int) == (b.length : Int)) = false := by simp; omega
    go_enter Try.func71, Try.ntmps71
    go_wp2
    go_ret
    exact ⟨ret_bool (decide_eq_false (fun e => hl (by rw [e]))).symm, Below.refl _ _⟩
end Go.Proofs.Ytoifinmcoldidaa
