import Derived.Test.YtoifinmcoldidaaI3
import Derived.Test.YtoifinmcoldidaaC15
set_option maxRecDepth 100000
set_option linter.unusedVariables false
set_option linter.unusedSimpArgs false
namespace Go.Proofs.Ytoifinmcoldidaa
open Go.RowKit Go.Mm Sb

/-! ### image: Same, Few -/
set_option maxHeartbeats 2000000 in
theorem equalS_any (va vb : Value) (a b : List Sec) (w : World) (S : Nat → Prop) (ha : RSecs w S va a) (hb : RSecs w S vb b) :
    Calls Try.prog 67 #[va, vb] w fun e w' => e = .returned (.bool (decide (a = b))) ∧ Below w.heap.size w w' := by
  obtain ⟨Aa, ca, rfl, ha1, ha2⟩ := ha.val
  obtain ⟨Ab, cb, rfl, hb1, hb2⟩ := hb.val
  unfold maxLen at ha2 hb2
  have hnS := fun x y w => neqS x y w
  simp only [encS_eq] at hnS
  have hgS := guardS
  by_cases hl : a.length = b.length
  · go_enter Try.func67, Try.ntmps67
    go_wp2
    go_loopw [13] (fun i wr => ∃ k : Nat, k ≤ a.length ∧ i = .int .i64 k ∧ a.take k = b.take k ∧ Below w.heap.size w wr) (fun i _ => a.length - (intOf i).toNat)
    case atStart => exact ⟨0, Nat.zero_le _, rfl, rfl, Below.refl _ _⟩
    case round =>
      obtain ⟨k, hk, rfl, hn, hbw⟩ := hrel
      by_cases hlt : k < a.length
      · obtain ⟨x, hx⟩ : ∃ x, a[k]? = some x := ⟨_, List.getElem?_eq_getElem hlt⟩
        obtain ⟨y, hy⟩ : ∃ y, b[k]? = some y := ⟨_, List.getElem?_eq_getElem (by omega)⟩
        obtain ⟨b1, off1, cs1, rfl, hbl1, _, hl1, hc1, hr1⟩ := ha.at_ hx
        obtain ⟨b2, off2, cs2, rfl, hbl2, _, hl2, hc2, hr2⟩ := hb.at_ hy
        obtain rfl : cs1 = secCells x := hr1
        obtain rfl : cs2 = secCells y := hr2
        have c0 := (hbw.cell (p := ⟨b1, off1 + k * 8 + 0, none⟩) hbl1).trans (hc1 0 (by omega))
        have c1 := (hbw.cell (p := ⟨b1, off1 + k * 8 + 1, none⟩) hbl1).trans (hc1 1 (by omega))
        have c2 := (hbw.cell (p := ⟨b1, off1 + k * 8 + 2, none⟩) hbl1).trans (hc1 2 (by omega))
        have c3 := (hbw.cell (p := ⟨b1, off1 + k * 8 + 3, none⟩) hbl1).trans (hc1 3 (by omega))
        have c4 := (hbw.cell (p := ⟨b1, off1 + k * 8 + 4, none⟩) hbl1).trans (hc1 4 (by omega))
        have c5 := (hbw.cell (p := ⟨b1, off1 + k * 8 + 5, none⟩) hbl1).trans (hc1 5 (by omega))
        have c6 := (hbw.cell (p := ⟨b1, off1 + k * 8 + 6, none⟩) hbl1).trans (hc1 6 (by omega))
        have c7 := (hbw.cell (p := ⟨b1, off1 + k * 8 + 7, none⟩) hbl1).trans (hc1 7 (by omega))
        have d0 := (hbw.cell (p := ⟨b2, off2 + k * 8 + 0, none⟩) hbl2).trans (hc2 0 (by omega))
        have d1 := (hbw.cell (p := ⟨b2, off2 + k * 8 + 1, none⟩) hbl2).trans (hc2 1 (by omega))
        have d2 := (hbw.cell (p := ⟨b2, off2 + k * 8 + 2, none⟩) hbl2).trans (hc2 2 (by omega))
        have d3 := (hbw.cell (p := ⟨b2, off2 + k * 8 + 3, none⟩) hbl2).trans (hc2 3 (by omega))
        have d4 := (hbw.cell (p := ⟨b2, off2 + k * 8 + 4, none⟩) hbl2).trans (hc2 4 (by omega))
        have d5 := (hbw.cell (p := ⟨b2, off2 + k * 8 + 5, none⟩) hbl2).trans (hc2 5 (by omega))
        have d6 := (hbw.cell (p := ⟨b2, off2 + k * 8 + 6, none⟩) hbl2).trans (hc2 6 (by omega))
        have d7 := (hbw.cell (p := ⟨b2, off2 + k * 8 + 7, none⟩) hbl2).trans (hc2 7 (by omega))
        clear hc1 hc2 hl1 hl2
        simp [secCells] at c0 c1 c2 c3 c4 c5 c6 c7 d0 d1 d2 d3 d4 d5 d6 d7
        by_cases he : x = y
        · have t1 := decide_eq_true he
          have t2 := hnS x y
          rw [t1] at t2
          have HE := Lib.hid he
          clear he hnS
          go_wp2
          go_quiet (fail)
          go_wp2
          go_roundw
          case rel => exact ⟨k + 1, by omega, by go_num, same_next hn hx hy HE.out, pw_below_drewN hbw _⟩
          case measure => simp [intOf]; omega
        · have t1 := decide_eq_false he
          have t2 := hnS x y
          rw [t1] at t2
          clear hnS
          go_wp2
          go_quiet (fail)
          go_wp2
          go_ret
          exact ⟨ret_bool (decide_eq_false (same_not hx hy he)).symm, pw_below_drewN hbw _⟩
      · go_wp2
        go_ret
        obtain rfl : k = a.length := by omega
        rw [List.take_length, hl, List.take_length] at hn
        exact ⟨ret_bool (decide_eq_true hn).symm, hbw⟩
  · have t1 : ((a.length : Int) == (b.length : Int)) = false := by simp; omega
    go_enter Try.func67, Try.ntmps67
    go_wp2
    go_ret
    exact ⟨ret_bool (decide_eq_false (fun e => hl (by rw [e]))).symm, Below.refl _ _⟩

set_option maxHeartbeats 2000000 in
theorem equalV_any (va vb : Value) (a b : List (List Sec)) (w : World) (S : Nat → Prop) (ha : RImg w S va a) (hb : RImg w S vb b) :
    Calls Try.prog 66 #[va, vb, .func (.func 67) #[] #[]] w fun e w' => e = .returned (.bool (decide (a = b))) ∧ Below w.heap.size w w' := by
  obtain ⟨Aa, ca, rfl, ha1, ha2⟩ := ha.val
  obtain ⟨Ab, cb, rfl, hb1, hb2⟩ := hb.val
  unfold maxLen at ha2 hb2
  by_cases hl : a.length = b.length
  · go_enter Try.func66, Try.ntmps66
    go_wp2
    go_loopw [17] (fun i wr => ∃ k : Nat, k ≤ a.length ∧ i = .int .i64 k ∧ a.take k = b.take k ∧ Below w.heap.size w wr) (fun i _ => a.length - (intOf i).toNat)
    case atStart => exact ⟨0, Nat.zero_le _, rfl, rfl, Below.refl _ _⟩
    case round =>
      obtain ⟨k, hk, rfl, hn, hbw⟩ := hrel
      have hbs := hbw.size
      by_cases hlt : k < a.length
      · obtain ⟨x, hx⟩ : ∃ x, a[k]? = some x := ⟨_, List.getElem?_eq_getElem hlt⟩
        obtain ⟨y, hy⟩ : ∃ y, b[k]? = some y := ⟨_, List.getElem?_eq_getElem (by omega)⟩
        obtain ⟨b1, off1, cs1, rfl, hbl1, _, hl1, hc1, dv1, rfl, hd1⟩ := ha.at_ hx
        obtain ⟨b2, off2, cs2, rfl, hbl2, _, hl2, hc2, dv2, rfl, hd2⟩ := hb.at_ hy
        have c0 := (hbw.cell (p := ⟨b1, off1 + k * 1 + 0, none⟩) hbl1).trans (hc1 0 (by omega))
        have d0 := (hbw.cell (p := ⟨b2, off2 + k * 1 + 0, none⟩) hbl2).trans (hc2 0 (by omega))
        clear hc1 hc2 hl1 hl2
        simp at c0 d0
        have e1 := hd1.below hbw
        have e2 := hd2.below hbw
        have HL := Lib.hid hl
        clear hl
        have hlt2 : k < b.length := by rw [← HL.out]; exact hlt
        by_cases he : x = y
        · have t1 := decide_eq_true he
          have HE := Lib.hid he
          clear he
          go_wp2_with (first | (go_at_call 67; refine (equalS_any _ _ x y wr S e1 e2).mono ?_; rintro e w1 ⟨rfl, hb1'⟩; rw [t1]))
          go_roundw
          case rel => exact ⟨k + 1, by omega, by go_num, same_next hn hx hy HE.out, below_then hbw hbs hb1'⟩
          case measure => simp [intOf]; omega
        · have t1 := decide_eq_false he
          go_wp2_with (first | (go_at_call 67; refine (equalS_any _ _ x y wr S e1 e2).mono ?_; rintro e w1 ⟨rfl, hb1'⟩; rw [t1]))
          go_ret
          exact ⟨ret_bool (decide_eq_false (same_not hx hy he)).symm, below_then hbw hbs hb1'⟩
      · go_wp2
        go_ret
        obtain rfl : k = a.length := by omega
        rw [List.take_length, hl, List.take_length] at hn
        exact ⟨ret_bool (decide_eq_true hn).symm, hbw⟩
  · have t1 : ((a.length : Int) == (b.length : Int)) = false := by simp; omega
    go_enter Try.func66, Try.ntmps66
    go_wp2
    go_ret
    exact ⟨ret_bool (decide_eq_false (fun e => hl (by rw [e]))).symm, Below.refl _ _⟩
theorem imgSame_any (va vb : Value) (a b : List (List Sec)) (w : World) (S : Nat → Prop) (ha : RImg w S va a) (hb : RImg w S vb b) :
    Calls Try.prog 35 #[va, vb] w fun e w' => e = .returned (.bool (decide (a = b))) ∧ Below w.heap.size w w' := by
  go_enter Try.func35, Try.ntmps35
  go_wp2_with (first | (go_at_call 66; refine (equalV_any _ _ a b _ S ha hb).mono ?_; rintro e w1 ⟨rfl, hb1⟩))
  go_ret
  exact ⟨rfl, hb1⟩
def FewIm (l : List (List Sec)) : Prop := l.length ≤ 9 ∧ ∀ x ∈ l, x.length ≤ 24
set_option maxHeartbeats 2000000 in
theorem few07_any (v : Value) (l : List (List Sec)) (w : World) (S : Nat → Prop) (h : RImg w S v l) :
    Calls Try.prog 33 #[v] w fun e w' => ∃ q : Bool, e = .returned (.bool q) ∧ (q = true → FewIm l) ∧ Below w.heap.size w w' := by
  obtain ⟨A, cap, rfl, hcap, hm⟩ := h.val
  unfold maxLen at hm
  by_cases h9 : 9 < l.length
  · have t1 := decide_eq_true (show (9 : Int) < (l.length : Int) by omega)
    go_enter Try.func33, Try.ntmps33
    go_wp2
    go_ret
    exact ⟨_, rfl, by simp, Below.refl _ _⟩
  have t1 := decide_eq_false (show ¬ (9 : Int) < (l.length : Int) by omega)
  go_enter Try.func33, Try.ntmps33
  go_wp2
  go_loopw [3] (fun i wr => ∃ k : Nat, k ≤ l.length ∧ i = .int .i64 k ∧ (∀ x ∈ l.take k, x.length ≤ 24) ∧ Below w.heap.size w wr) (fun i _ => l.length - (intOf i).toNat)
  case atStart => exact ⟨0, Nat.zero_le _, rfl, by simp, Below.refl _ _⟩
  case round =>
    obtain ⟨k, hk, rfl, hn, hb⟩ := hrel
    have HN := Lib.hid hn
    clear hn
    by_cases hlt : k < l.length
    · have t2 := decide_eq_true hlt
      obtain ⟨x, hx⟩ : ∃ x, l[k]? = some x := ⟨_, List.getElem?_eq_getElem hlt⟩
      obtain ⟨b, off, cs, rfl, hbl, _, hl, hc, dv, rfl, hd⟩ := h.at_ hx
      obtain ⟨Ad, dcap, rfl, hdc, hdm⟩ := hd.val
      unfold maxLen at hdm
      have c0 := (hb.cell (p := ⟨b, off + k * 1 + 0, none⟩) hbl).trans (hc 0 (by omega))
      simp at c0
      clear hc hl
      have HX := Lib.hid hx
      clear hx
      by_cases h24 : 24 < x.length
      · go_wp2
        go_ret
        exact ⟨_, rfl, by simp, hb⟩
      · go_wp2
        go_roundw
        case rel =>
          refine ⟨k + 1, by omega, by go_num, ?_, hb⟩
          intro y hy
          obtain ⟨hkk, hxx⟩ := List.getElem?_eq_some_iff.1 HX.out
          rw [List.take_succ_eq_append_getElem hkk] at hy
          rcases List.mem_append.1 hy with hy | hy
          · exact HN.out y hy
          · obtain rfl := List.mem_singleton.1 hy; rw [hxx]; omega
        case measure => simp [intOf]; omega
    · obtain rfl : k = l.length := by omega
      go_wp2
      go_ret
      exact ⟨_, rfl, fun _ => ⟨by omega, by have := HN.out; rwa [List.take_length] at this⟩, hb⟩
end Go.Proofs.Ytoifinmcoldidaa
