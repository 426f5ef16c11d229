import Derived.Test.YtccbbecfmfldbaaQ14
import Derived.Test.YtccbbecfmfldbaaQ17
import Derived.Test.YtccbbecfmfldbaaQ15
set_option maxRecDepth 100000
set_option linter.unusedVariables false
set_option linter.unusedSimpArgs false
namespace Go.Proofs.Ytccbbecfmfldbaa
open Go.RowKit Go.Mm Sb

/-! ### Restrict -/
def resF (l : List Wr) (vol : Int) (keep : List Ext) : SLoc → Option Sec := fun p => if p.1 = vol ∧ memC keep p.2 = true then effP l p else none
def restrictR (l : List Wr) (vol : Int) (keep : List Ext) : List Wr := if chkI plI none l = 0 then canonOf (fun v s => resF l vol keep (v, s)) else []
/-- The part of the effects that has come. -/
def resG (l : List Wr) (vol : Int) (keep : List Ext) (done : List SLoc) : SLoc → Option Sec := fun p => if p ∈ done then resF l vol keep p else none
theorem resG_nil {l : List Wr} {vol : Int} {keep : List Ext} : resG l vol keep [] = fun _ => none := by funext p; simp [resG]
theorem resG_yes {l : List Wr} {vol : Int} {keep : List Ext} {done : List SLoc} {p : SLoc} {y : Sec} (h1 : p.1 = vol) (h2 : memC keep p.2 = true) (hy : effP l p = some y) : upd (resG l vol keep done) p y = resG l vol keep (done ++ [p]) := by
  funext q
  unfold upd resG
  by_cases e : q = p
  · subst e; simp [resF, h1, h2, hy]
  · simp [e]
theorem resG_no {l : List Wr} {vol : Int} {keep : List Ext} {done : List SLoc} {p : SLoc} (h : ¬ (p.1 = vol ∧ memC keep p.2 = true)) : resG l vol keep done = resG l vol keep (done ++ [p]) := by
  funext q
  unfold resG
  by_cases e : q = p
  · subst e; simp [resF, h]
  · simp [e]
theorem resG_all {l : List Wr} {vol : Int} {keep : List Ext} {done : List SLoc} (h : ∀ p, (effP l p).isSome = true → p ∈ done) : resG l vol keep done = resF l vol keep := by
  funext q
  unfold resG
  split
  · rfl
  · rename_i hq
    unfold resF
    split
    · cases he : effP l q with
      | none => rfl
      | some y => exact absurd (h q (by rw [he]; rfl)) hq
    · rfl
theorem resF_bounded {l : List Wr} {vol : Int} {keep : List Ext} (h : AllPlaced l) : Bounded (fun v s => resF l vol keep (v, s)) := fun v s hh => by
  show (if v = vol ∧ memC keep s = true then effP l (v, s) else none) = none
  split
  · exact eff_bounded h v s hh
  · rfl
end Go.Proofs.Ytccbbecfmfldbaa

set_option maxRecDepth 100000
set_option linter.unusedVariables false
set_option linter.unusedSimpArgs false
namespace Go.Proofs.Ytccbbecfmfldbaa
open Go.RowKit Go.Mm Sb

/-! ### write -/
def RByte : ERel Int := fun _ _ cs x => cs = [.int .u8 x]
instance : Steady RByte := ⟨fun h _ => h, fun h _ => h⟩
def sec1 (b : Int) : Sec := ⟨b, 0, 0, 0, 0, 0, 0, 0⟩
theorem RSec.one {w : World} {T : Nat → Prop} {cs : List Value} {x : Sec} (h : RSec w T cs x) : ∀ u ∈ cs, u.oneCell' = true := by
  obtain rfl : cs = secCells x := h
  intro u hu
  simp [secCells] at hu
  rcases hu with rfl | rfl | rfl | rfl | rfl | rfl | rfl | rfl <;> rfl
end Go.Proofs.Ytccbbecfmfldbaa

set_option maxRecDepth 100000
set_option linter.unusedVariables false
set_option linter.unusedSimpArgs false
namespace Go.Proofs.Ytccbbecfmfldbaa
open Go.RowKit Go.Mm Sb

/-! ### Same -/
theorem same_next {α : Type} {a b : List α} {k : Nat} {x y : α} (hk : a.take k = b.take k) (hx : a[k]? = some x) (hy : b[k]? = some y) (h : x = y) : a.take (k + 1) = b.take (k + 1) := by
  obtain ⟨h1, rfl⟩ := List.getElem?_eq_some_iff.1 hx
  obtain ⟨h2, rfl⟩ := List.getElem?_eq_some_iff.1 hy
  rw [List.take_succ_eq_append_getElem h1, List.take_succ_eq_append_getElem h2, hk, h]
theorem same_not {α : Type} {a b : List α} {k : Nat} {x y : α} (hx : a[k]? = some x) (hy : b[k]? = some y) (h : x ≠ y) : a ≠ b := by
  rintro rfl
  rw [hx] at hy
  injection hy with hy
  exact h hy
set_option maxHeartbeats 2000000 in
theorem sameSectors_any (va vb : Value) (a b : List Sec) (w : World) (S : Nat → Prop) (ha : RSecs w S va a) (hb : RSecs w S vb b) :
    Calls Try.prog 108 #[va, vb] w fun e w' => e = .returned (.bool (decide (a = b))) ∧ Below w.heap.size w w' := by
  obtain ⟨Aa, ca, rfl, ha1, ha2⟩ := ha.val
  obtain ⟨Ab, cb, rfl, hb1, hb2⟩ := hb.val
  unfold maxLen at ha2 hb2
  have hnS := fun x y w => neqS x y w
  simp only [encS_eq] at hnS
  have hgS := guardS
  by_cases hl : a.length = b.length
  · go_enter Try.func108, Try.ntmps108
    go_wp2
    go_loopw [5] (fun i wr => ∃ k : Nat, k ≤ a.length ∧ i = .int .i64 k ∧ a.take k = b.take k ∧ Below w.heap.size w wr) (fun i _ => a.length - (intOf i).toNat)
    case atStart => exact ⟨0, Nat.zero_le _, rfl, rfl, Below.refl _ _⟩
    case round =>
      obtain ⟨k, hk, rfl, hn, hbw⟩ := hrel
      by_cases hlt : k < a.length
      · obtain ⟨x, hx⟩ : ∃ x, a[k]? = some x := ⟨_, List.getElem?_eq_getElem hlt⟩
        obtain ⟨y, hy⟩ : ∃ y, b[k]? = some y := ⟨_, List.getElem?_eq_getElem (by omega)⟩
        obtain ⟨b1, off1, cs1, rfl, hbl1, _, hl1, hc1, hr1⟩ := ha.at_ hx
        obtain ⟨b2, off2, cs2, rfl, hbl2, _, hl2, hc2, hr2⟩ := hb.at_ hy
        obtain rfl : cs1 = secCells x := hr1
        obtain rfl : cs2 = secCells y := hr2
        have c0 := (hbw.cell (p := ⟨b1, off1 + k * 8 + 0, none⟩) hbl1).trans (hc1 0 (by omega))
        have c1 := (hbw.cell (p := ⟨b1, off1 + k * 8 + 1, none⟩) hbl1).trans (hc1 1 (by omega))
        have c2 := (hbw.cell (p := ⟨b1, off1 + k * 8 + 2, none⟩) hbl1).trans (hc1 2 (by omega))
        have c3 := (hbw.cell (p := ⟨b1, off1 + k * 8 + 3, none⟩) hbl1).trans (hc1 3 (by omega))
        have c4 := (hbw.cell (p := ⟨b1, off1 + k * 8 + 4, none⟩) hbl1).trans (hc1 4 (by omega))
        have c5 := (hbw.cell (p := ⟨b1, off1 + k * 8 + 5, none⟩) hbl1).trans (hc1 5 (by omega))
        have c6 := (hbw.cell (p := ⟨b1, off1 + k * 8 + 6, none⟩) hbl1).trans (hc1 6 (by omega))
        have c7 := (hbw.cell (p := ⟨b1, off1 + k * 8 + 7, none⟩) hbl1).trans (hc1 7 (by omega))
        have d0 := (hbw.cell (p := ⟨b2, off2 + k * 8 + 0, none⟩) hbl2).trans (hc2 0 (by omega))
        have d1 := (hbw.cell (p := ⟨b2, off2 + k * 8 + 1, none⟩) hbl2).trans (hc2 1 (by omega))
        have d2 := (hbw.cell (p := ⟨b2, off2 + k * 8 + 2, none⟩) hbl2).trans (hc2 2 (by omega))
        have d3 := (hbw.cell (p := ⟨b2, off2 + k * 8 + 3, none⟩) hbl2).trans (hc2 3 (by omega))
        have d4 := (hbw.cell (p := ⟨b2, off2 + k * 8 + 4, none⟩) hbl2).trans (hc2 4 (by omega))
        have d5 := (hbw.cell (p := ⟨b2, off2 + k * 8 + 5, none⟩) hbl2).trans (hc2 5 (by omega))
        have d6 := (hbw.cell (p := ⟨b2, off2 + k * 8 + 6, none⟩) hbl2).trans (hc2 6 (by omega))
        have d7 := (hbw.cell (p := ⟨b2, off2 + k * 8 + 7, none⟩) hbl2).trans (hc2 7 (by omega))
        clear hc1 hc2 hl1 hl2
        simp [secCells] at c0 c1 c2 c3 c4 c5 c6 c7 d0 d1 d2 d3 d4 d5 d6 d7
        by_cases he : x = y
        · have t1 := decide_eq_true he
          have t2 := hnS x y
          rw [t1] at t2
          have HE := Lib.hid he
          clear he hnS
          go_wp2
          go_quiet (fail)
          go_wp2
          go_roundw
          case rel => exact ⟨k + 1, by omega, by go_num, same_next hn hx hy HE.out, pw_below_drewN hbw _⟩
          case measure => simp [intOf]; omega
        · have t1 := decide_eq_false he
          have t2 := hnS x y
          rw [t1] at t2
          clear hnS
          go_wp2
          go_quiet (fail)
          go_wp2
          go_ret
          exact ⟨ret_bool (decide_eq_false (same_not hx hy he)).symm, pw_below_drewN hbw _⟩
      · go_wp2
        go_ret
        obtain rfl : k = a.length := by omega
        rw [List.take_length, hl, List.take_length] at hn
        exact ⟨ret_bool (decide_eq_true hn).symm, hbw⟩
  · have t1 : ((a.length : Int) == (b.length : Int)) = false := by simp; omega
    go_enter Try.func108, Try.ntmps108
    go_wp2
    go_ret
    exact ⟨ret_bool (decide_eq_false (fun e => hl (by rw [e]))).symm, Below.refl _ _⟩
end Go.Proofs.Ytccbbecfmfldbaa

set_option maxRecDepth 100000
set_option linter.unusedVariables false
set_option linter.unusedSimpArgs false
namespace Go.Proofs.Ytccbbecfmfldbaa
open Go.RowKit Go.Mm Sb

/-! ### image: Same, Few -/
set_option maxHeartbeats 2000000 in
theorem equalS_any (va vb : Value) (a b : List Sec) (w : World) (S : Nat → Prop) (ha : RSecs w S va a) (hb : RSecs w S vb b) :
    Calls Try.prog 80 #[va, vb] w fun e w' => e = .returned (.bool (decide (a = b))) ∧ Below w.heap.size w w' := by
  obtain ⟨Aa, ca, rfl, ha1, ha2⟩ := ha.val
  obtain ⟨Ab, cb, rfl, hb1, hb2⟩ := hb.val
  unfold maxLen at ha2 hb2
  have hnS := fun x y w => neqS x y w
  simp only [encS_eq] at hnS
  have hgS := guardS
  by_cases hl : a.length = b.length
  · go_enter Try.func80, Try.ntmps80
    go_wp2
    go_loopw [13] (fun i wr => ∃ k : Nat, k ≤ a.length ∧ i = .int .i64 k ∧ a.take k = b.take k ∧ Below w.heap.size w wr) (fun i _ => a.length - (intOf i).toNat)
    case atStart => exact ⟨0, Nat.zero_le _, rfl, rfl, Below.refl _ _⟩
    case round =>
      obtain ⟨k, hk, rfl, hn, hbw⟩ := hrel
      by_cases hlt : k < a.length
      · obtain ⟨x, hx⟩ : ∃ x, a[k]? = some x := ⟨_, List.getElem?_eq_getElem hlt⟩
        obtain ⟨y, hy⟩ : ∃ y, b[k]? = some y := ⟨_, List.getElem?_eq_getElem (by omega)⟩
        obtain ⟨b1, off1, cs1, rfl, hbl1, _, hl1, hc1, hr1⟩ := ha.at_ hx
        obtain ⟨b2, off2, cs2, rfl, hbl2, _, hl2, hc2, hr2⟩ := hb.at_ hy
        obtain rfl : cs1 = secCells x := hr1
        obtain rfl : cs2 = secCells y := hr2
        have c0 := (hbw.cell (p := ⟨b1, off1 + k * 8 + 0, none⟩) hbl1).trans (hc1 0 (by omega))
        have c1 := (hbw.cell (p := ⟨b1, off1 + k * 8 + 1, none⟩) hbl1).trans (hc1 1 (by omega))
        have c2 := (hbw.cell (p := ⟨b1, off1 + k * 8 + 2, none⟩) hbl1).trans (hc1 2 (by omega))
        have c3 := (hbw.cell (p := ⟨b1, off1 + k * 8 + 3, none⟩) hbl1).trans (hc1 3 (by omega))
        have c4 := (hbw.cell (p := ⟨b1, off1 + k * 8 + 4, none⟩) hbl1).trans (hc1 4 (by omega))
        have c5 := (hbw.cell (p := ⟨b1, off1 + k * 8 + 5, none⟩) hbl1).trans (hc1 5 (by omega))
        have c6 := (hbw.cell (p := ⟨b1, off1 + k * 8 + 6, none⟩) hbl1).trans (hc1 6 (by omega))
        have c7 := (hbw.cell (p := ⟨b1, off1 + k * 8 + 7, none⟩) hbl1).trans (hc1 7 (by omega))
        have d0 := (hbw.cell (p := ⟨b2, off2 + k * 8 + 0, none⟩) hbl2).trans (hc2 0 (by omega))
        have d1 := (hbw.cell (p := ⟨b2, off2 + k * 8 + 1, none⟩) hbl2).trans (hc2 1 (by omega))
        have d2 := (hbw.cell (p := ⟨b2, off2 + k * 8 + 2, none⟩) hbl2).trans (hc2 2 (by omega))
        have d3 := (hbw.cell (p := ⟨b2, off2 + k * 8 + 3, none⟩) hbl2).trans (hc2 3 (by omega))
        have d4 := (hbw.cell (p := ⟨b2, off2 + k * 8 + 4, none⟩) hbl2).trans (hc2 4 (by omega))
        have d5 := (hbw.cell (p := ⟨b2, off2 + k * 8 + 5, none⟩) hbl2).trans (hc2 5 (by omega))
        have d6 := (hbw.cell (p := ⟨b2, off2 + k * 8 + 6, none⟩) hbl2).trans (hc2 6 (by omega))
        have d7 := (hbw.cell (p := ⟨b2, off2 + k * 8 + 7, none⟩) hbl2).trans (hc2 7 (by omega))
        clear hc1 hc2 hl1 hl2
        simp [secCells] at c0 c1 c2 c3 c4 c5 c6 c7 d0 d1 d2 d3 d4 d5 d6 d7
        by_cases he : x = y
        · have t1 := decide_eq_true he
          have t2 := hnS x y
          rw [t1] at t2
          have HE := Lib.hid he
          clear he hnS
          go_wp2
          go_quiet (fail)
          go_wp2
          go_roundw
          case rel => exact ⟨k + 1, by omega, by go_num, same_next hn hx hy HE.out, pw_below_drewN hbw _⟩
          case measure => simp [intOf]; omega
        · have t1 := decide_eq_false he
          have t2 := hnS x y
          rw [t1] at t2
          clear hnS
          go_wp2
          go_quiet (fail)
          go_wp2
          go_ret
          exact ⟨ret_bool (decide_eq_false (same_not hx hy he)).symm, pw_below_drewN hbw _⟩
      · go_wp2
        go_ret
        obtain rfl : k = a.length := by omega
        rw [List.take_length, hl, List.take_length] at hn
        exact ⟨ret_bool (decide_eq_true hn).symm, hbw⟩
  · have t1 : ((a.length : Int) == (b.length : Int)) = false := by simp; omega
    go_enter Try.func80, Try.ntmps80
    go_wp2
    go_ret
    exact ⟨ret_bool (decide_eq_false (fun e => hl (by rw [e]))).symm, Below.refl _ _⟩

set_option maxHeartbeats 2000000 in
theorem equalV_any (va vb : Value) (a b : List (List Sec)) (w : World) (S : Nat → Prop) (ha : RImg w S va a) (hb : RImg w S vb b) :
    Calls Try.prog 79 #[va, vb, .func (.func 80) #[] #[]] w fun e w' => e = .returned (.bool (decide (a = b))) ∧ Below w.heap.size w w' := by
  obtain ⟨Aa, ca, rfl, ha1, ha2⟩ := ha.val
  obtain ⟨Ab, cb, rfl, hb1, hb2⟩ := hb.val
  unfold maxLen at ha2 hb2
  by_cases hl : a.length = b.length
  · go_enter Try.func79, Try.ntmps79
    go_wp2
    go_loopw [17] (fun i wr => ∃ k : Nat, k ≤ a.length ∧ i = .int .i64 k ∧ a.take k = b.take k ∧ Below w.heap.size w wr) (fun i _ => a.length - (intOf i).toNat)
    case atStart => exact ⟨0, Nat.zero_le _, rfl, rfl, Below.refl _ _⟩
    case round =>
      obtain ⟨k, hk, rfl, hn, hbw⟩ := hrel
      have hbs := hbw.size
      by_cases hlt : k < a.length
      · obtain ⟨x, hx⟩ : ∃ x, a[k]? = some x := ⟨_, List.getElem?_eq_getElem hlt⟩
        obtain ⟨y, hy⟩ : ∃ y, b[k]? = some y := ⟨_, List.getElem?_eq_getElem (by omega)⟩
        obtain ⟨b1, off1, cs1, rfl, hbl1, _, hl1, hc1, dv1, rfl, hd1⟩ := ha.at_ hx
        obtain ⟨b2, off2, cs2, rfl, hbl2, _, hl2, hc2, dv2, rfl, hd2⟩ := hb.at_ hy
        have c0 := (hbw.cell (p := ⟨b1, off1 + k * 1 + 0, none⟩) hbl1).trans (hc1 0 (by omega))
        have d0 := (hbw.cell (p := ⟨b2, off2 + k * 1 + 0, none⟩) hbl2).trans (hc2 0 (by omega))
        clear hc1 hc2 hl1 hl2
        simp at c0 d0
        have e1 := hd1.below hbw
        have e2 := hd2.below hbw
        have HL := Lib.hid hl
        clear hl
        have hlt2 : k < b.length := by rw [← HL.out]; exact hlt
        by_cases he : x = y
        · have t1 := decide_eq_true he
          have HE := Lib.hid he
          clear he
          go_wp2_with (first | (go_at_call 80; refine (equalS_any _ _ x y wr S e1 e2).mono ?_; rintro e w1 ⟨rfl, hb1'⟩; rw [t1]))
          go_roundw
          case rel => exact ⟨k + 1, by omega, by go_num, same_next hn hx hy HE.out, below_then hbw hbs hb1'⟩
          case measure => simp [intOf]; omega
        · have t1 := decide_eq_false he
          go_wp2_with (first | (go_at_call 80; refine (equalS_any _ _ x y wr S e1 e2).mono ?_; rintro e w1 ⟨rfl, hb1'⟩; rw [t1]))
          go_ret
          exact ⟨ret_bool (decide_eq_false (same_not hx hy he)).symm, below_then hbw hbs hb1'⟩
      · go_wp2
        go_ret
        obtain rfl : k = a.length := by omega
        rw [List.take_length, hl, List.take_length] at hn
        exact ⟨ret_bool (decide_eq_true hn).symm, hbw⟩
  · have t1 : ((a.length : Int) == (b.length : Int)) = false := by simp; omega
    go_enter Try.func79, Try.ntmps79
    go_wp2
    go_ret
    exact ⟨ret_bool (decide_eq_false (fun e => hl (by rw [e]))).symm, Below.refl _ _⟩
theorem imgSame_any (va vb : Value) (a b : List (List Sec)) (w : World) (S : Nat → Prop) (ha : RImg w S va a) (hb : RImg w S vb b) :
    Calls Try.prog 44 #[va, vb] w fun e w' => e = .returned (.bool (decide (a = b))) ∧ Below w.heap.size w w' := by
  go_enter Try.func44, Try.ntmps44
  go_wp2_with (first | (go_at_call 79; refine (equalV_any _ _ a b _ S ha hb).mono ?_; rintro e w1 ⟨rfl, hb1⟩))
  go_ret
  exact ⟨rfl, hb1⟩
def FewIm (l : List (List Sec)) : Prop := l.length ≤ 9 ∧ ∀ x ∈ l, x.length ≤ 24
set_option maxHeartbeats 2000000 in
theorem few07_any (v : Value) (l : List (List Sec)) (w : World) (S : Nat → Prop) (h : RImg w S v l) :
    Calls Try.prog 48 #[v] w fun e w' => ∃ q : Bool, e = .returned (.bool q) ∧ (q = true → FewIm l) ∧ Below w.heap.size w w' := by
  obtain ⟨A, cap, rfl, hcap, hm⟩ := h.val
  unfold maxLen at hm
  by_cases h9 : 9 < l.length
  · have t1 := decide_eq_true (show (9 : Int) < (l.length : Int) by omega)
    go_enter Try.func48, Try.ntmps48
    go_wp2
    go_ret
    exact ⟨_, rfl, by simp, Below.refl _ _⟩
  have t1 := decide_eq_false (show ¬ (9 : Int) < (l.length : Int) by omega)
  go_enter Try.func48, Try.ntmps48
  go_wp2
  go_loopw [3] (fun i wr => ∃ k : Nat, k ≤ l.length ∧ i = .int .i64 k ∧ (∀ x ∈ l.take k, x.length ≤ 24) ∧ Below w.heap.size w wr) (fun i _ => l.length - (intOf i).toNat)
  case atStart => exact ⟨0, Nat.zero_le _, rfl, by simp, Below.refl _ _⟩
  case round =>
    obtain ⟨k, hk, rfl, hn, hb⟩ := hrel
    have HN := Lib.hid hn
    clear hn
    by_cases hlt : k < l.length
    · have t2 := decide_eq_true hlt
      obtain ⟨x, hx⟩ : ∃ x, l[k]? = some x := ⟨_, List.getElem?_eq_getElem hlt⟩
      obtain ⟨b, off, cs, rfl, hbl, _, hl, hc, dv, rfl, hd⟩ := h.at_ hx
      obtain ⟨Ad, dcap, rfl, hdc, hdm⟩ := hd.val
      unfold maxLen at hdm
      have c0 := (hb.cell (p := ⟨b, off + k * 1 + 0, none⟩) hbl).trans (hc 0 (by omega))
      simp at c0
      clear hc hl
      have HX := Lib.hid hx
      clear hx
      by_cases h24 : 24 < x.length
      · go_wp2
        go_ret
        exact ⟨_, rfl, by simp, hb⟩
      · go_wp2
        go_roundw
        case rel =>
          refine ⟨k + 1, by omega, by go_num, ?_, hb⟩
          intro y hy
          obtain ⟨hkk, hxx⟩ := List.getElem?_eq_some_iff.1 HX.out
          rw [List.take_succ_eq_append_getElem hkk] at hy
          rcases List.mem_append.1 hy with hy | hy
          · exact HN.out y hy
          · obtain rfl := List.mem_singleton.1 hy; rw [hxx]; omega
        case measure => simp [intOf]; omega
    · obtain rfl : k = l.length := by omega
      go_wp2
      go_ret
      exact ⟨_, rfl, fun _ => ⟨by omega, by have := HN.out; rwa [List.take_length] at this⟩, hb⟩
end Go.Proofs.Ytccbbecfmfldbaa

set_option linter.unusedVariables false
set_option linter.unusedSimpArgs false
namespace Go.Mm
open Go.RowKit Sb

/-! ### an element of three cells is written anew -/
theorem flatten_set3 {css : List (List Value)} (h : ∀ cs ∈ css, cs.length = 3) {j : Nat} (hj : j < css.length) (u0 u1 u2 : Value) :
    (css.set j [u0, u1, u2]).flatten = ((css.flatten.set (j * 3 + 0) u0).set (j * 3 + 1) u1).set (j * 3 + 2) u2 := by
  obtain ⟨cs, hcs⟩ : ∃ cs, css[j]? = some cs := ⟨_, List.getElem?_eq_getElem hj⟩
  have hm : ∀ (d : List Value), d.length = 3 → ∀ x ∈ css.set j d, x.length = 3 := fun d hd x hx => by
    rcases List.mem_or_eq_of_mem_set hx with hx | rfl
    · exact h x hx
    · exact hd
  have hl := h cs (List.mem_of_getElem? hcs)
  have e1 := flatten_set h hcs 0 (by omega) u0
  have h1 : (css.set j (cs.set 0 u0))[j]? = some (cs.set 0 u0) := by simp [hj]
  have e2 := flatten_set (hm _ (by simpa using hl)) h1 1 (by omega) u1
  have h2 : ((css.set j (cs.set 0 u0)).set j ((cs.set 0 u0).set 1 u1))[j]? = some ((cs.set 0 u0).set 1 u1) := by simp [hj]
  have e3 := flatten_set (css := (css.set j (cs.set 0 u0)).set j ((cs.set 0 u0).set 1 u1)) (by rw [List.set_set]; exact hm _ (by simpa using hl)) h2 2 (by omega) u2
  rw [e2, e1] at e3
  rw [← e3, List.set_set, List.set_set]
  congr 2
  match cs, hl with
  | [_, _, _], _ => rfl
theorem OwnSl.set3 {α : Type} {R : ERel α} [st : Steady R] {e : TypeId} {w : World} {base : Nat} {S : Nat → Prop} {g n cap : Nat} {xs : List α}
    (h : OwnSl e 3 R w base S (.slice (some ⟨g, 0, none⟩) n cap) xs) {j : Nat} (hj : j < xs.length) {x' : α} {u0 u1 u2 : Value} (hR : R w (fun b => S b ∧ some b ≠ some g) [u0, u1, u2] x') :
    OwnSl e 3 R (((w.setCell ⟨g, j * 3, none⟩ u0).setCell ⟨g, j * 3 + 1, none⟩ u1).setCell ⟨g, j * 3 + 2, none⟩ u2) base S (.slice (some ⟨g, 0, none⟩) n cap) (xs.set j x') ∧
      w.grownBy (((w.setCell ⟨g, j * 3, none⟩ u0).setCell ⟨g, j * 3 + 1, none⟩ u1).setCell ⟨g, j * 3 + 2, none⟩ u2) (some g) := by
  obtain ⟨c, o1, o2, o3, o4⟩ := h
  obtain rfl : n = xs.length := by
    rcases o1.2 with ⟨hv, _⟩ | ⟨g', cap', cur, hv, _⟩
    · cases hv
    · injection hv
  have s1 := o1.stored (j * 3) u0
  have s2 := s1.1.stored (j * 3 + 1) u1
  have s3 := s2.1.stored (j * 3 + 2) u2
  have hg : w.grownBy (((w.setCell ⟨g, j * 3, none⟩ u0).setCell ⟨g, j * 3 + 1, none⟩ u1).setCell ⟨g, j * 3 + 2, none⟩ u2) (some g) :=
    (s1.2.andThen s2.2 (fun j e => .inr e)).andThen s3.2 (fun j e => .inr e)
  have hkeep : ∀ {cs' : List Value} {x : α}, R w (fun b => S b ∧ some b ≠ some g) cs' x → R (((w.setCell ⟨g, j * 3, none⟩ u0).setCell ⟨g, j * 3 + 1, none⟩ u1).setCell ⟨g, j * 3 + 2, none⟩ u2) (fun b => S b ∧ some b ≠ some g) cs' x :=
    fun hr => st.keep hr fun b hb ⟨_, hne⟩ => hg.block b hb hne
  refine ⟨⟨c.set j [u0, u1, u2], ?_, by simpa using o2, ?_, ?_⟩, hg⟩
  · rw [flatten_set3 o3 (by omega)]
    simpa using s3.1
  · intro cs hcs
    rcases List.mem_or_eq_of_mem_set hcs with hcs | rfl
    · exact o3 cs hcs
    · rfl
  · intro m cs x hm hx
    rw [List.getElem?_set] at hm hx
    by_cases hjm : j = m
    · subst hjm
      rw [if_pos rfl, if_pos (by omega)] at hm
      rw [if_pos rfl, if_pos hj] at hx
      injection hm with hm; injection hx with hx
      subst hm; subst hx
      exact hkeep hR
    · rw [if_neg hjm] at hm hx
      exact hkeep (o4 m cs x hm hx)
theorem own_ptr {e : TypeId} {k : Nat} {α : Type} {R : ERel α} {w : World} {base : Nat} {S : Nat → Prop} {v : Value} {xs : List α} (h : OwnSl e k R w base S v xs) (hne : xs ≠ []) :
    ∃ g cap, v = .slice (some ⟨g, 0, none⟩) xs.length cap ∧ base ≤ g ∧ g < w.heap.size ∧ xs.length ≤ cap ∧ cap ≤ maxLen ∧ ∀ j, w.frozen? ⟨g, j, none⟩ = false := by
  obtain ⟨c, h1, _⟩ := h
  rcases h1.2 with ⟨_, h0⟩ | ⟨g, cap, cur, hv, hbg, hg, hn, hm, _⟩
  · exact absurd (List.eq_nil_of_length_eq_zero h0) hne
  · exact ⟨g, cap, hv, hbg, (Array.getElem?_eq_some_iff.1 hg).1, hn, hm, fun j => by simp [World.frozen?, hg]⟩
end Go.Mm
