import Derived.Test.YtoifinmcoldidaaR8
set_option maxRecDepth 100000
set_option linter.unusedVariables false
set_option linter.unusedSimpArgs false
namespace Go.Proofs.Ytoifinmcoldidaa
open Go.RowKit Go.Mm Sb

/-! ### image: sizes -/
def badSize (x : Int) : Bool := decide (x < 1 ∨ 4096 < x)
theorem badFn_any (n : Int) (w : World) (h : In64 n) : Calls Try.prog 92 #[.int .i64 n] w fun e w' => e = .returned (.bool (badSize n)) ∧ w = w' := by
  by_cases h1 : n < 1
  · have t1 := decide_eq_true h1
    go_enter Try.func92, Try.ntmps92
    go_wp2
    go_ret
    exact ⟨ret_bool (by unfold badSize; simp; omega), rfl⟩
  · have t1 := decide_eq_false h1
    go_enter Try.func92, Try.ntmps92
    go_wp2
    go_ret
    exact ⟨ret_bool (by unfold badSize; rw [decide_eq_decide]; omega), rfl⟩
theorem sizesOne_any (l : List Int) : (sizesOne l = if l.any badSize then 2 else 0) := by
  induction l with
  | nil => rfl
  | cons x t ih =>
    rw [List.any_cons]
    unfold sizesOne
    by_cases h : x < 1 ∨ 4096 < x
    · have : badSize x = true := decide_eq_true h
      rw [if_pos h, this]; rfl
    · have : badSize x = false := decide_eq_false h
      rw [if_neg h, ih, this, Bool.false_or]
theorem any_take {p : Int → Bool} {l : List Int} {k : Nat} {x : Int} (hx : l[k]? = some x) : (l.take (k + 1)).any p = ((l.take k).any p || p x) := by
  obtain ⟨hk, rfl⟩ := List.getElem?_eq_some_iff.1 hx
  rw [List.take_succ_eq_append_getElem hk, List.any_append]
  simp
set_option maxHeartbeats 1000000 in
theorem indexBad_any (v : Value) (l : List Int) (w : World) (S : Nat → Prop) (h : RInts w S v l) :
    Calls Try.prog 108 #[v, .func (.func 92) #[] #[]] w fun e w' => ∃ k : Int, e = .returned (.int .i64 k) ∧ (0 ≤ k ↔ l.any badSize = true) ∧ Below w.heap.size w w' := by
  obtain ⟨A, cap, rfl, hcap, hm⟩ := h.val
  unfold maxLen at hm
  go_enter Try.func108, Try.ntmps108
  go_wp2
  go_loopw [8] (fun i wr => ∃ k : Nat, k ≤ l.length ∧ i = .int .i64 k ∧ (l.take k).any badSize = false ∧ Below w.heap.size w wr) (fun i _ => l.length - (intOf i).toNat)
  case atStart => exact ⟨0, Nat.zero_le _, rfl, rfl, Below.refl _ _⟩
  case round =>
    obtain ⟨k, hk, rfl, hn, hb⟩ := hrel
    by_cases hlt : k < l.length
    · obtain ⟨x, hx⟩ : ∃ x, l[k]? = some x := ⟨_, List.getElem?_eq_getElem hlt⟩
      obtain ⟨b, off, cs, rfl, hbl, _, hl, hcc, h1, rfl⟩ := h.at_ hx
      have c0 := (hb.cell (p := ⟨b, off + k * 1 + 0, none⟩) hbl).trans (hcc 0 (by omega))
      simp at c0
      have hbs := hb.size
      clear hcc
      cases hq : badSize x with
      | true =>
        go_wp2_with (first | (go_at_call 92; refine (badFn_any x _ h1).mono ?_; rintro e w1 ⟨rfl, rfl⟩; rw [hq]))
        go_ret
        exact ⟨_, rfl, ⟨fun _ => List.any_eq_true.2 ⟨x, List.mem_of_getElem? hx, hq⟩, fun _ => by omega⟩, hb⟩
      | false =>
        go_wp2_with (first | (go_at_call 92; refine (badFn_any x _ h1).mono ?_; rintro e w1 ⟨rfl, rfl⟩; rw [hq]))
        go_roundw
        case rel => exact ⟨k + 1, by omega, by go_num, by rw [any_take hx, hn, hq]; rfl, hb⟩
        case measure => simp [intOf]; omega
    · go_wp2
      go_ret
      obtain rfl : k = l.length := by omega
      rw [List.take_length] at hn
      exact ⟨_, rfl, ⟨fun h => by omega, fun h => by rw [hn] at h; cases h⟩, hb⟩
theorem containsBad_any (v : Value) (l : List Int) (w : World) (S : Nat → Prop) (h : RInts w S v l) :
    Calls Try.prog 91 #[v, .func (.func 92) #[] #[]] w fun e w' => e = .returned (.bool (l.any badSize)) ∧ Below w.heap.size w w' := by
  go_enter Try.func91, Try.ntmps91
  go_wp2_with (first | (go_at_call 108; refine (indexBad_any v l _ S h).mono ?_; rintro e w1 ⟨k, rfl, hk, hb1⟩; have HK := Lib.hid hk; clear hk))
  go_ret
  exact ⟨ret_bool (by rw [Bool.eq_iff_iff, ← HK.out]; simp), hb1⟩
theorem checkSizes_any (v : Value) (l : List Int) (w : World) (S : Nat → Prop) (h : RInts w S v l) :
    Calls Try.prog 73 #[v] w fun e w' => e = .returned (.int .i64 (sizesI l)) ∧ Below w.heap.size w w' := by
  obtain ⟨A, cap, rfl, hcap, hm⟩ := h.val
  unfold maxLen at hm
  by_cases g1 : l.length < 1
  · have hr : sizesI l = 6 := by unfold sizesI; rw [if_pos (.inl g1)]
    have t1 := decide_eq_true (show (l.length : Int) < 1 by omega)
    go_enter Try.func73, Try.ntmps73
    go_wp2
    go_ret
    exact ⟨ret_int hr.symm, Below.refl _ _⟩
  have t1 := decide_eq_false (show ¬ (l.length : Int) < 1 by omega)
  by_cases g2 : 8 < l.length
  · have hr : sizesI l = 6 := by unfold sizesI; rw [if_pos (.inr g2)]
    have t2 := decide_eq_true (show (8 : Int) < l.length by omega)
    go_enter Try.func73, Try.ntmps73
    go_wp2
    go_ret
    exact ⟨ret_int hr.symm, Below.refl _ _⟩
  have t2 := decide_eq_false (show ¬ (8 : Int) < l.length by omega)
  have hr : sizesI l = sizesOne l := by unfold sizesI; rw [if_neg (by omega)]
  rw [hr, sizesOne_any]
  clear hr
  cases hq : l.any badSize with
  | true =>
    go_enter Try.func73, Try.ntmps73
    go_wp2_with (first | (go_at_call 91; refine (containsBad_any _ l _ S h).mono ?_; rintro e w1 ⟨rfl, hb1⟩; rw [hq]))
    go_ret
    exact ⟨rfl, hb1⟩
  | false =>
    go_enter Try.func73, Try.ntmps73
    go_wp2_with (first | (go_at_call 91; refine (containsBad_any _ l _ S h).mono ?_; rintro e w1 ⟨rfl, hb1⟩; rw [hq]))
    go_ret
    exact ⟨rfl, hb1⟩
end Go.Proofs.Ytoifinmcoldidaa
