import Derived.Test.YtoifinmcoldidaaI2
set_option maxRecDepth 100000
set_option linter.unusedVariables false
set_option linter.unusedSimpArgs false
namespace Go.Proofs.Ytoifinmcoldidaa
open Go.RowKit Go.Mm Sb

/-! ### image: Check, fits, Fits -/
theorem lenFn_any (A : Option Addr) (n cap : Nat) (w : World) : Calls Try.prog 96 #[.slice A n cap] w fun e w' => e = .returned (.int .i64 n) ∧ w = w' := by
  go_enter Try.func96, Try.ntmps96
  go_wp2
  go_ret
  exact ⟨rfl, rfl⟩
set_option maxHeartbeats 4000000 in
theorem mappedLen_any (v : Value) (l : List (List Sec)) (w : World) (S : Nat → Prop) (h : RImg w S v l) (hl : l.length ≤ 100000) :
    Calls Try.prog 95 #[v, .func (.func 96) #[] #[]] w fun e w' => ∃ v', e = .returned v' ∧ RInts w' (fun b => w.heap.size ≤ b) v' (lens l) ∧ Below w.heap.size w w' := by
  obtain ⟨A, cap, rfl, hcap, hm⟩ := h.val
  unfold maxLen at hm
  obtain ⟨i0, hi, hz0, hz1, hz2⟩ := info_parts infoI
  unfold lens
  go_enter Try.func95, Try.ntmps95
  go_wp2_with (first | (refine wpList_make_own _ rfl _ _ 38 rfl w.heap.size 3 i0 _ 1 Try.underlying38 hi hz0 hz1 .i64 .i64 (l.length : Int) l.length rfl rfl rfl (by rw [hz2]; omega) (by unfold maxLen; omega) (Nat.le_refl _) ?_; intro w0 r1 r2))
  have hB0 : Below w.heap.size w w0 := ⟨r2.os, r2.tape, r2.output, r2.size, fun i hi => r2.block i hi (by simp)⟩
  have hO0 : OwnSl 3 1 RInt w0 w.heap.size (fun _ => False) (.slice (some ⟨w.heap.size, 0, none⟩) 0 l.length) [] := ⟨[], r1, rfl, by simp, by simp⟩
  clear r1 r2
  go_loopw [5, 13] (fun s i wr => ∃ k : Nat, k ≤ l.length ∧ i = .int .i64 k ∧ OwnSl 3 1 RInt wr w.heap.size (fun _ => False) s ((l.take k).map fun x => (x.length : Int)) ∧ Below w.heap.size w wr) (fun _ i _ => l.length - (intOf i).toNat)
  case atStart => exact ⟨0, Nat.zero_le _, rfl, hO0, hB0⟩
  case round =>
    clear hO0 hB0
    obtain ⟨k, hk, rfl, hown, hb⟩ := hrel
    have hbs := hb.size
    by_cases hlt : k < l.length
    · obtain ⟨x, hx⟩ : ∃ x, l[k]? = some x := ⟨_, List.getElem?_eq_getElem hlt⟩
      obtain ⟨b, off, cs, rfl, hbl, _, hll, hcc, dv, rfl, hd⟩ := h.at_ hx
      obtain ⟨Ad, dcap, rfl, hdc, hdm⟩ := hd.val
      unfold maxLen at hdm
      have c0 := (hb.cell (p := ⟨b, off + k * 1 + 0, none⟩) hbl).trans (hcc 0 (by omega))
      simp at c0
      clear hcc hll
      have hul := hown.lt
      have htl := take_len (fun x : List Sec => (x.length : Int)) hk
      have HX := Lib.hid hx
      clear hx
      go_wp2_with (first | (go_at_call 96; refine (lenFn_any Ad x.length dcap wr).mono ?_; rintro e w1 ⟨rfl, rfl⟩) | (at_builtin; refine wpList_appendNew rfl _ _ 38 rfl 3 _ 1 8 Try.underlying38 infoI rfl (by omega) RInt w.heap.size (fun _ => False) u5 _ rfl hown #[.int .i64 x.length] (x.length : Int) wr.heap.size rfl rfl rfl (by simp [Value.oneCell']) ⟨by unfold In64; omega, rfl⟩ (by rw [htl]; omega) (by omega) (by omega) ?_; intro v5 w5 hO5 hg5 hat5))
      go_roundw
      case rel => exact ⟨k + 1, by omega, by go_num, by rw [map_take (fun x : List Sec => (x.length : Int)) HX.out]; exact hO5, hb.grown hg5 hbs (fun j e => (hul j e).1)⟩
      case measure => simp [intOf]; omega
    · obtain rfl : k = l.length := by omega
      rw [List.take_length] at hown
      go_wp2
      go_ret
      exact ⟨_, rfl, hown.reads (fun b hb hh => by rcases hh with hh | hh; exact hh.elim; exact (hown.lt b hh.symm).1), hb⟩
theorem imgSizes_any (v : Value) (l : List (List Sec)) (w : World) (S : Nat → Prop) (h : RImg w S v l) (hl : l.length ≤ 100000) :
    Calls Try.prog 84 #[v] w fun e w' => ∃ v', e = .returned v' ∧ RInts w' (fun b => w.heap.size ≤ b) v' (lens l) ∧ Below w.heap.size w w' := by
  go_enter Try.func84, Try.ntmps84
  go_wp2_with (first | (go_at_call 95; refine (mappedLen_any v l _ S h hl).mono ?_; rintro e w1 ⟨v1, rfl, hv1, hb1⟩))
  go_ret
  exact ⟨_, rfl, hv1, hb1⟩
theorem imgCheck_any (v : Value) (l : List (List Sec)) (w : World) (S : Nat → Prop) (h : RImg w S v l) (hl : l.length ≤ 100000) :
    Calls Try.prog 63 #[v] w fun e w' => e = .returned (.int .i64 (sizesI (lens l))) ∧ Below w.heap.size w w' := by
  go_enter Try.func63, Try.ntmps63
  go_wp2_with (first | (go_at_call 84; refine (imgSizes_any v l _ S h hl).mono ?_; rintro e w1 ⟨v1, rfl, hv1, hb1⟩) | (go_at_call 73; refine (checkSizes_any v1 (lens l) _ _ hv1).mono ?_; rintro e w2 ⟨rfl, hb2⟩))
  go_ret
  exact ⟨rfl, below_then hb1 hb1.size hb2⟩
theorem fitsI_if {sizes : List Int} {a b : Int} {n : Nat} (h1 : ¬ (a < 0 ∨ (sizes.length : Int) ≤ a)) (h2 : n ≠ 0) : fitsI sizes a b n = if b < 0 ∨ sizes.getD a.toNat 0 - n < b then 2 else 0 := by
  unfold fitsI
  rw [if_neg h1, if_neg h2]
  by_cases h : b < 0 ∨ sizes.getD a.toNat 0 - n < b
  · rw [if_pos h, if_pos (by omega)]
  · rw [if_neg h, if_neg (by omega)]
set_option maxHeartbeats 2000000 in
theorem imgFits_any (v : Value) (l : List (List Sec)) (a b : Int) (A : Option Addr) (n cap : Nat) (w : World) (S : Nat → Prop) (hs : RImg w S v l) (hn : n ≤ 9223372036854775807) (hb : In64 b) :
    Calls Try.prog 65 #[v, .agg #[.int .i64 a, .int .i64 b, .slice A n cap]] w fun e w' => e = .returned (.int .i64 (fitsI (lens l) a b n)) ∧ Below w.heap.size w w' := by
  obtain ⟨A', cap', rfl, hc1, hc2⟩ := hs.val
  unfold maxLen at hc2
  obtain ⟨hb1, hb2⟩ := hb
  have hll : (lens l).length = l.length := by simp [lens]
  by_cases h1 : a < 0
  · have hr : fitsI (lens l) a b n = 7 := by unfold fitsI; rw [if_pos (.inl h1)]
    rw [hr]
    go_enter Try.func65, Try.ntmps65
    go_wp2
    go_ret
    exact ⟨rfl, ((Below.refl _ _).alloc (Nat.le_refl _) _)⟩
  by_cases h2 : (l.length : Int) ≤ a
  · have hr : fitsI (lens l) a b n = 7 := by unfold fitsI; rw [if_pos (.inr (by rw [hll]; exact h2))]
    rw [hr]
    go_enter Try.func65, Try.ntmps65
    go_wp2
    go_ret
    exact ⟨rfl, ((Below.refl _ _).alloc (Nat.le_refl _) _)⟩
  have hnr : ¬ (a < 0 ∨ ((lens l).length : Int) ≤ a) := by rw [hll]; omega
  by_cases h3 : n = 0
  · have hr : fitsI (lens l) a b n = 1 := by unfold fitsI; rw [if_neg hnr, if_pos h3]
    rw [hr]
    subst h3
    go_enter Try.func65, Try.ntmps65
    go_wp2
    go_ret
    exact ⟨rfl, ((Below.refl _ _).alloc (Nat.le_refl _) _)⟩
  have h3' : ((n : Int) == 0) = false := by simp; omega
  rw [fitsI_if hnr h3]
  obtain ⟨j, rfl⟩ := Int.eq_ofNat_of_zero_le (show 0 ≤ a by omega)
  have hj : j < l.length := by omega
  obtain ⟨bb, off, cs, rfl, hbl, _, hl, hc, dv, rfl, hd⟩ := hs.at_ (List.getElem?_eq_getElem hj)
  obtain ⟨Ad, dcap, rfl, hdc, hdm⟩ := hd.val
  unfold maxLen at hdm
  have e0 : (lens l).getD (j : Int).toNat 0 = (l[j].length : Int) := by simp [lens, List.getD_eq_getElem?_getD, hj]
  rw [e0]
  have c0 := hc 0 (by omega)
  simp at c0
  clear e0 hc hd hll hnr hl
  generalize l[j].length = z at *
  by_cases h4 : b < 0
  · have hd := decide_eq_true h4
    rw [if_pos (.inl h4)]
    go_enter Try.func65, Try.ntmps65
    go_wp2
    go_quiet (fail)
    go_wp2
    go_ret
    exact ⟨rfl, pw_below_drewN ((Below.refl _ _).alloc (Nat.le_refl _) _) _⟩
  have hd4 := decide_eq_false h4
  by_cases h5 : (z : Int) - n < b
  · have hd := decide_eq_true h5
    rw [if_pos (.inr h5)]
    go_enter Try.func65, Try.ntmps65
    go_wp2
    go_quiet (fail)
    go_wp2
    go_ret
    exact ⟨rfl, pw_below_drewN ((Below.refl _ _).alloc (Nat.le_refl _) _) _⟩
  · have hd := decide_eq_false h5
    rw [if_neg (by omega)]
    go_enter Try.func65, Try.ntmps65
    go_wp2
    go_quiet (fail)
    go_wp2
    go_ret
    exact ⟨rfl, pw_below_drewN ((Below.refl _ _).alloc (Nat.le_refl _) _) _⟩
/-- the error of a write for an image -/
def fitIm (l : List (List Sec)) (a b : Int) (n : Nat) : Int := if sizesI (lens l) = 0 then fitsI (lens l) a b n else sizesI (lens l)
theorem imgFitsX_any (v : Value) (l : List (List Sec)) (a b : Int) (A : Option Addr) (n cap : Nat) (w : World) (S : Nat → Prop) (hs : RImg w S v l) (hl : l.length ≤ 100000) (hn : n ≤ 9223372036854775807) (hb : In64 b) :
    Calls Try.prog 48 #[v, .agg #[.int .i64 a, .int .i64 b, .slice A n cap]] w fun e w' => e = .returned (.int .i64 (fitIm l a b n)) ∧ Below w.heap.size w w' := by
  have hA := ((Below.refl w.heap.size w).alloc (Nat.le_refl _) (.cells #[.int .i64 a, .int .i64 b, .slice A n cap] 35))
  have hs1 := hs.below hA
  have hk := Blk.new w 35 #[.int .i64 a, .int .i64 b, .slice A n cap]
  by_cases hz : sizesI (lens l) = 0
  · have hr : fitIm l a b n = fitsI (lens l) a b n := by unfold fitIm; rw [if_pos hz]
    rw [hr]
    clear hr
    go_enter Try.func48, Try.ntmps48
    go_wp2_with (first | (go_at_call 63; refine (imgCheck_any v l _ S hs1 hl).mono ?_; rintro e w1 ⟨rfl, hb1⟩; rw [hz]; obtain ⟨q0, q1, q2, q3, q4, q5⟩ := (hk.below hb1).three; have hs2 := hs1.below hb1) | (go_at_call 65; refine (imgFits_any v l a b A n cap _ S hs2 hn hb).mono ?_; rintro e w2 ⟨rfl, hb2⟩))
    go_ret
    exact ⟨rfl, below_then (below_then hA hA.size hb1) (by have := hb1.size; have := hA.size; omega) hb2⟩
  · have hr : fitIm l a b n = sizesI (lens l) := by unfold fitIm; rw [if_neg hz]
    have hz' : (sizesI (lens l) != 0) = true := by simpa using hz
    rw [hr]
    clear hr
    go_enter Try.func48, Try.ntmps48
    go_wp2_with (first | (go_at_call 63; refine (imgCheck_any v l _ S hs1 hl).mono ?_; rintro e w1 ⟨rfl, hb1⟩))
    go_ret
    exact ⟨rfl, below_then hA hA.size hb1⟩
end Go.Proofs.Ytoifinmcoldidaa
