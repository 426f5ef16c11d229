import Derived.Test.YtccbbecfmfldbaaProg
import Derived.Test.YtccbbecfmfldbaaQ2
import Derived.BigQuiet
import Derived.Deep.QuietTactic
set_option maxRecDepth 100000
set_option linter.unusedVariables false
set_option linter.unusedSimpArgs false
namespace Go.Proofs.Ytccbbecfmfldbaa
open Go.RowKit Go.Mm Sb

/-! ### functions of numbers -/
theorem isNaN_any (a : Int) (w : World) : Calls Try.prog 124 #[.int .i64 a] w fun e w' => e = .returned (.bool false) ∧ w = w' := by
  go_enter Try.func124, Try.ntmps124
  go_wp2
  go_ret
  exact ⟨by simp, rfl⟩

def cmpI (a b : Int) : Int := if a < b then -1 else if b < a then 1 else 0
theorem compare_any (a b : Int) (w : World) : Calls Try.prog 131 #[.int .i64 a, .int .i64 b] w fun e w' => e = .returned (.int .i64 (cmpI a b)) ∧ w = w' := by
  by_cases h1 : a < b
  · go_enter Try.func131, Try.ntmps131
    go_wp2_with (go_at_call 124; refine (isNaN_any _ _).mono ?_; rintro e w' ⟨rfl, rfl⟩)
    go_ret
    exact ⟨ret_int (by unfold cmpI; (repeat' split) <;> omega), rfl⟩
  · by_cases h2 : b < a
    · go_enter Try.func131, Try.ntmps131
      go_wp2_with (go_at_call 124; refine (isNaN_any _ _).mono ?_; rintro e w' ⟨rfl, rfl⟩)
      go_ret
      exact ⟨ret_int (by unfold cmpI; (repeat' split) <;> omega), rfl⟩
    · go_enter Try.func131, Try.ntmps131
      go_wp2_with (go_at_call 124; refine (isNaN_any _ _).mono ?_; rintro e w' ⟨rfl, rfl⟩)
      go_ret
      exact ⟨ret_int (by unfold cmpI; (repeat' split) <;> omega), rfl⟩

theorem behind_any (a b : Int) (w : World) (hb : -1 ≤ b) (hb2 : b ≤ 100000) :
    Calls Try.prog 125 #[.agg #[.int .i64 a, .int .i64 b]] w fun e w' => e = .returned (.agg #[.int .i64 a, .int .i64 (b+1)]) ∧ Below w.heap.size w w' := by
  go_enter Try.func125, Try.ntmps125
  go_wp2
  exact bodyPost_ret (v := .agg #[.int .i64 a, .int .i64 (b+1)]) (by simp [results, Try.results125, go_sem]) rfl ⟨rfl, ((Below.refl _ _).alloc (Nat.le_refl _) _).alloc (by simp) _⟩

def placedI (a b : Int) (n : Nat) : Int := if a < 0 ∨ 8 ≤ a then 7 else if n = 0 then 1 else if b < 0 ∨ 4096 - (n : Int) < b then 2 else 0
theorem placed_any (a b : Int) (A : Option Addr) (n cap : Nat) (w : World) (hn : n ≤ 9223372036854775807) :
    Calls Try.prog 119 #[.agg #[.int .i64 a, .int .i64 b, .slice A n cap]] w fun e w' => e = .returned (.int .i64 (placedI a b n)) ∧ Below w.heap.size w w' := by
  by_cases h1 : a < 0
  · go_enter Try.func119, Try.ntmps119
    go_wp2
    go_ret
    exact ⟨ret_int (by unfold placedI; (repeat' split) <;> omega), ((Below.refl _ _).alloc (Nat.le_refl _) _)⟩
  · by_cases h2 : 8 ≤ a
    · go_enter Try.func119, Try.ntmps119
      go_wp2
      go_ret
      exact ⟨ret_int (by unfold placedI; (repeat' split) <;> omega), ((Below.refl _ _).alloc (Nat.le_refl _) _)⟩
    · by_cases h3 : n = 0
      · subst h3
        go_enter Try.func119, Try.ntmps119
        go_wp2
        go_ret
        exact ⟨ret_int (by unfold placedI; (repeat' split) <;> omega), ((Below.refl _ _).alloc (Nat.le_refl _) _)⟩
      · have h3' : ((n : Int) == 0) = false := by simp; omega
        by_cases h4 : b < 0
        · go_enter Try.func119, Try.ntmps119
          go_wp2
          go_ret
          exact ⟨ret_int (by unfold placedI; (repeat' split) <;> omega), ((Below.refl _ _).alloc (Nat.le_refl _) _)⟩
        · by_cases h5 : 4096 - (n : Int) < b
          · go_enter Try.func119, Try.ntmps119
            go_wp2
            go_ret
            exact ⟨ret_int (by unfold placedI; (repeat' split) <;> omega), ((Below.refl _ _).alloc (Nat.le_refl _) _)⟩
          · go_enter Try.func119, Try.ntmps119
            go_wp2
            go_ret
            exact ⟨ret_int (by unfold placedI; (repeat' split) <;> omega), ((Below.refl _ _).alloc (Nat.le_refl _) _)⟩

def fitsI (sizes : List Int) (a b : Int) (n : Nat) : Int := if a < 0 ∨ (sizes.length : Int) ≤ a then 7 else if n = 0 then 1 else if b < 0 ∨ sizes.getD a.toNat 0 ≤ b ∨ sizes.getD a.toNat 0 - b < n then 2 else 0
set_option maxHeartbeats 1000000 in
theorem fitsSizes_any (v : Value) (sizes : List Int) (a b : Int) (A : Option Addr) (n cap : Nat) (w : World) (S : Nat → Prop) (hs : RInts w S v sizes) (hn : n ≤ 9223372036854775807) (hb : In64 b) (hz : ∀ x ∈ sizes, 0 ≤ x ∧ x ≤ 4096) :
    Calls Try.prog 94 #[v, .agg #[.int .i64 a, .int .i64 b, .slice A n cap]] w fun e w' => e = .returned (.int .i64 (fitsI sizes a b n)) ∧ Below w.heap.size w w' := by
  obtain ⟨A', cap', rfl, hc1, hc2⟩ := hs.val
  unfold maxLen at hc2
  obtain ⟨hb1, hb2⟩ := hb
  by_cases h1 : a < 0
  · go_enter Try.func94, Try.ntmps94
    go_wp2
    go_ret
    exact ⟨ret_int (by unfold fitsI; (repeat' split) <;> omega), ((Below.refl _ _).alloc (Nat.le_refl _) _)⟩
  by_cases h2 : (sizes.length : Int) ≤ a
  · go_enter Try.func94, Try.ntmps94
    go_wp2
    go_ret
    exact ⟨ret_int (by unfold fitsI; (repeat' split) <;> omega), ((Below.refl _ _).alloc (Nat.le_refl _) _)⟩
  by_cases h3 : n = 0
  · subst h3
    go_enter Try.func94, Try.ntmps94
    go_wp2
    go_ret
    exact ⟨ret_int (by unfold fitsI; (repeat' split) <;> omega), ((Below.refl _ _).alloc (Nat.le_refl _) _)⟩
  have h3' : ((n : Int) == 0) = false := by simp; omega
  obtain ⟨j, rfl⟩ := Int.eq_ofNat_of_zero_le (show 0 ≤ a by omega)
  have hj : j < sizes.length := by omega
  obtain ⟨bb, off, cs, rfl, hbl, _, hl, hc, hr⟩ := hs.at_ (List.getElem?_eq_getElem hj)
  have e0 : sizes.getD (j : Int).toNat 0 = sizes[j] := by simp [List.getD_eq_getElem?_getD, hj]
  have hz0 := hz sizes[j] (List.getElem_mem hj)
  have E0 := Lib.hid e0
  clear e0
  obtain rfl : cs = [.int .i64 sizes[j]] := hr.2
  have c0 := hc 0 (by omega)
  simp at c0
  generalize sizes[j] = z at *
  by_cases h4 : b < 0
  · have hd := decide_eq_true h4
    go_enter Try.func94, Try.ntmps94
    go_wp2
    go_quiet (fail)
    go_wp2
    go_ret
    exact ⟨ret_int (by unfold fitsI; rw [E0.out]; (repeat' split) <;> omega), pw_below_drewN ((Below.refl _ _).alloc (Nat.le_refl _) _) _⟩
  have hd4 := decide_eq_false h4
  by_cases h5 : z ≤ b
  · have hd := decide_eq_true h5
    go_enter Try.func94, Try.ntmps94
    go_wp2
    go_quiet (fail)
    go_wp2
    go_ret
    exact ⟨ret_int (by unfold fitsI; rw [E0.out]; (repeat' split) <;> omega), pw_below_drewN ((Below.refl _ _).alloc (Nat.le_refl _) _) _⟩
  have hd5 := decide_eq_false h5
  by_cases h6 : z - b < (n : Int)
  · have hd := decide_eq_true h6
    go_enter Try.func94, Try.ntmps94
    go_wp2
    go_quiet (fail)
    go_wp2
    go_ret
    exact ⟨ret_int (by unfold fitsI; rw [E0.out]; (repeat' split) <;> omega), pw_below_drewN ((Below.refl _ _).alloc (Nat.le_refl _) _) _⟩
  · have hd := decide_eq_false h6
    go_enter Try.func94, Try.ntmps94
    go_wp2
    go_quiet (fail)
    go_wp2
    go_ret
    exact ⟨ret_int (by unfold fitsI; rw [E0.out]; (repeat' split) <;> omega), pw_below_drewN ((Below.refl _ _).alloc (Nat.le_refl _) _) _⟩
end Go.Proofs.Ytccbbecfmfldbaa
