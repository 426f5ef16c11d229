import Derived.Test.YtoifinmcoldidaaC12
import Derived.Test.YtoifinmcoldidaaMems
import Derived.Test.YtoifinmcoldidaaMaths
set_option maxRecDepth 100000
set_option linter.unusedVariables false
set_option linter.unusedSimpArgs false
namespace Go.Proofs.Ytoifinmcoldidaa
open Go.RowKit Go.Mm Sb

/-! ### the reference: Most, Add, List -/
theorem infoI : (Try.prog.info? 3).map (fun i => (i.zero, i.size, i.bytes)) = some (some (.int .i64 0), 1, 8) := by kernel_rfl
theorem infoX : (Try.prog.info? 68).map (fun i => (i.zero, i.size, i.bytes)) = some (some (.agg #[.int .i64 0, .int .i64 0]), 2, 16) := by kernel_rfl
theorem infoB : (Try.prog.info? 4).map (fun i => (i.zero, i.size, i.bytes)) = some (some (.bool false), 1, 1) := by kernel_rfl
def sizes8 : List Int := List.replicate 8 4096
set_option maxHeartbeats 1000000 in
theorem most_any (w : World) :
    Calls Try.prog 41 #[] w fun e w' => ∃ v, e = .returned v ∧ RInts w' (fun b => w.heap.size ≤ b) v sizes8 ∧ Below w.heap.size w w' := by
  go_enter Try.func41, Try.ntmps41
  go_wp2
  go_loopw [1, 2] (fun s i wr => ∃ k : Nat, k ≤ 8 ∧ i = .int .i64 k ∧ OwnSl 3 1 RInt wr w.heap.size (fun _ => False) s (List.replicate k 4096) ∧ Below w.heap.size w wr) (fun _ i _ => 8 - (intOf i).toNat)
  case atStart => exact ⟨0, by omega, rfl, OwnSl.nil _, Below.refl _ _⟩
  case round =>
    obtain ⟨k, hk, rfl, hown, hb⟩ := hrel
    by_cases hlt : k < 8
    · have hbs := hb.size
      have hown' := hown.lt
      have hlen : (List.replicate k (4096 : Int)).length = k := List.length_replicate
      go_wp2_with (first | (at_builtin; refine wpList_appendNew rfl _ _ 38 rfl 3 _ 1 8 Try.underlying38 infoI rfl (by omega) RInt w.heap.size (fun _ => False) _ _ rfl hown #[.int .i64 4096] 4096 wr.heap.size rfl rfl rfl (by simp [Value.oneCell']) ⟨by unfold In64; omega, rfl⟩ (by rw [hlen]; omega) (by omega) (by omega) ?_; intro v5 w5 hO5 hg5 hat5))
      go_roundw
      case rel =>
        exact ⟨k + 1, by omega, by go_num, by rw [List.replicate_succ']; exact hO5, hb.grown hg5 hbs (fun j e => (hown' j e).1)⟩
      case measure => simp [intOf]; omega
    · obtain rfl : k = 8 := by omega
      go_wp2
      go_ret
      exact ⟨_, rfl, hown.reads (fun b hb hh => by rcases hh with hh | hh; cases hh; exact (hown.lt b hh.symm).1), hb⟩

/-- marks that are read -/
def RdMarks (w : World) (g n : Nat) (p : Int → Bool) : Prop := g < w.heap.size ∧ ∀ i, i < n → w.cell? ⟨g, i, none⟩ = some (.bool (p i))
def Marks (w : World) (g n : Nat) (p : Int → Bool) : Prop := Blk w g 4 (markCells (marksOf n p))
theorem Marks.rd {w : World} {g n : Nat} {p : Int → Bool} (h : Marks w g n p) : RdMarks w g n p := ⟨h.lt, fun i hi => by
  rw [Blk.cell h]; exact markCells_get (marksOf_get p hi)⟩
theorem Marks.set_ {w : World} {g n : Nat} {p : Int → Bool} (h : Marks w g n p) {i : Nat} (hi : i < n) : Marks (w.setCell ⟨g, i, none⟩ (.bool true)) g n fun s => p s || decide (s = i) := by
  have := Blk.set_ h i (.bool true)
  rw [markCells_set, marksOf_set p hi] at this
  exact this
theorem Marks.congr {w : World} {g n : Nat} {p q : Int → Bool} (h : Marks w g n p) (hc : ∀ s : Int, 0 ≤ s → s < n → p s = q s) : Marks w g n q := by
  unfold Marks; rw [← marksOf_congr hc]; exact h
theorem Marks.below {w w' : World} {g n : Nat} {p : Int → Bool} (h : Marks w g n p) (hb : Below w.heap.size w w') : Marks w' g n p := Blk.below h hb
theorem add_step (p : Int → Bool) (lo k s : Int) (h : lo ≤ k) : ((p s || (decide (lo ≤ s) && decide (s < k))) || decide (s = k)) = (p s || (decide (lo ≤ s) && decide (s < k + 1))) := by
  rw [Bool.or_assoc]
  congr 1
  rw [Bool.eq_iff_iff]
  simp only [Bool.or_eq_true, Bool.and_eq_true, decide_eq_true_eq]
  omega
theorem grown_none {w w' : World} (h : w.grownBy w' none) (row : Option Nat) : w.grownBy w' row := ⟨h.os, h.tape, h.output, h.size, fun i hi _ => h.block i hi (by simp)⟩
def AddRet (x : Ext) (g : Nat) (p : Int → Bool) (w : World) (e : Ending) (w' : World) : Prop := e = .returned (.tuple #[]) ∧ Marks w' g 4096 (fun s => p s || x.holds s) ∧ w.grownBy w' (some g)
set_option maxHeartbeats 4000000 in
theorem add_any (x : Ext) (g : Nat) (p : Int → Bool) (w : World) (h1 : In64 x.start) (h2 : In64 x.count) (hM : Marks w g 4096 p) :
    Calls Try.prog 58 #[.slice (some ⟨g, 0, none⟩) 4096 4096, .agg #[.int .i64 x.start, .int .i64 x.count]] w (AddRet x g p w) := by
  obtain ⟨a, b⟩ := x
  simp only at h1 h2 ⊢
  obtain ⟨a1, a2⟩ := h1
  obtain ⟨b1, b2⟩ := h2
  have hgl := hM.lt
  have hA : w.grownBy (w.alloc (.cells #[.int .i64 a, .int .i64 b] 68)) none := World.grownBy_alloc w _ none
  have hMA : Marks (w.alloc (.cells #[.int .i64 a, .int .i64 b] 68)) g 4096 p := Blk.alloc hM _
  have hno : b ≤ 0 ∨ 4096 ≤ a → ∀ s : Int, 0 ≤ s → s < (4096 : Nat) → p s = (p s || Ext.holds ⟨a, b⟩ s) := fun h s h0 h1 => by
    have : Ext.holds ⟨a, b⟩ s = false := by
      rw [Bool.eq_false_iff]; intro hh; rw [Ext.holds_iff] at hh; simp only at hh; omega
    rw [this, Bool.or_false]
  by_cases hc : b ≤ 0
  · go_enter Try.func58, Try.ntmps58
    go_wp2
    exact bodyPost_ret (v := .tuple #[]) (by simp [results, Try.results58, go_sem]) rfl ⟨rfl, hMA.congr (hno (.inl hc)), grown_none hA _⟩
  by_cases hc2 : 4096 ≤ a
  · go_enter Try.func58, Try.ntmps58
    go_wp2
    exact bodyPost_ret (v := .tuple #[]) (by simp [results, Try.results58, go_sem]) rfl ⟨rfl, hMA.congr (hno (.inr hc2)), grown_none hA _⟩
  by_cases hs : a < 0
  · have t0 := decide_eq_true hs
    go_enter Try.func58, Try.ntmps58
    go_wp2
    go_loopw [6] (fun i wr => ∃ k : Nat, i = .int .i64 k ∧ 0 ≤ (k : Int) ∧ ((k : Int) = 0 ∨ (k : Int) ≤ min 4096 (a + b)) ∧ Marks wr g 4096 (fun s => p s || (decide (0 ≤ s) && decide (s < k))) ∧ w.grownBy wr (some g)) (fun i _ => 4096 - (intOf i).toNat)
    case atStart => exact ⟨0, rfl, by omega, .inl (by omega), hMA.congr (fun s h0 h1 => by rw [show (decide (0 ≤ s) && decide (s < ((0 : Nat) : Int))) = false by rw [Bool.eq_false_iff]; simp, Bool.or_false]), grown_none hA _⟩
    case round =>
      obtain ⟨k, rfl, hk0, hk1, hMk, hgk⟩ := hrel
      by_cases hlt : (k : Int) < min 4096 (a + b)
      · have t1 := decide_eq_true hlt
        have hk4 : k < 4096 := by omega
        have hcell := hMk.rd.2 k hk4
        have hfz : wr.frozen? ⟨g, k, none⟩ = false := Blk.frozen hMk k
        have hset := hMk.set_ hk4
        have hgl2 := hMk.lt
        have HM := Lib.hid hMk
        clear hMk
        go_wp2
        go_roundw
        case rel =>
          refine ⟨k + 1, by go_num, by omega, .inr (by omega), ?_, hgk.andThen (grown_setCell wr ⟨g, k, none⟩ (.bool true)) (fun j e => .inr e)⟩
          have := hset.congr (q := fun s => p s || (decide (0 ≤ s) && decide (s < ((k + 1 : Nat) : Int)))) (fun s _ _ => by have := add_step p (0) k s hk0; simpa using this)
          simpa using this
        case measure => simp [intOf]; omega
      · have t1 := decide_eq_false hlt
        go_wp2
        exact bodyPost_ret (v := .tuple #[]) (by simp [results, Try.results58, go_sem]) rfl ⟨rfl, hMk.congr (fun s h0 h1 => by
          congr 1
          rw [Bool.eq_iff_iff, Ext.holds_iff]
          simp only [Bool.and_eq_true, decide_eq_true_eq]
          omega), hgk⟩
  · obtain ⟨n, rfl⟩ := Int.eq_ofNat_of_zero_le (show 0 ≤ a by omega)
    go_enter Try.func58, Try.ntmps58
    go_wp2
    go_loopw [6] (fun i wr => ∃ k : Nat, i = .int .i64 k ∧ (n : Int) ≤ (k : Int) ∧ ((k : Int) = (n : Int) ∨ (k : Int) ≤ min 4096 ((n : Int) + min b 4096)) ∧ Marks wr g 4096 (fun s => p s || (decide ((n : Int) ≤ s) && decide (s < k))) ∧ w.grownBy wr (some g)) (fun i _ => 4096 - (intOf i).toNat)
    case atStart => exact ⟨n, rfl, by omega, .inl (by omega), hMA.congr (fun s h0 h1 => by rw [show (decide ((n : Int) ≤ s) && decide (s < ((n : Nat) : Int))) = false by rw [Bool.eq_false_iff]; simp, Bool.or_false]), grown_none hA _⟩
    case round =>
      obtain ⟨k, rfl, hk0, hk1, hMk, hgk⟩ := hrel
      by_cases hlt : (k : Int) < min 4096 ((n : Int) + min b 4096)
      · have t1 := decide_eq_true hlt
        have hk4 : k < 4096 := by omega
        have hcell := hMk.rd.2 k hk4
        have hfz : wr.frozen? ⟨g, k, none⟩ = false := Blk.frozen hMk k
        have hset := hMk.set_ hk4
        have hgl2 := hMk.lt
        have HM := Lib.hid hMk
        clear hMk
        go_wp2
        go_roundw
        case rel =>
          refine ⟨k + 1, by go_num, by omega, .inr (by omega), ?_, hgk.andThen (grown_setCell wr ⟨g, k, none⟩ (.bool true)) (fun j e => .inr e)⟩
          have := hset.congr (q := fun s => p s || (decide ((n : Int) ≤ s) && decide (s < ((k + 1 : Nat) : Int)))) (fun s _ _ => by have := add_step p ((n : Int)) k s hk0; simpa using this)
          simpa using this
        case measure => simp [intOf]; omega
      · have t1 := decide_eq_false hlt
        go_wp2
        exact bodyPost_ret (v := .tuple #[]) (by simp [results, Try.results58, go_sem]) rfl ⟨rfl, hMk.congr (fun s h0 h1 => by
          congr 1
          rw [Bool.eq_iff_iff, Ext.holds_iff]
          simp only [Bool.and_eq_true, decide_eq_true_eq]
          omega), hgk⟩
end Go.Proofs.Ytoifinmcoldidaa
