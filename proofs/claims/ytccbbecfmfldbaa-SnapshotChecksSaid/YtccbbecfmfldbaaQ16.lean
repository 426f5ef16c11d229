import Derived.Test.YtccbbecfmfldbaaQ15
import Derived.StillTailTactics
import Derived.Test.YtccbbecfmfldbaaQ12
set_option maxRecDepth 100000
set_option linter.unusedVariables false
set_option linter.unusedSimpArgs false
namespace Go.Proofs.Ytccbbecfmfldbaa
open Go.RowKit Go.Mm Sb

/-! ### the reference: Extents -/
theorem marked_take {l : List Wr} {k : Nat} {x : Wr} (hx : l[k]? = some x) (v s : Int) : markedBy (l.take (k + 1)) v s = (markedBy (l.take k) v s || (decide (x.vol = v) && x.ext.holds s)) := by
  obtain ⟨hk, rfl⟩ := List.getElem?_eq_some_iff.1 hx
  rw [List.take_succ_eq_append_getElem hk, markedBy_snoc]
end Go.Proofs.Ytccbbecfmfldbaa

set_option maxRecDepth 100000
set_option linter.unusedVariables false
set_option linter.unusedSimpArgs false
namespace Go.Proofs.Ytccbbecfmfldbaa
open Go.RowKit Go.Mm Sb

/-! ### the reference: holds, Lookup -/
def holdsB (a b : Int) (n : Nat) (v s : Int) : Bool := decide (a = v ∧ b ≤ s ∧ s < b + n)
def HoldsRet (a b : Int) (n : Nat) (v s : Int) (w : World) (e : Ending) (w' : World) : Prop :=
  ∃ m ok, e = .returned (.tuple #[.int .i64 m, .bool ok]) ∧ ok = holdsB a b n v s ∧ (holdsB a b n v s = true → m = s - b) ∧ Below w.heap.size w w'
theorem holdsB_no {a b : Int} {n : Nat} {v s : Int} (h : ¬ (a = v ∧ b ≤ s ∧ s < b + n)) : holdsB a b n v s = false := decide_eq_false h
theorem holdsB_yes {a b : Int} {n : Nat} {v s : Int} (h : a = v ∧ b ≤ s ∧ s < b + n) : holdsB a b n v s = true := decide_eq_true h
theorem Blk.eight {w : World} {g : Nat} {t : TypeId} {a b c d e f h i : Value} (hb : Blk w g t #[a, b, c, d, e, f, h, i]) :
    w.frozen? ⟨g, 0, none⟩ = false ∧ w.frozen? ⟨g, 1, none⟩ = false ∧ w.frozen? ⟨g, 2, none⟩ = false ∧ w.frozen? ⟨g, 3, none⟩ = false ∧ w.frozen? ⟨g, 4, none⟩ = false ∧ w.frozen? ⟨g, 5, none⟩ = false ∧ w.frozen? ⟨g, 6, none⟩ = false ∧ w.frozen? ⟨g, 7, none⟩ = false ∧
    w.cell? ⟨g, 0, none⟩ = some a ∧ w.cell? ⟨g, 1, none⟩ = some b ∧ w.cell? ⟨g, 2, none⟩ = some c ∧ w.cell? ⟨g, 3, none⟩ = some d ∧ w.cell? ⟨g, 4, none⟩ = some e ∧ w.cell? ⟨g, 5, none⟩ = some f ∧ w.cell? ⟨g, 6, none⟩ = some h ∧ w.cell? ⟨g, 7, none⟩ = some i :=
  ⟨hb.frozen 0, hb.frozen 1, hb.frozen 2, hb.frozen 3, hb.frozen 4, hb.frozen 5, hb.frozen 6, hb.frozen 7, hb.cell 0, hb.cell 1, hb.cell 2, hb.cell 3, hb.cell 4, hb.cell 5, hb.cell 6, hb.cell 7⟩
def secV (s : Sec) : Value := .agg #[.int .u8 s.b0, .int .u8 s.b1, .int .u8 s.b2, .int .u8 s.b3, .int .u8 s.b4, .int .u8 s.b5, .int .u8 s.b6, .int .u8 s.b7]
def LookRet (l : List Wr) (v s : Int) (w : World) (e : Ending) (w' : World) : Prop :=
  ∃ ok, e = .returned (.tuple #[secV ((eff l v s).getD Sec.zero), .bool ok]) ∧ ok = (eff l v s).isSome ∧ Below w.heap.size w w'
theorem holdsB_at {x : Wr} {v s : Int} : holdsB x.vol x.start x.data.length v s = (x.at? v s).isSome := by
  rw [Bool.eq_iff_iff, at?_isSome]; simp [holdsB]
end Go.Proofs.Ytccbbecfmfldbaa

set_option maxRecDepth 100000
set_option linter.unusedVariables false
set_option linter.unusedSimpArgs false
namespace Go.Proofs.Ytccbbecfmfldbaa
open Go.RowKit Go.Mm Sb

/-! ### the reference: pick -/

theorem store8 (w1 : World) (y : Sec) : Below w1.heap.size w1 (((((((((w1.alloc (.cells #[.int .u8 0, .int .u8 0, .int .u8 0, .int .u8 0, .int .u8 0, .int .u8 0, .int .u8 0, .int .u8 0] 99)).setCell ⟨w1.heap.size, 0, none⟩ (.int .u8 y.b0)).setCell ⟨w1.heap.size, 1, none⟩ (.int .u8 y.b1)).setCell ⟨w1.heap.size, 2, none⟩ (.int .u8 y.b2)).setCell ⟨w1.heap.size, 3, none⟩ (.int .u8 y.b3)).setCell ⟨w1.heap.size, 4, none⟩ (.int .u8 y.b4)).setCell ⟨w1.heap.size, 5, none⟩ (.int .u8 y.b5)).setCell ⟨w1.heap.size, 6, none⟩ (.int .u8 y.b6)).setCell ⟨w1.heap.size, 7, none⟩ (.int .u8 y.b7)) ∧ (((((((((w1.alloc (.cells #[.int .u8 0, .int .u8 0, .int .u8 0, .int .u8 0, .int .u8 0, .int .u8 0, .int .u8 0, .int .u8 0] 99)).setCell ⟨w1.heap.size, 0, none⟩ (.int .u8 y.b0)).setCell ⟨w1.heap.size, 1, none⟩ (.int .u8 y.b1)).setCell ⟨w1.heap.size, 2, none⟩ (.int .u8 y.b2)).setCell ⟨w1.heap.size, 3, none⟩ (.int .u8 y.b3)).setCell ⟨w1.heap.size, 4, none⟩ (.int .u8 y.b4)).setCell ⟨w1.heap.size, 5, none⟩ (.int .u8 y.b5)).setCell ⟨w1.heap.size, 6, none⟩ (.int .u8 y.b6)).setCell ⟨w1.heap.size, 7, none⟩ (.int .u8 y.b7)).heap.size = w1.heap.size + 1 :=
  ⟨((((((((((Below.refl w1.heap.size w1).alloc (Nat.le_refl _) _).setCell (Nat.le_refl _) _).setCell (Nat.le_refl _) _).setCell (Nat.le_refl _) _).setCell (Nat.le_refl _) _).setCell (Nat.le_refl _) _).setCell (Nat.le_refl _) _).setCell (Nat.le_refl _) _).setCell (Nat.le_refl _) _), by simp⟩
theorem pickW_len (f : Int → Int → Option Sec) (v : Int) (l : List Ext) : (pickW f v l).length = l.length := by simp [pickW]
end Go.Proofs.Ytccbbecfmfldbaa

set_option maxRecDepth 100000
set_option linter.unusedVariables false
set_option linter.unusedSimpArgs false
namespace Go.Proofs.Ytccbbecfmfldbaa
open Go.RowKit Go.Mm Sb

/-! ### the reference: Fold -/
theorem fits8 (a b : Int) (n : Nat) : fitsI sizes8 a b n = placedI a b n := by
  unfold fitsI placedI sizes8
  by_cases h1 : a < 0 ∨ 8 ≤ a
  · rw [if_pos (by simpa using h1), if_pos h1]
  · rw [if_neg (by simpa using h1), if_neg h1]
    have e : (List.replicate 8 (4096 : Int)).getD a.toNat 0 = 4096 := by
      rw [List.getD_eq_getElem?_getD, List.getElem?_replicate, if_pos (by omega)]; rfl
    rw [e]
    by_cases h2 : n = 0
    · rw [if_pos h2, if_pos h2]
    · rw [if_neg h2, if_neg h2]
      by_cases h3 : b < 0 ∨ 4096 - (n : Int) < b
      · rw [if_pos h3, if_pos (by omega)]
      · rw [if_neg h3, if_neg (by omega)]
theorem sizes8_ok : ∀ x ∈ sizes8, 0 ≤ x ∧ x ≤ 4096 := fun x hx => by
  have := List.eq_of_mem_replicate hx; omega
theorem refK_len (l : List Wr) (k : Nat) : (refK l k).length ≤ k * 4096 := by
  induction k with
  | zero => simp [refK_zero]
  | succ k ih =>
    rw [refK_succ, List.length_append, pickW_len]
    have := runs_len (markedBy l (k : Nat)) 4096
    omega
end Go.Proofs.Ytccbbecfmfldbaa

set_option maxRecDepth 100000
set_option linter.unusedVariables false
set_option linter.unusedSimpArgs false
namespace Go.Proofs.Ytccbbecfmfldbaa
open Go.RowKit Go.Mm Sb

/-! ### the reference: Sizes, Check -/
def sizesOne : List Int → Int
  | [] => 0
  | x :: t => if x < 1 ∨ 4096 < x then 2 else sizesOne t
def sizesI (l : List Int) : Int := if l.length < 1 ∨ 8 < l.length then 6 else sizesOne l
theorem sizesOne_step {l : List Int} {k : Nat} {x : Int} (h : l[k]? = some x) : sizesOne (l.drop k) = if x < 1 ∨ 4096 < x then 2 else sizesOne (l.drop (k + 1)) := by
  obtain ⟨hk, rfl⟩ := List.getElem?_eq_some_iff.1 h
  rw [List.drop_eq_getElem_cons hk]; rfl
theorem sizesOne_ok : ∀ {l : List Int}, sizesOne l = 0 → ∀ x ∈ l, 1 ≤ x ∧ x ≤ 4096
  | [], _, x, hx => by simp at hx
  | y :: t, h, x, hx => by
    unfold sizesOne at h
    split at h
    · cases h
    · rcases List.mem_cons.1 hx with rfl | hx
      · omega
      · exact sizesOne_ok h x hx
theorem sizesI_ok {l : List Int} (h : sizesI l = 0) : ∀ x ∈ l, 1 ≤ x ∧ x ≤ 4096 := by
  unfold sizesI at h
  split at h
  · cases h
  · exact sizesOne_ok h
theorem sizesI_len {l : List Int} (h : sizesI l = 0) : 1 ≤ l.length ∧ l.length ≤ 8 := by
  unfold sizesI at h
  split at h
  · cases h
  · omega
theorem sizes8_zero : sizesI sizes8 = 0 := by decide
set_option maxHeartbeats 2000000 in
theorem sizes_any (v : Value) (l : List Int) (w : World) (S : Nat → Prop) (h : RInts w S v l) :
    Calls Try.prog 90 #[v] w fun e w' => e = .returned (.int .i64 (sizesI l)) ∧ Below w.heap.size w w' := by
  obtain ⟨A, cap, rfl, hcap, hm⟩ := h.val
  unfold maxLen at hm
  by_cases g1 : l.length < 1
  · have hr : sizesI l = 6 := by unfold sizesI; rw [if_pos (.inl g1)]
    have t1 := decide_eq_true (show (l.length : Int) < 1 by omega)
    go_enter Try.func90, Try.ntmps90
    go_wp2
    go_ret
    exact ⟨ret_int hr.symm, Below.refl _ _⟩
  have t1 := decide_eq_false (show ¬ (l.length : Int) < 1 by omega)
  by_cases g2 : 8 < l.length
  · have hr : sizesI l = 6 := by unfold sizesI; rw [if_pos (.inr g2)]
    have t2 := decide_eq_true (show (8 : Int) < l.length by omega)
    go_enter Try.func90, Try.ntmps90
    go_wp2
    go_ret
    exact ⟨ret_int hr.symm, Below.refl _ _⟩
  have t2 := decide_eq_false (show ¬ (8 : Int) < l.length by omega)
  have hr : sizesI l = sizesOne l := by unfold sizesI; rw [if_neg (by omega)]
  rw [hr]
  clear hr
  go_enter Try.func90, Try.ntmps90
  go_wp2
  go_loopw [3] (fun i wr => ∃ k : Nat, k ≤ l.length ∧ i = .int .i64 k ∧ sizesOne l = sizesOne (l.drop k) ∧ w = wr) (fun i _ => l.length - (intOf i).toNat)
  case atStart => exact ⟨0, Nat.zero_le _, rfl, rfl, rfl⟩
  case round =>
    obtain ⟨k, hk, rfl, hI, rfl⟩ := hrel
    by_cases hlt : k < l.length
    · have t3 := decide_eq_true hlt
      obtain ⟨x, hx⟩ : ∃ x, l[k]? = some x := ⟨_, List.getElem?_eq_getElem hlt⟩
      obtain ⟨b, off, cs, rfl, hbl, _, hl, hc, hx64, rfl⟩ := h.at_ hx
      have c0 := hc 0 (by omega)
      simp at c0
      rw [sizesOne_step hx] at hI
      clear hc hl hx
      by_cases h1 : x < 1
      · have t4 := decide_eq_true h1
        rw [if_pos (.inl h1)] at hI
        have HI := Lib.hid hI
        clear hI
        go_wp2
        go_ret
        exact ⟨ret_int HI.out.symm, Below.refl _ _⟩
      · have t4 := decide_eq_false h1
        by_cases h2 : 4096 < x
        · have t5 := decide_eq_true h2
          rw [if_pos (.inr h2)] at hI
          have HI := Lib.hid hI
          clear hI
          go_wp2
          go_ret
          exact ⟨ret_int HI.out.symm, Below.refl _ _⟩
        · have t5 := decide_eq_false h2
          rw [if_neg (by omega)] at hI
          have HI := Lib.hid hI
          clear hI
          go_wp2
          go_roundw
          case rel => exact ⟨k + 1, by omega, by go_num, HI.out, trivial⟩
          case measure => simp [intOf]; omega
    · obtain rfl : k = l.length := by omega
      rw [List.drop_length] at hI
      go_wp2
      go_ret
      exact ⟨ret_int hI.symm, Below.refl _ _⟩
def fitW (sizes : List Int) (x : Wr) : Int := fitsI sizes x.vol x.start x.data.length
theorem fitW_zero {sizes : List Int} (hz : ∀ x ∈ sizes, 0 ≤ x ∧ x ≤ 4096) {x : Wr} (h : fitW sizes x = 0) : 0 ≤ x.start ∧ x.start + x.data.length ≤ 4096 := by
  unfold fitW fitsI at h
  split at h
  · cases h
  · split at h
    · cases h
    · split at h
      · cases h
      · rename_i h1 h2 h3
        have hm : sizes.getD x.vol.toNat 0 ≤ 4096 := by
          rw [List.getD_eq_getElem?_getD]
          rcases hg : sizes[x.vol.toNat]? with _ | y
          · simp
          · simp; exact (hz y (List.mem_of_getElem? hg)).2
        omega
end Go.Proofs.Ytccbbecfmfldbaa
