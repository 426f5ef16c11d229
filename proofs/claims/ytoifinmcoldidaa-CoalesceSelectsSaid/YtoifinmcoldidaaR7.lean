import Derived.Test.YtoifinmcoldidaaR6
set_option maxRecDepth 100000
set_option linter.unusedVariables false
set_option linter.unusedSimpArgs false
namespace Go.Proofs.Ytoifinmcoldidaa
open Go.RowKit Go.Mm Sb

/-! ### the reference: Sizes, Check -/
def sizesOne : List Int → Int
  | [] => 0
  | x :: t => if x < 1 ∨ 4096 < x then 2 else sizesOne t
def sizesI (l : List Int) : Int := if l.length < 1 ∨ 8 < l.length then 6 else sizesOne l
theorem sizesOne_step {l : List Int} {k : Nat} {x : Int} (h : l[k]? = some x) : sizesOne (l.drop k) = if x < 1 ∨ 4096 < x then 2 else sizesOne (l.drop (k + 1)) := by
  obtain ⟨hk, rfl⟩ := List.getElem?_eq_some_iff.1 h
  rw [List.drop_eq_getElem_cons hk]; rfl
theorem sizesOne_ok : ∀ {l : List Int}, sizesOne l = 0 → ∀ x ∈ l, 1 ≤ x ∧ x ≤ 4096
  | [], _, x, hx => by simp at hx
  | y :: t, h, x, hx => by
    unfold sizesOne at h
    split at h
    · cases h
    · rcases List.mem_cons.1 hx with rfl | hx
      · omega
      · exact sizesOne_ok h x hx
theorem sizesI_ok {l : List Int} (h : sizesI l = 0) : ∀ x ∈ l, 1 ≤ x ∧ x ≤ 4096 := by
  unfold sizesI at h
  split at h
  · cases h
  · exact sizesOne_ok h
theorem sizesI_len {l : List Int} (h : sizesI l = 0) : 1 ≤ l.length ∧ l.length ≤ 8 := by
  unfold sizesI at h
  split at h
  · cases h
  · omega
theorem sizes8_zero : sizesI sizes8 = 0 := by decide
set_option maxHeartbeats 2000000 in
theorem sizes_any (v : Value) (l : List Int) (w : World) (S : Nat → Prop) (h : RInts w S v l) :
    Calls Try.prog 49 #[v] w fun e w' => e = .returned (.int .i64 (sizesI l)) ∧ Below w.heap.size w w' := by
  obtain ⟨A, cap, rfl, hcap, hm⟩ := h.val
  unfold maxLen at hm
  by_cases g1 : l.length < 1
  · have hr : sizesI l = 6 := by unfold sizesI; rw [if_pos (.inl g1)]
    have t1 := decide_eq_true (show (l.length : Int) < 1 by omega)
    go_enter Try.func49, Try.ntmps49
    go_wp2
    go_ret
    exact ⟨ret_int hr.symm, Below.refl _ _⟩
  have t1 := decide_eq_false (show ¬ (l.length : Int) < 1 by omega)
  by_cases g2 : 8 < l.length
  · have hr : sizesI l = 6 := by unfold sizesI; rw [if_pos (.inr g2)]
    have t2 := decide_eq_true (show (8 : Int) < l.length by omega)
    go_enter Try.func49, Try.ntmps49
    go_wp2
    go_ret
    exact ⟨ret_int hr.symm, Below.refl _ _⟩
  have t2 := decide_eq_false (show ¬ (8 : Int) < l.length by omega)
  have hr : sizesI l = sizesOne l := by unfold sizesI; rw [if_neg (by omega)]
  rw [hr]
  clear hr
  go_enter Try.func49, Try.ntmps49
  go_wp2
  go_loopw [3] (fun i wr => ∃ k : Nat, k ≤ l.length ∧ i = .int .i64 k ∧ sizesOne l = sizesOne (l.drop k) ∧ w = wr) (fun i _ => l.length - (intOf i).toNat)
  case atStart => exact ⟨0, Nat.zero_le _, rfl, rfl, rfl⟩
  case round =>
    obtain ⟨k, hk, rfl, hI, rfl⟩ := hrel
    by_cases hlt : k < l.length
    · have t3 := decide_eq_true hlt
      obtain ⟨x, hx⟩ : ∃ x, l[k]? = some x := ⟨_, List.getElem?_eq_getElem hlt⟩
      obtain ⟨b, off, cs, rfl, hbl, _, hl, hc, hx64, rfl⟩ := h.at_ hx
      have c0 := hc 0 (by omega)
      simp at c0
      rw [sizesOne_step hx] at hI
      clear hc hl hx
      by_cases h1 : x < 1
      · have t4 := decide_eq_true h1
        rw [if_pos (.inl h1)] at hI
        have HI := Lib.hid hI
        clear hI
        go_wp2
        go_ret
        exact ⟨ret_int HI.out.symm, Below.refl _ _⟩
      · have t4 := decide_eq_false h1
        by_cases h2 : 4096 < x
        · have t5 := decide_eq_true h2
          rw [if_pos (.inr h2)] at hI
          have HI := Lib.hid hI
          clear hI
          go_wp2
          go_ret
          exact ⟨ret_int HI.out.symm, Below.refl _ _⟩
        · have t5 := decide_eq_false h2
          rw [if_neg (by omega)] at hI
          have HI := Lib.hid hI
          clear hI
          go_wp2
          go_roundw
          case rel => exact ⟨k + 1, by omega, by go_num, HI.out, trivial⟩
          case measure => simp [intOf]; omega
    · obtain rfl : k = l.length := by omega
      rw [List.drop_length] at hI
      go_wp2
      go_ret
      exact ⟨ret_int hI.symm, Below.refl _ _⟩
def fitW (sizes : List Int) (x : Wr) : Int := fitsI sizes x.vol x.start x.data.length
theorem fitW_zero {sizes : List Int} (hz : ∀ x ∈ sizes, 0 ≤ x ∧ x ≤ 4096) {x : Wr} (h : fitW sizes x = 0) : 0 ≤ x.start ∧ x.start + x.data.length ≤ 4096 := by
  unfold fitW fitsI at h
  split at h
  · cases h
  · split at h
    · cases h
    · split at h
      · cases h
      · rename_i h1 h2 h3
        have hm : sizes.getD x.vol.toNat 0 ≤ 4096 := by
          rw [List.getD_eq_getElem?_getD]
          rcases hg : sizes[x.vol.toNat]? with _ | y
          · simp
          · simp; exact (hz y (List.mem_of_getElem? hg)).2
        omega
end Go.Proofs.Ytoifinmcoldidaa
