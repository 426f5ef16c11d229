import Derived.Test.YtoifinmcoldidaaC18
import Derived.Test.YtoifinmcoldidaaMaths
set_option maxRecDepth 100000
set_option linter.unusedVariables false
set_option linter.unusedSimpArgs false
namespace Go.Proofs.Ytoifinmcoldidaa
open Go.RowKit Go.Mm Sb

/-! ### Few -/
def FewP (l : List Wr) : Prop := l.length ≤ 40 ∧ ∀ x ∈ l, x.data.length ≤ 24
set_option maxHeartbeats 2000000 in
theorem few_any (v : Value) (l : List Wr) (w : World) (S : Nat → Prop) (h : RWrs w S v l) :
    Calls Try.prog 12 #[v] w fun e w' => ∃ q : Bool, e = .returned (.bool q) ∧ (q = true → FewP l) ∧ Below w.heap.size w w' := by
  obtain ⟨A, cap, rfl, hcap, hm⟩ := h.val
  unfold maxLen at hm
  go_enter Try.func12, Try.ntmps12
  go_wp2
  go_loopw [3] (fun i wr => ∃ k : Nat, k ≤ l.length ∧ k ≤ 60 ∧ i = .int .i64 k ∧ (∀ x ∈ l.take k, x.data.length ≤ 24) ∧ Below w.heap.size w wr) (fun i _ => l.length - (intOf i).toNat)
  case atStart => exact ⟨0, Nat.zero_le _, by omega, rfl, by simp, Below.refl _ _⟩
  case round =>
    obtain ⟨k, hk, hk6, rfl, hn, hb⟩ := hrel
    have HN := Lib.hid hn
    clear hn
    by_cases hlt : k < l.length
    · by_cases h60 : k < 60
      · have t1 := decide_eq_true hlt
        have t2 := decide_eq_true h60
        obtain ⟨x, hx⟩ : ∃ x, l[k]? = some x := ⟨_, List.getElem?_eq_getElem hlt⟩
        obtain ⟨b, off, cs, rfl, hbl, _, hl, hc, hr⟩ := h.at_ hx
        obtain ⟨hv64, hs64, dv, rfl, hd⟩ := hr
        obtain ⟨Ad, dcap, rfl, hdc, hdm⟩ := hd.val
        unfold maxLen at hdm
        have c2 := (hb.cell (p := ⟨b, off + k * 3 + 2, none⟩) hbl).trans (hc 2 (by omega))
        clear hc hl
        simp at c2
        have HX := Lib.hid hx
        clear hx
        by_cases h24 : 24 < x.data.length
        · go_wp2
          go_ret
          exact ⟨_, rfl, by simp, hb⟩
        · go_wp2
          go_roundw
          case rel =>
            refine ⟨k + 1, by omega, by omega, by go_num, ?_, hb⟩
            intro y hy
            obtain ⟨hkk, hxx⟩ := List.getElem?_eq_some_iff.1 HX.out
            rw [List.take_succ_eq_append_getElem hkk] at hy
            rcases List.mem_append.1 hy with hy | hy
            · exact HN.out y hy
            · obtain rfl := List.mem_singleton.1 hy; rw [hxx]; omega
          case measure => simp [intOf]; omega
      · obtain rfl : k = 60 := by omega
        have hbig : ¬ l.length ≤ 40 := by omega
        go_wp2
        go_ret
        exact ⟨_, rfl, fun hq => absurd (of_decide_eq_true hq) (by omega), hb⟩
    · obtain rfl : k = l.length := by omega
      go_wp2
      go_ret
      refine ⟨_, rfl, fun hq => ?_, hb⟩
      have := of_decide_eq_true hq
      exact ⟨by omega, by have := HN.out; rwa [List.take_length] at this⟩
end Go.Proofs.Ytoifinmcoldidaa
