import Derived.Test.YtoifinmcoldidaaC11
set_option maxRecDepth 100000
set_option linter.unusedVariables false
set_option linter.unusedSimpArgs false
namespace Go.Proofs.Ytoifinmcoldidaa
open Go.RowKit Go.Mm Sb

/-! ### Contains -/
theorem holds_of {x : Ext} {f t : Int} {ok : Bool} (h : WithinIs x f t ok) (s : Int) : x.holds s = (ok && decide (f ≤ s) && decide (s < t)) := by
  unfold WithinIs at h
  cases ok with
  | false => rw [within_none (by simpa using h)]; rfl
  | true =>
    obtain ⟨_, _, _, hh⟩ := within_some (by simpa using h)
    rw [Bool.eq_iff_iff, hh]
    simp
set_option maxHeartbeats 1000000 in
theorem holdsFn_any (x : Ext) (s : Int) (bx : Nat) (w : World) (h1 : In64 x.start) (h2 : In64 x.count) (hbx : bx < w.heap.size) (hc : w.cell? ⟨bx, 0, none⟩ = some (.int .i64 s)) :
    Calls Try.prog 61 #[.agg #[.int .i64 x.start, .int .i64 x.count], .pointer (some ⟨bx, 0, none⟩)] w fun e w' => e = .returned (.bool (x.holds s)) ∧ Below w.heap.size w w' := by
  have hcA := ((Below.refl w.heap.size w).alloc (Nat.le_refl _) (.cells #[.int .i64 x.start, .int .i64 x.count] 68))
  go_enter Try.func61, Try.ntmps61
  go_wp2_with (first | (go_at_call 62; refine (within_any x _ h1 h2).mono ?_; rintro e w1 ⟨f, t, ok, rfl, hW, hB⟩; have key := Lib.hid (holds_of hW s); have hc1 := ((below_then hcA (by simp) hB).cell (p := ⟨bx, 0, none⟩) hbx).trans hc))
  all_goals
    go_ret
    exact ⟨ret_bool (by rw [key.out]; simp [*] <;> omega), below_then hcA (by simp) hB⟩
theorem memC_take {l : List Ext} {s : Int} {k : Nat} {x : Ext} (hx : l[k]? = some x) : memC (l.take (k + 1)) s = (memC (l.take k) s || x.holds s) := by
  obtain ⟨hk, rfl⟩ := List.getElem?_eq_some_iff.1 hx
  unfold memC
  rw [List.take_succ_eq_append_getElem hk, List.any_append]
  simp
theorem memC_of {l : List Ext} {s : Int} {k : Nat} {x : Ext} (hx : l[k]? = some x) (h : x.holds s = true) : memC l s = true := by
  unfold memC
  exact List.any_eq_true.2 ⟨x, List.mem_of_getElem? hx, h⟩
set_option maxHeartbeats 1000000 in
theorem indexFunc_any (v : Value) (l : List Ext) (s : Int) (bx : Nat) (w : World) (S : Nat → Prop) (h : RExts w S v l) (hbx : bx < w.heap.size) (hc : w.cell? ⟨bx, 0, none⟩ = some (.int .i64 s)) :
    Calls Try.prog 83 #[v, .func (.func 61) #[] #[.pointer (some ⟨bx, 0, none⟩)]] w fun e w' => ∃ k : Int, e = .returned (.int .i64 k) ∧ (0 ≤ k ↔ memC l s = true) ∧ Below w.heap.size w w' := by
  obtain ⟨A, cap, rfl, hcap, hm⟩ := h.val
  unfold maxLen at hm
  go_enter Try.func83, Try.ntmps83
  go_wp2
  go_loopw [8] (fun i wr => ∃ k : Nat, k ≤ l.length ∧ i = .int .i64 k ∧ memC (l.take k) s = false ∧ Below w.heap.size w wr) (fun i _ => l.length - (intOf i).toNat)
  case atStart => exact ⟨0, Nat.zero_le _, rfl, rfl, Below.refl _ _⟩
  case round =>
    obtain ⟨k, hk, rfl, hn, hb⟩ := hrel
    by_cases hlt : k < l.length
    · obtain ⟨x, hx⟩ : ∃ x, l[k]? = some x := ⟨_, List.getElem?_eq_getElem hlt⟩
      obtain ⟨b, off, cs, rfl, hbl, _, hl, hcc, h1, h2, rfl⟩ := h.at_ hx
      have c0 := (hb.cell (p := ⟨b, off + k * 2 + 0, none⟩) hbl).trans (hcc 0 (by omega))
      have c1 := (hb.cell (p := ⟨b, off + k * 2 + 1, none⟩) hbl).trans (hcc 1 (by omega))
      simp at c0 c1
      have hcb := (hb.cell (p := ⟨bx, 0, none⟩) hbx).trans hc
      have hbs := hb.size
      clear hcc
      cases hq : x.holds s with
      | true =>
        go_wp2_with (first | (go_at_call 61; refine (holdsFn_any x s bx _ h1 h2 (by omega) hcb).mono ?_; rintro e w1 ⟨rfl, hb1⟩; rw [hq]))
        go_ret
        exact ⟨_, rfl, ⟨fun _ => memC_of hx hq, fun _ => by omega⟩, below_then hb hbs hb1⟩
      | false =>
        go_wp2_with (first | (go_at_call 61; refine (holdsFn_any x s bx _ h1 h2 (by omega) hcb).mono ?_; rintro e w1 ⟨rfl, hb1⟩; rw [hq]))
        go_roundw
        case rel => exact ⟨k + 1, by omega, by go_num, by rw [memC_take hx, hn, hq]; rfl, below_then hb hbs hb1⟩
        case measure => simp [intOf]; omega
    · go_wp2
      go_ret
      obtain rfl : k = l.length := by omega
      rw [List.take_length] at hn
      exact ⟨_, rfl, ⟨fun h => by omega, fun h => by rw [hn] at h; cases h⟩, hb⟩
theorem containsFunc_any (v : Value) (l : List Ext) (s : Int) (bx : Nat) (w : World) (S : Nat → Prop) (h : RExts w S v l) (hbx : bx < w.heap.size) (hc : w.cell? ⟨bx, 0, none⟩ = some (.int .i64 s)) :
    Calls Try.prog 60 #[v, .func (.func 61) #[] #[.pointer (some ⟨bx, 0, none⟩)]] w fun e w' => e = .returned (.bool (memC l s)) ∧ Below w.heap.size w w' := by
  go_enter Try.func60, Try.ntmps60
  go_wp2_with (first | (go_at_call 83; refine (indexFunc_any v l s bx _ S h hbx hc).mono ?_; rintro e w1 ⟨k, rfl, hk, hb1⟩))
  go_ret
  exact ⟨ret_bool (by rw [Bool.eq_iff_iff, ← hk]; try simp), hb1⟩
theorem contains_any (v : Value) (l : List Ext) (s : Int) (w : World) (S : Nat → Prop) (h : RExts w S v l) :
    Calls Try.prog 32 #[v, .int .i64 s] w fun e w' => e = .returned (.bool (memC l s)) ∧ Below w.heap.size w w' := by
  have hA := ((Below.refl w.heap.size w).alloc (Nat.le_refl _) (.cells #[.int .i64 s] 3))
  have hbl := Blk.new w 3 #[.int .i64 s]
  go_enter Try.func32, Try.ntmps32
  go_wp2_with (first | (go_at_call 60; refine (containsFunc_any v l s _ _ S (h.below ((Below.refl w.heap.size w).alloc (Nat.le_refl _) _)) hbl.lt hbl.one.1).mono ?_; rintro e w1 ⟨rfl, hb1⟩))
  go_ret
  exact ⟨rfl, below_then hA (by simp) hb1⟩
end Go.Proofs.Ytoifinmcoldidaa
