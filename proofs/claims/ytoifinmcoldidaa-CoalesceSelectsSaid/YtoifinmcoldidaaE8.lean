import Derived.Test.YtoifinmcoldidaaE7
set_option maxRecDepth 100000
set_option linter.unusedVariables false
set_option linter.unusedSimpArgs false
namespace Go.Proofs.Ytoifinmcoldidaa
open Go.RowKit Go.Mm Sb

/-! ### coalesce.Extents -/
def extsOf (l : List Wr) (v : Int) : List Ext := (l.filter fun w => decide (w.vol = v)).map Wr.ext
theorem extsOf_mem (l : List Wr) (v s : Int) : memC (extsOf l v) s = markedBy l v s := by
  unfold memC extsOf markedBy
  rw [List.any_map, List.any_filter]
  rfl
theorem extsOf_take {l : List Wr} {k : Nat} {x : Wr} (hx : l[k]? = some x) (v : Int) : extsOf (l.take (k + 1)) v = extsOf (l.take k) v ++ (if x.vol = v then [x.ext] else []) := by
  obtain ⟨hk, rfl⟩ := List.getElem?_eq_some_iff.1 hx
  rw [List.take_succ_eq_append_getElem hk]
  unfold extsOf
  rw [List.filter_append, List.map_append]
  by_cases h : l[k].vol = v
  · simp [h]
  · simp [h]
theorem extsOf_len (l : List Wr) (v : Int) : (extsOf l v).length ≤ l.length := by
  unfold extsOf; rw [List.length_map]; exact List.length_filter_le _ _
theorem extsOf_in {l : List Wr} {v : Int} {x : Ext} (h : x ∈ extsOf l v) : ∃ w ∈ l, x = w.ext := by
  unfold extsOf at h
  obtain ⟨w, hw, rfl⟩ := List.mem_map.1 h
  exact ⟨w, (List.mem_filter.1 hw).1, rfl⟩
set_option maxHeartbeats 4000000 in
theorem extC_any (v : Value) (l : List Wr) (vol : Int) (w : World) (S : Nat → Prop) (h : RWrs w S v l) (hn : l.length ≤ 1000000) :
    Calls Try.prog 24 #[v, .int .i64 vol] w fun e w' => ∃ v, e = .returned v ∧ RExts w' (fun b => w.heap.size ≤ b) v (runsE (markedBy l vol) 4096) ∧ Below w.heap.size w w' := by
  obtain ⟨A, cap, rfl, hcap, hm⟩ := h.val
  unfold maxLen at hm
  go_enter Try.func24, Try.ntmps24
  go_wp2
  go_loopw [5, 10] (fun s i wr => ∃ k : Nat, k ≤ l.length ∧ i = .int .i64 k ∧ OwnSl 68 2 (RPure encX) wr w.heap.size (fun _ => False) s (extsOf (l.take k) vol) ∧ (∀ x ∈ extsOf (l.take k) vol, In64 x.start ∧ In64 x.count) ∧ Below w.heap.size w wr) (fun _ i _ => l.length - (intOf i).toNat)
  case atStart => exact ⟨0, Nat.zero_le _, rfl, OwnSl.nil _, by simp [extsOf], Below.refl _ _⟩
  case round =>
    obtain ⟨k, hk, rfl, hown, h64, hb⟩ := hrel
    have hbs := hb.size
    by_cases hlt : k < l.length
    · have t1 := decide_eq_true hlt
      obtain ⟨x, hx⟩ : ∃ x, l[k]? = some x := ⟨_, List.getElem?_eq_getElem hlt⟩
      obtain ⟨b, off, cs, rfl, hbl, _, hll, hc, hr⟩ := h.at_ hx
      obtain ⟨hv64, hs64, dv, rfl, hd⟩ := hr
      obtain ⟨Ad, dcap, rfl, hdc, hdm⟩ := hd.val
      unfold maxLen at hdm
      have c0 := (hb.cell (p := ⟨b, off + k * 3 + 0, none⟩) hbl).trans (hc 0 (by omega))
      have c1 := (hb.cell (p := ⟨b, off + k * 3 + 1, none⟩) hbl).trans (hc 1 (by omega))
      have c2 := (hb.cell (p := ⟨b, off + k * 3 + 2, none⟩) hbl).trans (hc 2 (by omega))
      clear hc hll
      simp at c0 c1 c2
      have hul := hown.lt
      have hel := extsOf_len (l.take k) vol
      rw [List.length_take, Nat.min_eq_left hk] at hel
      have hownA := hown.alloc (.cells #[.int .i64 x.vol, .int .i64 x.start, .slice Ad x.data.length dcap] 35)
      have hB1 := hb.alloc hbs (.cells #[.int .i64 x.vol, .int .i64 x.start, .slice Ad x.data.length dcap] 35)
      have HX := Lib.hid hx
      have H64 := Lib.hid h64
      clear hx h64
      by_cases hv : x.vol = vol
      · have t2 : (x.vol == vol) = true := by simpa using hv
        have HV := Lib.hid hv
        clear hv
        go_wp2_with (first | (at_builtin; refine wpList_appendNew rfl _ _ 42 rfl 68 _ 2 16 Try.underlying42 infoX rfl (by omega) (RPure encX) w.heap.size (fun _ => False) u5 _ rfl hownA #[.int .i64 x.start, .int .i64 x.data.length] x.ext (wr.heap.size + 1) (by simp) rfl rfl (by simp [Value.oneCell']) rfl (by omega) (by omega) (by simp; omega) ?_; intro v5 w5 hO5 hg5 hat5))
        go_roundw
        case rel =>
          refine ⟨k + 1, by omega, by go_num, by rw [extsOf_take HX.out, if_pos HV.out]; exact hO5, ?_, hB1.grown hg5 (by simp; omega) (fun j e => (hul j e).1)⟩
          rw [extsOf_take HX.out, if_pos HV.out]
          intro y hy
          rcases List.mem_append.1 hy with hy | hy
          · exact H64.out y hy
          · obtain rfl := List.mem_singleton.1 hy
            exact ⟨hs64, by unfold In64 Wr.ext; simp only; omega⟩
        case measure => simp [intOf]; omega
      · have t2 : (x.vol == vol) = false := by simpa using hv
        go_wp2
        go_roundw
        case rel => exact ⟨k + 1, by omega, by go_num, by rw [extsOf_take HX.out, if_neg hv, List.append_nil]; exact hownA, by rw [extsOf_take HX.out, if_neg hv, List.append_nil]; exact H64.out, hB1⟩
        case measure => simp [intOf]; omega
    · obtain rfl : k = l.length := by omega
      rw [List.take_length] at hown h64
      have hel := extsOf_len l vol
      have hrd : RExts wr (fun _ => True) u5 (extsOf l vol) := own_exts hown h64 (fun _ _ => trivial)
      have hcol := union_any u5 (.slice none 0 0) (extsOf l vol) [] wr _ hrd (RSl.nil _ _) (by omega) (by simp)
      have e : runsE (fun s => keepU (memC (extsOf l vol) s) (memC [] s)) 4096 = runsE (markedBy l vol) 4096 := runsE_congr fun s _ _ => by
        rw [extsOf_mem]; simp [keepU, memC]
      rw [e] at hcol
      have HC := Lib.hid hcol
      clear hcol e h64
      go_wp2_with (first | (go_at_call 54; refine HC.out.mono ?_; rintro e w2 ⟨v2, rfl, hv2, hb2⟩))
      go_ret
      exact ⟨_, rfl, hv2.more (fun b _ hh => by omega), below_then hb hbs hb2⟩
end Go.Proofs.Ytoifinmcoldidaa
