import Derived.Test.YtoifinmcoldidaaR2
import Derived.StillTailTactics
set_option maxRecDepth 100000
set_option linter.unusedVariables false
set_option linter.unusedSimpArgs false
namespace Go.Proofs.Ytoifinmcoldidaa
open Go.RowKit Go.Mm Sb

/-! ### the reference: Extents -/
theorem marked_take {l : List Wr} {k : Nat} {x : Wr} (hx : l[k]? = some x) (v s : Int) : markedBy (l.take (k + 1)) v s = (markedBy (l.take k) v s || (decide (x.vol = v) && x.ext.holds s)) := by
  obtain ⟨hk, rfl⟩ := List.getElem?_eq_some_iff.1 hx
  rw [List.take_succ_eq_append_getElem hk, markedBy_snoc]
set_option maxHeartbeats 4000000 in
theorem extents_any (v : Value) (l : List Wr) (vol : Int) (w : World) (S : Nat → Prop) (h : RWrs w S v l) :
    Calls Try.prog 30 #[v, .int .i64 vol] w fun e w' => ∃ v, e = .returned v ∧ RExts w' (fun b => w.heap.size ≤ b) v (runsE (markedBy l vol) 4096) ∧ Below w.heap.size w w' := by
  obtain ⟨A, cap, rfl, hcap, hm⟩ := h.val
  unfold maxLen at hm
  obtain ⟨i0, hi, hz0, hz1, hz2⟩ := info_parts infoB
  have hM0 : Marks (w.alloc (.cells (madeCells #[.bool false] 4096) 4)) w.heap.size 4096 (fun _ => false) := by
    unfold Marks
    rw [← marksOf_none, ← markCells_made]
    exact Blk.new _ _ _
  have hB0 : Below w.heap.size w (w.alloc (.cells (madeCells #[.bool false] 4096) 4)) := (Below.refl _ _).alloc (Nat.le_refl _) _
  go_enter Try.func30, Try.ntmps30
  go_wp2_with (first | (refine wpList_make_row _ rfl _ _ 97 rfl 4 i0 (.bool false) Try.underlying97 hi hz0 hz1 rfl .i64 .i64 4096 rfl rfl (by rw [hz2]; omega) (by omega) ?_))
  generalize w.alloc (.cells (madeCells #[.bool false] 4096) 4) = w0 at *
  go_loopw [6] (fun i wr => ∃ k : Nat, k ≤ l.length ∧ i = .int .i64 k ∧ Marks wr w.heap.size 4096 (markedBy (l.take k) vol) ∧ Below w.heap.size w wr) (fun i _ => l.length - (intOf i).toNat)
  case atStart => exact ⟨0, by omega, rfl, hM0, hB0⟩
  case round =>
    obtain ⟨k, hk, rfl, hMk, hb⟩ := hrel
    have hbs := hb.size
    by_cases hlt : k < l.length
    · have t1 := decide_eq_true hlt
      obtain ⟨x, hx⟩ : ∃ x, l[k]? = some x := ⟨_, List.getElem?_eq_getElem hlt⟩
      obtain ⟨b, off, cs, rfl, hbl, _, hl, hc, hr⟩ := h.at_ hx
      obtain ⟨hv64, hs64, dv, rfl, hd⟩ := hr
      obtain ⟨Ad, dcap, rfl, hdc, hdm⟩ := hd.val
      unfold maxLen at hdm
      have c0 := (hb.cell (p := ⟨b, off + k * 3 + 0, none⟩) hbl).trans (hc 0 (by omega))
      have c1 := (hb.cell (p := ⟨b, off + k * 3 + 1, none⟩) hbl).trans (hc 1 (by omega))
      have c2 := (hb.cell (p := ⟨b, off + k * 3 + 2, none⟩) hbl).trans (hc 2 (by omega))
      clear hc hl
      simp at c0 c1 c2
      have HX := Lib.hid hx
      clear hx
      by_cases hv : x.vol = vol
      · have t2 : (x.vol == vol) = true := by simpa using hv
        go_wp2_with fail
        go_still_tail 13, (by kernel_rfl)
        have hMd : Marks wr.drew w.heap.size 4096 (markedBy (l.take k) vol) := Blk.drew hMk
        have hl64 : In64 (x.data.length : Int) := by unfold In64; omega
        change wpList _ _ _ _ _ wr.drew
        go_wp2_with (first | (go_at_call 58; refine (add_any ⟨x.start, x.data.length⟩ w.heap.size _ wr.drew hs64 hl64 hMd).mono ?_; rintro e w1 ⟨rfl, hM1, hg1⟩))
        go_roundw
        case rel =>
          refine ⟨k + 1, by omega, by go_num, hM1.congr (fun s _ _ => by rw [marked_take HX.out]; simp [hv, Wr.ext]), (hb.drew).grown hg1 hbs (fun j e => by injection e with e; omega)⟩
        case measure => simp [intOf]; omega
      · have t2 : (x.vol == vol) = false := by simpa using hv
        go_wp2
        go_roundw
        case rel => exact ⟨k + 1, by omega, by go_num, hMk.congr (fun s _ _ => by rw [marked_take HX.out]; simp [hv]), hb⟩
        case measure => simp [intOf]; omega
    · obtain rfl : k = l.length := by omega
      have hgl := hMk.lt
      rw [List.take_length] at hMk
      go_wp2_with (first | (go_at_call 59; refine (list_any _ 4096 4096 _ _ hMk.rd (by omega) (by omega)).mono ?_; rintro e w1 ⟨v1, rfl, hv1, hb1⟩))
      go_ret
      exact ⟨_, rfl, hv1.more (fun b _ hbb => by omega), below_then hb hbs hb1⟩
end Go.Proofs.Ytoifinmcoldidaa
