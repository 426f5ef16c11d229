import Derived.Test.YtoifinmcoldidaaI3
set_option maxRecDepth 100000
set_option linter.unusedVariables false
set_option linter.unusedSimpArgs false
namespace Go.Proofs.Ytoifinmcoldidaa
open Go.RowKit Go.Mm Sb

/-! ### coalesce.Check -/
theorem sizes_len8 {im : List (List Sec)} (h : sizesI (lens im) = 0) : im.length ≤ 100000 := by
  have := sizesI_len h
  have e : (lens im).length = im.length := by simp [lens]
  omega
set_option maxHeartbeats 1000000 in
theorem fitC_any (vi : Value) (im : List (List Sec)) (bx : Nat) (a b : Int) (A : Option Addr) (n cap : Nat) {w : World} (W : World) (S : Nat → Prop) (hbx : bx < w.heap.size) (hW : Below w.heap.size w W) (hcx : w.cell? ⟨bx, 0, none⟩ = some vi) (hi : RImg w S vi im) (hsz : sizesI (lens im) = 0) (hn : n ≤ 9223372036854775807) (hb : In64 b) :
    Calls Try.prog 47 #[.agg #[.int .i64 a, .int .i64 b, .slice A n cap], .pointer (some ⟨bx, 0, none⟩)] W fun e w' => e = .returned (.int .i64 (fitsI (lens im) a b n)) ∧ Below W.heap.size W w' := by
  obtain ⟨A', cap', rfl, hc1, hc2⟩ := hi.val
  have hA := ((Below.refl W.heap.size W).alloc (Nat.le_refl _) (.cells #[.int .i64 a, .int .i64 b, .slice A n cap] 35))
  have hG := below_then hW hW.size hA
  have hi2 := hi.below hG
  have hc := (hG.cell (p := ⟨bx, 0, none⟩) hbx).trans hcx
  have hr : fitIm im a b n = fitsI (lens im) a b n := by unfold fitIm; rw [if_pos hsz]
  go_enter Try.func47, Try.ntmps47
  go_wp2_with (first | (go_at_call 48; refine (imgFitsX_any _ im a b A n cap _ S hi2 (sizes_len8 hsz) hn hb).mono ?_; rintro e w2 ⟨rfl, hb2⟩; rw [hr]))
  go_ret
  exact ⟨rfl, below_then hA hA.size hb2⟩
set_option maxHeartbeats 4000000 in
theorem check2_any (v vi : Value) (l : List Wr) (im : List (List Sec)) (bx : Nat) (w : World) (S S2 : Nat → Prop) (h : RWrs w S v l) (hbx : bx < w.heap.size) (hcx : w.cell? ⟨bx, 0, none⟩ = some vi) (hi : RImg w S2 vi im) (hsz : sizesI (lens im) = 0) :
    Calls Try.prog 44 #[v, .func (.func 47) #[] #[.pointer (some ⟨bx, 0, none⟩)]] w fun e w' => e = .returned (.int .i64 (chkI (fitW (lens im)) none l)) ∧ Below w.heap.size w w' := by
  obtain ⟨A, cap, rfl, hcap, hm⟩ := h.val
  unfold maxLen at hm
  have hzs : ∀ x ∈ lens im, 0 ≤ x ∧ x ≤ 4096 := fun x hx => by have := sizesI_ok hsz x hx; omega
  go_enter Try.func44, Try.ntmps44
  go_wp2
  go_loopw [11] (fun i wr => ∃ k : Nat, k ≤ l.length ∧ i = .int .i64 k ∧ chkI (fitW (lens im)) none l = chkI (fitW (lens im)) (prevW l k) (l.drop k) ∧ (∀ x, 0 < k → l[k-1]? = some x → (fitW (lens im)) x = 0) ∧ Below w.heap.size w wr) (fun i _ => l.length - (intOf i).toNat)
  case atStart => exact ⟨0, Nat.zero_le _, rfl, rfl, by omega, Below.refl _ _⟩
  case round =>
    obtain ⟨k, hk, rfl, hI, hpr, hb⟩ := hrel
    by_cases hlt : k < l.length
    · obtain ⟨x, hx⟩ : ∃ x, l[k]? = some x := ⟨_, List.getElem?_eq_getElem hlt⟩
      obtain ⟨b, off, cs, hA, hbl, _, hl, hc, hr⟩ := h.at_ hx
      obtain ⟨hv64, hs64, dv, rfl, hd⟩ := hr
      obtain ⟨Ad, dcap, rfl, hdc, hdm⟩ := hd.val
      unfold maxLen at hdm
      have c0 := (hb.cell (p := ⟨b, off + k * 3 + 0, none⟩) hbl).trans (hc 0 (by omega))
      have c1 := (hb.cell (p := ⟨b, off + k * 3 + 1, none⟩) hbl).trans (hc 1 (by omega))
      have c2 := (hb.cell (p := ⟨b, off + k * 3 + 2, none⟩) hbl).trans (hc 2 (by omega))
      clear hc hl
      have HI := Lib.hid hI
      have HPR := Lib.hid hpr
      have HX := Lib.hid hx
      clear hI hpr hx
      by_cases hz : fitsI (lens im) x.vol x.start x.data.length = 0
      · rcases Nat.eq_zero_or_pos k with rfl | hk0
        · subst hA
          simp at c0 c1 c2
          go_wp2_with (first | (go_at_call 47; refine (fitC_any vi im bx x.vol x.start Ad x.data.length dcap (wr.alloc (.cells #[.int .i64 x.vol, .int .i64 x.start, .slice Ad x.data.length dcap] 35)) S2 hbx (hb.alloc hb.size _) hcx hi hsz (by omega) hs64).mono ?_; rintro e w1 ⟨rfl, hb1⟩; rw [hz]))
          go_roundw
          case rel => exact ⟨1, by omega, by go_num, by rw [HI.out, chk_first HX.out, if_pos (show (fitW (lens im)) x = 0 from hz)], (fun y _ hy => by rw [show y = x by simpa [HX.out] using hy.symm]; exact hz), below_then (hb.alloc hb.size _) (by have := hb.size; simp; omega) hb1⟩
          case measure => simp [intOf]; omega
        · obtain ⟨m, rfl⟩ : ∃ m, k = m + 1 := ⟨k - 1, by omega⟩
          obtain ⟨y, hy⟩ : ∃ y, l[m]? = some y := ⟨_, List.getElem?_eq_getElem (by omega)⟩
          obtain ⟨b2, off2, cs2, hA2, hbl2, _, hl2, hc2, hr2⟩ := h.at_ hy
          obtain ⟨hv642, hs642, dv2, rfl, hd2⟩ := hr2
          obtain ⟨Ad2, dcap2, rfl, hdc2, hdm2⟩ := hd2.val
          unfold maxLen at hdm2
          obtain ⟨rfl, rfl⟩ : b2 = b ∧ off2 = off := by rw [hA] at hA2; injection hA2 with e; injection e with e1 e2; exact ⟨e1.symm, e2.symm⟩
          subst hA
          clear hA2
          have hD : ∀ W, Below w.heap.size w W → W.cell? ⟨b2, off2 + m * 3, none⟩ = some (.int .i64 y.vol) ∧ W.cell? ⟨b2, off2 + m * 3 + 1, none⟩ = some (.int .i64 y.start) ∧ W.cell? ⟨b2, off2 + m * 3 + 2, none⟩ = some (.slice Ad2 y.data.length dcap2) := fun W hW =>
            ⟨(hW.cell hbl2).trans (hc2 0 (by omega)), (hW.cell hbl2).trans (hc2 1 (by omega)), (hW.cell hbl2).trans (hc2 2 (by omega))⟩
          simp at c0 c1 c2
          have hzy := fitW_zero hzs (HPR.out y (by omega) (by simpa using hy))
          have HY := Lib.hid hy
          clear hc2 hl2 hy
          have t0 : ((m : Int) + 1 == 0) = false := by simp; omega
          by_cases hg1 : x.vol < y.vol
          · have t1 := decide_eq_true hg1
            go_wp2_with (first | (go_at_call 47; refine (fitC_any vi im bx x.vol x.start Ad x.data.length dcap (wr.alloc (.cells #[.int .i64 x.vol, .int .i64 x.start, .slice Ad x.data.length dcap] 35)) S2 hbx (hb.alloc hb.size _) hcx hi hsz (by omega) hs64).mono ?_; rintro e w1 ⟨rfl, hb1⟩; rw [hz]; have HB := below_then (hb.alloc hb.size _) (by have := hb.size; simp; omega) hb1; obtain ⟨d0, d1, d2⟩ := hD w1 HB; obtain ⟨q0, q1, q2, q3, q4, q5⟩ := ((Blk.new wr 35 #[.int .i64 x.vol, .int .i64 x.start, .slice Ad x.data.length dcap]).below hb1).three; have q7 : wr.heap.size < w1.heap.size := by have := hb1.size; simp at this; omega))
            go_ret
            refine ⟨ret_int ?_, ?_⟩
            · rw [HI.out, chk_next HY.out HX.out, if_pos (show (fitW (lens im)) x = 0 from hz), if_pos (.inl hg1)]
            · exact (below_then (below_then (hb.alloc hb.size _) (by have := hb.size; simp; omega) hb1) (by have := hb.size; omega) ((Below.refl _ _).alloc (Nat.le_refl _) _))
          · have t1 := decide_eq_false hg1
            obtain ⟨xv, xs, xd⟩ := x
            obtain ⟨yv, ys, yd⟩ := y
            simp only at *
            by_cases hg2 : xv = yv
            · subst hg2
              by_cases hg3 : xs ≤ ys + yd.length
              · have t3 := decide_eq_true hg3
                go_wp2_with (first | (go_at_call 47; refine (fitC_any vi im bx xv xs Ad xd.length dcap (wr.alloc (.cells #[.int .i64 xv, .int .i64 xs, .slice Ad xd.length dcap] 35)) S2 hbx (hb.alloc hb.size _) hcx hi hsz (by omega) hs64).mono ?_; rintro e w1 ⟨rfl, hb1⟩; rw [hz]; have HB := below_then (hb.alloc hb.size _) (by have := hb.size; simp; omega) hb1; obtain ⟨d0, d1, d2⟩ := hD w1 HB; obtain ⟨q0, q1, q2, q3, q4, q5⟩ := ((Blk.new wr 35 #[.int .i64 xv, .int .i64 xs, .slice Ad xd.length dcap]).below hb1).three; have q7 : wr.heap.size < w1.heap.size := by have := hb1.size; simp at this; omega))
                go_ret
                refine ⟨ret_int ?_, ?_⟩
                · rw [HI.out, chk_next HY.out HX.out, if_pos (show (fitW (lens im)) ⟨xv, xs, xd⟩ = 0 from hz), if_pos (.inr ⟨rfl, hg3⟩)]
                · exact (below_then (below_then (hb.alloc hb.size _) (by have := hb.size; simp; omega) hb1) (by have := hb.size; omega) ((Below.refl _ _).alloc (Nat.le_refl _) _))
              · have t3 := decide_eq_false hg3
                go_wp2_with (first | (go_at_call 47; refine (fitC_any vi im bx xv xs Ad xd.length dcap (wr.alloc (.cells #[.int .i64 xv, .int .i64 xs, .slice Ad xd.length dcap] 35)) S2 hbx (hb.alloc hb.size _) hcx hi hsz (by omega) hs64).mono ?_; rintro e w1 ⟨rfl, hb1⟩; rw [hz]; have HB := below_then (hb.alloc hb.size _) (by have := hb.size; simp; omega) hb1; obtain ⟨d0, d1, d2⟩ := hD w1 HB; obtain ⟨q0, q1, q2, q3, q4, q5⟩ := ((Blk.new wr 35 #[.int .i64 xv, .int .i64 xs, .slice Ad xd.length dcap]).below hb1).three; have q7 : wr.heap.size < w1.heap.size := by have := hb1.size; simp at this; omega))
                go_roundw
                case rel =>
                  refine ⟨m + 2, by omega, by go_num, ?_, ?_, ?_⟩
                  · rw [HI.out, chk_next HY.out HX.out, if_pos (show (fitW (lens im)) ⟨xv, xs, xd⟩ = 0 from hz), if_neg (by simp only; omega)]
                  · intro z _ hz2
                    rw [show m + 2 - 1 = m + 1 by omega, HX.out] at hz2
                    injection hz2 with hz2
                    rw [← hz2]; exact hz
                  · exact (below_then (below_then (hb.alloc hb.size _) (by have := hb.size; simp; omega) hb1) (by have := hb.size; omega) ((Below.refl _ _).alloc (Nat.le_refl _) _))
                case measure => simp [intOf]; omega
            · have t2 : (xv == yv) = false := by simpa using hg2
              go_wp2_with (first | (go_at_call 47; refine (fitC_any vi im bx xv xs Ad xd.length dcap (wr.alloc (.cells #[.int .i64 xv, .int .i64 xs, .slice Ad xd.length dcap] 35)) S2 hbx (hb.alloc hb.size _) hcx hi hsz (by omega) hs64).mono ?_; rintro e w1 ⟨rfl, hb1⟩; rw [hz]; have HB := below_then (hb.alloc hb.size _) (by have := hb.size; simp; omega) hb1; obtain ⟨d0, d1, d2⟩ := hD w1 HB; obtain ⟨q0, q1, q2, q3, q4, q5⟩ := ((Blk.new wr 35 #[.int .i64 xv, .int .i64 xs, .slice Ad xd.length dcap]).below hb1).three; have q7 : wr.heap.size < w1.heap.size := by have := hb1.size; simp at this; omega))
              go_roundw
              case rel =>
                  refine ⟨m + 2, by omega, by go_num, ?_, ?_, ?_⟩
                  · rw [HI.out, chk_next HY.out HX.out, if_pos (show (fitW (lens im)) ⟨xv, xs, xd⟩ = 0 from hz), if_neg (by simp only; omega)]
                  · intro z _ hz2
                    rw [show m + 2 - 1 = m + 1 by omega, HX.out] at hz2
                    injection hz2 with hz2
                    rw [← hz2]; exact hz
                  · exact (below_then (below_then (hb.alloc hb.size _) (by have := hb.size; simp; omega) hb1) (by have := hb.size; omega) ((Below.refl _ _).alloc (Nat.le_refl _) _))
              case measure => simp [intOf]; omega
      · subst hA
        simp at c0 c1 c2
        go_wp2_with (first | (go_at_call 47; refine (fitC_any vi im bx x.vol x.start Ad x.data.length dcap (wr.alloc (.cells #[.int .i64 x.vol, .int .i64 x.start, .slice Ad x.data.length dcap] 35)) S2 hbx (hb.alloc hb.size _) hcx hi hsz (by omega) hs64).mono ?_; rintro e w1 ⟨rfl, hb1⟩))
        go_ret
        refine ⟨ret_int ?_, below_then (hb.alloc hb.size _) (by have := hb.size; simp; omega) hb1⟩
        rw [HI.out]
        rcases Nat.eq_zero_or_pos k with rfl | hk0
        · rw [chk_first HX.out, if_neg (show ¬ (fitW (lens im)) x = 0 from hz)]; rfl
        · obtain ⟨m, rfl⟩ : ∃ m, k = m + 1 := ⟨k - 1, by omega⟩
          obtain ⟨y, hy⟩ : ∃ y, l[m]? = some y := ⟨_, List.getElem?_eq_getElem (by omega)⟩
          rw [chk_next hy HX.out, if_neg (show ¬ (fitW (lens im)) x = 0 from hz)]; rfl
    · go_wp2
      go_ret
      obtain rfl : k = l.length := by omega
      exact ⟨ret_int (by rw [hI, chk_end]), hb⟩
end Go.Proofs.Ytoifinmcoldidaa
