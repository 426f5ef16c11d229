import Derived.Test.YtoifinmcoldidaaR7
set_option maxRecDepth 100000
set_option linter.unusedVariables false
set_option linter.unusedSimpArgs false
namespace Go.Proofs.Ytoifinmcoldidaa
open Go.RowKit Go.Mm Sb

/-! ### the reference: Check -/
def refChk (l : List Wr) (sizes : List Int) : Int := if sizesI sizes = 0 then chkI (fitW sizes) none l else sizesI sizes
set_option maxHeartbeats 8000000 in
theorem refCheck_any (v vs : Value) (l : List Wr) (sizes : List Int) (w : World) (S S2 : Nat → Prop) (h : RWrs w S v l) (hs : RInts w S2 vs sizes) :
    Calls Try.prog 20 #[v, vs] w fun e w' => e = .returned (.int .i64 (refChk l sizes)) ∧ Below w.heap.size w w' := by
  obtain ⟨A, cap, rfl, hcap, hm⟩ := h.val
  unfold maxLen at hm
  by_cases hz0 : sizesI sizes = 0
  · have hr : refChk l sizes = chkI (fitW sizes) none l := by unfold refChk; rw [if_pos hz0]
    have hzs : ∀ x ∈ sizes, 0 ≤ x ∧ x ≤ 4096 := fun x hx => by have := sizesI_ok hz0 x hx; omega
    rw [hr]
    clear hr
    go_enter Try.func20, Try.ntmps20
    go_wp2_with (first | (go_at_call 49; refine (sizes_any vs sizes w S2 hs).mono ?_; rintro e w0 ⟨rfl, hb0⟩; rw [hz0]))
    go_loopw [6] (fun i wr => ∃ k : Nat, k ≤ l.length ∧ i = .int .i64 k ∧ chkI (fitW sizes) none l = chkI (fitW sizes) (prevW l k) (l.drop k) ∧ (∀ x, 0 < k → l[k-1]? = some x → fitW sizes x = 0) ∧ Below w.heap.size w wr) (fun i _ => l.length - (intOf i).toNat)
    case atStart => exact ⟨0, Nat.zero_le _, rfl, rfl, by omega, hb0⟩
    case round =>
      clear hb0
      obtain ⟨k, hk, rfl, hI, hpr, hb⟩ := hrel
      have hbs := hb.size
      by_cases hlt : k < l.length
      · obtain ⟨x, hx⟩ : ∃ x, l[k]? = some x := ⟨_, List.getElem?_eq_getElem hlt⟩
        obtain ⟨b, off, cs, hA, hbl, _, hl, hc, hr⟩ := h.at_ hx
        obtain ⟨hv64, hs64, dv, rfl, hd⟩ := hr
        obtain ⟨Ad, dcap, rfl, hdc, hdm⟩ := hd.val
        unfold maxLen at hdm
        have hD : ∀ W, Below w.heap.size w W → W.cell? ⟨b, off + k * 3, none⟩ = some (.int .i64 x.vol) ∧ W.cell? ⟨b, off + k * 3 + 1, none⟩ = some (.int .i64 x.start) ∧ W.cell? ⟨b, off + k * 3 + 2, none⟩ = some (.slice Ad x.data.length dcap) := fun W hW =>
          ⟨(hW.cell hbl).trans (hc 0 (by omega)), (hW.cell hbl).trans (hc 1 (by omega)), (hW.cell hbl).trans (hc 2 (by omega))⟩
        obtain ⟨c0, c1, c2⟩ := hD wr hb
        have hsr := hs.below hb
        clear hc hl
        have HI := Lib.hid hI
        have HPR := Lib.hid hpr
        have HX := Lib.hid hx
        clear hI hpr hx
        by_cases hz : fitsI sizes x.vol x.start x.data.length = 0
        · rcases Nat.eq_zero_or_pos k with rfl | hk0
          · subst hA
            simp at c0 c1 c2
            go_wp2_with (first | (go_at_call 40; refine (fitsSizes_any vs sizes x.vol x.start Ad x.data.length dcap wr S2 hsr (by omega) hs64 hzs).mono ?_; rintro e w1 ⟨rfl, hb1⟩; rw [hz]))
            go_roundw
            case rel => exact ⟨1, by omega, by go_num, by rw [HI.out, chk_first HX.out, if_pos (show fitW sizes x = 0 from hz)], (fun y _ hy => by rw [show y = x by simpa [HX.out] using hy.symm]; exact hz), below_then hb hbs hb1⟩
            case measure => simp [intOf]; omega
          · obtain ⟨m, rfl⟩ : ∃ m, k = m + 1 := ⟨k - 1, by omega⟩
            obtain ⟨y, hy⟩ : ∃ y, l[m]? = some y := ⟨_, List.getElem?_eq_getElem (by omega)⟩
            obtain ⟨b2, off2, cs2, hA2, hbl2, _, hl2, hc2, hr2⟩ := h.at_ hy
            obtain ⟨hv642, hs642, dv2, rfl, hd2⟩ := hr2
            obtain ⟨Ad2, dcap2, rfl, hdc2, hdm2⟩ := hd2.val
            unfold maxLen at hdm2
            obtain ⟨rfl, rfl⟩ : b2 = b ∧ off2 = off := by rw [hA] at hA2; injection hA2 with e; injection e with e1 e2; exact ⟨e1.symm, e2.symm⟩
            subst hA
            clear hA2
            have hE : ∀ W, Below w.heap.size w W → W.cell? ⟨b2, off2 + m * 3, none⟩ = some (.int .i64 y.vol) ∧ W.cell? ⟨b2, off2 + m * 3 + 1, none⟩ = some (.int .i64 y.start) ∧ W.cell? ⟨b2, off2 + m * 3 + 2, none⟩ = some (.slice Ad2 y.data.length dcap2) := fun W hW =>
              ⟨(hW.cell hbl2).trans (hc2 0 (by omega)), (hW.cell hbl2).trans (hc2 1 (by omega)), (hW.cell hbl2).trans (hc2 2 (by omega))⟩
            have hzy := fitW_zero hzs (HPR.out y (by omega) (by simpa using hy))
            have hzx := fitW_zero hzs (show fitW sizes x = 0 from hz)
            have HY := Lib.hid hy
            clear hc2 hl2 hy
            have i2 : (m : Int) + 1 < l.length := by omega
            have i3 : ((m : Int) + 1).toNat = m + 1 := by omega
            have i4 : (0 : Int) ≤ (m : Int) + 1 := by omega
            have hne0 : ((m : Int) + 1 == 0) = false := by simp; omega
            have nxt := chk_next (f := fitW sizes) HY.out HX.out
            rw [if_pos (show fitW sizes x = 0 from hz)] at nxt
            obtain ⟨xv, xs, xd⟩ := x
            obtain ⟨yv, ys, yd⟩ := y
            simp only at *
            by_cases hg1 : xv < yv
            · have t1 := decide_eq_true hg1
              rw [if_pos (.inl hg1)] at nxt
              have NXT := Lib.hid nxt
              clear nxt
              go_wp2_with (first | (go_at_call 40; refine (fitsSizes_any vs sizes xv xs Ad xd.length dcap wr S2 hsr (by omega) hs64 hzs).mono ?_; rintro e w1 ⟨rfl, hb1⟩; rw [hz]; have HB := below_then hb hbs hb1; obtain ⟨d0, d1, d2⟩ := hD w1 HB; obtain ⟨e0, e1, e2⟩ := hE w1 HB; have q7 : b2 < w1.heap.size := (by have := HB.size; omega)))
              go_quiet (fail)
              go_wp2
              go_ret
              exact ⟨ret_int (by rw [HI.out, NXT.out]), pw_below_drewN (HB.alloc HB.size _) _⟩
            · have t1 := decide_eq_false hg1
              by_cases hg2 : xv = yv
              · subst hg2
                by_cases hg3 : xs ≤ ys + yd.length
                · have t3 := decide_eq_true (show xs < ys + yd.length + 1 by omega)
                  rw [if_pos (.inr ⟨rfl, hg3⟩)] at nxt
                  have NXT := Lib.hid nxt
                  clear nxt
                  go_wp2_with (first | (go_at_call 40; refine (fitsSizes_any vs sizes xv xs Ad xd.length dcap wr S2 hsr (by omega) hs64 hzs).mono ?_; rintro e w1 ⟨rfl, hb1⟩; rw [hz]; have HB := below_then hb hbs hb1; obtain ⟨d0, d1, d2⟩ := hD w1 HB; obtain ⟨e0, e1, e2⟩ := hE w1 HB; have q7 : b2 < w1.heap.size := (by have := HB.size; omega)))
                  go_quiet (fail)
                  go_wp2
                  go_ret
                  exact ⟨ret_int (by rw [HI.out, NXT.out]), pw_below_drewN (HB.alloc HB.size _) _⟩
                · have t3 := decide_eq_false (show ¬ xs < ys + yd.length + 1 by omega)
                  rw [if_neg (by omega)] at nxt
                  have NXT := Lib.hid nxt
                  clear nxt
                  go_wp2_with (first | (go_at_call 40; refine (fitsSizes_any vs sizes xv xs Ad xd.length dcap wr S2 hsr (by omega) hs64 hzs).mono ?_; rintro e w1 ⟨rfl, hb1⟩; rw [hz]; have HB := below_then hb hbs hb1; obtain ⟨d0, d1, d2⟩ := hD w1 HB; obtain ⟨e0, e1, e2⟩ := hE w1 HB; have q7 : b2 < w1.heap.size := (by have := HB.size; omega)))
                  go_quiet (fail)
                  go_wp2
                  go_roundw
                  case rel => exact ⟨m + 2, by omega, by go_num, by rw [HI.out, NXT.out], (fun z _ hz2 => by rw [show m + 2 - 1 = m + 1 by omega, HX.out] at hz2; injection hz2 with hz2; rw [← hz2]; exact hz), pw_below_drewN (HB.alloc HB.size _) _⟩
                  case measure => simp [intOf]; omega
              · have t2 : (xv == yv) = false := by simpa using hg2
                rw [if_neg (by omega)] at nxt
                have NXT := Lib.hid nxt
                clear nxt
                go_wp2_with (first | (go_at_call 40; refine (fitsSizes_any vs sizes xv xs Ad xd.length dcap wr S2 hsr (by omega) hs64 hzs).mono ?_; rintro e w1 ⟨rfl, hb1⟩; rw [hz]; have HB := below_then hb hbs hb1; obtain ⟨d0, d1, d2⟩ := hD w1 HB; obtain ⟨e0, e1, e2⟩ := hE w1 HB; have q7 : b2 < w1.heap.size := (by have := HB.size; omega)))
                go_quiet (fail)
                go_wp2
                go_roundw
                case rel => exact ⟨m + 2, by omega, by go_num, by rw [HI.out, NXT.out], (fun z _ hz2 => by rw [show m + 2 - 1 = m + 1 by omega, HX.out] at hz2; injection hz2 with hz2; rw [← hz2]; exact hz), pw_below_drewN (HB.alloc HB.size _) _⟩
                case measure => simp [intOf]; omega
        · subst hA
          have hz' : (fitsI sizes x.vol x.start x.data.length != 0) = true := by simpa using hz
          go_wp2_with (first | (go_at_call 40; refine (fitsSizes_any vs sizes x.vol x.start Ad x.data.length dcap wr S2 hsr (by omega) hs64 hzs).mono ?_; rintro e w1 ⟨rfl, hb1⟩))
          go_ret
          refine ⟨ret_int ?_, below_then hb hbs hb1⟩
          rw [HI.out]
          rcases Nat.eq_zero_or_pos k with rfl | hk0
          · rw [chk_first HX.out, if_neg (show ¬ fitW sizes x = 0 from hz)]; rfl
          · obtain ⟨m, rfl⟩ : ∃ m, k = m + 1 := ⟨k - 1, by omega⟩
            obtain ⟨y, hy⟩ : ∃ y, l[m]? = some y := ⟨_, List.getElem?_eq_getElem (by omega)⟩
            rw [chk_next hy HX.out, if_neg (show ¬ fitW sizes x = 0 from hz)]; rfl
      · go_wp2
        go_ret
        obtain rfl : k = l.length := by omega
        exact ⟨ret_int (by rw [hI, chk_end]), hb⟩
  · have hr : refChk l sizes = sizesI sizes := by unfold refChk; rw [if_neg hz0]
    rw [hr]
    clear hr
    have hz' : (sizesI sizes != 0) = true := by simpa using hz0
    go_enter Try.func20, Try.ntmps20
    go_wp2_with (first | (go_at_call 49; refine (sizes_any vs sizes w S2 hs).mono ?_; rintro e w0 ⟨rfl, hb0⟩))
    go_ret
    exact ⟨rfl, hb0⟩
end Go.Proofs.Ytoifinmcoldidaa
