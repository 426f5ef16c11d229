import Derived.Test.YtoifinmcoldidaaD6a
import Derived.Test.YtoifinmcoldidaaE8
import Derived.Test.YtoifinmcoldidaaDv
import Derived.Test.YtoifinmcoldidaaB2
import Derived.Deep.RegionHeld3
set_option maxRecDepth 100000
set_option linter.unusedVariables false
set_option linter.unusedSimpArgs false
namespace Go.Proofs.Ytoifinmcoldidaa
open Go.RowKit Go.Mm Sb

/-! ### CoalesceFinds -/
theorem memC_out {l : List Ext} {s : Int} (h : ¬ (0 ≤ s ∧ s < 4096)) : memC l s = false := by
  unfold memC
  rw [List.any_eq_false]
  intro e he hh
  exact h ((Ext.holds_iff.1 hh).2.2)
theorem finds_mem {l : List Wr} (h : AllPlaced l) (v s : Int) : memC (runsE (markedBy (foldW l) v) 4096) s = (eff l v s).isSome := by
  by_cases hs : 0 ≤ s ∧ s < 4096
  · rw [marked_eff, memC_runs _ _ hs.1 hs.2, foldW_eff h]
  · rw [memC_out hs, eff_bounded h v s (fun hd => hs ⟨hd.2.2.1, hd.2.2.2⟩)]
    rfl
theorem wrapI {z : Int} (h1 : -9223372036854775808 ≤ z) (h2 : z ≤ 9223372036854775807) : IntKind.i64.wrap z = z := by
  have hb : IntKind.i64.bits = 64 := by decide
  have hs : IntKind.i64.signed = true := by decide
  unfold IntKind.wrap
  rw [hb, hs]
  simp
  omega
set_option maxHeartbeats 16000000 in
theorem finds_any (va vk : Value) (a : List Wr) (vol s : Int) (keep : List Ext) (w : World) (ha : RWrs w Any va a) (hk : RExts w Any vk keep) (hvol : In64 vol) (hs : In64 s) :
    Calls Try.prog 10 #[va, .agg #[.int .i64 vol, .int .i64 s, vk]] w fun e w' => e = .returned (.bool true) ∧ Below w.heap.size w w' := by
  obtain ⟨Ak, ck, rfl, hkc, hkm⟩ := hk.val
  have hb0 : Blk (w.alloc (.cells #[.int .i64 vol, .int .i64 s, .slice Ak keep.length ck] 50)) w.heap.size 50 #[.int .i64 vol, .int .i64 s, .slice Ak keep.length ck] := Blk.new _ _ _
  have G0 := (Below.refl w.heap.size w).alloc (Nat.le_refl _) (.cells #[.int .i64 vol, .int .i64 s, .slice Ak keep.length ck] 50)
  go_enter Try.func10, Try.ntmps10
  go_wp2_with fail
  refine (few_any va a _ Any (ha.below G0)).mono ?_
  rintro e w1 ⟨q1, rfl, f1, B1⟩
  have G1 := below_then G0 G0.size B1
  have hb1 := hb0.below B1
  cases q1 with
  | false =>
    go_wp2_with (first | (go_at_call 13; refine (awake_any _).mono ?_; rintro e w99 ⟨rfl, B99⟩))
    go_ret
    exact ⟨rfl, below_then G1 G1.size B99⟩
  | true =>
    replace f1 := f1 rfl
    go_wp2_with fail
    have c1 := fold_any va a w1 Any (ha.below G1) (few_sec f1)
    refine c1.mono ?_
    rintro e w2 ⟨v2, rfl, X2, B2⟩
    have G2 := below_then G1 G1.size B2
    have hb2 := hb1.below B2
    clear c1
    by_cases hF : foldI a = 0
    · have hap := foldI_placed hF
      have hfr : foldR a = foldW a := by unfold foldR; rw [if_pos hF]
      rw [hfr] at X2
      rw [hF]
      replace X2 : RWrs w2 Any v2 (foldW a) := X2.more (fun _ _ _ => trivial)
      have hmem := finds_mem hap vol s
      have heff : eff (foldW a) vol s = eff a vol s := by rw [foldW_eff hap]
      have hflen : (foldW a).length ≤ 1000000 := by
        have h8 := partK_len (eff a) (fun _ => true) 8
        rw [partK_all, show partF (eff a) (fun _ => true) = eff a from by funext v s; simp [partF]] at h8
        have : (foldW a).length = (canonOf (eff a)).length := rfl
        omega
      obtain ⟨A, cap, rfl, hcap, hm⟩ := ha.val
      unfold maxLen at hm
      have HM := Lib.hid (And.intro hmem (And.intro heff hap))
      clear hmem heff hap hF hfr
      go_wp2
      go_loopw [8, 30] (fun t i wr => ∃ k : Nat, k ≤ a.length ∧ i = .int .i64 k ∧ t = .bool (eff (a.take k) vol s).isSome ∧ Blk wr w2.heap.size 53 (secCells ((eff (a.take k) vol s).getD Sec.zero)).toArray ∧ Below w2.heap.size w2 wr) (fun _ i _ => a.length - (intOf i).toNat)
      case atStart => exact ⟨0, by omega, rfl, rfl, Blk.new _ _ _, (Below.refl _ _).alloc (Nat.le_refl _) _⟩
      case round =>
        obtain ⟨k, hk, rfl, rfl, hbS, hbw⟩ := hrel
        have hws := hbw.size
        have hb3 := hb2.below hbw
        have G3 := below_then G2 G2.size hbw
        by_cases hlt : k < a.length
        · obtain ⟨x, hx⟩ : ∃ x, a[k]? = some x := ⟨_, List.getElem?_eq_getElem hlt⟩
          have hpx := HM.out.2.2 x (List.mem_of_getElem? hx)
          obtain ⟨b, off, cs, rfl, hbl, _, hl, hc, hr⟩ := ha.at_ hx
          obtain ⟨hv64, hs64, dv, rfl, hd⟩ := hr
          obtain ⟨Ad, dcap, rfl, hdc, hdm⟩ := hd.val
          unfold maxLen at hdm
          have c0 := (G3.cell (p := ⟨b, off + k * 3 + 0, none⟩) hbl).trans (hc 0 (by omega))
          have c1 := (G3.cell (p := ⟨b, off + k * 3 + 1, none⟩) hbl).trans (hc 1 (by omega))
          have c2 := (G3.cell (p := ⟨b, off + k * 3 + 2, none⟩) hbl).trans (hc 2 (by omega))
          clear hc hl
          simp at c0 c1 c2
          obtain ⟨z0, z1, z2, _⟩ := hb3.three
          obtain ⟨p1, p2, p3, p4, p5⟩ := hpx
          have HE := Lib.hid (eff_take hx vol s)
          have HX := Lib.hid hx
          clear hx
          unfold In64 at hs hvol hs64 hv64
          have hno : x.at? vol s = none → eff (a.take (k + 1)) vol s = eff (a.take k) vol s := fun hn => by rw [HE.out, hn, Option.none_or]
          have HNO := Lib.hid hno
          clear hno
          have hlt0 : w.heap.size < wr.heap.size := hb3.lt
          have hlt1 : w2.heap.size < wr.heap.size := hbS.lt
          by_cases g1 : x.vol = vol
          · have t1 : (x.vol == vol) = true := by simpa using g1
            by_cases g2 : s < x.start
            · have t2 := decide_eq_false (show ¬ x.start ≤ s by omega)
              have hn : x.at? vol s = none := at?_none_of (by omega)
              have HN := Lib.hid hn
              clear hn
              go_wp2
              go_roundw
              case rel =>
                have e := HNO.out HN.out
                refine ⟨k + 1, by omega, by go_num, by rw [e], ?_, hbw.alloc hws _⟩
                rw [e]; exact hbS.alloc _
              case measure => simp [intOf]; omega
            · have t2 := decide_eq_true (show x.start ≤ s by omega)
              obtain ⟨j, hj⟩ := Int.eq_ofNat_of_zero_le (show 0 ≤ s - x.start by omega)
              have hwr : IntKind.i64.wrap (s - x.start) = (j : Int) := by rw [hj]; exact wrapI (by omega) (by omega)
              by_cases g3 : j < x.data.length
              · have t3 := decide_eq_true (show (j : Int) < (x.data.length : Int) by omega)
                obtain ⟨u, hu⟩ : ∃ u, x.data[j]? = some u := ⟨_, List.getElem?_eq_getElem g3⟩
                have hat : x.at? vol s = some u := by
                  rw [at?_some_of ⟨g1, by omega, by omega⟩, hj]
                  simp [List.getD_eq_getElem?_getD, hu]
                obtain ⟨bb, off2, cs2, hA2, hbl2, _, hl2, hc2, hr2⟩ := hd.at_ hu
                obtain rfl : cs2 = secCells u := hr2
                subst hA2
                have hltb : bb < wr.heap.size := by have := G3.size; omega
                have f0 := (G3.cell (p := ⟨bb, off2 + j * 8 + 0, none⟩) hbl2).trans (hc2 0 (by omega))
                have f1' := (G3.cell (p := ⟨bb, off2 + j * 8 + 1, none⟩) hbl2).trans (hc2 1 (by omega))
                have f2 := (G3.cell (p := ⟨bb, off2 + j * 8 + 2, none⟩) hbl2).trans (hc2 2 (by omega))
                have f3 := (G3.cell (p := ⟨bb, off2 + j * 8 + 3, none⟩) hbl2).trans (hc2 3 (by omega))
                have f4 := (G3.cell (p := ⟨bb, off2 + j * 8 + 4, none⟩) hbl2).trans (hc2 4 (by omega))
                have f5 := (G3.cell (p := ⟨bb, off2 + j * 8 + 5, none⟩) hbl2).trans (hc2 5 (by omega))
                have f6 := (G3.cell (p := ⟨bb, off2 + j * 8 + 6, none⟩) hbl2).trans (hc2 6 (by omega))
                have f7 := (G3.cell (p := ⟨bb, off2 + j * 8 + 7, none⟩) hbl2).trans (hc2 7 (by omega))
                clear hc2 hl2
                simp [secCells] at f0 f1' f2 f3 f4 f5 f6 f7
                have HAT := Lib.hid hat
                have hbx := hbS.alloc (.cells #[.int .i64 x.vol, .int .i64 x.start, .slice (some ⟨bb, off2, none⟩) x.data.length dcap] 35)
                have hbwx := hbw.alloc hws (.cells #[.int .i64 x.vol, .int .i64 x.start, .slice (some ⟨bb, off2, none⟩) x.data.length dcap] 35)
                have hwx : Below wr.heap.size wr (wr.alloc (.cells #[.int .i64 x.vol, .int .i64 x.start, .slice (some ⟨bb, off2, none⟩) x.data.length dcap] 35)) := (Below.refl _ _).alloc (Nat.le_refl _) _
                clear hat hu hj
                clear g1
                go_upto_region 13 with fail
                have hbn : Blk (wr.alloc (.cells #[.int .i64 x.vol, .int .i64 x.start, .slice (some ⟨bb, off2, none⟩) x.data.length dcap] 35)) wr.heap.size 35 #[.int .i64 x.vol, .int .i64 x.start, .slice (some ⟨bb, off2, none⟩) x.data.length dcap] := Blk.new _ _ _
                replace f0 := (hwx.cell (p := ⟨bb, off2 + j * 8, none⟩) hltb).trans f0
                replace f1' := (hwx.cell (p := ⟨bb, off2 + j * 8 + 1, none⟩) hltb).trans f1'
                replace f2 := (hwx.cell (p := ⟨bb, off2 + j * 8 + 2, none⟩) hltb).trans f2
                replace f3 := (hwx.cell (p := ⟨bb, off2 + j * 8 + 3, none⟩) hltb).trans f3
                replace f4 := (hwx.cell (p := ⟨bb, off2 + j * 8 + 4, none⟩) hltb).trans f4
                replace f5 := (hwx.cell (p := ⟨bb, off2 + j * 8 + 5, none⟩) hltb).trans f5
                replace f6 := (hwx.cell (p := ⟨bb, off2 + j * 8 + 6, none⟩) hltb).trans f6
                replace f7 := (hwx.cell (p := ⟨bb, off2 + j * 8 + 7, none⟩) hltb).trans f7
                clear c0 c1 c2 z0 z1 z2
                have hbxs := hwx.size
                generalize wr.alloc (.cells #[.int .i64 x.vol, .int .i64 x.start, .slice (some ⟨bb, off2, none⟩) x.data.length dcap] 35) = W at *
                obtain ⟨z0, z1, z2, _⟩ := hbn.three
                obtain ⟨m0, m1, m2, m3, m4, m5, m6, m7, _⟩ := Blk.eight hbx
                clear hbn hwx
                go_wp2
                go_roundw
                case rel =>
                  have e : eff (a.take (k + 1)) vol s = some u := by rw [HE.out, HAT.out]; rfl
                  refine ⟨k + 1, by omega, by go_num, by rw [e]; rfl, ?_, ((((((((hbwx.setCell (p := ⟨w2.heap.size, 0, none⟩) (by simp) (.int .u8 u.b0)).setCell (p := ⟨w2.heap.size, 1, none⟩) (by simp) (.int .u8 u.b1)).setCell (p := ⟨w2.heap.size, 2, none⟩) (by simp) (.int .u8 u.b2)).setCell (p := ⟨w2.heap.size, 3, none⟩) (by simp) (.int .u8 u.b3)).setCell (p := ⟨w2.heap.size, 4, none⟩) (by simp) (.int .u8 u.b4)).setCell (p := ⟨w2.heap.size, 5, none⟩) (by simp) (.int .u8 u.b5)).setCell (p := ⟨w2.heap.size, 6, none⟩) (by simp) (.int .u8 u.b6)).setCell (p := ⟨w2.heap.size, 7, none⟩) (by simp) (.int .u8 u.b7))⟩
                  rw [e]
                  simpa [secCells] using (((((((((hbx.set_ 0 (.int .u8 u.b0)).set_ 1 (.int .u8 u.b1)).set_ 2 (.int .u8 u.b2)).set_ 3 (.int .u8 u.b3)).set_ 4 (.int .u8 u.b4)).set_ 5 (.int .u8 u.b5)).set_ 6 (.int .u8 u.b6)).set_ 7 (.int .u8 u.b7)))
                case measure => simp [intOf]; omega
              · have t3 := decide_eq_false (show ¬ (j : Int) < (x.data.length : Int) by omega)
                have hn : x.at? vol s = none := at?_none_of (by omega)
                have HN := Lib.hid hn
                clear hn hj
                go_wp2
                go_roundw
                case rel =>
                  have e := HNO.out HN.out
                  refine ⟨k + 1, by omega, by go_num, by rw [e], ?_, hbw.alloc hws _⟩
                  rw [e]; exact hbS.alloc _
                case measure => simp [intOf]; omega
          · have t1 : (x.vol == vol) = false := by simpa using g1
            have hn : x.at? vol s = none := at?_none_of (by omega)
            have HN := Lib.hid hn
            clear hn
            go_wp2
            go_roundw
            case rel =>
              have e := HNO.out HN.out
              refine ⟨k + 1, by omega, by go_num, by rw [e], ?_, hbw.alloc hws _⟩
              rw [e]; exact hbS.alloc _
            case measure => simp [intOf]; omega
        · obtain rfl : k = a.length := by omega
          rw [List.take_length] at hbS
          obtain ⟨z0, z1, z2, _⟩ := hb3.three
          rw [List.take_length]
          have H64 := Lib.hid (And.intro hvol hs)
          have c5 := lookC_any _ a vol s wr Any (ha.below G3) hvol hs
          unfold LookRet at c5
          generalize hY : (eff a vol s).getD Sec.zero = y at c5 hbS
          have HY := Lib.hid hY
          clear hY
          go_upto_region 16 with (first | (go_at_call 27; refine c5.mono ?_; rintro e w5 ⟨ok5, rfl, rfl, B5⟩; unfold secV))
          clear c5
          have hy5 : Blk (w5.alloc (.cells #[.int .u8 y.b0, .int .u8 y.b1, .int .u8 y.b2, .int .u8 y.b3, .int .u8 y.b4, .int .u8 y.b5, .int .u8 y.b6, .int .u8 y.b7] 53)) w5.heap.size 53 #[.int .u8 y.b0, .int .u8 y.b1, .int .u8 y.b2, .int .u8 y.b3, .int .u8 y.b4, .int .u8 y.b5, .int .u8 y.b6, .int .u8 y.b7] := Blk.new _ _ _
          have BW5 : Below wr.heap.size wr (w5.alloc (.cells #[.int .u8 y.b0, .int .u8 y.b1, .int .u8 y.b2, .int .u8 y.b3, .int .u8 y.b4, .int .u8 y.b5, .int .u8 y.b6, .int .u8 y.b7] 53)) := B5.alloc B5.size _
          have hb5 := hb3.below BW5
          have hbS5 := hbS.below BW5
          have G5 := below_then G3 G3.size BW5
          have X5 := X2.below (below_then hbw hws BW5)
          generalize w5.alloc (.cells #[.int .u8 y.b0, .int .u8 y.b1, .int .u8 y.b2, .int .u8 y.b3, .int .u8 y.b4, .int .u8 y.b5, .int .u8 y.b6, .int .u8 y.b7] 53) = W5 at *
          generalize w5.heap.size = n5 at *
          have c6 := lookC_any v2 (foldW a) vol s W5 Any X5 hvol hs
          unfold LookRet at c6
          rw [HM.out.2.1, HY.out] at c6
          clear z0 z1 z2 B5
          obtain ⟨z0, z1, z2, _⟩ := hb5.three
          have hlt0 := hb5.lt
          go_upto_region 17 with (first | (go_at_call 27; refine c6.mono ?_; rintro e w6 ⟨ok6, rfl, rfl, B6⟩; unfold secV))
          clear c6
          have hy6 : Blk (w6.alloc (.cells #[.int .u8 y.b0, .int .u8 y.b1, .int .u8 y.b2, .int .u8 y.b3, .int .u8 y.b4, .int .u8 y.b5, .int .u8 y.b6, .int .u8 y.b7] 53)) w6.heap.size 53 #[.int .u8 y.b0, .int .u8 y.b1, .int .u8 y.b2, .int .u8 y.b3, .int .u8 y.b4, .int .u8 y.b5, .int .u8 y.b6, .int .u8 y.b7] := Blk.new _ _ _
          have BW6 : Below W5.heap.size W5 (w6.alloc (.cells #[.int .u8 y.b0, .int .u8 y.b1, .int .u8 y.b2, .int .u8 y.b3, .int .u8 y.b4, .int .u8 y.b5, .int .u8 y.b6, .int .u8 y.b7] 53)) := B6.alloc B6.size _
          have hb6 := hb5.below BW6
          have hbS6 := hbS5.below BW6
          have hy56 := hy5.below BW6
          have G6 := below_then G5 G5.size BW6
          have X6 := X5.below BW6
          generalize w6.alloc (.cells #[.int .u8 y.b0, .int .u8 y.b1, .int .u8 y.b2, .int .u8 y.b3, .int .u8 y.b4, .int .u8 y.b5, .int .u8 y.b6, .int .u8 y.b7] 53) = W6 at *
          generalize w6.heap.size = n6 at *
          clear z0 z1 z2 B6
          clear hb5 hbS5 hy5 hb3 hbS
          have heq := fun W => eqlS y y W
          rw [show decide (y = y) = true from decide_eq_true rfl] at heq
          simp only [encS, secCells] at heq
          have hD : ∀ W, Below W6.heap.size W6 W → (Below W6.heap.size W6 W ∧ W.cell? ⟨w.heap.size, 0, none⟩ = some (.int .i64 vol) ∧ W.cell? ⟨w.heap.size, 1, none⟩ = some (.int .i64 s) ∧ W.cell? ⟨n5, 0, none⟩ = some (.int .u8 y.b0) ∧ W.cell? ⟨n5, 1, none⟩ = some (.int .u8 y.b1) ∧ W.cell? ⟨n5, 2, none⟩ = some (.int .u8 y.b2) ∧ W.cell? ⟨n5, 3, none⟩ = some (.int .u8 y.b3) ∧ W.cell? ⟨n5, 4, none⟩ = some (.int .u8 y.b4) ∧ W.cell? ⟨n5, 5, none⟩ = some (.int .u8 y.b5) ∧ W.cell? ⟨n5, 6, none⟩ = some (.int .u8 y.b6) ∧ W.cell? ⟨n5, 7, none⟩ = some (.int .u8 y.b7) ∧ W.cell? ⟨n6, 0, none⟩ = some (.int .u8 y.b0) ∧ W.cell? ⟨n6, 1, none⟩ = some (.int .u8 y.b1) ∧ W.cell? ⟨n6, 2, none⟩ = some (.int .u8 y.b2) ∧ W.cell? ⟨n6, 3, none⟩ = some (.int .u8 y.b3) ∧ W.cell? ⟨n6, 4, none⟩ = some (.int .u8 y.b4) ∧ W.cell? ⟨n6, 5, none⟩ = some (.int .u8 y.b5) ∧ W.cell? ⟨n6, 6, none⟩ = some (.int .u8 y.b6) ∧ W.cell? ⟨n6, 7, none⟩ = some (.int .u8 y.b7) ∧ W.cell? ⟨w2.heap.size, 0, none⟩ = some (.int .u8 y.b0) ∧ W.cell? ⟨w2.heap.size, 1, none⟩ = some (.int .u8 y.b1) ∧ W.cell? ⟨w2.heap.size, 2, none⟩ = some (.int .u8 y.b2) ∧ W.cell? ⟨w2.heap.size, 3, none⟩ = some (.int .u8 y.b3) ∧ W.cell? ⟨w2.heap.size, 4, none⟩ = some (.int .u8 y.b4) ∧ W.cell? ⟨w2.heap.size, 5, none⟩ = some (.int .u8 y.b5) ∧ W.cell? ⟨w2.heap.size, 6, none⟩ = some (.int .u8 y.b6) ∧ W.cell? ⟨w2.heap.size, 7, none⟩ = some (.int .u8 y.b7)) := fun W hW => ⟨hW, (hW.cell (p := ⟨w.heap.size, 0, none⟩) hb6.lt).trans (hb6.cell 0), (hW.cell (p := ⟨w.heap.size, 1, none⟩) hb6.lt).trans (hb6.cell 1), (hW.cell (p := ⟨n5, 0, none⟩) hy56.lt).trans (hy56.cell 0), (hW.cell (p := ⟨n5, 1, none⟩) hy56.lt).trans (hy56.cell 1), (hW.cell (p := ⟨n5, 2, none⟩) hy56.lt).trans (hy56.cell 2), (hW.cell (p := ⟨n5, 3, none⟩) hy56.lt).trans (hy56.cell 3), (hW.cell (p := ⟨n5, 4, none⟩) hy56.lt).trans (hy56.cell 4), (hW.cell (p := ⟨n5, 5, none⟩) hy56.lt).trans (hy56.cell 5), (hW.cell (p := ⟨n5, 6, none⟩) hy56.lt).trans (hy56.cell 6), (hW.cell (p := ⟨n5, 7, none⟩) hy56.lt).trans (hy56.cell 7), (hW.cell (p := ⟨n6, 0, none⟩) hy6.lt).trans (hy6.cell 0), (hW.cell (p := ⟨n6, 1, none⟩) hy6.lt).trans (hy6.cell 1), (hW.cell (p := ⟨n6, 2, none⟩) hy6.lt).trans (hy6.cell 2), (hW.cell (p := ⟨n6, 3, none⟩) hy6.lt).trans (hy6.cell 3), (hW.cell (p := ⟨n6, 4, none⟩) hy6.lt).trans (hy6.cell 4), (hW.cell (p := ⟨n6, 5, none⟩) hy6.lt).trans (hy6.cell 5), (hW.cell (p := ⟨n6, 6, none⟩) hy6.lt).trans (hy6.cell 6), (hW.cell (p := ⟨n6, 7, none⟩) hy6.lt).trans (hy6.cell 7), (hW.cell (p := ⟨w2.heap.size, 0, none⟩) hbS6.lt).trans (hbS6.cell 0), (hW.cell (p := ⟨w2.heap.size, 1, none⟩) hbS6.lt).trans (hbS6.cell 1), (hW.cell (p := ⟨w2.heap.size, 2, none⟩) hbS6.lt).trans (hbS6.cell 2), (hW.cell (p := ⟨w2.heap.size, 3, none⟩) hbS6.lt).trans (hbS6.cell 3), (hW.cell (p := ⟨w2.heap.size, 4, none⟩) hbS6.lt).trans (hbS6.cell 4), (hW.cell (p := ⟨w2.heap.size, 5, none⟩) hbS6.lt).trans (hbS6.cell 5), (hW.cell (p := ⟨w2.heap.size, 6, none⟩) hbS6.lt).trans (hbS6.cell 6), (hW.cell (p := ⟨w2.heap.size, 7, none⟩) hbS6.lt).trans (hbS6.cell 7)⟩
          have hdr : Below W6.heap.size W6 W6.drew := (Below.refl _ _).drew
          have hsz : ∀ W, Below W6.heap.size W6 W → W6.heap.size ≤ W.heap.size := fun W h => h.size
          have HM1 := HM.out.1
          generalize (eff a vol s).isSome = ok at *
          go_region_held3 (fun W => Below W6.heap.size W6 W ∧ W.cell? ⟨w.heap.size, 0, none⟩ = some (.int .i64 vol) ∧ W.cell? ⟨w.heap.size, 1, none⟩ = some (.int .i64 s) ∧ W.cell? ⟨n5, 0, none⟩ = some (.int .u8 y.b0) ∧ W.cell? ⟨n5, 1, none⟩ = some (.int .u8 y.b1) ∧ W.cell? ⟨n5, 2, none⟩ = some (.int .u8 y.b2) ∧ W.cell? ⟨n5, 3, none⟩ = some (.int .u8 y.b3) ∧ W.cell? ⟨n5, 4, none⟩ = some (.int .u8 y.b4) ∧ W.cell? ⟨n5, 5, none⟩ = some (.int .u8 y.b5) ∧ W.cell? ⟨n5, 6, none⟩ = some (.int .u8 y.b6) ∧ W.cell? ⟨n5, 7, none⟩ = some (.int .u8 y.b7) ∧ W.cell? ⟨n6, 0, none⟩ = some (.int .u8 y.b0) ∧ W.cell? ⟨n6, 1, none⟩ = some (.int .u8 y.b1) ∧ W.cell? ⟨n6, 2, none⟩ = some (.int .u8 y.b2) ∧ W.cell? ⟨n6, 3, none⟩ = some (.int .u8 y.b3) ∧ W.cell? ⟨n6, 4, none⟩ = some (.int .u8 y.b4) ∧ W.cell? ⟨n6, 5, none⟩ = some (.int .u8 y.b5) ∧ W.cell? ⟨n6, 6, none⟩ = some (.int .u8 y.b6) ∧ W.cell? ⟨n6, 7, none⟩ = some (.int .u8 y.b7) ∧ W.cell? ⟨w2.heap.size, 0, none⟩ = some (.int .u8 y.b0) ∧ W.cell? ⟨w2.heap.size, 1, none⟩ = some (.int .u8 y.b1) ∧ W.cell? ⟨w2.heap.size, 2, none⟩ = some (.int .u8 y.b2) ∧ W.cell? ⟨w2.heap.size, 3, none⟩ = some (.int .u8 y.b3) ∧ W.cell? ⟨w2.heap.size, 4, none⟩ = some (.int .u8 y.b4) ∧ W.cell? ⟨w2.heap.size, 5, none⟩ = some (.int .u8 y.b5) ∧ W.cell? ⟨w2.heap.size, 6, none⟩ = some (.int .u8 y.b6) ∧ W.cell? ⟨w2.heap.size, 7, none⟩ = some (.int .u8 y.b7))
            (first | (exact hD _ hS3) | (exact hD _ hS2) | (exact hD _ hS1) | (exact hD _ hdr) | assumption | go_keep)
            (first | (go_at_call 24; refine (extC_any v2 (foldW a) vol _ Any (X6.below hdr) hflen).mono ?_; rintro e w7 ⟨v7, rfl, X7, B7⟩; have hS1 : Below W6.heap.size W6 w7 := below_then hdr (hsz _ hdr) B7) | (go_at_call 32; refine (contains_any v7 _ s _ _ X7).mono ?_; rintro e w8 ⟨rfl, B8⟩; rw [HM1]; have hS2 : Below W6.heap.size W6 w8 := below_then hS1 (hsz _ hS1) B8) | (go_at_call 13; refine (awake_any _).mono ?_; rintro e w9 ⟨rfl, B9⟩; have hS3 : Below W6.heap.size W6 w9 := below_then hS2 (hsz _ hS2) B9))
          go_wp2
          go_ret
          exact ⟨rfl, below_then G6 G6.size hS3⟩
    · have hz' : (foldI a != 0) = true := by simpa using hF
      go_wp2_with (first | (go_at_call 13; refine (awake_any _).mono ?_; rintro e w99 ⟨rfl, B99⟩))
      go_ret
      exact ⟨rfl, below_then G2 G2.size B99⟩
end Go.Proofs.Ytoifinmcoldidaa
