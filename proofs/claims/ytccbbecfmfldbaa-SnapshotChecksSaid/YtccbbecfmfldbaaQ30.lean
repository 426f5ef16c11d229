import Derived.Test.YtccbbecfmfldbaaQ29
import Derived.Test.YtccbbecfmfldbaaQ17
import Derived.BigQuiet
import Derived.Deep.RegionHeld3
set_option maxRecDepth 100000
set_option linter.unusedVariables false
set_option linter.unusedSimpArgs false
namespace Go.Proofs.Ytccbbecfmfldbaa
open Go.RowKit Go.Mm Sb

/-! ### the reference: snapshots: Check (printed by mkchk36.py) -/
set_option maxHeartbeats 16000000 in
theorem ref36Check_any (vc vi : Value) (s : Snaps) (w : World) (S T : Nat → Prop) (hc : RImg w S vc s.cur) (hi : RSnaps w T vi s.items) (hl : s.cur.length ≤ 100000) :
    Calls Try.prog 20 #[.agg #[vc, vi]] w fun e w' => e = .returned (.int .i64 (chkS s)) ∧ Below w.heap.size w w' := by
  obtain ⟨cur, items⟩ := s
  simp only at *
  obtain ⟨Ac, cc, rfl, hcc, hcm⟩ := hc.val
  obtain ⟨Ai, ci, rfl, hic, him⟩ := hi.val
  unfold maxLen at hcm him
  have BA : Below w.heap.size w (w.alloc (.cells #[.slice Ac cur.length cc, .slice Ai items.length ci] 26)) := (Below.refl _ _).alloc (Nat.le_refl _) _
  have K0 : Blk (w.alloc (.cells #[.slice Ac cur.length cc, .slice Ai items.length ci] 26)) w.heap.size 26 #[.slice Ac cur.length cc, .slice Ai items.length ci] := Blk.new _ _ _
  have hcl := refImgCheck_any (.slice Ac cur.length cc) cur _ S (hc.below BA) hl
  go_enter Try.func20, Try.ntmps20
  go_wp2_with fail
  refine hcl.mono ?_
  rintro e w1 ⟨rfl, hb1⟩
  clear hcl
  have B1 := below_then BA BA.size hb1
  have K1 := K0.below hb1
  clear K0 BA hb1
  by_cases hz : sizesI (lens cur) = 0
  · have hcs : chkS ⟨cur, items⟩ = (if 1024 < items.length then 6 else chkSn (lens cur) (-1) 0 items) := by unfold chkS; rw [if_pos hz]
    rw [hz]
    obtain ⟨x0, x1, x2, x3⟩ := K1.two
    have l1 := K1.lt
    by_cases h1024 : 1024 < items.length
    · rw [if_pos h1024] at hcs
      have t1 := decide_eq_true (show (1024 : Int) < (items.length : Int) by omega)
      have HCS := Lib.hid hcs
      clear hcs
      go_wp2
      go_ret
      exact ⟨ret_int (by rw [HCS.out]), B1⟩
    · rw [if_neg h1024] at hcs
      have t1 := decide_eq_false (show ¬ (1024 : Int) < (items.length : Int) by omega)
      have HCS := Lib.hid hcs
      clear hcs
      go_wp2
      clear x0 x1 x2 x3
      go_loopw [4] (fun i wr => ∃ k : Nat, k ≤ items.length ∧ i = .int .i64 k ∧ chkS ⟨cur, items⟩ = chkSn (lens cur) (lnS items k) (ltS items k) (items.drop k) ∧ Below w1.heap.size w1 wr) (fun i _ => items.length - (intOf i).toNat)
      case atStart => exact ⟨0, Nat.zero_le _, rfl, HCS.out, Below.refl _ _⟩
      case round =>
        obtain ⟨k, hk, rfl, hI, hbw⟩ := hrel
        have hb := below_then B1 B1.size hbw
        have hbs := hb.size
        have KA := K1.below hbw
        obtain ⟨x0, x1, x2, x3⟩ := KA.two
        have gl := hbw.size
        have m0 : w.heap.size < wr.heap.size := by omega
        by_cases hlt : k < items.length
        · obtain ⟨x, hx⟩ : ∃ x, items[k]? = some x := ⟨_, List.getElem?_eq_getElem hlt⟩
          obtain ⟨b, off, cs, hA, hbl, _, hll, hccc, hn64, ht64, dv, rfl, hd⟩ := hi.at_ hx
          have hst := chkSn_step (S := lens cur) hx
          rw [← hI] at hst
          obtain ⟨num, time, saved⟩ := x
          simp only at *
          obtain ⟨Ad, dcap, rfl, hdc, hdm⟩ := hd.val
          have c0 := (hb.cell (p := ⟨b, off + k * 3 + 0, none⟩) hbl).trans (hccc 0 (by omega))
          have c1 := (hb.cell (p := ⟨b, off + k * 3 + 1, none⟩) hbl).trans (hccc 1 (by omega))
          have c2 := (hb.cell (p := ⟨b, off + k * 3 + 2, none⟩) hbl).trans (hccc 2 (by omega))
          simp at c0 c1 c2
          have hbl2 : b < wr.heap.size := by omega
          clear hccc hll
          have BX : Below w.heap.size w (wr.alloc (.cells #[.int .i64 num, .int .i64 time, .slice Ad saved.length dcap] 88)) := hb.alloc hbs _
          have hbwx : Below w1.heap.size w1 (wr.alloc (.cells #[.int .i64 num, .int .i64 time, .slice Ad saved.length dcap] 88)) := hbw.alloc gl _
          rcases k with _ | m
          · subst hA
            rw [show lnS items 0 = -1 from rfl, show ltS items 0 = 0 from rfl] at hst
            simp at c0 c1 c2
            have HI := Lib.hid hst
            clear hst hI hx
            by_cases h1 : num < 0
            · go_wp2
              go_ret
              exact ⟨ret_int (by rw [HI.out, if_pos (by simp [inT]; omega)]), BX⟩
            · have h1' : 0 ≤ num := by omega
              by_cases h2 : (1073741824 : Int) < num
              · go_wp2
                go_ret
                exact ⟨ret_int (by rw [HI.out, if_pos (by simp [inT]; omega)]), BX⟩
              · have h2' : num ≤ 1073741824 := by omega
                go_upto_region 12 with fail
                have KX : Blk (wr.alloc (.cells #[.int .i64 num, .int .i64 time, .slice Ad saved.length dcap] 88)) wr.heap.size 88 #[.int .i64 num, .int .i64 time, .slice Ad saved.length dcap] := Blk.new _ _ _
                have BXr : Below wr.heap.size wr (wr.alloc (.cells #[.int .i64 num, .int .i64 time, .slice Ad saved.length dcap] 88)) := (Below.refl _ _).alloc (Nat.le_refl _) _
                have K0x := KA.below BXr
                have hcx := hc.below BX
                have hdx := hd.below BX
                clear x0 x1 x2 x3 c0 c1 c2 KA BXr
                have hgx : wr.heap.size < (wr.alloc (.cells #[.int .i64 num, .int .i64 time, .slice Ad saved.length dcap] 88)).heap.size := KX.lt
                have hbx : b < (wr.alloc (.cells #[.int .i64 num, .int .i64 time, .slice Ad saved.length dcap] 88)).heap.size := by simp; omega
                generalize wr.heap.size = gx at *
                generalize wr.alloc (.cells #[.int .i64 num, .int .i64 time, .slice Ad saved.length dcap] 88) = wx at *
                obtain ⟨p0, p1, p2, p3, p4, p5⟩ := KX.three
                obtain ⟨x0, x1, x2, x3⟩ := K0x.two
                have hwx : w.heap.size < wx.heap.size := K0x.lt
                go_quiet (fail)
                go_upto_region 14 with fail
                by_cases h4 : time < 0
                · have t4 := decide_eq_true h4
                  go_quiet (fail)
                  go_wp2_with fail
                  go_ret
                  exact ⟨ret_int (by rw [HI.out, if_neg (by simp [inT]; omega), if_neg (by omega), if_pos (by simp [inT]; omega)]), pw_below_drewN BX _⟩
                · have t4 := decide_eq_false h4
                  by_cases h5 : (1073741824 : Int) < time
                  · have t5 := decide_eq_true h5
                    go_quiet (fail)
                    go_wp2_with fail
                    go_ret
                    exact ⟨ret_int (by rw [HI.out, if_neg (by simp [inT]; omega), if_neg (by omega), if_pos (by simp [inT]; omega)]), pw_below_drewN BX _⟩
                  · have t5 := decide_eq_false h5
                    go_quiet (fail)
                    go_upto_region 16 with fail
                    have hD : ∀ W, Below wx.heap.size wx W → (Below wx.heap.size wx W ∧ W.cell? ⟨gx, 2, none⟩ = some (.slice Ad saved.length dcap) ∧ W.cell? ⟨w.heap.size, 0, none⟩ = some (.slice Ac cur.length cc)) := fun W hW =>
                      ⟨hW, (hW.cell (p := ⟨gx, 2, none⟩) KX.lt).trans (KX.cell 2), (hW.cell (p := ⟨w.heap.size, 0, none⟩) K0x.lt).trans (K0x.cell 0)⟩
                    have BZ : ∀ n, Below wx.heap.size wx (wx.drewN n).drew := fun n => (pw_below_drewN (Below.refl _ _) _).drew
                    have BN : ∀ n, Below wx.heap.size wx (wx.drewN n) := fun n => pw_below_drewN (Below.refl _ _) _
                    have BY : ∀ n m, Below wx.heap.size wx ((wx.drewN n).drewN m).drew := fun n m => (pw_below_drewN (pw_below_drewN (Below.refl _ _) _) _).drew
                    clear p0 p1 p2 p3 p4 p5 x0 x1 x2 x3
                    go_region_held3 (fun W => Below wx.heap.size wx W ∧ W.cell? ⟨gx, 2, none⟩ = some (.slice Ad saved.length dcap) ∧ W.cell? ⟨w.heap.size, 0, none⟩ = some (.slice Ac cur.length cc))
                      (first | (exact hD _ hS2) | (exact hD _ hS1) | (exact hD _ (BZ _)) | (exact hD _ (BY _ _)) | assumption | go_keep)
                      (first | (go_at_call 62; refine (refSizesOf_any _ cur _ S (hcx.below (BN _)) hl).mono ?_; rintro e w8 ⟨v8, rfl, X8, B8⟩; have hS1 : Below wx.heap.size wx w8 := below_then (BN _) (BN _).size B8) | (go_at_call 61; refine (refCheck_any _ v8 saved (lens cur) _ T _ (hdx.below hS1) X8).mono ?_; rintro e w9 ⟨rfl, B9⟩; have hS2 : Below wx.heap.size wx w9 := below_then hS1 hS1.size B9))
                    have BF := below_then BX BX.size hS2
                    have WF := below_then hbwx hbwx.size hS2
                    by_cases hi5 : refChk saved (lens cur) = 0
                    · rw [hi5]
                      have H5 := Lib.hid hi5
                      clear hi5
                      go_wp2_with fail
                      go_roundw
                      case rel => exact ⟨1, by omega, by go_num, by rw [HI.out, if_neg (by simp [inT]; omega), if_neg (by omega), if_neg (by simp [inT]; omega), if_pos H5.out], WF⟩
                      case measure => simp [intOf]; omega
                    · have hi5' : (refChk saved (lens cur) != 0) = true := by simpa using hi5
                      go_wp2_with fail
                      go_ret
                      exact ⟨ret_int (by rw [HI.out, if_neg (by simp [inT]; omega), if_neg (by omega), if_neg (by simp [inT]; omega), if_neg hi5]), BF⟩
          · obtain ⟨y, hy⟩ : ∃ y, items[m]? = some y := ⟨_, List.getElem?_eq_getElem (by omega)⟩
            rw [lnS_succ hy, ltS_succ hy] at hst
            obtain ⟨b2, off2, cs2, hA2, hbl3, _, hll, hccc, hyn64, hyt64, dv2, rfl, hd2⟩ := hi.at_ hy
            obtain ⟨rfl, rfl⟩ : b = b2 ∧ off = off2 := by rw [hA] at hA2; injection hA2 with e; injection e with e1 e2; exact ⟨e1, e2⟩
            subst hA
            clear hA2
            obtain ⟨yn, yt, ys⟩ := y
            simp only at *
            have e0 := (hb.cell (p := ⟨b, off + m * 3 + 0, none⟩) hbl).trans (hccc 0 (by omega))
            have e1 := (hb.cell (p := ⟨b, off + m * 3 + 1, none⟩) hbl).trans (hccc 1 (by omega))
            have e2 := (hb.cell (p := ⟨b, off + m * 3 + 2, none⟩) hbl).trans (hccc 2 (by omega))
            simp at e0 e1 e2
            clear hccc hll hbl3
            have i2 : (m : Int) + 1 < items.length := by omega
            have i3 : ((m : Int) + 1).toNat = m + 1 := by omega
            have i4 : (0 : Int) ≤ (m : Int) + 1 := by omega
            have i5 : (0 : Int) < (m : Int) + 1 := by omega
            have HI := Lib.hid hst
            clear hst hI hx hy
            by_cases h1 : num < 0
            · go_wp2
              go_ret
              exact ⟨ret_int (by rw [HI.out, if_pos (by simp [inT]; omega)]), BX⟩
            · have h1' : 0 ≤ num := by omega
              by_cases h2 : (1073741824 : Int) < num
              · go_wp2
                go_ret
                exact ⟨ret_int (by rw [HI.out, if_pos (by simp [inT]; omega)]), BX⟩
              · have h2' : num ≤ 1073741824 := by omega
                go_upto_region 12 with fail
                have KX : Blk (wr.alloc (.cells #[.int .i64 num, .int .i64 time, .slice Ad saved.length dcap] 88)) wr.heap.size 88 #[.int .i64 num, .int .i64 time, .slice Ad saved.length dcap] := Blk.new _ _ _
                have BXr : Below wr.heap.size wr (wr.alloc (.cells #[.int .i64 num, .int .i64 time, .slice Ad saved.length dcap] 88)) := (Below.refl _ _).alloc (Nat.le_refl _) _
                have K0x := KA.below BXr
                have hcx := hc.below BX
                have hdx := hd.below BX
                have d0 := (BXr.cell (p := ⟨b, off + m * 3, none⟩) (by show b < wr.heap.size; omega)).trans e0
                have d1 := (BXr.cell (p := ⟨b, off + m * 3 + 1, none⟩) (by show b < wr.heap.size; omega)).trans e1
                clear x0 x1 x2 x3 c0 c1 c2 e0 e1 e2 KA BXr
                have hgx : wr.heap.size < (wr.alloc (.cells #[.int .i64 num, .int .i64 time, .slice Ad saved.length dcap] 88)).heap.size := KX.lt
                have hbx : b < (wr.alloc (.cells #[.int .i64 num, .int .i64 time, .slice Ad saved.length dcap] 88)).heap.size := by simp; omega
                generalize wr.heap.size = gx at *
                generalize wr.alloc (.cells #[.int .i64 num, .int .i64 time, .slice Ad saved.length dcap] 88) = wx at *
                obtain ⟨p0, p1, p2, p3, p4, p5⟩ := KX.three
                obtain ⟨x0, x1, x2, x3⟩ := K0x.two
                have hwx : w.heap.size < wx.heap.size := K0x.lt
                by_cases h3 : num ≤ yn
                · have t3 := decide_eq_true h3
                  go_quiet (fail)
                  go_wp2_with fail
                  go_ret
                  exact ⟨ret_int (by rw [HI.out, if_neg (by simp [inT]; omega), if_pos (by omega)]), pw_below_drewN BX _⟩
                · have t3 := decide_eq_false h3
                  go_quiet (fail)
                  go_upto_region 14 with fail
                  by_cases h4 : time < 0
                  · have t4 := decide_eq_true h4
                    go_quiet (fail)
                    go_wp2_with fail
                    go_ret
                    exact ⟨ret_int (by rw [HI.out, if_neg (by simp [inT]; omega), if_neg (by omega), if_pos (by simp [inT]; omega)]), pw_below_drewN BX _⟩
                  · have t4 := decide_eq_false h4
                    by_cases h5 : (1073741824 : Int) < time
                    · have t5 := decide_eq_true h5
                      go_quiet (fail)
                      go_wp2_with fail
                      go_ret
                      exact ⟨ret_int (by rw [HI.out, if_neg (by simp [inT]; omega), if_neg (by omega), if_pos (by simp [inT]; omega)]), pw_below_drewN BX _⟩
                    · have t5 := decide_eq_false h5
                      by_cases h6 : time < yt
                      · have t6 := decide_eq_true h6
                        go_quiet (fail)
                        go_wp2_with fail
                        go_ret
                        exact ⟨ret_int (by rw [HI.out, if_neg (by simp [inT]; omega), if_neg (by omega), if_pos (by simp [inT]; omega)]), pw_below_drewN BX _⟩
                      · have t6 := decide_eq_false h6
                        go_quiet (fail)
                        go_upto_region 16 with fail
                        have hD : ∀ W, Below wx.heap.size wx W → (Below wx.heap.size wx W ∧ W.cell? ⟨gx, 2, none⟩ = some (.slice Ad saved.length dcap) ∧ W.cell? ⟨w.heap.size, 0, none⟩ = some (.slice Ac cur.length cc)) := fun W hW =>
                          ⟨hW, (hW.cell (p := ⟨gx, 2, none⟩) KX.lt).trans (KX.cell 2), (hW.cell (p := ⟨w.heap.size, 0, none⟩) K0x.lt).trans (K0x.cell 0)⟩
                        have BZ : ∀ n, Below wx.heap.size wx (wx.drewN n).drew := fun n => (pw_below_drewN (Below.refl _ _) _).drew
                        have BN : ∀ n, Below wx.heap.size wx (wx.drewN n) := fun n => pw_below_drewN (Below.refl _ _) _
                        have BY : ∀ n m, Below wx.heap.size wx ((wx.drewN n).drewN m).drew := fun n m => (pw_below_drewN (pw_below_drewN (Below.refl _ _) _) _).drew
                        clear p0 p1 p2 p3 p4 p5 x0 x1 x2 x3
                        go_region_held3 (fun W => Below wx.heap.size wx W ∧ W.cell? ⟨gx, 2, none⟩ = some (.slice Ad saved.length dcap) ∧ W.cell? ⟨w.heap.size, 0, none⟩ = some (.slice Ac cur.length cc))
                          (first | (exact hD _ hS2) | (exact hD _ hS1) | (exact hD _ (BZ _)) | (exact hD _ (BY _ _)) | assumption | go_keep)
                          (first | (go_at_call 62; refine (refSizesOf_any _ cur _ S (hcx.below (BN _)) hl).mono ?_; rintro e w8 ⟨v8, rfl, X8, B8⟩; have hS1 : Below wx.heap.size wx w8 := below_then (BN _) (BN _).size B8) | (go_at_call 61; refine (refCheck_any _ v8 saved (lens cur) _ T _ (hdx.below hS1) X8).mono ?_; rintro e w9 ⟨rfl, B9⟩; have hS2 : Below wx.heap.size wx w9 := below_then hS1 hS1.size B9))
                        have BF := below_then BX BX.size hS2
                        have WF := below_then hbwx hbwx.size hS2
                        by_cases hi5 : refChk saved (lens cur) = 0
                        · rw [hi5]
                          have H5 := Lib.hid hi5
                          clear hi5
                          go_wp2_with fail
                          go_roundw
                          case rel => exact ⟨m + 2, by omega, by go_num, by rw [HI.out, if_neg (by simp [inT]; omega), if_neg (by omega), if_neg (by simp [inT]; omega), if_pos H5.out], WF⟩
                          case measure => simp [intOf]; omega
                        · have hi5' : (refChk saved (lens cur) != 0) = true := by simpa using hi5
                          go_wp2_with fail
                          go_ret
                          exact ⟨ret_int (by rw [HI.out, if_neg (by simp [inT]; omega), if_neg (by omega), if_neg (by simp [inT]; omega), if_neg hi5]), BF⟩
        · obtain rfl : k = items.length := by omega
          go_wp2
          go_ret
          exact ⟨ret_int (by rw [hI, chkSn_end]), hb⟩
  · have hcs : chkS ⟨cur, items⟩ = sizesI (lens cur) := by unfold chkS; rw [if_neg hz]
    have hz' : (sizesI (lens cur) != 0) = true := by simpa using hz
    have HCS := Lib.hid hcs
    clear hcs
    go_wp2
    go_ret
    exact ⟨ret_int (by rw [HCS.out]), B1⟩
end Go.Proofs.Ytccbbecfmfldbaa

set_option maxRecDepth 100000
set_option linter.unusedVariables false
set_option linter.unusedSimpArgs false
namespace Go.Proofs.Ytccbbecfmfldbaa
open Go.RowKit Go.Mm Sb

/-! ### the reference: snapshots: Cost -/
set_option maxHeartbeats 4000000 in
theorem ref36Cost_any (vc vi : Value) (s : Snaps) (w : World) (S T : Nat → Prop) (hc : RImg w S vc s.cur) (hi : RSnaps w T vi s.items) (hl : s.cur.length ≤ 100000) :
    Calls Try.prog 22 #[.agg #[vc, vi]] w fun e w' => e = .returned (.int .i64 (costS s)) ∧ Below w.heap.size w w' := by
  obtain ⟨Ac, cc, rfl, hcc, hcm⟩ := hc.val
  obtain ⟨Ai, ci, rfl, hic, him⟩ := hi.val
  unfold maxLen at hcm him
  have BA : Below w.heap.size w (w.alloc (.cells #[.slice Ac s.cur.length cc, .slice Ai s.items.length ci] 26)) := (Below.refl _ _).alloc (Nat.le_refl _) _
  have K0 : Blk (w.alloc (.cells #[.slice Ac s.cur.length cc, .slice Ai s.items.length ci] 26)) w.heap.size 26 #[.slice Ac s.cur.length cc, .slice Ai s.items.length ci] := Blk.new _ _ _
  have hcl := ref36Check_any _ _ s _ S T (hc.below BA) (hi.below BA) hl
  go_enter Try.func22, Try.ntmps22
  go_wp2_with fail
  refine hcl.mono ?_
  rintro e w1 ⟨rfl, hb1⟩
  clear hcl
  have B1 := below_then BA BA.size hb1
  have K1 := K0.below hb1
  have l1 := K1.lt
  obtain ⟨x0, x1, x2, x3⟩ := K1.two
  clear K0 BA hb1
  by_cases hz : chkS s = 0
  · have hcs : costS s = (costK s.items s.items.length : Nat) := by unfold costS costK; rw [if_pos hz, List.take_length]
    have hsm := (chkS_ok hz).small
    have hlen := hsm.len
    have hsec := hsm.sec
    rw [hz]
    have HC := Lib.hid hcs
    clear hcs hsm hz
    obtain ⟨cur, items⟩ := s
    simp only at *
    go_wp2
    clear x0 x1 x2 x3
    go_loopw [3, 4] (fun n i wr => ∃ k : Nat, k ≤ items.length ∧ i = .int .i64 k ∧ n = .int .i64 (costK items k : Nat) ∧ Below w1.heap.size w1 wr) (fun _ i _ => items.length - (intOf i).toNat)
    case atStart => exact ⟨0, Nat.zero_le _, rfl, rfl, Below.refl _ _⟩
    case round =>
      obtain ⟨k, hk, rfl, rfl, hbw⟩ := hrel
      have hb := below_then B1 B1.size hbw
      have hbs := hb.size
      have KA := K1.below hbw
      obtain ⟨x0, x1, x2, x3⟩ := KA.two
      have m0 := KA.lt
      by_cases hlt : k < items.length
      · obtain ⟨x, hx⟩ : ∃ x, items[k]? = some x := ⟨_, List.getElem?_eq_getElem hlt⟩
        obtain ⟨b, off, cs, rfl, hbl, _, hll, hccc, hn64, ht64, dv, rfl, hd⟩ := hi.at_ hx
        have hs1 := hsec x (List.mem_of_getElem? hx)
        have hck := costK_le hsec k
        have hcs := costK_succ hx
        obtain ⟨num, time, saved⟩ := x
        simp only at *
        obtain ⟨Ad, dcap, rfl, hdc, hdm⟩ := hd.val
        have c2 := (hb.cell (p := ⟨b, off + k * 3 + 2, none⟩) hbl).trans (hccc 2 (by omega))
        simp at c2
        clear hccc hll hx
        have hsc := sectorsR_any _ saved _ T (hd.below hb) (by omega)
        have HS := Lib.hid hcs
        clear hcs hd
        have hle : costK items k + secN saved ≤ 100000000 := by omega
        generalize hcc' : costK items k = ck at *
        generalize secN saved = sv at *
        clear hck hs1
        go_wp2_with (first | (go_at_call 64; refine hsc.mono ?_; rintro e w8 ⟨rfl, B8⟩))
        go_roundw
        case rel => exact ⟨k + 1, by omega, by go_num, by rw [HS.out]; simp, below_then hbw hbw.size B8⟩
        case measure => simp [intOf]; omega
      · obtain rfl : k = items.length := by omega
        go_wp2
        go_ret
        exact ⟨ret_int (by rw [HC.out]), hb⟩
  · have hcs : costS s = 0 := by unfold costS; rw [if_neg hz]
    have hz' : (chkS s != 0) = true := by simpa using hz
    have HC := Lib.hid hcs
    clear hcs
    go_wp2
    go_ret
    exact ⟨ret_int (by rw [HC.out]), B1⟩
end Go.Proofs.Ytccbbecfmfldbaa

set_option maxRecDepth 100000
set_option linter.unusedVariables false
set_option linter.unusedSimpArgs false
namespace Go.Proofs.Ytccbbecfmfldbaa
open Go.RowKit Go.Mm Sb

/-! ### snapshots in a block -/
def SnK (w : World) (g : Nat) (vc vi : Value) (s : Snaps) : Prop := Blk w g 26 #[vc, vi] ∧ RImg w Any vc s.cur ∧ RSnaps w Any vi s.items
theorem SnK.below {w w' : World} {g : Nat} {vc vi : Value} {s : Snaps} (h : SnK w g vc vi s) (hb : Below w.heap.size w w') : SnK w' g vc vi s := ⟨h.1.below hb, h.2.1.below hb, h.2.2.below hb⟩
theorem SnK.new {w : World} {vc vi : Value} {s : Snaps} (h1 : RImg w Any vc s.cur) (h2 : RSnaps w Any vi s.items) : SnK (w.alloc (.cells #[vc, vi] 26)) w.heap.size vc vi s :=
  ⟨Blk.new _ _ _, h1.below ((Below.refl _ _).alloc (Nat.le_refl _) _), h2.below ((Below.refl _ _).alloc (Nat.le_refl _) _)⟩
theorem SnK.lt {w : World} {g : Nat} {vc vi : Value} {s : Snaps} (h : SnK w g vc vi s) : g < w.heap.size := h.1.lt
/-- The two cells, in every later world. -/
theorem SnK.cells {w W : World} {g : Nat} {vc vi : Value} {s : Snaps} (h : SnK w g vc vi s) (hb : Below w.heap.size w W) : W.cell? ⟨g, 0, none⟩ = some vc ∧ W.cell? ⟨g, 1, none⟩ = some vi := by
  obtain ⟨z0, z1, _, _⟩ := (h.1.below hb).two
  exact ⟨z0, z1⟩
/-- (snapshots, error), as the law's walks want it: slices outright, and read by anyone. -/
theorem RetS.out {s : Snaps} {n : Int} {w w' : World} {e : Ending} (h : RetS s n w e w') : ∃ A c B d, e = .returned (.tuple #[.agg #[.slice A s.cur.length c, .slice B s.items.length d], .int .i64 n]) ∧ RImg w' Any (.slice A s.cur.length c) s.cur ∧ RSnaps w' Any (.slice B s.items.length d) s.items ∧ Below w.heap.size w w' := by
  obtain ⟨cv, iv, rfl, h1, h2, hb⟩ := h
  obtain ⟨A, c, rfl, _, _⟩ := h1.val
  obtain ⟨B, d, rfl, _, _⟩ := h2.val
  exact ⟨A, c, B, d, rfl, h1.more (fun _ _ _ => trivial), h2.more (fun _ _ _ => trivial), hb⟩
end Go.Proofs.Ytccbbecfmfldbaa

set_option maxRecDepth 100000
set_option linter.unusedVariables false
set_option linter.unusedSimpArgs false
namespace Go.Proofs.Ytccbbecfmfldbaa
open Go.RowKit Go.Mm Sb

/-! ### SnapshotChecks -/
set_option maxHeartbeats 8000000 in
theorem snChecks_any (vc vi : Value) (s : Snaps) (w : World) (hc : RImg w Any vc s.cur) (hi : RSnaps w Any vi s.items) :
    Calls Try.prog 3 #[.agg #[vc, vi]] w fun e w' => e = .returned (.bool true) ∧ Below w.heap.size w w' := by
  have BA : Below w.heap.size w (w.alloc (.cells #[vc, vi] 26)) := (Below.refl _ _).alloc (Nat.le_refl _) _
  have KA := SnK.new hc hi
  obtain ⟨Ac, cc, rfl, _, _⟩ := hc.val
  obtain ⟨Ai, ci, rfl, _, _⟩ := hi.val
  clear hc hi
  go_enter Try.func3, Try.ntmps3
  go_wp2_with fail
  refine (ref36Few_any _ _ s _ _ _ KA.2.1 KA.2.2).mono ?_
  rintro e w1 ⟨q, rfl, hq, B1⟩
  have G1 := below_then BA BA.size B1
  replace KA := KA.below B1
  clear BA B1
  cases q with
  | false =>
    go_wp2_with fail
    refine (awake36_any _).mono ?_
    rintro e w2 ⟨rfl, B2⟩
    go_wp2_with fail
    go_ret
    exact ⟨rfl, below_then G1 G1.size B2⟩
  | true =>
    have hl9 : s.cur.length ≤ 100000 := by have := (hq rfl).2.2.1; omega
    clear hq
    have gA := KA.lt
    obtain ⟨x0, x1⟩ := KA.cells (Below.refl _ _)
    go_wp2_with fail
    refine ((snNew_any _ s.cur _ _ KA.2.1 hl9).mono fun e w' h => h.out).mono ?_
    clear x0 x1
    rintro e w2 ⟨A2, c2, B2, d2, rfl, X1, X2, hb2⟩
    have G2 := below_then G1 G1.size hb2
    have KB := SnK.new X1 X2
    have BB : Below w2.heap.size w2 (w2.alloc (.cells #[.slice A2 (newS s.cur).cur.length c2, .slice B2 (newS s.cur).items.length d2] 26)) := (Below.refl _ _).alloc (Nat.le_refl _) _
    replace G2 := below_then G2 G2.size BB
    replace KA := (KA.below hb2).below BB
    have gA := KA.lt
    obtain ⟨x0, x1⟩ := KA.cells (Below.refl _ _)
    clear hb2 BB X1 X2
    go_upto_region 4 with fail
    generalize w2.alloc (.cells #[.slice A2 (newS s.cur).cur.length c2, .slice B2 (newS s.cur).items.length d2] 26) = wx at *
    generalize w2.heap.size = gb at *
    go_wp2_with fail
    refine ((ref36New_any _ s.cur _ _ KA.2.1 hl9).mono fun e w' h => h.out).mono ?_
    clear x0 x1
    rintro e w3 ⟨A3, c3, B3, d3, rfl, X1, X2, hb3⟩
    have G3 := below_then G2 G2.size hb3
    have KC := SnK.new X1 X2
    have BB : Below w3.heap.size w3 (w3.alloc (.cells #[.slice A3 (newS s.cur).cur.length c3, .slice B3 (newS s.cur).items.length d3] 26)) := (Below.refl _ _).alloc (Nat.le_refl _) _
    replace G3 := below_then G3 G3.size BB
    replace KA := (KA.below hb3).below BB
    replace KB := (KB.below hb3).below BB
    have gA := KA.lt
    clear hb3 BB X1 X2
    go_upto_region 5 with fail
    generalize w3.alloc (.cells #[.slice A3 (newS s.cur).cur.length c3, .slice B3 (newS s.cur).items.length d3] 26) = wy at *
    generalize w3.heap.size = gc at *
    have hD : ∀ W, Below wy.heap.size wy W → (Below wy.heap.size wy W ∧ (W.cell? ⟨w.heap.size, 0, none⟩ = some (.slice Ac s.cur.length cc) ∧ W.cell? ⟨w.heap.size, 1, none⟩ = some (.slice Ai s.items.length ci)) ∧ (W.cell? ⟨gb, 0, none⟩ = some (.slice A2 (newS s.cur).cur.length c2) ∧ W.cell? ⟨gb, 1, none⟩ = some (.slice B2 (newS s.cur).items.length d2)) ∧ (W.cell? ⟨gc, 0, none⟩ = some (.slice A3 (newS s.cur).cur.length c3) ∧ W.cell? ⟨gc, 1, none⟩ = some (.slice B3 (newS s.cur).items.length d3))) := fun W hW =>
      ⟨hW, KA.cells hW, KB.cells hW, KC.cells hW⟩
    have hdr : Below wy.heap.size wy wy.drew := (Below.refl _ _).drew
    generalize newS s.cur = ns at *
    go_region_held3 (fun W => Below wy.heap.size wy W ∧ (W.cell? ⟨w.heap.size, 0, none⟩ = some (.slice Ac s.cur.length cc) ∧ W.cell? ⟨w.heap.size, 1, none⟩ = some (.slice Ai s.items.length ci)) ∧ (W.cell? ⟨gb, 0, none⟩ = some (.slice A2 ns.cur.length c2) ∧ W.cell? ⟨gb, 1, none⟩ = some (.slice B2 ns.items.length d2)) ∧ (W.cell? ⟨gc, 0, none⟩ = some (.slice A3 ns.cur.length c3) ∧ W.cell? ⟨gc, 1, none⟩ = some (.slice B3 ns.items.length d3)))
      (first | (exact hD _ hdr) | (exact hD _ hS6) | (exact hD _ hS5) | (exact hD _ hS4) | (exact hD _ hS3) | (exact hD _ hS2) | (exact hD _ hS1) | assumption | go_keep)
      (first | (go_at_call 15; refine (awake36_any _).mono ?_; rintro e u1 ⟨rfl, hb1⟩; have hS1 : Below wy.heap.size wy u1 := below_then hdr hdr.size hb1) | (go_at_call 18; refine (ref36Same_any _ _ _ _ ns ns _ _ _ _ _ (KB.2.1.below hS1) (KB.2.2.below hS1) (KC.2.1.below hS1) (KC.2.2.below hS1)).mono ?_; rintro e u2 ⟨rfl, hb2⟩; rw [show decide (ns = ns) = true from decide_eq_true rfl]; have hS2 : Below wy.heap.size wy u2 := below_then hS1 hS1.size hb2) | (go_at_call 19; refine (snCheck_any _ _ s _ _ _ (KA.2.1.below hS2) (KA.2.2.below hS2) hl9).mono ?_; rintro e u3 ⟨rfl, hb3⟩; have hS3 : Below wy.heap.size wy u3 := below_then hS2 hS2.size hb3) | (go_at_call 20; refine (ref36Check_any _ _ s _ _ _ (KA.2.1.below hS3) (KA.2.2.below hS3) hl9).mono ?_; rintro e u4 ⟨rfl, hb4⟩; have hS4 : Below wy.heap.size wy u4 := below_then hS3 hS3.size hb4) | (go_at_call 21; refine (snCost_any _ _ s _ _ _ (KA.2.1.below hS4) (KA.2.2.below hS4) hl9).mono ?_; rintro e u5 ⟨rfl, hb5⟩; have hS5 : Below wy.heap.size wy u5 := below_then hS4 hS4.size hb5) | (go_at_call 22; refine (ref36Cost_any _ _ s _ _ _ (KA.2.1.below hS5) (KA.2.2.below hS5) hl9).mono ?_; rintro e u6 ⟨rfl, hb6⟩; have hS6 : Below wy.heap.size wy u6 := below_then hS5 hS5.size hb6))
    have HF := Lib.hid (below_then G3 G3.size hS6)
    go_wp2_with fail
    go_ret
    exact ⟨rfl, HF.out⟩
end Go.Proofs.Ytccbbecfmfldbaa
