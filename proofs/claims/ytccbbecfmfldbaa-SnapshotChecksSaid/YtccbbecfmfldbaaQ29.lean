import Derived.Test.YtccbbecfmfldbaaQ28
import Derived.Test.YtccbbecfmfldbaaQ16
import Derived.Test.YtccbbecfmfldbaaQ22
import Derived.BigQuiet
set_option maxRecDepth 100000
set_option linter.unusedVariables false
set_option linter.unusedSimpArgs false
namespace Go.Proofs.Ytccbbecfmfldbaa
open Go.RowKit Go.Mm Sb
set_option maxHeartbeats 16000000 in
theorem awake36_any (w : World) : Calls Try.prog 15 #[] w fun e w' => e = .returned (.bool true) ∧ Below w.heap.size w w' := by
  obtain ⟨i0, hi, hz0, hz1, hz2⟩ := info_parts infoS
  go_enter Try.func15, Try.ntmps15
  go_wp2_with (first | (refine wpList_make_full _ rfl _ _ 52 rfl w.heap.size 99 i0 _ 8 Try.underlying52 hi hz0 hz1 .i64 .i64 (4 : Int) (4 : Int) 4 rfl rfl rfl rfl (by rw [hz2]; omega) (by unfold maxLen; omega) (Nat.le_refl _) ?_; intro wm r1 r2))
  have hB : Below w.heap.size w wm := ⟨r2.os, r2.tape, r2.output, r2.size, fun i hi => r2.block i hi (by simp)⟩
  have hO : OwnSl 99 8 RSec wm w.heap.size (fun _ => False) (.slice (some ⟨w.heap.size, 0, none⟩) 4 4) (List.replicate 4 Sec.zero) := by
    refine ⟨List.replicate 4 (secCells Sec.zero), ?_, by simp, ?_, ?_⟩
    · rw [← zeros_cells]; exact r1
    · intro cs hc
      rw [List.eq_of_mem_replicate hc]; rfl
    · intro j cs x hj hx
      have h1 := List.eq_of_mem_replicate (List.mem_of_getElem? hj)
      have h2 := List.eq_of_mem_replicate (List.mem_of_getElem? hx)
      subst h1; subst h2; rfl
  have hR : RSecs wm Any (.slice (some ⟨w.heap.size, 0, none⟩) 4 4) [sec1 0, sec1 0, sec1 0, sec1 0] := hO.reads (fun _ _ _ => trivial)
  clear r1 r2 hO
  have BA : Below wm.heap.size wm (wm.alloc (.cells #[.slice (some ⟨w.heap.size, 0, none⟩) 4 4] 52)) := (Below.refl _ _).alloc (Nat.le_refl _) _
  have hcl := snNew_any _ _ (wm.alloc (.cells #[.slice (some ⟨w.heap.size, 0, none⟩) 4 4] 52)) Any (img1 (cap := 1) (Blk.new _ _ _) (hR.below BA)) (by decide)
  rw [e0_new.1, e0_new.2] at hcl
  go_wp2_with fail
  refine hcl.mono ?_
  rintro e w1 ⟨cv, iv, rfl, X1, X2, hb1⟩
  obtain ⟨A, c, rfl, _, _⟩ : ∃ A c, cv = .slice A 1 c ∧ _ ∧ _ := X1.val
  obtain ⟨B, d, rfl, _, _⟩ : ∃ B d, iv = .slice B 0 d ∧ _ ∧ _ := X2.val
  have B1 := below_then (below_then hB hB.size BA) (below_then hB hB.size BA).size hb1
  clear hcl hR hB BA hb1
  have BA : Below w1.heap.size w1 (w1.alloc (.cells #[.slice A 1 c, .slice B 0 d] 26)) := (Below.refl _ _).alloc (Nat.le_refl _) _
  have HA : AwK w w1.heap.size (w1.alloc (.cells #[.slice A 1 c, .slice B 0 d] 26)) (.slice A 1 c) (.slice B 0 d) (.slice A 1 c) (.slice B 0 d) e0 :=
    ⟨Blk.new _ _ _, ((X1.more (T := fun b => b ≠ w1.heap.size) (fun b hb _ => by omega)).below BA), ((X2.more (T := fun b => b ≠ w1.heap.size) (fun b hb _ => by omega)).below BA), below_then B1 B1.size BA, B1.size⟩
  clear X1 X2 BA B1
  go_upto_region 2 with fail
  generalize w1.alloc (.cells #[.slice A 1 c, .slice B 0 d] 26) = wx at *
  generalize w1.heap.size = g at *
  go_upto_region 2 with fail
  have hgl := HA.lt
  obtain ⟨z0, z1, z2, z3⟩ := HA.1.two
  go_cut [3] (fun v wz => v = .int .i64 0 ∧ ∃ A c B d, AwK w g wz (.slice A 1 c) (.slice B 0 d) (.slice A 1 c) (.slice B 0 d) e1)
  case first =>
    have hw := aw_write (W := (wx.alloc (.cells #[.int .u8 97] 5)).drew) 0 [97] 5 1 1 (HA.below (Below.refl _ _).drew) rfl rfl (by decide) (by decide) (by decide) (by unfold In64; decide)
    have hap : ∀ w2 A1 c1, RWrs w2 Any (.slice A1 1 c1) wA → AwK w g w2 (.slice A 1 c) (.slice B 0 d) (.slice A 1 c) (.slice B 0 d) e0 → Calls Try.prog 49 #[.agg #[.slice A 1 c, .slice B 0 d], .slice A1 1 c1] w2 fun e w3 => ∃ A2 c2 B2 d2, e = .returned (.tuple #[.agg #[.slice A2 1 c2, .slice B2 0 d2], .int .i64 0]) ∧ AwK w g w3 (.slice A 1 c) (.slice B 0 d) (.slice A2 1 c2) (.slice B2 0 d2) e1 := fun w2 A1 c1 hl h => by
      have := aw_apply h hl (by decide) (by decide) (by decide)
      rw [e1_apply.1, e1_apply.2] at this
      exact this
    go_region_law (first | (go_simp; refine hw.mono ?_; rintro e w2 ⟨A1, c1, rfl, L1, H1⟩; obtain ⟨x0, x1, x2, x3⟩ := H1.1.two; have l2 := H1.lt) | (go_simp; refine (hap _ _ _ L1 H1).mono ?_; rintro e w3 ⟨A2, c2, B2, d2, rfl, H2⟩; obtain ⟨y0, y1, y2, y3⟩ := H2.1.two; have l3 := H2.lt))
    all_goals
      have HF := Lib.hid H2.store
      go_wp2_with fail
      go_meet
      case rel => exact ⟨rfl, _, _, _, _, HF.out⟩
  case rest =>
  clear z0 z1 z2 z3 HA hgl
  obtain ⟨rfl, A, c, B, d, HA⟩ := hcut
  generalize wc = wx at *
  have hgl := HA.lt
  obtain ⟨z0, z1, z2, z3⟩ := HA.1.two
  have htk : Calls Try.prog 51 #[.agg #[.slice A 1 c, .slice B 0 d], .int .i64 1, .int .i64 5] wx fun e w3 => ∃ A2 c2 B2 d2, e = .returned (.tuple #[.agg #[.slice A2 1 c2, .slice B2 1 d2], .int .i64 0]) ∧ AwK w g w3 (.slice A 1 c) (.slice B 0 d) (.slice A2 1 c2) (.slice B2 1 d2) e2 := by
    have := aw_take 1 5 HA (by decide) (by unfold In64; decide) (by unfold In64; decide)
    rw [e2_take.1, e2_take.2] at this
    exact this
  go_wp2_with fail
  refine htk.mono ?_
  clear htk z0 z1 z2 z3 hgl HA
  rintro e w3 ⟨A, c, B, d, rfl, HA⟩
  have hgl := HA.lt
  obtain ⟨z0, z1, z2, z3⟩ := HA.1.two
  have HF := Lib.hid HA.store
  go_upto_region 4 with fail
  clear z0 z1 z2 z3 hgl HA
  have HA := HF.out
  clear HF
  generalize (w3.setCell ⟨g, 0, none⟩ (.slice A 1 c)).setCell ⟨g, 1, none⟩ (.slice B 1 d) = wx at *
  go_upto_region 4 with fail
  have hgl := HA.lt
  obtain ⟨z0, z1, z2, z3⟩ := HA.1.two
  go_cut [5] (fun v wz => v = .int .i64 0 ∧ ∃ A c B d, AwK w g wz (.slice A 1 c) (.slice B 1 d) (.slice A 1 c) (.slice B 1 d) e3)
  case first =>
    have hw := aw_write (W := (wx.alloc (.cells #[.int .u8 98, .int .u8 98] 5)).drew) 0 [98, 98] 5 2 2 (HA.below (Below.refl _ _).drew) rfl rfl (by decide) (by decide) (by decide) (by unfold In64; decide)
    have hap : ∀ w2 A1 c1, RWrs w2 Any (.slice A1 1 c1) wB → AwK w g w2 (.slice A 1 c) (.slice B 1 d) (.slice A 1 c) (.slice B 1 d) e2 → Calls Try.prog 49 #[.agg #[.slice A 1 c, .slice B 1 d], .slice A1 1 c1] w2 fun e w3 => ∃ A2 c2 B2 d2, e = .returned (.tuple #[.agg #[.slice A2 1 c2, .slice B2 1 d2], .int .i64 0]) ∧ AwK w g w3 (.slice A 1 c) (.slice B 1 d) (.slice A2 1 c2) (.slice B2 1 d2) e3 := fun w2 A1 c1 hl h => by
      have := aw_apply h hl (by decide) (by decide) (by decide)
      rw [e3_apply.1, e3_apply.2] at this
      exact this
    go_region_law (first | (go_simp; refine hw.mono ?_; rintro e w2 ⟨A1, c1, rfl, L1, H1⟩; obtain ⟨x0, x1, x2, x3⟩ := H1.1.two; have l2 := H1.lt) | (go_simp; refine (hap _ _ _ L1 H1).mono ?_; rintro e w3 ⟨A2, c2, B2, d2, rfl, H2⟩; obtain ⟨y0, y1, y2, y3⟩ := H2.1.two; have l3 := H2.lt))
    all_goals
      have HF := Lib.hid H2.store
      go_wp2_with fail
      go_meet
      case rel => exact ⟨rfl, _, _, _, _, HF.out⟩
  case rest =>
  clear z0 z1 z2 z3 HA hgl
  obtain ⟨rfl, A, c, B, d, HA⟩ := hcut
  generalize wc = wx at *
  have hgl := HA.lt
  obtain ⟨z0, z1, z2, z3⟩ := HA.1.two
  have htk : Calls Try.prog 51 #[.agg #[.slice A 1 c, .slice B 1 d], .int .i64 2, .int .i64 6] wx fun e w3 => ∃ A2 c2 B2 d2, e = .returned (.tuple #[.agg #[.slice A2 1 c2, .slice B2 2 d2], .int .i64 0]) ∧ AwK w g w3 (.slice A 1 c) (.slice B 1 d) (.slice A2 1 c2) (.slice B2 2 d2) e4 := by
    have := aw_take 2 6 HA (by decide) (by unfold In64; decide) (by unfold In64; decide)
    rw [e4_take.1, e4_take.2] at this
    exact this
  go_wp2_with fail
  refine htk.mono ?_
  clear htk z0 z1 z2 z3 hgl HA
  rintro e w3 ⟨A, c, B, d, rfl, HA⟩
  have hgl := HA.lt
  obtain ⟨z0, z1, z2, z3⟩ := HA.1.two
  have HF := Lib.hid HA.store
  go_upto_region 6 with fail
  clear z0 z1 z2 z3 hgl HA
  have HA := HF.out
  clear HF
  generalize (w3.setCell ⟨g, 0, none⟩ (.slice A 1 c)).setCell ⟨g, 1, none⟩ (.slice B 2 d) = wx at *
  go_upto_region 6 with fail
  have hgl := HA.lt
  obtain ⟨z0, z1, z2, z3⟩ := HA.1.two
  go_cut [7] (fun v wz => v = .int .i64 0 ∧ ∃ A c B d, AwK w g wz (.slice A 1 c) (.slice B 2 d) (.slice A 1 c) (.slice B 2 d) e5)
  case first =>
    have hw := aw_write (W := (wx.alloc (.cells #[.int .u8 99] 5)).drew) 1 [99] 5 1 1 (HA.below (Below.refl _ _).drew) rfl rfl (by decide) (by decide) (by decide) (by unfold In64; decide)
    have hap : ∀ w2 A1 c1, RWrs w2 Any (.slice A1 1 c1) wC → AwK w g w2 (.slice A 1 c) (.slice B 2 d) (.slice A 1 c) (.slice B 2 d) e4 → Calls Try.prog 49 #[.agg #[.slice A 1 c, .slice B 2 d], .slice A1 1 c1] w2 fun e w3 => ∃ A2 c2 B2 d2, e = .returned (.tuple #[.agg #[.slice A2 1 c2, .slice B2 2 d2], .int .i64 0]) ∧ AwK w g w3 (.slice A 1 c) (.slice B 2 d) (.slice A2 1 c2) (.slice B2 2 d2) e5 := fun w2 A1 c1 hl h => by
      have := aw_apply h hl (by decide) (by decide) (by decide)
      rw [e5_apply.1, e5_apply.2] at this
      exact this
    go_region_law (first | (go_simp; refine hw.mono ?_; rintro e w2 ⟨A1, c1, rfl, L1, H1⟩; obtain ⟨x0, x1, x2, x3⟩ := H1.1.two; have l2 := H1.lt) | (go_simp; refine (hap _ _ _ L1 H1).mono ?_; rintro e w3 ⟨A2, c2, B2, d2, rfl, H2⟩; obtain ⟨y0, y1, y2, y3⟩ := H2.1.two; have l3 := H2.lt))
    all_goals
      have HF := Lib.hid H2.store
      go_wp2_with fail
      go_meet
      case rel => exact ⟨rfl, _, _, _, _, HF.out⟩
  case rest =>
  clear z0 z1 z2 z3 HA hgl
  obtain ⟨rfl, A, c, B, d, HA⟩ := hcut
  generalize wc = wx at *
  have hgl := HA.lt
  obtain ⟨z0, z1, z2, z3⟩ := HA.1.two
  have RC : RImg wx Any (.slice A 1 c) e5.cur := HA.2.1.more (fun _ _ _ => trivial)
  have RI : RSnaps wx Any (.slice B 2 d) e5.items := HA.2.2.1.more (fun _ _ _ => trivial)
  have BW : Below w.heap.size w wx := HA.2.2.2.1
  obtain ⟨b, off, cs, rfl, hbl, _, hll, hccc, _, _, dv1, rfl, R1⟩ := RI.at_ (j := 0) rfl
  have c1 := hccc 2 (by omega)
  obtain ⟨_, _, cs, hA2, _, _, hll, hccc, _, _, dv2, rfl, R2⟩ := RI.at_ (j := 1) rfl
  injection hA2 with hA2
  injection hA2 with e1 e2
  subst e1; subst e2
  have c2 := hccc 2 (by omega)
  simp at c1 c2
  replace R1 : RWrs wx Any dv1 svA := R1
  replace R2 : RWrs wx Any dv2 svB := R2
  clear hccc hll
  have hD : ∀ W, Below wx.heap.size wx W → (Below wx.heap.size wx W ∧ W.cell? ⟨g, 0, none⟩ = some (.slice A 1 c) ∧ W.cell? ⟨g, 1, none⟩ = some (.slice (some ⟨b, off, none⟩) 2 d) ∧ W.cell? ⟨b, off + 2, none⟩ = some dv1 ∧ W.cell? ⟨b, off + 3 + 2, none⟩ = some dv2) := fun W hW =>
    ⟨hW, (hW.cell (p := ⟨g, 0, none⟩) hgl).trans z0, (hW.cell (p := ⟨g, 1, none⟩) hgl).trans z1, (hW.cell (p := ⟨b, off + 2, none⟩) hbl).trans c1, (hW.cell (p := ⟨b, off + 3 + 2, none⟩) hbl).trans c2⟩
  have hdr : Below wx.heap.size wx wx.drew := (Below.refl _ _).drew
  have HH := Lib.hid HA
  clear z0 z1 z2 z3 c1 c2 HA
  go_upto_region 7 with fail
  go_region_held3 (fun W => Below wx.heap.size wx W ∧ W.cell? ⟨g, 0, none⟩ = some (.slice A 1 c) ∧ W.cell? ⟨g, 1, none⟩ = some (.slice (some ⟨b, off, none⟩) 2 d) ∧ W.cell? ⟨b, off + 2, none⟩ = some dv1 ∧ W.cell? ⟨b, off + 3 + 2, none⟩ = some dv2)
    (first | (exact hD _ hdr) | (exact hD _ (hdr.alloc hdr.size _)) | (exact hD _ hS5) | (exact hD _ hS4) | (exact hD _ hS3) | (exact hD _ hS2) | (exact hD _ hS1) | (exact hD _ (hS2.alloc hS2.size _)) | assumption | go_keep)
    (first | (go_at_call 21; have q := hS4; refine (snCost_any _ _ e5 _ _ _ (RC.below hS4) (RI.below hS4) (by decide)).mono ?_; rintro e w6 ⟨rfl, hb6⟩; rw [e5_cost]; have hS5 : Below wx.heap.size wx w6 := below_then hS4 hS4.size hb6) | (go_at_call 52; have q := hS3; refine (same22_any _ _ svB svB _ Any (R2.below hS3) L4).mono ?_; rintro e w5 ⟨rfl, hb5⟩; rw [show decide (svB = svB) = true from decide_eq_true rfl]; have hS4 : Below wx.heap.size wx w5 := below_then hS3 hS3.size hb5) | (go_at_call 50; have q := hS2; refine (wr_write (w := w3) (W := w3.alloc (.cells #[.int .u8 98] 5)) 1 [98] 5 1 1 rfl rfl (by decide) (by decide) (by decide) (by unfold In64; decide)).mono ?_; rintro e w4 ⟨A4, c4, rfl, L4, hb4⟩; have hS3 : Below wx.heap.size wx w4 := below_then hS2 hS2.size hb4) | (go_at_call 52; have q := hS1; refine (same22_any _ _ svA svA _ Any (R1.below hS1) L2).mono ?_; rintro e w3 ⟨rfl, hb3⟩; rw [show decide (svA = svA) = true from decide_eq_true rfl]; have hS2 : Below wx.heap.size wx w3 := below_then hS1 hS1.size hb3) | (go_at_call 50; have q := hdr; refine (wr_write (w := wx.drew) (W := (wx.alloc (.cells #[.int .u8 97, .int .u8 0] 5)).drew) 0 [97, 0] 5 2 2 rfl rfl (by decide) (by decide) (by decide) (by unfold In64; decide)).mono ?_; rintro e w2 ⟨A2, c2, rfl, L2, hb2⟩; have hS1 : Below wx.heap.size wx w2 := below_then hdr hdr.size hb2))
  have HA := HH.out.below hS5
  clear HH hS1 hS2 hS3 hS4 hS5 hb2 hb3 hb4 hb5 hb6 L2 L4 R1 R2 RC RI hD hdr BW hgl hbl
  have hi1 : Calls Try.prog 25 #[.agg #[.slice A 1 c, .slice (some ⟨b, off, none⟩) 2 d], .int .i64 1] w6 fun e w' => ∃ A3 c3, e = .returned (.tuple #[.slice A3 1 c3, .int .i64 0]) ∧ RImg w' Any (.slice A3 1 c3) [[sec1 97, sec1 0, sec1 0, sec1 0]] ∧ AwK w g w' (.slice A 1 c) (.slice (some ⟨b, off, none⟩) 2 d) (.slice A 1 c) (.slice (some ⟨b, off, none⟩) 2 d) e5 ∧ Below w6.heap.size w6 w' := aw_image 1 _ HA (by decide) e5_image1
  have hgl := HA.lt
  obtain ⟨z0, z1, z2, z3⟩ := HA.1.two
  clear HA
  go_wp2_with fail
  refine hi1.mono ?_
  clear hi1 hgl z0 z1 z2 z3
  rintro e w7 ⟨A3, c3, rfl, I1, HA, hb7⟩
  have hi2 : Calls Try.prog 25 #[.agg #[.slice A 1 c, .slice (some ⟨b, off, none⟩) 2 d], .int .i64 2] w7 fun e w' => ∃ A3 c3, e = .returned (.tuple #[.slice A3 1 c3, .int .i64 0]) ∧ RImg w' Any (.slice A3 1 c3) [[sec1 98, sec1 98, sec1 0, sec1 0]] ∧ AwK w g w' (.slice A 1 c) (.slice (some ⟨b, off, none⟩) 2 d) (.slice A 1 c) (.slice (some ⟨b, off, none⟩) 2 d) e5 ∧ Below w7.heap.size w7 w' := aw_image 2 _ HA (by decide) e5_image2
  have hgl := HA.lt
  obtain ⟨z0, z1, z2, z3⟩ := HA.1.two
  clear HA
  go_wp2_with fail
  refine hi2.mono ?_
  clear hi2 hgl z0 z1 z2 z3
  rintro e w8 ⟨A4, c4, rfl, I2, HA, hb8⟩
  replace I1 := I1.below hb8
  have hde : Calls Try.prog 53 #[.agg #[.slice A 1 c, .slice (some ⟨b, off, none⟩) 2 d], .int .i64 2] w8 fun e w' => ∃ A5 c5 B5 d5, e = .returned (.tuple #[.agg #[.slice A5 1 c5, .slice B5 1 d5], .int .i64 0]) ∧ AwK w g w' (.slice A 1 c) (.slice (some ⟨b, off, none⟩) 2 d) (.slice A 1 c) (.slice (some ⟨b, off, none⟩) 2 d) e5 ∧ Below w8.heap.size w8 w' ∧
      AwK w w'.heap.size (w'.alloc (.cells #[.slice A5 1 c5, .slice B5 1 d5] 26)) (.slice A5 1 c5) (.slice B5 1 d5) (.slice A5 1 c5) (.slice B5 1 d5) e6 := aw_delete 2 HA (by decide) e6_delete
  have hgl := HA.lt
  obtain ⟨z0, z1, z2, z3⟩ := HA.1.two
  clear HA
  go_wp2_with fail
  refine hde.mono ?_
  clear hde hgl z0 z1 z2 z3
  rintro e w9 ⟨A5, c5, B5, d5, rfl, HA, hb9, HD⟩
  have BN : Below w9.heap.size w9 (w9.alloc (.cells #[.slice A5 1 c5, .slice B5 1 d5] 26)) := (Below.refl _ _).alloc (Nat.le_refl _) _
  replace I1 := (I1.below hb9).below BN
  replace I2 := (I2.below hb9).below BN
  replace HA := HA.below BN
  have HH := Lib.hid HA
  clear HA BN hb7 hb8 hb9
  go_upto_region 12 with fail
  generalize w9.alloc (.cells #[.slice A5 1 c5, .slice B5 1 d5] 26) = wy at *
  generalize w9.heap.size = g2 at *
  have HA := HD
  have hgl := HA.lt
  obtain ⟨z0, z1, z2, z3⟩ := HA.1.two
  have RC : RImg wy Any (.slice A5 1 c5) e6.cur := HA.2.1.more (fun _ _ _ => trivial)
  have RI : RSnaps wy Any (.slice B5 1 d5) e6.items := HA.2.2.1.more (fun _ _ _ => trivial)
  obtain ⟨b5, off5, cs, rfl, hbl, _, hll, hccc, _, _, dv1, rfl, R1⟩ := RI.at_ (j := 0) rfl
  have k1 := hccc 2 (by omega)
  simp at k1
  replace R1 : RWrs wy Any dv1 svA := R1
  clear hccc hll HD HA
  have hD : ∀ W, Below wy.heap.size wy W → (Below wy.heap.size wy W ∧ W.cell? ⟨g2, 0, none⟩ = some (.slice A5 1 c5) ∧ W.cell? ⟨g2, 1, none⟩ = some (.slice (some ⟨b5, off5, none⟩) 1 d5) ∧ W.cell? ⟨b5, off5 + 2, none⟩ = some dv1) := fun W hW =>
    ⟨hW, (hW.cell (p := ⟨g2, 0, none⟩) hgl).trans z0, (hW.cell (p := ⟨g2, 1, none⟩) hgl).trans z1, (hW.cell (p := ⟨b5, off5 + 2, none⟩) hbl).trans k1⟩
  have hdr : Below wy.heap.size wy wy.drew := (Below.refl _ _).drew
  clear z0 z1 z2 z3 k1
  go_region_held3 (fun W => Below wy.heap.size wy W ∧ W.cell? ⟨g2, 0, none⟩ = some (.slice A5 1 c5) ∧ W.cell? ⟨g2, 1, none⟩ = some (.slice (some ⟨b5, off5, none⟩) 1 d5) ∧ W.cell? ⟨b5, off5 + 2, none⟩ = some dv1)
    (first | (exact hD _ hdr) | (exact hD _ (hdr.alloc hdr.size _)) | (exact hD _ hS3) | (exact hD _ hS2) | (exact hD _ hS1) | assumption | go_keep)
    (first | (go_at_call 21; have q := hS2; refine (snCost_any _ _ e6 _ _ _ (RC.below hS2) (RI.below hS2) (by decide)).mono ?_; rintro e w6 ⟨rfl, hb6⟩; rw [e6_cost]; have hS3 : Below wy.heap.size wy w6 := below_then hS2 hS2.size hb6) | (go_at_call 52; have q := hS1; refine (same22_any _ _ svA svA _ Any (R1.below hS1) L2).mono ?_; rintro e w3 ⟨rfl, hb3⟩; rw [show decide (svA = svA) = true from decide_eq_true rfl]; have hS2 : Below wy.heap.size wy w3 := below_then hS1 hS1.size hb3) | (go_at_call 50; refine (wr_write (w := wy.drew) (W := (wy.alloc (.cells #[.int .u8 97, .int .u8 0] 5)).drew) 0 [97, 0] 5 2 2 rfl rfl (by decide) (by decide) (by decide) (by unfold In64; decide)).mono ?_; rintro e w2 ⟨A2, c2, rfl, L2, hb2⟩; have hS1 : Below wy.heap.size wy w2 := below_then hdr hdr.size hb2))
  have HA := HH.out.below hS3
  replace I1 := I1.below hS3
  replace I2 := I2.below hS3
  clear HH hS1 hS2 hS3 hb2 hb3 hb6 L2 R1 RC RI hD hdr hgl hbl
  have BW := HA.2.2.2.1
  have I3 : RImg w6 Any (.slice A 1 c) [[sec1 98, sec1 99, sec1 0, sec1 0]] := HA.2.1.more (fun _ _ _ => trivial)
  have z0 := HA.1.cell 0
  simp at z0
  have hgl := HA.lt
  have hD : ∀ W, Below w6.heap.size w6 W → (Below w6.heap.size w6 W ∧ W.cell? ⟨g, 0, none⟩ = some (.slice A 1 c)) := fun W hW => ⟨hW, (hW.cell (p := ⟨g, 0, none⟩) hgl).trans z0⟩
  have hdr : Below w6.heap.size w6 w6.drew := (Below.refl _ _).drew
  clear z0 HA
  go_wp2_with (first | (go_at_call 24; have q := hS2; refine (same_lit (w := wq) _ [[sec1 98, sec1 99, sec1 0, sec1 0]] [sec1 98, sec1 99, sec1 0, sec1 0] 99 52 4 (I3.below hS2) (by rfl) rfl (by decide)).mono ?_; rintro e wr ⟨rfl, hb3⟩; rw [show decide (([[sec1 98, sec1 99, sec1 0, sec1 0]] : List (List Sec)) = [[sec1 98, sec1 99, sec1 0, sec1 0]]) = true from decide_eq_true rfl]; have hS3 : Below w6.heap.size w6 wr := below_then hS2 (hS2).size hb3; have z3 := (hD _ hS3).2; have hg3 : g < wr.heap.size := Nat.lt_of_lt_of_le hgl hS3.size) | (go_at_call 24; have q := hS1; refine (same_lit (w := wp) _ [[sec1 98, sec1 98, sec1 0, sec1 0]] [sec1 98, sec1 98, sec1 0, sec1 0] 99 52 4 (I2.below hS1) (by rfl) rfl (by decide)).mono ?_; rintro e wq ⟨rfl, hb2⟩; rw [show decide (([[sec1 98, sec1 98, sec1 0, sec1 0]] : List (List Sec)) = [[sec1 98, sec1 98, sec1 0, sec1 0]]) = true from decide_eq_true rfl]; have hS2 : Below w6.heap.size w6 wq := below_then hS1 (hS1).size hb2; have z2 := (hD _ hS2).2; have hg2 : g < wq.heap.size := Nat.lt_of_lt_of_le hgl hS2.size) | (go_at_call 24; refine (same_lit (w := w6) _ [[sec1 97, sec1 0, sec1 0, sec1 0]] [sec1 97, sec1 0, sec1 0, sec1 0] 99 52 4 (I1.below (Below.refl w6.heap.size w6)) (by rfl) rfl (by decide)).mono ?_; rintro e wp ⟨rfl, hb1⟩; rw [show decide (([[sec1 97, sec1 0, sec1 0, sec1 0]] : List (List Sec)) = [[sec1 97, sec1 0, sec1 0, sec1 0]]) = true from decide_eq_true rfl]; have hS1 : Below w6.heap.size w6 wp := below_then (Below.refl w6.heap.size w6) ((Below.refl w6.heap.size w6)).size hb1; have z1 := (hD _ hS1).2; have hg1 : g < wp.heap.size := Nat.lt_of_lt_of_le hgl hS1.size))
  have HF := Lib.hid (below_then BW BW.size hS3)
  go_ret
  exact ⟨rfl, HF.out⟩
end Go.Proofs.Ytccbbecfmfldbaa

set_option maxRecDepth 100000
set_option linter.unusedVariables false
set_option linter.unusedSimpArgs false
namespace Go.Proofs.Ytccbbecfmfldbaa
open Go.RowKit Go.Mm Sb

/-! ### the reference of extents: Marks, Intersect, Same; Sectors -/
theorem marks_put {w : World} {g n : Nat} {p : Int → Bool} (h : Marks w g n p) {i : Nat} (b : Bool) : Marks (w.setCell ⟨g, i, none⟩ (.bool b)) g n fun s => if s = i then b else p s := by
  have := Blk.set_ h i (.bool b)
  rw [markCells_set] at this
  have e : (marksOf n p).set i b = marksOf n fun s => if s = i then b else p s := by
    refine List.ext_getElem (by simp [marksOf]) fun j h1 h2 => ?_
    simp only [List.getElem_set, marksOf, List.getElem_map, List.getElem_range]
    by_cases hj : i = j
    · subst hj; simp
    · rw [if_neg hj, if_neg (by omega)]
  rw [e] at this
  exact this
/-! ### '==' on extents -/
set_option maxHeartbeats 2000000 in
theorem sectorsR_any (v : Value) (l : List Wr) (w : World) (S : Nat → Prop) (h : RWrs w S v l) (hsz : secN l ≤ 1000000000000) :
    Calls Try.prog 64 #[v] w fun e w' => e = .returned (.int .i64 (secN l : Nat)) ∧ Below w.heap.size w w' := by
  obtain ⟨A, cap, rfl, hcap, hm⟩ := h.val
  unfold maxLen at hm
  go_enter Try.func64, Try.ntmps64
  go_wp2
  go_loopw [3, 4] (fun n i wr => ∃ k : Nat, k ≤ l.length ∧ i = .int .i64 k ∧ n = .int .i64 (secN (l.take k) : Nat) ∧ Below w.heap.size w wr) (fun _ i _ => l.length - (intOf i).toNat)
  case atStart => exact ⟨0, Nat.zero_le _, rfl, rfl, Below.refl _ _⟩
  case round =>
    obtain ⟨k, hk, rfl, rfl, hb⟩ := hrel
    by_cases hlt : k < l.length
    · obtain ⟨x, hx⟩ : ∃ x, l[k]? = some x := ⟨_, List.getElem?_eq_getElem hlt⟩
      obtain ⟨b, off, cs, rfl, hbl, _, hl, hc, hr⟩ := h.at_ hx
      obtain ⟨_, _, dv, rfl, hd⟩ := hr
      obtain ⟨Ad, dcap, rfl, hdc, hdm⟩ := hd.val
      unfold maxLen at hdm
      have c2 := (hb.cell (p := ⟨b, off + k * 3 + 2, none⟩) hbl).trans (hc 2 (by omega))
      clear hc hl
      simp at c2
      have hs := secN_take hx
      have hs1 := secN_le (l := l) (k + 1)
      have HS := Lib.hid hs
      have hs2 : secN (l.take k) + x.data.length ≤ 1000000000000 := by omega
      clear hs
      go_wp2
      go_roundw
      case rel => exact ⟨k + 1, by omega, by go_num, by rw [HS.out]; simp, hb⟩
      case measure => simp [intOf]; omega
    · go_wp2
      go_ret
      obtain rfl : k = l.length := by omega
      exact ⟨ret_int (by rw [List.take_length]), hb⟩
end Go.Proofs.Ytccbbecfmfldbaa

set_option maxRecDepth 100000
set_option linter.unusedVariables false
set_option linter.unusedSimpArgs false
namespace Go.Proofs.Ytccbbecfmfldbaa
open Go.RowKit Go.Mm Sb

/-! ### the reference: snapshots: Few, New, Cost -/
def FewS (s : Snaps) : Prop := s.items.length ≤ 30 ∧ (∀ x ∈ s.items, FewP x.saved) ∧ FewIm s.cur
set_option maxHeartbeats 4000000 in
theorem ref36Few_any (vc vi : Value) (s : Snaps) (w : World) (S T : Nat → Prop) (hc : RImg w S vc s.cur) (hi : RSnaps w T vi s.items) :
    Calls Try.prog 14 #[.agg #[vc, vi]] w fun e w' => ∃ q : Bool, e = .returned (.bool q) ∧ (q = true → FewS s) ∧ Below w.heap.size w w' := by
  obtain ⟨cur, items⟩ := s
  simp only at *
  obtain ⟨Ac, cc, rfl, hcc, hcm⟩ := hc.val
  obtain ⟨Ai, ci, rfl, hic, him⟩ := hi.val
  unfold maxLen at hcm him
  have BA : Below w.heap.size w (w.alloc (.cells #[.slice Ac cur.length cc, .slice Ai items.length ci] 26)) := (Below.refl _ _).alloc (Nat.le_refl _) _
  have K0 : Blk (w.alloc (.cells #[.slice Ac cur.length cc, .slice Ai items.length ci] 26)) w.heap.size 26 #[.slice Ac cur.length cc, .slice Ai items.length ci] := Blk.new _ _ _
  go_enter Try.func14, Try.ntmps14
  go_wp2
  have l0 := K0.lt
  generalize w.alloc (.cells #[.slice Ac cur.length cc, .slice Ai items.length ci] 26) = w1 at *
  go_loopw [3] (fun i wr => ∃ k : Nat, k ≤ items.length ∧ k ≤ 50 ∧ i = .int .i64 k ∧ (∀ x ∈ items.take k, FewP x.saved) ∧ Below w1.heap.size w1 wr) (fun i _ => items.length - (intOf i).toNat)
  case atStart => exact ⟨0, Nat.zero_le _, by omega, rfl, by simp, Below.refl _ _⟩
  case round =>
    obtain ⟨k, hk, hk5, rfl, hn, hbw⟩ := hrel
    have hb := below_then BA BA.size hbw
    have hbs := hb.size
    have KA := K0.below hbw
    obtain ⟨x0, x1, x2, x3⟩ := KA.two
    have l1 := KA.lt
    have HN := Lib.hid hn
    clear hn
    by_cases hlt : k < items.length
    · by_cases h50 : k < 50
      · have t1 := decide_eq_true hlt
        have t2 := decide_eq_true h50
        obtain ⟨x, hx⟩ : ∃ x, items[k]? = some x := ⟨_, List.getElem?_eq_getElem hlt⟩
        obtain ⟨b, off, cs, rfl, hbl, _, hll, hccc, hn64, ht64, dv, rfl, hd⟩ := hi.at_ hx
        have c2 := (hb.cell (p := ⟨b, off + k * 3 + 2, none⟩) hbl).trans (hccc 2 (by omega))
        clear hccc hll
        simp at c2
        have hq := few_any dv x.saved _ _ (hd.below hb)
        have HX := Lib.hid hx
        clear hx
        go_wp2_with fail
        refine hq.mono ?_
        rintro e w2 ⟨q, rfl, hqf, hb2⟩
        cases q with
        | false =>
          go_wp2
          go_ret
          exact ⟨_, rfl, by simp, below_then hb hbs hb2⟩
        | true =>
          have hqq := hqf rfl
          have HQ := Lib.hid hqq
          clear hqf hqq hq x0 x1 x2 x3
          go_wp2
          go_roundw
          case rel =>
            refine ⟨k + 1, by omega, by omega, by go_num, ?_, below_then hbw hbw.size hb2⟩
            intro y hy
            obtain ⟨hkk, hxx⟩ := List.getElem?_eq_some_iff.1 HX.out
            rw [List.take_succ_eq_append_getElem hkk] at hy
            rcases List.mem_append.1 hy with hy | hy
            · exact HN.out y hy
            · obtain rfl := List.mem_singleton.1 hy; rw [hxx]; exact HQ.out
          case measure => simp [intOf]; omega
      · obtain rfl : k = 50 := by omega
        have t3 := decide_eq_false (show ¬ (items.length : Int) ≤ 30 by omega)
        go_wp2
        go_ret
        exact ⟨_, rfl, by simp, hb⟩
    · obtain rfl : k = items.length := by omega
      by_cases h30 : items.length ≤ 30
      · have t3 := decide_eq_true (show (items.length : Int) ≤ 30 by omega)
        have hq := few07_any _ cur _ _ (hc.below hb)
        go_wp2_with fail
        refine hq.mono ?_
        rintro e w2 ⟨q, rfl, hqf, hb2⟩
        go_wp2
        go_ret
        exact ⟨q, rfl, fun e => ⟨h30, by have := HN.out; rwa [List.take_length] at this, hqf e⟩, below_then hb hbs hb2⟩
      · have t3 := decide_eq_false (show ¬ (items.length : Int) ≤ 30 by omega)
        go_wp2
        go_ret
        exact ⟨_, rfl, by simp, hb⟩
set_option maxHeartbeats 4000000 in
theorem ref36New_any (v : Value) (im : List (List Sec)) (w : World) (S : Nat → Prop) (h : RImg w S v im) (hl : im.length ≤ 100000) :
    Calls Try.prog 17 #[v] w (RetS (newS im) (sizesI (lens im)) w) := by
  have BA : Below w.heap.size w (w.alloc (.cells #[.slice none 0 0, .slice none 0 0] 26)) := (Below.refl _ _).alloc (Nat.le_refl _) _
  have K0 : Blk (w.alloc (.cells #[.slice none 0 0, .slice none 0 0] 26)) w.heap.size 26 #[.slice none 0 0, .slice none 0 0] := Blk.new _ _ _
  have hcl := refImgCheck_any v im _ S (h.below BA) hl
  go_enter Try.func17, Try.ntmps17
  go_wp2_with fail
  refine hcl.mono ?_
  rintro e w1 ⟨rfl, hb1⟩
  clear hcl
  have B1 := below_then BA BA.size hb1
  have K1 := K0.below hb1
  have l1 := K1.lt
  obtain ⟨x0, x1, x2, x3⟩ := K1.two
  clear K0 BA hb1
  by_cases hz : sizesI (lens im) = 0
  · have hns : newS im = ⟨im, []⟩ := by unfold newS; rw [if_pos hz]
    obtain ⟨s1, s2⟩ := sizes_small hz
    have hcp := refCopy_any v im w1 S (h.below B1) s1 s2
    rw [hz]
    have HZ := Lib.hid hz
    have HN := Lib.hid hns
    clear hz hns s1 s2 x0 x1 x2 x3
    go_wp2_with fail
    refine hcp.mono ?_
    rintro e w2 ⟨v2, rfl, hO, hb2⟩
    clear hcp
    have B2 := below_then B1 B1.size hb2
    have K2 := K1.below hb2
    have l2 := K2.lt
    obtain ⟨x0, x1, x2, x3⟩ := K2.two
    obtain ⟨A2, c2, rfl, _, _⟩ := hO.val
    have hR := hO.reads (T := fun b => w.heap.size ≤ b ∧ b ≠ w.heap.size) (fun b hb => by omega)
    have hRS : RImg ((w2.setCell ⟨w.heap.size, 0, none⟩ (.slice A2 im.length c2)).setCell ⟨w.heap.size, 1, none⟩ (.slice none 0 0)) (fun b => w.heap.size ≤ b) (.slice A2 im.length c2) im :=
      (hR.keep (w' := (w2.setCell ⟨w.heap.size, 0, none⟩ (.slice A2 im.length c2)).setCell ⟨w.heap.size, 1, none⟩ (.slice none 0 0)) (fun b hb hh => (Below.heap_setCell _ _ _ b (by simp; omega)).trans (Below.heap_setCell _ _ _ b (by simp; omega)))).more (fun b _ h => h.1)
    have BX := (B2.setCell (p := ⟨w.heap.size, 0, none⟩) (by simp) (.slice A2 im.length c2)).setCell (p := ⟨w.heap.size, 1, none⟩) (by simp) (.slice none 0 0)
    have HX := Lib.hid (And.intro hRS BX)
    clear hO hR hRS BX B2 B1 K1 K2 hb2
    go_wp2
    exact bodyPost_ret (v := .tuple #[.agg #[.slice A2 im.length c2, .slice none 0 0], .int .i64 0]) (by simp [results, Try.results17, go_sem, l2, x0, x1, x2, x3]) rfl ⟨_, _, by rw [HZ.out], by rw [HN.out]; exact HX.out.1, by rw [HN.out]; exact RSl.nil _ _, HX.out.2⟩
  · have hns : newS im = noS := by unfold newS; rw [if_neg hz]
    have hz' : (sizesI (lens im) != 0) = true := by simpa using hz
    have HB := Lib.hid B1
    have HN := Lib.hid hns
    clear B1 hns hz
    go_wp2
    exact bodyPost_ret (v := .tuple #[.agg #[.slice none 0 0, .slice none 0 0], .int .i64 (sizesI (lens im))]) (by simp [results, Try.results17, go_sem, l1, x0, x1, x2, x3]) rfl ⟨_, _, rfl, by rw [HN.out]; exact RSl.nil _ _, by rw [HN.out]; exact RSl.nil _ _, (HB.out.setCell (by simp) _).setCell (by simp) _⟩
end Go.Proofs.Ytccbbecfmfldbaa
