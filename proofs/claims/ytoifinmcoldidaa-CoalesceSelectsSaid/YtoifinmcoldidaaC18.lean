import Derived.Test.YtoifinmcoldidaaC17
set_option maxRecDepth 100000
set_option linter.unusedVariables false
set_option linter.unusedSimpArgs false
namespace Go.Proofs.Ytoifinmcoldidaa
open Go.RowKit Go.Mm Sb
set_option maxHeartbeats 16000000 in
theorem awake_any (w : World) : Calls Try.prog 13 #[] w fun e w' => e = .returned (.bool true) ∧ Below w.heap.size w w' := by
  go_enter Try.func13, Try.ntmps13
  go_wp2_with fail
  have hn := Blk.new w 5 #[.int .u8 1, .int .u8 2]
  have hc := write_any 0 2 (.slice (some ⟨w.heap.size, 0, none⟩) 2 2) [1, 2] (w.alloc (.cells #[.int .u8 1, .int .u8 2] 5)) Any (bytes_of (bs := [1, 2]) hn) (by decide)
  refine hc.mono ?_
  clear hc hn
  rintro e w1 ⟨d1, rfl, D1, B1⟩
  obtain ⟨A1, c1, rfl, _, _⟩ := D1.val
  replace D1 : RSecs w1 Any (.slice A1 2 c1) [s1 1, s1 2] := D1.more (fun _ _ _ => trivial)
  have L1 : Below w.heap.size w w1 := below_then ((Below.refl _ _).alloc (Nat.le_refl _) (.cells #[.int .u8 1, .int .u8 2] 5)) (by simp <;> omega) B1
  have G1 : Below w.heap.size w w1 := L1
  go_wp2_with fail
  have hn := Blk.new w1 5 #[.int .u8 3]
  have hc := write_any 0 3 (.slice (some ⟨w1.heap.size, 0, none⟩) 1 1) [3] (w1.alloc (.cells #[.int .u8 3] 5)) Any (bytes_of (bs := [3]) hn) (by decide)
  refine hc.mono ?_
  clear hc hn
  rintro e w2 ⟨d2, rfl, D2, B2⟩
  obtain ⟨A2, c2, rfl, _, _⟩ := D2.val
  replace D2 : RSecs w2 Any (.slice A2 1 c2) [s1 3] := D2.more (fun _ _ _ => trivial)
  have L2 : Below w1.heap.size w1 w2 := below_then ((Below.refl _ _).alloc (Nat.le_refl _) (.cells #[.int .u8 3] 5)) (by simp <;> omega) B2
  have G2 : Below w.heap.size w w2 := below_then G1 G1.size L2
  replace D1 := D1.below L2
  go_wp2_with fail
  have hn := Blk.new w2 5 #[.int .u8 4]
  have hc := write_any 0 4 (.slice (some ⟨w2.heap.size, 0, none⟩) 1 1) [4] (w2.alloc (.cells #[.int .u8 4] 5)) Any (bytes_of (bs := [4]) hn) (by decide)
  refine hc.mono ?_
  clear hc hn
  rintro e w3 ⟨d3, rfl, D3, B3⟩
  obtain ⟨A3, c3, rfl, _, _⟩ := D3.val
  replace D3 : RSecs w3 Any (.slice A3 1 c3) [s1 4] := D3.more (fun _ _ _ => trivial)
  have L3 : Below w2.heap.size w2 w3 := below_then ((Below.refl _ _).alloc (Nat.le_refl _) (.cells #[.int .u8 4] 5)) (by simp <;> omega) B3
  have G3 : Below w.heap.size w w3 := below_then G2 G2.size L3
  replace D1 := D1.below L3
  replace D2 := D2.below L3
  go_wp2_with fail
  have hc := fold_any (.slice (some ⟨w3.heap.size, 0, none⟩) 3 3) exA (w3.alloc (.cells #[.int .i64 0, .int .i64 2, .slice A1 2 c1, .int .i64 0, .int .i64 3, .slice A2 1 c2, .int .i64 0, .int .i64 4, .slice A3 1 c3] 35)) Any (show RWrs (w3.alloc (.cells #[.int .i64 0, .int .i64 2, .slice A1 2 c1, .int .i64 0, .int .i64 3, .slice A2 1 c2, .int .i64 0, .int .i64 4, .slice A3 1 c3] 35)) Any (.slice (some ⟨w3.heap.size, 0, none⟩) 3 3) exA from (wrs3 (Blk.new w3 35 #[.int .i64 0, .int .i64 2, .slice A1 2 c1, .int .i64 0, .int .i64 3, .slice A2 1 c2, .int .i64 0, .int .i64 4, .slice A3 1 c3]) (D1.below ((Below.refl _ _).alloc (Nat.le_refl _) (.cells #[.int .i64 0, .int .i64 2, .slice A1 2 c1, .int .i64 0, .int .i64 3, .slice A2 1 c2, .int .i64 0, .int .i64 4, .slice A3 1 c3] 35))) (D2.below ((Below.refl _ _).alloc (Nat.le_refl _) (.cells #[.int .i64 0, .int .i64 2, .slice A1 2 c1, .int .i64 0, .int .i64 3, .slice A2 1 c2, .int .i64 0, .int .i64 4, .slice A3 1 c3] 35))) (D3.below ((Below.refl _ _).alloc (Nat.le_refl _) (.cells #[.int .i64 0, .int .i64 2, .slice A1 2 c1, .int .i64 0, .int .i64 3, .slice A2 1 c2, .int .i64 0, .int .i64 4, .slice A3 1 c3] 35))))) (by decide)
  rw [exA_foldI, exA_foldR] at hc
  refine hc.mono ?_
  clear hc
  rintro e w4 ⟨v4, rfl, Xa, B4⟩
  replace Xa : RWrs w4 Any v4 exA' := Xa.more (fun _ _ _ => trivial)
  have L4 : Below w3.heap.size w3 w4 := below_then ((Below.refl _ _).alloc (Nat.le_refl _) (.cells #[.int .i64 0, .int .i64 2, .slice A1 2 c1, .int .i64 0, .int .i64 3, .slice A2 1 c2, .int .i64 0, .int .i64 4, .slice A3 1 c3] 35)) (by simp <;> omega) B4
  have G4 : Below w.heap.size w w4 := below_then G3 G3.size L4
  replace D1 := D1.below L4
  replace D2 := D2.below L4
  replace D3 := D3.below L4
  go_wp2_with fail
  have hn := Blk.new w4 5 #[.int .u8 1]
  have hc := write_any 1 5 (.slice (some ⟨w4.heap.size, 0, none⟩) 1 1) [1] (w4.alloc (.cells #[.int .u8 1] 5)) Any (bytes_of (bs := [1]) hn) (by decide)
  refine hc.mono ?_
  clear hc hn
  rintro e w5 ⟨d5, rfl, D5, B5⟩
  obtain ⟨A5, c5, rfl, _, _⟩ := D5.val
  replace D5 : RSecs w5 Any (.slice A5 1 c5) [s1 1] := D5.more (fun _ _ _ => trivial)
  have L5 : Below w4.heap.size w4 w5 := below_then ((Below.refl _ _).alloc (Nat.le_refl _) (.cells #[.int .u8 1] 5)) (by simp <;> omega) B5
  have G5 : Below w.heap.size w w5 := below_then G4 G4.size L5
  replace Xa := Xa.below L5
  go_wp2_with fail
  have hn := Blk.new w5 5 #[.int .u8 2]
  have hc := write_any 0 0 (.slice (some ⟨w5.heap.size, 0, none⟩) 1 1) [2] (w5.alloc (.cells #[.int .u8 2] 5)) Any (bytes_of (bs := [2]) hn) (by decide)
  refine hc.mono ?_
  clear hc hn
  rintro e w6 ⟨d6, rfl, D6, B6⟩
  obtain ⟨A6, c6, rfl, _, _⟩ := D6.val
  replace D6 : RSecs w6 Any (.slice A6 1 c6) [s1 2] := D6.more (fun _ _ _ => trivial)
  have L6 : Below w5.heap.size w5 w6 := below_then ((Below.refl _ _).alloc (Nat.le_refl _) (.cells #[.int .u8 2] 5)) (by simp <;> omega) B6
  have G6 : Below w.heap.size w w6 := below_then G5 G5.size L6
  replace Xa := Xa.below L6
  replace D5 := D5.below L6
  go_wp2_with fail
  have hn := Blk.new w6 5 #[.int .u8 3]
  have hc := write_any 0 2 (.slice (some ⟨w6.heap.size, 0, none⟩) 1 1) [3] (w6.alloc (.cells #[.int .u8 3] 5)) Any (bytes_of (bs := [3]) hn) (by decide)
  refine hc.mono ?_
  clear hc hn
  rintro e w7 ⟨d7, rfl, D7, B7⟩
  obtain ⟨A7, c7, rfl, _, _⟩ := D7.val
  replace D7 : RSecs w7 Any (.slice A7 1 c7) [s1 3] := D7.more (fun _ _ _ => trivial)
  have L7 : Below w6.heap.size w6 w7 := below_then ((Below.refl _ _).alloc (Nat.le_refl _) (.cells #[.int .u8 3] 5)) (by simp <;> omega) B7
  have G7 : Below w.heap.size w w7 := below_then G6 G6.size L7
  replace Xa := Xa.below L7
  replace D5 := D5.below L7
  replace D6 := D6.below L7
  go_wp2_with fail
  have hc := fold_any (.slice (some ⟨w7.heap.size, 0, none⟩) 3 3) exB (w7.alloc (.cells #[.int .i64 1, .int .i64 5, .slice A5 1 c5, .int .i64 0, .int .i64 0, .slice A6 1 c6, .int .i64 0, .int .i64 2, .slice A7 1 c7] 35)) Any (show RWrs (w7.alloc (.cells #[.int .i64 1, .int .i64 5, .slice A5 1 c5, .int .i64 0, .int .i64 0, .slice A6 1 c6, .int .i64 0, .int .i64 2, .slice A7 1 c7] 35)) Any (.slice (some ⟨w7.heap.size, 0, none⟩) 3 3) exB from (wrs3 (Blk.new w7 35 #[.int .i64 1, .int .i64 5, .slice A5 1 c5, .int .i64 0, .int .i64 0, .slice A6 1 c6, .int .i64 0, .int .i64 2, .slice A7 1 c7]) (D5.below ((Below.refl _ _).alloc (Nat.le_refl _) (.cells #[.int .i64 1, .int .i64 5, .slice A5 1 c5, .int .i64 0, .int .i64 0, .slice A6 1 c6, .int .i64 0, .int .i64 2, .slice A7 1 c7] 35))) (D6.below ((Below.refl _ _).alloc (Nat.le_refl _) (.cells #[.int .i64 1, .int .i64 5, .slice A5 1 c5, .int .i64 0, .int .i64 0, .slice A6 1 c6, .int .i64 0, .int .i64 2, .slice A7 1 c7] 35))) (D7.below ((Below.refl _ _).alloc (Nat.le_refl _) (.cells #[.int .i64 1, .int .i64 5, .slice A5 1 c5, .int .i64 0, .int .i64 0, .slice A6 1 c6, .int .i64 0, .int .i64 2, .slice A7 1 c7] 35))))) (by decide)
  rw [exB_foldI, exB_foldR] at hc
  refine hc.mono ?_
  clear hc
  rintro e w8 ⟨v8, rfl, Xb, B8⟩
  replace Xb : RWrs w8 Any v8 exB' := Xb.more (fun _ _ _ => trivial)
  have L8 : Below w7.heap.size w7 w8 := below_then ((Below.refl _ _).alloc (Nat.le_refl _) (.cells #[.int .i64 1, .int .i64 5, .slice A5 1 c5, .int .i64 0, .int .i64 0, .slice A6 1 c6, .int .i64 0, .int .i64 2, .slice A7 1 c7] 35)) (by simp <;> omega) B8
  have G8 : Below w.heap.size w w8 := below_then G7 G7.size L8
  replace Xa := Xa.below L8
  replace D5 := D5.below L8
  replace D6 := D6.below L8
  replace D7 := D7.below L8
  go_wp2_with fail
  have hn := Blk.new w8 5 #[.int .u8 1, .int .u8 2]
  have hc := write_any 0 2 (.slice (some ⟨w8.heap.size, 0, none⟩) 2 2) [1, 2] (w8.alloc (.cells #[.int .u8 1, .int .u8 2] 5)) Any (bytes_of (bs := [1, 2]) hn) (by decide)
  refine hc.mono ?_
  clear hc hn
  rintro e w9 ⟨d9, rfl, D9, B9⟩
  obtain ⟨A9, c9, rfl, _, _⟩ := D9.val
  replace D9 : RSecs w9 Any (.slice A9 2 c9) [s1 1, s1 2] := D9.more (fun _ _ _ => trivial)
  have L9 : Below w8.heap.size w8 w9 := below_then ((Below.refl _ _).alloc (Nat.le_refl _) (.cells #[.int .u8 1, .int .u8 2] 5)) (by simp <;> omega) B9
  have G9 : Below w.heap.size w w9 := below_then G8 G8.size L9
  replace Xa := Xa.below L9
  replace Xb := Xb.below L9
  go_wp2_with fail
  have hn := Blk.new (w9.alloc (.cells #[.int .i64 0, .int .i64 2, .slice A9 2 c9] 35)) 5 #[.int .u8 3]
  rw [World.size_alloc] at hn
  have hc := write_any 0 1 (.slice (some ⟨w9.heap.size + 1, 0, none⟩) 1 1) [3] ((w9.alloc (.cells #[.int .i64 0, .int .i64 2, .slice A9 2 c9] 35)).alloc (.cells #[.int .u8 3] 5)) Any (bytes_of (bs := [3]) hn) (by decide)
  refine hc.mono ?_
  clear hc hn
  rintro e w10 ⟨d10, rfl, D10, B10⟩
  obtain ⟨A10, c10, rfl, _, _⟩ := D10.val
  replace D10 : RSecs w10 Any (.slice A10 1 c10) [s1 3] := D10.more (fun _ _ _ => trivial)
  have L10 : Below w9.heap.size w9 w10 := below_then (((Below.refl _ _).alloc (Nat.le_refl _) (.cells #[.int .i64 0, .int .i64 2, .slice A9 2 c9] 35)).alloc (by simp) (.cells #[.int .u8 3] 5)) (by simp <;> omega) B10
  have G10 : Below w.heap.size w w10 := below_then G9 G9.size L10
  replace Xa := Xa.below L10
  replace Xb := Xb.below L10
  replace D9 := D9.below L10
  have K9 := ((Blk.new w9 35 #[.int .i64 0, .int .i64 2, .slice A9 2 c9]).alloc (.cells #[.int .u8 3] 5)).below (below_then ((Below.refl _ _)) (by simp) B10)
  go_wp2_with fail
  have hc := merge_any (.slice (some ⟨w9.heap.size, 0, none⟩) 1 1) (.slice (some ⟨w10.heap.size, 0, none⟩) 1 1) exC1 exC2 (w10.alloc (.cells #[.int .i64 0, .int .i64 1, .slice A10 1 c10] 35)) Any (show RWrs (w10.alloc (.cells #[.int .i64 0, .int .i64 1, .slice A10 1 c10] 35)) Any (.slice (some ⟨w9.heap.size, 0, none⟩) 1 1) exC1 from (wrs1 (K9.alloc (.cells #[.int .i64 0, .int .i64 1, .slice A10 1 c10] 35)) (D9.below ((Below.refl _ _).alloc (Nat.le_refl _) (.cells #[.int .i64 0, .int .i64 1, .slice A10 1 c10] 35))))) (show RWrs (w10.alloc (.cells #[.int .i64 0, .int .i64 1, .slice A10 1 c10] 35)) Any (.slice (some ⟨w10.heap.size, 0, none⟩) 1 1) exC2 from (wrs1 (Blk.new w10 35 #[.int .i64 0, .int .i64 1, .slice A10 1 c10]) (D10.below ((Below.refl _ _).alloc (Nat.le_refl _) (.cells #[.int .i64 0, .int .i64 1, .slice A10 1 c10] 35))))) (by decide) (by decide)
  rw [exC_mergeI, exC_mergeR] at hc
  refine hc.mono ?_
  clear hc
  rintro e w11 ⟨v11, rfl, Xc, B11⟩
  replace Xc : RWrs w11 Any v11 exC' := Xc.more (fun _ _ _ => trivial)
  have L11 : Below w10.heap.size w10 w11 := below_then ((Below.refl _ _).alloc (Nat.le_refl _) (.cells #[.int .i64 0, .int .i64 1, .slice A10 1 c10] 35)) (by simp <;> omega) B11
  have G11 : Below w.heap.size w w11 := below_then G10 G10.size L11
  replace Xa := Xa.below L11
  replace Xb := Xb.below L11
  replace D9 := D9.below L11
  replace D10 := D10.below L11
  go_wp2_with fail
  have hc := restrict_any v11 (.slice (some ⟨w11.heap.size, 0, none⟩) 2 2) exC' 0 exK (w11.alloc (.cells #[.int .i64 2, .int .i64 1, .int .i64 9, .int .i64 1] 68)) Any (Xc.below ((Below.refl _ _).alloc (Nat.le_refl _) (.cells #[.int .i64 2, .int .i64 1, .int .i64 9, .int .i64 1] 68))) (exts_of (Blk.new w11 68 #[.int .i64 2, .int .i64 1, .int .i64 9, .int .i64 1])) (by decide)
  rw [exD_chkI, exD_restrictR] at hc
  refine hc.mono ?_
  clear hc
  rintro e w12 ⟨v12, rfl, Xd, B12⟩
  replace Xd : RWrs w12 Any v12 exD' := Xd.more (fun _ _ _ => trivial)
  have L12 : Below w11.heap.size w11 w12 := below_then ((Below.refl _ _).alloc (Nat.le_refl _) (.cells #[.int .i64 2, .int .i64 1, .int .i64 9, .int .i64 1] 68)) (by simp <;> omega) B12
  have G12 : Below w.heap.size w w12 := below_then G11 G11.size L12
  replace Xa := Xa.below L12
  replace Xb := Xb.below L12
  replace Xc := Xc.below L12
  go_wp2_with fail
  have hn := Blk.new w12 5 #[.int .u8 1, .int .u8 3, .int .u8 4]
  have hc := write_any 0 2 (.slice (some ⟨w12.heap.size, 0, none⟩) 3 3) [1, 3, 4] (w12.alloc (.cells #[.int .u8 1, .int .u8 3, .int .u8 4] 5)) Any (bytes_of (bs := [1, 3, 4]) hn) (by decide)
  refine hc.mono ?_
  clear hc hn
  rintro e w13 ⟨d13, rfl, D13, B13⟩
  obtain ⟨A13, c13, rfl, _, _⟩ := D13.val
  replace D13 : RSecs w13 Any (.slice A13 3 c13) [s1 1, s1 3, s1 4] := D13.more (fun _ _ _ => trivial)
  have L13 : Below w12.heap.size w12 w13 := below_then ((Below.refl _ _).alloc (Nat.le_refl _) (.cells #[.int .u8 1, .int .u8 3, .int .u8 4] 5)) (by simp <;> omega) B13
  have G13 : Below w.heap.size w w13 := below_then G12 G12.size L13
  replace Xa := Xa.below L13
  replace Xb := Xb.below L13
  replace Xc := Xc.below L13
  replace Xd := Xd.below L13
  go_wp2_with fail
  have hc := same22_any v4 (.slice (some ⟨w13.heap.size, 0, none⟩) 1 1) exA' [⟨0, 2, [s1 1, s1 3, s1 4]⟩] (w13.alloc (.cells #[.int .i64 0, .int .i64 2, .slice A13 3 c13] 35)) Any (Xa.below ((Below.refl _ _).alloc (Nat.le_refl _) (.cells #[.int .i64 0, .int .i64 2, .slice A13 3 c13] 35))) (wrs1 (Blk.new w13 35 #[.int .i64 0, .int .i64 2, .slice A13 3 c13]) (D13.below ((Below.refl _ _).alloc (Nat.le_refl _) (.cells #[.int .i64 0, .int .i64 2, .slice A13 3 c13] 35))))
  rw [show decide (exA' = ([⟨0, 2, [s1 1, s1 3, s1 4]⟩] : List Wr)) = true from by kernel_rfl] at hc
  refine hc.mono ?_
  clear hc
  rintro e w14 ⟨rfl, B14⟩
  have L14 : Below w13.heap.size w13 w14 := below_then ((Below.refl _ _).alloc (Nat.le_refl _) (.cells #[.int .i64 0, .int .i64 2, .slice A13 3 c13] 35)) (by simp <;> omega) B14
  have G14 : Below w.heap.size w w14 := below_then G13 G13.size L14
  replace Xa := Xa.below L14
  replace Xb := Xb.below L14
  replace Xc := Xc.below L14
  replace Xd := Xd.below L14
  replace D13 := D13.below L14
  go_wp2_with fail
  have hn := Blk.new w14 5 #[.int .u8 2]
  have hc := write_any 0 0 (.slice (some ⟨w14.heap.size, 0, none⟩) 1 1) [2] (w14.alloc (.cells #[.int .u8 2] 5)) Any (bytes_of (bs := [2]) hn) (by decide)
  refine hc.mono ?_
  clear hc hn
  rintro e w15 ⟨d15, rfl, D15, B15⟩
  obtain ⟨A15, c15, rfl, _, _⟩ := D15.val
  replace D15 : RSecs w15 Any (.slice A15 1 c15) [s1 2] := D15.more (fun _ _ _ => trivial)
  have L15 : Below w14.heap.size w14 w15 := below_then ((Below.refl _ _).alloc (Nat.le_refl _) (.cells #[.int .u8 2] 5)) (by simp <;> omega) B15
  have G15 : Below w.heap.size w w15 := below_then G14 G14.size L15
  replace Xb := Xb.below L15
  replace Xc := Xc.below L15
  replace Xd := Xd.below L15
  go_wp2_with fail
  have hn := Blk.new w15 5 #[.int .u8 3]
  have hc := write_any 0 2 (.slice (some ⟨w15.heap.size, 0, none⟩) 1 1) [3] (w15.alloc (.cells #[.int .u8 3] 5)) Any (bytes_of (bs := [3]) hn) (by decide)
  refine hc.mono ?_
  clear hc hn
  rintro e w16 ⟨d16, rfl, D16, B16⟩
  obtain ⟨A16, c16, rfl, _, _⟩ := D16.val
  replace D16 : RSecs w16 Any (.slice A16 1 c16) [s1 3] := D16.more (fun _ _ _ => trivial)
  have L16 : Below w15.heap.size w15 w16 := below_then ((Below.refl _ _).alloc (Nat.le_refl _) (.cells #[.int .u8 3] 5)) (by simp <;> omega) B16
  have G16 : Below w.heap.size w w16 := below_then G15 G15.size L16
  replace Xb := Xb.below L16
  replace Xc := Xc.below L16
  replace Xd := Xd.below L16
  replace D15 := D15.below L16
  go_wp2_with fail
  have hn := Blk.new w16 5 #[.int .u8 1]
  have hc := write_any 1 5 (.slice (some ⟨w16.heap.size, 0, none⟩) 1 1) [1] (w16.alloc (.cells #[.int .u8 1] 5)) Any (bytes_of (bs := [1]) hn) (by decide)
  refine hc.mono ?_
  clear hc hn
  rintro e w17 ⟨d17, rfl, D17, B17⟩
  obtain ⟨A17, c17, rfl, _, _⟩ := D17.val
  replace D17 : RSecs w17 Any (.slice A17 1 c17) [s1 1] := D17.more (fun _ _ _ => trivial)
  have L17 : Below w16.heap.size w16 w17 := below_then ((Below.refl _ _).alloc (Nat.le_refl _) (.cells #[.int .u8 1] 5)) (by simp <;> omega) B17
  have G17 : Below w.heap.size w w17 := below_then G16 G16.size L17
  replace Xb := Xb.below L17
  replace Xc := Xc.below L17
  replace Xd := Xd.below L17
  replace D15 := D15.below L17
  replace D16 := D16.below L17
  go_wp2_with fail
  have hc := same22_any v8 (.slice (some ⟨w17.heap.size, 0, none⟩) 3 3) exB' [⟨0, 0, [s1 2]⟩, ⟨0, 2, [s1 3]⟩, ⟨1, 5, [s1 1]⟩] (w17.alloc (.cells #[.int .i64 0, .int .i64 0, .slice A15 1 c15, .int .i64 0, .int .i64 2, .slice A16 1 c16, .int .i64 1, .int .i64 5, .slice A17 1 c17] 35)) Any (Xb.below ((Below.refl _ _).alloc (Nat.le_refl _) (.cells #[.int .i64 0, .int .i64 0, .slice A15 1 c15, .int .i64 0, .int .i64 2, .slice A16 1 c16, .int .i64 1, .int .i64 5, .slice A17 1 c17] 35))) (wrs3 (Blk.new w17 35 #[.int .i64 0, .int .i64 0, .slice A15 1 c15, .int .i64 0, .int .i64 2, .slice A16 1 c16, .int .i64 1, .int .i64 5, .slice A17 1 c17]) (D15.below ((Below.refl _ _).alloc (Nat.le_refl _) (.cells #[.int .i64 0, .int .i64 0, .slice A15 1 c15, .int .i64 0, .int .i64 2, .slice A16 1 c16, .int .i64 1, .int .i64 5, .slice A17 1 c17] 35))) (D16.below ((Below.refl _ _).alloc (Nat.le_refl _) (.cells #[.int .i64 0, .int .i64 0, .slice A15 1 c15, .int .i64 0, .int .i64 2, .slice A16 1 c16, .int .i64 1, .int .i64 5, .slice A17 1 c17] 35))) (D17.below ((Below.refl _ _).alloc (Nat.le_refl _) (.cells #[.int .i64 0, .int .i64 0, .slice A15 1 c15, .int .i64 0, .int .i64 2, .slice A16 1 c16, .int .i64 1, .int .i64 5, .slice A17 1 c17] 35))))
  rw [show decide (exB' = ([⟨0, 0, [s1 2]⟩, ⟨0, 2, [s1 3]⟩, ⟨1, 5, [s1 1]⟩] : List Wr)) = true from by kernel_rfl] at hc
  refine hc.mono ?_
  clear hc
  rintro e w18 ⟨rfl, B18⟩
  have L18 : Below w17.heap.size w17 w18 := below_then ((Below.refl _ _).alloc (Nat.le_refl _) (.cells #[.int .i64 0, .int .i64 0, .slice A15 1 c15, .int .i64 0, .int .i64 2, .slice A16 1 c16, .int .i64 1, .int .i64 5, .slice A17 1 c17] 35)) (by simp <;> omega) B18
  have G18 : Below w.heap.size w w18 := below_then G17 G17.size L18
  replace Xb := Xb.below L18
  replace Xc := Xc.below L18
  replace Xd := Xd.below L18
  replace D15 := D15.below L18
  replace D16 := D16.below L18
  replace D17 := D17.below L18
  go_wp2_with fail
  have hn := Blk.new w18 5 #[.int .u8 3, .int .u8 1, .int .u8 2]
  have hc := write_any 0 1 (.slice (some ⟨w18.heap.size, 0, none⟩) 3 3) [3, 1, 2] (w18.alloc (.cells #[.int .u8 3, .int .u8 1, .int .u8 2] 5)) Any (bytes_of (bs := [3, 1, 2]) hn) (by decide)
  refine hc.mono ?_
  clear hc hn
  rintro e w19 ⟨d19, rfl, D19, B19⟩
  obtain ⟨A19, c19, rfl, _, _⟩ := D19.val
  replace D19 : RSecs w19 Any (.slice A19 3 c19) [s1 3, s1 1, s1 2] := D19.more (fun _ _ _ => trivial)
  have L19 : Below w18.heap.size w18 w19 := below_then ((Below.refl _ _).alloc (Nat.le_refl _) (.cells #[.int .u8 3, .int .u8 1, .int .u8 2] 5)) (by simp <;> omega) B19
  have G19 : Below w.heap.size w w19 := below_then G18 G18.size L19
  replace Xb := Xb.below L19
  replace Xc := Xc.below L19
  replace Xd := Xd.below L19
  go_wp2_with fail
  have hc := same22_any v11 (.slice (some ⟨w19.heap.size, 0, none⟩) 1 1) exC' [⟨0, 1, [s1 3, s1 1, s1 2]⟩] (w19.alloc (.cells #[.int .i64 0, .int .i64 1, .slice A19 3 c19] 35)) Any (Xc.below ((Below.refl _ _).alloc (Nat.le_refl _) (.cells #[.int .i64 0, .int .i64 1, .slice A19 3 c19] 35))) (wrs1 (Blk.new w19 35 #[.int .i64 0, .int .i64 1, .slice A19 3 c19]) (D19.below ((Below.refl _ _).alloc (Nat.le_refl _) (.cells #[.int .i64 0, .int .i64 1, .slice A19 3 c19] 35))))
  rw [show decide (exC' = ([⟨0, 1, [s1 3, s1 1, s1 2]⟩] : List Wr)) = true from by kernel_rfl] at hc
  refine hc.mono ?_
  clear hc
  rintro e w20 ⟨rfl, B20⟩
  have L20 : Below w19.heap.size w19 w20 := below_then ((Below.refl _ _).alloc (Nat.le_refl _) (.cells #[.int .i64 0, .int .i64 1, .slice A19 3 c19] 35)) (by simp <;> omega) B20
  have G20 : Below w.heap.size w w20 := below_then G19 G19.size L20
  replace Xb := Xb.below L20
  replace Xc := Xc.below L20
  replace Xd := Xd.below L20
  replace D19 := D19.below L20
  go_wp2_with fail
  have hn := Blk.new w20 5 #[.int .u8 1]
  have hc := write_any 0 2 (.slice (some ⟨w20.heap.size, 0, none⟩) 1 1) [1] (w20.alloc (.cells #[.int .u8 1] 5)) Any (bytes_of (bs := [1]) hn) (by decide)
  refine hc.mono ?_
  clear hc hn
  rintro e w21 ⟨d21, rfl, D21, B21⟩
  obtain ⟨A21, c21, rfl, _, _⟩ := D21.val
  replace D21 : RSecs w21 Any (.slice A21 1 c21) [s1 1] := D21.more (fun _ _ _ => trivial)
  have L21 : Below w20.heap.size w20 w21 := below_then ((Below.refl _ _).alloc (Nat.le_refl _) (.cells #[.int .u8 1] 5)) (by simp <;> omega) B21
  have G21 : Below w.heap.size w w21 := below_then G20 G20.size L21
  replace Xb := Xb.below L21
  replace Xc := Xc.below L21
  replace Xd := Xd.below L21
  go_wp2_with fail
  have hc := same22_any v12 (.slice (some ⟨w21.heap.size, 0, none⟩) 1 1) exD' [⟨0, 2, [s1 1]⟩] (w21.alloc (.cells #[.int .i64 0, .int .i64 2, .slice A21 1 c21] 35)) Any (Xd.below ((Below.refl _ _).alloc (Nat.le_refl _) (.cells #[.int .i64 0, .int .i64 2, .slice A21 1 c21] 35))) (wrs1 (Blk.new w21 35 #[.int .i64 0, .int .i64 2, .slice A21 1 c21]) (D21.below ((Below.refl _ _).alloc (Nat.le_refl _) (.cells #[.int .i64 0, .int .i64 2, .slice A21 1 c21] 35))))
  rw [show decide (exD' = ([⟨0, 2, [s1 1]⟩] : List Wr)) = true from by kernel_rfl] at hc
  refine hc.mono ?_
  clear hc
  rintro e w22 ⟨rfl, B22⟩
  have L22 : Below w21.heap.size w21 w22 := below_then ((Below.refl _ _).alloc (Nat.le_refl _) (.cells #[.int .i64 0, .int .i64 2, .slice A21 1 c21] 35)) (by simp <;> omega) B22
  have G22 : Below w.heap.size w w22 := below_then G21 G21.size L22
  replace Xb := Xb.below L22
  replace Xc := Xc.below L22
  replace Xd := Xd.below L22
  replace D21 := D21.below L22
  go_wp2_with fail
  have hc := sectors_any v8 exB' w22 Any Xb (by decide)
  rw [show secN exB' = 3 from rfl] at hc
  refine hc.mono ?_
  clear hc
  rintro e w23 ⟨rfl, B23⟩
  have G23 : Below w.heap.size w w23 := below_then G22 G22.size B23
  go_wp2_with fail
  go_ret
  exact ⟨rfl, G23⟩
end Go.Proofs.Ytoifinmcoldidaa
