import Derived.Test.YtoifinmcoldidaaC20
import Derived.Test.YtoifinmcoldidaaMem9
import Derived.Test.YtoifinmcoldidaaMath8
import Derived.BigRegion
set_option maxRecDepth 100000
set_option linter.unusedVariables false
set_option linter.unusedSimpArgs false
namespace Go.Proofs.Ytoifinmcoldidaa
open Go.RowKit Go.Mm Sb

/-! ### CoalesceExchanges -/
set_option maxHeartbeats 4000000 in
theorem exchanges_any (va : Value) (a : List Wr) (b : Int) (w : World) (ha : RWrs w Any va a) (hb0 : 0 ≤ b) (hb1 : b < 256) :
    Calls Try.prog 5 #[va, .int .u8 b] w fun e w' => e = .returned (.bool true) ∧ Below w.heap.size w w' := by
  have G0 : Below w.heap.size w w := Below.refl _ _
  obtain ⟨A, cap, rfl, hcap, hm⟩ := ha.val
  unfold maxLen at hm
  go_enter Try.func5, Try.ntmps5
  go_wp2_with fail
  refine (few_any _ a _ Any (ha.below G0)).mono ?_
  rintro e w1 ⟨q1, rfl, f1, B1⟩
  have G1 := below_then G0 G0.size B1
  cases q1 with
  | false =>
    go_wp2_with (first | (go_at_call 13; refine (awake_any _).mono ?_; rintro e w99 ⟨rfl, B99⟩))
    go_ret
    exact ⟨rfl, below_then G1 G1.size B99⟩
  | true =>
    replace f1 := f1 rfl
    by_cases h2 : a.length < 2
    · have t2 := decide_eq_true (show (a.length : Int) < 2 by omega)
      go_wp2_with (first | (go_at_call 13; refine (awake_any _).mono ?_; rintro e w99 ⟨rfl, B99⟩))
      go_ret
      exact ⟨rfl, below_then G1 G1.size B99⟩
    · have t2 := decide_eq_false (show ¬ (a.length : Int) < 2 by omega)
      go_wp2_with fail
      have c1 := fold_any _ a w1 Any (ha.below G1) (few_sec f1)
      refine c1.mono ?_
      rintro e w2 ⟨v2, rfl, X2, B2⟩
      have G2 := below_then G1 G1.size B2
      replace X2 : RWrs w2 Any v2 (foldR a) := X2.more (fun _ _ _ => trivial)
      have hlen : a.length ≤ 40 := f1.1
      go_wp2_with fail
      obtain ⟨i, hi, hil⟩ : ∃ i : Nat, b % ((a.length : Int) - 1) = i ∧ i + 1 < a.length := by
        have h1 := Int.emod_nonneg b (show ((a.length : Int) - 1) ≠ 0 by omega)
        have h3 := Int.emod_lt_of_pos b (show 0 < ((a.length : Int) - 1) by omega)
        obtain ⟨i, hi⟩ := Int.eq_ofNat_of_zero_le h1
        exact ⟨i, hi, by omega⟩
      rw [hi]
      clear hi
      obtain ⟨x, hx⟩ : ∃ x, a[i]? = some x := ⟨_, List.getElem?_eq_getElem (by omega)⟩
      obtain ⟨y, hy⟩ : ∃ y, a[i + 1]? = some y := ⟨_, List.getElem?_eq_getElem hil⟩
      obtain ⟨b1, off, cs, rfl, hbl, _, hl, hc, hr⟩ := ha.at_ hx
      obtain ⟨hv64, hs64, dv, rfl, hd⟩ := hr
      obtain ⟨b2, off2, cs2, hA2, hbl2, _, hl2, hc2, hr2⟩ := ha.at_ hy
      obtain ⟨hv642, hs642, dv2, rfl, hd2⟩ := hr2
      obtain ⟨rfl, rfl⟩ : b1 = b2 ∧ off = off2 := by injection hA2 with e; injection e with e1 e2; exact ⟨e1, e2⟩
      obtain ⟨Ad, cd, rfl, hdl, hdm⟩ := hd.val
      obtain ⟨Ad2, cd2, rfl, hdl2, hdm2⟩ := hd2.val
      unfold maxLen at hdm hdm2
      have hD : ∀ W, Below w.heap.size w W → W.cell? ⟨b1, off + i * 3, none⟩ = some (.int .i64 x.vol) ∧ W.cell? ⟨b1, off + i * 3 + 1, none⟩ = some (.int .i64 x.start) ∧ W.cell? ⟨b1, off + i * 3 + 2, none⟩ = some (.slice Ad x.data.length cd) ∧ W.cell? ⟨b1, off + (i + 1) * 3, none⟩ = some (.int .i64 y.vol) ∧ W.cell? ⟨b1, off + (i + 1) * 3 + 1, none⟩ = some (.int .i64 y.start) ∧ W.cell? ⟨b1, off + (i + 1) * 3 + 2, none⟩ = some (.slice Ad2 y.data.length cd2) := fun W hW =>
        ⟨(hW.cell hbl).trans (hc 0 (by omega)), (hW.cell hbl).trans (hc 1 (by omega)), (hW.cell hbl).trans (hc 2 (by omega)), (hW.cell hbl).trans (hc2 0 (by omega)), (hW.cell hbl).trans (hc2 1 (by omega)), (hW.cell hbl).trans (hc2 2 (by omega))⟩
      clear hc hc2 hl hl2 hA2
      obtain ⟨d0, d1, d2, d3, d4, d5⟩ := hD w2 G2
      have hb2l : b1 < w2.heap.size := by have := G2.size; omega
      have i2 : (i : Int) + 1 < a.length := by omega
      have i3 : ((i : Int) + 1).toNat = i + 1 := by omega
      have i4 : (0 : Int) ≤ (i : Int) + 1 := by omega
      have hil0 : i < a.length := by omega
      have HX := Lib.hid hx
      have HY := Lib.hid hy
      clear hx hy
      have gsz := G2.size
      go_region
      · skip
        have k1 := ((Blk.new w2 35 #[.int .i64 x.vol, .int .i64 x.start, .slice Ad x.data.length cd]).alloc (.cells #[.int .i64 y.vol, .int .i64 y.start, .slice Ad2 y.data.length cd2] 35)).drew
        have k2 := (Blk.new (w2.alloc (.cells #[.int .i64 x.vol, .int .i64 x.start, .slice Ad x.data.length cd] 35)) 35 #[.int .i64 y.vol, .int .i64 y.start, .slice Ad2 y.data.length cd2]).drew
        have h3 : Below w2.heap.size w2 ((w2.alloc (.cells #[.int .i64 x.vol, .int .i64 x.start, .slice Ad x.data.length cd] 35)).alloc (.cells #[.int .i64 y.vol, .int .i64 y.start, .slice Ad2 y.data.length cd2] 35)).drew := (((Below.refl _ _).alloc (Nat.le_refl _) _).alloc (by simp) _).drew
        have G3 := below_then G2 G2.size h3
        have z1 : w.heap.size ≤ w2.heap.size := G2.size
        have z2 : w.heap.size ≤ w2.heap.size + 1 := by omega
        have z3 : w2.heap.size < w2.heap.size + 1 := by omega
        rw [show (w2.alloc (.cells #[.int .i64 x.vol, .int .i64 x.start, .slice Ad x.data.length cd] 35)).heap.size = w2.heap.size + 1 by simp] at k2
        have X3 := X2.below h3
        have y1 := hD _ G3
        generalize ((w2.alloc (.cells #[.int .i64 x.vol, .int .i64 x.start, .slice Ad x.data.length cd] 35)).alloc (.cells #[.int .i64 y.vol, .int .i64 y.start, .slice Ad2 y.data.length cd2] 35)).drew = w3 at *
        generalize w2.heap.size + 1 = p2 at *
        have hne : w2.heap.size ≠ p2 := by omega
        clear h3 B2 G2 hb2l
        generalize w2.heap.size = p1 at *
        have KX := k1
        have KY := k2
        clear k1 k2
        have lx := KX.lt
        have ly := KY.lt
        obtain ⟨a0, a1, a2, a3, a4, a5⟩ := KX.three
        obtain ⟨b0, b1', b2, b3, b4, b5⟩ := KY.three
        by_cases hF : foldI a = 0
        · rw [hF]
          have hap := foldI_placed hF
          have px := hap x (List.mem_of_getElem? HX.out)
          have py := hap y (List.mem_of_getElem? HY.out)
          obtain ⟨_, _, _, px0, px1⟩ := px
          obtain ⟨_, _, _, py0, py1⟩ := py
          have hfr : foldR a = foldW a := by unfold foldR; rw [if_pos hF]
          rw [hfr] at X3
          have HAP := Lib.hid hap
          have HF := Lib.hid hF
          clear hap hF hfr
          by_cases ho : Overlap x y
          · obtain ⟨o1, o2, o3⟩ := ho
            have t3 : (x.vol == y.vol) = true := by simpa using o1
            have t4 := decide_eq_true o2
            have t5 := decide_eq_true o3
            clear o1
            go_wp2_with (first | (go_at_call 13; refine (awake_any _).mono ?_; rintro e w99 ⟨rfl, B99⟩))
            go_ret
            exact ⟨rfl, below_then G3 G3.size B99⟩
          · have swe := swap_eff HX.out HY.out ho
            have HSW := Lib.hid swe
            clear swe
            by_cases o1 : x.vol = y.vol
            · have t3 : (x.vol == y.vol) = true := by simpa using o1
              by_cases o2 : x.start < y.start + y.data.length
              · have t4 := decide_eq_true o2
                have t5 := decide_eq_false (show ¬ y.start < x.start + x.data.length from fun o3 => ho ⟨o1, o2, o3⟩)
                clear o1 ho
                go_wp2_with (first | (at_builtin; refine wpList_appWr rfl _ _ rfl w3.heap.size w G3.size _ [] rfl (own0 w3) _ a rfl ha (G3.alloc G3.size _) (by simp; omega) (by simp) ?_; intro u1 w4 O1 L1 S1; have G4 := L1 _ _ G3.size (G3.alloc G3.size _); have M4 := L1 _ _ (Nat.le_refl _) ((Below.refl w3.heap.size w3).alloc (Nat.le_refl _) _); rw [List.nil_append] at O1; obtain ⟨g, c1, rfl, hbg, hgl, hl1, hm1, hfz⟩ := own_ptr O1 (by intro e; rw [e] at hil; simp at hil); clear L1))
                have KX4 := KX.below M4
                have KY4 := KY.below M4
                have npx : p1 ≠ g := by omega
                have npy : p2 ≠ g := by omega
                have npx' : g ≠ p1 := by omega
                have npy' : g ≠ p2 := by omega
                obtain ⟨e0, e1, e2, e3, e4, e5⟩ := KX4.three
                obtain ⟨r0, r1, r2, r3, r4, r5⟩ := KY4.three
                have hrdx := (O1.reads (T := fun _ => True) (fun _ _ _ => trivial)).at_ HX.out
                have hrdy := (O1.reads (T := fun _ => True) (fun _ _ _ => trivial)).at_ HY.out
                obtain ⟨bq, oq, csq, hq1, _, _, _, hcq, _, _, dq, rfl, _⟩ := hrdx
                obtain ⟨br, or_, csr, hr1, _, _, _, hcr, _, _, dr, rfl, _⟩ := hrdy
                obtain ⟨rfl, rfl⟩ : g = bq ∧ 0 = oq := by injection hq1 with e; injection e with e1 e2; exact ⟨e1, e2⟩
                obtain ⟨rfl, rfl⟩ : g = br ∧ 0 = or_ := by injection hr1 with e; injection e with e1 e2; exact ⟨e1, e2⟩
                have j0 := hcq 0 (by omega)
                have j1 := hcq 1 (by omega)
                have j2 := hcq 2 (by omega)
                have j3 := hcr 0 (by omega)
                have j4 := hcr 1 (by omega)
                have j5 := hcr 2 (by omega)
                simp at j0 j1 j2 j3 j4 j5
                have f0 := hfz (i * 3)
                have f1' := hfz (i * 3 + 1)
                have f2 := hfz (i * 3 + 2)
                have f3 := hfz ((i + 1) * 3)
                have f4 := hfz ((i + 1) * 3 + 1)
                have f5 := hfz ((i + 1) * 3 + 2)
                have hdx : RSecs w4 (fun b => b < w.heap.size ∧ some b ≠ some g) (.slice Ad x.data.length cd) x.data := ((hd.more (T := fun b => b < w.heap.size) (fun b hb _ => hb)).below G4).more (fun b _ hb => ⟨hb, fun e => by injection e with e; omega⟩)
                have hdy : RSecs w4 (fun b => b < w.heap.size ∧ some b ≠ some g) (.slice Ad2 y.data.length cd2) y.data := ((hd2.more (T := fun b => b < w.heap.size) (fun b hb _ => hb)).below G4).more (fun b _ hb => ⟨hb, fun e => by injection e with e; omega⟩)
                have O5 := O1.set3 (j := i) hil0 (x' := y) (u0 := .int .i64 y.vol) (u1 := .int .i64 y.start) (u2 := .slice Ad2 y.data.length cd2) ⟨hv642, hs642, _, rfl, hdy⟩
                have O6 := O5.1.set3 (j := i + 1) (by simpa using hil) (x' := x) (u0 := .int .i64 x.vol) (u1 := .int .i64 x.start) (u2 := .slice Ad x.data.length cd) ⟨hv64, hs64, _, rfl, hdx.keep (fun b hb ⟨_, hne⟩ => O5.2.block b hb hne)⟩
                clear hcq hcr hq1 hr1 hfz
                have HO5 := Lib.hid O5
                have HO6 := Lib.hid O6
                clear O5 O6 hdx hdy
                go_region
                have O7 := HO6.out.1.drew
                have gz4 := G4.size
                have mz4 := M4.size
                have G5 := G4.grown HO5.out.2 gz4 (fun j e => by injection e with e; omega)
                have G7 := (G5.grown HO6.out.2 G5.size (fun j e => by injection e with e; omega)).drew
                have M5 := M4.grown HO5.out.2 mz4 (fun j e => by injection e with e; omega)
                have M7 := (M5.grown HO6.out.2 M5.size (fun j e => by injection e with e; omega)).drew
                generalize ((((((w4.setCell ⟨g, i * 3, none⟩ (.int .i64 y.vol)).setCell ⟨g, i * 3 + 1, none⟩ (.int .i64 y.start)).setCell ⟨g, i * 3 + 2, none⟩ (.slice Ad2 y.data.length cd2)).setCell ⟨g, (i + 1) * 3, none⟩ (.int .i64 x.vol)).setCell ⟨g, (i + 1) * 3 + 1, none⟩ (.int .i64 x.start)).setCell ⟨g, (i + 1) * 3 + 2, none⟩ (.slice Ad x.data.length cd)).drew = w7 at O7 G7 M7 ⊢
                clear HO5 HO6 G5 M5
                have X7 := X3.below M7
                have few2 : FewP ((a.set i y).set (i + 1) x) := ⟨by simpa using f1.1, swap_all HX.out HY.out f1.2⟩
                have hall := fold_ok (.slice (some ⟨g, 0, none⟩) a.length c1) ((a.set i y).set (i + 1) x) w7 Any (O7.reads (fun _ _ _ => trivial)) (foldI_of_placed (swap_all HX.out HY.out HAP.out)) (few_sec few2)
                rw [foldW_congr HSW.out] at hall
                clear few2 O7
                go_wp2_with fail
                refine hall.mono ?_
                rintro e w8 ⟨v8, rfl, X8, B8⟩
                have G8 := below_then G7 G7.size B8
                replace X8 : RWrs w8 Any v8 (foldW a) := X8.more (fun _ _ _ => trivial)
                replace X7 := X7.below B8
                clear hall
                go_wp2_with fail
                refine (same22_any v2 v8 _ _ w8 Any X7 X8).mono ?_
                rintro e w9 ⟨rfl, B9⟩
                rw [show decide (foldW a = foldW a) = true from decide_eq_true rfl]
                have G9 := below_then G8 G8.size B9
                go_wp2_with (first | (go_at_call 13; refine (awake_any _).mono ?_; rintro e w99 ⟨rfl, B99⟩))
                go_ret
                exact ⟨rfl, below_then G9 G9.size B99⟩
              · have t4 := decide_eq_false o2
                clear o1 ho
                go_wp2_with (first | (at_builtin; refine wpList_appWr rfl _ _ rfl w3.heap.size w G3.size _ [] rfl (own0 w3) _ a rfl ha (G3.alloc G3.size _) (by simp; omega) (by simp) ?_; intro u1 w4 O1 L1 S1; have G4 := L1 _ _ G3.size (G3.alloc G3.size _); have M4 := L1 _ _ (Nat.le_refl _) ((Below.refl w3.heap.size w3).alloc (Nat.le_refl _) _); rw [List.nil_append] at O1; obtain ⟨g, c1, rfl, hbg, hgl, hl1, hm1, hfz⟩ := own_ptr O1 (by intro e; rw [e] at hil; simp at hil); clear L1))
                have KX4 := KX.below M4
                have KY4 := KY.below M4
                have npx : p1 ≠ g := by omega
                have npy : p2 ≠ g := by omega
                have npx' : g ≠ p1 := by omega
                have npy' : g ≠ p2 := by omega
                obtain ⟨e0, e1, e2, e3, e4, e5⟩ := KX4.three
                obtain ⟨r0, r1, r2, r3, r4, r5⟩ := KY4.three
                have hrdx := (O1.reads (T := fun _ => True) (fun _ _ _ => trivial)).at_ HX.out
                have hrdy := (O1.reads (T := fun _ => True) (fun _ _ _ => trivial)).at_ HY.out
                obtain ⟨bq, oq, csq, hq1, _, _, _, hcq, _, _, dq, rfl, _⟩ := hrdx
                obtain ⟨br, or_, csr, hr1, _, _, _, hcr, _, _, dr, rfl, _⟩ := hrdy
                obtain ⟨rfl, rfl⟩ : g = bq ∧ 0 = oq := by injection hq1 with e; injection e with e1 e2; exact ⟨e1, e2⟩
                obtain ⟨rfl, rfl⟩ : g = br ∧ 0 = or_ := by injection hr1 with e; injection e with e1 e2; exact ⟨e1, e2⟩
                have j0 := hcq 0 (by omega)
                have j1 := hcq 1 (by omega)
                have j2 := hcq 2 (by omega)
                have j3 := hcr 0 (by omega)
                have j4 := hcr 1 (by omega)
                have j5 := hcr 2 (by omega)
                simp at j0 j1 j2 j3 j4 j5
                have f0 := hfz (i * 3)
                have f1' := hfz (i * 3 + 1)
                have f2 := hfz (i * 3 + 2)
                have f3 := hfz ((i + 1) * 3)
                have f4 := hfz ((i + 1) * 3 + 1)
                have f5 := hfz ((i + 1) * 3 + 2)
                have hdx : RSecs w4 (fun b => b < w.heap.size ∧ some b ≠ some g) (.slice Ad x.data.length cd) x.data := ((hd.more (T := fun b => b < w.heap.size) (fun b hb _ => hb)).below G4).more (fun b _ hb => ⟨hb, fun e => by injection e with e; omega⟩)
                have hdy : RSecs w4 (fun b => b < w.heap.size ∧ some b ≠ some g) (.slice Ad2 y.data.length cd2) y.data := ((hd2.more (T := fun b => b < w.heap.size) (fun b hb _ => hb)).below G4).more (fun b _ hb => ⟨hb, fun e => by injection e with e; omega⟩)
                have O5 := O1.set3 (j := i) hil0 (x' := y) (u0 := .int .i64 y.vol) (u1 := .int .i64 y.start) (u2 := .slice Ad2 y.data.length cd2) ⟨hv642, hs642, _, rfl, hdy⟩
                have O6 := O5.1.set3 (j := i + 1) (by simpa using hil) (x' := x) (u0 := .int .i64 x.vol) (u1 := .int .i64 x.start) (u2 := .slice Ad x.data.length cd) ⟨hv64, hs64, _, rfl, hdx.keep (fun b hb ⟨_, hne⟩ => O5.2.block b hb hne)⟩
                clear hcq hcr hq1 hr1 hfz
                have HO5 := Lib.hid O5
                have HO6 := Lib.hid O6
                clear O5 O6 hdx hdy
                go_region
                have O7 := HO6.out.1.drew
                have gz4 := G4.size
                have mz4 := M4.size
                have G5 := G4.grown HO5.out.2 gz4 (fun j e => by injection e with e; omega)
                have G7 := (G5.grown HO6.out.2 G5.size (fun j e => by injection e with e; omega)).drew
                have M5 := M4.grown HO5.out.2 mz4 (fun j e => by injection e with e; omega)
                have M7 := (M5.grown HO6.out.2 M5.size (fun j e => by injection e with e; omega)).drew
                generalize ((((((w4.setCell ⟨g, i * 3, none⟩ (.int .i64 y.vol)).setCell ⟨g, i * 3 + 1, none⟩ (.int .i64 y.start)).setCell ⟨g, i * 3 + 2, none⟩ (.slice Ad2 y.data.length cd2)).setCell ⟨g, (i + 1) * 3, none⟩ (.int .i64 x.vol)).setCell ⟨g, (i + 1) * 3 + 1, none⟩ (.int .i64 x.start)).setCell ⟨g, (i + 1) * 3 + 2, none⟩ (.slice Ad x.data.length cd)).drew = w7 at O7 G7 M7 ⊢
                clear HO5 HO6 G5 M5
                have X7 := X3.below M7
                have few2 : FewP ((a.set i y).set (i + 1) x) := ⟨by simpa using f1.1, swap_all HX.out HY.out f1.2⟩
                have hall := fold_ok (.slice (some ⟨g, 0, none⟩) a.length c1) ((a.set i y).set (i + 1) x) w7 Any (O7.reads (fun _ _ _ => trivial)) (foldI_of_placed (swap_all HX.out HY.out HAP.out)) (few_sec few2)
                rw [foldW_congr HSW.out] at hall
                clear few2 O7
                go_wp2_with fail
                refine hall.mono ?_
                rintro e w8 ⟨v8, rfl, X8, B8⟩
                have G8 := below_then G7 G7.size B8
                replace X8 : RWrs w8 Any v8 (foldW a) := X8.more (fun _ _ _ => trivial)
                replace X7 := X7.below B8
                clear hall
                go_wp2_with fail
                refine (same22_any v2 v8 _ _ w8 Any X7 X8).mono ?_
                rintro e w9 ⟨rfl, B9⟩
                rw [show decide (foldW a = foldW a) = true from decide_eq_true rfl]
                have G9 := below_then G8 G8.size B9
                go_wp2_with (first | (go_at_call 13; refine (awake_any _).mono ?_; rintro e w99 ⟨rfl, B99⟩))
                go_ret
                exact ⟨rfl, below_then G9 G9.size B99⟩
            · have t3 : (x.vol == y.vol) = false := by simpa using o1
              clear o1 ho
              go_wp2_with (first | (at_builtin; refine wpList_appWr rfl _ _ rfl w3.heap.size w G3.size _ [] rfl (own0 w3) _ a rfl ha (G3.alloc G3.size _) (by simp; omega) (by simp) ?_; intro u1 w4 O1 L1 S1; have G4 := L1 _ _ G3.size (G3.alloc G3.size _); have M4 := L1 _ _ (Nat.le_refl _) ((Below.refl w3.heap.size w3).alloc (Nat.le_refl _) _); rw [List.nil_append] at O1; obtain ⟨g, c1, rfl, hbg, hgl, hl1, hm1, hfz⟩ := own_ptr O1 (by intro e; rw [e] at hil; simp at hil); clear L1))
              have KX4 := KX.below M4
              have KY4 := KY.below M4
              have npx : p1 ≠ g := by omega
              have npy : p2 ≠ g := by omega
              have npx' : g ≠ p1 := by omega
              have npy' : g ≠ p2 := by omega
              obtain ⟨e0, e1, e2, e3, e4, e5⟩ := KX4.three
              obtain ⟨r0, r1, r2, r3, r4, r5⟩ := KY4.three
              have hrdx := (O1.reads (T := fun _ => True) (fun _ _ _ => trivial)).at_ HX.out
              have hrdy := (O1.reads (T := fun _ => True) (fun _ _ _ => trivial)).at_ HY.out
              obtain ⟨bq, oq, csq, hq1, _, _, _, hcq, _, _, dq, rfl, _⟩ := hrdx
              obtain ⟨br, or_, csr, hr1, _, _, _, hcr, _, _, dr, rfl, _⟩ := hrdy
              obtain ⟨rfl, rfl⟩ : g = bq ∧ 0 = oq := by injection hq1 with e; injection e with e1 e2; exact ⟨e1, e2⟩
              obtain ⟨rfl, rfl⟩ : g = br ∧ 0 = or_ := by injection hr1 with e; injection e with e1 e2; exact ⟨e1, e2⟩
              have j0 := hcq 0 (by omega)
              have j1 := hcq 1 (by omega)
              have j2 := hcq 2 (by omega)
              have j3 := hcr 0 (by omega)
              have j4 := hcr 1 (by omega)
              have j5 := hcr 2 (by omega)
              simp at j0 j1 j2 j3 j4 j5
              have f0 := hfz (i * 3)
              have f1' := hfz (i * 3 + 1)
              have f2 := hfz (i * 3 + 2)
              have f3 := hfz ((i + 1) * 3)
              have f4 := hfz ((i + 1) * 3 + 1)
              have f5 := hfz ((i + 1) * 3 + 2)
              have hdx : RSecs w4 (fun b => b < w.heap.size ∧ some b ≠ some g) (.slice Ad x.data.length cd) x.data := ((hd.more (T := fun b => b < w.heap.size) (fun b hb _ => hb)).below G4).more (fun b _ hb => ⟨hb, fun e => by injection e with e; omega⟩)
              have hdy : RSecs w4 (fun b => b < w.heap.size ∧ some b ≠ some g) (.slice Ad2 y.data.length cd2) y.data := ((hd2.more (T := fun b => b < w.heap.size) (fun b hb _ => hb)).below G4).more (fun b _ hb => ⟨hb, fun e => by injection e with e; omega⟩)
              have O5 := O1.set3 (j := i) hil0 (x' := y) (u0 := .int .i64 y.vol) (u1 := .int .i64 y.start) (u2 := .slice Ad2 y.data.length cd2) ⟨hv642, hs642, _, rfl, hdy⟩
              have O6 := O5.1.set3 (j := i + 1) (by simpa using hil) (x' := x) (u0 := .int .i64 x.vol) (u1 := .int .i64 x.start) (u2 := .slice Ad x.data.length cd) ⟨hv64, hs64, _, rfl, hdx.keep (fun b hb ⟨_, hne⟩ => O5.2.block b hb hne)⟩
              clear hcq hcr hq1 hr1 hfz
              have HO5 := Lib.hid O5
              have HO6 := Lib.hid O6
              clear O5 O6 hdx hdy
              go_region
              have O7 := HO6.out.1.drew
              have gz4 := G4.size
              have mz4 := M4.size
              have G5 := G4.grown HO5.out.2 gz4 (fun j e => by injection e with e; omega)
              have G7 := (G5.grown HO6.out.2 G5.size (fun j e => by injection e with e; omega)).drew
              have M5 := M4.grown HO5.out.2 mz4 (fun j e => by injection e with e; omega)
              have M7 := (M5.grown HO6.out.2 M5.size (fun j e => by injection e with e; omega)).drew
              generalize ((((((w4.setCell ⟨g, i * 3, none⟩ (.int .i64 y.vol)).setCell ⟨g, i * 3 + 1, none⟩ (.int .i64 y.start)).setCell ⟨g, i * 3 + 2, none⟩ (.slice Ad2 y.data.length cd2)).setCell ⟨g, (i + 1) * 3, none⟩ (.int .i64 x.vol)).setCell ⟨g, (i + 1) * 3 + 1, none⟩ (.int .i64 x.start)).setCell ⟨g, (i + 1) * 3 + 2, none⟩ (.slice Ad x.data.length cd)).drew = w7 at O7 G7 M7 ⊢
              clear HO5 HO6 G5 M5
              have X7 := X3.below M7
              have few2 : FewP ((a.set i y).set (i + 1) x) := ⟨by simpa using f1.1, swap_all HX.out HY.out f1.2⟩
              have hall := fold_ok (.slice (some ⟨g, 0, none⟩) a.length c1) ((a.set i y).set (i + 1) x) w7 Any (O7.reads (fun _ _ _ => trivial)) (foldI_of_placed (swap_all HX.out HY.out HAP.out)) (few_sec few2)
              rw [foldW_congr HSW.out] at hall
              clear few2 O7
              go_wp2_with fail
              refine hall.mono ?_
              rintro e w8 ⟨v8, rfl, X8, B8⟩
              have G8 := below_then G7 G7.size B8
              replace X8 : RWrs w8 Any v8 (foldW a) := X8.more (fun _ _ _ => trivial)
              replace X7 := X7.below B8
              clear hall
              go_wp2_with fail
              refine (same22_any v2 v8 _ _ w8 Any X7 X8).mono ?_
              rintro e w9 ⟨rfl, B9⟩
              rw [show decide (foldW a = foldW a) = true from decide_eq_true rfl]
              have G9 := below_then G8 G8.size B9
              go_wp2_with (first | (go_at_call 13; refine (awake_any _).mono ?_; rintro e w99 ⟨rfl, B99⟩))
              go_ret
              exact ⟨rfl, below_then G9 G9.size B99⟩
        · have hz' : (foldI a != 0) = true := by simpa using hF
          go_wp2_with (first | (go_at_call 13; refine (awake_any _).mono ?_; rintro e w99 ⟨rfl, B99⟩))
          go_ret
          exact ⟨rfl, below_then G3 G3.size B99⟩
      · skip
        have k1 := ((Blk.new w2 35 #[.int .i64 y.vol, .int .i64 y.start, .slice Ad2 y.data.length cd2]).alloc (.cells #[.int .i64 x.vol, .int .i64 x.start, .slice Ad x.data.length cd] 35)).drew
        have k2 := (Blk.new (w2.alloc (.cells #[.int .i64 y.vol, .int .i64 y.start, .slice Ad2 y.data.length cd2] 35)) 35 #[.int .i64 x.vol, .int .i64 x.start, .slice Ad x.data.length cd]).drew
        have h3 : Below w2.heap.size w2 ((w2.alloc (.cells #[.int .i64 y.vol, .int .i64 y.start, .slice Ad2 y.data.length cd2] 35)).alloc (.cells #[.int .i64 x.vol, .int .i64 x.start, .slice Ad x.data.length cd] 35)).drew := (((Below.refl _ _).alloc (Nat.le_refl _) _).alloc (by simp) _).drew
        have G3 := below_then G2 G2.size h3
        have z1 : w.heap.size ≤ w2.heap.size := G2.size
        have z2 : w.heap.size ≤ w2.heap.size + 1 := by omega
        have z3 : w2.heap.size < w2.heap.size + 1 := by omega
        rw [show (w2.alloc (.cells #[.int .i64 y.vol, .int .i64 y.start, .slice Ad2 y.data.length cd2] 35)).heap.size = w2.heap.size + 1 by simp] at k2
        have X3 := X2.below h3
        have y1 := hD _ G3
        generalize ((w2.alloc (.cells #[.int .i64 y.vol, .int .i64 y.start, .slice Ad2 y.data.length cd2] 35)).alloc (.cells #[.int .i64 x.vol, .int .i64 x.start, .slice Ad x.data.length cd] 35)).drew = w3 at *
        generalize w2.heap.size + 1 = p2 at *
        have hne : w2.heap.size ≠ p2 := by omega
        clear h3 B2 G2 hb2l
        generalize w2.heap.size = p1 at *
        have KX := k2
        have KY := k1
        clear k1 k2
        have lx := KX.lt
        have ly := KY.lt
        obtain ⟨a0, a1, a2, a3, a4, a5⟩ := KX.three
        obtain ⟨b0, b1', b2, b3, b4, b5⟩ := KY.three
        by_cases hF : foldI a = 0
        · rw [hF]
          have hap := foldI_placed hF
          have px := hap x (List.mem_of_getElem? HX.out)
          have py := hap y (List.mem_of_getElem? HY.out)
          obtain ⟨_, _, _, px0, px1⟩ := px
          obtain ⟨_, _, _, py0, py1⟩ := py
          have hfr : foldR a = foldW a := by unfold foldR; rw [if_pos hF]
          rw [hfr] at X3
          have HAP := Lib.hid hap
          have HF := Lib.hid hF
          clear hap hF hfr
          by_cases ho : Overlap x y
          · obtain ⟨o1, o2, o3⟩ := ho
            have t3 : (x.vol == y.vol) = true := by simpa using o1
            have t4 := decide_eq_true o2
            have t5 := decide_eq_true o3
            clear o1
            go_wp2_with (first | (go_at_call 13; refine (awake_any _).mono ?_; rintro e w99 ⟨rfl, B99⟩))
            go_ret
            exact ⟨rfl, below_then G3 G3.size B99⟩
          · have swe := swap_eff HX.out HY.out ho
            have HSW := Lib.hid swe
            clear swe
            by_cases o1 : x.vol = y.vol
            · have t3 : (x.vol == y.vol) = true := by simpa using o1
              by_cases o2 : x.start < y.start + y.data.length
              · have t4 := decide_eq_true o2
                have t5 := decide_eq_false (show ¬ y.start < x.start + x.data.length from fun o3 => ho ⟨o1, o2, o3⟩)
                clear o1 ho
                go_wp2_with (first | (at_builtin; refine wpList_appWr rfl _ _ rfl w3.heap.size w G3.size _ [] rfl (own0 w3) _ a rfl ha (G3.alloc G3.size _) (by simp; omega) (by simp) ?_; intro u1 w4 O1 L1 S1; have G4 := L1 _ _ G3.size (G3.alloc G3.size _); have M4 := L1 _ _ (Nat.le_refl _) ((Below.refl w3.heap.size w3).alloc (Nat.le_refl _) _); rw [List.nil_append] at O1; obtain ⟨g, c1, rfl, hbg, hgl, hl1, hm1, hfz⟩ := own_ptr O1 (by intro e; rw [e] at hil; simp at hil); clear L1))
                have KX4 := KX.below M4
                have KY4 := KY.below M4
                have npx : p2 ≠ g := by omega
                have npy : p1 ≠ g := by omega
                have npx' : g ≠ p2 := by omega
                have npy' : g ≠ p1 := by omega
                obtain ⟨e0, e1, e2, e3, e4, e5⟩ := KX4.three
                obtain ⟨r0, r1, r2, r3, r4, r5⟩ := KY4.three
                have hrdx := (O1.reads (T := fun _ => True) (fun _ _ _ => trivial)).at_ HX.out
                have hrdy := (O1.reads (T := fun _ => True) (fun _ _ _ => trivial)).at_ HY.out
                obtain ⟨bq, oq, csq, hq1, _, _, _, hcq, _, _, dq, rfl, _⟩ := hrdx
                obtain ⟨br, or_, csr, hr1, _, _, _, hcr, _, _, dr, rfl, _⟩ := hrdy
                obtain ⟨rfl, rfl⟩ : g = bq ∧ 0 = oq := by injection hq1 with e; injection e with e1 e2; exact ⟨e1, e2⟩
                obtain ⟨rfl, rfl⟩ : g = br ∧ 0 = or_ := by injection hr1 with e; injection e with e1 e2; exact ⟨e1, e2⟩
                have j0 := hcq 0 (by omega)
                have j1 := hcq 1 (by omega)
                have j2 := hcq 2 (by omega)
                have j3 := hcr 0 (by omega)
                have j4 := hcr 1 (by omega)
                have j5 := hcr 2 (by omega)
                simp at j0 j1 j2 j3 j4 j5
                have f0 := hfz (i * 3)
                have f1' := hfz (i * 3 + 1)
                have f2 := hfz (i * 3 + 2)
                have f3 := hfz ((i + 1) * 3)
                have f4 := hfz ((i + 1) * 3 + 1)
                have f5 := hfz ((i + 1) * 3 + 2)
                have hdx : RSecs w4 (fun b => b < w.heap.size ∧ some b ≠ some g) (.slice Ad x.data.length cd) x.data := ((hd.more (T := fun b => b < w.heap.size) (fun b hb _ => hb)).below G4).more (fun b _ hb => ⟨hb, fun e => by injection e with e; omega⟩)
                have hdy : RSecs w4 (fun b => b < w.heap.size ∧ some b ≠ some g) (.slice Ad2 y.data.length cd2) y.data := ((hd2.more (T := fun b => b < w.heap.size) (fun b hb _ => hb)).below G4).more (fun b _ hb => ⟨hb, fun e => by injection e with e; omega⟩)
                have O5 := O1.set3 (j := i) hil0 (x' := y) (u0 := .int .i64 y.vol) (u1 := .int .i64 y.start) (u2 := .slice Ad2 y.data.length cd2) ⟨hv642, hs642, _, rfl, hdy⟩
                have O6 := O5.1.set3 (j := i + 1) (by simpa using hil) (x' := x) (u0 := .int .i64 x.vol) (u1 := .int .i64 x.start) (u2 := .slice Ad x.data.length cd) ⟨hv64, hs64, _, rfl, hdx.keep (fun b hb ⟨_, hne⟩ => O5.2.block b hb hne)⟩
                clear hcq hcr hq1 hr1 hfz
                have HO5 := Lib.hid O5
                have HO6 := Lib.hid O6
                clear O5 O6 hdx hdy
                go_region
                have O7 := HO6.out.1.drew
                have gz4 := G4.size
                have mz4 := M4.size
                have G5 := G4.grown HO5.out.2 gz4 (fun j e => by injection e with e; omega)
                have G7 := (G5.grown HO6.out.2 G5.size (fun j e => by injection e with e; omega)).drew
                have M5 := M4.grown HO5.out.2 mz4 (fun j e => by injection e with e; omega)
                have M7 := (M5.grown HO6.out.2 M5.size (fun j e => by injection e with e; omega)).drew
                generalize ((((((w4.setCell ⟨g, i * 3, none⟩ (.int .i64 y.vol)).setCell ⟨g, i * 3 + 1, none⟩ (.int .i64 y.start)).setCell ⟨g, i * 3 + 2, none⟩ (.slice Ad2 y.data.length cd2)).setCell ⟨g, (i + 1) * 3, none⟩ (.int .i64 x.vol)).setCell ⟨g, (i + 1) * 3 + 1, none⟩ (.int .i64 x.start)).setCell ⟨g, (i + 1) * 3 + 2, none⟩ (.slice Ad x.data.length cd)).drew = w7 at O7 G7 M7 ⊢
                clear HO5 HO6 G5 M5
                have X7 := X3.below M7
                have few2 : FewP ((a.set i y).set (i + 1) x) := ⟨by simpa using f1.1, swap_all HX.out HY.out f1.2⟩
                have hall := fold_ok (.slice (some ⟨g, 0, none⟩) a.length c1) ((a.set i y).set (i + 1) x) w7 Any (O7.reads (fun _ _ _ => trivial)) (foldI_of_placed (swap_all HX.out HY.out HAP.out)) (few_sec few2)
                rw [foldW_congr HSW.out] at hall
                clear few2 O7
                go_wp2_with fail
                refine hall.mono ?_
                rintro e w8 ⟨v8, rfl, X8, B8⟩
                have G8 := below_then G7 G7.size B8
                replace X8 : RWrs w8 Any v8 (foldW a) := X8.more (fun _ _ _ => trivial)
                replace X7 := X7.below B8
                clear hall
                go_wp2_with fail
                refine (same22_any v2 v8 _ _ w8 Any X7 X8).mono ?_
                rintro e w9 ⟨rfl, B9⟩
                rw [show decide (foldW a = foldW a) = true from decide_eq_true rfl]
                have G9 := below_then G8 G8.size B9
                go_wp2_with (first | (go_at_call 13; refine (awake_any _).mono ?_; rintro e w99 ⟨rfl, B99⟩))
                go_ret
                exact ⟨rfl, below_then G9 G9.size B99⟩
              · have t4 := decide_eq_false o2
                clear o1 ho
                go_wp2_with (first | (at_builtin; refine wpList_appWr rfl _ _ rfl w3.heap.size w G3.size _ [] rfl (own0 w3) _ a rfl ha (G3.alloc G3.size _) (by simp; omega) (by simp) ?_; intro u1 w4 O1 L1 S1; have G4 := L1 _ _ G3.size (G3.alloc G3.size _); have M4 := L1 _ _ (Nat.le_refl _) ((Below.refl w3.heap.size w3).alloc (Nat.le_refl _) _); rw [List.nil_append] at O1; obtain ⟨g, c1, rfl, hbg, hgl, hl1, hm1, hfz⟩ := own_ptr O1 (by intro e; rw [e] at hil; simp at hil); clear L1))
                have KX4 := KX.below M4
                have KY4 := KY.below M4
                have npx : p2 ≠ g := by omega
                have npy : p1 ≠ g := by omega
                have npx' : g ≠ p2 := by omega
                have npy' : g ≠ p1 := by omega
                obtain ⟨e0, e1, e2, e3, e4, e5⟩ := KX4.three
                obtain ⟨r0, r1, r2, r3, r4, r5⟩ := KY4.three
                have hrdx := (O1.reads (T := fun _ => True) (fun _ _ _ => trivial)).at_ HX.out
                have hrdy := (O1.reads (T := fun _ => True) (fun _ _ _ => trivial)).at_ HY.out
                obtain ⟨bq, oq, csq, hq1, _, _, _, hcq, _, _, dq, rfl, _⟩ := hrdx
                obtain ⟨br, or_, csr, hr1, _, _, _, hcr, _, _, dr, rfl, _⟩ := hrdy
                obtain ⟨rfl, rfl⟩ : g = bq ∧ 0 = oq := by injection hq1 with e; injection e with e1 e2; exact ⟨e1, e2⟩
                obtain ⟨rfl, rfl⟩ : g = br ∧ 0 = or_ := by injection hr1 with e; injection e with e1 e2; exact ⟨e1, e2⟩
                have j0 := hcq 0 (by omega)
                have j1 := hcq 1 (by omega)
                have j2 := hcq 2 (by omega)
                have j3 := hcr 0 (by omega)
                have j4 := hcr 1 (by omega)
                have j5 := hcr 2 (by omega)
                simp at j0 j1 j2 j3 j4 j5
                have f0 := hfz (i * 3)
                have f1' := hfz (i * 3 + 1)
                have f2 := hfz (i * 3 + 2)
                have f3 := hfz ((i + 1) * 3)
                have f4 := hfz ((i + 1) * 3 + 1)
                have f5 := hfz ((i + 1) * 3 + 2)
                have hdx : RSecs w4 (fun b => b < w.heap.size ∧ some b ≠ some g) (.slice Ad x.data.length cd) x.data := ((hd.more (T := fun b => b < w.heap.size) (fun b hb _ => hb)).below G4).more (fun b _ hb => ⟨hb, fun e => by injection e with e; omega⟩)
                have hdy : RSecs w4 (fun b => b < w.heap.size ∧ some b ≠ some g) (.slice Ad2 y.data.length cd2) y.data := ((hd2.more (T := fun b => b < w.heap.size) (fun b hb _ => hb)).below G4).more (fun b _ hb => ⟨hb, fun e => by injection e with e; omega⟩)
                have O5 := O1.set3 (j := i) hil0 (x' := y) (u0 := .int .i64 y.vol) (u1 := .int .i64 y.start) (u2 := .slice Ad2 y.data.length cd2) ⟨hv642, hs642, _, rfl, hdy⟩
                have O6 := O5.1.set3 (j := i + 1) (by simpa using hil) (x' := x) (u0 := .int .i64 x.vol) (u1 := .int .i64 x.start) (u2 := .slice Ad x.data.length cd) ⟨hv64, hs64, _, rfl, hdx.keep (fun b hb ⟨_, hne⟩ => O5.2.block b hb hne)⟩
                clear hcq hcr hq1 hr1 hfz
                have HO5 := Lib.hid O5
                have HO6 := Lib.hid O6
                clear O5 O6 hdx hdy
                go_region
                have O7 := HO6.out.1.drew
                have gz4 := G4.size
                have mz4 := M4.size
                have G5 := G4.grown HO5.out.2 gz4 (fun j e => by injection e with e; omega)
                have G7 := (G5.grown HO6.out.2 G5.size (fun j e => by injection e with e; omega)).drew
                have M5 := M4.grown HO5.out.2 mz4 (fun j e => by injection e with e; omega)
                have M7 := (M5.grown HO6.out.2 M5.size (fun j e => by injection e with e; omega)).drew
                generalize ((((((w4.setCell ⟨g, i * 3, none⟩ (.int .i64 y.vol)).setCell ⟨g, i * 3 + 1, none⟩ (.int .i64 y.start)).setCell ⟨g, i * 3 + 2, none⟩ (.slice Ad2 y.data.length cd2)).setCell ⟨g, (i + 1) * 3, none⟩ (.int .i64 x.vol)).setCell ⟨g, (i + 1) * 3 + 1, none⟩ (.int .i64 x.start)).setCell ⟨g, (i + 1) * 3 + 2, none⟩ (.slice Ad x.data.length cd)).drew = w7 at O7 G7 M7 ⊢
                clear HO5 HO6 G5 M5
                have X7 := X3.below M7
                have few2 : FewP ((a.set i y).set (i + 1) x) := ⟨by simpa using f1.1, swap_all HX.out HY.out f1.2⟩
                have hall := fold_ok (.slice (some ⟨g, 0, none⟩) a.length c1) ((a.set i y).set (i + 1) x) w7 Any (O7.reads (fun _ _ _ => trivial)) (foldI_of_placed (swap_all HX.out HY.out HAP.out)) (few_sec few2)
                rw [foldW_congr HSW.out] at hall
                clear few2 O7
                go_wp2_with fail
                refine hall.mono ?_
                rintro e w8 ⟨v8, rfl, X8, B8⟩
                have G8 := below_then G7 G7.size B8
                replace X8 : RWrs w8 Any v8 (foldW a) := X8.more (fun _ _ _ => trivial)
                replace X7 := X7.below B8
                clear hall
                go_wp2_with fail
                refine (same22_any v2 v8 _ _ w8 Any X7 X8).mono ?_
                rintro e w9 ⟨rfl, B9⟩
                rw [show decide (foldW a = foldW a) = true from decide_eq_true rfl]
                have G9 := below_then G8 G8.size B9
                go_wp2_with (first | (go_at_call 13; refine (awake_any _).mono ?_; rintro e w99 ⟨rfl, B99⟩))
                go_ret
                exact ⟨rfl, below_then G9 G9.size B99⟩
            · have t3 : (x.vol == y.vol) = false := by simpa using o1
              clear o1 ho
              go_wp2_with (first | (at_builtin; refine wpList_appWr rfl _ _ rfl w3.heap.size w G3.size _ [] rfl (own0 w3) _ a rfl ha (G3.alloc G3.size _) (by simp; omega) (by simp) ?_; intro u1 w4 O1 L1 S1; have G4 := L1 _ _ G3.size (G3.alloc G3.size _); have M4 := L1 _ _ (Nat.le_refl _) ((Below.refl w3.heap.size w3).alloc (Nat.le_refl _) _); rw [List.nil_append] at O1; obtain ⟨g, c1, rfl, hbg, hgl, hl1, hm1, hfz⟩ := own_ptr O1 (by intro e; rw [e] at hil; simp at hil); clear L1))
              have KX4 := KX.below M4
              have KY4 := KY.below M4
              have npx : p2 ≠ g := by omega
              have npy : p1 ≠ g := by omega
              have npx' : g ≠ p2 := by omega
              have npy' : g ≠ p1 := by omega
              obtain ⟨e0, e1, e2, e3, e4, e5⟩ := KX4.three
              obtain ⟨r0, r1, r2, r3, r4, r5⟩ := KY4.three
              have hrdx := (O1.reads (T := fun _ => True) (fun _ _ _ => trivial)).at_ HX.out
              have hrdy := (O1.reads (T := fun _ => True) (fun _ _ _ => trivial)).at_ HY.out
              obtain ⟨bq, oq, csq, hq1, _, _, _, hcq, _, _, dq, rfl, _⟩ := hrdx
              obtain ⟨br, or_, csr, hr1, _, _, _, hcr, _, _, dr, rfl, _⟩ := hrdy
              obtain ⟨rfl, rfl⟩ : g = bq ∧ 0 = oq := by injection hq1 with e; injection e with e1 e2; exact ⟨e1, e2⟩
              obtain ⟨rfl, rfl⟩ : g = br ∧ 0 = or_ := by injection hr1 with e; injection e with e1 e2; exact ⟨e1, e2⟩
              have j0 := hcq 0 (by omega)
              have j1 := hcq 1 (by omega)
              have j2 := hcq 2 (by omega)
              have j3 := hcr 0 (by omega)
              have j4 := hcr 1 (by omega)
              have j5 := hcr 2 (by omega)
              simp at j0 j1 j2 j3 j4 j5
              have f0 := hfz (i * 3)
              have f1' := hfz (i * 3 + 1)
              have f2 := hfz (i * 3 + 2)
              have f3 := hfz ((i + 1) * 3)
              have f4 := hfz ((i + 1) * 3 + 1)
              have f5 := hfz ((i + 1) * 3 + 2)
              have hdx : RSecs w4 (fun b => b < w.heap.size ∧ some b ≠ some g) (.slice Ad x.data.length cd) x.data := ((hd.more (T := fun b => b < w.heap.size) (fun b hb _ => hb)).below G4).more (fun b _ hb => ⟨hb, fun e => by injection e with e; omega⟩)
              have hdy : RSecs w4 (fun b => b < w.heap.size ∧ some b ≠ some g) (.slice Ad2 y.data.length cd2) y.data := ((hd2.more (T := fun b => b < w.heap.size) (fun b hb _ => hb)).below G4).more (fun b _ hb => ⟨hb, fun e => by injection e with e; omega⟩)
              have O5 := O1.set3 (j := i) hil0 (x' := y) (u0 := .int .i64 y.vol) (u1 := .int .i64 y.start) (u2 := .slice Ad2 y.data.length cd2) ⟨hv642, hs642, _, rfl, hdy⟩
              have O6 := O5.1.set3 (j := i + 1) (by simpa using hil) (x' := x) (u0 := .int .i64 x.vol) (u1 := .int .i64 x.start) (u2 := .slice Ad x.data.length cd) ⟨hv64, hs64, _, rfl, hdx.keep (fun b hb ⟨_, hne⟩ => O5.2.block b hb hne)⟩
              clear hcq hcr hq1 hr1 hfz
              have HO5 := Lib.hid O5
              have HO6 := Lib.hid O6
              clear O5 O6 hdx hdy
              go_region
              have O7 := HO6.out.1.drew
              have gz4 := G4.size
              have mz4 := M4.size
              have G5 := G4.grown HO5.out.2 gz4 (fun j e => by injection e with e; omega)
              have G7 := (G5.grown HO6.out.2 G5.size (fun j e => by injection e with e; omega)).drew
              have M5 := M4.grown HO5.out.2 mz4 (fun j e => by injection e with e; omega)
              have M7 := (M5.grown HO6.out.2 M5.size (fun j e => by injection e with e; omega)).drew
              generalize ((((((w4.setCell ⟨g, i * 3, none⟩ (.int .i64 y.vol)).setCell ⟨g, i * 3 + 1, none⟩ (.int .i64 y.start)).setCell ⟨g, i * 3 + 2, none⟩ (.slice Ad2 y.data.length cd2)).setCell ⟨g, (i + 1) * 3, none⟩ (.int .i64 x.vol)).setCell ⟨g, (i + 1) * 3 + 1, none⟩ (.int .i64 x.start)).setCell ⟨g, (i + 1) * 3 + 2, none⟩ (.slice Ad x.data.length cd)).drew = w7 at O7 G7 M7 ⊢
              clear HO5 HO6 G5 M5
              have X7 := X3.below M7
              have few2 : FewP ((a.set i y).set (i + 1) x) := ⟨by simpa using f1.1, swap_all HX.out HY.out f1.2⟩
              have hall := fold_ok (.slice (some ⟨g, 0, none⟩) a.length c1) ((a.set i y).set (i + 1) x) w7 Any (O7.reads (fun _ _ _ => trivial)) (foldI_of_placed (swap_all HX.out HY.out HAP.out)) (few_sec few2)
              rw [foldW_congr HSW.out] at hall
              clear few2 O7
              go_wp2_with fail
              refine hall.mono ?_
              rintro e w8 ⟨v8, rfl, X8, B8⟩
              have G8 := below_then G7 G7.size B8
              replace X8 : RWrs w8 Any v8 (foldW a) := X8.more (fun _ _ _ => trivial)
              replace X7 := X7.below B8
              clear hall
              go_wp2_with fail
              refine (same22_any v2 v8 _ _ w8 Any X7 X8).mono ?_
              rintro e w9 ⟨rfl, B9⟩
              rw [show decide (foldW a = foldW a) = true from decide_eq_true rfl]
              have G9 := below_then G8 G8.size B9
              go_wp2_with (first | (go_at_call 13; refine (awake_any _).mono ?_; rintro e w99 ⟨rfl, B99⟩))
              go_ret
              exact ⟨rfl, below_then G9 G9.size B99⟩
        · have hz' : (foldI a != 0) = true := by simpa using hF
          go_wp2_with (first | (go_at_call 13; refine (awake_any _).mono ?_; rintro e w99 ⟨rfl, B99⟩))
          go_ret
          exact ⟨rfl, below_then G3 G3.size B99⟩
end Go.Proofs.Ytoifinmcoldidaa
