import Derived.Test.YtccbbecfmfldbaaQ27
import Derived.Test.YtccbbecfmfldbaaQ24
import Derived.Test.YtccbbecfmfldbaaQ20
import Derived.Deep.DeepCutAuto
import Derived.BigQuiet
import Derived.Deep.RegionHeld3
set_option maxRecDepth 100000
set_option linter.unusedVariables false
set_option linter.unusedSimpArgs false
namespace Go.Proofs.Ytccbbecfmfldbaa
open Go.RowKit Go.Mm Sb

/-! ### the example of chapter 36, in plain mathematics -/
def wA : List Wr := [⟨0, 0, [sec1 97]⟩]
def wB : List Wr := [⟨0, 0, [sec1 98, sec1 98]⟩]
def wC : List Wr := [⟨0, 1, [sec1 99]⟩]
def svA : List Wr := [⟨0, 0, [sec1 97, sec1 0]⟩]
def svB : List Wr := [⟨0, 1, [sec1 98]⟩]
def e0 : Snaps := ⟨[[sec1 0, sec1 0, sec1 0, sec1 0]], []⟩
def e1 : Snaps := ⟨[[sec1 97, sec1 0, sec1 0, sec1 0]], []⟩
def e2 : Snaps := ⟨[[sec1 97, sec1 0, sec1 0, sec1 0]], [⟨1, 5, []⟩]⟩
def e3 : Snaps := ⟨[[sec1 98, sec1 98, sec1 0, sec1 0]], [⟨1, 5, svA⟩]⟩
def e4 : Snaps := ⟨[[sec1 98, sec1 98, sec1 0, sec1 0]], [⟨1, 5, svA⟩, ⟨2, 6, []⟩]⟩
def e5 : Snaps := ⟨[[sec1 98, sec1 99, sec1 0, sec1 0]], [⟨1, 5, svA⟩, ⟨2, 6, svB⟩]⟩
def e6 : Snaps := ⟨[[sec1 98, sec1 99, sec1 0, sec1 0]], [⟨1, 5, svA⟩]⟩
theorem svA_fold : foldR (svA ++ []) = svA := by
  have h : foldI svA = 0 := by kernel_rfl
  rw [List.append_nil]
  unfold foldR
  rw [if_pos h]
  exact foldW_id ⟨by simp [svA], by simp [svA]⟩ (foldI_placed h)
theorem svB_fold : foldR (svB ++ []) = svB := by
  have h : foldI svB = 0 := by kernel_rfl
  rw [List.append_nil]
  unfold foldR
  rw [if_pos h]
  exact foldW_id ⟨by simp [svB], by simp [svB]⟩ (foldI_placed h)
theorem svBA_fold : foldR (svB ++ svA) = svA := by
  have h : foldI (svB ++ svA) = 0 := by kernel_rfl
  unfold foldR
  rw [if_pos h]
  exact canonOf_small ⟨by simp [svA], by simp [svA]⟩ (by kernel_rfl) (eff_box (by kernel_rfl)) (by kernel_rfl)
theorem e0_new : newS [[sec1 0, sec1 0, sec1 0, sec1 0]] = e0 ∧ sizesI (lens [[sec1 0, sec1 0, sec1 0, sec1 0]]) = 0 := ⟨by unfold newS; rw [if_pos (by kernel_rfl)]; rfl, by kernel_rfl⟩
theorem e1_apply : applyE e0 wA = 0 ∧ applyS e0 wA = e1 := by
  have h : applyE e0 wA = 0 := by kernel_rfl
  exact ⟨h, by unfold applyS; rw [if_pos h]; kernel_rfl⟩
theorem e2_take : takeE e1 1 5 = 0 ∧ takeS e1 1 5 = e2 := by
  have h : takeE e1 1 5 = 0 := by kernel_rfl
  exact ⟨h, by unfold takeS; rw [if_pos h]; kernel_rfl⟩
theorem e3_apply : applyE e2 wB = 0 ∧ applyS e2 wB = e3 := by
  have h : applyE e2 wB = 0 := by kernel_rfl
  refine ⟨h, ?_⟩
  unfold applyS
  rw [if_pos h]
  have e : lastMap (addSaved (keptW e2.cur wB)) e2.items = [⟨1, 5, foldR (svA ++ [])⟩] := rfl
  rw [e, svA_fold]
  have e' : putAll e2.cur wB = e3.cur := by kernel_rfl
  rw [e']
  rfl
theorem e4_take : takeE e3 2 6 = 0 ∧ takeS e3 2 6 = e4 := by
  have h : takeE e3 2 6 = 0 := by kernel_rfl
  exact ⟨h, by unfold takeS; rw [if_pos h]; kernel_rfl⟩
theorem e5_apply : applyE e4 wC = 0 ∧ applyS e4 wC = e5 := by
  have h : applyE e4 wC = 0 := by kernel_rfl
  refine ⟨h, ?_⟩
  unfold applyS
  rw [if_pos h]
  have e : lastMap (addSaved (keptW e4.cur wC)) e4.items = [⟨1, 5, svA⟩, ⟨2, 6, foldR (svB ++ [])⟩] := rfl
  rw [e, svB_fold]
  have e' : putAll e4.cur wC = e5.cur := by kernel_rfl
  rw [e']
  rfl
theorem e5_cost : costS e5 = 3 := by kernel_rfl
theorem e5_image1 : findE e5 1 = 0 ∧ imageR e5 1 = [[sec1 97, sec1 0, sec1 0, sec1 0]] := ⟨by kernel_rfl, by kernel_rfl⟩
theorem e5_image2 : findE e5 2 = 0 ∧ imageR e5 2 = [[sec1 98, sec1 98, sec1 0, sec1 0]] := ⟨by kernel_rfl, by kernel_rfl⟩
theorem e6_delete : findE e5 2 = 0 ∧ deleteS e5 2 = e6 := by
  have h : findE e5 2 = 0 := by kernel_rfl
  refine ⟨h, ?_⟩
  have hk : findK e5 2 = 1 := by kernel_rfl
  unfold deleteS
  rw [if_pos h, hk]
  have e : handOn e5.items 1 = [⟨1, 5, foldR (svB ++ svA)⟩, ⟨2, 6, svB⟩] := rfl
  rw [e, svBA_fold]
  rfl
theorem e6_cost : costS e6 = 2 := by kernel_rfl
end Go.Proofs.Ytccbbecfmfldbaa

set_option maxRecDepth 100000
set_option linter.unusedVariables false
set_option linter.unusedSimpArgs false
namespace Go.Proofs.Ytccbbecfmfldbaa
open Go.RowKit Go.Mm Sb

/-! ### the reference: images -/
set_option maxHeartbeats 2000000 in
theorem sameVolume_any (va vb : Value) (a b : List Sec) (w : World) (S : Nat → Prop) (ha : RSecs w S va a) (hb : RSecs w S vb b) :
    Calls Try.prog 68 #[va, vb] w fun e w' => e = .returned (.bool (decide (a = b))) ∧ Below w.heap.size w w' := by
  obtain ⟨Aa, ca, rfl, ha1, ha2⟩ := ha.val
  obtain ⟨Ab, cb, rfl, hb1, hb2⟩ := hb.val
  unfold maxLen at ha2 hb2
  have hnS := fun x y w => neqS x y w
  simp only [encS_eq] at hnS
  have hgS := guardS
  by_cases hl : a.length = b.length
  · go_enter Try.func68, Try.ntmps68
    go_wp2
    go_loopw [5] (fun i wr => ∃ k : Nat, k ≤ a.length ∧ i = .int .i64 k ∧ a.take k = b.take k ∧ Below w.heap.size w wr) (fun i _ => a.length - (intOf i).toNat)
    case atStart => exact ⟨0, Nat.zero_le _, rfl, rfl, Below.refl _ _⟩
    case round =>
      obtain ⟨k, hk, rfl, hn, hbw⟩ := hrel
      by_cases hlt : k < a.length
      · obtain ⟨x, hx⟩ : ∃ x, a[k]? = some x := ⟨_, List.getElem?_eq_getElem hlt⟩
        obtain ⟨y, hy⟩ : ∃ y, b[k]? = some y := ⟨_, List.getElem?_eq_getElem (by omega)⟩
        obtain ⟨b1, off1, cs1, rfl, hbl1, _, hl1, hc1, hr1⟩ := ha.at_ hx
        obtain ⟨b2, off2, cs2, rfl, hbl2, _, hl2, hc2, hr2⟩ := hb.at_ hy
        obtain rfl : cs1 = secCells x := hr1
        obtain rfl : cs2 = secCells y := hr2
        have c0 := (hbw.cell (p := ⟨b1, off1 + k * 8 + 0, none⟩) hbl1).trans (hc1 0 (by omega))
        have c1 := (hbw.cell (p := ⟨b1, off1 + k * 8 + 1, none⟩) hbl1).trans (hc1 1 (by omega))
        have c2 := (hbw.cell (p := ⟨b1, off1 + k * 8 + 2, none⟩) hbl1).trans (hc1 2 (by omega))
        have c3 := (hbw.cell (p := ⟨b1, off1 + k * 8 + 3, none⟩) hbl1).trans (hc1 3 (by omega))
        have c4 := (hbw.cell (p := ⟨b1, off1 + k * 8 + 4, none⟩) hbl1).trans (hc1 4 (by omega))
        have c5 := (hbw.cell (p := ⟨b1, off1 + k * 8 + 5, none⟩) hbl1).trans (hc1 5 (by omega))
        have c6 := (hbw.cell (p := ⟨b1, off1 + k * 8 + 6, none⟩) hbl1).trans (hc1 6 (by omega))
        have c7 := (hbw.cell (p := ⟨b1, off1 + k * 8 + 7, none⟩) hbl1).trans (hc1 7 (by omega))
        have d0 := (hbw.cell (p := ⟨b2, off2 + k * 8 + 0, none⟩) hbl2).trans (hc2 0 (by omega))
        have d1 := (hbw.cell (p := ⟨b2, off2 + k * 8 + 1, none⟩) hbl2).trans (hc2 1 (by omega))
        have d2 := (hbw.cell (p := ⟨b2, off2 + k * 8 + 2, none⟩) hbl2).trans (hc2 2 (by omega))
        have d3 := (hbw.cell (p := ⟨b2, off2 + k * 8 + 3, none⟩) hbl2).trans (hc2 3 (by omega))
        have d4 := (hbw.cell (p := ⟨b2, off2 + k * 8 + 4, none⟩) hbl2).trans (hc2 4 (by omega))
        have d5 := (hbw.cell (p := ⟨b2, off2 + k * 8 + 5, none⟩) hbl2).trans (hc2 5 (by omega))
        have d6 := (hbw.cell (p := ⟨b2, off2 + k * 8 + 6, none⟩) hbl2).trans (hc2 6 (by omega))
        have d7 := (hbw.cell (p := ⟨b2, off2 + k * 8 + 7, none⟩) hbl2).trans (hc2 7 (by omega))
        clear hc1 hc2 hl1 hl2
        simp [secCells] at c0 c1 c2 c3 c4 c5 c6 c7 d0 d1 d2 d3 d4 d5 d6 d7
        by_cases he : x = y
        · have t1 := decide_eq_true he
          have t2 := hnS x y
          rw [t1] at t2
          have HE := Lib.hid he
          clear he hnS
          go_wp2
          go_quiet (fail)
          go_wp2
          go_roundw
          case rel => exact ⟨k + 1, by omega, by go_num, same_next hn hx hy HE.out, pw_below_drewN hbw _⟩
          case measure => simp [intOf]; omega
        · have t1 := decide_eq_false he
          have t2 := hnS x y
          rw [t1] at t2
          clear hnS
          go_wp2
          go_quiet (fail)
          go_wp2
          go_ret
          exact ⟨ret_bool (decide_eq_false (same_not hx hy he)).symm, pw_below_drewN hbw _⟩
      · go_wp2
        go_ret
        obtain rfl : k = a.length := by omega
        rw [List.take_length, hl, List.take_length] at hn
        exact ⟨ret_bool (decide_eq_true hn).symm, hbw⟩
  · have t1 : ((a.length : Int) == (b.length : Int)) = false := by simp; omega
    go_enter Try.func68, Try.ntmps68
    go_wp2
    go_ret
    exact ⟨ret_bool (decide_eq_false (fun e => hl (by rw [e]))).symm, Below.refl _ _⟩
set_option maxHeartbeats 4000000 in
theorem refSame_any (va vb : Value) (a b : List (List Sec)) (w : World) (S T : Nat → Prop) (ha : RImg w S va a) (hb : RImg w T vb b) :
    Calls Try.prog 24 #[va, vb] w fun e w' => e = .returned (.bool (decide (a = b))) ∧ Below w.heap.size w w' := by
  obtain ⟨Aa, ca, rfl, ha1, ha2⟩ := ha.val
  obtain ⟨Ab, cb, rfl, hb1, hb2⟩ := hb.val
  unfold maxLen at ha2 hb2
  by_cases hl : a.length = b.length
  · go_enter Try.func24, Try.ntmps24
    go_wp2
    go_loopw [5] (fun i wr => ∃ k : Nat, k ≤ a.length ∧ i = .int .i64 k ∧ a.take k = b.take k ∧ Below w.heap.size w wr) (fun i _ => a.length - (intOf i).toNat)
    case atStart => exact ⟨0, Nat.zero_le _, rfl, rfl, Below.refl _ _⟩
    case round =>
      obtain ⟨k, hk, rfl, hn, hbw⟩ := hrel
      by_cases hlt : k < a.length
      · obtain ⟨x, hx⟩ : ∃ x, a[k]? = some x := ⟨_, List.getElem?_eq_getElem hlt⟩
        obtain ⟨y, hy⟩ : ∃ y, b[k]? = some y := ⟨_, List.getElem?_eq_getElem (by omega)⟩
        obtain ⟨b1, off1, cs1, rfl, hbl1, _, hl1, hc1, dv1, rfl, hd1⟩ := ha.at_ hx
        obtain ⟨b2, off2, cs2, rfl, hbl2, _, hl2, hc2, dv2, rfl, hd2⟩ := hb.at_ hy
        have hD : ∀ W, Below w.heap.size w W → (Below w.heap.size w W ∧ W.cell? ⟨b1, off1 + k, none⟩ = some dv1 ∧ W.cell? ⟨b2, off2 + k, none⟩ = some dv2) := fun W hW =>
          ⟨hW, by simpa using (hW.cell (p := ⟨b1, off1 + k * 1 + 0, none⟩) hbl1).trans (hc1 0 (by omega)), by simpa using (hW.cell (p := ⟨b2, off2 + k * 1 + 0, none⟩) hbl2).trans (hc2 0 (by omega))⟩
        have hdr : Below w.heap.size w wr.drew := hbw.drew
        have hsz : ∀ W, Below w.heap.size w W → w.heap.size ≤ W.heap.size := fun W h => h.size
        clear hc1 hc2 hl1 hl2
        have hltb : k < b.length := by omega
        clear hl
        have HX := Lib.hid (And.intro hx hy)
        clear hx hy
        by_cases hd : x = y
        · have hq := decide_eq_true hd
          have HDD := Lib.hid hd
          clear hd
          go_wp2_with fail
          go_region_held3 (fun W => Below w.heap.size w W ∧ W.cell? ⟨b1, off1 + k, none⟩ = some dv1 ∧ W.cell? ⟨b2, off2 + k, none⟩ = some dv2)
            (first | (exact hD _ hS1) | (exact hD _ hdr) | assumption | go_keep)
            (first | (go_at_call 68; refine (sameVolume_any _ _ x y _ (fun b => S b ∨ T b) ((hd1.below hdr).more (fun _ _ h => .inl h)) ((hd2.below hdr).more (fun _ _ h => .inr h))).mono ?_; rintro e w1 ⟨rfl, hb1⟩; rw [hq]; have hS1 : Below w.heap.size w w1 := below_then hdr (hsz _ hdr) hb1))
          go_wp2
          go_roundw
          case rel => exact ⟨k + 1, by omega, by go_num, same_next hn HX.out.1 HX.out.2 HDD.out, by assumption⟩
          case measure => simp [intOf]; omega
        · have hq := decide_eq_false hd
          go_wp2_with fail
          go_region_held3 (fun W => Below w.heap.size w W ∧ W.cell? ⟨b1, off1 + k, none⟩ = some dv1 ∧ W.cell? ⟨b2, off2 + k, none⟩ = some dv2)
            (first | (exact hD _ hS1) | (exact hD _ hdr) | assumption | go_keep)
            (first | (go_at_call 68; refine (sameVolume_any _ _ x y _ (fun b => S b ∨ T b) ((hd1.below hdr).more (fun _ _ h => .inl h)) ((hd2.below hdr).more (fun _ _ h => .inr h))).mono ?_; rintro e w1 ⟨rfl, hb1⟩; rw [hq]; have hS1 : Below w.heap.size w w1 := below_then hdr (hsz _ hdr) hb1))
          go_wp2
          go_ret
          exact ⟨ret_bool (decide_eq_false (same_not HX.out.1 HX.out.2 hd)).symm, by assumption⟩
      · go_wp2
        go_ret
        obtain rfl : k = a.length := by omega
        rw [List.take_length, hl, List.take_length] at hn
        exact ⟨ret_bool (decide_eq_true hn).symm, hbw⟩
  · have t1 : ((a.length : Int) == (b.length : Int)) = false := by simp; omega
    go_enter Try.func24, Try.ntmps24
    go_wp2
    go_ret
    exact ⟨ret_bool (decide_eq_false (fun e => hl (by rw [e]))).symm, Below.refl _ _⟩
set_option maxHeartbeats 2000000 in
theorem refSizesOf_any (v : Value) (l : List (List Sec)) (w : World) (S : Nat → Prop) (h : RImg w S v l) (hl : l.length ≤ 100000) :
    Calls Try.prog 62 #[v] w fun e w' => ∃ v', e = .returned v' ∧ RInts w' (fun b => w.heap.size ≤ b) v' (lens l) ∧ Below w.heap.size w w' := by
  obtain ⟨A, cap, rfl, hcap, hm⟩ := h.val
  unfold maxLen at hm
  go_enter Try.func62, Try.ntmps62
  go_wp2
  go_loopw [3, 4] (fun s i wr => ∃ k : Nat, k ≤ l.length ∧ i = .int .i64 k ∧ OwnSl 3 1 RInt wr w.heap.size (fun _ => False) s ((l.take k).map fun x => (x.length : Int)) ∧ Below w.heap.size w wr) (fun _ i _ => l.length - (intOf i).toNat)
  case atStart => exact ⟨0, Nat.zero_le _, rfl, OwnSl.nil _, Below.refl _ _⟩
  case round =>
    obtain ⟨k, hk, rfl, hown, hb⟩ := hrel
    have hbs := hb.size
    by_cases hlt : k < l.length
    · obtain ⟨x, hx⟩ : ∃ x, l[k]? = some x := ⟨_, List.getElem?_eq_getElem hlt⟩
      obtain ⟨b, off, cs, rfl, hbl, _, hll, hcc, dv, rfl, hd⟩ := h.at_ hx
      obtain ⟨Ad, dcap, rfl, hdc, hdm⟩ := hd.val
      unfold maxLen at hdm
      have c0 := (hb.cell (p := ⟨b, off + k * 1 + 0, none⟩) hbl).trans (hcc 0 (by omega))
      simp at c0
      clear hcc hll
      have hul := hown.lt
      have htl := take_len (fun x : List Sec => (x.length : Int)) hk
      have HX := Lib.hid hx
      clear hx
      go_wp2_with (first | (at_builtin; refine wpList_appendNew rfl _ _ 63 rfl 3 _ 1 8 Try.underlying63 infoI rfl (by omega) RInt w.heap.size (fun _ => False) u3 _ rfl hown #[.int .i64 x.length] (x.length : Int) wr.heap.size rfl rfl rfl (by simp [Value.oneCell']) ⟨by unfold In64; omega, rfl⟩ (by rw [htl]; omega) (by omega) (by omega) ?_; intro v5 w5 hO5 hg5 hat5))
      go_roundw
      case rel => exact ⟨k + 1, by omega, by go_num, by rw [map_take (fun x : List Sec => (x.length : Int)) HX.out]; exact hO5, hb.grown hg5 hbs (fun j e => (hul j e).1)⟩
      case measure => simp [intOf]; omega
    · obtain rfl : k = l.length := by omega
      rw [List.take_length] at hown
      go_wp2
      go_ret
      exact ⟨_, rfl, hown.reads (fun b hb hh => by rcases hh with hh | hh; exact hh.elim; exact (hown.lt b hh.symm).1), hb⟩
theorem refImgCheck_any (v : Value) (l : List (List Sec)) (w : World) (S : Nat → Prop) (h : RImg w S v l) (hl : l.length ≤ 100000) :
    Calls Try.prog 56 #[v] w fun e w' => e = .returned (.int .i64 (sizesI (lens l))) ∧ Below w.heap.size w w' := by
  go_enter Try.func56, Try.ntmps56
  go_wp2_with (first | (go_at_call 62; refine (refSizesOf_any v l _ S h hl).mono ?_; rintro e w1 ⟨v1, rfl, hv1, hb1⟩) | (go_at_call 90; refine (sizes_any _ (lens l) w1 _ hv1).mono ?_; rintro e w2 ⟨rfl, hb2⟩))
  go_ret
  exact ⟨rfl, below_then hb1 hb1.size hb2⟩
theorem nilMany {wr : World} {base : Nat} {S : Nat → Prop} {v : Value} {xs : List Sec} (h : OwnSl 99 8 RSec wr base S v ([] ++ xs)) : OwnSl 99 8 RSec wr base (fun _ => False) v xs := by
  obtain ⟨c, o1, o2, o3, o4⟩ := h
  exact ⟨c, o1, o2, o3, fun j cs x hj hx => o4 j cs x hj hx⟩
set_option maxHeartbeats 8000000 in
theorem refCopy_any (v : Value) (l : List (List Sec)) (w : World) (S : Nat → Prop) (h : RImg w S v l) (hl : l.length ≤ 8) (hz : ∀ x ∈ l, x.length ≤ 4096) :
    Calls Try.prog 57 #[v] w fun e w' => ∃ v', e = .returned v' ∧ ImgO w' w.heap.size v' l ∧ Below w.heap.size w w' := by
  obtain ⟨A, cap, rfl, hcap, hm⟩ := h.val
  unfold maxLen at hm
  go_enter Try.func57, Try.ntmps57
  go_wp2
  go_loopw [3, 4] (fun s i wr => ∃ k : Nat, k ≤ l.length ∧ i = .int .i64 k ∧ ImgO wr w.heap.size s (l.take k) ∧ Below w.heap.size w wr) (fun _ i _ => l.length - (intOf i).toNat)
  case atStart => exact ⟨0, Nat.zero_le _, rfl, ⟨[], rfl, OwnSl.nil _, by simp, .nil⟩, Below.refl _ _⟩
  case round =>
    obtain ⟨k, hk, rfl, hown, hb⟩ := hrel
    have hbs := hb.size
    by_cases hlt : k < l.length
    · obtain ⟨x, hx⟩ : ∃ x, l[k]? = some x := ⟨_, List.getElem?_eq_getElem hlt⟩
      obtain ⟨b, off, cs, rfl, hbl, _, hll, hcc, dv0, rfl, hd⟩ := h.at_ hx
      have hzx := hz x (List.mem_of_getElem? hx)
      obtain ⟨Ad, dcap, rfl, hdc, hdm⟩ := hd.val
      have c0 := (hb.cell (p := ⟨b, off + k * 1 + 0, none⟩) hbl).trans (hcc 0 (by omega))
      simp at c0
      clear hcc hll
      have hul := hown.lt
      have hd' : RSecs wr (fun b => S b ∧ some b ≠ (Value.slice none 0 0).ownBlock) (.slice Ad x.length dcap) x := (hd.below hb).more (fun b _ h => ⟨h, by simp [Value.ownBlock]⟩)
      have HX := Lib.hid hx
      clear hx
      obtain ⟨dvs, i1, i2, i3, i4⟩ := hown
      have htl : dvs.length = k := by rw [i1, List.length_take, Nat.min_eq_left hk]
      have hlo : ∀ (j : Nat) (d : Value), dvs[j]? = some d → ∀ g, d.ownBlock = some g → g < wr.heap.size := fun j d hj g hg => by
        have hjl := (List.getElem?_eq_some_iff.1 hj).1
        have hjt : j < (l.take k).length := by rw [← i1]; exact hjl
        exact ((i3 j d _ hj (List.getElem?_eq_getElem hjt)).lt g hg).2
      have I3 := Lib.hid i3
      have I4 := Lib.hid i4
      have HLO := Lib.hid hlo
      have I1 := Lib.hid i1
      clear i3 i4 hlo i1
      go_wp2_with (first | (at_builtin; refine wpList_appendMany rfl _ _ 52 rfl 99 _ 8 8 Try.underlying52 infoS rfl (by decide) RSec RSec.one wr.heap.size S _ [] rfl (OwnSl.nil _) _ x rfl hd' (by simp; omega) (by decide) (Nat.le_refl _) ?_; intro v1 w1 hO1 hg1 hat1; have hv1 := nilMany hO1; obtain ⟨A1, c1, rfl, hc1, hm1⟩ := hv1.val; have hb1 : Below wr.heap.size wr w1 := (Below.refl _ _).grown hg1 (Nat.le_refl _) (by intro j e; change (none : Option Nat) = some j at e; cases e); have hown1 := i2.below hb1; have hbs1 := hb1.size) | (at_builtin; refine wpList_appendNew rfl _ _ 23 rfl 52 _ 1 24 Try.underlying23 infoV rfl (by omega) RVal w.heap.size (fun _ => False) u3 _ rfl hown1 #[.slice A1 x.length c1] (.slice A1 x.length c1) w1.heap.size rfl rfl rfl (by simp [Value.oneCell']) rfl (by rw [htl]; omega) (by omega) (by omega) ?_; intro v5 w5 hO5 hg5 hat5))
      go_roundw
      case rel =>
        refine ⟨k + 1, by omega, by go_num, ?_, (below_then hb hbs hb1).grown hg5 (by omega) (fun j e => (hul j e).1)⟩
        obtain ⟨hkk, hxx⟩ := List.getElem?_eq_some_iff.1 HX.out
        rw [List.take_succ_eq_append_getElem hkk, hxx]
        exact ImgO.push (w1 := w1) I1.out (fun j d y hj hy => (I3.out j d y hj hy).below hb1) I4.out HLO.out hv1 hbs hown1 hO5 hg5
      case measure => simp [intOf]; omega
    · obtain rfl : k = l.length := by omega
      rw [List.take_length] at hown
      go_wp2
      go_ret
      exact ⟨_, rfl, hown, hb⟩
end Go.Proofs.Ytccbbecfmfldbaa

set_option maxRecDepth 100000
set_option linter.unusedVariables false
set_option linter.unusedSimpArgs false
namespace Sb
deriving instance DecidableEq for Snap
deriving instance DecidableEq for Snaps
end Sb
namespace Go.Proofs.Ytccbbecfmfldbaa
open Go.RowKit Go.Mm Sb

/-! ### the reference: snapshots: Same -/
theorem snap_ext {x y : Snap} (h1 : x.num = y.num) (h2 : x.time = y.time) (h3 : x.saved = y.saved) : x = y := by cases x; cases y; simp_all
theorem blk_fst (w : World) (o : Obj) (t : TypeId) (c : Array Value) : Blk ((w.alloc (.cells c t)).alloc o).drew w.heap.size t c := ((Blk.new _ _ _).alloc _).drew
theorem blk_snd (w : World) (o : Obj) (t : TypeId) (c : Array Value) : Blk ((w.alloc o).alloc (.cells c t)).drew (w.heap.size + 1) t c := by
  have := (Blk.new (w.alloc o) t c).drew
  simpa using this
theorem bel_two (w : World) (o o' : Obj) : Below w.heap.size w ((w.alloc o).alloc o').drew := (((Below.refl _ _).alloc (Nat.le_refl _) _).alloc (by simp) _).drew
set_option maxHeartbeats 8000000 in
theorem ref36Same_any (vc1 vi1 vc2 vi2 : Value) (a b : Snaps) (w : World) (S1 T1 S2 T2 : Nat → Prop) (hc1 : RImg w S1 vc1 a.cur) (hi1 : RSnaps w T1 vi1 a.items) (hc2 : RImg w S2 vc2 b.cur) (hi2 : RSnaps w T2 vi2 b.items) :
    Calls Try.prog 18 #[.agg #[vc1, vi1], .agg #[vc2, vi2]] w fun e w' => e = .returned (.bool (decide (a = b))) ∧ Below w.heap.size w w' := by
  obtain ⟨ac, ai⟩ := a
  obtain ⟨bc, bi⟩ := b
  simp only at *
  obtain ⟨A1, c1, rfl, _, _⟩ := hc1.val
  obtain ⟨A2, c2, rfl, _, _⟩ := hc2.val
  obtain ⟨A3, c3, rfl, _, hm3⟩ := hi1.val
  obtain ⟨A4, c4, rfl, _, hm4⟩ := hi2.val
  unfold maxLen at hm3 hm4
  have BA : Below w.heap.size w ((w.alloc (.cells #[.slice A1 ac.length c1, .slice A3 ai.length c3] 26)).alloc (.cells #[.slice A2 bc.length c2, .slice A4 bi.length c4] 26)) := ((Below.refl _ _).alloc (Nat.le_refl _) _).alloc (by simp) _
  have K0 : Blk ((w.alloc (.cells #[.slice A1 ac.length c1, .slice A3 ai.length c3] 26)).alloc (.cells #[.slice A2 bc.length c2, .slice A4 bi.length c4] 26)) w.heap.size 26 #[.slice A1 ac.length c1, .slice A3 ai.length c3] := (Blk.new _ _ _).alloc _
  have K1 : Blk ((w.alloc (.cells #[.slice A1 ac.length c1, .slice A3 ai.length c3] 26)).alloc (.cells #[.slice A2 bc.length c2, .slice A4 bi.length c4] 26)) (w.heap.size + 1) 26 #[.slice A2 bc.length c2, .slice A4 bi.length c4] := by
    have := (Blk.new (w.alloc (.cells #[.slice A1 ac.length c1, .slice A3 ai.length c3] 26)) 26 #[.slice A2 bc.length c2, .slice A4 bi.length c4])
    simpa using this
  have hcl := refSame_any _ _ ac bc _ S1 S2 (hc1.below BA) (hc2.below BA)
  go_enter Try.func18, Try.ntmps18
  go_wp2_with fail
  refine hcl.mono ?_
  rintro e w1 ⟨rfl, hb1⟩
  clear hcl
  have B1 := below_then BA BA.size hb1
  replace K0 := K0.below hb1
  replace K1 := K1.below hb1
  have l0 := K0.lt
  have l1 := K1.lt
  obtain ⟨x0, x1, x2, x3⟩ := K0.two
  obtain ⟨y0, y1, y2, y3⟩ := K1.two
  clear BA hb1
  by_cases hcc : ac = bc
  · rw [decide_eq_true hcc]
    by_cases hl : ai.length = bi.length
    · have t1 : ((ai.length : Int) != (bi.length : Int)) = false := by simp; omega
      have HCC := Lib.hid hcc
      clear hcc
      go_wp2
      clear x0 x1 x2 x3 y0 y1 y2 y3
      go_loopw [5] (fun i wr => ∃ k : Nat, k ≤ ai.length ∧ i = .int .i64 k ∧ ai.take k = bi.take k ∧ Below w1.heap.size w1 wr) (fun i _ => ai.length - (intOf i).toNat)
      case atStart => exact ⟨0, Nat.zero_le _, rfl, rfl, Below.refl _ _⟩
      case round =>
        obtain ⟨k, hk, rfl, hn, hbw⟩ := hrel
        have KA := K0.below hbw
        have KB := K1.below hbw
        have gl := hbw.size
        obtain ⟨x0, x1, x2, x3⟩ := KA.two
        obtain ⟨y0, y1, y2, y3⟩ := KB.two
        have hB := below_then B1 B1.size hbw
        by_cases hlt : k < ai.length
        · obtain ⟨x, hx⟩ : ∃ x, ai[k]? = some x := ⟨_, List.getElem?_eq_getElem hlt⟩
          obtain ⟨y, hy⟩ : ∃ y, bi[k]? = some y := ⟨_, List.getElem?_eq_getElem (by omega)⟩
          obtain ⟨b1, off1, cs1, rfl, hbl1, _, hl1, hd1, hn1, ht1, dv1, rfl, hr1⟩ := hi1.at_ hx
          obtain ⟨b2, off2, cs2, rfl, hbl2, _, hl2, hd2, hn2, ht2, dv2, rfl, hr2⟩ := hi2.at_ hy
          have c0 := (hB.cell (p := ⟨b1, off1 + k * 3 + 0, none⟩) hbl1).trans (hd1 0 (by omega))
          have c1 := (hB.cell (p := ⟨b1, off1 + k * 3 + 1, none⟩) hbl1).trans (hd1 1 (by omega))
          have c2 := (hB.cell (p := ⟨b1, off1 + k * 3 + 2, none⟩) hbl1).trans (hd1 2 (by omega))
          have d0 := (hB.cell (p := ⟨b2, off2 + k * 3 + 0, none⟩) hbl2).trans (hd2 0 (by omega))
          have d1 := (hB.cell (p := ⟨b2, off2 + k * 3 + 1, none⟩) hbl2).trans (hd2 1 (by omega))
          have d2 := (hB.cell (p := ⟨b2, off2 + k * 3 + 2, none⟩) hbl2).trans (hd2 2 (by omega))
          simp at c0 c1 c2 d0 d1 d2
          clear hd1 hd2 hl1 hl2
          have hltb : k < bi.length := by omega
          obtain ⟨Ad1, dc1, rfl, _, _⟩ := hr1.val
          obtain ⟨Ad2, dc2, rfl, _, _⟩ := hr2.val
          have HX := Lib.hid (And.intro hx hy)
          clear hx hy
          obtain ⟨xn, xt, xs⟩ := x
          obtain ⟨yn, yt, ys⟩ := y
          simp only at *
          have m0 : w.heap.size < wr.heap.size := by omega
          have m1 : w.heap.size + 1 < wr.heap.size := by omega
          have m2 : b1 < wr.heap.size := by omega
          have m3 : b2 < wr.heap.size := by omega
          go_upto_region 6 with fail
          go_cut [6, 7] (fun v6 v7 wx => ∃ g6 g7 : Nat, v6 = .pointer (some ⟨g6, 0, none⟩) ∧ v7 = .pointer (some ⟨g7, 0, none⟩) ∧ Blk wx g6 88 #[.int .i64 xn, .int .i64 xt, .slice Ad1 xs.length dc1] ∧ Blk wx g7 88 #[.int .i64 yn, .int .i64 yt, .slice Ad2 ys.length dc2] ∧ Below wr.heap.size wr wx)
          case first =>
            go_region
            all_goals
              go_wp2_with fail
              go_meet
              case rel => exact ⟨_, _, rfl, rfl, by first | exact blk_fst _ _ _ _ | exact blk_snd _ _ _ _, by first | exact blk_fst _ _ _ _ | exact blk_snd _ _ _ _, bel_two _ _ _⟩
          case rest =>
            obtain ⟨g6, g7, rfl, rfl, K6, K7, hbx⟩ := hcut
            have B7 := below_then hB hB.size hbx
            have W7 := below_then hbw hbw.size hbx
            have l6 := K6.lt
            have l7 := K7.lt
            obtain ⟨p0, p1, p2, p3, p4, p5⟩ := K6.three
            obtain ⟨q0, q1, q2, q3, q4, q5⟩ := K7.three
            clear x0 x1 x2 x3 y0 y1 y2 y3 c0 c1 c2 d0 d1 d2 m0 m1 m2 m3
            by_cases h1 : xn = yn
            · by_cases h2 : xt = yt
              · have t2 : (xn != yn) = false := by simpa using h1
                have t3 : (xt != yt) = false := by simpa using h2
                by_cases h3 : xs = ys
                · have hq := decide_eq_true h3
                  have H3 := Lib.hid h3
                  clear h3
                  go_wp2_with (first | (go_at_call 52; refine (same22_any _ _ xs ys _ (fun b => T1 b ∨ T2 b) ((hr1.below B7).more (fun _ _ h => .inl h)) ((hr2.below B7).more (fun _ _ h => .inr h))).mono ?_; rintro e w8 ⟨rfl, hb8⟩; rw [hq]))
                  go_roundw
                  case rel => exact ⟨k + 1, by omega, by go_num, same_next hn HX.out.1 HX.out.2 (snap_ext h1 h2 H3.out), below_then W7 W7.size hb8⟩
                  case measure => simp [intOf]; omega
                · have hq := decide_eq_false h3
                  go_wp2_with (first | (go_at_call 52; refine (same22_any _ _ xs ys _ (fun b => T1 b ∨ T2 b) ((hr1.below B7).more (fun _ _ h => .inl h)) ((hr2.below B7).more (fun _ _ h => .inr h))).mono ?_; rintro e w8 ⟨rfl, hb8⟩; rw [hq]))
                  go_ret
                  refine ⟨ret_bool (decide_eq_false fun e => same_not HX.out.1 HX.out.2 (fun e => h3 ?_) ?_).symm, below_then B7 B7.size hb8⟩
                  · injection e
                  · injection e
              · have t2 : (xn != yn) = false := by simpa using h1
                have t3 : (xt != yt) = true := by simpa using h2
                go_wp2
                go_ret
                refine ⟨ret_bool (decide_eq_false fun e => same_not HX.out.1 HX.out.2 (fun e => h2 ?_) ?_).symm, B7⟩
                · injection e
                · injection e
            · have t2 : (xn != yn) = true := by simpa using h1
              go_wp2
              go_ret
              refine ⟨ret_bool (decide_eq_false fun e => same_not HX.out.1 HX.out.2 (fun e => h1 ?_) ?_).symm, B7⟩
              · injection e
              · injection e
        · go_wp2
          go_ret
          obtain rfl : k = ai.length := by omega
          rw [List.take_length, hl, List.take_length] at hn
          exact ⟨ret_bool (decide_eq_true (by rw [HCC.out, hn])).symm, hB⟩
    · have t1 : ((ai.length : Int) != (bi.length : Int)) = true := by simp; omega
      go_wp2
      go_ret
      exact ⟨ret_bool (decide_eq_false (fun e => hl (by injection e with _ e; rw [e]))).symm, B1⟩
  · rw [decide_eq_false hcc]
    go_wp2
    go_ret
    exact ⟨ret_bool (decide_eq_false (fun e => hcc (by injection e))).symm, B1⟩
end Go.Proofs.Ytccbbecfmfldbaa

set_option maxRecDepth 100000
set_option linter.unusedVariables false
set_option linter.unusedSimpArgs false
namespace Go.Proofs.Ytccbbecfmfldbaa
open Go.RowKit Go.Mm Sb

/-! ### the example of chapter 36: what is held between the calls -/
def AwK (w0 : World) (g : Nat) (w : World) (c0 i0 vc vi : Value) (s : Snaps) : Prop :=
  Blk w g 26 #[c0, i0] ∧ RImg w (fun b => b ≠ g) vc s.cur ∧ RSnaps w (fun b => b ≠ g) vi s.items ∧ Below w0.heap.size w0 w ∧ w0.heap.size ≤ g
theorem AwK.below {w0 w w' : World} {g : Nat} {c0 i0 vc vi : Value} {s : Snaps} (h : AwK w0 g w c0 i0 vc vi s) (hb : Below w.heap.size w w') : AwK w0 g w' c0 i0 vc vi s := by
  obtain ⟨h1, h2, h3, h4, h5⟩ := h
  exact ⟨h1.below hb, h2.below hb, h3.below hb, below_then h4 h4.size hb, h5⟩
theorem AwK.store {w0 w : World} {g : Nat} {c0 i0 vc vi : Value} {s : Snaps} (h : AwK w0 g w c0 i0 vc vi s) : AwK w0 g ((w.setCell ⟨g, 0, none⟩ vc).setCell ⟨g, 1, none⟩ vi) vc vi vc vi s := by
  obtain ⟨h1, h2, h3, h4, h5⟩ := h
  have hk : ∀ b, b < w.heap.size → b ≠ g → ((w.setCell ⟨g, 0, none⟩ vc).setCell ⟨g, 1, none⟩ vi).heap[b]? = w.heap[b]? := fun b _ hb =>
    (Below.heap_setCell _ _ _ b (by simpa using hb)).trans (Below.heap_setCell _ _ _ b (by simpa using hb))
  exact ⟨by simpa using (h1.set_ 0 vc).set_ 1 vi, h2.keep hk, h3.keep hk, (h4.setCell h5 _).setCell h5 _, h5⟩
theorem AwK.fresh {w0 w : World} {g : Nat} {c0 i0 vc vi vc' vi' : Value} {s s' : Snaps} {M : Nat} (h : AwK w0 g w c0 i0 vc vi s) (hc : RImg w (fun b => M ≤ b) vc' s'.cur) (hi : RSnaps w (fun b => M ≤ b) vi' s'.items) (hM : g < M) : AwK w0 g w c0 i0 vc' vi' s' := by
  obtain ⟨h1, h2, h3, h4, h5⟩ := h
  exact ⟨h1, hc.more (fun b _ hb => by omega), hi.more (fun b _ hb => by omega), h4, h5⟩
theorem AwK.lt {w0 w : World} {g : Nat} {c0 i0 vc vi : Value} {s : Snaps} (h : AwK w0 g w c0 i0 vc vi s) : g < w.heap.size := h.1.lt
/-- (snapshots, error), and the block. -/
def AwRet (w0 : World) (g : Nat) (c0 i0 : Value) (s : Snaps) (n : Int) (e : Ending) (w' : World) : Prop :=
  ∃ A c A' c', e = .returned (.tuple #[.agg #[.slice A s.cur.length c, .slice A' s.items.length c'], .int .i64 n]) ∧ AwK w0 g w' c0 i0 (.slice A s.cur.length c) (.slice A' s.items.length c') s
theorem aw_ret {w0 w w' : World} {g : Nat} {c0 i0 vc vi : Value} {s s' : Snaps} {n : Int} {e : Ending} (h : AwK w0 g w c0 i0 vc vi s) (hr : RetS s' n w e w') : AwRet w0 g c0 i0 s' n e w' := by
  obtain ⟨cv, iv, rfl, h1, h2, hb⟩ := hr
  obtain ⟨A, c, rfl, _, _⟩ := h1.val
  obtain ⟨A', c', rfl, _, _⟩ := h2.val
  exact ⟨A, c, A', c', rfl, (h.below hb).fresh h1 h2 h.lt⟩
theorem aw_apply {w0 w : World} {g : Nat} {c0 i0 vc vi v : Value} {s : Snaps} {l : List Wr} (h : AwK w0 g w c0 i0 vc vi s) (hl : RWrs w Any v l) (h1 : s.cur.length ≤ 100000) (h2 : l.length ≤ 100000) (h3 : secN l ≤ 100000000) :
    Calls Try.prog 49 #[.agg #[vc, vi], v] w (AwRet w0 g c0 i0 (applyS s l) (applyE s l)) :=
  (snApply_any vc vi v s l w _ _ Any h.2.1 h.2.2.1 hl h1 h2 h3).mono fun e w' hr => aw_ret h hr
theorem aw_take {w0 w : World} {g : Nat} {c0 i0 vc vi : Value} {s : Snaps} (n t : Int) (h : AwK w0 g w c0 i0 vc vi s) (h1 : s.cur.length ≤ 100000) (hn : In64 n) (ht : In64 t) :
    Calls Try.prog 51 #[.agg #[vc, vi], .int .i64 n, .int .i64 t] w (AwRet w0 g c0 i0 (takeS s n t) (takeE s n t)) :=
  (snTake_any vc vi s n t w _ _ h.2.1 h.2.2.1 h1 hn ht).mono fun e w' hr => aw_ret h hr
/-- write, behind the making of its bytes. -/
theorem aw_write {w0 w W : World} {g : Nat} {c0 i0 vc vi : Value} {s : Snaps} (start : Int) (bs : List Int) (t : TypeId) (n cap : Nat) (h : AwK w0 g w c0 i0 vc vi s) (hW : W = w.alloc (.cells (bs.map fun b => Value.int .u8 b).toArray t)) (hn : n = bs.length) (hc : bs.length ≤ cap) (hm : cap ≤ maxLen) (hb : bs.length ≤ 1000) (hs : In64 start) :
    Calls Try.prog 50 #[.int .i64 start, .slice (some ⟨w.heap.size, 0, none⟩) n cap] W fun e w' => ∃ A c, e = .returned (.slice A 1 c) ∧ RWrs w' Any (.slice A 1 c) [⟨0, start, bs.map sec1⟩] ∧ AwK w0 g w' c0 i0 vc vi s := by
  subst hW hn
  refine (write36_any start _ bs _ Any (bytes_of (bs := bs) (Blk.new w t _) hc hm) hb hs).mono ?_
  rintro e w' ⟨v', rfl, hr, hb⟩
  obtain ⟨A, c, rfl, _, _⟩ := hr.val
  exact ⟨A, c, rfl, hr.more (fun _ _ _ => trivial), h.below (below_then ((Below.refl _ _).alloc (Nat.le_refl _) _) (by simp) hb)⟩
theorem wr_write {w W : World} (start : Int) (bs : List Int) (t : TypeId) (n cap : Nat) (hW : W = w.alloc (.cells (bs.map fun b => Value.int .u8 b).toArray t)) (hn : n = bs.length) (hc : bs.length ≤ cap) (hm : cap ≤ maxLen) (hb : bs.length ≤ 1000) (hs : In64 start) :
    Calls Try.prog 50 #[.int .i64 start, .slice (some ⟨w.heap.size, 0, none⟩) n cap] W fun e w' => ∃ A c, e = .returned (.slice A 1 c) ∧ RWrs w' Any (.slice A 1 c) [⟨0, start, bs.map sec1⟩] ∧ Below w.heap.size w w' := by
  subst hW hn
  refine (write36_any start _ bs _ Any (bytes_of (bs := bs) (Blk.new w t _) hc hm) hb hs).mono ?_
  rintro e w' ⟨v', rfl, hr, hb⟩
  obtain ⟨A, c, rfl, _, _⟩ := hr.val
  exact ⟨A, c, rfl, hr.more (fun _ _ _ => trivial), below_then ((Below.refl _ _).alloc (Nat.le_refl _) _) (by simp) hb⟩
theorem secs_of {w : World} {g : Nat} {t : TypeId} {l : List Sec} (h : Blk w g t (l.map secCells).flatten.toArray) {cap : Nat} (hc : l.length ≤ cap := by decide) (hm : cap ≤ maxLen := by decide) : RSecs w Any (.slice (some ⟨g, 0, none⟩) l.length cap) l :=
  RSl.ofBlk (k := 8) (R := RSec) (S := Any) (css := l.map secCells) (by simp [secCells]) h (by simp) hc hm (fun j cs x hj hx => by rw [List.getElem?_map, hx] at hj; injection hj with hj; exact hj.symm) trivial
theorem img1 {w : World} {g : Nat} {t : TypeId} {A : Option Addr} {n c : Nat} {d : List Sec} (h : Blk w g t #[.slice A n c]) (hd : RSecs w Any (.slice A n c) d) {cap : Nat} (hc : 1 ≤ cap := by decide) (hm : cap ≤ maxLen := by decide) : RImg w Any (.slice (some ⟨g, 0, none⟩) 1 cap) [d] :=
  RSl.ofBlk (k := 1) (R := RVol) (S := Any) (css := [[.slice A n c]]) (xs := [d]) (by simp) (by simpa using h) (by simp) (by simpa using hc) hm (fun j cs x hj hx => by
    match j with
    | 0 => simp at hj hx; subst hj; subst hx; exact ⟨_, rfl, hd⟩
    | j + 1 => simp at hj) trivial
/-- Same, with an image that is written out. -/
theorem same_lit {w W : World} (va : Value) (a : List (List Sec)) (l : List Sec) (t t' : TypeId) (n : Nat) (h : RImg w Any va a) (hW : W = (w.alloc (.cells (l.map secCells).flatten.toArray t)).alloc (.cells #[.slice (some ⟨w.heap.size, 0, none⟩) n n] t')) (hn : n = l.length) (hm : n ≤ maxLen) :
    Calls Try.prog 24 #[va, .slice (some ⟨w.heap.size + 1, 0, none⟩) 1 1] W fun e w' => e = .returned (.bool (decide (a = [l]))) ∧ Below w.heap.size w w' := by
  subst hW hn
  have B1 : Below w.heap.size w (w.alloc (.cells (l.map secCells).flatten.toArray t)) := (Below.refl _ _).alloc (Nat.le_refl _) _
  have B2 : Below (w.alloc (.cells (l.map secCells).flatten.toArray t)).heap.size (w.alloc (.cells (l.map secCells).flatten.toArray t)) ((w.alloc (.cells (l.map secCells).flatten.toArray t)).alloc (.cells #[.slice (some ⟨w.heap.size, 0, none⟩) l.length l.length] t')) := (Below.refl _ _).alloc (Nat.le_refl _) _
  have B3 := below_then B1 B1.size B2
  have hi := img1 (cap := 1) (Blk.new (w.alloc (.cells (l.map secCells).flatten.toArray t)) t' #[.slice (some ⟨w.heap.size, 0, none⟩) l.length l.length]) ((secs_of (cap := l.length) (Blk.new w t (l.map secCells).flatten.toArray) (Nat.le_refl _) hm).below B2)
  rw [World.size_alloc] at hi
  refine (refSame_any va _ a [l] _ Any Any (h.below B3) hi).mono ?_
  rintro e w' ⟨rfl, hb⟩
  exact ⟨rfl, below_then B3 B3.size hb⟩
theorem aw_image {w0 w : World} {g : Nat} {c0 i0 vc vi : Value} {s : Snaps} (n : Int) (im : List (List Sec)) (h : AwK w0 g w c0 i0 vc vi s) (h1 : s.cur.length ≤ 100000) (hi : findE s n = 0 ∧ imageR s n = im) :
    Calls Try.prog 25 #[.agg #[vc, vi], .int .i64 n] w fun e w' => ∃ A c, e = .returned (.tuple #[.slice A im.length c, .int .i64 0]) ∧ RImg w' Any (.slice A im.length c) im ∧ AwK w0 g w' c0 i0 vc vi s ∧ Below w.heap.size w w' := by
  refine (snImage_any vc vi s n w _ _ h.2.1 h.2.2.1 h1).mono ?_
  rintro e w' ⟨v, rfl, hr, hb⟩
  rw [hi.2] at hr
  obtain ⟨A, c, rfl, _, _⟩ := hr.val
  exact ⟨A, c, by rw [hi.1], hr.more (fun _ _ _ => trivial), h.below hb, hb⟩
/-- Delete, its result laid into a new block. -/
theorem aw_delete {w0 w : World} {g : Nat} {c0 i0 vc vi : Value} {s s' : Snaps} (n : Int) (h : AwK w0 g w c0 i0 vc vi s) (h1 : s.cur.length ≤ 100000) (hi : findE s n = 0 ∧ deleteS s n = s') :
    Calls Try.prog 53 #[.agg #[vc, vi], .int .i64 n] w fun e w' => ∃ A c B d, e = .returned (.tuple #[.agg #[.slice A s'.cur.length c, .slice B s'.items.length d], .int .i64 0]) ∧ AwK w0 g w' c0 i0 vc vi s ∧ Below w.heap.size w w' ∧
      AwK w0 w'.heap.size (w'.alloc (.cells #[.slice A s'.cur.length c, .slice B s'.items.length d] 26)) (.slice A s'.cur.length c) (.slice B s'.items.length d) (.slice A s'.cur.length c) (.slice B s'.items.length d) s' := by
  refine (snDelete_any vc vi s n w _ _ h.2.1 h.2.2.1 h1).mono ?_
  rintro e w' ⟨cv, iv, rfl, X1, X2, hb⟩
  rw [hi.2] at X1 X2
  obtain ⟨A, c, rfl, _, _⟩ := X1.val
  obtain ⟨B, d, rfl, _, _⟩ := X2.val
  have BA : Below w'.heap.size w' (w'.alloc (.cells #[.slice A s'.cur.length c, .slice B s'.items.length d] 26)) := (Below.refl _ _).alloc (Nat.le_refl _) _
  have B1 := (h.below hb).2.2.2.1
  exact ⟨A, c, B, d, by rw [hi.1], h.below hb, hb, Blk.new _ _ _, (X1.more (T := fun b => b ≠ w'.heap.size) (fun b hb _ => by omega)).below BA, (X2.more (T := fun b => b ≠ w'.heap.size) (fun b hb _ => by omega)).below BA, below_then B1 B1.size BA, B1.size⟩
end Go.Proofs.Ytccbbecfmfldbaa
