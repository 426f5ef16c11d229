import Derived.Test.YtccbbecfmfldbaaQ16
set_option maxRecDepth 100000
set_option linter.unusedVariables false
set_option linter.unusedSimpArgs false
namespace Go.Proofs.Ytccbbecfmfldbaa
open Go.RowKit Go.Mm Sb

/-! ### the reference: Check -/
def refChk (l : List Wr) (sizes : List Int) : Int := if sizesI sizes = 0 then chkI (fitW sizes) none l else sizesI sizes
set_option maxHeartbeats 8000000 in
theorem refCheck_any (v vs : Value) (l : List Wr) (sizes : List Int) (w : World) (S S2 : Nat → Prop) (h : RWrs w S v l) (hs : RInts w S2 vs sizes) :
    Calls Try.prog 61 #[v, vs] w fun e w' => e = .returned (.int .i64 (refChk l sizes)) ∧ Below w.heap.size w w' := by
  obtain ⟨A, cap, rfl, hcap, hm⟩ := h.val
  unfold maxLen at hm
  by_cases hz0 : sizesI sizes = 0
  · have hr : refChk l sizes = chkI (fitW sizes) none l := by unfold refChk; rw [if_pos hz0]
    have hzs : ∀ x ∈ sizes, 0 ≤ x ∧ x ≤ 4096 := fun x hx => by have := sizesI_ok hz0 x hx; omega
    rw [hr]
    clear hr
    go_enter Try.func61, Try.ntmps61
    go_wp2_with (first | (go_at_call 90; refine (sizes_any vs sizes w S2 hs).mono ?_; rintro e w0 ⟨rfl, hb0⟩; rw [hz0]))
    go_loopw [6] (fun i wr => ∃ k : Nat, k ≤ l.length ∧ i = .int .i64 k ∧ chkI (fitW sizes) none l = chkI (fitW sizes) (prevW l k) (l.drop k) ∧ (∀ x, 0 < k → l[k-1]? = some x → fitW sizes x = 0) ∧ Below w.heap.size w wr) (fun i _ => l.length - (intOf i).toNat)
    case atStart => exact ⟨0, Nat.zero_le _, rfl, rfl, by omega, hb0⟩
    case round =>
      clear hb0
      obtain ⟨k, hk, rfl, hI, hpr, hb⟩ := hrel
      have hbs := hb.size
      by_cases hlt : k < l.length
      · obtain ⟨x, hx⟩ : ∃ x, l[k]? = some x := ⟨_, List.getElem?_eq_getElem hlt⟩
        obtain ⟨b, off, cs, hA, hbl, _, hl, hc, hr⟩ := h.at_ hx
        obtain ⟨hv64, hs64, dv, rfl, hd⟩ := hr
        obtain ⟨Ad, dcap, rfl, hdc, hdm⟩ := hd.val
        unfold maxLen at hdm
        have hD : ∀ W, Below w.heap.size w W → W.cell? ⟨b, off + k * 3, none⟩ = some (.int .i64 x.vol) ∧ W.cell? ⟨b, off + k * 3 + 1, none⟩ = some (.int .i64 x.start) ∧ W.cell? ⟨b, off + k * 3 + 2, none⟩ = some (.slice Ad x.data.length dcap) := fun W hW =>
          ⟨(hW.cell hbl).trans (hc 0 (by omega)), (hW.cell hbl).trans (hc 1 (by omega)), (hW.cell hbl).trans (hc 2 (by omega))⟩
        obtain ⟨c0, c1, c2⟩ := hD wr hb
        have hsr := hs.below hb
        clear hc hl
        have HI := Lib.hid hI
        have HPR := Lib.hid hpr
        have HX := Lib.hid hx
        clear hI hpr hx
        by_cases hz : fitsI sizes x.vol x.start x.data.length = 0
        · rcases Nat.eq_zero_or_pos k with rfl | hk0
          · subst hA
            simp at c0 c1 c2
            go_wp2_with (first | (go_at_call 94; refine (fitsSizes_any vs sizes x.vol x.start Ad x.data.length dcap wr S2 hsr (by omega) hs64 hzs).mono ?_; rintro e w1 ⟨rfl, hb1⟩; rw [hz]))
            go_roundw
            case rel => exact ⟨1, by omega, by go_num, by rw [HI.out, chk_first HX.out, if_pos (show fitW sizes x = 0 from hz)], (fun y _ hy => by rw [show y = x by simpa [HX.out] using hy.symm]; exact hz), below_then hb hbs hb1⟩
            case measure => simp [intOf]; omega
          · obtain ⟨m, rfl⟩ : ∃ m, k = m + 1 := ⟨k - 1, by omega⟩
            obtain ⟨y, hy⟩ : ∃ y, l[m]? = some y := ⟨_, List.getElem?_eq_getElem (by omega)⟩
            obtain ⟨b2, off2, cs2, hA2, hbl2, _, hl2, hc2, hr2⟩ := h.at_ hy
            obtain ⟨hv642, hs642, dv2, rfl, hd2⟩ := hr2
            obtain ⟨Ad2, dcap2, rfl, hdc2, hdm2⟩ := hd2.val
            unfold maxLen at hdm2
            obtain ⟨rfl, rfl⟩ : b2 = b ∧ off2 = off := by rw [hA] at hA2; injection hA2 with e; injection e with e1 e2; exact ⟨e1.symm, e2.symm⟩
            subst hA
            clear hA2
            have hE : ∀ W, Below w.heap.size w W → W.cell? ⟨b2, off2 + m * 3, none⟩ = some (.int .i64 y.vol) ∧ W.cell? ⟨b2, off2 + m * 3 + 1, none⟩ = some (.int .i64 y.start) ∧ W.cell? ⟨b2, off2 + m * 3 + 2, none⟩ = some (.slice Ad2 y.data.length dcap2) := fun W hW =>
              ⟨(hW.cell hbl2).trans (hc2 0 (by omega)), (hW.cell hbl2).trans (hc2 1 (by omega)), (hW.cell hbl2).trans (hc2 2 (by omega))⟩
            have hzy := fitW_zero hzs (HPR.out y (by omega) (by simpa using hy))
            have hzx := fitW_zero hzs (show fitW sizes x = 0 from hz)
            have HY := Lib.hid hy
            clear hc2 hl2 hy
            have i2 : (m : Int) + 1 < l.length := by omega
            have i3 : ((m : Int) + 1).toNat = m + 1 := by omega
            have i4 : (0 : Int) ≤ (m : Int) + 1 := by omega
            have hne0 : ((m : Int) + 1 == 0) = false := by simp; omega
            have nxt := chk_next (f := fitW sizes) HY.out HX.out
            rw [if_pos (show fitW sizes x = 0 from hz)] at nxt
            obtain ⟨xv, xs, xd⟩ := x
            obtain ⟨yv, ys, yd⟩ := y
            simp only at *
            by_cases hg1 : xv < yv
            · have t1 := decide_eq_true hg1
              rw [if_pos (.inl hg1)] at nxt
              have NXT := Lib.hid nxt
              clear nxt
              go_wp2_with (first | (go_at_call 94; refine (fitsSizes_any vs sizes xv xs Ad xd.length dcap wr S2 hsr (by omega) hs64 hzs).mono ?_; rintro e w1 ⟨rfl, hb1⟩; rw [hz]; have HB := below_then hb hbs hb1; obtain ⟨d0, d1, d2⟩ := hD w1 HB; obtain ⟨e0, e1, e2⟩ := hE w1 HB; have q7 : b2 < w1.heap.size := (by have := HB.size; omega)))
              go_quiet (fail)
              go_wp2
              go_ret
              exact ⟨ret_int (by rw [HI.out, NXT.out]), pw_below_drewN (HB.alloc HB.size _) _⟩
            · have t1 := decide_eq_false hg1
              by_cases hg2 : xv = yv
              · subst hg2
                by_cases hg3 : xs ≤ ys + yd.length
                · have t3 := decide_eq_true (show xs < ys + yd.length + 1 by omega)
                  rw [if_pos (.inr ⟨rfl, hg3⟩)] at nxt
                  have NXT := Lib.hid nxt
                  clear nxt
                  go_wp2_with (first | (go_at_call 94; refine (fitsSizes_any vs sizes xv xs Ad xd.length dcap wr S2 hsr (by omega) hs64 hzs).mono ?_; rintro e w1 ⟨rfl, hb1⟩; rw [hz]; have HB := below_then hb hbs hb1; obtain ⟨d0, d1, d2⟩ := hD w1 HB; obtain ⟨e0, e1, e2⟩ := hE w1 HB; have q7 : b2 < w1.heap.size := (by have := HB.size; omega)))
                  go_quiet (fail)
                  go_wp2
                  go_ret
                  exact ⟨ret_int (by rw [HI.out, NXT.out]), pw_below_drewN (HB.alloc HB.size _) _⟩
                · have t3 := decide_eq_false (show ¬ xs < ys + yd.length + 1 by omega)
                  rw [if_neg (by omega)] at nxt
                  have NXT := Lib.hid nxt
                  clear nxt
                  go_wp2_with (first | (go_at_call 94; refine (fitsSizes_any vs sizes xv xs Ad xd.length dcap wr S2 hsr (by omega) hs64 hzs).mono ?_; rintro e w1 ⟨rfl, hb1⟩; rw [hz]; have HB := below_then hb hbs hb1; obtain ⟨d0, d1, d2⟩ := hD w1 HB; obtain ⟨e0, e1, e2⟩ := hE w1 HB; have q7 : b2 < w1.heap.size := (by have := HB.size; omega)))
                  go_quiet (fail)
                  go_wp2
                  go_roundw
                  case rel => exact ⟨m + 2, by omega, by go_num, by rw [HI.out, NXT.out], (fun z _ hz2 => by rw [show m + 2 - 1 = m + 1 by omega, HX.out] at hz2; injection hz2 with hz2; rw [← hz2]; exact hz), pw_below_drewN (HB.alloc HB.size _) _⟩
                  case measure => simp [intOf]; omega
              · have t2 : (xv == yv) = false := by simpa using hg2
                rw [if_neg (by omega)] at nxt
                have NXT := Lib.hid nxt
                clear nxt
                go_wp2_with (first | (go_at_call 94; refine (fitsSizes_any vs sizes xv xs Ad xd.length dcap wr S2 hsr (by omega) hs64 hzs).mono ?_; rintro e w1 ⟨rfl, hb1⟩; rw [hz]; have HB := below_then hb hbs hb1; obtain ⟨d0, d1, d2⟩ := hD w1 HB; obtain ⟨e0, e1, e2⟩ := hE w1 HB; have q7 : b2 < w1.heap.size := (by have := HB.size; omega)))
                go_quiet (fail)
                go_wp2
                go_roundw
                case rel => exact ⟨m + 2, by omega, by go_num, by rw [HI.out, NXT.out], (fun z _ hz2 => by rw [show m + 2 - 1 = m + 1 by omega, HX.out] at hz2; injection hz2 with hz2; rw [← hz2]; exact hz), pw_below_drewN (HB.alloc HB.size _) _⟩
                case measure => simp [intOf]; omega
        · subst hA
          have hz' : (fitsI sizes x.vol x.start x.data.length != 0) = true := by simpa using hz
          go_wp2_with (first | (go_at_call 94; refine (fitsSizes_any vs sizes x.vol x.start Ad x.data.length dcap wr S2 hsr (by omega) hs64 hzs).mono ?_; rintro e w1 ⟨rfl, hb1⟩))
          go_ret
          refine ⟨ret_int ?_, below_then hb hbs hb1⟩
          rw [HI.out]
          rcases Nat.eq_zero_or_pos k with rfl | hk0
          · rw [chk_first HX.out, if_neg (show ¬ fitW sizes x = 0 from hz)]; rfl
          · obtain ⟨m, rfl⟩ : ∃ m, k = m + 1 := ⟨k - 1, by omega⟩
            obtain ⟨y, hy⟩ : ∃ y, l[m]? = some y := ⟨_, List.getElem?_eq_getElem (by omega)⟩
            rw [chk_next hy HX.out, if_neg (show ¬ fitW sizes x = 0 from hz)]; rfl
      · go_wp2
        go_ret
        obtain rfl : k = l.length := by omega
        exact ⟨ret_int (by rw [hI, chk_end]), hb⟩
  · have hr : refChk l sizes = sizesI sizes := by unfold refChk; rw [if_neg hz0]
    rw [hr]
    clear hr
    have hz' : (sizesI sizes != 0) = true := by simpa using hz0
    go_enter Try.func61, Try.ntmps61
    go_wp2_with (first | (go_at_call 90; refine (sizes_any vs sizes w S2 hs).mono ?_; rintro e w0 ⟨rfl, hb0⟩))
    go_ret
    exact ⟨rfl, hb0⟩
end Go.Proofs.Ytccbbecfmfldbaa

set_option maxRecDepth 100000
set_option linter.unusedVariables false
set_option linter.unusedSimpArgs false
namespace Go.Proofs.Ytccbbecfmfldbaa
open Go.RowKit Go.Mm Sb

/-! ### image: sizes -/
def badSize (x : Int) : Bool := decide (x < 1 ∨ 4096 < x)
theorem badFn_any (n : Int) (w : World) (h : In64 n) : Calls Try.prog 109 #[.int .i64 n] w fun e w' => e = .returned (.bool (badSize n)) ∧ w = w' := by
  by_cases h1 : n < 1
  · have t1 := decide_eq_true h1
    go_enter Try.func109, Try.ntmps109
    go_wp2
    go_ret
    exact ⟨ret_bool (by unfold badSize; simp; omega), rfl⟩
  · have t1 := decide_eq_false h1
    go_enter Try.func109, Try.ntmps109
    go_wp2
    go_ret
    exact ⟨ret_bool (by unfold badSize; rw [decide_eq_decide]; omega), rfl⟩
theorem sizesOne_any (l : List Int) : (sizesOne l = if l.any badSize then 2 else 0) := by
  induction l with
  | nil => rfl
  | cons x t ih =>
    rw [List.any_cons]
    unfold sizesOne
    by_cases h : x < 1 ∨ 4096 < x
    · have : badSize x = true := decide_eq_true h
      rw [if_pos h, this]; rfl
    · have : badSize x = false := decide_eq_false h
      rw [if_neg h, ih, this, Bool.false_or]
theorem any_take {p : Int → Bool} {l : List Int} {k : Nat} {x : Int} (hx : l[k]? = some x) : (l.take (k + 1)).any p = ((l.take k).any p || p x) := by
  obtain ⟨hk, rfl⟩ := List.getElem?_eq_some_iff.1 hx
  rw [List.take_succ_eq_append_getElem hk, List.any_append]
  simp
set_option maxHeartbeats 1000000 in
theorem indexBad_any (v : Value) (l : List Int) (w : World) (S : Nat → Prop) (h : RInts w S v l) :
    Calls Try.prog 116 #[v, .func (.func 109) #[] #[]] w fun e w' => ∃ k : Int, e = .returned (.int .i64 k) ∧ (0 ≤ k ↔ l.any badSize = true) ∧ Below w.heap.size w w' := by
  obtain ⟨A, cap, rfl, hcap, hm⟩ := h.val
  unfold maxLen at hm
  go_enter Try.func116, Try.ntmps116
  go_wp2
  go_loopw [8] (fun i wr => ∃ k : Nat, k ≤ l.length ∧ i = .int .i64 k ∧ (l.take k).any badSize = false ∧ Below w.heap.size w wr) (fun i _ => l.length - (intOf i).toNat)
  case atStart => exact ⟨0, Nat.zero_le _, rfl, rfl, Below.refl _ _⟩
  case round =>
    obtain ⟨k, hk, rfl, hn, hb⟩ := hrel
    by_cases hlt : k < l.length
    · obtain ⟨x, hx⟩ : ∃ x, l[k]? = some x := ⟨_, List.getElem?_eq_getElem hlt⟩
      obtain ⟨b, off, cs, rfl, hbl, _, hl, hcc, h1, rfl⟩ := h.at_ hx
      have c0 := (hb.cell (p := ⟨b, off + k * 1 + 0, none⟩) hbl).trans (hcc 0 (by omega))
      simp at c0
      have hbs := hb.size
      clear hcc
      cases hq : badSize x with
      | true =>
        go_wp2_with (first | (go_at_call 109; refine (badFn_any x _ h1).mono ?_; rintro e w1 ⟨rfl, rfl⟩; rw [hq]))
        go_ret
        exact ⟨_, rfl, ⟨fun _ => List.any_eq_true.2 ⟨x, List.mem_of_getElem? hx, hq⟩, fun _ => by omega⟩, hb⟩
      | false =>
        go_wp2_with (first | (go_at_call 109; refine (badFn_any x _ h1).mono ?_; rintro e w1 ⟨rfl, rfl⟩; rw [hq]))
        go_roundw
        case rel => exact ⟨k + 1, by omega, by go_num, by rw [any_take hx, hn, hq]; rfl, hb⟩
        case measure => simp [intOf]; omega
    · go_wp2
      go_ret
      obtain rfl : k = l.length := by omega
      rw [List.take_length] at hn
      exact ⟨_, rfl, ⟨fun h => by omega, fun h => by rw [hn] at h; cases h⟩, hb⟩
theorem containsBad_any (v : Value) (l : List Int) (w : World) (S : Nat → Prop) (h : RInts w S v l) :
    Calls Try.prog 102 #[v, .func (.func 109) #[] #[]] w fun e w' => e = .returned (.bool (l.any badSize)) ∧ Below w.heap.size w w' := by
  go_enter Try.func102, Try.ntmps102
  go_wp2_with (first | (go_at_call 116; refine (indexBad_any v l _ S h).mono ?_; rintro e w1 ⟨k, rfl, hk, hb1⟩; have HK := Lib.hid hk; clear hk))
  go_ret
  exact ⟨ret_bool (by rw [Bool.eq_iff_iff, ← HK.out]; simp), hb1⟩
theorem checkSizes_any (v : Value) (l : List Int) (w : World) (S : Nat → Prop) (h : RInts w S v l) :
    Calls Try.prog 86 #[v] w fun e w' => e = .returned (.int .i64 (sizesI l)) ∧ Below w.heap.size w w' := by
  obtain ⟨A, cap, rfl, hcap, hm⟩ := h.val
  unfold maxLen at hm
  by_cases g1 : l.length < 1
  · have hr : sizesI l = 6 := by unfold sizesI; rw [if_pos (.inl g1)]
    have t1 := decide_eq_true (show (l.length : Int) < 1 by omega)
    go_enter Try.func86, Try.ntmps86
    go_wp2
    go_ret
    exact ⟨ret_int hr.symm, Below.refl _ _⟩
  have t1 := decide_eq_false (show ¬ (l.length : Int) < 1 by omega)
  by_cases g2 : 8 < l.length
  · have hr : sizesI l = 6 := by unfold sizesI; rw [if_pos (.inr g2)]
    have t2 := decide_eq_true (show (8 : Int) < l.length by omega)
    go_enter Try.func86, Try.ntmps86
    go_wp2
    go_ret
    exact ⟨ret_int hr.symm, Below.refl _ _⟩
  have t2 := decide_eq_false (show ¬ (8 : Int) < l.length by omega)
  have hr : sizesI l = sizesOne l := by unfold sizesI; rw [if_neg (by omega)]
  rw [hr, sizesOne_any]
  clear hr
  cases hq : l.any badSize with
  | true =>
    go_enter Try.func86, Try.ntmps86
    go_wp2_with (first | (go_at_call 102; refine (containsBad_any _ l _ S h).mono ?_; rintro e w1 ⟨rfl, hb1⟩; rw [hq]))
    go_ret
    exact ⟨rfl, hb1⟩
  | false =>
    go_enter Try.func86, Try.ntmps86
    go_wp2_with (first | (go_at_call 102; refine (containsBad_any _ l _ S h).mono ?_; rintro e w1 ⟨rfl, hb1⟩; rw [hq]))
    go_ret
    exact ⟨rfl, hb1⟩
end Go.Proofs.Ytccbbecfmfldbaa

set_option maxRecDepth 100000
set_option linter.unusedVariables false
set_option linter.unusedSimpArgs false
namespace Go.Proofs.Ytccbbecfmfldbaa
open Go.RowKit Go.Mm Sb

/-! ### image: New, sizes -/
abbrev RVol : ERel (List Sec) := fun w S cs xs => ∃ v, cs = [v] ∧ RSl 8 RSec w S v xs
abbrev RImg := RSl 1 RVol
theorem infoV : (Try.prog.info? 52).map (fun i => (i.zero, i.size, i.bytes)) = some (some (.slice none 0 0), 1, 24) := by kernel_rfl
def zeros (n : Int) : List Sec := List.replicate n.toNat Sec.zero
def lens (im : List (List Sec)) : List Int := im.map fun x => (x.length : Int)
theorem zeros_cells (n : Nat) : (madeCells (Value.agg #[.int .u8 0, .int .u8 0, .int .u8 0, .int .u8 0, .int .u8 0, .int .u8 0, .int .u8 0, .int .u8 0]).cells (n * 8)).toList = (List.replicate n (secCells Sec.zero)).flatten := by
  have e : secCells Sec.zero = List.replicate 8 (.int .u8 0) := rfl
  rw [e, List.flatten_replicate_replicate]
  refine List.eq_replicate_iff.2 ⟨by simp [size_madeCells], fun x hx => ?_⟩
  unfold madeCells at hx
  rw [Array.toList_map, List.mem_map] at hx
  obtain ⟨t, _, rfl⟩ := hx
  have ec : (Value.agg #[.int .u8 0, .int .u8 0, .int .u8 0, .int .u8 0, .int .u8 0, .int .u8 0, .int .u8 0, .int .u8 0]).cells = #[.int .u8 0, .int .u8 0, .int .u8 0, .int .u8 0, .int .u8 0, .int .u8 0, .int .u8 0, .int .u8 0] := rfl
  rw [ec]
  have hm : t % 8 < 8 := Nat.mod_lt _ (by decide)
  show (#[Value.int .u8 0, .int .u8 0, .int .u8 0, .int .u8 0, .int .u8 0, .int .u8 0, .int .u8 0, .int .u8 0])[t % 8]! = _
  generalize t % 8 = j at hm
  match j, hm with
  | 0, _ => rfl
  | 1, _ => rfl
  | 2, _ => rfl
  | 3, _ => rfl
  | 4, _ => rfl
  | 5, _ => rfl
  | 6, _ => rfl
  | 7, _ => rfl
theorem newVol_any (n : Nat) (w : World) (hn : n ≤ 4096) :
    Calls Try.prog 96 #[.int .i64 n] w fun e w' => ∃ v, e = .returned v ∧ OwnSl 99 8 RSec w' w.heap.size (fun _ => False) v (List.replicate n Sec.zero) ∧ Below w.heap.size w w' := by
  obtain ⟨i0, hi, hz0, hz1, hz2⟩ := info_parts infoS
  go_enter Try.func96, Try.ntmps96
  go_wp2_with (first | (refine wpList_make_full _ rfl _ _ 52 rfl w.heap.size 99 i0 _ 8 Try.underlying52 hi hz0 hz1 .i64 .i64 (n : Int) (n : Int) n rfl rfl rfl rfl (by rw [hz2]; omega) (by unfold maxLen; omega) (Nat.le_refl _) ?_; intro w1 r1 r2))
  go_ret
  have hB : Below w.heap.size w w1 := ⟨r2.os, r2.tape, r2.output, r2.size, fun i hi => r2.block i hi (by simp)⟩
  refine ⟨_, rfl, ⟨List.replicate n (secCells Sec.zero), ?_, by simp, ?_, ?_⟩, hB⟩
  · rw [← zeros_cells, List.length_replicate]; exact r1
  · intro cs hc
    rw [List.eq_of_mem_replicate hc]; rfl
  · intro j cs x hj hx
    have h1 := List.eq_of_mem_replicate (List.mem_of_getElem? hj)
    have h2 := List.eq_of_mem_replicate (List.mem_of_getElem? hx)
    rw [h1, h2]; rfl
theorem map_take {α β : Type} (f : α → β) {l : List α} {k : Nat} {x : α} (hx : l[k]? = some x) : (l.take (k + 1)).map f = (l.take k).map f ++ [f x] := by
  obtain ⟨hk, rfl⟩ := List.getElem?_eq_some_iff.1 hx
  rw [List.take_succ_eq_append_getElem hk, List.map_append]
  rfl
theorem take_len {α β : Type} (f : α → β) {l : List α} {k : Nat} (hk : k ≤ l.length) : ((l.take k).map f).length = k := by
  rw [List.length_map, List.length_take, Nat.min_eq_left hk]
set_option maxHeartbeats 4000000 in
theorem mappedNew_any (v : Value) (l : List Int) (w : World) (S : Nat → Prop) (h : RInts w S v l) (hl : l.length ≤ 8) (hz : ∀ x ∈ l, 1 ≤ x ∧ x ≤ 4096) :
    Calls Try.prog 95 #[v, .func (.func 96) #[] #[]] w fun e w' => ∃ v', e = .returned v' ∧ RImg w' (fun b => w.heap.size ≤ b) v' (l.map zeros) ∧ Below w.heap.size w w' := by
  obtain ⟨A, cap, rfl, hcap, hm⟩ := h.val
  unfold maxLen at hm
  obtain ⟨i0, hi, hz0, hz1, hz2⟩ := info_parts infoV
  go_enter Try.func95, Try.ntmps95
  go_wp2_with (first | (refine wpList_make_own _ rfl _ _ 22 rfl w.heap.size 52 i0 _ 1 Try.underlying22 hi hz0 hz1 .i64 .i64 (l.length : Int) l.length rfl rfl rfl (by rw [hz2]; omega) (by unfold maxLen; omega) (Nat.le_refl _) ?_; intro w0 r1 r2))
  have hB0 : Below w.heap.size w w0 := ⟨r2.os, r2.tape, r2.output, r2.size, fun i hi => r2.block i hi (by simp)⟩
  have hO0 : OwnSl 52 1 RVol w0 w.heap.size (fun b => w.heap.size ≤ b) (.slice (some ⟨w.heap.size, 0, none⟩) 0 l.length) [] := ⟨[], r1, rfl, by simp, by simp⟩
  clear r1 r2
  go_loopw [5, 13] (fun s i wr => ∃ k : Nat, k ≤ l.length ∧ i = .int .i64 k ∧ OwnSl 52 1 RVol wr w.heap.size (fun b => w.heap.size ≤ b) s ((l.take k).map zeros) ∧ Below w.heap.size w wr) (fun _ i _ => l.length - (intOf i).toNat)
  case atStart => exact ⟨0, Nat.zero_le _, rfl, hO0, hB0⟩
  case round =>
    clear hO0 hB0
    obtain ⟨k, hk, rfl, hown, hb⟩ := hrel
    have hbs := hb.size
    by_cases hlt : k < l.length
    · obtain ⟨x, hx⟩ : ∃ x, l[k]? = some x := ⟨_, List.getElem?_eq_getElem hlt⟩
      obtain ⟨b, off, cs, rfl, hbl, _, hll, hcc, h1, rfl⟩ := h.at_ hx
      have c0 := (hb.cell (p := ⟨b, off + k * 1 + 0, none⟩) hbl).trans (hcc 0 (by omega))
      simp at c0
      clear hcc hll
      have hzx := hz x (List.mem_of_getElem? hx)
      obtain ⟨n, rfl⟩ := Int.eq_ofNat_of_zero_le (show 0 ≤ x by omega)
      have hul := hown.lt
      have htl := take_len zeros hk
      have HX := Lib.hid hx
      clear hx
      go_wp2_with (first | (go_at_call 96; refine (newVol_any n wr (by omega)).mono ?_; rintro e w1 ⟨v1, rfl, hv1, hb1⟩; obtain ⟨A1, c1, hv1e, hc1, hm1⟩ := hv1.val; rw [List.length_replicate] at hv1e; subst hv1e; have hown1 := hown.below hb1; have hbs1 := hb1.size; have hl1 := hv1.lt; have hrd := hv1.reads (T := fun b => w.heap.size ≤ b ∧ some b ≠ u5.ownBlock) (fun b _ hh => by rcases hh with hh | hh; exact hh.elim; exact ⟨by have := (hl1 b hh.symm).1; omega, fun e => by have := (hl1 b hh.symm).1; have := (hul b e.symm).2; omega⟩)) | (at_builtin; refine wpList_appendNew rfl _ _ 22 rfl 52 _ 1 24 Try.underlying22 infoV rfl (by omega) RVol w.heap.size (fun b => w.heap.size ≤ b) u5 _ rfl hown1 #[.slice A1 n c1] (List.replicate n Sec.zero) w1.heap.size rfl rfl rfl (by simp [Value.oneCell']) ⟨_, rfl, hrd⟩ (by rw [htl]; omega) (by omega) (by omega) ?_; intro v5 w5 hO5 hg5 hat5))
      go_roundw
      case rel => exact ⟨k + 1, by omega, by go_num, by rw [map_take zeros HX.out]; exact hO5, (below_then hb hbs hb1).grown hg5 (by omega) (fun j e => (hul j e).1)⟩
      case measure => simp [intOf]; omega
    · obtain rfl : k = l.length := by omega
      rw [List.take_length] at hown
      go_wp2
      go_ret
      exact ⟨_, rfl, hown.reads (fun b hb hh => by rcases hh with hh | hh; exact hh; exact (hown.lt b hh.symm).1), hb⟩
def NewRet (l : List Int) (w : World) (e : Ending) (w' : World) : Prop := ∃ v, e = .returned (.tuple #[v, .int .i64 (sizesI l)]) ∧ RImg w' (fun b => w.heap.size ≤ b) v (if sizesI l = 0 then l.map zeros else []) ∧ Below w.heap.size w w'
theorem new_any (v : Value) (l : List Int) (w : World) (S : Nat → Prop) (h : RInts w S v l) : Calls Try.prog 65 #[v] w (NewRet l w) := by
  by_cases hz : sizesI l = 0
  · have h1 := sizesI_len hz
    have h2 := sizesI_ok hz
    go_enter Try.func65, Try.ntmps65
    go_wp2_with (first | (go_at_call 86; refine (checkSizes_any v l _ S h).mono ?_; rintro e w1 ⟨rfl, hb1⟩; rw [hz]; have h' := h.below hb1) | (go_at_call 95; refine (mappedNew_any v l _ S h' h1.2 h2).mono ?_; rintro e w2 ⟨v2, rfl, hv2, hb2⟩))
    refine bodyPost_ret (v := .tuple #[v2, .int .i64 (sizesI l)]) (by simp [results, Try.results65, go_sem, hz]) rfl ⟨_, rfl, ?_, below_then hb1 hb1.size hb2⟩
    rw [if_pos hz]
    exact hv2.more (fun b _ hh => by have := hb1.size; omega)
  · have hz' : (sizesI l != 0) = true := by simpa using hz
    go_enter Try.func65, Try.ntmps65
    go_wp2_with (first | (go_at_call 86; refine (checkSizes_any v l _ S h).mono ?_; rintro e w1 ⟨rfl, hb1⟩))
    refine bodyPost_ret (v := .tuple #[.slice none 0 0, .int .i64 (sizesI l)]) (by simp [results, Try.results65, go_sem]) rfl ⟨_, rfl, ?_, hb1⟩
    rw [if_neg hz]
    exact RSl.nil _ _
end Go.Proofs.Ytccbbecfmfldbaa

set_option maxRecDepth 100000
set_option linter.unusedVariables false
set_option linter.unusedSimpArgs false
namespace Go.Proofs.Ytccbbecfmfldbaa
open Go.RowKit Go.Mm Sb

/-! ### image: Check, fits, Fits -/
theorem lenFn_any (A : Option Addr) (n cap : Nat) (w : World) : Calls Try.prog 111 #[.slice A n cap] w fun e w' => e = .returned (.int .i64 n) ∧ w = w' := by
  go_enter Try.func111, Try.ntmps111
  go_wp2
  go_ret
  exact ⟨rfl, rfl⟩
set_option maxHeartbeats 4000000 in
theorem mappedLen_any (v : Value) (l : List (List Sec)) (w : World) (S : Nat → Prop) (h : RImg w S v l) (hl : l.length ≤ 100000) :
    Calls Try.prog 110 #[v, .func (.func 111) #[] #[]] w fun e w' => ∃ v', e = .returned v' ∧ RInts w' (fun b => w.heap.size ≤ b) v' (lens l) ∧ Below w.heap.size w w' := by
  obtain ⟨A, cap, rfl, hcap, hm⟩ := h.val
  unfold maxLen at hm
  obtain ⟨i0, hi, hz0, hz1, hz2⟩ := info_parts infoI
  unfold lens
  go_enter Try.func110, Try.ntmps110
  go_wp2_with (first | (refine wpList_make_own _ rfl _ _ 63 rfl w.heap.size 3 i0 _ 1 Try.underlying63 hi hz0 hz1 .i64 .i64 (l.length : Int) l.length rfl rfl rfl (by rw [hz2]; omega) (by unfold maxLen; omega) (Nat.le_refl _) ?_; intro w0 r1 r2))
  have hB0 : Below w.heap.size w w0 := ⟨r2.os, r2.tape, r2.output, r2.size, fun i hi => r2.block i hi (by simp)⟩
  have hO0 : OwnSl 3 1 RInt w0 w.heap.size (fun _ => False) (.slice (some ⟨w.heap.size, 0, none⟩) 0 l.length) [] := ⟨[], r1, rfl, by simp, by simp⟩
  clear r1 r2
  go_loopw [5, 13] (fun s i wr => ∃ k : Nat, k ≤ l.length ∧ i = .int .i64 k ∧ OwnSl 3 1 RInt wr w.heap.size (fun _ => False) s ((l.take k).map fun x => (x.length : Int)) ∧ Below w.heap.size w wr) (fun _ i _ => l.length - (intOf i).toNat)
  case atStart => exact ⟨0, Nat.zero_le _, rfl, hO0, hB0⟩
  case round =>
    clear hO0 hB0
    obtain ⟨k, hk, rfl, hown, hb⟩ := hrel
    have hbs := hb.size
    by_cases hlt : k < l.length
    · obtain ⟨x, hx⟩ : ∃ x, l[k]? = some x := ⟨_, List.getElem?_eq_getElem hlt⟩
      obtain ⟨b, off, cs, rfl, hbl, _, hll, hcc, dv, rfl, hd⟩ := h.at_ hx
      obtain ⟨Ad, dcap, rfl, hdc, hdm⟩ := hd.val
      unfold maxLen at hdm
      have c0 := (hb.cell (p := ⟨b, off + k * 1 + 0, none⟩) hbl).trans (hcc 0 (by omega))
      simp at c0
      clear hcc hll
      have hul := hown.lt
      have htl := take_len (fun x : List Sec => (x.length : Int)) hk
      have HX := Lib.hid hx
      clear hx
      go_wp2_with (first | (go_at_call 111; refine (lenFn_any Ad x.length dcap wr).mono ?_; rintro e w1 ⟨rfl, rfl⟩) | (at_builtin; refine wpList_appendNew rfl _ _ 63 rfl 3 _ 1 8 Try.underlying63 infoI rfl (by omega) RInt w.heap.size (fun _ => False) u5 _ rfl hown #[.int .i64 x.length] (x.length : Int) wr.heap.size rfl rfl rfl (by simp [Value.oneCell']) ⟨by unfold In64; omega, rfl⟩ (by rw [htl]; omega) (by omega) (by omega) ?_; intro v5 w5 hO5 hg5 hat5))
      go_roundw
      case rel => exact ⟨k + 1, by omega, by go_num, by rw [map_take (fun x : List Sec => (x.length : Int)) HX.out]; exact hO5, hb.grown hg5 hbs (fun j e => (hul j e).1)⟩
      case measure => simp [intOf]; omega
    · obtain rfl : k = l.length := by omega
      rw [List.take_length] at hown
      go_wp2
      go_ret
      exact ⟨_, rfl, hown.reads (fun b hb hh => by rcases hh with hh | hh; exact hh.elim; exact (hown.lt b hh.symm).1), hb⟩
theorem imgSizes_any (v : Value) (l : List (List Sec)) (w : World) (S : Nat → Prop) (h : RImg w S v l) (hl : l.length ≤ 100000) :
    Calls Try.prog 87 #[v] w fun e w' => ∃ v', e = .returned v' ∧ RInts w' (fun b => w.heap.size ≤ b) v' (lens l) ∧ Below w.heap.size w w' := by
  go_enter Try.func87, Try.ntmps87
  go_wp2_with (first | (go_at_call 110; refine (mappedLen_any v l _ S h hl).mono ?_; rintro e w1 ⟨v1, rfl, hv1, hb1⟩))
  go_ret
  exact ⟨_, rfl, hv1, hb1⟩
theorem imgCheck_any (v : Value) (l : List (List Sec)) (w : World) (S : Nat → Prop) (h : RImg w S v l) (hl : l.length ≤ 100000) :
    Calls Try.prog 54 #[v] w fun e w' => e = .returned (.int .i64 (sizesI (lens l))) ∧ Below w.heap.size w w' := by
  go_enter Try.func54, Try.ntmps54
  go_wp2_with (first | (go_at_call 87; refine (imgSizes_any v l _ S h hl).mono ?_; rintro e w1 ⟨v1, rfl, hv1, hb1⟩) | (go_at_call 86; refine (checkSizes_any v1 (lens l) _ _ hv1).mono ?_; rintro e w2 ⟨rfl, hb2⟩))
  go_ret
  exact ⟨rfl, below_then hb1 hb1.size hb2⟩
theorem fitsI_if {sizes : List Int} {a b : Int} {n : Nat} (h1 : ¬ (a < 0 ∨ (sizes.length : Int) ≤ a)) (h2 : n ≠ 0) : fitsI sizes a b n = if b < 0 ∨ sizes.getD a.toNat 0 - n < b then 2 else 0 := by
  unfold fitsI
  rw [if_neg h1, if_neg h2]
  by_cases h : b < 0 ∨ sizes.getD a.toNat 0 - n < b
  · rw [if_pos h, if_pos (by omega)]
  · rw [if_neg h, if_neg (by omega)]
set_option maxHeartbeats 2000000 in
theorem imgFits_any (v : Value) (l : List (List Sec)) (a b : Int) (A : Option Addr) (n cap : Nat) (w : World) (S : Nat → Prop) (hs : RImg w S v l) (hn : n ≤ 9223372036854775807) (hb : In64 b) :
    Calls Try.prog 98 #[v, .agg #[.int .i64 a, .int .i64 b, .slice A n cap]] w fun e w' => e = .returned (.int .i64 (fitsI (lens l) a b n)) ∧ Below w.heap.size w w' := by
  obtain ⟨A', cap', rfl, hc1, hc2⟩ := hs.val
  unfold maxLen at hc2
  obtain ⟨hb1, hb2⟩ := hb
  have hll : (lens l).length = l.length := by simp [lens]
  by_cases h1 : a < 0
  · have hr : fitsI (lens l) a b n = 7 := by unfold fitsI; rw [if_pos (.inl h1)]
    rw [hr]
    go_enter Try.func98, Try.ntmps98
    go_wp2
    go_ret
    exact ⟨rfl, ((Below.refl _ _).alloc (Nat.le_refl _) _)⟩
  by_cases h2 : (l.length : Int) ≤ a
  · have hr : fitsI (lens l) a b n = 7 := by unfold fitsI; rw [if_pos (.inr (by rw [hll]; exact h2))]
    rw [hr]
    go_enter Try.func98, Try.ntmps98
    go_wp2
    go_ret
    exact ⟨rfl, ((Below.refl _ _).alloc (Nat.le_refl _) _)⟩
  have hnr : ¬ (a < 0 ∨ ((lens l).length : Int) ≤ a) := by rw [hll]; omega
  by_cases h3 : n = 0
  · have hr : fitsI (lens l) a b n = 1 := by unfold fitsI; rw [if_neg hnr, if_pos h3]
    rw [hr]
    subst h3
    go_enter Try.func98, Try.ntmps98
    go_wp2
    go_ret
    exact ⟨rfl, ((Below.refl _ _).alloc (Nat.le_refl _) _)⟩
  have h3' : ((n : Int) == 0) = false := by simp; omega
  rw [fitsI_if hnr h3]
  obtain ⟨j, rfl⟩ := Int.eq_ofNat_of_zero_le (show 0 ≤ a by omega)
  have hj : j < l.length := by omega
  obtain ⟨bb, off, cs, rfl, hbl, _, hl, hc, dv, rfl, hd⟩ := hs.at_ (List.getElem?_eq_getElem hj)
  obtain ⟨Ad, dcap, rfl, hdc, hdm⟩ := hd.val
  unfold maxLen at hdm
  have e0 : (lens l).getD (j : Int).toNat 0 = (l[j].length : Int) := by simp [lens, List.getD_eq_getElem?_getD, hj]
  rw [e0]
  have c0 := hc 0 (by omega)
  simp at c0
  clear e0 hc hd hll hnr hl
  generalize l[j].length = z at *
  by_cases h4 : b < 0
  · have hd := decide_eq_true h4
    rw [if_pos (.inl h4)]
    go_enter Try.func98, Try.ntmps98
    go_wp2
    go_quiet (fail)
    go_wp2
    go_ret
    exact ⟨rfl, pw_below_drewN ((Below.refl _ _).alloc (Nat.le_refl _) _) _⟩
  have hd4 := decide_eq_false h4
  by_cases h5 : (z : Int) - n < b
  · have hd := decide_eq_true h5
    rw [if_pos (.inr h5)]
    go_enter Try.func98, Try.ntmps98
    go_wp2
    go_quiet (fail)
    go_wp2
    go_ret
    exact ⟨rfl, pw_below_drewN ((Below.refl _ _).alloc (Nat.le_refl _) _) _⟩
  · have hd := decide_eq_false h5
    rw [if_neg (by omega)]
    go_enter Try.func98, Try.ntmps98
    go_wp2
    go_quiet (fail)
    go_wp2
    go_ret
    exact ⟨rfl, pw_below_drewN ((Below.refl _ _).alloc (Nat.le_refl _) _) _⟩
/-- the error of a write for an image -/
def fitIm (l : List (List Sec)) (a b : Int) (n : Nat) : Int := if sizesI (lens l) = 0 then fitsI (lens l) a b n else sizesI (lens l)
theorem imgFitsX_any (v : Value) (l : List (List Sec)) (a b : Int) (A : Option Addr) (n cap : Nat) (w : World) (S : Nat → Prop) (hs : RImg w S v l) (hl : l.length ≤ 100000) (hn : n ≤ 9223372036854775807) (hb : In64 b) :
    Calls Try.prog 93 #[v, .agg #[.int .i64 a, .int .i64 b, .slice A n cap]] w fun e w' => e = .returned (.int .i64 (fitIm l a b n)) ∧ Below w.heap.size w w' := by
  have hA := ((Below.refl w.heap.size w).alloc (Nat.le_refl _) (.cells #[.int .i64 a, .int .i64 b, .slice A n cap] 54))
  have hs1 := hs.below hA
  have hk := Blk.new w 54 #[.int .i64 a, .int .i64 b, .slice A n cap]
  by_cases hz : sizesI (lens l) = 0
  · have hr : fitIm l a b n = fitsI (lens l) a b n := by unfold fitIm; rw [if_pos hz]
    rw [hr]
    clear hr
    go_enter Try.func93, Try.ntmps93
    go_wp2_with (first | (go_at_call 54; refine (imgCheck_any v l _ S hs1 hl).mono ?_; rintro e w1 ⟨rfl, hb1⟩; rw [hz]; obtain ⟨q0, q1, q2, q3, q4, q5⟩ := (hk.below hb1).three; have hs2 := hs1.below hb1) | (go_at_call 98; refine (imgFits_any v l a b A n cap _ S hs2 hn hb).mono ?_; rintro e w2 ⟨rfl, hb2⟩))
    go_ret
    exact ⟨rfl, below_then (below_then hA hA.size hb1) (by have := hb1.size; have := hA.size; omega) hb2⟩
  · have hr : fitIm l a b n = sizesI (lens l) := by unfold fitIm; rw [if_neg hz]
    have hz' : (sizesI (lens l) != 0) = true := by simpa using hz
    rw [hr]
    clear hr
    go_enter Try.func93, Try.ntmps93
    go_wp2_with (first | (go_at_call 54; refine (imgCheck_any v l _ S hs1 hl).mono ?_; rintro e w1 ⟨rfl, hb1⟩))
    go_ret
    exact ⟨rfl, below_then hA hA.size hb1⟩
end Go.Proofs.Ytccbbecfmfldbaa
