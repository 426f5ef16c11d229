import Derived.Test.YtoifinmcoldidaaC6
set_option maxRecDepth 100000
set_option linter.unusedVariables false
set_option linter.unusedSimpArgs false
namespace Go.Proofs.Ytoifinmcoldidaa
open Go.RowKit Go.Mm Sb

/-! ### Sectors, check, Fold -/
set_option maxHeartbeats 1000000 in
theorem sectors_any (v : Value) (l : List Wr) (w : World) (S : Nat → Prop) (h : RWrs w S v l) (hsz : secN l ≤ 1000000000000) :
    Calls Try.prog 25 #[v] w fun e w' => e = .returned (.int .i64 (secN l : Nat)) ∧ Below w.heap.size w w' := by
  obtain ⟨A, cap, rfl, hcap, hm⟩ := h.val
  unfold maxLen at hm
  go_enter Try.func25, Try.ntmps25
  go_wp2
  go_loopw [3, 8] (fun n i wr => ∃ k : Nat, k ≤ l.length ∧ i = .int .i64 k ∧ n = .int .i64 (secN (l.take k) : Nat) ∧ Below w.heap.size w wr) (fun _ i _ => l.length - (intOf i).toNat)
  case atStart => exact ⟨0, Nat.zero_le _, rfl, rfl, Below.refl _ _⟩
  case round =>
    obtain ⟨k, hk, rfl, rfl, hb⟩ := hrel
    by_cases hlt : k < l.length
    · obtain ⟨x, hx⟩ : ∃ x, l[k]? = some x := ⟨_, List.getElem?_eq_getElem hlt⟩
      obtain ⟨b, off, cs, rfl, hbl, _, hl, hc, hr⟩ := h.at_ hx
      obtain ⟨_, _, dv, rfl, hd⟩ := hr
      obtain ⟨Ad, dcap, rfl, hdc, hdm⟩ := hd.val
      unfold maxLen at hdm
      have c0 := (hb.cell (p := ⟨b, off + k * 3 + 0, none⟩) hbl).trans (hc 0 (by omega))
      have c1 := (hb.cell (p := ⟨b, off + k * 3 + 1, none⟩) hbl).trans (hc 1 (by omega))
      have c2 := (hb.cell (p := ⟨b, off + k * 3 + 2, none⟩) hbl).trans (hc 2 (by omega))
      clear hc hl
      simp at c0 c1 c2
      have hs := secN_take hx
      have hs1 := secN_le (l := l) (k + 1)
      have HS := Lib.hid hs
      have hs2 : secN (l.take k) + x.data.length ≤ 1000000000000 := by omega
      clear hs
      go_wp2
      go_roundw
      case rel => exact ⟨k + 1, by omega, by go_num, by rw [HS.out]; simp, (hb.alloc hb.size _)⟩
      case measure => simp [intOf]; omega
    · go_wp2
      go_ret
      obtain rfl : k = l.length := by omega
      exact ⟨ret_int (by rw [List.take_length]), hb⟩

/-- The error of a list; f is that of a write alone. -/
def chkI (f : Wr → Int) : Option Wr → List Wr → Int
  | _, [] => 0
  | none, w :: t => if f w = 0 then chkI f (some w) t else f w
  | some x, w :: t => if f w = 0 then (if w.vol < x.vol ∨ w.vol = x.vol ∧ w.start ≤ x.start + x.data.length then 3 else chkI f (some w) t) else f w
def plI (w : Wr) : Int := placedI w.vol w.start w.data.length
theorem plI_zero {w : Wr} (h : plI w = 0) : 0 ≤ w.start ∧ w.start + w.data.length ≤ 4096 := by
  unfold plI placedI at h
  split at h
  · cases h
  · split at h
    · cases h
    · split at h
      · cases h
      · omega
def prevW (l : List Wr) (k : Nat) : Option Wr := if k = 0 then none else l[k - 1]?
theorem chk_first {f : Wr → Int} {l : List Wr} {x : Wr} (h : l[0]? = some x) : chkI f (prevW l 0) (l.drop 0) = if f x = 0 then chkI f (prevW l 1) (l.drop 1) else f x := by
  cases l with
  | nil => simp at h
  | cons a t => simp at h; subst h; simp [prevW, chkI]
theorem chk_next {f : Wr → Int} {l : List Wr} {k : Nat} {x y : Wr} (hx : l[k]? = some x) (hy : l[k + 1]? = some y) : chkI f (prevW l (k + 1)) (l.drop (k + 1)) =
    if f y = 0 then (if y.vol < x.vol ∨ y.vol = x.vol ∧ y.start ≤ x.start + x.data.length then 3 else chkI f (prevW l (k + 2)) (l.drop (k + 2))) else f y := by
  obtain ⟨hk, rfl⟩ := List.getElem?_eq_some_iff.1 hx
  obtain ⟨hk1, rfl⟩ := List.getElem?_eq_some_iff.1 hy
  have e1 : prevW l (k + 1) = some l[k] := by simp [prevW, hk]
  have e2 : prevW l (k + 2) = some l[k + 1] := by simp [prevW, hk1]
  rw [List.drop_eq_getElem_cons hk1, e1, e2]
  rfl
theorem chk_end {f : Wr → Int} {l : List Wr} : chkI f (prevW l l.length) (l.drop l.length) = 0 := by
  rw [List.drop_length]; unfold chkI; cases prevW l l.length <;> rfl
set_option maxHeartbeats 4000000 in
theorem check_any (v : Value) (l : List Wr) (w : World) (S : Nat → Prop) (h : RWrs w S v l) :
    Calls Try.prog 44 #[v, .func (.func 37) #[] #[]] w fun e w' => e = .returned (.int .i64 (chkI plI none l)) ∧ Below w.heap.size w w' := by
  obtain ⟨A, cap, rfl, hcap, hm⟩ := h.val
  unfold maxLen at hm
  go_enter Try.func44, Try.ntmps44
  go_wp2
  go_loopw [11] (fun i wr => ∃ k : Nat, k ≤ l.length ∧ i = .int .i64 k ∧ chkI plI none l = chkI plI (prevW l k) (l.drop k) ∧ (∀ x, 0 < k → l[k-1]? = some x → plI x = 0) ∧ Below w.heap.size w wr) (fun i _ => l.length - (intOf i).toNat)
  case atStart => exact ⟨0, Nat.zero_le _, rfl, rfl, by omega, Below.refl _ _⟩
  case round =>
    obtain ⟨k, hk, rfl, hI, hpr, hb⟩ := hrel
    by_cases hlt : k < l.length
    · obtain ⟨x, hx⟩ : ∃ x, l[k]? = some x := ⟨_, List.getElem?_eq_getElem hlt⟩
      obtain ⟨b, off, cs, hA, hbl, _, hl, hc, hr⟩ := h.at_ hx
      obtain ⟨hv64, hs64, dv, rfl, hd⟩ := hr
      obtain ⟨Ad, dcap, rfl, hdc, hdm⟩ := hd.val
      unfold maxLen at hdm
      have c0 := (hb.cell (p := ⟨b, off + k * 3 + 0, none⟩) hbl).trans (hc 0 (by omega))
      have c1 := (hb.cell (p := ⟨b, off + k * 3 + 1, none⟩) hbl).trans (hc 1 (by omega))
      have c2 := (hb.cell (p := ⟨b, off + k * 3 + 2, none⟩) hbl).trans (hc 2 (by omega))
      clear hc hl
      have HI := Lib.hid hI
      have HPR := Lib.hid hpr
      have HX := Lib.hid hx
      clear hI hpr hx
      by_cases hz : placedI x.vol x.start x.data.length = 0
      · rcases Nat.eq_zero_or_pos k with rfl | hk0
        · subst hA
          simp at c0 c1 c2
          go_wp2_with (first | (go_at_call 37; refine (placed_any _ _ _ _ _ _ (by omega)).mono ?_; rintro e w1 ⟨rfl, hb1⟩; rw [hz]))
          go_roundw
          case rel => exact ⟨1, by omega, by go_num, by rw [HI.out, chk_first HX.out, if_pos (show plI x = 0 from hz)], (fun y _ hy => by rw [show y = x by simpa [HX.out] using hy.symm]; exact hz), below_then (hb.alloc hb.size _) (by have := hb.size; simp; omega) hb1⟩
          case measure => simp [intOf]; omega
        · obtain ⟨m, rfl⟩ : ∃ m, k = m + 1 := ⟨k - 1, by omega⟩
          obtain ⟨y, hy⟩ : ∃ y, l[m]? = some y := ⟨_, List.getElem?_eq_getElem (by omega)⟩
          obtain ⟨b2, off2, cs2, hA2, hbl2, _, hl2, hc2, hr2⟩ := h.at_ hy
          obtain ⟨hv642, hs642, dv2, rfl, hd2⟩ := hr2
          obtain ⟨Ad2, dcap2, rfl, hdc2, hdm2⟩ := hd2.val
          unfold maxLen at hdm2
          obtain ⟨rfl, rfl⟩ : b2 = b ∧ off2 = off := by rw [hA] at hA2; injection hA2 with e; injection e with e1 e2; exact ⟨e1.symm, e2.symm⟩
          subst hA
          clear hA2
          have hD : ∀ W, Below w.heap.size w W → W.cell? ⟨b2, off2 + m * 3, none⟩ = some (.int .i64 y.vol) ∧ W.cell? ⟨b2, off2 + m * 3 + 1, none⟩ = some (.int .i64 y.start) ∧ W.cell? ⟨b2, off2 + m * 3 + 2, none⟩ = some (.slice Ad2 y.data.length dcap2) := fun W hW =>
            ⟨(hW.cell hbl2).trans (hc2 0 (by omega)), (hW.cell hbl2).trans (hc2 1 (by omega)), (hW.cell hbl2).trans (hc2 2 (by omega))⟩
          simp at c0 c1 c2
          have hzy := plI_zero (HPR.out y (by omega) (by simpa using hy))
          have HY := Lib.hid hy
          clear hc2 hl2 hy
          have t0 : ((m : Int) + 1 == 0) = false := by simp; omega
          by_cases hg1 : x.vol < y.vol
          · have t1 := decide_eq_true hg1
            go_wp2_with (first | (go_at_call 37; refine (placed_any _ _ _ _ _ _ (by omega)).mono ?_; rintro e w1 ⟨rfl, hb1⟩; rw [hz]; have HB := below_then (hb.alloc hb.size _) (by have := hb.size; simp; omega) hb1; obtain ⟨d0, d1, d2⟩ := hD w1 HB; obtain ⟨q0, q1, q2, q3, q4, q5⟩ := ((Blk.new wr 35 #[.int .i64 x.vol, .int .i64 x.start, .slice Ad x.data.length dcap]).below hb1).three; have q7 : wr.heap.size < w1.heap.size := by have := hb1.size; simp at this; omega))
            go_ret
            refine ⟨ret_int ?_, ?_⟩
            · rw [HI.out, chk_next HY.out HX.out, if_pos (show plI x = 0 from hz), if_pos (.inl hg1)]
            · exact (below_then (below_then (hb.alloc hb.size _) (by have := hb.size; simp; omega) hb1) (by have := hb.size; omega) ((Below.refl _ _).alloc (Nat.le_refl _) _))
          · have t1 := decide_eq_false hg1
            obtain ⟨xv, xs, xd⟩ := x
            obtain ⟨yv, ys, yd⟩ := y
            simp only at *
            by_cases hg2 : xv = yv
            · subst hg2
              by_cases hg3 : xs ≤ ys + yd.length
              · have t3 := decide_eq_true hg3
                go_wp2_with (first | (go_at_call 37; refine (placed_any _ _ _ _ _ _ (by omega)).mono ?_; rintro e w1 ⟨rfl, hb1⟩; rw [hz]; have HB := below_then (hb.alloc hb.size _) (by have := hb.size; simp; omega) hb1; obtain ⟨d0, d1, d2⟩ := hD w1 HB; obtain ⟨q0, q1, q2, q3, q4, q5⟩ := ((Blk.new wr 35 #[.int .i64 xv, .int .i64 xs, .slice Ad xd.length dcap]).below hb1).three; have q7 : wr.heap.size < w1.heap.size := by have := hb1.size; simp at this; omega))
                go_ret
                refine ⟨ret_int ?_, ?_⟩
                · rw [HI.out, chk_next HY.out HX.out, if_pos (show plI ⟨xv, xs, xd⟩ = 0 from hz), if_pos (.inr ⟨rfl, hg3⟩)]
                · exact (below_then (below_then (hb.alloc hb.size _) (by have := hb.size; simp; omega) hb1) (by have := hb.size; omega) ((Below.refl _ _).alloc (Nat.le_refl _) _))
              · have t3 := decide_eq_false hg3
                go_wp2_with (first | (go_at_call 37; refine (placed_any _ _ _ _ _ _ (by omega)).mono ?_; rintro e w1 ⟨rfl, hb1⟩; rw [hz]; have HB := below_then (hb.alloc hb.size _) (by have := hb.size; simp; omega) hb1; obtain ⟨d0, d1, d2⟩ := hD w1 HB; obtain ⟨q0, q1, q2, q3, q4, q5⟩ := ((Blk.new wr 35 #[.int .i64 xv, .int .i64 xs, .slice Ad xd.length dcap]).below hb1).three; have q7 : wr.heap.size < w1.heap.size := by have := hb1.size; simp at this; omega))
                go_roundw
                case rel =>
                  refine ⟨m + 2, by omega, by go_num, ?_, ?_, ?_⟩
                  · rw [HI.out, chk_next HY.out HX.out, if_pos (show plI ⟨xv, xs, xd⟩ = 0 from hz), if_neg (by simp only; omega)]
                  · intro z _ hz2
                    rw [show m + 2 - 1 = m + 1 by omega, HX.out] at hz2
                    injection hz2 with hz2
                    rw [← hz2]; exact hz
                  · exact (below_then (below_then (hb.alloc hb.size _) (by have := hb.size; simp; omega) hb1) (by have := hb.size; omega) ((Below.refl _ _).alloc (Nat.le_refl _) _))
                case measure => simp [intOf]; omega
            · have t2 : (xv == yv) = false := by simpa using hg2
              go_wp2_with (first | (go_at_call 37; refine (placed_any _ _ _ _ _ _ (by omega)).mono ?_; rintro e w1 ⟨rfl, hb1⟩; rw [hz]; have HB := below_then (hb.alloc hb.size _) (by have := hb.size; simp; omega) hb1; obtain ⟨d0, d1, d2⟩ := hD w1 HB; obtain ⟨q0, q1, q2, q3, q4, q5⟩ := ((Blk.new wr 35 #[.int .i64 xv, .int .i64 xs, .slice Ad xd.length dcap]).below hb1).three; have q7 : wr.heap.size < w1.heap.size := by have := hb1.size; simp at this; omega))
              go_roundw
              case rel =>
                  refine ⟨m + 2, by omega, by go_num, ?_, ?_, ?_⟩
                  · rw [HI.out, chk_next HY.out HX.out, if_pos (show plI ⟨xv, xs, xd⟩ = 0 from hz), if_neg (by simp only; omega)]
                  · intro z _ hz2
                    rw [show m + 2 - 1 = m + 1 by omega, HX.out] at hz2
                    injection hz2 with hz2
                    rw [← hz2]; exact hz
                  · exact (below_then (below_then (hb.alloc hb.size _) (by have := hb.size; simp; omega) hb1) (by have := hb.size; omega) ((Below.refl _ _).alloc (Nat.le_refl _) _))
              case measure => simp [intOf]; omega
      · subst hA
        simp at c0 c1 c2
        go_wp2_with (first | (go_at_call 37; refine (placed_any _ _ _ _ _ _ (by omega)).mono ?_; rintro e w1 ⟨rfl, hb1⟩))
        go_ret
        refine ⟨ret_int ?_, below_then (hb.alloc hb.size _) (by have := hb.size; simp; omega) hb1⟩
        rw [HI.out]
        rcases Nat.eq_zero_or_pos k with rfl | hk0
        · rw [chk_first HX.out, if_neg (show ¬ plI x = 0 from hz)]; rfl
        · obtain ⟨m, rfl⟩ : ∃ m, k = m + 1 := ⟨k - 1, by omega⟩
          obtain ⟨y, hy⟩ : ∃ y, l[m]? = some y := ⟨_, List.getElem?_eq_getElem (by omega)⟩
          rw [chk_next hy HX.out, if_neg (show ¬ plI x = 0 from hz)]; rfl
    · go_wp2
      go_ret
      obtain rfl : k = l.length := by omega
      exact ⟨ret_int (by rw [hI, chk_end]), hb⟩
end Go.Proofs.Ytoifinmcoldidaa
