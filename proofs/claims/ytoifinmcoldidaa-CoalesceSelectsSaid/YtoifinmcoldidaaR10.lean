import Derived.Test.YtoifinmcoldidaaR3
import Derived.Test.YtoifinmcoldidaaC20
import Derived.BigQuiet
set_option maxRecDepth 100000
set_option linter.unusedVariables false
set_option linter.unusedSimpArgs false
namespace Go.Proofs.Ytoifinmcoldidaa
open Go.RowKit Go.Mm Sb

/-! ### the reference of extents: Marks, Intersect, Same; Sectors -/
theorem marks_put {w : World} {g n : Nat} {p : Int → Bool} (h : Marks w g n p) {i : Nat} (b : Bool) : Marks (w.setCell ⟨g, i, none⟩ (.bool b)) g n fun s => if s = i then b else p s := by
  have := Blk.set_ h i (.bool b)
  rw [markCells_set] at this
  have e : (marksOf n p).set i b = marksOf n fun s => if s = i then b else p s := by
    refine List.ext_getElem (by simp [marksOf]) fun j h1 h2 => ?_
    simp only [List.getElem_set, marksOf, List.getElem_map, List.getElem_range]
    by_cases hj : i = j
    · subst hj; simp
    · rw [if_neg hj, if_neg (by omega)]
  rw [e] at this
  exact this
set_option maxHeartbeats 4000000 in
theorem marks_any (v : Value) (l : List Ext) (w : World) (S : Nat → Prop) (h : RExts w S v l) :
    Calls Try.prog 81 #[v] w fun e w' => e = .returned (.slice (some ⟨w.heap.size, 0, none⟩) 4096 4096) ∧ Marks w' w.heap.size 4096 (memC l) ∧ Below w.heap.size w w' := by
  obtain ⟨A, cap, rfl, hcap, hm⟩ := h.val
  unfold maxLen at hm
  obtain ⟨i0, hi, hz0, hz1, hz2⟩ := info_parts infoB
  have hM0 : Marks (w.alloc (.cells (madeCells #[.bool false] 4096) 4)) w.heap.size 4096 (fun _ => false) := by
    unfold Marks
    rw [← marksOf_none, ← markCells_made]
    exact Blk.new _ _ _
  have hB0 : Below w.heap.size w (w.alloc (.cells (madeCells #[.bool false] 4096) 4)) := (Below.refl _ _).alloc (Nat.le_refl _) _
  go_enter Try.func81, Try.ntmps81
  go_wp2_with (first | (refine wpList_make_row _ rfl _ _ 97 rfl 4 i0 (.bool false) Try.underlying97 hi hz0 hz1 rfl .i64 .i64 4096 rfl rfl (by rw [hz2]; omega) (by omega) ?_))
  generalize w.alloc (.cells (madeCells #[.bool false] 4096) 4) = w0 at *
  go_loopw [4] (fun i wr => ∃ k : Nat, k ≤ l.length ∧ i = .int .i64 k ∧ Marks wr w.heap.size 4096 (memC (l.take k)) ∧ Below w.heap.size w wr) (fun i _ => l.length - (intOf i).toNat)
  case atStart => exact ⟨0, by omega, rfl, hM0, hB0⟩
  case round =>
    obtain ⟨k, hk, rfl, hMk, hb⟩ := hrel
    have hbs := hb.size
    by_cases hlt : k < l.length
    · have t1 := decide_eq_true hlt
      obtain ⟨x, hx⟩ : ∃ x, l[k]? = some x := ⟨_, List.getElem?_eq_getElem hlt⟩
      obtain ⟨b, off, cs, rfl, hbl, _, hl, hc, h1, h2, rfl⟩ := h.at_ hx
      have c0 := (hb.cell (p := ⟨b, off + k * 2 + 0, none⟩) hbl).trans (hc 0 (by omega))
      have c1 := (hb.cell (p := ⟨b, off + k * 2 + 1, none⟩) hbl).trans (hc 1 (by omega))
      clear hc hl
      simp at c0 c1
      have HX := Lib.hid hx
      clear hx
      go_wp2_with (first | (go_at_call 58; refine (add_any x w.heap.size _ wr h1 h2 hMk).mono ?_; rintro e w1 ⟨rfl, hM1, hg1⟩))
      go_roundw
      case rel =>
        refine ⟨k + 1, by omega, by go_num, hM1.congr (fun s _ _ => by rw [memC_take HX.out]), hb.grown hg1 hbs (fun j e => by injection e with e; omega)⟩
      case measure => simp [intOf]; omega
    · obtain rfl : k = l.length := by omega
      rw [List.take_length] at hMk
      go_wp2
      go_ret
      exact ⟨rfl, hMk, hb⟩
set_option maxHeartbeats 4000000 in
theorem intersectR_any (va vb : Value) (a b : List Ext) (w : World) (S T : Nat → Prop) (ha : RExts w S va a) (hb : RExts w T vb b) :
    Calls Try.prog 55 #[va, vb] w fun e w' => ∃ v, e = .returned v ∧ RExts w' (fun b => w.heap.size ≤ b) v (runsE (fun s => memC a s && memC b s) 4096) ∧ Below w.heap.size w w' := by
  go_enter Try.func55, Try.ntmps55
  go_wp2_with fail
  refine (marks_any va a w S ha).mono ?_
  rintro e w1 ⟨rfl, hM1, hB1⟩
  have hs1 := hM1.lt
  go_wp2_with fail
  refine (marks_any vb b w1 T (hb.below hB1)).mono ?_
  rintro e w2 ⟨rfl, hM2, hB2⟩
  have hB := below_then (Below.refl w.heap.size w) (Nat.le_refl _) hB1
  have hBB := below_then hB hB1.size hB2
  replace hM1 := hM1.below hB2
  have hs2 := hM2.lt
  generalize hg2 : w1.heap.size = g2 at *
  clear hg2
  go_wp2
  go_loopw [7] (fun i wr => ∃ k : Nat, k ≤ 4096 ∧ i = .int .i64 k ∧ Marks wr w.heap.size 4096 (fun s => if s < k then memC a s && memC b s else memC a s) ∧ Marks wr g2 4096 (memC b) ∧ Below w.heap.size w wr) (fun i _ => 4096 - (intOf i).toNat)
  case atStart => exact ⟨0, by omega, rfl, hM1.congr (fun s h0 _ => by rw [if_neg (by omega)]), hM2, hBB⟩
  case round =>
    obtain ⟨k, hk, rfl, hMa, hMb, hbw⟩ := hrel
    have hbs := hbw.size
    have hla := hMa.lt
    have hlb := hMb.lt
    by_cases hlt : k < 4096
    · have t1 := decide_eq_true hlt
      have ca : wr.cell? ⟨w.heap.size, k, none⟩ = some (.bool (memC a k)) := by have := hMa.rd.2 k hlt; simpa using this
      have cb := hMb.rd.2 k hlt
      have fa := Blk.frozen hMa k
      have hne : w.heap.size ≠ g2 := by omega
      cases pa : memC a k with
      | false =>
        rw [pa] at ca
        go_wp2
        go_roundw
        case rel =>
          refine ⟨k + 1, by omega, by go_num, (marks_put hMa (i := k) false).congr (fun s _ _ => ?_), ?_, hbw.setCell (by simp) _⟩
          · by_cases hsk : s = k
            · subst hsk; simp [pa]
            · rw [if_neg hsk]
              by_cases h2 : s < k
              · rw [if_pos h2, if_pos (by omega)]
              · rw [if_neg h2, if_neg (by omega)]
          · exact Blk.far hMb (p := ⟨w.heap.size, k, none⟩) (by simp; omega) _
        case measure => simp [intOf]; omega
      | true =>
        rw [pa] at ca
        generalize pb : memC b k = q at cb
        go_wp2
        go_roundw
        case rel =>
          refine ⟨k + 1, by omega, by go_num, (marks_put hMa (i := k) q).congr (fun s _ _ => ?_), ?_, hbw.setCell (by simp) _⟩
          · by_cases hsk : s = k
            · subst hsk; simp [pa, pb]; omega
            · rw [if_neg hsk]
              by_cases h2 : s < k
              · rw [if_pos h2, if_pos (by omega)]
              · rw [if_neg h2, if_neg (by omega)]
          · exact Blk.far hMb (p := ⟨w.heap.size, k, none⟩) (by simp; omega) _
        case measure => simp [intOf]; omega
    · obtain rfl : k = 4096 := by omega
      have hMc : Marks wr w.heap.size 4096 (fun s => memC a s && memC b s) := hMa.congr (fun s _ h1 => by rw [if_pos (by omega)])
      go_wp2_with (first | (go_at_call 59; refine (list_any _ 4096 4096 _ _ hMc.rd (by omega) (by omega)).mono ?_; rintro e w3 ⟨v3, rfl, hv3, hb3⟩))
      go_ret
      exact ⟨_, rfl, hv3.more (fun b _ hbb => by omega), below_then hbw hbs hb3⟩
/-! ### '==' on extents -/
theorem eqInX (a b c d : Int) (w : World) : (Op.equalIn 10000 68 (.agg #[.int .i64 a, .int .i64 b]) (.agg #[.int .i64 c, .int .i64 d])).run Try.prog w = .ok (a == c && b == d) w := by
  have u3 := Try.underlying3
  have a3 := Try.isAgg3
  have z3 := Try.sizeOf3
  have hS : Try.prog.underlying 68 = some (.struct (Try.prog.fieldsOf 68)) := by kernel_rfl
  have hp : Try.prog.stoodInHeld 68 = false := by kernel_rfl
  rw [show (10000 : Nat) = 9999 + 1 from rfl, run_equalIn_agg w 9999 68 _ _ hS hp]
  simp only [Program.fieldsOf, Try.underlying68]
  go_simp
  (repeat' split) <;> simp [*]
theorem neqX (a b c d : Int) (w : World) : (binOp .neq 68 (.agg #[.int .i64 a, .int .i64 b]) (.agg #[.int .i64 c, .int .i64 d])).run Try.prog w = .ok (.bool (!(a == c && b == d))) w := by
  rw [run_neq_struct, eqInX]; rfl
set_option maxHeartbeats 2000000 in
theorem same01_any (va vb : Value) (a b : List Ext) (w : World) (S T : Nat → Prop) (ha : RExts w S va a) (hb : RExts w T vb b) :
    Calls Try.prog 29 #[va, vb] w fun e w' => e = .returned (.bool (decide (a = b))) ∧ Below w.heap.size w w' := by
  obtain ⟨Aa, ca, rfl, ha1, ha2⟩ := ha.val
  obtain ⟨Ab, cb, rfl, hb1, hb2⟩ := hb.val
  unfold maxLen at ha2 hb2
  have hnS := fun x y u v w => neqX x y u v w
  by_cases hl : a.length = b.length
  · go_enter Try.func29, Try.ntmps29
    go_wp2
    go_loopw [5] (fun i wr => ∃ k : Nat, k ≤ a.length ∧ i = .int .i64 k ∧ a.take k = b.take k ∧ Below w.heap.size w wr) (fun i _ => a.length - (intOf i).toNat)
    case atStart => exact ⟨0, Nat.zero_le _, rfl, rfl, Below.refl _ _⟩
    case round =>
      obtain ⟨k, hk, rfl, hn, hbw⟩ := hrel
      by_cases hlt : k < a.length
      · obtain ⟨x, hx⟩ : ∃ x, a[k]? = some x := ⟨_, List.getElem?_eq_getElem hlt⟩
        obtain ⟨y, hy⟩ : ∃ y, b[k]? = some y := ⟨_, List.getElem?_eq_getElem (by omega)⟩
        obtain ⟨b1, off1, cs1, rfl, hbl1, _, hl1, hc1, hr1a, hr1b, rfl⟩ := ha.at_ hx
        obtain ⟨b2, off2, cs2, rfl, hbl2, _, hl2, hc2, hr2a, hr2b, rfl⟩ := hb.at_ hy
        have c0 := (hbw.cell (p := ⟨b1, off1 + k * 2 + 0, none⟩) hbl1).trans (hc1 0 (by omega))
        have c1 := (hbw.cell (p := ⟨b1, off1 + k * 2 + 1, none⟩) hbl1).trans (hc1 1 (by omega))
        have d0 := (hbw.cell (p := ⟨b2, off2 + k * 2 + 0, none⟩) hbl2).trans (hc2 0 (by omega))
        have d1 := (hbw.cell (p := ⟨b2, off2 + k * 2 + 1, none⟩) hbl2).trans (hc2 1 (by omega))
        clear hc1 hc2 hl1 hl2
        simp at c0 c1 d0 d1
        have t2 := hnS x.start x.count y.start y.count
        clear hnS
        by_cases he : x = y
        · have t1 : (!(x.start == y.start && x.count == y.count)) = false := by subst he; simp
          rw [t1] at t2
          have HE := Lib.hid he
          clear he t1
          go_wp2
          go_quiet (fail)
          go_wp2
          go_roundw
          case rel => exact ⟨k + 1, by omega, by go_num, same_next hn hx hy HE.out, pw_below_drewN hbw _⟩
          case measure => simp [intOf]; omega
        · have t1 : (!(x.start == y.start && x.count == y.count)) = true := by
            by_cases h1 : x.start = y.start
            · by_cases h2 : x.count = y.count
              · exact absurd (by cases x; cases y; simp_all) he
              · simp [h2]
            · simp [h1]
          rw [t1] at t2
          clear t1
          go_wp2
          go_quiet (fail)
          go_wp2
          go_ret
          exact ⟨ret_bool (decide_eq_false (same_not hx hy he)).symm, pw_below_drewN hbw _⟩
      · go_wp2
        go_ret
        obtain rfl : k = a.length := by omega
        rw [List.take_length, hl, List.take_length] at hn
        exact ⟨ret_bool (decide_eq_true hn).symm, hbw⟩
  · have t1 : ((a.length : Int) == (b.length : Int)) = false := by simp; omega
    go_enter Try.func29, Try.ntmps29
    go_wp2
    go_ret
    exact ⟨ret_bool (decide_eq_false (fun e => hl (by rw [e]))).symm, Below.refl _ _⟩
set_option maxHeartbeats 2000000 in
theorem sectorsR_any (v : Value) (l : List Wr) (w : World) (S : Nat → Prop) (h : RWrs w S v l) (hsz : secN l ≤ 1000000000000) :
    Calls Try.prog 31 #[v] w fun e w' => e = .returned (.int .i64 (secN l : Nat)) ∧ Below w.heap.size w w' := by
  obtain ⟨A, cap, rfl, hcap, hm⟩ := h.val
  unfold maxLen at hm
  go_enter Try.func31, Try.ntmps31
  go_wp2
  go_loopw [3, 4] (fun n i wr => ∃ k : Nat, k ≤ l.length ∧ i = .int .i64 k ∧ n = .int .i64 (secN (l.take k) : Nat) ∧ Below w.heap.size w wr) (fun _ i _ => l.length - (intOf i).toNat)
  case atStart => exact ⟨0, Nat.zero_le _, rfl, rfl, Below.refl _ _⟩
  case round =>
    obtain ⟨k, hk, rfl, rfl, hb⟩ := hrel
    by_cases hlt : k < l.length
    · obtain ⟨x, hx⟩ : ∃ x, l[k]? = some x := ⟨_, List.getElem?_eq_getElem hlt⟩
      obtain ⟨b, off, cs, rfl, hbl, _, hl, hc, hr⟩ := h.at_ hx
      obtain ⟨_, _, dv, rfl, hd⟩ := hr
      obtain ⟨Ad, dcap, rfl, hdc, hdm⟩ := hd.val
      unfold maxLen at hdm
      have c2 := (hb.cell (p := ⟨b, off + k * 3 + 2, none⟩) hbl).trans (hc 2 (by omega))
      clear hc hl
      simp at c2
      have hs := secN_take hx
      have hs1 := secN_le (l := l) (k + 1)
      have HS := Lib.hid hs
      have hs2 : secN (l.take k) + x.data.length ≤ 1000000000000 := by omega
      clear hs
      go_wp2
      go_roundw
      case rel => exact ⟨k + 1, by omega, by go_num, by rw [HS.out]; simp, hb⟩
      case measure => simp [intOf]; omega
    · go_wp2
      go_ret
      obtain rfl : k = l.length := by omega
      exact ⟨ret_int (by rw [List.take_length]), hb⟩
end Go.Proofs.Ytoifinmcoldidaa
