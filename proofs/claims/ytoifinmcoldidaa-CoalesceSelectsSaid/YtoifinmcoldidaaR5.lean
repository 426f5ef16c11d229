import Derived.Test.YtoifinmcoldidaaR4
set_option maxRecDepth 100000
set_option linter.unusedVariables false
set_option linter.unusedSimpArgs false
namespace Go.Proofs.Ytoifinmcoldidaa
open Go.RowKit Go.Mm Sb

/-! ### the reference: pick -/

theorem store8 (w1 : World) (y : Sec) : Below w1.heap.size w1 (((((((((w1.alloc (.cells #[.int .u8 0, .int .u8 0, .int .u8 0, .int .u8 0, .int .u8 0, .int .u8 0, .int .u8 0, .int .u8 0] 53)).setCell ⟨w1.heap.size, 0, none⟩ (.int .u8 y.b0)).setCell ⟨w1.heap.size, 1, none⟩ (.int .u8 y.b1)).setCell ⟨w1.heap.size, 2, none⟩ (.int .u8 y.b2)).setCell ⟨w1.heap.size, 3, none⟩ (.int .u8 y.b3)).setCell ⟨w1.heap.size, 4, none⟩ (.int .u8 y.b4)).setCell ⟨w1.heap.size, 5, none⟩ (.int .u8 y.b5)).setCell ⟨w1.heap.size, 6, none⟩ (.int .u8 y.b6)).setCell ⟨w1.heap.size, 7, none⟩ (.int .u8 y.b7)) ∧ (((((((((w1.alloc (.cells #[.int .u8 0, .int .u8 0, .int .u8 0, .int .u8 0, .int .u8 0, .int .u8 0, .int .u8 0, .int .u8 0] 53)).setCell ⟨w1.heap.size, 0, none⟩ (.int .u8 y.b0)).setCell ⟨w1.heap.size, 1, none⟩ (.int .u8 y.b1)).setCell ⟨w1.heap.size, 2, none⟩ (.int .u8 y.b2)).setCell ⟨w1.heap.size, 3, none⟩ (.int .u8 y.b3)).setCell ⟨w1.heap.size, 4, none⟩ (.int .u8 y.b4)).setCell ⟨w1.heap.size, 5, none⟩ (.int .u8 y.b5)).setCell ⟨w1.heap.size, 6, none⟩ (.int .u8 y.b6)).setCell ⟨w1.heap.size, 7, none⟩ (.int .u8 y.b7)).heap.size = w1.heap.size + 1 :=
  ⟨((((((((((Below.refl w1.heap.size w1).alloc (Nat.le_refl _) _).setCell (Nat.le_refl _) _).setCell (Nat.le_refl _) _).setCell (Nat.le_refl _) _).setCell (Nat.le_refl _) _).setCell (Nat.le_refl _) _).setCell (Nat.le_refl _) _).setCell (Nat.le_refl _) _).setCell (Nat.le_refl _) _), by simp⟩
theorem pickW_len (f : Int → Int → Option Sec) (v : Int) (l : List Ext) : (pickW f v l).length = l.length := by simp [pickW]
set_option maxHeartbeats 8000000 in
theorem pick_any (v ve : Value) (l : List Wr) (ex : List Ext) (vol : Int) (w : World) (S S2 : Nat → Prop) (h : RWrs w S v l) (he : RExts w S2 ve ex) (h3 : In64 vol)
    (hbd : ∀ e ∈ ex, 0 ≤ e.start ∧ 0 < e.count ∧ e.start + e.count ≤ 4096) (hel : ex.length ≤ 4096) :
    Calls Try.prog 42 #[v, .int .i64 vol, ve] w fun e w' => ∃ v', e = .returned v' ∧ RWrs w' (fun b => w.heap.size ≤ b) v' (pickW (eff l) vol ex) ∧ Below w.heap.size w w' := by
  obtain ⟨A, cap, rfl, hcap, hm⟩ := h.val
  obtain ⟨Ae, cape, rfl, hcape, hme⟩ := he.val
  unfold maxLen at hm hme
  go_enter Try.func42, Try.ntmps42
  go_wp2
  go_loopw [7, 8] (fun s i wr => ∃ k : Nat, k ≤ ex.length ∧ i = .int .i64 k ∧ OwnSl 35 3 RWr wr w.heap.size (fun b => w.heap.size ≤ b) s (pickW (eff l) vol (ex.take k)) ∧ Below w.heap.size w wr) (fun _ i _ => ex.length - (intOf i).toNat)
  case atStart => exact ⟨0, Nat.zero_le _, rfl, OwnSl.nil _, Below.refl _ _⟩
  case round =>
    obtain ⟨k, hk, rfl, hown, hb⟩ := hrel
    obtain ⟨wo, hwo⟩ : ∃ wo, wo = wr := ⟨_, rfl⟩
    subst hwo
    have hbs := hb.size
    by_cases hlt : k < ex.length
    · have t1 := decide_eq_true hlt
      obtain ⟨x, hx⟩ : ∃ x, ex[k]? = some x := ⟨_, List.getElem?_eq_getElem hlt⟩
      obtain ⟨b, off, cs, rfl, hbl, _, hl, hc, h1, h2, rfl⟩ := he.at_ hx
      obtain ⟨x1, x2, x3⟩ := hbd x (List.mem_of_getElem? hx)
      have hD : ∀ W, Below w.heap.size w W → W.cell? ⟨b, off + k * 2, none⟩ = some (.int .i64 x.start) ∧ W.cell? ⟨b, off + k * 2 + 1, none⟩ = some (.int .i64 x.count) := fun W hW =>
        ⟨(hW.cell hbl).trans (hc 0 (by omega)), (hW.cell hbl).trans (hc 1 (by omega))⟩
      obtain ⟨c0, c1⟩ := hD wo hb
      clear hc hl
      have HX := Lib.hid hx
      have HS : x.start + x.count ≤ 4096 := x3
      have hlw := hown.lt
      have hgl : ∀ (s : Value) (g : Nat), True := fun _ _ => trivial
      clear hx hgl
      obtain ⟨n, hn⟩ := Int.eq_ofNat_of_zero_le (show 0 ≤ x.count by omega)
      go_wp2
      have hbk0 : Blk (wo.alloc (.cells #[.int .i64 vol, .int .i64 x.start, .slice none 0 0] 35)) wo.heap.size 35 #[.int .i64 vol, .int .i64 x.start, .slice none 0 0] := Blk.new _ _ _
      have hown0 := (hown.more (T := fun b => w.heap.size ≤ b ∧ b < wo.heap.size) (fun b hb hh => ⟨hh, hb⟩)).alloc (.cells #[.int .i64 vol, .int .i64 x.start, .slice none 0 0] 35)
      have hb0 := hb.alloc hbs (.cells #[.int .i64 vol, .int .i64 x.start, .slice none 0 0] 35)
      clear hown hb
      go_loopw [10] (fun i wi => ∃ (m : Nat) (dv : Value), m ≤ n ∧ i = .int .i64 m ∧ Blk wi wo.heap.size 35 #[.int .i64 vol, .int .i64 x.start, dv] ∧ OwnSl 53 8 RSec wi wo.heap.size (fun _ => False) dv (pickD (eff l) vol x m) ∧ OwnSl 35 3 RWr wi w.heap.size (fun b => w.heap.size ≤ b ∧ b < wo.heap.size) u7 (pickW (eff l) vol (ex.take k)) ∧ Below w.heap.size w wi ∧ wo.heap.size < wi.heap.size) (fun i _ => n - (intOf i).toNat)
      case atStart => exact ⟨0, _, by omega, rfl, hbk0, OwnSl.nil _, hown0, hb0, by simp⟩
      case round =>
        clear hbk0 hown0 hb0 c0 c1
        obtain ⟨m, dv, hm0, rfl, hbk, hdv, hown, hb, hgs⟩ := hrel
        obtain ⟨c0, c1⟩ := hD _ hb
        rw [hn] at c1
        have hbs2 := hb.size
        have hlen := pickD_len (eff l) vol x m
        obtain ⟨Ad, cd, hdvv, hdl, hdm⟩ := hdv.val
        rw [hlen] at hdvv
        subst hdvv
        have hul := hown.lt
        have hdl := hdv.lt
        by_cases hlt2 : m < n
        · have t2 := decide_eq_true hlt2
          have h64 : In64 (x.start + (m : Nat)) := by unfold In64; omega
          have hll := h.below hb
          go_wp2_with (first | (go_at_call 28; refine (lookupR_any _ l vol (x.start + (m : Nat)) _ S hll h3 h64).mono ?_; rintro e w1 ⟨ok, rfl, hok, hb1⟩; clear hok; generalize hy : (eff l vol (x.start + (m : Nat))).getD Sec.zero = y; have HY := Lib.hid hy; clear hy; unfold secV; have hbs1 := hb1.size; have hbk1 := hbk.below hb1; have hdv1 := hdv.below hb1; have hown1 := hown.below hb1; obtain ⟨q0, q1, q2, q3, q4, q5⟩ := hbk1.three; have q7 : wo.heap.size < w1.heap.size := (by omega); have hbk2 := hbk1.alloc (.cells #[.int .u8 y.b0, .int .u8 y.b1, .int .u8 y.b2, .int .u8 y.b3, .int .u8 y.b4, .int .u8 y.b5, .int .u8 y.b6, .int .u8 y.b7] 53); have hdv2 := hdv1.alloc (.cells #[.int .u8 y.b0, .int .u8 y.b1, .int .u8 y.b2, .int .u8 y.b3, .int .u8 y.b4, .int .u8 y.b5, .int .u8 y.b6, .int .u8 y.b7] 53); have hown2 := hown1.alloc (.cells #[.int .u8 y.b0, .int .u8 y.b1, .int .u8 y.b2, .int .u8 y.b3, .int .u8 y.b4, .int .u8 y.b5, .int .u8 y.b6, .int .u8 y.b7] 53)) | (at_builtin; refine wpList_appendNew rfl _ _ 33 rfl 53 _ 8 8 Try.underlying33 infoS rfl (by omega) RSec wo.heap.size (fun _ => False) _ _ rfl hdv2 #[.int .u8 y.b0, .int .u8 y.b1, .int .u8 y.b2, .int .u8 y.b3, .int .u8 y.b4, .int .u8 y.b5, .int .u8 y.b6, .int .u8 y.b7] y (w1.heap.size + 1) (by simp) rfl rfl (by simp [Value.oneCell']) rfl (by rw [hlen]; omega) (by omega) (by simp; omega) ?_; intro v5 w5 hO5 hg5 hat5; rw [← HY.out, ← pickD_succ] at hO5; obtain ⟨A5, c5, hv5, _, _⟩ := hO5.val; rw [pickD_len] at hv5; subst hv5; obtain ⟨crow, hrow⟩ := hdv2.row; have hbk5 := hbk2.grown hg5 (Ne.symm (own_blk_ne hrow hbk2 (by decide))); obtain ⟨r0, r1, r2, r3, r4, r5⟩ := hbk5.three))
          go_roundw
          case rel =>
            have hdl2 := hdv2.lt
            obtain ⟨crow5, hrow5⟩ := hO5.row
            obtain ⟨crowu, hrowu⟩ := hown2.row
            have g6 := grown_setCell w5 ⟨wo.heap.size, 2, none⟩ (.slice A5 (m + 1) c5)
            have hown5 := hown2.kept hg5 (own_type_ne hrowu hrow (by decide)) (fun b _ hS _ e => by have := (hdl2 b e.symm).1; omega)
            have hown6 := hown5.kept g6 (.inr (fun e => by have := (hlw wo.heap.size e); omega)) (fun b _ hS _ e => by injection e with e; simp only at e; omega)
            have hO6 := hO5.kept g6 (.inr (own_blk_ne hrow5 hbk5 (by decide))) (by simp)
            have hk6 := hbk5.set_ 2 (.slice A5 (m + 1) c5)
            refine ⟨m + 1, _, by omega, by go_num, by simpa using hk6, hO6, hown6, ?_, ?_⟩
            · exact (((below_then hb hbs2 hb1).alloc (by omega) _).grown hg5 (by simp; omega) (fun j e => by have := (hdl2 j e).1; omega)).setCell (by simp; omega) _
            · have := hg5.size; simp at this ⊢; omega
          case measure => simp [intOf]; omega
        · obtain rfl : m = n := by omega
          obtain ⟨q0, q1, q2, q3, q4, q5⟩ := hbk.three
          have hdl3 := hdv.lt
          have hrd := hdv.reads (T := fun b => w.heap.size ≤ b ∧ some b ≠ u7.ownBlock) (fun b _ hh => by
            rcases hh with hh | hh
            · exact hh.elim
            · have h1 := (hdl3 b hh.symm).1
              exact ⟨by omega, fun e => by have := (hlw b e.symm).2; omega⟩)
          have hownW := hown.more (T := fun b => w.heap.size ≤ b) (fun b _ hh => hh.1)
          have hpw := pickW_len (eff l) vol (ex.take k)
          rw [List.length_take, Nat.min_eq_left (by omega)] at hpw
          have h64x : In64 x.start := h1
          go_wp2_with (first | (at_builtin; (refine wpList_appendNew rfl _ _ 22 rfl 35 _ 3 40 Try.underlying22 infoW rfl (by omega) RWr w.heap.size (fun b => w.heap.size ≤ b) u7 _ rfl hownW #[.int .i64 vol, .int .i64 x.start, .slice Ad m cd] ⟨vol, x.start, pickD (eff l) vol x m⟩ wr.heap.size rfl rfl rfl (by simp [Value.oneCell']) ⟨h3, h64x, _, rfl, hrd⟩ (by rw [hpw]; omega) (by omega) (by omega) ?_; intro v5 w5 hO5 hg5 hat5)))
          go_roundw
          case rel =>
            refine ⟨k + 1, by omega, by go_num, ?_, hb.grown hg5 hbs2 (fun j e => (hlw j e).1)⟩
            rw [pickW_snoc _ _ _ HX.out, pick1_eq, show x.count.toNat = m by omega]
            exact hO5
          case measure => simp [intOf]; omega
    · obtain rfl : k = ex.length := by omega
      rw [List.take_length] at hown
      go_wp2
      go_ret
      exact ⟨_, rfl, hown.reads (fun b hb hh => by rcases hh with hh | hh; exact hh; exact (hown.lt b hh.symm).1), hb⟩
end Go.Proofs.Ytoifinmcoldidaa
