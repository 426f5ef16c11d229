import Derived.Test.YtoifinmcoldidaaE3
import Derived.RangeFuncNested
import Derived.RangeFuncBound
import Derived.RangeFuncCalls
import Derived.RangeFuncLeaves
import Derived.Shelf.Abstract
import Derived.Shelf.RegionOpen
import Derived.WalkKit
import Derived.OwnWalkIn
import Derived.TacticsInMore
import Derived.LoopNIn
import Derived.LoopIn
set_option maxRecDepth 100000
set_option linter.unusedVariables false
set_option linter.unusedSimpArgs false
namespace Go.Proofs.Ytoifinmcoldidaa
open Go.RowKit Go.Mm Sb
attribute [local go_sem] Oper.semAt_some

/-! ### the sweep's contract -/
theorem AbidesX.below {B0 : Nat} {J : List Ext → World → Prop} (h : AbidesX B0 J) {pre : List Ext} {A B : World} (hs : J pre A) (hb : Below A.heap.size A B) : J pre B := h pre A B none hs (grown_below hb none) (by simp)
section
variable {keep : Bool → Bool → Bool} {x : Sb.End} {rest : List Sb.End} {d0 d1 e0 e1 st : Int} {out : List Ext}
theorem sw_same {ins : Bool} (h0 : (if x.list = 0 then d0 + x.step else d0) = e0) (h1 : (if x.list = 1 then d1 + x.step else d1) = e1) (hs : sameNext rest x.at_ = true) : out ++ sweepL keep (x :: rest) d0 d1 st ins = out ++ sweepL keep rest e0 e1 st ins := by
  subst h0 h1; rw [sweepL]; simp only [hs, if_true]
theorem sw_open (h0 : (if x.list = 0 then d0 + x.step else d0) = e0) (h1 : (if x.list = 1 then d1 + x.step else d1) = e1) (hs : sameNext rest x.at_ = false) (hn : keep (decide (0 < e0)) (decide (0 < e1)) = true) : out ++ sweepL keep (x :: rest) d0 d1 st false = out ++ sweepL keep rest e0 e1 x.at_ true := by
  rw [sweepL]; simp only [h0, h1, hs, hn]; simp
theorem sw_on (h0 : (if x.list = 0 then d0 + x.step else d0) = e0) (h1 : (if x.list = 1 then d1 + x.step else d1) = e1) (hs : sameNext rest x.at_ = false) (hn : keep (decide (0 < e0)) (decide (0 < e1)) = true) : out ++ sweepL keep (x :: rest) d0 d1 st true = out ++ sweepL keep rest e0 e1 st true := by
  rw [sweepL]; simp only [h0, h1, hs, hn]; simp
theorem sw_off (h0 : (if x.list = 0 then d0 + x.step else d0) = e0) (h1 : (if x.list = 1 then d1 + x.step else d1) = e1) (hs : sameNext rest x.at_ = false) (hn : keep (decide (0 < e0)) (decide (0 < e1)) = false) : out ++ sweepL keep (x :: rest) d0 d1 st false = out ++ sweepL keep rest e0 e1 st false := by
  rw [sweepL]; simp only [h0, h1, hs, hn]; simp
theorem sw_close (h0 : (if x.list = 0 then d0 + x.step else d0) = e0) (h1 : (if x.list = 1 then d1 + x.step else d1) = e1) (hs : sameNext rest x.at_ = false) (hn : keep (decide (0 < e0)) (decide (0 < e1)) = false) : out ++ sweepL keep (x :: rest) d0 d1 st true = (out ++ [⟨st, x.at_ - st⟩]) ++ sweepL keep rest e0 e1 st false := by
  rw [sweepL]; simp only [h0, h1, hs, hn]; simp
end
theorem endsOf_step {i : Int} {l : List Ext} : ∀ x ∈ endsOf i l, x.step = 1 ∨ x.step = -1 := by
  induction l with
  | nil => intro x hx; simp [endsOf] at hx
  | cons e t ih =>
    intro x hx
    simp only [endsOf] at hx
    split at hx
    · rcases List.mem_cons.1 hx with rfl | hx
      · exact .inl rfl
      · rcases List.mem_cons.1 hx with rfl | hx
        · exact .inr rfl
        · exact ih x hx
    · exact ih x hx
set_option maxHeartbeats 8000000 in
theorem sweepU_seq (n n₀ pa pb pk : Nat) (h1 : 1 ≤ n) (va vb : Value) (a b : List Ext) (w0 : World) (hn0 : n₀ ≤ w0.heap.size) (hpa : pa < n₀) (hpb : pb < n₀) (hpk : pk < n₀)
    (ca : w0.cell? ⟨pa, 0, none⟩ = some va) (cb : w0.cell? ⟨pb, 0, none⟩ = some vb) (ck : w0.cell? ⟨pk, 0, none⟩ = some (.func (.func 80) #[] #[])) (ha : RExts w0 (fun x => x < n₀) va a) (hb : RExts w0 (fun x => x < n₀) vb b) (hna : a.length ≤ 1000000) (hnb : b.length ≤ 1000000) :
    SeqX n 78 #[.pointer (some ⟨pa, 0, none⟩), .pointer (some ⟨pb, 0, none⟩), .pointer (some ⟨pk, 0, none⟩)] n₀ 10000000 (runsE (fun s => keepU (memC a s) (memC b s)) 4096) w0 := by
  intro l J W hW hJ hY h0
  have ca' := (hW.cell (p := ⟨pa, 0, none⟩) (by show pa < _; omega)).trans ca
  have cb' := (hW.cell (p := ⟨pb, 0, none⟩) (by show pb < _; omega)).trans cb
  have ck' := (hW.cell (p := ⟨pk, 0, none⟩) (by show pk < _; omega)).trans ck
  have ha' := ha.below hW
  have hb' := hb.below hW
  have hWs := hW.size
  obtain ⟨Aa, cpa, rfl, _, _⟩ := ha.val
  obtain ⟨Ab, cpb, rfl, _, _⟩ := hb.val
  have hbl := Blk.new W 42 #[.slice Aa a.length cpa, .slice Ab b.length cpb]
  have hbB := (Below.refl W.heap.size W).alloc (Nat.le_refl _) (.cells #[.slice Aa a.length cpa, .slice Ab b.length cpb] 42)
  refine callsIn_of_wp Try.func78 rfl trivial ?_ rfl
  simp only [Try.ntmps78, List.size_toArray, List.length_cons, List.length_nil, Nat.reduceAdd, Nat.reduceSub, Array.replicate_succ, Array.replicate_zero, List.push_toArray, List.append_toArray, List.nil_append, List.cons_append]
  gi_wp2_with (first | (refine ⟨trivial, ?_⟩; gi_at_call 79; refine (callsIn_wide.2 (ends_any (.slice Aa a.length cpa) (.slice Ab b.length cpb) a b W.heap.size 2 _ (by simp) (hbl.cell 0) (hbl.cell 1) _ (ha'.below hbB) (hb'.below hbB) hna hnb)).mono ?_; rintro e w1 ⟨ve, E, rfl, hE, hperm, hpw, hB1⟩; have hE2 := hE; obtain ⟨AE, cE, rfl, hcE, hmE, _⟩ := hE2; unfold maxLen at hmE))
  have hz1 : W.heap.size < w1.heap.size := by have := hB1.size; simp at this; omega
  have hBW : Below W.heap.size W w1 := below_then hbB hbB.size hB1
  have hJ1 : J [] (w1.alloc (.cells #[.int .i64 0, .int .i64 0] 121)) := hJ.below (hJ.below h0 hBW) ((Below.refl _ _).alloc (Nat.le_refl _) _)
  have hD0 := Blk.new w1 121 #[.int .i64 0, .int .i64 0]
  have hE1 : EndsAt (w1.alloc (.cells #[.int .i64 0, .int .i64 0] 121)) (W.alloc (.cells #[.slice Aa a.length cpa, .slice Ab b.length cpb] 42)).heap.size (.slice AE E.length cE) E := hE.below ((Below.refl _ _).alloc (Nat.le_refl _) _)
  have hN0 : Below n₀ W (w1.alloc (.cells #[.int .i64 0, .int .i64 0] 121)) := ((hBW.alloc hBW.size _)).mono (by omega)
  have hsz : E.length ≤ 4000000 := by
    have e1 := hperm.length_eq
    have e2 := endsOf_len 0 a
    have e3 := endsOf_len 1 b
    rw [List.length_append] at e1
    omega
  have hall : ∀ x ∈ E, (x.list = 0 ∨ x.list = 1) ∧ 0 ≤ x.at_ ∧ x.at_ ≤ 4096 ∧ (x.step = 1 ∨ x.step = -1) := fun x hx => by
    rcases List.mem_append.1 (hperm.mem_iff.1 hx) with h | h
    · have := endsOf_list x h; exact ⟨.inl this.1, this.2.1, this.2.2, endsOf_step x h⟩
    · have := endsOf_list x h; exact ⟨.inr this.1, this.2.1, this.2.2, endsOf_step x h⟩
  have htot := sweep_eq (keep := keepU) rfl a b hperm hpw
  obtain ⟨gd, hgd⟩ : ∃ gd, gd = w1.heap.size := ⟨_, rfl⟩
  rw [← hgd] at hD0 ⊢
  have HGD := Lib.hid hgd
  have HALL := Lib.hid hall
  clear hgd hall hperm hpw hE hB1 hbl hbB
  generalize w1.alloc (.cells #[.int .i64 0, .int .i64 0] 121) = w2 at *
  gi_loopw [7, 8, 18] (fun st ins i wr => ∃ (k : Nat) (s : SwSt), k ≤ E.length ∧ i = .int .i64 k ∧ st = .int .i64 s.start ∧ ins = .bool s.inside ∧ Blk wr gd 121 #[.int .i64 s.d0, .int .i64 s.d1] ∧ EndsAt wr (W.alloc (.cells #[.slice Aa a.length cpa, .slice Ab b.length cpb] 42)).heap.size (.slice AE E.length cE) E ∧ Below n₀ W wr ∧ J s.out wr ∧ s.out.length ≤ k ∧ s.out ++ sweepL keepU (E.drop k) s.d0 s.d1 s.start s.inside = sweepL keepU E 0 0 0 false ∧ -(k : Int) ≤ s.d0 ∧ s.d0 ≤ k ∧ -(k : Int) ≤ s.d1 ∧ s.d1 ≤ k ∧ 0 ≤ s.start ∧ s.start ≤ 4096) (fun _ _ i _ => E.length - (intOf i).toNat)
  case atStart => exact ⟨0, ⟨0, 0, 0, false, []⟩, Nat.zero_le _, rfl, rfl, rfl, hD0, hE1, hN0, hJ1, by simp, rfl, by simp, by simp, by simp, by simp, by simp, by simp⟩
  case round =>
    clear hJ1 hD0 hE1 hN0
    obtain ⟨k, ⟨d0, d1, st, ins, out⟩, hk, rfl, rfl, rfl, hD, hE, hN, hJs, hol, htt, hd1, hd2, hd3, hd4, hs1, hs2⟩ := hrel
    dsimp only at *
    by_cases hlt : k < E.length
    · obtain ⟨x, hx⟩ : ∃ x, E[k]? = some x := ⟨_, List.getElem?_eq_getElem hlt⟩
      obtain ⟨hxl, hx0, hx1, hxs⟩ := HALL.out x (List.mem_of_getElem? hx)
      obtain ⟨AE', cE', hve, _, _, hrows⟩ := hE
      injection hve with e1 e2 e3
      subst e1
      subst e3
      clear e2
      obtain ⟨g, cs, rfl, hgb, hgc, hcs⟩ := hrows (by omega)
      have hgB : Blk wr g 123 cs := hgc
      obtain ⟨x0, x1, x2⟩ := hcs k x hx
      have c0 := (hgB.cell (k * 3)).trans x0
      have c1 := (hgB.cell (k * 3 + 1)).trans x1
      have c2 := (hgB.cell (k * 3 + 2)).trans x2
      clear x0 x1 x2
      obtain ⟨q0, q1, q2, q3⟩ := hD.two
      have hdl := hD.lt
      have t1 := decide_eq_true hlt
      obtain ⟨xa, xl, xt⟩ := x
      dsimp only at *
      have hxt : -1 ≤ xt ∧ xt ≤ 1 := by omega
      have HXS := Lib.hid hxs
      have HX := Lib.hid hx
      have hgne : gd ≠ wr.heap.size := by omega
      clear hxs hx
      have hngd : n₀ ≤ gd := by have := HGD.out; omega
      have HXE : RowKit.Hid (E[k] = ⟨xa, xl, xt⟩) := (List.getElem?_eq_some_iff.1 HX.out).2
      rcases hxl with rfl | rfl
      · gi_wp2
        gi_region
        have gs := grown_setCell wr ⟨gd, 0, none⟩ (.int .i64 (d0 + xt))
        have hD3 := ((hD.set_ 0 (.int .i64 (d0 + xt))).alloc (.cells #[.int .i64 xa, .int .i64 0, .int .i64 xt] 123)).drew
        have hX3 := (Blk.new (wr.setCell ⟨gd, 0, none⟩ (.int .i64 (d0 + xt))) 123 #[.int .i64 xa, .int .i64 0, .int .i64 xt]).drew
        rw [show (wr.setCell ⟨gd, 0, none⟩ (.int .i64 (d0 + xt))).heap.size = wr.heap.size by simp] at hX3
        have hG3 := ((Blk.far hgB (p := ⟨gd, 0, none⟩) (hgB.ne_ hD (by decide)) (.int .i64 (d0 + xt))).alloc (.cells #[.int .i64 xa, .int .i64 0, .int .i64 xt] 123)).drew
        have hN3 := ((hN.setCell (p := ⟨gd, 0, none⟩) hngd (.int .i64 (d0 + xt))).alloc (by simp; have := hN.size; omega) (.cells #[.int .i64 xa, .int .i64 0, .int .i64 xt] 123)).drew
        have hJ3 := hJ.below (hJ.below (hJ _ _ _ _ hJs gs (fun r e => by injection e with e; subst e; exact ⟨by show W.heap.size ≤ gd; have := HGD.out; omega, _, hD, rfl, fun _ _ _ e => by injection e with _ e _; subst e; decide⟩)) ((Below.refl _ _).alloc (Nat.le_refl _) (.cells #[.int .i64 xa, .int .i64 0, .int .i64 xt] 123))) ((Below.refl _ _).drew)
        simp at hD3
        generalize ((wr.setCell ⟨gd, 0, none⟩ (.int .i64 (d0 + xt))).alloc (.cells #[.int .i64 xa, .int .i64 0, .int .i64 xt] 123)).drew = w3 at *
        obtain ⟨r0, r1, r2, r3⟩ := hD3.two
        obtain ⟨s0, s1', s2, s3, s4, s5⟩ := hX3.three
        have pk3 := (hN3.cell (p := ⟨pk, 0, none⟩) hpk).trans ck'
        have htt2 := htt
        rw [List.drop_eq_getElem_cons hlt, HXE.out] at htt2
        have f0 : (if (⟨xa, 0, xt⟩ : Sb.End).list = 0 then d0 + xt else d0) = (d0 + xt) := by simp
        have f1 : (if (⟨xa, 0, xt⟩ : Sb.End).list = 1 then d1 + xt else d1) = d1 := by simp
        have hE3 : EndsAt w3 (W.alloc (.cells #[.slice Aa a.length cpa, .slice Ab b.length cpb] 42)).heap.size (.slice (some ⟨g, 0, none⟩) E.length cE) E := ⟨_, cE, rfl, hcE, by unfold maxLen; exact hmE, fun _ => ⟨g, cs, rfl, hgb, hG3, hcs⟩⟩
        have HF := Lib.hid (And.intro f0 f1)
        have HT := Lib.hid htt2
        clear htt2 f0 f1
        by_cases hk1 : k + 1 < E.length
        · obtain ⟨y, hy⟩ : ∃ y, E[k + 1]? = some y := ⟨_, List.getElem?_eq_getElem hk1⟩
          have y0 := (hG3.cell ((k + 1) * 3)).trans (hcs (k + 1) y hy).1
          have HYE := Lib.hid hy
          clear hy
          have i2 : (k : Int) + 1 < E.length := by omega
          have i3 : ((k : Int) + 1).toNat = k + 1 := by omega
          have i4 : (0 : Int) ≤ (k : Int) + 1 := by omega
          have tk := decide_eq_true i2
          by_cases hya : y.at_ = xa
          · have t2 : (y.at_ == xa) = true := by simpa using hya
            gi_wp2
            gi_quiet (fail)
            gi_wp2
            have hs : sameNext (E.drop (k + 1)) xa = true := by
              rw [List.drop_eq_getElem_cons hk1, (List.getElem?_eq_some_iff.1 HYE.out).2]; simp [sameNext, hya]
            go_roundw
            case rel => exact ⟨k + 1, ⟨(d0 + xt), d1, st, ins, out⟩, by omega, by go_num, rfl, rfl, hD3.drewN _, hE3.below (pw_below_drewN (Below.refl _ _) _), pw_below_drewN hN3 _, hJ.below hJ3 (pw_below_drewN (Below.refl _ _) _), by dsimp only; omega, (sw_same (x := ⟨xa, 0, xt⟩) (e0 := (d0 + xt)) (e1 := d1) (by simp) (by simp) hs).symm.trans HT.out, by dsimp only; omega, by dsimp only; omega, by dsimp only; omega, by dsimp only; omega, hs1, hs2⟩
            case measure => simp [intOf]; omega
          · have t2 : (y.at_ == xa) = false := by simpa using hya
            have hs : sameNext (E.drop (k + 1)) xa = false := by
              rw [List.drop_eq_getElem_cons hk1, (List.getElem?_eq_some_iff.1 HYE.out).2]; simp [sameNext, hya]
            gi_wp2
            gi_quiet (fail)
            have hD4 := hD3.drewN nq
            have hE4 := hE3.below (pw_below_drewN (Below.refl _ _) nq)
            have hN4 := pw_below_drewN hN3 nq
            have hJ4 := hJ.below hJ3 (pw_below_drewN (Below.refl _ _) nq)
            have hX4 := hX3.drewN nq
            have pk4 := (hN4.cell (p := ⟨pk, 0, none⟩) hpk).trans ck'
            clear hD3 hE3 hN3 hJ3 hX3 hG3 pk3 r0 r1 r2 r3 s0 s1' s2 s3 s4 s5
            generalize w3.drewN nq = w4 at *
            obtain ⟨r0, r1, r2, r3⟩ := hD4.two
            obtain ⟨s0, s1', s2, s3, s4, s5⟩ := hX4.three
            cases hnow : keepU (decide (0 < (d0 + xt))) (decide (0 < d1)) with
            | true =>
              cases ins with
              | false =>
                gi_wp2_with (first | (refine ⟨trivial, ?_⟩; gi_at_call 80; refine (callsIn_wide.2 (keepU_any _ _ _)).mono ?_; rintro e w9 ⟨rfl, rfl⟩; rw [hnow]))
                refine ⟨fun _ h => (by cases h), ?_⟩
                gi_wp2
                go_roundw
                case rel => exact ⟨k + 1, ⟨(d0 + xt), d1, xa, true, out⟩, by omega, by go_num, rfl, rfl, hD4, hE4, hN4, hJ4, by first | (dsimp only; omega) | (simp; omega), (sw_open (x := ⟨xa, 0, xt⟩) (e0 := (d0 + xt)) (e1 := d1) (by simp) (by simp) hs hnow).symm.trans HT.out, by dsimp only; omega, by dsimp only; omega, by dsimp only; omega, by dsimp only; omega, by dsimp only; omega, by dsimp only; omega⟩
                case measure => simp [intOf]; omega
              | true =>
                gi_wp2_with (first | (refine ⟨trivial, ?_⟩; gi_at_call 80; refine (callsIn_wide.2 (keepU_any _ _ _)).mono ?_; rintro e w9 ⟨rfl, rfl⟩; rw [hnow]))
                refine ⟨fun _ h => (by cases h), ?_⟩
                gi_wp2
                go_roundw
                case rel => exact ⟨k + 1, ⟨(d0 + xt), d1, st, true, out⟩, by omega, by go_num, rfl, rfl, hD4, hE4, hN4, hJ4, by first | (dsimp only; omega) | (simp; omega), (sw_on (x := ⟨xa, 0, xt⟩) (e0 := (d0 + xt)) (e1 := d1) (by simp) (by simp) hs hnow).symm.trans HT.out, by dsimp only; omega, by dsimp only; omega, by dsimp only; omega, by dsimp only; omega, by dsimp only; omega, by dsimp only; omega⟩
                case measure => simp [intOf]; omega
            | false =>
              cases ins with
              | false =>
                gi_wp2_with (first | (refine ⟨trivial, ?_⟩; gi_at_call 80; refine (callsIn_wide.2 (keepU_any _ _ _)).mono ?_; rintro e w9 ⟨rfl, rfl⟩; rw [hnow]))
                refine ⟨fun _ h => (by cases h), ?_⟩
                gi_wp2
                go_roundw
                case rel => exact ⟨k + 1, ⟨(d0 + xt), d1, st, false, out⟩, by omega, by go_num, rfl, rfl, hD4, hE4, hN4, hJ4, by first | (dsimp only; omega) | (simp; omega), (sw_off (x := ⟨xa, 0, xt⟩) (e0 := (d0 + xt)) (e1 := d1) (by simp) (by simp) hs hnow).symm.trans HT.out, by dsimp only; omega, by dsimp only; omega, by dsimp only; omega, by dsimp only; omega, by dsimp only; omega, by dsimp only; omega⟩
                case measure => simp [intOf]; omega
              | true =>
                obtain ⟨fn, tmps, assign, body, hy, hR⟩ := hY out ⟨st, xa - st⟩ w4 hJ4 (by omega)
                unfold encXs at hy
                dsimp only at hy
                gi_wp2_with (first | (refine ⟨trivial, ?_⟩; gi_at_call 80; refine (callsIn_wide.2 (keepU_any _ _ _)).mono ?_; rintro e w9 ⟨rfl, rfl⟩; rw [hnow]))
                refine hR.mono ?_
                rintro e w5 ⟨rfl, hJ5, hk5⟩
                have hD5 := hk5.blk hD4 (by decide) (by decide)
                have hE5 := hE4.kept hk5
                have hN5 := hN4.trans hk5.1
                gi_wp2
                go_roundw
                case rel => exact ⟨k + 1, ⟨(d0 + xt), d1, st, false, out ++ [⟨st, xa - st⟩]⟩, by omega, by go_num, rfl, rfl, hD5, hE5, hN5, hJ5, by first | (dsimp only; omega) | (simp; omega), (sw_close (x := ⟨xa, 0, xt⟩) (e0 := (d0 + xt)) (e1 := d1) (by simp) (by simp) hs hnow).symm.trans HT.out, by dsimp only; omega, by dsimp only; omega, by dsimp only; omega, by dsimp only; omega, by dsimp only; omega, by dsimp only; omega⟩
                case measure => simp [intOf]; omega
        · have hs : sameNext (E.drop (k + 1)) xa = false := by
            rw [List.drop_eq_nil_of_le (by omega)]; rfl
          have tk := decide_eq_false (show ¬ (k : Int) + 1 < E.length by omega)
          gi_wp2
          gi_quiet (fail)
          have hD4 := hD3.drewN nq
          have hE4 := hE3.below (pw_below_drewN (Below.refl _ _) nq)
          have hN4 := pw_below_drewN hN3 nq
          have hJ4 := hJ.below hJ3 (pw_below_drewN (Below.refl _ _) nq)
          have hX4 := hX3.drewN nq
          have pk4 := (hN4.cell (p := ⟨pk, 0, none⟩) hpk).trans ck'
          clear hD3 hE3 hN3 hJ3 hX3 hG3 pk3 r0 r1 r2 r3 s0 s1' s2 s3 s4 s5
          generalize w3.drewN nq = w4 at *
          obtain ⟨r0, r1, r2, r3⟩ := hD4.two
          obtain ⟨s0, s1', s2, s3, s4, s5⟩ := hX4.three
          cases hnow : keepU (decide (0 < (d0 + xt))) (decide (0 < d1)) with
          | true =>
            cases ins with
            | false =>
              gi_wp2_with (first | (refine ⟨trivial, ?_⟩; gi_at_call 80; refine (callsIn_wide.2 (keepU_any _ _ _)).mono ?_; rintro e w9 ⟨rfl, rfl⟩; rw [hnow]))
              refine ⟨fun _ h => (by cases h), ?_⟩
              gi_wp2
              go_roundw
              case rel => exact ⟨k + 1, ⟨(d0 + xt), d1, xa, true, out⟩, by omega, by go_num, rfl, rfl, hD4, hE4, hN4, hJ4, by first | (dsimp only; omega) | (simp; omega), (sw_open (x := ⟨xa, 0, xt⟩) (e0 := (d0 + xt)) (e1 := d1) (by simp) (by simp) hs hnow).symm.trans HT.out, by dsimp only; omega, by dsimp only; omega, by dsimp only; omega, by dsimp only; omega, by dsimp only; omega, by dsimp only; omega⟩
              case measure => simp [intOf]; omega
            | true =>
              gi_wp2_with (first | (refine ⟨trivial, ?_⟩; gi_at_call 80; refine (callsIn_wide.2 (keepU_any _ _ _)).mono ?_; rintro e w9 ⟨rfl, rfl⟩; rw [hnow]))
              refine ⟨fun _ h => (by cases h), ?_⟩
              gi_wp2
              go_roundw
              case rel => exact ⟨k + 1, ⟨(d0 + xt), d1, st, true, out⟩, by omega, by go_num, rfl, rfl, hD4, hE4, hN4, hJ4, by first | (dsimp only; omega) | (simp; omega), (sw_on (x := ⟨xa, 0, xt⟩) (e0 := (d0 + xt)) (e1 := d1) (by simp) (by simp) hs hnow).symm.trans HT.out, by dsimp only; omega, by dsimp only; omega, by dsimp only; omega, by dsimp only; omega, by dsimp only; omega, by dsimp only; omega⟩
              case measure => simp [intOf]; omega
          | false =>
            cases ins with
            | false =>
              gi_wp2_with (first | (refine ⟨trivial, ?_⟩; gi_at_call 80; refine (callsIn_wide.2 (keepU_any _ _ _)).mono ?_; rintro e w9 ⟨rfl, rfl⟩; rw [hnow]))
              refine ⟨fun _ h => (by cases h), ?_⟩
              gi_wp2
              go_roundw
              case rel => exact ⟨k + 1, ⟨(d0 + xt), d1, st, false, out⟩, by omega, by go_num, rfl, rfl, hD4, hE4, hN4, hJ4, by first | (dsimp only; omega) | (simp; omega), (sw_off (x := ⟨xa, 0, xt⟩) (e0 := (d0 + xt)) (e1 := d1) (by simp) (by simp) hs hnow).symm.trans HT.out, by dsimp only; omega, by dsimp only; omega, by dsimp only; omega, by dsimp only; omega, by dsimp only; omega, by dsimp only; omega⟩
              case measure => simp [intOf]; omega
            | true =>
              obtain ⟨fn, tmps, assign, body, hy, hR⟩ := hY out ⟨st, xa - st⟩ w4 hJ4 (by omega)
              unfold encXs at hy
              dsimp only at hy
              gi_wp2_with (first | (refine ⟨trivial, ?_⟩; gi_at_call 80; refine (callsIn_wide.2 (keepU_any _ _ _)).mono ?_; rintro e w9 ⟨rfl, rfl⟩; rw [hnow]))
              refine hR.mono ?_
              rintro e w5 ⟨rfl, hJ5, hk5⟩
              have hD5 := hk5.blk hD4 (by decide) (by decide)
              have hE5 := hE4.kept hk5
              have hN5 := hN4.trans hk5.1
              gi_wp2
              go_roundw
              case rel => exact ⟨k + 1, ⟨(d0 + xt), d1, st, false, out ++ [⟨st, xa - st⟩]⟩, by omega, by go_num, rfl, rfl, hD5, hE5, hN5, hJ5, by first | (dsimp only; omega) | (simp; omega), (sw_close (x := ⟨xa, 0, xt⟩) (e0 := (d0 + xt)) (e1 := d1) (by simp) (by simp) hs hnow).symm.trans HT.out, by dsimp only; omega, by dsimp only; omega, by dsimp only; omega, by dsimp only; omega, by dsimp only; omega, by dsimp only; omega⟩
              case measure => simp [intOf]; omega
      · gi_wp2
        gi_region
        have gs := grown_setCell wr ⟨gd, 1, none⟩ (.int .i64 (d1 + xt))
        have hD3 := ((hD.set_ 1 (.int .i64 (d1 + xt))).alloc (.cells #[.int .i64 xa, .int .i64 1, .int .i64 xt] 123)).drew
        have hX3 := (Blk.new (wr.setCell ⟨gd, 1, none⟩ (.int .i64 (d1 + xt))) 123 #[.int .i64 xa, .int .i64 1, .int .i64 xt]).drew
        rw [show (wr.setCell ⟨gd, 1, none⟩ (.int .i64 (d1 + xt))).heap.size = wr.heap.size by simp] at hX3
        have hG3 := ((Blk.far hgB (p := ⟨gd, 1, none⟩) (hgB.ne_ hD (by decide)) (.int .i64 (d1 + xt))).alloc (.cells #[.int .i64 xa, .int .i64 1, .int .i64 xt] 123)).drew
        have hN3 := ((hN.setCell (p := ⟨gd, 1, none⟩) hngd (.int .i64 (d1 + xt))).alloc (by simp; have := hN.size; omega) (.cells #[.int .i64 xa, .int .i64 1, .int .i64 xt] 123)).drew
        have hJ3 := hJ.below (hJ.below (hJ _ _ _ _ hJs gs (fun r e => by injection e with e; subst e; exact ⟨by show W.heap.size ≤ gd; have := HGD.out; omega, _, hD, rfl, fun _ _ _ e => by injection e with _ e _; subst e; decide⟩)) ((Below.refl _ _).alloc (Nat.le_refl _) (.cells #[.int .i64 xa, .int .i64 1, .int .i64 xt] 123))) ((Below.refl _ _).drew)
        simp at hD3
        generalize ((wr.setCell ⟨gd, 1, none⟩ (.int .i64 (d1 + xt))).alloc (.cells #[.int .i64 xa, .int .i64 1, .int .i64 xt] 123)).drew = w3 at *
        obtain ⟨r0, r1, r2, r3⟩ := hD3.two
        obtain ⟨s0, s1', s2, s3, s4, s5⟩ := hX3.three
        have pk3 := (hN3.cell (p := ⟨pk, 0, none⟩) hpk).trans ck'
        have htt2 := htt
        rw [List.drop_eq_getElem_cons hlt, HXE.out] at htt2
        have f0 : (if (⟨xa, 1, xt⟩ : Sb.End).list = 0 then d0 + xt else d0) = d0 := by simp
        have f1 : (if (⟨xa, 1, xt⟩ : Sb.End).list = 1 then d1 + xt else d1) = (d1 + xt) := by simp
        have hE3 : EndsAt w3 (W.alloc (.cells #[.slice Aa a.length cpa, .slice Ab b.length cpb] 42)).heap.size (.slice (some ⟨g, 0, none⟩) E.length cE) E := ⟨_, cE, rfl, hcE, by unfold maxLen; exact hmE, fun _ => ⟨g, cs, rfl, hgb, hG3, hcs⟩⟩
        have HF := Lib.hid (And.intro f0 f1)
        have HT := Lib.hid htt2
        clear htt2 f0 f1
        by_cases hk1 : k + 1 < E.length
        · obtain ⟨y, hy⟩ : ∃ y, E[k + 1]? = some y := ⟨_, List.getElem?_eq_getElem hk1⟩
          have y0 := (hG3.cell ((k + 1) * 3)).trans (hcs (k + 1) y hy).1
          have HYE := Lib.hid hy
          clear hy
          have i2 : (k : Int) + 1 < E.length := by omega
          have i3 : ((k : Int) + 1).toNat = k + 1 := by omega
          have i4 : (0 : Int) ≤ (k : Int) + 1 := by omega
          have tk := decide_eq_true i2
          by_cases hya : y.at_ = xa
          · have t2 : (y.at_ == xa) = true := by simpa using hya
            gi_wp2
            gi_quiet (fail)
            gi_wp2
            have hs : sameNext (E.drop (k + 1)) xa = true := by
              rw [List.drop_eq_getElem_cons hk1, (List.getElem?_eq_some_iff.1 HYE.out).2]; simp [sameNext, hya]
            go_roundw
            case rel => exact ⟨k + 1, ⟨d0, (d1 + xt), st, ins, out⟩, by omega, by go_num, rfl, rfl, hD3.drewN _, hE3.below (pw_below_drewN (Below.refl _ _) _), pw_below_drewN hN3 _, hJ.below hJ3 (pw_below_drewN (Below.refl _ _) _), by dsimp only; omega, (sw_same (x := ⟨xa, 1, xt⟩) (e0 := d0) (e1 := (d1 + xt)) (by simp) (by simp) hs).symm.trans HT.out, by dsimp only; omega, by dsimp only; omega, by dsimp only; omega, by dsimp only; omega, hs1, hs2⟩
            case measure => simp [intOf]; omega
          · have t2 : (y.at_ == xa) = false := by simpa using hya
            have hs : sameNext (E.drop (k + 1)) xa = false := by
              rw [List.drop_eq_getElem_cons hk1, (List.getElem?_eq_some_iff.1 HYE.out).2]; simp [sameNext, hya]
            gi_wp2
            gi_quiet (fail)
            have hD4 := hD3.drewN nq
            have hE4 := hE3.below (pw_below_drewN (Below.refl _ _) nq)
            have hN4 := pw_below_drewN hN3 nq
            have hJ4 := hJ.below hJ3 (pw_below_drewN (Below.refl _ _) nq)
            have hX4 := hX3.drewN nq
            have pk4 := (hN4.cell (p := ⟨pk, 0, none⟩) hpk).trans ck'
            clear hD3 hE3 hN3 hJ3 hX3 hG3 pk3 r0 r1 r2 r3 s0 s1' s2 s3 s4 s5
            generalize w3.drewN nq = w4 at *
            obtain ⟨r0, r1, r2, r3⟩ := hD4.two
            obtain ⟨s0, s1', s2, s3, s4, s5⟩ := hX4.three
            cases hnow : keepU (decide (0 < d0)) (decide (0 < (d1 + xt))) with
            | true =>
              cases ins with
              | false =>
                gi_wp2_with (first | (refine ⟨trivial, ?_⟩; gi_at_call 80; refine (callsIn_wide.2 (keepU_any _ _ _)).mono ?_; rintro e w9 ⟨rfl, rfl⟩; rw [hnow]))
                refine ⟨fun _ h => (by cases h), ?_⟩
                gi_wp2
                go_roundw
                case rel => exact ⟨k + 1, ⟨d0, (d1 + xt), xa, true, out⟩, by omega, by go_num, rfl, rfl, hD4, hE4, hN4, hJ4, by first | (dsimp only; omega) | (simp; omega), (sw_open (x := ⟨xa, 1, xt⟩) (e0 := d0) (e1 := (d1 + xt)) (by simp) (by simp) hs hnow).symm.trans HT.out, by dsimp only; omega, by dsimp only; omega, by dsimp only; omega, by dsimp only; omega, by dsimp only; omega, by dsimp only; omega⟩
                case measure => simp [intOf]; omega
              | true =>
                gi_wp2_with (first | (refine ⟨trivial, ?_⟩; gi_at_call 80; refine (callsIn_wide.2 (keepU_any _ _ _)).mono ?_; rintro e w9 ⟨rfl, rfl⟩; rw [hnow]))
                refine ⟨fun _ h => (by cases h), ?_⟩
                gi_wp2
                go_roundw
                case rel => exact ⟨k + 1, ⟨d0, (d1 + xt), st, true, out⟩, by omega, by go_num, rfl, rfl, hD4, hE4, hN4, hJ4, by first | (dsimp only; omega) | (simp; omega), (sw_on (x := ⟨xa, 1, xt⟩) (e0 := d0) (e1 := (d1 + xt)) (by simp) (by simp) hs hnow).symm.trans HT.out, by dsimp only; omega, by dsimp only; omega, by dsimp only; omega, by dsimp only; omega, by dsimp only; omega, by dsimp only; omega⟩
                case measure => simp [intOf]; omega
            | false =>
              cases ins with
              | false =>
                gi_wp2_with (first | (refine ⟨trivial, ?_⟩; gi_at_call 80; refine (callsIn_wide.2 (keepU_any _ _ _)).mono ?_; rintro e w9 ⟨rfl, rfl⟩; rw [hnow]))
                refine ⟨fun _ h => (by cases h), ?_⟩
                gi_wp2
                go_roundw
                case rel => exact ⟨k + 1, ⟨d0, (d1 + xt), st, false, out⟩, by omega, by go_num, rfl, rfl, hD4, hE4, hN4, hJ4, by first | (dsimp only; omega) | (simp; omega), (sw_off (x := ⟨xa, 1, xt⟩) (e0 := d0) (e1 := (d1 + xt)) (by simp) (by simp) hs hnow).symm.trans HT.out, by dsimp only; omega, by dsimp only; omega, by dsimp only; omega, by dsimp only; omega, by dsimp only; omega, by dsimp only; omega⟩
                case measure => simp [intOf]; omega
              | true =>
                obtain ⟨fn, tmps, assign, body, hy, hR⟩ := hY out ⟨st, xa - st⟩ w4 hJ4 (by omega)
                unfold encXs at hy
                dsimp only at hy
                gi_wp2_with (first | (refine ⟨trivial, ?_⟩; gi_at_call 80; refine (callsIn_wide.2 (keepU_any _ _ _)).mono ?_; rintro e w9 ⟨rfl, rfl⟩; rw [hnow]))
                refine hR.mono ?_
                rintro e w5 ⟨rfl, hJ5, hk5⟩
                have hD5 := hk5.blk hD4 (by decide) (by decide)
                have hE5 := hE4.kept hk5
                have hN5 := hN4.trans hk5.1
                gi_wp2
                go_roundw
                case rel => exact ⟨k + 1, ⟨d0, (d1 + xt), st, false, out ++ [⟨st, xa - st⟩]⟩, by omega, by go_num, rfl, rfl, hD5, hE5, hN5, hJ5, by first | (dsimp only; omega) | (simp; omega), (sw_close (x := ⟨xa, 1, xt⟩) (e0 := d0) (e1 := (d1 + xt)) (by simp) (by simp) hs hnow).symm.trans HT.out, by dsimp only; omega, by dsimp only; omega, by dsimp only; omega, by dsimp only; omega, by dsimp only; omega, by dsimp only; omega⟩
                case measure => simp [intOf]; omega
        · have hs : sameNext (E.drop (k + 1)) xa = false := by
            rw [List.drop_eq_nil_of_le (by omega)]; rfl
          have tk := decide_eq_false (show ¬ (k : Int) + 1 < E.length by omega)
          gi_wp2
          gi_quiet (fail)
          have hD4 := hD3.drewN nq
          have hE4 := hE3.below (pw_below_drewN (Below.refl _ _) nq)
          have hN4 := pw_below_drewN hN3 nq
          have hJ4 := hJ.below hJ3 (pw_below_drewN (Below.refl _ _) nq)
          have hX4 := hX3.drewN nq
          have pk4 := (hN4.cell (p := ⟨pk, 0, none⟩) hpk).trans ck'
          clear hD3 hE3 hN3 hJ3 hX3 hG3 pk3 r0 r1 r2 r3 s0 s1' s2 s3 s4 s5
          generalize w3.drewN nq = w4 at *
          obtain ⟨r0, r1, r2, r3⟩ := hD4.two
          obtain ⟨s0, s1', s2, s3, s4, s5⟩ := hX4.three
          cases hnow : keepU (decide (0 < d0)) (decide (0 < (d1 + xt))) with
          | true =>
            cases ins with
            | false =>
              gi_wp2_with (first | (refine ⟨trivial, ?_⟩; gi_at_call 80; refine (callsIn_wide.2 (keepU_any _ _ _)).mono ?_; rintro e w9 ⟨rfl, rfl⟩; rw [hnow]))
              refine ⟨fun _ h => (by cases h), ?_⟩
              gi_wp2
              go_roundw
              case rel => exact ⟨k + 1, ⟨d0, (d1 + xt), xa, true, out⟩, by omega, by go_num, rfl, rfl, hD4, hE4, hN4, hJ4, by first | (dsimp only; omega) | (simp; omega), (sw_open (x := ⟨xa, 1, xt⟩) (e0 := d0) (e1 := (d1 + xt)) (by simp) (by simp) hs hnow).symm.trans HT.out, by dsimp only; omega, by dsimp only; omega, by dsimp only; omega, by dsimp only; omega, by dsimp only; omega, by dsimp only; omega⟩
              case measure => simp [intOf]; omega
            | true =>
              gi_wp2_with (first | (refine ⟨trivial, ?_⟩; gi_at_call 80; refine (callsIn_wide.2 (keepU_any _ _ _)).mono ?_; rintro e w9 ⟨rfl, rfl⟩; rw [hnow]))
              refine ⟨fun _ h => (by cases h), ?_⟩
              gi_wp2
              go_roundw
              case rel => exact ⟨k + 1, ⟨d0, (d1 + xt), st, true, out⟩, by omega, by go_num, rfl, rfl, hD4, hE4, hN4, hJ4, by first | (dsimp only; omega) | (simp; omega), (sw_on (x := ⟨xa, 1, xt⟩) (e0 := d0) (e1 := (d1 + xt)) (by simp) (by simp) hs hnow).symm.trans HT.out, by dsimp only; omega, by dsimp only; omega, by dsimp only; omega, by dsimp only; omega, by dsimp only; omega, by dsimp only; omega⟩
              case measure => simp [intOf]; omega
          | false =>
            cases ins with
            | false =>
              gi_wp2_with (first | (refine ⟨trivial, ?_⟩; gi_at_call 80; refine (callsIn_wide.2 (keepU_any _ _ _)).mono ?_; rintro e w9 ⟨rfl, rfl⟩; rw [hnow]))
              refine ⟨fun _ h => (by cases h), ?_⟩
              gi_wp2
              go_roundw
              case rel => exact ⟨k + 1, ⟨d0, (d1 + xt), st, false, out⟩, by omega, by go_num, rfl, rfl, hD4, hE4, hN4, hJ4, by first | (dsimp only; omega) | (simp; omega), (sw_off (x := ⟨xa, 1, xt⟩) (e0 := d0) (e1 := (d1 + xt)) (by simp) (by simp) hs hnow).symm.trans HT.out, by dsimp only; omega, by dsimp only; omega, by dsimp only; omega, by dsimp only; omega, by dsimp only; omega, by dsimp only; omega⟩
              case measure => simp [intOf]; omega
            | true =>
              obtain ⟨fn, tmps, assign, body, hy, hR⟩ := hY out ⟨st, xa - st⟩ w4 hJ4 (by omega)
              unfold encXs at hy
              dsimp only at hy
              gi_wp2_with (first | (refine ⟨trivial, ?_⟩; gi_at_call 80; refine (callsIn_wide.2 (keepU_any _ _ _)).mono ?_; rintro e w9 ⟨rfl, rfl⟩; rw [hnow]))
              refine hR.mono ?_
              rintro e w5 ⟨rfl, hJ5, hk5⟩
              have hD5 := hk5.blk hD4 (by decide) (by decide)
              have hE5 := hE4.kept hk5
              have hN5 := hN4.trans hk5.1
              gi_wp2
              go_roundw
              case rel => exact ⟨k + 1, ⟨d0, (d1 + xt), st, false, out ++ [⟨st, xa - st⟩]⟩, by omega, by go_num, rfl, rfl, hD5, hE5, hN5, hJ5, by first | (dsimp only; omega) | (simp; omega), (sw_close (x := ⟨xa, 1, xt⟩) (e0 := d0) (e1 := (d1 + xt)) (by simp) (by simp) hs hnow).symm.trans HT.out, by dsimp only; omega, by dsimp only; omega, by dsimp only; omega, by dsimp only; omega, by dsimp only; omega, by dsimp only; omega⟩
              case measure => simp [intOf]; omega
    · obtain rfl : k = E.length := by omega
      rw [List.drop_length] at htt
      have he : out = sweepL keepU E 0 0 0 false := by rw [← htt]; simp [sweepL]
      rw [he, htot] at hJs
      gi_wp2
      go_end0
      exact ⟨⟨_, rfl⟩, hJs⟩
end Go.Proofs.Ytoifinmcoldidaa
