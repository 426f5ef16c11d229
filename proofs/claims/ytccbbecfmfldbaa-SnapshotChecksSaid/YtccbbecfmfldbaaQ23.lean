import Derived.Test.YtccbbecfmfldbaaQ22
import Derived.Deep.RegionLaw
import Derived.Test.YtccbbecfmfldbaaQ17
import Derived.BigQuiet
import Derived.Deep.RegionHeld3
set_option maxRecDepth 100000
set_option linter.unusedVariables false
set_option linter.unusedSimpArgs false
namespace Go.Proofs.Ytccbbecfmfldbaa
open Go.RowKit Go.Mm Sb

/-! ### snapshots: copied -/
/-- Snapshots of the call's own: the image is read, the items' row is owned. -/
def SnO (w : World) (base : Nat) (cv iv : Value) (s : Snaps) : Prop :=
  ∃ M, base ≤ M ∧ M ≤ w.heap.size ∧ RImg w (fun b => base ≤ b ∧ b < M) cv s.cur ∧ OwnSl 88 3 RSnap w M (fun b => M ≤ b) iv s.items
theorem SnO.below {w w' : World} {base : Nat} {cv iv : Value} {s : Snaps} (h : SnO w base cv iv s) (hb : Below w.heap.size w w') : SnO w' base cv iv s := by
  obtain ⟨M, h1, h2, h3, h4⟩ := h
  exact ⟨M, h1, Nat.le_trans h2 hb.size, h3.below hb, h4.below hb⟩
theorem SnO.reads {w : World} {base : Nat} {cv iv : Value} {s : Snaps} (h : SnO w base cv iv s) : RImg w (fun b => base ≤ b) cv s.cur ∧ RSnaps w (fun b => base ≤ b) iv s.items := by
  obtain ⟨M, h1, h2, h3, h4⟩ := h
  exact ⟨h3.more (fun b _ hh => hh.1), h4.reads (fun b _ hh => by rcases hh with hh | hh; omega; have := (h4.lt b hh.symm).1; omega)⟩
def CopRet (s : Snaps) (w : World) (e : Ending) (w' : World) : Prop := ∃ cv iv, e = .returned (.agg #[cv, iv]) ∧ SnO w' w.heap.size cv iv s ∧ Below w.heap.size w w'
theorem vol_new {w1 : World} {base N : Nat} {v v1 : Value} {x : List Sec} (hul : ∀ g, v.ownBlock = some g → base ≤ g ∧ g < N) (h1 : OwnSl 99 8 RSec w1 N (fun _ => False) v1 x) (hN : base ≤ N) :
    RSecs w1 (fun b => base ≤ b ∧ some b ≠ v.ownBlock) v1 x :=
  h1.reads (fun b _ hh => by
    rcases hh with hh | hh
    · exact hh.elim
    · have := (h1.lt b hh.symm).1
      exact ⟨by omega, fun e => by have := (hul b e.symm).2; omega⟩)
set_option maxHeartbeats 8000000 in
theorem snCopied_any (vc vi : Value) (s : Snaps) (w : World) (S : Nat → Prop) (hc : RImg w S vc s.cur) (hi : RSnaps w S vi s.items) (hs : SmallS s) :
    Calls Try.prog 55 #[.agg #[vc, vi]] w (CopRet s w) := by
  obtain ⟨cur, items⟩ := s
  obtain ⟨hs1, hs2, hs3, hs4, hs5, hs6⟩ := hs
  simp only at *
  obtain ⟨Ac, cc, rfl, hcc, hcm⟩ := hc.val
  obtain ⟨Ai, ci, rfl, hic, him⟩ := hi.val
  unfold maxLen at hcm him
  have BA : Below w.heap.size w (((w.alloc (.cells #[.slice Ac cur.length cc, .slice Ai items.length ci] 26)).alloc (.cells #[.slice none 0 0, .slice none 0 0] 26)).alloc (.cells #[.slice none 0 0, .slice none 0 0] 26)) := (((Below.refl _ _).alloc (Nat.le_refl _) _).alloc (by simp) _).alloc (by simp; omega) _
  have K0 : Blk (((w.alloc (.cells #[.slice Ac cur.length cc, .slice Ai items.length ci] 26)).alloc (.cells #[.slice none 0 0, .slice none 0 0] 26)).alloc (.cells #[.slice none 0 0, .slice none 0 0] 26)) w.heap.size 26 #[.slice Ac cur.length cc, .slice Ai items.length ci] := ((Blk.new _ _ _).alloc _).alloc _
  have K1 : Blk (((w.alloc (.cells #[.slice Ac cur.length cc, .slice Ai items.length ci] 26)).alloc (.cells #[.slice none 0 0, .slice none 0 0] 26)).alloc (.cells #[.slice none 0 0, .slice none 0 0] 26)) (w.heap.size + 1) 26 #[.slice none 0 0, .slice none 0 0] := by
    have := (Blk.new (w.alloc (.cells #[.slice Ac cur.length cc, .slice Ai items.length ci] 26)) 26 #[.slice none 0 0, .slice none 0 0]).alloc (.cells #[.slice none 0 0, .slice none 0 0] 26)
    simpa using this
  have K2 : Blk (((w.alloc (.cells #[.slice Ac cur.length cc, .slice Ai items.length ci] 26)).alloc (.cells #[.slice none 0 0, .slice none 0 0] 26)).alloc (.cells #[.slice none 0 0, .slice none 0 0] 26)) (w.heap.size + 1 + 1) 26 #[.slice none 0 0, .slice none 0 0] := by
    have := (Blk.new ((w.alloc (.cells #[.slice Ac cur.length cc, .slice Ai items.length ci] 26)).alloc (.cells #[.slice none 0 0, .slice none 0 0] 26)) 26 #[.slice none 0 0, .slice none 0 0])
    simpa using this
  go_enter Try.func55, Try.ntmps55
  go_wp2
  generalize ((w.alloc (.cells #[.slice Ac cur.length cc, .slice Ai items.length ci] 26)).alloc (.cells #[.slice none 0 0, .slice none 0 0] 26)).alloc (.cells #[.slice none 0 0, .slice none 0 0] 26) = wa at *
  go_loopw [11] (fun i wr => ∃ (k : Nat) (cv : Value), k ≤ cur.length ∧ i = .int .i64 k ∧ Blk wr w.heap.size 26 #[.slice Ac cur.length cc, .slice Ai items.length ci] ∧ Blk wr (w.heap.size + 1) 26 #[.slice none 0 0, .slice none 0 0] ∧ Blk wr (w.heap.size + 1 + 1) 26 #[cv, .slice none 0 0] ∧
    OwnSl 52 1 RVol wr (w.heap.size + 3) (fun b => w.heap.size + 3 ≤ b) cv (cur.take k) ∧ Below w.heap.size w wr) (fun i _ => cur.length - (intOf i).toNat)
  case atStart => exact ⟨0, _, Nat.zero_le _, rfl, K0, K1, K2, OwnSl.nil _, BA⟩
  case round =>
    clear K0 K1 K2 BA
    obtain ⟨k, cv, hk, rfl, K0, K1, K2, hown, hb⟩ := hrel
    have hbs := hb.size
    by_cases hlt : k < cur.length
    · obtain ⟨x, hx⟩ : ∃ x, cur[k]? = some x := ⟨_, List.getElem?_eq_getElem hlt⟩
      obtain ⟨b, off, cs, rfl, hbl, _, hll, hccc, dv, rfl, hd⟩ := hc.at_ hx
      have hzx := hs2 x (List.mem_of_getElem? hx)
      obtain ⟨Ad, dcap, rfl, hdc, hdm⟩ := hd.val
      have c0 := (hb.cell (p := ⟨b, off + k * 1 + 0, none⟩) hbl).trans (hccc 0 (by omega))
      simp at c0
      clear hccc hll
      have hul := hown.lt
      have htl : (cur.take k).length = k := by rw [List.length_take, Nat.min_eq_left hk]
      have hltk := K2.lt
      have q0 := K2.cell 0
      have q1 := K2.frozen 0
      simp at q0
      have hdr : Below wr.heap.size wr wr.drew := (Below.refl _ _).drew
      have hcl := clone_any (.slice Ad x.length dcap) x _ S ((hd.below hb).below hdr) (by omega)
      have hnb := own_blk_ne hown.row.choose_spec K2 (by decide)
      have hcl2 := hcl.mono (R' := fun e w1 => ∃ A1 cap1, e = .returned (.slice A1 x.length cap1) ∧ OwnSl 52 1 RVol w1 (w.heap.size + 3) (fun b => w.heap.size + 3 ≤ b) cv (cur.take k) ∧ w1.cell? ⟨w.heap.size + 1 + 1, 0, none⟩ = some cv ∧ w1.frozen? ⟨w.heap.size + 1 + 1, 0, none⟩ = false ∧
        w.heap.size + 1 + 1 < w1.heap.size ∧ RSecs w1 (fun b => w.heap.size + 3 ≤ b ∧ some b ≠ cv.ownBlock) (.slice A1 x.length cap1) x ∧ Below wr.heap.size wr w1) (by
          rintro e w1 ⟨v1, rfl, hv1, hb1⟩
          obtain ⟨A1, cap1, rfl, hc1, hm1⟩ := hv1.val
          have BW := below_then hdr hdr.size hb1
          exact ⟨A1, cap1, rfl, hown.below BW, by have := (K2.below BW).cell 0; simpa using this, (K2.below BW).frozen 0, (K2.below BW).lt, vol_new hul hv1 (show w.heap.size + 3 ≤ wr.drew.heap.size by simp; omega), BW⟩)
      have hnq : some (w.heap.size + 1 + 1) ≠ cv.ownBlock := fun e => by have := (hul _ e.symm).1; omega
      have HX := Lib.hid hx
      clear hx hcl
      go_wp2_with fail
      go_region_law (first | (go_simp; refine hcl2.mono ?_; rintro e w1 ⟨A1, cap1, rfl, hown1, q2, q3, q4, hRd, hb1⟩) | (refine step_appendNew (by rfl) _ _ 23 (by rfl) 52 _ 1 24 Try.underlying23 infoV (by rfl) (by omega) RVol (w.heap.size + 3) (fun b => w.heap.size + 3 ≤ b) cv (cur.take k) (by rfl) hown1 #[.slice A1 x.length cap1] x w1.heap.size rfl (by rfl) (by rfl) (by simp [Value.oneCell']) ⟨_, rfl, hRd⟩ (by rw [htl]; omega) (by omega) (by omega) ?_; intro v5 w5 hO5 hg5 hat5; obtain ⟨A5, cap5, rfl, hc5, hm5⟩ := hO5.val; have q5 := (hg5.cell_far ⟨w.heap.size + 1 + 1, 0, none⟩ q4 hnq).trans q2; have q6 := (hg5.frozen_far ⟨w.heap.size + 1 + 1, 0, none⟩ q4 hnq).trans q3))
      all_goals
        have hbs1 := hb1.size
        have e5 : (cur.take k ++ [x]).length = k + 1 := by simp [htl]
        rw [e5] at hO5
        have hl5 := hO5.lt
        have hs5 := hg5.size
        go_wp2
        go_roundw
        case rel =>
          obtain ⟨hkk, hxx⟩ := List.getElem?_eq_some_iff.1 HX.out
          refine ⟨k + 1, .slice A5 (k + 1) cap5, by omega, by go_num, ?_, ?_, ?_, ?_, ?_⟩
          · exact ((K0.below hb1).grown hg5 (fun e => by have := (hul _ e.symm).1; omega)).far (p := ⟨w.heap.size + 1 + 1, 0, none⟩) (by simp; omega) _
          · exact ((K1.below hb1).grown hg5 (fun e => by have := (hul _ e.symm).1; omega)).far (p := ⟨w.heap.size + 1 + 1, 0, none⟩) (by simp) _
          · have := ((K2.below hb1).grown hg5 hnq).set_ 0 (.slice A5 (k + 1) cap5)
            simpa using this
          · rw [List.take_succ_eq_append_getElem hkk, hxx]
            exact hO5.kept (grown_setCell _ _ _) (.inr fun e => by have := (hl5 _ e).1; simp at this; omega) (fun b _ h1 _ e => by injection e with e; simp at e; omega)
          · exact ((below_then hb hbs hb1).grown hg5 (by omega) (fun j e => by have := (hul j e).1; omega)).setCell (by simp; omega) _
        case measure => simp [intOf]; omega
    · obtain rfl : k = cur.length := by omega
      rw [List.take_length] at hown
      have hult := hown.lt
      have hcr : RImg wr (fun b => w.heap.size + 3 ≤ b ∧ b < wr.heap.size) cv cur := (hown.reads (T := fun b => w.heap.size + 3 ≤ b) (fun b _ hh => by rcases hh with hh | hh; exact hh; exact (hult b hh.symm).1)).more (fun b hb h => ⟨h, hb⟩)
      obtain ⟨x00, x01, _, _⟩ := K0.two
      have hl2 := K2.lt
      clear hown hult
      go_wp2
      clear x00 x01 K0
      have hMs : w.heap.size + 3 ≤ wr.heap.size := by omega
      have B0 := hb
      clear hb hbs
      obtain ⟨wz, hwz⟩ : ∃ wz, wz = wr := ⟨_, rfl⟩
      obtain ⟨M, hM⟩ : ∃ M, M = wr.heap.size := ⟨_, rfl⟩
      rw [← hM] at hcr hMs
      have HM := Nat.le_of_eq hM
      clear hM hwz
      go_loopw [26] (fun i wr => ∃ (k : Nat) (iv : Value), k ≤ items.length ∧ i = .int .i64 k ∧ Blk wr (w.heap.size + 1) 26 #[.slice none 0 0, .slice none 0 0] ∧ Blk wr (w.heap.size + 1 + 1) 26 #[cv, iv] ∧
        OwnSl 88 3 RSnap wr M (fun b => M ≤ b) iv (items.take k) ∧ RImg wr (fun b => w.heap.size + 3 ≤ b ∧ b < M) cv cur ∧ M ≤ wr.heap.size ∧ Below w.heap.size w wr) (fun i _ => items.length - (intOf i).toNat)
      case atStart => exact ⟨0, _, Nat.zero_le _, rfl, K1, K2, OwnSl.nil _, hcr, HM, B0⟩
      case round =>
        clear K1 K2 hcr HM B0 hl2
        obtain ⟨k, iv, hk, rfl, K1, K2, hown, hcr, HM, hb⟩ := hrel
        have hbs := hb.size
        by_cases hlt2 : k < items.length
        · obtain ⟨x, hx⟩ : ∃ x, items[k]? = some x := ⟨_, List.getElem?_eq_getElem hlt2⟩
          obtain ⟨b, off, cs, rfl, hbl, _, hll, hccc, hn64, ht64, dv, rfl, hd⟩ := hi.at_ hx
          obtain ⟨num, time, saved⟩ := x
          simp only at *
          have hm := List.mem_of_getElem? hx
          have hz4 := hs4 _ hm
          have hz6 := hs6 _ hm
          simp only at hz4 hz6
          obtain ⟨Ad, dcap, rfl, hdc, hdm⟩ := hd.val
          have c0 := (hb.cell (p := ⟨b, off + k * 3 + 0, none⟩) hbl).trans (hccc 0 (by omega))
          have c1 := (hb.cell (p := ⟨b, off + k * 3 + 1, none⟩) hbl).trans (hccc 1 (by omega))
          have c2 := (hb.cell (p := ⟨b, off + k * 3 + 2, none⟩) hbl).trans (hccc 2 (by omega))
          simp at c0 c1 c2
          clear hccc hll
          have hul := hown.lt
          have htl : (items.take k).length = k := by rw [List.length_take, Nat.min_eq_left hk]
          have hblk : Blk (wr.alloc (.cells #[.int .i64 num, .int .i64 time, .slice Ad saved.length dcap] 88)) wr.heap.size 88 #[.int .i64 num, .int .i64 time, .slice Ad saved.length dcap] := Blk.new _ _ _
          have BA : Below wr.heap.size wr (wr.alloc (.cells #[.int .i64 num, .int .i64 time, .slice Ad saved.length dcap] 88)) := (Below.refl _ _).alloc (Nat.le_refl _) _
          have hcl := writes_any (.slice Ad saved.length dcap) saved _ S ((hd.below hb).below BA) (by omega) (fun y hy => by have := hz6 y hy; omega)
          have hcl2 := hcl.mono (R' := fun e w1 => ∃ A1 cap1, e = .returned (.slice A1 saved.length cap1) ∧ RWrs w1 (fun b => wr.heap.size + 1 ≤ b) (.slice A1 saved.length cap1) saved ∧ Blk w1 wr.heap.size 88 #[.int .i64 num, .int .i64 time, .slice Ad saved.length dcap] ∧ Below wr.heap.size wr w1) (by
            rintro e w1 ⟨v1, rfl, hv1, hb1⟩
            obtain ⟨A1, cap1, rfl, hc1, hm1⟩ := hv1.val
            exact ⟨A1, cap1, rfl, hv1.more (fun b _ h => by simpa using h), hblk.below hb1, below_then BA BA.size hb1⟩)
          have HX := Lib.hid hx
          clear hx hcl hz4 hz6 hd
          go_wp2_with fail
          refine hcl2.mono ?_
          rintro e w1 ⟨A1, cap1, rfl, hv1, hb1, BW⟩
          clear hcl2
          obtain ⟨q0, q1, q2, q3, q4, q5⟩ := hb1.three
          have hW1 : wr.heap.size < w1.heap.size := hb1.lt
          have K2w := K2.below BW
          obtain ⟨x20, x21, x22, x23⟩ := K2w.two
          have hK2 := K2.lt
          have BV : Below wr.heap.size wr (w1.setCell ⟨wr.heap.size, 2, none⟩ (.slice A1 saved.length cap1)) := BW.setCell (by simp) _
          have hownW := hown.below BV
          have hRd : RWrs (w1.setCell ⟨wr.heap.size, 2, none⟩ (.slice A1 saved.length cap1)) (fun b => M ≤ b ∧ some b ≠ iv.ownBlock) (.slice A1 saved.length cap1) saved :=
            (hv1.keep (w' := w1.setCell ⟨wr.heap.size, 2, none⟩ (.slice A1 saved.length cap1)) fun b _ hb => Below.heap_setCell _ _ _ _ (by simp; omega)).more fun b _ hb => ⟨by omega, fun e => by have := (hul b e.symm).2; omega⟩
          have hne2 : some (w.heap.size + 1 + 1) ≠ iv.ownBlock := fun e => by have := (hul _ e.symm).1; omega
          have hne1 : some (w.heap.size + 1) ≠ iv.ownBlock := fun e => by have := (hul _ e.symm).1; omega
          go_wp2_with (first | (at_builtin; refine wpList_appendNew rfl _ _ 24 rfl 88 _ 3 40 Try.underlying24 infoSn rfl (by omega) RSnap M (fun b => M ≤ b) iv (items.take k) rfl hownW #[.int .i64 num, .int .i64 time, .slice A1 saved.length cap1] ⟨num, time, saved⟩ w1.heap.size (by simp) rfl rfl (by simp [Value.oneCell']) ⟨hn64, ht64, _, rfl, hRd⟩ (by rw [htl]; omega) (by omega) (by simp; omega) ?_; intro v5 w5 hO5 hg5 hat5; obtain ⟨A5, cap5, rfl, hc5, hm5⟩ := hO5.val; have q7 := (hg5.cell_far ⟨w.heap.size + 1 + 1, 1, none⟩ (by simp; omega) hne2); have q8 := (hg5.frozen_far ⟨w.heap.size + 1 + 1, 1, none⟩ (by simp; omega) hne2)))
          have e5 : (items.take k ++ [(⟨num, time, saved⟩ : Snap)]).length = k + 1 := by simp [htl]
          rw [e5] at hO5
          have hl5 := hO5.lt
          have hs5 := hg5.size
          simp at hs5
          have BW5 : Below w.heap.size w w5 := (below_then hb hbs BV).grown hg5 (by simp; omega) (fun j e => by have := (hul j e).1; omega)
          go_roundw
          case rel =>
            obtain ⟨hkk, hxx⟩ := List.getElem?_eq_some_iff.1 HX.out
            refine ⟨k + 1, .slice A5 (k + 1) cap5, by omega, by go_num, ?_, ?_, ?_, ?_, by simp; omega, BW5.setCell (by simp; omega) _⟩
            · exact ((K1.below BV).grown hg5 hne1).far (p := ⟨w.heap.size + 1 + 1, 1, none⟩) (by simp) _
            · have := ((K2.below BV).grown hg5 hne2).set_ 1 (.slice A5 (k + 1) cap5)
              simpa using this
            · rw [List.take_succ_eq_append_getElem hkk, hxx]
              exact hO5.kept (grown_setCell _ _ _) (.inr fun e => by have := (hl5 _ e).1; simp at this; omega) (fun b _ h1 _ e => by injection e with e; simp at e; omega)
            · refine (hcr.below BV).keep fun b hb2 h1 => ?_
              exact (Below.heap_setCell w5 ⟨w.heap.size + 1 + 1, 1, none⟩ _ b (by simp; omega)).trans (hg5.block b hb2 (fun e => by have := (hul b e.symm).1; omega))
          case measure => simp [intOf]; omega
        · obtain rfl : k = items.length := by omega
          rw [List.take_length] at hown
          obtain ⟨x20, x21, _, _⟩ := K2.two
          obtain ⟨x10, x11, x12, x13⟩ := K1.two
          have l1 := K1.lt
          have l2 := K2.lt
          obtain ⟨Acv, ccv, rfl, _, _⟩ := hcr.val
          obtain ⟨Aiv, civ, rfl, _, _⟩ := hown.val
          have BF := (hb.setCell (p := ⟨w.heap.size + 1, 0, none⟩) (by simp) (.slice Acv cur.length ccv)).setCell (p := ⟨w.heap.size + 1, 1, none⟩) (by simp) (.slice Aiv items.length civ)
          have g1 : wr.grownBy ((wr.setCell ⟨w.heap.size + 1, 0, none⟩ (.slice Acv cur.length ccv)).setCell ⟨w.heap.size + 1, 1, none⟩ (.slice Aiv items.length civ)) (some (w.heap.size + 1)) := (grown_setCell _ _ _).andThen (grown_setCell _ _ _) (fun j e => .inr e)
          have hul := hown.lt
          have hown2 := hown.kept g1 (.inr fun e => by have := (hul _ e).1; omega) (fun b _ h1 _ e => by injection e with e; omega)
          have hcr2 := hcr.keep (w' := (wr.setCell ⟨w.heap.size + 1, 0, none⟩ (.slice Acv cur.length ccv)).setCell ⟨w.heap.size + 1, 1, none⟩ (.slice Aiv items.length civ)) (fun b hb h1 => g1.block b hb (fun e => by injection e with e; omega))
          have HR := Lib.hid (And.intro hown2 (And.intro hcr2 BF))
          clear hown hcr BF g1 hown2 hcr2 hul
          go_wp2
          refine bodyPost_ret (v := .agg #[.slice Acv cur.length ccv, .slice Aiv items.length civ]) (by simp [results, Try.results55, go_sem, l1, x10, x11, x12, x13]) rfl ⟨_, _, rfl, ⟨M, by omega, by simp; omega, HR.out.2.1.more (fun b _ h => ⟨by omega, h.2⟩), HR.out.1⟩, HR.out.2.2⟩
end Go.Proofs.Ytccbbecfmfldbaa

set_option maxRecDepth 100000
set_option linter.unusedVariables false
set_option linter.unusedSimpArgs false
namespace Go.Proofs.Ytccbbecfmfldbaa
open Go.RowKit Go.Mm Sb

/-! ### coalesce.Check -/
theorem sizes_len8 {im : List (List Sec)} (h : sizesI (lens im) = 0) : im.length ≤ 100000 := by
  have := sizesI_len h
  have e : (lens im).length = im.length := by simp [lens]
  omega
set_option maxHeartbeats 1000000 in
theorem fitC_any (vi : Value) (im : List (List Sec)) (bx : Nat) (a b : Int) (A : Option Addr) (n cap : Nat) {w : World} (W : World) (S : Nat → Prop) (hbx : bx < w.heap.size) (hW : Below w.heap.size w W) (hcx : w.cell? ⟨bx, 0, none⟩ = some vi) (hi : RImg w S vi im) (hsz : sizesI (lens im) = 0) (hn : n ≤ 9223372036854775807) (hb : In64 b) :
    Calls Try.prog 92 #[.agg #[.int .i64 a, .int .i64 b, .slice A n cap], .pointer (some ⟨bx, 0, none⟩)] W fun e w' => e = .returned (.int .i64 (fitsI (lens im) a b n)) ∧ Below W.heap.size W w' := by
  obtain ⟨A', cap', rfl, hc1, hc2⟩ := hi.val
  have hA := ((Below.refl W.heap.size W).alloc (Nat.le_refl _) (.cells #[.int .i64 a, .int .i64 b, .slice A n cap] 54))
  have hG := below_then hW hW.size hA
  have hi2 := hi.below hG
  have hc := (hG.cell (p := ⟨bx, 0, none⟩) hbx).trans hcx
  have hr : fitIm im a b n = fitsI (lens im) a b n := by unfold fitIm; rw [if_pos hsz]
  go_enter Try.func92, Try.ntmps92
  go_wp2_with (first | (go_at_call 93; refine (imgFitsX_any _ im a b A n cap _ S hi2 (sizes_len8 hsz) hn hb).mono ?_; rintro e w2 ⟨rfl, hb2⟩; rw [hr]))
  go_ret
  exact ⟨rfl, below_then hA hA.size hb2⟩
set_option maxHeartbeats 4000000 in
theorem check2_any (v vi : Value) (l : List Wr) (im : List (List Sec)) (bx : Nat) (w : World) (S S2 : Nat → Prop) (h : RWrs w S v l) (hbx : bx < w.heap.size) (hcx : w.cell? ⟨bx, 0, none⟩ = some vi) (hi : RImg w S2 vi im) (hsz : sizesI (lens im) = 0) :
    Calls Try.prog 91 #[v, .func (.func 92) #[] #[.pointer (some ⟨bx, 0, none⟩)]] w fun e w' => e = .returned (.int .i64 (chkI (fitW (lens im)) none l)) ∧ Below w.heap.size w w' := by
  obtain ⟨A, cap, rfl, hcap, hm⟩ := h.val
  unfold maxLen at hm
  have hzs : ∀ x ∈ lens im, 0 ≤ x ∧ x ≤ 4096 := fun x hx => by have := sizesI_ok hsz x hx; omega
  go_enter Try.func91, Try.ntmps91
  go_wp2
  go_loopw [11] (fun i wr => ∃ k : Nat, k ≤ l.length ∧ i = .int .i64 k ∧ chkI (fitW (lens im)) none l = chkI (fitW (lens im)) (prevW l k) (l.drop k) ∧ (∀ x, 0 < k → l[k-1]? = some x → (fitW (lens im)) x = 0) ∧ Below w.heap.size w wr) (fun i _ => l.length - (intOf i).toNat)
  case atStart => exact ⟨0, Nat.zero_le _, rfl, rfl, by omega, Below.refl _ _⟩
  case round =>
    obtain ⟨k, hk, rfl, hI, hpr, hb⟩ := hrel
    by_cases hlt : k < l.length
    · obtain ⟨x, hx⟩ : ∃ x, l[k]? = some x := ⟨_, List.getElem?_eq_getElem hlt⟩
      obtain ⟨b, off, cs, hA, hbl, _, hl, hc, hr⟩ := h.at_ hx
      obtain ⟨hv64, hs64, dv, rfl, hd⟩ := hr
      obtain ⟨Ad, dcap, rfl, hdc, hdm⟩ := hd.val
      unfold maxLen at hdm
      have c0 := (hb.cell (p := ⟨b, off + k * 3 + 0, none⟩) hbl).trans (hc 0 (by omega))
      have c1 := (hb.cell (p := ⟨b, off + k * 3 + 1, none⟩) hbl).trans (hc 1 (by omega))
      have c2 := (hb.cell (p := ⟨b, off + k * 3 + 2, none⟩) hbl).trans (hc 2 (by omega))
      clear hc hl
      have HI := Lib.hid hI
      have HPR := Lib.hid hpr
      have HX := Lib.hid hx
      clear hI hpr hx
      by_cases hz : fitsI (lens im) x.vol x.start x.data.length = 0
      · rcases Nat.eq_zero_or_pos k with rfl | hk0
        · subst hA
          simp at c0 c1 c2
          go_wp2_with (first | (go_at_call 92; refine (fitC_any vi im bx x.vol x.start Ad x.data.length dcap (wr.alloc (.cells #[.int .i64 x.vol, .int .i64 x.start, .slice Ad x.data.length dcap] 54)) S2 hbx (hb.alloc hb.size _) hcx hi hsz (by omega) hs64).mono ?_; rintro e w1 ⟨rfl, hb1⟩; rw [hz]))
          go_roundw
          case rel => exact ⟨1, by omega, by go_num, by rw [HI.out, chk_first HX.out, if_pos (show (fitW (lens im)) x = 0 from hz)], (fun y _ hy => by rw [show y = x by simpa [HX.out] using hy.symm]; exact hz), below_then (hb.alloc hb.size _) (by have := hb.size; simp; omega) hb1⟩
          case measure => simp [intOf]; omega
        · obtain ⟨m, rfl⟩ : ∃ m, k = m + 1 := ⟨k - 1, by omega⟩
          obtain ⟨y, hy⟩ : ∃ y, l[m]? = some y := ⟨_, List.getElem?_eq_getElem (by omega)⟩
          obtain ⟨b2, off2, cs2, hA2, hbl2, _, hl2, hc2, hr2⟩ := h.at_ hy
          obtain ⟨hv642, hs642, dv2, rfl, hd2⟩ := hr2
          obtain ⟨Ad2, dcap2, rfl, hdc2, hdm2⟩ := hd2.val
          unfold maxLen at hdm2
          obtain ⟨rfl, rfl⟩ : b2 = b ∧ off2 = off := by rw [hA] at hA2; injection hA2 with e; injection e with e1 e2; exact ⟨e1.symm, e2.symm⟩
          subst hA
          clear hA2
          have hD : ∀ W, Below w.heap.size w W → W.cell? ⟨b2, off2 + m * 3, none⟩ = some (.int .i64 y.vol) ∧ W.cell? ⟨b2, off2 + m * 3 + 1, none⟩ = some (.int .i64 y.start) ∧ W.cell? ⟨b2, off2 + m * 3 + 2, none⟩ = some (.slice Ad2 y.data.length dcap2) := fun W hW =>
            ⟨(hW.cell hbl2).trans (hc2 0 (by omega)), (hW.cell hbl2).trans (hc2 1 (by omega)), (hW.cell hbl2).trans (hc2 2 (by omega))⟩
          simp at c0 c1 c2
          have hzy := fitW_zero hzs (HPR.out y (by omega) (by simpa using hy))
          have HY := Lib.hid hy
          clear hc2 hl2 hy
          have t0 : ((m : Int) + 1 == 0) = false := by simp; omega
          by_cases hg1 : x.vol < y.vol
          · have t1 := decide_eq_true hg1
            go_wp2_with (first | (go_at_call 92; refine (fitC_any vi im bx x.vol x.start Ad x.data.length dcap (wr.alloc (.cells #[.int .i64 x.vol, .int .i64 x.start, .slice Ad x.data.length dcap] 54)) S2 hbx (hb.alloc hb.size _) hcx hi hsz (by omega) hs64).mono ?_; rintro e w1 ⟨rfl, hb1⟩; rw [hz]; have HB := below_then (hb.alloc hb.size _) (by have := hb.size; simp; omega) hb1; obtain ⟨d0, d1, d2⟩ := hD w1 HB; obtain ⟨q0, q1, q2, q3, q4, q5⟩ := ((Blk.new wr 54 #[.int .i64 x.vol, .int .i64 x.start, .slice Ad x.data.length dcap]).below hb1).three; have q7 : wr.heap.size < w1.heap.size := by have := hb1.size; simp at this; omega))
            go_ret
            refine ⟨ret_int ?_, ?_⟩
            · rw [HI.out, chk_next HY.out HX.out, if_pos (show (fitW (lens im)) x = 0 from hz), if_pos (.inl hg1)]
            · exact (below_then (below_then (hb.alloc hb.size _) (by have := hb.size; simp; omega) hb1) (by have := hb.size; omega) ((Below.refl _ _).alloc (Nat.le_refl _) _))
          · have t1 := decide_eq_false hg1
            obtain ⟨xv, xs, xd⟩ := x
            obtain ⟨yv, ys, yd⟩ := y
            simp only at *
            by_cases hg2 : xv = yv
            · subst hg2
              by_cases hg3 : xs ≤ ys + yd.length
              · have t3 := decide_eq_true hg3
                go_wp2_with (first | (go_at_call 92; refine (fitC_any vi im bx xv xs Ad xd.length dcap (wr.alloc (.cells #[.int .i64 xv, .int .i64 xs, .slice Ad xd.length dcap] 54)) S2 hbx (hb.alloc hb.size _) hcx hi hsz (by omega) hs64).mono ?_; rintro e w1 ⟨rfl, hb1⟩; rw [hz]; have HB := below_then (hb.alloc hb.size _) (by have := hb.size; simp; omega) hb1; obtain ⟨d0, d1, d2⟩ := hD w1 HB; obtain ⟨q0, q1, q2, q3, q4, q5⟩ := ((Blk.new wr 54 #[.int .i64 xv, .int .i64 xs, .slice Ad xd.length dcap]).below hb1).three; have q7 : wr.heap.size < w1.heap.size := by have := hb1.size; simp at this; omega))
                go_ret
                refine ⟨ret_int ?_, ?_⟩
                · rw [HI.out, chk_next HY.out HX.out, if_pos (show (fitW (lens im)) ⟨xv, xs, xd⟩ = 0 from hz), if_pos (.inr ⟨rfl, hg3⟩)]
                · exact (below_then (below_then (hb.alloc hb.size _) (by have := hb.size; simp; omega) hb1) (by have := hb.size; omega) ((Below.refl _ _).alloc (Nat.le_refl _) _))
              · have t3 := decide_eq_false hg3
                go_wp2_with (first | (go_at_call 92; refine (fitC_any vi im bx xv xs Ad xd.length dcap (wr.alloc (.cells #[.int .i64 xv, .int .i64 xs, .slice Ad xd.length dcap] 54)) S2 hbx (hb.alloc hb.size _) hcx hi hsz (by omega) hs64).mono ?_; rintro e w1 ⟨rfl, hb1⟩; rw [hz]; have HB := below_then (hb.alloc hb.size _) (by have := hb.size; simp; omega) hb1; obtain ⟨d0, d1, d2⟩ := hD w1 HB; obtain ⟨q0, q1, q2, q3, q4, q5⟩ := ((Blk.new wr 54 #[.int .i64 xv, .int .i64 xs, .slice Ad xd.length dcap]).below hb1).three; have q7 : wr.heap.size < w1.heap.size := by have := hb1.size; simp at this; omega))
                go_roundw
                case rel =>
                  refine ⟨m + 2, by omega, by go_num, ?_, ?_, ?_⟩
                  · rw [HI.out, chk_next HY.out HX.out, if_pos (show (fitW (lens im)) ⟨xv, xs, xd⟩ = 0 from hz), if_neg (by simp only; omega)]
                  · intro z _ hz2
                    rw [show m + 2 - 1 = m + 1 by omega, HX.out] at hz2
                    injection hz2 with hz2
                    rw [← hz2]; exact hz
                  · exact (below_then (below_then (hb.alloc hb.size _) (by have := hb.size; simp; omega) hb1) (by have := hb.size; omega) ((Below.refl _ _).alloc (Nat.le_refl _) _))
                case measure => simp [intOf]; omega
            · have t2 : (xv == yv) = false := by simpa using hg2
              go_wp2_with (first | (go_at_call 92; refine (fitC_any vi im bx xv xs Ad xd.length dcap (wr.alloc (.cells #[.int .i64 xv, .int .i64 xs, .slice Ad xd.length dcap] 54)) S2 hbx (hb.alloc hb.size _) hcx hi hsz (by omega) hs64).mono ?_; rintro e w1 ⟨rfl, hb1⟩; rw [hz]; have HB := below_then (hb.alloc hb.size _) (by have := hb.size; simp; omega) hb1; obtain ⟨d0, d1, d2⟩ := hD w1 HB; obtain ⟨q0, q1, q2, q3, q4, q5⟩ := ((Blk.new wr 54 #[.int .i64 xv, .int .i64 xs, .slice Ad xd.length dcap]).below hb1).three; have q7 : wr.heap.size < w1.heap.size := by have := hb1.size; simp at this; omega))
              go_roundw
              case rel =>
                  refine ⟨m + 2, by omega, by go_num, ?_, ?_, ?_⟩
                  · rw [HI.out, chk_next HY.out HX.out, if_pos (show (fitW (lens im)) ⟨xv, xs, xd⟩ = 0 from hz), if_neg (by simp only; omega)]
                  · intro z _ hz2
                    rw [show m + 2 - 1 = m + 1 by omega, HX.out] at hz2
                    injection hz2 with hz2
                    rw [← hz2]; exact hz
                  · exact (below_then (below_then (hb.alloc hb.size _) (by have := hb.size; simp; omega) hb1) (by have := hb.size; omega) ((Below.refl _ _).alloc (Nat.le_refl _) _))
              case measure => simp [intOf]; omega
      · subst hA
        simp at c0 c1 c2
        go_wp2_with (first | (go_at_call 92; refine (fitC_any vi im bx x.vol x.start Ad x.data.length dcap (wr.alloc (.cells #[.int .i64 x.vol, .int .i64 x.start, .slice Ad x.data.length dcap] 54)) S2 hbx (hb.alloc hb.size _) hcx hi hsz (by omega) hs64).mono ?_; rintro e w1 ⟨rfl, hb1⟩))
        go_ret
        refine ⟨ret_int ?_, below_then (hb.alloc hb.size _) (by have := hb.size; simp; omega) hb1⟩
        rw [HI.out]
        rcases Nat.eq_zero_or_pos k with rfl | hk0
        · rw [chk_first HX.out, if_neg (show ¬ (fitW (lens im)) x = 0 from hz)]; rfl
        · obtain ⟨m, rfl⟩ : ∃ m, k = m + 1 := ⟨k - 1, by omega⟩
          obtain ⟨y, hy⟩ : ∃ y, l[m]? = some y := ⟨_, List.getElem?_eq_getElem (by omega)⟩
          rw [chk_next hy HX.out, if_neg (show ¬ (fitW (lens im)) x = 0 from hz)]; rfl
    · go_wp2
      go_ret
      obtain rfl : k = l.length := by omega
      exact ⟨ret_int (by rw [hI, chk_end]), hb⟩
end Go.Proofs.Ytccbbecfmfldbaa

set_option maxRecDepth 100000
set_option linter.unusedVariables false
set_option linter.unusedSimpArgs false
namespace Go.Proofs.Ytccbbecfmfldbaa
open Go.RowKit Go.Mm Sb

theorem lens_zeros : ∀ {l : List Int}, (∀ x ∈ l, 0 ≤ x) → lens (l.map zeros) = l
  | [], _ => rfl
  | x :: t, h => by
    have ih := lens_zeros (l := t) (fun y hy => h y (by simp [hy]))
    have hx := h x (by simp)
    unfold lens at ih ⊢
    rw [List.map_cons, List.map_cons, ih]
    congr 1
    simp [zeros]; omega
set_option maxHeartbeats 2000000 in
theorem chkC_any (v vs : Value) (l : List Wr) (sizes : List Int) (w : World) (S S2 : Nat → Prop) (h : RWrs w S v l) (hs : RInts w S2 vs sizes) :
    Calls Try.prog 59 #[v, vs] w fun e w' => e = .returned (.int .i64 (refChk l sizes)) ∧ Below w.heap.size w w' := by
  go_enter Try.func59, Try.ntmps59
  go_wp2_with fail
  refine (new_any vs sizes w S2 hs).mono ?_
  rintro e w1 ⟨v1, rfl, hv1, B1⟩
  obtain ⟨Ai, ci, rfl, hci, hmi⟩ := hv1.val
  have hlt := B1.size
  have hA := (Below.refl w1.heap.size w1).alloc (Nat.le_refl _) (.cells #[.slice Ai (if sizesI sizes = 0 then sizes.map zeros else []).length ci] 23)
  by_cases hz : sizesI sizes = 0
  · have hr : refChk l sizes = chkI (fitW sizes) none l := by unfold refChk; rw [if_pos hz]
    have hls := lens_zeros (l := sizes) (fun x hx => by have := sizesI_ok hz x hx; omega)
    have hcell : (w1.alloc (.cells #[.slice Ai (if sizesI sizes = 0 then sizes.map zeros else []).length ci] 23)).cell? ⟨w1.heap.size, 0, none⟩ = some (.slice Ai (if sizesI sizes = 0 then sizes.map zeros else []).length ci) := (Blk.new w1 23 #[_]).cell 0
    rw [if_pos hz] at hv1 hcell hA
    rw [hz]
    have hli : (if (0 : Int) = 0 then sizes.map zeros else []).length = (sizes.map zeros).length := by simp
    rw [if_pos rfl]
    have G1 := below_then B1 hlt hA
    have hv2 := hv1.below hA
    have h2 := h.below G1
    have c := check2_any v _ l (sizes.map zeros) w1.heap.size _ S _ h2 (by simp) hcell hv2 (by rw [hls]; exact hz)
    rw [hls, ← hr, List.length_map] at c
    rw [List.length_map] at G1
    have HC := Lib.hid c
    clear c hr hls hcell hli
    go_wp2_with (first | (go_at_call 91; refine HC.out.mono ?_; rintro e w2 ⟨rfl, hb2⟩))
    go_ret
    exact ⟨rfl, below_then G1 G1.size hb2⟩
  · have hr : refChk l sizes = sizesI sizes := by unfold refChk; rw [if_neg hz]
    have hz' : (sizesI sizes != 0) = true := by simpa using hz
    rw [if_neg hz]
    rw [if_neg hz] at hA
    have HR := Lib.hid hr
    clear hr
    go_wp2
    go_ret
    exact ⟨ret_int HR.out.symm, below_then B1 hlt hA⟩
end Go.Proofs.Ytccbbecfmfldbaa

set_option maxRecDepth 100000
set_option linter.unusedVariables false
set_option linter.unusedSimpArgs false
namespace Go.Proofs.Ytccbbecfmfldbaa
open Go.RowKit Go.Mm Sb

/-! ### snapshots: Check, New, Cost -/
set_option maxHeartbeats 8000000 in
theorem snCheck_any (vc vi : Value) (s : Snaps) (w : World) (S T : Nat → Prop) (hc : RImg w S vc s.cur) (hi : RSnaps w T vi s.items) (hl : s.cur.length ≤ 100000) :
    Calls Try.prog 19 #[.agg #[vc, vi]] w fun e w' => e = .returned (.int .i64 (chkS s)) ∧ Below w.heap.size w w' := by
  obtain ⟨cur, items⟩ := s
  simp only at *
  obtain ⟨Ac, cc, rfl, hcc, hcm⟩ := hc.val
  obtain ⟨Ai, ci, rfl, hic, him⟩ := hi.val
  unfold maxLen at hcm him
  have BA : Below w.heap.size w (w.alloc (.cells #[.slice Ac cur.length cc, .slice Ai items.length ci] 26)) := (Below.refl _ _).alloc (Nat.le_refl _) _
  have K0 : Blk (w.alloc (.cells #[.slice Ac cur.length cc, .slice Ai items.length ci] 26)) w.heap.size 26 #[.slice Ac cur.length cc, .slice Ai items.length ci] := Blk.new _ _ _
  have hcl := imgCheck_any (.slice Ac cur.length cc) cur _ S (hc.below BA) hl
  go_enter Try.func19, Try.ntmps19
  go_wp2_with fail
  refine hcl.mono ?_
  rintro e w1 ⟨rfl, hb1⟩
  clear hcl
  have B1 := below_then BA BA.size hb1
  have K1 := K0.below hb1
  clear K0 BA hb1
  by_cases hz : sizesI (lens cur) = 0
  · have hcs : chkS ⟨cur, items⟩ = (if 1024 < items.length then 6 else chkSn (lens cur) (-1) 0 items) := by unfold chkS; rw [if_pos hz]
    rw [hz]
    obtain ⟨x0, x1, x2, x3⟩ := K1.two
    have l1 := K1.lt
    by_cases h1024 : 1024 < items.length
    · rw [if_pos h1024] at hcs
      have t1 := decide_eq_true (show (1024 : Int) < (items.length : Int) by omega)
      have HCS := Lib.hid hcs
      clear hcs
      go_wp2
      go_ret
      exact ⟨ret_int (by rw [HCS.out]), B1⟩
    · rw [if_neg h1024] at hcs
      have t1 := decide_eq_false (show ¬ (1024 : Int) < (items.length : Int) by omega)
      have HCS := Lib.hid hcs
      clear hcs
      have BL : Below w.heap.size w (w1.alloc (.cells #[.int .i64 (-1), .int .i64 0, .slice none 0 0] 88)) := B1.alloc B1.size _
      have KL : Blk (w1.alloc (.cells #[.int .i64 (-1), .int .i64 0, .slice none 0 0] 88)) w1.heap.size 88 #[.int .i64 (-1), .int .i64 0, .slice none 0 0] := Blk.new _ _ _
      have K2 := K1.alloc (.cells #[.int .i64 (-1), .int .i64 0, .slice none 0 0] 88)
      go_wp2
      clear x0 x1 x2 x3
      have hg1 := l1
      generalize w1.alloc (.cells #[.int .i64 (-1), .int .i64 0, .slice none 0 0] 88) = w2 at *
      generalize w1.heap.size = g at *
      go_loopw [22] (fun i wr => ∃ (k : Nat) (dv : Value), k ≤ items.length ∧ i = .int .i64 k ∧ Blk wr w.heap.size 26 #[.slice Ac cur.length cc, .slice Ai items.length ci] ∧ Blk wr g 88 #[.int .i64 (lnS items k), .int .i64 (ltS items k), dv] ∧
        chkSn (lens cur) (-1) 0 items = chkSn (lens cur) (lnS items k) (ltS items k) (items.drop k) ∧ (0 < k → In64 (lnS items k) ∧ In64 (ltS items k)) ∧ Below w.heap.size w wr) (fun i _ => items.length - (intOf i).toNat)
      case atStart => exact ⟨0, _, Nat.zero_le _, rfl, K2, KL, rfl, by omega, BL⟩
      case round =>
        clear K1 K2 KL BL B1
        obtain ⟨k, ldv, hk, rfl, K0, KL, hI, h64, hb⟩ := hrel
        have hbs := hb.size
        by_cases hlt : k < items.length
        · obtain ⟨x, hx⟩ : ∃ x, items[k]? = some x := ⟨_, List.getElem?_eq_getElem hlt⟩
          obtain ⟨b, off, cs, rfl, hbl, _, hll, hccc, hn64, ht64, dv, rfl, hd⟩ := hi.at_ hx
          have hst := chkSn_step (S := lens cur) hx
          have hsn := lnS_succ hx
          have hst2 := ltS_succ hx
          obtain ⟨num, time, saved⟩ := x
          simp only at *
          obtain ⟨Ad, dcap, rfl, hdc, hdm⟩ := hd.val
          have c0 := (hb.cell (p := ⟨b, off + k * 3 + 0, none⟩) hbl).trans (hccc 0 (by omega))
          have c1 := (hb.cell (p := ⟨b, off + k * 3 + 1, none⟩) hbl).trans (hccc 1 (by omega))
          have c2 := (hb.cell (p := ⟨b, off + k * 3 + 2, none⟩) hbl).trans (hccc 2 (by omega))
          simp at c0 c1 c2
          clear hccc hll hx
          have hgl := KL.lt
          have h0l := K0.lt
          obtain ⟨y0, y1, y2, y3, y4, y5⟩ := KL.three
          have hnl : In64 (lnS items k) := by
            rcases Nat.eq_zero_or_pos k with rfl | hk0
            · unfold In64 lnS; simp
            · exact (h64 hk0).1
          have htl : In64 (ltS items k) := by
            rcases Nat.eq_zero_or_pos k with rfl | hk0
            · unfold In64 ltS; simp
            · exact (h64 hk0).2
          rw [← hI] at hst
          generalize lnS items k = ln at *
          generalize ltS items k = lt at *
          have HI := Lib.hid hst
          have HN := Lib.hid (And.intro hsn hst2)
          clear hst hI h64 hsn hst2
          have BX : Below w.heap.size w (wr.alloc (.cells #[.int .i64 num, .int .i64 time, .slice Ad saved.length dcap] 88)) := hb.alloc hbs _
          cases hi1 : inT num with
          | false =>
            have HI1 := Lib.hid hi1
            clear hi1
            go_wp2_with (first | (go_at_call 58; refine (in_any num _ hn64).mono ?_; rintro e w9 ⟨rfl, rfl⟩; rw [HI1.out]))
            go_ret
            exact ⟨ret_int (by rw [HCS.out, HI.out, if_pos HI1.out]), BX⟩
          | true =>
            have HI1 := Lib.hid hi1
            clear hi1
            by_cases hi2 : num ≤ ln
            · go_wp2_with (first | (go_at_call 58; refine (in_any num _ hn64).mono ?_; rintro e w9 ⟨rfl, rfl⟩; rw [HI1.out]))
              go_ret
              exact ⟨ret_int (by rw [HCS.out, HI.out, if_neg (by simp [HI1.out]), if_pos hi2]), BX⟩
            · cases hi3 : inT time with
              | false =>
                have HI3 := Lib.hid hi3
                clear hi3
                go_wp2_with (first | (go_at_call 58; refine (in_any _ _ (by assumption)).mono ?_; rintro e w9 ⟨rfl, rfl⟩; first | rw [HI1.out] | rw [HI3.out]))
                go_ret
                exact ⟨ret_int (by rw [HCS.out, HI.out, if_neg (by simp [HI1.out]), if_neg (by omega), if_pos (.inl HI3.out)]), BX⟩
              | true =>
                have HI3 := Lib.hid hi3
                clear hi3
                by_cases hi4 : time < lt
                · have t4 := decide_eq_true hi4
                  go_wp2_with (first | (go_at_call 58; refine (in_any _ _ (by assumption)).mono ?_; rintro e w9 ⟨rfl, rfl⟩; first | rw [HI1.out] | rw [HI3.out]))
                  go_ret
                  exact ⟨ret_int (by rw [HCS.out, HI.out, if_neg (by simp [HI1.out]), if_neg (by omega), if_pos (.inr hi4)]), BX⟩
                · have t4 := decide_eq_false hi4
                  go_wp2_with (first | (go_at_call 58; refine (in_any _ _ (by assumption)).mono ?_; rintro e w9 ⟨rfl, rfl⟩; first | rw [HI1.out] | rw [HI3.out]))
                  have BXr : Below wr.heap.size wr (wr.alloc (.cells #[.int .i64 num, .int .i64 time, .slice Ad saved.length dcap] 88)) := (Below.refl _ _).alloc (Nat.le_refl _) _
                  have KX : Blk (wr.alloc (.cells #[.int .i64 num, .int .i64 time, .slice Ad saved.length dcap] 88)) wr.heap.size 88 #[.int .i64 num, .int .i64 time, .slice Ad saved.length dcap] := Blk.new _ _ _
                  have K0x := K0.below BXr
                  have KLx := KL.below BXr
                  have hcx := hc.below BX
                  have hdx := hd.below BX
                  have hlx := KX.lt
                  clear y0 y1 y2 y3 y4 y5 c0 c1 c2 KL K0 hb BXr hd
                  generalize wr.heap.size = gx at *
                  generalize wr.alloc (.cells #[.int .i64 num, .int .i64 time, .slice Ad saved.length dcap] 88) = wx at *
                  have hD : ∀ W, Below wx.heap.size wx W → (Below wx.heap.size wx W ∧ W.cell? ⟨gx, 2, none⟩ = some (.slice Ad saved.length dcap) ∧ W.cell? ⟨w.heap.size, 0, none⟩ = some (.slice Ac cur.length cc)) := fun W hW =>
                    ⟨hW, (hW.cell (p := ⟨gx, 2, none⟩) KX.lt).trans (KX.cell 2), (hW.cell (p := ⟨w.heap.size, 0, none⟩) K0x.lt).trans (K0x.cell 0)⟩
                  have hdr : Below wx.heap.size wx wx.drew := (Below.refl _ _).drew
                  go_region_held3 (fun W => Below wx.heap.size wx W ∧ W.cell? ⟨gx, 2, none⟩ = some (.slice Ad saved.length dcap) ∧ W.cell? ⟨w.heap.size, 0, none⟩ = some (.slice Ac cur.length cc))
                    (first | (exact hD _ hS2) | (exact hD _ hS1) | (exact hD _ hdr) | assumption | go_keep)
                    (first | (go_at_call 60; refine (snSizes_any _ cur _ S (hcx.below hdr) hl).mono ?_; rintro e w8 ⟨v8, rfl, X8, B8⟩; have hS1 : Below wx.heap.size wx w8 := below_then hdr hdr.size B8) | (go_at_call 59; refine (chkC_any _ v8 saved (lens cur) _ T _ (hdx.below hS1) X8).mono ?_; rintro e w9 ⟨rfl, B9⟩; have hS2 : Below wx.heap.size wx w9 := below_then hS1 hS1.size B9))
                  have BF := below_then BX BX.size hS2
                  have KXf := KX.below hS2
                  have KLf := KLx.below hS2
                  have K0f := K0x.below hS2
                  have hlf := hS2.size
                  clear hD hdr KX KLx K0x hS1 hS2 BX B8 B9 X8 hcx
                  by_cases hi5 : refChk saved (lens cur) = 0
                  · rw [hi5]
                    have e5 : chkS ⟨cur, items⟩ = chkSn (lens cur) (lnS items (k + 1)) (ltS items (k + 1)) (items.drop (k + 1)) := by
                      rw [HCS.out, HI.out, if_neg (by simp [HI1.out]), if_neg (by omega), if_neg (by simp [HI3.out]; omega), if_pos hi5]
                    have H5 := Lib.hid e5
                    clear e5 hi5
                    obtain ⟨x0, x1, x2, x3, x4, x5⟩ := KXf.three
                    obtain ⟨y0, y1, y2, y3, y4, y5⟩ := KLf.three
                    have hgg := KLf.lt
                    go_wp2
                    go_roundw
                    case rel =>
                      refine ⟨k + 1, .slice Ad saved.length dcap, by omega, by go_num, ?_, ?_, by rw [← H5.out, HCS.out], fun _ => ?_, ?_⟩
                      · exact ((K0f.far (p := ⟨g, 0, none⟩) (by simp; omega) _).far (p := ⟨g, 1, none⟩) (by simp; omega) _).far (p := ⟨g, 2, none⟩) (by simp; omega) _
                      · rw [HN.out.1, HN.out.2]
                        simpa using ((KLf.set_ 0 (.int .i64 num)).set_ 1 (.int .i64 time)).set_ 2 (.slice Ad saved.length dcap)
                      · rw [HN.out.1, HN.out.2]; exact ⟨hn64, ht64⟩
                      · exact ((BF.setCell (by simp; omega) _).setCell (by simp; omega) _).setCell (by simp; omega) _
                    case measure => simp [intOf]; omega
                  · have hi5' : (refChk saved (lens cur) != 0) = true := by simpa using hi5
                    have e5 : chkS ⟨cur, items⟩ = refChk saved (lens cur) := by
                      rw [HCS.out, HI.out, if_neg (by simp [HI1.out]), if_neg (by omega), if_neg (by simp [HI3.out]; omega), if_neg hi5]
                    have H5 := Lib.hid e5
                    clear e5
                    go_wp2
                    go_ret
                    exact ⟨ret_int (by rw [H5.out]), BF⟩
        · obtain rfl : k = items.length := by omega
          go_wp2
          go_ret
          exact ⟨ret_int (by rw [HCS.out, hI, chkSn_end]), hb⟩
  · have hcs : chkS ⟨cur, items⟩ = sizesI (lens cur) := by unfold chkS; rw [if_neg hz]
    have hz' : (sizesI (lens cur) != 0) = true := by simpa using hz
    have HCS := Lib.hid hcs
    clear hcs
    go_wp2
    go_ret
    exact ⟨ret_int (by rw [HCS.out]), B1⟩
end Go.Proofs.Ytccbbecfmfldbaa
