import Derived.Test.YtccbbecfmfldbaaQ10
import Derived.Test.YtccbbecfmfldbaaQ11
import Derived.Deep.RegionHeld3
import Derived.Deep.DeepCutAuto
import Derived.Deep.CutBlock
import Derived.Deep.RegionLaw
set_option maxRecDepth 100000
set_option linter.unusedVariables false
set_option linter.unusedSimpArgs false
namespace Go.Proofs.Ytccbbecfmfldbaa
open Go.RowKit Go.Mm Sb

/-! ### the canonical list out of the map of effects -/
def RetWrs (l : List Wr) (w : World) (e : Ending) (w' : World) : Prop := ∃ v, e = .returned v ∧ RWrs w' (fun b => w.heap.size ≤ b) v l ∧ Below w.heap.size w w'
theorem rangeLeft_kept {w w' : World} {b r : Nat} {row : Option Nat} (hg : w.grownBy w' row) (hb : b < w.heap.size) (hr : r < w.heap.size) (hb' : some b ≠ row) (hr' : some r ≠ row) : w'.rangeLeft b r = w.rangeLeft b r := by
  unfold World.rangeLeft
  rw [hg.block b hb hb', hg.block r hr hr']
theorem dom_of {f : SLoc → Option Sec} (hf : Bounded fun v s => f (v, s)) {a b : Int} {y : Sec} (h : f (a, b) = some y) : InDom a b :=
  Decidable.byContradiction fun hh => by
    have h2 : f (a, b) = none := hf a b hh
    rw [h] at h2; cases h2
theorem own_map (A : Option Addr) (n cap : Nat) : (Value.slice A n cap).ownBlock = A.map (·.block) := by cases A <;> rfl
theorem kPl_enc (p : SLoc) : kPl.enc p = .agg #[.int .i64 p.1, .int .i64 p.2] := rfl
theorem encS_eq (s : Sec) : encS s = .agg #[.int .u8 s.b0, .int .u8 s.b1, .int .u8 s.b2, .int .u8 s.b3, .int .u8 s.b4, .int .u8 s.b5, .int .u8 s.b6, .int .u8 s.b7] := rfl
theorem range_ne_own {κ ν : Type} [DecidableEq κ] {P : Program} {k : TypeId} {K : KeyKit P k κ} {encV : ν → Value} {w : World} {b r n : Nat} {f : κ → Option ν} {ks done : List κ} (h : RangeIs K encV w b r n f ks done) {e : TypeId} {s m base : Nat} {v : Value} {xs : List Value} (ho : w.ownsRow base e s v m xs) :
    some r ≠ v.ownBlock ∧ some b ≠ v.ownBlock := by
  obtain ⟨D, left, cnt, ⟨es, clock, since, seen, c0, hb, _, _, _, hr, _⟩, _⟩ := h
  rcases ho.2 with ⟨rfl, _⟩ | ⟨g, cap, cur, rfl, _, hg, _⟩
  · simp [Value.ownBlock]
  · constructor
    · intro e; simp [Value.ownBlock] at e; subst e; rw [hr] at hg; cases hg
    · intro e; simp [Value.ownBlock] at e; subst e; rw [hb] at hg; cases hg

set_option maxHeartbeats 4000000 in
theorem canonical_any (b n : Nat) (f : SLoc → Option Sec) (ks : List SLoc) (w : World) (hm : MapIs kPl encS w b n f ks) (hf : Bounded (fun v s => f (v, s))) (hn : n ≤ 1000000000000) :
    Calls Try.prog 121 #[.map (some b)] w (RetWrs (canonOf fun v s => f (v, s)) w) := by
  have hbl := hm.lt
  obtain ⟨hlen, hkn⟩ := hm.len (t := 163) Try.underlying163 3
  obtain ⟨i0, hi, hz0, hz1, hz2⟩ := info_parts infoP
  have hmk : ∀ W : World, (Instr.makeSlice 172 (.int .i64 0) (.int .i64 (ks.length : Int))).run Try.prog W = .ok (.slice (some ⟨W.heap.size, 0, none⟩) 0 ks.length) (W.alloc (.cells (madeCells #[.int .i64 0, .int .i64 0] (ks.length * 2)) 170)) := by
    intro W
    have := run_make (P := Try.prog) W 172 170 i0 _ Try.underlying172 hi hz0 .i64 .i64 0 (ks.length : Int) (Int.le_refl _) (by omega) (by rw [hz2]; omega) (by omega)
    rw [hz1] at this
    simpa [Value.cells] using this
  go_enter Try.func121, Try.ntmps121
  go_wp2_with (first | (at_range; refine wpList_rangeMap (K := kPl) (encV := encS) _ rfl _ 163 rfl 99 Try.underlying163 b n f ks rfl (hm.alloc _) ?_; intro w1 hr1 hg1 hs1))
  go_frame
  simp only [World.size_alloc] at hr1 hs1 ⊢
  have hB1 : Below w.heap.size w w1 := ((Below.refl _ _).alloc (Nat.le_refl _) _).grown hg1 (by simp) (by simp)
  have hO1 : OwnSl 170 2 (RPure encPl) w1 w.heap.size (fun _ => False) (.slice (some ⟨w.heap.size, 0, none⟩) 0 ks.length) [] := by
    have := World.ownsRow_made (base := w.heap.size) (e := 170) (size := 2) w (madeCells #[.int .i64 0, .int .i64 0] (ks.length * 2)) ks.length (Nat.le_refl _) (by unfold maxLen; omega) (size_madeCells _ _)
    exact ⟨[], this.kept hg1 (by simp [Value.ownBlock]), rfl, by simp, by simp⟩
  have hks : ∀ p, p ∈ ks ↔ (f p).isSome = true := by obtain ⟨D, _, hr⟩ := hm; exact hr.mem
  have hHKS := Lib.hid hks
  clear hm hg1 hlen hmk
  obtain ⟨r, hr⟩ : ∃ r, r = w.heap.size + 1 := ⟨_, rfl⟩
  rw [← hr] at hr1 ⊢
  have HR := Lib.hid hr
  clear hr
  go_loopw [3] (fun v3 wr => ∃ done, RangeIs kPl encS wr b r n f ks done ∧ OwnSl 170 2 (RPure encPl) wr w.heap.size (fun _ => False) v3 done ∧ Below w.heap.size w wr) (fun _ wr => wr.rangeLeft b r)
  case atStart => exact ⟨[], hr1, hO1, hB1⟩
  case round =>
    obtain ⟨done, hrg, hown, hb⟩ := hrel
    have hnd := hrg.nodup
    have hsome := hrg.isSome
    have hdl : done.length ≤ ks.length := nodup_len hnd fun p hp => (hks p).2 (hsome p hp)
    obtain ⟨A, cap, rfl, hcap, hm⟩ := hown.val
    clear hr1 hO1 hB1
    go_wp2_with (at_next; refine wpList_nextMap (K := kPl) (encV := encS) _ rfl _ rfl b r n f ks done rfl hrg ?_ ?_)
    · intro hall
      have hsort := sortP_any hown (by omega)
      clear hks
      go_wp2_with (first | (go_at_call 126; refine hsort.mono ?_; rintro e w2 ⟨rfl, qs, hqp, hqs, hql, hqr, hqg⟩))
      have hnd' : qs.Nodup := hqp.nodup_iff.2 hnd
      have hlt' : qs.Pairwise LocLt := sorted_lt hnd' (hqs.imp fun {x y} h => by rw [ltOf_before] at h; exact of_decide_eq_false h)
      have hmem : ∀ v s, (v, s) ∈ qs ↔ (f (v, s)).isSome = true := fun v s => by
        rw [hqp.mem_iff]; exact ⟨fun h => hsome _ h, fun h => hall v s h⟩
      have hge := group_eq hf hlt' hmem
      have hob : ∀ g, A.map (·.block) = some g → w.heap.size ≤ g := fun g hg => (hown.lt g (by rw [own_map]; exact hg)).1
      have hb2 : Below w.heap.size w w2 := hb.grown hqg hb.size hob
      have hmap2 := hrg.owns.kept hqg (fun e => by have := hob b e.symm; omega)
      have HGE := Lib.hid hge
      have HLT := Lib.hid hlt'
      have HMEM := Lib.hid hmem
      have HQL := Lib.hid hql
      clear hrg hown hnd hsome hall hsort hqs hqp hnd' hlt' hmem hge hqg hob hb
      go_loopw [5, 28] (fun v5 i wr2 => ∃ k dvs, k ≤ qs.length ∧ i = .int .i64 (k : Nat) ∧ Outs 54 99 wr2 (w2.heap.size + 1) v5 (group (fun v s => f (v, s)) (qs.take k)).1 dvs ∧
        Blk wr2 w2.heap.size 170 #[.int .i64 (group (fun v s => f (v, s)) (qs.take k)).2.1, .int .i64 (group (fun v s => f (v, s)) (qs.take k)).2.2] ∧
        (w2.alloc (.cells #[.int .i64 (-1), .int .i64 0] 170)).grownBy wr2 (some w2.heap.size)) (fun _ i _ => qs.length - (intOf i).toNat)
      case atStart => exact ⟨0, [], Nat.zero_le _, rfl, Outs.nil _, Blk.new _ _ _, World.grownBy.refl _ _⟩
      case round =>
        obtain ⟨k, dvs, hk, rfl, hout, hblk, hW⟩ := hrel
        have hgb := hblk.lt
        by_cases hlt : k < qs.length
        · obtain ⟨⟨pa, pb⟩, hp⟩ : ∃ p, qs[k]? = some p := ⟨_, List.getElem?_eq_getElem hlt⟩
          have hfp := (HMEM.out pa pb).1 (List.mem_of_getElem? hp)
          obtain ⟨y, hy⟩ := Option.isSome_iff_exists.1 hfp
          have hdom : InDom pa pb := dom_of hf hy
          have hstep := group_snoc (fun v s => f (v, s)) (qs.take k) (pa, pb)
          have htk : qs.take (k + 1) = qs.take k ++ [(pa, pb)] := by
            obtain ⟨h1, h2⟩ := List.getElem?_eq_some_iff.1 hp
            rw [List.take_succ_eq_append_getElem h1, h2]
          rw [← htk] at hstep
          have hinv := group_inv (fun v s => f (v, s)) (qs.take k) (HLT.out.sublist (List.take_sublist _ _)) (fun q hq => by
            have h1 := (HMEM.out q.1 q.2).1 (List.take_subset _ _ hq)
            obtain ⟨z, hz⟩ := Option.isSome_iff_exists.1 h1
            exact (dom_of hf hz).1)
          have hgl0 := group_length (fun v s => f (v, s)) (qs.take k)
          rw [List.length_take] at hgl0
          generalize hst : group (fun v s => f (v, s)) (qs.take k) = st at *
          obtain ⟨out, n1, n2⟩ := st
          simp only at hout hblk hinv hgl0
          obtain ⟨bq, offq, csq, hA, hbq, hSq, _, hcq, hrq⟩ := hqr.at_ hp
          obtain rfl : csq = encPl (pa, pb) := hrq
          subst hA
          have hbn : bq < w2.heap.size := hbq
          have q0 := (World.cell?_of_block (w := w2) (a := ⟨bq, offq + k * 2 + 0, none⟩) ((hW.block bq (by simp; omega) (by simp; omega)).trans (Below.heap_alloc w2 _ bq hbn))).trans (hcq 0 (by omega))
          have q1 := (World.cell?_of_block (w := w2) (a := ⟨bq, offq + k * 2 + 1, none⟩) ((hW.block bq (by simp; omega) (by simp; omega)).trans (Below.heap_alloc w2 _ bq hbn))).trans (hcq 1 (by omega))
          simp [encPl] at q0 q1
          obtain ⟨A5, cap5, rfl, hc5, hm5⟩ := hout.val
          obtain ⟨x0, x1, x2, x3⟩ := hblk.two
          have hlook := fun W (h : MapIs kPl encS W b n f ks) => (h.look_some (t := 163) (e := 99) Try.underlying163 (Try.zeroValue99 W) hy).1
          obtain ⟨d0, d1, d2, d3⟩ := hdom
          have hW' := hW.size
          obtain ⟨t, ht⟩ : ∃ t : Bool, t = !(pa == n1 && pb == n2) := ⟨_, rfl⟩
          have hq : ∀ W : World, (binOp .neq 170 (.agg #[.int .i64 pa, .int .i64 pb]) (.agg #[.int .i64 n1, .int .i64 n2])).run Try.prog W = .ok (.bool t) W := fun W => by rw [neqP, ht]
          have HT := Lib.hid ht
          have HINV := Lib.hid hinv
          have HST := Lib.hid (And.intro hst hstep)
          have HP := Lib.hid (And.intro hp htk)
          have HF := Lib.hid (And.intro hf (And.intro hfp hy))
          clear ht hinv hst hstep hp htk hf hfp hy
          have hkl : k < done.length := by rw [← HQL.out]; exact hlt
          have hkd := decide_eq_true hkl
          go_upto_if 34 with (fail)
          go_cut [5] from 35 to 42 (fun v5 w' => ∃ out' x dvs2, (if ((pa, pb) : SLoc) = (n1, n2) then out else out ++ [(⟨pa, pb, []⟩ : Wr)]) = out' ++ [x] ∧ x.data.length ≤ 4096 ∧ Outs 54 99 w' (w2.heap.size + 1) v5 (out' ++ [x]) dvs2 ∧
            Blk w' wr.heap.size 170 #[.int .i64 pa, .int .i64 pb] ∧ Blk w' w2.heap.size 170 #[.int .i64 n1, .int .i64 n2] ∧ (w2.alloc (.cells #[.int .i64 (-1), .int .i64 0] 170)).grownBy w' (some w2.heap.size))
          case first =>
            cases t with
            | true =>
              have hnews : ∀ j u, (wrCells ⟨pa, pb, []⟩ (.slice none 0 0))[j]? = some u → ((wr.alloc (.cells #[.int .i64 pa, .int .i64 pb] 170)).alloc (.cells #[.int .i64 pa, .int .i64 pb, .slice none 0 0] 54)).cell? ((⟨wr.heap.size + 1, 0, none⟩ : Addr).add j) = some u := by
                have := heap_alloc_new (wr.alloc (.cells #[.int .i64 pa, .int .i64 pb] 170)) (.cells #[.int .i64 pa, .int .i64 pb, .slice none 0 0] 54)
                rw [World.size_alloc] at this
                exact World.news_of_block this
              have HNEWS := Lib.hid hnews
              clear hnews
              go_wp2_with (first | (at_builtin; refine wpList_push rfl _ _ 86 rfl 54 99 _ 40 Try.underlying86 infoW rfl (by decide) (w2.heap.size + 1) _ out dvs rfl ((hout.alloc _).alloc _) ⟨wr.heap.size + 1, 0, none⟩ ⟨pa, pb, []⟩ rfl rfl HNEWS.out (by omega) (by omega) (by simp; omega) ?_; intro g6 cap6 w6 hO6 hg6 hbg6))
              go_meet
              case rel =>
                have hne : ((pa, pb) : SLoc) ≠ (n1, n2) := fun e => by
                  injection e with e1 e2
                  have := HT.out; rw [e1, e2] at this; simp at this
                rw [if_neg hne]
                have hob : ∀ g, (Value.slice A5 out.length cap5).ownBlock = some g → w2.heap.size + 1 ≤ g ∧ g < wr.heap.size := fun g hg => hout.lt g hg
                have n0 : some wr.heap.size ≠ (Value.slice A5 out.length cap5).ownBlock := fun e => by have := hob _ e.symm; omega
                have n1' : some w2.heap.size ≠ (Value.slice A5 out.length cap5).ownBlock := fun e => by have := hob _ e.symm; omega
                refine ⟨out, ⟨pa, pb, []⟩, dvs ++ [.slice none 0 0], rfl, by simp, by simpa using hO6, ?_, ?_, ?_⟩
                · exact ((Blk.new _ _ _).alloc _).grown hg6 n0
                · exact ((hblk.alloc _).alloc _).grown hg6 n1'
                · exact (hW.andThen (World.grownBy_alloc _ _ none) (by simp)).andThen (World.grownBy_alloc _ _ none) (by simp) |>.andThen hg6 (fun j e => .inl (by have := hob j e; simp; omega))
            | false =>
              go_wp2
              go_meet
              case rel =>
                have he : pa = n1 ∧ pb = n2 := by
                  have := HT.out
                  simpa using this
                obtain ⟨rfl, rfl⟩ := he
                rw [if_pos rfl]
                obtain ⟨hf, hfp, hy⟩ := HF.out
                have hinv := HINV.out
                have hne : qs.take k ≠ [] := fun h => by
                  have := (hinv.first h).2
                  injection this with e1 e2
                  omega
                obtain ⟨out', x, rfl, hxv, hxs, _⟩ := hinv.last hne
                have hxl : x.data.length ≤ 4096 := by
                  have hxn := len_pos (hinv.canon.ne x (by simp))
                  have he := hinv.eff x.vol x.start
                  rw [eff_snoc, at?_some_of ⟨rfl, by omega, by omega⟩] at he
                  have hmm : (x.vol, x.start) ∈ qs.take k := Decidable.byContradiction fun hh => by rw [if_neg hh] at he; cases he
                  have h1 := (HMEM.out x.vol x.start).1 (List.take_subset _ _ hmm)
                  obtain ⟨z, hz⟩ := Option.isSome_iff_exists.1 h1
                  have := (dom_of hf hz).2.2.1
                  simp only at hxs
                  omega
                exact ⟨out', x, dvs, rfl, hxl, hout.alloc _, Blk.new _ _ _, hblk.alloc _, hW.andThen (World.grownBy_alloc _ _ none) (by simp)⟩
          case rest =>
            obtain ⟨out', x, dvs2, hoe, hxl, hO, hP, hN, hWc⟩ := hcut
            obtain ⟨dvs', dv, g, cap', rfl, hdl', rfl, hbg, hgl, hcl, hfz, hdv, cs', fr', hgc⟩ := hO.last
            obtain ⟨i1, hi1, hy0, hy1, hy2⟩ := info_parts infoS
            obtain ⟨cdv, o1, o2, o3, o4⟩ := hdv
            have hgdv : dv.ownBlock ≠ some g := by
              rcases o1.2 with ⟨rfl, _⟩ | ⟨g', cap0, cur, rfl, _, hh, _⟩
              · simp [Value.ownBlock]
              · intro he
                have : g' = g := by simpa [Value.ownBlock] using he
                subst this
                rw [hgc] at hh
                injection hh with hh
                injection hh with _ ht
                exact absurd ht (by decide)
            have hdlt := o1.lt
            have hpl := hP.lt
            have hnl := hN.lt
            have hpdv : some wr.heap.size ≠ dv.ownBlock := Ne.symm (own_blk_ne o1 hP (by decide))
            have hndv : some w2.heap.size ≠ dv.ownBlock := Ne.symm (own_blk_ne o1 hN (by decide))
            have hb2l := hmap2.lt
            have hbdv : some b ≠ dv.ownBlock := fun e => by have := hdlt _ e.symm; omega
            have hmapr := (hmap2.alloc (.cells #[.int .i64 (-1), .int .i64 0] 170)).kept hWc (by simp; omega)
            have hlook := (hmapr.look_some (t := 163) (e := 99) Try.underlying163 (Try.zeroValue99 _) HF.out.2.2).1
            simp only [kPl_enc, encS_eq] at hlook
            have hlk : (Instr.lookup 163 (.map (some b)) (.agg #[.int .i64 pa, .int .i64 pb]) false).run Try.prog wc.drew = .ok (.agg #[.int .u8 y.b0, .int .u8 y.b1, .int .u8 y.b2, .int .u8 y.b3, .int .u8 y.b4, .int .u8 y.b5, .int .u8 y.b6, .int .u8 y.b7]) wc.drew := by
              have := ((hmapr.drew).look_some (t := 163) (e := 99) Try.underlying163 (Try.zeroValue99 _) HF.out.2.2).1
              simpa only [kPl_enc, encS_eq] using this
            have hnb0 : (wc.alloc (.cells #[.int .u8 y.b0, .int .u8 y.b1, .int .u8 y.b2, .int .u8 y.b3, .int .u8 y.b4, .int .u8 y.b5, .int .u8 y.b6, .int .u8 y.b7] 99)).heap[wc.heap.size]? = some (.cells #[.int .u8 y.b0, .int .u8 y.b1, .int .u8 y.b2, .int .u8 y.b3, .int .u8 y.b4, .int .u8 y.b5, .int .u8 y.b6, .int .u8 y.b7] 99 (0, 0)) := heap_alloc_new _ _
            have hnb : ((wc.alloc (.cells #[.int .u8 y.b0, .int .u8 y.b1, .int .u8 y.b2, .int .u8 y.b3, .int .u8 y.b4, .int .u8 y.b5, .int .u8 y.b6, .int .u8 y.b7] 99)).drew).heap[wc.heap.size]? = some (.cells #[.int .u8 y.b0, .int .u8 y.b1, .int .u8 y.b2, .int .u8 y.b3, .int .u8 y.b4, .int .u8 y.b5, .int .u8 y.b6, .int .u8 y.b7] 99 (0, 0)) := hnb0
            obtain ⟨p0, p1, p2, p3⟩ := hP.two
            have hol : out'.length + 1 ≤ 9223372036854775807 := by
              obtain ⟨_, cc, _, l1, l2⟩ := hO.val
              unfold maxLen at l2
              simp at l1; omega
            have hgP : g ≠ wr.heap.size := fun e => by
              have h1 : wc.heap[wr.heap.size]? = _ := hP
              rw [← e, hgc] at h1
              injection h1 with h1
              injection h1 with _ ht
              exact absurd ht (by decide)
            have hgN : g ≠ w2.heap.size := by omega
            have HOE := Lib.hid hoe
            have HO := Lib.hid hO
            have HBL := Lib.hid (And.intro hP (And.intro hN hWc))
            have HO1 := Lib.hid (And.intro o2 (And.intro o3 o4))
            clear hoe hO hP hN hWc hblk hout hlook o2 o3 o4 x0 x1 x2 x3 q0 q1 hq hW hW' hmapr hbq hSq hcq
            go_wp2_with fail
            go_region_law (refine step_append_lies _ (by rfl) _ _ _ (by rfl) (w2.heap.size + 1) 99 i1 _ 8 8 Try.underlying52 hi1 hy0 hy1 hy2 rfl (by omega) dv x.data.length cdv.flatten (by rfl) ((o1.alloc _).drew) ⟨wc.heap.size, 0, none⟩ 1 1 (secCells y) (by rfl) (by rfl) (World.news_of_block hnb) (by simp [secCells, Value.oneCell']) (by omega) (by unfold maxLen; omega) (by omega) (by simp; omega) (wc.heap.size + 1) (by simp) ?_; intro g6 cap6 w6 hown6 hgrow hat6 hlt6; have hcl6 := (hgrow.cell_far ⟨g, out'.length * 3 + 2, none⟩ (by simp; omega) (Ne.symm hgdv)); have hfz6 := (hgrow.frozen_far ⟨g, out'.length * 3 + 2, none⟩ (by simp; omega) (Ne.symm hgdv)))
            all_goals
              have hO7 := Outs.grow (s := y) (w' := w6) (dv' := .slice (some ⟨g6, 0, none⟩) (x.data.length + 1) cap6) ((HO.out.alloc (.cells #[.int .u8 y.b0, .int .u8 y.b1, .int .u8 y.b2, .int .u8 y.b3, .int .u8 y.b4, .int .u8 y.b5, .int .u8 y.b6, .int .u8 y.b7] 99)).drew) hdl' (by decide) hgrow (by
                rcases hat6 with h | h
                · exact .inl h.symm
                · exact .inr ⟨g6, rfl, by simp; omega⟩) ⟨cdv ++ [secCells y], by simpa using hown6, by simp [HO1.out.1], (by
                    intro cs hc
                    rcases List.mem_append.1 hc with hc | hc
                    · exact HO1.out.2.1 cs hc
                    · obtain rfl := List.mem_singleton.1 hc; rfl), (by
                    intro j cs z hj hz
                    by_cases hjl : j < x.data.length
                    · rw [List.getElem?_append_left hjl] at hz
                      rw [List.getElem?_append_left (by rw [HO1.out.1]; omega)] at hj
                      exact HO1.out.2.2 j cs z hj hz
                    · rw [List.getElem?_append_right (by omega)] at hz
                      rw [List.getElem?_append_right (by rw [HO1.out.1]; omega)] at hj
                      have e1 : j - x.data.length = 0 := by have := (List.getElem?_eq_some_iff.1 hz).1; simp at this; omega
                      rw [HO1.out.1, e1] at hj
                      rw [e1] at hz
                      simp at hj hz
                      rw [← hj, ← hz]; rfl)⟩
              have hP7 := (((HBL.out.1.alloc (.cells #[.int .u8 y.b0, .int .u8 y.b1, .int .u8 y.b2, .int .u8 y.b3, .int .u8 y.b4, .int .u8 y.b5, .int .u8 y.b6, .int .u8 y.b7] 99)).drew.grown hgrow hpdv).far (p := ⟨g, out'.length * 3 + 2, none⟩) (Ne.symm hgP) (.slice (some ⟨g6, 0, none⟩) (x.data.length + 1) cap6))
              have hN7 := (((HBL.out.2.1.alloc (.cells #[.int .u8 y.b0, .int .u8 y.b1, .int .u8 y.b2, .int .u8 y.b3, .int .u8 y.b4, .int .u8 y.b5, .int .u8 y.b6, .int .u8 y.b7] 99)).drew.grown hgrow hndv).far (p := ⟨g, out'.length * 3 + 2, none⟩) (Ne.symm hgN) (.slice (some ⟨g6, 0, none⟩) (x.data.length + 1) cap6))
              have hW7 := (((HBL.out.2.2.andThen (World.grownBy_alloc _ (.cells #[.int .u8 y.b0, .int .u8 y.b1, .int .u8 y.b2, .int .u8 y.b3, .int .u8 y.b4, .int .u8 y.b5, .int .u8 y.b6, .int .u8 y.b7] 99) none) (by simp)).andThen (grown_drew _) (by simp)).andThen hgrow (fun j e => .inl (by have := hdlt j e; simp; omega))).andThen (grown_setCell w6 ⟨g, out'.length * 3 + 2, none⟩ (.slice (some ⟨g6, 0, none⟩) (x.data.length + 1) cap6)) (fun j e => .inl (by cases e; simp; omega))
              generalize w6.setCell ⟨g, out'.length * 3 + 2, none⟩ (.slice (some ⟨g6, 0, none⟩) (x.data.length + 1) cap6) = w7 at hO7 hP7 hN7 hW7 ⊢
              clear hgrow hown6 hcl6 hfz6 hat6 hlt6 hnb hnb0 hlk hcl hfz p0 p1 p2 p3 o1
              obtain ⟨r0, r1, r2, r3⟩ := hP7.two
              go_wp2_with (first | (go_at_call 125; refine (behind_any _ _ _ (by omega) (by omega)).mono ?_; rintro e w8 ⟨rfl, hb8⟩; have hN8 := hN7.below hb8; obtain ⟨t0, t1, t2, t3⟩ := hN8.two))
              go_roundw
              case rel =>
                have hy := HF.out.2.2
                have hN9 := hN8.set_ 0 (.int .i64 pa)
                have hg8 : w7.grownBy w8 (some w2.heap.size) := grown_below hb8 _
                have hres : group (fun v s => f (v, s)) (qs.take (k + 1)) = (out' ++ [⟨x.vol, x.start, x.data ++ [y]⟩], (pa, pb + 1)) := by
                  rw [HST.out.2]
                  simp only [groupStep]
                  rw [HOE.out, grow_snoc]
                  simp [gval, hy]
                refine ⟨k + 1, dvs' ++ [.slice (some ⟨g6, 0, none⟩) (x.data.length + 1) cap6], by omega, by go_num, ?_, ?_, ?_⟩
                · rw [hres]
                  have := ((hO7.below hb8).setCell (p := ⟨w2.heap.size, 0, none⟩) 170 hN8 (by decide) (by decide) (.int .i64 pa)).setCell (p := ⟨w2.heap.size, 1, none⟩) 170 hN9 (by decide) (by decide) (.int .i64 (pb + 1))
                  simpa using this
                · rw [hres]
                  have := hN9.set_ 1 (.int .i64 (pb + 1))
                  simpa using this
                · exact ((hW7.andThen (grown_below hb8 none) (by simp)).andThen (grown_setCell w8 ⟨w2.heap.size, 0, none⟩ (.int .i64 pa)) (fun j e => .inr e)).andThen (grown_setCell _ ⟨w2.heap.size, 1, none⟩ (.int .i64 (pb + 1))) (fun j e => .inr e)
              case measure => simp [intOf]; omega
        · have hkl : ¬ k < done.length := by rw [← HQL.out]; exact hlt
          go_wp2
          go_ret
          obtain rfl : k = qs.length := by omega
          rw [List.take_length, HGE.out] at hout
          have hb3 := ((hb2.alloc hb2.size (.cells #[.int .i64 (-1), .int .i64 0] 170)).grown hW (by have := hb2.size; simp; omega) (by intro j e; injection e with e; have := hb2.size; omega))
          have hpl := canon_placed (canonOf_canon fun v s => f (v, s)) (by rw [canonOf_eff' hf]; exact hf)
          exact ⟨_, rfl, hout.reads (fun x hx => ⟨in64_small (by have := (hpl x hx).v0; omega) (by have := (hpl x hx).v8; omega), in64_small (by have := (hpl x hx).s0; omega) (by have := (hpl x hx).s4; omega)⟩) (fun b h => by have := hb2.size; omega), hb3⟩
    · intro pa pb x w2 hp hfx hnot hrg2 hlt2 hg2 hs2 hen
      obtain ⟨cs0, hrow⟩ := hown.row
      have hown2 := hown.kept hg2 (.inr (Ne.symm (range_ne_own hrg hrow).1)) (by simp)
      obtain ⟨cs2, hrow2⟩ := hown2.row
      obtain ⟨hn1, hn2⟩ := range_ne_own hrg2 hrow2
      have hbs := hown2.lt
      have hb2 : Below w.heap.size w w2 := hb.grown hg2 hb.size (by intro j e; injection e with e; have := HR.out; omega)
      clear hks
      have HRG := Lib.hid hrg2
      have hb2s := hb2.size
      have HLT := Lib.hid hlt2
      have HN := Lib.hid (And.intro hn1 hn2)
      clear hrg hrg2 hlt2 hn1 hn2 hown hrow hrow2 hsome hnd hs2
      simp only [kPl_enc, encS_eq] at hen ⊢
      go_wp2_with (first | (at_builtin; refine wpList_appendNew rfl _ _ 172 rfl 170 _ 2 16 Try.underlying172 infoP rfl (by omega) (RPure encPl) w.heap.size (fun _ => False) _ done rfl (hown2.alloc _) #[.int .i64 pa, .int .i64 pb] (pa, pb) (w2.heap.size + 1) (by simp) rfl rfl (by simp [Value.oneCell']) rfl (by omega) (by omega) (by simp; omega) ?_; intro v5 w5 hown5 hg5 hat5))
      go_roundw
      case rel =>
        refine ⟨done ++ [(pa, pb)], ?_, hown5, ?_⟩
        · exact (HRG.out.alloc _).kept hg5 HN.out.2 HN.out.1
        · exact (hb2.alloc hb2.size _).grown hg5 (by simp; omega) (fun j e => (hbs j e).1)
      case measure =>
        have h1 := HRG.out.owns.lt
        have h2 := HRG.out.lt
        rw [rangeLeft_kept hg5 (by simp; omega) (by simp; omega) HN.out.2 HN.out.1, rangeLeft_kept (World.grownBy_alloc w2 _ none) h1 h2 (by simp) (by simp)]
        exact HLT.out
end Go.Proofs.Ytccbbecfmfldbaa

set_option maxRecDepth 100000
set_option linter.unusedVariables false
set_option linter.unusedSimpArgs false
namespace Go.Proofs.Ytccbbecfmfldbaa
open Go.RowKit Go.Mm Sb

/-! ### Sectors, check, Fold -/
set_option maxHeartbeats 1000000 in
theorem sectors_any (v : Value) (l : List Wr) (w : World) (S : Nat → Prop) (h : RWrs w S v l) (hsz : secN l ≤ 1000000000000) :
    Calls Try.prog 63 #[v] w fun e w' => e = .returned (.int .i64 (secN l : Nat)) ∧ Below w.heap.size w w' := by
  obtain ⟨A, cap, rfl, hcap, hm⟩ := h.val
  unfold maxLen at hm
  go_enter Try.func63, Try.ntmps63
  go_wp2
  go_loopw [3, 8] (fun n i wr => ∃ k : Nat, k ≤ l.length ∧ i = .int .i64 k ∧ n = .int .i64 (secN (l.take k) : Nat) ∧ Below w.heap.size w wr) (fun _ i _ => l.length - (intOf i).toNat)
  case atStart => exact ⟨0, Nat.zero_le _, rfl, rfl, Below.refl _ _⟩
  case round =>
    obtain ⟨k, hk, rfl, rfl, hb⟩ := hrel
    by_cases hlt : k < l.length
    · obtain ⟨x, hx⟩ : ∃ x, l[k]? = some x := ⟨_, List.getElem?_eq_getElem hlt⟩
      obtain ⟨b, off, cs, rfl, hbl, _, hl, hc, hr⟩ := h.at_ hx
      obtain ⟨_, _, dv, rfl, hd⟩ := hr
      obtain ⟨Ad, dcap, rfl, hdc, hdm⟩ := hd.val
      unfold maxLen at hdm
      have c0 := (hb.cell (p := ⟨b, off + k * 3 + 0, none⟩) hbl).trans (hc 0 (by omega))
      have c1 := (hb.cell (p := ⟨b, off + k * 3 + 1, none⟩) hbl).trans (hc 1 (by omega))
      have c2 := (hb.cell (p := ⟨b, off + k * 3 + 2, none⟩) hbl).trans (hc 2 (by omega))
      clear hc hl
      simp at c0 c1 c2
      have hs := secN_take hx
      have hs1 := secN_le (l := l) (k + 1)
      have HS := Lib.hid hs
      have hs2 : secN (l.take k) + x.data.length ≤ 1000000000000 := by omega
      clear hs
      go_wp2
      go_roundw
      case rel => exact ⟨k + 1, by omega, by go_num, by rw [HS.out]; simp, (hb.alloc hb.size _)⟩
      case measure => simp [intOf]; omega
    · go_wp2
      go_ret
      obtain rfl : k = l.length := by omega
      exact ⟨ret_int (by rw [List.take_length]), hb⟩

/-- The error of a list; f is that of a write alone. -/
def chkI (f : Wr → Int) : Option Wr → List Wr → Int
  | _, [] => 0
  | none, w :: t => if f w = 0 then chkI f (some w) t else f w
  | some x, w :: t => if f w = 0 then (if w.vol < x.vol ∨ w.vol = x.vol ∧ w.start ≤ x.start + x.data.length then 3 else chkI f (some w) t) else f w
def plI (w : Wr) : Int := placedI w.vol w.start w.data.length
theorem plI_zero {w : Wr} (h : plI w = 0) : 0 ≤ w.start ∧ w.start + w.data.length ≤ 4096 := by
  unfold plI placedI at h
  split at h
  · cases h
  · split at h
    · cases h
    · split at h
      · cases h
      · omega
def prevW (l : List Wr) (k : Nat) : Option Wr := if k = 0 then none else l[k - 1]?
theorem chk_first {f : Wr → Int} {l : List Wr} {x : Wr} (h : l[0]? = some x) : chkI f (prevW l 0) (l.drop 0) = if f x = 0 then chkI f (prevW l 1) (l.drop 1) else f x := by
  cases l with
  | nil => simp at h
  | cons a t => simp at h; subst h; simp [prevW, chkI]
theorem chk_next {f : Wr → Int} {l : List Wr} {k : Nat} {x y : Wr} (hx : l[k]? = some x) (hy : l[k + 1]? = some y) : chkI f (prevW l (k + 1)) (l.drop (k + 1)) =
    if f y = 0 then (if y.vol < x.vol ∨ y.vol = x.vol ∧ y.start ≤ x.start + x.data.length then 3 else chkI f (prevW l (k + 2)) (l.drop (k + 2))) else f y := by
  obtain ⟨hk, rfl⟩ := List.getElem?_eq_some_iff.1 hx
  obtain ⟨hk1, rfl⟩ := List.getElem?_eq_some_iff.1 hy
  have e1 : prevW l (k + 1) = some l[k] := by simp [prevW, hk]
  have e2 : prevW l (k + 2) = some l[k + 1] := by simp [prevW, hk1]
  rw [List.drop_eq_getElem_cons hk1, e1, e2]
  rfl
theorem chk_end {f : Wr → Int} {l : List Wr} : chkI f (prevW l l.length) (l.drop l.length) = 0 := by
  rw [List.drop_length]; unfold chkI; cases prevW l l.length <;> rfl
set_option maxHeartbeats 4000000 in
theorem check_any (v : Value) (l : List Wr) (w : World) (S : Nat → Prop) (h : RWrs w S v l) :
    Calls Try.prog 91 #[v, .func (.func 119) #[] #[]] w fun e w' => e = .returned (.int .i64 (chkI plI none l)) ∧ Below w.heap.size w w' := by
  obtain ⟨A, cap, rfl, hcap, hm⟩ := h.val
  unfold maxLen at hm
  go_enter Try.func91, Try.ntmps91
  go_wp2
  go_loopw [11] (fun i wr => ∃ k : Nat, k ≤ l.length ∧ i = .int .i64 k ∧ chkI plI none l = chkI plI (prevW l k) (l.drop k) ∧ (∀ x, 0 < k → l[k-1]? = some x → plI x = 0) ∧ Below w.heap.size w wr) (fun i _ => l.length - (intOf i).toNat)
  case atStart => exact ⟨0, Nat.zero_le _, rfl, rfl, by omega, Below.refl _ _⟩
  case round =>
    obtain ⟨k, hk, rfl, hI, hpr, hb⟩ := hrel
    by_cases hlt : k < l.length
    · obtain ⟨x, hx⟩ : ∃ x, l[k]? = some x := ⟨_, List.getElem?_eq_getElem hlt⟩
      obtain ⟨b, off, cs, hA, hbl, _, hl, hc, hr⟩ := h.at_ hx
      obtain ⟨hv64, hs64, dv, rfl, hd⟩ := hr
      obtain ⟨Ad, dcap, rfl, hdc, hdm⟩ := hd.val
      unfold maxLen at hdm
      have c0 := (hb.cell (p := ⟨b, off + k * 3 + 0, none⟩) hbl).trans (hc 0 (by omega))
      have c1 := (hb.cell (p := ⟨b, off + k * 3 + 1, none⟩) hbl).trans (hc 1 (by omega))
      have c2 := (hb.cell (p := ⟨b, off + k * 3 + 2, none⟩) hbl).trans (hc 2 (by omega))
      clear hc hl
      have HI := Lib.hid hI
      have HPR := Lib.hid hpr
      have HX := Lib.hid hx
      clear hI hpr hx
      by_cases hz : placedI x.vol x.start x.data.length = 0
      · rcases Nat.eq_zero_or_pos k with rfl | hk0
        · subst hA
          simp at c0 c1 c2
          go_wp2_with (first | (go_at_call 119; refine (placed_any _ _ _ _ _ _ (by omega)).mono ?_; rintro e w1 ⟨rfl, hb1⟩; rw [hz]))
          go_roundw
          case rel => exact ⟨1, by omega, by go_num, by rw [HI.out, chk_first HX.out, if_pos (show plI x = 0 from hz)], (fun y _ hy => by rw [show y = x by simpa [HX.out] using hy.symm]; exact hz), below_then (hb.alloc hb.size _) (by have := hb.size; simp; omega) hb1⟩
          case measure => simp [intOf]; omega
        · obtain ⟨m, rfl⟩ : ∃ m, k = m + 1 := ⟨k - 1, by omega⟩
          obtain ⟨y, hy⟩ : ∃ y, l[m]? = some y := ⟨_, List.getElem?_eq_getElem (by omega)⟩
          obtain ⟨b2, off2, cs2, hA2, hbl2, _, hl2, hc2, hr2⟩ := h.at_ hy
          obtain ⟨hv642, hs642, dv2, rfl, hd2⟩ := hr2
          obtain ⟨Ad2, dcap2, rfl, hdc2, hdm2⟩ := hd2.val
          unfold maxLen at hdm2
          obtain ⟨rfl, rfl⟩ : b2 = b ∧ off2 = off := by rw [hA] at hA2; injection hA2 with e; injection e with e1 e2; exact ⟨e1.symm, e2.symm⟩
          subst hA
          clear hA2
          have hD : ∀ W, Below w.heap.size w W → W.cell? ⟨b2, off2 + m * 3, none⟩ = some (.int .i64 y.vol) ∧ W.cell? ⟨b2, off2 + m * 3 + 1, none⟩ = some (.int .i64 y.start) ∧ W.cell? ⟨b2, off2 + m * 3 + 2, none⟩ = some (.slice Ad2 y.data.length dcap2) := fun W hW =>
            ⟨(hW.cell hbl2).trans (hc2 0 (by omega)), (hW.cell hbl2).trans (hc2 1 (by omega)), (hW.cell hbl2).trans (hc2 2 (by omega))⟩
          simp at c0 c1 c2
          have hzy := plI_zero (HPR.out y (by omega) (by simpa using hy))
          have HY := Lib.hid hy
          clear hc2 hl2 hy
          have t0 : ((m : Int) + 1 == 0) = false := by simp; omega
          by_cases hg1 : x.vol < y.vol
          · have t1 := decide_eq_true hg1
            go_wp2_with (first | (go_at_call 119; refine (placed_any _ _ _ _ _ _ (by omega)).mono ?_; rintro e w1 ⟨rfl, hb1⟩; rw [hz]; have HB := below_then (hb.alloc hb.size _) (by have := hb.size; simp; omega) hb1; obtain ⟨d0, d1, d2⟩ := hD w1 HB; obtain ⟨q0, q1, q2, q3, q4, q5⟩ := ((Blk.new wr 54 #[.int .i64 x.vol, .int .i64 x.start, .slice Ad x.data.length dcap]).below hb1).three; have q7 : wr.heap.size < w1.heap.size := by have := hb1.size; simp at this; omega))
            go_ret
            refine ⟨ret_int ?_, ?_⟩
            · rw [HI.out, chk_next HY.out HX.out, if_pos (show plI x = 0 from hz), if_pos (.inl hg1)]
            · exact (below_then (below_then (hb.alloc hb.size _) (by have := hb.size; simp; omega) hb1) (by have := hb.size; omega) ((Below.refl _ _).alloc (Nat.le_refl _) _))
          · have t1 := decide_eq_false hg1
            obtain ⟨xv, xs, xd⟩ := x
            obtain ⟨yv, ys, yd⟩ := y
            simp only at *
            by_cases hg2 : xv = yv
            · subst hg2
              by_cases hg3 : xs ≤ ys + yd.length
              · have t3 := decide_eq_true hg3
                go_wp2_with (first | (go_at_call 119; refine (placed_any _ _ _ _ _ _ (by omega)).mono ?_; rintro e w1 ⟨rfl, hb1⟩; rw [hz]; have HB := below_then (hb.alloc hb.size _) (by have := hb.size; simp; omega) hb1; obtain ⟨d0, d1, d2⟩ := hD w1 HB; obtain ⟨q0, q1, q2, q3, q4, q5⟩ := ((Blk.new wr 54 #[.int .i64 xv, .int .i64 xs, .slice Ad xd.length dcap]).below hb1).three; have q7 : wr.heap.size < w1.heap.size := by have := hb1.size; simp at this; omega))
                go_ret
                refine ⟨ret_int ?_, ?_⟩
                · rw [HI.out, chk_next HY.out HX.out, if_pos (show plI ⟨xv, xs, xd⟩ = 0 from hz), if_pos (.inr ⟨rfl, hg3⟩)]
                · exact (below_then (below_then (hb.alloc hb.size _) (by have := hb.size; simp; omega) hb1) (by have := hb.size; omega) ((Below.refl _ _).alloc (Nat.le_refl _) _))
              · have t3 := decide_eq_false hg3
                go_wp2_with (first | (go_at_call 119; refine (placed_any _ _ _ _ _ _ (by omega)).mono ?_; rintro e w1 ⟨rfl, hb1⟩; rw [hz]; have HB := below_then (hb.alloc hb.size _) (by have := hb.size; simp; omega) hb1; obtain ⟨d0, d1, d2⟩ := hD w1 HB; obtain ⟨q0, q1, q2, q3, q4, q5⟩ := ((Blk.new wr 54 #[.int .i64 xv, .int .i64 xs, .slice Ad xd.length dcap]).below hb1).three; have q7 : wr.heap.size < w1.heap.size := by have := hb1.size; simp at this; omega))
                go_roundw
                case rel =>
                  refine ⟨m + 2, by omega, by go_num, ?_, ?_, ?_⟩
                  · rw [HI.out, chk_next HY.out HX.out, if_pos (show plI ⟨xv, xs, xd⟩ = 0 from hz), if_neg (by simp only; omega)]
                  · intro z _ hz2
                    rw [show m + 2 - 1 = m + 1 by omega, HX.out] at hz2
                    injection hz2 with hz2
                    rw [← hz2]; exact hz
                  · exact (below_then (below_then (hb.alloc hb.size _) (by have := hb.size; simp; omega) hb1) (by have := hb.size; omega) ((Below.refl _ _).alloc (Nat.le_refl _) _))
                case measure => simp [intOf]; omega
            · have t2 : (xv == yv) = false := by simpa using hg2
              go_wp2_with (first | (go_at_call 119; refine (placed_any _ _ _ _ _ _ (by omega)).mono ?_; rintro e w1 ⟨rfl, hb1⟩; rw [hz]; have HB := below_then (hb.alloc hb.size _) (by have := hb.size; simp; omega) hb1; obtain ⟨d0, d1, d2⟩ := hD w1 HB; obtain ⟨q0, q1, q2, q3, q4, q5⟩ := ((Blk.new wr 54 #[.int .i64 xv, .int .i64 xs, .slice Ad xd.length dcap]).below hb1).three; have q7 : wr.heap.size < w1.heap.size := by have := hb1.size; simp at this; omega))
              go_roundw
              case rel =>
                  refine ⟨m + 2, by omega, by go_num, ?_, ?_, ?_⟩
                  · rw [HI.out, chk_next HY.out HX.out, if_pos (show plI ⟨xv, xs, xd⟩ = 0 from hz), if_neg (by simp only; omega)]
                  · intro z _ hz2
                    rw [show m + 2 - 1 = m + 1 by omega, HX.out] at hz2
                    injection hz2 with hz2
                    rw [← hz2]; exact hz
                  · exact (below_then (below_then (hb.alloc hb.size _) (by have := hb.size; simp; omega) hb1) (by have := hb.size; omega) ((Below.refl _ _).alloc (Nat.le_refl _) _))
              case measure => simp [intOf]; omega
      · subst hA
        simp at c0 c1 c2
        go_wp2_with (first | (go_at_call 119; refine (placed_any _ _ _ _ _ _ (by omega)).mono ?_; rintro e w1 ⟨rfl, hb1⟩))
        go_ret
        refine ⟨ret_int ?_, below_then (hb.alloc hb.size _) (by have := hb.size; simp; omega) hb1⟩
        rw [HI.out]
        rcases Nat.eq_zero_or_pos k with rfl | hk0
        · rw [chk_first HX.out, if_neg (show ¬ plI x = 0 from hz)]; rfl
        · obtain ⟨m, rfl⟩ : ∃ m, k = m + 1 := ⟨k - 1, by omega⟩
          obtain ⟨y, hy⟩ : ∃ y, l[m]? = some y := ⟨_, List.getElem?_eq_getElem (by omega)⟩
          rw [chk_next hy HX.out, if_neg (show ¬ plI x = 0 from hz)]; rfl
    · go_wp2
      go_ret
      obtain rfl : k = l.length := by omega
      exact ⟨ret_int (by rw [hI, chk_end]), hb⟩
end Go.Proofs.Ytccbbecfmfldbaa

set_option maxRecDepth 100000
set_option linter.unusedVariables false
set_option linter.unusedSimpArgs false
namespace Go.Proofs.Ytccbbecfmfldbaa
open Go.RowKit Go.Mm Sb

/-! ### Fold -/
def foldI : List Wr → Int
  | [] => 0
  | w :: t => if plI w = 0 then foldI t else plI w
theorem foldI_step {l : List Wr} {k : Nat} {x : Wr} (h : l[k]? = some x) : foldI (l.drop k) = if plI x = 0 then foldI (l.drop (k + 1)) else plI x := by
  obtain ⟨hk, rfl⟩ := List.getElem?_eq_some_iff.1 h
  rw [List.drop_eq_getElem_cons hk]; rfl
theorem plI_placed {w : Wr} (h : plI w = 0) : Placed w := by
  unfold plI placedI at h
  split at h
  · cases h
  · split at h
    · cases h
    · split at h
      · cases h
      · exact ⟨by omega, by omega, (by intro e; simp [e] at *), by omega, by omega⟩
theorem foldI_placed : ∀ {l : List Wr}, foldI l = 0 → AllPlaced l
  | [], _ => by intro w hw; simp at hw
  | x :: t, h => by
    unfold foldI at h
    split at h
    · rename_i hx
      intro w hw
      rcases List.mem_cons.1 hw with rfl | hw
      · exact plI_placed hx
      · exact foldI_placed h w hw
    · rename_i hx; exact absurd h hx
/-- (list, error) -/
def RetWrsE (l : List Wr) (e : Int) (w : World) (en : Ending) (w' : World) : Prop :=
  ∃ v, en = .returned (.tuple #[v, .int .i64 e]) ∧ RWrs w' (fun b => w.heap.size ≤ b) v l ∧ Below w.heap.size w w'
def foldR (l : List Wr) : List Wr := if foldI l = 0 then foldW l else []
theorem secN_wrap (l : List Wr) : True := trivial
set_option maxHeartbeats 2000000 in
theorem fold_any (v : Value) (l : List Wr) (w : World) (S : Nat → Prop) (h : RWrs w S v l) (hsz : secN l ≤ 1000000000000) :
    Calls Try.prog 106 #[v] w (RetWrsE (foldR l) (foldI l) w) := by
  obtain ⟨A, cap, rfl, hcap, hm⟩ := h.val
  unfold maxLen at hm
  go_enter Try.func106, Try.ntmps106
  go_wp2
  go_loopw [9] (fun i wr => ∃ k : Nat, k ≤ l.length ∧ i = .int .i64 k ∧ foldI l = foldI (l.drop k) ∧ (∀ x ∈ l.take k, plI x = 0) ∧ Below w.heap.size w wr) (fun i _ => l.length - (intOf i).toNat)
  case atStart => exact ⟨0, Nat.zero_le _, rfl, rfl, by simp, Below.refl _ _⟩
  case round =>
    obtain ⟨k, hk, rfl, hI, hpr, hb⟩ := hrel
    by_cases hlt : k < l.length
    · obtain ⟨x, hx⟩ : ∃ x, l[k]? = some x := ⟨_, List.getElem?_eq_getElem hlt⟩
      obtain ⟨b, off, cs, rfl, hbl, _, hl, hc, hr⟩ := h.at_ hx
      obtain ⟨hv64, hs64, dv, rfl, hd⟩ := hr
      obtain ⟨Ad, dcap, rfl, hdc, hdm⟩ := hd.val
      unfold maxLen at hdm
      have c0 := (hb.cell (p := ⟨b, off + k * 3 + 0, none⟩) hbl).trans (hc 0 (by omega))
      have c1 := (hb.cell (p := ⟨b, off + k * 3 + 1, none⟩) hbl).trans (hc 1 (by omega))
      have c2 := (hb.cell (p := ⟨b, off + k * 3 + 2, none⟩) hbl).trans (hc 2 (by omega))
      clear hc hl
      simp at c0 c1 c2
      have HI := Lib.hid hI
      have HPR := Lib.hid hpr
      have HX := Lib.hid hx
      clear hI hpr hx
      by_cases hz : placedI x.vol x.start x.data.length = 0
      · go_wp2_with (first | (go_at_call 119; refine (placed_any _ _ _ _ _ _ (by omega)).mono ?_; rintro e w1 ⟨rfl, hb1⟩; rw [hz]))
        go_roundw
        case rel =>
          refine ⟨k + 1, by omega, by go_num, ?_, ?_, below_then (hb.alloc hb.size _) (by have := hb.size; simp; omega) hb1⟩
          · rw [HI.out, foldI_step HX.out, if_pos (show plI x = 0 from hz)]
          · intro y hy
            obtain ⟨hkk, hxx⟩ := List.getElem?_eq_some_iff.1 HX.out
            rw [List.take_succ_eq_append_getElem hkk] at hy
            rcases List.mem_append.1 hy with hy | hy
            · exact HPR.out y hy
            · obtain rfl := List.mem_singleton.1 hy; rw [hxx]; exact hz
        case measure => simp [intOf]; omega
      · go_wp2_with (first | (go_at_call 119; refine (placed_any _ _ _ _ _ _ (by omega)).mono ?_; rintro e w1 ⟨rfl, hb1⟩))
        have hfe : foldI l = placedI x.vol x.start x.data.length := by rw [HI.out, foldI_step HX.out, if_neg (show ¬ plI x = 0 from hz)]; rfl
        refine bodyPost_ret (v := .tuple #[.slice none 0 0, .int .i64 (foldI l)]) (by simp [results, Try.results106, go_sem, hfe]) rfl ⟨_, rfl, ?_, below_then (hb.alloc hb.size _) (by have := hb.size; simp; omega) hb1⟩
        unfold foldR
        rw [if_neg (by rw [hfe]; exact hz)]
        exact RSl.nil _ _
    · obtain rfl : k = l.length := by omega
      have hI0 : foldI l = 0 := by rw [hI, List.drop_length]; rfl
      have hap : AllPlaced l := foldI_placed hI0
      have heb := eff_bounded hap
      have hr0 : canonOf (fun v s => effP l (v, s)) = foldR l := by unfold foldR; rw [if_pos hI0]; rfl
      have HR := Lib.hid hr0
      have HAP := Lib.hid hap
      have HEB := Lib.hid heb
      clear hpr hI hap heb hr0
      have hh := h.below hb
      go_wp2_with (first | (go_at_call 120; refine (effect_any _ l _ S hh HAP.out hsz).mono ?_; rintro e w1 ⟨mb, ks, rfl, hmap, hmb, hb1⟩) | (go_at_call 121; refine (canonical_any _ _ _ ks _ hmap HEB.out hsz).mono ?_; rintro e w2 ⟨v2, rfl, hv2, hb2⟩))
      refine bodyPost_ret (v := .tuple #[v2, .int .i64 (foldI l)]) (by simp [results, Try.results106, go_sem, hI0]) rfl ⟨_, rfl, ?_, ?_⟩
      · have h1 := hb.size
        have h2 := hb1.size
        rw [HR.out] at hv2
        exact hv2.more fun b _ hbb => by omega
      · exact below_then (below_then hb hb.size hb1) (by have := hb.size; have := hb1.size; omega) hb2
end Go.Proofs.Ytccbbecfmfldbaa
