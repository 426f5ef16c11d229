import Derived.Test.YtccbbecfmfldbaaQ2
import Derived.Test.YtccbbecfmfldbaaQ23
import Derived.Test.YtccbbecfmfldbaaQ14
import Derived.Test.YtccbbecfmfldbaaQ22
set_option linter.unusedVariables false
set_option linter.unusedSimpArgs false
namespace Go.Mm
open Go.RowKit Sb

/-! ### a part of a slice that is read -/
section
variable {k : Nat} {α : Type} {R : ERel α} {w : World} {S : Nat → Prop} {xs : List α}
theorem RSl.sub {b off n cap : Nat} (h : RSl k R w S (.slice (some ⟨b, off, none⟩) n cap) xs) (lo len : Nat) (hlo : lo + len ≤ xs.length) :
    RSl k R w S (.slice (some ⟨b, off + lo * k, none⟩) len (cap - lo)) ((xs.drop lo).take len) := by
  obtain ⟨A', cap', hv, h1, h2, h3⟩ := h
  injection hv with e1 e2 e3
  subst e3
  have hl : ((xs.drop lo).take len).length = len := by rw [List.length_take, List.length_drop]; omega
  refine ⟨_, cap - lo, by rw [hl], by omega, by omega, fun h0 => ?_⟩
  obtain ⟨b', off', hA, hlt, hS, hx⟩ := h3 (by omega)
  rw [hA] at e1
  injection e1 with e1
  injection e1 with e1 e4
  subst e1; subst e4
  refine ⟨b, off + lo * k, rfl, hlt, hS, fun j x hj => ?_⟩
  have hj' : j < len := by have := (List.getElem?_eq_some_iff.1 hj).1; omega
  rw [List.getElem?_take, if_pos hj', List.getElem?_drop] at hj
  obtain ⟨cs, c1, c2, c3⟩ := hx (lo + j) x hj
  refine ⟨cs, c1, fun i hi => ?_, c3⟩
  have := c2 i hi
  rw [Nat.add_mul, ← Nat.add_assoc] at this
  exact this
theorem RSl.ptr {A : Option Addr} {n cap : Nat} (h : RSl k R w S (.slice A n cap) xs) (hne : 0 < xs.length) : ∃ b off, A = some ⟨b, off, none⟩ ∧ b < w.heap.size ∧ S b := by
  obtain ⟨A', cap', hv, h1, h2, h3⟩ := h
  injection hv with e1 e2 e3
  obtain ⟨b, off, hA, hlt, hS, _⟩ := h3 hne
  exact ⟨b, off, e1.trans hA, hlt, hS⟩
end
theorem wrapJ {z : Int} (h1 : -9223372036854775808 ≤ z) (h2 : z ≤ 9223372036854775807) : IntKind.i64.wrap z = z := by
  have hb : IntKind.i64.bits = 64 := by decide
  have hs : IntKind.i64.signed = true := by decide
  unfold IntKind.wrap
  rw [hb, hs]
  simp
  omega
end Go.Mm

set_option maxRecDepth 100000
set_option linter.unusedVariables false
set_option linter.unusedSimpArgs false
namespace Go.Proofs.Ytccbbecfmfldbaa
open Go.RowKit Go.Mm Sb

/-! ### snapshots: New, Cost, contents -/
def noS : Snaps := ⟨[], []⟩
/-- (snapshots, error) -/
def RetS (s : Snaps) (n : Int) (w : World) (e : Ending) (w' : World) : Prop :=
  ∃ cv iv, e = .returned (.tuple #[.agg #[cv, iv], .int .i64 n]) ∧ RImg w' (fun b => w.heap.size ≤ b) cv s.cur ∧ RSnaps w' (fun b => w.heap.size ≤ b) iv s.items ∧ Below w.heap.size w w'
def newS (im : List (List Sec)) : Snaps := if sizesI (lens im) = 0 then ⟨im, []⟩ else noS
theorem OkS.fresh {im : List (List Sec)} (h : sizesI (lens im) = 0) : OkS ⟨im, []⟩ := ⟨h, by simp, by simp, by simp, by simp, .nil, .nil⟩
set_option maxHeartbeats 4000000 in
theorem snNew_any (v : Value) (im : List (List Sec)) (w : World) (S : Nat → Prop) (h : RImg w S v im) (hl : im.length ≤ 100000) :
    Calls Try.prog 16 #[v] w (RetS (newS im) (sizesI (lens im)) w) := by
  have BA : Below w.heap.size w (w.alloc (.cells #[.slice none 0 0, .slice none 0 0] 26)) := (Below.refl _ _).alloc (Nat.le_refl _) _
  have K0 : Blk (w.alloc (.cells #[.slice none 0 0, .slice none 0 0] 26)) w.heap.size 26 #[.slice none 0 0, .slice none 0 0] := Blk.new _ _ _
  have hcl := imgCheck_any v im _ S (h.below BA) hl
  obtain ⟨A, cap, rfl, hcap, hm⟩ := h.val
  go_enter Try.func16, Try.ntmps16
  go_wp2_with fail
  refine hcl.mono ?_
  rintro e w1 ⟨rfl, hb1⟩
  clear hcl
  have B1 := below_then BA BA.size hb1
  have K1 := K0.below hb1
  have l1 := K1.lt
  obtain ⟨x0, x1, x2, x3⟩ := K1.two
  clear K0 BA hb1
  by_cases hz : sizesI (lens im) = 0
  · have hns : newS im = ⟨im, []⟩ := by unfold newS; rw [if_pos hz]
    have hcp := snCopied_any (.slice A im.length cap) (.slice none 0 0) ⟨im, []⟩ w1 S (h.below B1) (RSl.nil _ _) (OkS.fresh hz).small
    rw [hz]
    have HZ := Lib.hid hz
    have HN := Lib.hid hns
    clear hz hns
    go_wp2_with fail
    refine hcp.mono ?_
    rintro e w2 ⟨cv, iv, rfl, hO, hb2⟩
    clear hcp
    have hR := hO.reads
    obtain ⟨hR1, hR2⟩ := hR
    obtain ⟨Acv, ccv, rfl, _, _⟩ := hR1.val
    obtain ⟨Aiv, civ, rfl, _, _⟩ := hR2.val
    have B2 := below_then B1 B1.size hb2
    have K2 := K1.below hb2
    have l2 := K2.lt
    clear x0 x1 x2 x3
    obtain ⟨x0, x1, x2, x3⟩ := K2.two
    have BF := (B2.setCell (p := ⟨w.heap.size, 0, none⟩) (by simp) (.slice Acv im.length ccv)).setCell (p := ⟨w.heap.size, 1, none⟩) (by simp) (.slice Aiv 0 civ)
    have BK : ∀ b, b < w2.heap.size → w1.heap.size ≤ b → ((w2.setCell ⟨w.heap.size, 0, none⟩ (.slice Acv im.length ccv)).setCell ⟨w.heap.size, 1, none⟩ (.slice Aiv 0 civ)).heap[b]? = w2.heap[b]? := fun b hb h1 =>
      (Below.heap_setCell _ _ _ _ (by simp; omega)).trans (Below.heap_setCell _ _ _ _ (by simp; omega))
    have X1 := (hR1.keep BK).more (T := fun b => w.heap.size ≤ b) (fun b _ hh => by omega)
    have X2 := (hR2.keep BK).more (T := fun b => w.heap.size ≤ b) (fun b _ hh => by omega)
    have HX := Lib.hid (And.intro X1 (And.intro X2 BF))
    clear X1 X2 BF BK hR1 hR2 hO K1 K2
    simp only [List.length_nil]
    go_wp2
    exact bodyPost_ret (v := .tuple #[.agg #[.slice Acv im.length ccv, .slice Aiv 0 civ], .int .i64 0]) (by simp [results, Try.results16, go_sem, l2, x0, x1, x2, x3]) rfl ⟨_, _, by rw [HZ.out], by rw [HN.out]; exact HX.out.1, by rw [HN.out]; exact HX.out.2.1, HX.out.2.2⟩
  · have hns : newS im = noS := by unfold newS; rw [if_neg hz]
    have hz' : (sizesI (lens im) != 0) = true := by simpa using hz
    have HB := Lib.hid B1
    have HN := Lib.hid hns
    clear B1 hns hz
    go_wp2
    exact bodyPost_ret (v := .tuple #[.agg #[.slice none 0 0, .slice none 0 0], .int .i64 (sizesI (lens im))]) (by simp [results, Try.results16, go_sem, l1, x0, x1, x2, x3]) rfl ⟨_, _, rfl, by rw [HN.out]; exact RSl.nil _ _, by rw [HN.out]; exact RSl.nil _ _, (HB.out.setCell (by simp) _).setCell (by simp) _⟩
def costS (s : Snaps) : Int := if chkS s = 0 then ((s.items.map fun x => secN x.saved).sum : Nat) else 0
def costK (l : List Snap) (k : Nat) : Nat := ((l.take k).map fun x => secN x.saved).sum
theorem costK_succ {l : List Snap} {k : Nat} {x : Snap} (h : l[k]? = some x) : costK l (k + 1) = costK l k + secN x.saved := by
  obtain ⟨hk, rfl⟩ := List.getElem?_eq_some_iff.1 h
  unfold costK
  rw [List.take_succ_eq_append_getElem hk]
  simp only [List.map_append, List.sum_append, List.map_cons, List.map_nil, List.sum_cons, List.sum_nil, Nat.add_zero]
theorem costK_le {l : List Snap} (h : ∀ x ∈ l, secN x.saved ≤ 32776) : ∀ k, costK l k ≤ k * 32776
  | 0 => by simp [costK]
  | k + 1 => by
    have ih := costK_le h k
    rcases hx : l[k]? with _ | x
    · have : costK l (k + 1) = costK l k := by
        have hk := List.getElem?_eq_none_iff.1 hx
        unfold costK
        rw [List.take_of_length_le hk, List.take_of_length_le (by omega)]
      omega
    · have := h x (List.mem_of_getElem? hx)
      rw [costK_succ hx]; omega
set_option maxHeartbeats 4000000 in
theorem snCost_any (vc vi : Value) (s : Snaps) (w : World) (S T : Nat → Prop) (hc : RImg w S vc s.cur) (hi : RSnaps w T vi s.items) (hl : s.cur.length ≤ 100000) :
    Calls Try.prog 21 #[.agg #[vc, vi]] w fun e w' => e = .returned (.int .i64 (costS s)) ∧ Below w.heap.size w w' := by
  obtain ⟨Ac, cc, rfl, hcc, hcm⟩ := hc.val
  obtain ⟨Ai, ci, rfl, hic, him⟩ := hi.val
  unfold maxLen at hcm him
  have BA : Below w.heap.size w (w.alloc (.cells #[.slice Ac s.cur.length cc, .slice Ai s.items.length ci] 26)) := (Below.refl _ _).alloc (Nat.le_refl _) _
  have K0 : Blk (w.alloc (.cells #[.slice Ac s.cur.length cc, .slice Ai s.items.length ci] 26)) w.heap.size 26 #[.slice Ac s.cur.length cc, .slice Ai s.items.length ci] := Blk.new _ _ _
  have hcl := snCheck_any _ _ s _ S T (hc.below BA) (hi.below BA) hl
  go_enter Try.func21, Try.ntmps21
  go_wp2_with fail
  refine hcl.mono ?_
  rintro e w1 ⟨rfl, hb1⟩
  clear hcl
  have B1 := below_then BA BA.size hb1
  have K1 := K0.below hb1
  have l1 := K1.lt
  obtain ⟨x0, x1, x2, x3⟩ := K1.two
  clear K0 BA hb1
  by_cases hz : chkS s = 0
  · have hcs : costS s = (costK s.items s.items.length : Nat) := by unfold costS costK; rw [if_pos hz, List.take_length]
    have hsm := (chkS_ok hz).small
    have hlen := hsm.len
    have hsec := hsm.sec
    rw [hz]
    have HC := Lib.hid hcs
    clear hcs hsm hz
    obtain ⟨cur, items⟩ := s
    simp only at *
    go_wp2
    clear x0 x1 x2 x3 K1
    go_loopw [3, 12] (fun n i wr => ∃ k : Nat, k ≤ items.length ∧ i = .int .i64 k ∧ n = .int .i64 (costK items k : Nat) ∧ Below w.heap.size w wr) (fun _ i _ => items.length - (intOf i).toNat)
    case atStart => exact ⟨0, Nat.zero_le _, rfl, rfl, B1⟩
    case round =>
      clear B1
      obtain ⟨k, hk, rfl, rfl, hb⟩ := hrel
      have hbs := hb.size
      by_cases hlt : k < items.length
      · obtain ⟨x, hx⟩ : ∃ x, items[k]? = some x := ⟨_, List.getElem?_eq_getElem hlt⟩
        obtain ⟨b, off, cs, rfl, hbl, _, hll, hccc, hn64, ht64, dv, rfl, hd⟩ := hi.at_ hx
        have hs1 := hsec x (List.mem_of_getElem? hx)
        have hck := costK_le hsec k
        have hcs := costK_succ hx
        obtain ⟨num, time, saved⟩ := x
        simp only at *
        obtain ⟨Ad, dcap, rfl, hdc, hdm⟩ := hd.val
        have c0 := (hb.cell (p := ⟨b, off + k * 3 + 0, none⟩) hbl).trans (hccc 0 (by omega))
        have c1 := (hb.cell (p := ⟨b, off + k * 3 + 1, none⟩) hbl).trans (hccc 1 (by omega))
        have c2 := (hb.cell (p := ⟨b, off + k * 3 + 2, none⟩) hbl).trans (hccc 2 (by omega))
        simp at c0 c1 c2
        clear hccc hll hx
        have BX : Below w.heap.size w (wr.alloc (.cells #[.int .i64 num, .int .i64 time, .slice Ad saved.length dcap] 88)) := hb.alloc hbs _
        have hsc := sectors_any _ saved _ T (hd.below BX) (by omega)
        have HS := Lib.hid hcs
        clear hcs hd
        have hle : costK items k + secN saved ≤ 100000000 := by omega
        generalize hcc' : costK items k = ck at *
        generalize secN saved = sv at *
        clear hck hs1
        go_wp2_with (first | (go_at_call 63; refine hsc.mono ?_; rintro e w8 ⟨rfl, B8⟩))
        go_roundw
        case rel => exact ⟨k + 1, by omega, by go_num, by rw [HS.out]; simp, below_then BX BX.size B8⟩
        case measure => simp [intOf]; omega
      · obtain rfl : k = items.length := by omega
        go_wp2
        go_ret
        exact ⟨ret_int (by rw [HC.out]), hb⟩
  · have hcs : costS s = 0 := by unfold costS; rw [if_neg hz]
    have hz' : (chkS s != 0) = true := by simpa using hz
    have HC := Lib.hid hcs
    clear hcs
    go_wp2
    go_ret
    exact ⟨ret_int (by rw [HC.out]), B1⟩
end Go.Proofs.Ytccbbecfmfldbaa

set_option maxRecDepth 100000
set_option linter.unusedVariables false
set_option linter.unusedSimpArgs false
namespace Go.Proofs.Ytccbbecfmfldbaa
open Go.RowKit Go.Mm Sb

/-! ### snapshots: contents -/
def kept1 (im : List (List Sec)) (x : Wr) : Wr := ⟨x.vol, x.start, ((im.getD x.vol.toNat []).drop x.start.toNat).take x.data.length⟩
def keptW (im : List (List Sec)) (l : List Wr) : List Wr := l.map (kept1 im)
theorem kept1_eq {im : List (List Sec)} {x : Wr} {j s : Nat} {d : List Sec} (hv : x.vol = j) (hd : im[j]? = some d) (hs : x.start = s) : kept1 im x = ⟨x.vol, x.start, (d.drop s).take x.data.length⟩ := by
  unfold kept1
  rw [hv, hs]
  simp [List.getD_eq_getElem?_getD, hd]
theorem kept1_len {im : List (List Sec)} {x : Wr} (h : fitW (lens im) x = 0) : (kept1 im x).data.length = x.data.length := by
  obtain ⟨j, d, s, h1, h2, h3, h4, _⟩ := fitW_in h
  rw [kept1_eq h1 h2 h3]
  simp; omega
theorem kept1_fit {im : List (List Sec)} {x : Wr} (h : fitW (lens im) x = 0) : fitW (lens im) (kept1 im x) = 0 := by
  have := kept1_len h
  unfold fitW at h ⊢
  rw [this]; exact h
theorem grown_alloc {w w' : World} {row : Option Nat} (h : w.grownBy w' row) (o : Obj) : w.grownBy (w'.alloc o) row := h.andThen (World.grownBy_alloc _ _ row) (fun j e => .inr e)
set_option maxHeartbeats 8000000 in
theorem contents_any (vi v : Value) (im : List (List Sec)) (l : List Wr) (w : World) (S S2 : Nat → Prop) (hi : RImg w S2 vi im) (h : RWrs w S v l) (hl : l.length ≤ 1000000) (hf : ∀ x ∈ l, fitW (lens im) x = 0) (hz : ∀ x ∈ im, x.length ≤ 4096) :
    Calls Try.prog 83 #[vi, v] w fun e w' => ∃ v', e = .returned v' ∧ RWrs w' (fun b => w.heap.size ≤ b) v' (keptW im l) ∧ Below w.heap.size w w' := by
  obtain ⟨A, cap, rfl, hcap, hm⟩ := h.val
  obtain ⟨Ai, ci, rfl, hic, him⟩ := hi.val
  unfold maxLen at hm him
  go_enter Try.func83, Try.ntmps83
  go_wp2
  go_loopw [5, 10] (fun s i wr => ∃ k : Nat, k ≤ l.length ∧ i = .int .i64 k ∧ OwnSl 54 3 RWr wr w.heap.size (fun b => w.heap.size ≤ b) s (keptW im (l.take k)) ∧ Below w.heap.size w wr) (fun _ i _ => l.length - (intOf i).toNat)
  case atStart => exact ⟨0, Nat.zero_le _, rfl, OwnSl.nil _, Below.refl _ _⟩
  case round =>
    obtain ⟨k, hk, rfl, hown, hb⟩ := hrel
    have hbs := hb.size
    by_cases hlt : k < l.length
    · obtain ⟨x, hx⟩ : ∃ x, l[k]? = some x := ⟨_, List.getElem?_eq_getElem hlt⟩
      obtain ⟨b, off, cs, rfl, hbl, _, hll, hcc, hv64, hs64, dv, rfl, hd⟩ := h.at_ hx
      have hfx := hf x (List.mem_of_getElem? hx)
      obtain ⟨j, d, s0, j1, j2, j3, j4, j5⟩ := fitW_in hfx
      have hke := kept1_eq j1 j2 j3
      have hkl := kept1_len hfx
      have hzd := hz d (List.mem_of_getElem? j2)
      obtain ⟨bi, offi, csi, rfl, hbli, _, hlli, hcci, dvi, rfl, hdi⟩ := hi.at_ j2
      obtain ⟨Ad, dcap, rfl, hdc, hdm⟩ := hd.val
      obtain ⟨Adi, dcapi, rfl, hdci, hdmi⟩ := hdi.val
      unfold maxLen at hdm hdmi
      have hxl : 0 < x.data.length := List.length_pos_iff.2 j5
      obtain ⟨bv, offv, rfl, hbv, _⟩ := hdi.ptr (by omega)
      have hj8 : j < im.length := (List.getElem?_eq_some_iff.1 j2).1
      have c0 := (hb.cell (p := ⟨b, off + k * 3 + 0, none⟩) hbl).trans (hcc 0 (by omega))
      have c1 := (hb.cell (p := ⟨b, off + k * 3 + 1, none⟩) hbl).trans (hcc 1 (by omega))
      have c2 := (hb.cell (p := ⟨b, off + k * 3 + 2, none⟩) hbl).trans (hcc 2 (by omega))
      have d0 := (hb.cell (p := ⟨bi, offi + j * 1 + 0, none⟩) hbli).trans (hcci 0 (by omega))
      simp at c0 c1 c2 d0
      clear hcc hll hcci hlli
      have hul := hown.lt
      have htl : (keptW im (l.take k)).length = k := by unfold keptW; rw [List.length_map, List.length_take, Nat.min_eq_left hk]
      obtain ⟨xv, xs, xd⟩ := x
      simp only at *
      subst j1 j3
      have KX : Blk (wr.alloc (.cells #[.int .i64 (j : Int), .int .i64 (s0 : Int), .slice Ad xd.length dcap] 54)) wr.heap.size 54 #[.int .i64 (j : Int), .int .i64 (s0 : Int), .slice Ad xd.length dcap] := Blk.new _ _ _
      have BA : Below wr.heap.size wr (wr.alloc (.cells #[.int .i64 (j : Int), .int .i64 (s0 : Int), .slice Ad xd.length dcap] 54)) := (Below.refl _ _).alloc (Nat.le_refl _) _
      have hdx := (hdi.below hb).below BA
      have hownx := hown.below BA
      have dx := (BA.cell (p := ⟨bi, offi + j, none⟩) (by show bi < _; omega)).trans d0
      have HX := Lib.hid hx
      have HK := Lib.hid hke
      have HJ := Lib.hid j2
      have BX := below_then hb hbs BA
      have hlx := KX.lt
      clear hx hke j2 hown hd hfx j5 hkl
      go_wp2_with fail
      clear c0 c1 c2 d0
      have hgx : w.heap.size ≤ wr.heap.size := hbs
      clear hb BA hbs
      generalize wr.heap.size = gx at *
      generalize wr.alloc (.cells #[.int .i64 (j : Int), .int .i64 (s0 : Int), .slice Ad xd.length dcap] 54) = wx at *
      have hsub := hdx.sub s0 xd.length j4
      have hl0 : ((d.drop s0).take xd.length).length = xd.length := by simp; omega
      have hdr0 : Below wx.heap.size wx wx.drew := (Below.refl _ _).drew
      have hcl := (clone_any _ _ wx.drew _ (hsub.below hdr0) (by omega)).mono (R' := fun e w8 => ∃ A8 c8, e = .returned (.slice A8 xd.length c8) ∧ RSecs w8 (fun b => w.heap.size ≤ b ∧ some b ≠ u5.ownBlock) (.slice A8 xd.length c8) ((d.drop s0).take xd.length) ∧ Below wx.heap.size wx w8) (by
        rintro e w8 ⟨v8, rfl, X8, B8⟩
        obtain ⟨A8, c8, rfl, _, _⟩ := X8.val
        have B9 := below_then hdr0 hdr0.size B8
        refine ⟨A8, c8, by rw [hl0], ?_, B9⟩
        have := X8.lt
        have q := X8.reads (T := fun b => w.heap.size ≤ b ∧ some b ≠ u5.ownBlock) (fun b _ hh => by
          rcases hh with hh | hh
          · exact hh.elim
          · have h1 := (this b hh.symm).1
            simp at h1
            exact ⟨by omega, fun e => by have := (hul b e.symm).2; omega⟩)
        rw [hl0] at q
        exact q)
      have HOW := Lib.hid hownx
      clear hownx
      have hD : ∀ W, wx.grownBy W u5.ownBlock → (wx.grownBy W u5.ownBlock ∧ W.cell? ⟨gx, 0, none⟩ = some (.int .i64 (j : Int)) ∧ W.cell? ⟨gx, 1, none⟩ = some (.int .i64 (s0 : Int)) ∧ W.cell? ⟨gx, 2, none⟩ = some (.slice Ad xd.length dcap) ∧ W.cell? ⟨bi, offi + j, none⟩ = some (.slice (some ⟨bv, offv, none⟩) d.length dcapi)) := fun W hW => by
        have n1 : some gx ≠ u5.ownBlock := fun e => by have := (hul _ e.symm).2; omega
        have n2 : some bi ≠ u5.ownBlock := fun e => by have := (hul _ e.symm).1; omega
        exact ⟨hW, (hW.cell_far ⟨gx, 0, none⟩ KX.lt n1).trans (KX.cell 0), (hW.cell_far ⟨gx, 1, none⟩ KX.lt n1).trans (KX.cell 1), (hW.cell_far ⟨gx, 2, none⟩ KX.lt n1).trans (KX.cell 2), (hW.cell_far ⟨bi, offi + j, none⟩ (by show bi < _; omega) n2).trans dx⟩
      have hdr : wx.grownBy wx.drew u5.ownBlock := grown_below hdr0 _
      have i1 : (0 : Int) ≤ (j : Int) := by omega
      have i2 : (j : Int) < (im.length : Int) := by omega
      have i3 : (0 : Int) ≤ (s0 : Int) := by omega
      have i4 : (s0 : Int) ≤ (s0 : Int) + (xd.length : Int) := by omega
      have i5 : (s0 : Int) + (xd.length : Int) ≤ (dcapi : Int) := by omega
      have i6 : IntKind.i64.wrap ((s0 : Int) + (xd.length : Int)) = (s0 : Int) + (xd.length : Int) := wrapJ (by omega) (by omega)
      have i7 : ((s0 : Int) + (xd.length : Int)).toNat = s0 + xd.length := by omega
      have i8 : ¬ dcapi = s0 := by omega
      go_region_held3 (fun W => wx.grownBy W u5.ownBlock ∧ W.cell? ⟨gx, 0, none⟩ = some (.int .i64 (j : Int)) ∧ W.cell? ⟨gx, 1, none⟩ = some (.int .i64 (s0 : Int)) ∧ W.cell? ⟨gx, 2, none⟩ = some (.slice Ad xd.length dcap) ∧ W.cell? ⟨bi, offi + j, none⟩ = some (.slice (some ⟨bv, offv, none⟩) d.length dcapi))
        (first | (exact hD _ hS3) | (exact hD _ (grown_alloc hS1 _)) | (exact hD _ hS1) | (exact hD _ hdr) | assumption | go_keep)
        (first | (go_at_call 88; refine hcl.mono ?_; rintro e w8 ⟨A8, c8, rfl, X8, B8⟩; have hS1 : wx.grownBy w8 u5.ownBlock := grown_below B8 _) | (refine step_appendNew (by rfl) _ _ 86 (by rfl) 54 _ 3 40 Try.underlying86 infoW (by rfl) (by omega) RWr w.heap.size (fun b => w.heap.size ≤ b) u5 (keptW im (l.take k)) (by rfl) (HOW.out.below B8) #[.int .i64 (j : Int), .int .i64 (s0 : Int), .slice A8 xd.length c8] ⟨(j : Int), (s0 : Int), (d.drop s0).take xd.length⟩ w8.heap.size rfl (by rfl) (by rfl) (by simp [Value.oneCell']) ⟨hv64, hs64, _, rfl, X8⟩ (by rw [htl]; omega) (by omega) (by have := B8.size; omega) ?_; intro v5 w5 hO5 hg5 hat5; have hS3 : wx.grownBy w5 u5.ownBlock := (grown_below B8 _).andThen hg5 (fun j e => .inr e)))
      clear i6 i7
      go_wp2
      go_roundw
      case rel =>
        obtain ⟨hkk, hxx⟩ := List.getElem?_eq_some_iff.1 HX.out
        refine ⟨k + 1, by omega, by go_num, ?_, BX.grown hS3 BX.size (fun j e => (hul j e).1)⟩
        rw [List.take_succ_eq_append_getElem hkk, hxx]
        have e1 : keptW im (l.take k ++ [(⟨(j : Int), (s0 : Int), xd⟩ : Wr)]) = keptW im (l.take k) ++ [⟨(j : Int), (s0 : Int), (d.drop s0).take xd.length⟩] := by
          unfold keptW
          rw [List.map_append]
          simp only [List.map_cons, List.map_nil, HK.out]
        rw [e1]
        exact hO5
      case measure => simp [intOf]; omega
    · obtain rfl : k = l.length := by omega
      rw [List.take_length] at hown
      go_wp2
      go_ret
      exact ⟨_, rfl, hown.reads (fun b _ hh => by rcases hh with hh | hh; exact hh; exact (hown.lt b hh.symm).1), hb⟩
end Go.Proofs.Ytccbbecfmfldbaa

set_option maxRecDepth 100000
set_option linter.unusedVariables false
set_option linter.unusedSimpArgs false
namespace Go.Proofs.Ytccbbecfmfldbaa
open Go.RowKit Go.Mm Sb

/-! ### snapshots: save, Apply -/
def SaveRet (g : Nat) (num time : Int) (l : List Wr) (w : World) (e : Ending) (w' : World) : Prop :=
  e = .returned (.tuple #[]) ∧ ∃ v', Blk w' g 126 #[.int .i64 num, .int .i64 time, v'] ∧ RWrs w' (fun b => w.heap.size ≤ b) v' (foldR l) ∧ w.grownBy w' (some g)
set_option maxHeartbeats 4000000 in
theorem save_any (g : Nat) (lv sv : Value) (num time : Int) (l saved : List Wr) (w : World) (S : Nat → Prop) (hK : Blk w g 126 #[.int .i64 num, .int .i64 time, sv]) (hl : RWrs w S lv l) (hs : RWrs w S sv saved) (hn : l.length + saved.length ≤ 1000000) (hsz : secN (l ++ saved) ≤ 1000000000000) :
    Calls Try.prog 82 #[.pointer (some ⟨g, 0, none⟩), lv] w (SaveRet g num time (l ++ saved) w) := by
  obtain ⟨A, cap, rfl, hcap, hm⟩ := hl.val
  obtain ⟨As, cs, rfl, hscap, hsm⟩ := hs.val
  obtain ⟨k0, k1, k2, k3, k4, k5⟩ := hK.three
  have hg := hK.lt
  have BA : Below w.heap.size w (w.alloc (.cells #[.slice A l.length cap, .slice As saved.length cs] 86)) := (Below.refl _ _).alloc (Nat.le_refl _) _
  have hnew : Blk (w.alloc (.cells #[.slice A l.length cap, .slice As saved.length cs] 86)) w.heap.size 86 #[.slice A l.length cap, .slice As saved.length cs] := Blk.new _ _ _
  obtain ⟨p0, p1, _, _⟩ := hnew.two
  have hcc := concat_any _ _ l saved w.heap.size 2 _ hnew.lt p0 p1 S (hl.below BA) (hs.below BA) hn
  clear p0 p1
  go_enter Try.func82, Try.ntmps82
  go_wp2_with fail
  refine hcc.mono ?_
  rintro e w1 ⟨v1, rfl, X1, B1⟩
  have C1 := below_then BA BA.size B1
  have hf := fold_any v1 (l ++ saved) w1 _ X1 hsz
  clear hcc
  go_wp2_with fail
  refine hf.mono ?_
  rintro e w2 ⟨v2, rfl, X2, B2⟩
  have C2 := below_then C1 C1.size B2
  have hK2 := hK.below C2
  have hg2 := hK2.lt
  clear k0 k1 k2 k3 k4 k5 hf
  obtain ⟨k0, k1, k2, k3, k4, k5⟩ := hK2.three
  obtain ⟨A2, cap2, rfl, _, _⟩ := X2.val
  have hs1 := C1.size
  have HX := Lib.hid (And.intro X2 C2)
  clear X2 X1 C1 B1 B2 C2
  go_wp2
  refine bodyPost_ret (v := .tuple #[]) (by simp [results, Try.results82, go_sem]) rfl ⟨rfl, .slice A2 (foldR (l ++ saved)).length cap2, ?_, ?_, ?_⟩
  · simpa using hK2.set_ 2 (.slice A2 (foldR (l ++ saved)).length cap2)
  · exact (HX.out.1.keep (fun b _ h => Below.heap_setCell _ _ _ _ (by simp; omega))).more (fun b _ h => by omega)
  · exact (grown_below HX.out.2 _).andThen (grown_setCell _ _ _) (fun j e => .inr e)
end Go.Proofs.Ytccbbecfmfldbaa

set_option maxRecDepth 100000
set_option linter.unusedVariables false
set_option linter.unusedSimpArgs false
namespace Go.Proofs.Ytccbbecfmfldbaa
open Go.RowKit Go.Mm Sb

/-! ### snapshots: Apply -/
def lastMap (f : Snap → Snap) : List Snap → List Snap
  | [] => []
  | [x] => [f x]
  | x :: y :: t => x :: lastMap f (y :: t)
theorem lastMap_snoc (f : Snap → Snap) (x : Snap) : ∀ l : List Snap, lastMap f (l ++ [x]) = l ++ [f x]
  | [] => rfl
  | [a] => rfl
  | a :: b :: t => by
    show a :: lastMap f ((b :: t) ++ [x]) = _
    rw [lastMap_snoc f x (b :: t)]; rfl
def addSaved (l : List Wr) (x : Snap) : Snap := ⟨x.num, x.time, foldR (l ++ x.saved)⟩
def applyE (s : Snaps) (l : List Wr) : Int := if chkS s = 0 then apE s.cur l else chkS s
def applyS (s : Snaps) (l : List Wr) : Snaps := if applyE s l = 0 then ⟨putAll s.cur l, lastMap (addSaved (keptW s.cur l)) s.items⟩ else noS
theorem keptW_len (im : List (List Sec)) (l : List Wr) : (keptW im l).length = l.length := by simp [keptW]
theorem keptW_sec {im : List (List Sec)} {l : List Wr} (h : ∀ x ∈ l, fitW (lens im) x = 0) : secN (keptW im l) = secN l := by
  unfold secN keptW
  rw [List.map_map]
  congr 1
  exact List.map_congr_left fun x hx => kept1_len (h x hx)
theorem snoc_cases {α : Type} (l : List α) : l = [] ∨ ∃ pre x, l = pre ++ [x] := by
  rcases List.eq_nil_or_concat l with h | ⟨pre, x, h⟩
  · exact .inl h
  · exact .inr ⟨pre, x, by rw [h, List.concat_eq_append]⟩
theorem ne_of {a b : Nat} (h : a < b) : ¬ a = b ∧ ¬ b = a := by omega
set_option maxHeartbeats 16000000 in
theorem snApply_any (vc vi v : Value) (s : Snaps) (l : List Wr) (w : World) (S T U : Nat → Prop) (hc : RImg w S vc s.cur) (hi : RSnaps w T vi s.items) (h : RWrs w U v l) (hl : s.cur.length ≤ 100000) (hll : l.length ≤ 100000) (hsz : secN l ≤ 100000000) :
    Calls Try.prog 49 #[.agg #[vc, vi], v] w (RetS (applyS s l) (applyE s l) w) := by
  obtain ⟨cur, items⟩ := s
  simp only at *
  obtain ⟨Ac, cc, rfl, hcc, hcm⟩ := hc.val
  obtain ⟨Ai, ci, rfl, hic, him⟩ := hi.val
  obtain ⟨Al, cl, rfl, hlc, hlm⟩ := h.val
  unfold maxLen at hcm him hlm
  have BA : Below w.heap.size w ((w.alloc (.cells #[.slice Ac cur.length cc, .slice Ai items.length ci] 26)).alloc (.cells #[.slice none 0 0, .slice none 0 0] 26)) := ((Below.refl _ _).alloc (Nat.le_refl _) _).alloc (by simp) _
  have K0 : Blk ((w.alloc (.cells #[.slice Ac cur.length cc, .slice Ai items.length ci] 26)).alloc (.cells #[.slice none 0 0, .slice none 0 0] 26)) w.heap.size 26 #[.slice Ac cur.length cc, .slice Ai items.length ci] := (Blk.new _ _ _).alloc _
  have K1 : Blk ((w.alloc (.cells #[.slice Ac cur.length cc, .slice Ai items.length ci] 26)).alloc (.cells #[.slice none 0 0, .slice none 0 0] 26)) (w.heap.size + 1) 26 #[.slice none 0 0, .slice none 0 0] := by
    have := (Blk.new (w.alloc (.cells #[.slice Ac cur.length cc, .slice Ai items.length ci] 26)) 26 #[.slice none 0 0, .slice none 0 0])
    simpa using this
  have hck := snCheck_any _ _ ⟨cur, items⟩ _ S T (hc.below BA) (hi.below BA) hl
  go_enter Try.func49, Try.ntmps49
  go_wp2_with fail
  refine hck.mono ?_
  rintro e w1 ⟨rfl, hb1⟩
  clear hck
  have B1 := below_then BA BA.size hb1
  replace K0 := K0.below hb1
  replace K1 := K1.below hb1
  have l0 := K0.lt
  have l1 := K1.lt
  obtain ⟨x0, x1, x2, x3⟩ := K0.two
  obtain ⟨y0, y1, y2, y3⟩ := K1.two
  clear BA hb1
  have hnone : ∀ W (n : Int), Below w.heap.size w W → n ≠ 0 → applyE ⟨cur, items⟩ l = n → RetS (applyS ⟨cur, items⟩ l) (applyE ⟨cur, items⟩ l) w (.returned (.tuple #[.agg #[.slice none 0 0, .slice none 0 0], .int .i64 n])) W := fun W n hW hn he => by
    have e1 : applyS ⟨cur, items⟩ l = noS := by unfold applyS; rw [if_neg (by rw [he]; exact hn)]
    rw [e1, he]
    exact ⟨_, _, rfl, RSl.nil _ _, RSl.nil _ _, hW⟩
  by_cases hz : chkS ⟨cur, items⟩ = 0
  · have hap := apply_any (.slice Ac cur.length cc) (.slice Al l.length cl) cur l w1 U S (hc.below B1) (h.below B1) hl
    have hae : applyE ⟨cur, items⟩ l = apE cur l := by unfold applyE; rw [if_pos hz]
    rw [hz]
    have hok := chkS_ok hz
    have hsm := hok.small
    have HN := Lib.hid hnone
    have HAE := Lib.hid hae
    clear hnone hae hz
    have K1w := l1
    go_wp2_with fail
    refine hap.mono ?_
    rintro e w2 ⟨v2, i2, rfl, X2, hb2⟩
    clear hap x0 x1 x2 x3 y0 y1 y2 y3
    have B2 := below_then B1 B1.size hb2
    replace K0 := K0.below hb2
    replace K1 := K1.below hb2
    obtain ⟨x0, x1, x2, x3⟩ := K0.two
    obtain ⟨y0, y1, y2, y3⟩ := K1.two
    have l0 := K0.lt
    have l1 := K1.lt
    by_cases hz2 : apE cur l = 0
    · have hcp := snCopied_any (.slice Ac cur.length cc) (.slice Ai items.length ci) ⟨cur, items⟩ w2 _ (hc.below B2 |>.more (T := fun b => S b ∨ T b) fun _ _ h => .inl h) (hi.below B2 |>.more (T := fun b => S b ∨ T b) fun _ _ h => .inr h) hsm
      have e1 : applyS ⟨cur, items⟩ l = ⟨putAll cur l, lastMap (addSaved (keptW cur l)) items⟩ := by unfold applyS; rw [if_pos (by rw [HAE.out]; exact hz2)]
      have e2 : applyE ⟨cur, items⟩ l = 0 := by rw [HAE.out, hz2]
      have hfit := (apE_zero hz2).2
      have eR : apR cur l = putAll cur l := by unfold apR; rw [if_pos hz2]
      rw [eR] at X2
      rw [hz2]
      have HE := Lib.hid (And.intro e1 e2)
      have HF := Lib.hid hfit
      have hw1 := l1
      replace X2 := X2.more (T := fun b => w.heap.size + 2 ≤ b ∧ b < w2.heap.size) (fun b hb h => ⟨by have := B1.size; have := K1w; omega, hb⟩)
      clear e1 e2 hz2 hfit eR HAE HN
      go_wp2_with fail
      refine hcp.mono ?_
      rintro e w3 ⟨cv, iv, rfl, ⟨M, hM1, hM2, hcr, hown⟩, hb3⟩
      clear hcp x0 x1 x2 x3 y0 y1 y2 y3
      simp only at hcr hown
      have B3 := below_then B2 B2.size hb3
      replace K0 := K0.below hb3
      replace K1 := K1.below hb3
      replace X2 := X2.below hb3
      have hb3s := hb3.size
      have hb2s := hb2.size
      obtain ⟨Acv, ccv, rfl, _, _⟩ := hcr.val
      have hlg : w.heap.size + 1 < w3.heap.size := Nat.lt_of_lt_of_le l1 hb3s
      clear hcr l0 l1
      have hul := hown.lt
      rcases snoc_cases items with rfl | ⟨pre, x, rfl⟩
      · obtain ⟨A4, c4, rfl, _, _⟩ := X2.val
        obtain ⟨A5, c5, rfl, _, _⟩ := hown.val
        have R2 := hown.reads (T := fun b => M ≤ b ∧ b < w3.heap.size) (fun b hb hh => by rcases hh with hh | hh; exact ⟨hh, hb⟩; exact hul b hh.symm)
        obtain ⟨y0, y1, y2, y3⟩ := K1.two
        have HR := Lib.hid (And.intro X2 (And.intro R2 B3))
        clear X2 R2 hown B3 hb3 K1 K0 hul
        simp only [List.length_nil] at *
        go_wp2
        refine bodyPost_ret (v := .tuple #[.agg #[.slice A4 (putAll cur l).length c4, .slice A5 0 c5], .int .i64 0]) (by simp [results, Try.results49, go_sem, y0, y1, y2, y3, hlg, ne_of hlg]) rfl ?_
        rw [HE.out.1, HE.out.2]
        have BK : ∀ b, b < w3.heap.size → w.heap.size + 2 ≤ b → (((w3.setCell ⟨w.heap.size + 1, 0, none⟩ (.slice A4 (putAll cur l).length c4)).setCell ⟨w.heap.size + 1, 1, none⟩ (.slice A5 0 c5)).alloc (.cells #[.slice A4 (putAll cur l).length c4, .slice A5 0 c5] 26)).heap[b]? = w3.heap[b]? := fun b hb h1 => (Below.heap_alloc _ _ b (by simpa using hb)).trans ((Below.heap_setCell _ _ _ b (by simp; omega)).trans (Below.heap_setCell _ _ _ b (by simp; omega)))
        refine ⟨_, _, rfl, ?_, ?_, ?_⟩
        · exact (HR.out.1.keep (fun b hb h1 => BK b hb h1.1)).more (T := fun b => w.heap.size ≤ b) (fun b _ h => by omega)
        · exact (HR.out.2.1.keep (fun b hb h1 => BK b hb (by omega))).more (fun b _ h => by omega)
        · have B9 := (HR.out.2.2.setCell (p := ⟨w.heap.size + 1, 0, none⟩) (by simp) (.slice A4 (putAll cur l).length c4)).setCell (p := ⟨w.heap.size + 1, 1, none⟩) (by simp) (.slice A5 0 c5)
          exact B9.alloc B9.size _
      · obtain ⟨num, time, saved⟩ := x
        have hxm : (pre ++ [(⟨num, time, saved⟩ : Snap)])[pre.length]? = some ⟨num, time, saved⟩ := by simp
        obtain ⟨gi, capi, rfl, hgM, hgi, hcp1, hcp2, hfz⟩ := own_ptr hown (by simp)
        have hownR := hown.more (T := fun b => M ≤ b ∧ b < w3.heap.size) (fun b hb h => ⟨h, hb⟩)
        have hrd := hownR.reads (T := fun b => M ≤ b ∧ b < w3.heap.size) (fun b hb hh => by rcases hh with hh | hh; exact hh; exact hul b hh.symm)
        obtain ⟨b, off, cs, hA, hbl, _, hll2, hccc, hn64, ht64, dv, rfl, hd⟩ := hrd.at_ hxm
        injection hA with hA
        injection hA with e1 e2
        subst e1; subst e2
        obtain ⟨Ad, dcap, rfl, hdc, hdm⟩ := hd.val
        have c0 := hccc 0 (by omega)
        have c1 := hccc 1 (by omega)
        have c2 := hccc 2 (by omega)
        simp at c0 c1 c2
        have hlen : (pre ++ [(⟨num, time, saved⟩ : Snap)]).length = pre.length + 1 := by simp
        have hs5 := hsm.svl ⟨num, time, saved⟩ (by simp)
        have hs6 := hsm.sec ⟨num, time, saved⟩ (by simp)
        have hs7 := hsm.secs
        have hpl := hsm.len
        simp only at hs5 hs6 hs7 hpl
        rw [hlen] at hownR hcp1 hpl
        have hcm2 := hcp2
        unfold maxLen at hcm2
        obtain ⟨x0, x1, x2, x3⟩ := K0.two
        have hl0 := K0.lt
        have BA : Below w3.heap.size w3 ((w3.alloc (.cells #[.slice Acv cur.length ccv, .slice (some ⟨gi, 0, none⟩) (pre.length + 1) capi] 26)).alloc (.cells #[.int .i64 num, .int .i64 time, .slice Ad saved.length dcap] 126)) := ((Below.refl _ _).alloc (Nat.le_refl _) _).alloc (by simp) _
        have K4 : Blk ((w3.alloc (.cells #[.slice Acv cur.length ccv, .slice (some ⟨gi, 0, none⟩) (pre.length + 1) capi] 26)).alloc (.cells #[.int .i64 num, .int .i64 time, .slice Ad saved.length dcap] 126)) w3.heap.size 26 #[.slice Acv cur.length ccv, .slice (some ⟨gi, 0, none⟩) (pre.length + 1) capi] := (Blk.new _ _ _).alloc _
        have K12 : Blk ((w3.alloc (.cells #[.slice Acv cur.length ccv, .slice (some ⟨gi, 0, none⟩) (pre.length + 1) capi] 26)).alloc (.cells #[.int .i64 num, .int .i64 time, .slice Ad saved.length dcap] 126)) (w3.heap.size + 1) 126 #[.int .i64 num, .int .i64 time, .slice Ad saved.length dcap] := by
          have := Blk.new (w3.alloc (.cells #[.slice Acv cur.length ccv, .slice (some ⟨gi, 0, none⟩) (pre.length + 1) capi] 26)) 126 #[.int .i64 num, .int .i64 time, .slice Ad saved.length dcap]
          simpa using this
        have BAB := below_then B3 B3.size BA
        have hct := contents_any (.slice Ac cur.length cc) (.slice Al l.length cl) cur l _ U S (hc.below BAB) (h.below BAB) (by omega) HF.out hs7
        have hdA := (hd.more (T := fun _ => True) (fun _ _ _ => trivial)).below BA
        have hkw : secN (keptW cur l ++ saved) ≤ 1000000000000 := by rw [secN_append, keptW_sec HF.out]; omega
        have hkl : (keptW cur l).length + saved.length ≤ 1000000 := by rw [keptW_len]; omega
        have HS := Lib.hid (And.intro hkw hkl)
        clear hkw hkl hrd hccc hll2 hs5 hs6 hs7 hsm hok hd hxm
        rw [hlen]
        go_wp2_with fail
        refine hct.mono ?_
        rintro e w5 ⟨v5, rfl, X5, B5⟩
        clear hct c0 c1 c2 x0 x1 x2 x3
        have B5B := below_then BAB BAB.size B5
        have BA5 := below_then BA BA.size B5
        have hsv := save_any (w3.heap.size + 1) v5 (.slice Ad saved.length dcap) num time (keptW cur l) saved w5 (fun _ => True) (K12.below B5) (X5.more fun _ _ _ => trivial) (hdA.below B5) HS.out.2 HS.out.1
        have K4' := K4.below B5
        have K1' := K1.below BA5
        have hs5' := BA5.size
        have h12 := (K12.below B5).lt
        go_wp2_with fail
        refine hsv.mono ?_
        rintro e w6 ⟨rfl, v6, K12', X6, G6⟩
        have hg6 := G6.size
        have K4f := K4'.grown G6 (by simp)
        have K1f := K1'.grown G6 (by simp; omega)
        obtain ⟨A6, cap6, rfl, _, _⟩ := X6.val
        obtain ⟨A2, cap2, rfl, _, _⟩ := X2.val
        have hO5 := hownR.below BA5
        have hO6 := (hO5.kept G6 (.inr fun e => by simp [Value.ownBlock] at e; omega) (fun b _ h1 _ e => by injection e with e; omega)).more (T := fun b => (M ≤ b ∧ b < w3.heap.size) ∨ w5.heap.size ≤ b) (fun b _ h => .inl h)
        have hX6 : RSnap w6 (fun b => ((M ≤ b ∧ b < w3.heap.size) ∨ w5.heap.size ≤ b) ∧ some b ≠ some gi) [.int .i64 num, .int .i64 time, .slice A6 (foldR (keptW cur l ++ saved)).length cap6] ⟨num, time, foldR (keptW cur l ++ saved)⟩ :=
          ⟨hn64, ht64, _, rfl, X6.more fun b _ h => ⟨.inr h, fun e => by injection e with e; omega⟩⟩
        rw [← hlen] at hO6
        obtain ⟨hO7, G7⟩ := hO6.set3 (j := pre.length) (by simp) hX6
        rw [hlen] at hO6
        have hr6 := hO6.reads (T := fun _ => True) (fun _ _ _ => trivial)
        obtain ⟨b6, off6, cs6, hA6, hbl6, _, hll6, hccc6, hn66, ht66, dv6, rfl, hd6⟩ := hr6.at_ (show (pre ++ [(⟨num, time, saved⟩ : Snap)])[pre.length]? = some ⟨num, time, saved⟩ by simp)
        injection hA6 with hA6
        injection hA6 with e1 e2
        subst e1; subst e2
        have c0 := hccc6 0 (by omega)
        have c1 := hccc6 1 (by omega)
        have c2 := hccc6 2 (by omega)
        simp at c0 c1 c2
        have hf6 : ∀ j, w6.frozen? ⟨gi, j, none⟩ = false := fun j => (own_ptr hO6 (by simp)).elim fun g h => by
          obtain ⟨cap, he, _, _, _, _, hff⟩ := h
          injection he with he
          injection he with he
          injection he with he
          rw [he]; exact hff j
        have f0 := hf6 (pre.length * 3)
        have f1 := hf6 (pre.length * 3 + 1)
        have f2 := hf6 (pre.length * 3 + 2)
        obtain ⟨x0, x1, x2, x3⟩ := K4f.two
        obtain ⟨y0, y1, y2, y3⟩ := K1f.two
        obtain ⟨z0, z1, z2, z3, z4, z5⟩ := K12'.three
        have hgi6 : gi < w6.heap.size := hbl6
        have hl36 := K4f.lt
        have hl16 := K1f.lt
        have X2f := ((X2.below BA5).keep (w' := w6) (fun b hb h => G6.block b hb (fun e => by injection e with e; omega)))
        have BF : Below w.heap.size w w6 := (below_then B3 B3.size BA5).grown G6 (by omega) (fun j e => by injection e with e; omega)
        have HR := Lib.hid (And.intro X2f (And.intro hO7 (And.intro G7 BF)))
        clear X2f hO7 G7 BF hO6 hO5 hX6 hr6 hccc6 hd6 hll6 hf6 hownR X2 X6 X5 K4f K1f K4' K1' K12' hown K4 K12 K1 K0 hdA BAB BA B5B BA5 hsv
        clear h hc hi
        go_wp2
        refine bodyPost_ret (v := .tuple #[.agg #[.slice A2 (putAll cur l).length cap2, .slice (some ⟨gi, 0, none⟩) (pre.length + 1) capi], .int .i64 0]) (by simp [results, Try.results49, go_sem, y0, y1, y2, y3, hlg, ne_of hlg, hl16]) rfl ?_
        rw [HE.out.1, HE.out.2]
        obtain ⟨X2f, hO7, G7, BF⟩ := HR.out
        have e9 : lastMap (addSaved (keptW cur l)) (pre ++ [(⟨num, time, saved⟩ : Snap)]) = (pre ++ [(⟨num, time, saved⟩ : Snap)]).set pre.length ⟨num, time, foldR (keptW cur l ++ saved)⟩ := by
          rw [lastMap_snoc]; simp [addSaved]
        have hR7 := hO7.reads (T := fun b => (M ≤ b ∧ b < w3.heap.size) ∨ w5.heap.size ≤ b) (fun b _ hh => by rcases hh with hh | hh; exact hh; exact .inl (by simp [Value.ownBlock] at hh; omega))
        rw [hlen] at hR7
        have BK : ∀ W : World, ∀ b, w.heap.size + 2 ≤ b → b ≠ w3.heap.size → (((W.setCell ⟨w3.heap.size, 0, none⟩ (.slice A2 (putAll cur l).length cap2)).setCell ⟨w.heap.size + 1, 0, none⟩ (.slice A2 (putAll cur l).length cap2)).setCell ⟨w.heap.size + 1, 1, none⟩ (.slice (some ⟨gi, 0, none⟩) (pre.length + 1) capi)).heap[b]? = W.heap[b]? := fun W b h1 h2 =>
          (Below.heap_setCell _ _ _ b (by simp; omega)).trans ((Below.heap_setCell _ _ _ b (by simp; omega)).trans (Below.heap_setCell _ _ _ b (by simpa using h2)))
        refine ⟨_, _, rfl, ?_, ?_, ?_⟩
        · exact ((X2f.keep (fun b hb h1 => G7.block b hb (fun e => by injection e with e; omega))).keep (fun b hb h1 => BK _ b (by omega) (by omega))).more (fun b _ h => by omega)
        · rw [e9]
          exact (hR7.keep (fun b hb h1 => BK _ b (by omega) (by omega))).more (fun b _ h => by omega)
        · exact (((BF.grown G7 BF.size (fun j e => by injection e with e; omega)).setCell (by simp; omega) _).setCell (by simp) _).setCell (by simp) _
    · have hz' : (apE cur l != 0) = true := by simpa using hz2
      have HZ := Lib.hid hz2
      clear hz2
      go_wp2
      exact bodyPost_ret (v := .tuple #[.agg #[.slice none 0 0, .slice none 0 0], .int .i64 (apE cur l)]) (by simp [results, Try.results49, go_sem, l1, y0, y1, y2, y3]) rfl (HN.out _ _ ((B2.setCell (by simp) _).setCell (by simp) _) HZ.out HAE.out)
  · have hz' : (chkS ⟨cur, items⟩ != 0) = true := by simpa using hz
    have hae : applyE ⟨cur, items⟩ l = chkS ⟨cur, items⟩ := by unfold applyE; rw [if_neg hz]
    have HN := Lib.hid hnone
    have HAE := Lib.hid hae
    have HZ := Lib.hid hz
    clear hnone hae hz
    go_wp2
    exact bodyPost_ret (v := .tuple #[.agg #[.slice none 0 0, .slice none 0 0], .int .i64 (chkS ⟨cur, items⟩)]) (by simp [results, Try.results49, go_sem, l1, y0, y1, y2, y3]) rfl (HN.out _ _ ((B1.setCell (by simp) _).setCell (by simp) _) HZ.out HAE.out)
end Go.Proofs.Ytccbbecfmfldbaa
