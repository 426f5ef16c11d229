import Derived.Test.YtccbbecfmfldbaaQ18
import Derived.Lib.SliceRun
import Derived.Deep.RegionLaw
import Derived.Test.YtccbbecfmfldbaaQ26
import Derived.Test.YtccbbecfmfldbaaQ21
import Derived.Test.YtccbbecfmfldbaaQ22
set_option linter.unusedVariables false
set_option linter.unusedSimpArgs false
namespace Go.Mm
open Go.RowKit Sb

/-! ### clear of one element of three cells; cells behind a move -/
theorem run_clear_one3 {P : Program} (w : World) (t e ty : TypeId) (z : Value) (a b c : Value) (ht : P.underlying t = some (.slice e)) (hv : ∀ w, (zeroValue e).run P w = .ok z w) (hz : z.cells = #[a, b, c]) (ha : a.oneCell' = true) (hb : b.oneCell' = true) (hc' : c.oneCell' = true) (g o cap : Nat)
    (hc : ∀ j, j < 3 → (w.cell? ⟨g, o + j, none⟩).isSome = true) (hf : ∀ j, j < 3 → w.frozen? ⟨g, o + j, none⟩ = false) :
    (Builtin.clear_ #[t] ty #[.slice (some ⟨g, o, none⟩) 1 cap]).run P w = .ok (.tuple #[]) (w.setCells g o [a, b, c]) := by
  have hzc : (Builtin.zeroCells z.cells 1).toList = [a, b, c] := by
    rw [hz]
    simp only [Builtin.zeroCells, Array.toList_map, Array.toList_range]
    rfl
  have hst := run_storeCells_cells (P := P) g o [a, b, c] 0 w (by simpa using hc) (by simpa using hf) (by intro v hv'; simp at hv'; rcases hv' with rfl | rfl | rfl <;> assumption)
  simp only [Nat.add_zero] at hst
  simp [Builtin.clear_, run_underlying ht, hv, hzc, hst]
/-- The cells of a block behind a move of m cells from q down to p, and three cells at r written. -/
theorem moved_cell {w : World} {g p r : Nat} {news : List Value} {a b c : Value} (hin : ∀ j, j < p + news.length → (w.cell? ⟨g, j, none⟩).isSome = true) (hr : p + news.length ≤ r) (j : Nat) (hj : j < p + news.length) :
    ((w.setCells g p news).setCells g r [a, b, c]).cell? ⟨g, j, none⟩ = if j < p then w.cell? ⟨g, j, none⟩ else news[j - p]? := by
  rw [World.cell?_setCells_out g [a, b, c] r _ ⟨g, j, none⟩ (fun _ _ => .inl (by simp; omega))]
  by_cases h : j < p
  · rw [if_pos h, World.cell?_setCells_out g news p w ⟨g, j, none⟩ (fun _ _ => .inl (by simpa using h))]
  · rw [if_neg h]
    have := World.cell?_setCells_in g news p w (fun t ht => hin _ (by omega)) (j - p) (by omega)
    rw [show p + (j - p) = j by omega] at this
    rw [this, List.getElem?_eq_getElem (by omega)]
theorem grown_setCells (w : World) (g o : Nat) : ∀ vs : List Value, w.grownBy (w.setCells g o vs) (some g) := fun vs => by
  induction vs generalizing w o with
  | nil => exact ⟨rfl, rfl, rfl, Nat.le_refl _, fun _ _ _ => rfl⟩
  | cons v t ih => exact (grown_setCell w ⟨g, o, none⟩ v).andThen (ih (w.setCell ⟨g, o, none⟩ v) (o + 1)) (fun j e => .inr e)
end Go.Mm

set_option maxRecDepth 100000
set_option linter.unusedVariables false
set_option linter.unusedSimpArgs false
namespace Go.Proofs.Ytccbbecfmfldbaa
open Go.RowKit Go.Mm Sb

/-! ### slices.Delete of one snapshot -/
theorem zeroSn (w : World) : (zeroValue 88).run Try.prog w = .ok (.agg #[.int .i64 0, .int .i64 0, .slice none 0 0]) w := by kernel_rfl
def DelRet (gi cap : Nat) (S : Nat → Prop) (ys : List Snap) (w : World) (e : Ending) (w' : World) : Prop :=
  e = .returned (.slice (some ⟨gi, 0, none⟩) ys.length cap) ∧ RSnaps w' (fun b => S b ∨ b = gi) (.slice (some ⟨gi, 0, none⟩) ys.length cap) ys ∧ w.grownBy w' (some gi)
set_option maxHeartbeats 8000000 in
theorem slDelete_any (gi cap : Nat) (xs : List Snap) (i : Nat) (w : World) (base : Nat) (S : Nat → Prop) (hown : OwnSl 88 3 RSnap w base S (.slice (some ⟨gi, 0, none⟩) xs.length cap) xs) (hi : i < xs.length) :
    Calls Try.prog 85 #[.slice (some ⟨gi, 0, none⟩) xs.length cap, .int .i64 i, .int .i64 ((i : Int) + 1)] w (DelRet gi cap S (xs.eraseIdx i) w) := by
  have hfr : ∀ j, w.frozen? ⟨gi, j, none⟩ = false := fun j => (own_ptr hown (by intro e; rw [e] at hi; simp at hi)).elim fun g h => by
    obtain ⟨cap', he, _, _, _, _, hff⟩ := h
    injection he with he
    injection he with he
    injection he with he
    rw [he]; exact hff j
  obtain ⟨A', cap', hv', hcap, hm⟩ := hown.val
  injection hv' with e1 e2 e3
  subst e3
  subst e1
  have hm2 := hm
  unfold maxLen at hm2
  have hgl : gi < w.heap.size := (hown.lt gi rfl).2
  obtain ⟨c, o1, o2, o3, o4⟩ := hown
  obtain ⟨F, hF⟩ : ∃ F, F = c.flatten := ⟨_, rfl⟩
  have hFl : F.length = xs.length * 3 := by rw [hF, flatten_len o3, o2]
  have hcell : ∀ j, j < xs.length * 3 → w.cell? ⟨gi, j, none⟩ = F[j]? := fun j hj => by
    have := o1.cells (g := gi) rfl j _ (List.getElem?_eq_getElem (by rw [← hF, hFl]; exact hj))
    rw [Addr.add_lit] at this
    rw [Nat.zero_add] at this
    rw [this, List.getElem?_eq_getElem (by rw [hFl]; exact hj)]
    simp [hF]
  have hFone : ∀ u ∈ F, u.oneCell' = true := fun u hu => by
    rw [hF] at hu
    obtain ⟨cs, hc, huc⟩ := List.mem_flatten.1 hu
    obtain ⟨j, hj, rfl⟩ := List.getElem_of_mem hc
    exact RSnap.one (o4 j _ (xs[j]'(by omega)) (List.getElem?_eq_getElem hj) (List.getElem?_eq_getElem _)) u huc
  obtain ⟨news, hnews⟩ : ∃ news, news = F.drop ((i + 1) * 3) := ⟨_, rfl⟩
  have hnl : news.length = (xs.length - (i + 1)) * 3 := by rw [hnews, List.length_drop, hFl, Nat.mul_comm, Nat.mul_comm (i + 1), ← Nat.mul_sub, Nat.mul_comm]
  have hnget : ∀ t, news[t]? = F[(i + 1) * 3 + t]? := fun t => by rw [hnews, List.getElem?_drop]
  obtain ⟨n, hn⟩ : ∃ n, xs.length = n + 1 := ⟨xs.length - 1, by omega⟩
  obtain ⟨A, hA, hsrc⟩ : ∃ A : Addr, (if cap = i + 1 then (some ⟨gi, 0, none⟩ : Option Addr) else some ⟨gi, (i + 1) * 3, none⟩) = some A ∧ Hid (∀ t u, news[t]? = some u → w.drew.cell? (A.add t) = some u) := by
    by_cases h : cap = i + 1
    · refine ⟨⟨gi, 0, none⟩, by simp [h], fun t u hu => ?_⟩
      have := (List.getElem?_eq_some_iff.1 hu).1
      omega
    · refine ⟨⟨gi, (i + 1) * 3, none⟩, by simp [h], fun t u hu => ?_⟩
      have ht := (List.getElem?_eq_some_iff.1 hu).1
      rw [Addr.add_lit]
      rw [hnget] at hu
      exact (hcell ((i + 1) * 3 + t) (by omega)).trans hu
  obtain ⟨m, hlm⟩ : ∃ m, xs.length = i + 1 + m := ⟨xs.length - (i + 1), by omega⟩
  have hnl' : news.length = m * 3 := by rw [hnl, hlm]; congr 1; omega
  obtain ⟨i0, hi0, hzz⟩ := Option.map_eq_some_iff.1 infoSn
  simp only [Prod.mk.injEq] at hzz
  obtain ⟨hz0, hz1, hz2⟩ := hzz
  have s1 : Hid (news.length = m * 3) := Lib.hid hnl'
  have s2 : Hid (∀ u ∈ news, u.oneCell' = true) := Lib.hid (fun u hu => hFone u (by rw [hnews] at hu; exact List.mem_of_mem_drop hu))
  have hsome : ∀ j, j < xs.length * 3 → (w.cell? ⟨gi, j, none⟩).isSome = true := fun j hj => by
    rw [hcell j hj, List.getElem?_eq_getElem (by omega)]; rfl
  have s3 : Hid (∀ t, t < news.length → (w.drew.cell? ⟨gi, 0 + i * 3 + t, none⟩).isSome = true ∧ w.drew.frozen? ⟨gi, 0 + i * 3 + t, none⟩ = false) := Lib.hid (fun t ht => by
    rw [hnl'] at ht
    exact ⟨hsome _ (by omega), hfr _⟩)
  obtain ⟨W1, hW1⟩ : ∃ W1, W1 = w.drew.setCells gi (0 + i * 3) news := ⟨_, rfl⟩
  have hcl : ∀ ty, (Builtin.clear_ #[24] ty #[.slice (some ⟨gi, (i + m) * 3, none⟩) 1 (cap - (i + m))]).run Try.prog W1 = .ok (.tuple #[]) (W1.setCells gi ((i + m) * 3) [.int .i64 0, .int .i64 0, .slice none 0 0]) := fun ty =>
    run_clear_one3 W1 24 88 ty (.agg #[.int .i64 0, .int .i64 0, .slice none 0 0]) _ _ _ Try.underlying24 zeroSn rfl rfl rfl rfl gi ((i + m) * 3) _ (fun j hj => by
      rw [hW1]
      exact World.isSome_setCells gi news _ w.drew ⟨gi, (i + m) * 3 + j, none⟩ (hsome _ (by omega))) (fun j hj => by rw [hW1, World.frozen?_setCells]; exact hfr _)
  have HW := Lib.hid hW1
  have hic : i ≤ cap := by omega
  have hjc : i + 1 ≤ cap := by omega
  have HD := Lib.hid (And.intro hcell (And.intro hsome (And.intro hnget (And.intro o4 (And.intro o3 (And.intro o2 hF))))))
  clear hcell hsome hnget o4 o3 o2 hF hW1 hnl hnl' hnews hFone hfr hFl o1
  have hcap2 : i + 1 + m ≤ cap := by omega
  have b1 : (i : Int) + 1 + (m : Int) ≤ (cap : Int) := by omega
  have b2 : (i : Int) + 1 ≤ (i : Int) + 1 + (m : Int) := by omega
  have b3 : (0 : Int) ≤ (i : Int) + 1 + (m : Int) := by omega
  rw [hlm]
  clear hn hcap hi
  go_enter Try.func85, Try.ntmps85
  go_wp2_with fail
  have hA2 := hA
  have q1 : (0 : Int) ≤ (i : Int) + 1 := by omega
  have q2 : (i : Int) + 1 ≤ (cap : Int) := by omega
  have q3 : (i : Int) ≤ (cap : Int) := by omega
  go_region_law (refine step_append_room (by rfl) (.tmp 22) (.tmp 25) 24 (by rfl) 88 i0 3 Try.underlying24 hi0 hz1 gi 0 i cap (by simp [Act.eval, Act.put]) A m (cap - (i + 1)) news (by simp [Act.eval, Act.put, hA2]) s1.out hsrc.out s2.out (by omega) s3.out ?_; rw [← HW.out])
  have r1 : ¬ cap = i + m := by omega
  have r2 : i + 1 + m - (i + m) = 1 := by omega
  have r3 : (i : Int) + (m : Int) ≤ (i : Int) + 1 + (m : Int) := by omega
  have r4 : (0 : Int) ≤ (i : Int) + (m : Int) := by omega
  go_wp2
  go_ret
  obtain ⟨hcell, hsome, hnget, o4, o3, o2, hF⟩ := HD.out
  have hW1 := HW.out
  have hlen : (xs.eraseIdx i).length = i + m := by rw [List.length_eraseIdx, if_pos (by omega)]; omega
  have hnl := s1.out
  have hg : w.grownBy (W1.setCells gi ((i + m) * 3) [.int .i64 0, .int .i64 0, .slice none 0 0]) (some gi) := by
    rw [hW1]
    exact ((grown_below (Below.refl w.heap.size w).drew (some gi)).andThen (grown_setCells _ _ _ _) (fun j e => .inr e)).andThen (grown_setCells _ _ _ _) (fun j e => .inr e)
  refine ⟨by rw [hlen]; rfl, ?_, hg⟩
  rw [hlen]
  refine ⟨some ⟨gi, 0, none⟩, cap, by rw [hlen], by omega, hm, fun _ => ⟨gi, 0, rfl, Nat.lt_of_lt_of_le hgl hg.size, .inr rfl, fun j x hj => ?_⟩⟩
  have hjl : j < i + m := by have := (List.getElem?_eq_some_iff.1 hj).1; omega
  rw [List.getElem?_eraseIdx] at hj
  have hmv : ∀ t, t < 3 → (W1.setCells gi ((i + m) * 3) [.int .i64 0, .int .i64 0, .slice none 0 0]).cell? ⟨gi, 0 + j * 3 + t, none⟩ = if j < i then F[j * 3 + t]? else F[(j + 1) * 3 + t]? := fun t ht => by
    have hmc := moved_cell (w := w.drew) (g := gi) (p := 0 + i * 3) (r := (i + m) * 3) (news := news) (a := .int .i64 0) (b := .int .i64 0) (c := .slice none 0 0) (fun q hq => hsome q (by omega)) (by omega) (0 + j * 3 + t) (by omega)
    rw [hW1, hmc]
    by_cases hji : j < i
    · rw [if_pos (by omega), if_pos hji]
      have := hcell (0 + j * 3 + t) (by omega)
      rw [show 0 + j * 3 + t = j * 3 + t by omega] at this ⊢
      exact this
    · rw [if_neg (by omega), if_neg hji, hnget]
      congr 1; omega
  by_cases hji : j < i
  · rw [if_pos hji] at hj
    have hcj : c[j]? = some (c[j]'(by omega)) := List.getElem?_eq_getElem (by omega)
    refine ⟨c[j]'(by omega), o3 _ (List.getElem_mem _), fun t ht => ?_, ?_⟩
    · rw [hmv t ht, if_pos hji, hF]; exact flatten_get o3 hcj t ht
    · exact Steady.more (Steady.keep (o4 j _ x hcj hj) (fun b hb h => hg.block b hb h.2)) (fun b _ h => .inl h.1)
  · rw [if_neg hji] at hj
    have hcj : c[j + 1]? = some (c[j + 1]'(by omega)) := List.getElem?_eq_getElem (by omega)
    refine ⟨c[j + 1]'(by omega), o3 _ (List.getElem_mem _), fun t ht => ?_, ?_⟩
    · rw [hmv t ht, if_neg hji, hF]; exact flatten_get o3 hcj t ht
    · exact Steady.more (Steady.keep (o4 (j + 1) _ x hcj hj) (fun b hb h => hg.block b hb h.2)) (fun b _ h => .inl h.1)
end Go.Proofs.Ytccbbecfmfldbaa

set_option maxRecDepth 100000
set_option linter.unusedVariables false
set_option linter.unusedSimpArgs false
namespace Go.Proofs.Ytccbbecfmfldbaa
open Go.RowKit Go.Mm Sb

/-! ### snapshots: Delete -/
/-- The item ahead takes what item k has saved. -/
def handOn (items : List Snap) : Nat → List Snap
  | 0 => items
  | j + 1 => match items[j]?, items[j + 1]? with
    | some x, some y => items.set j (addSaved y.saved x)
    | _, _ => items
theorem handOn_len (items : List Snap) : ∀ k, (handOn items k).length = items.length
  | 0 => rfl
  | j + 1 => by
    simp only [handOn]
    split <;> simp
theorem handOn_succ {items : List Snap} {j : Nat} {x y : Snap} (hx : items[j]? = some x) (hy : items[j + 1]? = some y) : handOn items (j + 1) = items.set j (addSaved y.saved x) := by
  simp only [handOn, hx, hy]
def deleteS (s : Snaps) (n : Int) : Snaps := if findE s n = 0 then ⟨s.cur, (handOn s.items (findK s n)).eraseIdx (findK s n)⟩ else noS
set_option maxHeartbeats 16000000 in
theorem snDelete_any (vc vi : Value) (s : Snaps) (n : Int) (w : World) (S T : Nat → Prop) (hc : RImg w S vc s.cur) (hi : RSnaps w T vi s.items) (hl : s.cur.length ≤ 100000) :
    Calls Try.prog 53 #[.agg #[vc, vi], .int .i64 n] w (RetS (deleteS s n) (findE s n) w) := by
  obtain ⟨cur, items⟩ := s
  simp only at *
  obtain ⟨Ac, cc, rfl, hcc, hcm⟩ := hc.val
  obtain ⟨Ai, ci, rfl, hic, him⟩ := hi.val
  unfold maxLen at hcm him
  have BA : Below w.heap.size w ((w.alloc (.cells #[.slice Ac cur.length cc, .slice Ai items.length ci] 26)).alloc (.cells #[.slice none 0 0, .slice none 0 0] 26)) := ((Below.refl _ _).alloc (Nat.le_refl _) _).alloc (by simp) _
  have K0 : Blk ((w.alloc (.cells #[.slice Ac cur.length cc, .slice Ai items.length ci] 26)).alloc (.cells #[.slice none 0 0, .slice none 0 0] 26)) w.heap.size 26 #[.slice Ac cur.length cc, .slice Ai items.length ci] := (Blk.new _ _ _).alloc _
  have K1 : Blk ((w.alloc (.cells #[.slice Ac cur.length cc, .slice Ai items.length ci] 26)).alloc (.cells #[.slice none 0 0, .slice none 0 0] 26)) (w.heap.size + 1) 26 #[.slice none 0 0, .slice none 0 0] := by
    have := (Blk.new (w.alloc (.cells #[.slice Ac cur.length cc, .slice Ai items.length ci] 26)) 26 #[.slice none 0 0, .slice none 0 0])
    simpa using this
  have hck := find_any _ _ ⟨cur, items⟩ n _ S T (hc.below BA) (hi.below BA) hl
  go_enter Try.func53, Try.ntmps53
  go_wp2_with fail
  refine hck.mono ?_
  rintro e w1 ⟨rfl, hb1⟩
  clear hck
  have B1 := below_then BA BA.size hb1
  replace K0 := K0.below hb1
  replace K1 := K1.below hb1
  have l0 := K0.lt
  have l1 := K1.lt
  obtain ⟨x0, x1, x2, x3⟩ := K0.two
  obtain ⟨y0, y1, y2, y3⟩ := K1.two
  clear BA hb1
  by_cases hz : findE ⟨cur, items⟩ n = 0
  · obtain ⟨hok, hfs, hkl⟩ := findE_zero hz
    have hsm := hok.small
    have hde : deleteS ⟨cur, items⟩ n = ⟨cur, (handOn items (findK ⟨cur, items⟩ n)).eraseIdx (findK ⟨cur, items⟩ n)⟩ := by unfold deleteS; rw [if_pos hz]
    have hcp := snCopied_any (.slice Ac cur.length cc) (.slice Ai items.length ci) ⟨cur, items⟩ w1 _ (hc.below B1 |>.more (T := fun b => S b ∨ T b) fun _ _ h => .inl h) (hi.below B1 |>.more (T := fun b => S b ∨ T b) fun _ _ h => .inr h) hsm
    rw [hz]
    simp only at hkl
    generalize findK ⟨cur, items⟩ n = k at *
    have HE := Lib.hid (And.intro hz hde)
    have HS := Lib.hid hsm
    clear hz hde hok hfs hsm
    go_wp2_with fail
    refine hcp.mono ?_
    rintro e w3 ⟨cv, iv, rfl, ⟨M, hM1, hM2, hcr, hown⟩, hb3⟩
    clear hcp x0 x1 x2 x3 y0 y1 y2 y3
    simp only at hcr hown
    have B3 := below_then B1 B1.size hb3
    replace K0 := K0.below hb3
    replace K1 := K1.below hb3
    have hb3s := hb3.size
    have hl3 := K1.lt
    obtain ⟨Acv, ccv, rfl, _, _⟩ := hcr.val
    have hul := hown.lt
    obtain ⟨gi, capi, rfl, hgM, hgi, hcp1, hcp2, hfz⟩ := own_ptr hown (by intro e; rw [e] at hkl; simp at hkl)
    have hcm2 := hcp2
    unfold maxLen at hcm2
    have hlen2 := HS.out.len
    simp only at hlen2
    have i1 : (0 : Int) ≤ (k : Int) := by omega
    have i2 : (k : Int) < (items.length : Int) := by omega
    have i3 : (k : Int) + 1 ≤ (items.length : Int) := by omega
    have hownR := hown.more (T := fun b => M ≤ b ∧ b < w3.heap.size) (fun b hb h => ⟨h, hb⟩)
    have hlg : w.heap.size + 1 < w3.heap.size := hl3
    by_cases h0 : 0 < k
    · obtain ⟨j, rfl⟩ : ∃ j, k = j + 1 := ⟨k - 1, by omega⟩
      obtain ⟨x, hx⟩ : ∃ x, items[j]? = some x := ⟨_, List.getElem?_eq_getElem (by omega)⟩
      obtain ⟨y, hy⟩ : ∃ y, items[j + 1]? = some y := ⟨_, List.getElem?_eq_getElem hkl⟩
      have hho := handOn_succ hx hy
      have hrd := hownR.reads (T := fun b => M ≤ b ∧ b < w3.heap.size) (fun b hb hh => by rcases hh with hh | hh; exact hh; exact hul b hh.symm)
      obtain ⟨b, off, cs, hA, hbl, _, hll2, hccc, hn64, ht64, dv, rfl, hd⟩ := hrd.at_ hx
      injection hA with hA
      injection hA with e1 e2
      subst e1; subst e2
      obtain ⟨Ad, dcap, rfl, hdc, hdm⟩ := hd.val
      have c0 := hccc 0 (by omega)
      have c1 := hccc 1 (by omega)
      have c2 := hccc 2 (by omega)
      obtain ⟨b', off', cs', hA', _, _, _, hccc', _, _, dv', rfl, hd'⟩ := hrd.at_ hy
      injection hA' with hA'
      injection hA' with e1 e2
      subst e1; subst e2
      obtain ⟨Ad', dcap', rfl, hdc', hdm'⟩ := hd'.val
      have d2 := hccc' 2 (by omega)
      simp at c0 c1 c2 d2
      have hxm := List.mem_of_getElem? hx
      have hym := List.mem_of_getElem? hy
      have hs5 := HS.out.svl x hxm
      have hs6 := HS.out.sec x hxm
      have hs7 := HS.out.svl y hym
      have hs8 := HS.out.sec y hym
      obtain ⟨num, time, saved⟩ := x
      obtain ⟨num', time', saved'⟩ := y
      simp only at hn64 ht64 hd hd' c0 c1 c2 d2 hs5 hs6 hs7 hs8
      have BA : Below w3.heap.size w3 ((w3.alloc (.cells #[.slice Acv cur.length ccv, .slice (some ⟨gi, 0, none⟩) items.length capi] 26)).alloc (.cells #[.int .i64 num, .int .i64 time, .slice Ad saved.length dcap] 126)) := ((Below.refl _ _).alloc (Nat.le_refl _) _).alloc (by simp) _
      have K4 : Blk ((w3.alloc (.cells #[.slice Acv cur.length ccv, .slice (some ⟨gi, 0, none⟩) items.length capi] 26)).alloc (.cells #[.int .i64 num, .int .i64 time, .slice Ad saved.length dcap] 126)) w3.heap.size 26 #[.slice Acv cur.length ccv, .slice (some ⟨gi, 0, none⟩) items.length capi] := (Blk.new _ _ _).alloc _
      have K12 : Blk ((w3.alloc (.cells #[.slice Acv cur.length ccv, .slice (some ⟨gi, 0, none⟩) items.length capi] 26)).alloc (.cells #[.int .i64 num, .int .i64 time, .slice Ad saved.length dcap] 126)) (w3.heap.size + 1) 126 #[.int .i64 num, .int .i64 time, .slice Ad saved.length dcap] := by
        have := Blk.new (w3.alloc (.cells #[.slice Acv cur.length ccv, .slice (some ⟨gi, 0, none⟩) items.length capi] 26)) 126 #[.int .i64 num, .int .i64 time, .slice Ad saved.length dcap]
        simpa using this
      have hsv := save_any (w3.heap.size + 1) (.slice Ad' saved'.length dcap') (.slice Ad saved.length dcap) num time saved' saved _ (fun _ => True) K12 ((hd'.more (T := fun _ => True) (fun _ _ _ => trivial)).below BA) ((hd.more (T := fun _ => True) (fun _ _ _ => trivial)).below BA) (by omega) (by rw [secN_append]; omega)
      have K1A := K1.below BA
      have BBA := below_then B3 B3.size BA
      have hsv2 := hsv.mono (R' := fun e w5 => e = .returned (.tuple #[]) ∧ ∃ A6 cap6, Blk w5 (w3.heap.size + 1) 126 #[.int .i64 num, .int .i64 time, .slice A6 (foldR (saved' ++ saved)).length cap6] ∧ RWrs w5 (fun b => w3.heap.size + 2 ≤ b) (.slice A6 (foldR (saved' ++ saved)).length cap6) (foldR (saved' ++ saved)) ∧ ((w3.alloc (.cells #[.slice Acv cur.length ccv, .slice (some ⟨gi, 0, none⟩) items.length capi] 26)).alloc (.cells #[.int .i64 num, .int .i64 time, .slice Ad saved.length dcap] 126)).grownBy w5 (some (w3.heap.size + 1))) (by
        rintro e w5 ⟨h1, v6, h2, h3, h4⟩
        obtain ⟨A6, cap6, rfl, _, _⟩ := h3.val
        exact ⟨h1, A6, cap6, h2, h3.more (fun b _ h => by simpa using h), h4⟩)
      clear hccc hccc' hll2 hrd hd hd' hsv hs5 hs6 hs7 hs8 hxm hym
      have b2 : (j : Int) + 1 < (items.length : Int) := by omega
      have b3 : (j : Int) < (items.length : Int) := by omega
      go_wp2_with fail
      refine hsv2.mono ?_
      rintro e w6 ⟨rfl, A6, cap6, K12', X6, G6⟩
      clear c0 c1 c2 d2
      have hg6 := G6.size
      simp only [World.size_alloc] at hg6
      have K4f := K4.grown G6 (by simp)
      have K1f := K1A.grown G6 (by simp; omega)
      have hO5 := hownR.below BA
      have hO6 := (hO5.kept G6 (.inr fun e => by simp [Value.ownBlock] at e; omega) (fun b _ h1 _ e => by injection e with e; omega)).more (T := fun b => (M ≤ b ∧ b < w3.heap.size) ∨ w3.heap.size + 2 ≤ b) (fun b _ h => .inl h)
      have hX6 : RSnap w6 (fun b => ((M ≤ b ∧ b < w3.heap.size) ∨ w3.heap.size + 2 ≤ b) ∧ some b ≠ some gi) [.int .i64 num, .int .i64 time, .slice A6 (foldR (saved' ++ saved)).length cap6] ⟨num, time, foldR (saved' ++ saved)⟩ :=
        ⟨hn64, ht64, _, rfl, X6.more fun b _ h => ⟨.inr h, fun e => by injection e with e; omega⟩⟩
      obtain ⟨hO7, G7⟩ := hO6.set3 (j := j) (by omega) hX6
      have hr6 := hO6.reads (T := fun _ => True) (fun _ _ _ => trivial)
      obtain ⟨b6, off6, cs6, hA6, hbl6, _, hll6, hccc6, hn66, ht66, dv6, rfl, hd6⟩ := hr6.at_ hx
      injection hA6 with hA6
      injection hA6 with e1 e2
      subst e1; subst e2
      have c0 := hccc6 0 (by omega)
      have c1 := hccc6 1 (by omega)
      have c2 := hccc6 2 (by omega)
      simp at c0 c1 c2
      have hf6 : ∀ j, w6.frozen? ⟨gi, j, none⟩ = false := fun j => (own_ptr hO6 (by intro e; rw [e] at hkl; simp at hkl)).elim fun g h => by
        obtain ⟨cap, he, _, _, _, _, hff⟩ := h
        injection he with he
        injection he with he
        injection he with he
        rw [he]; exact hff j
      have f0 := hf6 (j * 3)
      have f1 := hf6 (j * 3 + 1)
      have f2 := hf6 (j * 3 + 2)
      obtain ⟨x0, x1, x2, x3⟩ := K4f.two
      obtain ⟨z0, z1, z2, z3, z4, z5⟩ := K12'.three
      have hl36 := K4f.lt
      have hgi6 : gi < w6.heap.size := hbl6
      have hls : (items.set j ⟨num, time, foldR (saved' ++ saved)⟩).length = items.length := by simp
      rw [← hls] at hO7
      have hds := slDelete_any gi capi (items.set j ⟨num, time, foldR (saved' ++ saved)⟩) (j + 1) _ M _ hO7 (by rw [hls]; exact hkl)
      rw [hls] at hds
      have K4g := ((K4f.far (p := ⟨gi, j * 3, none⟩) (by simp; omega) (.int .i64 num)).far (p := ⟨gi, j * 3 + 1, none⟩) (by simp; omega) (.int .i64 time)).far (p := ⟨gi, j * 3 + 2, none⟩) (by simp; omega) (.slice A6 (foldR (saved' ++ saved)).length cap6)
      have K1g := ((K1f.far (p := ⟨gi, j * 3, none⟩) (by simp; omega) (.int .i64 num)).far (p := ⟨gi, j * 3 + 1, none⟩) (by simp; omega) (.int .i64 time)).far (p := ⟨gi, j * 3 + 2, none⟩) (by simp; omega) (.slice A6 (foldR (saved' ++ saved)).length cap6)
      have hcrA := (hcr.below BA).keep (fun b hb h => G6.block b hb (fun e => by injection e with e; omega))
      have BBF : Below w.heap.size w w6 := BBA.grown G6 BBA.size (fun j e => by injection e with e; omega)
      have HDS := Lib.hid hds
      have HGG := Lib.hid (And.intro G7 (And.intro BBF hcrA))
      clear hds hO7 hO6 hO5 hX6 hr6 hccc6 hd6 hll6 hf6 X6 K12' K12 K4f K1f K4 K1 K1A K0 hsv2 G7 BBF hcrA BBA
      go_wp2_with fail
      clear c0 c1 c2 f0 f1 f2 x0 x1 x2 x3 z0 z1 z2 z3 z4 z5
      refine HDS.out.mono ?_
      rintro e w5 ⟨rfl, X5, G5⟩
      obtain ⟨G7, BBF, hcrA⟩ := HGG.out
      have K4' := K4g.grown G5 (fun e => by injection e with e; omega)
      have K1' := K1g.grown G5 (fun e => by injection e with e; omega)
      have hcr' := (hcrA.keep (fun b hb h => G7.block b hb (fun e => by injection e with e; omega))).keep (fun b hb h => G5.block b hb (fun e => by injection e with e; omega))
      have BF := (BBF.grown G7 BBF.size (fun j e => by injection e with e; omega)).grown G5 (by have := BBF.size; have := G7.size; omega) (fun j e => by injection e with e; omega)
      have hg5 := G5.size
      have hg7 := G7.size
      obtain ⟨L, hL⟩ : ∃ L, L = ((items.set j ⟨num, time, foldR (saved' ++ saved)⟩).eraseIdx (j + 1)).length := ⟨_, rfl⟩
      rw [← hL] at X5 ⊢
      obtain ⟨z0, z1, z2, z3⟩ := K4'.two
      obtain ⟨q0, q1, q2, q3⟩ := K1'.two
      have l4 := K4'.lt
      have l5 := K1'.lt
      have HR := Lib.hid (And.intro X5 (And.intro hcr' BF))
      have hlw : w.heap.size + 1 < w3.heap.size := hlg
      clear X5 hcr' BF hL G5 K4' K1' K4g K1g HGG G7 BBF hcrA BA hown hownR hcr HDS hc hi
      go_wp2
      refine bodyPost_ret (v := .tuple #[.agg #[.slice Acv cur.length ccv, .slice (some ⟨gi, 0, none⟩) L capi], .int .i64 0]) (by simp [results, Try.results53, go_sem, l4, l5, z0, z1, z2, z3, q0, q1, q2, q3, ne_of hlw]) rfl ?_
      rw [HE.out.1, HE.out.2]
      obtain ⟨X5, hcr', BF⟩ := HR.out
      have BK : ∀ W : World, ∀ b, w.heap.size + 2 ≤ b → b ≠ w3.heap.size → (((W.setCell ⟨w3.heap.size, 1, none⟩ (.slice (some ⟨gi, 0, none⟩) L capi)).setCell ⟨w.heap.size + 1, 0, none⟩ (.slice Acv cur.length ccv)).setCell ⟨w.heap.size + 1, 1, none⟩ (.slice (some ⟨gi, 0, none⟩) L capi)).heap[b]? = W.heap[b]? := fun W b h1 h2 =>
        (Below.heap_setCell _ _ _ b (by simp; omega)).trans ((Below.heap_setCell _ _ _ b (by simp; omega)).trans (Below.heap_setCell _ _ _ b (by simpa using h2)))
      refine ⟨_, _, rfl, ?_, ?_, ?_⟩
      · exact (hcr'.keep (fun b hb h1 => BK _ b (by omega) (by omega))).more (fun b _ h => by omega)
      · show RSnaps _ _ _ ((handOn items (j + 1)).eraseIdx (j + 1))
        rw [hho]
        exact (X5.keep (fun b hb h1 => BK _ b (by omega) (by omega))).more (fun b _ h => by omega)
      · exact ((BF.setCell (p := ⟨w3.heap.size, 1, none⟩) (by simp; omega) _).setCell (by simp) _).setCell (by simp) _
    · obtain rfl : k = 0 := by omega
      have t0 : decide ((0 : Int) < ((0 : Nat) : Int)) = false := rfl
      have K4 : Blk (w3.alloc (.cells #[.slice Acv cur.length ccv, .slice (some ⟨gi, 0, none⟩) items.length capi] 26)) w3.heap.size 26 #[.slice Acv cur.length ccv, .slice (some ⟨gi, 0, none⟩) items.length capi] := Blk.new _ _ _
      have BA : Below w3.heap.size w3 (w3.alloc (.cells #[.slice Acv cur.length ccv, .slice (some ⟨gi, 0, none⟩) items.length capi] 26)) := (Below.refl _ _).alloc (Nat.le_refl _) _
      have hds := slDelete_any gi capi items 0 _ M _ (hownR.below BA) hkl
      have K1A := K1.below BA
      have hcrA := hcr.below BA
      have BBA := below_then B3 B3.size BA
      have HDS := Lib.hid hds
      clear hds
      go_wp2_with fail
      refine HDS.out.mono ?_
      rintro e w5 ⟨rfl, X5, G5⟩
      have K4' := K4.grown G5 (fun e => by injection e with e; omega)
      have K1' := K1A.grown G5 (fun e => by injection e with e; omega)
      have hcr' := hcrA.keep (fun b hb h => G5.block b hb (fun e => by injection e with e; omega))
      have BF := BBA.grown G5 BBA.size (fun j e => by injection e with e; omega)
      obtain ⟨L, hL⟩ : ∃ L, L = (items.eraseIdx 0).length := ⟨_, rfl⟩
      rw [← hL] at X5 ⊢
      obtain ⟨z0, z1, z2, z3⟩ := K4'.two
      obtain ⟨q0, q1, q2, q3⟩ := K1'.two
      have l4 := K4'.lt
      have l5 := K1'.lt
      have HR := Lib.hid (And.intro X5 (And.intro hcr' BF))
      have hlw : w.heap.size + 1 < w3.heap.size := hlg
      clear X5 hcr' BF hL G5 K4' K1' K4 K1A hcrA BBA BA K1 K0 hown hownR hcr HDS hc hi
      go_wp2
      refine bodyPost_ret (v := .tuple #[.agg #[.slice Acv cur.length ccv, .slice (some ⟨gi, 0, none⟩) L capi], .int .i64 0]) (by simp [results, Try.results53, go_sem, l4, l5, z0, z1, z2, z3, q0, q1, q2, q3, ne_of hlw]) rfl ?_
      rw [HE.out.1, HE.out.2]
      obtain ⟨X5, hcr', BF⟩ := HR.out
      have BK : ∀ W : World, ∀ b, w.heap.size + 2 ≤ b → b ≠ w3.heap.size → (((W.setCell ⟨w3.heap.size, 1, none⟩ (.slice (some ⟨gi, 0, none⟩) L capi)).setCell ⟨w.heap.size + 1, 0, none⟩ (.slice Acv cur.length ccv)).setCell ⟨w.heap.size + 1, 1, none⟩ (.slice (some ⟨gi, 0, none⟩) L capi)).heap[b]? = W.heap[b]? := fun W b h1 h2 =>
        (Below.heap_setCell _ _ _ b (by simp; omega)).trans ((Below.heap_setCell _ _ _ b (by simp; omega)).trans (Below.heap_setCell _ _ _ b (by simpa using h2)))
      refine ⟨_, _, rfl, ?_, ?_, ?_⟩
      · exact (hcr'.keep (fun b hb h1 => BK _ b (by omega) (by omega))).more (fun b _ h => by omega)
      · show RSnaps _ _ _ ((handOn items 0).eraseIdx 0)
        exact (X5.keep (fun b hb h1 => BK _ b (by omega) (by omega))).more (fun b _ h => by omega)
      · exact ((BF.setCell (p := ⟨w3.heap.size, 1, none⟩) (by simp; omega) _).setCell (by simp) _).setCell (by simp) _
  · have hz' : (findE ⟨cur, items⟩ n != 0) = true := by simpa using hz
    have e1 : deleteS ⟨cur, items⟩ n = noS := by unfold deleteS; rw [if_neg hz]
    have HE := Lib.hid e1
    have HB := Lib.hid B1
    clear hz e1 B1
    go_wp2
    exact bodyPost_ret (v := .tuple #[.agg #[.slice none 0 0, .slice none 0 0], .int .i64 (findE ⟨cur, items⟩ n)]) (by simp [results, Try.results53, go_sem, l1, y0, y1, y2, y3]) rfl ⟨_, _, rfl, by rw [HE.out]; exact RSl.nil _ _, by rw [HE.out]; exact RSl.nil _ _, (HB.out.setCell (by simp) _).setCell (by simp) _⟩
end Go.Proofs.Ytccbbecfmfldbaa

set_option maxRecDepth 100000
set_option linter.unusedVariables false
set_option linter.unusedSimpArgs false
namespace Go.Proofs.Ytccbbecfmfldbaa
open Go.RowKit Go.Mm Sb

/-! ### snapshots: Revert -/
def cutS (items : List Snap) (k : Nat) : List Snap := items.take k ++ (items[k]?.map fun x => (⟨x.num, x.time, []⟩ : Snap)).toList
def revertS (s : Snaps) (n : Int) : Snaps := if findE s n = 0 then ⟨imgAt s.cur (s.items.drop (findK s n)), cutS s.items (findK s n)⟩ else noS
theorem cutS_eq {items : List Snap} {k : Nat} {x : Snap} (h : items[k]? = some x) : cutS items k = (items.set k ⟨x.num, x.time, []⟩).take (k + 1) := by
  obtain ⟨hk, rfl⟩ := List.getElem?_eq_some_iff.1 h
  unfold cutS
  rw [h, List.take_succ_eq_append_getElem (by simpa using hk), List.take_set_of_le (Nat.le_refl _)]
  simp
theorem setCell_keep {w : World} {a : Addr} {v : Value} (h : w.cell? a = some v) : w.setCell a v = w := by
  unfold World.setCell
  refine Eq.trans (congrArg (fun h => ({ w with heap := h } : World)) (?_ : _ = w.heap)) rfl
  · apply Array.ext_getElem?
    intro i
    rw [Array.getElem?_modify]
    split
    · rename_i hi
      subst hi
      unfold World.cell? at h
      cases ho : w.heap[a.block]? with
      | none => rfl
      | some o =>
        cases o with
        | cells c el fr =>
          simp only [ho] at h
          split at h
          · cases h
          · rename_i hs
            simp only [Option.map_some, hs, Bool.false_eq_true, if_false]
            congr 2
            apply Array.ext_getElem?
            intro j
            rw [Array.getElem?_setIfInBounds]
            split
            · rename_i hj; subst hj
              split
              · exact h.symm
              · rename_i hlt
                rw [Array.getElem?_eq_none (by omega)] at h; cases h
            · rfl
        | _ => rfl
    · rfl
set_option maxHeartbeats 16000000 in
theorem snRevert_any (vc vi : Value) (s : Snaps) (n : Int) (w : World) (S T : Nat → Prop) (hc : RImg w S vc s.cur) (hi : RSnaps w T vi s.items) (hl : s.cur.length ≤ 100000) :
    Calls Try.prog 26 #[.agg #[vc, vi], .int .i64 n] w (RetS (revertS s n) (findE s n) w) := by
  obtain ⟨cur, items⟩ := s
  simp only at *
  obtain ⟨Ac, cc, rfl, hcc, hcm⟩ := hc.val
  obtain ⟨Ai, ci, rfl, hic, him⟩ := hi.val
  unfold maxLen at hcm him
  have BA : Below w.heap.size w ((w.alloc (.cells #[.slice Ac cur.length cc, .slice Ai items.length ci] 26)).alloc (.cells #[.slice none 0 0, .slice none 0 0] 26)) := ((Below.refl _ _).alloc (Nat.le_refl _) _).alloc (by simp) _
  have K0 : Blk ((w.alloc (.cells #[.slice Ac cur.length cc, .slice Ai items.length ci] 26)).alloc (.cells #[.slice none 0 0, .slice none 0 0] 26)) w.heap.size 26 #[.slice Ac cur.length cc, .slice Ai items.length ci] := (Blk.new _ _ _).alloc _
  have K1 : Blk ((w.alloc (.cells #[.slice Ac cur.length cc, .slice Ai items.length ci] 26)).alloc (.cells #[.slice none 0 0, .slice none 0 0] 26)) (w.heap.size + 1) 26 #[.slice none 0 0, .slice none 0 0] := by
    have := (Blk.new (w.alloc (.cells #[.slice Ac cur.length cc, .slice Ai items.length ci] 26)) 26 #[.slice none 0 0, .slice none 0 0])
    simpa using this
  have hck := find_any _ _ ⟨cur, items⟩ n _ S T (hc.below BA) (hi.below BA) hl
  go_enter Try.func26, Try.ntmps26
  go_wp2_with fail
  refine hck.mono ?_
  rintro e w1 ⟨rfl, hb1⟩
  clear hck
  have B1 := below_then BA BA.size hb1
  replace K0 := K0.below hb1
  replace K1 := K1.below hb1
  have l0 := K0.lt
  have l1 := K1.lt
  obtain ⟨x0, x1, x2, x3⟩ := K0.two
  obtain ⟨y0, y1, y2, y3⟩ := K1.two
  clear BA hb1
  by_cases hz : findE ⟨cur, items⟩ n = 0
  · obtain ⟨hok, hfs, hkl⟩ := findE_zero hz
    have hsm := hok.small
    have hde : revertS ⟨cur, items⟩ n = ⟨imgAt cur (items.drop (findK ⟨cur, items⟩ n)), cutS items (findK ⟨cur, items⟩ n)⟩ := by unfold revertS; rw [if_pos hz]
    have hat := at_any (.slice Ac cur.length cc) (.slice Ai items.length ci) ⟨cur, items⟩ (findK ⟨cur, items⟩ n) w1 S T (hc.below B1) (hi.below B1) hok hkl
    rw [hz]
    simp only at hkl hat
    generalize findK ⟨cur, items⟩ n = k at *
    have HE := Lib.hid (And.intro hz hde)
    have HS := Lib.hid hsm
    clear hz hde hok hfs hsm
    go_wp2_with fail
    refine hat.mono ?_
    rintro e w2 ⟨v2, rfl, X2, hb2⟩
    clear hat x0 x1 x2 x3 y0 y1 y2 y3
    have B2 := below_then B1 B1.size hb2
    replace K0 := K0.below hb2
    replace K1 := K1.below hb2
    obtain ⟨x0, x1, x2, x3⟩ := K0.two
    have l0 := K0.lt
    have l1w := l1
    have l1 := K1.lt
    replace X2 := X2.more (T := fun b => w.heap.size + 2 ≤ b ∧ b < w2.heap.size) (fun b hb h => ⟨by omega, hb⟩)
    have hcp := snCopied_any (.slice Ac cur.length cc) (.slice Ai items.length ci) ⟨cur, items⟩ w2 _ (hc.below B2 |>.more (T := fun b => S b ∨ T b) fun _ _ h => .inl h) (hi.below B2 |>.more (T := fun b => S b ∨ T b) fun _ _ h => .inr h) HS.out
    go_wp2_with fail
    refine hcp.mono ?_
    rintro e w3 ⟨cv, iv, rfl, ⟨M, hM1, hM2, hcr, hown⟩, hb3⟩
    clear hcp x0 x1 x2 x3
    simp only at hcr hown
    have B3 := below_then B2 B2.size hb3
    replace K1 := K1.below hb3
    replace X2 := X2.below hb3
    have hb3s := hb3.size
    have hl3 := K1.lt
    obtain ⟨Acv, ccv, rfl, _, _⟩ := hcr.val
    have hul := hown.lt
    obtain ⟨gi, capi, rfl, hgM, hgi, hcp1, hcp2, hfz⟩ := own_ptr hown (by intro e; rw [e] at hkl; simp at hkl)
    have hcm2 := hcp2
    unfold maxLen at hcm2
    have hlen2 := HS.out.len
    simp only at hlen2
    have i1 : (0 : Int) ≤ (k : Int) := by omega
    have i2 : (k : Int) < (items.length : Int) := by omega
    have i3 : (k : Int) + 1 ≤ (items.length : Int) := by omega
    have i4 : (k : Int) + 1 ≤ (capi : Int) := by omega
    have i5 : (0 : Int) ≤ (k : Int) + 1 := by omega
    have i6 : (k : Int) < (k : Int) + 1 := by omega
    have hownR := hown.more (T := fun b => M ≤ b ∧ b < w3.heap.size) (fun b hb h => ⟨h, hb⟩)
    have hlg : w.heap.size + 1 < w3.heap.size := hl3
    obtain ⟨x, hx⟩ : ∃ x, items[k]? = some x := ⟨_, List.getElem?_eq_getElem hkl⟩
    have hcu := cutS_eq hx
    have hrd := hownR.reads (T := fun b => M ≤ b ∧ b < w3.heap.size) (fun b hb hh => by rcases hh with hh | hh; exact hh; exact hul b hh.symm)
    obtain ⟨b, off, cs, hA, hbl, _, hll2, hccc, hn64, ht64, dv, rfl, hd⟩ := hrd.at_ hx
    injection hA with hA
    injection hA with e1 e2
    subst e1; subst e2
    have c0 := hccc 0 (by omega)
    have c1 := hccc 1 (by omega)
    have c2 := hccc 2 (by omega)
    simp at c0 c1 c2
    have f2 := hfz (k * 3 + 2)
    obtain ⟨A2, c2', rfl, _, _⟩ := X2.val
    obtain ⟨num, time, saved⟩ := x
    simp only at hn64 ht64 hd c0 c1 c2 hcu
    have hset := hownR.set3 (j := k) hkl (x' := ⟨num, time, []⟩) (u0 := .int .i64 num) (u1 := .int .i64 time) (u2 := .slice none 0 0) ⟨hn64, ht64, _, rfl, RSl.nil _ _⟩
    have e01 : ((w3.setCell ⟨gi, k * 3, none⟩ (.int .i64 num)).setCell ⟨gi, k * 3 + 1, none⟩ (.int .i64 time)).setCell ⟨gi, k * 3 + 2, none⟩ (.slice none 0 0) = w3.setCell ⟨gi, k * 3 + 2, none⟩ (.slice none 0 0) := by
      rw [setCell_keep c0, setCell_keep c1]
    rw [e01] at hset
    obtain ⟨hO7, G7⟩ := hset
    obtain ⟨y0, y1, y2, y3⟩ := K1.two
    have hR7 := hO7.reads (T := fun b => M ≤ b ∧ b < w3.heap.size) (fun b _ hh => by rcases hh with hh | hh; exact hh; exact hul b hh.symm)
    have hR8 := hR7.sub 0 (k + 1) (by simp; omega)
    simp only [List.drop_zero, Nat.zero_mul, Nat.add_zero, Nat.sub_zero] at hR8
    rw [← hcu] at hR8
    have HR := Lib.hid (And.intro X2 (And.intro hR8 (And.intro G7 B3)))
    clear X2 hR7 hR8 hO7 B3 G7 hownR hown hcr hrd hccc hd hll2 hcu e01 hb3 hb2 B1 B2 K0 K1 hc hi hul
    go_wp2
    refine bodyPost_ret (v := .tuple #[.agg #[.slice A2 (imgAt cur (items.drop k)).length c2', .slice (some ⟨gi, 0, none⟩) (k + 1) capi], .int .i64 0]) (by simp [results, Try.results26, go_sem, y0, y1, y2, y3, hlg, hl3, ne_of hlg]) rfl ?_
    rw [HE.out.1, HE.out.2]
    obtain ⟨X2, hR8, G7, B3⟩ := HR.out
    have BK : ∀ W : World, ∀ b, b < W.heap.size → w.heap.size + 2 ≤ b → (((W.setCell ⟨w.heap.size + 1, 0, none⟩ (.slice A2 (imgAt cur (items.drop k)).length c2')).setCell ⟨w.heap.size + 1, 1, none⟩ (.slice (some ⟨gi, 0, none⟩) (k + 1) capi)).alloc (.cells #[.slice A2 (imgAt cur (items.drop k)).length c2', .slice (some ⟨gi, 0, none⟩) (k + 1) capi] 26)).heap[b]? = W.heap[b]? := fun W b h0 h1 =>
      (Below.heap_alloc _ _ b (by simpa using h0)).trans ((Below.heap_setCell _ _ _ b (by simp; omega)).trans (Below.heap_setCell _ _ _ b (by simp; omega)))
    refine ⟨_, _, rfl, ?_, ?_, ?_⟩
    · exact ((X2.keep (fun b hb h1 => G7.block b hb (fun e => by injection e with e; omega))).keep (fun b hb h1 => BK _ b hb (by omega))).more (fun b _ h => by omega)
    · exact (hR8.keep (fun b hb h1 => BK _ b hb (by omega))).more (fun b _ h => by omega)
    · have B9 := ((B3.grown G7 B3.size (fun j e => by injection e with e; omega)).setCell (p := ⟨w.heap.size + 1, 0, none⟩) (by simp) (.slice A2 (imgAt cur (items.drop k)).length c2')).setCell (p := ⟨w.heap.size + 1, 1, none⟩) (by simp) (.slice (some ⟨gi, 0, none⟩) (k + 1) capi)
      exact B9.alloc B9.size _
  · have hz' : (findE ⟨cur, items⟩ n != 0) = true := by simpa using hz
    have e1 : revertS ⟨cur, items⟩ n = noS := by unfold revertS; rw [if_neg hz]
    have HE := Lib.hid e1
    have HB := Lib.hid B1
    clear hz e1 B1
    go_wp2
    exact bodyPost_ret (v := .tuple #[.agg #[.slice none 0 0, .slice none 0 0], .int .i64 (findE ⟨cur, items⟩ n)]) (by simp [results, Try.results26, go_sem, l1, y0, y1, y2, y3]) rfl ⟨_, _, rfl, by rw [HE.out]; exact RSl.nil _ _, by rw [HE.out]; exact RSl.nil _ _, (HB.out.setCell (by simp) _).setCell (by simp) _⟩
end Go.Proofs.Ytccbbecfmfldbaa

set_option maxRecDepth 100000
set_option linter.unusedVariables false
set_option linter.unusedSimpArgs false
namespace Go.Proofs.Ytccbbecfmfldbaa
open Go.RowKit Go.Mm Sb

/-! ### write (law 36) -/
set_option maxHeartbeats 4000000 in
theorem write36_any (start : Int) (v : Value) (bs : List Int) (w : World) (S : Nat → Prop) (h : RSl 1 RByte w S v bs) (hn : bs.length ≤ 1000) (hs64 : In64 start) :
    Calls Try.prog 50 #[.int .i64 start, v] w fun e w' => ∃ v', e = .returned v' ∧ RWrs w' (fun b => w.heap.size ≤ b) v' [⟨0, start, bs.map sec1⟩] ∧ Below w.heap.size w w' := by
  obtain ⟨A, cap, rfl, hcap, hm⟩ := h.val
  unfold maxLen at hm
  go_enter Try.func50, Try.ntmps50
  go_wp2
  go_loopw [6] (fun i wr => ∃ (k : Nat) (dv : Value), k ≤ bs.length ∧ i = .int .i64 k ∧ Blk wr w.heap.size 54 #[.int .i64 0, .int .i64 start, dv] ∧
      OwnSl 99 8 RSec wr w.heap.size (fun _ => False) dv ((bs.take k).map sec1) ∧ Below w.heap.size w wr) (fun i _ => bs.length - (intOf i).toNat)
  case atStart => exact ⟨0, _, Nat.zero_le _, rfl, Blk.new _ _ _, OwnSl.nil _, (Below.refl _ _).alloc (Nat.le_refl _) _⟩
  case round =>
    obtain ⟨k, dv, hk, rfl, hbk, hown, hb⟩ := hrel
    obtain ⟨q0, q1, q2, q3, q4, q5⟩ := hbk.three
    have hbs := hb.size
    have hbkl := hbk.lt
    by_cases hlt : k < bs.length
    · obtain ⟨x, hx⟩ : ∃ x, bs[k]? = some x := ⟨_, List.getElem?_eq_getElem hlt⟩
      obtain ⟨b, off, cs, rfl, hbl, _, hl, hcc, hr⟩ := h.at_ hx
      obtain rfl : cs = [.int .u8 x] := hr
      have c0 := (hb.cell (p := ⟨b, off + k * 1 + 0, none⟩) hbl).trans (hcc 0 (by omega))
      simp at c0
      clear hcc
      have hlen : ((bs.take k).map sec1).length = k := by simp; omega
      have hul := hown.lt
      obtain ⟨crow, hrow⟩ := hown.row
      have nk := Ne.symm (own_blk_ne hrow hbk (by decide))
      have i1 : (0 : Int) ≤ (k : Int) := by omega
      have i2 : (k : Int) < (bs.length : Int) := by omega
      have hownD := hown.drew
      have hbkD := hbk.drew
      have hblw : b < wr.heap.size := by omega
      have HX := Lib.hid hx
      clear hx hrow hl
      go_wp2_with fail
      go_region_law (refine step_appendNew (by rfl) _ _ 52 (by rfl) 99 _ 8 8 Try.underlying52 infoS (by rfl) (by omega) RSec w.heap.size (fun _ => False) dv ((bs.take k).map sec1) (by rfl) hownD #[.int .u8 x, .int .u8 0, .int .u8 0, .int .u8 0, .int .u8 0, .int .u8 0, .int .u8 0, .int .u8 0] (sec1 x) wr.heap.size rfl (by rfl) (by rfl) (by simp [Value.oneCell']) rfl (by rw [hlen]; omega) (by omega) (by simp; omega) ?_; intro v5 w5 hO5 hg5 hat5; obtain ⟨A5, c5, rfl, hl5, hm5⟩ := hO5.val; have hbk5 := hbkD.grown hg5 nk; obtain ⟨r0, r1, r2, r3, r4, r5⟩ := hbk5.three)
      all_goals
        have e5 : ((bs.take k).map sec1 ++ [sec1 x]).length = k + 1 := by simp; omega
        rw [e5] at hO5
        have hl5' := hO5.lt
        obtain ⟨crow5, hrow5⟩ := hO5.row
        have nk5 := own_blk_ne hrow5 hbk5 (by decide)
        have hs5 := hg5.size
        have HHL := Lib.hid hlen
        clear hlen
        go_wp2
        go_roundw
        case rel =>
          obtain ⟨hkk, hxx⟩ := List.getElem?_eq_some_iff.1 HX.out
          refine ⟨k + 1, .slice A5 (k + 1) c5, by omega, by go_num, by simpa using hbk5.set_ 2 (.slice A5 (k + 1) c5), ?_, ?_⟩
          · have he : ((bs.take k).map sec1) ++ [sec1 x] = (bs.take (k + 1)).map sec1 := by rw [List.take_succ_eq_append_getElem hkk, hxx]; simp
            rw [← he]
            exact hO5.kept (grown_setCell _ _ _) (.inr nk5) (by simp)
          · exact ((hb.drew).grown hg5 (by simp; omega) (fun j e => (hul j e).1)).setCell (by simp) _
        case measure => simp [intOf]; omega
    · obtain rfl : k = bs.length := by omega
      rw [List.take_length] at hown
      obtain ⟨Ad, dcap, rfl, hd1, hd2⟩ := hown.val
      have hul := hown.lt
      have hrd : RSecs wr (fun b => w.heap.size ≤ b) (.slice Ad (bs.map sec1).length dcap) (bs.map sec1) := hown.reads (fun b _ hh => by rcases hh with hh | hh; exact hh.elim; exact (hul b hh.symm).1)
      have HR := Lib.hid hrd
      have HH := Lib.hid hul
      clear hrd hown hul
      go_wp2
      go_ret
      refine ⟨_, rfl, ?_, hb.alloc hbs _⟩
      have BA : Below wr.heap.size wr (wr.alloc (.cells #[.int .i64 0, .int .i64 start, .slice Ad bs.length dcap] 54)) := (Below.refl _ _).alloc (Nat.le_refl _) _
      have hx := (Blk.new wr 54 #[.int .i64 0, .int .i64 start, .slice Ad bs.length dcap])
      refine ⟨some ⟨wr.heap.size, 0, none⟩, 1, rfl, by simp, by decide, fun _ => ⟨wr.heap.size, 0, rfl, hx.lt, hbs, fun j x hj => ?_⟩⟩
      match j with
      | 0 =>
        simp at hj; subst hj
        refine ⟨[.int .i64 0, .int .i64 start, .slice Ad bs.length dcap], rfl, fun i hi => ?_, by unfold In64; simp, hs64, _, rfl, by have := HR.out.below BA; simpa using this⟩
        have := hx.cell (0 + 0 * 3 + i)
        simp at this
        simp [this]
      | j + 1 => simp at hj
end Go.Proofs.Ytccbbecfmfldbaa
