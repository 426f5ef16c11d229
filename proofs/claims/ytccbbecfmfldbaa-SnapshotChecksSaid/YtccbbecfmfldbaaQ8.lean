import Derived.Test.YtccbbecfmfldbaaQ7
import Derived.Test.YtccbbecfmfldbaaQ3
import Derived.DeepKeys4
import Derived.KernelRfl
set_option maxRecDepth 100000
set_option linter.unusedVariables false
set_option linter.unusedSimpArgs false
namespace Go.Proofs.Ytccbbecfmfldbaa
open Go.RowKit Go.Mm Sb

/-! ### the map of effects -/
theorem laidOut : laidOutB Try.prog = true := by kernel_rfl
theorem row144 : (170 : TypeId) < Try.prog.types.size := of_decide_eq_true (by kernel_rfl)
theorem wide144 : (match Try.prog.underlying 170 with | some (.array _ _) | some (.struct _) => true | _ => false) = true := by kernel_rfl
theorem law144 : WideMaps.KeyLaw Try.prog 170 := deep_law_laid laidOut (m := 2) (by omega) row144 (by kernel_rfl) wide144
def encP (p : SLoc) : Value := .agg #[.int .i64 p.1, .int .i64 p.2]
def encS (s : Sec) : Value := .agg (secCells s).toArray
def litP (p : SLoc) : Lit := .string (keyBytes [.int .i64 p.1, .int .i64 p.2])
theorem wf64 {x : Int} (h : In64 x) : (Lit.int .i64 x).wf = true := by
  have e1 : IntKind.min .i64 = -9223372036854775808 := by decide
  have e2 : IntKind.max .i64 = 9223372036854775807 := by decide
  unfold In64 at h
  simp only [Lit.wf, e1, e2, Bool.and_eq_true, decide_eq_true_eq]
  exact h
theorem keyOf144 (p : SLoc) (h1 : In64 p.1) (h2 : In64 p.2) : keyOf Try.prog 170 (encP p) = some (litP p) := by
  have hk : Try.prog.keyType 170 = true := by kernel_rfl
  obtain ⟨m, hs⟩ : ∃ m, Try.prog.types.size + 1 = m + 2 := by
    have : 0 < Try.prog.types.size := of_decide_eq_true (by kernel_rfl)
    exact ⟨Try.prog.types.size - 1, by omega⟩
  have hc : Try.prog.cellsOf 170 = 2 := by kernel_rfl
  have hc3 : Try.prog.cellsOf 3 = 1 := by kernel_rfl
  have w1 := wf64 h1
  have w2 := wf64 h2
  unfold keyOf encP litP
  rw [hs]
  simp only [Try.underlying170, hk, Value.formed, hc, Bool.true_and]
  have e : Try.prog.keyLits (m + 2) 170 (Value.agg #[.int .i64 p.1, .int .i64 p.2]).cells.toList = some [.int .i64 p.1, .int .i64 p.2] := by
    simp [Program.keyLits, Try.underlying170, Try.underlying3, hc, hc3, w1, w2, Value.cells]
  rw [e]
  rfl
noncomputable def kPl : KeyKit Try.prog 170 SLoc where
  enc := encP
  dom p := In64 p.1 ∧ In64 p.2
  lit := litP
  law := Maps.Keyed.of_law law144
  key p h := keyOf144 p h.1 h.2
  inj p q h := by
    obtain ⟨a, b⟩ := p; obtain ⟨c, d⟩ := q
    unfold encP at h
    simp at h
    exact Prod.ext h.1 h.2
end Go.Proofs.Ytccbbecfmfldbaa

set_option maxRecDepth 100000
set_option linter.unusedVariables false
set_option linter.unusedSimpArgs false
namespace Go.Proofs.Ytccbbecfmfldbaa
open Go.RowKit Go.Mm Sb

/-! ### the effects of a list -/
def secN (l : List Wr) : Nat := (l.map fun w => w.data.length).sum
theorem secN_take {l : List Wr} {k : Nat} {x : Wr} (h : l[k]? = some x) : secN (l.take (k + 1)) = secN (l.take k) + x.data.length := by
  obtain ⟨hk, rfl⟩ := List.getElem?_eq_some_iff.1 h
  rw [List.take_succ_eq_append_getElem hk]
  unfold secN
  rw [List.map_append, List.sum_append]
  simp
theorem secN_le {l : List Wr} (k : Nat) : secN (l.take k) ≤ secN l := by
  have h : secN l = secN (l.take k) + secN (l.drop k) := by
    unfold secN
    rw [← List.sum_append, ← List.map_append, List.take_append_drop]
  omega
def effP (l : List Wr) : SLoc → Option Sec := fun p => eff l p.1 p.2
theorem effP_nil : effP [] = fun _ => none := rfl
theorem effP_start (l : List Wr) (v s : Int) (d : List Sec) : effP (l ++ [⟨v, s, d.take 0⟩]) = effP l := by
  funext q
  unfold effP
  rw [eff_snoc, at?_none_of (by simp), Option.none_or]
theorem effP_step (l : List Wr) (v s : Int) (d : List Sec) {j : Nat} {y : Sec} (h : d[j]? = some y) : upd (effP (l ++ [⟨v, s, d.take j⟩])) (v, s + j) y = effP (l ++ [⟨v, s, d.take (j + 1)⟩]) := by
  obtain ⟨hj, rfl⟩ := List.getElem?_eq_some_iff.1 h
  funext q
  obtain ⟨a, b⟩ := q
  unfold upd effP
  rw [List.take_succ_eq_append_getElem hj]
  simp only [eff_snoc]
  have := at?_snoc ⟨v, s, d.take j⟩ d[j] a b
  simp only at this
  rw [this]
  have hl : ((d.take j).length : Int) = j := by simp; omega
  rw [hl]
  by_cases hc : a = v ∧ b = s + j
  · rw [if_pos (by rw [hc.1, hc.2]), if_pos hc]; rfl
  · rw [if_neg (by intro e; injection e with e1 e2; exact hc ⟨e1, e2⟩), if_neg hc]
theorem effP_end {l : List Wr} {k : Nat} {x : Wr} (h : l[k]? = some x) : effP (l.take k ++ [⟨x.vol, x.start, x.data.take x.data.length⟩]) = effP (l.take (k + 1)) := by
  obtain ⟨hk, rfl⟩ := List.getElem?_eq_some_iff.1 h
  rw [List.take_succ_eq_append_getElem hk, List.take_length]

theorem in64_small {x : Int} (h1 : -9000000000000000000 ≤ x) (h2 : x ≤ 9000000000000000000) : In64 x := by unfold In64; omega

def EffRet (l : List Wr) (w : World) (e : Ending) (w' : World) : Prop :=
  ∃ b ks, e = .returned (.map (some b)) ∧ MapIs kPl encS w' b (secN l) (effP l) ks ∧ w.heap.size ≤ b ∧ Below w.heap.size w w'

set_option maxHeartbeats 2000000 in
theorem effect_any (v : Value) (l : List Wr) (w : World) (S : Nat → Prop) (h : RWrs w S v l) (hp : AllPlaced l) (hsz : secN l ≤ 1000000000000) :
    Calls Try.prog 120 #[v] w (EffRet l w) := by
  obtain ⟨A, cap, rfl, hcap, hm⟩ := h.val
  unfold maxLen at hm
  have hmm := @run_makeMap Try.prog
  go_enter Try.func120, Try.ntmps120
  go_wp2
  go_loopw [12] (fun i wr => ∃ k ks, k ≤ l.length ∧ i = .int .i64 (k : Nat) ∧ MapIs kPl encS wr w.heap.size (secN (l.take k)) (effP (l.take k)) ks ∧ Below w.heap.size w wr) (fun i _ => l.length - (intOf i).toNat)
  case atStart => exact ⟨0, [], Nat.zero_le _, rfl, MapIs.made w, (Below.refl _ _).alloc (Nat.le_refl _) _⟩
  case round =>
    obtain ⟨k, ks, hk, rfl, hmap, hb⟩ := hrel
    have hgt := hmap.lt
    by_cases hlt : k < l.length
    · obtain ⟨x, hx⟩ : ∃ x, l[k]? = some x := ⟨_, List.getElem?_eq_getElem hlt⟩
      have hpx := hp x (List.mem_of_getElem? hx)
      obtain ⟨b, off, cs, rfl, hbl, _, hl, hc, hr⟩ := h.at_ hx
      obtain ⟨hv64, hs64, dv, rfl, hd⟩ := hr
      obtain ⟨Ad, dcap, rfl, hdc, hdm⟩ := hd.val
      have c0 := (hb.cell (p := ⟨b, off + k * 3 + 0, none⟩) hbl).trans (hc 0 (by omega))
      have c1 := (hb.cell (p := ⟨b, off + k * 3 + 1, none⟩) hbl).trans (hc 1 (by omega))
      have c2 := (hb.cell (p := ⟨b, off + k * 3 + 2, none⟩) hbl).trans (hc 2 (by omega))
      clear hc hl
      simp at c0 c1 c2
      unfold maxLen at hdm
      have hsx := secN_take hx
      have hsl := secN_le (l := l) (k + 1)
      have hsk := secN_le (l := l) k
      have HSX := Lib.hid hsx
      have hb0 := hpx.s0; have hb4 := hpx.s4; have hb1 := hpx.v0; have hb8 := hpx.v8
      go_wp2
      obtain ⟨wo, rfl⟩ : ∃ wo : World, wo = wr := ⟨_, rfl⟩
      go_loopw [24] (fun i w2 => ∃ j ks', j ≤ x.data.length ∧ i = .int .i64 (j : Nat) ∧ MapIs kPl encS w2 w.heap.size (secN (l.take k) + j) (effP (l.take k ++ [⟨x.vol, x.start, x.data.take j⟩])) ks' ∧
        Blk w2 (wo.heap.size + 1) 170 #[.int .i64 x.vol, .int .i64 (x.start + j)] ∧ Below w.heap.size w w2) (fun i _ => x.data.length - (intOf i).toNat)
      case atStart =>
        refine ⟨0, ks, Nat.zero_le _, rfl, ?_, ?_, ((hb.alloc hb.size _).alloc (by simp; omega) _)⟩
        · rw [effP_start]; exact (hmap.alloc _).alloc _
        · have := Blk.new (wo.alloc (.cells #[.int .i64 x.vol, .int .i64 x.start, .slice Ad x.data.length dcap] 54)) 170 #[.int .i64 x.vol, .int .i64 x.start]
          simpa using this
      case round =>
        obtain ⟨j, ks', hj, rfl, hmap2, hblk, hb2⟩ := hrel
        have hgt2 := hmap2.lt
        have hgb := hblk.lt
        by_cases hjl : j < x.data.length
        · obtain ⟨y, hy⟩ : ∃ y, x.data[j]? = some y := ⟨_, List.getElem?_eq_getElem hjl⟩
          obtain ⟨bd, offd, csd, rfl, hbd, _, hld, hcd, hrd⟩ := hd.at_ hy
          obtain rfl : csd = secCells y := hrd
          have d0 := (hb2.cell (p := ⟨bd, offd + j * 8 + 0, none⟩) hbd).trans (hcd 0 (by omega))
          have d1 := (hb2.cell (p := ⟨bd, offd + j * 8 + 1, none⟩) hbd).trans (hcd 1 (by omega))
          have d2 := (hb2.cell (p := ⟨bd, offd + j * 8 + 2, none⟩) hbd).trans (hcd 2 (by omega))
          have d3 := (hb2.cell (p := ⟨bd, offd + j * 8 + 3, none⟩) hbd).trans (hcd 3 (by omega))
          have d4 := (hb2.cell (p := ⟨bd, offd + j * 8 + 4, none⟩) hbd).trans (hcd 4 (by omega))
          have d5 := (hb2.cell (p := ⟨bd, offd + j * 8 + 5, none⟩) hbd).trans (hcd 5 (by omega))
          have d6 := (hb2.cell (p := ⟨bd, offd + j * 8 + 6, none⟩) hbd).trans (hcd 6 (by omega))
          have d7 := (hb2.cell (p := ⟨bd, offd + j * 8 + 7, none⟩) hbd).trans (hcd 7 (by omega))
          clear hcd hld c0 c1 c2
          simp [secCells] at d0 d1 d2 d3 d4 d5 d6 d7
          obtain ⟨q0, q1, q2, q3⟩ := hblk.two
          have hdomp : kPl.dom (x.vol, x.start + (j : Int)) := ⟨in64_small (by simp only; omega) (by simp only; omega), in64_small (by simp only; omega) (by simp only; omega)⟩
          have hstep := effP_step (l.take k) x.vol x.start x.data hy
          have HST := Lib.hid hstep
          have HDP := Lib.hid hdomp
          have HY := Lib.hid hy
          clear hsx hstep hdomp hy hx
          go_wp2_with (first | (at_mapUpdate; refine wpList_put (K := kPl) (encV := encS) _ rfl _ _ _ 163 rfl 99 Try.underlying163 w.heap.size _ _ _ rfl (hmap2.alloc _) (by unfold maxLen; omega) (x.vol, x.start + (j : Int)) HDP.out y rfl rfl ?_; intro w3 hm3 hg3; have hblk3 := (hblk.alloc (.cells (secCells y).toArray 99)).grown hg3 (by simp; omega); obtain ⟨r0, r1, r2, r3⟩ := hblk3.two; clear q0 q1 q2 q3) | (go_at_call 125; refine (behind_any _ _ _ (by omega) (by omega)).mono ?_; rintro e w4 ⟨rfl, hb4⟩; have hblk4 := hblk3.below hb4; obtain ⟨t0, t1, t2, t3⟩ := hblk4.two))
          go_roundw
          case rel =>
            trace_state
            refine ⟨j + 1, addKey ks' (x.vol, x.start + (j : Int)), by omega, by go_num, ?_, ?_, ?_⟩
            · have := ((hm3.below hb4).setCell (a := ⟨wo.heap.size + 1, 0, none⟩) (by simp; omega) (.int .i64 x.vol)).setCell (a := ⟨wo.heap.size + 1, 1, none⟩) (by simp; omega) (.int .i64 (x.start + (j : Int) + 1))
              rw [HST.out] at this
              exact this
            · have := (hblk4.set_ 0 (.int .i64 x.vol)).set_ 1 (.int .i64 (x.start + (j : Int) + 1))
              simp at this
              rw [show x.start + ((j + 1 : Nat) : Int) = x.start + (j : Int) + 1 by omega]
              exact this
            · have g1 := (hb2.alloc hb2.size (.cells (secCells y).toArray 99)).grown hg3 (by simp; omega) (by simp)
              exact ((below_then g1 g1.size hb4).setCell (p := ⟨wo.heap.size + 1, 0, none⟩) (by simp; omega) _).setCell (p := ⟨wo.heap.size + 1, 1, none⟩) (by simp; omega) _
          case measure => simp [intOf]; omega
        · go_wp2
          go_roundw
          case rel =>
            obtain rfl : j = x.data.length := by omega
            rw [effP_end hx, ← HSX.out] at hmap2
            exact ⟨k + 1, ks', by omega, by go_num, hmap2, hb2⟩
          case measure => simp [intOf]; omega
    · go_wp2
      go_ret
      obtain rfl : k = l.length := by omega
      rw [List.take_length] at hmap
      exact ⟨_, ks, rfl, hmap, Nat.le_refl _, hb⟩
end Go.Proofs.Ytccbbecfmfldbaa
