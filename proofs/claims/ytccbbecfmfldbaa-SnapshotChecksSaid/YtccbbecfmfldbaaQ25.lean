import Derived.Test.YtccbbecfmfldbaaQ24
import Derived.RangeFuncNested
import Derived.RangeFuncBound
import Derived.RangeFuncCalls
import Derived.RangeFuncLeaves
import Derived.Shelf.Abstract
import Derived.Shelf.RegionOpen
import Derived.WalkKit
import Derived.OwnWalkIn
import Derived.TacticsInMore
import Derived.LoopNIn
import Derived.LoopIn
set_option maxRecDepth 100000
set_option linter.unusedVariables false
set_option linter.unusedSimpArgs false
namespace Go.Proofs.Ytccbbecfmfldbaa
open Go.RowKit Go.Mm Sb
attribute [local go_sem] Oper.semAt_some

/-! ### slices.Backward -/
/-- The k-th last snapshot, as it is yielded: its place, and how it lies. -/
structure Sv where
  x : Snap
  A : Option Addr
  c : Nat
structure Ys where
  k : Nat
  s : Sv
def Sv.dv (y : Sv) : Value := .slice y.A y.x.saved.length y.c
def encYs (y : Ys) : Array Value := #[.int .i64 y.k, .agg #[.int .i64 y.s.x.num, .int .i64 y.s.x.time, .slice y.s.A y.s.x.saved.length y.s.c]]
/-- Whatever lay below n, but for block g, lies as it lay. -/
def KpN (g n : Nat) (W W' : World) : Prop := W.heap.size ≤ W'.heap.size ∧ ∀ b, b < n → b ≠ g → W'.heap[b]? = W.heap[b]?
theorem KpN.refl (g n : Nat) (W : World) : KpN g n W W := ⟨Nat.le_refl _, fun _ _ _ => rfl⟩
theorem KpN.trans {g n : Nat} {A B C : World} (h : KpN g n A B) (k : KpN g n B C) : KpN g n A C := ⟨Nat.le_trans h.1 k.1, fun b h1 h2 => (k.2 b h1 h2).trans (h.2 b h1 h2)⟩
theorem KpN.cell {g n : Nat} {W W' : World} (h : KpN g n W W') {p : Addr} (h1 : p.block < n) (h2 : p.block ≠ g) : W'.cell? p = W.cell? p := World.cell?_of_block (h.2 p.block h1 h2)
theorem kpN_b {g n : Nat} {w : World} (hn : n ≤ w.heap.size) (W : World) (l : Nat) (o o' : Obj) (hl : w.heap.size ≤ l) (h : W.heap[l]? = some o) (_ : o.isCells = false) (_ : o.isWalk = false) : KpN g n W (W.putObj l o') := by
  have hg := grownBy_putObj' W l o'
  have hlt := (Array.getElem?_eq_some_iff.1 h).1
  exact ⟨hg.size, fun b h1 h2 => hg.block b (by omega) (fun e => by injection e with e; omega)⟩
/-! ### a range over an iterator that goes by other iterators -/
/-- Whatever there is, but for block g, lies as it lay. -/
def KeepBut (g : Nat) (W W' : World) : Prop := W.heap.size ≤ W'.heap.size ∧ ∀ b, b < W.heap.size → b ≠ g → W'.heap[b]? = W.heap[b]?
theorem KeepBut.refl (g : Nat) (W : World) : KeepBut g W W := ⟨Nat.le_refl _, fun _ _ _ => rfl⟩
theorem KeepBut.trans {g : Nat} {A B C : World} (h : KeepBut g A B) (k : KeepBut g B C) : KeepBut g A C := ⟨Nat.le_trans h.1 k.1, fun b h1 h2 => (k.2 b (by have := h.1; omega) h2).trans (h.2 b h1 h2)⟩
theorem KeepBut.of_below {g : Nat} {W W' : World} (h : Below W.heap.size W W') : KeepBut g W W' := ⟨h.size, fun b h1 _ => h.block b h1⟩
theorem KeepBut.of_grown {g : Nat} {W W' : World} (h : W.grownBy W' (some g)) : KeepBut g W W' := ⟨h.size, fun b h1 h2 => h.block b h1 (fun e => h2 (by injection e))⟩
/-- The iterator's contract: it yields the snapshots xs, one after another. -/
def SeqG {α : Type} (encs : α → Array Value) (g n : Nat) (gf : Nat) (lb : Array Value) (xs : List α) (w0 : World) : Prop :=
  ∀ (l : Nat) (J : List α → World → Prop) (W : World), Below w0.heap.size w0 W → OwnFrom W.heap.size J →
    (∀ pre x W1, J pre W1 → (pre ++ [x]) <+: xs → YieldAt Fence.wide (n - 1) Try.prog l (encs x) W1 fun e W' => e = .returned (.bool true) ∧ J (pre ++ [x]) W' ∧ KeepBut g W1 W') →
    J [] W → CallsIn Fence.wide n Try.prog gf (#[.func (.yield l) #[] #[]] ++ lb) W fun e W' => (∃ v, e = .returned v) ∧ J xs W'
def postG {α : Type} (I : List α → World → Prop) (g : Nat) (pre : List α) (W : World) : Exit → Act → World → Prop
  | .normal, _, W' => KeepBut g W W' ∧ I pre W'
  | _, _, _ => False
theorem rangeG {α : Type} {encs : α → Array Value} {gop : Operand} {ps : Array Tmp} {assign body : Code} {Q : Exit → Act → World → Prop} {a : Act} {w : World} {n : Nat} {gf : Nat} {lb : Array Value} (hg : a.eval gop = .func (.func gf) #[] lb)
    (eg : ∀ args w, (callFunc gf args).run Try.prog w = .ok (.enter gf args) w) {g : Nat} {xs : List α} {w0 : World} (hseq : SeqG encs g (n - 1) gf lb xs w0) (hps : ∀ x, (encs x).size = ps.size) (hgw : g < w.heap.size) (hb0 : Below w0.heap.size w0 w)
    (I : List α → World → Prop) (hI : OwnFrom w.heap.size I) (h0 : I [] w) (Ax : α → Act → World → Prop) (hAx : ∀ x a', OwnFrom w.heap.size (fun (_ : Unit) W => Ax x a' W))
    (hassign : ∀ (l : Nat) (pre : List α) (x : α) (W : World) (K : Act → World → Prop), I pre W → (∀ a' W', KeepBut g W W' → I pre W' → Ax x a' W' → K a' W') →
      assign.wpIn (Fence.wide.inRound l) (n - 1 - 1) Try.prog (Exit.then K (fun _ _ _ => False)) { tmps := (ps.zip (encs x)).foldl (fun t (p, v) => t.setIfInBounds p v) a.tmps, defers := [] } W)
    (hbody : ∀ (l : Nat) (pre : List α) (x : α) (a' : Act) (W : World), I pre W → Ax x a' W → (pre ++ [x]) <+: xs → body.wpIn (Fence.wide.inRound l) (n - 1 - 1) Try.prog (postG I g (pre ++ [x]) W) a' W)
    (hdone : ∀ (D : Nat) (W : World), w.heap.size ≤ D → I xs W → W.heap[D]? = some (.deferred (some [])) → Q .normal { a with defers := { target := .collected D, args := #[] } :: a.defers } W) :
    (Code.rangeFunc gop ps assign body).wpIn Fence.wide n Try.prog Q a w := by
  refine wpIn_rangeFunc fun fn hfn => ?_
  let rec_ : LoopState → Loop := fun st => { state := st, pending := none, fn, tmps := a.tmps, params := ps, assign, body, defers := w.heap.size }
  let D := w.heap.size
  let L := w.heap.size + 1
  let W1 := (w.alloc (.deferred (some []))).alloc (.loop (rec_ .ready))
  have hL1 : W1.heap[L]? = some (.loop (rec_ .ready)) := by
    have := World.alloc_heap_new (w.alloc (.deferred (some []))) (.loop (rec_ .ready))
    rwa [World.size_alloc] at this
  have hD1 : W1.heap[D]? = some (.deferred (some [])) := (Below.heap_alloc _ _ _ (by simp [D])).trans (World.alloc_heap_new w _)
  have hI1 : I [] W1 := hI.alloc _ (hI.alloc _ h0)
  have hB1 : Below w0.heap.size w0 W1 := (hb0.alloc hb0.size _).alloc (by have := hb0.size; simp; omega) _
  refine ⟨L, [{ target := .collected D, args := #[] }], W1, { target := .fn (.func gf) lb, args := #[.func (.yield L) #[] #[]] }, W1, gf, #[.func (.yield L) #[] #[]] ++ lb, W1, ?_, ?_, ?_, ?_, ?_, ?_⟩
  · exact run_enterLoop_outer _ _ _ _ _
  · simp only [resolve, hg]
    simp [go_sem]
  · intro f' _; trivial
  · simp [invoke, go_sem, eg]
  · intro h; exact absurd h (by decide)
  · have hLD : L ≠ g ∧ D ≠ g := by simp [L, D]; omega
    have key := hseq L (fun pre W => I pre W ∧ W.heap[L]? = some (.loop (rec_ .ready)) ∧ W.heap[D]? = some (.deferred (some []))) W1 hB1 ?_ ?_ ⟨hI1, hL1, hD1⟩
    · refine key.mono ?_
      rintro e W2 ⟨⟨v, rfl⟩, hi, hl, hk⟩
      refine ⟨none, _, run_endLoop (P := Try.prog) hl (by simp [rec_]), ?_⟩
      exact hdone D _ (Nat.le_refl _) (hI.putObj _ hi (by simp [L]) hl rfl) ((World.putObj_heap_other (by simp [L, D])).trans hk)
    · intro pre A B row hs hgr hr
      have hsz : W1.heap.size = w.heap.size + 2 := by simp [W1]
      have stay : ∀ (k : Nat) (o : Obj), k < w.heap.size + 2 → A.heap[k]? = some o → B.heap[k]? = some o := fun k o hlt hk => by
        rw [← hk]
        refine hgr.block k (Array.getElem?_eq_some_iff.1 hk).1 (fun e => ?_)
        obtain ⟨h1, _⟩ := hr k e.symm
        omega
      exact ⟨hI pre A B row hs.1 hgr (fun r e => by obtain ⟨hb, h2⟩ := hr r e; exact ⟨by omega, h2⟩), stay L _ (by simp [L]) hs.2.1, stay D _ (by simp [D]) hs.2.2⟩
    · rintro pre x W ⟨hi, hl, hk⟩ hpre
      have ey := run_yield (P := Try.prog) (args := encs x) hl (by simp [rec_, hps])
      refine ⟨fn, _, assign, body, ey, roundIn_of_wpIn hfn (hassign L pre x W _ hi fun a' W' ko hi' hax => ?_)⟩
      have hltL := (Array.getElem?_eq_some_iff.1 hl).1
      have hltD := (Array.getElem?_eq_some_iff.1 hk).1
      have hl' := (ko.2 L hltL hLD.1).trans hl
      have hk' := (ko.2 D hltD hLD.2).trans hk
      have hlt := (Array.getElem?_eq_some_iff.1 hl').1
      have hDl : D ≠ L := by simp [D, L]
      refine ⟨_, run_beginRound hl' rfl, ?_⟩
      have hlb := World.putObj_heap_same (o := Obj.loop { rec_ .ready with state := .busy }) hlt
      have hkb : (W'.putObj L (.loop { rec_ .ready with state := .busy })).heap[D]? = some (.deferred (some [])) := (World.putObj_heap_other hDl).trans hk'
      have g1 := grownBy_putObj' W' L (.loop { rec_ .ready with state := .busy })
      refine wpIn_mono (hbody L pre x a' _ (hI.putObj _ hi' (by simp [L]) hl' rfl) (hAx x a' () _ _ (some L) hax g1 (fun r e => by injection e with e; subst e; exact ⟨by simp [L], _, hl', rfl⟩)) hpre) ?_
      rintro e a3 W3 hp
      cases e with
      | normal =>
        obtain ⟨k3, hi3⟩ := hp
        have hl3 := (k3.2 L (Array.getElem?_eq_some_iff.1 hlb).1 hLD.1).trans hlb
        have hk3 := (k3.2 D (Array.getElem?_eq_some_iff.1 hkb).1 hLD.2).trans hkb
        have hlt3 := (Array.getElem?_eq_some_iff.1 hl3).1
        have g2 := grownBy_putObj' W3 L (.loop { (rec_ .ready) with state := .ready })
        refine ⟨_, _, run_endRound (P := Try.prog) none hl3, rfl, ⟨hI.putObj _ hi3 (by simp [L]) hl3 rfl, World.putObj_heap_same hlt3, (World.putObj_heap_other hDl).trans hk3⟩, ?_⟩
        refine ⟨Nat.le_trans ko.1 (Nat.le_trans g1.size (Nat.le_trans k3.1 (grownBy_putObj' W3 L _).size)), fun b h1 h2 => ?_⟩
        by_cases hbL : b = L
        · subst hbL
          exact (World.putObj_heap_same hlt3).trans hl.symm
        · have e1 := ko.2 b h1 h2
          have e2 := g1.block b (by have := ko.1; omega) (fun e => by injection e with e; exact hbL e)
          have e3 := k3.2 b (Nat.lt_of_lt_of_le (Nat.lt_of_lt_of_le h1 ko.1) g1.size) h2
          exact (World.putObj_heap_other hbL).trans (e3.trans (e2.trans e1))
      | ret => exact hp.elim
      | exit id => exact hp.elim
      | goto t => exact hp.elim
      | panic ch => exact hp.elim
      | outgrown => exact hp.elim
def revF (f : Nat → Ys) (n : Nat) : List Ys := (List.range n).map fun m => f (n - 1 - m)
theorem revF_len (f : Nat → Ys) (n : Nat) : (revF f n).length = n := by simp [revF]
theorem revF_get (f : Nat → Ys) {n m : Nat} (h : m < n) : (revF f n)[m]? = some (f (n - 1 - m)) := by simp [revF, h]
/-- The snapshot at place k, and how it lies. -/
def YsAt (A : Option Addr) (n₀ g : Nat) (w : World) (k : Nat) (y : Ys) : Prop :=
  y.k = k ∧ ∃ b off, A = some ⟨b, off, none⟩ ∧ b < n₀ ∧ b ≠ g ∧ w.cell? ⟨b, off + k * 3, none⟩ = some (.int .i64 y.s.x.num) ∧ w.cell? ⟨b, off + k * 3 + 1, none⟩ = some (.int .i64 y.s.x.time) ∧ w.cell? ⟨b, off + k * 3 + 2, none⟩ = some (.slice y.s.A y.s.x.saved.length y.s.c)
set_option maxHeartbeats 4000000 in
theorem backS_stops (n n₀ g Bs : Nat) (h1 : 1 ≤ n) (hBg : Bs ≠ g) (A : Option Addr) (len cap : Nat) (w : World) (hn₀ : n₀ ≤ w.heap.size) (hBs : Bs < n₀) (hc : w.cell? ⟨Bs, 0, none⟩ = some (.slice A len cap)) (hcap : len ≤ cap) (hm : cap ≤ maxLen)
    (f : Nat → Ys) (hf : ∀ k, k < len → YsAt A n₀ g w k (f k)) :
    SeqG encYs g n 123 #[.pointer (some ⟨Bs, 0, none⟩)] (revF f len) w := by
  unfold maxLen at hm
  have hyg : ∀ m, m < len → (revF f len)[m]? = some (f (len - 1 - m)) := fun m hm => revF_get f hm
  have hyl := revF_len f len
  generalize revF f len = ys at *
  intro lp J W hW hJ hY h0
  have hc' := (hW.cell (p := ⟨Bs, 0, none⟩) (by show Bs < _; omega)).trans hc
  have hYS := Lib.hid hyg
  have hYL := Lib.hid hyl
  clear hyg hyl
  refine callsIn_of_wp Try.func123 rfl trivial ?_ rfl
  simp only [Try.ntmps123, List.size_toArray, List.length_cons, List.length_nil, Nat.reduceAdd, Nat.reduceSub, Array.replicate_succ, Array.replicate_zero, List.push_toArray, List.append_toArray, List.nil_append, List.cons_append]
  gi_wp2
  gi_loopw [3] (fun i wr => ∃ m : Nat, m ≤ len ∧ i = .int .i64 ((len : Int) - 1 - m) ∧ J (ys.take m) wr ∧ KpN g n₀ W wr) (fun i _ => (intOf i + 1).toNat)
  case atStart => exact ⟨0, Nat.zero_le _, by simp, h0, KpN.refl _ _ _⟩
  case round =>
    obtain ⟨m, hm0, rfl, hJs, hnx⟩ := hrel
    have hcB := (hnx.cell (p := ⟨Bs, 0, none⟩) hBs hBg).trans hc'
    by_cases hlt : m < len
    · obtain ⟨k, hk⟩ : ∃ k, k = len - 1 - m := ⟨_, rfl⟩
      have ek : (len : Int) - 1 - m = (k : Int) := by omega
      rw [ek]
      have hg := hYS.out m hlt
      obtain ⟨fk, b, off, rfl, hb, hbg, c0, c1, c2⟩ := hf (len - 1 - m) (by omega)
      generalize f (len - 1 - m) = y at *
      try dsimp only at *
      rw [← hk] at fk c0 c1 c2
      have e0 := ((hW.mono hn₀).cell (p := ⟨b, off + k * 3, none⟩) hb).trans c0
      have e1 := ((hW.mono hn₀).cell (p := ⟨b, off + k * 3 + 1, none⟩) hb).trans c1
      have e2 := ((hW.mono hn₀).cell (p := ⟨b, off + k * 3 + 2, none⟩) hb).trans c2
      have d0 := (hnx.cell (p := ⟨b, off + k * 3, none⟩) hb hbg).trans e0
      have d1 := (hnx.cell (p := ⟨b, off + k * 3 + 1, none⟩) hb hbg).trans e1
      have d2 := (hnx.cell (p := ⟨b, off + k * 3 + 2, none⟩) hb hbg).trans e2
      have hpx : ys.take m ++ [y] <+: ys := by
        have : ys.take m ++ [y] = ys.take (m + 1) := by rw [List.take_add_one, hg]; rfl
        rw [this]; exact List.take_prefix _ _
      obtain ⟨fn, tmps, assign, body, hy, hR⟩ := hY _ y wr hJs hpx
      have hws := hnx.1
      clear hpx
      unfold encYs at hy
      try dsimp only at hy
      rw [fk] at hy
      have hkl : k < len := by omega
      have HK := Lib.hid hk
      have HG := Lib.hid hg
      clear c0 c1 c2 e0 e1 e2 hk hg fk ek hf
      gi_wp2
      refine hR.mono ?_
      rintro e W3 ⟨rfl, hJ3, hk3⟩
      gi_wp2
      go_roundw
      case rel =>
        refine ⟨m + 1, by omega, ?_, ?_, hnx.trans ⟨hk3.1, fun b h1 h2 => hk3.2 b (by have := hW.size; omega) h2⟩⟩
        · have := HK.out; simp; omega
        · rw [List.take_add_one, HG.out]; exact hJ3
      case measure => simp [intOf]
    · obtain rfl : m = len := by omega
      have ek : (m : Int) - 1 - m = -1 := by omega
      rw [ek]
      rw [List.take_of_length_le (by rw [hYL.out]; exact Nat.le_refl _)] at hJs
      clear hf
      gi_wp2
      go_end0
      exact ⟨⟨_, rfl⟩, hJs⟩
theorem backSFn_any (v : Value) (w : World) (h : v.oneCell' = true) : Calls Try.prog 114 #[v] w fun e w' => e = .returned (.func (.func 123) #[] #[.pointer (some ⟨w.heap.size, 0, none⟩)]) ∧ w' = w.alloc (.cells #[v] 24) := by
  go_enter Try.func114, Try.ntmps114
  go_wp2
  go_ret
  exact ⟨rfl, rfl⟩
theorem egBackS : ∀ args w, (callFunc 123 args).run Try.prog w = .ok (.enter 123 args) w := enters_of Try.func123 (by kernel_rfl) rfl
end Go.Proofs.Ytccbbecfmfldbaa

set_option maxRecDepth 100000
set_option linter.unusedVariables false
set_option linter.unusedSimpArgs false
namespace Go.Proofs.Ytccbbecfmfldbaa
open Go.RowKit Go.Mm Sb
attribute [local go_sem] Oper.semAt_some

/-! ### a range over an iterator that goes back over snapshots by another iterator -/
def encSv (y : Sv) : Array Value := #[.agg #[.int .i64 y.x.num, .int .i64 y.x.time, .slice y.A y.x.saved.length y.c]]
/-! ### back -/
theorem egBk : ∀ args w, (callFunc 113 args).run Try.prog w = .ok (.enter 113 args) w := enters_of Try.func113 (by kernel_rfl) rfl
theorem roundIn_wide {n m l' l : Nat} {f : FuncId} {tmps : Array Value} {assign body : Code} {w : World} {R : Ending → World → Prop} (h : RoundIn Fence.wide n Try.prog l f tmps assign body w R) : RoundIn (Fence.wide.inRound l') m Try.prog l f tmps assign body w R :=
  ⟨trivial, fun c cs _ => h.2 c cs (room_wide _)⟩
set_option maxHeartbeats 8000000 in
theorem back_seq (g n gs gt : Nat) (h1 : 5 ≤ n) (vc v : Value) (l : List Snap) (tt : Nat) (w : World) (hgs : gs < w.heap.size) (hgt : gt < w.heap.size) (hg : g < w.heap.size) (hne1 : gs ≠ g) (hne2 : gt ≠ g)
    (h0 : w.cell? ⟨gs, 1, none⟩ = some v) (ht : w.cell? ⟨gt, 0, none⟩ = some (.int .i64 tt)) (h : RSnaps w (fun b => b < w.heap.size ∧ b ≠ g) v l) (hto : tt < l.length) :
    ∃ xs : List Sv, xs.map (·.x) = (l.drop tt).reverse ∧ (∀ y ∈ xs, In64 y.x.num ∧ In64 y.x.time ∧ RWrs w (fun b => b < w.heap.size ∧ b ≠ g) y.dv y.x.saved) ∧
      SeqG encSv g n 113 #[.pointer (some ⟨gs, 0, none⟩), .pointer (some ⟨gt, 0, none⟩)] xs w := by
  obtain ⟨A, cap, rfl, hcap, hm⟩ := h.val
  obtain ⟨b, off, rfl, hbl, hbS⟩ := h.ptr (by omega)
  have hm2 := hm
  unfold maxLen at hm2
  obtain ⟨len, hlen⟩ : ∃ len, len = l.length - tt := ⟨_, rfl⟩
  have hs := h.sub tt len (by omega)
  have hdl : (l.drop tt).take len = l.drop tt := List.take_of_length_le (by simp; omega)
  rw [hdl] at hs
  have hll : (l.drop tt).length = len := by simp; omega
  have hel : ∀ k : Nat, ∃ y : Ys, k < len → YsAt (some ⟨b, off + tt * 3, none⟩) w.heap.size g w k y ∧ (l.drop tt)[k]? = some y.s.x ∧ In64 y.s.x.num ∧ In64 y.s.x.time ∧ RWrs w (fun b => b < w.heap.size ∧ b ≠ g) y.s.dv y.s.x.saved := fun k => by
    by_cases hk : k < len
    · obtain ⟨b2, off2, cs, hA, hbl2, hb2, _, hc, h1, h2, dv, rfl, hd⟩ := hs.at_ (List.getElem?_eq_getElem (show k < (l.drop tt).length by omega))
      obtain ⟨Ad, c, rfl, _, _⟩ := hd.val
      exact ⟨⟨k, (l.drop tt)[k], Ad, c⟩, fun _ => ⟨⟨rfl, b2, off2, hA, hbl2, hb2.2, hc 0 (by omega), hc 1 (by omega), hc 2 (by omega)⟩, List.getElem?_eq_getElem (by omega), h1, h2, hd⟩⟩
    · exact ⟨⟨0, ⟨0, 0, []⟩, none, 0⟩, fun h => absurd h hk⟩
  obtain ⟨f, hf⟩ := Classical.axiomOfChoice hel
  refine ⟨(revF f len).map fun y => y.s, ?_, ?_, ?_⟩
  · refine List.ext_getElem? fun m => ?_
    by_cases hm3 : m < len
    · rw [List.map_map, List.getElem?_map, revF_get f hm3, List.getElem?_reverse (by omega), hll]
      exact (hf (len - 1 - m) (by omega)).2.1.symm
    · rw [List.getElem?_eq_none (by simp [revF_len]; omega), List.getElem?_eq_none (by rw [List.length_reverse]; omega)]
  · intro y hy
    obtain ⟨z, hz, rfl⟩ := List.mem_map.1 hy
    unfold revF at hz
    obtain ⟨m, hmm, rfl⟩ := List.mem_map.1 hz
    have := List.mem_range.1 hmm
    exact (hf (len - 1 - m) (by omega)).2.2
  · intro lp J W hW hJ hY h0J
    have e0 := (hW.cell (p := ⟨gs, 1, none⟩) hgs).trans h0
    have e1 := (hW.cell (p := ⟨gt, 0, none⟩) hgt).trans ht
    have i1 : (0 : Int) ≤ (tt : Int) := by omega
    have i2 : (tt : Int) ≤ (l.length : Int) := by omega
    have i3 : ¬ cap = tt := by omega
    have hWs := hW.size
    have j1 : gs < W.heap.size := by omega
    have j2 : gt < W.heap.size := by omega
    refine callsIn_of_wp_marks Try.func113 rfl trivial ?_ rfl
    simp only [Try.ntmps113, List.size_toArray, List.length_cons, List.length_nil, Nat.reduceAdd, Nat.reduceSub, Array.replicate_succ, Array.replicate_zero, List.push_toArray, List.append_toArray, List.nil_append, List.cons_append]
    gi_wp2_with (first | (refine ⟨trivial, fun _ => (by omega), ?_⟩; refine (callsIn_wide.2 (backSFn_any _ _ rfl)).mono ?_; rintro e w1 ⟨rfl, rfl⟩))
    obtain ⟨wR, hwR⟩ : ∃ wR, wR = (W.alloc (.cells #[.func (.yield lp) #[] #[]] 90)).alloc (.cells #[.slice (some ⟨b, off + tt * 3, none⟩) (l.length - tt) (cap - tt)] 24) := ⟨_, rfl⟩
    have hsz : wR.heap.size = W.heap.size + 2 := by rw [hwR]; simp
    have ky : Blk wR W.heap.size 90 #[.func (.yield lp) #[] #[]] := by rw [hwR]; exact (Blk.new W _ _).alloc _
    have kb : Blk wR (W.heap.size + 1) 24 #[.slice (some ⟨b, off + tt * 3, none⟩) (l.length - tt) (cap - tt)] := by
      rw [hwR]
      have := Blk.new (W.alloc (.cells #[.func (.yield lp) #[] #[]] 90)) 24 #[.slice (some ⟨b, off + tt * 3, none⟩) (l.length - tt) (cap - tt)]
      simpa only [World.size_alloc] using this
    have hB : Below W.heap.size W wR := by rw [hwR]; exact ((Below.refl _ _).alloc (Nat.le_refl _) _).alloc (by simp) _
    have hBw : Below w.heap.size w wR := hW.trans (hB.mono hWs)
    have hJR : J [] wR := by rw [hwR]; exact hJ.alloc _ (hJ.alloc _ h0J)
    rw [← hwR]
    clear hwR e0 e1
    have hfR : ∀ k, k < len → YsAt (some ⟨b, off + tt * 3, none⟩) wR.heap.size g wR k (f k) := fun k hk => by
      obtain ⟨q1, b2, o2, q2, q3, q4, q5, q6, q7⟩ := (hf k hk).1
      exact ⟨q1, b2, o2, q2, by omega, q4, (hBw.cell (p := ⟨b2, o2 + k * 3, none⟩) q3).trans q5, (hBw.cell (p := ⟨b2, o2 + k * 3 + 1, none⟩) q3).trans q6, (hBw.cell (p := ⟨b2, o2 + k * 3 + 2, none⟩) q3).trans q7⟩
    have hst := backS_stops (n - 1) wR.heap.size g (W.heap.size + 1) (by omega) (by omega) (some ⟨b, off + tt * 3, none⟩) (l.length - tt) (cap - tt) wR (Nat.le_refl _) (by omega) (kb.cell 0) (by omega) (by unfold maxLen; omega) f (by rw [← hlen]; exact hfR)
    rw [← hlen] at hst ⊢
    have hIo : OwnFrom wR.heap.size (fun (pre : List Ys) U => J (pre.map (·.s)) U ∧ KeepBut g wR U) := by
      rintro pre X Y row ⟨q1, q2⟩ hgr hr
      exact ⟨hJ _ X Y row q1 hgr (fun r e => ⟨by have := (hr r e).1; omega, (hr r e).2⟩), Nat.le_trans q2.1 hgr.size, fun c h1 h2 => (hgr.block c (by have := q2.1; omega) (fun e => by have := (hr c e.symm).1; omega)).trans (q2.2 c h1 h2)⟩
    refine rangeG (n := n) (gf := 123) (lb := #[.pointer (some ⟨W.heap.size + 1, 0, none⟩)]) rfl egBackS hst (fun _ => rfl) (by omega) (Below.refl _ _)
      (fun (pre : List Ys) U => J (pre.map (·.s)) U ∧ KeepBut g wR U) hIo ⟨hJR, KeepBut.refl _ _⟩
      (fun y a' U => ∃ Bx, wR.heap.size ≤ Bx ∧ Blk U Bx 88 #[.int .i64 y.s.x.num, .int .i64 y.s.x.time, .slice y.s.A y.s.x.saved.length y.s.c] ∧ a' = { tmps := #[.func (.yield lp) #[] #[], .pointer (some ⟨gs, 0, none⟩), .pointer (some ⟨gt, 0, none⟩), .pointer (some ⟨W.heap.size, 0, none⟩), undef, .pointer (some ⟨Bx, 0, none⟩), .pointer (some ⟨gs, 1, none⟩), .slice (some ⟨b, off, none⟩) l.length cap, .int .i64 tt, .slice (some ⟨b, off + tt * 3, none⟩) (l.length - tt) (cap - tt), .func (.func 123) #[] #[.pointer (some ⟨W.heap.size + 1, 0, none⟩)], .int .i64 y.k, .agg #[.int .i64 y.s.x.num, .int .i64 y.s.x.time, .slice y.s.A y.s.x.saved.length y.s.c], undef, undef, undef, undef], defers := [] })
      ?ax ?assign ?body ?done
    case ax =>
      rintro y a' _ X Y row ⟨Bx, hle, hb, rfl⟩ hgr hr
      exact ⟨Bx, hle, Blk.grown hb hgr (fun e => by
        obtain ⟨_, o, ho, hn⟩ := hr Bx e.symm
        unfold Blk at hb
        rw [hb] at ho
        injection ho with ho
        subst ho
        simp [Obj.isCells] at hn), rfl⟩
    case assign =>
      intro lp2 pre y U K hi hK
      unfold encYs
      gi_wp2
      exact hK _ _ (KeepBut.of_below ((Below.refl _ _).alloc (Nat.le_refl _) _)) (hIo.alloc _ hi) ⟨U.heap.size, hi.2.1, Blk.new _ _ _, rfl⟩
    case body =>
      rintro lp2 pre y a' U ⟨hJp, hkn⟩ ⟨Bx, hle, hbx, rfl⟩ hpre
      obtain ⟨q0, q1, q2, q3, q4, q5⟩ := hbx.three
      have y0 : U.cell? ⟨W.heap.size, 0, none⟩ = some (.func (.yield lp) #[] #[]) := (World.cell?_of_block (hkn.2 W.heap.size (by omega) (by omega))).trans (ky.cell 0)
      have hpf : (pre.map (·.s) ++ [y.s]) <+: (revF f len).map fun y => y.s := by
        have := hpre.map (fun y => y.s)
        simpa using this
      obtain ⟨fn, tmps, assign, body, hy, hR⟩ := hY _ y.s U hJp hpf
      unfold encSv at hy
      clear hpre hpf
      gi_wp2
      refine ⟨fun _ => by omega, roundIn_wide (hR.mono ?_)⟩
      rintro e U3 ⟨rfl, hJ3, hk3⟩
      gi_wp2
      refine ⟨hk3, ?_, hkn.trans hk3⟩
      rw [List.map_append]; exact hJ3
    case done =>
      rintro D U hD ⟨hJp, hkn⟩ hK
      gi_wp2
      refine ⟨by simp, .inl ⟨_, _, rfl, run_takeDeferred hK, ?_⟩⟩
      exact ⟨_, results_none rfl _ _ _, ⟨_, rfl⟩, hJ _ _ _ _ hJp (grownBy_putObj' _ D (.deferred none)) (fun r e => by injection e with e; subst e; exact ⟨by omega, _, hK, rfl⟩)⟩
end Go.Proofs.Ytccbbecfmfldbaa

set_option maxRecDepth 100000
set_option linter.unusedVariables false
set_option linter.unusedSimpArgs false
namespace Go.Proofs.Ytccbbecfmfldbaa
open Go.RowKit Go.Mm Sb
attribute [local go_sem] Oper.semAt_some

/-! ### snapshots: at -/
def imgAt (cur : List (List Sec)) (l : List Snap) : List (List Sec) := l.reverse.foldl (fun im x => putAll im x.saved) cur
def imgFold (cur : List (List Sec)) (l : List Snap) : List (List Sec) := l.foldl (fun im x => putAll im x.saved) cur
theorem imgFold_lens {cur : List (List Sec)} : ∀ {l : List Snap}, (∀ x ∈ l, ∀ y ∈ x.saved, fitW (lens cur) y = 0) → lens (imgFold cur l) = lens cur := by
  suffices ∀ (l : List Snap) (im : List (List Sec)), lens im = lens cur → (∀ x ∈ l, ∀ y ∈ x.saved, fitW (lens cur) y = 0) → lens (imgFold im l) = lens cur from fun {l} h => this l _ rfl h
  intro l
  induction l with
  | nil => intro im h _; exact h
  | cons x t ih =>
    intro im h hf
    refine ih (putAll im x.saved) ?_ (fun y hy => hf y (by simp [hy]))
    rw [lens_putAll (fun y hy => by rw [h]; exact hf x (by simp) y hy), h]
def IsC (w : World) (b : Nat) : Prop := ∃ cs t fr, w.heap[b]? = some (Obj.cells cs t fr)
theorem isC_of {w : World} {b o : Nat} {v : Value} (h : w.cell? ⟨b, o, none⟩ = some v) : IsC w b := by
  unfold World.cell? at h
  cases ho : w.heap[b]? with
  | none => simp [ho] at h
  | some o => cases o <;> simp_all [IsC]
theorem secs_cells {w : World} {S : Nat → Prop} {v : Value} {xs : List Sec} (h : RSecs w S v xs) : RSecs w (fun b => S b ∧ IsC w b) v xs := by
  obtain ⟨A, cap, rfl, h1, h2, h3⟩ := h
  refine ⟨A, cap, rfl, h1, h2, fun h0 => ?_⟩
  obtain ⟨b, off, rfl, hlt, hb, hx⟩ := h3 h0
  obtain ⟨cs, q1, q2, q3⟩ := hx 0 xs[0] (List.getElem?_eq_getElem h0)
  have := q2 0 (by omega)
  obtain rfl : cs = secCells xs[0] := q3
  exact ⟨b, off, rfl, hlt, ⟨hb, isC_of (this.trans rfl)⟩, fun j x hj => by
    obtain ⟨cs, q1, q2, q3⟩ := hx j x hj
    exact ⟨cs, q1, q2, q3⟩⟩
theorem img_cells {w : World} {S : Nat → Prop} {v : Value} {im : List (List Sec)} (h : RImg w S v im) : RImg w (fun b => S b ∧ IsC w b) v im := by
  obtain ⟨A, cap, rfl, h1, h2, h3⟩ := h
  refine ⟨A, cap, rfl, h1, h2, fun h0 => ?_⟩
  obtain ⟨b, off, rfl, hlt, hb, hx⟩ := h3 h0
  obtain ⟨cs, q1, q2, dv, rfl, q3⟩ := hx 0 im[0] (List.getElem?_eq_getElem h0)
  have := q2 0 (by omega)
  exact ⟨b, off, rfl, hlt, ⟨hb, isC_of (this.trans rfl)⟩, fun j x hj => by
    obtain ⟨cs, q1, q2, dv, rfl, q3⟩ := hx j x hj
    exact ⟨[dv], q1, q2, dv, rfl, secs_cells q3⟩⟩
theorem backFn2_any (vc vi : Value) (tt : Int) (w : World) (h1 : vc.oneCell' = true) (h2 : vi.oneCell' = true) : Calls Try.prog 100 #[.agg #[vc, vi], .int .i64 tt] w fun e w' => e = .returned (.func (.func 113) #[] #[.pointer (some ⟨w.heap.size, 0, none⟩), .pointer (some ⟨w.heap.size + 1, 0, none⟩)]) ∧ w' = (w.alloc (.cells #[vc, vi] 26)).alloc (.cells #[.int .i64 tt] 3) := by
  go_enter Try.func100, Try.ntmps100
  go_wp2
  go_ret
  exact ⟨rfl, rfl⟩
theorem fieldCur (A : Option Addr) (n c : Nat) (iv : Value) (W : World) : (Instr.field 26 (.agg #[.slice A n c, iv]) 0).run Try.prog W = .ok (.slice A n c) W := by
  simp [go_sem, Instr.field, asAgg]
/-- What stands between two rounds. -/
def AtI (g : Nat) (cur : List (List Sec)) (w wR : World) (pre : List Sv) (W : World) : Prop :=
  ∃ v, Blk W g 23 #[v] ∧ RImg W (fun b => (w.heap.size + 3 ≤ b ∧ b ≠ g) ∧ IsC W b) v (imgFold cur (pre.map (·.x))) ∧ KeepBut g wR W ∧ Below w.heap.size w W
theorem atI_own (g : Nat) (cur : List (List Sec)) (w wR : World) (hw : w.heap.size ≤ wR.heap.size) : OwnFrom wR.heap.size (AtI g cur w wR) := by
  rintro pre X Y row ⟨v, h1, h2, h3, h4⟩ hgr hr
  have hne : ∀ b, IsC X b → some b ≠ row := fun b ⟨cs, t, fr, hb⟩ e => by
    obtain ⟨_, o, ho, hn⟩ := hr b e.symm
    rw [hb] at ho
    injection ho with ho
    subst ho
    simp [Obj.isCells] at hn
  have hxs := h3.1
  refine ⟨v, Blk.grown h1 hgr (hne g ⟨_, _, _, h1⟩), ?_, ?_, h4.grown hgr (by omega) (fun r e => by have := (hr r e).1; omega)⟩
  · have := h2.keep (w' := Y) (fun b hb hh => hgr.block b hb (hne b hh.2))
    refine RSl.more ((h2.more (T := fun b => ((w.heap.size + 3 ≤ b ∧ b ≠ g) ∧ IsC X b) ∧ b < X.heap.size) (fun b hb hh => ⟨hh, hb⟩)).keep (w' := Y) (fun b hb hh => hgr.block b hb (hne b hh.1.2))) (fun b _ hh => ⟨hh.1.1, ?_⟩)
    obtain ⟨cs, t, fr, he⟩ := hh.1.2
    exact ⟨cs, t, fr, (hgr.block b hh.2 (hne b hh.1.2)).trans he⟩
  · exact ⟨Nat.le_trans h3.1 hgr.size, fun c q1 q2 => (hgr.block c (by omega) (fun e => by have := (hr c e.symm).1; omega)).trans (h3.2 c q1 q2)⟩
def AtRet (im : List (List Sec)) (w : World) (e : Ending) (w' : World) : Prop := ∃ v, e = .returned (.tuple #[v, .int .i64 0]) ∧ RImg w' (fun b => w.heap.size ≤ b) v im ∧ Below w.heap.size w w'
set_option maxHeartbeats 8000000 in
theorem at_any (vc vi : Value) (s : Snaps) (tt : Nat) (w : World) (S T : Nat → Prop) (hc : RImg w S vc s.cur) (hi : RSnaps w T vi s.items) (hok : OkS s) (hto : tt < s.items.length) :
    Calls Try.prog 70 #[.agg #[vc, vi], .int .i64 tt] w (AtRet (imgAt s.cur (s.items.drop tt)) w) := by
  obtain ⟨cur, items⟩ := s
  have hsm := hok.small
  simp only at *
  obtain ⟨Ac, cc, rfl, hcc, hcm⟩ := hc.val
  obtain ⟨Ai, ci, rfl, hic, him⟩ := hi.val
  unfold maxLen at hcm him
  have BA : Below w.heap.size w (((w.alloc (.cells #[.slice Ac cur.length cc, .slice Ai items.length ci] 26)).alloc (.cells #[.slice none 0 0] 23)).alloc (.cells #[.int .i64 0] 29)) := (((Below.refl _ _).alloc (Nat.le_refl _) _).alloc (by simp) _).alloc (by simp; omega) _
  refine (callsIn_wide (n := 12)).1 ?_
  refine callsIn_of_wp_marks Try.func70 rfl trivial ?_ rfl
  simp only [Try.ntmps70, List.size_toArray, List.length_cons, List.length_nil, Nat.reduceAdd, Nat.reduceSub, Array.replicate_succ, Array.replicate_zero, List.push_toArray, List.append_toArray, List.nil_append, List.cons_append]
  gi_wp2
  refine ⟨trivial, (callsIn_wide.2 (snCopied_any _ _ ⟨cur, items⟩ _ (fun b => S b ∨ T b) ((hc.below BA).more fun _ _ h => .inl h) ((hi.below BA).more fun _ _ h => .inr h) hsm)).mono ?_⟩
  rintro e w1 ⟨cv, iv, rfl, hO, hb1⟩
  have hcr := hO.reads.1
  simp only at hcr
  obtain ⟨Acv, ccv, rfl, _, _⟩ := hcr.val
  have B1 := below_then BA BA.size hb1
  have K0 : Blk (((w.alloc (.cells #[.slice Ac cur.length cc, .slice Ai items.length ci] 26)).alloc (.cells #[.slice none 0 0] 23)).alloc (.cells #[.int .i64 0] 29)) w.heap.size 26 #[.slice Ac cur.length cc, .slice Ai items.length ci] := ((Blk.new _ _ _).alloc _).alloc _
  have K1 : Blk (((w.alloc (.cells #[.slice Ac cur.length cc, .slice Ai items.length ci] 26)).alloc (.cells #[.slice none 0 0] 23)).alloc (.cells #[.int .i64 0] 29)) (w.heap.size + 1) 23 #[.slice none 0 0] := by
    have := (Blk.new (w.alloc (.cells #[.slice Ac cur.length cc, .slice Ai items.length ci] 26)) 23 #[.slice none 0 0]).alloc (.cells #[.int .i64 0] 29)
    simpa using this
  have K2 : Blk (((w.alloc (.cells #[.slice Ac cur.length cc, .slice Ai items.length ci] 26)).alloc (.cells #[.slice none 0 0] 23)).alloc (.cells #[.int .i64 0] 29)) (w.heap.size + 1 + 1) 29 #[.int .i64 0] := by
    have := (Blk.new ((w.alloc (.cells #[.slice Ac cur.length cc, .slice Ai items.length ci] 26)).alloc (.cells #[.slice none 0 0] 23)) 29 #[.int .i64 0])
    simpa using this
  replace K0 := K0.below hb1
  replace K1 := K1.below hb1
  replace K2 := K2.below hb1
  obtain ⟨x0, x1, x2, x3⟩ := K0.two
  have l0 := K0.lt
  have l2 := K2.lt
  have hfld := fun W => fieldCur Acv cur.length ccv iv W
  clear BA hO hb1
  gi_wp2_with (first | (refine ⟨trivial, ?_⟩; gi_at_call 100; refine (callsIn_wide.2 (backFn2_any _ _ _ _ rfl rfl)).mono ?_; rintro e w2 ⟨rfl, rfl⟩))
  clear x0 x1 x2 x3
  obtain ⟨wR, hwR⟩ : ∃ wR, wR = ((w1.alloc (.cells #[.slice Acv cur.length ccv] 23)).alloc (.cells #[.slice Ac cur.length cc, .slice Ai items.length ci] 26)).alloc (.cells #[.int .i64 tt] 3) := ⟨_, rfl⟩
  have hsz : wR.heap.size = w1.heap.size + 3 := by rw [hwR]; simp
  have B1R : Below w1.heap.size w1 wR := by rw [hwR]; exact (((Below.refl _ _).alloc (Nat.le_refl _) _).alloc (by simp) _).alloc (by simp; omega) _
  have kg : Blk wR w1.heap.size 23 #[.slice Acv cur.length ccv] := by rw [hwR]; exact ((Blk.new w1 _ _).alloc _).alloc _
  have ks : Blk wR (w1.heap.size + 1) 26 #[.slice Ac cur.length cc, .slice Ai items.length ci] := by
    rw [hwR]
    have := (Blk.new (w1.alloc (.cells #[.slice Acv cur.length ccv] 23)) 26 #[.slice Ac cur.length cc, .slice Ai items.length ci]).alloc (.cells #[.int .i64 tt] 3)
    simpa only [World.size_alloc] using this
  have kt : Blk wR (w1.heap.size + 1 + 1) 3 #[.int .i64 tt] := by
    rw [hwR]
    have := Blk.new ((w1.alloc (.cells #[.slice Acv cur.length ccv] 23)).alloc (.cells #[.slice Ac cur.length cc, .slice Ai items.length ci] 26)) 3 #[.int .i64 tt]
    simpa only [World.size_alloc] using this
  have BR := below_then B1 B1.size B1R
  have hws := B1.size
  have hiR := ((hi.more (T := fun b => b < w.heap.size) (fun b hb _ => hb)).below BR).more (T := fun b => b < wR.heap.size ∧ b ≠ w1.heap.size) (fun b _ hb => ⟨by omega, by omega⟩)
  obtain ⟨xs, hx1, hx2, hseq⟩ := back_seq w1.heap.size 11 (w1.heap.size + 1) (w1.heap.size + 1 + 1) (by omega) (.slice Ac cur.length cc) _ items tt wR (by omega) (by omega) (by omega) (by omega) (by omega) (ks.cell 1) (kt.cell 0) hiR hto
  have hi0 : AtI w1.heap.size cur w wR [] wR := by
    refine ⟨_, kg, img_cells ?_, KeepBut.refl _ _, BR⟩
    exact ((hcr.more (T := fun b => w.heap.size + 3 ≤ b ∧ b ≠ w1.heap.size) (fun b hb h => by simp at h; omega)).below B1R)
  have hall : ∀ y ∈ xs, y.x ∈ items := fun y hy => by
    have : y.x ∈ xs.map (·.x) := List.mem_map.2 ⟨y, hy, rfl⟩
    rw [hx1] at this
    exact List.mem_of_mem_drop (List.mem_reverse.1 this)
  have hfit : ∀ y ∈ xs, ∀ z ∈ y.x.saved, fitW (lens cur) z = 0 := fun y hy => hok.fit (hall y hy)
  have hend : imgFold cur (xs.map (·.x)) = imgAt cur (items.drop tt) := by rw [hx1]; rfl
  have HXX := Lib.hid (And.intro hall (And.intro hfit hend))
  have hcl8 := hsm.vols
  have K1R := K1.below B1R
  have K2R := K2.below B1R
  simp only at hcl8
  rw [← hwR]
  clear hwR hall hfit hend hiR K0 ks kt kg hi hc hsm hcr K1 K2
  refine rangeG (n := 12) (gf := 113) (lb := #[.pointer (some ⟨w1.heap.size + 1, 0, none⟩), .pointer (some ⟨w1.heap.size + 1 + 1, 0, none⟩)]) rfl egBk hseq (fun _ => rfl) (by omega) (Below.refl _ _)
    (AtI w1.heap.size cur w wR) (atI_own _ _ _ _ (by omega)) hi0
    (fun y a' U => ∃ Bx, wR.heap.size ≤ Bx ∧ Blk U Bx 88 #[.int .i64 y.x.num, .int .i64 y.x.time, .slice y.A y.x.saved.length y.c] ∧ a' = { tmps := #[.agg #[.slice Ac cur.length cc, .slice Ai items.length ci], .int .i64 tt, .pointer (some ⟨w.heap.size, 0, none⟩), undef, .pointer (some ⟨w.heap.size + 1, 0, none⟩), .pointer (some ⟨w.heap.size + 1 + 1, 0, none⟩), .pointer (some ⟨w1.heap.size, 0, none⟩), .pointer (some ⟨Bx, 0, none⟩), undef, undef, undef, .agg #[.slice Ac cur.length cc, .slice Ai items.length ci], .agg #[.slice Acv cur.length ccv, iv], .slice Acv cur.length ccv, .agg #[.slice Ac cur.length cc, .slice Ai items.length ci], .int .i64 tt, .func (.func 113) #[] #[.pointer (some ⟨w1.heap.size + 1, 0, none⟩), .pointer (some ⟨w1.heap.size + 1 + 1, 0, none⟩)], .agg #[.int .i64 y.x.num, .int .i64 y.x.time, .slice y.A y.x.saved.length y.c], undef, undef, undef, undef, undef, undef, undef, undef, undef, undef, undef, undef, undef], defers := [] })
    ?ax ?assign ?body ?done
  case ax =>
    rintro y a' _ X Y row ⟨Bx, hle, hb, rfl⟩ hgr hr
    exact ⟨Bx, hle, Blk.grown hb hgr (fun e => by
      obtain ⟨_, o, ho, hn⟩ := hr Bx e.symm
      unfold Blk at hb
      rw [hb] at ho
      injection ho with ho
      subst ho
      simp [Obj.isCells] at hn), rfl⟩
  case assign =>
    intro lp2 pre y U K hi hK
    unfold encSv
    gi_wp2
    have hi' := hi
    obtain ⟨_, _, _, hkb, _⟩ := hi'
    exact hK _ _ (KeepBut.of_below ((Below.refl _ _).alloc (Nat.le_refl _) _)) ((atI_own _ _ _ _ (by omega)).alloc _ hi) ⟨U.heap.size, hkb.1, Blk.new _ _ _, rfl⟩
  case body =>
    rintro lp2 pre y a' U ⟨v, hv, him, hkn, hbw⟩ ⟨Bx, hle, hbx, rfl⟩ hpre
    have hyx : y ∈ xs := by
      obtain ⟨t, ht⟩ := hpre
      rw [← ht]; simp
    have hpx : ∀ z ∈ pre, z ∈ xs := fun z hz => by
      obtain ⟨t, ht⟩ := hpre
      rw [← ht]; simp [hz]
    obtain ⟨y1, y2, y3⟩ := hx2 y hyx
    have hys := (y3.keep (w' := U) (fun b hb h => hkn.2 b hb h.2))
    have hln : lens (imgFold cur (pre.map (·.x))) = lens cur := imgFold_lens (fun z hz => by
      obtain ⟨q, hq, rfl⟩ := List.mem_map.1 hz
      exact HXX.out.2.1 q (hpx q hq))
    have hlen9 : (imgFold cur (pre.map (·.x))).length ≤ 100000 := by
      have := congrArg List.length hln
      simp [lens] at this; omega
    have hfy : ∀ z ∈ y.x.saved, fitW (lens (imgFold cur (pre.map (·.x)))) z = 0 := fun z hz => by rw [hln]; exact HXX.out.2.1 y hyx z hz
    have hap0 : apE (imgFold cur (pre.map (·.x))) y.x.saved = 0 := apE_of (by rw [hln]; exact hok.sz) hfy
    have hapR : apR (imgFold cur (pre.map (·.x))) y.x.saved = imgFold cur ((pre ++ [y]).map (·.x)) := by
      unfold apR; rw [if_pos hap0]; unfold imgFold; simp
    have hap := apply_any v y.dv _ y.x.saved U _ _ him hys hlen9
    obtain ⟨Av, cv2, rfl, _, _⟩ := him.val
    obtain ⟨q0, q1, q2, q3, q4, q5⟩ := hbx.three
    obtain ⟨g0, g1⟩ := hv.one
    have hgU := hv.lt
    unfold ApRet at hap
    rw [hap0, hapR] at hap
    unfold Sv.dv at hap
    have HAP := Lib.hid hap
    clear hap hap0 hapR hfy hlen9 hln hpx hyx y1 y2 y3 hpre him hys
    gi_wp2_with (first | (refine ⟨trivial, ?_⟩; gi_at_call 67; refine (callsIn_wide.2 HAP.out).mono ?_; rintro e w5 ⟨v5, i5, rfl, X5, B5⟩; obtain ⟨A5, c5, rfl, _, _⟩ := X5.val; have hv5 := hv.below B5; obtain ⟨r0, r1⟩ := hv5.one; have hg5 := hv5.lt))
    refine ⟨(KeepBut.of_below B5).trans (KeepBut.of_grown (grown_setCell _ _ _)), _, by simpa using hv5.set_ 0 (.slice A5 _ c5), ?_, ?_, ?_⟩
    · have em : (pre ++ [y]).map (·.x) = pre.map (·.x) ++ [y.x] := by simp
      rw [em] at X5 ⊢
      have q9 := X5.keep (w' := w5.setCell ⟨w1.heap.size, 0, none⟩ (.slice A5 (imgFold cur (pre.map (·.x) ++ [y.x])).length c5)) (fun b _ hb => Below.heap_setCell _ _ _ b (by simp; omega))
      have hsU := hbw.size
      have hkU := hkn.1
      exact (img_cells q9).more (fun b _ hb => ⟨⟨by omega, by omega⟩, hb.2⟩)
    · exact hkn.trans ((KeepBut.of_below B5).trans (KeepBut.of_grown (grown_setCell _ _ _)))
    · exact (below_then hbw hbw.size B5).setCell (by simp; omega) _
  case done =>
    rintro D U hD ⟨v, hv, him, hkn, hbw⟩ hK
    have b1 : Blk U (w.heap.size + 1) 23 #[.slice none 0 0] := (hkn.2 _ K1R.lt (by omega)).trans K1R
    have b2 : Blk U (w.heap.size + 1 + 1) 29 #[.int .i64 0] := (hkn.2 _ K2R.lt (by omega)).trans K2R
    rw [HXX.out.2.2] at him
    obtain ⟨Av, cv2, rfl, _, _⟩ := him.val
    obtain ⟨g0, g1⟩ := hv.one
    obtain ⟨r0, r1⟩ := b1.one
    obtain ⟨t0, t1⟩ := b2.one
    have hgU := b2.lt
    have HIM := Lib.hid him
    clear him
    gi_wp2
    have hne12 : w.heap.size + 1 ≠ w.heap.size + 1 + 1 := by omega
    have g9 : U.grownBy ((U.setCell ⟨w.heap.size + 1, 0, none⟩ (.slice Av (imgAt cur (items.drop tt)).length cv2)).setCell ⟨w.heap.size + 1 + 1, 0, none⟩ (.int .i64 0)) none → True := fun _ => trivial
    have hblk : ∀ b, b ≠ w.heap.size + 1 → b ≠ w.heap.size + 1 + 1 → ((U.setCell ⟨w.heap.size + 1, 0, none⟩ (.slice Av (imgAt cur (items.drop tt)).length cv2)).setCell ⟨w.heap.size + 1 + 1, 0, none⟩ (.int .i64 0)).heap[b]? = U.heap[b]? := fun b h1 h2 => (Below.heap_setCell _ _ _ b h2).trans (Below.heap_setCell _ _ _ b h1)
    have s1 := (b1.set_ 0 (.slice Av (imgAt cur (items.drop tt)).length cv2)).far (p := ⟨w.heap.size + 1 + 1, 0, none⟩) (by simp) (.int .i64 0)
    have s2 := (b2.far (p := ⟨w.heap.size + 1, 0, none⟩) (by simp) (.slice Av (imgAt cur (items.drop tt)).length cv2)).set_ 0 (.int .i64 0)
    have sB := (hbw.setCell (p := ⟨w.heap.size + 1, 0, none⟩) (by simp) (.slice Av (imgAt cur (items.drop tt)).length cv2)).setCell (p := ⟨w.heap.size + 1 + 1, 0, none⟩) (by simp; omega) (.int .i64 0)
    have hK' := (hblk D (by omega) (by omega)).trans hK
    have sI := HIM.out.keep (fun b _ hb => hblk b (by omega) (by omega))
    have sC : ∀ b, IsC U b → b ≠ w.heap.size + 1 → b ≠ w.heap.size + 1 + 1 → b ≠ D := fun b ⟨cs, t, fr, hb⟩ _ _ e => by
      subst e; rw [hK] at hb; cases hb
    generalize (U.setCell ⟨w.heap.size + 1, 0, none⟩ (.slice Av (imgAt cur (items.drop tt)).length cv2)).setCell ⟨w.heap.size + 1 + 1, 0, none⟩ (.int .i64 0) = w9 at *
    refine ⟨by simp, .inl ⟨_, _, rfl, run_takeDeferred hK', ?_⟩⟩
    have gD := grownBy_putObj' w9 D (.deferred none)
    have r1 := s1.grown gD (fun e => by injection e with e; omega)
    have r2 := s2.grown gD (fun e => by injection e with e; omega)
    have rB := sB.grown gD sB.size (fun r e => by injection e with e; omega)
    have rI := sI.keep (fun b hb hh => gD.block b hb (fun e => by injection e with e; exact sC b hh.2 (by omega) (by omega) e))
    have c1 := r1.cell 0
    have c2 := r2.cell 0
    simp at c1 c2
    exact ⟨.tuple #[.slice Av (imgAt cur (items.drop tt)).length cv2, .int .i64 0], by simp [results, Try.results70, go_sem, c1, c2], ⟨_, rfl, rI.more (fun b _ hh => by omega), rB⟩⟩
end Go.Proofs.Ytccbbecfmfldbaa
