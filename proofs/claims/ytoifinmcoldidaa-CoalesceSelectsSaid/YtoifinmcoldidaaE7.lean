import Derived.Test.YtoifinmcoldidaaE4
import Derived.Test.YtoifinmcoldidaaE6
import Derived.Test.YtoifinmcoldidaaR2
set_option maxRecDepth 100000
set_option linter.unusedVariables false
set_option linter.unusedSimpArgs false
namespace Go.Proofs.Ytoifinmcoldidaa
open Go.RowKit Go.Mm Sb

/-! ### Collect, Union -/
theorem collect_any (gf : Nat) (lb : Array Value) (xs : List Ext) (w : World) (eg : ∀ args w, (callFunc gf args).run Try.prog w = .ok (.enter gf args) w)
    (hseq : SeqX 4 gf lb w.heap.size 10000000 xs w) (hxs : ∀ x ∈ xs, In64 x.start ∧ In64 x.count) :
    Calls Try.prog 51 #[.func (.func gf) #[] lb] w fun e w' => ∃ v, e = .returned v ∧ RExts w' (fun b => w.heap.size ≤ b) v xs ∧ Below w.heap.size w w' := by
  go_enter Try.func51, Try.ntmps51
  go_wp2_with (first | (go_at_call 77; refine (appendSeq_any gf lb xs w eg hseq hxs).mono ?_; rintro e w1 ⟨v1, rfl, hv1, hb1⟩))
  go_ret
  exact ⟨_, rfl, hv1, hb1⟩
theorem sweepFn_any (va vb : Value) (kf : Nat) (w : World) (h1 : va.oneCell' = true) (h2 : vb.oneCell' = true) :
    Calls Try.prog 52 #[va, vb, .func (.func kf) #[] #[]] w fun e w' => e = .returned (.func (.func 78) #[] #[.pointer (some ⟨w.heap.size, 0, none⟩), .pointer (some ⟨w.heap.size + 1, 0, none⟩), .pointer (some ⟨w.heap.size + 2, 0, none⟩)]) ∧
      w' = ((w.alloc (.cells #[va] 42)).alloc (.cells #[vb] 42)).alloc (.cells #[.func (.func kf) #[] #[]] 90) := by
  go_enter Try.func52, Try.ntmps52
  go_wp2
  go_ret
  exact ⟨rfl, rfl⟩
theorem egSweep : ∀ args w, (callFunc 78 args).run Try.prog w = .ok (.enter 78 args) w := enters_of Try.func78 (by kernel_rfl) rfl
theorem runs_in64 (p : Int → Bool) : ∀ x ∈ runsE p 4096, In64 x.start ∧ In64 x.count := fun x hx => by
  have := runs_bound p 4096 x hx
  unfold In64; omega
theorem union_any (va vb : Value) (a b : List Ext) (w : World) (S : Nat → Prop) (ha : RExts w S va a) (hb : RExts w S vb b) (hna : a.length ≤ 1000000) (hnb : b.length ≤ 1000000) :
    Calls Try.prog 54 #[va, vb] w fun e w' => ∃ v, e = .returned v ∧ RExts w' (fun b => w.heap.size ≤ b) v (runsE (fun s => keepU (memC a s) (memC b s)) 4096) ∧ Below w.heap.size w w' := by
  obtain ⟨Aa, ca, rfl, _, _⟩ := ha.val
  obtain ⟨Ab, cb, rfl, _, _⟩ := hb.val
  have B1 := ((((Below.refl w.heap.size w).alloc (Nat.le_refl _) (.cells #[.slice Aa a.length ca] 42)).alloc (by simp) (.cells #[.slice Ab b.length cb] 42)).alloc (by simp; omega) (.cells #[.func (.func 80) #[] #[]] 90))
  have k0 := ((Blk.new w 42 #[.slice Aa a.length ca]).alloc (.cells #[.slice Ab b.length cb] 42)).alloc (.cells #[.func (.func 80) #[] #[]] 90)
  have k1 := (Blk.new (w.alloc (.cells #[.slice Aa a.length ca] 42)) 42 #[.slice Ab b.length cb]).alloc (.cells #[.func (.func 80) #[] #[]] 90)
  have k2 := Blk.new ((w.alloc (.cells #[.slice Aa a.length ca] 42)).alloc (.cells #[.slice Ab b.length cb] 42)) 90 #[.func (.func 80) #[] #[]]
  simp only [World.size_alloc] at k1 k2
  have ha' := (ha.more (T := fun x => x < w.heap.size) (fun _ h _ => h)).below B1
  have hb' := (hb.more (T := fun x => x < w.heap.size) (fun _ h _ => h)).below B1
  have hsz : (((w.alloc (.cells #[.slice Aa a.length ca] 42)).alloc (.cells #[.slice Ab b.length cb] 42)).alloc (.cells #[.func (.func 80) #[] #[]] 90)).heap.size = w.heap.size + 3 := by simp
  have hseq := sweepU_seq 4 (w.heap.size + 3) w.heap.size (w.heap.size + 1) (w.heap.size + 2) (by omega) (.slice Aa a.length ca) (.slice Ab b.length cb) a b _ (by rw [hsz]; omega) (by omega) (by omega) (by omega) (k0.cell 0) (k1.cell 0) (k2.cell 0) (ha'.more (fun b _ hb => by omega)) (hb'.more (fun b _ hb => by omega)) hna hnb
  have hcol := collect_any 78 _ _ _ egSweep (by rw [hsz]; exact hseq) (runs_in64 _)
  have HC := Lib.hid hcol
  clear hcol hseq k0 k1 k2 ha' hb'
  go_enter Try.func54, Try.ntmps54
  go_wp2_with (first | (go_at_call 52; refine (sweepFn_any _ _ 80 w rfl rfl).mono ?_; rintro e w1 ⟨rfl, rfl⟩) | (go_at_call 51; refine HC.out.mono ?_; rintro e w2 ⟨v2, rfl, hv2, hb2⟩))
  go_ret
  refine ⟨_, rfl, hv2.more (fun b _ hh => by rw [hsz] at hh; omega), below_then B1 (by rw [hsz]; omega) hb2⟩
end Go.Proofs.Ytoifinmcoldidaa
