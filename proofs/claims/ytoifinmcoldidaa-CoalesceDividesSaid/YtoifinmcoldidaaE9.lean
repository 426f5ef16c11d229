import Derived.Test.YtoifinmcoldidaaE8
import Derived.Test.YtoifinmcoldidaaE4I
import Derived.Test.YtoifinmcoldidaaE4S
import Derived.Test.YtoifinmcoldidaaDv
set_option maxRecDepth 100000
set_option linter.unusedVariables false
set_option linter.unusedSimpArgs false
namespace Go.Proofs.Ytoifinmcoldidaa
open Go.RowKit Go.Mm Sb

/-! ### Intersect, Subtract, Complement -/
theorem intersect_any (va vb : Value) (a b : List Ext) (w : World) (S : Nat → Prop) (ha : RExts w S va a) (hb : RExts w S vb b) (hna : a.length ≤ 1000000) (hnb : b.length ≤ 1000000) :
    Calls Try.prog 23 #[va, vb] w fun e w' => ∃ v, e = .returned v ∧ RExts w' (fun b => w.heap.size ≤ b) v (runsE (fun s => keepI (memC a s) (memC b s)) 4096) ∧ Below w.heap.size w w' := by
  obtain ⟨Aa, ca, rfl, _, _⟩ := ha.val
  obtain ⟨Ab, cb, rfl, _, _⟩ := hb.val
  have B1 := ((((Below.refl w.heap.size w).alloc (Nat.le_refl _) (.cells #[.slice Aa a.length ca] 42)).alloc (by simp) (.cells #[.slice Ab b.length cb] 42)).alloc (by simp; omega) (.cells #[.func (.func 53) #[] #[]] 90))
  have k0 := ((Blk.new w 42 #[.slice Aa a.length ca]).alloc (.cells #[.slice Ab b.length cb] 42)).alloc (.cells #[.func (.func 53) #[] #[]] 90)
  have k1 := (Blk.new (w.alloc (.cells #[.slice Aa a.length ca] 42)) 42 #[.slice Ab b.length cb]).alloc (.cells #[.func (.func 53) #[] #[]] 90)
  have k2 := Blk.new ((w.alloc (.cells #[.slice Aa a.length ca] 42)).alloc (.cells #[.slice Ab b.length cb] 42)) 90 #[.func (.func 53) #[] #[]]
  simp only [World.size_alloc] at k1 k2
  have ha' := (ha.more (T := fun x => x < w.heap.size) (fun _ h _ => h)).below B1
  have hb' := (hb.more (T := fun x => x < w.heap.size) (fun _ h _ => h)).below B1
  have hsz : (((w.alloc (.cells #[.slice Aa a.length ca] 42)).alloc (.cells #[.slice Ab b.length cb] 42)).alloc (.cells #[.func (.func 53) #[] #[]] 90)).heap.size = w.heap.size + 3 := by simp
  have hseq := sweepI_seq 4 (w.heap.size + 3) w.heap.size (w.heap.size + 1) (w.heap.size + 2) (by omega) (.slice Aa a.length ca) (.slice Ab b.length cb) a b _ (by rw [hsz]; omega) (by omega) (by omega) (by omega) (k0.cell 0) (k1.cell 0) (k2.cell 0) (ha'.more (fun b _ hb => by omega)) (hb'.more (fun b _ hb => by omega)) hna hnb
  have hcol := collect_any 78 _ _ _ egSweep (by rw [hsz]; exact hseq) (runs_in64 _)
  have HC := Lib.hid hcol
  clear hcol hseq k0 k1 k2 ha' hb'
  go_enter Try.func23, Try.ntmps23
  go_wp2_with (first | (go_at_call 52; refine (sweepFn_any _ _ 53 w rfl rfl).mono ?_; rintro e w1 ⟨rfl, rfl⟩) | (go_at_call 51; refine HC.out.mono ?_; rintro e w2 ⟨v2, rfl, hv2, hb2⟩))
  go_ret
  refine ⟨_, rfl, hv2.more (fun b _ hh => by rw [hsz] at hh; omega), below_then B1 (by rw [hsz]; omega) hb2⟩

theorem subtract_any (va vb : Value) (a b : List Ext) (w : World) (S : Nat → Prop) (ha : RExts w S va a) (hb : RExts w S vb b) (hna : a.length ≤ 1000000) (hnb : b.length ≤ 1000000) :
    Calls Try.prog 50 #[va, vb] w fun e w' => ∃ v, e = .returned v ∧ RExts w' (fun b => w.heap.size ≤ b) v (runsE (fun s => keepS (memC a s) (memC b s)) 4096) ∧ Below w.heap.size w w' := by
  obtain ⟨Aa, ca, rfl, _, _⟩ := ha.val
  obtain ⟨Ab, cb, rfl, _, _⟩ := hb.val
  have B1 := ((((Below.refl w.heap.size w).alloc (Nat.le_refl _) (.cells #[.slice Aa a.length ca] 42)).alloc (by simp) (.cells #[.slice Ab b.length cb] 42)).alloc (by simp; omega) (.cells #[.func (.func 76) #[] #[]] 90))
  have k0 := ((Blk.new w 42 #[.slice Aa a.length ca]).alloc (.cells #[.slice Ab b.length cb] 42)).alloc (.cells #[.func (.func 76) #[] #[]] 90)
  have k1 := (Blk.new (w.alloc (.cells #[.slice Aa a.length ca] 42)) 42 #[.slice Ab b.length cb]).alloc (.cells #[.func (.func 76) #[] #[]] 90)
  have k2 := Blk.new ((w.alloc (.cells #[.slice Aa a.length ca] 42)).alloc (.cells #[.slice Ab b.length cb] 42)) 90 #[.func (.func 76) #[] #[]]
  simp only [World.size_alloc] at k1 k2
  have ha' := (ha.more (T := fun x => x < w.heap.size) (fun _ h _ => h)).below B1
  have hb' := (hb.more (T := fun x => x < w.heap.size) (fun _ h _ => h)).below B1
  have hsz : (((w.alloc (.cells #[.slice Aa a.length ca] 42)).alloc (.cells #[.slice Ab b.length cb] 42)).alloc (.cells #[.func (.func 76) #[] #[]] 90)).heap.size = w.heap.size + 3 := by simp
  have hseq := sweepS_seq 4 (w.heap.size + 3) w.heap.size (w.heap.size + 1) (w.heap.size + 2) (by omega) (.slice Aa a.length ca) (.slice Ab b.length cb) a b _ (by rw [hsz]; omega) (by omega) (by omega) (by omega) (k0.cell 0) (k1.cell 0) (k2.cell 0) (ha'.more (fun b _ hb => by omega)) (hb'.more (fun b _ hb => by omega)) hna hnb
  have hcol := collect_any 78 _ _ _ egSweep (by rw [hsz]; exact hseq) (runs_in64 _)
  have HC := Lib.hid hcol
  clear hcol hseq k0 k1 k2 ha' hb'
  go_enter Try.func50, Try.ntmps50
  go_wp2_with (first | (go_at_call 52; refine (sweepFn_any _ _ 76 w rfl rfl).mono ?_; rintro e w1 ⟨rfl, rfl⟩) | (go_at_call 51; refine HC.out.mono ?_; rintro e w2 ⟨v2, rfl, hv2, hb2⟩))
  go_ret
  refine ⟨_, rfl, hv2.more (fun b _ hh => by rw [hsz] at hh; omega), below_then B1 (by rw [hsz]; omega) hb2⟩

set_option maxHeartbeats 1000000 in
theorem complement_any (v : Value) (l : List Ext) (w : World) (S : Nat → Prop) (h : RExts w S v l) (hn : l.length ≤ 1000000) :
    Calls Try.prog 21 #[v, .int .i64 4096] w fun e w' => ∃ v N, e = .returned v ∧ RExts w' (fun b => w.heap.size ≤ b) v N ∧ N.length ≤ 4096 ∧ (∀ s : Int, 0 ≤ s → s < 4096 → memC N s = !memC l s) ∧ Below w.heap.size w w' := by
  have hA := (Below.refl w.heap.size w).alloc (Nat.le_refl _) (.cells #[.int .i64 0, .int .i64 4096] 68)
  have hb := Blk.new w 68 #[.int .i64 0, .int .i64 4096]
  have hr : RExts (w.alloc (.cells #[.int .i64 0, .int .i64 4096] 68)) (fun _ => True) (.slice (some ⟨w.heap.size, 0, none⟩) 1 1) [⟨0, 4096⟩] := by
    refine ⟨_, 1, rfl, by simp, by unfold maxLen; omega, fun _ => ⟨w.heap.size, 0, rfl, by simp, trivial, fun j x hj => ?_⟩⟩
    rcases j with _ | j
    · simp at hj; subst hj
      refine ⟨[.int .i64 0, .int .i64 4096], rfl, fun i hi => ?_, by unfold In64; simp only; omega, by unfold In64; simp only; omega, rfl⟩
      rw [hb.cell]
      match i, hi with
      | 0, _ => rfl
      | 1, _ => rfl
    · simp at hj
  have hs := subtract_any _ v [⟨0, 4096⟩] l _ _ hr ((h.more (T := fun _ => True) (fun _ _ _ => trivial)).below hA) (by simp) hn
  have HS := Lib.hid hs
  clear hs hr
  go_enter Try.func21, Try.ntmps21
  go_wp2_with (first | (go_at_call 50; refine HS.out.mono ?_; rintro e w2 ⟨v2, rfl, hv2, hb2⟩))
  go_ret
  refine ⟨_, _, rfl, hv2.more (fun b _ hh => by simp at hh; omega), runs_len _ _, fun s a b => ?_, below_then hA (by simp) hb2⟩
  rw [memC_runs _ s a b]
  have e1 : memC [⟨0, 4096⟩] s = true := by
    rw [memC_mem _ s a b]
    simp [mem, Ext.has, a, b]
  rw [e1]; simp [keepS]
end Go.Proofs.Ytoifinmcoldidaa
