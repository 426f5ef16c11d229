import Derived.Test.YtoifinmcoldidaaC4
import Derived.Test.YtoifinmcoldidaaMems
import Derived.Test.YtoifinmcoldidaaSort
set_option maxRecDepth 100000
set_option linter.unusedVariables false
set_option linter.unusedSimpArgs false
namespace Go.Proofs.Ytoifinmcoldidaa
open Go.RowKit Go.Mm Sb

/-! ### places, sorted -/
def encPl (p : SLoc) : List Value := [.int .i64 p.1, .int .i64 p.2]
instance (x y : SLoc) : Decidable (LocLt x y) := by unfold LocLt; infer_instance
theorem ltOf_before (x y : SLoc) : Go.Proofs.ltOf beforeI x y = decide (LocLt x y) := by
  unfold Go.Proofs.ltOf
  rw [Bool.eq_iff_iff]
  simp only [decide_eq_true_eq]
  unfold beforeI orI cmpI LocLt
  (repeat' split) <;> omega
theorem swo_before : Go.Sort.SWO (Go.Proofs.ltOf beforeI) where
  irrefl x := by rw [ltOf_before]; simp [LocLt]
  trans x y z h1 h2 := by
    rw [ltOf_before] at h1 h2 ⊢
    have a := of_decide_eq_true h1
    have b := of_decide_eq_true h2
    refine decide_eq_true ?_
    unfold LocLt at *
    omega
  ntrans x y z h1 h2 := by
    rw [ltOf_before] at h1 h2 ⊢
    have a := of_decide_eq_false h1
    have b := of_decide_eq_false h2
    refine decide_eq_false ?_
    unfold LocLt at *
    omega
instance : Inhabited SLoc := ⟨(0, 0)⟩
theorem isAggP (w : World) : (isAgg 85).run Try.prog w = .ok true w := by kernel_rfl
theorem sizeOfP (w : World) : (Go.sizeOf 85).run Try.prog w = .ok 2 w := by kernel_rfl
theorem infoP : (Try.prog.info? 85).map (fun i => (i.zero, i.size, i.bytes)) = some (some (.agg #[.int .i64 0, .int .i64 0]), 2, 16) := by kernel_rfl
theorem infoW : (Try.prog.info? 35).map (fun i => (i.zero, i.size, i.bytes)) = some (some (.agg #[.int .i64 0, .int .i64 0, .slice none 0 0]), 3, 40) := by kernel_rfl
theorem infoS : (Try.prog.info? 53).map (fun i => (i.zero, i.size, i.bytes)) = some (some (.agg #[.int .u8 0, .int .u8 0, .int .u8 0, .int .u8 0, .int .u8 0, .int .u8 0, .int .u8 0, .int .u8 0]), 8, 8) := by kernel_rfl
theorem efP : ∀ args w, (callFunc 70 args).run Try.prog w = .ok (.enter 70 args) w := enters_of Try.func70 (by kernel_rfl) rfl
theorem sortP_any {w : World} {base : Nat} {S : Nat → Prop} {A : Option Addr} {cap : Nat} {xs : List SLoc} (h : OwnSl 85 2 (RPure encPl) w base S (.slice A xs.length cap) xs) (hsz : xs.length < 4611686018427387904) :
    Calls Try.prog 69 #[.slice A xs.length cap, .func (.func 70) #[] #[]] w fun en w' => en = .returned (.tuple #[]) ∧ ∃ ys : List SLoc, ys.Perm xs ∧ ys.Pairwise (fun x y => Go.Proofs.ltOf beforeI y x = false) ∧ ys.length = xs.length ∧
      RSl 2 (RPure encPl) w' (fun b => A.map (·.block) = some b) (.slice A xs.length cap) ys ∧ w.grownBy w' (A.map (·.block)) :=
  sort_own Try.sortP isAggP sizeOfP (fun _ => rfl) (by omega) (by intro x v hv; simp [encPl] at hv; rcases hv with rfl | rfl <;> rfl) beforeI swo_before 70 efP
    (fun x y W => (before_any x.1 x.2 y.1 y.2 W).mono fun _ _ ⟨h1, h2⟩ => ⟨h1, h2⟩) h hsz
end Go.Proofs.Ytoifinmcoldidaa
