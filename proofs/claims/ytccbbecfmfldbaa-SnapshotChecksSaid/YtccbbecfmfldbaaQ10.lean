import Derived.Shelf.SlGeneric
import Derived.Shelf.SlSortCmp.WholeK
import Derived.Shelf.SlSortCmp.NoneTotal
import Derived.Ground.SlsfProg
import Derived.Test.YtccbbecfmfldbaaProg
import Derived.Test.YtccbbecfmfldbaaQ8
import Derived.Test.YtccbbecfmfldbaaQ9
/-
  DERIVED: THE SHELF's CONTRACTS AT THIS DUMP, IN PLAIN WORDS (tools/lay-plain.mjs out of 'YtccbbecfmfldbaaSort0.lean', which tools/lay-shelf.mjs wrote): THE SAME DECLARATIONS UNDER THE SAME NAMES: 'import', 'namespace', 'open', 'def', 'theorem' AND NOTHING ELSE: no command of the shelf's: FOR A HAND-IN. Each laying: the table of numbers ('.._ren') and one theorem, a field a fact of the dump's own or the kernel's comparison; each contract: ONE APPLICATION.
-/
namespace Go.Proofs
open Go.Shelf
def Try.sortP_ren : Go.Shelf.Ren := ⟨fun | 6 => 126 | 15 => 129 | 14 => 128 | 28 => 140 | 29 => 141 | 20 => 132 | 21 => 133 | 22 => 134 | 23 => 135 | 24 => 136 | 25 => 137 | 26 => 138 | 27 => 139 | 46 => 142 | 47 => 143 | 48 => 144 | 49 => 145 | 50 => 146 | 57 => 147 | n => n, fun | 22 => 172 | 24 => 170 | 25 => 174 | 3 => 3 | 39 => 178 | 0 => 0 | 53 => 190 | 55 => 192 | 4 => 4 | 46 => 183 | 45 => 182 | 50 => 187 | 5 => 5 | 9 => 9 | 66 => 193 | 70 => 197 | 76 => 199 | 77 => 200 | n => n, fun | n => n⟩
theorem Try.sortP : Go.Proofs.SlLaysF0.n6 Try.prog Try.sortP_ren := {
  mixed := by kernel_rfl
  f6 := ⟨Try.f126.name, by decide, Try.func126.trans (congrArg some (by kernel_rfl))⟩
  f14 := ⟨Try.f128.name, by decide, Try.func128.trans (congrArg some (by kernel_rfl))⟩
  f15 := Try.func129.trans (congrArg some (by kernel_rfl))
  f20 := ⟨Try.f132.name, by decide, Try.func132.trans (congrArg some (by kernel_rfl))⟩
  f21 := ⟨Try.f133.name, by decide, Try.func133.trans (congrArg some (by kernel_rfl))⟩
  f22 := ⟨Try.f134.name, by decide, Try.func134.trans (congrArg some (by kernel_rfl))⟩
  f23 := ⟨Try.f135.name, by decide, Try.func135.trans (congrArg some (by kernel_rfl))⟩
  f24 := ⟨Try.f136.name, by decide, Try.func136.trans (congrArg some (by kernel_rfl))⟩
  f25 := ⟨Try.f137.name, by decide, Try.func137.trans (congrArg some (by kernel_rfl))⟩
  f26 := ⟨Try.f138.name, by decide, Try.func138.trans (congrArg some (by kernel_rfl))⟩
  f27 := ⟨Try.f139.name, by decide, Try.func139.trans (congrArg some (by kernel_rfl))⟩
  f28 := Try.func140.trans (congrArg some (by kernel_rfl))
  f29 := Try.func141.trans (congrArg some (by kernel_rfl))
  f46 := ⟨Try.f142.name, by decide, Try.func142.trans (congrArg some (by kernel_rfl))⟩
  f47 := Try.func143.trans (congrArg some (by kernel_rfl))
  f48 := Try.func144.trans (congrArg some (by kernel_rfl))
  f49 := ⟨Try.f145.name, by decide, Try.func145.trans (congrArg some (by kernel_rfl))⟩
  f50 := ⟨Try.f146.name, by decide, Try.func146.trans (congrArg some (by kernel_rfl))⟩
  f57 := ⟨Try.f147.name, by decide, Try.func147.trans (congrArg some (by kernel_rfl))⟩
  t0 := Try.underlying0
  a0 := Try.isAgg0
  z0 := Try.sizeOf0
  v0 := Try.zeroValue0
  t3 := Try.underlying3
  a3 := Try.isAgg3
  z3 := Try.sizeOf3
  v3 := Try.zeroValue3
  t4 := Try.underlying4
  a4 := Try.isAgg4
  z4 := Try.sizeOf4
  v4 := Try.zeroValue4
  t5 := Try.underlying5
  a5 := Try.isAgg5
  z5 := Try.sizeOf5
  v5 := Try.zeroValue5
  t9 := Try.underlying9
  a9 := Try.isAgg9
  z9 := Try.sizeOf9
  v9 := Try.zeroValue9
  t22 := Try.underlying172
  a22 := Try.isAgg172
  z22 := Try.sizeOf172
  v22 := Try.zeroValue172
  t25 := Try.underlying174
  a25 := Try.isAgg174
  z25 := Try.sizeOf174
  v25 := Try.zeroValue174
  t39 := Try.underlying178
  a39 := Try.isAgg178
  z39 := Try.sizeOf178
  v39 := Try.zeroValue178
  t45 := Try.underlying182
  a45 := Try.isAgg182
  z45 := Try.sizeOf182
  v45 := Try.zeroValue182
  t46 := Try.underlying183
  a46 := Try.isAgg183
  z46 := Try.sizeOf183
  v46 := Try.zeroValue183
  t50 := Try.underlying187
  a50 := Try.isAgg187
  z50 := Try.sizeOf187
  v50 := Try.zeroValue187
  t53 := Try.underlying190
  a53 := Try.isAgg190
  z53 := Try.sizeOf190
  v53 := Try.zeroValue190
  t55 := Try.underlying192
  a55 := Try.isAgg192
  z55 := Try.sizeOf192
  v55 := Try.zeroValue192
  t66 := Try.underlying193
  a66 := Try.isAgg193
  z66 := Try.sizeOf193
  v66 := Try.zeroValue193
  t70 := Try.underlying197
  a70 := Try.isAgg197
  z70 := Try.sizeOf197
  v70 := Try.zeroValue197
  t76 := Try.underlying199
  a76 := Try.isAgg199
  z76 := Try.sizeOf199
  v76 := Try.zeroValue199
  t77 := Try.underlying200
  a77 := Try.isAgg200
  z77 := Try.sizeOf200
  v77 := Try.zeroValue200 }
end Go.Proofs

set_option maxRecDepth 100000
set_option linter.unusedVariables false
set_option linter.unusedSimpArgs false
namespace Go.Proofs.Ytccbbecfmfldbaa
open Go.RowKit Go.Mm Sb

/-! ### places, sorted -/
def encPl (p : SLoc) : List Value := [.int .i64 p.1, .int .i64 p.2]
instance (x y : SLoc) : Decidable (LocLt x y) := by unfold LocLt; infer_instance
theorem ltOf_before (x y : SLoc) : Go.Proofs.ltOf beforeI x y = decide (LocLt x y) := by
  unfold Go.Proofs.ltOf
  rw [Bool.eq_iff_iff]
  simp only [decide_eq_true_eq]
  unfold beforeI orI cmpI LocLt
  (repeat' split) <;> omega
theorem swo_before : Go.Sort.SWO (Go.Proofs.ltOf beforeI) where
  irrefl x := by rw [ltOf_before]; simp [LocLt]
  trans x y z h1 h2 := by
    rw [ltOf_before] at h1 h2 ⊢
    have a := of_decide_eq_true h1
    have b := of_decide_eq_true h2
    refine decide_eq_true ?_
    unfold LocLt at *
    omega
  ntrans x y z h1 h2 := by
    rw [ltOf_before] at h1 h2 ⊢
    have a := of_decide_eq_false h1
    have b := of_decide_eq_false h2
    refine decide_eq_false ?_
    unfold LocLt at *
    omega
instance : Inhabited SLoc := ⟨(0, 0)⟩
theorem isAggP (w : World) : (isAgg 170).run Try.prog w = .ok true w := by kernel_rfl
theorem sizeOfP (w : World) : (Go.sizeOf 170).run Try.prog w = .ok 2 w := by kernel_rfl
theorem infoP : (Try.prog.info? 170).map (fun i => (i.zero, i.size, i.bytes)) = some (some (.agg #[.int .i64 0, .int .i64 0]), 2, 16) := by kernel_rfl
theorem infoW : (Try.prog.info? 54).map (fun i => (i.zero, i.size, i.bytes)) = some (some (.agg #[.int .i64 0, .int .i64 0, .slice none 0 0]), 3, 40) := by kernel_rfl
theorem infoS : (Try.prog.info? 99).map (fun i => (i.zero, i.size, i.bytes)) = some (some (.agg #[.int .u8 0, .int .u8 0, .int .u8 0, .int .u8 0, .int .u8 0, .int .u8 0, .int .u8 0, .int .u8 0]), 8, 8) := by kernel_rfl
theorem efP : ∀ args w, (callFunc 127 args).run Try.prog w = .ok (.enter 127 args) w := enters_of Try.func127 (by kernel_rfl) rfl
theorem sortP_any {w : World} {base : Nat} {S : Nat → Prop} {A : Option Addr} {cap : Nat} {xs : List SLoc} (h : OwnSl 170 2 (RPure encPl) w base S (.slice A xs.length cap) xs) (hsz : xs.length < 4611686018427387904) :
    Calls Try.prog 126 #[.slice A xs.length cap, .func (.func 127) #[] #[]] w fun en w' => en = .returned (.tuple #[]) ∧ ∃ ys : List SLoc, ys.Perm xs ∧ ys.Pairwise (fun x y => Go.Proofs.ltOf beforeI y x = false) ∧ ys.length = xs.length ∧
      RSl 2 (RPure encPl) w' (fun b => A.map (·.block) = some b) (.slice A xs.length cap) ys ∧ w.grownBy w' (A.map (·.block)) :=
  sort_own Try.sortP isAggP sizeOfP (fun _ => rfl) (by omega) (by intro x v hv; simp [encPl] at hv; rcases hv with rfl | rfl <;> rfl) beforeI swo_before 127 efP
    (fun x y W => (before_any x.1 x.2 y.1 y.2 W).mono fun _ _ ⟨h1, h2⟩ => ⟨h1, h2⟩) h hsz
end Go.Proofs.Ytccbbecfmfldbaa
