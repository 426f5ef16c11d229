/-
  No cell of these rows narrows 'for every input' (looked for: loops, veiled, ifaces, maps, wideKeys, modest, calm, conditions, laid).
  DERIVED. THE GIVEN ROWS OF THIS SEAT. 9 by the template 'for every input the law returns true; each argument reads behind the call as it read before'; 0 by the template 'total and deterministic' (their statements: YtoifinmcoldidaaTotals.lean).
  GIVEN WITH THE SEED: the statements are not yours to turn. If you find one false, say at which input.
  Laid BY PROGRAM, IN A SANDBOX (cutbox-rows.mjs): the forced cells as the released guide's own fill.sh prints them over the translation 5c7bd4f1bc559fc8… (all of the seat's roots in one cut). By AI agents, Wed Nov 11 2026. No macro, syntax, notation, axiom, sorry.
-/
import Derived.Test.YtoifinmcoldidaaChecked
import GoSem.Claim
import GoSem.ClaimJoined
import GoSem.ClaimMapViews
import Derived.JoinedTies
import Derived.KernelRfl
namespace Go.Proofs.Ytoifinmcoldidaa
/- THE CELL 'sum', in the pinned program and in every row, IS THE sha256 OF THE DUMP (.gsa) THAT YtoifinmcoldidaaProg.lean LOADS. Nothing in Lean hashes anything: it is a label: what it is worth is what the hold of that sum in a sandbox is worth. -/
noncomputable def Try.pinned : Pinned := { name := "ytoifinmcoldidaa", sum := "5c7bd4f1bc559fc8ce2aded1f7e4f4e56efdf7fb0855ce1b3a44e6146e0ea6b9", checked := Try.checked }
namespace Rows
def none {H : Type} : Left H := { results := [], args := [] }

/-- 'standbylaw22.CoalesceFolds': WHATEVER THE INPUT: true; the input reads as it did. -/
def coalesceFoldsSpec : ChangeSpec := { name := "coalesceFolds", fn := fun _ => fun
  | [d] => { results := [.lit (.bool true)], args := [d] }
  | _ => none }
def coalesceFoldsRow : OpenClaim := { program := "ytoifinmcoldidaa", sum := "5c7bd4f1bc559fc8ce2aded1f7e4f4e56efdf7fb0855ce1b3a44e6146e0ea6b9", func := "standby/standbylaw22.CoalesceFolds", spec := "coalesceFolds", unfollowed := true, recurses := true, plainKeys := false, apart := false }
def CoalesceFoldsSaid : Prop := coalesceFoldsRow.holds Try.pinned (OpenSpec.ofChange coalesceFoldsSpec)

/-- ITS FALSE NEIGHBOUR: 'it returns false'. Refute it at one input. -/
def coalesceFoldsWrong : ChangeSpec := { name := "coalesceFolds", fn := fun _ => fun
  | [d] => { results := [.lit (.bool false)], args := [d] }
  | _ => none }
def CoalesceFoldsWrongFalsely : Prop := coalesceFoldsRow.holds Try.pinned (OpenSpec.ofChange coalesceFoldsWrong)

/-- 'standbylaw22.CoalesceMerges': WHATEVER THE INPUT: true; the input reads as it did. -/
def coalesceMergesSpec : ChangeSpec := { name := "coalesceMerges", fn := fun _ => fun
  | [d1, d2] => { results := [.lit (.bool true)], args := [d1, d2] }
  | _ => none }
def coalesceMergesRow : OpenClaim := { program := "ytoifinmcoldidaa", sum := "5c7bd4f1bc559fc8ce2aded1f7e4f4e56efdf7fb0855ce1b3a44e6146e0ea6b9", func := "standby/standbylaw22.CoalesceMerges", spec := "coalesceMerges", unfollowed := true, recurses := true, plainKeys := false, apart := false }
def CoalesceMergesSaid : Prop := coalesceMergesRow.holds Try.pinned (OpenSpec.ofChange coalesceMergesSpec)

/-- ITS FALSE NEIGHBOUR: 'it returns false'. Refute it at one input. -/
def coalesceMergesWrong : ChangeSpec := { name := "coalesceMerges", fn := fun _ => fun
  | [d1, d2] => { results := [.lit (.bool false)], args := [d1, d2] }
  | _ => none }
def CoalesceMergesWrongFalsely : Prop := coalesceMergesRow.holds Try.pinned (OpenSpec.ofChange coalesceMergesWrong)

/-- 'standbylaw22.CoalesceExchanges': WHATEVER THE INPUT: true; the input reads as it did. -/
def coalesceExchangesSpec : ChangeSpec := { name := "coalesceExchanges", fn := fun _ => fun
  | [d1, d2] => { results := [.lit (.bool true)], args := [d1, d2] }
  | _ => none }
def coalesceExchangesRow : OpenClaim := { program := "ytoifinmcoldidaa", sum := "5c7bd4f1bc559fc8ce2aded1f7e4f4e56efdf7fb0855ce1b3a44e6146e0ea6b9", func := "standby/standbylaw22.CoalesceExchanges", spec := "coalesceExchanges", unfollowed := true, recurses := true, plainKeys := false, apart := false }
def CoalesceExchangesSaid : Prop := coalesceExchangesRow.holds Try.pinned (OpenSpec.ofChange coalesceExchangesSpec)

/-- ITS FALSE NEIGHBOUR: 'it returns false'. Refute it at one input. -/
def coalesceExchangesWrong : ChangeSpec := { name := "coalesceExchanges", fn := fun _ => fun
  | [d1, d2] => { results := [.lit (.bool false)], args := [d1, d2] }
  | _ => none }
def CoalesceExchangesWrongFalsely : Prop := coalesceExchangesRow.holds Try.pinned (OpenSpec.ofChange coalesceExchangesWrong)

/-- 'standbylaw22.CoalesceAssociates': WHATEVER THE INPUT: true; the input reads as it did. -/
def coalesceAssociatesSpec : ChangeSpec := { name := "coalesceAssociates", fn := fun _ => fun
  | [d1, d2, d3] => { results := [.lit (.bool true)], args := [d1, d2, d3] }
  | _ => none }
def coalesceAssociatesRow : OpenClaim := { program := "ytoifinmcoldidaa", sum := "5c7bd4f1bc559fc8ce2aded1f7e4f4e56efdf7fb0855ce1b3a44e6146e0ea6b9", func := "standby/standbylaw22.CoalesceAssociates", spec := "coalesceAssociates", unfollowed := true, recurses := true, plainKeys := false, apart := false }
def CoalesceAssociatesSaid : Prop := coalesceAssociatesRow.holds Try.pinned (OpenSpec.ofChange coalesceAssociatesSpec)

/-- ITS FALSE NEIGHBOUR: 'it returns false'. Refute it at one input. -/
def coalesceAssociatesWrong : ChangeSpec := { name := "coalesceAssociates", fn := fun _ => fun
  | [d1, d2, d3] => { results := [.lit (.bool false)], args := [d1, d2, d3] }
  | _ => none }
def CoalesceAssociatesWrongFalsely : Prop := coalesceAssociatesRow.holds Try.pinned (OpenSpec.ofChange coalesceAssociatesWrong)

/-- 'standbylaw22.CoalesceChecks': WHATEVER THE INPUT: true; the input reads as it did. -/
def coalesceChecksSpec : ChangeSpec := { name := "coalesceChecks", fn := fun _ => fun
  | [d1, d2] => { results := [.lit (.bool true)], args := [d1, d2] }
  | _ => none }
def coalesceChecksRow : OpenClaim := { program := "ytoifinmcoldidaa", sum := "5c7bd4f1bc559fc8ce2aded1f7e4f4e56efdf7fb0855ce1b3a44e6146e0ea6b9", func := "standby/standbylaw22.CoalesceChecks", spec := "coalesceChecks", unfollowed := true, recurses := true, plainKeys := false, apart := false }
def CoalesceChecksSaid : Prop := coalesceChecksRow.holds Try.pinned (OpenSpec.ofChange coalesceChecksSpec)

/-- ITS FALSE NEIGHBOUR: 'it returns false'. Refute it at one input. -/
def coalesceChecksWrong : ChangeSpec := { name := "coalesceChecks", fn := fun _ => fun
  | [d1, d2] => { results := [.lit (.bool false)], args := [d1, d2] }
  | _ => none }
def CoalesceChecksWrongFalsely : Prop := coalesceChecksRow.holds Try.pinned (OpenSpec.ofChange coalesceChecksWrong)

/-- 'standbylaw22.CoalesceDivides': WHATEVER THE INPUT: true; the input reads as it did. -/
def coalesceDividesSpec : ChangeSpec := { name := "coalesceDivides", fn := fun _ => fun
  | [d1, d2] => { results := [.lit (.bool true)], args := [d1, d2] }
  | _ => none }
def coalesceDividesRow : OpenClaim := { program := "ytoifinmcoldidaa", sum := "5c7bd4f1bc559fc8ce2aded1f7e4f4e56efdf7fb0855ce1b3a44e6146e0ea6b9", func := "standby/standbylaw22.CoalesceDivides", spec := "coalesceDivides", unfollowed := true, recurses := true, plainKeys := false, apart := false }
def CoalesceDividesSaid : Prop := coalesceDividesRow.holds Try.pinned (OpenSpec.ofChange coalesceDividesSpec)

/-- ITS FALSE NEIGHBOUR: 'it returns false'. Refute it at one input. -/
def coalesceDividesWrong : ChangeSpec := { name := "coalesceDivides", fn := fun _ => fun
  | [d1, d2] => { results := [.lit (.bool false)], args := [d1, d2] }
  | _ => none }
def CoalesceDividesWrongFalsely : Prop := coalesceDividesRow.holds Try.pinned (OpenSpec.ofChange coalesceDividesWrong)

/-- 'standbylaw22.CoalesceSelects': WHATEVER THE INPUT: true; the input reads as it did. -/
def coalesceSelectsSpec : ChangeSpec := { name := "coalesceSelects", fn := fun _ => fun
  | [d1, d2] => { results := [.lit (.bool true)], args := [d1, d2] }
  | _ => none }
def coalesceSelectsRow : OpenClaim := { program := "ytoifinmcoldidaa", sum := "5c7bd4f1bc559fc8ce2aded1f7e4f4e56efdf7fb0855ce1b3a44e6146e0ea6b9", func := "standby/standbylaw22.CoalesceSelects", spec := "coalesceSelects", unfollowed := true, recurses := true, plainKeys := false, apart := false }
def CoalesceSelectsSaid : Prop := coalesceSelectsRow.holds Try.pinned (OpenSpec.ofChange coalesceSelectsSpec)

/-- ITS FALSE NEIGHBOUR: 'it returns false'. Refute it at one input. -/
def coalesceSelectsWrong : ChangeSpec := { name := "coalesceSelects", fn := fun _ => fun
  | [d1, d2] => { results := [.lit (.bool false)], args := [d1, d2] }
  | _ => none }
def CoalesceSelectsWrongFalsely : Prop := coalesceSelectsRow.holds Try.pinned (OpenSpec.ofChange coalesceSelectsWrong)

/-- 'standbylaw22.CoalesceFinds': WHATEVER THE INPUT: true; the input reads as it did. -/
def coalesceFindsSpec : ChangeSpec := { name := "coalesceFinds", fn := fun _ => fun
  | [d1, d2] => { results := [.lit (.bool true)], args := [d1, d2] }
  | _ => none }
def coalesceFindsRow : OpenClaim := { program := "ytoifinmcoldidaa", sum := "5c7bd4f1bc559fc8ce2aded1f7e4f4e56efdf7fb0855ce1b3a44e6146e0ea6b9", func := "standby/standbylaw22.CoalesceFinds", spec := "coalesceFinds", unfollowed := true, recurses := true, plainKeys := false, apart := false }
def CoalesceFindsSaid : Prop := coalesceFindsRow.holds Try.pinned (OpenSpec.ofChange coalesceFindsSpec)

/-- ITS FALSE NEIGHBOUR: 'it returns false'. Refute it at one input. -/
def coalesceFindsWrong : ChangeSpec := { name := "coalesceFinds", fn := fun _ => fun
  | [d1, d2] => { results := [.lit (.bool false)], args := [d1, d2] }
  | _ => none }
def CoalesceFindsWrongFalsely : Prop := coalesceFindsRow.holds Try.pinned (OpenSpec.ofChange coalesceFindsWrong)

/-- 'standbylaw22.CoalesceChanges': WHATEVER THE INPUT: true; the input reads as it did. -/
def coalesceChangesSpec : ChangeSpec := { name := "coalesceChanges", fn := fun _ => fun
  | [d1, d2] => { results := [.lit (.bool true)], args := [d1, d2] }
  | _ => none }
def coalesceChangesRow : OpenClaim := { program := "ytoifinmcoldidaa", sum := "5c7bd4f1bc559fc8ce2aded1f7e4f4e56efdf7fb0855ce1b3a44e6146e0ea6b9", func := "standby/standbylaw22.CoalesceChanges", spec := "coalesceChanges", unfollowed := true, recurses := true, plainKeys := false, apart := false }
def CoalesceChangesSaid : Prop := coalesceChangesRow.holds Try.pinned (OpenSpec.ofChange coalesceChangesSpec)

/-- ITS FALSE NEIGHBOUR: 'it returns false'. Refute it at one input. -/
def coalesceChangesWrong : ChangeSpec := { name := "coalesceChanges", fn := fun _ => fun
  | [d1, d2] => { results := [.lit (.bool false)], args := [d1, d2] }
  | _ => none }
def CoalesceChangesWrongFalsely : Prop := coalesceChangesRow.holds Try.pinned (OpenSpec.ofChange coalesceChangesWrong)

/- THE SECOND FORM. 'bulk': how many values and letters a reading holds, each counted each time it is reached (what is shared counts as often as it is met; a slice's spare places count too). A statement '..UptoSaid' is the law's where the arguments, and the package variables that the reading takes, are together of bulk at most 1048576: NARROWER than '..Said'. Prove '..Said' where nothing that the law and all that it calls make is longer than what came in: it says more and counts as full. Else prove '..UptoSaid'. A law counts once. -/
mutual
def uptoBulk {H : Type} : DataW H → Nat
  | .lit (.string bytes) => bytes.length + 1
  | .lit _ => 1
  | .nil => 1
  | .ptr d => uptoBulk d + 1
  | .slice elems spare => uptoBulkAll elems + uptoBulkAll spare + 1
  | .agg parts => uptoBulkAll parts + 1
  | .iface _ d => uptoBulk d + 1
  | .map entries => uptoBulkEntries entries + 1
  | .held _ => 1
def uptoBulkAll {H : Type} : List (DataW H) → Nat
  | [] => 0
  | d :: r => uptoBulk d + uptoBulkAll r
def uptoBulkEntries {H : Type} : List (Lit × DataW H) → Nat
  | [] => 0
  | x :: r => uptoBulkEntry x + uptoBulkEntries r
def uptoBulkEntry {H : Type} : Lit × DataW H → Nat
  | (.string bytes, d) => bytes.length + uptoBulk d + 1
  | (_, d) => uptoBulk d + 1
 end
def uptoSmall : (H : Type) → List (DataW H) → Bool := fun _ ds => decide (uptoBulkAll ds ≤ 1048576)
def OpenSpec.upto (s : _root_.Go.ChangeSpec) : _root_.Go.OpenSpec := { _root_.Go.OpenSpec.ofChange s with cond := some uptoSmall }

/-- 'standbylaw22.CoalesceFolds', WHERE WHAT IT READS IS OF BULK AT MOST 1048576: true; the input reads as it did. -/
def coalesceFoldsUptoRow : OpenClaim := { program := "ytoifinmcoldidaa", sum := "5c7bd4f1bc559fc8ce2aded1f7e4f4e56efdf7fb0855ce1b3a44e6146e0ea6b9", func := "standby/standbylaw22.CoalesceFolds", spec := "coalesceFolds", unfollowed := true, recurses := true, plainKeys := false, apart := false, narrowed := true }
def CoalesceFoldsUptoSaid : Prop := coalesceFoldsUptoRow.holds Try.pinned (OpenSpec.upto coalesceFoldsSpec)

/-- 'standbylaw22.CoalesceMerges', WHERE WHAT IT READS IS OF BULK AT MOST 1048576: true; the input reads as it did. -/
def coalesceMergesUptoRow : OpenClaim := { program := "ytoifinmcoldidaa", sum := "5c7bd4f1bc559fc8ce2aded1f7e4f4e56efdf7fb0855ce1b3a44e6146e0ea6b9", func := "standby/standbylaw22.CoalesceMerges", spec := "coalesceMerges", unfollowed := true, recurses := true, plainKeys := false, apart := false, narrowed := true }
def CoalesceMergesUptoSaid : Prop := coalesceMergesUptoRow.holds Try.pinned (OpenSpec.upto coalesceMergesSpec)

/-- 'standbylaw22.CoalesceExchanges', WHERE WHAT IT READS IS OF BULK AT MOST 1048576: true; the input reads as it did. -/
def coalesceExchangesUptoRow : OpenClaim := { program := "ytoifinmcoldidaa", sum := "5c7bd4f1bc559fc8ce2aded1f7e4f4e56efdf7fb0855ce1b3a44e6146e0ea6b9", func := "standby/standbylaw22.CoalesceExchanges", spec := "coalesceExchanges", unfollowed := true, recurses := true, plainKeys := false, apart := false, narrowed := true }
def CoalesceExchangesUptoSaid : Prop := coalesceExchangesUptoRow.holds Try.pinned (OpenSpec.upto coalesceExchangesSpec)

/-- 'standbylaw22.CoalesceAssociates', WHERE WHAT IT READS IS OF BULK AT MOST 1048576: true; the input reads as it did. -/
def coalesceAssociatesUptoRow : OpenClaim := { program := "ytoifinmcoldidaa", sum := "5c7bd4f1bc559fc8ce2aded1f7e4f4e56efdf7fb0855ce1b3a44e6146e0ea6b9", func := "standby/standbylaw22.CoalesceAssociates", spec := "coalesceAssociates", unfollowed := true, recurses := true, plainKeys := false, apart := false, narrowed := true }
def CoalesceAssociatesUptoSaid : Prop := coalesceAssociatesUptoRow.holds Try.pinned (OpenSpec.upto coalesceAssociatesSpec)

/-- 'standbylaw22.CoalesceChecks', WHERE WHAT IT READS IS OF BULK AT MOST 1048576: true; the input reads as it did. -/
def coalesceChecksUptoRow : OpenClaim := { program := "ytoifinmcoldidaa", sum := "5c7bd4f1bc559fc8ce2aded1f7e4f4e56efdf7fb0855ce1b3a44e6146e0ea6b9", func := "standby/standbylaw22.CoalesceChecks", spec := "coalesceChecks", unfollowed := true, recurses := true, plainKeys := false, apart := false, narrowed := true }
def CoalesceChecksUptoSaid : Prop := coalesceChecksUptoRow.holds Try.pinned (OpenSpec.upto coalesceChecksSpec)

/-- 'standbylaw22.CoalesceDivides', WHERE WHAT IT READS IS OF BULK AT MOST 1048576: true; the input reads as it did. -/
def coalesceDividesUptoRow : OpenClaim := { program := "ytoifinmcoldidaa", sum := "5c7bd4f1bc559fc8ce2aded1f7e4f4e56efdf7fb0855ce1b3a44e6146e0ea6b9", func := "standby/standbylaw22.CoalesceDivides", spec := "coalesceDivides", unfollowed := true, recurses := true, plainKeys := false, apart := false, narrowed := true }
def CoalesceDividesUptoSaid : Prop := coalesceDividesUptoRow.holds Try.pinned (OpenSpec.upto coalesceDividesSpec)

/-- 'standbylaw22.CoalesceSelects', WHERE WHAT IT READS IS OF BULK AT MOST 1048576: true; the input reads as it did. -/
def coalesceSelectsUptoRow : OpenClaim := { program := "ytoifinmcoldidaa", sum := "5c7bd4f1bc559fc8ce2aded1f7e4f4e56efdf7fb0855ce1b3a44e6146e0ea6b9", func := "standby/standbylaw22.CoalesceSelects", spec := "coalesceSelects", unfollowed := true, recurses := true, plainKeys := false, apart := false, narrowed := true }
def CoalesceSelectsUptoSaid : Prop := coalesceSelectsUptoRow.holds Try.pinned (OpenSpec.upto coalesceSelectsSpec)

/-- 'standbylaw22.CoalesceFinds', WHERE WHAT IT READS IS OF BULK AT MOST 1048576: true; the input reads as it did. -/
def coalesceFindsUptoRow : OpenClaim := { program := "ytoifinmcoldidaa", sum := "5c7bd4f1bc559fc8ce2aded1f7e4f4e56efdf7fb0855ce1b3a44e6146e0ea6b9", func := "standby/standbylaw22.CoalesceFinds", spec := "coalesceFinds", unfollowed := true, recurses := true, plainKeys := false, apart := false, narrowed := true }
def CoalesceFindsUptoSaid : Prop := coalesceFindsUptoRow.holds Try.pinned (OpenSpec.upto coalesceFindsSpec)

/-- 'standbylaw22.CoalesceChanges', WHERE WHAT IT READS IS OF BULK AT MOST 1048576: true; the input reads as it did. -/
def coalesceChangesUptoRow : OpenClaim := { program := "ytoifinmcoldidaa", sum := "5c7bd4f1bc559fc8ce2aded1f7e4f4e56efdf7fb0855ce1b3a44e6146e0ea6b9", func := "standby/standbylaw22.CoalesceChanges", spec := "coalesceChanges", unfollowed := true, recurses := true, plainKeys := false, apart := false, narrowed := true }
def CoalesceChangesUptoSaid : Prop := coalesceChangesUptoRow.holds Try.pinned (OpenSpec.upto coalesceChangesSpec)

end Rows
end Go.Proofs.Ytoifinmcoldidaa
