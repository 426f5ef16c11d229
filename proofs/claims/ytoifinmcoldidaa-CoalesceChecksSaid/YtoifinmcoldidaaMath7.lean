import Derived.Test.YtoifinmcoldidaaMath6
import Derived.Test.YtoifinmcoldidaaMath4
set_option linter.unusedVariables false
namespace Sb

/-! ### the reference's way: marks, runs, the last write to a sector -/
def Wr.ext (w : Wr) : Ext := ⟨w.start, w.data.length⟩
def markedBy (l : List Wr) (v s : Int) : Bool := l.any fun w => decide (w.vol = v) && w.ext.holds s
theorem markedBy_nil (v s : Int) : markedBy [] v s = false := rfl
theorem markedBy_snoc (l : List Wr) (w : Wr) (v s : Int) : markedBy (l ++ [w]) v s = (markedBy l v s || (decide (w.vol = v) && w.ext.holds s)) := by simp [markedBy]
theorem eff_isSome : ∀ (l : List Wr) (v s : Int), (eff l v s).isSome = l.any fun w => (w.at? v s).isSome
  | [], v, s => rfl
  | w :: l, v, s => by
    rw [eff_cons, Option.isSome_or, eff_isSome l v s, List.any_cons, Bool.or_comm]
theorem holds_at (w : Wr) (v s : Int) (h0 : 0 ≤ s) (h1 : s < 4096) : (decide (w.vol = v) && w.ext.holds s) = (w.at? v s).isSome := by
  rw [Bool.eq_iff_iff, at?_isSome, Bool.and_eq_true, Ext.holds_iff]
  simp only [Wr.ext, decide_eq_true_eq]
  constructor
  · intro ⟨a, b, c, _, _⟩; exact ⟨a, b, c⟩
  · intro ⟨a, b, c⟩; exact ⟨a, b, c, h0, h1⟩
theorem marked_eff (l : List Wr) (v : Int) : runsE (markedBy l v) 4096 = runsE (fun s => (eff l v s).isSome) 4096 :=
  runsE_congr fun s h0 h1 => by
    rw [eff_isSome]
    unfold markedBy
    congr 1
    funext w
    exact holds_at w v s h0 (by omega)
/-- What the reference's Fold has behind k volumes. -/
def refK (l : List Wr) (k : Nat) : List Wr := (List.range k).flatMap fun v => pickW (eff l) (v : Nat) (runsE (markedBy l (v : Nat)) 4096)
theorem refK_zero (l : List Wr) : refK l 0 = [] := rfl
theorem refK_succ (l : List Wr) (k : Nat) : refK l (k + 1) = refK l k ++ pickW (eff l) (k : Nat) (runsE (markedBy l (k : Nat)) 4096) := by
  unfold refK; rw [List.range_succ, List.flatMap_append]; simp
theorem refK_all (l : List Wr) : refK l 8 = foldW l := by
  unfold refK foldW canonOf canonV
  congr 1
  funext v
  rw [marked_eff]
theorem pickW_snoc (f : Int → Int → Option Sec) (v : Int) (l : List Ext) {k : Nat} {e : Ext} (h : l[k]? = some e) : pickW f v (l.take (k + 1)) = pickW f v (l.take k) ++ [pick1 f v e] := by
  obtain ⟨hk, rfl⟩ := List.getElem?_eq_some_iff.1 h
  unfold pickW
  rw [List.take_succ_eq_append_getElem hk, List.map_append]
  rfl
/-- one write, its first k sectors -/
def pickD (f : Int → Int → Option Sec) (v : Int) (e : Ext) (k : Nat) : List Sec := (List.range k).map fun k => (f v (e.start + (k : Nat))).getD Sec.zero
theorem pickD_succ (f : Int → Int → Option Sec) (v : Int) (e : Ext) (k : Nat) : pickD f v e (k + 1) = pickD f v e k ++ [(f v (e.start + (k : Nat))).getD Sec.zero] := by
  unfold pickD; rw [List.range_succ]; simp
theorem pickD_len (f : Int → Int → Option Sec) (v : Int) (e : Ext) (k : Nat) : (pickD f v e k).length = k := by simp [pickD]
theorem pick1_eq (f : Int → Int → Option Sec) (v : Int) (e : Ext) : pick1 f v e = ⟨v, e.start, pickD f v e e.count.toNat⟩ := rfl
theorem eff_take {l : List Wr} {k : Nat} {w : Wr} (h : l[k]? = some w) (v s : Int) : eff (l.take (k + 1)) v s = (w.at? v s).or (eff (l.take k) v s) := by
  obtain ⟨hk, rfl⟩ := List.getElem?_eq_some_iff.1 h
  rw [List.take_succ_eq_append_getElem hk, eff_snoc]
end Sb
