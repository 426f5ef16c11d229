import Derived.Test.YtoifinmcoldidaaMath3
import Derived.KernelRfl
set_option linter.unusedVariables false
namespace Sb

/-! ### the examples of chapter 22 -/
def InBox (v s : Int) : Prop := 0 ≤ v ∧ v < 2 ∧ 0 ≤ s ∧ s < 10
theorem box_eq {f g : Int → Int → Option Sec} (hf : ∀ v s, ¬ InBox v s → f v s = none) (hg : ∀ v s, ¬ InBox v s → g v s = none)
    (h : ((List.range 2).all fun v => (List.range 10).all fun s => decide (f (v : Nat) (s : Nat) = g (v : Nat) (s : Nat))) = true) (v s : Int) : f v s = g v s := by
  by_cases hb : InBox v s
  · obtain ⟨h1, h2, h3, h4⟩ := hb
    obtain ⟨a, rfl⟩ := Int.eq_ofNat_of_zero_le h1
    obtain ⟨b, rfl⟩ := Int.eq_ofNat_of_zero_le h3
    have := (List.all_eq_true.1 ((List.all_eq_true.1 h) a (List.mem_range.2 (by omega)))) b (List.mem_range.2 (by omega))
    exact of_decide_eq_true this
  · rw [hf v s hb, hg v s hb]
def boxed (l : List Wr) : Bool := l.all fun w => decide (0 ≤ w.vol ∧ w.vol < 2 ∧ 0 ≤ w.start ∧ w.start + w.data.length ≤ 10)
theorem eff_box : ∀ {l : List Wr}, boxed l = true → ∀ v s, ¬ InBox v s → eff l v s = none
  | [], _, _, _, _ => rfl
  | w :: l, h, v, s, hh => by
    unfold boxed at h
    rw [List.all_cons, Bool.and_eq_true] at h
    have h1 := of_decide_eq_true h.1
    rw [eff_cons, eff_box h.2 v s hh, at?_none_of (fun e => hh ⟨by omega, by omega, by omega, by omega⟩)]
    rfl
theorem canonOf_small {f : Int → Int → Option Sec} {c : List Wr} (hc : Canon c) (hb : boxed c = true) (hf : ∀ v s, ¬ InBox v s → f v s = none)
    (h : ((List.range 2).all fun v => (List.range 10).all fun s => decide (eff c (v : Nat) (s : Nat) = f (v : Nat) (s : Nat))) = true) : canonOf f = c :=
  (canonOf_eq (fun v s hh => hf v s (fun e => hh ⟨by have := e.1; omega, by have := e.2.1; omega, by have := e.2.2.1; omega, by have := e.2.2.2; omega⟩)) hc (box_eq (eff_box hb) hf h)).symm
def s1 (b : Int) : Sec := ⟨b, 0, 0, 0, 0, 0, 0, 0⟩
def exA : List Wr := [⟨0, 2, [s1 1, s1 2]⟩, ⟨0, 3, [s1 3]⟩, ⟨0, 4, [s1 4]⟩]
def exA' : List Wr := [⟨0, 2, [s1 1, s1 3, s1 4]⟩]
def exB : List Wr := [⟨1, 5, [s1 1]⟩, ⟨0, 0, [s1 2]⟩, ⟨0, 2, [s1 3]⟩]
def exB' : List Wr := [⟨0, 0, [s1 2]⟩, ⟨0, 2, [s1 3]⟩, ⟨1, 5, [s1 1]⟩]
def exC1 : List Wr := [⟨0, 2, [s1 1, s1 2]⟩]
def exC2 : List Wr := [⟨0, 1, [s1 3]⟩]
def exC' : List Wr := [⟨0, 1, [s1 3, s1 1, s1 2]⟩]
def exD' : List Wr := [⟨0, 2, [s1 1]⟩]
theorem exA_fold : foldW exA = exA' := canonOf_small ⟨by simp [exA'], by simp [exA']⟩ (by kernel_rfl) (eff_box (by kernel_rfl)) (by kernel_rfl)
theorem exB_fold : foldW exB = exB' := canonOf_small ⟨by simp [exB'], by simp [exB', Behind]⟩ (by kernel_rfl) (eff_box (by kernel_rfl)) (by kernel_rfl)
theorem exC_fold : foldW (exC1 ++ exC2) = exC' := canonOf_small ⟨by simp [exC'], by simp [exC']⟩ (by kernel_rfl) (eff_box (by kernel_rfl)) (by kernel_rfl)
end Sb
