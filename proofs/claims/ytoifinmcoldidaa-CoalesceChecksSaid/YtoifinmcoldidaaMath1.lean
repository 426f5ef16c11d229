set_option linter.unusedVariables false
namespace Sb

/-- The content of a sector: eight bytes. -/
structure Sec where
  (b0 b1 b2 b3 b4 b5 b6 b7 : Int)
deriving DecidableEq
def Sec.zero : Sec := ⟨0, 0, 0, 0, 0, 0, 0, 0⟩
structure Wr where
  vol : Int
  start : Int
  data : List Sec
deriving DecidableEq
structure Ext where
  start : Int
  count : Int
deriving DecidableEq

/-! ### extents -/
def Ext.has (e : Ext) (s : Int) : Bool := decide (e.start ≤ s) && decide (s < e.start + e.count)
def mem (l : List Ext) (s : Int) : Bool := l.any (·.has s)
theorem Ext.has_iff {e : Ext} {s : Int} : e.has s = true ↔ e.start ≤ s ∧ s < e.start + e.count := by simp [Ext.has]
theorem mem_nil (s : Int) : mem [] s = false := rfl
theorem mem_cons (e : Ext) (l : List Ext) (s : Int) : mem (e :: l) s = (e.has s || mem l s) := rfl
theorem mem_append (a b : List Ext) (s : Int) : mem (a ++ b) s = (mem a s || mem b s) := by simp [mem]

/-- A canonical list whose extents begin at lo or behind it. -/
def CanonE : Int → List Ext → Prop
  | _, [] => True
  | lo, e :: l => lo ≤ e.start ∧ 0 < e.count ∧ CanonE (e.start + e.count + 1) l

theorem CanonE.mono {lo lo' : Int} : ∀ {l : List Ext}, CanonE lo l → lo' ≤ lo → CanonE lo' l
  | [], _, _ => trivial
  | _ :: _, ⟨h1, h2, h3⟩, h => ⟨Int.le_trans h h1, h2, h3⟩

theorem CanonE.below {lo : Int} : ∀ {l : List Ext}, CanonE lo l → ∀ s, s < lo → mem l s = false
  | [], _, _, _ => rfl
  | e :: l, ⟨h1, h2, h3⟩, s, h => by
    rw [mem_cons, h3.below s (by omega)]
    simp [Ext.has]; omega

theorem canonE_unique : ∀ {lo : Int} {l l' : List Ext}, CanonE lo l → CanonE lo l' → (∀ s, mem l s = mem l' s) → l = l'
  | _, [], [], _, _, _ => rfl
  | _, [], e :: l, _, ⟨h1, h2, h3⟩, h => by
    have := h e.start
    rw [mem_nil, mem_cons] at this
    have he : e.has e.start = true := Ext.has_iff.2 ⟨by omega, by omega⟩
    simp [he] at this
  | _, e :: l, [], ⟨h1, h2, h3⟩, _, h => by
    have := h e.start
    rw [mem_nil, mem_cons] at this
    have he : e.has e.start = true := Ext.has_iff.2 ⟨by omega, by omega⟩
    simp [he] at this
  | lo, e :: l, e' :: l', ⟨h1, h2, h3⟩, ⟨h1', h2', h3'⟩, h => by
    have key : ∀ {e e' : Ext} {l l' : List Ext}, 0 < e.count → CanonE (e.start + e.count + 1) l → 0 < e'.count → CanonE (e'.start + e'.count + 1) l' → (∀ s, mem (e :: l) s = mem (e' :: l') s) → e'.start ≤ e.start ∧ (e.start = e'.start → e'.start + e'.count ≤ e.start + e.count) := by
      intro e e' l l' h2 h3 h2' h3' h
      constructor
      · refine Int.not_lt.1 fun hlt => ?_
        have := h e.start
        rw [mem_cons, mem_cons, h3'.below e.start (by omega)] at this
        have he : e.has e.start = true := Ext.has_iff.2 ⟨by omega, by omega⟩
        have he' : e'.has e.start = false := by simp [Ext.has]; omega
        simp [he, he'] at this
      · intro hs
        refine Int.not_lt.1 fun hlt => ?_
        have := h (e.start + e.count)
        rw [mem_cons, mem_cons, h3.below (e.start + e.count) (by omega)] at this
        have he : e.has (e.start + e.count) = false := by simp [Ext.has]
        have he' : e'.has (e.start + e.count) = true := Ext.has_iff.2 ⟨by omega, by omega⟩
        simp [he, he'] at this
    have k1 := key h2 h3 h2' h3' h
    have k2 := key h2' h3' h2 h3 (fun s => (h s).symm)
    have hs : e.start = e'.start := by omega
    have hc : e.count = e'.count := by have a := k1.2 hs; have b := k2.2 hs.symm; omega
    have hee : e = e' := by cases e; cases e'; simp_all
    subst hee
    refine congrArg (e :: ·) (canonE_unique h3 h3' fun s => ?_)
    have := h s
    rw [mem_cons, mem_cons] at this
    cases hb : e.has s with
    | false => simpa [hb] using this
    | true =>
      have hb' := Ext.has_iff.1 hb
      rw [h3.below s (by omega), h3'.below s (by omega)]

/-- The last extent gets one sector more. -/
def bump : List Ext → List Ext
  | [] => []
  | [e] => [⟨e.start, e.count + 1⟩]
  | e :: e' :: l => e :: bump (e' :: l)

/-- The canonical list of those of the sectors 0 to n - 1 that satisfy p. -/
def runsE (p : Int → Bool) : Nat → List Ext
  | 0 => []
  | n + 1 => if p n then (if n ≠ 0 ∧ p ((n : Int) - 1) = true then bump (runsE p n) else runsE p n ++ [⟨n, 1⟩]) else runsE p n

/-- All of a list ends at or ahead of hi. -/
def EndsBy (hi : Int) (l : List Ext) : Prop := ∀ e ∈ l, e.start + e.count ≤ hi

theorem CanonE.snoc : ∀ {lo : Int} {l : List Ext} {e : Ext}, CanonE lo l → lo ≤ e.start → 0 < e.count → (∀ x ∈ l, x.start + x.count < e.start) → CanonE lo (l ++ [e])
  | _, [], e, _, h1, h2, _ => ⟨h1, h2, trivial⟩
  | _, x :: l, e, ⟨h1, h2, h3⟩, _, h5, h6 => ⟨h1, h2, h3.snoc (by have := h6 x (by simp); omega) h5 (fun y hy => h6 y (by simp [hy]))⟩

theorem bump_snoc (e : Ext) : ∀ l : List Ext, bump (l ++ [e]) = l ++ [⟨e.start, e.count + 1⟩]
  | [] => rfl
  | [x] => rfl
  | x :: y :: l => by
    have := bump_snoc e (y :: l)
    simp only [List.cons_append] at this ⊢
    rw [bump, this]

theorem CanonE.init : ∀ {lo : Int} {l : List Ext} {e : Ext}, CanonE lo (l ++ [e]) → CanonE lo l ∧ lo ≤ e.start ∧ 0 < e.count ∧ ∀ x ∈ l, x.start + x.count < e.start
  | _, [], e, ⟨h1, h2, _⟩ => ⟨trivial, h1, h2, by simp⟩
  | _, x :: l, e, ⟨h1, h2, h3⟩ => by
    obtain ⟨a, b, c, d⟩ := h3.init
    refine ⟨⟨h1, h2, a⟩, by omega, c, fun y hy => ?_⟩
    rcases List.mem_cons.1 hy with rfl | hy
    · omega
    · exact d y hy

/-- What is known of runsE. -/
structure RunsE (p : Int → Bool) (n : Nat) (l : List Ext) : Prop where
  canon : CanonE 0 l
  mem : ∀ s, mem l s = (decide (0 ≤ s) && decide (s < n) && p s)
  ends : EndsBy n l
  last : n ≠ 0 → p ((n : Int) - 1) = true → ∃ (l' : List Ext) (e : Ext), l = l' ++ [e] ∧ e.start + e.count = (n : Int)
  open_ : (n = 0 ∨ p ((n : Int) - 1) = false) → ∀ e ∈ l, e.start + e.count < (n : Int)

theorem runsE_spec (p : Int → Bool) : ∀ n, RunsE p n (runsE p n)
  | 0 => ⟨trivial, fun s => by simp [runsE, Sb.mem]; omega, by simp [EndsBy, runsE], by simp, by simp [runsE]⟩
  | n + 1 => by
    have ih := runsE_spec p n
    unfold runsE
    by_cases hp : p n = true
    · rw [if_pos hp]
      by_cases hn : n ≠ 0 ∧ p ((n : Int) - 1) = true
      · rw [if_pos hn]
        obtain ⟨l', e, hl, he⟩ := ih.last hn.1 hn.2
        rw [hl, bump_snoc]
        rw [hl] at ih
        obtain ⟨c1, c2, c3, c4⟩ := ih.canon.init
        refine ⟨c1.snoc c2 (by simp; omega) c4, fun s => ?_, ?_, fun _ _ => ⟨_, _, rfl, by simp; omega⟩, fun h => ?_⟩
        · have := ih.mem s
          simp only [mem_append, mem_cons, mem_nil, Bool.or_false] at this ⊢
          by_cases hs : s = n
          · subst hs
            have : Ext.has ⟨e.start, e.count + 1⟩ n = true := Ext.has_iff.2 ⟨by simp; omega, by simp; omega⟩
            simp [this, hp]; omega
          · have hh : Ext.has ⟨e.start, e.count + 1⟩ s = e.has s := by
              rw [Bool.eq_iff_iff, Ext.has_iff, Ext.has_iff]; simp only; omega
            rw [hh, this]
            have : decide (s < ((n + 1 : Nat) : Int)) = decide (s < n) := by rw [Bool.eq_iff_iff]; simp; omega
            rw [this]
        · intro x hx
          rcases List.mem_append.1 hx with hx | hx
          · have := c4 x hx; omega
          · obtain rfl := List.mem_singleton.1 hx
            simp; omega
        · rcases h with h | h
          · omega
          · have : (((n + 1 : Nat) : Int) - 1) = n := by omega
            rw [this, hp] at h; cases h
      · rw [if_neg hn]
        have ho := ih.open_ (by
          by_cases h0 : n = 0
          · exact .inl h0
          · right
            cases hq : p ((n : Int) - 1)
            · rfl
            · exact absurd ⟨h0, hq⟩ hn)
        refine ⟨ih.canon.snoc (by simp) (by simp) (fun x hx => by simpa using ho x hx), fun s => ?_, ?_, fun _ _ => ⟨_, _, rfl, by simp⟩, fun h => ?_⟩
        · have := ih.mem s
          simp only [mem_append, mem_cons, mem_nil, Bool.or_false] at this ⊢
          rw [this]
          by_cases hs : s = n
          · subst hs
            have : Ext.has ⟨(n : Int), 1⟩ n = true := Ext.has_iff.2 ⟨by simp, by simp; omega⟩
            simp [this, hp]; omega
          · have hh : Ext.has ⟨(n : Int), 1⟩ s = false := by simp [Ext.has]; omega
            rw [hh]
            have : decide (s < ((n + 1 : Nat) : Int)) = decide (s < n) := by rw [Bool.eq_iff_iff]; simp; omega
            rw [this]; simp
        · intro x hx
          rcases List.mem_append.1 hx with hx | hx
          · have := ih.ends x hx; omega
          · obtain rfl := List.mem_singleton.1 hx
            simp
        · rcases h with h | h
          · omega
          · have : (((n + 1 : Nat) : Int) - 1) = n := by omega
            rw [this, hp] at h; cases h
    · rw [if_neg hp]
      have hpf : p n = false := by simpa using hp
      refine ⟨ih.canon, fun s => ?_, fun x hx => by have := ih.ends x hx; omega, fun _ h => ?_, fun _ x hx => by have := ih.ends x hx; omega⟩
      · rw [ih.mem s]
        by_cases hs : s = n
        · subst hs; simp [hpf]
        · have : decide (s < ((n + 1 : Nat) : Int)) = decide (s < n) := by rw [Bool.eq_iff_iff]; simp; omega
          rw [this]
      · have : (((n + 1 : Nat) : Int) - 1) = n := by omega
        rw [this, hpf] at h; cases h

/-- WHATEVER IS CANONICAL AND HAS THE SAME SECTORS IS runsE. -/
theorem runsE_eq {p : Int → Bool} {n : Nat} {l : List Ext} (hc : CanonE 0 l) (hm : ∀ s, mem l s = (decide (0 ≤ s) && decide (s < n) && p s)) : l = runsE p n :=
  canonE_unique hc (runsE_spec p n).canon fun s => (hm s).trans ((runsE_spec p n).mem s).symm

theorem runsE_congr {p q : Int → Bool} {n : Nat} (h : ∀ s : Int, 0 ≤ s → s < n → p s = q s) : runsE p n = runsE q n := by
  refine runsE_eq (runsE_spec p n).canon fun s => ?_
  rw [(runsE_spec p n).mem s]
  by_cases h0 : 0 ≤ s <;> by_cases h1 : s < n <;> simp [h0, h1]
  exact h s h0 h1
end Sb
