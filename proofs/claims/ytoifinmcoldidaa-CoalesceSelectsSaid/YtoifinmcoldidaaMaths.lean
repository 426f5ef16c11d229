import Derived.KernelRfl
set_option linter.unusedVariables false
namespace Sb

/-- The content of a sector: eight bytes. -/
structure Sec where
  (b0 b1 b2 b3 b4 b5 b6 b7 : Int)
deriving DecidableEq
def Sec.zero : Sec := ⟨0, 0, 0, 0, 0, 0, 0, 0⟩
structure Wr where
  vol : Int
  start : Int
  data : List Sec
deriving DecidableEq
structure Ext where
  start : Int
  count : Int
deriving DecidableEq

/-! ### extents -/
def Ext.has (e : Ext) (s : Int) : Bool := decide (e.start ≤ s) && decide (s < e.start + e.count)
def mem (l : List Ext) (s : Int) : Bool := l.any (·.has s)
theorem Ext.has_iff {e : Ext} {s : Int} : e.has s = true ↔ e.start ≤ s ∧ s < e.start + e.count := by simp [Ext.has]
theorem mem_nil (s : Int) : mem [] s = false := rfl
theorem mem_cons (e : Ext) (l : List Ext) (s : Int) : mem (e :: l) s = (e.has s || mem l s) := rfl
theorem mem_append (a b : List Ext) (s : Int) : mem (a ++ b) s = (mem a s || mem b s) := by simp [mem]

/-- A canonical list whose extents begin at lo or behind it. -/
def CanonE : Int → List Ext → Prop
  | _, [] => True
  | lo, e :: l => lo ≤ e.start ∧ 0 < e.count ∧ CanonE (e.start + e.count + 1) l

theorem CanonE.mono {lo lo' : Int} : ∀ {l : List Ext}, CanonE lo l → lo' ≤ lo → CanonE lo' l
  | [], _, _ => trivial
  | _ :: _, ⟨h1, h2, h3⟩, h => ⟨Int.le_trans h h1, h2, h3⟩

theorem CanonE.below {lo : Int} : ∀ {l : List Ext}, CanonE lo l → ∀ s, s < lo → mem l s = false
  | [], _, _, _ => rfl
  | e :: l, ⟨h1, h2, h3⟩, s, h => by
    rw [mem_cons, h3.below s (by omega)]
    simp [Ext.has]; omega

theorem canonE_unique : ∀ {lo : Int} {l l' : List Ext}, CanonE lo l → CanonE lo l' → (∀ s, mem l s = mem l' s) → l = l'
  | _, [], [], _, _, _ => rfl
  | _, [], e :: l, _, ⟨h1, h2, h3⟩, h => by
    have := h e.start
    rw [mem_nil, mem_cons] at this
    have he : e.has e.start = true := Ext.has_iff.2 ⟨by omega, by omega⟩
    simp [he] at this
  | _, e :: l, [], ⟨h1, h2, h3⟩, _, h => by
    have := h e.start
    rw [mem_nil, mem_cons] at this
    have he : e.has e.start = true := Ext.has_iff.2 ⟨by omega, by omega⟩
    simp [he] at this
  | lo, e :: l, e' :: l', ⟨h1, h2, h3⟩, ⟨h1', h2', h3'⟩, h => by
    have key : ∀ {e e' : Ext} {l l' : List Ext}, 0 < e.count → CanonE (e.start + e.count + 1) l → 0 < e'.count → CanonE (e'.start + e'.count + 1) l' → (∀ s, mem (e :: l) s = mem (e' :: l') s) → e'.start ≤ e.start ∧ (e.start = e'.start → e'.start + e'.count ≤ e.start + e.count) := by
      intro e e' l l' h2 h3 h2' h3' h
      constructor
      · refine Int.not_lt.1 fun hlt => ?_
        have := h e.start
        rw [mem_cons, mem_cons, h3'.below e.start (by omega)] at this
        have he : e.has e.start = true := Ext.has_iff.2 ⟨by omega, by omega⟩
        have he' : e'.has e.start = false := by simp [Ext.has]; omega
        simp [he, he'] at this
      · intro hs
        refine Int.not_lt.1 fun hlt => ?_
        have := h (e.start + e.count)
        rw [mem_cons, mem_cons, h3.below (e.start + e.count) (by omega)] at this
        have he : e.has (e.start + e.count) = false := by simp [Ext.has]
        have he' : e'.has (e.start + e.count) = true := Ext.has_iff.2 ⟨by omega, by omega⟩
        simp [he, he'] at this
    have k1 := key h2 h3 h2' h3' h
    have k2 := key h2' h3' h2 h3 (fun s => (h s).symm)
    have hs : e.start = e'.start := by omega
    have hc : e.count = e'.count := by have a := k1.2 hs; have b := k2.2 hs.symm; omega
    have hee : e = e' := by cases e; cases e'; simp_all
    subst hee
    refine congrArg (e :: ·) (canonE_unique h3 h3' fun s => ?_)
    have := h s
    rw [mem_cons, mem_cons] at this
    cases hb : e.has s with
    | false => simpa [hb] using this
    | true =>
      have hb' := Ext.has_iff.1 hb
      rw [h3.below s (by omega), h3'.below s (by omega)]

/-- The last extent gets one sector more. -/
def bump : List Ext → List Ext
  | [] => []
  | [e] => [⟨e.start, e.count + 1⟩]
  | e :: e' :: l => e :: bump (e' :: l)

/-- The canonical list of those of the sectors 0 to n - 1 that satisfy p. -/
def runsE (p : Int → Bool) : Nat → List Ext
  | 0 => []
  | n + 1 => if p n then (if n ≠ 0 ∧ p ((n : Int) - 1) = true then bump (runsE p n) else runsE p n ++ [⟨n, 1⟩]) else runsE p n

/-- All of a list ends at or ahead of hi. -/
def EndsBy (hi : Int) (l : List Ext) : Prop := ∀ e ∈ l, e.start + e.count ≤ hi

theorem CanonE.snoc : ∀ {lo : Int} {l : List Ext} {e : Ext}, CanonE lo l → lo ≤ e.start → 0 < e.count → (∀ x ∈ l, x.start + x.count < e.start) → CanonE lo (l ++ [e])
  | _, [], e, _, h1, h2, _ => ⟨h1, h2, trivial⟩
  | _, x :: l, e, ⟨h1, h2, h3⟩, _, h5, h6 => ⟨h1, h2, h3.snoc (by have := h6 x (by simp); omega) h5 (fun y hy => h6 y (by simp [hy]))⟩

theorem bump_snoc (e : Ext) : ∀ l : List Ext, bump (l ++ [e]) = l ++ [⟨e.start, e.count + 1⟩]
  | [] => rfl
  | [x] => rfl
  | x :: y :: l => by
    have := bump_snoc e (y :: l)
    simp only [List.cons_append] at this ⊢
    rw [bump, this]

theorem CanonE.init : ∀ {lo : Int} {l : List Ext} {e : Ext}, CanonE lo (l ++ [e]) → CanonE lo l ∧ lo ≤ e.start ∧ 0 < e.count ∧ ∀ x ∈ l, x.start + x.count < e.start
  | _, [], e, ⟨h1, h2, _⟩ => ⟨trivial, h1, h2, by simp⟩
  | _, x :: l, e, ⟨h1, h2, h3⟩ => by
    obtain ⟨a, b, c, d⟩ := h3.init
    refine ⟨⟨h1, h2, a⟩, by omega, c, fun y hy => ?_⟩
    rcases List.mem_cons.1 hy with rfl | hy
    · omega
    · exact d y hy

/-- What is known of runsE. -/
structure RunsE (p : Int → Bool) (n : Nat) (l : List Ext) : Prop where
  canon : CanonE 0 l
  mem : ∀ s, mem l s = (decide (0 ≤ s) && decide (s < n) && p s)
  ends : EndsBy n l
  last : n ≠ 0 → p ((n : Int) - 1) = true → ∃ (l' : List Ext) (e : Ext), l = l' ++ [e] ∧ e.start + e.count = (n : Int)
  open_ : (n = 0 ∨ p ((n : Int) - 1) = false) → ∀ e ∈ l, e.start + e.count < (n : Int)

theorem runsE_spec (p : Int → Bool) : ∀ n, RunsE p n (runsE p n)
  | 0 => ⟨trivial, fun s => by simp [runsE, Sb.mem]; omega, by simp [EndsBy, runsE], by simp, by simp [runsE]⟩
  | n + 1 => by
    have ih := runsE_spec p n
    unfold runsE
    by_cases hp : p n = true
    · rw [if_pos hp]
      by_cases hn : n ≠ 0 ∧ p ((n : Int) - 1) = true
      · rw [if_pos hn]
        obtain ⟨l', e, hl, he⟩ := ih.last hn.1 hn.2
        rw [hl, bump_snoc]
        rw [hl] at ih
        obtain ⟨c1, c2, c3, c4⟩ := ih.canon.init
        refine ⟨c1.snoc c2 (by simp; omega) c4, fun s => ?_, ?_, fun _ _ => ⟨_, _, rfl, by simp; omega⟩, fun h => ?_⟩
        · have := ih.mem s
          simp only [mem_append, mem_cons, mem_nil, Bool.or_false] at this ⊢
          by_cases hs : s = n
          · subst hs
            have : Ext.has ⟨e.start, e.count + 1⟩ n = true := Ext.has_iff.2 ⟨by simp; omega, by simp; omega⟩
            simp [this, hp]; omega
          · have hh : Ext.has ⟨e.start, e.count + 1⟩ s = e.has s := by
              rw [Bool.eq_iff_iff, Ext.has_iff, Ext.has_iff]; simp only; omega
            rw [hh, this]
            have : decide (s < ((n + 1 : Nat) : Int)) = decide (s < n) := by rw [Bool.eq_iff_iff]; simp; omega
            rw [this]
        · intro x hx
          rcases List.mem_append.1 hx with hx | hx
          · have := c4 x hx; omega
          · obtain rfl := List.mem_singleton.1 hx
            simp; omega
        · rcases h with h | h
          · omega
          · have : (((n + 1 : Nat) : Int) - 1) = n := by omega
            rw [this, hp] at h; cases h
      · rw [if_neg hn]
        have ho := ih.open_ (by
          by_cases h0 : n = 0
          · exact .inl h0
          · right
            cases hq : p ((n : Int) - 1)
            · rfl
            · exact absurd ⟨h0, hq⟩ hn)
        refine ⟨ih.canon.snoc (by simp) (by simp) (fun x hx => by simpa using ho x hx), fun s => ?_, ?_, fun _ _ => ⟨_, _, rfl, by simp⟩, fun h => ?_⟩
        · have := ih.mem s
          simp only [mem_append, mem_cons, mem_nil, Bool.or_false] at this ⊢
          rw [this]
          by_cases hs : s = n
          · subst hs
            have : Ext.has ⟨(n : Int), 1⟩ n = true := Ext.has_iff.2 ⟨by simp, by simp; omega⟩
            simp [this, hp]; omega
          · have hh : Ext.has ⟨(n : Int), 1⟩ s = false := by simp [Ext.has]; omega
            rw [hh]
            have : decide (s < ((n + 1 : Nat) : Int)) = decide (s < n) := by rw [Bool.eq_iff_iff]; simp; omega
            rw [this]; simp
        · intro x hx
          rcases List.mem_append.1 hx with hx | hx
          · have := ih.ends x hx; omega
          · obtain rfl := List.mem_singleton.1 hx
            simp
        · rcases h with h | h
          · omega
          · have : (((n + 1 : Nat) : Int) - 1) = n := by omega
            rw [this, hp] at h; cases h
    · rw [if_neg hp]
      have hpf : p n = false := by simpa using hp
      refine ⟨ih.canon, fun s => ?_, fun x hx => by have := ih.ends x hx; omega, fun _ h => ?_, fun _ x hx => by have := ih.ends x hx; omega⟩
      · rw [ih.mem s]
        by_cases hs : s = n
        · subst hs; simp [hpf]
        · have : decide (s < ((n + 1 : Nat) : Int)) = decide (s < n) := by rw [Bool.eq_iff_iff]; simp; omega
          rw [this]
      · have : (((n + 1 : Nat) : Int) - 1) = n := by omega
        rw [this, hpf] at h; cases h

/-- WHATEVER IS CANONICAL AND HAS THE SAME SECTORS IS runsE. -/
theorem runsE_eq {p : Int → Bool} {n : Nat} {l : List Ext} (hc : CanonE 0 l) (hm : ∀ s, mem l s = (decide (0 ≤ s) && decide (s < n) && p s)) : l = runsE p n :=
  canonE_unique hc (runsE_spec p n).canon fun s => (hm s).trans ((runsE_spec p n).mem s).symm

theorem runsE_congr {p q : Int → Bool} {n : Nat} (h : ∀ s : Int, 0 ≤ s → s < n → p s = q s) : runsE p n = runsE q n := by
  refine runsE_eq (runsE_spec p n).canon fun s => ?_
  rw [(runsE_spec p n).mem s]
  by_cases h0 : 0 ≤ s <;> by_cases h1 : s < n <;> simp [h0, h1]
  exact h s h0 h1
end Sb

set_option linter.unusedVariables false
namespace Sb

/-! ### writes and effects -/
def Wr.at? (w : Wr) (v s : Int) : Option Sec :=
  if w.vol = v ∧ w.start ≤ s ∧ s < w.start + w.data.length then some (w.data.getD (s - w.start).toNat Sec.zero) else none
/-- The effect of a list on a sector of a volume. -/
def eff : List Wr → Int → Int → Option Sec
  | [], _, _ => none
  | w :: l, v, s => (eff l v s).or (w.at? v s)
theorem eff_nil (v s : Int) : eff [] v s = none := rfl
theorem eff_cons (w : Wr) (l : List Wr) (v s : Int) : eff (w :: l) v s = (eff l v s).or (w.at? v s) := rfl
theorem eff_append (a b : List Wr) (v s : Int) : eff (a ++ b) v s = (eff b v s).or (eff a v s) := by
  induction a with
  | nil => simp [eff]
  | cons w a ih => rw [List.cons_append, eff_cons, ih, eff_cons, Option.or_assoc]
theorem eff_snoc (l : List Wr) (w : Wr) (v s : Int) : eff (l ++ [w]) v s = (w.at? v s).or (eff l v s) := by
  rw [eff_append]; simp [eff]

structure Placed (w : Wr) : Prop where
  v0 : 0 ≤ w.vol
  v8 : w.vol < 8
  ne : w.data ≠ []
  s0 : 0 ≤ w.start
  s4 : w.start + w.data.length ≤ 4096
def AllPlaced (l : List Wr) : Prop := ∀ w ∈ l, Placed w

def Behind (x w : Wr) : Prop := x.vol < w.vol ∨ (x.vol = w.vol ∧ x.start + x.data.length < w.start)
structure Canon (l : List Wr) : Prop where
  ne : ∀ w ∈ l, w.data ≠ []
  pw : l.Pairwise Behind
theorem Canon.nil : Canon [] := ⟨by simp, .nil⟩
theorem Canon.tail {w : Wr} {l : List Wr} (h : Canon (w :: l)) : Canon l := ⟨fun x hx => h.ne x (by simp [hx]), (List.pairwise_cons.1 h.pw).2⟩
theorem Canon.head {w : Wr} {l : List Wr} (h : Canon (w :: l)) : ∀ x ∈ l, Behind w x := (List.pairwise_cons.1 h.pw).1
theorem Canon.append {a b : List Wr} (ha : Canon a) (hb : Canon b) (h : ∀ x ∈ a, ∀ y ∈ b, Behind x y) : Canon (a ++ b) :=
  ⟨fun w hw => (List.mem_append.1 hw).elim (ha.ne w) (hb.ne w), List.pairwise_append.2 ⟨ha.pw, hb.pw, h⟩⟩

theorem at?_none_of {w : Wr} {v s : Int} (h : ¬ (w.vol = v ∧ w.start ≤ s ∧ s < w.start + w.data.length)) : w.at? v s = none := by
  unfold Wr.at?; rw [if_neg h]
theorem at?_some_of {w : Wr} {v s : Int} (h : w.vol = v ∧ w.start ≤ s ∧ s < w.start + w.data.length) : w.at? v s = some (w.data.getD (s - w.start).toNat Sec.zero) := by
  unfold Wr.at?; rw [if_pos h]
theorem at?_isSome {w : Wr} {v s : Int} : (w.at? v s).isSome = true ↔ w.vol = v ∧ w.start ≤ s ∧ s < w.start + w.data.length := by
  unfold Wr.at?; split <;> simp_all
theorem len_pos {w : Wr} (h : w.data ≠ []) : 0 < (w.data.length : Int) := by
  have := List.length_pos_iff.2 h; omega

/-- Where a write stands ahead of all of a list, the list has no effect. -/
theorem eff_none_of_behind {w : Wr} {l : List Wr} {v s : Int} (h : ∀ x ∈ l, Behind w x) (hv : v < w.vol ∨ (v = w.vol ∧ s ≤ w.start + w.data.length)) : eff l v s = none := by
  induction l with
  | nil => rfl
  | cons x l ih =>
    rw [eff_cons, ih (fun y hy => h y (by simp [hy])), at?_none_of, Option.or_none]
    have := h x (by simp)
    unfold Behind at this
    omega

/-- In a canonical list the first write that holds a sector is the only one. -/
theorem eff_canon_cons {w : Wr} {l : List Wr} (h : Canon (w :: l)) (v s : Int) : eff (w :: l) v s = if w.vol = v ∧ w.start ≤ s ∧ s < w.start + w.data.length then some (w.data.getD (s - w.start).toNat Sec.zero) else eff l v s := by
  rw [eff_cons]
  by_cases hc : w.vol = v ∧ w.start ≤ s ∧ s < w.start + w.data.length
  · rw [if_pos hc, at?_some_of hc, eff_none_of_behind h.head (by omega)]; rfl
  · rw [if_neg hc, at?_none_of hc, Option.or_none]

theorem eff_ahead {w : Wr} {l : List Wr} (h : Canon (w :: l)) {v s : Int} (hv : v < w.vol ∨ (v = w.vol ∧ s < w.start)) : eff (w :: l) v s = none := by
  rw [eff_canon_cons h, if_neg (by omega), eff_none_of_behind h.head (by omega)]

theorem canon_unique : ∀ {l l' : List Wr}, Canon l → Canon l' → (∀ v s, eff l v s = eff l' v s) → l = l'
  | [], [], _, _, _ => rfl
  | [], w :: l, _, h', h => by
    have := h w.vol w.start
    have hp := len_pos (h'.ne w (by simp))
    rw [eff_canon_cons h', if_pos (by omega), eff_nil] at this
    cases this
  | w :: l, [], h', _, h => by
    have := h w.vol w.start
    have hp := len_pos (h'.ne w (by simp))
    rw [eff_canon_cons h', if_pos (by omega), eff_nil] at this
    cases this
  | w :: l, w' :: l', hc, hc', h => by
    have hp := len_pos (hc.ne w (by simp))
    have hp' := len_pos (hc'.ne w' (by simp))
    have key : ∀ {w w' : Wr} {l l' : List Wr}, Canon (w :: l) → Canon (w' :: l') → 0 < (w.data.length : Int) → 0 < (w'.data.length : Int) → (∀ v s, eff (w :: l) v s = eff (w' :: l') v s) →
        ¬ (w.vol < w'.vol ∨ (w.vol = w'.vol ∧ w.start < w'.start)) ∧ (w.vol = w'.vol → w.start = w'.start → ¬ (w.data.length : Int) < w'.data.length) := by
      intro w w' l l' hc hc' hp hp' h
      constructor
      · intro hlt
        have := h w.vol w.start
        rw [eff_canon_cons hc, if_pos (by omega), eff_ahead hc' hlt] at this
        cases this
      · intro e1 e2 hlt
        have := h w.vol (w.start + w.data.length)
        rw [eff_canon_cons hc, if_neg (by omega), eff_none_of_behind hc.head (by omega), eff_canon_cons hc', if_pos (by omega)] at this
        cases this
    obtain ⟨k1, k2⟩ := key hc hc' hp hp' h
    obtain ⟨k3, k4⟩ := key hc' hc hp' hp (fun v s => (h v s).symm)
    have e1 : w.vol = w'.vol := by omega
    have e2 : w.start = w'.start := by omega
    have e3 : w.data.length = w'.data.length := by have := k2 e1 e2; have := k4 e1.symm e2.symm; omega
    have e4 : w.data = w'.data := by
      refine List.ext_getElem e3 fun i h1 h2 => ?_
      have := h w.vol (w.start + i)
      rw [eff_canon_cons hc, if_pos (by omega), eff_canon_cons hc', if_pos (by omega)] at this
      have ei : (w.start + i - w.start).toNat = i := by omega
      have ei' : (w.start + i - w'.start).toNat = i := by omega
      rw [ei, ei'] at this
      simpa [List.getD_eq_getElem?_getD, h1, h2] using this
    have e5 : w = w' := by cases w; cases w'; simp_all
    subst e5
    refine congrArg (w :: ·) (canon_unique hc.tail hc'.tail fun v s => ?_)
    have := h v s
    rw [eff_canon_cons hc, eff_canon_cons hc'] at this
    by_cases hh : w.vol = v ∧ w.start ≤ s ∧ s < w.start + w.data.length
    · rw [eff_none_of_behind hc.head (by omega), eff_none_of_behind hc'.head (by omega)]
    · rwa [if_neg hh, if_neg hh] at this

/-! ### the canonical list of an effect -/
/-- The content of an extent. -/
def pick1 (f : Int → Int → Option Sec) (v : Int) (e : Ext) : Wr := ⟨v, e.start, (List.range e.count.toNat).map fun k => (f v (e.start + (k : Nat))).getD Sec.zero⟩
def pickW (f : Int → Int → Option Sec) (v : Int) (l : List Ext) : List Wr := l.map (pick1 f v)
theorem pick1_len (f : Int → Int → Option Sec) (v : Int) (e : Ext) (h : 0 < e.count) : ((pick1 f v e).data.length : Int) = e.count := by simp [pick1]; omega
theorem pick1_at (f : Int → Int → Option Sec) (v : Int) (e : Ext) (h : 0 < e.count) (v' s : Int) : (pick1 f v e).at? v' s = if v' = v ∧ e.has s = true then some ((f v s).getD Sec.zero) else none := by
  have hl := pick1_len f v e h
  unfold Wr.at?
  rw [hl]
  have e1 : (pick1 f v e).vol = v := rfl
  have e2 : (pick1 f v e).start = e.start := rfl
  rw [e1, e2]
  by_cases hc : v = v' ∧ e.start ≤ s ∧ s < e.start + e.count
  · rw [if_pos hc, if_pos ⟨hc.1.symm, Ext.has_iff.2 hc.2⟩]
    have : (s - e.start).toNat < e.count.toNat := by omega
    have e3 : max (s - e.start) 0 = s - e.start := by omega
    have e4 : e.start + (s - e.start) = s := by omega
    simp [pick1, List.getD_eq_getElem?_getD, this, e3, e4]
  · rw [if_neg hc, if_neg]
    rintro ⟨h1, h2⟩
    exact hc ⟨h1.symm, Ext.has_iff.1 h2⟩

theorem pickW_eff (f : Int → Int → Option Sec) (v : Int) : ∀ {lo : Int} {l : List Ext}, CanonE lo l → ∀ v' s, eff (pickW f v l) v' s = if v' = v ∧ mem l s = true then some ((f v s).getD Sec.zero) else none
  | _, [], _, v', s => by simp [pickW, eff, mem]
  | _, e :: l, ⟨h1, h2, h3⟩, v', s => by
    have ih := pickW_eff f v h3 v' s
    show eff (pick1 f v e :: pickW f v l) v' s = _
    rw [eff_cons, ih, pick1_at f v e h2, mem_cons]
    by_cases hv : v' = v
    · cases hb : e.has s <;> cases hm : mem l s <;> simp [hv]
    · simp [hv]

theorem pickW_canon (f : Int → Int → Option Sec) (v : Int) : ∀ {lo : Int} {l : List Ext}, CanonE lo l → Canon (pickW f v l) ∧ ∀ w ∈ pickW f v l, w.vol = v ∧ lo ≤ w.start
  | _, [], _ => ⟨.nil, by simp [pickW]⟩
  | lo, e :: l, ⟨h1, h2, h3⟩ => by
    obtain ⟨ih1, ih2⟩ := pickW_canon f v h3
    have hl := pick1_len f v e h2
    refine ⟨⟨?_, List.pairwise_cons.2 ⟨fun x hx => ?_, ih1.pw⟩⟩, ?_⟩
    · intro w hw
      rcases List.mem_cons.1 hw with rfl | hw
      · intro h; rw [h] at hl; simp at hl; omega
      · exact ih1.ne w hw
    · obtain ⟨a, b⟩ := ih2 x hx
      refine .inr ⟨a.symm, ?_⟩
      rw [hl]
      show e.start + e.count < x.start
      omega
    · intro w hw
      rcases List.mem_cons.1 hw with rfl | hw
      · exact ⟨rfl, h1⟩
      · have := ih2 w hw; exact ⟨this.1, by omega⟩

/-- Volume by volume. -/
def canonV (f : Int → Int → Option Sec) (v : Int) : List Wr := pickW f v (runsE (fun s => (f v s).isSome) 4096)
def canonOf (f : Int → Int → Option Sec) : List Wr := (List.range 8).flatMap fun v => canonV f (v : Nat)
def InDom (v s : Int) : Prop := 0 ≤ v ∧ v < 8 ∧ 0 ≤ s ∧ s < 4096
instance (v s : Int) : Decidable (InDom v s) := by unfold InDom; infer_instance

theorem canonV_eff (f : Int → Int → Option Sec) (v v' s : Int) : eff (canonV f v) v' s = if v' = v ∧ 0 ≤ s ∧ s < 4096 then f v s else none := by
  unfold canonV
  rw [pickW_eff f v (runsE_spec _ 4096).canon, (runsE_spec _ 4096).mem]
  by_cases hv : v' = v <;> by_cases h0 : 0 ≤ s <;> by_cases h1 : s < 4096 <;> simp [hv, h0, h1] <;> cases f v s <;> simp

theorem flat_canon (f : Int → Int → Option Sec) : ∀ n : Nat, Canon ((List.range n).flatMap fun v => canonV f (v : Nat)) ∧ (∀ w ∈ (List.range n).flatMap fun v => canonV f (v : Nat), w.vol < n) ∧
    ∀ v s, eff ((List.range n).flatMap fun v => canonV f (v : Nat)) v s = if 0 ≤ v ∧ v < n ∧ 0 ≤ s ∧ s < 4096 then f v s else none
  | 0 => ⟨.nil, by simp, fun v s => by simp [eff]; omega⟩
  | n + 1 => by
    obtain ⟨i1, i2, i3⟩ := flat_canon f n
    obtain ⟨c1, c2⟩ := pickW_canon f n (runsE_spec (fun s => (f n s).isSome) 4096).canon
    rw [List.range_succ, List.flatMap_append]
    simp only [List.flatMap_cons, List.flatMap_nil, List.append_nil]
    refine ⟨i1.append c1 fun x hx y hy => .inl ?_, fun w hw => ?_, fun v s => ?_⟩
    · rw [(c2 y hy).1]; exact i2 x hx
    · rcases List.mem_append.1 hw with hw | hw
      · have := i2 w hw; omega
      · have := (c2 w hw).1; omega
    · rw [eff_append, canonV_eff, i3]
      by_cases hv : v = n
      · subst hv
        rw [if_neg (c := 0 ≤ (n : Int) ∧ (n : Int) < n ∧ 0 ≤ s ∧ s < 4096) (by omega), Option.or_none]
        by_cases h : 0 ≤ s ∧ s < 4096
        · rw [if_pos ⟨rfl, h⟩, if_pos ⟨by omega, by omega, h⟩]
        · rw [if_neg (by simp; omega), if_neg (by omega)]
      · rw [if_neg (by simp [hv]), Option.none_or]
        by_cases h : 0 ≤ v ∧ v < n ∧ 0 ≤ s ∧ s < 4096
        · rw [if_pos h, if_pos (by omega)]
        · rw [if_neg h, if_neg (by omega)]

theorem canonOf_canon (f : Int → Int → Option Sec) : Canon (canonOf f) := (flat_canon f 8).1
theorem canonOf_eff (f : Int → Int → Option Sec) (v s : Int) : eff (canonOf f) v s = if InDom v s then f v s else none := (flat_canon f 8).2.2 v s

/-- The effect lies within the volumes and sectors that there may be. -/
def Bounded (f : Int → Int → Option Sec) : Prop := ∀ v s, ¬ InDom v s → f v s = none
theorem canonOf_eff' {f : Int → Int → Option Sec} (h : Bounded f) : eff (canonOf f) = f := by
  funext v s
  rw [canonOf_eff]
  split
  · rfl
  · rw [h v s ‹_›]
/-- WHATEVER IS CANONICAL AND HAS THIS EFFECT IS THIS LIST. -/
theorem canonOf_eq {f : Int → Int → Option Sec} (h : Bounded f) {l : List Wr} (hc : Canon l) (he : ∀ v s, eff l v s = f v s) : l = canonOf f :=
  canon_unique hc (canonOf_canon f) fun v s => by rw [he, canonOf_eff' h]
theorem eff_bounded {l : List Wr} (h : AllPlaced l) : Bounded (eff l) := by
  intro v s hd
  induction l with
  | nil => rfl
  | cons w l ih =>
    have hw := h w (by simp)
    rw [eff_cons, ih (fun x hx => h x (by simp [hx])), at?_none_of, Option.or_none]
    have := hw.v0; have := hw.v8; have := hw.s0; have := hw.s4
    unfold InDom at hd
    omega
/-- A canonical list of a bounded effect is placed. -/
theorem canon_placed {l : List Wr} (hc : Canon l) (hb : Bounded (eff l)) : AllPlaced l := by
  induction l with
  | nil => intro w hw; simp at hw
  | cons w l ih =>
    have hp := len_pos (hc.ne w (by simp))
    have hat : ∀ s, w.start ≤ s → s < w.start + w.data.length → InDom w.vol s := by
      intro s h1 h2
      refine Decidable.byContradiction fun hn => ?_
      have := hb w.vol s hn
      rw [eff_canon_cons hc, if_pos ⟨rfl, h1, h2⟩] at this
      cases this
    have a := hat w.start (by omega) (by omega)
    have b := hat (w.start + w.data.length - 1) (by omega) (by omega)
    unfold InDom at a b
    intro x hx
    rcases List.mem_cons.1 hx with rfl | hx
    · exact ⟨a.1, a.2.1, hc.ne _ (by simp), a.2.2.1, by omega⟩
    · refine ih hc.tail (fun v s hd => ?_) x hx
      have := hb v s hd
      rw [eff_cons] at this
      exact (Option.or_eq_none_iff.1 this).1

def foldW (l : List Wr) : List Wr := canonOf (eff l)
theorem foldW_canon (l : List Wr) : Canon (foldW l) := canonOf_canon _
theorem foldW_eff {l : List Wr} (h : AllPlaced l) : eff (foldW l) = eff l := canonOf_eff' (eff_bounded h)
theorem foldW_placed {l : List Wr} (h : AllPlaced l) : AllPlaced (foldW l) :=
  canon_placed (foldW_canon l) (by rw [foldW_eff h]; exact eff_bounded h)
theorem foldW_id {l : List Wr} (hc : Canon l) (h : AllPlaced l) : foldW l = l := (canonOf_eq (eff_bounded h) hc fun _ _ => rfl).symm
end Sb

set_option linter.unusedVariables false
namespace Sb

/-! ### the program's own way: sorted places, one after another -/
abbrev SLoc := Int × Int
def LocLt (a b : SLoc) : Prop := a.1 < b.1 ∨ (a.1 = b.1 ∧ a.2 < b.2)
/-- The last write gets a sector more. -/
def grow (s : Sec) : List Wr → List Wr
  | [] => []
  | [w] => [⟨w.vol, w.start, w.data ++ [s]⟩]
  | w :: w' :: l => w :: grow s (w' :: l)
theorem grow_snoc (s : Sec) (w : Wr) : ∀ l : List Wr, grow s (l ++ [w]) = l ++ [⟨w.vol, w.start, w.data ++ [s]⟩]
  | [] => rfl
  | [x] => rfl
  | x :: y :: l => by
    have := grow_snoc s w (y :: l)
    simp only [List.cons_append] at this ⊢
    rw [grow, this]
def gval (f : Int → Int → Option Sec) (p : SLoc) : Sec := (f p.1 p.2).getD Sec.zero
def groupStep (f : Int → Int → Option Sec) (st : List Wr × SLoc) (p : SLoc) : List Wr × SLoc :=
  (grow (gval f p) (if p = st.2 then st.1 else st.1 ++ [⟨p.1, p.2, []⟩]), (p.1, p.2 + 1))
def group (f : Int → Int → Option Sec) (l : List SLoc) : List Wr × SLoc := l.foldl (groupStep f) ([], (-1, 0))
theorem group_snoc (f : Int → Int → Option Sec) (l : List SLoc) (p : SLoc) : group f (l ++ [p]) = groupStep f (group f l) p := by simp [group]

theorem grow_length (s : Sec) : ∀ l : List Wr, (grow s l).length = l.length
  | [] => rfl
  | [_] => rfl
  | _ :: y :: l => by have := grow_length s (y :: l); simp only [grow, List.length_cons] at this ⊢; omega
theorem foldl_length (f : Int → Int → Option Sec) : ∀ (l : List SLoc) (st : List Wr × SLoc), (l.foldl (groupStep f) st).1.length ≤ st.1.length + l.length
  | [], st => by simp
  | p :: l, st => by
    have := foldl_length f l (groupStep f st p)
    have h2 : (groupStep f st p).1.length ≤ st.1.length + 1 := by
      unfold groupStep
      simp only [grow_length]
      split <;> simp
    simp only [List.foldl_cons, List.length_cons]; omega
theorem group_length (f : Int → Int → Option Sec) (l : List SLoc) : (group f l).1.length ≤ l.length := by
  have := foldl_length f l ([], (-1, 0)); simpa [group] using this
structure GroupInv (f : Int → Int → Option Sec) (pre : List SLoc) (out : List Wr) (next : SLoc) : Prop where
  canon : Canon out
  eff : ∀ v s, eff out v s = if (v, s) ∈ pre then some (gval f (v, s)) else none
  first : pre = [] → out = [] ∧ next = (-1, 0)
  last : pre ≠ [] → ∃ (out' : List Wr) (w : Wr), out = out' ++ [w] ∧ w.vol = next.1 ∧ w.start + w.data.length = next.2 ∧ (next.1, next.2 - 1) ∈ pre

theorem Behind.trans_new {x w : Wr} {p : SLoc} (hx : Behind x w) (hne : w.data ≠ []) (h : w.vol < p.1 ∨ (w.vol = p.1 ∧ w.start + w.data.length < p.2)) : x.vol < p.1 ∨ (x.vol = p.1 ∧ x.start + x.data.length < p.2) := by
  have := len_pos hne
  unfold Behind at hx
  omega

theorem at?_snoc (w : Wr) (y : Sec) (v s : Int) : Wr.at? ⟨w.vol, w.start, w.data ++ [y]⟩ v s = if v = w.vol ∧ s = w.start + w.data.length then some y else w.at? v s := by
  have hl : ((w.data ++ [y]).length : Int) = w.data.length + 1 := by simp
  unfold Wr.at?
  simp only [hl]
  by_cases h : v = w.vol ∧ s = w.start + w.data.length
  · rw [if_pos h, if_pos (by omega)]
    have : (s - w.start).toNat = w.data.length := by omega
    simp [this, List.getD_eq_getElem?_getD]
  · rw [if_neg h]
    by_cases h2 : w.vol = v ∧ w.start ≤ s ∧ s < w.start + w.data.length
    · rw [if_pos h2, if_pos (by omega)]
      have : (s - w.start).toNat < w.data.length := by omega
      simp [List.getD_eq_getElem?_getD, List.getElem?_append, this]
    · rw [if_neg h2, if_neg (by omega)]

theorem gi_step {f : Int → Int → Option Sec} {pre : List SLoc} {out : List Wr} {next : SLoc} (h : GroupInv f pre out next) {p : SLoc} (hp : ∀ q ∈ pre, LocLt q p) (h0 : 0 ≤ p.1) :
    GroupInv f (pre ++ [p]) (groupStep f (out, next) p).1 (groupStep f (out, next) p).2 := by
  obtain ⟨pv, ps⟩ := p
  have hmem : ∀ v s, (v, s) ∈ pre ++ [(pv, ps)] ↔ ((v, s) ∈ pre ∨ (v = pv ∧ s = ps)) := by intro v s; simp
  have hnew : (pv, ps) ∉ pre := fun hh => by have := hp _ hh; unfold LocLt at this; simp only at this; omega
  by_cases hpre : pre = []
  · obtain ⟨rfl, rfl⟩ := h.first hpre
    subst hpre
    have hne : (pv, ps) ≠ ((-1, 0) : SLoc) := by intro he; injection he with e1 e2; simp only at h0; omega
    simp only [groupStep, hne, if_false, List.nil_append, grow]
    refine ⟨⟨by simp, by simp⟩, fun v s => ?_, by simp, fun _ => ⟨[], _, rfl, rfl, by simp, by simp⟩⟩
    have := at?_snoc ⟨pv, ps, []⟩ (gval f (pv, ps)) v s
    simp only [List.nil_append, List.length_nil, List.mem_singleton, Prod.mk.injEq, Sb.eff, Option.none_or] at this ⊢
    rw [this]
    by_cases hc : v = pv ∧ s = ps
    · rw [if_pos (by omega), if_pos hc, hc.1, hc.2]
    · rw [if_neg (by omega), if_neg hc, at?_none_of (by simp)]
  · obtain ⟨out', w, rfl, e1, e2, e3⟩ := h.last hpre
    have hwne : w.data ≠ [] := h.canon.ne w (by simp)
    have hlw := len_pos hwne
    have hlt := hp _ e3
    unfold LocLt at hlt
    simp only at hlt
    have hpw := h.canon.pw
    rw [List.pairwise_append] at hpw
    by_cases hn : (pv, ps) = next
    · subst hn
      simp only at e1 e2
      simp only [groupStep, if_true, grow_snoc]
      refine ⟨⟨?_, ?_⟩, fun v s => ?_, by simp, fun _ => ⟨out', _, rfl, e1, by simp; omega, by simp⟩⟩
      · intro x hx
        rcases List.mem_append.1 hx with hx | hx
        · exact h.canon.ne x (by simp [hx])
        · obtain rfl := List.mem_singleton.1 hx; simp
      · rw [List.pairwise_append]
        refine ⟨hpw.1, by simp, fun x hx y hy => ?_⟩
        obtain rfl := List.mem_singleton.1 hy
        exact hpw.2.2 x hx w (by simp)
      · have := h.eff v s
        rw [eff_snoc] at this
        rw [eff_snoc, at?_snoc]
        by_cases hc : v = w.vol ∧ s = w.start + w.data.length
        · have hv : v = pv := by omega
          have hs : s = ps := by omega
          subst hv; subst hs
          rw [if_pos hc, if_pos (by simp)]; rfl
        · rw [if_neg hc, this]
          have : ((v, s) ∈ pre ++ [(pv, ps)]) ↔ (v, s) ∈ pre := by rw [hmem]; exact ⟨fun hh => hh.elim id (fun hh => absurd hh (by omega)), .inl⟩
          simp only [this]
    · have hb : w.vol < pv ∨ (w.vol = pv ∧ w.start + w.data.length < ps) := by
        have : ¬ (pv = next.1 ∧ ps = next.2) := fun hh => hn (by rw [hh.1, hh.2])
        omega
      simp only [groupStep, hn, if_false, grow_snoc, List.nil_append]
      refine ⟨⟨?_, ?_⟩, fun v s => ?_, by simp, fun _ => ⟨out' ++ [w], _, rfl, rfl, by simp, by simp⟩⟩
      · intro x hx
        rcases List.mem_append.1 hx with hx | hx
        · exact h.canon.ne x hx
        · obtain rfl := List.mem_singleton.1 hx; simp
      · rw [List.pairwise_append]
        refine ⟨h.canon.pw, by simp, fun x hx y hy => ?_⟩
        obtain rfl := List.mem_singleton.1 hy
        rcases List.mem_append.1 hx with hx | hx
        · exact (hpw.2.2 x hx w (by simp)).trans_new (p := (pv, ps)) hwne hb
        · obtain rfl := List.mem_singleton.1 hx; exact hb
      · rw [eff_snoc, h.eff]
        have := at?_snoc ⟨pv, ps, []⟩ (gval f (pv, ps)) v s
        simp only [List.nil_append, List.length_nil] at this
        rw [this]
        by_cases hc : v = pv ∧ s = ps
        · rw [if_pos (by omega), if_pos ((hmem v s).2 (.inr hc)), hc.1, hc.2]; rfl
        · rw [if_neg (by omega), at?_none_of (by simp only [List.length_nil]; omega), Option.none_or]
          have : ((v, s) ∈ pre ++ [(pv, ps)]) ↔ (v, s) ∈ pre := by rw [hmem]; exact ⟨fun hh => hh.elim id (fun hh => absurd hh hc), .inl⟩
          simp only [this]

theorem gi_all {f : Int → Int → Option Sec} : ∀ (l pre : List SLoc) (st : List Wr × SLoc), GroupInv f pre st.1 st.2 → (pre ++ l).Pairwise LocLt → (∀ p ∈ l, 0 ≤ p.1) →
    GroupInv f (pre ++ l) (l.foldl (groupStep f) st).1 (l.foldl (groupStep f) st).2
  | [], pre, st, h, _, _ => by simpa using h
  | p :: l, pre, st, h, hs, h0 => by
    have hs' : (pre ++ [p] ++ l).Pairwise LocLt := by simpa using hs
    have h1 := gi_step h (p := p) (fun q hq => (List.pairwise_append.1 hs).2.2 q hq p (by simp)) (h0 p (by simp))
    have := gi_all l (pre ++ [p]) (groupStep f st p) h1 hs' (fun q hq => h0 q (by simp [hq]))
    simpa using this

theorem group_inv (f : Int → Int → Option Sec) (l : List SLoc) (hs : l.Pairwise LocLt) (h0 : ∀ p ∈ l, 0 ≤ p.1) : GroupInv f l (group f l).1 (group f l).2 :=
  gi_all l [] ([], (-1, 0)) ⟨.nil, fun v s => by simp [Sb.eff], fun _ => ⟨rfl, rfl⟩, fun h => absurd rfl h⟩ (by simpa using hs) h0

theorem group_eq {f : Int → Int → Option Sec} (hb : Bounded f) {l : List SLoc} (hs : l.Pairwise LocLt) (hm : ∀ v s, (v, s) ∈ l ↔ (f v s).isSome = true) : (group f l).1 = canonOf f := by
  have h0 : ∀ p ∈ l, 0 ≤ p.1 := by
    intro p hp
    have := (hm p.1 p.2).1 hp
    by_cases hd : InDom p.1 p.2
    · exact hd.1
    · rw [hb _ _ hd] at this; cases this
  have hi := group_inv f l hs h0
  refine canonOf_eq hb hi.canon fun v s => ?_
  rw [hi.eff]
  have := hm v s
  cases hf : f v s with
  | none => rw [hf] at this; rw [if_neg]; intro hh; have := this.1 hh; simp at this
  | some x => rw [hf] at this; rw [if_pos (this.2 rfl)]; simp [gval, hf]
theorem nodup_len {α : Type} [DecidableEq α] : ∀ {a b : List α}, a.Nodup → (∀ x ∈ a, x ∈ b) → a.length ≤ b.length
  | [], _, _, _ => by simp
  | x :: a, b, hn, hs => by
    obtain ⟨h1, h2⟩ := List.nodup_cons.1 hn
    have hx := hs x (by simp)
    have := nodup_len (b := b.erase x) h2 fun y hy => (List.mem_erase_of_ne (show y ≠ x from fun e => h1 (e ▸ hy))).2 (hs y (by simp [hy]))
    rw [List.length_erase_of_mem hx] at this
    have := List.length_pos_of_mem hx
    simp; omega
theorem sorted_lt {l : List SLoc} (hn : l.Nodup) (hs : l.Pairwise fun x y => ¬ LocLt y x) : l.Pairwise LocLt := by
  refine List.Pairwise.imp_of_mem ?_ (List.pairwise_and_iff.2 ⟨hs, hn⟩)
  intro a b _ _ ⟨h1, h2⟩
  unfold LocLt at *
  by_cases h3 : a.1 = b.1
  · have : a.2 ≠ b.2 := fun e => h2 (Prod.ext h3 e)
    omega
  · omega
end Sb

set_option linter.unusedVariables false
namespace Sb

/-! ### the sweep over the ends of two lists of extents -/
structure End where
  at_ : Int
  list : Int
  step : Int
deriving DecidableEq

/-- The part of an extent that lies in 0 to 4096; none if it is empty. -/
def within (e : Ext) : Option (Int × Int) :=
  if e.count ≤ 0 then none else
    let from_ := max e.start 0
    let to := if e.start < 0 ∨ e.count < 4096 - e.start then min (e.start + e.count) 4096 else 4096
    if from_ < to then some (from_, to) else none
/-- Whether an extent contains a sector. -/
def Ext.holds (e : Ext) (s : Int) : Bool := decide (e.start ≤ s) && decide (s < e.start + e.count) && decide (0 ≤ s) && decide (s < 4096)
def memC (l : List Ext) (s : Int) : Bool := l.any (·.holds s)
theorem Ext.holds_iff {e : Ext} {s : Int} : e.holds s = true ↔ e.start ≤ s ∧ s < e.start + e.count ∧ 0 ≤ s ∧ s < 4096 := by simp [Ext.holds, and_assoc]
theorem memC_dom {l : List Ext} {s : Int} (h : memC l s = true) : 0 ≤ s ∧ s < 4096 := by
  simp only [memC, List.any_eq_true] at h
  obtain ⟨e, _, h⟩ := h
  exact (Ext.holds_iff.1 h).2.2

theorem within_none {e : Ext} (h : within e = none) (s : Int) : e.holds s = false := by
  unfold within at h
  rw [Bool.eq_false_iff]
  intro hh
  have := Ext.holds_iff.1 hh
  by_cases hc : e.count ≤ 0
  · omega
  · rw [if_neg hc] at h
    simp only at h
    split at h
    · split at h
      · cases h
      · rename_i h1 h2; omega
    · split at h
      · cases h
      · rename_i h1 h2; omega
theorem within_some {e : Ext} {a b : Int} (h : within e = some (a, b)) : 0 ≤ a ∧ a < b ∧ b ≤ 4096 ∧ ∀ s, e.holds s = true ↔ a ≤ s ∧ s < b := by
  unfold within at h
  by_cases hc : e.count ≤ 0
  · rw [if_pos hc] at h; cases h
  · rw [if_neg hc] at h
    simp only at h
    split at h
    · split at h
      · rename_i h1 h2
        simp only [Option.some.injEq, Prod.mk.injEq] at h
        refine ⟨by omega, by omega, by omega, fun s => ?_⟩
        rw [Ext.holds_iff]; omega
      · cases h
    · split at h
      · rename_i h1 h2
        simp only [Option.some.injEq, Prod.mk.injEq] at h
        refine ⟨by omega, by omega, by omega, fun s => ?_⟩
        rw [Ext.holds_iff]; omega
      · cases h

def endsOf (i : Int) : List Ext → List End
  | [] => []
  | e :: l => match within e with
    | some (a, b) => ⟨a, i, 1⟩ :: ⟨b, i, -1⟩ :: endsOf i l
    | none => endsOf i l

/-- What the ends of list i up to s come to. -/
def cnt : List End → Int → Int → Int
  | [], _, _ => 0
  | x :: l, i, s => (if x.list = i ∧ x.at_ ≤ s then x.step else 0) + cnt l i s
theorem cnt_append (a b : List End) (i s : Int) : cnt (a ++ b) i s = cnt a i s + cnt b i s := by
  induction a with
  | nil => simp [cnt]
  | cons x a ih => simp only [List.cons_append, cnt, ih]; omega
theorem cnt_perm {a b : List End} (h : a.Perm b) (i s : Int) : cnt a i s = cnt b i s := by
  induction h with
  | nil => rfl
  | cons x _ ih => simp only [cnt, ih]
  | swap x y l => simp only [cnt]; omega
  | trans _ _ h1 h2 => exact h1.trans h2
theorem cnt_none {l : List End} {i s : Int} (h : ∀ x ∈ l, x.list ≠ i ∨ s < x.at_) : cnt l i s = 0 := by
  induction l with
  | nil => rfl
  | cons x l ih =>
    have := h x (by simp)
    rw [cnt, ih (fun y hy => h y (by simp [hy])), if_neg (by omega)]; rfl
theorem cnt_same {l : List End} {s t : Int} (hst : s ≤ t) (h : ∀ x ∈ l, x.at_ ≤ s ∨ t < x.at_) (i : Int) : cnt l i s = cnt l i t := by
  induction l with
  | nil => rfl
  | cons x l ih =>
    have := h x (by simp)
    rw [cnt, cnt, ih (fun y hy => h y (by simp [hy]))]
    by_cases hc : x.list = i ∧ x.at_ ≤ s
    · rw [if_pos hc, if_pos (by omega)]
    · rw [if_neg hc, if_neg (by omega)]
theorem cnt_all {l : List End} {s t i : Int} (hs : ∀ x ∈ l, x.at_ ≤ s) (ht : ∀ x ∈ l, x.at_ ≤ t) : cnt l i s = cnt l i t := by
  induction l with
  | nil => rfl
  | cons x l ih =>
    have h1 := hs x (by simp); have h2 := ht x (by simp)
    rw [cnt, cnt, ih (fun y hy => hs y (by simp [hy])) (fun y hy => ht y (by simp [hy]))]
    simp [h1, h2]

theorem endsOf_list {i : Int} {l : List Ext} : ∀ x ∈ endsOf i l, x.list = i ∧ 0 ≤ x.at_ ∧ x.at_ ≤ 4096 := by
  induction l with
  | nil => simp [endsOf]
  | cons e l ih =>
    intro x hx
    unfold endsOf at hx
    cases hw : within e with
    | none => rw [hw] at hx; exact ih x hx
    | some ab =>
      obtain ⟨a, b⟩ := ab
      rw [hw] at hx
      obtain ⟨h1, h2, h3, _⟩ := within_some hw
      rcases List.mem_cons.1 hx with rfl | hx
      · exact ⟨rfl, h1, by simp only; omega⟩
      · rcases List.mem_cons.1 hx with rfl | hx
        · exact ⟨rfl, by simp only; omega, h3⟩
        · exact ih x hx
theorem cnt_endsOf (i : Int) (l : List Ext) (s : Int) : 0 ≤ cnt (endsOf i l) i s ∧ (0 < cnt (endsOf i l) i s ↔ memC l s = true) := by
  induction l with
  | nil => simp [endsOf, cnt, memC]
  | cons e l ih =>
    unfold endsOf
    have hm : memC (e :: l) s = (e.holds s || memC l s) := rfl
    cases hw : within e with
    | none =>
      simp only
      rw [hm, within_none hw s, Bool.false_or]; exact ih
    | some ab =>
      obtain ⟨a, b⟩ := ab
      obtain ⟨h1, h2, h3, h4⟩ := within_some hw
      simp only [cnt, true_and]
      rw [hm]
      have h4' := h4 s
      cases hh : e.holds s with
      | true =>
        have := h4'.1 hh
        rw [if_pos (by omega), if_neg (by omega)]
        simp only [Bool.true_or, iff_true]
        omega
      | false =>
        have : ¬ (a ≤ s ∧ s < b) := fun h => by rw [h4'.2 h] at hh; cases hh
        simp only [Bool.false_or]
        by_cases ha : a ≤ s
        · rw [if_pos ha, if_pos (by omega)]
          constructor
          · omega
          · rw [← ih.2]; omega
        · rw [if_neg ha, if_neg (by omega)]
          constructor
          · omega
          · rw [← ih.2]; omega

/-- Whether the next end lies at the same sector. -/
def sameNext : List End → Int → Bool
  | [], _ => false
  | y :: _, a => y.at_ == a
/-- The loop over the sorted ends. -/
def sweepL (keep : Bool → Bool → Bool) : List End → Int → Int → Int → Bool → List Ext
  | [], _, _, _, _ => []
  | x :: l, d0, d1, start, inside =>
    let d0 := if x.list = 0 then d0 + x.step else d0
    let d1 := if x.list = 1 then d1 + x.step else d1
    if sameNext l x.at_ then sweepL keep l d0 d1 start inside
    else
      let now := keep (decide (0 < d0)) (decide (0 < d1))
      let start := if now && !inside then x.at_ else start
      let tail := sweepL keep l d0 d1 start now
      if !now && inside then ⟨start, x.at_ - start⟩ :: tail else tail

def pOf (keep : Bool → Bool → Bool) (E : List End) (s : Int) : Bool := keep (decide (0 < cnt E 0 s)) (decide (0 < cnt E 1 s))

structure SweepInv (keep : Bool → Bool → Bool) (E pre rest : List End) (cur d0 d1 start : Int) (inside : Bool) : Prop where
  split : E = pre ++ rest
  sorted : E.Pairwise fun x y => x.at_ ≤ y.at_
  d0 : ∀ t, (∀ x ∈ pre, x.at_ ≤ t) → cnt pre 0 t = d0
  d1 : ∀ t, (∀ x ∈ pre, x.at_ ≤ t) → cnt pre 1 t = d1
  ahead : ∀ x ∈ rest, cur < x.at_
  pre_ok : ∀ y ∈ pre, y.at_ ≤ cur ∨ ∃ x, rest.head? = some x ∧ y.at_ = x.at_
  in_ : inside = pOf keep E cur
  start : inside = true → start ≤ cur ∧ ∀ s, start ≤ s → s ≤ cur → pOf keep E s = true

theorem sweep_spec {keep : Bool → Bool → Bool} {E : List End} (hk : ∀ t, (∀ x ∈ E, x.at_ ≤ t) → pOf keep E t = false) : ∀ (rest pre : List End) (cur d0 d1 start : Int) (inside : Bool),
    SweepInv keep E pre rest cur d0 d1 start inside →
    CanonE (if inside then start else cur + 1) (sweepL keep rest d0 d1 start inside) ∧ ∀ s, mem (sweepL keep rest d0 d1 start inside) s = (decide ((if inside then start else cur + 1) ≤ s) && pOf keep E s)
  | [], pre, cur, d0, d1, start, inside, h => by
    have hE : ∀ x ∈ E, x.at_ ≤ cur := by
      rw [h.split, List.append_nil]
      intro y hy
      rcases h.pre_ok y hy with h' | ⟨x, hx, _⟩
      · exact h'
      · cases hx
    have hi : inside = false := h.in_.trans (hk cur hE)
    subst hi
    refine ⟨trivial, fun s => ?_⟩
    simp only [sweepL, mem_nil, Bool.false_eq_true, if_false]
    by_cases hs : cur + 1 ≤ s
    · rw [hk s (fun x hx => by have := hE x hx; omega)]; simp
    · simp [hs]
  | x :: l, pre, cur, d0, d1, start, inside, h => by
    have hpx : ∀ y ∈ pre, y.at_ ≤ x.at_ := by
      have := h.sorted; rw [h.split, List.pairwise_append] at this
      exact fun y hy => this.2.2 y hy x (by simp)
    have hxl : ∀ y ∈ l, x.at_ ≤ y.at_ := by
      have := h.sorted; rw [h.split, List.pairwise_append] at this
      exact (List.pairwise_cons.1 this.2.1).1
    have hcx := h.ahead x (by simp)
    have hd : ∀ (i d : Int), (∀ t, (∀ y ∈ pre, y.at_ ≤ t) → cnt pre i t = d) → ∀ t, (∀ y ∈ pre ++ [x], y.at_ ≤ t) → cnt (pre ++ [x]) i t = if x.list = i then d + x.step else d := by
      intro i d hd t ht
      rw [cnt_append, hd t (fun y hy => ht y (by simp [hy]))]
      have : x.at_ ≤ t := ht x (by simp)
      simp only [cnt, this, and_true]
      split <;> omega
    have hsp : E = (pre ++ [x]) ++ l := by rw [h.split]; simp
    -- between two ends nothing turns
    have hpre : ∀ y ∈ pre, y.at_ ≤ cur ∨ y.at_ = x.at_ := by
      intro y hy
      rcases h.pre_ok y hy with h' | ⟨z, hz, h'⟩
      · exact .inl h'
      · cases hz; exact .inr h'
    have hconst : ∀ s, cur ≤ s → s < x.at_ → pOf keep E s = pOf keep E cur := by
      intro s h1 h2
      have hc : ∀ i, cnt E i cur = cnt E i s := by
        refine cnt_same h1 fun y hy => ?_
        rw [h.split] at hy
        rcases List.mem_append.1 hy with hy | hy
        · rcases hpre y hy with h' | h' <;> omega
        · rcases List.mem_cons.1 hy with rfl | hy
          · omega
          · have := hxl y hy; omega
      unfold pOf; rw [hc, hc]
    unfold sweepL
    by_cases hskip : sameNext l x.at_ = true
    · simp only [hskip, if_true]
      cases l with
      | nil => simp [sameNext] at hskip
      | cons y l =>
        have hy : y.at_ = x.at_ := by simpa [sameNext] using hskip
        refine sweep_spec hk (y :: l) (pre ++ [x]) cur _ _ start inside ⟨hsp, h.sorted, hd 0 d0 h.d0, hd 1 d1 h.d1, fun z hz => h.ahead z (by simp [hz]), ?_, h.in_, h.start⟩
        intro z hz
        rcases List.mem_append.1 hz with hz | hz
        · rcases hpre z hz with h' | h'
          · exact .inl h'
          · exact .inr ⟨y, rfl, by omega⟩
        · obtain rfl := List.mem_singleton.1 hz
          exact .inr ⟨y, rfl, hy.symm⟩
    · have hl : ∀ y ∈ l, x.at_ < y.at_ := by
        cases l with
        | nil => simp
        | cons y l =>
          have hne : y.at_ ≠ x.at_ := by simpa [sameNext] using hskip
          have hy := hxl y (by simp)
          have := h.sorted; rw [h.split, List.pairwise_append] at this
          have hyl := (List.pairwise_cons.1 (List.pairwise_cons.1 this.2.1).2).1
          intro z hz
          rcases List.mem_cons.1 hz with rfl | hz
          · omega
          · have := hyl z hz; omega
      have hpx' : ∀ y ∈ pre ++ [x], y.at_ ≤ x.at_ := by
        intro y hy
        rcases List.mem_append.1 hy with hy | hy
        · exact hpx y hy
        · obtain rfl := List.mem_singleton.1 hy; omega
      have hcnt : ∀ i, cnt E i x.at_ = cnt (pre ++ [x]) i x.at_ := by
        intro i
        rw [hsp, cnt_append, cnt_none (l := l) (fun y hy => .inr (hl y hy))]; omega
      have hnow : keep (decide (0 < if x.list = 0 then d0 + x.step else d0)) (decide (0 < if x.list = 1 then d1 + x.step else d1)) = pOf keep E x.at_ := by
        unfold pOf; rw [hcnt, hcnt, hd 0 d0 h.d0 _ hpx', hd 1 d1 h.d1 _ hpx']
      simp only [hskip, if_false, Bool.false_eq_true]
      rw [hnow]
      have hin := h.in_
      have inv : ∀ start', (pOf keep E x.at_ = true → start' ≤ x.at_ ∧ ∀ s, start' ≤ s → s ≤ x.at_ → pOf keep E s = true) →
          SweepInv keep E (pre ++ [x]) l x.at_ (if x.list = 0 then d0 + x.step else d0) (if x.list = 1 then d1 + x.step else d1) start' (pOf keep E x.at_) :=
        fun start' hst => ⟨hsp, h.sorted, hd 0 d0 h.d0, hd 1 d1 h.d1, hl, fun y hy => .inl (hpx' y hy), rfl, hst⟩
      cases hp : pOf keep E x.at_ <;> cases inside
      · -- outside, and stays so
        simp only [Bool.false_and, Bool.not_false, Bool.and_false, Bool.false_eq_true, if_false]
        rw [hp] at inv
        obtain ⟨c, m⟩ := sweep_spec hk l (pre ++ [x]) x.at_ _ _ start false (inv start (fun h => by cases h))
        simp only [Bool.false_eq_true, if_false] at c m
        refine ⟨c.mono (by omega), fun s => ?_⟩
        rw [m]
        by_cases h1 : x.at_ + 1 ≤ s
        · simp [h1]; omega
        · by_cases h2 : cur + 1 ≤ s
          · have : pOf keep E s = false := by
              by_cases h3 : s = x.at_
              · rw [h3, hp]
              · rw [hconst s (by omega) (by omega), ← hin]
            simp [this]
          · simp [h1, h2]
      · -- an extent ends
        simp only [Bool.false_and, Bool.not_false, Bool.and_true, Bool.not_true, Bool.false_eq_true, if_false, if_true]
        rw [hp] at inv
        obtain ⟨hs1, hs2⟩ := h.start rfl
        obtain ⟨c, m⟩ := sweep_spec hk l (pre ++ [x]) x.at_ _ _ start false (inv start (fun h => by cases h))
        simp only [Bool.false_eq_true, if_false] at c m
        refine ⟨⟨Int.le_refl _, by simp only; omega, by simp only; exact c.mono (by omega)⟩, fun s => ?_⟩
        rw [mem_cons, m]
        by_cases h1 : start ≤ s
        · by_cases h2 : s < x.at_
          · have : Ext.has ⟨start, x.at_ - start⟩ s = true := Ext.has_iff.2 ⟨h1, by simp only; omega⟩
            have hps : pOf keep E s = true := by
              by_cases h3 : s ≤ cur
              · exact hs2 s h1 h3
              · rw [hconst s (by omega) h2, ← hin]
            simp [this, h1, hps]
          · have : Ext.has ⟨start, x.at_ - start⟩ s = false := by
              rw [Bool.eq_false_iff]; intro hh; have := (Ext.has_iff.1 hh).2; simp only at this; omega
            by_cases h3 : s = x.at_
            · subst h3; simp [this, hp]
            · have h4 : x.at_ + 1 ≤ s := by omega
              simp [this, h1, h4]
        · have : Ext.has ⟨start, x.at_ - start⟩ s = false := by
            rw [Bool.eq_false_iff]; intro hh; have := (Ext.has_iff.1 hh).1; simp only at this; omega
          have h4 : ¬ x.at_ + 1 ≤ s := by omega
          simp [this, h1, h4]
      · -- an extent begins
        simp only [Bool.true_and, Bool.not_false, Bool.not_true, Bool.false_and, Bool.false_eq_true, if_false, if_true]
        rw [hp] at inv
        obtain ⟨c, m⟩ := sweep_spec hk l (pre ++ [x]) x.at_ _ _ x.at_ true (inv x.at_ (fun _ => ⟨by omega, fun s h1 h2 => by rw [show s = x.at_ by omega, hp]⟩))
        simp only [if_true] at c m
        refine ⟨c.mono (by omega), fun s => ?_⟩
        rw [m]
        by_cases h1 : x.at_ ≤ s
        · have : cur + 1 ≤ s := by omega
          simp [h1, this]
        · by_cases h2 : cur + 1 ≤ s
          · rw [hconst s (by omega) (by omega), ← hin]; simp
          · simp [h1, h2]
      · -- inside, and stays so
        simp only [Bool.not_true, Bool.false_and, Bool.and_false, Bool.false_eq_true, if_false]
        rw [hp] at inv
        obtain ⟨hs1, hs2⟩ := h.start rfl
        obtain ⟨c, m⟩ := sweep_spec hk l (pre ++ [x]) x.at_ _ _ start true (inv start (fun _ => ⟨by omega, fun s h1 h2 => by
          by_cases h3 : s ≤ cur
          · exact hs2 s h1 h3
          · by_cases h4 : s = x.at_
            · rw [h4, hp]
            · rw [hconst s (by omega) (by omega), ← hin]⟩))
        exact ⟨c, m⟩

/-- THE SWEEP OVER THE SORTED ENDS OF TWO LISTS GIVES THE CANONICAL LIST. -/
theorem sweep_eq {keep : Bool → Bool → Bool} (hkeep : keep false false = false) (a b : List Ext) {E : List End} (hp : E.Perm (endsOf 0 a ++ endsOf 1 b)) (hs : E.Pairwise fun x y => x.at_ ≤ y.at_) :
    sweepL keep E 0 0 0 false = runsE (fun s => keep (memC a s) (memC b s)) 4096 := by
  have hpo : ∀ s, pOf keep E s = keep (memC a s) (memC b s) := by
    intro s
    have h0 : cnt E 0 s = cnt (endsOf 0 a) 0 s := by
      rw [cnt_perm hp, cnt_append, cnt_none (l := endsOf 1 b)]
      · omega
      · intro x hx; left; have := (endsOf_list x hx).1; omega
    have h1 : cnt E 1 s = cnt (endsOf 1 b) 1 s := by
      rw [cnt_perm hp, cnt_append, cnt_none (l := endsOf 0 a)]
      · omega
      · intro x hx; left; have := (endsOf_list x hx).1; omega
    unfold pOf
    rw [h0, h1]
    have e0 : decide (0 < cnt (endsOf 0 a) 0 s) = memC a s := by rw [Bool.eq_iff_iff]; simp only [decide_eq_true_eq]; exact (cnt_endsOf 0 a s).2
    have e1 : decide (0 < cnt (endsOf 1 b) 1 s) = memC b s := by rw [Bool.eq_iff_iff]; simp only [decide_eq_true_eq]; exact (cnt_endsOf 1 b s).2
    rw [e0, e1]
  have hat : ∀ x ∈ E, 0 ≤ x.at_ ∧ x.at_ ≤ 4096 := by
    intro x hx
    rcases List.mem_append.1 (hp.mem_iff.1 hx) with hx | hx
    · exact (endsOf_list x hx).2
    · exact (endsOf_list x hx).2
  have hout : ∀ s, ¬ (0 ≤ s ∧ s < 4096) → pOf keep E s = false := by
    intro s hs
    rw [hpo]
    have ha : memC a s = false := by rw [Bool.eq_false_iff]; exact fun h => hs (memC_dom h)
    have hb : memC b s = false := by rw [Bool.eq_false_iff]; exact fun h => hs (memC_dom h)
    rw [ha, hb, hkeep]
  have hk : ∀ t, (∀ x ∈ E, x.at_ ≤ t) → pOf keep E t = false := by
    intro t ht
    rw [hpo]
    have z : ∀ (i : Int) (c : List Ext), (∀ x ∈ endsOf i c, x.at_ ≤ t) → memC c t = false := by
      intro i c
      induction c with
      | nil => intro _; rfl
      | cons e c ih =>
        intro h
        have hm : memC (e :: c) t = (e.holds t || memC c t) := rfl
        rw [hm]
        unfold endsOf at h
        cases hw : within e with
        | none => rw [hw] at h; rw [within_none hw, ih h]; rfl
        | some ab =>
          obtain ⟨u, v⟩ := ab
          rw [hw] at h
          obtain ⟨h1, h2, h3, h4⟩ := within_some hw
          have hv := h ⟨v, i, -1⟩ (by simp)
          simp only at hv
          rw [ih (fun x hx => h x (by simp [hx]))]
          have : e.holds t = false := by rw [Bool.eq_false_iff]; intro hh; have := (h4 t).1 hh; omega
          rw [this]; rfl
    have ha := z 0 a (fun x hx => ht x (hp.mem_iff.2 (List.mem_append.2 (.inl hx))))
    have hb := z 1 b (fun x hx => ht x (hp.mem_iff.2 (List.mem_append.2 (.inr hx))))
    rw [ha, hb, hkeep]
  have h := sweep_spec hk E [] (-1) 0 0 0 false ⟨rfl, hs, fun _ _ => rfl, fun _ _ => rfl, fun x hx => by have := (hat x hx).1; omega, by simp, (hout (-1) (by omega)).symm, fun h => by cases h⟩
  simp only [Bool.false_eq_true, if_false] at h
  refine runsE_eq (h.1.mono (by omega)) fun s => ?_
  rw [h.2, ← hpo]
  by_cases hd : 0 ≤ s ∧ s < 4096
  · simp [hd.1, hd.2]
  · rw [hout s hd]; simp
end Sb

set_option linter.unusedVariables false
namespace Sb

/-! ### the examples of chapter 22 -/
def InBox (v s : Int) : Prop := 0 ≤ v ∧ v < 2 ∧ 0 ≤ s ∧ s < 10
theorem box_eq {f g : Int → Int → Option Sec} (hf : ∀ v s, ¬ InBox v s → f v s = none) (hg : ∀ v s, ¬ InBox v s → g v s = none)
    (h : ((List.range 2).all fun v => (List.range 10).all fun s => decide (f (v : Nat) (s : Nat) = g (v : Nat) (s : Nat))) = true) (v s : Int) : f v s = g v s := by
  by_cases hb : InBox v s
  · obtain ⟨h1, h2, h3, h4⟩ := hb
    obtain ⟨a, rfl⟩ := Int.eq_ofNat_of_zero_le h1
    obtain ⟨b, rfl⟩ := Int.eq_ofNat_of_zero_le h3
    have := (List.all_eq_true.1 ((List.all_eq_true.1 h) a (List.mem_range.2 (by omega)))) b (List.mem_range.2 (by omega))
    exact of_decide_eq_true this
  · rw [hf v s hb, hg v s hb]
def boxed (l : List Wr) : Bool := l.all fun w => decide (0 ≤ w.vol ∧ w.vol < 2 ∧ 0 ≤ w.start ∧ w.start + w.data.length ≤ 10)
theorem eff_box : ∀ {l : List Wr}, boxed l = true → ∀ v s, ¬ InBox v s → eff l v s = none
  | [], _, _, _, _ => rfl
  | w :: l, h, v, s, hh => by
    unfold boxed at h
    rw [List.all_cons, Bool.and_eq_true] at h
    have h1 := of_decide_eq_true h.1
    rw [eff_cons, eff_box h.2 v s hh, at?_none_of (fun e => hh ⟨by omega, by omega, by omega, by omega⟩)]
    rfl
theorem canonOf_small {f : Int → Int → Option Sec} {c : List Wr} (hc : Canon c) (hb : boxed c = true) (hf : ∀ v s, ¬ InBox v s → f v s = none)
    (h : ((List.range 2).all fun v => (List.range 10).all fun s => decide (eff c (v : Nat) (s : Nat) = f (v : Nat) (s : Nat))) = true) : canonOf f = c :=
  (canonOf_eq (fun v s hh => hf v s (fun e => hh ⟨by have := e.1; omega, by have := e.2.1; omega, by have := e.2.2.1; omega, by have := e.2.2.2; omega⟩)) hc (box_eq (eff_box hb) hf h)).symm
def s1 (b : Int) : Sec := ⟨b, 0, 0, 0, 0, 0, 0, 0⟩
def exA : List Wr := [⟨0, 2, [s1 1, s1 2]⟩, ⟨0, 3, [s1 3]⟩, ⟨0, 4, [s1 4]⟩]
def exA' : List Wr := [⟨0, 2, [s1 1, s1 3, s1 4]⟩]
def exB : List Wr := [⟨1, 5, [s1 1]⟩, ⟨0, 0, [s1 2]⟩, ⟨0, 2, [s1 3]⟩]
def exB' : List Wr := [⟨0, 0, [s1 2]⟩, ⟨0, 2, [s1 3]⟩, ⟨1, 5, [s1 1]⟩]
def exC1 : List Wr := [⟨0, 2, [s1 1, s1 2]⟩]
def exC2 : List Wr := [⟨0, 1, [s1 3]⟩]
def exC' : List Wr := [⟨0, 1, [s1 3, s1 1, s1 2]⟩]
def exD' : List Wr := [⟨0, 2, [s1 1]⟩]
theorem exA_fold : foldW exA = exA' := canonOf_small ⟨by simp [exA'], by simp [exA']⟩ (by kernel_rfl) (eff_box (by kernel_rfl)) (by kernel_rfl)
theorem exB_fold : foldW exB = exB' := canonOf_small ⟨by simp [exB'], by simp [exB', Behind]⟩ (by kernel_rfl) (eff_box (by kernel_rfl)) (by kernel_rfl)
theorem exC_fold : foldW (exC1 ++ exC2) = exC' := canonOf_small ⟨by simp [exC'], by simp [exC']⟩ (by kernel_rfl) (eff_box (by kernel_rfl)) (by kernel_rfl)
end Sb

set_option linter.unusedVariables false
namespace Sb

/-! ### sizes of canonical lists; merging -/
def secL (l : List Wr) : Nat := (l.map fun w => w.data.length).sum
theorem canon_bound : ∀ {l : List Wr} {lo : Int}, Canon l → AllPlaced l → 0 ≤ lo → lo ≤ 32776 → (∀ x ∈ l, lo ≤ x.vol * 4097 + x.start) → (secL l : Int) + lo ≤ 32776 ∧ l.length ≤ secL l
  | [], lo, _, _, _, h, _ => ⟨by simp [secL]; omega, by simp⟩
  | w :: l, lo, hc, hp, h0, h, hl => by
    have hw := hp w (by simp)
    have h1 := hl w (by simp)
    have hne := len_pos hw.ne
    have a1 := hw.v0; have a2 := hw.v8; have a3 := hw.s0; have a4 := hw.s4
    have ih := canon_bound (lo := w.vol * 4097 + w.start + w.data.length) hc.tail (fun x hx => hp x (by simp [hx])) (by omega) (by omega) (fun x hx => by
      have hb := hc.head x hx
      have hx := hp x (by simp [hx])
      have := hx.s0
      unfold Behind at hb
      rcases hb with hb | ⟨hb1, hb2⟩
      · omega
      · omega)
    have e : secL (w :: l) = w.data.length + secL l := by simp [secL]
    rw [e]
    simp only [List.length_cons]
    omega
theorem fold_bound {l : List Wr} (h : AllPlaced l) : secL (foldW l) ≤ 32776 ∧ (foldW l).length ≤ 32776 := by
  have := canon_bound (foldW_canon l) (foldW_placed h) (Int.le_refl 0) (by omega) (fun x hx => by have a1 := (foldW_placed h x hx).v0; have a2 := (foldW_placed h x hx).s0; omega)
  omega
theorem foldW_congr {a b : List Wr} (h : eff a = eff b) : foldW a = foldW b := by unfold foldW; rw [h]
theorem eff_app (a b : List Wr) : eff (a ++ b) = fun v s => (eff b v s).or (eff a v s) := by funext v s; exact eff_append a b v s
theorem placed_app {a b : List Wr} (h1 : AllPlaced a) (h2 : AllPlaced b) : AllPlaced (a ++ b) := fun w hw => by
  rcases List.mem_append.1 hw with hw | hw
  · exact h1 w hw
  · exact h2 w hw
theorem merge_fold {a b : List Wr} (ha : AllPlaced a) (hb : AllPlaced b) : foldW (foldW a ++ foldW b) = foldW (a ++ b) :=
  foldW_congr (by rw [eff_app, eff_app, foldW_eff ha, foldW_eff hb])
theorem fold_fold {a : List Wr} (ha : AllPlaced a) : foldW (foldW a) = foldW a := foldW_id (foldW_canon a) (foldW_placed ha)
end Sb

set_option linter.unusedVariables false
namespace Sb

/-! ### the reference's way: marks, runs, the last write to a sector -/
def Wr.ext (w : Wr) : Ext := ⟨w.start, w.data.length⟩
def markedBy (l : List Wr) (v s : Int) : Bool := l.any fun w => decide (w.vol = v) && w.ext.holds s
theorem markedBy_nil (v s : Int) : markedBy [] v s = false := rfl
theorem markedBy_snoc (l : List Wr) (w : Wr) (v s : Int) : markedBy (l ++ [w]) v s = (markedBy l v s || (decide (w.vol = v) && w.ext.holds s)) := by simp [markedBy]
theorem eff_isSome : ∀ (l : List Wr) (v s : Int), (eff l v s).isSome = l.any fun w => (w.at? v s).isSome
  | [], v, s => rfl
  | w :: l, v, s => by
    rw [eff_cons, Option.isSome_or, eff_isSome l v s, List.any_cons, Bool.or_comm]
theorem holds_at (w : Wr) (v s : Int) (h0 : 0 ≤ s) (h1 : s < 4096) : (decide (w.vol = v) && w.ext.holds s) = (w.at? v s).isSome := by
  rw [Bool.eq_iff_iff, at?_isSome, Bool.and_eq_true, Ext.holds_iff]
  simp only [Wr.ext, decide_eq_true_eq]
  constructor
  · intro ⟨a, b, c, _, _⟩; exact ⟨a, b, c⟩
  · intro ⟨a, b, c⟩; exact ⟨a, b, c, h0, h1⟩
theorem marked_eff (l : List Wr) (v : Int) : runsE (markedBy l v) 4096 = runsE (fun s => (eff l v s).isSome) 4096 :=
  runsE_congr fun s h0 h1 => by
    rw [eff_isSome]
    unfold markedBy
    congr 1
    funext w
    exact holds_at w v s h0 (by omega)
/-- What the reference's Fold has behind k volumes. -/
def refK (l : List Wr) (k : Nat) : List Wr := (List.range k).flatMap fun v => pickW (eff l) (v : Nat) (runsE (markedBy l (v : Nat)) 4096)
theorem refK_zero (l : List Wr) : refK l 0 = [] := rfl
theorem refK_succ (l : List Wr) (k : Nat) : refK l (k + 1) = refK l k ++ pickW (eff l) (k : Nat) (runsE (markedBy l (k : Nat)) 4096) := by
  unfold refK; rw [List.range_succ, List.flatMap_append]; simp
theorem refK_all (l : List Wr) : refK l 8 = foldW l := by
  unfold refK foldW canonOf canonV
  congr 1
  funext v
  rw [marked_eff]
theorem pickW_snoc (f : Int → Int → Option Sec) (v : Int) (l : List Ext) {k : Nat} {e : Ext} (h : l[k]? = some e) : pickW f v (l.take (k + 1)) = pickW f v (l.take k) ++ [pick1 f v e] := by
  obtain ⟨hk, rfl⟩ := List.getElem?_eq_some_iff.1 h
  unfold pickW
  rw [List.take_succ_eq_append_getElem hk, List.map_append]
  rfl
/-- one write, its first k sectors -/
def pickD (f : Int → Int → Option Sec) (v : Int) (e : Ext) (k : Nat) : List Sec := (List.range k).map fun k => (f v (e.start + (k : Nat))).getD Sec.zero
theorem pickD_succ (f : Int → Int → Option Sec) (v : Int) (e : Ext) (k : Nat) : pickD f v e (k + 1) = pickD f v e k ++ [(f v (e.start + (k : Nat))).getD Sec.zero] := by
  unfold pickD; rw [List.range_succ]; simp
theorem pickD_len (f : Int → Int → Option Sec) (v : Int) (e : Ext) (k : Nat) : (pickD f v e k).length = k := by simp [pickD]
theorem pick1_eq (f : Int → Int → Option Sec) (v : Int) (e : Ext) : pick1 f v e = ⟨v, e.start, pickD f v e e.count.toNat⟩ := rfl
theorem eff_take {l : List Wr} {k : Nat} {w : Wr} (h : l[k]? = some w) (v s : Int) : eff (l.take (k + 1)) v s = (w.at? v s).or (eff (l.take k) v s) := by
  obtain ⟨hk, rfl⟩ := List.getElem?_eq_some_iff.1 h
  rw [List.take_succ_eq_append_getElem hk, eff_snoc]
end Sb

set_option linter.unusedVariables false
namespace Sb

/-! ### two neighbours change places -/
theorem swap_split {a : List Wr} {i : Nat} {x y : Wr} (hx : a[i]? = some x) (hy : a[i + 1]? = some y) : ∃ p q, a = p ++ x :: y :: q ∧ (a.set i y).set (i + 1) x = p ++ y :: x :: q := by
  obtain ⟨hi, rfl⟩ := List.getElem?_eq_some_iff.1 hx
  obtain ⟨hi1, rfl⟩ := List.getElem?_eq_some_iff.1 hy
  have e : a = a.take i ++ a[i] :: a[i + 1] :: a.drop (i + 2) := by
    rw [← List.drop_eq_getElem_cons hi1, ← List.drop_eq_getElem_cons hi, List.take_append_drop]
  refine ⟨a.take i, a.drop (i + 2), e, ?_⟩
  refine List.ext_getElem? fun k => ?_
  have hl : (a.take i).length = i := by rw [List.length_take]; omega
  rw [List.getElem?_set, List.getElem?_set]
  rcases Nat.lt_trichotomy k i with h | h | h
  · rw [if_neg (by omega), if_neg (by omega), List.getElem?_append_left (by omega), List.getElem?_take, if_pos h]
  · subst h
    rw [if_neg (by omega), if_pos rfl, List.getElem?_append_right (by omega), hl]
    simp [hi]
  · rcases Nat.eq_or_lt_of_le (Nat.succ_le_of_lt h) with h2 | h2
    · subst h2
      rw [if_pos rfl, List.getElem?_append_right (by omega), hl]
      have : i.succ - i = 1 := by omega
      simp [this, hi1]
    · rw [if_neg (by omega), if_neg (by omega), List.getElem?_append_right (by omega), hl]
      obtain ⟨m, hm⟩ : ∃ m, k = i + 2 + m := ⟨k - (i + 2), by omega⟩
      subst hm
      have : i + 2 + m - i = m + 2 := by omega
      simp [this, List.getElem?_drop]
def Overlap (x y : Wr) : Prop := x.vol = y.vol ∧ x.start < y.start + y.data.length ∧ y.start < x.start + x.data.length
theorem swap_eff {a : List Wr} {i : Nat} {x y : Wr} (hx : a[i]? = some x) (hy : a[i + 1]? = some y) (hno : ¬ Overlap x y) : eff ((a.set i y).set (i + 1) x) = eff a := by
  obtain ⟨p, q, h1, h2⟩ := swap_split hx hy
  rw [h2]
  conv => rhs; rw [h1]
  funext v s
  rw [eff_append, eff_append]
  congr 1
  simp only [eff_cons]
  rw [Option.or_assoc, Option.or_assoc]
  congr 1
  rcases hp : x.at? v s with _ | u
  · simp
  · rcases hq : y.at? v s with _ | u2
    · simp
    · exfalso
      have h3 := at?_isSome.1 (show (x.at? v s).isSome = true by rw [hp]; rfl)
      have h4 := at?_isSome.1 (show (y.at? v s).isSome = true by rw [hq]; rfl)
      exact hno ⟨by omega, by omega, by omega⟩
theorem swap_all {P : Wr → Prop} {a : List Wr} {i : Nat} {x y : Wr} (hx : a[i]? = some x) (hy : a[i + 1]? = some y) (h : ∀ z ∈ a, P z) : ∀ z ∈ (a.set i y).set (i + 1) x, P z := by
  intro z hz
  rcases List.mem_or_eq_of_mem_set hz with hz | rfl
  · rcases List.mem_or_eq_of_mem_set hz with hz | rfl
    · exact h z hz
    · exact h _ (List.mem_of_getElem? hy)
  · exact h _ (List.mem_of_getElem? hx)
end Sb
