import Derived.Test.YtccbbecfmfldbaaQ1
set_option linter.unusedVariables false
namespace Sb

/-! ### the sweep over the ends of two lists of extents -/
structure End where
  at_ : Int
  list : Int
  step : Int
deriving DecidableEq

/-- The part of an extent that lies in 0 to 4096; none if it is empty. -/
def within (e : Ext) : Option (Int × Int) :=
  if e.count ≤ 0 then none else
    let from_ := max e.start 0
    let to := if e.start < 0 ∨ e.count < 4096 - e.start then min (e.start + e.count) 4096 else 4096
    if from_ < to then some (from_, to) else none
/-- Whether an extent contains a sector. -/
def Ext.holds (e : Ext) (s : Int) : Bool := decide (e.start ≤ s) && decide (s < e.start + e.count) && decide (0 ≤ s) && decide (s < 4096)
def memC (l : List Ext) (s : Int) : Bool := l.any (·.holds s)
theorem Ext.holds_iff {e : Ext} {s : Int} : e.holds s = true ↔ e.start ≤ s ∧ s < e.start + e.count ∧ 0 ≤ s ∧ s < 4096 := by simp [Ext.holds, and_assoc]
theorem memC_dom {l : List Ext} {s : Int} (h : memC l s = true) : 0 ≤ s ∧ s < 4096 := by
  simp only [memC, List.any_eq_true] at h
  obtain ⟨e, _, h⟩ := h
  exact (Ext.holds_iff.1 h).2.2

theorem within_none {e : Ext} (h : within e = none) (s : Int) : e.holds s = false := by
  unfold within at h
  rw [Bool.eq_false_iff]
  intro hh
  have := Ext.holds_iff.1 hh
  by_cases hc : e.count ≤ 0
  · omega
  · rw [if_neg hc] at h
    simp only at h
    split at h
    · split at h
      · cases h
      · rename_i h1 h2; omega
    · split at h
      · cases h
      · rename_i h1 h2; omega
theorem within_some {e : Ext} {a b : Int} (h : within e = some (a, b)) : 0 ≤ a ∧ a < b ∧ b ≤ 4096 ∧ ∀ s, e.holds s = true ↔ a ≤ s ∧ s < b := by
  unfold within at h
  by_cases hc : e.count ≤ 0
  · rw [if_pos hc] at h; cases h
  · rw [if_neg hc] at h
    simp only at h
    split at h
    · split at h
      · rename_i h1 h2
        simp only [Option.some.injEq, Prod.mk.injEq] at h
        refine ⟨by omega, by omega, by omega, fun s => ?_⟩
        rw [Ext.holds_iff]; omega
      · cases h
    · split at h
      · rename_i h1 h2
        simp only [Option.some.injEq, Prod.mk.injEq] at h
        refine ⟨by omega, by omega, by omega, fun s => ?_⟩
        rw [Ext.holds_iff]; omega
      · cases h

def endsOf (i : Int) : List Ext → List End
  | [] => []
  | e :: l => match within e with
    | some (a, b) => ⟨a, i, 1⟩ :: ⟨b, i, -1⟩ :: endsOf i l
    | none => endsOf i l

/-- What the ends of list i up to s come to. -/
def cnt : List End → Int → Int → Int
  | [], _, _ => 0
  | x :: l, i, s => (if x.list = i ∧ x.at_ ≤ s then x.step else 0) + cnt l i s
theorem cnt_append (a b : List End) (i s : Int) : cnt (a ++ b) i s = cnt a i s + cnt b i s := by
  induction a with
  | nil => simp [cnt]
  | cons x a ih => simp only [List.cons_append, cnt, ih]; omega
theorem cnt_perm {a b : List End} (h : a.Perm b) (i s : Int) : cnt a i s = cnt b i s := by
  induction h with
  | nil => rfl
  | cons x _ ih => simp only [cnt, ih]
  | swap x y l => simp only [cnt]; omega
  | trans _ _ h1 h2 => exact h1.trans h2
theorem cnt_none {l : List End} {i s : Int} (h : ∀ x ∈ l, x.list ≠ i ∨ s < x.at_) : cnt l i s = 0 := by
  induction l with
  | nil => rfl
  | cons x l ih =>
    have := h x (by simp)
    rw [cnt, ih (fun y hy => h y (by simp [hy])), if_neg (by omega)]; rfl
theorem cnt_same {l : List End} {s t : Int} (hst : s ≤ t) (h : ∀ x ∈ l, x.at_ ≤ s ∨ t < x.at_) (i : Int) : cnt l i s = cnt l i t := by
  induction l with
  | nil => rfl
  | cons x l ih =>
    have := h x (by simp)
    rw [cnt, cnt, ih (fun y hy => h y (by simp [hy]))]
    by_cases hc : x.list = i ∧ x.at_ ≤ s
    · rw [if_pos hc, if_pos (by omega)]
    · rw [if_neg hc, if_neg (by omega)]
theorem cnt_all {l : List End} {s t i : Int} (hs : ∀ x ∈ l, x.at_ ≤ s) (ht : ∀ x ∈ l, x.at_ ≤ t) : cnt l i s = cnt l i t := by
  induction l with
  | nil => rfl
  | cons x l ih =>
    have h1 := hs x (by simp); have h2 := ht x (by simp)
    rw [cnt, cnt, ih (fun y hy => hs y (by simp [hy])) (fun y hy => ht y (by simp [hy]))]
    simp [h1, h2]

theorem endsOf_list {i : Int} {l : List Ext} : ∀ x ∈ endsOf i l, x.list = i ∧ 0 ≤ x.at_ ∧ x.at_ ≤ 4096 := by
  induction l with
  | nil => simp [endsOf]
  | cons e l ih =>
    intro x hx
    unfold endsOf at hx
    cases hw : within e with
    | none => rw [hw] at hx; exact ih x hx
    | some ab =>
      obtain ⟨a, b⟩ := ab
      rw [hw] at hx
      obtain ⟨h1, h2, h3, _⟩ := within_some hw
      rcases List.mem_cons.1 hx with rfl | hx
      · exact ⟨rfl, h1, by simp only; omega⟩
      · rcases List.mem_cons.1 hx with rfl | hx
        · exact ⟨rfl, by simp only; omega, h3⟩
        · exact ih x hx
theorem cnt_endsOf (i : Int) (l : List Ext) (s : Int) : 0 ≤ cnt (endsOf i l) i s ∧ (0 < cnt (endsOf i l) i s ↔ memC l s = true) := by
  induction l with
  | nil => simp [endsOf, cnt, memC]
  | cons e l ih =>
    unfold endsOf
    have hm : memC (e :: l) s = (e.holds s || memC l s) := rfl
    cases hw : within e with
    | none =>
      simp only
      rw [hm, within_none hw s, Bool.false_or]; exact ih
    | some ab =>
      obtain ⟨a, b⟩ := ab
      obtain ⟨h1, h2, h3, h4⟩ := within_some hw
      simp only [cnt, true_and]
      rw [hm]
      have h4' := h4 s
      cases hh : e.holds s with
      | true =>
        have := h4'.1 hh
        rw [if_pos (by omega), if_neg (by omega)]
        simp only [Bool.true_or, iff_true]
        omega
      | false =>
        have : ¬ (a ≤ s ∧ s < b) := fun h => by rw [h4'.2 h] at hh; cases hh
        simp only [Bool.false_or]
        by_cases ha : a ≤ s
        · rw [if_pos ha, if_pos (by omega)]
          constructor
          · omega
          · rw [← ih.2]; omega
        · rw [if_neg ha, if_neg (by omega)]
          constructor
          · omega
          · rw [← ih.2]; omega

/-- Whether the next end lies at the same sector. -/
def sameNext : List End → Int → Bool
  | [], _ => false
  | y :: _, a => y.at_ == a
/-- The loop over the sorted ends. -/
def sweepL (keep : Bool → Bool → Bool) : List End → Int → Int → Int → Bool → List Ext
  | [], _, _, _, _ => []
  | x :: l, d0, d1, start, inside =>
    let d0 := if x.list = 0 then d0 + x.step else d0
    let d1 := if x.list = 1 then d1 + x.step else d1
    if sameNext l x.at_ then sweepL keep l d0 d1 start inside
    else
      let now := keep (decide (0 < d0)) (decide (0 < d1))
      let start := if now && !inside then x.at_ else start
      let tail := sweepL keep l d0 d1 start now
      if !now && inside then ⟨start, x.at_ - start⟩ :: tail else tail

def pOf (keep : Bool → Bool → Bool) (E : List End) (s : Int) : Bool := keep (decide (0 < cnt E 0 s)) (decide (0 < cnt E 1 s))

structure SweepInv (keep : Bool → Bool → Bool) (E pre rest : List End) (cur d0 d1 start : Int) (inside : Bool) : Prop where
  split : E = pre ++ rest
  sorted : E.Pairwise fun x y => x.at_ ≤ y.at_
  d0 : ∀ t, (∀ x ∈ pre, x.at_ ≤ t) → cnt pre 0 t = d0
  d1 : ∀ t, (∀ x ∈ pre, x.at_ ≤ t) → cnt pre 1 t = d1
  ahead : ∀ x ∈ rest, cur < x.at_
  pre_ok : ∀ y ∈ pre, y.at_ ≤ cur ∨ ∃ x, rest.head? = some x ∧ y.at_ = x.at_
  in_ : inside = pOf keep E cur
  start : inside = true → start ≤ cur ∧ ∀ s, start ≤ s → s ≤ cur → pOf keep E s = true

theorem sweep_spec {keep : Bool → Bool → Bool} {E : List End} (hk : ∀ t, (∀ x ∈ E, x.at_ ≤ t) → pOf keep E t = false) : ∀ (rest pre : List End) (cur d0 d1 start : Int) (inside : Bool),
    SweepInv keep E pre rest cur d0 d1 start inside →
    CanonE (if inside then start else cur + 1) (sweepL keep rest d0 d1 start inside) ∧ ∀ s, mem (sweepL keep rest d0 d1 start inside) s = (decide ((if inside then start else cur + 1) ≤ s) && pOf keep E s)
  | [], pre, cur, d0, d1, start, inside, h => by
    have hE : ∀ x ∈ E, x.at_ ≤ cur := by
      rw [h.split, List.append_nil]
      intro y hy
      rcases h.pre_ok y hy with h' | ⟨x, hx, _⟩
      · exact h'
      · cases hx
    have hi : inside = false := h.in_.trans (hk cur hE)
    subst hi
    refine ⟨trivial, fun s => ?_⟩
    simp only [sweepL, mem_nil, Bool.false_eq_true, if_false]
    by_cases hs : cur + 1 ≤ s
    · rw [hk s (fun x hx => by have := hE x hx; omega)]; simp
    · simp [hs]
  | x :: l, pre, cur, d0, d1, start, inside, h => by
    have hpx : ∀ y ∈ pre, y.at_ ≤ x.at_ := by
      have := h.sorted; rw [h.split, List.pairwise_append] at this
      exact fun y hy => this.2.2 y hy x (by simp)
    have hxl : ∀ y ∈ l, x.at_ ≤ y.at_ := by
      have := h.sorted; rw [h.split, List.pairwise_append] at this
      exact (List.pairwise_cons.1 this.2.1).1
    have hcx := h.ahead x (by simp)
    have hd : ∀ (i d : Int), (∀ t, (∀ y ∈ pre, y.at_ ≤ t) → cnt pre i t = d) → ∀ t, (∀ y ∈ pre ++ [x], y.at_ ≤ t) → cnt (pre ++ [x]) i t = if x.list = i then d + x.step else d := by
      intro i d hd t ht
      rw [cnt_append, hd t (fun y hy => ht y (by simp [hy]))]
      have : x.at_ ≤ t := ht x (by simp)
      simp only [cnt, this, and_true]
      split <;> omega
    have hsp : E = (pre ++ [x]) ++ l := by rw [h.split]; simp
    -- between two ends nothing turns
    have hpre : ∀ y ∈ pre, y.at_ ≤ cur ∨ y.at_ = x.at_ := by
      intro y hy
      rcases h.pre_ok y hy with h' | ⟨z, hz, h'⟩
      · exact .inl h'
      · cases hz; exact .inr h'
    have hconst : ∀ s, cur ≤ s → s < x.at_ → pOf keep E s = pOf keep E cur := by
      intro s h1 h2
      have hc : ∀ i, cnt E i cur = cnt E i s := by
        refine cnt_same h1 fun y hy => ?_
        rw [h.split] at hy
        rcases List.mem_append.1 hy with hy | hy
        · rcases hpre y hy with h' | h' <;> omega
        · rcases List.mem_cons.1 hy with rfl | hy
          · omega
          · have := hxl y hy; omega
      unfold pOf; rw [hc, hc]
    unfold sweepL
    by_cases hskip : sameNext l x.at_ = true
    · simp only [hskip, if_true]
      cases l with
      | nil => simp [sameNext] at hskip
      | cons y l =>
        have hy : y.at_ = x.at_ := by simpa [sameNext] using hskip
        refine sweep_spec hk (y :: l) (pre ++ [x]) cur _ _ start inside ⟨hsp, h.sorted, hd 0 d0 h.d0, hd 1 d1 h.d1, fun z hz => h.ahead z (by simp [hz]), ?_, h.in_, h.start⟩
        intro z hz
        rcases List.mem_append.1 hz with hz | hz
        · rcases hpre z hz with h' | h'
          · exact .inl h'
          · exact .inr ⟨y, rfl, by omega⟩
        · obtain rfl := List.mem_singleton.1 hz
          exact .inr ⟨y, rfl, hy.symm⟩
    · have hl : ∀ y ∈ l, x.at_ < y.at_ := by
        cases l with
        | nil => simp
        | cons y l =>
          have hne : y.at_ ≠ x.at_ := by simpa [sameNext] using hskip
          have hy := hxl y (by simp)
          have := h.sorted; rw [h.split, List.pairwise_append] at this
          have hyl := (List.pairwise_cons.1 (List.pairwise_cons.1 this.2.1).2).1
          intro z hz
          rcases List.mem_cons.1 hz with rfl | hz
          · omega
          · have := hyl z hz; omega
      have hpx' : ∀ y ∈ pre ++ [x], y.at_ ≤ x.at_ := by
        intro y hy
        rcases List.mem_append.1 hy with hy | hy
        · exact hpx y hy
        · obtain rfl := List.mem_singleton.1 hy; omega
      have hcnt : ∀ i, cnt E i x.at_ = cnt (pre ++ [x]) i x.at_ := by
        intro i
        rw [hsp, cnt_append, cnt_none (l := l) (fun y hy => .inr (hl y hy))]; omega
      have hnow : keep (decide (0 < if x.list = 0 then d0 + x.step else d0)) (decide (0 < if x.list = 1 then d1 + x.step else d1)) = pOf keep E x.at_ := by
        unfold pOf; rw [hcnt, hcnt, hd 0 d0 h.d0 _ hpx', hd 1 d1 h.d1 _ hpx']
      simp only [hskip, if_false, Bool.false_eq_true]
      rw [hnow]
      have hin := h.in_
      have inv : ∀ start', (pOf keep E x.at_ = true → start' ≤ x.at_ ∧ ∀ s, start' ≤ s → s ≤ x.at_ → pOf keep E s = true) →
          SweepInv keep E (pre ++ [x]) l x.at_ (if x.list = 0 then d0 + x.step else d0) (if x.list = 1 then d1 + x.step else d1) start' (pOf keep E x.at_) :=
        fun start' hst => ⟨hsp, h.sorted, hd 0 d0 h.d0, hd 1 d1 h.d1, hl, fun y hy => .inl (hpx' y hy), rfl, hst⟩
      cases hp : pOf keep E x.at_ <;> cases inside
      · -- outside, and stays so
        simp only [Bool.false_and, Bool.not_false, Bool.and_false, Bool.false_eq_true, if_false]
        rw [hp] at inv
        obtain ⟨c, m⟩ := sweep_spec hk l (pre ++ [x]) x.at_ _ _ start false (inv start (fun h => by cases h))
        simp only [Bool.false_eq_true, if_false] at c m
        refine ⟨c.mono (by omega), fun s => ?_⟩
        rw [m]
        by_cases h1 : x.at_ + 1 ≤ s
        · simp [h1]; omega
        · by_cases h2 : cur + 1 ≤ s
          · have : pOf keep E s = false := by
              by_cases h3 : s = x.at_
              · rw [h3, hp]
              · rw [hconst s (by omega) (by omega), ← hin]
            simp [this]
          · simp [h1, h2]
      · -- an extent ends
        simp only [Bool.false_and, Bool.not_false, Bool.and_true, Bool.not_true, Bool.false_eq_true, if_false, if_true]
        rw [hp] at inv
        obtain ⟨hs1, hs2⟩ := h.start rfl
        obtain ⟨c, m⟩ := sweep_spec hk l (pre ++ [x]) x.at_ _ _ start false (inv start (fun h => by cases h))
        simp only [Bool.false_eq_true, if_false] at c m
        refine ⟨⟨Int.le_refl _, by simp only; omega, by simp only; exact c.mono (by omega)⟩, fun s => ?_⟩
        rw [mem_cons, m]
        by_cases h1 : start ≤ s
        · by_cases h2 : s < x.at_
          · have : Ext.has ⟨start, x.at_ - start⟩ s = true := Ext.has_iff.2 ⟨h1, by simp only; omega⟩
            have hps : pOf keep E s = true := by
              by_cases h3 : s ≤ cur
              · exact hs2 s h1 h3
              · rw [hconst s (by omega) h2, ← hin]
            simp [this, h1, hps]
          · have : Ext.has ⟨start, x.at_ - start⟩ s = false := by
              rw [Bool.eq_false_iff]; intro hh; have := (Ext.has_iff.1 hh).2; simp only at this; omega
            by_cases h3 : s = x.at_
            · subst h3; simp [this, hp]
            · have h4 : x.at_ + 1 ≤ s := by omega
              simp [this, h1, h4]
        · have : Ext.has ⟨start, x.at_ - start⟩ s = false := by
            rw [Bool.eq_false_iff]; intro hh; have := (Ext.has_iff.1 hh).1; simp only at this; omega
          have h4 : ¬ x.at_ + 1 ≤ s := by omega
          simp [this, h1, h4]
      · -- an extent begins
        simp only [Bool.true_and, Bool.not_false, Bool.not_true, Bool.false_and, Bool.false_eq_true, if_false, if_true]
        rw [hp] at inv
        obtain ⟨c, m⟩ := sweep_spec hk l (pre ++ [x]) x.at_ _ _ x.at_ true (inv x.at_ (fun _ => ⟨by omega, fun s h1 h2 => by rw [show s = x.at_ by omega, hp]⟩))
        simp only [if_true] at c m
        refine ⟨c.mono (by omega), fun s => ?_⟩
        rw [m]
        by_cases h1 : x.at_ ≤ s
        · have : cur + 1 ≤ s := by omega
          simp [h1, this]
        · by_cases h2 : cur + 1 ≤ s
          · rw [hconst s (by omega) (by omega), ← hin]; simp
          · simp [h1, h2]
      · -- inside, and stays so
        simp only [Bool.not_true, Bool.false_and, Bool.and_false, Bool.false_eq_true, if_false]
        rw [hp] at inv
        obtain ⟨hs1, hs2⟩ := h.start rfl
        obtain ⟨c, m⟩ := sweep_spec hk l (pre ++ [x]) x.at_ _ _ start true (inv start (fun _ => ⟨by omega, fun s h1 h2 => by
          by_cases h3 : s ≤ cur
          · exact hs2 s h1 h3
          · by_cases h4 : s = x.at_
            · rw [h4, hp]
            · rw [hconst s (by omega) (by omega), ← hin]⟩))
        exact ⟨c, m⟩

/-- THE SWEEP OVER THE SORTED ENDS OF TWO LISTS GIVES THE CANONICAL LIST. -/
theorem sweep_eq {keep : Bool → Bool → Bool} (hkeep : keep false false = false) (a b : List Ext) {E : List End} (hp : E.Perm (endsOf 0 a ++ endsOf 1 b)) (hs : E.Pairwise fun x y => x.at_ ≤ y.at_) :
    sweepL keep E 0 0 0 false = runsE (fun s => keep (memC a s) (memC b s)) 4096 := by
  have hpo : ∀ s, pOf keep E s = keep (memC a s) (memC b s) := by
    intro s
    have h0 : cnt E 0 s = cnt (endsOf 0 a) 0 s := by
      rw [cnt_perm hp, cnt_append, cnt_none (l := endsOf 1 b)]
      · omega
      · intro x hx; left; have := (endsOf_list x hx).1; omega
    have h1 : cnt E 1 s = cnt (endsOf 1 b) 1 s := by
      rw [cnt_perm hp, cnt_append, cnt_none (l := endsOf 0 a)]
      · omega
      · intro x hx; left; have := (endsOf_list x hx).1; omega
    unfold pOf
    rw [h0, h1]
    have e0 : decide (0 < cnt (endsOf 0 a) 0 s) = memC a s := by rw [Bool.eq_iff_iff]; simp only [decide_eq_true_eq]; exact (cnt_endsOf 0 a s).2
    have e1 : decide (0 < cnt (endsOf 1 b) 1 s) = memC b s := by rw [Bool.eq_iff_iff]; simp only [decide_eq_true_eq]; exact (cnt_endsOf 1 b s).2
    rw [e0, e1]
  have hat : ∀ x ∈ E, 0 ≤ x.at_ ∧ x.at_ ≤ 4096 := by
    intro x hx
    rcases List.mem_append.1 (hp.mem_iff.1 hx) with hx | hx
    · exact (endsOf_list x hx).2
    · exact (endsOf_list x hx).2
  have hout : ∀ s, ¬ (0 ≤ s ∧ s < 4096) → pOf keep E s = false := by
    intro s hs
    rw [hpo]
    have ha : memC a s = false := by rw [Bool.eq_false_iff]; exact fun h => hs (memC_dom h)
    have hb : memC b s = false := by rw [Bool.eq_false_iff]; exact fun h => hs (memC_dom h)
    rw [ha, hb, hkeep]
  have hk : ∀ t, (∀ x ∈ E, x.at_ ≤ t) → pOf keep E t = false := by
    intro t ht
    rw [hpo]
    have z : ∀ (i : Int) (c : List Ext), (∀ x ∈ endsOf i c, x.at_ ≤ t) → memC c t = false := by
      intro i c
      induction c with
      | nil => intro _; rfl
      | cons e c ih =>
        intro h
        have hm : memC (e :: c) t = (e.holds t || memC c t) := rfl
        rw [hm]
        unfold endsOf at h
        cases hw : within e with
        | none => rw [hw] at h; rw [within_none hw, ih h]; rfl
        | some ab =>
          obtain ⟨u, v⟩ := ab
          rw [hw] at h
          obtain ⟨h1, h2, h3, h4⟩ := within_some hw
          have hv := h ⟨v, i, -1⟩ (by simp)
          simp only at hv
          rw [ih (fun x hx => h x (by simp [hx]))]
          have : e.holds t = false := by rw [Bool.eq_false_iff]; intro hh; have := (h4 t).1 hh; omega
          rw [this]; rfl
    have ha := z 0 a (fun x hx => ht x (hp.mem_iff.2 (List.mem_append.2 (.inl hx))))
    have hb := z 1 b (fun x hx => ht x (hp.mem_iff.2 (List.mem_append.2 (.inr hx))))
    rw [ha, hb, hkeep]
  have h := sweep_spec hk E [] (-1) 0 0 0 false ⟨rfl, hs, fun _ _ => rfl, fun _ _ => rfl, fun x hx => by have := (hat x hx).1; omega, by simp, (hout (-1) (by omega)).symm, fun h => by cases h⟩
  simp only [Bool.false_eq_true, if_false] at h
  refine runsE_eq (h.1.mono (by omega)) fun s => ?_
  rw [h.2, ← hpo]
  by_cases hd : 0 ≤ s ∧ s < 4096
  · simp [hd.1, hd.2]
  · rw [hout s hd]; simp
end Sb

set_option linter.unusedVariables false
namespace Go.Mm
open Go.RowKit Sb

def In64 (x : Int) : Prop := -9223372036854775808 ≤ x ∧ x ≤ 9223372036854775807
def u8 (x : Int) : Value := .int .u8 x
def i64 (x : Int) : Value := .int .i64 x
def secCells (s : Sec) : List Value := [.int .u8 s.b0, .int .u8 s.b1, .int .u8 s.b2, .int .u8 s.b3, .int .u8 s.b4, .int .u8 s.b5, .int .u8 s.b6, .int .u8 s.b7]
def RSec : ERel Sec := fun _ _ cs s => cs = secCells s
instance : Steady RSec := ⟨fun h _ => h, fun h _ => h⟩
abbrev RSecs := RSl 8 RSec
def RWr : ERel Wr := fun w S cs x => In64 x.vol ∧ In64 x.start ∧ ∃ dv, cs = [.int .i64 x.vol, .int .i64 x.start, dv] ∧ RSecs w S dv x.data
instance : Steady RWr := ⟨fun ⟨a, b, dv, e, h⟩ hw => ⟨a, b, dv, e, h.keep hw⟩, fun ⟨a, b, dv, e, h⟩ hw => ⟨a, b, dv, e, h.more hw⟩⟩
abbrev RWrs := RSl 3 RWr
def RInt : ERel Int := fun _ _ cs x => In64 x ∧ cs = [.int .i64 x]
instance : Steady RInt := ⟨fun h _ => h, fun h _ => h⟩
abbrev RInts := RSl 1 RInt
theorem ret_int {k : IntKind} {a b : Int} (h : a = b) : Ending.returned (.int k a) = .returned (.int k b) := by rw [h]
theorem ret_bool {a b : Bool} (h : a = b) : Ending.returned (.bool a) = .returned (.bool b) := by rw [h]
theorem pw_below_drewN {B : Nat} {w W : World} (h : Below B w W) (n : Nat) : Below B w (W.drewN n) := ⟨h.os, h.tape, h.output, h.size, h.block⟩
/-- Read through whatever blocks. -/
def Any : Nat → Prop := fun _ => True
def sectors (l : List Wr) : Int := (l.map fun w => (w.data.length : Int)).sum
end Go.Mm
