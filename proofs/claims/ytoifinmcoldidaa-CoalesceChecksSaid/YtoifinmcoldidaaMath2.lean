import Derived.Test.YtoifinmcoldidaaMath1
set_option linter.unusedVariables false
namespace Sb

/-! ### writes and effects -/
def Wr.at? (w : Wr) (v s : Int) : Option Sec :=
  if w.vol = v ∧ w.start ≤ s ∧ s < w.start + w.data.length then some (w.data.getD (s - w.start).toNat Sec.zero) else none
/-- The effect of a list on a sector of a volume. -/
def eff : List Wr → Int → Int → Option Sec
  | [], _, _ => none
  | w :: l, v, s => (eff l v s).or (w.at? v s)
theorem eff_nil (v s : Int) : eff [] v s = none := rfl
theorem eff_cons (w : Wr) (l : List Wr) (v s : Int) : eff (w :: l) v s = (eff l v s).or (w.at? v s) := rfl
theorem eff_append (a b : List Wr) (v s : Int) : eff (a ++ b) v s = (eff b v s).or (eff a v s) := by
  induction a with
  | nil => simp [eff]
  | cons w a ih => rw [List.cons_append, eff_cons, ih, eff_cons, Option.or_assoc]
theorem eff_snoc (l : List Wr) (w : Wr) (v s : Int) : eff (l ++ [w]) v s = (w.at? v s).or (eff l v s) := by
  rw [eff_append]; simp [eff]

structure Placed (w : Wr) : Prop where
  v0 : 0 ≤ w.vol
  v8 : w.vol < 8
  ne : w.data ≠ []
  s0 : 0 ≤ w.start
  s4 : w.start + w.data.length ≤ 4096
def AllPlaced (l : List Wr) : Prop := ∀ w ∈ l, Placed w

def Behind (x w : Wr) : Prop := x.vol < w.vol ∨ (x.vol = w.vol ∧ x.start + x.data.length < w.start)
structure Canon (l : List Wr) : Prop where
  ne : ∀ w ∈ l, w.data ≠ []
  pw : l.Pairwise Behind
theorem Canon.nil : Canon [] := ⟨by simp, .nil⟩
theorem Canon.tail {w : Wr} {l : List Wr} (h : Canon (w :: l)) : Canon l := ⟨fun x hx => h.ne x (by simp [hx]), (List.pairwise_cons.1 h.pw).2⟩
theorem Canon.head {w : Wr} {l : List Wr} (h : Canon (w :: l)) : ∀ x ∈ l, Behind w x := (List.pairwise_cons.1 h.pw).1
theorem Canon.append {a b : List Wr} (ha : Canon a) (hb : Canon b) (h : ∀ x ∈ a, ∀ y ∈ b, Behind x y) : Canon (a ++ b) :=
  ⟨fun w hw => (List.mem_append.1 hw).elim (ha.ne w) (hb.ne w), List.pairwise_append.2 ⟨ha.pw, hb.pw, h⟩⟩

theorem at?_none_of {w : Wr} {v s : Int} (h : ¬ (w.vol = v ∧ w.start ≤ s ∧ s < w.start + w.data.length)) : w.at? v s = none := by
  unfold Wr.at?; rw [if_neg h]
theorem at?_some_of {w : Wr} {v s : Int} (h : w.vol = v ∧ w.start ≤ s ∧ s < w.start + w.data.length) : w.at? v s = some (w.data.getD (s - w.start).toNat Sec.zero) := by
  unfold Wr.at?; rw [if_pos h]
theorem at?_isSome {w : Wr} {v s : Int} : (w.at? v s).isSome = true ↔ w.vol = v ∧ w.start ≤ s ∧ s < w.start + w.data.length := by
  unfold Wr.at?; split <;> simp_all
theorem len_pos {w : Wr} (h : w.data ≠ []) : 0 < (w.data.length : Int) := by
  have := List.length_pos_iff.2 h; omega

/-- Where a write stands ahead of all of a list, the list has no effect. -/
theorem eff_none_of_behind {w : Wr} {l : List Wr} {v s : Int} (h : ∀ x ∈ l, Behind w x) (hv : v < w.vol ∨ (v = w.vol ∧ s ≤ w.start + w.data.length)) : eff l v s = none := by
  induction l with
  | nil => rfl
  | cons x l ih =>
    rw [eff_cons, ih (fun y hy => h y (by simp [hy])), at?_none_of, Option.or_none]
    have := h x (by simp)
    unfold Behind at this
    omega

/-- In a canonical list the first write that holds a sector is the only one. -/
theorem eff_canon_cons {w : Wr} {l : List Wr} (h : Canon (w :: l)) (v s : Int) : eff (w :: l) v s = if w.vol = v ∧ w.start ≤ s ∧ s < w.start + w.data.length then some (w.data.getD (s - w.start).toNat Sec.zero) else eff l v s := by
  rw [eff_cons]
  by_cases hc : w.vol = v ∧ w.start ≤ s ∧ s < w.start + w.data.length
  · rw [if_pos hc, at?_some_of hc, eff_none_of_behind h.head (by omega)]; rfl
  · rw [if_neg hc, at?_none_of hc, Option.or_none]

theorem eff_ahead {w : Wr} {l : List Wr} (h : Canon (w :: l)) {v s : Int} (hv : v < w.vol ∨ (v = w.vol ∧ s < w.start)) : eff (w :: l) v s = none := by
  rw [eff_canon_cons h, if_neg (by omega), eff_none_of_behind h.head (by omega)]

theorem canon_unique : ∀ {l l' : List Wr}, Canon l → Canon l' → (∀ v s, eff l v s = eff l' v s) → l = l'
  | [], [], _, _, _ => rfl
  | [], w :: l, _, h', h => by
    have := h w.vol w.start
    have hp := len_pos (h'.ne w (by simp))
    rw [eff_canon_cons h', if_pos (by omega), eff_nil] at this
    cases this
  | w :: l, [], h', _, h => by
    have := h w.vol w.start
    have hp := len_pos (h'.ne w (by simp))
    rw [eff_canon_cons h', if_pos (by omega), eff_nil] at this
    cases this
  | w :: l, w' :: l', hc, hc', h => by
    have hp := len_pos (hc.ne w (by simp))
    have hp' := len_pos (hc'.ne w' (by simp))
    have key : ∀ {w w' : Wr} {l l' : List Wr}, Canon (w :: l) → Canon (w' :: l') → 0 < (w.data.length : Int) → 0 < (w'.data.length : Int) → (∀ v s, eff (w :: l) v s = eff (w' :: l') v s) →
        ¬ (w.vol < w'.vol ∨ (w.vol = w'.vol ∧ w.start < w'.start)) ∧ (w.vol = w'.vol → w.start = w'.start → ¬ (w.data.length : Int) < w'.data.length) := by
      intro w w' l l' hc hc' hp hp' h
      constructor
      · intro hlt
        have := h w.vol w.start
        rw [eff_canon_cons hc, if_pos (by omega), eff_ahead hc' hlt] at this
        cases this
      · intro e1 e2 hlt
        have := h w.vol (w.start + w.data.length)
        rw [eff_canon_cons hc, if_neg (by omega), eff_none_of_behind hc.head (by omega), eff_canon_cons hc', if_pos (by omega)] at this
        cases this
    obtain ⟨k1, k2⟩ := key hc hc' hp hp' h
    obtain ⟨k3, k4⟩ := key hc' hc hp' hp (fun v s => (h v s).symm)
    have e1 : w.vol = w'.vol := by omega
    have e2 : w.start = w'.start := by omega
    have e3 : w.data.length = w'.data.length := by have := k2 e1 e2; have := k4 e1.symm e2.symm; omega
    have e4 : w.data = w'.data := by
      refine List.ext_getElem e3 fun i h1 h2 => ?_
      have := h w.vol (w.start + i)
      rw [eff_canon_cons hc, if_pos (by omega), eff_canon_cons hc', if_pos (by omega)] at this
      have ei : (w.start + i - w.start).toNat = i := by omega
      have ei' : (w.start + i - w'.start).toNat = i := by omega
      rw [ei, ei'] at this
      simpa [List.getD_eq_getElem?_getD, h1, h2] using this
    have e5 : w = w' := by cases w; cases w'; simp_all
    subst e5
    refine congrArg (w :: ·) (canon_unique hc.tail hc'.tail fun v s => ?_)
    have := h v s
    rw [eff_canon_cons hc, eff_canon_cons hc'] at this
    by_cases hh : w.vol = v ∧ w.start ≤ s ∧ s < w.start + w.data.length
    · rw [eff_none_of_behind hc.head (by omega), eff_none_of_behind hc'.head (by omega)]
    · rwa [if_neg hh, if_neg hh] at this

/-! ### the canonical list of an effect -/
/-- The content of an extent. -/
def pick1 (f : Int → Int → Option Sec) (v : Int) (e : Ext) : Wr := ⟨v, e.start, (List.range e.count.toNat).map fun k => (f v (e.start + (k : Nat))).getD Sec.zero⟩
def pickW (f : Int → Int → Option Sec) (v : Int) (l : List Ext) : List Wr := l.map (pick1 f v)
theorem pick1_len (f : Int → Int → Option Sec) (v : Int) (e : Ext) (h : 0 < e.count) : ((pick1 f v e).data.length : Int) = e.count := by simp [pick1]; omega
theorem pick1_at (f : Int → Int → Option Sec) (v : Int) (e : Ext) (h : 0 < e.count) (v' s : Int) : (pick1 f v e).at? v' s = if v' = v ∧ e.has s = true then some ((f v s).getD Sec.zero) else none := by
  have hl := pick1_len f v e h
  unfold Wr.at?
  rw [hl]
  have e1 : (pick1 f v e).vol = v := rfl
  have e2 : (pick1 f v e).start = e.start := rfl
  rw [e1, e2]
  by_cases hc : v = v' ∧ e.start ≤ s ∧ s < e.start + e.count
  · rw [if_pos hc, if_pos ⟨hc.1.symm, Ext.has_iff.2 hc.2⟩]
    have : (s - e.start).toNat < e.count.toNat := by omega
    have e3 : max (s - e.start) 0 = s - e.start := by omega
    have e4 : e.start + (s - e.start) = s := by omega
    simp [pick1, List.getD_eq_getElem?_getD, this, e3, e4]
  · rw [if_neg hc, if_neg]
    rintro ⟨h1, h2⟩
    exact hc ⟨h1.symm, Ext.has_iff.1 h2⟩

theorem pickW_eff (f : Int → Int → Option Sec) (v : Int) : ∀ {lo : Int} {l : List Ext}, CanonE lo l → ∀ v' s, eff (pickW f v l) v' s = if v' = v ∧ mem l s = true then some ((f v s).getD Sec.zero) else none
  | _, [], _, v', s => by simp [pickW, eff, mem]
  | _, e :: l, ⟨h1, h2, h3⟩, v', s => by
    have ih := pickW_eff f v h3 v' s
    show eff (pick1 f v e :: pickW f v l) v' s = _
    rw [eff_cons, ih, pick1_at f v e h2, mem_cons]
    by_cases hv : v' = v
    · cases hb : e.has s <;> cases hm : mem l s <;> simp [hv]
    · simp [hv]

theorem pickW_canon (f : Int → Int → Option Sec) (v : Int) : ∀ {lo : Int} {l : List Ext}, CanonE lo l → Canon (pickW f v l) ∧ ∀ w ∈ pickW f v l, w.vol = v ∧ lo ≤ w.start
  | _, [], _ => ⟨.nil, by simp [pickW]⟩
  | lo, e :: l, ⟨h1, h2, h3⟩ => by
    obtain ⟨ih1, ih2⟩ := pickW_canon f v h3
    have hl := pick1_len f v e h2
    refine ⟨⟨?_, List.pairwise_cons.2 ⟨fun x hx => ?_, ih1.pw⟩⟩, ?_⟩
    · intro w hw
      rcases List.mem_cons.1 hw with rfl | hw
      · intro h; rw [h] at hl; simp at hl; omega
      · exact ih1.ne w hw
    · obtain ⟨a, b⟩ := ih2 x hx
      refine .inr ⟨a.symm, ?_⟩
      rw [hl]
      show e.start + e.count < x.start
      omega
    · intro w hw
      rcases List.mem_cons.1 hw with rfl | hw
      · exact ⟨rfl, h1⟩
      · have := ih2 w hw; exact ⟨this.1, by omega⟩

/-- Volume by volume. -/
def canonV (f : Int → Int → Option Sec) (v : Int) : List Wr := pickW f v (runsE (fun s => (f v s).isSome) 4096)
def canonOf (f : Int → Int → Option Sec) : List Wr := (List.range 8).flatMap fun v => canonV f (v : Nat)
def InDom (v s : Int) : Prop := 0 ≤ v ∧ v < 8 ∧ 0 ≤ s ∧ s < 4096
instance (v s : Int) : Decidable (InDom v s) := by unfold InDom; infer_instance

theorem canonV_eff (f : Int → Int → Option Sec) (v v' s : Int) : eff (canonV f v) v' s = if v' = v ∧ 0 ≤ s ∧ s < 4096 then f v s else none := by
  unfold canonV
  rw [pickW_eff f v (runsE_spec _ 4096).canon, (runsE_spec _ 4096).mem]
  by_cases hv : v' = v <;> by_cases h0 : 0 ≤ s <;> by_cases h1 : s < 4096 <;> simp [hv, h0, h1] <;> cases f v s <;> simp

theorem flat_canon (f : Int → Int → Option Sec) : ∀ n : Nat, Canon ((List.range n).flatMap fun v => canonV f (v : Nat)) ∧ (∀ w ∈ (List.range n).flatMap fun v => canonV f (v : Nat), w.vol < n) ∧
    ∀ v s, eff ((List.range n).flatMap fun v => canonV f (v : Nat)) v s = if 0 ≤ v ∧ v < n ∧ 0 ≤ s ∧ s < 4096 then f v s else none
  | 0 => ⟨.nil, by simp, fun v s => by simp [eff]; omega⟩
  | n + 1 => by
    obtain ⟨i1, i2, i3⟩ := flat_canon f n
    obtain ⟨c1, c2⟩ := pickW_canon f n (runsE_spec (fun s => (f n s).isSome) 4096).canon
    rw [List.range_succ, List.flatMap_append]
    simp only [List.flatMap_cons, List.flatMap_nil, List.append_nil]
    refine ⟨i1.append c1 fun x hx y hy => .inl ?_, fun w hw => ?_, fun v s => ?_⟩
    · rw [(c2 y hy).1]; exact i2 x hx
    · rcases List.mem_append.1 hw with hw | hw
      · have := i2 w hw; omega
      · have := (c2 w hw).1; omega
    · rw [eff_append, canonV_eff, i3]
      by_cases hv : v = n
      · subst hv
        rw [if_neg (c := 0 ≤ (n : Int) ∧ (n : Int) < n ∧ 0 ≤ s ∧ s < 4096) (by omega), Option.or_none]
        by_cases h : 0 ≤ s ∧ s < 4096
        · rw [if_pos ⟨rfl, h⟩, if_pos ⟨by omega, by omega, h⟩]
        · rw [if_neg (by simp; omega), if_neg (by omega)]
      · rw [if_neg (by simp [hv]), Option.none_or]
        by_cases h : 0 ≤ v ∧ v < n ∧ 0 ≤ s ∧ s < 4096
        · rw [if_pos h, if_pos (by omega)]
        · rw [if_neg h, if_neg (by omega)]

theorem canonOf_canon (f : Int → Int → Option Sec) : Canon (canonOf f) := (flat_canon f 8).1
theorem canonOf_eff (f : Int → Int → Option Sec) (v s : Int) : eff (canonOf f) v s = if InDom v s then f v s else none := (flat_canon f 8).2.2 v s

/-- The effect lies within the volumes and sectors that there may be. -/
def Bounded (f : Int → Int → Option Sec) : Prop := ∀ v s, ¬ InDom v s → f v s = none
theorem canonOf_eff' {f : Int → Int → Option Sec} (h : Bounded f) : eff (canonOf f) = f := by
  funext v s
  rw [canonOf_eff]
  split
  · rfl
  · rw [h v s ‹_›]
/-- WHATEVER IS CANONICAL AND HAS THIS EFFECT IS THIS LIST. -/
theorem canonOf_eq {f : Int → Int → Option Sec} (h : Bounded f) {l : List Wr} (hc : Canon l) (he : ∀ v s, eff l v s = f v s) : l = canonOf f :=
  canon_unique hc (canonOf_canon f) fun v s => by rw [he, canonOf_eff' h]
theorem eff_bounded {l : List Wr} (h : AllPlaced l) : Bounded (eff l) := by
  intro v s hd
  induction l with
  | nil => rfl
  | cons w l ih =>
    have hw := h w (by simp)
    rw [eff_cons, ih (fun x hx => h x (by simp [hx])), at?_none_of, Option.or_none]
    have := hw.v0; have := hw.v8; have := hw.s0; have := hw.s4
    unfold InDom at hd
    omega
/-- A canonical list of a bounded effect is placed. -/
theorem canon_placed {l : List Wr} (hc : Canon l) (hb : Bounded (eff l)) : AllPlaced l := by
  induction l with
  | nil => intro w hw; simp at hw
  | cons w l ih =>
    have hp := len_pos (hc.ne w (by simp))
    have hat : ∀ s, w.start ≤ s → s < w.start + w.data.length → InDom w.vol s := by
      intro s h1 h2
      refine Decidable.byContradiction fun hn => ?_
      have := hb w.vol s hn
      rw [eff_canon_cons hc, if_pos ⟨rfl, h1, h2⟩] at this
      cases this
    have a := hat w.start (by omega) (by omega)
    have b := hat (w.start + w.data.length - 1) (by omega) (by omega)
    unfold InDom at a b
    intro x hx
    rcases List.mem_cons.1 hx with rfl | hx
    · exact ⟨a.1, a.2.1, hc.ne _ (by simp), a.2.2.1, by omega⟩
    · refine ih hc.tail (fun v s hd => ?_) x hx
      have := hb v s hd
      rw [eff_cons] at this
      exact (Option.or_eq_none_iff.1 this).1

def foldW (l : List Wr) : List Wr := canonOf (eff l)
theorem foldW_canon (l : List Wr) : Canon (foldW l) := canonOf_canon _
theorem foldW_eff {l : List Wr} (h : AllPlaced l) : eff (foldW l) = eff l := canonOf_eff' (eff_bounded h)
theorem foldW_placed {l : List Wr} (h : AllPlaced l) : AllPlaced (foldW l) :=
  canon_placed (foldW_canon l) (by rw [foldW_eff h]; exact eff_bounded h)
theorem foldW_id {l : List Wr} (hc : Canon l) (h : AllPlaced l) : foldW l = l := (canonOf_eq (eff_bounded h) hc fun _ _ => rfl).symm
end Sb
