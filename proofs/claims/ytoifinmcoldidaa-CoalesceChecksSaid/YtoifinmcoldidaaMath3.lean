import Derived.Test.YtoifinmcoldidaaMath2
set_option linter.unusedVariables false
namespace Sb

/-! ### the program's own way: sorted places, one after another -/
abbrev SLoc := Int × Int
def LocLt (a b : SLoc) : Prop := a.1 < b.1 ∨ (a.1 = b.1 ∧ a.2 < b.2)
/-- The last write gets a sector more. -/
def grow (s : Sec) : List Wr → List Wr
  | [] => []
  | [w] => [⟨w.vol, w.start, w.data ++ [s]⟩]
  | w :: w' :: l => w :: grow s (w' :: l)
theorem grow_snoc (s : Sec) (w : Wr) : ∀ l : List Wr, grow s (l ++ [w]) = l ++ [⟨w.vol, w.start, w.data ++ [s]⟩]
  | [] => rfl
  | [x] => rfl
  | x :: y :: l => by
    have := grow_snoc s w (y :: l)
    simp only [List.cons_append] at this ⊢
    rw [grow, this]
def gval (f : Int → Int → Option Sec) (p : SLoc) : Sec := (f p.1 p.2).getD Sec.zero
def groupStep (f : Int → Int → Option Sec) (st : List Wr × SLoc) (p : SLoc) : List Wr × SLoc :=
  (grow (gval f p) (if p = st.2 then st.1 else st.1 ++ [⟨p.1, p.2, []⟩]), (p.1, p.2 + 1))
def group (f : Int → Int → Option Sec) (l : List SLoc) : List Wr × SLoc := l.foldl (groupStep f) ([], (-1, 0))
theorem group_snoc (f : Int → Int → Option Sec) (l : List SLoc) (p : SLoc) : group f (l ++ [p]) = groupStep f (group f l) p := by simp [group]

theorem grow_length (s : Sec) : ∀ l : List Wr, (grow s l).length = l.length
  | [] => rfl
  | [_] => rfl
  | _ :: y :: l => by have := grow_length s (y :: l); simp only [grow, List.length_cons] at this ⊢; omega
theorem foldl_length (f : Int → Int → Option Sec) : ∀ (l : List SLoc) (st : List Wr × SLoc), (l.foldl (groupStep f) st).1.length ≤ st.1.length + l.length
  | [], st => by simp
  | p :: l, st => by
    have := foldl_length f l (groupStep f st p)
    have h2 : (groupStep f st p).1.length ≤ st.1.length + 1 := by
      unfold groupStep
      simp only [grow_length]
      split <;> simp
    simp only [List.foldl_cons, List.length_cons]; omega
theorem group_length (f : Int → Int → Option Sec) (l : List SLoc) : (group f l).1.length ≤ l.length := by
  have := foldl_length f l ([], (-1, 0)); simpa [group] using this
structure GroupInv (f : Int → Int → Option Sec) (pre : List SLoc) (out : List Wr) (next : SLoc) : Prop where
  canon : Canon out
  eff : ∀ v s, eff out v s = if (v, s) ∈ pre then some (gval f (v, s)) else none
  first : pre = [] → out = [] ∧ next = (-1, 0)
  last : pre ≠ [] → ∃ (out' : List Wr) (w : Wr), out = out' ++ [w] ∧ w.vol = next.1 ∧ w.start + w.data.length = next.2 ∧ (next.1, next.2 - 1) ∈ pre

theorem Behind.trans_new {x w : Wr} {p : SLoc} (hx : Behind x w) (hne : w.data ≠ []) (h : w.vol < p.1 ∨ (w.vol = p.1 ∧ w.start + w.data.length < p.2)) : x.vol < p.1 ∨ (x.vol = p.1 ∧ x.start + x.data.length < p.2) := by
  have := len_pos hne
  unfold Behind at hx
  omega

theorem at?_snoc (w : Wr) (y : Sec) (v s : Int) : Wr.at? ⟨w.vol, w.start, w.data ++ [y]⟩ v s = if v = w.vol ∧ s = w.start + w.data.length then some y else w.at? v s := by
  have hl : ((w.data ++ [y]).length : Int) = w.data.length + 1 := by simp
  unfold Wr.at?
  simp only [hl]
  by_cases h : v = w.vol ∧ s = w.start + w.data.length
  · rw [if_pos h, if_pos (by omega)]
    have : (s - w.start).toNat = w.data.length := by omega
    simp [this, List.getD_eq_getElem?_getD]
  · rw [if_neg h]
    by_cases h2 : w.vol = v ∧ w.start ≤ s ∧ s < w.start + w.data.length
    · rw [if_pos h2, if_pos (by omega)]
      have : (s - w.start).toNat < w.data.length := by omega
      simp [List.getD_eq_getElem?_getD, List.getElem?_append, this]
    · rw [if_neg h2, if_neg (by omega)]

theorem gi_step {f : Int → Int → Option Sec} {pre : List SLoc} {out : List Wr} {next : SLoc} (h : GroupInv f pre out next) {p : SLoc} (hp : ∀ q ∈ pre, LocLt q p) (h0 : 0 ≤ p.1) :
    GroupInv f (pre ++ [p]) (groupStep f (out, next) p).1 (groupStep f (out, next) p).2 := by
  obtain ⟨pv, ps⟩ := p
  have hmem : ∀ v s, (v, s) ∈ pre ++ [(pv, ps)] ↔ ((v, s) ∈ pre ∨ (v = pv ∧ s = ps)) := by intro v s; simp
  have hnew : (pv, ps) ∉ pre := fun hh => by have := hp _ hh; unfold LocLt at this; simp only at this; omega
  by_cases hpre : pre = []
  · obtain ⟨rfl, rfl⟩ := h.first hpre
    subst hpre
    have hne : (pv, ps) ≠ ((-1, 0) : SLoc) := by intro he; injection he with e1 e2; simp only at h0; omega
    simp only [groupStep, hne, if_false, List.nil_append, grow]
    refine ⟨⟨by simp, by simp⟩, fun v s => ?_, by simp, fun _ => ⟨[], _, rfl, rfl, by simp, by simp⟩⟩
    have := at?_snoc ⟨pv, ps, []⟩ (gval f (pv, ps)) v s
    simp only [List.nil_append, List.length_nil, List.mem_singleton, Prod.mk.injEq, Sb.eff, Option.none_or] at this ⊢
    rw [this]
    by_cases hc : v = pv ∧ s = ps
    · rw [if_pos (by omega), if_pos hc, hc.1, hc.2]
    · rw [if_neg (by omega), if_neg hc, at?_none_of (by simp)]
  · obtain ⟨out', w, rfl, e1, e2, e3⟩ := h.last hpre
    have hwne : w.data ≠ [] := h.canon.ne w (by simp)
    have hlw := len_pos hwne
    have hlt := hp _ e3
    unfold LocLt at hlt
    simp only at hlt
    have hpw := h.canon.pw
    rw [List.pairwise_append] at hpw
    by_cases hn : (pv, ps) = next
    · subst hn
      simp only at e1 e2
      simp only [groupStep, if_true, grow_snoc]
      refine ⟨⟨?_, ?_⟩, fun v s => ?_, by simp, fun _ => ⟨out', _, rfl, e1, by simp; omega, by simp⟩⟩
      · intro x hx
        rcases List.mem_append.1 hx with hx | hx
        · exact h.canon.ne x (by simp [hx])
        · obtain rfl := List.mem_singleton.1 hx; simp
      · rw [List.pairwise_append]
        refine ⟨hpw.1, by simp, fun x hx y hy => ?_⟩
        obtain rfl := List.mem_singleton.1 hy
        exact hpw.2.2 x hx w (by simp)
      · have := h.eff v s
        rw [eff_snoc] at this
        rw [eff_snoc, at?_snoc]
        by_cases hc : v = w.vol ∧ s = w.start + w.data.length
        · have hv : v = pv := by omega
          have hs : s = ps := by omega
          subst hv; subst hs
          rw [if_pos hc, if_pos (by simp)]; rfl
        · rw [if_neg hc, this]
          have : ((v, s) ∈ pre ++ [(pv, ps)]) ↔ (v, s) ∈ pre := by rw [hmem]; exact ⟨fun hh => hh.elim id (fun hh => absurd hh (by omega)), .inl⟩
          simp only [this]
    · have hb : w.vol < pv ∨ (w.vol = pv ∧ w.start + w.data.length < ps) := by
        have : ¬ (pv = next.1 ∧ ps = next.2) := fun hh => hn (by rw [hh.1, hh.2])
        omega
      simp only [groupStep, hn, if_false, grow_snoc, List.nil_append]
      refine ⟨⟨?_, ?_⟩, fun v s => ?_, by simp, fun _ => ⟨out' ++ [w], _, rfl, rfl, by simp, by simp⟩⟩
      · intro x hx
        rcases List.mem_append.1 hx with hx | hx
        · exact h.canon.ne x hx
        · obtain rfl := List.mem_singleton.1 hx; simp
      · rw [List.pairwise_append]
        refine ⟨h.canon.pw, by simp, fun x hx y hy => ?_⟩
        obtain rfl := List.mem_singleton.1 hy
        rcases List.mem_append.1 hx with hx | hx
        · exact (hpw.2.2 x hx w (by simp)).trans_new (p := (pv, ps)) hwne hb
        · obtain rfl := List.mem_singleton.1 hx; exact hb
      · rw [eff_snoc, h.eff]
        have := at?_snoc ⟨pv, ps, []⟩ (gval f (pv, ps)) v s
        simp only [List.nil_append, List.length_nil] at this
        rw [this]
        by_cases hc : v = pv ∧ s = ps
        · rw [if_pos (by omega), if_pos ((hmem v s).2 (.inr hc)), hc.1, hc.2]; rfl
        · rw [if_neg (by omega), at?_none_of (by simp only [List.length_nil]; omega), Option.none_or]
          have : ((v, s) ∈ pre ++ [(pv, ps)]) ↔ (v, s) ∈ pre := by rw [hmem]; exact ⟨fun hh => hh.elim id (fun hh => absurd hh hc), .inl⟩
          simp only [this]

theorem gi_all {f : Int → Int → Option Sec} : ∀ (l pre : List SLoc) (st : List Wr × SLoc), GroupInv f pre st.1 st.2 → (pre ++ l).Pairwise LocLt → (∀ p ∈ l, 0 ≤ p.1) →
    GroupInv f (pre ++ l) (l.foldl (groupStep f) st).1 (l.foldl (groupStep f) st).2
  | [], pre, st, h, _, _ => by simpa using h
  | p :: l, pre, st, h, hs, h0 => by
    have hs' : (pre ++ [p] ++ l).Pairwise LocLt := by simpa using hs
    have h1 := gi_step h (p := p) (fun q hq => (List.pairwise_append.1 hs).2.2 q hq p (by simp)) (h0 p (by simp))
    have := gi_all l (pre ++ [p]) (groupStep f st p) h1 hs' (fun q hq => h0 q (by simp [hq]))
    simpa using this

theorem group_inv (f : Int → Int → Option Sec) (l : List SLoc) (hs : l.Pairwise LocLt) (h0 : ∀ p ∈ l, 0 ≤ p.1) : GroupInv f l (group f l).1 (group f l).2 :=
  gi_all l [] ([], (-1, 0)) ⟨.nil, fun v s => by simp [Sb.eff], fun _ => ⟨rfl, rfl⟩, fun h => absurd rfl h⟩ (by simpa using hs) h0

theorem group_eq {f : Int → Int → Option Sec} (hb : Bounded f) {l : List SLoc} (hs : l.Pairwise LocLt) (hm : ∀ v s, (v, s) ∈ l ↔ (f v s).isSome = true) : (group f l).1 = canonOf f := by
  have h0 : ∀ p ∈ l, 0 ≤ p.1 := by
    intro p hp
    have := (hm p.1 p.2).1 hp
    by_cases hd : InDom p.1 p.2
    · exact hd.1
    · rw [hb _ _ hd] at this; cases this
  have hi := group_inv f l hs h0
  refine canonOf_eq hb hi.canon fun v s => ?_
  rw [hi.eff]
  have := hm v s
  cases hf : f v s with
  | none => rw [hf] at this; rw [if_neg]; intro hh; have := this.1 hh; simp at this
  | some x => rw [hf] at this; rw [if_pos (this.2 rfl)]; simp [gval, hf]
theorem nodup_len {α : Type} [DecidableEq α] : ∀ {a b : List α}, a.Nodup → (∀ x ∈ a, x ∈ b) → a.length ≤ b.length
  | [], _, _, _ => by simp
  | x :: a, b, hn, hs => by
    obtain ⟨h1, h2⟩ := List.nodup_cons.1 hn
    have hx := hs x (by simp)
    have := nodup_len (b := b.erase x) h2 fun y hy => (List.mem_erase_of_ne (show y ≠ x from fun e => h1 (e ▸ hy))).2 (hs y (by simp [hy]))
    rw [List.length_erase_of_mem hx] at this
    have := List.length_pos_of_mem hx
    simp; omega
theorem sorted_lt {l : List SLoc} (hn : l.Nodup) (hs : l.Pairwise fun x y => ¬ LocLt y x) : l.Pairwise LocLt := by
  refine List.Pairwise.imp_of_mem ?_ (List.pairwise_and_iff.2 ⟨hs, hn⟩)
  intro a b _ _ ⟨h1, h2⟩
  unfold LocLt at *
  by_cases h3 : a.1 = b.1
  · have : a.2 ≠ b.2 := fun e => h2 (Prod.ext h3 e)
    omega
  · omega
end Sb
