import Derived.Test.YtoifinmcoldidaaE1
import Derived.Test.YtoifinmcoldidaaC20
import Derived.Test.YtoifinmcoldidaaMaths
set_option linter.unusedVariables false
set_option linter.unusedSimpArgs false
namespace Go.Proofs.Ytoifinmcoldidaa
open Go.RowKit Go.Mm Sb

/-! ### the two parts of a canonical list -/
theorem memC_mem (l : List Ext) (s : Int) (h0 : 0 ≤ s) (h1 : s < 4096) : memC l s = mem l s := by
  unfold memC mem
  congr 1
  funext e
  unfold Ext.holds Ext.has
  simp [h0, h1]
theorem memC_runs (p : Int → Bool) (s : Int) (h0 : 0 ≤ s) (h1 : s < 4096) : memC (runsE p 4096) s = p s := by
  rw [memC_mem _ s h0 h1, (runsE_spec p 4096).mem]
  simp [h0, h1]
theorem runs_none {p : Int → Bool} {n : Nat} (h : ∀ s : Int, 0 ≤ s → s < n → p s = false) : runsE p n = [] := by
  induction n with
  | zero => rfl
  | succ n ih =>
    rw [runsE, if_neg (by rw [h n (by omega) (by omega)]; simp)]
    exact ih fun s a b => h s a (by omega)
def partF (F : Int → Int → Option Sec) (K : Int → Bool) : Int → Int → Option Sec := fun v s => if K s = true then F v s else none
theorem part_bounded {F : Int → Int → Option Sec} (h : Bounded F) (K : Int → Bool) : Bounded (partF F K) := fun v s hh => by
  unfold partF; split
  · exact h v s hh
  · rfl
theorem canonV_canon (f : Int → Int → Option Sec) (v : Int) : Canon (canonV f v) := (pickW_canon f v (runsE_spec _ 4096).canon).1
theorem restrict_eq {l : List Wr} (hp : AllPlaced l) (hc : chkI plI none l = 0) (v : Int) (h0 : 0 ≤ v) (h1 : v < 8) (keep : List Ext) : restrictR l v keep = canonV (partF (eff l) (memC keep)) v := by
  unfold restrictR
  rw [if_pos hc]
  refine canon_unique (canonOf_canon _) (canonV_canon _ _) fun v' s => ?_
  rw [canonOf_eff' (resF_bounded hp), canonV_eff]
  unfold resF partF effP
  by_cases hv : v' = v
  · subst hv
    by_cases hk : memC keep s = true
    · have hd := memC_dom hk
      simp [hk, hd]
    · simp [hk]
  · simp [hv]
def partK (F : Int → Int → Option Sec) (K : Int → Bool) (k : Nat) : List Wr := (List.range k).flatMap fun v => canonV (partF F K) (v : Nat)
theorem partK_succ (F : Int → Int → Option Sec) (K : Int → Bool) (k : Nat) : partK F K (k + 1) = partK F K k ++ canonV (partF F K) (k : Nat) := by
  unfold partK; rw [List.range_succ, List.flatMap_append]; simp
theorem partK_all (F : Int → Int → Option Sec) (K : Int → Bool) : partK F K 8 = canonOf (partF F K) := rfl
section
variable {F : Int → Int → Option Sec} {K N : Int → Bool} (hF : Bounded F) (hKN : ∀ s : Int, 0 ≤ s → s < 4096 → N s = !K s)
include hF
theorem part_eff (K : Int → Bool) : eff (canonOf (partF F K)) = partF F K := canonOf_eff' (part_bounded hF K)
theorem part_placed (K : Int → Bool) : AllPlaced (canonOf (partF F K)) := canon_placed (canonOf_canon _) (by rw [part_eff hF]; exact part_bounded hF K)
include hKN
theorem part_merge : foldW (canonOf (partF F K) ++ canonOf (partF F N)) = canonOf F := by
  unfold foldW
  congr 1
  funext v s
  rw [eff_append, part_eff hF, part_eff hF]
  unfold partF
  by_cases hd : InDom v s
  · rw [hKN s hd.2.2.1 hd.2.2.2]
    cases K s <;> simp
  · rw [hF v s hd]; simp
end
/-- The sectors of a list, one after another. -/
def locsD (l : List Wr) : List SLoc := l.flatMap fun w => (List.range w.data.length).map fun (k : Nat) => (w.vol, w.start + (k : Int))
theorem locsD_len (l : List Wr) : (locsD l).length = secN l := by
  induction l with
  | nil => rfl
  | cons w t ih =>
    have e : locsD (w :: t) = ((List.range w.data.length).map fun (k : Nat) => (w.vol, w.start + (k : Int))) ++ locsD t := rfl
    rw [e, List.length_append, ih]
    simp [secN]
theorem locsD_mem {l : List Wr} {v s : Int} : (v, s) ∈ locsD l ↔ (eff l v s).isSome = true := by
  rw [eff_isSome, List.any_eq_true]
  unfold locsD
  rw [List.mem_flatMap]
  constructor
  · rintro ⟨w, hw, hm⟩
    obtain ⟨k, hk, he⟩ := List.mem_map.1 hm
    injection he with e1 e2
    have := List.mem_range.1 hk
    exact ⟨w, hw, at?_isSome.2 ⟨e1, by omega, by omega⟩⟩
  · rintro ⟨w, hw, hm⟩
    obtain ⟨h1, h2, h3⟩ := at?_isSome.1 hm
    exact ⟨w, hw, List.mem_map.2 ⟨(s - w.start).toNat, List.mem_range.2 (by omega), by rw [h1]; congr 1; omega⟩⟩
theorem locsD_nodup : ∀ {l : List Wr}, Canon l → (locsD l).Nodup
  | [], _ => .nil
  | w :: t, hc => by
    have e : locsD (w :: t) = ((List.range w.data.length).map fun (k : Nat) => (w.vol, w.start + (k : Int))) ++ locsD t := rfl
    rw [e, List.nodup_append]
    refine ⟨?_, locsD_nodup hc.tail, ?_⟩
    · refine List.Pairwise.map _ ?_ List.nodup_range
      intro a b hab he
      injection he with _ e2
      omega
    · intro a ha b hb hab
      subst hab
      obtain ⟨k, hk, rfl⟩ := List.mem_map.1 ha
      have hk' := List.mem_range.1 hk
      have h1 := locsD_mem.1 hb
      rw [eff_none_of_behind hc.head (.inr ⟨rfl, by omega⟩)] at h1
      cases h1
theorem part_sectors {F : Int → Int → Option Sec} {K N : Int → Bool} (hF : Bounded F) (hKN : ∀ s : Int, 0 ≤ s → s < 4096 → N s = !K s) : secN (canonOf (partF F K)) + secN (canonOf (partF F N)) = secN (canonOf F) := by
  have e0 : eff (canonOf F) = F := canonOf_eff' hF
  rw [← locsD_len, ← locsD_len, ← locsD_len, ← List.length_append]
  have hm : ∀ v s, (v, s) ∈ locsD (canonOf (partF F K)) ++ locsD (canonOf (partF F N)) ↔ (v, s) ∈ locsD (canonOf F) := fun v s => by
    rw [List.mem_append, locsD_mem, locsD_mem, locsD_mem, part_eff hF, part_eff hF, e0]
    unfold partF
    by_cases hd : InDom v s
    · rw [hKN s hd.2.2.1 hd.2.2.2]
      cases K s <;> simp
    · rw [hF v s hd]; simp
  have hn : (locsD (canonOf (partF F K)) ++ locsD (canonOf (partF F N))).Nodup := by
    rw [List.nodup_append]
    refine ⟨locsD_nodup (canonOf_canon _), locsD_nodup (canonOf_canon _), fun a ha b hb hab => ?_⟩
    subst hab
    obtain ⟨v, s⟩ := a
    rw [locsD_mem, part_eff hF] at ha hb
    unfold partF at ha hb
    by_cases hd : InDom v s
    · rw [hKN s hd.2.2.1 hd.2.2.2] at hb
      cases hk : K s <;> simp [hk] at ha hb
    · rw [hF v s hd] at ha; simp at ha
  refine Nat.le_antisymm (nodup_len hn fun p hp => ?_) (nodup_len (locsD_nodup (canonOf_canon _)) fun p hp => ?_)
  · obtain ⟨v, s⟩ := p; exact (hm v s).1 hp
  · obtain ⟨v, s⟩ := p; exact (hm v s).2 hp
/-- No sector is in both parts. -/
theorem part_apart {F : Int → Int → Option Sec} {K N : Int → Bool} (hKN : ∀ s : Int, 0 ≤ s → s < 4096 → N s = !K s) (v : Int) (h0 : 0 ≤ v) (h1 : v < 8) :
    runsE (fun s => memC (runsE (markedBy (canonV (partF F K) v) v) 4096) s && memC (runsE (markedBy (canonV (partF F N) v) v) 4096) s) 4096 = [] := by
  refine runs_none fun s a b => ?_
  have b' : s < 4096 := by omega
  rw [memC_runs _ s a b', memC_runs _ s a b']
  have key : ∀ Q : Int → Bool, markedBy (canonV (partF F Q) v) v s = (Q s && (F v s).isSome) := fun Q => by
    have e1 : markedBy (canonV (partF F Q) v) v s = (eff (canonV (partF F Q) v) v s).isSome := by
      rw [eff_isSome]
      unfold markedBy
      congr 1
      funext w
      exact holds_at w v s a b'
    rw [e1, canonV_eff, if_pos ⟨rfl, a, b'⟩]
    unfold partF
    cases Q s <;> simp
  rw [key, key, hKN s a b']
  cases K s <;> simp
end Go.Proofs.Ytoifinmcoldidaa
