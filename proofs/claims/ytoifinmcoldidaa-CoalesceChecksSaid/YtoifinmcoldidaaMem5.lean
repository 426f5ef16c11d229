import Derived.Test.YtoifinmcoldidaaMem4
import Derived.Shelf.SlSortCmp.WholeK
import Derived.Shelf.SlSortCmp.NoneTotal
set_option linter.unusedVariables false
set_option linter.unusedSimpArgs false
namespace Go.Mm
open Go.RowKit Go.Proofs
open Go.Sort hiding Below

/-! ### what the sort does to a row of the call's own -/
theorem grown_sortWorldK {α : Type} [Inhabited α] (enc : α → List Value) (k : Nat) (w : World) (g off m : Nat) (dk : Array α) (os : Array Obj) : w.grownBy (sortWorldK enc k w g off m dk os) (some g) := by
  unfold sortWorldK
  have h1 : w.grownBy (putRowK enc k (Sort.ahead w m) g off dk) (some g) := by
    refine ⟨rfl, rfl, rfl, by simp [putRowK, Sort.putRow, Sort.mapBlock, Sort.ahead], fun i _ hi => ?_⟩
    simp only [putRowK, Sort.putRow, Sort.mapBlock, Sort.ahead, Array.getElem?_modify]
    rw [if_neg (fun e => hi (by rw [e]))]
  exact ⟨h1.os, h1.tape, h1.output, by have := h1.size; simp [Sort.grow] at this ⊢; omega, fun i hi hne => (Sort.heap_grow_old _ _ (Nat.lt_of_lt_of_le hi h1.size)).trans (h1.block i hi hne)⟩

theorem flatK_toList {α : Type} [Inhabited α] (enc : α → List Value) (k : Nat) (hk : ∀ x, (enc x).length = k) (h0 : 0 < k) (xs : List α) (t : Nat) (ht : t < xs.length * k) : (flatK enc k xs.toArray)[t]! = ((xs.map enc).flatten)[t]?.getD default := by
  rw [get_flatK enc k xs.toArray t (by simpa using ht)]
  have hlt : t / k < xs.length := (Nat.div_lt_iff_lt_mul h0).2 ht
  have hm : t % k < k := Nat.mod_lt _ h0
  have hx : (xs.map enc)[t / k]? = some (enc xs[t / k]) := by simp [hlt]
  have := flatten_get (k := k) (cells := xs.map enc) (by intro cs hc; obtain ⟨x, _, rfl⟩ := List.mem_map.1 hc; exact hk x) hx (t % k) hm
  rw [Nat.div_add_mod' t k] at this
  rw [this]
  have e1 : xs.toArray[t / k]! = xs[t / k] := by simp [hlt]
  rw [e1]
  simp [hk, hm]

section
variable {α : Type} [Inhabited α] {P : Program} {ρ : Go.Shelf.Ren} {e : TypeId} {k : Nat} {enc : α → List Value} {w : World} {base : Nat} {S : Nat → Prop} {A : Option Addr} {cap : Nat} {xs : List α}
def RPure (enc : α → List Value) : ERel α := fun _ _ cs x => cs = enc x
instance : Steady (RPure enc) := ⟨fun h _ => h, fun h _ => h⟩

theorem holdsK_own (hk : ∀ x, (enc x).length = k) (h0 : 0 < k) (h : OwnSl e k (RPure enc) w base S (.slice A xs.length cap) xs) (hne : xs ≠ []) : ∃ g, A = some ⟨g, 0, none⟩ ∧ g < w.heap.size ∧ HoldsK enc k w g 0 xs.toArray ∧ xs.length ≤ cap ∧ cap ≤ maxLen := by
  obtain ⟨c, h1, h2, h3, h4⟩ := h
  have hc : c = xs.map enc := by
    refine List.ext_getElem (by simpa using h2) fun i hi hi' => ?_
    have := h4 i _ _ (List.getElem?_eq_getElem hi) (List.getElem?_eq_getElem (by omega))
    simpa [RPure] using this
  subst hc
  rcases h1.2 with ⟨hv, h0⟩ | ⟨g, cap', cur, hv, hbg, hg, hn, hm, hcs, htake⟩
  · exact absurd (List.eq_nil_of_length_eq_zero h0) hne
  · injection hv with e1 e2 e3
    subst e1; subst e3
    refine ⟨g, rfl, (Array.getElem?_eq_some_iff.1 hg).1, fun j hj => ?_, hn, hm⟩
    have hj' : j < xs.length * k := by simpa [flatK] using hj
    have hlen := flatten_len (k := k) h3
    rw [List.length_map] at hlen
    have hjl : j < ((xs.map enc).flatten).length := by omega
    refine ⟨?_, by simp [World.frozen?, hg]⟩
    have := h1.cells (g := g) rfl j _ (List.getElem?_eq_getElem hjl)
    have e1 : (⟨g, 0, none⟩ : Addr).add j = ⟨g, 0 + j, none⟩ := by unfold Addr.add; split <;> simp_all
    rw [e1] at this
    rw [this, flatK_toList enc k hk h0 xs j hj', List.getElem?_eq_getElem hjl]
    rfl

theorem reads_holdsK (hk : ∀ x, (enc x).length = k) {w' : World} {g : Nat} {ys : List α} (h : HoldsK enc k w' g 0 ys.toArray) (hlt : g < w'.heap.size) (hn : ys.length ≤ cap) (hm : cap ≤ maxLen) {T : Nat → Prop} (hT : T g) :
    RSl k (RPure enc) w' T (.slice (some ⟨g, 0, none⟩) ys.length cap) ys := by
  refine ⟨_, cap, rfl, hn, hm, fun _ => ⟨g, 0, rfl, hlt, hT, fun j x hj => ⟨enc x, hk x, fun i hi => ?_, rfl⟩⟩⟩
  obtain ⟨hjl, rfl⟩ := List.getElem?_eq_some_iff.1 hj
  have := (HoldsK.cell h (i := j) (c := i) (by simpa using hjl) hi).1
  rw [this]
  have e1 : ys.toArray[j]! = ys[j] := by simp [hjl]
  rw [e1]
  simp [hk, hi]

theorem sort_own (L : SlLaysF0.n6 P ρ) (aE : ∀ w, (isAgg (ρ.t 24)).run P w = .ok true w) (zE : ∀ w, (Go.sizeOf (ρ.t 24)).run P w = .ok k w) (hk : ∀ x, (enc x).length = k) (h0 : 0 < k) (h1 : ∀ x, ∀ v ∈ enc x, v.oneCell' = true) (cf : α → α → Int) (hO : SWO (ltOf cf)) (f : Nat)
    (ef : ∀ args w, (callFunc f args).run P w = .ok (.enter f args) w)
    (hcmp : ∀ (x y : α) (W : World), Calls P f #[.agg (enc x).toArray, .agg (enc y).toArray] W fun e w' => e = .returned (.int .i64 (cf x y)) ∧ ∃ q os', w' = Sort.grow (W.drewN q) os')
    (h : OwnSl e k (RPure enc) w base S (.slice A xs.length cap) xs) (hsz : xs.length < 4611686018427387904) :
    Calls P (ρ.f 6) #[.slice A xs.length cap, .func (.func f) #[] #[]] w fun en w' => en = .returned (.tuple #[]) ∧ ∃ ys : List α, ys.Perm xs ∧ ys.Pairwise (fun x y => ltOf cf y x = false) ∧ ys.length = xs.length ∧
      RSl k (RPure enc) w' (fun b => A.map (·.block) = some b) (.slice A xs.length cap) ys ∧ w.grownBy w' (A.map (·.block)) := by
  by_cases hne : xs = []
  · subst hne
    refine (AnyF.slices_SortFunc_none { L with } A cap _ w).mono ?_
    rintro en w' ⟨rfl, rfl⟩
    obtain ⟨A', cap', hv, hc, hm⟩ := h.val
    injection hv with e1 e2 e3
    subst e3
    exact ⟨rfl, [], .refl _, .nil, rfl, ⟨A, cap, rfl, by simp, hm, by simp⟩, ⟨rfl, rfl, rfl, Nat.le_refl _, fun _ _ _ => rfl⟩⟩
  · obtain ⟨g, rfl, hg, hH, hn, hm⟩ := holdsK_own hk h0 h hne
    have := AnyQ.slices_SortFunc L k aE zE enc hk h1 cf hO f #[] g 0 cap xs.toArray w ef (fun m os dk _ x y => hcmp x y _) hH hg (by simpa using hsz)
    simp only [List.size_toArray] at this
    refine this.mono ?_
    rintro en w' ⟨rfl, d', n, os, hp, hs, rfl⟩
    obtain ⟨p1, _, p3⟩ := hp
    have hsize : d'.size = xs.length := by simpa using p1
    have hl : d'.toList.length = xs.length := by simpa using hsize
    have hperm : d'.toList.Perm xs := by
      have e1 : (d'.extract 0 xs.length) = d' := by rw [← hsize]; simp
      have e2 : (xs.toArray.extract 0 xs.length) = xs.toArray := by simp
      rw [e1, e2] at p3
      simpa using p3
    refine ⟨rfl, d'.toList, hperm, ?_, hl, ?_, grown_sortWorldK enc k w g 0 n d' os⟩
    · rw [List.pairwise_iff_getElem]
      intro i j hi hj hij
      have := hs i j (Nat.zero_le _) hij (by omega)
      have e1 : d'[j]! = d'.toList[j] := by simp at hj; simp [hj]
      have e2 : d'[i]! = d'.toList[i] := by simp at hi; simp [hi]
      rw [e1, e2] at this
      exact this
    · have hH' := holdsK_sortWorldK_c enc k w g 0 xs.toArray d' n os hH hg (by simpa using hsize)
      have := reads_holdsK (cap := cap) hk (ys := d'.toList) (T := fun b => (some (⟨g, 0, none⟩ : Addr)).map (·.block) = some b) (by simpa using hH') (Nat.lt_of_lt_of_le hg (size_sortWorldK_c enc k w g 0 n d' os)) (by omega) hm rfl
      rwa [hl] at this
end
end Go.Mm
