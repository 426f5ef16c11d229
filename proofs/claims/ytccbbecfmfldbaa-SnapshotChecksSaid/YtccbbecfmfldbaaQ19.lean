import Derived.Test.YtccbbecfmfldbaaQ18
import Derived.Laws.CopyRow
import Derived.Laws.CopyOwn
set_option linter.unusedVariables false
set_option linter.unusedSimpArgs false
namespace Go.Mm
open Go.RowKit Sb

/-! ### copy of elements of k cells -/
theorem run_copy_rowK {P : Program} (w : World) (dT sT ty elem : TypeId) (g o dLen dCap : Nat) (a : Addr) (sLen sCap k : Nat) (cur : Array Value) (t : TypeId) (cs : List Value)
    (hu : P.underlying dT = some (.slice elem)) (hs : (P.info? elem).map (·.size) = some k)
    (hg : w.heap[g]? = some (.cells cur t (0, 0))) (hn : cs.length = Nat.min sLen dLen * k)
    (hsrc : ∀ j v, cs[j]? = some v → w.cell? (a.add j) = some v) (hfit : o + cs.length ≤ cur.size) (h1 : ∀ v ∈ cs, v.oneCell' = true) :
    (Builtin.copy_ #[dT, sT] ty #[.slice (some ⟨g, o, none⟩) dLen dCap, .slice (some a) sLen sCap]).run P w =
      .ok (goInt (Nat.min sLen dLen)) (w.setRow g (cur.toList.take o ++ cs ++ cur.toList.drop (o + cs.length)).toArray) := by
  have hl := run_loadCells_list (P := P) w a cs hsrc
  have hst := run_storeCells_at P g o t cs 0 cur w hg (by simpa using hfit) h1
  cases hq : P.info? elem with
  | none => simp [hq] at hs
  | some i =>
    have hi : i.size = k := by simpa [hq] using hs
    simp [Builtin.copy_, run_underlying hu, Builtin.lenOf, Builtin.firstCells, sizeOf, typeInfo, hq, hi, ← hn, hl, hst]
theorem take_flat {k : Nat} : ∀ {css : List (List Value)} (h : ∀ cs ∈ css, cs.length = k) (j : Nat), css.flatten.take (j * k) = (css.take j).flatten
  | [], _, j => by simp
  | c :: css, h, 0 => by simp
  | c :: css, h, j + 1 => by
    have hc := h c (by simp)
    rw [List.flatten_cons, List.take_succ_cons, List.flatten_cons, ← take_flat (fun x hx => h x (by simp [hx])) j, List.take_append, hc]
    have e : (j + 1) * k - k = j * k := by rw [Nat.add_mul]; omega
    rw [e, List.take_of_length_le (by rw [hc, Nat.add_mul]; omega)]
theorem drop_flat {k : Nat} : ∀ {css : List (List Value)} (h : ∀ cs ∈ css, cs.length = k) (j : Nat), css.flatten.drop (j * k) = (css.drop j).flatten
  | [], _, j => by simp
  | c :: css, h, 0 => by simp
  | c :: css, h, j + 1 => by
    have hc := h c (by simp)
    rw [List.flatten_cons, List.drop_succ_cons, ← drop_flat (fun x hx => h x (by simp [hx])) j, List.drop_append, hc]
    have e : (j + 1) * k - k = j * k := by rw [Nat.add_mul]; omega
    rw [e, List.drop_eq_nil_of_le (by rw [hc, Nat.add_mul]; omega), List.nil_append]
theorem flat_splice {α : Type} {enc : α → List Value} {k : Nat} (hk : ∀ x, (enc x).length = k) (xs ys : List α) (off : Nat) :
    ((splice xs off ys).map enc).flatten = ((xs.map enc).flatten).take (off * k) ++ ((ys.map enc).flatten ++ ((xs.map enc).flatten).drop ((off + ys.length) * k)) := by
  have hm : ∀ cs ∈ xs.map enc, cs.length = k := by intro cs hc; obtain ⟨x, _, rfl⟩ := List.mem_map.1 hc; exact hk x
  rw [take_flat hm, drop_flat hm]
  simp [splice, List.map_take, List.map_drop]
theorem splice_row (L F cs : List Value) (N o : Nat) (hF : L.take N = F) (h1 : o + cs.length ≤ N) (h2 : N ≤ L.length) : (L.take o ++ cs ++ L.drop (o + cs.length)).take N = F.take o ++ (cs ++ F.drop (o + cs.length)) := by
  subst hF
  rw [List.append_assoc, List.take_append, List.length_take, Nat.min_eq_left (by omega), List.take_take, Nat.min_eq_right (by omega), List.take_append, List.take_take, Nat.min_eq_left (by omega)]
  congr 1
  rw [List.take_of_length_le (by omega), List.drop_take]
  congr 2
  omega
theorem OwnSl.copied {P : Program} {α : Type} {enc : α → List Value} {e : TypeId} {k : Nat} {w : World} {base : Nat} {S S' : Nat → Prop} {g n cap : Nat} {xs ys : List α} (hk : ∀ x, (enc x).length = k) (h0 : 0 < k) (hone : ∀ x, ∀ u ∈ enc x, u.oneCell' = true)
    (h : OwnSl e k (RPure enc) w base S (.slice (some ⟨g, 0, none⟩) n cap) xs) {off dLen dCap sCap : Nat} {ad : Addr} (hy : RSl k (RPure enc) w S' (.slice (some ad) ys.length sCap) ys) (hfit : off + ys.length ≤ xs.length) (hd : ys.length ≤ dLen)
    (dT sT ty : TypeId) (hu : P.underlying dT = some (.slice e)) (hs : (P.info? e).map (·.size) = some k) :
    ∃ w', (Builtin.copy_ #[dT, sT] ty #[.slice (some ⟨g, off * k, none⟩) dLen dCap, .slice (some ad) ys.length sCap]).run P w = .ok (goInt ys.length) w' ∧
      OwnSl e k (RPure enc) w' base S (.slice (some ⟨g, 0, none⟩) n cap) (splice xs off ys) ∧ w.grownBy w' (some g) := by
  obtain ⟨css, l1, l2, l3, l4⟩ := hy.cells h0
  have hcs : css = ys.map enc := by
    refine List.ext_getElem (by simpa using l1) fun i hi hi' => ?_
    have := l3 i _ _ (List.getElem?_eq_getElem hi) (List.getElem?_eq_getElem (by omega))
    simpa [RPure] using this
  obtain ⟨c, o1, o2, o3, o4⟩ := h
  have hc : c = xs.map enc := by
    refine List.ext_getElem (by simpa using o2) fun i hi hi' => ?_
    have := o4 i _ _ (List.getElem?_eq_getElem hi) (List.getElem?_eq_getElem (by omega))
    simpa [RPure] using this
  subst hc
  rcases o1.2 with ⟨hv, _⟩ | ⟨g', cap', cur, hv, hbg, hg, hn, hm, hsz, htake⟩
  · cases hv
  injection hv with e1 e2 e3
  injection e1 with e1
  injection e1 with e1 _ _
  subst e1 e2 e3
  have hfl : css.flatten.length = ys.length * k := by rw [flatten_len l2, l1]
  have hNl : (off + ys.length) * k ≤ xs.length * k := Nat.mul_le_mul_right _ hfit
  have hNc : xs.length * k ≤ cap * k := Nat.mul_le_mul_right _ hn
  rw [Nat.add_mul] at hNl
  have hrun := run_copy_rowK (P := P) w dT sT ty e g (off * k) dLen dCap ad ys.length sCap k cur e css.flatten hu hs hg (by rw [hfl]; congr 1; exact (Nat.min_eq_left hd).symm) l4 (by rw [hfl, hsz]; omega) (by
    intro u hu
    obtain ⟨cs, hcm, hum⟩ := List.mem_flatten.1 hu
    rw [hcs] at hcm
    obtain ⟨x, _, rfl⟩ := List.mem_map.1 hcm
    exact hone x u hum)
  rw [show Nat.min ys.length dLen = ys.length from Nat.min_eq_left hd] at hrun
  have hlen : (splice xs off ys).length = xs.length := length_splice xs off ys hfit
  refine ⟨_, hrun, ⟨(splice xs off ys).map enc, ⟨?_, .inr ⟨g, cap, _, ?_, hbg, setRow_heap w g cur _ e _ hg, by rw [hlen]; exact hn, hm, ?_, ?_⟩⟩, by simp, ?_, ?_⟩, ⟨rfl, rfl, rfl, by simp [World.setRow], fun i hi hne => setRow_other w g i _ (fun e => hne (by rw [e]))⟩⟩
  · rw [flatten_len (k := k) (by intro cs hc; obtain ⟨x, _, rfl⟩ := List.mem_map.1 hc; exact hk x), List.length_map]
  · rw [hlen]
  · simp [hfl]; omega
  · rw [hlen]
    simp only [List.toList_toArray]
    rw [splice_row _ _ _ _ _ htake (by rw [hfl]; omega) (by simp [hsz]; omega), hfl, flat_splice hk, hcs, Nat.add_mul]
  · intro cs hc; obtain ⟨x, _, rfl⟩ := List.mem_map.1 hc; exact hk x
  · intro j cs x hj hx
    rw [List.getElem?_map, hx] at hj
    simp at hj
    exact hj.symm
end Go.Mm
