import Derived.Test.YtccbbecfmfldbaaQ21
import Derived.Deep.DeepMust
import Derived.Test.YtccbbecfmfldbaaQ20
set_option maxRecDepth 100000
set_option linter.unusedVariables false
set_option linter.unusedSimpArgs false
namespace Go.Proofs.Ytccbbecfmfldbaa
open Go.RowKit Go.Mm Sb

/-! ### CoalesceAssociates -/
theorem plI_of_placed {w : Wr} (h : Placed w) : plI w = 0 := by
  have h1 := h.v0; have h2 := h.v8; have h3 := h.s0; have h4 := h.s4; have h5 := len_pos h.ne
  unfold plI placedI
  (repeat' split) <;> omega
theorem foldI_of_placed : ∀ {l : List Wr}, AllPlaced l → foldI l = 0
  | [], _ => rfl
  | x :: t, h => by
    unfold foldI
    rw [if_pos (plI_of_placed (h x (by simp)))]
    exact foldI_of_placed fun w hw => h w (by simp [hw])
theorem chk_canon : ∀ {p : Option Wr} {l : List Wr}, Canon l → AllPlaced l → (∀ x, p = some x → ∀ w ∈ l, Behind x w) → chkI plI p l = 0
  | none, [], _, _, _ => rfl
  | some _, [], _, _, _ => rfl
  | none, x :: t, hc, hp, _ => by
    unfold chkI
    rw [if_pos (plI_of_placed (hp x (by simp)))]
    exact chk_canon hc.tail (fun w hw => hp w (by simp [hw])) (fun y hy w hw => by injection hy with hy; subst hy; exact hc.head w hw)
  | some y, x :: t, hc, hp, hb => by
    unfold chkI
    have h1 := hb y rfl x (by simp)
    unfold Behind at h1
    rw [if_pos (plI_of_placed (hp x (by simp))), if_neg (by omega)]
    exact chk_canon hc.tail (fun w hw => hp w (by simp [hw])) (fun z hz w hw => by injection hz with hz; subst hz; exact hc.head w hw)
theorem few_sum : ∀ {l : List Wr}, (∀ x ∈ l, x.data.length ≤ 24) → secN l ≤ 24 * l.length
  | [], _ => by simp [secN]
  | x :: t, h => by
    have h1 := few_sum (l := t) fun y hy => h y (by simp [hy])
    have h2 := h x (by simp)
    have e : secN (x :: t) = x.data.length + secN t := by simp [secN]
    rw [e, List.length_cons]; omega
theorem few_sec {l : List Wr} (h : FewP l) : secN l ≤ 1000000000000 := by have := few_sum h.2; have := h.1; omega
theorem few_sec3 {a b c : List Wr} (h1 : FewP a) (h2 : FewP b) (h3 : FewP c) : secN ((a ++ b) ++ c) ≤ 1000000000000 := by
  rw [secN_append, secN_append]
  have := few_sum h1.2; have := few_sum h2.2; have := few_sum h3.2; have := h1.1; have := h2.1; have := h3.1
  omega
theorem fold_ok (v : Value) (l : List Wr) (w : World) (S : Nat → Prop) (h : RWrs w S v l) (h0 : foldI l = 0) (hsz : secN l ≤ 1000000000000) :
    Calls Try.prog 106 #[v] w (RetWrsE (foldW l) 0 w) := by
  have := fold_any v l w S h hsz
  unfold foldR at this
  rwa [h0, if_pos rfl] at this
theorem own0 (w : World) {S : Nat → Prop} : OwnSl 54 3 RWr (w.alloc (.cells #[] 54)) w.heap.size S (.slice (some ⟨w.heap.size, 0, none⟩) 0 0) [] :=
  ⟨[], ⟨rfl, .inr ⟨w.heap.size, 0, #[], rfl, Nat.le_refl _, heap_alloc_new w _, Nat.le_refl _, by decide, by simp, rfl⟩⟩, rfl, by simp, by simp⟩
theorem wpList_appWr {ops : Array Oper} {rest : List Oper} {o : Oper} {a : Act} {Q : Exit → Act → World → Prop} {W : World} (hgd : o.guard = none) (s y : Operand)
    (ho : o.op = .call { callee := .builtin .append, args := #[s, y], argTypes := #[86, 86] }) (base : Nat) (w0 : World) (h0 : w0.heap.size ≤ base) (v : Value) (xs : List Wr) (hs : a.eval s = v)
    (hown : OwnSl 54 3 RWr W base (fun x => x < w0.heap.size) v xs) (vy : Value) (ys : List Wr) (hx : a.eval y = vy) (hy : RWrs w0 Any vy ys) (hB : Below w0.heap.size w0 W) (hlen : xs.length + ys.length ≤ 1000) (hbase : base ≤ W.heap.size)
    (h : ∀ v' w', OwnSl 54 3 RWr w' base (fun x => x < w0.heap.size) v' (xs ++ ys) → (∀ (B : Nat) (w1 : World), B ≤ base → Below B w1 W → Below B w1 w') → base ≤ w'.heap.size → wpList Try.prog ops Q rest (a.put o.dst v') w') :
    wpList Try.prog ops Q (o :: rest) a W := by
  have hl := hown.lt
  have hy2 : RSl 3 RWr W (fun x => x < w0.heap.size ∧ some x ≠ v.ownBlock) vy ys :=
    ((hy.more (T := fun x => x < w0.heap.size) fun x hx _ => hx).below hB).more fun x _ hx => ⟨hx, fun e => by have := (hl x e.symm).1; omega⟩
  refine wpList_appendMany hgd s y 86 ho 54 _ 3 40 Try.underlying86 infoW rfl (by decide) RWr RWr.one base (fun x => x < w0.heap.size) v xs hs hown vy ys hx hy2 (by omega) (by decide) hbase ?_
  intro v' w' hO hg _
  exact h v' w' hO (fun B w1 hBb hW => hW.grown hg (by omega) (fun j e => by have := (hl j e).1; omega)) (by have := hg.size; omega)
end Go.Proofs.Ytccbbecfmfldbaa

set_option linter.unusedVariables false
set_option linter.unusedSimpArgs false
namespace Go.Proofs.Ytccbbecfmfldbaa
open Go.RowKit Go.Mm Sb

/-! ### a list and its canonical list change an image in the same way -/
def get2 (im : List (List Sec)) (v s : Nat) : Option Sec := (im[v]?).bind fun d => d[s]?
theorem splice_get (d x : List Sec) (o s : Nat) (h : o + x.length ≤ d.length) : (splice d o x)[s]? = if o ≤ s ∧ s < o + x.length then x[s - o]? else d[s]? := by
  unfold splice
  have hl : (d.take o).length = o := by rw [List.length_take]; omega
  by_cases h1 : s < o
  · rw [List.getElem?_append_left (by omega), List.getElem?_take, if_pos h1, if_neg (by omega)]
  · rw [List.getElem?_append_right (by omega), hl]
    by_cases h2 : s < o + x.length
    · rw [List.getElem?_append_left (by omega), if_pos ⟨by omega, h2⟩]
    · rw [List.getElem?_append_right (by omega), if_neg (by omega), List.getElem?_drop]
      congr 1
      omega
theorem get2_putW {im : List (List Sec)} {x : Wr} (h : fitW (lens im) x = 0) (v s : Nat) : get2 (putW im x) v s = (x.at? v s).or (get2 im v s) := by
  obtain ⟨j, d, o, h1, h2, h3, h4, _⟩ := fitW_in h
  rw [putW_eq h1 h2 h3]
  unfold get2
  by_cases hv : j = v
  · subst hv
    obtain ⟨hj, _⟩ := List.getElem?_eq_some_iff.1 h2
    rw [List.getElem?_set, if_pos rfl, if_pos hj, h2]
    show (splice d o x.data)[s]? = _
    rw [splice_get d x.data o s h4]
    by_cases hs : o ≤ s ∧ s < o + x.data.length
    · rw [if_pos hs, at?_some_of ⟨h1, by omega, by omega⟩, Option.some_or, h3]
      have e1 : ((s : Int) - (o : Int)).toNat = s - o := by omega
      rw [e1, List.getD_eq_getElem?_getD, List.getElem?_eq_getElem (show s - o < x.data.length by omega)]
      rfl
    · rw [if_neg hs, at?_none_of (by omega), Option.none_or]; rfl
  · rw [List.getElem?_set, if_neg hv, at?_none_of (by omega), Option.none_or]
theorem get2_putAll : ∀ {l : List Wr} {im : List (List Sec)}, (∀ x ∈ l, fitW (lens im) x = 0) → ∀ v s : Nat, get2 (putAll im l) v s = (eff l v s).or (get2 im v s)
  | [], im, _, v, s => rfl
  | x :: t, im, h, v, s => by
    have h1 := lens_putW (h x (by simp))
    show get2 (putAll (putW im x) t) v s = _
    rw [get2_putAll (im := putW im x) (fun y hy => by rw [h1]; exact h y (by simp [hy])), get2_putW (h x (by simp)), eff_cons, Option.or_assoc]
theorem img_ext {a b : List (List Sec)} (hl : lens a = lens b) (h : ∀ v s, get2 a v s = get2 b v s) : a = b := by
  have hlen : a.length = b.length := by have := congrArg List.length hl; simpa [lens] using this
  refine List.ext_getElem hlen fun v h1 h2 => ?_
  refine List.ext_getElem? fun s => ?_
  have := h v s
  unfold get2 at this
  rw [List.getElem?_eq_getElem h1, List.getElem?_eq_getElem h2] at this
  exact this
theorem put_same {im : List (List Sec)} {l l' : List Wr} (h : ∀ x ∈ l, fitW (lens im) x = 0) (h' : ∀ x ∈ l', fitW (lens im) x = 0) (he : eff l = eff l') : putAll im l = putAll im l' := by
  refine img_ext ((lens_putAll h).trans (lens_putAll h').symm) fun v s => ?_
  rw [get2_putAll h, get2_putAll h', he]
theorem fitsI_zero {S : List Int} {a b : Int} {n : Nat} : fitsI S a b n = 0 ↔ (0 ≤ a ∧ a < S.length ∧ n ≠ 0 ∧ 0 ≤ b ∧ b + n ≤ S.getD a.toNat 0) := by
  unfold fitsI
  constructor
  · intro h
    split at h
    · cases h
    · split at h
      · cases h
      · split at h
        · cases h
        · refine ⟨by omega, by omega, by assumption, by omega, by omega⟩
  · rintro ⟨h1, h2, h3, h4, h5⟩
    rw [if_neg (by omega), if_neg h3, if_neg (by omega)]
theorem fit_canon {S : List Int} {l c : List Wr} (hc : Canon c) (he : eff c = eff l) (h : ∀ x ∈ l, fitW S x = 0) : ∀ w ∈ c, fitW S w = 0 := by
  intro w hw
  have hne := hc.ne w hw
  have hlen := len_pos hne
  have key : ∀ s : Int, w.start ≤ s → s < w.start + w.data.length → ∃ x ∈ l, x.vol = w.vol ∧ x.start ≤ s ∧ s < x.start + x.data.length := fun s h1 h2 => by
    have h3 : (eff c w.vol s).isSome = true := by
      rw [eff_isSome]
      exact List.any_eq_true.2 ⟨w, hw, at?_isSome.2 ⟨rfl, h1, h2⟩⟩
    rw [he, eff_isSome] at h3
    obtain ⟨x, hx, hs⟩ := List.any_eq_true.1 h3
    exact ⟨x, hx, at?_isSome.1 hs⟩
  obtain ⟨x, hx, x1, x2, x3⟩ := key w.start (by omega) (by omega)
  obtain ⟨y, hy, y1, y2, y3⟩ := key (w.start + w.data.length - 1) (by omega) (by omega)
  obtain ⟨a1, a2, a3, a4, a5⟩ := fitsI_zero.1 (h x hx)
  obtain ⟨b1, b2, b3, b4, b5⟩ := fitsI_zero.1 (h y hy)
  rw [x1] at a1 a2
  rw [y1] at b5
  exact fitsI_zero.2 ⟨a1, a2, by intro e; simp [List.eq_nil_of_length_eq_zero e] at hne, by omega, by omega⟩
theorem fit_placed {S : List Int} (hS : sizesI S = 0) {x : Wr} (h : fitW S x = 0) : Placed x := by
  obtain ⟨a1, a2, a3, a4, a5⟩ := fitsI_zero.1 h
  have h1 := sizesI_len hS
  have hm : S.getD x.vol.toNat 0 ≤ 4096 := by
    rw [List.getD_eq_getElem?_getD]
    rcases hg : S[x.vol.toNat]? with _ | y
    · simp
    · simp; exact (sizesI_ok hS y (List.mem_of_getElem? hg)).2
  exact ⟨by omega, by omega, by intro e; simp [e] at a3, by omega, by omega⟩
theorem fitAll_zero : ∀ {S : List Int} {l : List Wr}, fitAll S l = 0 → ∀ x ∈ l, fitW S x = 0
  | S, [], _, x, hx => by simp at hx
  | S, y :: t, h, x, hx => by
    unfold fitAll at h
    split at h
    · rcases List.mem_cons.1 hx with rfl | hx
      · assumption
      · exact fitAll_zero h x hx
    · rename_i hy; exact absurd h hy
theorem fitAll_of : ∀ {S : List Int} {l : List Wr}, (∀ x ∈ l, fitW S x = 0) → fitAll S l = 0
  | S, [], _ => rfl
  | S, y :: t, h => by
    unfold fitAll
    rw [if_pos (h y (by simp))]
    exact fitAll_of fun x hx => h x (by simp [hx])
theorem apE_zero {im : List (List Sec)} {l : List Wr} (h : apE im l = 0) : sizesI (lens im) = 0 ∧ ∀ x ∈ l, fitW (lens im) x = 0 := by
  unfold apE at h
  split at h
  · rename_i hz; exact ⟨hz, fitAll_zero h⟩
  · rename_i hz; exact absurd h hz
theorem apE_of {im : List (List Sec)} {l : List Wr} (hz : sizesI (lens im) = 0) (h : ∀ x ∈ l, fitW (lens im) x = 0) : apE im l = 0 := by
  unfold apE; rw [if_pos hz]; exact fitAll_of h
theorem chk_canonF {S : List Int} : ∀ {p : Option Wr} {l : List Wr}, Canon l → (∀ w ∈ l, fitW S w = 0) → (∀ x, p = some x → ∀ w ∈ l, Behind x w) → chkI (fitW S) p l = 0
  | none, [], _, _, _ => rfl
  | some _, [], _, _, _ => rfl
  | none, w :: t, hc, hp, hb => by
    unfold chkI
    rw [if_pos (hp w (by simp))]
    exact chk_canonF hc.tail (fun y hy => hp y (by simp [hy])) (fun x hx => by injection hx with hx; subst hx; exact hc.head)
  | some x, w :: t, hc, hp, hb => by
    unfold chkI
    have hbw := hb x rfl w (by simp)
    unfold Behind at hbw
    rw [if_pos (hp w (by simp)), if_neg (by omega)]
    exact chk_canonF hc.tail (fun y hy => hp y (by simp [hy])) (fun z hz => by injection hz with hz; subst hz; exact hc.head)
/-- The sectors of a list, one after another. -/
def locs (l : List Wr) : List SLoc := l.flatMap fun w => (List.range w.data.length).map fun (k : Nat) => (w.vol, w.start + (k : Int))
theorem locs_len (l : List Wr) : (locs l).length = secN l := by
  induction l with
  | nil => rfl
  | cons w t ih =>
    have e : locs (w :: t) = ((List.range w.data.length).map fun (k : Nat) => (w.vol, w.start + (k : Int))) ++ locs t := rfl
    rw [e, List.length_append, ih]
    simp [secN]
theorem locs_mem {l : List Wr} {v s : Int} : (v, s) ∈ locs l ↔ (eff l v s).isSome = true := by
  rw [eff_isSome, List.any_eq_true]
  unfold locs
  rw [List.mem_flatMap]
  constructor
  · rintro ⟨w, hw, hm⟩
    obtain ⟨k, hk, he⟩ := List.mem_map.1 hm
    injection he with e1 e2
    have := List.mem_range.1 hk
    exact ⟨w, hw, at?_isSome.2 ⟨e1, by omega, by omega⟩⟩
  · rintro ⟨w, hw, hm⟩
    obtain ⟨h1, h2, h3⟩ := at?_isSome.1 hm
    exact ⟨w, hw, List.mem_map.2 ⟨(s - w.start).toNat, List.mem_range.2 (by omega), by rw [h1]; congr 1; omega⟩⟩
theorem locs_nodup : ∀ {l : List Wr}, Canon l → (locs l).Nodup
  | [], _ => .nil
  | w :: t, hc => by
    have e : locs (w :: t) = ((List.range w.data.length).map fun (k : Nat) => (w.vol, w.start + (k : Int))) ++ locs t := rfl
    rw [e, List.nodup_append]
    refine ⟨?_, locs_nodup hc.tail, ?_⟩
    · refine List.Pairwise.map _ ?_ List.nodup_range
      intro a b hab he
      injection he with _ e2
      omega
    · intro a ha b hb hab
      subst hab
      obtain ⟨k, hk, rfl⟩ := List.mem_map.1 ha
      have hk' := List.mem_range.1 hk
      have h1 := locs_mem.1 hb
      rw [eff_none_of_behind hc.head (.inr ⟨rfl, by omega⟩)] at h1
      cases h1
theorem fold_fewer {l : List Wr} (h : AllPlaced l) : secN (foldW l) ≤ secN l := by
  rw [← locs_len, ← locs_len]
  refine nodup_len (locs_nodup (foldW_canon l)) fun p hp => ?_
  obtain ⟨v, s⟩ := p
  rw [locs_mem] at hp ⊢
  rwa [foldW_eff h] at hp
end Go.Proofs.Ytccbbecfmfldbaa

set_option maxRecDepth 100000
set_option linter.unusedVariables false
set_option linter.unusedSimpArgs false
namespace Go.Proofs.Ytccbbecfmfldbaa
open Go.RowKit Go.Mm Sb

/-! ### snapshots: what the functions return -/
def chkSn (S : List Int) : Int → Int → List Snap → Int
  | _, _, [] => 0
  | ln, lt, x :: t => if inT x.num = false then 2 else if x.num ≤ ln then 8 else if inT x.time = false ∨ x.time < lt then 24 else if refChk x.saved S = 0 then chkSn S x.num x.time t else refChk x.saved S
def chkS (s : Snaps) : Int := if sizesI (lens s.cur) = 0 then (if 1024 < s.items.length then 6 else chkSn (lens s.cur) (-1) 0 s.items) else sizesI (lens s.cur)
/-- The number and the time ahead of item k. -/
def lnS (l : List Snap) (k : Nat) : Int := if k = 0 then -1 else ((l[k - 1]?).map (·.num)).getD 0
def ltS (l : List Snap) (k : Nat) : Int := if k = 0 then 0 else ((l[k - 1]?).map (·.time)).getD 0
theorem lnS_succ {l : List Snap} {k : Nat} {x : Snap} (h : l[k]? = some x) : lnS l (k + 1) = x.num := by simp [lnS, h]
theorem ltS_succ {l : List Snap} {k : Nat} {x : Snap} (h : l[k]? = some x) : ltS l (k + 1) = x.time := by simp [ltS, h]
theorem chkSn_step {S : List Int} {l : List Snap} {k : Nat} {x : Snap} (h : l[k]? = some x) : chkSn S (lnS l k) (ltS l k) (l.drop k) =
    if inT x.num = false then 2 else if x.num ≤ lnS l k then 8 else if inT x.time = false ∨ x.time < ltS l k then 24 else if refChk x.saved S = 0 then chkSn S (lnS l (k + 1)) (ltS l (k + 1)) (l.drop (k + 1)) else refChk x.saved S := by
  rw [lnS_succ h, ltS_succ h]
  obtain ⟨hk, rfl⟩ := List.getElem?_eq_some_iff.1 h
  rw [List.drop_eq_getElem_cons hk]; rfl
theorem chkSn_end {S : List Int} {l : List Snap} : chkSn S (lnS l l.length) (ltS l l.length) (l.drop l.length) = 0 := by
  rw [List.drop_length]; rfl
/-- What an accepted write list of sizes looks like. -/
theorem chkI_fit {S : List Int} : ∀ {p : Option Wr} {l : List Wr}, chkI (fitW S) p l = 0 → ∀ x ∈ l, fitW S x = 0
  | none, [], _, x, hx => by simp at hx
  | some _, [], _, x, hx => by simp at hx
  | none, w :: t, h, x, hx => by
    unfold chkI at h
    split at h
    · rename_i hw
      rcases List.mem_cons.1 hx with rfl | hx
      · exact hw
      · exact chkI_fit h x hx
    · rename_i hw; exact absurd h hw
  | some y, w :: t, h, x, hx => by
    unfold chkI at h
    split at h
    · rename_i hw
      split at h
      · cases h
      · rcases List.mem_cons.1 hx with rfl | hx
        · exact hw
        · exact chkI_fit h x hx
    · rename_i hw; exact absurd h hw
theorem chkI_canon {S : List Int} : ∀ {p : Option Wr} {l : List Wr}, chkI (fitW S) p l = 0 → Canon l ∧ ∀ x, p = some x → ∀ w ∈ l, Behind x w
  | none, [], _ => ⟨Canon.nil, by simp⟩
  | some _, [], _ => ⟨Canon.nil, by simp⟩
  | none, w :: t, h => by
    have hf := chkI_fit h w (by simp)
    unfold chkI at h
    rw [if_pos hf] at h
    obtain ⟨h1, h2⟩ := chkI_canon h
    obtain ⟨_, _, h3, _, _⟩ := fitsI_zero.1 hf
    exact ⟨⟨fun x hx => by rcases List.mem_cons.1 hx with rfl | hx; exact fun e => h3 (by simp [e]); exact h1.ne x hx, List.pairwise_cons.2 ⟨h2 w rfl, h1.pw⟩⟩, by simp⟩
  | some y, w :: t, h => by
    have hf := chkI_fit h w (by simp)
    unfold chkI at h
    rw [if_pos hf] at h
    split at h
    · cases h
    · rename_i hb
      obtain ⟨h1, h2⟩ := chkI_canon h
      obtain ⟨_, _, h3, _, _⟩ := fitsI_zero.1 hf
      have hyw : Behind y w := by unfold Behind; omega
      refine ⟨⟨fun x hx => by rcases List.mem_cons.1 hx with rfl | hx; exact fun e => h3 (by simp [e]); exact h1.ne x hx, List.pairwise_cons.2 ⟨h2 w rfl, h1.pw⟩⟩, fun x hx z hz => ?_⟩
      injection hx with hx
      subst hx
      rcases List.mem_cons.1 hz with rfl | hz
      · exact hyw
      · have := h2 w rfl z hz
        unfold Behind at this hyw ⊢
        have hl := len_pos (fun e => h3 (by simp [e]) : w.data ≠ [])
        omega
theorem refChk_fit {S : List Int} {l : List Wr} (h : refChk l S = 0) : sizesI S = 0 ∧ Canon l ∧ ∀ x ∈ l, fitW S x = 0 := by
  unfold refChk at h
  split at h
  · rename_i hz; exact ⟨hz, (chkI_canon h).1, chkI_fit h⟩
  · rename_i hz; exact absurd h hz
theorem refChk_of {S : List Int} {l : List Wr} (hz : sizesI S = 0) (hc : Canon l) (h : ∀ x ∈ l, fitW S x = 0) : refChk l S = 0 := by
  unfold refChk
  rw [if_pos hz]
  exact chk_canonF hc h (by simp)
/-- Well-formed snapshots. -/
structure OkS (s : Snaps) : Prop where
  sz : sizesI (lens s.cur) = 0
  len : s.items.length ≤ 1024
  sv : ∀ x ∈ s.items, refChk x.saved (lens s.cur) = 0
  num : ∀ x ∈ s.items, 0 ≤ x.num ∧ x.num ≤ 1073741824
  time : ∀ x ∈ s.items, 0 ≤ x.time ∧ x.time ≤ 1073741824
  up : s.items.Pairwise fun x y => x.num < y.num
  on : s.items.Pairwise fun x y => x.time ≤ y.time
theorem chkSn_ok {S : List Int} : ∀ {ln lt : Int} {l : List Snap}, chkSn S ln lt l = 0 → (∀ x ∈ l, ln < x.num ∧ lt ≤ x.time) ∧ (∀ x ∈ l, refChk x.saved S = 0 ∧ (0 ≤ x.num ∧ x.num ≤ 1073741824) ∧ (0 ≤ x.time ∧ x.time ≤ 1073741824)) ∧ (l.Pairwise fun x y => x.num < y.num) ∧ l.Pairwise fun x y => x.time ≤ y.time
  | _, _, [], _ => by simp
  | ln, lt, x :: t, h => by
    unfold chkSn at h
    split at h
    · cases h
    · rename_i h1
      split at h
      · cases h
      · rename_i h2
        split at h
        · cases h
        · rename_i h3
          split at h
          · rename_i h4
            obtain ⟨a, b, c, d⟩ := chkSn_ok h
            have i1 := inT_iff.1 (by simpa using h1 : inT x.num = true)
            have i2 := inT_iff.1 (by simpa using fun e => h3 (.inl e) : inT x.time = true)
            refine ⟨fun y hy => ?_, fun y hy => ?_, List.pairwise_cons.2 ⟨fun y hy => (a y hy).1, c⟩, List.pairwise_cons.2 ⟨fun y hy => (a y hy).2, d⟩⟩
            · rcases List.mem_cons.1 hy with rfl | hy
              · exact ⟨by omega, by omega⟩
              · have := a y hy; exact ⟨by omega, by omega⟩
            · rcases List.mem_cons.1 hy with rfl | hy
              · exact ⟨h4, i1, i2⟩
              · exact b y hy
          · rename_i h4; exact absurd h h4
theorem chkSn_of {S : List Int} : ∀ {ln lt : Int} {l : List Snap}, (∀ x ∈ l, ln < x.num ∧ lt ≤ x.time) → (∀ x ∈ l, refChk x.saved S = 0 ∧ (0 ≤ x.num ∧ x.num ≤ 1073741824) ∧ (0 ≤ x.time ∧ x.time ≤ 1073741824)) → (l.Pairwise fun x y => x.num < y.num) → (l.Pairwise fun x y => x.time ≤ y.time) → chkSn S ln lt l = 0
  | _, _, [], _, _, _, _ => rfl
  | ln, lt, x :: t, a, b, c, d => by
    obtain ⟨a1, a2⟩ := a x (by simp)
    obtain ⟨b1, b2, b3⟩ := b x (by simp)
    have i1 : inT x.num = true := inT_iff.2 b2
    have i2 : inT x.time = true := inT_iff.2 b3
    have c' := List.pairwise_cons.1 c
    have d' := List.pairwise_cons.1 d
    unfold chkSn
    rw [if_neg (by simp [i1]), if_neg (by omega), if_neg (by simp [i2]; omega), if_pos b1]
    exact chkSn_of (fun y hy => ⟨c'.1 y hy, d'.1 y hy⟩) (fun y hy => b y (by simp [hy])) c'.2 d'.2
theorem chkS_ok {s : Snaps} (h : chkS s = 0) : OkS s := by
  unfold chkS at h
  split at h
  · rename_i hz
    split at h
    · cases h
    · rename_i hl
      obtain ⟨a, b, c, d⟩ := chkSn_ok h
      exact ⟨hz, by omega, fun x hx => (b x hx).1, fun x hx => (b x hx).2.1, fun x hx => (b x hx).2.2, c, d⟩
  · rename_i hz; exact absurd h hz
theorem OkS.chk {s : Snaps} (h : OkS s) : chkS s = 0 := by
  unfold chkS
  rw [if_pos h.sz, if_neg (by have := h.len; omega)]
  refine chkSn_of (fun x hx => ?_) (fun x hx => ⟨h.sv x hx, h.num x hx, h.time x hx⟩) h.up h.on
  have := h.num x hx; have := h.time x hx
  exact ⟨by omega, by omega⟩
theorem fit_bound {S : List Int} (hS : sizesI S = 0) {l : List Wr} (h : ∀ x ∈ l, fitW S x = 0) : AllPlaced l := fun x hx => fit_placed hS (h x hx)
theorem OkS.placed {s : Snaps} (h : OkS s) {x : Snap} (hx : x ∈ s.items) : AllPlaced x.saved := fit_bound h.sz (refChk_fit (h.sv x hx)).2.2
theorem OkS.canon {s : Snaps} (h : OkS s) {x : Snap} (hx : x ∈ s.items) : Canon x.saved := (refChk_fit (h.sv x hx)).2.1
theorem OkS.fit {s : Snaps} (h : OkS s) {x : Snap} (hx : x ∈ s.items) : ∀ w ∈ x.saved, fitW (lens s.cur) w = 0 := (refChk_fit (h.sv x hx)).2.2
theorem OkS.foldW {s : Snaps} (h : OkS s) {x : Snap} (hx : x ∈ s.items) : Sb.foldW x.saved = x.saved := foldW_id (h.canon hx) (h.placed hx)
/-- Small enough for the walks. -/
structure SmallS (s : Snaps) : Prop where
  vols : s.cur.length ≤ 8
  secs : ∀ x ∈ s.cur, x.length ≤ 4096
  len : s.items.length ≤ 1024
  svl : ∀ x ∈ s.items, x.saved.length ≤ 32776
  sec : ∀ x ∈ s.items, secN x.saved ≤ 32776
  dat : ∀ x ∈ s.items, ∀ y ∈ x.saved, y.data.length ≤ 4096
theorem secN_eq (l : List Wr) : secN l = secL l := rfl
theorem OkS.small {s : Snaps} (h : OkS s) : SmallS s := by
  obtain ⟨z1, z2⟩ := sizes_small h.sz
  refine ⟨z1, z2, h.len, fun x hx => ?_, fun x hx => ?_, fun x hx y hy => ?_⟩
  · have := fold_bound (h.placed hx); rw [h.foldW hx] at this; exact this.2
  · have := fold_bound (h.placed hx); rw [h.foldW hx] at this; exact this.1
  · have := h.placed hx y hy; obtain ⟨_, _, _, p4, p5⟩ := this; omega
end Go.Proofs.Ytccbbecfmfldbaa
