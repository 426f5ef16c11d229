import Derived.Test.YtccbbecfmfldbaaQ9
import Derived.Deep.Upon
set_option linter.unusedVariables false
set_option linter.unusedSimpArgs false
namespace Go.Mm
open Go.RowKit

/-! ### append of a whole slice -/
theorem flatten_at {k : Nat} (hk : 0 < k) {css : List (List Value)} (h : ∀ cs ∈ css, cs.length = k) {t : Nat} {u : Value} (hu : css.flatten[t]? = some u) : ∃ j i cs, t = j * k + i ∧ i < k ∧ css[j]? = some cs ∧ cs[i]? = some u := by
  have hlt : t < css.length * k := by rw [← flatten_len h]; exact (List.getElem?_eq_some_iff.1 hu).1
  have hj : t / k < css.length := by rw [Nat.div_lt_iff_lt_mul hk]; exact hlt
  have hi := Nat.mod_lt t hk
  have e := Nat.div_add_mod' t k
  refine ⟨t / k, t % k, css[t / k], e.symm, hi, List.getElem?_eq_getElem hj, ?_⟩
  rw [← flatten_get h (List.getElem?_eq_getElem hj) _ hi, e]; exact hu
section
variable {k : Nat} {α : Type} {R : ERel α} {w w' : World} {S T : Nat → Prop} {v : Value} {xs : List α}
theorem RSl.cells (hk : 0 < k) {ad : Addr} {n cap : Nat} (h : RSl k R w S (.slice (some ad) n cap) xs) :
    ∃ css : List (List Value), css.length = xs.length ∧ (∀ cs ∈ css, cs.length = k) ∧ (∀ (j : Nat) (cs : List Value) (x : α), css[j]? = some cs → xs[j]? = some x → R w S cs x) ∧ ∀ (j : Nat) (u : Value), css.flatten[j]? = some u → w.cell? (ad.add j) = some u := by
  obtain ⟨A, cap', hv, h1, h2, h3⟩ := h
  injection hv with e1 e2 e3
  by_cases h0 : 0 < xs.length
  · obtain ⟨b, off, hA, hb, hS, hx⟩ := h3 h0
    rw [hA] at e1
    injection e1 with e1
    subst e1
    have hch : ∀ j : Nat, ∃ cs : List Value, ∀ x, xs[j]? = some x → cs.length = k ∧ (∀ i, i < k → w.cell? ⟨b, off + j * k + i, none⟩ = cs[i]?) ∧ R w S cs x := fun j => by
      cases hj : xs[j]? with
      | none => exact ⟨[], fun x hh => by cases hh⟩
      | some x => obtain ⟨cs, hh⟩ := hx j x hj; exact ⟨cs, fun y hy => by injection hy with hy; subst hy; exact hh⟩
    obtain ⟨F, hF⟩ := Classical.axiomOfChoice hch
    have hget : ∀ j, j < xs.length → ((List.range xs.length).map F)[j]? = some (F j) := fun j hj => by simp [hj]
    have hlen : ∀ cs ∈ (List.range xs.length).map F, cs.length = k := fun cs hc => by
      obtain ⟨j, hj, rfl⟩ := List.mem_map.1 hc
      have hj := List.mem_range.1 hj
      exact (hF j _ (List.getElem?_eq_getElem hj)).1
    refine ⟨(List.range xs.length).map F, by simp, hlen, fun j cs x hc hj => ?_, fun t u hu => ?_⟩
    · have hjl := (List.getElem?_eq_some_iff.1 hj).1
      rw [hget j hjl] at hc
      injection hc with hc
      subst hc
      exact (hF j x hj).2.2
    · obtain ⟨j, i, cs, rfl, hi, hcj, hci⟩ := flatten_at hk hlen hu
      have hjl : j < xs.length := by have := (List.getElem?_eq_some_iff.1 hcj).1; simpa using this
      rw [hget j hjl] at hcj
      injection hcj with hcj
      subst hcj
      have := (hF j _ (List.getElem?_eq_getElem hjl)).2.1 i hi
      rw [hci] at this
      have e1 : (⟨b, off, none⟩ : Addr).add (j * k + i) = ⟨b, off + j * k + i, none⟩ := by unfold Addr.add; simp [Nat.add_assoc]
      rw [e1]; exact this
  · obtain rfl : xs = [] := List.eq_nil_of_length_eq_zero (by omega)
    exact ⟨[], rfl, by simp, by simp, by simp⟩

/-- append(v, xs..): the elements of a slice that is read. -/
theorem wpList_appendMany {P : Program} {ops : Array Oper} {rest : List Oper} {o : Oper} {a : Act} {Q : Exit → Act → World → Prop} (hgd : o.guard = none) (s y : Operand) (t : TypeId)
    (ho : o.op = .call { callee := .builtin .append, args := #[s, y], argTypes := #[t, t] })
    (e : TypeId) (z : Value) (k bytes : Nat) (ht : P.underlying t = some (.slice e)) (hinfo : (P.info? e).map (fun i => (i.zero, i.size, i.bytes)) = some (some z, k, bytes)) (hzs : z.cells.size = k) (hsz : 0 < k)
    (R : ERel α) [st : Steady R] (hone : ∀ {w : World} {T : Nat → Prop} {cs : List Value} {x : α}, R w T cs x → ∀ u ∈ cs, u.oneCell' = true) (base : Nat) (S : Nat → Prop) (v : Value) (xs : List α) (hs : a.eval s = v) (hown : OwnSl e k R w base S v xs)
    (vy : Value) (ys : List α) (hx : a.eval y = vy) (hy : RSl k R w (fun b => S b ∧ some b ≠ v.ownBlock) vy ys)
    (hbytes : (xs.length + ys.length) * bytes ≤ 140737488355328) (hb0 : 0 < bytes) (hbase : base ≤ w.heap.size)
    (h : ∀ v' w', OwnSl e k R w' base S v' (xs ++ ys) → w.grownBy w' v.ownBlock → (v'.ownBlock = v.ownBlock ∨ v'.ownBlock = some w.heap.size) → wpList P ops Q rest (a.put o.dst v') w') :
    wpList P ops Q (o :: rest) a w := by
  obtain ⟨i0, hi, hzz⟩ := Option.map_eq_some_iff.1 hinfo
  simp only [Prod.mk.injEq] at hzz
  obtain ⟨hz0, hz1, hz2⟩ := hzz
  obtain ⟨A, cap, rfl, hcl, hcm⟩ := hy.val
  have hlen : xs.length + ys.length ≤ 140737488355328 := Nat.le_trans (Nat.le_mul_of_pos_right _ hb0) hbytes
  cases A with
  | none =>
    have h0 : ys = [] := by
      refine List.eq_nil_of_length_eq_zero (Nat.eq_zero_of_not_pos fun h0 => ?_)
      obtain ⟨A', cap', hv, _, _, h3⟩ := hy
      obtain ⟨b, off, hA, _⟩ := h3 h0
      injection hv with e1
      rw [hA] at e1; cases e1
    subst h0
    obtain ⟨Av, cv, rfl, hv1, hv2⟩ := hown.val
    refine wpList_plain hgd fun K hK => ?_
    have hr := run_append_nothing (P := P) w t t o.type e i0 ht hi Av xs.length cv hv1 (.slice none 0 cap) (Src.ofNil w ht cap)
    unfold Oper.wp execOp
    simp only [List.length_nil] at hx
    simp only [ho, resolve, invoke, builtin, Sem.run_bind, Sem.run_pure, Result.andThen_ok, List.map_toArray, List.map_cons, List.map_nil, hs, hx, hr]
    exact hK _ _ (h _ _ (by simpa using hown) (grown_below (Below.refl _ _) _) (.inl rfl))
  | some ad =>
    obtain ⟨css, l1, l2, l3, l4⟩ := RSl.cells hsz hy
    obtain ⟨c, o1, o2, o3, o4⟩ := hown
    refine wpList_append_own_at w hgd s y t ho base e i0 z k bytes ht hi hz0 hz1 hz2 hzs hsz v xs.length c.flatten hs o1 ad ys.length cap css.flatten hx (by rw [flatten_len l2, l1]) l4 ?_ (by unfold maxLen; omega) hbytes hbase ?_
    · intro u hu
      obtain ⟨cs, hc, huc⟩ := List.mem_flatten.1 hu
      obtain ⟨j, hj, rfl⟩ := List.getElem_of_mem hc
      exact hone (l3 j _ (ys[j]'(by omega)) (List.getElem?_eq_getElem hj) (List.getElem?_eq_getElem _)) u huc
    intro v' w' hown' hg _ hat
    have hkeep : ∀ {cs' : List Value} {x' : α}, R w (fun b => S b ∧ some b ≠ v.ownBlock) cs' x' → R w' (fun b => S b ∧ some b ≠ v'.ownBlock) cs' x' := by
      intro cs' x' hr
      have h1 := st.more hr (T := fun b => (S b ∧ some b ≠ v.ownBlock) ∧ b < w.heap.size) fun b hb hh => ⟨hh, hb⟩
      have h2 := st.keep h1 (w' := w') fun b hb ⟨⟨_, hh⟩, _⟩ => hg.block b hb hh
      refine st.more h2 fun b hb ⟨⟨ha, hh⟩, hlt⟩ => ⟨ha, ?_⟩
      rcases hat with hat | hat
      · rw [hat]; exact hh
      · rw [hat]; intro e; injection e with e; omega
    refine h v' w' ⟨c ++ css, by simpa using hown', by simp [o2, l1], ?_, ?_⟩ hg hat
    · intro cs' hc
      rcases List.mem_append.1 hc with hc | hc
      · exact o3 _ hc
      · exact l2 _ hc
    · intro j cs' x' hj hx'
      by_cases hjl : j < xs.length
      · rw [List.getElem?_append_left hjl] at hx'
        rw [List.getElem?_append_left (by omega)] at hj
        exact hkeep (o4 j cs' x' hj hx')
      · rw [List.getElem?_append_right (by omega)] at hx'
        rw [List.getElem?_append_right (by omega), o2] at hj
        exact hkeep (l3 _ cs' x' hj hx')
end
theorem RWr.one {w : World} {T : Nat → Prop} {cs : List Value} {x : Sb.Wr} (h : RWr w T cs x) : ∀ u ∈ cs, u.oneCell' = true := by
  obtain ⟨_, _, dv, rfl, A, cap, rfl, _⟩ := h
  intro u hu
  simp at hu
  rcases hu with rfl | rfl | rfl <;> rfl
end Go.Mm
