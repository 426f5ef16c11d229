import Derived.Test.YtccbbecfmfldbaaQ2
import Derived.Maps.RangeWalk
import Derived.Maps.OwnSet
set_option linter.unusedVariables false
set_option linter.unusedSimpArgs false
namespace Go.Mm
open Go.RowKit
open Go.Maps (Keyed)

/-! ### maps -/
/-- An element as it stands. -/
def rawR (v : Value) : Option (DataW Value × List MemPlace) := some (.held v, [])
structure KeyKit (P : Program) (k : TypeId) (κ : Type) where
  enc : κ → Value
  dom : κ → Prop
  lit : κ → Lit
  law : Keyed P k
  key : ∀ p, dom p → keyOf P k (enc p) = some (lit p)
  inj : ∀ p q, enc p = enc q → p = q

section
variable {P : Program} {k : TypeId} {κ ν : Type} (K : KeyKit P k κ) (encV : ν → Value)
theorem KeyKit.lit_inj {p q : κ} (hp : K.dom p) (hq : K.dom q) (h : K.lit p = K.lit q) : p = q :=
  K.inj p q (K.law.inj (K.key p hp) (h ▸ K.key q hq))
theorem KeyKit.isKey {p : κ} (hp : K.dom p) : WideAt.IsKeyLit (K.lit p) := K.law.key (K.key p hp)

/-- What the datum of a map says. -/
structure Reads (D : DataW Value) (f : κ → Option ν) (ks : List κ) : Prop where
  none_ : ∀ p, K.dom p → f p = none → Maps.has D (K.lit p) = false
  some_ : ∀ p x, f p = some x → K.dom p ∧ Maps.has D (K.lit p) = true ∧ ∀ zd, D.atKey (K.lit p) zd = .held (encV x)
  keys : ∀ kl, Maps.has D kl = true → ∃ p, K.dom p ∧ K.lit p = kl ∧ (f p).isSome = true
  nodup : ks.Nodup
  mem : ∀ p, p ∈ ks ↔ (f p).isSome = true
  size : Maps.size D = ks.length

/-- Block b is a map of at most n entries that holds f. -/
def MapIs (w : World) (b n : Nat) (f : κ → Option ν) (ks : List κ) : Prop := ∃ D : DataW Value, w.ownsMap P k rawR b n D ∧ Reads K encV D f ks

variable {K encV} {w w' : World} {b n : Nat} {f : κ → Option ν} {ks : List κ}
theorem MapIs.made (w : World) : MapIs K encV (w.alloc (.map #[] 0)) w.heap.size 0 (fun _ => none) [] :=
  ⟨_, World.ownsMap_made w P k rawR, ⟨fun _ _ _ => rfl, (by intro _ _ h; cases h), (by intro kl h; cases h), .nil, by simp, rfl⟩⟩
theorem MapIs.lt (h : MapIs K encV w b n f ks) : b < w.heap.size := by obtain ⟨D, h, _⟩ := h; exact h.lt
theorem MapIs.kept {row : Option Nat} (h : MapIs K encV w b n f ks) (hg : w.grownBy w' row) (hne : some b ≠ row) : MapIs K encV w' b n f ks := by
  obtain ⟨D, h, hr⟩ := h; exact ⟨D, h.kept hg hne, hr⟩
theorem MapIs.alloc (h : MapIs K encV w b n f ks) (o : Obj) : MapIs K encV (w.alloc o) b n f ks := h.kept (World.grownBy_alloc w o none) (by simp)
theorem MapIs.drew (h : MapIs K encV w b n f ks) : MapIs K encV w.drew b n f ks := h
theorem MapIs.below (h : MapIs K encV w b n f ks) (hb : Below w.heap.size w w') : MapIs K encV w' b n f ks :=
  h.kept (row := none) ⟨hb.os, hb.tape, hb.output, hb.size, fun i hi _ => hb.block i hi⟩ (by simp)
theorem MapIs.setCell (h : MapIs K encV w b n f ks) {a : Addr} (ha : b ≠ a.block) (u : Value) : MapIs K encV (w.setCell a u) b n f ks := by
  obtain ⟨D, h, hr⟩ := h; exact ⟨D, h.setCell ha u, hr⟩

/-- One entry more, or another element at a key. -/
def upd [DecidableEq κ] (f : κ → Option ν) (p : κ) (x : ν) : κ → Option ν := fun q => if q = p then some x else f q
def addKey [DecidableEq κ] (ks : List κ) (p : κ) : List κ := if p ∈ ks then ks else ks ++ [p]

theorem Reads.put [DecidableEq κ] {D : DataW Value} (h : Reads K encV D f ks) (ht : Maps.Tidy D) {p : κ} (hp : K.dom p) (x : ν) : Reads K encV (D.put (K.lit p) (.held (encV x))) (upd f p x) (addKey ks p) where
  none_ q hq hn := by
    unfold upd at hn
    split at hn
    · cases hn
    · rename_i hne
      rw [Maps.has_put_other (fun e => hne (K.lit_inj hq hp e))]
      exact h.none_ q hq hn
  some_ q y hy := by
    unfold upd at hy
    split at hy
    · rename_i he
      subst he
      injection hy with hy
      subst hy
      exact ⟨hp, Maps.has_put_same ht.isMap (K.isKey hp) _, fun zd => Maps.atKey_put_same ht.isMap (K.isKey hp) _ _⟩
    · rename_i hne
      obtain ⟨h1, h2, h3⟩ := h.some_ q y hy
      have hl : K.lit q ≠ K.lit p := fun e => hne (K.lit_inj h1 hp e)
      exact ⟨h1, by rw [Maps.has_put_other hl]; exact h2, fun zd => by rw [Maps.atKey_put_other hl]; exact h3 zd⟩
  keys kl hk := by
    by_cases e : kl = K.lit p
    · exact ⟨p, hp, e.symm, by simp [upd]⟩
    · rw [Maps.has_put_other e] at hk
      obtain ⟨q, h1, h2, h3⟩ := h.keys kl hk
      refine ⟨q, h1, h2, ?_⟩
      unfold upd
      split
      · rfl
      · exact h3
  nodup := by
    unfold addKey
    split
    · exact h.nodup
    · rename_i hn
      exact List.nodup_append.2 ⟨h.nodup, by simp, fun a ha b hb e => hn (by simp at hb; rw [← hb, ← e]; exact ha)⟩
  mem q := by
    unfold addKey upd
    by_cases e : q = p
    · subst e
      simp only [if_true]
      split
      · rename_i hm; simp [hm]
      · simp
    · rw [if_neg e, ← h.mem q]
      split
      · rfl
      · simp [e]
  size := by
    rw [Maps.size_put ht, h.size]
    unfold addKey
    by_cases hm : p ∈ ks
    · have := (h.mem p).1 hm
      obtain ⟨y, hy⟩ := Option.isSome_iff_exists.1 this
      rw [(h.some_ p y hy).2.1]; simp [hm]
    · have : f p = none := by
        cases hf : f p with
        | none => rfl
        | some y => exact absurd ((h.mem p).2 (by simp [hf])) hm
      rw [h.none_ p hp this]; simp [hm]

/-- 'm[k] = v' at the operation. -/
theorem wpList_put [DecidableEq κ] {ops : Array Oper} {rest : List Oper} {o : Oper} {a : Act} {Q : Exit → Act → World → Prop} (w : World)
    (hg : o.guard = none) (m x v : Operand) (t : TypeId) (hop : o.op = Op.mapUpdate t m x v) (e : TypeId) (ht : P.underlying t = some (.map k e))
    (b n : Nat) (f : κ → Option ν) (ks : List κ) (hm : a.eval m = .map (some b)) (hown : MapIs K encV w b n f ks) (hn : n < maxLen)
    (p : κ) (hp : K.dom p) (y : ν) (hx : a.eval x = K.enc p) (hv : a.eval v = encV y)
    (hK : ∀ w', MapIs K encV w' b (n + 1) (upd f p y) (addKey ks p) → w.grownBy w' (some b) → wpList P ops Q rest (a.put o.dst undef) w') :
    wpList P ops Q (o :: rest) a w := by
  obtain ⟨D, ho, hr⟩ := hown
  have htidy := ho.tidy K.law
  refine wpList_mapUpdate_own w hg m x v t hop k e K.law ht rawR b n D hm ho hn _ _ (K.lit p) hx hv (K.key p hp) (.held (encV y)) [] rfl fun w' h1 h2 => ?_
  exact hK w' ⟨_, h1, hr.put htidy hp y⟩ h2

/-- 'm[k]': the element is there. -/
theorem MapIs.look_some {t e : TypeId} (h : MapIs K encV w b n f ks) (ht : P.underlying t = some (.map k e)) {z : Value} (hz : (zeroValue e).run P w = .ok z w) {p : κ} {x : ν} (hf : f p = some x) :
    (Instr.lookup t (.map (some b)) (K.enc p) false).run P w = .ok (encV x) w ∧ (Instr.lookup t (.map (some b)) (K.enc p) true).run P w = .ok (.tuple #[encV x, .bool true]) w := by
  obtain ⟨D, ho, hr⟩ := h
  obtain ⟨h1, h2, h3⟩ := hr.some_ p x hf
  obtain ⟨es, clock, hb, F, _, rfl⟩ := ho
  constructor
  · rcases Maps.fit_look false K.law ht hz hb F (K.key p h1) with ⟨_, _, hat⟩ | ⟨e0, y, _, _, hrun, hRv, hat, _⟩
    · have := Maps.has_false_of_atKey hat; rw [h2] at this; cases this
    · have := (hat .nil).symm.trans (h3 .nil)
      have hy : y = (.held e0.val, []) := by simpa [rawR] using hRv.symm
      rw [hy] at this
      injection this with this
      rw [hrun, this]; rfl
  · rcases Maps.fit_look true K.law ht hz hb F (K.key p h1) with ⟨_, _, hat⟩ | ⟨e0, y, _, _, hrun, hRv, hat, _⟩
    · have := Maps.has_false_of_atKey hat; rw [h2] at this; cases this
    · have := (hat .nil).symm.trans (h3 .nil)
      have hy : y = (.held e0.val, []) := by simpa [rawR] using hRv.symm
      rw [hy] at this
      injection this with this
      rw [hrun, this]; rfl
theorem MapIs.look_none {t e : TypeId} (h : MapIs K encV w b n f ks) (ht : P.underlying t = some (.map k e)) {z : Value} (hz : (zeroValue e).run P w = .ok z w) {p : κ} (hp : K.dom p) (hf : f p = none) :
    (Instr.lookup t (.map (some b)) (K.enc p) false).run P w = .ok z w ∧ (Instr.lookup t (.map (some b)) (K.enc p) true).run P w = .ok (.tuple #[z, .bool false]) w := by
  obtain ⟨D, ho, hr⟩ := h
  have h2 := hr.none_ p hp hf
  obtain ⟨es, clock, hb, F, _, rfl⟩ := ho
  constructor
  · rcases Maps.fit_look false K.law ht hz hb F (K.key p hp) with ⟨hrun, _, _⟩ | ⟨e0, y, _, _, hrun, hRv, hat, _⟩
    · rw [hrun]; rfl
    · have := Maps.has_true_of_atKey hat; rw [h2] at this; cases this
  · rcases Maps.fit_look true K.law ht hz hb F (K.key p hp) with ⟨hrun, _, _⟩ | ⟨e0, y, _, _, hrun, hRv, hat, _⟩
    · rw [hrun]; rfl
    · have := Maps.has_true_of_atKey hat; rw [h2] at this; cases this
/-- 'len(m)'. -/
theorem MapIs.len {t e : TypeId} (h : MapIs K encV w b n f ks) (ht : P.underlying t = some (.map k e)) (ty : TypeId) : (Builtin.len_ #[t] ty #[.map (some b)]).run P w = .ok (.int .i64 ks.length) w ∧ ks.length ≤ n := by
  obtain ⟨D, ho, hr⟩ := h
  rw [← hr.size]
  exact ⟨ho.len ht ty, ho.size_le⟩

/-- 'delete(m, k)'. -/
def del [DecidableEq κ] (f : κ → Option ν) (p : κ) : κ → Option ν := fun q => if q = p then none else f q
def delKeys [DecidableEq κ] (ks : List κ) (p : κ) : List κ := ks.filter fun q => !decide (q = p)
theorem Reads.del [DecidableEq κ] {D : DataW Value} (h : Reads K encV D f ks) (ht : Maps.Tidy D) {p : κ} (hp : K.dom p) : Reads K encV (D.del (K.lit p)) (Mm.del f p) (delKeys ks p) where
  none_ q hq hn := by
    unfold Mm.del at hn
    split at hn
    · rename_i he; subst he; exact Maps.has_del_same
    · rename_i hne
      rw [Maps.has_del_other (fun e => hne (K.lit_inj hq hp e))]
      exact h.none_ q hq hn
  some_ q y hy := by
    unfold Mm.del at hy
    split at hy
    · cases hy
    · rename_i hne
      obtain ⟨h1, h2, h3⟩ := h.some_ q y hy
      have hl : K.lit q ≠ K.lit p := fun e => hne (K.lit_inj h1 hp e)
      exact ⟨h1, by rw [Maps.has_del_other hl]; exact h2, fun zd => by rw [Maps.atKey_del_other hl]; exact h3 zd⟩
  keys kl hk := by
    by_cases e : kl = K.lit p
    · rw [e, Maps.has_del_same] at hk; cases hk
    · rw [Maps.has_del_other e] at hk
      obtain ⟨q, h1, h2, h3⟩ := h.keys kl hk
      refine ⟨q, h1, h2, ?_⟩
      unfold Mm.del
      rw [if_neg (fun e' => e (by rw [← h2, e']))]
      exact h3
  nodup := h.nodup.filter _
  mem q := by
    unfold delKeys Mm.del
    rw [List.mem_filter, h.mem q]
    by_cases e : q = p <;> simp [e]
  size := by
    have h1 := Maps.size_del (k := K.lit p) ht
    rw [h.size] at h1
    unfold delKeys
    by_cases hm : p ∈ ks
    · have := (h.mem p).1 hm
      obtain ⟨y, hy⟩ := Option.isSome_iff_exists.1 this
      rw [(h.some_ p y hy).2.1] at h1
      have h2 : ∀ l : List κ, l.Nodup → p ∈ l → (l.filter fun q => !decide (q = p)).length + 1 = l.length := by
        intro l
        induction l with
        | nil => intro _ hm; simp at hm
        | cons a l ih =>
          intro hn hm
          obtain ⟨hn1, hn2⟩ := List.nodup_cons.1 hn
          by_cases e : a = p
          · subst e
            have : (l.filter fun q => !decide (q = a)) = l := List.filter_eq_self.2 fun q hq => by
              have : q ≠ a := fun e => hn1 (e ▸ hq)
              simp [this]
            simp [this]
          · have hm' : p ∈ l := by
              rcases List.mem_cons.1 hm with rfl | hm
              · exact absurd rfl e
              · exact hm
            have := ih hn2 hm'
            simp [e]; omega
      have := h2 ks h.nodup hm
      simp at h1; omega
    · have : f p = none := by
        cases hf : f p with
        | none => rfl
        | some y => exact absurd ((h.mem p).2 (by simp [hf])) hm
      rw [h.none_ p hp this] at h1
      have h2 : (ks.filter fun q => !decide (q = p)) = ks := List.filter_eq_self.2 fun q hq => by
        have : q ≠ p := fun e => hm (e ▸ hq)
        simp [this]
      rw [h2]
      simpa using h1
theorem MapIs.drop [DecidableEq κ] {t e : TypeId} (h : MapIs K encV w b n f ks) (ht : P.underlying t = some (.map k e)) {p : κ} (hp : K.dom p) (ty : TypeId) :
    ∃ w', (Builtin.delete_ #[t, k] ty #[.map (some b), K.enc p]).run P w = .ok (.tuple #[]) w' ∧ MapIs K encV w' b n (Mm.del f p) (delKeys ks p) ∧ w.grownBy w' (some b) := by
  obtain ⟨D, ho, hr⟩ := h
  obtain ⟨w', hrun, h1, h2⟩ := ho.drop K.law ht (K.key p hp) ty
  exact ⟨w', hrun, ⟨_, h1, hr.del (ho.tidy K.law) hp⟩, h2.grown⟩
end

/-! ### ranging over a map -/
section
variable {P : Program} {k : TypeId} {κ ν : Type} [DecidableEq κ] (K : KeyKit P k κ) (encV : ν → Value)
/-- A range over map b is under way; the keys 'done' have come. -/
def RangeIs (w : World) (b r n : Nat) (f : κ → Option ν) (ks done : List κ) : Prop :=
  ∃ (D : DataW Value) (left : Lit → Bool) (cnt : Nat), w.ranges P k rawR b r n D left cnt ∧ Reads K encV D f ks ∧ (∀ p, K.dom p → left (K.lit p) = ((f p).isSome && !decide (p ∈ done))) ∧
    (∀ kl, left kl = true → Maps.has D kl = true) ∧ done.Nodup ∧ ∀ p ∈ done, (f p).isSome = true
variable {K encV} {w w' : World} {b r n : Nat} {f : κ → Option ν} {ks done : List κ}
theorem RangeIs.kept {row : Option Nat} (h : RangeIs K encV w b r n f ks done) (hg : w.grownBy w' row) (hb' : some b ≠ row) (hr' : some r ≠ row) : RangeIs K encV w' b r n f ks done := by
  obtain ⟨D, left, cnt, h, rest⟩ := h; exact ⟨D, left, cnt, h.kept hg hb' hr', rest⟩
theorem RangeIs.alloc (h : RangeIs K encV w b r n f ks done) (o : Obj) : RangeIs K encV (w.alloc o) b r n f ks done := h.kept (World.grownBy_alloc w o none) (by simp) (by simp)
theorem RangeIs.owns (h : RangeIs K encV w b r n f ks done) : MapIs K encV w b n f ks := by
  obtain ⟨D, left, cnt, h, hr, _⟩ := h; exact ⟨D, h.owns, hr⟩
theorem RangeIs.ne (h : RangeIs K encV w b r n f ks done) : r ≠ b := by obtain ⟨D, left, cnt, h, _⟩ := h; exact h.ne
theorem RangeIs.lt (h : RangeIs K encV w b r n f ks done) : r < w.heap.size := by obtain ⟨D, left, cnt, h, _⟩ := h; exact h.lt

/-- 'range m'. -/
theorem wpList_rangeMap {ops : Array Oper} {rest : List Oper} {o : Oper} {a : Act} {Q : Exit → Act → World → Prop} (w : World)
    (hg : o.guard = none) (m : Operand) (t : TypeId) (hop : o.op = Op.range t m) (e : TypeId) (ht : P.underlying t = some (.map k e))
    (b n : Nat) (f : κ → Option ν) (ks : List κ) (hm : a.eval m = .map (some b)) (hown : MapIs K encV w b n f ks)
    (hK : ∀ w', RangeIs K encV w' b w.heap.size n f ks [] → w.grownBy w' none → w'.heap.size = w.heap.size + 1 → wpList P ops Q rest (a.put o.dst (.pointer (some ⟨w.heap.size, 0, none⟩))) w') :
    wpList P ops Q (o :: rest) a w := by
  obtain ⟨D, ho, hr⟩ := hown
  refine wpList_range_own w hg m t hop k e K.law ht rawR b n D hm ho fun w' h1 h2 h3 => hK w' ⟨D, _, _, h1, hr, fun p hp => ?_, fun kl h => h, .nil, by simp⟩ h2 h3
  cases hf : f p with
  | none => simp [hr.none_ p hp hf]
  | some x => simp [(hr.some_ p x hf).2.1]

/-- The step. -/
theorem wpList_nextMap {ops : Array Oper} {rest : List Oper} {o : Oper} {a : Act} {Q : Exit → Act → World → Prop} (w : World)
    (hg : o.guard = none) (it : Operand) (hop : o.op = Op.next it false) (b r n : Nat) (f : κ → Option ν) (ks done : List κ)
    (hit : a.eval it = .pointer (some ⟨r, 0, none⟩)) (h : RangeIs K encV w b r n f ks done)
    (hDone : (∀ p, (f p).isSome = true → p ∈ done) → wpList P ops Q rest (a.put o.dst (.tuple #[.bool false])) w)
    (hMore : ∀ (p : κ) (x : ν) (w' : World), K.dom p → f p = some x → p ∉ done → RangeIs K encV w' b r n f ks (done ++ [p]) → w'.rangeLeft b r < w.rangeLeft b r →
      w.grownBy w' (some r) → w'.heap.size = w.heap.size → (Instr.entry (.pointer (some ⟨r, 0, none⟩))).run P w' = .ok (.tuple #[K.enc p, encV x]) w' → wpList P ops Q rest (a.put o.dst (.tuple #[.bool true, K.enc p, encV x])) w') :
    wpList P ops Q (o :: rest) a w := by
  obtain ⟨D, left, cnt, h, hr, hl, hh, hnd, hdf⟩ := h
  refine wpList_plain hg fun K' hK' => ?_
  unfold Oper.wp
  have hcl := h.left_eq
  rcases h.next K.law o.type with ⟨h0, hlf, hrun⟩ | ⟨key, v, kl, y, w', cnt', hkey, hlk, hv, hat, hrun, hrg, hlt, hgr, hsz, hen⟩
  · simp [execOp, hop, hit, hrun, Result.andThen]
    refine hK' _ _ (hDone fun p hp => ?_)
    obtain ⟨x, hx⟩ := Option.isSome_iff_exists.1 hp
    have := hl p (hr.some_ p x hx).1
    rw [hlf, hp] at this
    simpa using this
  · obtain ⟨p, hp, rfl, hfp⟩ := hr.keys kl (hh kl hlk)
    obtain ⟨x, hx⟩ := Option.isSome_iff_exists.1 hfp
    have e1 : key = K.enc p := K.law.inj hkey (K.key p hp)
    have e2 : v = encV x := by
      have h1 := (hat .nil).symm.trans ((hr.some_ p x hx).2.2 .nil)
      have hy : y = (.held v, []) := by simpa [rawR] using hv.symm
      rw [hy] at h1
      injection h1
    subst e1; subst e2
    have hnot : p ∉ done := by
      have := hl p hp
      rw [hlk] at this
      intro hm
      simp [hm] at this
    simp [execOp, hop, hit, hrun, Result.andThen]
    refine hK' _ _ (hMore p x w' hp hx hnot ⟨D, _, cnt', hrg, hr, fun q hq => ?_, fun kl' h' => hh kl' (by simp at h'; exact h'.1), ?_, ?_⟩ (by rw [hcl, hrg.left_eq]; exact hlt) hgr hsz hen)
    · rw [hl q hq]
      by_cases e : q = p
      · subst e
        rw [WideAt.sameKey_self (K.isKey hq)]; simp
      · have : (K.lit q).sameKey (K.lit p) = false := Maps.sameKey_ne fun e' => e (K.lit_inj hq hp e')
        rw [this]; simp [e]
    · exact List.nodup_append.2 ⟨hnd, by simp, fun a ha b hb e => hnot (by simp at hb; rw [← hb, ← e]; exact ha)⟩
    · intro q hq
      rcases List.mem_append.1 hq with hq | hq
      · exact hdf q hq
      · obtain rfl := List.mem_singleton.1 hq; exact hfp
theorem RangeIs.nodup (h : RangeIs K encV w b r n f ks done) : done.Nodup := by obtain ⟨_, _, _, _, _, _, _, h, _⟩ := h; exact h
theorem RangeIs.isSome (h : RangeIs K encV w b r n f ks done) : ∀ p ∈ done, (f p).isSome = true := by obtain ⟨_, _, _, _, _, _, _, _, h⟩ := h; exact h
end
end Go.Mm
