import Derived.WalkKit
import Derived.WalkSpells
import Derived.WalkLawsBesides
import Derived.Outline
import Derived.Below
import Derived.KernelRfl
import Derived.Deep.LoopGhost
import Derived.Lib.Hide
import Derived.OwnWalk
import Derived.Laws.MakeOwn
import Derived.Laws.OwnMore
import Derived.Deep.Draws
import Derived.Test.YtoifinmcoldidaaMaths
import Derived.Maps.RangeWalk
import Derived.Maps.OwnSet
import Derived.Maps.AppendAt
import Derived.Deep.AppendLies
import Derived.Shelf.SlSortCmp.WholeK
import Derived.Shelf.SlSortCmp.NoneTotal
import Derived.Deep.Upon
import Derived.Deep.OwnRows
import Derived.Laws.CopyRow
import Derived.Laws.CopyOwn
set_option linter.unusedVariables false
namespace Go.Mm
open Go.RowKit

/-! ### reading: elements of k cells, behind a slice -/
/-- How the cells of an element read: the world, the blocks through which it may be read, the cells, what they say. -/
abbrev ERel (α : Type) := World → (Nat → Prop) → List Value → α → Prop

/-- What an element reads as stands as long as the blocks that it is read through stand. -/
class Steady {α : Type} (R : ERel α) : Prop where
  keep : ∀ {w w' : World} {S : Nat → Prop} {cs : List Value} {x : α}, R w S cs x → (∀ b, b < w.heap.size → S b → w'.heap[b]? = w.heap[b]?) → R w' S cs x
  more : ∀ {w : World} {S T : Nat → Prop} {cs : List Value} {x : α}, R w S cs x → (∀ b, b < w.heap.size → S b → T b) → R w T cs x

/-- A slice value reads as a list: its elements of k cells each lie in a block of S. -/
def RSl (k : Nat) {α : Type} (R : ERel α) (w : World) (S : Nat → Prop) (v : Value) (xs : List α) : Prop :=
  ∃ (A : Option Addr) (cap : Nat), v = .slice A xs.length cap ∧ xs.length ≤ cap ∧ cap ≤ maxLen ∧
    (0 < xs.length → ∃ b off, A = some ⟨b, off, none⟩ ∧ b < w.heap.size ∧ S b ∧ ∀ j x, xs[j]? = some x →
      ∃ cs : List Value, cs.length = k ∧ (∀ i, i < k → w.cell? ⟨b, off + j * k + i, none⟩ = cs[i]?) ∧ R w S cs x)

section
variable {k : Nat} {α : Type} {R : ERel α} {w w' : World} {S T : Nat → Prop} {v : Value} {xs : List α}
theorem RSl.keep [st : Steady R] (h : RSl k R w S v xs) (hw : ∀ b, b < w.heap.size → S b → w'.heap[b]? = w.heap[b]?) : RSl k R w' S v xs := by
  obtain ⟨A, cap, hv, h1, h2, h3⟩ := h
  refine ⟨A, cap, hv, h1, h2, fun h0 => ?_⟩
  obtain ⟨b, off, hA, hlt, hb, hx⟩ := h3 h0
  have hbk := hw b hlt hb
  refine ⟨b, off, hA, ?_, hb, fun j x hj => ?_⟩
  · have : w.heap[b]? ≠ none := by simp [hlt]
    rw [← hbk] at this
    have h4 := Array.getElem?_eq_none_iff (xs := w'.heap) (i := b)
    refine Nat.not_le.1 fun hh => this (h4.2 hh)
  · obtain ⟨cs, hl, hc, hr⟩ := hx j x hj
    exact ⟨cs, hl, fun i hi => (World.cell?_of_block (w := w) hbk).trans (hc i hi), st.keep hr hw⟩
theorem RSl.more [st : Steady R] (h : RSl k R w S v xs) (hw : ∀ b, b < w.heap.size → S b → T b) : RSl k R w T v xs := by
  obtain ⟨A, cap, hv, h1, h2, h3⟩ := h
  refine ⟨A, cap, hv, h1, h2, fun h0 => ?_⟩
  obtain ⟨b, off, hA, hlt, hb, hx⟩ := h3 h0
  exact ⟨b, off, hA, hlt, hw b hlt hb, fun j x hj => by
    obtain ⟨cs, hl, hc, hr⟩ := hx j x hj
    exact ⟨cs, hl, hc, st.more hr hw⟩⟩
theorem RSl.nil (w : World) (S : Nat → Prop) : RSl k R w S (.slice none 0 0) [] := ⟨none, 0, rfl, by simp, by simp, by simp⟩
theorem RSl.val (h : RSl k R w S v xs) : ∃ A cap, v = .slice A xs.length cap ∧ xs.length ≤ cap ∧ cap ≤ maxLen := by
  obtain ⟨A, cap, hv, h1, h2, _⟩ := h; exact ⟨A, cap, hv, h1, h2⟩
/-- The element at place j. -/
theorem RSl.at_ {A : Option Addr} {n cap : Nat} (h : RSl k R w S (.slice A n cap) xs) {j : Nat} {x : α} (hj : xs[j]? = some x) :
    ∃ b off cs, A = some ⟨b, off, none⟩ ∧ b < w.heap.size ∧ S b ∧ cs.length = k ∧ (∀ i, i < k → w.cell? ⟨b, off + j * k + i, none⟩ = cs[i]?) ∧ R w S cs x := by
  obtain ⟨A', cap', hv, h1, h2, h3⟩ := h
  have hlt : j < xs.length := (List.getElem?_eq_some_iff.1 hj).1
  obtain ⟨b, off, hA, hb, hs, hx⟩ := h3 (by omega)
  obtain ⟨cs, hl, hc, hr⟩ := hx j x hj
  injection hv with e1 e2 e3
  exact ⟨b, off, cs, by rw [e1, hA], hb, hs, hl, hc, hr⟩
theorem RSl.below [Steady R] (h : RSl k R w S v xs) (hb : Below w.heap.size w w') : RSl k R w' S v xs := h.keep fun b h1 _ => hb.block b h1
end
instance (k : Nat) {α : Type} (R : ERel α) [Steady R] : Steady (fun w S (cs : List Value) (xs : List α) => ∃ v, cs = [v] ∧ RSl k R w S v xs) where
  keep := fun ⟨v, e, h⟩ hw => ⟨v, e, h.keep hw⟩
  more := fun ⟨v, e, h⟩ hw => ⟨v, e, h.more hw⟩

/-! ### a block that is known whole -/
def Blk (w : World) (g : Nat) (t : TypeId) (cs : Array Value) : Prop := w.heap[g]? = some (.cells cs t (0, 0))
section
variable {w w' : World} {g : Nat} {t : TypeId} {cs : Array Value}
theorem Blk.lt (h : Blk w g t cs) : g < w.heap.size := by
  rcases Nat.lt_or_ge g w.heap.size with hlt | hge
  · exact hlt
  · unfold Blk at h; rw [Array.getElem?_eq_none hge] at h; cases h
theorem Blk.cell (h : Blk w g t cs) (i : Nat) : w.cell? ⟨g, i, none⟩ = cs[i]? := cell_of_row w g i cs t (0, 0) h
theorem Blk.frozen (h : Blk w g t cs) (i : Nat) : w.frozen? ⟨g, i, none⟩ = false := by
  unfold Blk at h
  simp [World.frozen?, h]
theorem Blk.new (w : World) (t : TypeId) (cs : Array Value) : Blk (w.alloc (.cells cs t)) w.heap.size t cs := heap_alloc_new w _
theorem Blk.drew (h : Blk w g t cs) : Blk w.drew g t cs := h
theorem Blk.drewN (h : Blk w g t cs) (n : Nat) : Blk (w.drewN n) g t cs := h
theorem Blk.alloc (h : Blk w g t cs) (o : Obj) : Blk (w.alloc o) g t cs := (Below.heap_alloc w o g h.lt).trans h
theorem Blk.set_ (h : Blk w g t cs) (i : Nat) (u : Value) : Blk (w.setCell ⟨g, i, none⟩ u) g t (cs.setIfInBounds i u) := by
  unfold Blk at h ⊢
  simp [World.setCell, Array.getElem?_modify, h]
theorem Blk.far (h : Blk w g t cs) {p : Addr} (hp : g ≠ p.block) (u : Value) : Blk (w.setCell p u) g t cs := (Below.heap_setCell w p u g hp).trans h
theorem Blk.below (h : Blk w g t cs) (hb : Below w.heap.size w w') : Blk w' g t cs := (hb.block g h.lt).trans h
theorem Blk.grown {row : Option Nat} (h : Blk w g t cs) (hb : w.grownBy w' row) (hg : some g ≠ row) : Blk w' g t cs := (hb.block g h.lt hg).trans h
theorem Blk.ne_ {g' : Nat} {t' : TypeId} {cs' : Array Value} (h : Blk w g t cs) (h' : Blk w g' t' cs') (hne : t ≠ t') : g ≠ g' := by
  rintro rfl
  unfold Blk at h h'
  rw [h] at h'
  injection h' with h'
  injection h' with _ ht
  exact hne ht
/-- Two cells, and none of them frozen. -/
theorem Blk.one {a : Value} (h : Blk w g t #[a]) : w.cell? ⟨g, 0, none⟩ = some a ∧ w.frozen? ⟨g, 0, none⟩ = false := ⟨h.cell 0, h.frozen 0⟩
theorem Blk.two {a b : Value} (h : Blk w g t #[a, b]) : w.cell? ⟨g, 0, none⟩ = some a ∧ w.cell? ⟨g, 1, none⟩ = some b ∧ w.frozen? ⟨g, 0, none⟩ = false ∧ w.frozen? ⟨g, 1, none⟩ = false := ⟨h.cell 0, h.cell 1, h.frozen 0, h.frozen 1⟩
theorem Blk.three {a b c : Value} (h : Blk w g t #[a, b, c]) : w.cell? ⟨g, 0, none⟩ = some a ∧ w.cell? ⟨g, 1, none⟩ = some b ∧ w.cell? ⟨g, 2, none⟩ = some c ∧ w.frozen? ⟨g, 0, none⟩ = false ∧ w.frozen? ⟨g, 1, none⟩ = false ∧ w.frozen? ⟨g, 2, none⟩ = false := ⟨h.cell 0, h.cell 1, h.cell 2, h.frozen 0, h.frozen 1, h.frozen 2⟩
end
theorem below_then {B : Nat} {w w1 w2 : World} (h : Below B w w1) (hB : B ≤ w1.heap.size) (k : Below w1.heap.size w1 w2) : Below B w w2 :=
  h.trans ⟨k.os, k.tape, k.output, k.size, fun i hi => k.block i (Nat.lt_of_lt_of_le hi hB)⟩
theorem below2 {w w1 w2 : World} (h : Below w.heap.size w w1) (k : Below w1.heap.size w1 w2) : Below w.heap.size w w2 := below_then h h.size k
theorem grown_below {w w1 : World} (h : Below w.heap.size w w1) (row : Option Nat) : w.grownBy w1 row := ⟨h.os, h.tape, h.output, h.size, fun i hi _ => h.block i hi⟩
theorem pw_cell_below {w w1 : World} (h : Below w.heap.size w w1) {a : Addr} {v : Value} (hc : w.cell? a = some v) : w1.cell? a = some v := (h.cell (World.block_lt_of_cell? w a hc)).trans hc
theorem grown_setCell (w : World) (p : Addr) (u : Value) : w.grownBy (w.setCell p u) (some p.block) :=
  ⟨rfl, rfl, rfl, by simp [World.setCell], fun i _ hi => Below.heap_setCell _ _ _ _ (fun e => hi (by rw [e]))⟩
theorem grown_drew (w : World) : w.grownBy w.drew none := ⟨rfl, rfl, rfl, Nat.le_refl _, fun _ _ _ => rfl⟩
theorem grown_drewN (w : World) (n : Nat) : w.grownBy (w.drewN n) none := ⟨rfl, rfl, rfl, Nat.le_refl _, fun _ _ _ => rfl⟩
end Go.Mm

set_option linter.unusedVariables false
namespace Go.Mm
open Go.RowKit Sb

def In64 (x : Int) : Prop := -9223372036854775808 ≤ x ∧ x ≤ 9223372036854775807
def u8 (x : Int) : Value := .int .u8 x
def i64 (x : Int) : Value := .int .i64 x
def secCells (s : Sec) : List Value := [.int .u8 s.b0, .int .u8 s.b1, .int .u8 s.b2, .int .u8 s.b3, .int .u8 s.b4, .int .u8 s.b5, .int .u8 s.b6, .int .u8 s.b7]
def RSec : ERel Sec := fun _ _ cs s => cs = secCells s
instance : Steady RSec := ⟨fun h _ => h, fun h _ => h⟩
abbrev RSecs := RSl 8 RSec
def RWr : ERel Wr := fun w S cs x => In64 x.vol ∧ In64 x.start ∧ ∃ dv, cs = [.int .i64 x.vol, .int .i64 x.start, dv] ∧ RSecs w S dv x.data
instance : Steady RWr := ⟨fun ⟨a, b, dv, e, h⟩ hw => ⟨a, b, dv, e, h.keep hw⟩, fun ⟨a, b, dv, e, h⟩ hw => ⟨a, b, dv, e, h.more hw⟩⟩
abbrev RWrs := RSl 3 RWr
def RInt : ERel Int := fun _ _ cs x => In64 x ∧ cs = [.int .i64 x]
instance : Steady RInt := ⟨fun h _ => h, fun h _ => h⟩
abbrev RInts := RSl 1 RInt
theorem ret_int {k : IntKind} {a b : Int} (h : a = b) : Ending.returned (.int k a) = .returned (.int k b) := by rw [h]
theorem ret_bool {a b : Bool} (h : a = b) : Ending.returned (.bool a) = .returned (.bool b) := by rw [h]
theorem pw_below_drewN {B : Nat} {w W : World} (h : Below B w W) (n : Nat) : Below B w (W.drewN n) := ⟨h.os, h.tape, h.output, h.size, h.block⟩
/-- Read through whatever blocks. -/
def Any : Nat → Prop := fun _ => True
def sectors (l : List Wr) : Int := (l.map fun w => (w.data.length : Int)).sum
end Go.Mm

set_option linter.unusedVariables false
set_option linter.unusedSimpArgs false
namespace Go.Mm
open Go.RowKit
open Go.Maps (Keyed)

/-! ### maps -/
/-- An element as it stands. -/
def rawR (v : Value) : Option (DataW Value × List MemPlace) := some (.held v, [])
structure KeyKit (P : Program) (k : TypeId) (κ : Type) where
  enc : κ → Value
  dom : κ → Prop
  lit : κ → Lit
  law : Keyed P k
  key : ∀ p, dom p → keyOf P k (enc p) = some (lit p)
  inj : ∀ p q, enc p = enc q → p = q

section
variable {P : Program} {k : TypeId} {κ ν : Type} (K : KeyKit P k κ) (encV : ν → Value)
theorem KeyKit.lit_inj {p q : κ} (hp : K.dom p) (hq : K.dom q) (h : K.lit p = K.lit q) : p = q :=
  K.inj p q (K.law.inj (K.key p hp) (h ▸ K.key q hq))
theorem KeyKit.isKey {p : κ} (hp : K.dom p) : WideAt.IsKeyLit (K.lit p) := K.law.key (K.key p hp)

/-- What the datum of a map says. -/
structure Reads (D : DataW Value) (f : κ → Option ν) (ks : List κ) : Prop where
  none_ : ∀ p, K.dom p → f p = none → Maps.has D (K.lit p) = false
  some_ : ∀ p x, f p = some x → K.dom p ∧ Maps.has D (K.lit p) = true ∧ ∀ zd, D.atKey (K.lit p) zd = .held (encV x)
  keys : ∀ kl, Maps.has D kl = true → ∃ p, K.dom p ∧ K.lit p = kl ∧ (f p).isSome = true
  nodup : ks.Nodup
  mem : ∀ p, p ∈ ks ↔ (f p).isSome = true
  size : Maps.size D = ks.length

/-- Block b is a map of at most n entries that holds f. -/
def MapIs (w : World) (b n : Nat) (f : κ → Option ν) (ks : List κ) : Prop := ∃ D : DataW Value, w.ownsMap P k rawR b n D ∧ Reads K encV D f ks

variable {K encV} {w w' : World} {b n : Nat} {f : κ → Option ν} {ks : List κ}
theorem MapIs.made (w : World) : MapIs K encV (w.alloc (.map #[] 0)) w.heap.size 0 (fun _ => none) [] :=
  ⟨_, World.ownsMap_made w P k rawR, ⟨fun _ _ _ => rfl, (by intro _ _ h; cases h), (by intro kl h; cases h), .nil, by simp, rfl⟩⟩
theorem MapIs.lt (h : MapIs K encV w b n f ks) : b < w.heap.size := by obtain ⟨D, h, _⟩ := h; exact h.lt
theorem MapIs.kept {row : Option Nat} (h : MapIs K encV w b n f ks) (hg : w.grownBy w' row) (hne : some b ≠ row) : MapIs K encV w' b n f ks := by
  obtain ⟨D, h, hr⟩ := h; exact ⟨D, h.kept hg hne, hr⟩
theorem MapIs.alloc (h : MapIs K encV w b n f ks) (o : Obj) : MapIs K encV (w.alloc o) b n f ks := h.kept (World.grownBy_alloc w o none) (by simp)
theorem MapIs.drew (h : MapIs K encV w b n f ks) : MapIs K encV w.drew b n f ks := h
theorem MapIs.below (h : MapIs K encV w b n f ks) (hb : Below w.heap.size w w') : MapIs K encV w' b n f ks :=
  h.kept (row := none) ⟨hb.os, hb.tape, hb.output, hb.size, fun i hi _ => hb.block i hi⟩ (by simp)
theorem MapIs.setCell (h : MapIs K encV w b n f ks) {a : Addr} (ha : b ≠ a.block) (u : Value) : MapIs K encV (w.setCell a u) b n f ks := by
  obtain ⟨D, h, hr⟩ := h; exact ⟨D, h.setCell ha u, hr⟩

/-- One entry more, or another element at a key. -/
def upd [DecidableEq κ] (f : κ → Option ν) (p : κ) (x : ν) : κ → Option ν := fun q => if q = p then some x else f q
def addKey [DecidableEq κ] (ks : List κ) (p : κ) : List κ := if p ∈ ks then ks else ks ++ [p]

theorem Reads.put [DecidableEq κ] {D : DataW Value} (h : Reads K encV D f ks) (ht : Maps.Tidy D) {p : κ} (hp : K.dom p) (x : ν) : Reads K encV (D.put (K.lit p) (.held (encV x))) (upd f p x) (addKey ks p) where
  none_ q hq hn := by
    unfold upd at hn
    split at hn
    · cases hn
    · rename_i hne
      rw [Maps.has_put_other (fun e => hne (K.lit_inj hq hp e))]
      exact h.none_ q hq hn
  some_ q y hy := by
    unfold upd at hy
    split at hy
    · rename_i he
      subst he
      injection hy with hy
      subst hy
      exact ⟨hp, Maps.has_put_same ht.isMap (K.isKey hp) _, fun zd => Maps.atKey_put_same ht.isMap (K.isKey hp) _ _⟩
    · rename_i hne
      obtain ⟨h1, h2, h3⟩ := h.some_ q y hy
      have hl : K.lit q ≠ K.lit p := fun e => hne (K.lit_inj h1 hp e)
      exact ⟨h1, by rw [Maps.has_put_other hl]; exact h2, fun zd => by rw [Maps.atKey_put_other hl]; exact h3 zd⟩
  keys kl hk := by
    by_cases e : kl = K.lit p
    · exact ⟨p, hp, e.symm, by simp [upd]⟩
    · rw [Maps.has_put_other e] at hk
      obtain ⟨q, h1, h2, h3⟩ := h.keys kl hk
      refine ⟨q, h1, h2, ?_⟩
      unfold upd
      split
      · rfl
      · exact h3
  nodup := by
    unfold addKey
    split
    · exact h.nodup
    · rename_i hn
      exact List.nodup_append.2 ⟨h.nodup, by simp, fun a ha b hb e => hn (by simp at hb; rw [← hb, ← e]; exact ha)⟩
  mem q := by
    unfold addKey upd
    by_cases e : q = p
    · subst e
      simp only [if_true]
      split
      · rename_i hm; simp [hm]
      · simp
    · rw [if_neg e, ← h.mem q]
      split
      · rfl
      · simp [e]
  size := by
    rw [Maps.size_put ht, h.size]
    unfold addKey
    by_cases hm : p ∈ ks
    · have := (h.mem p).1 hm
      obtain ⟨y, hy⟩ := Option.isSome_iff_exists.1 this
      rw [(h.some_ p y hy).2.1]; simp [hm]
    · have : f p = none := by
        cases hf : f p with
        | none => rfl
        | some y => exact absurd ((h.mem p).2 (by simp [hf])) hm
      rw [h.none_ p hp this]; simp [hm]

/-- 'm[k] = v' at the operation. -/
theorem wpList_put [DecidableEq κ] {ops : Array Oper} {rest : List Oper} {o : Oper} {a : Act} {Q : Exit → Act → World → Prop} (w : World)
    (hg : o.guard = none) (m x v : Operand) (t : TypeId) (hop : o.op = Op.mapUpdate t m x v) (e : TypeId) (ht : P.underlying t = some (.map k e))
    (b n : Nat) (f : κ → Option ν) (ks : List κ) (hm : a.eval m = .map (some b)) (hown : MapIs K encV w b n f ks) (hn : n < maxLen)
    (p : κ) (hp : K.dom p) (y : ν) (hx : a.eval x = K.enc p) (hv : a.eval v = encV y)
    (hK : ∀ w', MapIs K encV w' b (n + 1) (upd f p y) (addKey ks p) → w.grownBy w' (some b) → wpList P ops Q rest (a.put o.dst undef) w') :
    wpList P ops Q (o :: rest) a w := by
  obtain ⟨D, ho, hr⟩ := hown
  have htidy := ho.tidy K.law
  refine wpList_mapUpdate_own w hg m x v t hop k e K.law ht rawR b n D hm ho hn _ _ (K.lit p) hx hv (K.key p hp) (.held (encV y)) [] rfl fun w' h1 h2 => ?_
  exact hK w' ⟨_, h1, hr.put htidy hp y⟩ h2

/-- 'm[k]': the element is there. -/
theorem MapIs.look_some {t e : TypeId} (h : MapIs K encV w b n f ks) (ht : P.underlying t = some (.map k e)) {z : Value} (hz : (zeroValue e).run P w = .ok z w) {p : κ} {x : ν} (hf : f p = some x) :
    (Instr.lookup t (.map (some b)) (K.enc p) false).run P w = .ok (encV x) w ∧ (Instr.lookup t (.map (some b)) (K.enc p) true).run P w = .ok (.tuple #[encV x, .bool true]) w := by
  obtain ⟨D, ho, hr⟩ := h
  obtain ⟨h1, h2, h3⟩ := hr.some_ p x hf
  obtain ⟨es, clock, hb, F, _, rfl⟩ := ho
  constructor
  · rcases Maps.fit_look false K.law ht hz hb F (K.key p h1) with ⟨_, _, hat⟩ | ⟨e0, y, _, _, hrun, hRv, hat, _⟩
    · have := Maps.has_false_of_atKey hat; rw [h2] at this; cases this
    · have := (hat .nil).symm.trans (h3 .nil)
      have hy : y = (.held e0.val, []) := by simpa [rawR] using hRv.symm
      rw [hy] at this
      injection this with this
      rw [hrun, this]; rfl
  · rcases Maps.fit_look true K.law ht hz hb F (K.key p h1) with ⟨_, _, hat⟩ | ⟨e0, y, _, _, hrun, hRv, hat, _⟩
    · have := Maps.has_false_of_atKey hat; rw [h2] at this; cases this
    · have := (hat .nil).symm.trans (h3 .nil)
      have hy : y = (.held e0.val, []) := by simpa [rawR] using hRv.symm
      rw [hy] at this
      injection this with this
      rw [hrun, this]; rfl
theorem MapIs.look_none {t e : TypeId} (h : MapIs K encV w b n f ks) (ht : P.underlying t = some (.map k e)) {z : Value} (hz : (zeroValue e).run P w = .ok z w) {p : κ} (hp : K.dom p) (hf : f p = none) :
    (Instr.lookup t (.map (some b)) (K.enc p) false).run P w = .ok z w ∧ (Instr.lookup t (.map (some b)) (K.enc p) true).run P w = .ok (.tuple #[z, .bool false]) w := by
  obtain ⟨D, ho, hr⟩ := h
  have h2 := hr.none_ p hp hf
  obtain ⟨es, clock, hb, F, _, rfl⟩ := ho
  constructor
  · rcases Maps.fit_look false K.law ht hz hb F (K.key p hp) with ⟨hrun, _, _⟩ | ⟨e0, y, _, _, hrun, hRv, hat, _⟩
    · rw [hrun]; rfl
    · have := Maps.has_true_of_atKey hat; rw [h2] at this; cases this
  · rcases Maps.fit_look true K.law ht hz hb F (K.key p hp) with ⟨hrun, _, _⟩ | ⟨e0, y, _, _, hrun, hRv, hat, _⟩
    · rw [hrun]; rfl
    · have := Maps.has_true_of_atKey hat; rw [h2] at this; cases this
/-- 'len(m)'. -/
theorem MapIs.len {t e : TypeId} (h : MapIs K encV w b n f ks) (ht : P.underlying t = some (.map k e)) (ty : TypeId) : (Builtin.len_ #[t] ty #[.map (some b)]).run P w = .ok (.int .i64 ks.length) w ∧ ks.length ≤ n := by
  obtain ⟨D, ho, hr⟩ := h
  rw [← hr.size]
  exact ⟨ho.len ht ty, ho.size_le⟩

/-- 'delete(m, k)'. -/
def del [DecidableEq κ] (f : κ → Option ν) (p : κ) : κ → Option ν := fun q => if q = p then none else f q
def delKeys [DecidableEq κ] (ks : List κ) (p : κ) : List κ := ks.filter fun q => !decide (q = p)
theorem Reads.del [DecidableEq κ] {D : DataW Value} (h : Reads K encV D f ks) (ht : Maps.Tidy D) {p : κ} (hp : K.dom p) : Reads K encV (D.del (K.lit p)) (Mm.del f p) (delKeys ks p) where
  none_ q hq hn := by
    unfold Mm.del at hn
    split at hn
    · rename_i he; subst he; exact Maps.has_del_same
    · rename_i hne
      rw [Maps.has_del_other (fun e => hne (K.lit_inj hq hp e))]
      exact h.none_ q hq hn
  some_ q y hy := by
    unfold Mm.del at hy
    split at hy
    · cases hy
    · rename_i hne
      obtain ⟨h1, h2, h3⟩ := h.some_ q y hy
      have hl : K.lit q ≠ K.lit p := fun e => hne (K.lit_inj h1 hp e)
      exact ⟨h1, by rw [Maps.has_del_other hl]; exact h2, fun zd => by rw [Maps.atKey_del_other hl]; exact h3 zd⟩
  keys kl hk := by
    by_cases e : kl = K.lit p
    · rw [e, Maps.has_del_same] at hk; cases hk
    · rw [Maps.has_del_other e] at hk
      obtain ⟨q, h1, h2, h3⟩ := h.keys kl hk
      refine ⟨q, h1, h2, ?_⟩
      unfold Mm.del
      rw [if_neg (fun e' => e (by rw [← h2, e']))]
      exact h3
  nodup := h.nodup.filter _
  mem q := by
    unfold delKeys Mm.del
    rw [List.mem_filter, h.mem q]
    by_cases e : q = p <;> simp [e]
  size := by
    have h1 := Maps.size_del (k := K.lit p) ht
    rw [h.size] at h1
    unfold delKeys
    by_cases hm : p ∈ ks
    · have := (h.mem p).1 hm
      obtain ⟨y, hy⟩ := Option.isSome_iff_exists.1 this
      rw [(h.some_ p y hy).2.1] at h1
      have h2 : ∀ l : List κ, l.Nodup → p ∈ l → (l.filter fun q => !decide (q = p)).length + 1 = l.length := by
        intro l
        induction l with
        | nil => intro _ hm; simp at hm
        | cons a l ih =>
          intro hn hm
          obtain ⟨hn1, hn2⟩ := List.nodup_cons.1 hn
          by_cases e : a = p
          · subst e
            have : (l.filter fun q => !decide (q = a)) = l := List.filter_eq_self.2 fun q hq => by
              have : q ≠ a := fun e => hn1 (e ▸ hq)
              simp [this]
            simp [this]
          · have hm' : p ∈ l := by
              rcases List.mem_cons.1 hm with rfl | hm
              · exact absurd rfl e
              · exact hm
            have := ih hn2 hm'
            simp [e]; omega
      have := h2 ks h.nodup hm
      simp at h1; omega
    · have : f p = none := by
        cases hf : f p with
        | none => rfl
        | some y => exact absurd ((h.mem p).2 (by simp [hf])) hm
      rw [h.none_ p hp this] at h1
      have h2 : (ks.filter fun q => !decide (q = p)) = ks := List.filter_eq_self.2 fun q hq => by
        have : q ≠ p := fun e => hm (e ▸ hq)
        simp [this]
      rw [h2]
      simpa using h1
theorem MapIs.drop [DecidableEq κ] {t e : TypeId} (h : MapIs K encV w b n f ks) (ht : P.underlying t = some (.map k e)) {p : κ} (hp : K.dom p) (ty : TypeId) :
    ∃ w', (Builtin.delete_ #[t, k] ty #[.map (some b), K.enc p]).run P w = .ok (.tuple #[]) w' ∧ MapIs K encV w' b n (Mm.del f p) (delKeys ks p) ∧ w.grownBy w' (some b) := by
  obtain ⟨D, ho, hr⟩ := h
  obtain ⟨w', hrun, h1, h2⟩ := ho.drop K.law ht (K.key p hp) ty
  exact ⟨w', hrun, ⟨_, h1, hr.del (ho.tidy K.law) hp⟩, h2.grown⟩
end

/-! ### ranging over a map -/
section
variable {P : Program} {k : TypeId} {κ ν : Type} [DecidableEq κ] (K : KeyKit P k κ) (encV : ν → Value)
/-- A range over map b is under way; the keys 'done' have come. -/
def RangeIs (w : World) (b r n : Nat) (f : κ → Option ν) (ks done : List κ) : Prop :=
  ∃ (D : DataW Value) (left : Lit → Bool) (cnt : Nat), w.ranges P k rawR b r n D left cnt ∧ Reads K encV D f ks ∧ (∀ p, K.dom p → left (K.lit p) = ((f p).isSome && !decide (p ∈ done))) ∧
    (∀ kl, left kl = true → Maps.has D kl = true) ∧ done.Nodup ∧ ∀ p ∈ done, (f p).isSome = true
variable {K encV} {w w' : World} {b r n : Nat} {f : κ → Option ν} {ks done : List κ}
theorem RangeIs.kept {row : Option Nat} (h : RangeIs K encV w b r n f ks done) (hg : w.grownBy w' row) (hb' : some b ≠ row) (hr' : some r ≠ row) : RangeIs K encV w' b r n f ks done := by
  obtain ⟨D, left, cnt, h, rest⟩ := h; exact ⟨D, left, cnt, h.kept hg hb' hr', rest⟩
theorem RangeIs.alloc (h : RangeIs K encV w b r n f ks done) (o : Obj) : RangeIs K encV (w.alloc o) b r n f ks done := h.kept (World.grownBy_alloc w o none) (by simp) (by simp)
theorem RangeIs.owns (h : RangeIs K encV w b r n f ks done) : MapIs K encV w b n f ks := by
  obtain ⟨D, left, cnt, h, hr, _⟩ := h; exact ⟨D, h.owns, hr⟩
theorem RangeIs.ne (h : RangeIs K encV w b r n f ks done) : r ≠ b := by obtain ⟨D, left, cnt, h, _⟩ := h; exact h.ne
theorem RangeIs.lt (h : RangeIs K encV w b r n f ks done) : r < w.heap.size := by obtain ⟨D, left, cnt, h, _⟩ := h; exact h.lt

/-- 'range m'. -/
theorem wpList_rangeMap {ops : Array Oper} {rest : List Oper} {o : Oper} {a : Act} {Q : Exit → Act → World → Prop} (w : World)
    (hg : o.guard = none) (m : Operand) (t : TypeId) (hop : o.op = Op.range t m) (e : TypeId) (ht : P.underlying t = some (.map k e))
    (b n : Nat) (f : κ → Option ν) (ks : List κ) (hm : a.eval m = .map (some b)) (hown : MapIs K encV w b n f ks)
    (hK : ∀ w', RangeIs K encV w' b w.heap.size n f ks [] → w.grownBy w' none → w'.heap.size = w.heap.size + 1 → wpList P ops Q rest (a.put o.dst (.pointer (some ⟨w.heap.size, 0, none⟩))) w') :
    wpList P ops Q (o :: rest) a w := by
  obtain ⟨D, ho, hr⟩ := hown
  refine wpList_range_own w hg m t hop k e K.law ht rawR b n D hm ho fun w' h1 h2 h3 => hK w' ⟨D, _, _, h1, hr, fun p hp => ?_, fun kl h => h, .nil, by simp⟩ h2 h3
  cases hf : f p with
  | none => simp [hr.none_ p hp hf]
  | some x => simp [(hr.some_ p x hf).2.1]

/-- The step. -/
theorem wpList_nextMap {ops : Array Oper} {rest : List Oper} {o : Oper} {a : Act} {Q : Exit → Act → World → Prop} (w : World)
    (hg : o.guard = none) (it : Operand) (hop : o.op = Op.next it false) (b r n : Nat) (f : κ → Option ν) (ks done : List κ)
    (hit : a.eval it = .pointer (some ⟨r, 0, none⟩)) (h : RangeIs K encV w b r n f ks done)
    (hDone : (∀ p, (f p).isSome = true → p ∈ done) → wpList P ops Q rest (a.put o.dst (.tuple #[.bool false])) w)
    (hMore : ∀ (p : κ) (x : ν) (w' : World), K.dom p → f p = some x → p ∉ done → RangeIs K encV w' b r n f ks (done ++ [p]) → w'.rangeLeft b r < w.rangeLeft b r →
      w.grownBy w' (some r) → w'.heap.size = w.heap.size → (Instr.entry (.pointer (some ⟨r, 0, none⟩))).run P w' = .ok (.tuple #[K.enc p, encV x]) w' → wpList P ops Q rest (a.put o.dst (.tuple #[.bool true, K.enc p, encV x])) w') :
    wpList P ops Q (o :: rest) a w := by
  obtain ⟨D, left, cnt, h, hr, hl, hh, hnd, hdf⟩ := h
  refine wpList_plain hg fun K' hK' => ?_
  unfold Oper.wp
  have hcl := h.left_eq
  rcases h.next K.law o.type with ⟨h0, hlf, hrun⟩ | ⟨key, v, kl, y, w', cnt', hkey, hlk, hv, hat, hrun, hrg, hlt, hgr, hsz, hen⟩
  · simp [execOp, hop, hit, hrun, Result.andThen]
    refine hK' _ _ (hDone fun p hp => ?_)
    obtain ⟨x, hx⟩ := Option.isSome_iff_exists.1 hp
    have := hl p (hr.some_ p x hx).1
    rw [hlf, hp] at this
    simpa using this
  · obtain ⟨p, hp, rfl, hfp⟩ := hr.keys kl (hh kl hlk)
    obtain ⟨x, hx⟩ := Option.isSome_iff_exists.1 hfp
    have e1 : key = K.enc p := K.law.inj hkey (K.key p hp)
    have e2 : v = encV x := by
      have h1 := (hat .nil).symm.trans ((hr.some_ p x hx).2.2 .nil)
      have hy : y = (.held v, []) := by simpa [rawR] using hv.symm
      rw [hy] at h1
      injection h1
    subst e1; subst e2
    have hnot : p ∉ done := by
      have := hl p hp
      rw [hlk] at this
      intro hm
      simp [hm] at this
    simp [execOp, hop, hit, hrun, Result.andThen]
    refine hK' _ _ (hMore p x w' hp hx hnot ⟨D, _, cnt', hrg, hr, fun q hq => ?_, fun kl' h' => hh kl' (by simp at h'; exact h'.1), ?_, ?_⟩ (by rw [hcl, hrg.left_eq]; exact hlt) hgr hsz hen)
    · rw [hl q hq]
      by_cases e : q = p
      · subst e
        rw [WideAt.sameKey_self (K.isKey hq)]; simp
      · have : (K.lit q).sameKey (K.lit p) = false := Maps.sameKey_ne fun e' => e (K.lit_inj hq hp e')
        rw [this]; simp [e]
    · exact List.nodup_append.2 ⟨hnd, by simp, fun a ha b hb e => hnot (by simp at hb; rw [← hb, ← e]; exact ha)⟩
    · intro q hq
      rcases List.mem_append.1 hq with hq | hq
      · exact hdf q hq
      · obtain rfl := List.mem_singleton.1 hq; exact hfp
theorem RangeIs.nodup (h : RangeIs K encV w b r n f ks done) : done.Nodup := by obtain ⟨_, _, _, _, _, _, _, h, _⟩ := h; exact h
theorem RangeIs.isSome (h : RangeIs K encV w b r n f ks done) : ∀ p ∈ done, (f p).isSome = true := by obtain ⟨_, _, _, _, _, _, _, _, h⟩ := h; exact h
end
end Go.Mm

set_option linter.unusedVariables false
set_option linter.unusedSimpArgs false
namespace Go.Mm
open Go.RowKit

/-! ### a slice that the call itself has made: its row, and its elements, read through other blocks -/
def OwnSl (e : TypeId) (k : Nat) {α : Type} (R : ERel α) (w : World) (base : Nat) (S : Nat → Prop) (v : Value) (xs : List α) : Prop :=
  ∃ cells : List (List Value), w.ownsRow base e k v xs.length cells.flatten ∧ cells.length = xs.length ∧ (∀ cs ∈ cells, cs.length = k) ∧
    ∀ (j : Nat) (cs : List Value) (x : α), cells[j]? = some cs → xs[j]? = some x → R w (fun b => S b ∧ some b ≠ v.ownBlock) cs x

theorem flatten_get {k : Nat} : ∀ {cells : List (List Value)} (h : ∀ cs ∈ cells, cs.length = k) {j : Nat} {cs : List Value} (hj : cells[j]? = some cs) (i : Nat), i < k → cells.flatten[j * k + i]? = cs[i]?
  | [], _, _, _, hj, _, _ => by simp at hj
  | c :: cells, h, 0, cs, hj, i, hi => by
    simp at hj; subst hj
    have := h c (by simp)
    simp [List.getElem?_append, this, hi]
  | c :: cells, h, j + 1, cs, hj, i, hi => by
    have hc := h c (by simp)
    have := flatten_get (fun x hx => h x (List.mem_cons_of_mem _ hx)) (by simpa using hj) i hi
    rw [List.flatten_cons, List.getElem?_append_right (by rw [hc, Nat.add_mul]; omega), hc, ← this]
    congr 1
    rw [Nat.add_mul]; omega
theorem flatten_len {k : Nat} : ∀ {cells : List (List Value)} (h : ∀ cs ∈ cells, cs.length = k), cells.flatten.length = cells.length * k
  | [], _ => by simp
  | c :: cells, h => by
    rw [List.flatten_cons, List.length_append, h c (by simp), flatten_len (fun x hx => h x (by simp [hx])), List.length_cons, Nat.add_mul]; omega

section
variable {e : TypeId} {k : Nat} {α : Type} {R : ERel α} {w w' : World} {base : Nat} {S T : Nat → Prop} {v : Value} {xs : List α}
theorem OwnSl.nil (w : World) : OwnSl e k R w base S (.slice none 0 0) [] := ⟨[], World.ownsRow_nil w base e k, rfl, by simp, by simp⟩
theorem OwnSl.row (h : OwnSl e k R w base S v xs) : ∃ cells : List (List Value), w.ownsRow base e k v xs.length cells.flatten := by obtain ⟨c, h, _⟩ := h; exact ⟨c, h⟩
theorem OwnSl.lt (h : OwnSl e k R w base S v xs) : ∀ g, v.ownBlock = some g → base ≤ g ∧ g < w.heap.size := by obtain ⟨c, h, _⟩ := h; exact h.lt
theorem OwnSl.val (h : OwnSl e k R w base S v xs) : ∃ A cap, v = .slice A xs.length cap ∧ xs.length ≤ cap ∧ cap ≤ maxLen := by
  obtain ⟨c, h, _⟩ := h
  rcases h.2 with ⟨rfl, h0⟩ | ⟨g, cap, cur, rfl, _, _, h1, h2, _⟩
  · exact ⟨none, 0, by rw [h0], by omega, by simp⟩
  · exact ⟨_, cap, rfl, h1, h2⟩
theorem OwnSl.more [st : Steady R] (h : OwnSl e k R w base S v xs) (hT : ∀ b, b < w.heap.size → S b → T b) : OwnSl e k R w base T v xs := by
  obtain ⟨c, h1, h2, h3, h4⟩ := h
  exact ⟨c, h1, h2, h3, fun j cs x hj hx => st.more (h4 j cs x hj hx) fun b hb ⟨ha, hb'⟩ => ⟨hT b hb ha, hb'⟩⟩
/-- Blocks turn, none of them the row's, none of those through which the elements are read. -/
theorem OwnSl.kept [st : Steady R] {row : Option Nat} (h : OwnSl e k R w base S v xs) (hg : w.grownBy w' row) (hne : v.ownBlock = none ∨ v.ownBlock ≠ row) (hS : ∀ b, b < w.heap.size → S b → some b ≠ v.ownBlock → some b ≠ row) : OwnSl e k R w' base S v xs := by
  obtain ⟨c, h1, h2, h3, h4⟩ := h
  exact ⟨c, h1.kept hg hne, h2, h3, fun j cs x hj hx => st.keep (h4 j cs x hj hx) fun b hb ⟨ha, hb'⟩ => hg.block b hb (hS b hb ha hb')⟩
theorem OwnSl.below [Steady R] (h : OwnSl e k R w base S v xs) (hb : Below w.heap.size w w') : OwnSl e k R w' base S v xs :=
  h.kept (row := none) (grown_below hb none) (by cases v.ownBlock <;> simp) (fun b _ _ _ => by simp)
theorem OwnSl.alloc [Steady R] (h : OwnSl e k R w base S v xs) (o : Obj) : OwnSl e k R (w.alloc o) base S v xs := h.below ((Below.refl _ _).alloc (Nat.le_refl _) o)
theorem OwnSl.drew [st : Steady R] (h : OwnSl e k R w base S v xs) : OwnSl e k R w.drew base S v xs := h.below (below_drew' (Below.refl _ _))
  where below_drew' {B : Nat} {a w : World} (h : Below B a w) : Below B a w.drew := h.drew

/-- As a slice that is read. -/
theorem OwnSl.reads [st : Steady R] (h : OwnSl e k R w base S v xs) (hT : ∀ b, b < w.heap.size → (S b ∨ some b = v.ownBlock) → T b) : RSl k R w T v xs := by
  obtain ⟨c, h1, h2, h3, h4⟩ := h
  rcases h1.2 with ⟨rfl, h0⟩ | ⟨g, cap, cur, rfl, hbg, hg, hn, hm, hcs, htake⟩
  · obtain rfl : xs = [] := List.eq_nil_of_length_eq_zero h0
    exact RSl.nil _ _
  · refine ⟨_, cap, rfl, hn, hm, fun h0 => ⟨g, 0, rfl, (Array.getElem?_eq_some_iff.1 hg).1, hT g (Array.getElem?_eq_some_iff.1 hg).1 (.inr rfl), fun j x hj => ?_⟩⟩
    have hjl : j < c.length := by rw [h2]; exact (List.getElem?_eq_some_iff.1 hj).1
    have hcj := List.getElem?_eq_getElem hjl
    refine ⟨c[j], h3 _ (List.getElem_mem hjl), fun i hi => ?_, st.more (h4 j _ x hcj hj) fun b hb ⟨ha, _⟩ => hT b hb (.inl ha)⟩
    rw [← flatten_get h3 hcj i hi]
    have hlt : j * k + i < c.flatten.length := by
      rw [flatten_len h3]
      have : (j + 1) * k ≤ c.length * k := Nat.mul_le_mul_right _ hjl
      rw [Nat.add_mul] at this; omega
    have := h1.cells (g := g) rfl (j * k + i) _ (List.getElem?_eq_getElem hlt)
    have e1 : (⟨g, 0, none⟩ : Addr).add (j * k + i) = ⟨g, 0 + j * k + i, none⟩ := by unfold Addr.add; split <;> simp_all
    rw [e1] at this
    rw [this, List.getElem?_eq_getElem hlt]

/-- append(v, x) at the operation; x's cells lie in a block of their own at ad. -/
theorem wpList_appendSl {P : Program} {ops : Array Oper} {rest : List Oper} {o : Oper} {a : Act} {Q : Exit → Act → World → Prop} (hgd : o.guard = none) (s y : Operand) (t : TypeId)
    (ho : o.op = .call { callee := .builtin .append, args := #[s, y], argTypes := #[t, t] })
    (e : TypeId) (z : Value) (k bytes : Nat) (ht : P.underlying t = some (.slice e)) (hinfo : (P.info? e).map (fun i => (i.zero, i.size, i.bytes)) = some (some z, k, bytes)) (hzs : z.cells.size = k) (hsz : 0 < k)
    (R : ERel α) [st : Steady R] (base : Nat) (S : Nat → Prop) (v : Value) (xs : List α) (hs : a.eval s = v) (hown : OwnSl e k R w base S v xs)
    (ad : Addr) (cs : List Value) (x : α) (hx : a.eval y = .slice (some ad) 1 1) (hl : cs.length = k) (hcs : ∀ j u, cs[j]? = some u → w.cell? (ad.add j) = some u) (h1 : ∀ u ∈ cs, u.oneCell' = true)
    (hR : R w (fun b => S b ∧ some b ≠ v.ownBlock) cs x) (hbytes : (xs.length + 1) * bytes ≤ 140737488355328) (hb0 : 0 < bytes) (hbase : base ≤ w.heap.size)
    (h : ∀ v' w', OwnSl e k R w' base S v' (xs ++ [x]) → w.grownBy w' v.ownBlock → (v'.ownBlock = v.ownBlock ∨ v'.ownBlock = some w.heap.size) → wpList P ops Q rest (a.put o.dst v') w') :
    wpList P ops Q (o :: rest) a w := by
  obtain ⟨i0, hi, hzz⟩ := Option.map_eq_some_iff.1 hinfo
  simp only [Prod.mk.injEq] at hzz
  obtain ⟨hz0, hz1, hz2⟩ := hzz
  obtain ⟨c, o1, o2, o3, o4⟩ := hown
  have hlen : xs.length + 1 ≤ 140737488355328 := Nat.le_trans (Nat.le_mul_of_pos_right _ hb0) hbytes
  refine wpList_append_own_at w hgd s y t ho base e i0 z k bytes ht hi hz0 hz1 hz2 hzs hsz v xs.length c.flatten hs o1 ad 1 1 cs hx (by simpa using hl) hcs h1 (by unfold maxLen; omega) hbytes hbase ?_
  intro v' w' hown' hg _ hat
  refine h v' w' ⟨c ++ [cs], by simpa using hown', by simp [o2], ?_, ?_⟩ hg hat
  · intro cs' hc
    rcases List.mem_append.1 hc with hc | hc
    · exact o3 _ hc
    · obtain rfl := List.mem_singleton.1 hc; exact hl
  · have hkeep : ∀ {cs' : List Value} {x' : α}, R w (fun b => S b ∧ some b ≠ v.ownBlock) cs' x' → R w' (fun b => S b ∧ some b ≠ v'.ownBlock) cs' x' := by
      intro cs' x' hr
      have h1 := st.more hr (T := fun b => (S b ∧ some b ≠ v.ownBlock) ∧ b < w.heap.size) fun b hb hh => ⟨hh, hb⟩
      have h2 := st.keep h1 (w' := w') fun b hb ⟨⟨_, hh⟩, _⟩ => hg.block b hb hh
      refine st.more h2 fun b hb ⟨⟨ha, hh⟩, hlt⟩ => ⟨ha, ?_⟩
      rcases hat with hat | hat
      · rw [hat]; exact hh
      · rw [hat]; intro e; injection e with e; omega
    intro j cs' x' hj hx'
    by_cases hjl : j < xs.length
    · rw [List.getElem?_append_left hjl] at hx'
      rw [List.getElem?_append_left (by omega)] at hj
      exact hkeep (o4 j cs' x' hj hx')
    · rw [List.getElem?_append_right (by omega)] at hx'
      rw [List.getElem?_append_right (by omega)] at hj
      have e1 : j - xs.length = 0 := by
        have := (List.getElem?_eq_some_iff.1 hx').1; simp at this; omega
      rw [o2, e1] at hj
      rw [e1] at hx'
      simp at hj hx'
      subst hj; subst hx'
      exact hkeep hR

/-- append(v, x), x's cells just laid by the variadic's box: the world is 'w.alloc' of it. -/
theorem wpList_appendNew {P : Program} {ops : Array Oper} {rest : List Oper} {o : Oper} {a : Act} {Q : Exit → Act → World → Prop} (hgd : o.guard = none) (s y : Operand) (t : TypeId)
    (ho : o.op = .call { callee := .builtin .append, args := #[s, y], argTypes := #[t, t] })
    (e : TypeId) (z : Value) (k bytes : Nat) (ht : P.underlying t = some (.slice e)) (hinfo : (P.info? e).map (fun i => (i.zero, i.size, i.bytes)) = some (some z, k, bytes)) (hzs : z.cells.size = k) (hsz : 0 < k)
    (R : ERel α) [st : Steady R] (base : Nat) (S : Nat → Prop) (v : Value) (xs : List α) (hs : a.eval s = v) (hown : OwnSl e k R w base S v xs)
    (cs : Array Value) (x : α) (H : Nat) (hH : w.heap.size = H) (hx : a.eval y = .slice (some ⟨H, 0, none⟩) 1 1) (hl : cs.size = k) (h1 : ∀ u ∈ cs.toList, u.oneCell' = true)
    (hR : R w (fun b => S b ∧ some b ≠ v.ownBlock) cs.toList x) (hbytes : (xs.length + 1) * bytes ≤ 140737488355328) (hb0 : 0 < bytes) (hbase : base ≤ w.heap.size)
    (h : ∀ v' w', OwnSl e k R w' base S v' (xs ++ [x]) → w.grownBy w' v.ownBlock → (v'.ownBlock = v.ownBlock ∨ ∃ g, v'.ownBlock = some g ∧ w.heap.size ≤ g) → wpList P ops Q rest (a.put o.dst v') w') :
    wpList P ops Q (o :: rest) a (w.alloc (.cells cs e)) := by
  subst hH
  have hb : Below w.heap.size w (w.alloc (.cells cs e)) := (Below.refl _ _).alloc (Nat.le_refl _) _
  refine wpList_appendSl hgd s y t ho e z k bytes ht hinfo hzs hsz R base S v xs hs (hown.alloc _) ⟨w.heap.size, 0, none⟩ cs.toList x hx (by simpa using hl) ?_ h1
    (st.keep hR fun b hlt _ => hb.block b hlt) hbytes hb0 (by simp; omega) fun v' w' h2 h3 h4 => h v' w' h2 ?_ ?_
  · exact World.news_of_block (cs := cs) (t := e) (fr := (0, 0)) (heap_alloc_new w _)
  · exact ⟨h3.os, h3.tape, h3.output, Nat.le_trans (by simp) h3.size, fun i hi hne => (h3.block i (by simp; omega) hne).trans (Below.heap_alloc w _ i hi)⟩
  · rcases h4 with h4 | h4
    · exact .inl h4
    · exact .inr ⟨_, h4, by simp⟩
end
end Go.Mm

set_option linter.unusedVariables false
set_option linter.unusedSimpArgs false
namespace Go.Mm
open Go.RowKit Go.Proofs
open Go.Sort hiding Below

/-! ### what the sort does to a row of the call's own -/
theorem grown_sortWorldK {α : Type} [Inhabited α] (enc : α → List Value) (k : Nat) (w : World) (g off m : Nat) (dk : Array α) (os : Array Obj) : w.grownBy (sortWorldK enc k w g off m dk os) (some g) := by
  unfold sortWorldK
  have h1 : w.grownBy (putRowK enc k (Sort.ahead w m) g off dk) (some g) := by
    refine ⟨rfl, rfl, rfl, by simp [putRowK, Sort.putRow, Sort.mapBlock, Sort.ahead], fun i _ hi => ?_⟩
    simp only [putRowK, Sort.putRow, Sort.mapBlock, Sort.ahead, Array.getElem?_modify]
    rw [if_neg (fun e => hi (by rw [e]))]
  exact ⟨h1.os, h1.tape, h1.output, by have := h1.size; simp [Sort.grow] at this ⊢; omega, fun i hi hne => (Sort.heap_grow_old _ _ (Nat.lt_of_lt_of_le hi h1.size)).trans (h1.block i hi hne)⟩

theorem flatK_toList {α : Type} [Inhabited α] (enc : α → List Value) (k : Nat) (hk : ∀ x, (enc x).length = k) (h0 : 0 < k) (xs : List α) (t : Nat) (ht : t < xs.length * k) : (flatK enc k xs.toArray)[t]! = ((xs.map enc).flatten)[t]?.getD default := by
  rw [get_flatK enc k xs.toArray t (by simpa using ht)]
  have hlt : t / k < xs.length := (Nat.div_lt_iff_lt_mul h0).2 ht
  have hm : t % k < k := Nat.mod_lt _ h0
  have hx : (xs.map enc)[t / k]? = some (enc xs[t / k]) := by simp [hlt]
  have := flatten_get (k := k) (cells := xs.map enc) (by intro cs hc; obtain ⟨x, _, rfl⟩ := List.mem_map.1 hc; exact hk x) hx (t % k) hm
  rw [Nat.div_add_mod' t k] at this
  rw [this]
  have e1 : xs.toArray[t / k]! = xs[t / k] := by simp [hlt]
  rw [e1]
  simp [hk, hm]

section
variable {α : Type} [Inhabited α] {P : Program} {ρ : Go.Shelf.Ren} {e : TypeId} {k : Nat} {enc : α → List Value} {w : World} {base : Nat} {S : Nat → Prop} {A : Option Addr} {cap : Nat} {xs : List α}
def RPure (enc : α → List Value) : ERel α := fun _ _ cs x => cs = enc x
instance : Steady (RPure enc) := ⟨fun h _ => h, fun h _ => h⟩

theorem holdsK_own (hk : ∀ x, (enc x).length = k) (h0 : 0 < k) (h : OwnSl e k (RPure enc) w base S (.slice A xs.length cap) xs) (hne : xs ≠ []) : ∃ g, A = some ⟨g, 0, none⟩ ∧ g < w.heap.size ∧ HoldsK enc k w g 0 xs.toArray ∧ xs.length ≤ cap ∧ cap ≤ maxLen := by
  obtain ⟨c, h1, h2, h3, h4⟩ := h
  have hc : c = xs.map enc := by
    refine List.ext_getElem (by simpa using h2) fun i hi hi' => ?_
    have := h4 i _ _ (List.getElem?_eq_getElem hi) (List.getElem?_eq_getElem (by omega))
    simpa [RPure] using this
  subst hc
  rcases h1.2 with ⟨hv, h0⟩ | ⟨g, cap', cur, hv, hbg, hg, hn, hm, hcs, htake⟩
  · exact absurd (List.eq_nil_of_length_eq_zero h0) hne
  · injection hv with e1 e2 e3
    subst e1; subst e3
    refine ⟨g, rfl, (Array.getElem?_eq_some_iff.1 hg).1, fun j hj => ?_, hn, hm⟩
    have hj' : j < xs.length * k := by simpa [flatK] using hj
    have hlen := flatten_len (k := k) h3
    rw [List.length_map] at hlen
    have hjl : j < ((xs.map enc).flatten).length := by omega
    refine ⟨?_, by simp [World.frozen?, hg]⟩
    have := h1.cells (g := g) rfl j _ (List.getElem?_eq_getElem hjl)
    have e1 : (⟨g, 0, none⟩ : Addr).add j = ⟨g, 0 + j, none⟩ := by unfold Addr.add; split <;> simp_all
    rw [e1] at this
    rw [this, flatK_toList enc k hk h0 xs j hj', List.getElem?_eq_getElem hjl]
    rfl

theorem reads_holdsK (hk : ∀ x, (enc x).length = k) {w' : World} {g : Nat} {ys : List α} (h : HoldsK enc k w' g 0 ys.toArray) (hlt : g < w'.heap.size) (hn : ys.length ≤ cap) (hm : cap ≤ maxLen) {T : Nat → Prop} (hT : T g) :
    RSl k (RPure enc) w' T (.slice (some ⟨g, 0, none⟩) ys.length cap) ys := by
  refine ⟨_, cap, rfl, hn, hm, fun _ => ⟨g, 0, rfl, hlt, hT, fun j x hj => ⟨enc x, hk x, fun i hi => ?_, rfl⟩⟩⟩
  obtain ⟨hjl, rfl⟩ := List.getElem?_eq_some_iff.1 hj
  have := (HoldsK.cell h (i := j) (c := i) (by simpa using hjl) hi).1
  rw [this]
  have e1 : ys.toArray[j]! = ys[j] := by simp [hjl]
  rw [e1]
  simp [hk, hi]

theorem sort_own (L : SlLaysF0.n6 P ρ) (aE : ∀ w, (isAgg (ρ.t 24)).run P w = .ok true w) (zE : ∀ w, (Go.sizeOf (ρ.t 24)).run P w = .ok k w) (hk : ∀ x, (enc x).length = k) (h0 : 0 < k) (h1 : ∀ x, ∀ v ∈ enc x, v.oneCell' = true) (cf : α → α → Int) (hO : SWO (ltOf cf)) (f : Nat)
    (ef : ∀ args w, (callFunc f args).run P w = .ok (.enter f args) w)
    (hcmp : ∀ (x y : α) (W : World), Calls P f #[.agg (enc x).toArray, .agg (enc y).toArray] W fun e w' => e = .returned (.int .i64 (cf x y)) ∧ ∃ q os', w' = Sort.grow (W.drewN q) os')
    (h : OwnSl e k (RPure enc) w base S (.slice A xs.length cap) xs) (hsz : xs.length < 4611686018427387904) :
    Calls P (ρ.f 6) #[.slice A xs.length cap, .func (.func f) #[] #[]] w fun en w' => en = .returned (.tuple #[]) ∧ ∃ ys : List α, ys.Perm xs ∧ ys.Pairwise (fun x y => ltOf cf y x = false) ∧ ys.length = xs.length ∧
      RSl k (RPure enc) w' (fun b => A.map (·.block) = some b) (.slice A xs.length cap) ys ∧ w.grownBy w' (A.map (·.block)) := by
  by_cases hne : xs = []
  · subst hne
    refine (AnyF.slices_SortFunc_none { L with } A cap _ w).mono ?_
    rintro en w' ⟨rfl, rfl⟩
    obtain ⟨A', cap', hv, hc, hm⟩ := h.val
    injection hv with e1 e2 e3
    subst e3
    exact ⟨rfl, [], .refl _, .nil, rfl, ⟨A, cap, rfl, by simp, hm, by simp⟩, ⟨rfl, rfl, rfl, Nat.le_refl _, fun _ _ _ => rfl⟩⟩
  · obtain ⟨g, rfl, hg, hH, hn, hm⟩ := holdsK_own hk h0 h hne
    have := AnyQ.slices_SortFunc L k aE zE enc hk h1 cf hO f #[] g 0 cap xs.toArray w ef (fun m os dk _ x y => hcmp x y _) hH hg (by simpa using hsz)
    simp only [List.size_toArray] at this
    refine this.mono ?_
    rintro en w' ⟨rfl, d', n, os, hp, hs, rfl⟩
    obtain ⟨p1, _, p3⟩ := hp
    have hsize : d'.size = xs.length := by simpa using p1
    have hl : d'.toList.length = xs.length := by simpa using hsize
    have hperm : d'.toList.Perm xs := by
      have e1 : (d'.extract 0 xs.length) = d' := by rw [← hsize]; simp
      have e2 : (xs.toArray.extract 0 xs.length) = xs.toArray := by simp
      rw [e1, e2] at p3
      simpa using p3
    refine ⟨rfl, d'.toList, hperm, ?_, hl, ?_, grown_sortWorldK enc k w g 0 n d' os⟩
    · rw [List.pairwise_iff_getElem]
      intro i j hi hj hij
      have := hs i j (Nat.zero_le _) hij (by omega)
      have e1 : d'[j]! = d'.toList[j] := by simp at hj; simp [hj]
      have e2 : d'[i]! = d'.toList[i] := by simp at hi; simp [hi]
      rw [e1, e2] at this
      exact this
    · have hH' := holdsK_sortWorldK_c enc k w g 0 xs.toArray d' n os hH hg (by simpa using hsize)
      have := reads_holdsK (cap := cap) hk (ys := d'.toList) (T := fun b => (some (⟨g, 0, none⟩ : Addr)).map (·.block) = some b) (by simpa using hH') (Nat.lt_of_lt_of_le hg (size_sortWorldK_c enc k w g 0 n d' os)) (by omega) hm rfl
      rwa [hl] at this
end
end Go.Mm

set_option linter.unusedVariables false
set_option linter.unusedSimpArgs false
namespace Go.Mm
open Go.RowKit Sb

/-! ### a list of writes under way: each one's data is a row of its own, which may grow -/
def wrCells (x : Wr) (dv : Value) : List Value := [.int .i64 x.vol, .int .i64 x.start, dv]
def outCells (out : List Wr) (dvs : List Value) : List (List Value) := List.zipWith wrCells out dvs
def Outs (eW eS : TypeId) (w : World) (base : Nat) (v : Value) (out : List Wr) (dvs : List Value) : Prop :=
  dvs.length = out.length ∧ w.ownsRow base eW 3 v out.length (outCells out dvs).flatten ∧
    (∀ (j : Nat) (dv : Value) (x : Wr), dvs[j]? = some dv → out[j]? = some x → OwnSl eS 8 RSec w base (fun _ => False) dv x.data) ∧ dvs.Pairwise (fun a b => a.ownBlock = none ∨ a.ownBlock ≠ b.ownBlock)

theorem own_type_ne {w : World} {b b' : Nat} {e e' : TypeId} {s s' n n' : Nat} {v v' : Value} {xs xs' : List Value} (h : w.ownsRow b e s v n xs) (h' : w.ownsRow b' e' s' v' n' xs') (hne : e ≠ e') : v.ownBlock = none ∨ v.ownBlock ≠ v'.ownBlock := by
  rcases h.2 with ⟨rfl, _⟩ | ⟨g, cap, cur, rfl, _, hh, _⟩
  · exact .inl rfl
  · refine .inr fun hk => ?_
    rcases h'.2 with ⟨rfl, _⟩ | ⟨g', cap', cur', rfl, _, hh', _⟩
    · simp [Value.ownBlock] at hk
    · have : g = g' := by simpa [Value.ownBlock] using hk
      subst this
      rw [hh] at hh'
      injection hh' with hh'
      injection hh' with _ ht
      exact hne ht
theorem own_blk_ne {w : World} {base : Nat} {e t : TypeId} {size n g : Nat} {v : Value} {xs : List Value} {cs : Array Value} (h : w.ownsRow base e size v n xs) (hg : Blk w g t cs) (hne : e ≠ t) : v.ownBlock ≠ some g := by
  rcases h.2 with ⟨rfl, _⟩ | ⟨g', cap, cur, rfl, _, hh, _⟩
  · simp [Value.ownBlock]
  · intro he
    have : g' = g := by simpa [Value.ownBlock] using he
    subst this
    exact Blk.ne_ (t := e) hh hg hne rfl

theorem outCells_len {out : List Wr} {dvs : List Value} (h : dvs.length = out.length) : (outCells out dvs).length = out.length ∧ ∀ cs ∈ outCells out dvs, cs.length = 3 := by
  refine ⟨by simp [outCells, h], fun cs hc => ?_⟩
  unfold outCells at hc
  obtain ⟨i, hi, rfl⟩ := List.getElem_of_mem hc
  simp [wrCells]
theorem outCells_get {out : List Wr} {dvs : List Value} {j : Nat} {x : Wr} {dv : Value} (hx : out[j]? = some x) (hd : dvs[j]? = some dv) : (outCells out dvs)[j]? = some (wrCells x dv) := by
  unfold outCells
  rw [List.getElem?_zipWith, hx, hd]
theorem outCells_snoc (out : List Wr) (dvs : List Value) (h : dvs.length = out.length) (x : Wr) (dv : Value) : outCells (out ++ [x]) (dvs ++ [dv]) = outCells out dvs ++ [wrCells x dv] := by
  unfold outCells
  rw [List.zipWith_append h.symm]
  rfl

section
variable {eW eS : TypeId} {w w' : World} {base : Nat} {v : Value} {out : List Wr} {dvs : List Value}
theorem Outs.nil (w : World) : Outs eW eS w base (.slice none 0 0) [] [] := ⟨rfl, World.ownsRow_nil w base eW 3, by simp, .nil⟩
theorem Outs.below (h : Outs eW eS w base v out dvs) (hb : Below w.heap.size w w') : Outs eW eS w' base v out dvs :=
  ⟨h.1, h.2.1.kept (grown_below hb none) (by cases v.ownBlock <;> simp), fun j dv x h1 h2 => (h.2.2.1 j dv x h1 h2).below hb, h.2.2.2⟩
theorem Outs.alloc (h : Outs eW eS w base v out dvs) (o : Obj) : Outs eW eS (w.alloc o) base v out dvs := h.below ((Below.refl _ _).alloc (Nat.le_refl _) o)
theorem Outs.drew (h : Outs eW eS w base v out dvs) : Outs eW eS w.drew base v out dvs := h.below (Below.refl _ _).drew
theorem Outs.kept_blk {w' : World} (h : Outs eW eS w base v out dvs) (hg : w.grownBy w' none) : Outs eW eS w' base v out dvs := h.below ⟨hg.os, hg.tape, hg.output, hg.size, fun k hk => hg.block k hk (by simp)⟩
theorem Outs.lt (h : Outs eW eS w base v out dvs) : ∀ g, v.ownBlock = some g → base ≤ g ∧ g < w.heap.size := h.2.1.lt
theorem Outs.val (h : Outs eW eS w base v out dvs) : ∃ A cap, v = .slice A out.length cap ∧ out.length ≤ cap ∧ cap ≤ maxLen := by
  rcases h.2.1.2 with ⟨rfl, h0⟩ | ⟨g, cap, cur, rfl, _, _, h1, h2, _⟩
  · exact ⟨none, 0, by rw [h0], by omega, by simp⟩
  · exact ⟨_, cap, rfl, h1, h2⟩
/-- A store into a block that is none of these. -/
theorem Outs.setCell (h : Outs eW eS w base v out dvs) {p : Addr} (t : TypeId) {cs : Array Value} (hp : Blk w p.block t cs) (h1 : eW ≠ t) (h2 : eS ≠ t) (u : Value) : Outs eW eS (w.setCell p u) base v out dvs := by
  have hg : w.grownBy (w.setCell p u) (some p.block) := ⟨rfl, rfl, rfl, by simp [World.setCell], fun i _ hi => Below.heap_setCell _ _ _ _ (fun e => hi (by rw [e]))⟩
  refine ⟨h.1, h.2.1.kept hg (.inr (own_blk_ne h.2.1 hp h1)), fun j dv x hj hx => ?_, h.2.2.2⟩
  obtain ⟨c, o1, o2, o3, o4⟩ := h.2.2.1 j dv x hj hx
  exact ⟨c, o1.kept hg (.inr (own_blk_ne o1 hp h2)), o2, o3, o4⟩

/-- One write more, without data. -/
theorem wpList_push {P : Program} {ops : Array Oper} {rest : List Oper} {o : Oper} {a : Act} {Q : Exit → Act → World → Prop} (hgd : o.guard = none) (s y : Operand) (t : TypeId)
    (ho : o.op = .call { callee := .builtin .append, args := #[s, y], argTypes := #[t, t] })
    (eW eS : TypeId) (z : Value) (bytes : Nat) (ht : P.underlying t = some (.slice eW)) (hinfo : (P.info? eW).map (fun i => (i.zero, i.size, i.bytes)) = some (some z, 3, bytes)) (hzs : z.cells.size = 3)
    (hne : eW ≠ eS) (base : Nat) (v : Value) (out : List Wr) (dvs : List Value) (hs : a.eval s = v) (hown : Outs eW eS w base v out dvs)
    (ad : Addr) (x : Wr) (hxd : x.data = []) (hx : a.eval y = .slice (some ad) 1 1) (hcs : ∀ j u, (wrCells x (.slice none 0 0))[j]? = some u → w.cell? (ad.add j) = some u)
    (hbytes : (out.length + 1) * bytes ≤ 140737488355328) (hb0 : 0 < bytes) (hbase : base ≤ w.heap.size)
    (h : ∀ g cap w', Outs eW eS w' base (.slice (some ⟨g, 0, none⟩) (out.length + 1) cap) (out ++ [x]) (dvs ++ [.slice none 0 0]) → w.grownBy w' v.ownBlock → base ≤ g → wpList P ops Q rest (a.put o.dst (.slice (some ⟨g, 0, none⟩) (out.length + 1) cap)) w') :
    wpList P ops Q (o :: rest) a w := by
  obtain ⟨i0, hi, hzz⟩ := Option.map_eq_some_iff.1 hinfo
  simp only [Prod.mk.injEq] at hzz
  obtain ⟨hz0, hz1, hz2⟩ := hzz
  obtain ⟨h1, h2, h3, h4⟩ := hown
  have hlen : out.length + 1 ≤ 140737488355328 := Nat.le_trans (Nat.le_mul_of_pos_right _ hb0) hbytes
  refine wpList_append_own_at w hgd s y t ho base eW i0 z 3 bytes ht hi hz0 hz1 hz2 hzs (by omega) v out.length (outCells out dvs).flatten hs h2 ad 1 1 (wrCells x (.slice none 0 0)) hx rfl hcs
    (by intro u hu; simp [wrCells] at hu; rcases hu with rfl | rfl | rfl <;> rfl) (by unfold maxLen; omega) hbytes hbase ?_
  intro v' w' hown' hg _ hat
  have hform := hown'.form (by omega)
  obtain ⟨g, cap, rfl, hgb, _⟩ := hform
  refine h g cap w' ⟨by simp [h1], ?_, ?_, ?_⟩ hg hgb
  · rw [outCells_snoc out dvs h1]; simpa using hown'
  · intro j dv y' hj hy
    by_cases hjl : j < out.length
    · rw [List.getElem?_append_left (by omega)] at hj
      rw [List.getElem?_append_left hjl] at hy
      obtain ⟨c, o1, o2, o3, o4⟩ := h3 j dv y' hj hy
      have : dv.ownBlock = none ∨ dv.ownBlock ≠ v.ownBlock := own_type_ne o1 h2 hne.symm
      exact ⟨c, o1.kept hg this, o2, o3, o4⟩
    · rw [List.getElem?_append_right (by omega)] at hj
      rw [List.getElem?_append_right (by omega)] at hy
      have e1 : j - out.length = 0 := by
        have := (List.getElem?_eq_some_iff.1 hy).1; simp at this; omega
      rw [h1, e1] at hj
      rw [e1] at hy
      simp at hj hy
      subst hj; subst hy
      rw [hxd]
      exact OwnSl.nil _
  · rw [List.pairwise_append]
    refine ⟨h4, by simp, fun a ha b hb => ?_⟩
    obtain rfl := List.mem_singleton.1 hb
    cases hab : a.ownBlock with
    | none => exact .inl rfl
    | some g' => exact .inr (by simp [Value.ownBlock])

/-- The last write's data, as the walk reads it. -/
theorem Outs.last {out : List Wr} {x : Wr} {dvs : List Value} (h : Outs eW eS w base v (out ++ [x]) dvs) : ∃ dvs' dv g cap, dvs = dvs' ++ [dv] ∧ dvs'.length = out.length ∧ v = .slice (some ⟨g, 0, none⟩) (out.length + 1) cap ∧ base ≤ g ∧ g < w.heap.size ∧
    w.cell? ⟨g, out.length * 3 + 2, none⟩ = some dv ∧ w.frozen? ⟨g, out.length * 3 + 2, none⟩ = false ∧ OwnSl eS 8 RSec w base (fun _ => False) dv x.data ∧ (∃ cs fr, w.heap[g]? = some (.cells cs eW fr)) := by
  obtain ⟨h1, h2, h3, h4⟩ := h
  have hne : dvs ≠ [] := by intro e; subst e; simp at h1
  obtain ⟨dvs', dv, rfl⟩ : ∃ d' d, dvs = d' ++ [d] := ⟨dvs.dropLast, dvs.getLast hne, (List.dropLast_concat_getLast hne).symm⟩
  have hl : dvs'.length = out.length := by simpa using h1
  rcases h2.2 with ⟨_, h0⟩ | ⟨g, cap, cur, rfl, hbg, hg, hn, hm, hcs, htake⟩
  · simp at h0
  · have hlen : (out ++ [x]).length = out.length + 1 := by simp
    have hget := flatten_get (outCells_len h1).2 (outCells_get (j := out.length) (x := x) (dv := dv) (by simp) (by rw [← hl]; simp)) 2 (by omega)
    have hcell := h2.cells (g := g) rfl (out.length * 3 + 2) dv (by rw [hget]; rfl)
    rw [Addr.add_lit] at hcell
    refine ⟨dvs', dv, g, cap, rfl, hl, by rw [hlen], hbg, (Array.getElem?_eq_some_iff.1 hg).1, by simpa using hcell, by simp [World.frozen?, hg], h3 out.length dv x (by rw [← hl]; simp) (by simp), ⟨_, _, hg⟩⟩

/-- The last write's data has grown by a sector, and its new slice has been stored. -/
theorem Outs.grow {out : List Wr} {x : Wr} {dvs' : List Value} {dv dv' : Value} {g n cap : Nat} {s : Sec} (h : Outs eW eS w base (.slice (some ⟨g, 0, none⟩) n cap) (out ++ [x]) (dvs' ++ [dv])) (hl : dvs'.length = out.length) (hne : eW ≠ eS)
    (hg : w.grownBy w' dv.ownBlock) (hat : dv'.ownBlock = dv.ownBlock ∨ ∃ k, dv'.ownBlock = some k ∧ w.heap.size ≤ k) (hown : OwnSl eS 8 RSec w' base (fun _ => False) dv' (x.data ++ [s])) :
    Outs eW eS (w'.setCell ⟨g, out.length * 3 + 2, none⟩ dv') base (.slice (some ⟨g, 0, none⟩) n cap) (out ++ [⟨x.vol, x.start, x.data ++ [s]⟩]) (dvs' ++ [dv']) := by
  obtain ⟨h1, h2, h3, h4⟩ := h
  have hdv := h3 out.length dv x (by rw [← hl]; simp) (by simp)
  obtain ⟨cdv, hdvr⟩ := hdv.row
  have hvne : (Value.slice (some ⟨g, 0, none⟩) n cap).ownBlock = none ∨ (Value.slice (some ⟨g, 0, none⟩) n cap).ownBlock ≠ dv.ownBlock := own_type_ne h2 hdvr hne
  have h2' := h2.kept hg hvne
  obtain rfl : n = (out ++ [x]).length := by
    rcases h2.2 with ⟨_, h0⟩ | ⟨_, _, _, hv, _⟩
    · simp at h0
    · injection hv
  have hst := h2'.stored (out.length * 3 + 2) dv'
  obtain ⟨hst1, hst2⟩ := hst
  have hset : (outCells (out ++ [x]) (dvs' ++ [dv])).flatten.set (out.length * 3 + 2) dv' = (outCells (out ++ [⟨x.vol, x.start, x.data ++ [s]⟩]) (dvs' ++ [dv'])).flatten := by
    rw [outCells_snoc _ _ hl, outCells_snoc _ _ hl, List.flatten_append, List.flatten_append]
    have e1 : (outCells out dvs').flatten.length = out.length * 3 := by rw [flatten_len (outCells_len hl).2, (outCells_len hl).1]
    rw [List.set_append_right _ _ (by omega)]
    rw [e1, show out.length * 3 + 2 - out.length * 3 = 2 by omega]
    rfl
  rw [hset] at hst1
  have hlen : (out ++ [x]).length = (out ++ [(⟨x.vol, x.start, x.data ++ [s]⟩ : Wr)]).length := by simp
  rw [hlen] at hst1 ⊢
  refine ⟨by simp [hl], hst1, fun j d y hj hy => ?_, ?_⟩
  · by_cases hjl : j < out.length
    · rw [List.getElem?_append_left (by omega)] at hj
      rw [List.getElem?_append_left hjl] at hy
      obtain ⟨c, o1, o2, o3, o4⟩ := h3 j d y (by rw [List.getElem?_append_left (by omega)]; exact hj) (by rw [List.getElem?_append_left hjl]; exact hy)
      have hpw := (List.pairwise_append.1 h4).2.2 d (List.mem_of_getElem? hj) dv (by simp)
      have o1' := o1.kept hg hpw
      have : d.ownBlock = none ∨ d.ownBlock ≠ some g := own_type_ne o1' h2' hne.symm
      exact ⟨c, o1'.kept hst2 this, o2, o3, o4⟩
    · rw [List.getElem?_append_right (by omega)] at hj
      rw [List.getElem?_append_right (by omega)] at hy
      have e1 : j - out.length = 0 := by
        have := (List.getElem?_eq_some_iff.1 hy).1; simp at this; omega
      rw [hl, e1] at hj
      rw [e1] at hy
      simp at hj hy
      subst hj; subst hy
      obtain ⟨c, o1, o2, o3, o4⟩ := hown
      have : dv'.ownBlock = none ∨ dv'.ownBlock ≠ some g := own_type_ne o1 h2' hne.symm
      exact ⟨c, o1.kept hst2 this, o2, o3, o4⟩
  · rw [List.pairwise_append] at h4 ⊢
    refine ⟨h4.1, by simp, fun a ha b hb => ?_⟩
    obtain rfl := List.mem_singleton.1 hb
    rcases hat with hat | ⟨k, hk, hge⟩
    · rw [hat]; exact h4.2.2 a ha dv (by simp)
    · cases hab : a.ownBlock with
      | none => exact .inl rfl
      | some g' =>
        right
        rw [hk]
        obtain ⟨j, hj, rfl⟩ := List.getElem_of_mem ha
        have := (h3 j _ ((out ++ [x])[j]'(by simp; omega)) (by rw [List.getElem?_append_left hj]; exact List.getElem?_eq_getElem hj) (List.getElem?_eq_getElem _)).lt g' hab
        intro e; injection e with e; omega

theorem Outs.reads (h : Outs eW eS w base v out dvs) (h64 : ∀ x ∈ out, In64 x.vol ∧ In64 x.start) {T : Nat → Prop} (hT : ∀ b, base ≤ b → T b) : RSl 3 RWr w T v out := by
  obtain ⟨h1, h2, h3, h4⟩ := h
  obtain ⟨l1, l2⟩ := outCells_len h1
  rcases h2.2 with ⟨rfl, h0⟩ | ⟨g, cap, cur, rfl, hbg, hg, hn, hm, hcs, htake⟩
  · obtain rfl : out = [] := List.eq_nil_of_length_eq_zero h0
    exact RSl.nil _ _
  · refine ⟨_, cap, rfl, hn, hm, fun _ => ⟨g, 0, rfl, (Array.getElem?_eq_some_iff.1 hg).1, hT g hbg, fun j x hj => ?_⟩⟩
    have hjl : j < out.length := (List.getElem?_eq_some_iff.1 hj).1
    have hdj : dvs[j]? = some (dvs[j]'(by omega)) := List.getElem?_eq_getElem (by omega)
    have hc := outCells_get hj hdj
    have hx := h64 x (List.mem_of_getElem? hj)
    refine ⟨wrCells x dvs[j], rfl, fun i hi => ?_, hx.1, hx.2, _, rfl, (h3 j _ x hdj hj).reads fun b hb hh => ?_⟩
    · rw [← flatten_get l2 hc i hi]
      have hlt : j * 3 + i < (outCells out dvs).flatten.length := by rw [flatten_len l2, l1]; omega
      have := h2.cells (g := g) rfl (j * 3 + i) _ (List.getElem?_eq_getElem hlt)
      rw [Addr.add_lit] at this
      rw [show 0 + j * 3 + i = 0 + (j * 3 + i) by omega, this, List.getElem?_eq_getElem hlt]
    · rcases hh with hh | hh
      · exact hh.elim
      · exact hT b ((h3 j _ x hdj hj).lt b hh.symm).1
end
end Go.Mm

set_option linter.unusedVariables false
set_option linter.unusedSimpArgs false
namespace Go.Mm
open Go.RowKit

/-! ### append of a whole slice -/
theorem flatten_at {k : Nat} (hk : 0 < k) {css : List (List Value)} (h : ∀ cs ∈ css, cs.length = k) {t : Nat} {u : Value} (hu : css.flatten[t]? = some u) : ∃ j i cs, t = j * k + i ∧ i < k ∧ css[j]? = some cs ∧ cs[i]? = some u := by
  have hlt : t < css.length * k := by rw [← flatten_len h]; exact (List.getElem?_eq_some_iff.1 hu).1
  have hj : t / k < css.length := by rw [Nat.div_lt_iff_lt_mul hk]; exact hlt
  have hi := Nat.mod_lt t hk
  have e := Nat.div_add_mod' t k
  refine ⟨t / k, t % k, css[t / k], e.symm, hi, List.getElem?_eq_getElem hj, ?_⟩
  rw [← flatten_get h (List.getElem?_eq_getElem hj) _ hi, e]; exact hu
section
variable {k : Nat} {α : Type} {R : ERel α} {w w' : World} {S T : Nat → Prop} {v : Value} {xs : List α}
theorem RSl.cells (hk : 0 < k) {ad : Addr} {n cap : Nat} (h : RSl k R w S (.slice (some ad) n cap) xs) :
    ∃ css : List (List Value), css.length = xs.length ∧ (∀ cs ∈ css, cs.length = k) ∧ (∀ (j : Nat) (cs : List Value) (x : α), css[j]? = some cs → xs[j]? = some x → R w S cs x) ∧ ∀ (j : Nat) (u : Value), css.flatten[j]? = some u → w.cell? (ad.add j) = some u := by
  obtain ⟨A, cap', hv, h1, h2, h3⟩ := h
  injection hv with e1 e2 e3
  by_cases h0 : 0 < xs.length
  · obtain ⟨b, off, hA, hb, hS, hx⟩ := h3 h0
    rw [hA] at e1
    injection e1 with e1
    subst e1
    have hch : ∀ j : Nat, ∃ cs : List Value, ∀ x, xs[j]? = some x → cs.length = k ∧ (∀ i, i < k → w.cell? ⟨b, off + j * k + i, none⟩ = cs[i]?) ∧ R w S cs x := fun j => by
      cases hj : xs[j]? with
      | none => exact ⟨[], fun x hh => by cases hh⟩
      | some x => obtain ⟨cs, hh⟩ := hx j x hj; exact ⟨cs, fun y hy => by injection hy with hy; subst hy; exact hh⟩
    obtain ⟨F, hF⟩ := Classical.axiomOfChoice hch
    have hget : ∀ j, j < xs.length → ((List.range xs.length).map F)[j]? = some (F j) := fun j hj => by simp [hj]
    have hlen : ∀ cs ∈ (List.range xs.length).map F, cs.length = k := fun cs hc => by
      obtain ⟨j, hj, rfl⟩ := List.mem_map.1 hc
      have hj := List.mem_range.1 hj
      exact (hF j _ (List.getElem?_eq_getElem hj)).1
    refine ⟨(List.range xs.length).map F, by simp, hlen, fun j cs x hc hj => ?_, fun t u hu => ?_⟩
    · have hjl := (List.getElem?_eq_some_iff.1 hj).1
      rw [hget j hjl] at hc
      injection hc with hc
      subst hc
      exact (hF j x hj).2.2
    · obtain ⟨j, i, cs, rfl, hi, hcj, hci⟩ := flatten_at hk hlen hu
      have hjl : j < xs.length := by have := (List.getElem?_eq_some_iff.1 hcj).1; simpa using this
      rw [hget j hjl] at hcj
      injection hcj with hcj
      subst hcj
      have := (hF j _ (List.getElem?_eq_getElem hjl)).2.1 i hi
      rw [hci] at this
      have e1 : (⟨b, off, none⟩ : Addr).add (j * k + i) = ⟨b, off + j * k + i, none⟩ := by unfold Addr.add; simp [Nat.add_assoc]
      rw [e1]; exact this
  · obtain rfl : xs = [] := List.eq_nil_of_length_eq_zero (by omega)
    exact ⟨[], rfl, by simp, by simp, by simp⟩

/-- append(v, xs..): the elements of a slice that is read. -/
theorem wpList_appendMany {P : Program} {ops : Array Oper} {rest : List Oper} {o : Oper} {a : Act} {Q : Exit → Act → World → Prop} (hgd : o.guard = none) (s y : Operand) (t : TypeId)
    (ho : o.op = .call { callee := .builtin .append, args := #[s, y], argTypes := #[t, t] })
    (e : TypeId) (z : Value) (k bytes : Nat) (ht : P.underlying t = some (.slice e)) (hinfo : (P.info? e).map (fun i => (i.zero, i.size, i.bytes)) = some (some z, k, bytes)) (hzs : z.cells.size = k) (hsz : 0 < k)
    (R : ERel α) [st : Steady R] (hone : ∀ {w : World} {T : Nat → Prop} {cs : List Value} {x : α}, R w T cs x → ∀ u ∈ cs, u.oneCell' = true) (base : Nat) (S : Nat → Prop) (v : Value) (xs : List α) (hs : a.eval s = v) (hown : OwnSl e k R w base S v xs)
    (vy : Value) (ys : List α) (hx : a.eval y = vy) (hy : RSl k R w (fun b => S b ∧ some b ≠ v.ownBlock) vy ys)
    (hbytes : (xs.length + ys.length) * bytes ≤ 140737488355328) (hb0 : 0 < bytes) (hbase : base ≤ w.heap.size)
    (h : ∀ v' w', OwnSl e k R w' base S v' (xs ++ ys) → w.grownBy w' v.ownBlock → (v'.ownBlock = v.ownBlock ∨ v'.ownBlock = some w.heap.size) → wpList P ops Q rest (a.put o.dst v') w') :
    wpList P ops Q (o :: rest) a w := by
  obtain ⟨i0, hi, hzz⟩ := Option.map_eq_some_iff.1 hinfo
  simp only [Prod.mk.injEq] at hzz
  obtain ⟨hz0, hz1, hz2⟩ := hzz
  obtain ⟨A, cap, rfl, hcl, hcm⟩ := hy.val
  have hlen : xs.length + ys.length ≤ 140737488355328 := Nat.le_trans (Nat.le_mul_of_pos_right _ hb0) hbytes
  cases A with
  | none =>
    have h0 : ys = [] := by
      refine List.eq_nil_of_length_eq_zero (Nat.eq_zero_of_not_pos fun h0 => ?_)
      obtain ⟨A', cap', hv, _, _, h3⟩ := hy
      obtain ⟨b, off, hA, _⟩ := h3 h0
      injection hv with e1
      rw [hA] at e1; cases e1
    subst h0
    obtain ⟨Av, cv, rfl, hv1, hv2⟩ := hown.val
    refine wpList_plain hgd fun K hK => ?_
    have hr := run_append_nothing (P := P) w t t o.type e i0 ht hi Av xs.length cv hv1 (.slice none 0 cap) (Src.ofNil w ht cap)
    unfold Oper.wp execOp
    simp only [List.length_nil] at hx
    simp only [ho, resolve, invoke, builtin, Sem.run_bind, Sem.run_pure, Result.andThen_ok, List.map_toArray, List.map_cons, List.map_nil, hs, hx, hr]
    exact hK _ _ (h _ _ (by simpa using hown) (grown_below (Below.refl _ _) _) (.inl rfl))
  | some ad =>
    obtain ⟨css, l1, l2, l3, l4⟩ := RSl.cells hsz hy
    obtain ⟨c, o1, o2, o3, o4⟩ := hown
    refine wpList_append_own_at w hgd s y t ho base e i0 z k bytes ht hi hz0 hz1 hz2 hzs hsz v xs.length c.flatten hs o1 ad ys.length cap css.flatten hx (by rw [flatten_len l2, l1]) l4 ?_ (by unfold maxLen; omega) hbytes hbase ?_
    · intro u hu
      obtain ⟨cs, hc, huc⟩ := List.mem_flatten.1 hu
      obtain ⟨j, hj, rfl⟩ := List.getElem_of_mem hc
      exact hone (l3 j _ (ys[j]'(by omega)) (List.getElem?_eq_getElem hj) (List.getElem?_eq_getElem _)) u huc
    intro v' w' hown' hg _ hat
    have hkeep : ∀ {cs' : List Value} {x' : α}, R w (fun b => S b ∧ some b ≠ v.ownBlock) cs' x' → R w' (fun b => S b ∧ some b ≠ v'.ownBlock) cs' x' := by
      intro cs' x' hr
      have h1 := st.more hr (T := fun b => (S b ∧ some b ≠ v.ownBlock) ∧ b < w.heap.size) fun b hb hh => ⟨hh, hb⟩
      have h2 := st.keep h1 (w' := w') fun b hb ⟨⟨_, hh⟩, _⟩ => hg.block b hb hh
      refine st.more h2 fun b hb ⟨⟨ha, hh⟩, hlt⟩ => ⟨ha, ?_⟩
      rcases hat with hat | hat
      · rw [hat]; exact hh
      · rw [hat]; intro e; injection e with e; omega
    refine h v' w' ⟨c ++ css, by simpa using hown', by simp [o2, l1], ?_, ?_⟩ hg hat
    · intro cs' hc
      rcases List.mem_append.1 hc with hc | hc
      · exact o3 _ hc
      · exact l2 _ hc
    · intro j cs' x' hj hx'
      by_cases hjl : j < xs.length
      · rw [List.getElem?_append_left hjl] at hx'
        rw [List.getElem?_append_left (by omega)] at hj
        exact hkeep (o4 j cs' x' hj hx')
      · rw [List.getElem?_append_right (by omega)] at hx'
        rw [List.getElem?_append_right (by omega), o2] at hj
        exact hkeep (l3 _ cs' x' hj hx')
end
theorem RWr.one {w : World} {T : Nat → Prop} {cs : List Value} {x : Sb.Wr} (h : RWr w T cs x) : ∀ u ∈ cs, u.oneCell' = true := by
  obtain ⟨_, _, dv, rfl, A, cap, rfl, _⟩ := h
  intro u hu
  simp at hu
  rcases hu with rfl | rfl | rfl <;> rfl
end Go.Mm

set_option linter.unusedVariables false
set_option linter.unusedSimpArgs false
namespace Go.Mm
open Go.RowKit Sb

/-! ### an element of an owned row turns; rows of marks -/
theorem flatten_set {k : Nat} : ∀ {css : List (List Value)} (h : ∀ cs ∈ css, cs.length = k) {j : Nat} {cs : List Value} (hj : css[j]? = some cs) (i : Nat) (hi : i < k) (u : Value), (css.set j (cs.set i u)).flatten = css.flatten.set (j * k + i) u
  | [], _, _, _, hj, _, _, _ => by simp at hj
  | c :: css, h, 0, cs, hj, i, hi, u => by
    simp at hj; subst hj
    have := h c (by simp)
    simp only [List.set_cons_zero, List.flatten_cons, Nat.zero_mul, Nat.zero_add]
    rw [List.set_append_left _ _ (by omega)]
  | c :: css, h, j + 1, cs, hj, i, hi, u => by
    have hc := h c (by simp)
    have ih := flatten_set (css := css) (fun x hx => h x (by simp [hx])) (j := j) (by simpa using hj) i hi u
    simp only [List.set_cons_succ, List.flatten_cons]
    rw [ih, List.set_append_right _ _ (by rw [hc, Nat.add_mul]; omega)]
    congr 2
    rw [hc, Nat.add_mul]; omega

theorem OwnSl.setPure {α : Type} {enc : α → List Value} {e : TypeId} {k : Nat} {w : World} {base : Nat} {S : Nat → Prop} {g n cap : Nat} {xs : List α}
    (h : OwnSl e k (RPure enc) w base S (.slice (some ⟨g, 0, none⟩) n cap) xs) (hk : ∀ x, (enc x).length = k) {j i : Nat} {x x' : α} (hj : xs[j]? = some x) (hi : i < k) {u : Value} (hx : enc x' = (enc x).set i u) :
    OwnSl e k (RPure enc) (w.setCell ⟨g, j * k + i, none⟩ u) base S (.slice (some ⟨g, 0, none⟩) n cap) (xs.set j x') ∧ w.grownBy (w.setCell ⟨g, j * k + i, none⟩ u) (some g) := by
  obtain ⟨c, o1, o2, o3, o4⟩ := h
  have hc : c = xs.map enc := by
    refine List.ext_getElem (by simpa using o2) fun i hi hi' => ?_
    have := o4 i _ _ (List.getElem?_eq_getElem hi) (List.getElem?_eq_getElem (by omega))
    simpa [RPure] using this
  subst hc
  have hjl : j < xs.length := (List.getElem?_eq_some_iff.1 hj).1
  obtain rfl : n = xs.length := by
    rcases o1.2 with ⟨hv, _⟩ | ⟨g', cap', cur, hv, _⟩
    · cases hv
    · injection hv
  have hlt : j * k + i < xs.length * k := by
    have : (j + 1) * k ≤ xs.length * k := Nat.mul_le_mul_right _ hjl
    rw [Nat.add_mul] at this; omega
  have := o1.stored (j * k + i) u
  refine ⟨⟨(xs.set j x').map enc, ?_, by simp, ?_, ?_⟩, this.2⟩
  · rw [List.map_set, hx, flatten_set (by simpa using fun a _ => hk a) (by simp [hj]) i hi u]
    simpa using this.1
  · intro cs hcs
    obtain ⟨y, _, rfl⟩ := List.mem_map.1 hcs
    exact hk y
  · intro m cs y hm hy
    rw [List.getElem?_map, hy] at hm
    simp at hm
    exact hm.symm

/-- A row of marks: 'make([]bool, n)' and what is stored there. -/
def markCells (p : List Bool) : Array Value := (p.map Value.bool).toArray
theorem markCells_made (n : Nat) : madeCells #[.bool false] n = markCells (List.replicate n false) := by
  apply Array.ext'
  rw [toList_madeCells_one]
  simp [markCells]
theorem markCells_set (p : List Bool) (i : Nat) (b : Bool) : (markCells p).setIfInBounds i (.bool b) = markCells (p.set i b) := by
  simp [markCells, List.map_set]
theorem markCells_get {p : List Bool} {i : Nat} {b : Bool} (h : p[i]? = some b) : (markCells p)[i]? = some (.bool b) := by
  simp [markCells, h]
/-- marks 0 to n - 1 as a function says -/
def marksOf (n : Nat) (p : Int → Bool) : List Bool := (List.range n).map fun i => p (i : Nat)
theorem marksOf_len (n : Nat) (p : Int → Bool) : (marksOf n p).length = n := by simp [marksOf]
theorem marksOf_get {n : Nat} (p : Int → Bool) {i : Nat} (h : i < n) : (marksOf n p)[i]? = some (p i) := by simp [marksOf, h]
theorem marksOf_none (n : Nat) : List.replicate n false = marksOf n fun _ => false := by
  refine List.ext_getElem (by simp [marksOf]) fun i h1 h2 => by simp [marksOf]
theorem marksOf_congr {n : Nat} {p q : Int → Bool} (h : ∀ s : Int, 0 ≤ s → s < n → p s = q s) : marksOf n p = marksOf n q := by
  refine List.ext_getElem (by simp [marksOf]) fun i h1 h2 => ?_
  simp [marksOf] at h1 ⊢
  exact h i (by omega) (by omega)
theorem marksOf_set {n : Nat} (p : Int → Bool) {i : Nat} (h : i < n) : (marksOf n p).set i true = marksOf n fun s => p s || decide (s = i) := by
  refine List.ext_getElem (by simp [marksOf]) fun j h1 h2 => ?_
  simp only [List.getElem_set, marksOf, List.getElem_map, List.getElem_range]
  by_cases hj : i = j
  · subst hj; simp
  · have : ¬ ((j : Int) = (i : Int)) := by omega
    simp [hj, this]
end Go.Mm

set_option linter.unusedVariables false
set_option linter.unusedSimpArgs false
namespace Go.Mm
open Go.RowKit Sb

/-! ### an element of three cells is written anew -/
theorem flatten_set3 {css : List (List Value)} (h : ∀ cs ∈ css, cs.length = 3) {j : Nat} (hj : j < css.length) (u0 u1 u2 : Value) :
    (css.set j [u0, u1, u2]).flatten = ((css.flatten.set (j * 3 + 0) u0).set (j * 3 + 1) u1).set (j * 3 + 2) u2 := by
  obtain ⟨cs, hcs⟩ : ∃ cs, css[j]? = some cs := ⟨_, List.getElem?_eq_getElem hj⟩
  have hm : ∀ (d : List Value), d.length = 3 → ∀ x ∈ css.set j d, x.length = 3 := fun d hd x hx => by
    rcases List.mem_or_eq_of_mem_set hx with hx | rfl
    · exact h x hx
    · exact hd
  have hl := h cs (List.mem_of_getElem? hcs)
  have e1 := flatten_set h hcs 0 (by omega) u0
  have h1 : (css.set j (cs.set 0 u0))[j]? = some (cs.set 0 u0) := by simp [hj]
  have e2 := flatten_set (hm _ (by simpa using hl)) h1 1 (by omega) u1
  have h2 : ((css.set j (cs.set 0 u0)).set j ((cs.set 0 u0).set 1 u1))[j]? = some ((cs.set 0 u0).set 1 u1) := by simp [hj]
  have e3 := flatten_set (css := (css.set j (cs.set 0 u0)).set j ((cs.set 0 u0).set 1 u1)) (by rw [List.set_set]; exact hm _ (by simpa using hl)) h2 2 (by omega) u2
  rw [e2, e1] at e3
  rw [← e3, List.set_set, List.set_set]
  congr 2
  match cs, hl with
  | [_, _, _], _ => rfl
theorem OwnSl.set3 {α : Type} {R : ERel α} [st : Steady R] {e : TypeId} {w : World} {base : Nat} {S : Nat → Prop} {g n cap : Nat} {xs : List α}
    (h : OwnSl e 3 R w base S (.slice (some ⟨g, 0, none⟩) n cap) xs) {j : Nat} (hj : j < xs.length) {x' : α} {u0 u1 u2 : Value} (hR : R w (fun b => S b ∧ some b ≠ some g) [u0, u1, u2] x') :
    OwnSl e 3 R (((w.setCell ⟨g, j * 3, none⟩ u0).setCell ⟨g, j * 3 + 1, none⟩ u1).setCell ⟨g, j * 3 + 2, none⟩ u2) base S (.slice (some ⟨g, 0, none⟩) n cap) (xs.set j x') ∧
      w.grownBy (((w.setCell ⟨g, j * 3, none⟩ u0).setCell ⟨g, j * 3 + 1, none⟩ u1).setCell ⟨g, j * 3 + 2, none⟩ u2) (some g) := by
  obtain ⟨c, o1, o2, o3, o4⟩ := h
  obtain rfl : n = xs.length := by
    rcases o1.2 with ⟨hv, _⟩ | ⟨g', cap', cur, hv, _⟩
    · cases hv
    · injection hv
  have s1 := o1.stored (j * 3) u0
  have s2 := s1.1.stored (j * 3 + 1) u1
  have s3 := s2.1.stored (j * 3 + 2) u2
  have hg : w.grownBy (((w.setCell ⟨g, j * 3, none⟩ u0).setCell ⟨g, j * 3 + 1, none⟩ u1).setCell ⟨g, j * 3 + 2, none⟩ u2) (some g) :=
    (s1.2.andThen s2.2 (fun j e => .inr e)).andThen s3.2 (fun j e => .inr e)
  have hkeep : ∀ {cs' : List Value} {x : α}, R w (fun b => S b ∧ some b ≠ some g) cs' x → R (((w.setCell ⟨g, j * 3, none⟩ u0).setCell ⟨g, j * 3 + 1, none⟩ u1).setCell ⟨g, j * 3 + 2, none⟩ u2) (fun b => S b ∧ some b ≠ some g) cs' x :=
    fun hr => st.keep hr fun b hb ⟨_, hne⟩ => hg.block b hb hne
  refine ⟨⟨c.set j [u0, u1, u2], ?_, by simpa using o2, ?_, ?_⟩, hg⟩
  · rw [flatten_set3 o3 (by omega)]
    simpa using s3.1
  · intro cs hcs
    rcases List.mem_or_eq_of_mem_set hcs with hcs | rfl
    · exact o3 cs hcs
    · rfl
  · intro m cs x hm hx
    rw [List.getElem?_set] at hm hx
    by_cases hjm : j = m
    · subst hjm
      rw [if_pos rfl, if_pos (by omega)] at hm
      rw [if_pos rfl, if_pos hj] at hx
      injection hm with hm; injection hx with hx
      subst hm; subst hx
      exact hkeep hR
    · rw [if_neg hjm] at hm hx
      exact hkeep (o4 m cs x hm hx)
theorem own_ptr {e : TypeId} {k : Nat} {α : Type} {R : ERel α} {w : World} {base : Nat} {S : Nat → Prop} {v : Value} {xs : List α} (h : OwnSl e k R w base S v xs) (hne : xs ≠ []) :
    ∃ g cap, v = .slice (some ⟨g, 0, none⟩) xs.length cap ∧ base ≤ g ∧ g < w.heap.size ∧ xs.length ≤ cap ∧ cap ≤ maxLen ∧ ∀ j, w.frozen? ⟨g, j, none⟩ = false := by
  obtain ⟨c, h1, _⟩ := h
  rcases h1.2 with ⟨_, h0⟩ | ⟨g, cap, cur, hv, hbg, hg, hn, hm, _⟩
  · exact absurd (List.eq_nil_of_length_eq_zero h0) hne
  · exact ⟨g, cap, hv, hbg, (Array.getElem?_eq_some_iff.1 hg).1, hn, hm, fun j => by simp [World.frozen?, hg]⟩
end Go.Mm

set_option linter.unusedVariables false
set_option linter.unusedSimpArgs false
namespace Go.Mm
open Go.RowKit Sb

/-! ### copy of elements of k cells -/
theorem run_copy_rowK {P : Program} (w : World) (dT sT ty elem : TypeId) (g o dLen dCap : Nat) (a : Addr) (sLen sCap k : Nat) (cur : Array Value) (t : TypeId) (cs : List Value)
    (hu : P.underlying dT = some (.slice elem)) (hs : (P.info? elem).map (·.size) = some k)
    (hg : w.heap[g]? = some (.cells cur t (0, 0))) (hn : cs.length = Nat.min sLen dLen * k)
    (hsrc : ∀ j v, cs[j]? = some v → w.cell? (a.add j) = some v) (hfit : o + cs.length ≤ cur.size) (h1 : ∀ v ∈ cs, v.oneCell' = true) :
    (Builtin.copy_ #[dT, sT] ty #[.slice (some ⟨g, o, none⟩) dLen dCap, .slice (some a) sLen sCap]).run P w =
      .ok (goInt (Nat.min sLen dLen)) (w.setRow g (cur.toList.take o ++ cs ++ cur.toList.drop (o + cs.length)).toArray) := by
  have hl := run_loadCells_list (P := P) w a cs hsrc
  have hst := run_storeCells_at P g o t cs 0 cur w hg (by simpa using hfit) h1
  cases hq : P.info? elem with
  | none => simp [hq] at hs
  | some i =>
    have hi : i.size = k := by simpa [hq] using hs
    simp [Builtin.copy_, run_underlying hu, Builtin.lenOf, Builtin.firstCells, sizeOf, typeInfo, hq, hi, ← hn, hl, hst]
theorem take_flat {k : Nat} : ∀ {css : List (List Value)} (h : ∀ cs ∈ css, cs.length = k) (j : Nat), css.flatten.take (j * k) = (css.take j).flatten
  | [], _, j => by simp
  | c :: css, h, 0 => by simp
  | c :: css, h, j + 1 => by
    have hc := h c (by simp)
    rw [List.flatten_cons, List.take_succ_cons, List.flatten_cons, ← take_flat (fun x hx => h x (by simp [hx])) j, List.take_append, hc]
    have e : (j + 1) * k - k = j * k := by rw [Nat.add_mul]; omega
    rw [e, List.take_of_length_le (by rw [hc, Nat.add_mul]; omega)]
theorem drop_flat {k : Nat} : ∀ {css : List (List Value)} (h : ∀ cs ∈ css, cs.length = k) (j : Nat), css.flatten.drop (j * k) = (css.drop j).flatten
  | [], _, j => by simp
  | c :: css, h, 0 => by simp
  | c :: css, h, j + 1 => by
    have hc := h c (by simp)
    rw [List.flatten_cons, List.drop_succ_cons, ← drop_flat (fun x hx => h x (by simp [hx])) j, List.drop_append, hc]
    have e : (j + 1) * k - k = j * k := by rw [Nat.add_mul]; omega
    rw [e, List.drop_eq_nil_of_le (by rw [hc, Nat.add_mul]; omega), List.nil_append]
theorem flat_splice {α : Type} {enc : α → List Value} {k : Nat} (hk : ∀ x, (enc x).length = k) (xs ys : List α) (off : Nat) :
    ((splice xs off ys).map enc).flatten = ((xs.map enc).flatten).take (off * k) ++ ((ys.map enc).flatten ++ ((xs.map enc).flatten).drop ((off + ys.length) * k)) := by
  have hm : ∀ cs ∈ xs.map enc, cs.length = k := by intro cs hc; obtain ⟨x, _, rfl⟩ := List.mem_map.1 hc; exact hk x
  rw [take_flat hm, drop_flat hm]
  simp [splice, List.map_take, List.map_drop]
theorem splice_row (L F cs : List Value) (N o : Nat) (hF : L.take N = F) (h1 : o + cs.length ≤ N) (h2 : N ≤ L.length) : (L.take o ++ cs ++ L.drop (o + cs.length)).take N = F.take o ++ (cs ++ F.drop (o + cs.length)) := by
  subst hF
  rw [List.append_assoc, List.take_append, List.length_take, Nat.min_eq_left (by omega), List.take_take, Nat.min_eq_right (by omega), List.take_append, List.take_take, Nat.min_eq_left (by omega)]
  congr 1
  rw [List.take_of_length_le (by omega), List.drop_take]
  congr 2
  omega
theorem OwnSl.copied {P : Program} {α : Type} {enc : α → List Value} {e : TypeId} {k : Nat} {w : World} {base : Nat} {S S' : Nat → Prop} {g n cap : Nat} {xs ys : List α} (hk : ∀ x, (enc x).length = k) (h0 : 0 < k) (hone : ∀ x, ∀ u ∈ enc x, u.oneCell' = true)
    (h : OwnSl e k (RPure enc) w base S (.slice (some ⟨g, 0, none⟩) n cap) xs) {off dLen dCap sCap : Nat} {ad : Addr} (hy : RSl k (RPure enc) w S' (.slice (some ad) ys.length sCap) ys) (hfit : off + ys.length ≤ xs.length) (hd : ys.length ≤ dLen)
    (dT sT ty : TypeId) (hu : P.underlying dT = some (.slice e)) (hs : (P.info? e).map (·.size) = some k) :
    ∃ w', (Builtin.copy_ #[dT, sT] ty #[.slice (some ⟨g, off * k, none⟩) dLen dCap, .slice (some ad) ys.length sCap]).run P w = .ok (goInt ys.length) w' ∧
      OwnSl e k (RPure enc) w' base S (.slice (some ⟨g, 0, none⟩) n cap) (splice xs off ys) ∧ w.grownBy w' (some g) := by
  obtain ⟨css, l1, l2, l3, l4⟩ := hy.cells h0
  have hcs : css = ys.map enc := by
    refine List.ext_getElem (by simpa using l1) fun i hi hi' => ?_
    have := l3 i _ _ (List.getElem?_eq_getElem hi) (List.getElem?_eq_getElem (by omega))
    simpa [RPure] using this
  obtain ⟨c, o1, o2, o3, o4⟩ := h
  have hc : c = xs.map enc := by
    refine List.ext_getElem (by simpa using o2) fun i hi hi' => ?_
    have := o4 i _ _ (List.getElem?_eq_getElem hi) (List.getElem?_eq_getElem (by omega))
    simpa [RPure] using this
  subst hc
  rcases o1.2 with ⟨hv, _⟩ | ⟨g', cap', cur, hv, hbg, hg, hn, hm, hsz, htake⟩
  · cases hv
  injection hv with e1 e2 e3
  injection e1 with e1
  injection e1 with e1 _ _
  subst e1 e2 e3
  have hfl : css.flatten.length = ys.length * k := by rw [flatten_len l2, l1]
  have hNl : (off + ys.length) * k ≤ xs.length * k := Nat.mul_le_mul_right _ hfit
  have hNc : xs.length * k ≤ cap * k := Nat.mul_le_mul_right _ hn
  rw [Nat.add_mul] at hNl
  have hrun := run_copy_rowK (P := P) w dT sT ty e g (off * k) dLen dCap ad ys.length sCap k cur e css.flatten hu hs hg (by rw [hfl]; congr 1; exact (Nat.min_eq_left hd).symm) l4 (by rw [hfl, hsz]; omega) (by
    intro u hu
    obtain ⟨cs, hcm, hum⟩ := List.mem_flatten.1 hu
    rw [hcs] at hcm
    obtain ⟨x, _, rfl⟩ := List.mem_map.1 hcm
    exact hone x u hum)
  rw [show Nat.min ys.length dLen = ys.length from Nat.min_eq_left hd] at hrun
  have hlen : (splice xs off ys).length = xs.length := length_splice xs off ys hfit
  refine ⟨_, hrun, ⟨(splice xs off ys).map enc, ⟨?_, .inr ⟨g, cap, _, ?_, hbg, setRow_heap w g cur _ e _ hg, by rw [hlen]; exact hn, hm, ?_, ?_⟩⟩, by simp, ?_, ?_⟩, ⟨rfl, rfl, rfl, by simp [World.setRow], fun i hi hne => setRow_other w g i _ (fun e => hne (by rw [e]))⟩⟩
  · rw [flatten_len (k := k) (by intro cs hc; obtain ⟨x, _, rfl⟩ := List.mem_map.1 hc; exact hk x), List.length_map]
  · rw [hlen]
  · simp [hfl]; omega
  · rw [hlen]
    simp only [List.toList_toArray]
    rw [splice_row _ _ _ _ _ htake (by rw [hfl]; omega) (by simp [hsz]; omega), hfl, flat_splice hk, hcs, Nat.add_mul]
  · intro cs hc; obtain ⟨x, _, rfl⟩ := List.mem_map.1 hc; exact hk x
  · intro j cs x hj hx
    rw [List.getElem?_map, hx] at hj
    simp at hj
    exact hj.symm
end Go.Mm

set_option linter.unusedVariables false
set_option linter.unusedSimpArgs false
namespace Go.Mm
open Go.RowKit Go.Proofs
open Go.Sort hiding Below

/-! ### the sort leaves the row's block of its type -/
theorem sortWorldK_type {α : Type} [Inhabited α] (enc : α → List Value) (k : Nat) (w : World) (g off m : Nat) (dk : Array α) (os : Array Obj) {cs : Array Value} {t : TypeId} {fr : Nat × Nat} (h : w.heap[g]? = some (.cells cs t fr)) :
    ∃ cs', (sortWorldK enc k w g off m dk os).heap[g]? = some (.cells cs' t fr) := by
  have hlt : g < w.heap.size := (Array.getElem?_eq_some_iff.1 h).1
  unfold sortWorldK
  have hs : (putRowK enc k (Sort.ahead w m) g off dk).heap.size = w.heap.size := by simp [putRowK, Sort.putRow, Sort.mapBlock, Sort.ahead]
  rw [Sort.heap_grow_old _ _ (by rw [hs]; exact hlt)]
  simp [putRowK, Sort.putRow, Sort.mapBlock, Sort.ahead, Array.getElem?_modify, h, Sort.onCells]
section
variable {α : Type} [Inhabited α] {P : Program} {ρ : Go.Shelf.Ren} {e : TypeId} {k : Nat} {enc : α → List Value} {w : World} {base : Nat} {S : Nat → Prop} {A : Option Addr} {cap : Nat} {xs : List α}
theorem sort_ownT (L : SlLaysF0.n6 P ρ) (aE : ∀ w, (isAgg (ρ.t 24)).run P w = .ok true w) (zE : ∀ w, (Go.sizeOf (ρ.t 24)).run P w = .ok k w) (hk : ∀ x, (enc x).length = k) (h0 : 0 < k) (h1 : ∀ x, ∀ v ∈ enc x, v.oneCell' = true) (cf : α → α → Int) (hO : SWO (ltOf cf)) (f : Nat)
    (ef : ∀ args w, (callFunc f args).run P w = .ok (.enter f args) w)
    (hcmp : ∀ (x y : α) (W : World), Calls P f #[.agg (enc x).toArray, .agg (enc y).toArray] W fun e w' => e = .returned (.int .i64 (cf x y)) ∧ ∃ q os', w' = Sort.grow (W.drewN q) os')
    (h : OwnSl e k (RPure enc) w base S (.slice A xs.length cap) xs) (hsz : xs.length < 4611686018427387904) :
    Calls P (ρ.f 6) #[.slice A xs.length cap, .func (.func f) #[] #[]] w fun en w' => en = .returned (.tuple #[]) ∧ ∃ ys : List α, ys.Perm xs ∧ ys.Pairwise (fun x y => ltOf cf y x = false) ∧ ys.length = xs.length ∧
      RSl k (RPure enc) w' (fun b => A.map (·.block) = some b) (.slice A xs.length cap) ys ∧ w.grownBy w' (A.map (·.block)) ∧ (∀ g cs t fr, A = some ⟨g, 0, none⟩ → w.heap[g]? = some (.cells cs t fr) → ∃ cs', w'.heap[g]? = some (.cells cs' t fr)) := by
  by_cases hne : xs = []
  · subst hne
    refine (AnyF.slices_SortFunc_none { L with } A cap _ w).mono ?_
    rintro en w' ⟨rfl, rfl⟩
    obtain ⟨A', cap', hv, hc, hm⟩ := h.val
    injection hv with e1 e2 e3
    subst e3
    exact ⟨rfl, [], .refl _, .nil, rfl, ⟨A, cap, rfl, by simp, hm, by simp⟩, ⟨rfl, rfl, rfl, Nat.le_refl _, fun _ _ _ => rfl⟩, fun g cs t fr _ h => ⟨cs, h⟩⟩
  · obtain ⟨g, rfl, hg, hH, hn, hm⟩ := holdsK_own hk h0 h hne
    have := AnyQ.slices_SortFunc L k aE zE enc hk h1 cf hO f #[] g 0 cap xs.toArray w ef (fun m os dk _ x y => hcmp x y _) hH hg (by simpa using hsz)
    simp only [List.size_toArray] at this
    refine this.mono ?_
    rintro en w' ⟨rfl, d', n, os, hp, hs, rfl⟩
    obtain ⟨p1, _, p3⟩ := hp
    have hsize : d'.size = xs.length := by simpa using p1
    have hl : d'.toList.length = xs.length := by simpa using hsize
    have hperm : d'.toList.Perm xs := by
      have e1 : (d'.extract 0 xs.length) = d' := by rw [← hsize]; simp
      have e2 : (xs.toArray.extract 0 xs.length) = xs.toArray := by simp
      rw [e1, e2] at p3
      simpa using p3
    refine ⟨rfl, d'.toList, hperm, ?_, hl, ?_, grown_sortWorldK enc k w g 0 n d' os, fun g2 cs t fr e h => by injection e with e; injection e with e _ _; subst e; exact sortWorldK_type enc k w g 0 n d' os h⟩
    · rw [List.pairwise_iff_getElem]
      intro i j hi hj hij
      have := hs i j (Nat.zero_le _) hij (by omega)
      have e1 : d'[j]! = d'.toList[j] := by simp at hj; simp [hj]
      have e2 : d'[i]! = d'.toList[i] := by simp at hi; simp [hi]
      rw [e1, e2] at this
      exact this
    · have hH' := holdsK_sortWorldK_c enc k w g 0 xs.toArray d' n os hH hg (by simpa using hsize)
      have := reads_holdsK (cap := cap) hk (ys := d'.toList) (T := fun b => (some (⟨g, 0, none⟩ : Addr)).map (·.block) = some b) (by simpa using hH') (Nat.lt_of_lt_of_le hg (size_sortWorldK_c enc k w g 0 n d' os)) (by omega) hm rfl
      rwa [hl] at this
end
end Go.Mm
