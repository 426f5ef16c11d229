import Derived.Test.YtccbbecfmfldbaaQ12
import Derived.Test.YtccbbecfmfldbaaQ13
import Derived.Lib.AppendZeros
import Derived.Test.YtccbbecfmfldbaaQ2
set_option maxRecDepth 100000
set_option linter.unusedVariables false
set_option linter.unusedSimpArgs false
namespace Go.Proofs.Ytccbbecfmfldbaa
open Go.RowKit Go.Mm Sb

/-! ### Grow, Concat, Merge -/
theorem wrZ : (Value.agg #[.int .i64 0, .int .i64 0, .slice none 0 0]).cells.size = 3 := rfl
theorem wpList_zeros {P : Program} {ops : Array Oper} {rest : List Oper} {o : Oper} {a : Act} {Q : Exit → Act → World → Prop} {w : World} (hgd : o.guard = none) (s y : Operand) (t tn : TypeId)
    (ho : o.op = .call { callee := .builtin .append, args := #[s, y], argTypes := #[t, tn] }) {vs vy v' : Value} {w' : World} (hs : a.eval s = vs) (hy : a.eval y = vy)
    (hr : (Builtin.append_ #[t, tn] o.type #[vs, vy]).run P w = .ok v' w') (h : wpList P ops Q rest (a.put o.dst v') w') : wpList P ops Q (o :: rest) a w := by
  refine wpList_plain hgd fun K hK => ?_
  unfold Oper.wp execOp
  simp only [ho, resolve, invoke, builtin, Sem.run_bind, Sem.run_pure, Result.andThen_ok, List.map_toArray, List.map_cons, List.map_nil, hs, hy, hr]
  exact hK _ _ h
set_option maxHeartbeats 1000000 in
theorem grow_any (n : Nat) (w : World) (hn : n ≤ 1000000) (S : Nat → Prop) :
    Calls Try.prog 122 #[.slice none 0 0, .int .i64 n] w fun e w' => ∃ v, e = .returned v ∧ OwnSl 54 3 RWr w' w.heap.size S v [] ∧ Below w.heap.size w w' := by
  obtain ⟨i0, hi, hz0, hz1, hz2⟩ := info_parts infoW
  rcases Nat.eq_zero_or_pos n with rfl | hn0
  · go_enter Try.func122, Try.ntmps122
    go_wp2
    go_ret
    exact ⟨_, rfl, OwnSl.nil _, Below.refl _ _⟩
  · have happ : ∀ W : World, (Builtin.append_ #[86, 3] 86 #[.slice none 0 0, .int .i64 n]).run Try.prog W = _ := fun W =>
      Lib.run_append_nil_zeros (P := Try.prog) W 86 3 86 54 i0 _ .i64 .i64 Try.underlying86 Try.underlying3 hi hz0 n hn0 (by rw [hz1]; omega) (by omega) (by rw [hz2]; omega)
    have hge := grownCap_ge w n 0 54
    have hcm : grownCap w n 0 54 ≤ maxLen := grownCap_le_maxLen w n 0 54 (by unfold maxLen; omega)
    have hmx := hcm
    unfold maxLen at hmx
    go_enter Try.func122, Try.ntmps122
    go_wp2_with (first | (at_builtin; refine wpList_zeros rfl _ _ 86 3 rfl rfl rfl (happ _) ?_))
    go_ret
    refine ⟨_, rfl, ⟨[], ⟨rfl, .inr ⟨w.heap.size, _, _, rfl, Nat.le_refl _, heap_alloc_new w.drew _, Nat.zero_le _, hcm, ?_, rfl⟩⟩, rfl, by simp, by simp⟩, ((Below.refl _ _).drew).alloc (by simp) _⟩
    simp only [Array.size_append, size_zeroCells, wrZ, ← Nat.add_mul]
    congr 1
    omega
def catK (a b : List Wr) : Nat → List Wr
  | 0 => []
  | 1 => a
  | _ => a ++ b
set_option maxHeartbeats 2000000 in
theorem concat_any (va vb : Value) (a b : List Wr) (bb cap : Nat) (w : World) (hbb : bb < w.heap.size) (h0 : w.cell? ⟨bb, 0, none⟩ = some va) (h1 : w.cell? ⟨bb, 1, none⟩ = some vb)
    (S : Nat → Prop) (ha : RWrs w S va a) (hb : RWrs w S vb b) (hn : a.length + b.length ≤ 1000000) :
    Calls Try.prog 107 #[.slice (some ⟨bb, 0, none⟩) 2 cap] w fun e w' => ∃ v, e = .returned v ∧ RWrs w' (fun x => S x ∨ w.heap.size ≤ x) v (a ++ b) ∧ Below w.heap.size w w' := by
  obtain ⟨Aa, ca, rfl, ha1, ha2⟩ := ha.val
  obtain ⟨Ab, cb, rfl, hb1, hb2⟩ := hb.val
  unfold maxLen at ha2 hb2
  have hca : Value.slice Aa a.length ca = Value.slice Aa a.length ca := rfl
  go_enter Try.func107, Try.ntmps107
  go_wp2
  go_loop [3, 11] (fun n i => ∃ k : Nat, k ≤ 2 ∧ i = .int .i64 k ∧ n = .int .i64 ((catK a b k).length : Nat)) (fun _ i => 2 - (intOf i).toNat)
  case atStart => exact ⟨0, by omega, rfl, rfl⟩
  case round =>
    obtain ⟨k, hk, rfl, rfl⟩ := hrel
    match k, hk with
    | 0, _ =>
      simp only [catK, List.length_nil]
      go_wp2
      go_round
      case rel => exact ⟨1, by omega, rfl, by simp [catK]⟩
      case measure => simp [intOf]
    | 1, _ =>
      simp only [catK]
      go_wp2
      go_round
      case rel => exact ⟨2, by omega, rfl, by simp [catK]⟩
      case measure => simp [intOf]
    | 2, _ =>
      have hl : (catK a b 2).length = a.length + b.length := by simp [catK]
      rw [hl]
      go_wp2_with (first | (go_at_call 122; refine (grow_any _ _ (by omega) (fun x => x < w.heap.size ∧ S x)).mono ?_; rintro e w1 ⟨v0, rfl, hO, hB⟩))
      go_loopw [6, 27] (fun u i wr => ∃ k : Nat, k ≤ 2 ∧ i = .int .i64 k ∧ OwnSl 54 3 RWr wr w.heap.size (fun x => x < w.heap.size ∧ S x) u (catK a b k) ∧ Below w.heap.size w wr) (fun _ i _ => 2 - (intOf i).toNat)
      case atStart => exact ⟨0, by omega, rfl, hO, hB⟩
      case round =>
        obtain ⟨k, hk, rfl, hO2, hB2⟩ := hrel
        have hb2s := hB2.size
        obtain ⟨Au, cu, rfl, hu1, hu2⟩ := hO2.val
        unfold maxLen at hu2
        match k, hk with
        | 0, _ =>
          have q0 := (hB2.cell (p := ⟨bb, 0, none⟩) hbb).trans h0
          have q1 := (hB2.cell (p := ⟨bb, 1, none⟩) hbb).trans h1
          have hlt := hO2.lt
          have hyy : RSl 3 RWr wr (fun x => (x < w.heap.size ∧ S x) ∧ some x ≠ (Value.slice Au (catK a b 0).length cu).ownBlock) _ a :=
            (((ha.more (T := fun x => x < w.heap.size ∧ S x) fun x hx hs => ⟨hx, hs⟩).below hB2).more fun x _ hx => ⟨hx, fun e => by have := (hlt x e.symm).1; omega⟩)
          go_wp2_with (first | (at_builtin; refine wpList_appendMany rfl _ _ 86 rfl 54 _ 3 40 Try.underlying86 infoW rfl (by decide) RWr RWr.one w.heap.size (fun x => x < w.heap.size ∧ S x) _ (catK a b 0) rfl hO2 _ a rfl hyy (by simp [catK]; omega) (by decide) (by omega) ?_; intro v5 w5 hO5 hg5 _))
          go_roundw
          case rel => exact ⟨1, by omega, rfl, hO5, hB2.grown hg5 hb2s (fun j e => (hlt j e).1)⟩
          case measure => simp [intOf]
        | 1, _ =>
          have q0 := (hB2.cell (p := ⟨bb, 0, none⟩) hbb).trans h0
          have q1 := (hB2.cell (p := ⟨bb, 1, none⟩) hbb).trans h1
          have hlt := hO2.lt
          have hyy : RSl 3 RWr wr (fun x => (x < w.heap.size ∧ S x) ∧ some x ≠ (Value.slice Au (catK a b 1).length cu).ownBlock) _ b :=
            (((hb.more (T := fun x => x < w.heap.size ∧ S x) fun x hx hs => ⟨hx, hs⟩).below hB2).more fun x _ hx => ⟨hx, fun e => by have := (hlt x e.symm).1; omega⟩)
          go_wp2_with (first | (at_builtin; refine wpList_appendMany rfl _ _ 86 rfl 54 _ 3 40 Try.underlying86 infoW rfl (by decide) RWr RWr.one w.heap.size (fun x => x < w.heap.size ∧ S x) _ (catK a b 1) rfl hO2 _ b rfl hyy (by simp [catK]; omega) (by decide) (by omega) ?_; intro v5 w5 hO5 hg5 _))
          go_roundw
          case rel => exact ⟨2, by omega, rfl, hO5, hB2.grown hg5 hb2s (fun j e => (hlt j e).1)⟩
          case measure => simp [intOf]
        | 2, _ =>
          go_wp2
          go_ret
          exact ⟨_, rfl, hO2.reads fun x hx hh => by
            rcases hh with hh | hh
            · exact .inl hh.2
            · exact .inr (hO2.lt x hh.symm).1, hB2⟩
end Go.Proofs.Ytccbbecfmfldbaa

set_option maxRecDepth 100000
set_option linter.unusedVariables false
set_option linter.unusedSimpArgs false
namespace Go.Proofs.Ytccbbecfmfldbaa
open Go.RowKit Go.Mm Sb

/-! ### Merge -/
theorem chk_placed : ∀ {p : Option Wr} {l : List Wr}, chkI plI p l = 0 → AllPlaced l
  | _, [], _ => by intro w hw; simp at hw
  | none, x :: t, h => by
    unfold chkI at h
    split at h
    · rename_i hx
      intro w hw
      rcases List.mem_cons.1 hw with rfl | hw
      · exact plI_placed hx
      · exact chk_placed h w hw
    · rename_i hx; exact absurd h hx
  | some y, x :: t, h => by
    unfold chkI at h
    split at h
    · rename_i hx
      split at h
      · cases h
      · intro w hw
        rcases List.mem_cons.1 hw with rfl | hw
        · exact plI_placed hx
        · exact chk_placed h w hw
    · rename_i hx; exact absurd h hx
def mergeI (a b : List Wr) : Int := if chkI plI none a = 0 then chkI plI none b else chkI plI none a
def mergeR (a b : List Wr) : List Wr := if mergeI a b = 0 then foldW (a ++ b) else []
theorem secN_append (a b : List Wr) : secN (a ++ b) = secN a + secN b := by unfold secN; rw [List.map_append, List.sum_append]
theorem allPlaced_append {a b : List Wr} (h1 : AllPlaced a) (h2 : AllPlaced b) : AllPlaced (a ++ b) := fun w hw => by
  rcases List.mem_append.1 hw with hw | hw
  · exact h1 w hw
  · exact h2 w hw
end Go.Proofs.Ytccbbecfmfldbaa

set_option maxRecDepth 100000
set_option linter.unusedVariables false
set_option linter.unusedSimpArgs false
namespace Go.Proofs.Ytccbbecfmfldbaa
open Go.RowKit Go.Mm Sb

/-! ### extents -/
def RExt : ERel Ext := fun _ _ cs x => In64 x.start ∧ In64 x.count ∧ cs = [.int .i64 x.start, .int .i64 x.count]
instance : Steady RExt := ⟨fun h _ => h, fun h _ => h⟩
abbrev RExts := RSl 2 RExt
def WithinIs (x : Ext) (f t : Int) (ok : Bool) : Prop := if ok then within x = some (f, t) else within x = none
def WRet (x : Ext) (w : World) (e : Ending) (w' : World) : Prop := ∃ f t ok, e = .returned (.tuple #[.int .i64 f, .int .i64 t, .bool ok]) ∧ WithinIs x f t ok ∧ Below w.heap.size w w'
end Go.Proofs.Ytccbbecfmfldbaa

set_option maxRecDepth 100000
set_option linter.unusedVariables false
set_option linter.unusedSimpArgs false
namespace Go.Proofs.Ytccbbecfmfldbaa
open Go.RowKit Go.Mm Sb

/-! ### Contains -/
theorem holds_of {x : Ext} {f t : Int} {ok : Bool} (h : WithinIs x f t ok) (s : Int) : x.holds s = (ok && decide (f ≤ s) && decide (s < t)) := by
  unfold WithinIs at h
  cases ok with
  | false => rw [within_none (by simpa using h)]; rfl
  | true =>
    obtain ⟨_, _, _, hh⟩ := within_some (by simpa using h)
    rw [Bool.eq_iff_iff, hh]
    simp
theorem memC_take {l : List Ext} {s : Int} {k : Nat} {x : Ext} (hx : l[k]? = some x) : memC (l.take (k + 1)) s = (memC (l.take k) s || x.holds s) := by
  obtain ⟨hk, rfl⟩ := List.getElem?_eq_some_iff.1 hx
  unfold memC
  rw [List.take_succ_eq_append_getElem hk, List.any_append]
  simp
theorem memC_of {l : List Ext} {s : Int} {k : Nat} {x : Ext} (hx : l[k]? = some x) (h : x.holds s = true) : memC l s = true := by
  unfold memC
  exact List.any_eq_true.2 ⟨x, List.mem_of_getElem? hx, h⟩
end Go.Proofs.Ytccbbecfmfldbaa
