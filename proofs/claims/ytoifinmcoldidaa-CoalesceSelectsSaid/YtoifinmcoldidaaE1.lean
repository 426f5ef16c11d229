import Derived.Test.YtoifinmcoldidaaC12
import Derived.Test.YtoifinmcoldidaaMems
import Derived.Test.YtoifinmcoldidaaMaths
set_option maxRecDepth 100000
set_option linter.unusedVariables false
set_option linter.unusedSimpArgs false
namespace Go.Proofs.Ytoifinmcoldidaa
open Go.RowKit Go.Mm Sb

/-! ### the ends of two lists of extents, sorted -/
def encE (x : Sb.End) : List Value := [.int .i64 x.at_, .int .i64 x.list, .int .i64 x.step]
instance : Inhabited Sb.End := ⟨⟨0, 0, 0⟩⟩
def cmpE (x y : Sb.End) : Int := cmpI x.at_ y.at_
theorem ltOf_E (x y : Sb.End) : Go.Proofs.ltOf cmpE x y = decide (x.at_ < y.at_) := by
  unfold Go.Proofs.ltOf
  rw [Bool.eq_iff_iff]
  simp only [decide_eq_true_eq]
  unfold cmpE cmpI
  (repeat' split) <;> omega
theorem swo_E : Go.Sort.SWO (Go.Proofs.ltOf cmpE) where
  irrefl x := by rw [ltOf_E]; simp
  trans x y z h1 h2 := by
    rw [ltOf_E] at h1 h2 ⊢
    have a := of_decide_eq_true h1
    have b := of_decide_eq_true h2
    exact decide_eq_true (by omega)
  ntrans x y z h1 h2 := by
    rw [ltOf_E] at h1 h2 ⊢
    have a := of_decide_eq_false h1
    have b := of_decide_eq_false h2
    exact decide_eq_false (by omega)
theorem isAggE (w : World) : (isAgg 123).run Try.prog w = .ok true w := by kernel_rfl
theorem sizeOfE (w : World) : (Go.sizeOf 123).run Try.prog w = .ok 3 w := by kernel_rfl
theorem infoN : (Try.prog.info? 123).map (fun i => (i.zero, i.size, i.bytes)) = some (some (.agg #[.int .i64 0, .int .i64 0, .int .i64 0]), 3, 24) := by kernel_rfl
theorem efE : ∀ args w, (callFunc 94 args).run Try.prog w = .ok (.enter 94 args) w := enters_of Try.func94 (by kernel_rfl) rfl
theorem cmpFn_any (x y : Sb.End) (w : World) :
    Calls Try.prog 94 #[.agg (encE x).toArray, .agg (encE y).toArray] w fun e w' => e = .returned (.int .i64 (cmpE x y)) ∧ Grw w w' := by
  unfold encE cmpE
  go_enter Try.func94, Try.ntmps94
  go_wp2_with (first | (go_at_call 90; refine (compare_any _ _ _).mono ?_; rintro e w' ⟨rfl, rfl⟩))
  go_ret
  exact ⟨rfl, ((Grw.refl _).alloc _).alloc _⟩
theorem sortE_any {w : World} {base : Nat} {S : Nat → Prop} {A : Option Addr} {cap : Nat} {xs : List Sb.End} (h : OwnSl 123 3 (RPure encE) w base S (.slice A xs.length cap) xs) (hsz : xs.length < 4611686018427387904) :
    Calls Try.prog 93 #[.slice A xs.length cap, .func (.func 94) #[] #[]] w fun en w' => en = .returned (.tuple #[]) ∧ ∃ ys : List Sb.End, ys.Perm xs ∧ ys.Pairwise (fun x y => Go.Proofs.ltOf cmpE y x = false) ∧ ys.length = xs.length ∧
      RSl 3 (RPure encE) w' (fun b => A.map (·.block) = some b) (.slice A xs.length cap) ys ∧ w.grownBy w' (A.map (·.block)) ∧ (∀ g cs t fr, A = some ⟨g, 0, none⟩ → w.heap[g]? = some (.cells cs t fr) → ∃ cs', w'.heap[g]? = some (.cells cs' t fr)) :=
  sort_ownT Try.sortE isAggE sizeOfE (fun _ => rfl) (by omega) (by intro x v hv; simp [encE] at hv; rcases hv with rfl | rfl | rfl <;> rfl) cmpE swo_E 94 efE
    (fun x y W => (cmpFn_any x y W).mono fun _ _ ⟨h1, h2⟩ => ⟨h1, h2⟩) h hsz
theorem ownPure {α : Type} {enc : α → List Value} {e : TypeId} {k : Nat} {w : World} {base : Nat} {S T : Nat → Prop} {v : Value} {xs : List α} (h : OwnSl e k (RPure enc) w base S v xs) : OwnSl e k (RPure enc) w base T v xs := by
  obtain ⟨c, o1, o2, o3, o4⟩ := h
  exact ⟨c, o1, o2, o3, fun j cs x hj hx => o4 j cs x hj hx⟩
theorem endsOf_append (i : Int) : ∀ a b : List Ext, endsOf i (a ++ b) = endsOf i a ++ endsOf i b
  | [], b => rfl
  | e :: a, b => by
    have ih := endsOf_append i a b
    simp only [List.cons_append, endsOf]
    split
    · rw [ih]; rfl
    · exact ih
theorem endsOf_take {i : Int} {l : List Ext} {k : Nat} {x : Ext} (hx : l[k]? = some x) : endsOf i (l.take (k + 1)) = endsOf i (l.take k) ++ endsOf i [x] := by
  obtain ⟨hk, rfl⟩ := List.getElem?_eq_some_iff.1 hx
  rw [List.take_succ_eq_append_getElem hk, endsOf_append]
theorem endsOf_len (i : Int) : ∀ l : List Ext, (endsOf i l).length ≤ 2 * l.length
  | [] => by simp [endsOf]
  | e :: l => by
    have := endsOf_len i l
    simp only [endsOf]
    split <;> simp only [List.length_cons] <;> omega
theorem WithinIs.one {x : Ext} {f t : Int} {ok : Bool} (h : WithinIs x f t ok) (i : Int) : endsOf i [x] = if ok then [⟨f, i, 1⟩, ⟨t, i, -1⟩] else [] := by
  unfold WithinIs at h
  cases ok with
  | true => simp only [if_true] at h ⊢; simp [endsOf, h]
  | false => simp at h ⊢; simp [endsOf, h]
def endK (a b : List Ext) : Nat → List Sb.End
  | 0 => []
  | 1 => endsOf 0 a
  | _ => endsOf 0 a ++ endsOf 1 b
theorem read2 {w : World} {H : Nat} (f t i : Int) : RSl 3 (RPure encE) (w.alloc (.cells #[.int .i64 f, .int .i64 i, .int .i64 1, .int .i64 t, .int .i64 i, .int .i64 (-1)] 123)) (fun b => True ∧ b = w.heap.size) (.slice (some ⟨w.heap.size, 0, none⟩) 2 2) [⟨f, i, 1⟩, ⟨t, i, -1⟩] := by
  have hb := Blk.new w 123 #[.int .i64 f, .int .i64 i, .int .i64 1, .int .i64 t, .int .i64 i, .int .i64 (-1)]
  refine ⟨_, 2, rfl, by simp, by unfold maxLen; omega, fun _ => ⟨w.heap.size, 0, rfl, by simp, ⟨trivial, rfl⟩, fun j x hj => ?_⟩⟩
  rcases j with _ | _ | j
  · simp at hj; subst hj
    refine ⟨_, rfl, fun i hi => ?_, rfl⟩
    rw [hb.cell]
    match i, hi with
    | 0, _ => rfl
    | 1, _ => rfl
    | 2, _ => rfl
  · simp at hj; subst hj
    refine ⟨_, rfl, fun i hi => ?_, rfl⟩
    rw [hb.cell]
    match i, hi with
    | 0, _ => rfl
    | 1, _ => rfl
    | 2, _ => rfl
  · simp at hj
theorem encE_one {w : World} {T : Nat → Prop} {cs : List Value} {x : Sb.End} (h : RPure encE w T cs x) : ∀ u ∈ cs, u.oneCell' = true := by
  obtain rfl : cs = encE x := h
  intro u hu
  simp [encE] at hu
  rcases hu with rfl | rfl | rfl <;> rfl
theorem own_slot {e : TypeId} {k : Nat} {α : Type} {R : ERel α} {w : World} {base : Nat} {S : Nat → Prop} {v : Value} {xs : List α} (h : OwnSl e k R w base S v xs) (hne : xs ≠ []) :
    ∃ g cap, v = .slice (some ⟨g, 0, none⟩) xs.length cap ∧ base ≤ g ∧ g < w.heap.size ∧ xs.length ≤ cap ∧ cap ≤ maxLen ∧ ∀ j, w.frozen? ⟨g, j, none⟩ = false := by
  obtain ⟨c, h1, _⟩ := h
  rcases h1.2 with ⟨_, h0⟩ | ⟨g, cap, cur, hv, hbg, hg, hn, hm, _⟩
  · exact absurd (List.eq_nil_of_length_eq_zero h0) hne
  · exact ⟨g, cap, hv, hbg, (Array.getElem?_eq_some_iff.1 hg).1, hn, hm, fun j => by simp [World.frozen?, hg]⟩
/-- The ends, as they lie: in a row of their own. -/
def EndsAt (w : World) (base : Nat) (v : Value) (E : List Sb.End) : Prop :=
  ∃ A cap, v = .slice A E.length cap ∧ E.length ≤ cap ∧ cap ≤ maxLen ∧ (0 < E.length → ∃ g cs, A = some ⟨g, 0, none⟩ ∧ base ≤ g ∧ w.heap[g]? = some (.cells cs 123 (0, 0)) ∧ ∀ j x, E[j]? = some x → cs[j * 3]? = some (.int .i64 x.at_) ∧ cs[j * 3 + 1]? = some (.int .i64 x.list) ∧ cs[j * 3 + 2]? = some (.int .i64 x.step))
set_option maxHeartbeats 8000000 in
theorem ends_any (va vb : Value) (a b : List Ext) (bb cap : Nat) (w : World) (hbb : bb < w.heap.size) (h0 : w.cell? ⟨bb, 0, none⟩ = some va) (h1 : w.cell? ⟨bb, 1, none⟩ = some vb)
    (S : Nat → Prop) (ha : RExts w S va a) (hb : RExts w S vb b) (hna : a.length ≤ 1000000) (hnb : b.length ≤ 1000000) :
    Calls Try.prog 79 #[.slice (some ⟨bb, 0, none⟩) 2 cap] w fun e w' => ∃ v E, e = .returned v ∧ EndsAt w' w.heap.size v E ∧ E.Perm (endsOf 0 a ++ endsOf 1 b) ∧ (E.Pairwise fun x y => x.at_ ≤ y.at_) ∧ Below w.heap.size w w' := by
  go_enter Try.func79, Try.ntmps79
  go_wp2
  go_loopw [3, 13] (fun s i wr => ∃ k : Nat, k ≤ 2 ∧ i = .int .i64 k ∧ OwnSl 123 3 (RPure encE) wr w.heap.size (fun _ => False) s (endK a b k) ∧ Below w.heap.size w wr) (fun _ i _ => 2 - (intOf i).toNat)
  case atStart => exact ⟨0, by omega, rfl, OwnSl.nil _, Below.refl _ _⟩
  case round =>
    obtain ⟨k, hk, rfl, hown, hbw⟩ := hrel
    by_cases hlt : k < 2
    · obtain ⟨vl, L, hc0, hL, hnext, hnL, hpre⟩ : ∃ vl L, w.cell? ⟨bb, k, none⟩ = some vl ∧ RExts w S vl L ∧ endK a b (k + 1) = endK a b k ++ endsOf (k : Nat) L ∧ L.length ≤ 1000000 ∧ (endK a b k).length ≤ 2000000 := by
        match k, hlt with
        | 0, _ => exact ⟨va, a, h0, ha, rfl, hna, by simp [endK]⟩
        | 1, _ => exact ⟨vb, b, h1, hb, rfl, hnb, by have := endsOf_len 0 a; simp only [endK]; omega⟩
      obtain ⟨A, cpl, rfl, hcap, hm⟩ := hL.val
      unfold maxLen at hm
      have c0 := (hbw.cell (p := ⟨bb, k, none⟩) hbb).trans hc0
      have hbs0 := hbw.size
      have t0 := decide_eq_true (show (k : Int) < 2 by omega)
      go_wp2
      go_loopw [3, 20] (fun s i wi => ∃ m : Nat, m ≤ L.length ∧ i = .int .i64 m ∧ OwnSl 123 3 (RPure encE) wi w.heap.size (fun _ => False) s (endK a b k ++ endsOf (k : Nat) (L.take m)) ∧ Below w.heap.size w wi) (fun _ i _ => L.length - (intOf i).toNat)
      case atStart => exact ⟨0, Nat.zero_le _, rfl, by simpa [endsOf] using hown, hbw⟩
      case round =>
        clear hown hbw c0 hbs0
        obtain ⟨m, hm0, rfl, hown, hb2⟩ := hrel
        have hbs := hb2.size
        by_cases hlt2 : m < L.length
        · have t1 := decide_eq_true hlt2
          obtain ⟨x, hx⟩ : ∃ x, L[m]? = some x := ⟨_, List.getElem?_eq_getElem hlt2⟩
          obtain ⟨b', off, cs, rfl, hbl, _, hll, hc, x1, x2, rfl⟩ := hL.at_ hx
          have c0 := (hb2.cell (p := ⟨b', off + m * 2 + 0, none⟩) hbl).trans (hc 0 (by omega))
          have c1 := (hb2.cell (p := ⟨b', off + m * 2 + 1, none⟩) hbl).trans (hc 1 (by omega))
          simp at c0 c1
          clear hc hll
          have hul := hown.lt
          have hel := endsOf_len (k : Nat) (L.take m)
          rw [List.length_take, Nat.min_eq_left hm0] at hel
          have HX := Lib.hid hx
          clear hx
          have hbox := Blk.new wr 68 #[.int .i64 x.start, .int .i64 x.count]
          have hA := (Below.refl wr.heap.size wr).alloc (Nat.le_refl _) (.cells #[.int .i64 x.start, .int .i64 x.count] 68)
          go_wp2_with fail
          refine (within_any x _ x1 x2).mono ?_
          rintro e w1 ⟨f, t, ok, rfl, hW, hb1⟩
          have HW := Lib.hid (hW.one (k : Nat))
          clear hW
          have hB1 := below_then (hb2.alloc hbs _) (by simp; omega) hb1
          have hz1 : wr.heap.size < w1.heap.size := by have := hb1.size; simp at this; omega
          have hown1 := (hown.alloc (.cells #[.int .i64 x.start, .int .i64 x.count] 68)).below hb1
          have hul1 := hown1.lt
          have hpt := HW.out
          cases ok with
          | false =>
            simp only [Bool.false_eq_true, if_false] at hpt
            have HPT := Lib.hid hpt
            clear hpt
            go_wp2
            go_roundw
            case rel => exact ⟨m + 1, by omega, by go_num, by rw [endsOf_take HX.out, HPT.out, List.append_nil]; exact hown1, hB1⟩
            case measure => simp [intOf]; omega
          | true =>
            simp only [if_true] at hpt
            have HPT := Lib.hid hpt
            clear hpt
            have hO9 := ownPure (T := fun _ => True) (hown1.alloc (.cells #[.int .i64 f, .int .i64 k, .int .i64 1, .int .i64 t, .int .i64 k, .int .i64 (-1)] 123))
            have hy9 := (read2 (w := w1) (H := 0) f t (k : Nat)).more (T := fun b => True ∧ some b ≠ u3.ownBlock) (fun b _ hh => ⟨trivial, fun e => by have := (hul1 b e.symm).2; omega⟩)
            go_wp2_with (first | (at_builtin; refine wpList_appendMany rfl _ _ 119 rfl 123 _ 3 24 Try.underlying119 infoN rfl (by decide) (RPure encE) encE_one w.heap.size (fun _ => True) u3 _ rfl hO9 (.slice (some ⟨w1.heap.size, 0, none⟩) 2 2) [⟨f, (k : Nat), 1⟩, ⟨t, (k : Nat), -1⟩] rfl hy9 (by rw [List.length_append]; simp only [List.length_cons, List.length_nil]; omega) (by decide) (by simp; omega) ?_; intro v5 w5 hO5 hg5 hat5))
            go_roundw
            case rel =>
              refine ⟨m + 1, by omega, by go_num, ?_, (hB1.alloc hB1.size _).grown hg5 (by simp; have := hB1.size; omega) (fun j e => (hul1 j e).1)⟩
              rw [endsOf_take HX.out, HPT.out, ← List.append_assoc]
              exact ownPure hO5
            case measure => simp [intOf]; omega
        · obtain rfl : m = L.length := by omega
          rw [List.take_length] at hown
          go_wp2
          go_roundw
          case rel => exact ⟨k + 1, by omega, by go_num, by rw [hnext]; exact hown, hb2⟩
          case measure => simp [intOf]; omega
    · obtain rfl : k = 2 := by omega
      obtain ⟨A, cp, rfl, hc1, hc2⟩ := hown.val
      have hlen : (endK a b 2).length ≤ 4000000 := by
        have e1 := endsOf_len 0 a
        have e2 := endsOf_len 1 b
        simp only [endK, List.length_append]; omega
      have hul := hown.lt
      have hbs := hbw.size
      have hs := sortE_any hown (by omega)
      have HS := Lib.hid hs
      clear hs
      go_wp2_with (first | (go_at_call 93; refine HS.out.mono ?_; rintro e w1 ⟨rfl, ys, hperm, hpw, hyl, hrd, hg1, hty⟩))
      go_ret
      refine ⟨_, ys, rfl, ?_, hperm, hpw.imp (fun {x y} h => ?_), hbw.grown hg1 hbs (fun j e => (hul j (by cases A <;> simp_all [Value.ownBlock])).1)⟩
      · refine ⟨A, cp, by rw [hyl]; rfl, by rw [hyl]; exact hc1, hc2, fun h0 => ?_⟩
        obtain ⟨g, cp2, hv, hbg, hgl, _, _, _⟩ := own_slot hown (by intro e; rw [hyl, e] at h0; simp at h0)
        injection hv with e1 _ _
        subst e1
        obtain ⟨c, o1, _⟩ := hown
        rcases o1.2 with ⟨hv2, _⟩ | ⟨g', cap', cur, hv2, _, hg, _⟩
        · cases hv2
        · injection hv2 with e1 e2 e3
          injection e1 with e1; injection e1 with e1 _ _
          subst e1
          obtain ⟨cs', hcs'⟩ := hty g cur 123 (0, 0) rfl hg
          refine ⟨g, cs', rfl, hbg, hcs', fun j x hj => ?_⟩
          rw [← hyl] at hrd
          obtain ⟨b2, off2, cs2, hA2, _, _, hl2, hc2', hr2⟩ := hrd.at_ hj
          injection hA2 with e; injection e with e1 e2 _
          subst e1 e2
          obtain rfl : cs2 = encE x := hr2
          have hb : Blk w1 g 123 cs' := hcs'
          have a0 := hc2' 0 (by omega)
          have a1 := hc2' 1 (by omega)
          have a2 := hc2' 2 (by omega)
          rw [hb.cell] at a0 a1 a2
          simp [encE] at a0 a1 a2
          exact ⟨a0, a1, a2⟩
      · rw [ltOf_E] at h
        have := of_decide_eq_false h
        omega
end Go.Proofs.Ytoifinmcoldidaa
