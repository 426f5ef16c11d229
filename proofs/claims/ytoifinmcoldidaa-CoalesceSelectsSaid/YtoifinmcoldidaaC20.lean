import Derived.Test.YtoifinmcoldidaaC19
import Derived.Deep.DeepMust
set_option maxRecDepth 100000
set_option linter.unusedVariables false
set_option linter.unusedSimpArgs false
namespace Go.Proofs.Ytoifinmcoldidaa
open Go.RowKit Go.Mm Sb

/-! ### CoalesceAssociates -/
theorem plI_of_placed {w : Wr} (h : Placed w) : plI w = 0 := by
  have h1 := h.v0; have h2 := h.v8; have h3 := h.s0; have h4 := h.s4; have h5 := len_pos h.ne
  unfold plI placedI
  (repeat' split) <;> omega
theorem foldI_of_placed : ∀ {l : List Wr}, AllPlaced l → foldI l = 0
  | [], _ => rfl
  | x :: t, h => by
    unfold foldI
    rw [if_pos (plI_of_placed (h x (by simp)))]
    exact foldI_of_placed fun w hw => h w (by simp [hw])
theorem chk_canon : ∀ {p : Option Wr} {l : List Wr}, Canon l → AllPlaced l → (∀ x, p = some x → ∀ w ∈ l, Behind x w) → chkI plI p l = 0
  | none, [], _, _, _ => rfl
  | some _, [], _, _, _ => rfl
  | none, x :: t, hc, hp, _ => by
    unfold chkI
    rw [if_pos (plI_of_placed (hp x (by simp)))]
    exact chk_canon hc.tail (fun w hw => hp w (by simp [hw])) (fun y hy w hw => by injection hy with hy; subst hy; exact hc.head w hw)
  | some y, x :: t, hc, hp, hb => by
    unfold chkI
    have h1 := hb y rfl x (by simp)
    unfold Behind at h1
    rw [if_pos (plI_of_placed (hp x (by simp))), if_neg (by omega)]
    exact chk_canon hc.tail (fun w hw => hp w (by simp [hw])) (fun z hz w hw => by injection hz with hz; subst hz; exact hc.head w hw)
theorem few_sum : ∀ {l : List Wr}, (∀ x ∈ l, x.data.length ≤ 24) → secN l ≤ 24 * l.length
  | [], _ => by simp [secN]
  | x :: t, h => by
    have h1 := few_sum (l := t) fun y hy => h y (by simp [hy])
    have h2 := h x (by simp)
    have e : secN (x :: t) = x.data.length + secN t := by simp [secN]
    rw [e, List.length_cons]; omega
theorem few_sec {l : List Wr} (h : FewP l) : secN l ≤ 1000000000000 := by have := few_sum h.2; have := h.1; omega
theorem few_sec3 {a b c : List Wr} (h1 : FewP a) (h2 : FewP b) (h3 : FewP c) : secN ((a ++ b) ++ c) ≤ 1000000000000 := by
  rw [secN_append, secN_append]
  have := few_sum h1.2; have := few_sum h2.2; have := few_sum h3.2; have := h1.1; have := h2.1; have := h3.1
  omega
theorem fold_ok (v : Value) (l : List Wr) (w : World) (S : Nat → Prop) (h : RWrs w S v l) (h0 : foldI l = 0) (hsz : secN l ≤ 1000000000000) :
    Calls Try.prog 14 #[v] w (RetWrsE (foldW l) 0 w) := by
  have := fold_any v l w S h hsz
  unfold foldR at this
  rwa [h0, if_pos rfl] at this
theorem merge_ok (va vb : Value) (a b : List Wr) (w : World) (S : Nat → Prop) (ha : RWrs w S va (foldW a)) (hb : RWrs w S vb (foldW b)) (pa : AllPlaced a) (pb : AllPlaced b) :
    Calls Try.prog 17 #[va, vb] w (RetWrsE (foldW (a ++ b)) 0 w) := by
  have h1 := fold_bound pa
  have h2 := fold_bound pb
  have e1 : secN (foldW a) = secL (foldW a) := rfl
  have e2 : secN (foldW b) = secL (foldW b) := rfl
  have := merge_any va vb _ _ w S ha hb (by omega) (by omega)
  have hi : mergeI (foldW a) (foldW b) = 0 := by
    unfold mergeI
    rw [if_pos (chk_canon (foldW_canon a) (foldW_placed pa) (by simp)), chk_canon (foldW_canon b) (foldW_placed pb) (by simp)]
  unfold mergeR at this
  rwa [hi, if_pos rfl, merge_fold pa pb] at this
theorem own0 (w : World) {S : Nat → Prop} : OwnSl 35 3 RWr (w.alloc (.cells #[] 35)) w.heap.size S (.slice (some ⟨w.heap.size, 0, none⟩) 0 0) [] :=
  ⟨[], ⟨rfl, .inr ⟨w.heap.size, 0, #[], rfl, Nat.le_refl _, heap_alloc_new w _, Nat.le_refl _, by decide, by simp, rfl⟩⟩, rfl, by simp, by simp⟩
theorem wpList_appWr {ops : Array Oper} {rest : List Oper} {o : Oper} {a : Act} {Q : Exit → Act → World → Prop} {W : World} (hgd : o.guard = none) (s y : Operand)
    (ho : o.op = .call { callee := .builtin .append, args := #[s, y], argTypes := #[22, 22] }) (base : Nat) (w0 : World) (h0 : w0.heap.size ≤ base) (v : Value) (xs : List Wr) (hs : a.eval s = v)
    (hown : OwnSl 35 3 RWr W base (fun x => x < w0.heap.size) v xs) (vy : Value) (ys : List Wr) (hx : a.eval y = vy) (hy : RWrs w0 Any vy ys) (hB : Below w0.heap.size w0 W) (hlen : xs.length + ys.length ≤ 1000) (hbase : base ≤ W.heap.size)
    (h : ∀ v' w', OwnSl 35 3 RWr w' base (fun x => x < w0.heap.size) v' (xs ++ ys) → (∀ (B : Nat) (w1 : World), B ≤ base → Below B w1 W → Below B w1 w') → base ≤ w'.heap.size → wpList Try.prog ops Q rest (a.put o.dst v') w') :
    wpList Try.prog ops Q (o :: rest) a W := by
  have hl := hown.lt
  have hy2 : RSl 3 RWr W (fun x => x < w0.heap.size ∧ some x ≠ v.ownBlock) vy ys :=
    ((hy.more (T := fun x => x < w0.heap.size) fun x hx _ => hx).below hB).more fun x _ hx => ⟨hx, fun e => by have := (hl x e.symm).1; omega⟩
  refine wpList_appendMany hgd s y 22 ho 35 _ 3 40 Try.underlying22 infoW rfl (by decide) RWr RWr.one base (fun x => x < w0.heap.size) v xs hs hown vy ys hx hy2 (by omega) (by decide) hbase ?_
  intro v' w' hO hg _
  exact h v' w' hO (fun B w1 hBb hW => hW.grown hg (by omega) (fun j e => by have := (hl j e).1; omega)) (by have := hg.size; omega)
set_option maxHeartbeats 16000000 in
theorem assoc_any (va vb vc : Value) (a b c : List Wr) (w : World) (ha : RWrs w Any va a) (hb : RWrs w Any vb b) (hc : RWrs w Any vc c) :
    Calls Try.prog 6 #[va, vb, vc] w fun e w' => e = .returned (.bool true) ∧ Below w.heap.size w w' := by
  have G0 : Below w.heap.size w w := Below.refl _ _
  go_enter Try.func6, Try.ntmps6
  go_wp2_with fail
  refine (few_any va a _ Any (ha.below G0)).mono ?_
  rintro e w1 ⟨q1, rfl, f1, B1⟩
  have G1 := below_then G0 G0.size B1
  cases q1 with
  | false =>
    go_wp2_with (first | (go_at_call 13; refine (awake_any _).mono ?_; rintro e w99 ⟨rfl, B99⟩))
    go_ret
    exact ⟨rfl, below_then G1 G1.size B99⟩
  | true =>
    replace f1 := f1 rfl
    go_wp2_with fail
    refine (few_any vb b _ Any (hb.below G1)).mono ?_
    rintro e w2 ⟨q2, rfl, f2, B2⟩
    have G2 := below_then G1 G1.size B2
    cases q2 with
    | false =>
      go_wp2_with (first | (go_at_call 13; refine (awake_any _).mono ?_; rintro e w99 ⟨rfl, B99⟩))
      go_ret
      exact ⟨rfl, below_then G2 G2.size B99⟩
    | true =>
      replace f2 := f2 rfl
      go_wp2_with fail
      refine (few_any vc c _ Any (hc.below G2)).mono ?_
      rintro e w3 ⟨q3, rfl, f3, B3⟩
      have G3 := below_then G2 G2.size B3
      cases q3 with
      | false =>
        go_wp2_with (first | (go_at_call 13; refine (awake_any _).mono ?_; rintro e w99 ⟨rfl, B99⟩))
        go_ret
        exact ⟨rfl, below_then G3 G3.size B99⟩
      | true =>
        replace f3 := f3 rfl
        by_cases hfa : foldI a = 0
        rotate_left 1
        · have t1 : (foldI a != 0) = true := by simpa using hfa
          go_wp2_with fail
          refine (fold_any va a w3 Any (ha.below G3) (few_sec f1)).mono ?_
          rintro e w4 ⟨v4, rfl, X4, B4⟩
          have G4 := below_then G3 G3.size B4
          go_wp2_with fail
          refine (fold_any vb b w4 Any (hb.below G4) (few_sec f2)).mono ?_
          rintro e w5 ⟨v5, rfl, X5, B5⟩
          have G5 := below_then G4 G4.size B5
          go_wp2_with fail
          refine (fold_any vc c w5 Any (hc.below G5) (few_sec f3)).mono ?_
          rintro e w6 ⟨v6, rfl, X6, B6⟩
          have G6 := below_then G5 G5.size B6
          go_wp2_with (first | (go_at_call 13; refine (awake_any _).mono ?_; rintro e w99 ⟨rfl, B99⟩))
          go_ret
          exact ⟨rfl, below_then G6 G6.size B99⟩
        by_cases hfb : foldI b = 0
        rotate_left 1
        · have t1 : (foldI b != 0) = true := by simpa using hfb
          go_wp2_with fail
          refine (fold_ok va a w3 Any (ha.below G3) hfa (few_sec f1)).mono ?_
          rintro e w4 ⟨v4, rfl, X4, B4⟩
          replace X4 := X4.more (T := Any) (fun _ _ _ => trivial)
          have G4 := below_then G3 G3.size B4
          go_wp2_with fail
          refine (fold_any vb b w4 Any (hb.below G4) (few_sec f2)).mono ?_
          rintro e w5 ⟨v5, rfl, X5, B5⟩
          have G5 := below_then G4 G4.size B5
          go_wp2_with fail
          refine (fold_any vc c w5 Any (hc.below G5) (few_sec f3)).mono ?_
          rintro e w6 ⟨v6, rfl, X6, B6⟩
          have G6 := below_then G5 G5.size B6
          go_wp2_with (first | (go_at_call 13; refine (awake_any _).mono ?_; rintro e w99 ⟨rfl, B99⟩))
          go_ret
          exact ⟨rfl, below_then G6 G6.size B99⟩
        by_cases hfc : foldI c = 0
        rotate_left 1
        · have t1 : (foldI c != 0) = true := by simpa using hfc
          go_wp2_with fail
          refine (fold_ok va a w3 Any (ha.below G3) hfa (few_sec f1)).mono ?_
          rintro e w4 ⟨v4, rfl, X4, B4⟩
          replace X4 := X4.more (T := Any) (fun _ _ _ => trivial)
          have G4 := below_then G3 G3.size B4
          go_wp2_with fail
          refine (fold_ok vb b w4 Any (hb.below G4) hfb (few_sec f2)).mono ?_
          rintro e w5 ⟨v5, rfl, X5, B5⟩
          replace X5 := X5.more (T := Any) (fun _ _ _ => trivial)
          have G5 := below_then G4 G4.size B5
          go_wp2_with fail
          refine (fold_any vc c w5 Any (hc.below G5) (few_sec f3)).mono ?_
          rintro e w6 ⟨v6, rfl, X6, B6⟩
          have G6 := below_then G5 G5.size B6
          go_wp2_with (first | (go_at_call 13; refine (awake_any _).mono ?_; rintro e w99 ⟨rfl, B99⟩))
          go_ret
          exact ⟨rfl, below_then G6 G6.size B99⟩
        go_wp2_with fail
        refine (fold_ok va a w3 Any (ha.below G3) hfa (few_sec f1)).mono ?_
        rintro e w4 ⟨v4, rfl, X4, B4⟩
        replace X4 := X4.more (T := Any) (fun _ _ _ => trivial)
        have G4 := below_then G3 G3.size B4
        go_wp2_with fail
        refine (fold_ok vb b w4 Any (hb.below G4) hfb (few_sec f2)).mono ?_
        rintro e w5 ⟨v5, rfl, X5, B5⟩
        replace X5 := X5.more (T := Any) (fun _ _ _ => trivial)
        have G5 := below_then G4 G4.size B5
        go_wp2_with fail
        refine (fold_ok vc c w5 Any (hc.below G5) hfc (few_sec f3)).mono ?_
        rintro e w6 ⟨v6, rfl, X6, B6⟩
        replace X6 := X6.more (T := Any) (fun _ _ _ => trivial)
        have G6 := below_then G5 G5.size B6
        replace X4 := X4.below B5; replace X4 := X4.below B6; replace X5 := X5.below B6
        have pa := foldI_placed hfa; have pb := foldI_placed hfb; have pc := foldI_placed hfc
        have HP := Lib.hid (And.intro pa (And.intro pb pc))
        clear hfa hfb hfc pa pb pc
        go_wp2_with fail
        refine (merge_ok v4 v5 a b w6 Any X4 X5 HP.out.1 HP.out.2.1).mono ?_
        rintro e w7 ⟨v7, rfl, X7, B7⟩
        replace X7 := X7.more (T := Any) (fun _ _ _ => trivial)
        have G7 := below_then G6 G6.size B7
        replace X4 := X4.below B7
        replace X5 := X5.below B7
        replace X6 := X6.below B7
        go_wp2_with fail
        refine (merge_ok v7 v6 (a ++ b) c w7 Any X7 X6 (placed_app HP.out.1 HP.out.2.1) HP.out.2.2).mono ?_
        rintro e w8 ⟨v8, rfl, X8, B8⟩
        replace X8 := X8.more (T := Any) (fun _ _ _ => trivial)
        have G8 := below_then G7 G7.size B8
        replace X4 := X4.below B8
        replace X5 := X5.below B8
        replace X6 := X6.below B8
        go_wp2_with fail
        refine (merge_ok v5 v6 b c w8 Any X5 X6 HP.out.2.1 HP.out.2.2).mono ?_
        rintro e w9 ⟨v9, rfl, X9, B9⟩
        replace X9 := X9.more (T := Any) (fun _ _ _ => trivial)
        have G9 := below_then G8 G8.size B9
        replace X4 := X4.below B9
        replace X8 := X8.below B9
        go_wp2_with fail
        refine (merge_ok v4 v9 a (b ++ c) w9 Any X4 X9 HP.out.1 (placed_app HP.out.2.1 HP.out.2.2)).mono ?_
        rintro e w10 ⟨v10, rfl, X10, B10⟩
        replace X10 := X10.more (T := Any) (fun _ _ _ => trivial)
        have G10 := below_then G9 G9.size B10
        replace X8 := X8.below B10
        have gs := G10.size
        have E0 := own0 w10 (S := fun x => x < w.heap.size)
        have K0 : Below w.heap.size w (w10.alloc (.cells #[] 35)) := G10.alloc gs _
        have M0 : Below w10.heap.size w10 (w10.alloc (.cells #[] 35)) := (Below.refl _ _).alloc (Nat.le_refl _) _
        have la : ([] : List Wr).length + a.length ≤ 1000 := by have := f1.1; simp; omega
        have lb : a.length + b.length ≤ 1000 := by have := f1.1; have := f2.1; simp; omega
        have lc : (a ++ b).length + c.length ≤ 1000 := by have := f1.1; have := f2.1; have := f3.1; simp; omega
        have HL := Lib.hid (And.intro la (And.intro lb lc))
        clear la lb lc
        go_wp2_with (first | (at_builtin; have := O2; refine wpList_appWr rfl _ _ rfl w10.heap.size w gs _ (a ++ b) rfl O2 vc c rfl hc K2 HL.out.2.2 S2 ?_; intro u3 w13 O3 L3 S3; have K3 := L3 _ _ gs K2; have M3 := L3 _ _ (Nat.le_refl _) M2; obtain ⟨A3, c3, rfl, _, _⟩ := O3.val; rw [List.length_append, List.length_append, Nat.add_assoc] at O3; clear L3) | (at_builtin; have := O1; refine wpList_appWr rfl _ _ rfl w10.heap.size w gs _ a rfl O1 vb b rfl hb K1 HL.out.2.1 S1 ?_; intro u2 w12 O2 L2 S2; have K2 := L2 _ _ gs K1; have M2 := L2 _ _ (Nat.le_refl _) M1; obtain ⟨A2, c2, rfl, _, _⟩ := O2.val; rw [List.length_append] at O2; clear L2) | (at_builtin; refine wpList_appWr rfl _ _ rfl w10.heap.size w gs _ [] rfl E0 va a rfl ha K0 HL.out.1 (by simp) ?_; intro u1 w11 O1 L1 S1; have K1 := L1 _ _ gs K0; have M1 := L1 _ _ (Nat.le_refl _) M0; rw [List.nil_append] at O1; obtain ⟨A1, c1, rfl, _, _⟩ := O1.val; clear L1))
        have hall := fold_ok _ ((a ++ b) ++ c) w13 Any (O3.reads (fun _ _ _ => trivial)) (foldI_of_placed (placed_app (placed_app HP.out.1 HP.out.2.1) HP.out.2.2)) (few_sec3 f1 f2 f3)
        refine hall.mono ?_
        rintro e w14 ⟨v14, rfl, X14, B14⟩
        replace X14 : RWrs w14 Any v14 (foldW (a ++ b ++ c)) := X14.more (fun _ _ _ => trivial)
        have G14 := below_then K3 K3.size B14
        have M14 := below_then M3 M3.size B14
        replace X8 := X8.below M14; replace X10 := X10.below M14
        have hab : a ++ b ++ c = a ++ (b ++ c) := List.append_assoc a b c
        rw [← hab] at X10
        have HAB := Lib.hid hab
        clear hab
        go_wp2_with fail
        refine (same22_any v8 v10 _ _ w14 Any X8 X10).mono ?_
        rintro e w15 ⟨rfl, B15⟩
        rw [show decide (foldW (a ++ b ++ c) = foldW (a ++ b ++ c)) = true from decide_eq_true rfl]
        have G15 := below_then G14 G14.size B15
        replace X8 := X8.below B15; replace X14 := X14.below B15
        go_wp2_with fail
        refine (same22_any v8 v14 _ _ w15 Any X8 X14).mono ?_
        rintro e w16 ⟨rfl, B16⟩
        rw [show decide (foldW (a ++ b ++ c) = foldW (a ++ b ++ c)) = true from decide_eq_true rfl]
        have G16 := below_then G15 G15.size B16
        replace X8 := X8.below B16; replace X14 := X14.below B16
        go_wp2_with (first | (go_at_call 13; refine (awake_any _).mono ?_; rintro e w99 ⟨rfl, B99⟩))
        go_ret
        exact ⟨rfl, below_then G16 G16.size B99⟩
end Go.Proofs.Ytoifinmcoldidaa
