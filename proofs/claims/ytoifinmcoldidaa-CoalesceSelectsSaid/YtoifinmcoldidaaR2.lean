import Derived.Test.YtoifinmcoldidaaR1
set_option maxRecDepth 100000
set_option linter.unusedVariables false
set_option linter.unusedSimpArgs false
namespace Go.Proofs.Ytoifinmcoldidaa
open Go.RowKit Go.Mm Sb

/-! ### the reference: List -/
def encX (x : Ext) : List Value := [.int .i64 x.start, .int .i64 x.count]
theorem mem_has {e : Ext} : ∀ {l : List Ext}, e ∈ l → ∀ s, e.has s = true → mem l s = true := fun hm s hs => List.any_eq_true.2 ⟨e, hm, hs⟩
theorem canonE_pos : ∀ {lo : Int} {l : List Ext}, CanonE lo l → ∀ e ∈ l, lo ≤ e.start ∧ 0 < e.count
  | _, [], _, e, he => by simp at he
  | lo, x :: l, ⟨h1, h2, h3⟩, e, he => by
    rcases List.mem_cons.1 he with rfl | he
    · exact ⟨h1, h2⟩
    · have := canonE_pos h3 e he; exact ⟨by omega, this.2⟩
theorem runs_bound (p : Int → Bool) (n : Nat) : ∀ e ∈ runsE p n, 0 ≤ e.start ∧ 0 < e.count ∧ e.start + e.count ≤ (n : Int) := fun e he => by
  have h := runsE_spec p n
  have h1 := canonE_pos h.canon e he
  exact ⟨h1.1, h1.2, h.ends e he⟩
theorem canonE_len : ∀ {lo hi : Int} {l : List Ext}, CanonE lo l → lo ≤ hi → (∀ e ∈ l, e.start + e.count ≤ hi) → (l.length : Int) ≤ hi - lo
  | lo, hi, [], _, h, _ => by simp; omega
  | lo, hi, x :: l, ⟨h1, h2, h3⟩, h, he => by
    have hx := he x (by simp)
    rcases l with _ | ⟨y, l⟩
    · simp; omega
    · have hy := he y (by simp)
      have hp := (canonE_pos h3 y (by simp))
      have := canonE_len h3 (hi := hi) (by omega) (fun e h => he e (by simp [h]))
      simp only [List.length_cons] at this ⊢; omega
theorem runs_len (p : Int → Bool) (n : Nat) : (runsE p n).length ≤ n := by
  have h := runsE_spec p n
  have := canonE_len h.canon (hi := n) (by omega) (fun e he => h.ends e he)
  omega
theorem runs_no {p : Int → Bool} {k : Nat} (h : p k = false) : runsE p (k + 1) = runsE p k := by
  rw [runsE, if_neg (by simp [h])]
theorem runs_new {p : Int → Bool} {k : Nat} (h : p k = true) (h2 : ¬ (k ≠ 0 ∧ p ((k : Int) - 1) = true)) : runsE p (k + 1) = runsE p k ++ [⟨k, 1⟩] := by
  rw [runsE, if_pos h, if_neg h2]
theorem runs_more {p : Int → Bool} {k : Nat} (h : p k = true) (h2 : k ≠ 0) (h3 : p ((k : Int) - 1) = true) : ∃ (o : List Ext) (e : Ext), runsE p k = o ++ [e] ∧ runsE p (k + 1) = o ++ [⟨e.start, e.count + 1⟩] ∧ 0 ≤ e.start ∧ 0 < e.count ∧ e.start + e.count = (k : Int) := by
  obtain ⟨o, e, ho, he⟩ := (runsE_spec p k).last h2 h3
  have hb := runs_bound p k e (by rw [ho]; simp)
  refine ⟨o, e, ho, ?_, hb.1, hb.2.1, he⟩
  rw [runsE, if_pos h, if_pos ⟨h2, h3⟩, ho, bump_snoc]
theorem own_exts {e : TypeId} {w : World} {base : Nat} {v : Value} {l : List Ext} (h : OwnSl e 2 (RPure encX) w base (fun _ => False) v l) (h64 : ∀ x ∈ l, In64 x.start ∧ In64 x.count) {T : Nat → Prop} (hT : ∀ b, base ≤ b → T b) : RExts w T v l := by
  obtain ⟨A, cap, hv, hc1, hc2, hx⟩ := h.reads (T := T) (fun b hb hh => by rcases hh with hh | hh; cases hh; exact hT b (h.lt b hh.symm).1)
  refine ⟨A, cap, hv, hc1, hc2, fun h0 => ?_⟩
  obtain ⟨b, off, hA, hlt, hb, hxx⟩ := hx h0
  refine ⟨b, off, hA, hlt, hb, fun j x hj => ?_⟩
  obtain ⟨cs, hl, hc, hr⟩ := hxx j x hj
  have := h64 x (List.mem_of_getElem? hj)
  exact ⟨cs, hl, hc, this.1, this.2, hr⟩
theorem own_slice {e : TypeId} {k : Nat} {α : Type} {R : ERel α} {w : World} {base : Nat} {S : Nat → Prop} {v : Value} {xs : List α} (h : OwnSl e k R w base S v xs) (hne : xs ≠ []) :
    ∃ g cap, v = .slice (some ⟨g, 0, none⟩) xs.length cap ∧ base ≤ g ∧ g < w.heap.size ∧ xs.length ≤ cap ∧ cap ≤ maxLen ∧ ∀ j, w.frozen? ⟨g, j, none⟩ = false := by
  obtain ⟨c, h1, _⟩ := h
  rcases h1.2 with ⟨_, h0⟩ | ⟨g, cap, cur, hv, hbg, hg, hn, hm, _⟩
  · exact absurd (List.eq_nil_of_length_eq_zero h0) hne
  · exact ⟨g, cap, hv, hbg, (Array.getElem?_eq_some_iff.1 hg).1, hn, hm, fun j => by simp [World.frozen?, hg]⟩
set_option maxHeartbeats 4000000 in
theorem list_any (g n cap : Nat) (p : Int → Bool) (w : World) (hM : RdMarks w g n p) (hn : n ≤ 4096) (hcap : n ≤ cap ∧ cap ≤ 9223372036854775807) :
    Calls Try.prog 59 #[.slice (some ⟨g, 0, none⟩) n cap] w fun e w' => ∃ v, e = .returned v ∧ RExts w' (fun b => w.heap.size ≤ b) v (runsE p n) ∧ Below w.heap.size w w' := by
  obtain ⟨hgl, hM⟩ := hM
  go_enter Try.func59, Try.ntmps59
  go_wp2
  go_loopw [3, 4] (fun s i wr => ∃ k : Nat, k ≤ n ∧ i = .int .i64 k ∧ OwnSl 68 2 (RPure encX) wr w.heap.size (fun _ => False) s (runsE p k) ∧ Below w.heap.size w wr) (fun _ i _ => n - (intOf i).toNat)
  case atStart => exact ⟨0, by omega, rfl, OwnSl.nil _, Below.refl _ _⟩
  case round =>
    obtain ⟨k, hk, rfl, hown, hb⟩ := hrel
    have hbs := hb.size
    by_cases hlt : k < n
    · have t1 := decide_eq_true hlt
      have hc0 := (hb.cell (p := ⟨g, k, none⟩) hgl).trans (hM k hlt)
      cases hp : p k with
      | false =>
        rw [hp] at hc0
        go_wp2
        go_roundw
        case rel => exact ⟨k + 1, by omega, by go_num, by rw [runs_no hp]; exact hown, hb⟩
        case measure => simp [intOf]; omega
      | true =>
        rw [hp] at hc0
        have hown' := hown.lt
        have hrl := runs_len p k
        by_cases hk0 : k = 0
        · subst hk0
          have hnew := runs_new hp (by simp)
          go_wp2_with (first | (at_builtin; refine wpList_appendNew rfl _ _ 42 rfl 68 _ 2 16 Try.underlying42 infoX rfl (by omega) (RPure encX) w.heap.size (fun _ => False) _ _ rfl hown #[.int .i64 0, .int .i64 1] ⟨0, 1⟩ wr.heap.size rfl rfl rfl (by simp [Value.oneCell']) rfl (by omega) (by omega) (by omega) ?_; intro v5 w5 hO5 hg5 hat5))
          go_roundw
          case rel => exact ⟨1, by omega, by go_num, by rw [hnew]; exact hO5, hb.grown hg5 hbs (fun j e => (hown' j e).1)⟩
          case measure => simp [intOf]; omega
        have hc1 := (hb.cell (p := ⟨g, k - 1, none⟩) hgl).trans (hM (k - 1) (by omega))
        have e1 : ((k - 1 : Nat) : Int) = (k : Int) - 1 := by omega
        have t2 : (0 : Int) < k := by omega
        rw [e1] at hc1
        cases hq : p ((k : Int) - 1) with
        | false =>
          rw [hq] at hc1
          have hnew := runs_new hp (by simp [hq])
          go_wp2_with (first | (at_builtin; refine wpList_appendNew rfl _ _ 42 rfl 68 _ 2 16 Try.underlying42 infoX rfl (by omega) (RPure encX) w.heap.size (fun _ => False) _ _ rfl hown #[.int .i64 k, .int .i64 1] ⟨k, 1⟩ wr.heap.size rfl rfl rfl (by simp [Value.oneCell']) rfl (by omega) (by omega) (by omega) ?_; intro v5 w5 hO5 hg5 hat5))
          go_roundw
          case rel => exact ⟨k + 1, by omega, by go_num, by rw [hnew]; exact hO5, hb.grown hg5 hbs (fun j e => (hown' j e).1)⟩
          case measure => simp [intOf]; omega
        | true =>
          rw [hq] at hc1
          obtain ⟨o, e, ho, hnxt, hes, hec, hee⟩ := runs_more hp hk0 hq
          rw [ho] at hown
          obtain ⟨g1, cap1, rfl, hbg1, hgl1, hl1, hm1, hfz⟩ := own_slice hown (by simp)
          have hrd := (hown.reads (T := fun _ => True) (fun _ _ _ => trivial)).at_ (j := o.length) (x := e) (by simp)
          obtain ⟨b1, off1, cs1, hA1, _, _, hcl, hcc, hr⟩ := hrd
          obtain ⟨rfl, rfl⟩ : g1 = b1 ∧ 0 = off1 := by injection hA1 with e; injection e with e1 e2; exact ⟨e1, e2⟩
          obtain rfl : cs1 = encX e := hr
          have c1 := hcc 1 (by omega)
          have hst := hown.setPure (by intro x; rfl) (j := o.length) (i := 1) (x := e) (x' := ⟨e.start, e.count + 1⟩) (by simp) (by omega) (u := .int .i64 (e.count + 1)) rfl
          have hset : (o ++ [e]).set o.length ⟨e.start, e.count + 1⟩ = runsE p (k + 1) := by rw [hnxt, List.set_append_right _ _ (by omega)]; simp
          rw [hset] at hst
          have hfz1 := hfz (o.length * 2 + 1)
          simp [encX] at c1
          simp only [List.length_append, List.length_cons, List.length_nil, Nat.zero_add] at hst hl1 ⊢
          unfold maxLen at hm1
          have HST := Lib.hid hst
          have HO := Lib.hid ho
          clear hst hown hset hcc ho hown' hrl hcl hA1 hnxt hfz
          go_wp2
          go_roundw
          case rel => exact ⟨k + 1, by omega, by go_num, HST.out.1, hb.grown HST.out.2 hbs (fun j e => by injection e with e; subst e; exact hbg1)⟩
          case measure => simp [intOf]; omega
    · obtain rfl : k = n := by omega
      go_wp2
      go_ret
      exact ⟨_, rfl, own_exts hown (fun x hx => by have := runs_bound p k x hx; unfold In64; omega) (fun b hb => hb), hb⟩
end Go.Proofs.Ytoifinmcoldidaa
