import Derived.Test.YtoifinmcoldidaaR3
set_option maxRecDepth 100000
set_option linter.unusedVariables false
set_option linter.unusedSimpArgs false
namespace Go.Proofs.Ytoifinmcoldidaa
open Go.RowKit Go.Mm Sb

/-! ### the reference: holds, Lookup -/
def holdsB (a b : Int) (n : Nat) (v s : Int) : Bool := decide (a = v ∧ b ≤ s ∧ s < b + n)
def HoldsRet (a b : Int) (n : Nat) (v s : Int) (w : World) (e : Ending) (w' : World) : Prop :=
  ∃ m ok, e = .returned (.tuple #[.int .i64 m, .bool ok]) ∧ ok = holdsB a b n v s ∧ (holdsB a b n v s = true → m = s - b) ∧ Below w.heap.size w w'
theorem holdsB_no {a b : Int} {n : Nat} {v s : Int} (h : ¬ (a = v ∧ b ≤ s ∧ s < b + n)) : holdsB a b n v s = false := decide_eq_false h
theorem holdsB_yes {a b : Int} {n : Nat} {v s : Int} (h : a = v ∧ b ≤ s ∧ s < b + n) : holdsB a b n v s = true := decide_eq_true h
set_option maxHeartbeats 4000000 in
theorem holds_any (a b : Int) (A : Option Addr) (n cap : Nat) (v s : Int) (w : World) (hn : n ≤ 9223372036854775807) (h1 : In64 a) (h2 : In64 b) (h3 : In64 v) (h4 : In64 s) :
    Calls Try.prog 57 #[.agg #[.int .i64 a, .int .i64 b, .slice A n cap], .int .i64 v, .int .i64 s] w (HoldsRet a b n v s w) := by
  obtain ⟨b1, b2⟩ := h2
  obtain ⟨s1, s2⟩ := h4
  have hB := (Below.refl w.heap.size w).alloc (Nat.le_refl _) (.cells #[.int .i64 a, .int .i64 b, .slice A n cap] 35)
  by_cases c1 : a = v
  · subst c1
    by_cases c2 : n = 0
    · subst c2
      go_enter Try.func57, Try.ntmps57
      go_wp2
      exact bodyPost_ret (v := .tuple #[.int .i64 0, .bool false]) (by simp [results, Try.results57, go_sem]) rfl ⟨0, false, rfl, (holdsB_no (by omega)).symm, (fun h => by rw [holdsB_no (by omega)] at h; cases h), hB⟩
    · have c2' : ((n : Int) == 0) = false := by simp; omega
      by_cases c3 : s < b
      · have t3 := decide_eq_true c3
        go_enter Try.func57, Try.ntmps57
        go_wp2
        exact bodyPost_ret (v := .tuple #[.int .i64 0, .bool false]) (by simp [results, Try.results57, go_sem]) rfl ⟨0, false, rfl, (holdsB_no (by omega)).symm, (fun h => by rw [holdsB_no (by omega)] at h; cases h), hB⟩
      · have t3 := decide_eq_false c3
        by_cases c4 : b < 0 ∧ 0 ≤ s
        · obtain ⟨c4, c5⟩ := c4
          have t4 := decide_eq_true c4
          have t5 := decide_eq_true c5
          by_cases c6 : b + n ≤ s
          · have t6 := decide_eq_true c6
            go_enter Try.func57, Try.ntmps57
            go_wp2
            exact bodyPost_ret (v := .tuple #[.int .i64 0, .bool false]) (by simp [results, Try.results57, go_sem]) rfl ⟨0, false, rfl, (holdsB_no (by omega)).symm, (fun h => by rw [holdsB_no (by omega)] at h; cases h), hB⟩
          · have t6 := decide_eq_false c6
            go_enter Try.func57, Try.ntmps57
            go_wp2
            exact bodyPost_ret (v := .tuple #[.int .i64 (s - b), .bool true]) (by simp [results, Try.results57, go_sem]) rfl ⟨s - b, true, rfl, (holdsB_yes (by omega)).symm, fun h => rfl, hB⟩
        · have hno : -9223372036854775808 ≤ s - b ∧ s - b ≤ 9223372036854775807 := by omega
          have he : decide (s - b < (n : Int)) = holdsB a b n a s := by
            unfold holdsB
            rw [decide_eq_decide]
            omega
          have HE := Lib.hid he
          clear he
          by_cases c7 : b < 0
          · have t7 := decide_eq_true c7
            have c8 : ¬ 0 ≤ s := by omega
            have t8 := decide_eq_false c8
            go_enter Try.func57, Try.ntmps57
            go_wp2
            go_quiet (fail)
            go_wp2
            exact bodyPost_ret (v := .tuple #[.int .i64 (s - b), .bool (decide (s - b < (n : Int)))]) (by simp [results, Try.results57, go_sem]) rfl ⟨s - b, _, rfl, HE.out, fun h => rfl, pw_below_drewN hB _⟩
          · have t7 := decide_eq_false c7
            go_enter Try.func57, Try.ntmps57
            go_wp2
            go_quiet (fail)
            go_wp2
            exact bodyPost_ret (v := .tuple #[.int .i64 (s - b), .bool (decide (s - b < (n : Int)))]) (by simp [results, Try.results57, go_sem]) rfl ⟨s - b, _, rfl, HE.out, fun h => rfl, pw_below_drewN hB _⟩
  · have c1' : (a == v) = false := by simpa using c1
    go_enter Try.func57, Try.ntmps57
    go_wp2
    exact bodyPost_ret (v := .tuple #[.int .i64 0, .bool false]) (by simp [results, Try.results57, go_sem]) rfl ⟨0, false, rfl, (holdsB_no (by omega)).symm, (fun h => by rw [holdsB_no (by omega)] at h; cases h), hB⟩

theorem Blk.eight {w : World} {g : Nat} {t : TypeId} {a b c d e f h i : Value} (hb : Blk w g t #[a, b, c, d, e, f, h, i]) :
    w.frozen? ⟨g, 0, none⟩ = false ∧ w.frozen? ⟨g, 1, none⟩ = false ∧ w.frozen? ⟨g, 2, none⟩ = false ∧ w.frozen? ⟨g, 3, none⟩ = false ∧ w.frozen? ⟨g, 4, none⟩ = false ∧ w.frozen? ⟨g, 5, none⟩ = false ∧ w.frozen? ⟨g, 6, none⟩ = false ∧ w.frozen? ⟨g, 7, none⟩ = false ∧
    w.cell? ⟨g, 0, none⟩ = some a ∧ w.cell? ⟨g, 1, none⟩ = some b ∧ w.cell? ⟨g, 2, none⟩ = some c ∧ w.cell? ⟨g, 3, none⟩ = some d ∧ w.cell? ⟨g, 4, none⟩ = some e ∧ w.cell? ⟨g, 5, none⟩ = some f ∧ w.cell? ⟨g, 6, none⟩ = some h ∧ w.cell? ⟨g, 7, none⟩ = some i :=
  ⟨hb.frozen 0, hb.frozen 1, hb.frozen 2, hb.frozen 3, hb.frozen 4, hb.frozen 5, hb.frozen 6, hb.frozen 7, hb.cell 0, hb.cell 1, hb.cell 2, hb.cell 3, hb.cell 4, hb.cell 5, hb.cell 6, hb.cell 7⟩
def secV (s : Sec) : Value := .agg #[.int .u8 s.b0, .int .u8 s.b1, .int .u8 s.b2, .int .u8 s.b3, .int .u8 s.b4, .int .u8 s.b5, .int .u8 s.b6, .int .u8 s.b7]
def LookRet (l : List Wr) (v s : Int) (w : World) (e : Ending) (w' : World) : Prop :=
  ∃ ok, e = .returned (.tuple #[secV ((eff l v s).getD Sec.zero), .bool ok]) ∧ ok = (eff l v s).isSome ∧ Below w.heap.size w w'
theorem holdsB_at {x : Wr} {v s : Int} : holdsB x.vol x.start x.data.length v s = (x.at? v s).isSome := by
  rw [Bool.eq_iff_iff, at?_isSome]; simp [holdsB]
set_option maxHeartbeats 4000000 in
theorem lookupR_any (v : Value) (l : List Wr) (vol s : Int) (w : World) (S : Nat → Prop) (h : RWrs w S v l) (h3 : In64 vol) (h4 : In64 s) :
    Calls Try.prog 28 #[v, .int .i64 vol, .int .i64 s] w (LookRet l vol s w) := by
  obtain ⟨A, cap, rfl, hcap, hm⟩ := h.val
  unfold maxLen at hm
  go_enter Try.func28, Try.ntmps28
  go_wp2
  have hblk : Blk (w.alloc (.cells #[.int .u8 0, .int .u8 0, .int .u8 0, .int .u8 0, .int .u8 0, .int .u8 0, .int .u8 0, .int .u8 0] 53)) w.heap.size 53 #[.int .u8 0, .int .u8 0, .int .u8 0, .int .u8 0, .int .u8 0, .int .u8 0, .int .u8 0, .int .u8 0] := Blk.new _ _ _
  have hbel := (Below.refl w.heap.size w).alloc (Nat.le_refl _) (.cells #[.int .u8 0, .int .u8 0, .int .u8 0, .int .u8 0, .int .u8 0, .int .u8 0, .int .u8 0, .int .u8 0] 53)
  go_loopw [8] (fun i wr => ∃ k : Nat, k ≤ l.length ∧ i = .int .i64 ((k : Int) - 1) ∧ eff l vol s = eff (l.take k) vol s ∧ Blk wr w.heap.size 53 #[.int .u8 0, .int .u8 0, .int .u8 0, .int .u8 0, .int .u8 0, .int .u8 0, .int .u8 0, .int .u8 0] ∧ Below w.heap.size w wr) (fun i _ => (intOf i + 1).toNat)
  case atStart => exact ⟨l.length, by omega, by go_num, by rw [List.take_length], hblk, hbel⟩
  case round =>
    clear hblk hbel
    obtain ⟨k, hk, rfl, hE, hbk, hb⟩ := hrel
    have hbs := hb.size
    rcases k with _ | k
    · have he : eff l vol s = none := by rw [hE]; rfl
      obtain ⟨f0, f1, f2, f3, f4, f5, f6, f7, _⟩ := Blk.eight hbk
      clear hE
      have t1 : decide ((0 : Int) ≤ ((0 : Nat) : Int) - 1) = false := by decide
      go_wp2
      have e1 := (((((((hbk.set_ 0 (.int .u8 0)).set_ 1 (.int .u8 0)).set_ 2 (.int .u8 0)).set_ 3 (.int .u8 0)).set_ 4 (.int .u8 0)).set_ 5 (.int .u8 0)).set_ 6 (.int .u8 0)).set_ 7 (.int .u8 0)
      have g8 := ((((((((grown_setCell wr ⟨w.heap.size, 0, none⟩ (.int .u8 0)).andThen (grown_setCell _ ⟨w.heap.size, 1, none⟩ (.int .u8 0)) (fun j e => .inr e)).andThen (grown_setCell _ ⟨w.heap.size, 2, none⟩ (.int .u8 0)) (fun j e => .inr e)).andThen (grown_setCell _ ⟨w.heap.size, 3, none⟩ (.int .u8 0)) (fun j e => .inr e)).andThen (grown_setCell _ ⟨w.heap.size, 4, none⟩ (.int .u8 0)) (fun j e => .inr e)).andThen (grown_setCell _ ⟨w.heap.size, 5, none⟩ (.int .u8 0)) (fun j e => .inr e)).andThen (grown_setCell _ ⟨w.heap.size, 6, none⟩ (.int .u8 0)) (fun j e => .inr e)).andThen (grown_setCell _ ⟨w.heap.size, 7, none⟩ (.int .u8 0)) (fun j e => .inr e))
      have hB := hb.grown g8 hbs (fun j e => by injection e with e; subst e; simp)
      simp at e1
      generalize ((((((((wr.setCell ⟨w.heap.size, 0, none⟩ (.int .u8 0)).setCell ⟨w.heap.size, 1, none⟩ (.int .u8 0)).setCell ⟨w.heap.size, 2, none⟩ (.int .u8 0)).setCell ⟨w.heap.size, 3, none⟩ (.int .u8 0)).setCell ⟨w.heap.size, 4, none⟩ (.int .u8 0)).setCell ⟨w.heap.size, 5, none⟩ (.int .u8 0)).setCell ⟨w.heap.size, 6, none⟩ (.int .u8 0)).setCell ⟨w.heap.size, 7, none⟩ (.int .u8 0)) = w9 at e1 hB ⊢
      obtain ⟨_, _, _, _, _, _, _, _, a0, a1, a2, a3, a4, a5, a6, a7⟩ := Blk.eight e1
      refine bodyPost_ret (v := .tuple #[secV Sec.zero, .bool false]) (by simp [results, Try.results28, go_sem, a0, a1, a2, a3, a4, a5, a6, a7, secV, Sec.zero]) rfl ⟨false, by rw [he]; rfl, by rw [he]; rfl, hB⟩
    · obtain ⟨x, hx⟩ : ∃ x, l[k]? = some x := ⟨_, List.getElem?_eq_getElem (by omega)⟩
      obtain ⟨b, off, cs, rfl, hbl, _, hl, hc, hr⟩ := h.at_ hx
      obtain ⟨hv64, hs64, dv, rfl, hd⟩ := hr
      obtain ⟨Ad, dcap, rfl, hdc, hdm⟩ := hd.val
      unfold maxLen at hdm
      have c0 := (hb.cell (p := ⟨b, off + k * 3 + 0, none⟩) hbl).trans (hc 0 (by omega))
      have c1 := (hb.cell (p := ⟨b, off + k * 3 + 1, none⟩) hbl).trans (hc 1 (by omega))
      have c2 := (hb.cell (p := ⟨b, off + k * 3 + 2, none⟩) hbl).trans (hc 2 (by omega))
      have C2 := Lib.hid (hc 2 (by omega))
      clear hc hl
      simp at c0 c1 c2
      have ek : ((k + 1 : Nat) : Int) - 1 = k := by omega
      rw [ek]
      rw [eff_take hx] at hE
      have t1 : decide ((0 : Int) ≤ (k : Int)) = true := by simp
      cases hq : (x.at? vol s) with
      | none =>
        have hno : holdsB x.vol x.start x.data.length vol s = false := by rw [holdsB_at, hq]; rfl
        rw [hq, Option.none_or] at hE
        have HE := Lib.hid hE
        clear hE hq
        go_wp2_with (first | (go_at_call 57; refine (holds_any x.vol x.start Ad x.data.length dcap vol s wr (by omega) hv64 hs64 h3 h4).mono ?_; rintro e w1 ⟨m, ok, rfl, hok, _, hb1⟩; rw [hno] at hok; subst hok))
        go_roundw
        case rel => exact ⟨k, by omega, by go_num, HE.out, hbk.below hb1, below_then hb hbs hb1⟩
        case measure => simp [intOf]
      | some y =>
        have hyes : holdsB x.vol x.start x.data.length vol s = true := by rw [holdsB_at, hq]; rfl
        have hcnd : x.vol = vol ∧ x.start ≤ s ∧ s < x.start + x.data.length := of_decide_eq_true hyes
        obtain ⟨j, hj⟩ := Int.eq_ofNat_of_zero_le (show 0 ≤ s - x.start by omega)
        have hjl : j < x.data.length := by omega
        rw [hq, Option.some_or] at hE
        have hy : x.data[j]? = some y := by
          rw [at?_some_of hcnd, hj] at hq
          injection hq with hq
          rw [← hq]
          simp [List.getD_eq_getElem?_getD, hjl]
        obtain ⟨b2, off2, cs2, rfl, hbl2, _, hl2, hc2, rfl⟩ := hd.at_ hy
        have hD : ∀ W, Below w.heap.size w W → W.cell? ⟨b2, off2 + j * 8, none⟩ = some (.int .u8 y.b0) ∧ W.cell? ⟨b2, off2 + j * 8 + 1, none⟩ = some (.int .u8 y.b1) ∧ W.cell? ⟨b2, off2 + j * 8 + 2, none⟩ = some (.int .u8 y.b2) ∧ W.cell? ⟨b2, off2 + j * 8 + 3, none⟩ = some (.int .u8 y.b3) ∧ W.cell? ⟨b2, off2 + j * 8 + 4, none⟩ = some (.int .u8 y.b4) ∧ W.cell? ⟨b2, off2 + j * 8 + 5, none⟩ = some (.int .u8 y.b5) ∧ W.cell? ⟨b2, off2 + j * 8 + 6, none⟩ = some (.int .u8 y.b6) ∧ W.cell? ⟨b2, off2 + j * 8 + 7, none⟩ = some (.int .u8 y.b7) := fun W hW =>
          ⟨(hW.cell hbl2).trans (hc2 0 (by omega)), (hW.cell hbl2).trans (hc2 1 (by omega)), (hW.cell hbl2).trans (hc2 2 (by omega)), (hW.cell hbl2).trans (hc2 3 (by omega)), (hW.cell hbl2).trans (hc2 4 (by omega)), (hW.cell hbl2).trans (hc2 5 (by omega)), (hW.cell hbl2).trans (hc2 6 (by omega)), (hW.cell hbl2).trans (hc2 7 (by omega))⟩
        clear hc2 hl2
        have HE := Lib.hid hE
        have HJ := Lib.hid hj
        clear hE hq hcnd hj
        go_wp2_with (first | (go_at_call 57; refine (holds_any x.vol x.start (some ⟨b2, off2, none⟩) x.data.length dcap vol s wr (by omega) hv64 hs64 h3 h4).mono ?_; rintro e w1 ⟨m, ok, rfl, hok, hmm, hb1⟩; rw [hyes] at hok; subst hok; rw [HJ.out] at hmm; obtain rfl := hmm hyes; have hbk1 := hbk.below hb1; have HB := below_then hb hbs hb1; obtain ⟨d0, d1, d2, d3, d4, d5, d6, d7⟩ := hD w1 HB; have q2 := (HB.cell (p := ⟨b, off + k * 3 + 2, none⟩) hbl).trans C2.out; obtain ⟨f0, f1, f2, f3, f4, f5, f6, f7, _⟩ := Blk.eight hbk1))
        have e1 := (((((((hbk1.set_ 0 (.int .u8 y.b0)).set_ 1 (.int .u8 y.b1)).set_ 2 (.int .u8 y.b2)).set_ 3 (.int .u8 y.b3)).set_ 4 (.int .u8 y.b4)).set_ 5 (.int .u8 y.b5)).set_ 6 (.int .u8 y.b6)).set_ 7 (.int .u8 y.b7)
        have g8 := ((((((((grown_setCell w1 ⟨w.heap.size, 0, none⟩ (.int .u8 y.b0)).andThen (grown_setCell _ ⟨w.heap.size, 1, none⟩ (.int .u8 y.b1)) (fun j e => .inr e)).andThen (grown_setCell _ ⟨w.heap.size, 2, none⟩ (.int .u8 y.b2)) (fun j e => .inr e)).andThen (grown_setCell _ ⟨w.heap.size, 3, none⟩ (.int .u8 y.b3)) (fun j e => .inr e)).andThen (grown_setCell _ ⟨w.heap.size, 4, none⟩ (.int .u8 y.b4)) (fun j e => .inr e)).andThen (grown_setCell _ ⟨w.heap.size, 5, none⟩ (.int .u8 y.b5)) (fun j e => .inr e)).andThen (grown_setCell _ ⟨w.heap.size, 6, none⟩ (.int .u8 y.b6)) (fun j e => .inr e)).andThen (grown_setCell _ ⟨w.heap.size, 7, none⟩ (.int .u8 y.b7)) (fun j e => .inr e))
        have hB := HB.grown g8 HB.size (fun j e => by injection e with e; subst e; simp)
        simp at e1
        generalize ((((((((w1.setCell ⟨w.heap.size, 0, none⟩ (.int .u8 y.b0)).setCell ⟨w.heap.size, 1, none⟩ (.int .u8 y.b1)).setCell ⟨w.heap.size, 2, none⟩ (.int .u8 y.b2)).setCell ⟨w.heap.size, 3, none⟩ (.int .u8 y.b3)).setCell ⟨w.heap.size, 4, none⟩ (.int .u8 y.b4)).setCell ⟨w.heap.size, 5, none⟩ (.int .u8 y.b5)).setCell ⟨w.heap.size, 6, none⟩ (.int .u8 y.b6)).setCell ⟨w.heap.size, 7, none⟩ (.int .u8 y.b7)) = w9 at e1 hB ⊢
        obtain ⟨_, _, _, _, _, _, _, _, a0, a1, a2, a3, a4, a5, a6, a7⟩ := Blk.eight e1
        refine bodyPost_ret (v := .tuple #[secV y, .bool true]) (by simp [results, Try.results28, go_sem, a0, a1, a2, a3, a4, a5, a6, a7, secV]) rfl ⟨true, by rw [HE.out]; rfl, by rw [HE.out]; rfl, hB⟩
end Go.Proofs.Ytoifinmcoldidaa
