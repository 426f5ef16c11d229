import Derived.Test.YtoifinmcoldidaaC12
set_option maxRecDepth 100000
set_option linter.unusedVariables false
set_option linter.unusedSimpArgs false
namespace Go.Proofs.Ytoifinmcoldidaa
open Go.RowKit Go.Mm Sb

/-! ### Restrict -/
def resF (l : List Wr) (vol : Int) (keep : List Ext) : SLoc → Option Sec := fun p => if p.1 = vol ∧ memC keep p.2 = true then effP l p else none
def restrictR (l : List Wr) (vol : Int) (keep : List Ext) : List Wr := if chkI plI none l = 0 then canonOf (fun v s => resF l vol keep (v, s)) else []
/-- The part of the effects that has come. -/
def resG (l : List Wr) (vol : Int) (keep : List Ext) (done : List SLoc) : SLoc → Option Sec := fun p => if p ∈ done then resF l vol keep p else none
theorem resG_nil {l : List Wr} {vol : Int} {keep : List Ext} : resG l vol keep [] = fun _ => none := by funext p; simp [resG]
theorem resG_yes {l : List Wr} {vol : Int} {keep : List Ext} {done : List SLoc} {p : SLoc} {y : Sec} (h1 : p.1 = vol) (h2 : memC keep p.2 = true) (hy : effP l p = some y) : upd (resG l vol keep done) p y = resG l vol keep (done ++ [p]) := by
  funext q
  unfold upd resG
  by_cases e : q = p
  · subst e; simp [resF, h1, h2, hy]
  · simp [e]
theorem resG_no {l : List Wr} {vol : Int} {keep : List Ext} {done : List SLoc} {p : SLoc} (h : ¬ (p.1 = vol ∧ memC keep p.2 = true)) : resG l vol keep done = resG l vol keep (done ++ [p]) := by
  funext q
  unfold resG
  by_cases e : q = p
  · subst e; simp [resF, h]
  · simp [e]
theorem resG_all {l : List Wr} {vol : Int} {keep : List Ext} {done : List SLoc} (h : ∀ p, (effP l p).isSome = true → p ∈ done) : resG l vol keep done = resF l vol keep := by
  funext q
  unfold resG
  split
  · rfl
  · rename_i hq
    unfold resF
    split
    · cases he : effP l q with
      | none => rfl
      | some y => exact absurd (h q (by rw [he]; rfl)) hq
    · rfl
theorem resF_bounded {l : List Wr} {vol : Int} {keep : List Ext} (h : AllPlaced l) : Bounded (fun v s => resF l vol keep (v, s)) := fun v s hh => by
  show (if v = vol ∧ memC keep s = true then effP l (v, s) else none) = none
  split
  · exact eff_bounded h v s hh
  · rfl
set_option maxHeartbeats 4000000 in
theorem restrict_any (v vk : Value) (l : List Wr) (vol : Int) (keep : List Ext) (w : World) (S : Nat → Prop) (h : RWrs w S v l) (hk : RExts w S vk keep) (hsz : secN l ≤ 1000000000000) :
    Calls Try.prog 22 #[v, .int .i64 vol, vk] w (RetWrsE (restrictR l vol keep) (chkI plI none l) w) := by
  have hmm := @run_makeMap Try.prog
  by_cases hc : chkI plI none l = 0
  · have hap := chk_placed hc
    have heb := eff_bounded hap
    have HEB := Lib.hid (resF_bounded (vol := vol) (keep := keep) hap)
    go_enter Try.func22, Try.ntmps22
    go_wp2_with (first | (go_at_call 44; refine (check_any _ l _ S h).mono ?_; rintro e w1 ⟨rfl, hB1⟩; rw [hc]) | (go_at_call 38; refine (effect_any _ l _ S (h.below (hB1.alloc hB1.size _)) hap hsz).mono ?_; rintro e w2 ⟨mb, ks, rfl, hmap, hmb, hb2⟩) | (at_range; refine wpList_rangeMap (K := kPl) (encV := encS) _ rfl _ 71 rfl 53 Try.underlying71 mb (secN l) (effP l) ks rfl hmap ?_; intro w3 hr3 hg3 hs3))
    go_frame
    have hm2 := ((MapIs.made (K := kPl) (encV := encS) w1).below hb2).kept hg3 (by simp)
    have hB3 : Below w.heap.size w w3 := (below_then (hB1.alloc hB1.size _) (by have := hB1.size; simp; omega) hb2).grown hg3 (by have := hB1.size; have := hb2.size; simp at this; omega) (by simp)
    have hB1s := hB1.size
    have hb2s := hb2.size
    simp at hb2s hmb
    have hks : ∀ p, p ∈ ks ↔ (effP l p).isSome = true := by obtain ⟨D, _, hr⟩ := hmap; exact hr.mem
    have hkl : ks.length ≤ secN l := (hmap.len (t := 71) Try.underlying71 3).2
    obtain ⟨r, hr⟩ : ∃ r, r = w2.heap.size := ⟨_, rfl⟩
    rw [← hr] at hr3 ⊢
    obtain ⟨m2, hm2e⟩ : ∃ m2, m2 = w1.heap.size := ⟨_, rfl⟩
    rw [← hm2e] at hm2 ⊢
    have hrm : m2 < r := by omega
    have hmm2 : m2 < mb := by omega
    have hm2w : w.heap.size ≤ m2 := by omega
    have hrw : w.heap.size ≤ r := by omega
    have HKS := Lib.hid hks
    clear hr hm2e
    clear hmap hg3 hs3 hks
    go_loopw [] (fun wr => ∃ done ks2 n2, n2 ≤ done.length ∧ RangeIs kPl encS wr mb r (secN l) (effP l) ks done ∧ MapIs kPl encS wr m2 n2 (resG l vol keep done) ks2 ∧ Below w.heap.size w wr) (fun wr => wr.rangeLeft mb r)
    case atStart => exact ⟨[], [], 0, Nat.le_refl _, hr3, by rw [resG_nil]; exact hm2, hB3⟩
    case round =>
      obtain ⟨done, ks2, n2, hn2, hrg, hm, hb⟩ := hrel
      have hnd := hrg.nodup
      have hsome := hrg.isSome
      have hdl : done.length ≤ ks.length := nodup_len hnd fun p hp => (HKS.out p).2 (hsome p hp)
      clear hr3 hm2 hB3
      go_wp2_with (at_next; refine wpList_nextMap (K := kPl) (encV := encS) _ rfl _ rfl mb r (secN l) (effP l) ks done rfl hrg ?_ ?_)
      · intro hall
        clear hsome hnd
        rw [resG_all (fun p => hall p.1 p.2)] at hm
        have hcan := canonical_any m2 n2 (resF l vol keep) ks2 wr hm HEB.out (by omega)
        clear hm hrg
        go_wp2_with (first | (go_at_call 39; refine hcan.mono ?_; rintro e w5 ⟨v5, rfl, hv5, hb5⟩))
        refine bodyPost_ret (v := .tuple #[v5, .int .i64 (chkI plI none l)]) (by simp [results, Try.results22, go_sem, hc]) rfl ⟨_, rfl, ?_, below_then hb hb.size hb5⟩
        have hbs := hb.size
        unfold restrictR
        rw [if_pos hc]
        exact hv5.more fun b _ hbb => by omega
      · intro pa pb y w5 hp hfx hnot hrg2 hlt2 hg2 hs2 hen
        have hrm2 : some m2 ≠ some r := by intro e; injection e with e; omega
        have hm5 := hm.kept hg2 hrm2
        have hb5 : Below w.heap.size w w5 := hb.grown hg2 hb.size (by intro j e; injection e with e; omega)
        have hb5s := hb5.size
        have hrl := hrg2.lt
        have hmbl := hrg2.owns.lt
        have hml := hm5.lt
        have HRG := Lib.hid hrg2
        have HLT := Lib.hid hlt2
        have HM := Lib.hid hm5
        have HF := Lib.hid hfx
        have HP := Lib.hid hp
        clear hrg hrg2 hlt2 hm hm5 hsome hnd hs2 hfx hnot hp
        simp only [kPl_enc, encS_eq] at hen ⊢
        have hb7 := (hb5.alloc hb5s (.cells #[.int .i64 pa, .int .i64 pb] 85)).alloc (by simp; omega) (.cells #[.int .u8 y.b0, .int .u8 y.b1, .int .u8 y.b2, .int .u8 y.b3, .int .u8 y.b4, .int .u8 y.b5, .int .u8 y.b6, .int .u8 y.b7] 53)
        have hm7 := (HM.out.alloc (.cells #[.int .i64 pa, .int .i64 pb] 85)).alloc (.cells #[.int .u8 y.b0, .int .u8 y.b1, .int .u8 y.b2, .int .u8 y.b3, .int .u8 y.b4, .int .u8 y.b5, .int .u8 y.b6, .int .u8 y.b7] 53)
        have HM7 := Lib.hid hm7
        clear hm7
        have hP := (Blk.new w5 85 #[.int .i64 pa, .int .i64 pb]).alloc (.cells #[.int .u8 y.b0, .int .u8 y.b1, .int .u8 y.b2, .int .u8 y.b3, .int .u8 y.b4, .int .u8 y.b5, .int .u8 y.b6, .int .u8 y.b7] 53)
        have hS := Blk.new (w5.alloc (.cells #[.int .i64 pa, .int .i64 pb] 85)) 53 #[.int .u8 y.b0, .int .u8 y.b1, .int .u8 y.b2, .int .u8 y.b3, .int .u8 y.b4, .int .u8 y.b5, .int .u8 y.b6, .int .u8 y.b7]
        rw [World.size_alloc] at hS
        have HPS := Lib.hid (And.intro hP hS)
        clear hP hS
        have hb7s := hb7.size
        simp at hb7s
        by_cases hv : pa = vol
        · subst hv
          cases hq : memC keep pb with
          | true =>
            go_wp2_with (first | (go_at_call 32; refine (contains_any vk keep pb _ S (hk.below hb7)).mono ?_; rintro e w8 ⟨rfl, hb8⟩; rw [hq]; have hP8 := HPS.out.1.below hb8; have hS8 := HPS.out.2.below hb8; obtain ⟨p0, p1, p2, p3⟩ := hP8.two; have s0 := hS8.cell 0; have s1 := hS8.cell 1; have s2 := hS8.cell 2; have s3 := hS8.cell 3; have s4 := hS8.cell 4; have s5 := hS8.cell 5; have s6 := hS8.cell 6; have s7 := hS8.cell 7; simp at s0 s1 s2 s3 s4 s5 s6 s7; have hb8s := hb8.size; simp at hb8s) | (at_mapUpdate; refine wpList_put (K := kPl) (encV := encS) _ rfl _ _ _ 71 rfl 53 Try.underlying71 m2 n2 _ ks2 rfl (HM7.out.below hb8) (by unfold maxLen; omega) (pa, pb) HP.out y rfl rfl ?_; intro w9 hm9 hg9; go_simp))
            go_roundw
            case rel =>
              refine ⟨done ++ [(pa, pb)], addKey ks2 (pa, pb), n2 + 1, by simp; omega, ?_, ?_, ?_⟩
              · exact (((HRG.out.alloc _).alloc _).kept (grown_below hb8 none) (by simp) (by simp)).kept hg9 (by intro e; injection e with e; omega) (by intro e; injection e with e; omega)
              · rw [resG_yes (p := (pa, pb)) rfl hq HF.out] at hm9
                exact hm9
              · exact (below_then hb7 (by simp; omega) hb8).grown hg9 (by omega) (by intro j e; injection e with e; omega)
            case measure =>
              rw [rangeLeft_kept hg9 (by omega) (by omega) (by intro e; injection e with e; omega) (by intro e; injection e with e; omega), rangeLeft_kept (grown_below hb8 none) (by simp; omega) (by simp; omega) (by simp) (by simp), rangeLeft_kept (World.grownBy_alloc _ _ none) (by simp; omega) (by simp; omega) (by simp) (by simp), rangeLeft_kept (World.grownBy_alloc w5 _ none) (by omega) hrl (by simp) (by simp)]
              exact HLT.out
          | false =>
            go_wp2_with (first | (go_at_call 32; refine (contains_any vk keep pb _ S (hk.below hb7)).mono ?_; rintro e w8 ⟨rfl, hb8⟩; rw [hq]))
            go_roundw
            case rel =>
              refine ⟨done ++ [(pa, pb)], ks2, n2, by simp; omega, ((HRG.out.alloc _).alloc _).kept (grown_below hb8 none) (by simp) (by simp), ?_, below_then hb7 (by simp; omega) hb8⟩
              rw [← resG_no (p := (pa, pb)) (fun hh => by simp [hq] at hh)]
              exact HM7.out.below hb8
            case measure =>
              rw [rangeLeft_kept (grown_below hb8 none) (by simp; omega) (by simp; omega) (by simp) (by simp), rangeLeft_kept (World.grownBy_alloc _ _ none) (by simp; omega) (by simp; omega) (by simp) (by simp), rangeLeft_kept (World.grownBy_alloc w5 _ none) (by omega) hrl (by simp) (by simp)]
              exact HLT.out
        · have t1 : (pa == vol) = false := by simpa using hv
          go_wp2
          go_roundw
          case rel =>
            refine ⟨done ++ [(pa, pb)], ks2, n2, by simp; omega, (HRG.out.alloc _).alloc _, ?_, hb7⟩
            rw [← resG_no (p := (pa, pb)) (fun hh => hv hh.1)]
            exact HM7.out
          case measure =>
            rw [rangeLeft_kept (World.grownBy_alloc _ _ none) (by simp; omega) (by simp; omega) (by simp) (by simp), rangeLeft_kept (World.grownBy_alloc w5 _ none) (by omega) hrl (by simp) (by simp)]
            exact HLT.out
  · go_enter Try.func22, Try.ntmps22
    go_wp2_with (first | (go_at_call 44; refine (check_any _ l _ S h).mono ?_; rintro e w1 ⟨rfl, hB1⟩))
    refine bodyPost_ret (v := .tuple #[.slice none 0 0, .int .i64 (chkI plI none l)]) (by simp [results, Try.results22, go_sem]) rfl ⟨_, rfl, ?_, hB1⟩
    unfold restrictR
    rw [if_neg hc]
    exact RSl.nil _ _
end Go.Proofs.Ytoifinmcoldidaa
