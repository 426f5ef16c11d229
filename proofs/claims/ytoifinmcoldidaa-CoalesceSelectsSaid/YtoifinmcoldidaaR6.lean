import Derived.Test.YtoifinmcoldidaaR5
import Derived.Test.YtoifinmcoldidaaC8
set_option maxRecDepth 100000
set_option linter.unusedVariables false
set_option linter.unusedSimpArgs false
namespace Go.Proofs.Ytoifinmcoldidaa
open Go.RowKit Go.Mm Sb

/-! ### the reference: Fold -/
theorem fits8 (a b : Int) (n : Nat) : fitsI sizes8 a b n = placedI a b n := by
  unfold fitsI placedI sizes8
  by_cases h1 : a < 0 ∨ 8 ≤ a
  · rw [if_pos (by simpa using h1), if_pos h1]
  · rw [if_neg (by simpa using h1), if_neg h1]
    have e : (List.replicate 8 (4096 : Int)).getD a.toNat 0 = 4096 := by
      rw [List.getD_eq_getElem?_getD, List.getElem?_replicate, if_pos (by omega)]; rfl
    rw [e]
    by_cases h2 : n = 0
    · rw [if_pos h2, if_pos h2]
    · rw [if_neg h2, if_neg h2]
      by_cases h3 : b < 0 ∨ 4096 - (n : Int) < b
      · rw [if_pos h3, if_pos (by omega)]
      · rw [if_neg h3, if_neg (by omega)]
theorem sizes8_ok : ∀ x ∈ sizes8, 0 ≤ x ∧ x ≤ 4096 := fun x hx => by
  have := List.eq_of_mem_replicate hx; omega
theorem refK_len (l : List Wr) (k : Nat) : (refK l k).length ≤ k * 4096 := by
  induction k with
  | zero => simp [refK_zero]
  | succ k ih =>
    rw [refK_succ, List.length_append, pickW_len]
    have := runs_len (markedBy l (k : Nat)) 4096
    omega
set_option maxHeartbeats 8000000 in
theorem refFold_any (v : Value) (l : List Wr) (w : World) (S : Nat → Prop) (h : RWrs w S v l) :
    Calls Try.prog 15 #[v] w (RetWrsE (foldR l) (foldI l) w) := by
  obtain ⟨A, cap, rfl, hcap, hm⟩ := h.val
  unfold maxLen at hm
  go_enter Try.func15, Try.ntmps15
  go_wp2
  go_loopw [4] (fun i wr => ∃ k : Nat, k ≤ l.length ∧ i = .int .i64 k ∧ foldI l = foldI (l.drop k) ∧ Below w.heap.size w wr) (fun i _ => l.length - (intOf i).toNat)
  case atStart => exact ⟨0, Nat.zero_le _, rfl, rfl, Below.refl _ _⟩
  case round =>
    obtain ⟨k, hk, rfl, hI, hb⟩ := hrel
    have hbs := hb.size
    by_cases hlt : k < l.length
    · obtain ⟨x, hx⟩ : ∃ x, l[k]? = some x := ⟨_, List.getElem?_eq_getElem hlt⟩
      obtain ⟨b, off, cs, rfl, hbl, _, hl, hc, hr⟩ := h.at_ hx
      obtain ⟨hv64, hs64, dv, rfl, hd⟩ := hr
      obtain ⟨Ad, dcap, rfl, hdc, hdm⟩ := hd.val
      unfold maxLen at hdm
      have hD : ∀ W, Below w.heap.size w W → Below w.heap.size w W ∧ W.cell? ⟨b, off + k * 3, none⟩ = some (.int .i64 x.vol) ∧ W.cell? ⟨b, off + k * 3 + 1, none⟩ = some (.int .i64 x.start) ∧ W.cell? ⟨b, off + k * 3 + 2, none⟩ = some (.slice Ad x.data.length dcap) := fun W hW =>
        ⟨hW, (hW.cell hbl).trans (hc 0 (by omega)), (hW.cell hbl).trans (hc 1 (by omega)), (hW.cell hbl).trans (hc 2 (by omega))⟩
      have hdr : Below w.heap.size w wr.drew := hb.drew
      have hds := hdr.size
      clear hc hl
      have HI := Lib.hid hI
      have HX := Lib.hid hx
      have hpl := fits8 x.vol x.start x.data.length
      clear hI hx
      by_cases hz : placedI x.vol x.start x.data.length = 0
      · rw [hz] at hpl
        go_wp2_with fail
        go_region_held3 (fun W => Below w.heap.size w W ∧ W.cell? ⟨b, off + k * 3, none⟩ = some (.int .i64 x.vol) ∧ W.cell? ⟨b, off + k * 3 + 1, none⟩ = some (.int .i64 x.start) ∧ W.cell? ⟨b, off + k * 3 + 2, none⟩ = some (.slice Ad x.data.length dcap))
          (first | (exact hD _ hS2) | (exact hD _ hS1) | (exact hD _ hdr) | assumption | go_keep)
          (first | (go_at_call 41; refine (most_any _).mono ?_; rintro e w1 ⟨v1, rfl, hv1, hb1⟩; have hS1 : Below w.heap.size w w1 := below_then hdr hds hb1) | (go_at_call 40; refine (fitsSizes_any v1 sizes8 x.vol x.start Ad x.data.length dcap _ _ hv1 (by omega) hs64 sizes8_ok).mono ?_; rintro e w2 ⟨rfl, hb2⟩; rw [hpl]; have hS2 : Below w.heap.size w w2 := below_then hS1 hS1.size hb2))
        go_wp2
        go_roundw
        case rel => exact ⟨k + 1, by omega, by go_num, by rw [HI.out, foldI_step HX.out, if_pos (show plI x = 0 from hz)], by assumption⟩
        case measure => simp [intOf]; omega
      · have hz' : (placedI x.vol x.start x.data.length != 0) = true := by simpa using hz
        go_wp2_with fail
        go_region_held3 (fun W => Below w.heap.size w W ∧ W.cell? ⟨b, off + k * 3, none⟩ = some (.int .i64 x.vol) ∧ W.cell? ⟨b, off + k * 3 + 1, none⟩ = some (.int .i64 x.start) ∧ W.cell? ⟨b, off + k * 3 + 2, none⟩ = some (.slice Ad x.data.length dcap))
          (first | (exact hD _ hS2) | (exact hD _ hS1) | (exact hD _ hdr) | assumption | go_keep)
          (first | (go_at_call 41; refine (most_any _).mono ?_; rintro e w1 ⟨v1, rfl, hv1, hb1⟩; have hS1 : Below w.heap.size w w1 := below_then hdr hds hb1) | (go_at_call 40; refine (fitsSizes_any v1 sizes8 x.vol x.start Ad x.data.length dcap _ _ hv1 (by omega) hs64 sizes8_ok).mono ?_; rintro e w2 ⟨rfl, hb2⟩; rw [hpl]; have hS2 : Below w.heap.size w w2 := below_then hS1 hS1.size hb2))
        go_wp2
        have hfe : foldI l = placedI x.vol x.start x.data.length := by rw [HI.out, foldI_step HX.out, if_neg (show ¬ plI x = 0 from hz)]; rfl
        refine bodyPost_ret (v := .tuple #[.slice none 0 0, .int .i64 (foldI l)]) (by simp [results, Try.results15, go_sem, hfe]) rfl ⟨_, rfl, ?_, by assumption⟩
        unfold foldR
        rw [if_neg (by rw [hfe]; exact hz)]
        exact RSl.nil _ _
    · obtain rfl : k = l.length := by omega
      have hI0 : foldI l = 0 := by rw [hI, List.drop_length]; rfl
      clear hI
      have HI0 := Lib.hid hI0
      clear hI0
      go_wp2
      go_loopw [6, 7] (fun s i wi => ∃ k : Nat, k ≤ 8 ∧ i = .int .i64 k ∧ OwnSl 35 3 RWr wi w.heap.size (fun b => w.heap.size ≤ b) s (refK l k) ∧ Below w.heap.size w wi) (fun _ i _ => 8 - (intOf i).toNat)
      case atStart => exact ⟨0, Nat.zero_le _, rfl, by rw [refK_zero]; exact OwnSl.nil _, hb⟩
      case round =>
        clear hb hbs
        obtain ⟨k, hk, rfl, hown, hb⟩ := hrel
        have hbs := hb.size
        by_cases hlt : k < 8
        · have h64 : In64 (k : Int) := by unfold In64; omega
          have hll := h.below hb
          have hul := hown.lt
          have hrl := runs_len (markedBy l (k : Nat)) 4096
          have hkl := refK_len l k
          go_wp2_with (first | (go_at_call 30; refine (extents_any _ l (k : Nat) _ S hll).mono ?_; rintro e w1 ⟨v1, rfl, hv1, hb1⟩; have hll1 := hll.below hb1; have hown1 := hown.below hb1; have hbs1 := hb1.size) | (go_at_call 42; refine (pick_any _ v1 l _ (k : Nat) _ S _ hll1 hv1 h64 (runs_bound _ _) hrl).mono ?_; rintro e w2 ⟨v2, rfl, hv2, hb2⟩; have hown2 := hown1.below hb2; have hbs2 := hb2.size; have hrd := hv2.more (T := fun b => w.heap.size ≤ b ∧ some b ≠ u6.ownBlock) (fun b _ hh => ⟨by omega, fun e => by have := (hul b e.symm).2; omega⟩)) | (at_builtin; refine wpList_appendMany rfl _ _ 22 rfl 35 _ 3 40 Try.underlying22 infoW rfl (by decide) RWr RWr.one w.heap.size (fun b => w.heap.size ≤ b) u6 _ rfl hown2 v2 _ rfl hrd (by rw [pickW_len]; omega) (by decide) (by omega) ?_; intro v5 w5 hO5 hg5 hat5))
          go_roundw
          case rel => exact ⟨k + 1, by omega, by go_num, by rw [refK_succ]; exact hO5, (below_then (below_then hb hbs hb1) (by omega) hb2).grown hg5 (by omega) (fun j e => (hul j e).1)⟩
          case measure => simp [intOf]; omega
        · obtain rfl : k = 8 := by omega
          go_wp2
          refine bodyPost_ret (v := .tuple #[_, .int .i64 (foldI l)]) (by simp [results, Try.results15, go_sem, HI0.out]; rfl) rfl ⟨_, rfl, ?_, hb⟩
          unfold foldR
          rw [if_pos HI0.out, ← refK_all]
          exact hown.reads (fun b hb hh => by rcases hh with hh | hh; exact hh; exact (hown.lt b hh.symm).1)
end Go.Proofs.Ytoifinmcoldidaa
