import Derived.Test.YtoifinmcoldidaaC7
set_option maxRecDepth 100000
set_option linter.unusedVariables false
set_option linter.unusedSimpArgs false
namespace Go.Proofs.Ytoifinmcoldidaa
open Go.RowKit Go.Mm Sb

/-! ### Fold -/
def foldI : List Wr → Int
  | [] => 0
  | w :: t => if plI w = 0 then foldI t else plI w
theorem foldI_step {l : List Wr} {k : Nat} {x : Wr} (h : l[k]? = some x) : foldI (l.drop k) = if plI x = 0 then foldI (l.drop (k + 1)) else plI x := by
  obtain ⟨hk, rfl⟩ := List.getElem?_eq_some_iff.1 h
  rw [List.drop_eq_getElem_cons hk]; rfl
theorem plI_placed {w : Wr} (h : plI w = 0) : Placed w := by
  unfold plI placedI at h
  split at h
  · cases h
  · split at h
    · cases h
    · split at h
      · cases h
      · exact ⟨by omega, by omega, (by intro e; simp [e] at *), by omega, by omega⟩
theorem foldI_placed : ∀ {l : List Wr}, foldI l = 0 → AllPlaced l
  | [], _ => by intro w hw; simp at hw
  | x :: t, h => by
    unfold foldI at h
    split at h
    · rename_i hx
      intro w hw
      rcases List.mem_cons.1 hw with rfl | hw
      · exact plI_placed hx
      · exact foldI_placed h w hw
    · rename_i hx; exact absurd h hx
/-- (list, error) -/
def RetWrsE (l : List Wr) (e : Int) (w : World) (en : Ending) (w' : World) : Prop :=
  ∃ v, en = .returned (.tuple #[v, .int .i64 e]) ∧ RWrs w' (fun b => w.heap.size ≤ b) v l ∧ Below w.heap.size w w'
def foldR (l : List Wr) : List Wr := if foldI l = 0 then foldW l else []
theorem secN_wrap (l : List Wr) : True := trivial
set_option maxHeartbeats 2000000 in
theorem fold_any (v : Value) (l : List Wr) (w : World) (S : Nat → Prop) (h : RWrs w S v l) (hsz : secN l ≤ 1000000000000) :
    Calls Try.prog 14 #[v] w (RetWrsE (foldR l) (foldI l) w) := by
  obtain ⟨A, cap, rfl, hcap, hm⟩ := h.val
  unfold maxLen at hm
  go_enter Try.func14, Try.ntmps14
  go_wp2
  go_loopw [9] (fun i wr => ∃ k : Nat, k ≤ l.length ∧ i = .int .i64 k ∧ foldI l = foldI (l.drop k) ∧ (∀ x ∈ l.take k, plI x = 0) ∧ Below w.heap.size w wr) (fun i _ => l.length - (intOf i).toNat)
  case atStart => exact ⟨0, Nat.zero_le _, rfl, rfl, by simp, Below.refl _ _⟩
  case round =>
    obtain ⟨k, hk, rfl, hI, hpr, hb⟩ := hrel
    by_cases hlt : k < l.length
    · obtain ⟨x, hx⟩ : ∃ x, l[k]? = some x := ⟨_, List.getElem?_eq_getElem hlt⟩
      obtain ⟨b, off, cs, rfl, hbl, _, hl, hc, hr⟩ := h.at_ hx
      obtain ⟨hv64, hs64, dv, rfl, hd⟩ := hr
      obtain ⟨Ad, dcap, rfl, hdc, hdm⟩ := hd.val
      unfold maxLen at hdm
      have c0 := (hb.cell (p := ⟨b, off + k * 3 + 0, none⟩) hbl).trans (hc 0 (by omega))
      have c1 := (hb.cell (p := ⟨b, off + k * 3 + 1, none⟩) hbl).trans (hc 1 (by omega))
      have c2 := (hb.cell (p := ⟨b, off + k * 3 + 2, none⟩) hbl).trans (hc 2 (by omega))
      clear hc hl
      simp at c0 c1 c2
      have HI := Lib.hid hI
      have HPR := Lib.hid hpr
      have HX := Lib.hid hx
      clear hI hpr hx
      by_cases hz : placedI x.vol x.start x.data.length = 0
      · go_wp2_with (first | (go_at_call 37; refine (placed_any _ _ _ _ _ _ (by omega)).mono ?_; rintro e w1 ⟨rfl, hb1⟩; rw [hz]))
        go_roundw
        case rel =>
          refine ⟨k + 1, by omega, by go_num, ?_, ?_, below_then (hb.alloc hb.size _) (by have := hb.size; simp; omega) hb1⟩
          · rw [HI.out, foldI_step HX.out, if_pos (show plI x = 0 from hz)]
          · intro y hy
            obtain ⟨hkk, hxx⟩ := List.getElem?_eq_some_iff.1 HX.out
            rw [List.take_succ_eq_append_getElem hkk] at hy
            rcases List.mem_append.1 hy with hy | hy
            · exact HPR.out y hy
            · obtain rfl := List.mem_singleton.1 hy; rw [hxx]; exact hz
        case measure => simp [intOf]; omega
      · go_wp2_with (first | (go_at_call 37; refine (placed_any _ _ _ _ _ _ (by omega)).mono ?_; rintro e w1 ⟨rfl, hb1⟩))
        have hfe : foldI l = placedI x.vol x.start x.data.length := by rw [HI.out, foldI_step HX.out, if_neg (show ¬ plI x = 0 from hz)]; rfl
        refine bodyPost_ret (v := .tuple #[.slice none 0 0, .int .i64 (foldI l)]) (by simp [results, Try.results14, go_sem, hfe]) rfl ⟨_, rfl, ?_, below_then (hb.alloc hb.size _) (by have := hb.size; simp; omega) hb1⟩
        unfold foldR
        rw [if_neg (by rw [hfe]; exact hz)]
        exact RSl.nil _ _
    · obtain rfl : k = l.length := by omega
      have hI0 : foldI l = 0 := by rw [hI, List.drop_length]; rfl
      have hap : AllPlaced l := foldI_placed hI0
      have heb := eff_bounded hap
      have hr0 : canonOf (fun v s => effP l (v, s)) = foldR l := by unfold foldR; rw [if_pos hI0]; rfl
      have HR := Lib.hid hr0
      have HAP := Lib.hid hap
      have HEB := Lib.hid heb
      clear hpr hI hap heb hr0
      have hh := h.below hb
      go_wp2_with (first | (go_at_call 38; refine (effect_any _ l _ S hh HAP.out hsz).mono ?_; rintro e w1 ⟨mb, ks, rfl, hmap, hmb, hb1⟩) | (go_at_call 39; refine (canonical_any _ _ _ ks _ hmap HEB.out hsz).mono ?_; rintro e w2 ⟨v2, rfl, hv2, hb2⟩))
      refine bodyPost_ret (v := .tuple #[v2, .int .i64 (foldI l)]) (by simp [results, Try.results14, go_sem, hI0]) rfl ⟨_, rfl, ?_, ?_⟩
      · have h1 := hb.size
        have h2 := hb1.size
        rw [HR.out] at hv2
        exact hv2.more fun b _ hbb => by omega
      · exact below_then (below_then hb hb.size hb1) (by have := hb.size; have := hb1.size; omega) hb2
end Go.Proofs.Ytoifinmcoldidaa
