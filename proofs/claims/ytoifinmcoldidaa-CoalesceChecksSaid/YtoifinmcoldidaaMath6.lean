import Derived.Test.YtoifinmcoldidaaMath3
set_option linter.unusedVariables false
namespace Sb

/-! ### sizes of canonical lists; merging -/
def secL (l : List Wr) : Nat := (l.map fun w => w.data.length).sum
theorem canon_bound : ∀ {l : List Wr} {lo : Int}, Canon l → AllPlaced l → 0 ≤ lo → lo ≤ 32776 → (∀ x ∈ l, lo ≤ x.vol * 4097 + x.start) → (secL l : Int) + lo ≤ 32776 ∧ l.length ≤ secL l
  | [], lo, _, _, _, h, _ => ⟨by simp [secL]; omega, by simp⟩
  | w :: l, lo, hc, hp, h0, h, hl => by
    have hw := hp w (by simp)
    have h1 := hl w (by simp)
    have hne := len_pos hw.ne
    have a1 := hw.v0; have a2 := hw.v8; have a3 := hw.s0; have a4 := hw.s4
    have ih := canon_bound (lo := w.vol * 4097 + w.start + w.data.length) hc.tail (fun x hx => hp x (by simp [hx])) (by omega) (by omega) (fun x hx => by
      have hb := hc.head x hx
      have hx := hp x (by simp [hx])
      have := hx.s0
      unfold Behind at hb
      rcases hb with hb | ⟨hb1, hb2⟩
      · omega
      · omega)
    have e : secL (w :: l) = w.data.length + secL l := by simp [secL]
    rw [e]
    simp only [List.length_cons]
    omega
theorem fold_bound {l : List Wr} (h : AllPlaced l) : secL (foldW l) ≤ 32776 ∧ (foldW l).length ≤ 32776 := by
  have := canon_bound (foldW_canon l) (foldW_placed h) (Int.le_refl 0) (by omega) (fun x hx => by have a1 := (foldW_placed h x hx).v0; have a2 := (foldW_placed h x hx).s0; omega)
  omega
theorem foldW_congr {a b : List Wr} (h : eff a = eff b) : foldW a = foldW b := by unfold foldW; rw [h]
theorem eff_app (a b : List Wr) : eff (a ++ b) = fun v s => (eff b v s).or (eff a v s) := by funext v s; exact eff_append a b v s
theorem placed_app {a b : List Wr} (h1 : AllPlaced a) (h2 : AllPlaced b) : AllPlaced (a ++ b) := fun w hw => by
  rcases List.mem_append.1 hw with hw | hw
  · exact h1 w hw
  · exact h2 w hw
theorem merge_fold {a b : List Wr} (ha : AllPlaced a) (hb : AllPlaced b) : foldW (foldW a ++ foldW b) = foldW (a ++ b) :=
  foldW_congr (by rw [eff_app, eff_app, foldW_eff ha, foldW_eff hb])
theorem fold_fold {a : List Wr} (ha : AllPlaced a) : foldW (foldW a) = foldW a := foldW_id (foldW_canon a) (foldW_placed ha)
end Sb
