import Derived.Test.YtoifinmcoldidaaI1
set_option maxRecDepth 100000
set_option linter.unusedVariables false
set_option linter.unusedSimpArgs false
namespace Go.Proofs.Ytoifinmcoldidaa
open Go.RowKit Go.Mm Sb

/-! ### image: New, sizes -/
abbrev RVol : ERel (List Sec) := fun w S cs xs => ∃ v, cs = [v] ∧ RSl 8 RSec w S v xs
abbrev RImg := RSl 1 RVol
theorem infoV : (Try.prog.info? 33).map (fun i => (i.zero, i.size, i.bytes)) = some (some (.slice none 0 0), 1, 24) := by kernel_rfl
def zeros (n : Int) : List Sec := List.replicate n.toNat Sec.zero
def lens (im : List (List Sec)) : List Int := im.map fun x => (x.length : Int)
theorem zeros_cells (n : Nat) : (madeCells (Value.agg #[.int .u8 0, .int .u8 0, .int .u8 0, .int .u8 0, .int .u8 0, .int .u8 0, .int .u8 0, .int .u8 0]).cells (n * 8)).toList = (List.replicate n (secCells Sec.zero)).flatten := by
  have e : secCells Sec.zero = List.replicate 8 (.int .u8 0) := rfl
  rw [e, List.flatten_replicate_replicate]
  refine List.eq_replicate_iff.2 ⟨by simp [size_madeCells], fun x hx => ?_⟩
  unfold madeCells at hx
  rw [Array.toList_map, List.mem_map] at hx
  obtain ⟨t, _, rfl⟩ := hx
  have ec : (Value.agg #[.int .u8 0, .int .u8 0, .int .u8 0, .int .u8 0, .int .u8 0, .int .u8 0, .int .u8 0, .int .u8 0]).cells = #[.int .u8 0, .int .u8 0, .int .u8 0, .int .u8 0, .int .u8 0, .int .u8 0, .int .u8 0, .int .u8 0] := rfl
  rw [ec]
  have hm : t % 8 < 8 := Nat.mod_lt _ (by decide)
  show (#[Value.int .u8 0, .int .u8 0, .int .u8 0, .int .u8 0, .int .u8 0, .int .u8 0, .int .u8 0, .int .u8 0])[t % 8]! = _
  generalize t % 8 = j at hm
  match j, hm with
  | 0, _ => rfl
  | 1, _ => rfl
  | 2, _ => rfl
  | 3, _ => rfl
  | 4, _ => rfl
  | 5, _ => rfl
  | 6, _ => rfl
  | 7, _ => rfl
theorem newVol_any (n : Nat) (w : World) (hn : n ≤ 4096) :
    Calls Try.prog 75 #[.int .i64 n] w fun e w' => ∃ v, e = .returned v ∧ OwnSl 53 8 RSec w' w.heap.size (fun _ => False) v (List.replicate n Sec.zero) ∧ Below w.heap.size w w' := by
  obtain ⟨i0, hi, hz0, hz1, hz2⟩ := info_parts infoS
  go_enter Try.func75, Try.ntmps75
  go_wp2_with (first | (refine wpList_make_full _ rfl _ _ 33 rfl w.heap.size 53 i0 _ 8 Try.underlying33 hi hz0 hz1 .i64 .i64 (n : Int) (n : Int) n rfl rfl rfl rfl (by rw [hz2]; omega) (by unfold maxLen; omega) (Nat.le_refl _) ?_; intro w1 r1 r2))
  go_ret
  have hB : Below w.heap.size w w1 := ⟨r2.os, r2.tape, r2.output, r2.size, fun i hi => r2.block i hi (by simp)⟩
  refine ⟨_, rfl, ⟨List.replicate n (secCells Sec.zero), ?_, by simp, ?_, ?_⟩, hB⟩
  · rw [← zeros_cells, List.length_replicate]; exact r1
  · intro cs hc
    rw [List.eq_of_mem_replicate hc]; rfl
  · intro j cs x hj hx
    have h1 := List.eq_of_mem_replicate (List.mem_of_getElem? hj)
    have h2 := List.eq_of_mem_replicate (List.mem_of_getElem? hx)
    rw [h1, h2]; rfl
theorem map_take {α β : Type} (f : α → β) {l : List α} {k : Nat} {x : α} (hx : l[k]? = some x) : (l.take (k + 1)).map f = (l.take k).map f ++ [f x] := by
  obtain ⟨hk, rfl⟩ := List.getElem?_eq_some_iff.1 hx
  rw [List.take_succ_eq_append_getElem hk, List.map_append]
  rfl
theorem take_len {α β : Type} (f : α → β) {l : List α} {k : Nat} (hk : k ≤ l.length) : ((l.take k).map f).length = k := by
  rw [List.length_map, List.length_take, Nat.min_eq_left hk]
set_option maxHeartbeats 4000000 in
theorem mappedNew_any (v : Value) (l : List Int) (w : World) (S : Nat → Prop) (h : RInts w S v l) (hl : l.length ≤ 8) (hz : ∀ x ∈ l, 1 ≤ x ∧ x ≤ 4096) :
    Calls Try.prog 74 #[v, .func (.func 75) #[] #[]] w fun e w' => ∃ v', e = .returned v' ∧ RImg w' (fun b => w.heap.size ≤ b) v' (l.map zeros) ∧ Below w.heap.size w w' := by
  obtain ⟨A, cap, rfl, hcap, hm⟩ := h.val
  unfold maxLen at hm
  obtain ⟨i0, hi, hz0, hz1, hz2⟩ := info_parts infoV
  go_enter Try.func74, Try.ntmps74
  go_wp2_with (first | (refine wpList_make_own _ rfl _ _ 59 rfl w.heap.size 33 i0 _ 1 Try.underlying59 hi hz0 hz1 .i64 .i64 (l.length : Int) l.length rfl rfl rfl (by rw [hz2]; omega) (by unfold maxLen; omega) (Nat.le_refl _) ?_; intro w0 r1 r2))
  have hB0 : Below w.heap.size w w0 := ⟨r2.os, r2.tape, r2.output, r2.size, fun i hi => r2.block i hi (by simp)⟩
  have hO0 : OwnSl 33 1 RVol w0 w.heap.size (fun b => w.heap.size ≤ b) (.slice (some ⟨w.heap.size, 0, none⟩) 0 l.length) [] := ⟨[], r1, rfl, by simp, by simp⟩
  clear r1 r2
  go_loopw [5, 13] (fun s i wr => ∃ k : Nat, k ≤ l.length ∧ i = .int .i64 k ∧ OwnSl 33 1 RVol wr w.heap.size (fun b => w.heap.size ≤ b) s ((l.take k).map zeros) ∧ Below w.heap.size w wr) (fun _ i _ => l.length - (intOf i).toNat)
  case atStart => exact ⟨0, Nat.zero_le _, rfl, hO0, hB0⟩
  case round =>
    clear hO0 hB0
    obtain ⟨k, hk, rfl, hown, hb⟩ := hrel
    have hbs := hb.size
    by_cases hlt : k < l.length
    · obtain ⟨x, hx⟩ : ∃ x, l[k]? = some x := ⟨_, List.getElem?_eq_getElem hlt⟩
      obtain ⟨b, off, cs, rfl, hbl, _, hll, hcc, h1, rfl⟩ := h.at_ hx
      have c0 := (hb.cell (p := ⟨b, off + k * 1 + 0, none⟩) hbl).trans (hcc 0 (by omega))
      simp at c0
      clear hcc hll
      have hzx := hz x (List.mem_of_getElem? hx)
      obtain ⟨n, rfl⟩ := Int.eq_ofNat_of_zero_le (show 0 ≤ x by omega)
      have hul := hown.lt
      have htl := take_len zeros hk
      have HX := Lib.hid hx
      clear hx
      go_wp2_with (first | (go_at_call 75; refine (newVol_any n wr (by omega)).mono ?_; rintro e w1 ⟨v1, rfl, hv1, hb1⟩; obtain ⟨A1, c1, hv1e, hc1, hm1⟩ := hv1.val; rw [List.length_replicate] at hv1e; subst hv1e; have hown1 := hown.below hb1; have hbs1 := hb1.size; have hl1 := hv1.lt; have hrd := hv1.reads (T := fun b => w.heap.size ≤ b ∧ some b ≠ u5.ownBlock) (fun b _ hh => by rcases hh with hh | hh; exact hh.elim; exact ⟨by have := (hl1 b hh.symm).1; omega, fun e => by have := (hl1 b hh.symm).1; have := (hul b e.symm).2; omega⟩)) | (at_builtin; refine wpList_appendNew rfl _ _ 59 rfl 33 _ 1 24 Try.underlying59 infoV rfl (by omega) RVol w.heap.size (fun b => w.heap.size ≤ b) u5 _ rfl hown1 #[.slice A1 n c1] (List.replicate n Sec.zero) w1.heap.size rfl rfl rfl (by simp [Value.oneCell']) ⟨_, rfl, hrd⟩ (by rw [htl]; omega) (by omega) (by omega) ?_; intro v5 w5 hO5 hg5 hat5))
      go_roundw
      case rel => exact ⟨k + 1, by omega, by go_num, by rw [map_take zeros HX.out]; exact hO5, (below_then hb hbs hb1).grown hg5 (by omega) (fun j e => (hul j e).1)⟩
      case measure => simp [intOf]; omega
    · obtain rfl : k = l.length := by omega
      rw [List.take_length] at hown
      go_wp2
      go_ret
      exact ⟨_, rfl, hown.reads (fun b hb hh => by rcases hh with hh | hh; exact hh; exact (hown.lt b hh.symm).1), hb⟩
def NewRet (l : List Int) (w : World) (e : Ending) (w' : World) : Prop := ∃ v, e = .returned (.tuple #[v, .int .i64 (sizesI l)]) ∧ RImg w' (fun b => w.heap.size ≤ b) v (if sizesI l = 0 then l.map zeros else []) ∧ Below w.heap.size w w'
theorem new_any (v : Value) (l : List Int) (w : World) (S : Nat → Prop) (h : RInts w S v l) : Calls Try.prog 46 #[v] w (NewRet l w) := by
  by_cases hz : sizesI l = 0
  · have h1 := sizesI_len hz
    have h2 := sizesI_ok hz
    go_enter Try.func46, Try.ntmps46
    go_wp2_with (first | (go_at_call 73; refine (checkSizes_any v l _ S h).mono ?_; rintro e w1 ⟨rfl, hb1⟩; rw [hz]; have h' := h.below hb1) | (go_at_call 74; refine (mappedNew_any v l _ S h' h1.2 h2).mono ?_; rintro e w2 ⟨v2, rfl, hv2, hb2⟩))
    refine bodyPost_ret (v := .tuple #[v2, .int .i64 (sizesI l)]) (by simp [results, Try.results46, go_sem, hz]) rfl ⟨_, rfl, ?_, below_then hb1 hb1.size hb2⟩
    rw [if_pos hz]
    exact hv2.more (fun b _ hh => by have := hb1.size; omega)
  · have hz' : (sizesI l != 0) = true := by simpa using hz
    go_enter Try.func46, Try.ntmps46
    go_wp2_with (first | (go_at_call 73; refine (checkSizes_any v l _ S h).mono ?_; rintro e w1 ⟨rfl, hb1⟩))
    refine bodyPost_ret (v := .tuple #[.slice none 0 0, .int .i64 (sizesI l)]) (by simp [results, Try.results46, go_sem]) rfl ⟨_, rfl, ?_, hb1⟩
    rw [if_neg hz]
    exact RSl.nil _ _
end Go.Proofs.Ytoifinmcoldidaa
