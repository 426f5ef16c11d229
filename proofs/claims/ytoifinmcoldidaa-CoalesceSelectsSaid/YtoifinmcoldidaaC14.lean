import Derived.Test.YtoifinmcoldidaaC13
set_option maxRecDepth 100000
set_option linter.unusedVariables false
set_option linter.unusedSimpArgs false
namespace Go.Proofs.Ytoifinmcoldidaa
open Go.RowKit Go.Mm Sb

/-! ### write -/
def RByte : ERel Int := fun _ _ cs x => cs = [.int .u8 x]
instance : Steady RByte := ⟨fun h _ => h, fun h _ => h⟩
def sec1 (b : Int) : Sec := ⟨b, 0, 0, 0, 0, 0, 0, 0⟩
theorem RSec.one {w : World} {T : Nat → Prop} {cs : List Value} {x : Sec} (h : RSec w T cs x) : ∀ u ∈ cs, u.oneCell' = true := by
  obtain rfl : cs = secCells x := h
  intro u hu
  simp [secCells] at hu
  rcases hu with rfl | rfl | rfl | rfl | rfl | rfl | rfl | rfl <;> rfl
set_option maxHeartbeats 2000000 in
theorem write_any (vol start : Int) (v : Value) (bs : List Int) (w : World) (S : Nat → Prop) (h : RSl 1 RByte w S v bs) (hn : bs.length ≤ 1000) :
    Calls Try.prog 36 #[.int .i64 vol, .int .i64 start, v] w fun e w' => ∃ dv, e = .returned (.agg #[.int .i64 vol, .int .i64 start, dv]) ∧ RSecs w' (fun b => w.heap.size ≤ b) dv (bs.map sec1) ∧ Below w.heap.size w w' := by
  obtain ⟨A, cap, rfl, hcap, hm⟩ := h.val
  unfold maxLen at hm
  go_enter Try.func36, Try.ntmps36
  go_wp2
  go_loopw [15] (fun i wr => ∃ (k : Nat) (dv : Value), k ≤ bs.length ∧ i = .int .i64 k ∧ Blk wr (w.heap.size + 1) 35 #[.int .i64 vol, .int .i64 start, dv] ∧ Blk wr w.heap.size 35 #[.int .i64 0, .int .i64 0, .slice none 0 0] ∧
      OwnSl 53 8 RSec wr w.heap.size (fun _ => False) dv ((bs.take k).map sec1) ∧ Below w.heap.size w wr) (fun i _ => bs.length - (intOf i).toNat)
  case atStart =>
    have e1 := Blk.new (w.alloc (.cells #[.int .i64 0, .int .i64 0, .slice none 0 0] 35)) 35 #[.int .i64 vol, .int .i64 start, .slice none 0 0]
    rw [World.size_alloc] at e1
    exact ⟨0, _, Nat.zero_le _, rfl, e1, (Blk.new _ _ _).alloc _, OwnSl.nil _, ((Below.refl _ _).alloc (Nat.le_refl _) _).alloc (by simp) _⟩
  case round =>
    obtain ⟨k, dv, hk, rfl, hbk, hc0, hown, hb⟩ := hrel
    obtain ⟨Ad, dcap, rfl, hd1, hd2⟩ := hown.val
    unfold maxLen at hd2
    obtain ⟨q0, q1, q2, q3, q4, q5⟩ := hbk.three
    obtain ⟨z0, z1, z2, z3, z4, z5⟩ := hc0.three
    have hbs := hb.size
    have hbkl := hbk.lt
    by_cases hlt : k < bs.length
    · obtain ⟨x, hx⟩ : ∃ x, bs[k]? = some x := ⟨_, List.getElem?_eq_getElem hlt⟩
      obtain ⟨b, off, cs, rfl, hbl, _, hl, hcc, hr⟩ := h.at_ hx
      obtain rfl : cs = [.int .u8 x] := hr
      have c0 := (hb.cell (p := ⟨b, off + k * 1 + 0, none⟩) hbl).trans (hcc 0 (by omega))
      simp at c0
      clear hcc
      have hlen : ((bs.take k).map sec1).length = k := by simp; omega
      have hown' := hown.lt
      have hne := fun g (hg : (Value.slice Ad ((bs.take k).map sec1).length dcap).ownBlock = some g) => (hown.lt g hg).1
      rw [hlen] at hown hown'
      obtain ⟨crow, hrow⟩ := hown.row
      have nk := Ne.symm (own_blk_ne hrow hbk (by decide))
      have nc := Ne.symm (own_blk_ne hrow hc0 (by decide))
      go_wp2_with (first | (at_builtin; refine wpList_appendNew rfl _ _ 33 rfl 53 _ 8 8 Try.underlying33 infoS rfl (by omega) RSec w.heap.size (fun _ => False) _ _ rfl hown #[.int .u8 x, .int .u8 0, .int .u8 0, .int .u8 0, .int .u8 0, .int .u8 0, .int .u8 0, .int .u8 0] (sec1 x) wr.heap.size rfl rfl rfl (by simp [Value.oneCell']) rfl (by simp; omega) (by omega) (by omega) ?_; intro v5 w5 hO5 hg5 hat5; obtain ⟨A5, c5, rfl, hl5, hm5⟩ := hO5.val; have hbk5 := hbk.grown hg5 nk; have hc5 := hc0.grown hg5 nc; obtain ⟨r0, r1, r2, r3, r4, r5⟩ := hbk5.three))
      go_roundw
      case rel =>
        have hk3 := hbk5.set_ 2 (.slice A5 (k + 1) c5)
        have he : ((bs.take k).map sec1) ++ [sec1 x] = (bs.take (k + 1)).map sec1 := by
          obtain ⟨hkk, hxx⟩ := List.getElem?_eq_some_iff.1 hx
          rw [List.take_succ_eq_append_getElem hkk, hxx]; simp
        rw [he] at hO5
        obtain ⟨crow5, hrow5⟩ := hO5.row
        refine ⟨k + 1, _, by omega, by go_num, by simpa using hk3, hc5.far (by simp) _, ?_, ?_⟩
        · have := hO5.kept (grown_setCell w5 ⟨w.heap.size + 1, 2, none⟩ (.slice A5 (k + 1) c5)) (.inr (own_blk_ne hrow5 hbk5 (by decide))) (by simp)
          have hmin : min (k + 1) bs.length = k + 1 := by omega
          simpa [hmin] using this
        · exact (hb.grown hg5 hbs (fun j e => (hown' j e).1)).setCell (by simp) _
      case measure => simp [intOf]; omega
    · go_wp2
      obtain rfl : k = bs.length := by omega
      rw [List.take_length] at hown
      have e1 := ((hc0.set_ 0 (.int .i64 vol)).set_ 1 (.int .i64 start)).set_ 2 (.slice Ad bs.length dcap)
      simp at e1
      obtain ⟨crow, hrow⟩ := hown.row
      have g3 := ((grown_setCell wr ⟨w.heap.size, 0, none⟩ (.int .i64 vol)).andThen (grown_setCell _ ⟨w.heap.size, 1, none⟩ (.int .i64 start)) (fun j e => .inr e)).andThen (grown_setCell _ ⟨w.heap.size, 2, none⟩ (.slice Ad bs.length dcap)) (fun j e => .inr e)
      have hO := hown.kept g3 (.inr (own_blk_ne hrow hc0 (by decide))) (by simp)
      have hB := hb.grown g3 hbs (fun j e => by injection e with e; subst e; simp)
      generalize ((wr.setCell ⟨w.heap.size, 0, none⟩ (.int .i64 vol)).setCell ⟨w.heap.size, 1, none⟩ (.int .i64 start)).setCell ⟨w.heap.size, 2, none⟩ (.slice Ad bs.length dcap) = w9 at e1 hO hB ⊢
      obtain ⟨a0, a1, a2, _⟩ := e1.three
      refine bodyPost_ret (v := .agg #[.int .i64 vol, .int .i64 start, .slice Ad bs.length dcap]) (by simp [results, Try.results36, go_sem, a0, a1, a2]) rfl ⟨_, rfl, ?_, hB⟩
      refine RSl.more (S := fun b => w.heap.size ≤ b) ?_ (fun _ _ h => h)
      have := hO.reads (T := fun b => w.heap.size ≤ b) fun x hx hh => by
        rcases hh with hh | hh
        · exact hh.elim
        · exact (hO.lt x hh.symm).1
      simpa using this
end Go.Proofs.Ytoifinmcoldidaa
