import Derived.Test.YtccbbecfmfldbaaQ25
set_option maxRecDepth 100000
set_option linter.unusedVariables false
set_option linter.unusedSimpArgs false
namespace Go.Proofs.Ytccbbecfmfldbaa
open Go.RowKit Go.Mm Sb

/-! ### snapshots: find, Image -/
def findS (n : Int) : List Snap → Option Nat
  | [] => none
  | x :: t => if x.num = n then some 0 else (findS n t).map (· + 1)
theorem findS_some {n : Int} : ∀ {l : List Snap} {k : Nat} {x : Snap}, l[k]? = some x → x.num = n → (∀ y ∈ l.take k, y.num ≠ n) → findS n l = some k
  | [], k, x, h, _, _ => by simp at h
  | a :: t, 0, x, h, hx, _ => by
    simp at h; subst h
    unfold findS; rw [if_pos hx]
  | a :: t, k + 1, x, h, hx, hn => by
    have h1 := hn a (by simp)
    unfold findS
    rw [if_neg h1, findS_some (l := t) (k := k) (by simpa using h) hx (fun y hy => hn y (by simp [hy]))]
    rfl
theorem findS_none {n : Int} : ∀ {l : List Snap}, (∀ y ∈ l, y.num ≠ n) → findS n l = none
  | [], _ => rfl
  | a :: t, h => by
    unfold findS
    rw [if_neg (h a (by simp)), findS_none (fun y hy => h y (by simp [hy]))]
    rfl
theorem findS_at {n : Int} : ∀ {l : List Snap} {k : Nat}, findS n l = some k → ∃ x, l[k]? = some x ∧ x.num = n
  | [], k, h => by cases h
  | a :: t, k, h => by
    unfold findS at h
    split at h
    · rename_i ha; injection h with h; subst h; exact ⟨a, rfl, ha⟩
    · cases hf : findS n t with
      | none => rw [hf] at h; cases h
      | some j =>
        rw [hf] at h
        injection h with h
        subst h
        obtain ⟨x, h1, h2⟩ := findS_at hf
        exact ⟨x, by simpa using h1, h2⟩
theorem findS_lt {n : Int} {l : List Snap} {k : Nat} (h : findS n l = some k) : k < l.length := by
  obtain ⟨x, h1, _⟩ := findS_at h
  exact (List.getElem?_eq_some_iff.1 h1).1
def idxI (n : Int) (l : List Snap) : Int := match findS n l with | some k => k | none => -1
theorem isNum_any (num time : Int) (A : Option Addr) (len cap : Nat) (n : Int) (bn : Nat) (w : World) (hb : bn < w.heap.size) (hc : w.cell? ⟨bn, 0, none⟩ = some (.int .i64 n)) :
    Calls Try.prog 99 #[.agg #[.int .i64 num, .int .i64 time, .slice A len cap], .pointer (some ⟨bn, 0, none⟩)] w fun e w' => e = .returned (.bool (num == n)) ∧ Below w.heap.size w w' := by
  go_enter Try.func99, Try.ntmps99
  go_wp2
  go_ret
  exact ⟨rfl, (Below.refl _ _).alloc (Nat.le_refl _) _⟩
set_option maxHeartbeats 4000000 in
theorem indexSn_any (v : Value) (l : List Snap) (n : Int) (bn : Nat) (w : World) (S : Nat → Prop) (h : RSnaps w S v l) (hb : bn < w.heap.size) (hc : w.cell? ⟨bn, 0, none⟩ = some (.int .i64 n)) :
    Calls Try.prog 81 #[v, .func (.func 99) #[] #[.pointer (some ⟨bn, 0, none⟩)]] w fun e w' => e = .returned (.int .i64 (idxI n l)) ∧ Below w.heap.size w w' := by
  obtain ⟨A, cap, rfl, hcap, hm⟩ := h.val
  unfold maxLen at hm
  go_enter Try.func81, Try.ntmps81
  go_wp2
  go_loopw [8] (fun i wr => ∃ k : Nat, k ≤ l.length ∧ i = .int .i64 k ∧ (∀ y ∈ l.take k, y.num ≠ n) ∧ Below w.heap.size w wr) (fun i _ => l.length - (intOf i).toNat)
  case atStart => exact ⟨0, Nat.zero_le _, rfl, by simp, Below.refl _ _⟩
  case round =>
    obtain ⟨k, hk, rfl, hn, hbw⟩ := hrel
    have hbs := hbw.size
    by_cases hlt : k < l.length
    · obtain ⟨x, hx⟩ : ∃ x, l[k]? = some x := ⟨_, List.getElem?_eq_getElem hlt⟩
      obtain ⟨b, off, cs, rfl, hbl, _, hll, hccc, hn64, ht64, dv, rfl, hd⟩ := h.at_ hx
      obtain ⟨Ad, dcap, rfl, hdc, hdm⟩ := hd.val
      have c0 := (hbw.cell (p := ⟨b, off + k * 3 + 0, none⟩) hbl).trans (hccc 0 (by omega))
      have c1 := (hbw.cell (p := ⟨b, off + k * 3 + 1, none⟩) hbl).trans (hccc 1 (by omega))
      have c2 := (hbw.cell (p := ⟨b, off + k * 3 + 2, none⟩) hbl).trans (hccc 2 (by omega))
      simp at c0 c1 c2
      have cn := (hbw.cell (p := ⟨bn, 0, none⟩) hb).trans hc
      have hcl := isNum_any x.num x.time Ad x.saved.length dcap n bn wr (by omega) cn
      have HN := Lib.hid hn
      have HX := Lib.hid hx
      clear hccc hll hd hn hx cn
      by_cases hq : x.num = n
      · have t1 : (x.num == n) = true := by simpa using hq
        have HQ := Lib.hid hq
        rw [t1] at hcl
        clear hq t1
        go_wp2_with (first | (go_at_call 99; refine hcl.mono ?_; rintro e w1 ⟨rfl, B1⟩))
        go_ret
        exact ⟨ret_int (by unfold idxI; rw [findS_some HX.out HQ.out HN.out]), below_then hbw hbs B1⟩
      · have t1 : (x.num == n) = false := by simpa using hq
        have HQ := Lib.hid hq
        rw [t1] at hcl
        clear hq t1
        go_wp2_with (first | (go_at_call 99; refine hcl.mono ?_; rintro e w1 ⟨rfl, B1⟩))
        go_roundw
        case rel =>
          refine ⟨k + 1, by omega, by go_num, fun y hy => ?_, below_then hbw hbs B1⟩
          obtain ⟨hkk, hxx⟩ := List.getElem?_eq_some_iff.1 HX.out
          rw [List.take_succ_eq_append_getElem hkk, hxx] at hy
          rcases List.mem_append.1 hy with hy | hy
          · exact HN.out y hy
          · obtain rfl := List.mem_singleton.1 hy; exact HQ.out
        case measure => simp [intOf]; omega
    · go_wp2
      go_ret
      obtain rfl : k = l.length := by omega
      rw [List.take_length] at hn
      exact ⟨ret_int (by unfold idxI; rw [findS_none hn]), hbw⟩
def findE (s : Snaps) (n : Int) : Int := if chkS s = 0 then (if (findS n s.items).isSome then 0 else 7) else chkS s
def findK (s : Snaps) (n : Int) : Nat := if findE s n = 0 then (findS n s.items).getD 0 else 0
theorem findE_zero {s : Snaps} {n : Int} (h : findE s n = 0) : OkS s ∧ findS n s.items = some (findK s n) ∧ findK s n < s.items.length := by
  have h' := h
  unfold findE at h
  split at h
  · rename_i hz
    split at h
    · rename_i hs
      obtain ⟨k, hk⟩ := Option.isSome_iff_exists.1 hs
      have e : findK s n = k := by unfold findK; rw [if_pos h', hk]; rfl
      exact ⟨chkS_ok hz, by rw [e]; exact hk, by rw [e]; exact findS_lt hk⟩
    · cases h
  · rename_i hz; exact absurd h hz
set_option maxHeartbeats 4000000 in
theorem find_any (vc vi : Value) (s : Snaps) (n : Int) (w : World) (S T : Nat → Prop) (hc : RImg w S vc s.cur) (hi : RSnaps w T vi s.items) (hl : s.cur.length ≤ 100000) :
    Calls Try.prog 69 #[.agg #[vc, vi], .int .i64 n] w fun e w' => e = .returned (.tuple #[.int .i64 (findK s n), .int .i64 (findE s n)]) ∧ Below w.heap.size w w' := by
  obtain ⟨Ac, cc, rfl, hcc, hcm⟩ := hc.val
  obtain ⟨Ai, ci, rfl, hic, him⟩ := hi.val
  unfold maxLen at hcm him
  have BA : Below w.heap.size w ((w.alloc (.cells #[.slice Ac s.cur.length cc, .slice Ai s.items.length ci] 26)).alloc (.cells #[.int .i64 n] 3)) := ((Below.refl _ _).alloc (Nat.le_refl _) _).alloc (by simp) _
  have K0 : Blk ((w.alloc (.cells #[.slice Ac s.cur.length cc, .slice Ai s.items.length ci] 26)).alloc (.cells #[.int .i64 n] 3)) w.heap.size 26 #[.slice Ac s.cur.length cc, .slice Ai s.items.length ci] := (Blk.new _ _ _).alloc _
  have K1 : Blk ((w.alloc (.cells #[.slice Ac s.cur.length cc, .slice Ai s.items.length ci] 26)).alloc (.cells #[.int .i64 n] 3)) (w.heap.size + 1) 3 #[.int .i64 n] := by
    have := Blk.new (w.alloc (.cells #[.slice Ac s.cur.length cc, .slice Ai s.items.length ci] 26)) 3 #[.int .i64 n]
    simpa using this
  have hck := snCheck_any _ _ s _ S T (hc.below BA) (hi.below BA) hl
  go_enter Try.func69, Try.ntmps69
  go_wp2_with fail
  refine hck.mono ?_
  rintro e w1 ⟨rfl, hb1⟩
  clear hck
  have B1 := below_then BA BA.size hb1
  replace K0 := K0.below hb1
  replace K1 := K1.below hb1
  obtain ⟨x0, x1, x2, x3⟩ := K0.two
  clear BA hb1
  by_cases hz : chkS s = 0
  · rw [hz]
    have hix := indexSn_any (.slice Ai s.items.length ci) s.items n (w.heap.size + 1) w1 T (hi.below B1) K1.lt (K1.cell 0)
    have HZ := Lib.hid hz
    clear hz
    rcases hf : findS n s.items with _ | k
    · have e1 : findE s n = 7 := by unfold findE; rw [if_pos HZ.out, hf]; rfl
      have e2 : findK s n = 0 := by unfold findK; rw [if_neg (by rw [e1]; decide)]
      have e3 : idxI n s.items = -1 := by unfold idxI; rw [hf]
      rw [e3] at hix
      have HE := Lib.hid (And.intro e1 e2)
      clear e1 e2 e3 hf
      go_wp2_with (first | (go_at_call 81; refine hix.mono ?_; rintro e w2 ⟨rfl, B2⟩))
      exact bodyPost_ret (v := .tuple #[.int .i64 0, .int .i64 7]) (by simp [results, Try.results69, go_sem]) rfl ⟨by rw [HE.out.1, HE.out.2]; rfl, below_then B1 B1.size B2⟩
    · have e1 : findE s n = 0 := by unfold findE; rw [if_pos HZ.out, hf]; rfl
      have e2 : findK s n = k := by unfold findK; rw [if_pos e1, hf]; rfl
      have e3 : idxI n s.items = (k : Int) := by unfold idxI; rw [hf]
      have hkl := findS_lt hf
      rw [e3] at hix
      have HE := Lib.hid (And.intro e1 e2)
      have t1 := decide_eq_false (show ¬ (k : Int) < 0 by omega)
      clear e1 e2 e3 hf
      go_wp2_with (first | (go_at_call 81; refine hix.mono ?_; rintro e w2 ⟨rfl, B2⟩))
      exact bodyPost_ret (v := .tuple #[.int .i64 k, .int .i64 0]) (by simp [results, Try.results69, go_sem]) rfl ⟨by rw [HE.out.1, HE.out.2], below_then B1 B1.size B2⟩
  · have hz' : (chkS s != 0) = true := by simpa using hz
    have e1 : findE s n = chkS s := by unfold findE; rw [if_neg hz]
    have e2 : findK s n = 0 := by unfold findK; rw [if_neg (by rw [e1]; exact hz)]
    have HE := Lib.hid (And.intro e1 e2)
    clear e1 e2 hz
    go_wp2
    exact bodyPost_ret (v := .tuple #[.int .i64 0, .int .i64 (chkS s)]) (by simp [results, Try.results69, go_sem]) rfl ⟨by rw [HE.out.1, HE.out.2]; rfl, B1⟩
def imageR (s : Snaps) (n : Int) : List (List Sec) := if findE s n = 0 then imgAt s.cur (s.items.drop (findK s n)) else []
def ImRet (im : List (List Sec)) (n : Int) (w : World) (e : Ending) (w' : World) : Prop := ∃ v, e = .returned (.tuple #[v, .int .i64 n]) ∧ RImg w' (fun b => w.heap.size ≤ b) v im ∧ Below w.heap.size w w'
set_option maxHeartbeats 4000000 in
theorem snImage_any (vc vi : Value) (s : Snaps) (n : Int) (w : World) (S T : Nat → Prop) (hc : RImg w S vc s.cur) (hi : RSnaps w T vi s.items) (hl : s.cur.length ≤ 100000) :
    Calls Try.prog 25 #[.agg #[vc, vi], .int .i64 n] w (ImRet (imageR s n) (findE s n) w) := by
  obtain ⟨Ac, cc, rfl, hcc, hcm⟩ := hc.val
  obtain ⟨Ai, ci, rfl, hic, him⟩ := hi.val
  unfold maxLen at hcm him
  have BA : Below w.heap.size w (w.alloc (.cells #[.slice Ac s.cur.length cc, .slice Ai s.items.length ci] 26)) := (Below.refl _ _).alloc (Nat.le_refl _) _
  have K0 : Blk (w.alloc (.cells #[.slice Ac s.cur.length cc, .slice Ai s.items.length ci] 26)) w.heap.size 26 #[.slice Ac s.cur.length cc, .slice Ai s.items.length ci] := Blk.new _ _ _
  have hfn := find_any _ _ s n _ S T (hc.below BA) (hi.below BA) hl
  go_enter Try.func25, Try.ntmps25
  go_wp2_with fail
  refine hfn.mono ?_
  rintro e w1 ⟨rfl, hb1⟩
  clear hfn
  have B1 := below_then BA BA.size hb1
  replace K0 := K0.below hb1
  obtain ⟨x0, x1, x2, x3⟩ := K0.two
  clear BA hb1
  by_cases hz : findE s n = 0
  · obtain ⟨hok, hf, hk⟩ := findE_zero hz
    have hat := at_any (.slice Ac s.cur.length cc) (.slice Ai s.items.length ci) s (findK s n) w1 S T (hc.below B1) (hi.below B1) hok hk
    have e1 : imageR s n = imgAt s.cur (s.items.drop (findK s n)) := by unfold imageR; rw [if_pos hz]
    rw [← e1] at hat
    have HZ := Lib.hid hz
    rw [hz]
    clear hz hok hf e1
    have hsz := B1.size
    go_wp2_with (first | (go_at_call 70; refine hat.mono ?_; rintro e w2 ⟨v2, rfl, X2, B2⟩))
    exact bodyPost_ret (v := .tuple #[v2, .int .i64 0]) (by simp [results, Try.results25, go_sem]) rfl ⟨_, by rw [HZ.out], X2.more (fun b _ h => by omega), below_then B1 B1.size B2⟩
  · have hz' : (findE s n != 0) = true := by simpa using hz
    have e1 : imageR s n = [] := by unfold imageR; rw [if_neg hz]
    have HE := Lib.hid e1
    clear e1 hz
    go_wp2
    exact bodyPost_ret (v := .tuple #[.slice none 0 0, .int .i64 (findE s n)]) (by simp [results, Try.results25, go_sem]) rfl ⟨_, rfl, by rw [HE.out]; exact RSl.nil _ _, B1⟩
end Go.Proofs.Ytccbbecfmfldbaa

set_option maxRecDepth 100000
set_option linter.unusedVariables false
set_option linter.unusedSimpArgs false
namespace Go.Proofs.Ytccbbecfmfldbaa
open Go.RowKit Go.Mm Sb

/-! ### snapshots: Take -/
def takeE (s : Snaps) (n t : Int) : Int :=
  if chkS s = 0 then (if inT n = false then 2 else if n ≤ lnS s.items s.items.length then 8 else if inT t = false ∨ t < ltS s.items s.items.length then 24 else if 1024 ≤ s.items.length then 11 else 0) else chkS s
def takeS (s : Snaps) (n t : Int) : Snaps := if takeE s n t = 0 then ⟨s.cur, s.items ++ [⟨n, t, []⟩]⟩ else noS
theorem take_bel {w w1 : World} (h : Below w.heap.size w w1) (a b : Value) (o : Obj) : Below w.heap.size w (((w1.setCell ⟨w.heap.size + 1, 0, none⟩ a).setCell ⟨w.heap.size + 1, 1, none⟩ b).alloc o) := by
  have := (h.setCell (p := ⟨w.heap.size + 1, 0, none⟩) (by simp) a).setCell (p := ⟨w.heap.size + 1, 1, none⟩) (by simp) b
  exact this.alloc this.size _
theorem take_ne {v : Value} {M N K : Nat} (h : ∀ g, v.ownBlock = some g → M ≤ g ∧ g < N) (hK : N ≤ K) : some K ≠ v.ownBlock := fun e => by have := (h K e.symm).2; omega
theorem take_ne2 {v : Value} {M N K : Nat} (h : ∀ g, v.ownBlock = some g → M ≤ g ∧ g < N) (hK : K < M) : some K ≠ v.ownBlock := fun e => by have := (h K e.symm).1; omega
set_option maxHeartbeats 16000000 in
theorem snTake_any (vc vi : Value) (s : Snaps) (n t : Int) (w : World) (S T : Nat → Prop) (hc : RImg w S vc s.cur) (hi : RSnaps w T vi s.items) (hl : s.cur.length ≤ 100000) (hn64 : In64 n) (ht64 : In64 t) :
    Calls Try.prog 51 #[.agg #[vc, vi], .int .i64 n, .int .i64 t] w (RetS (takeS s n t) (takeE s n t) w) := by
  obtain ⟨cur, items⟩ := s
  simp only at *
  obtain ⟨Ac, cc, rfl, hcc, hcm⟩ := hc.val
  obtain ⟨Ai, ci, rfl, hic, him⟩ := hi.val
  unfold maxLen at hcm him
  have BA : Below w.heap.size w ((w.alloc (.cells #[.slice Ac cur.length cc, .slice Ai items.length ci] 26)).alloc (.cells #[.slice none 0 0, .slice none 0 0] 26)) := ((Below.refl _ _).alloc (Nat.le_refl _) _).alloc (by simp) _
  have K0 : Blk ((w.alloc (.cells #[.slice Ac cur.length cc, .slice Ai items.length ci] 26)).alloc (.cells #[.slice none 0 0, .slice none 0 0] 26)) w.heap.size 26 #[.slice Ac cur.length cc, .slice Ai items.length ci] := (Blk.new _ _ _).alloc _
  have K1 : Blk ((w.alloc (.cells #[.slice Ac cur.length cc, .slice Ai items.length ci] 26)).alloc (.cells #[.slice none 0 0, .slice none 0 0] 26)) (w.heap.size + 1) 26 #[.slice none 0 0, .slice none 0 0] := by
    have := (Blk.new (w.alloc (.cells #[.slice Ac cur.length cc, .slice Ai items.length ci] 26)) 26 #[.slice none 0 0, .slice none 0 0])
    simpa using this
  have hck := snCheck_any _ _ ⟨cur, items⟩ _ S T (hc.below BA) (hi.below BA) hl
  go_enter Try.func51, Try.ntmps51
  go_wp2_with fail
  refine hck.mono ?_
  rintro e w1 ⟨rfl, hb1⟩
  clear hck
  have B1 := below_then BA BA.size hb1
  replace K0 := K0.below hb1
  replace K1 := K1.below hb1
  have l0 := K0.lt
  have l1 := K1.lt
  obtain ⟨x0, x1, x2, x3⟩ := K0.two
  obtain ⟨y0, y1, y2, y3⟩ := K1.two
  clear BA hb1
  have hnone : ∀ W (m : Int), Below w.heap.size w W → m ≠ 0 → takeE ⟨cur, items⟩ n t = m → RetS (takeS ⟨cur, items⟩ n t) (takeE ⟨cur, items⟩ n t) w (.returned (.tuple #[.agg #[.slice none 0 0, .slice none 0 0], .int .i64 m])) W := fun W m hW hm he => by
    have e1 : takeS ⟨cur, items⟩ n t = noS := by unfold takeS; rw [if_neg (by rw [he]; exact hm)]
    rw [e1, he]
    exact ⟨_, _, rfl, RSl.nil _ _, RSl.nil _ _, hW⟩
  have HN := Lib.hid hnone
  clear hnone
  by_cases hz : chkS ⟨cur, items⟩ = 0
  · have hok := chkS_ok hz
    have hsm := hok.small
    have hlen := hsm.len
    simp only at hlen
    rw [hz]
    have hE : takeE ⟨cur, items⟩ n t = (if inT n = false then 2 else if n ≤ lnS items items.length then 8 else if inT t = false ∨ t < ltS items items.length then 24 else if 1024 ≤ items.length then 11 else 0) := by unfold takeE; rw [if_pos hz]
    have HE := Lib.hid hE
    have HS := Lib.hid hsm
    clear hz hok hsm hE
    have KL : ∃ dv, Blk (w1.alloc (.cells #[.int .i64 (lnS items items.length), .int .i64 (ltS items items.length), dv] 88)) w1.heap.size 88 #[.int .i64 (lnS items items.length), .int .i64 (ltS items items.length), dv] ∧ True := ⟨.slice none 0 0, Blk.new _ _ _, trivial⟩
    clear KL
    rcases snoc_cases items with rfl | ⟨pre, x, rfl⟩
    · have HLN := Lib.hid (show lnS [] ([] : List Snap).length = -1 ∧ ltS [] ([] : List Snap).length = 0 from ⟨rfl, rfl⟩)
      have HIT := Lib.hid (show RSnaps w T (.slice Ai 0 ci) [] from hi)
      clear hi
      simp only [List.length_nil] at *
      have BL : Below w.heap.size w (w1.alloc (.cells #[.int .i64 (-1), .int .i64 0, .slice none 0 0] 88)) := B1.alloc B1.size _
      have hlw : w.heap.size + 1 < w1.heap.size := l1
      have HB := Lib.hid B1
      have HK1 := Lib.hid K1
      clear K0 K1 B1
      cases hi1 : inT n with
      | false =>
        have HI1 := Lib.hid hi1
        clear hi1
        go_wp2_with (first | (go_at_call 58; refine (in_any _ _ (by assumption)).mono ?_; rintro e w9 ⟨rfl, rfl⟩; rw [HI1.out]))
        exact bodyPost_ret (v := .tuple #[.agg #[.slice none 0 0, .slice none 0 0], .int .i64 2]) (by simp [results, Try.results51, go_sem, l1, y0, y1, y2, y3, ne_of hlw]) rfl (HN.out _ _ (take_bel HB.out _ _ _) (by decide) (by rw [HE.out, if_pos HI1.out]))
      | true =>
        have HI1 := Lib.hid hi1
        clear hi1
        by_cases hi2 : n ≤ -1
        · have HI2 := Lib.hid hi2
          have t2 := decide_eq_true hi2
          go_wp2_with (first | (go_at_call 58; refine (in_any _ _ (by assumption)).mono ?_; rintro e w9 ⟨rfl, rfl⟩; rw [HI1.out]))
          exact bodyPost_ret (v := .tuple #[.agg #[.slice none 0 0, .slice none 0 0], .int .i64 8]) (by simp [results, Try.results51, go_sem, l1, y0, y1, y2, y3, ne_of hlw]) rfl (HN.out _ _ (take_bel HB.out _ _ _) (by decide) (by rw [HE.out, if_neg (by simp [HI1.out]), if_pos (by rw [HLN.out.1]; have := HI2.out; omega)]))
        · have HI2 := Lib.hid hi2
          have t2 := decide_eq_false hi2
          cases hi3 : inT t with
          | false =>
            have HI3 := Lib.hid hi3
            clear hi3
            go_wp2_with (first | (go_at_call 58; refine (in_any _ _ (by assumption)).mono ?_; rintro e w9 ⟨rfl, rfl⟩; first | rw [HI1.out] | rw [HI3.out]))
            exact bodyPost_ret (v := .tuple #[.agg #[.slice none 0 0, .slice none 0 0], .int .i64 24]) (by simp [results, Try.results51, go_sem, l1, y0, y1, y2, y3, ne_of hlw]) rfl (HN.out _ _ (take_bel HB.out _ _ _) (by decide) (by rw [HE.out, if_neg (by simp [HI1.out]), if_neg (by rw [HLN.out.1]; have := HI2.out; omega), if_pos (.inl HI3.out)]))
          | true =>
            have HI3 := Lib.hid hi3
            clear hi3
            by_cases hi4 : t < 0
            · have HI4 := Lib.hid hi4
              have t4 := decide_eq_true hi4
              go_wp2_with (first | (go_at_call 58; refine (in_any _ _ (by assumption)).mono ?_; rintro e w9 ⟨rfl, rfl⟩; first | rw [HI1.out] | rw [HI3.out]))
              exact bodyPost_ret (v := .tuple #[.agg #[.slice none 0 0, .slice none 0 0], .int .i64 24]) (by simp [results, Try.results51, go_sem, l1, y0, y1, y2, y3, ne_of hlw]) rfl (HN.out _ _ (take_bel HB.out _ _ _) (by decide) (by rw [HE.out, if_neg (by simp [HI1.out]), if_neg (by rw [HLN.out.1]; have := HI2.out; omega), if_pos (.inr (by rw [HLN.out.2]; exact HI4.out))]))
            · have HI4 := Lib.hid hi4
              have t4 := decide_eq_false hi4
              have hne : ¬ (inT t = false ∨ t < 0) := by
                rintro (h | h)
                · rw [HI3.out] at h; cases h
                · exact hi4 h
              have HNE := Lib.hid hne
              clear hne
              by_cases hi5 : 1024 ≤ 0
              · exfalso; omega
              · have t5 := decide_eq_false (show ¬ (1024 : Int) ≤ (0 : Int) by omega)
                have h0 : takeE ⟨cur, ([] : List Snap)⟩ n t = 0 := by rw [HE.out, if_neg (by simp [HI1.out]), if_neg (by rw [HLN.out.1]; have := HI2.out; omega), if_neg (by rw [HLN.out.2]; exact HNE.out), if_neg (by simp at hi5 ⊢; try omega)]
                have h1 : takeS ⟨cur, ([] : List Snap)⟩ n t = ⟨cur, ([] : List Snap) ++ [⟨n, t, []⟩]⟩ := by unfold takeS; rw [if_pos h0]
                have HT := Lib.hid (And.intro h0 h1)
                clear h0 h1
                have hcp := snCopied_any (.slice Ac cur.length cc) (.slice Ai (0) ci) ⟨cur, ([] : List Snap)⟩ _ (fun b => S b ∨ T b) ((hc.below BL).more fun _ _ h => .inl h) ((HIT.out.below BL).more fun _ _ h => .inr h) HS.out
                have K1L := HK1.out.alloc (.cells #[.int .i64 (-1), .int .i64 0, .slice none 0 0] 88)
                have HHC := Lib.hid hcp
                have HBL := Lib.hid BL
                clear hcp BL
                go_wp2_with (first | (go_at_call 58; refine (in_any _ _ (by assumption)).mono ?_; rintro e w9 ⟨rfl, rfl⟩; first | rw [HI1.out] | rw [HI3.out]))
                refine HHC.out.mono ?_
                rintro e w2 ⟨cv, iv, rfl, ⟨M, hM1, hM2, hcr, hown⟩, B2⟩
                replace hcr := hcr.more (T := fun b => w1.heap.size + 1 ≤ b ∧ b < M) (fun b _ h => by simpa using h)
                obtain ⟨Acv, ccv, rfl, _, _⟩ := hcr.val
                obtain ⟨Aiv, civ, rfl, _, _⟩ := hown.val
                have hLI : ([] : List Snap).length = 0 := by simp
                rw [hLI] at hown
                have hul := hown.lt
                have hownA := (hown.more (T := fun b => M ≤ b ∧ b ≠ w2.heap.size) (fun b hb h => ⟨h, by omega⟩)).alloc (.cells #[.slice Acv cur.length ccv, .slice Aiv (0) civ] 26)
                have K4 := Blk.new w2 26 #[.slice Acv cur.length ccv, .slice Aiv (0) civ]
                have K5 := (K1L.below B2).alloc (.cells #[.slice Acv cur.length ccv, .slice Aiv (0) civ] 26)
                have hw2 := B2.size
                simp only [World.size_alloc] at hw2
                have BA2 := (below_then HBL.out HBL.out.size B2).alloc (below_then HBL.out HBL.out.size B2).size (.cells #[.slice Acv cur.length ccv, .slice Aiv (0) civ] 26)
                have hcrA := hcr.below ((Below.refl _ _).alloc (Nat.le_refl _) (.cells #[.slice Acv cur.length ccv, .slice Aiv (0) civ] 26))
                simp only [World.size_alloc] at hM1
                have HR := Lib.hid (And.intro hcrA BA2)
                clear hcr hown B2 hcrA BA2 K1L
                go_wp2_with (first | (at_builtin; refine wpList_appendNew rfl _ _ 24 rfl 88 _ 3 40 Try.underlying24 infoSn rfl (by omega) RSnap M (fun b => M ≤ b ∧ b ≠ w2.heap.size) (.slice Aiv (0) civ) ([] : List Snap) rfl hownA #[.int .i64 n, .int .i64 t, .slice none 0 0] ⟨n, t, []⟩ (w2.heap.size + 1) (by simp) (by rfl) rfl (by simp [Value.oneCell']) ⟨hn64, ht64, _, rfl, RSl.nil _ _⟩ (by first | decide | (simp; omega)) (by omega) (by simp; omega) ?_; intro v5 w5 hO5 hg5 hat5; obtain ⟨A5, cap5, rfl, hc5, hm5⟩ := hO5.val; have K4' := K4.grown hg5 (take_ne hul (Nat.le_refl _)); have K5' := K5.grown hg5 (take_ne2 hul (by omega)); obtain ⟨z0, z1, z2, z3⟩ := K4'.two; obtain ⟨q0, q1, q2, q3⟩ := K5'.two; have l4 := K4'.lt; have l5 := K5'.lt))
                have e5 : (([] : List Snap) ++ [(⟨n, t, []⟩ : Snap)]).length = 0 + 1 := by simp
                have hs5 := hg5.size
                simp only [World.size_alloc] at hs5
                obtain ⟨crow, hrow⟩ := hO5.row
                have hnb := own_blk_ne hrow K4' (by decide)
                have hlt5 := hO5.lt
                have hrd := hO5.reads (T := fun b => M ≤ b ∧ b ≠ w2.heap.size) (fun b _ hh => by rcases hh with hh | hh; exact hh; exact ⟨(hlt5 b hh.symm).1, fun e => hnb (by rw [← hh, e])⟩)
                rw [e5] at hrd
                have hcr5 := HR.out.1.keep (fun b hb h => hg5.block b hb (take_ne2 hul h.2))
                have BF := HR.out.2.grown hg5 HR.out.2.size (fun j e => by have := (hul j e).1; omega)
                have HF := Lib.hid (And.intro hrd (And.intro hcr5 BF))
                clear hrd hcr5 BF hO5 hrow hnb hlt5 K4 K5 K4' K5' hownA
                go_wp2
                refine bodyPost_ret (v := .tuple #[.agg #[.slice Acv cur.length ccv, .slice A5 (0 + 1) cap5], .int .i64 0]) (by simp [results, Try.results51, go_sem, l4, l5, z0, z1, z2, z3, q0, q1, q2, q3, ne_of hlw]) rfl ?_
                rw [HT.out.1, HT.out.2]
                obtain ⟨hrd, hcr5, BF⟩ := HF.out
                have BK : ∀ W : World, ∀ b, w.heap.size + 2 ≤ b → b ≠ w2.heap.size → (((W.setCell ⟨w2.heap.size, 1, none⟩ (.slice A5 (0 + 1) cap5)).setCell ⟨w.heap.size + 1, 0, none⟩ (.slice Acv cur.length ccv)).setCell ⟨w.heap.size + 1, 1, none⟩ (.slice A5 (0 + 1) cap5)).heap[b]? = W.heap[b]? := fun W b h1 h2 =>
                  (Below.heap_setCell _ _ _ b (by simp; omega)).trans ((Below.heap_setCell _ _ _ b (by simp; omega)).trans (Below.heap_setCell _ _ _ b (by simpa using h2)))
                refine ⟨_, _, rfl, ?_, ?_, ?_⟩
                · exact (hcr5.keep (fun b hb h1 => BK _ b (by omega) (by omega))).more (fun b _ h => by omega)
                · exact (hrd.keep (fun b hb h1 => BK _ b (by omega) (by omega))).more (fun b _ h => by omega)
                · exact ((BF.setCell (p := ⟨w2.heap.size, 1, none⟩) (by simp; omega) _).setCell (by simp) _).setCell (by simp) _
    · obtain ⟨num, time, saved⟩ := x
      have hxm : (pre ++ [(⟨num, time, saved⟩ : Snap)])[pre.length]? = some ⟨num, time, saved⟩ := by simp
      have hlen1 : (pre ++ [(⟨num, time, saved⟩ : Snap)]).length = pre.length + 1 := by simp
      have HLN := Lib.hid (show lnS (pre ++ [(⟨num, time, saved⟩ : Snap)]) (pre ++ [(⟨num, time, saved⟩ : Snap)]).length = num ∧ ltS (pre ++ [(⟨num, time, saved⟩ : Snap)]) (pre ++ [(⟨num, time, saved⟩ : Snap)]).length = time from ⟨by rw [hlen1, lnS_succ hxm], by rw [hlen1, ltS_succ hxm]⟩)
      obtain ⟨b, off, cs, rfl, hbl, _, hll, hccc, hnn64, htt64, dv, rfl, hd⟩ := hi.at_ hxm
      obtain ⟨Ad, dcap, rfl, hdc, hdm⟩ := hd.val
      have c0 := (B1.cell (p := ⟨b, off + pre.length * 3 + 0, none⟩) hbl).trans (hccc 0 (by omega))
      have c1 := (B1.cell (p := ⟨b, off + pre.length * 3 + 1, none⟩) hbl).trans (hccc 1 (by omega))
      have c2 := (B1.cell (p := ⟨b, off + pre.length * 3 + 2, none⟩) hbl).trans (hccc 2 (by omega))
      simp at c0 c1 c2
      have hbw1 : b < w1.heap.size := by omega
      rw [hlen1] at hi hlen hic x1
      have HIT := Lib.hid hi
      clear hi hxm hccc hll hd
      rw [hlen1]
      have BL : Below w.heap.size w (w1.alloc (.cells #[.int .i64 num, .int .i64 time, .slice Ad saved.length dcap] 88)) := B1.alloc B1.size _
      have hlw : w.heap.size + 1 < w1.heap.size := l1
      have HB := Lib.hid B1
      have HK1 := Lib.hid K1
      clear K0 K1 B1
      cases hi1 : inT n with
      | false =>
        have HI1 := Lib.hid hi1
        clear hi1
        go_wp2_with (first | (go_at_call 58; refine (in_any _ _ (by assumption)).mono ?_; rintro e w9 ⟨rfl, rfl⟩; rw [HI1.out]))
        exact bodyPost_ret (v := .tuple #[.agg #[.slice none 0 0, .slice none 0 0], .int .i64 2]) (by simp [results, Try.results51, go_sem, l1, y0, y1, y2, y3, ne_of hlw]) rfl (HN.out _ _ (take_bel HB.out _ _ _) (by decide) (by rw [HE.out, if_pos HI1.out]))
      | true =>
        have HI1 := Lib.hid hi1
        clear hi1
        by_cases hi2 : n ≤ num
        · have HI2 := Lib.hid hi2
          have t2 := decide_eq_true hi2
          go_wp2_with (first | (go_at_call 58; refine (in_any _ _ (by assumption)).mono ?_; rintro e w9 ⟨rfl, rfl⟩; rw [HI1.out]))
          exact bodyPost_ret (v := .tuple #[.agg #[.slice none 0 0, .slice none 0 0], .int .i64 8]) (by simp [results, Try.results51, go_sem, l1, y0, y1, y2, y3, ne_of hlw]) rfl (HN.out _ _ (take_bel HB.out _ _ _) (by decide) (by rw [HE.out, if_neg (by simp [HI1.out]), if_pos (by rw [HLN.out.1]; have := HI2.out; omega)]))
        · have HI2 := Lib.hid hi2
          have t2 := decide_eq_false hi2
          cases hi3 : inT t with
          | false =>
            have HI3 := Lib.hid hi3
            clear hi3
            go_wp2_with (first | (go_at_call 58; refine (in_any _ _ (by assumption)).mono ?_; rintro e w9 ⟨rfl, rfl⟩; first | rw [HI1.out] | rw [HI3.out]))
            exact bodyPost_ret (v := .tuple #[.agg #[.slice none 0 0, .slice none 0 0], .int .i64 24]) (by simp [results, Try.results51, go_sem, l1, y0, y1, y2, y3, ne_of hlw]) rfl (HN.out _ _ (take_bel HB.out _ _ _) (by decide) (by rw [HE.out, if_neg (by simp [HI1.out]), if_neg (by rw [HLN.out.1]; have := HI2.out; omega), if_pos (.inl HI3.out)]))
          | true =>
            have HI3 := Lib.hid hi3
            clear hi3
            by_cases hi4 : t < time
            · have HI4 := Lib.hid hi4
              have t4 := decide_eq_true hi4
              go_wp2_with (first | (go_at_call 58; refine (in_any _ _ (by assumption)).mono ?_; rintro e w9 ⟨rfl, rfl⟩; first | rw [HI1.out] | rw [HI3.out]))
              exact bodyPost_ret (v := .tuple #[.agg #[.slice none 0 0, .slice none 0 0], .int .i64 24]) (by simp [results, Try.results51, go_sem, l1, y0, y1, y2, y3, ne_of hlw]) rfl (HN.out _ _ (take_bel HB.out _ _ _) (by decide) (by rw [HE.out, if_neg (by simp [HI1.out]), if_neg (by rw [HLN.out.1]; have := HI2.out; omega), if_pos (.inr (by rw [HLN.out.2]; exact HI4.out))]))
            · have HI4 := Lib.hid hi4
              have t4 := decide_eq_false hi4
              have hne : ¬ (inT t = false ∨ t < time) := by
                rintro (h | h)
                · rw [HI3.out] at h; cases h
                · exact hi4 h
              have HNE := Lib.hid hne
              clear hne
              by_cases hi5 : 1024 ≤ pre.length + 1
              · have HI5 := Lib.hid hi5
                have t5 := decide_eq_true (show (1024 : Int) ≤ ((pre.length : Int) + 1) by omega)
                go_wp2_with (first | (go_at_call 58; refine (in_any _ _ (by assumption)).mono ?_; rintro e w9 ⟨rfl, rfl⟩; first | rw [HI1.out] | rw [HI3.out]))
                exact bodyPost_ret (v := .tuple #[.agg #[.slice none 0 0, .slice none 0 0], .int .i64 11]) (by simp [results, Try.results51, go_sem, l1, y0, y1, y2, y3, ne_of hlw]) rfl (HN.out _ _ (take_bel HB.out _ _ _) (by decide) (by rw [HE.out, if_neg (by simp [HI1.out]), if_neg (by rw [HLN.out.1]; have := HI2.out; omega), if_neg (by rw [HLN.out.2]; exact HNE.out), if_pos (by have := HI5.out; simpa using this)]))
              · have t5 := decide_eq_false (show ¬ (1024 : Int) ≤ ((pre.length : Int) + 1) by omega)
                have h0 : takeE ⟨cur, (pre ++ [(⟨num, time, saved⟩ : Snap)])⟩ n t = 0 := by rw [HE.out, if_neg (by simp [HI1.out]), if_neg (by rw [HLN.out.1]; have := HI2.out; omega), if_neg (by rw [HLN.out.2]; exact HNE.out), if_neg (by simp at hi5 ⊢; try omega)]
                have h1 : takeS ⟨cur, (pre ++ [(⟨num, time, saved⟩ : Snap)])⟩ n t = ⟨cur, (pre ++ [(⟨num, time, saved⟩ : Snap)]) ++ [⟨n, t, []⟩]⟩ := by unfold takeS; rw [if_pos h0]
                have HT := Lib.hid (And.intro h0 h1)
                clear h0 h1
                have hcp := snCopied_any (.slice Ac cur.length cc) (.slice (some ⟨b, off, none⟩) (pre.length + 1) ci) ⟨cur, (pre ++ [(⟨num, time, saved⟩ : Snap)])⟩ _ (fun b => S b ∨ T b) ((hc.below BL).more fun _ _ h => .inl h) ((HIT.out.below BL).more fun _ _ h => .inr h) HS.out
                have K1L := HK1.out.alloc (.cells #[.int .i64 num, .int .i64 time, .slice Ad saved.length dcap] 88)
                have HHC := Lib.hid hcp
                have HBL := Lib.hid BL
                clear hcp BL
                go_wp2_with (first | (go_at_call 58; refine (in_any _ _ (by assumption)).mono ?_; rintro e w9 ⟨rfl, rfl⟩; first | rw [HI1.out] | rw [HI3.out]))
                refine HHC.out.mono ?_
                rintro e w2 ⟨cv, iv, rfl, ⟨M, hM1, hM2, hcr, hown⟩, B2⟩
                replace hcr := hcr.more (T := fun b => w1.heap.size + 1 ≤ b ∧ b < M) (fun b _ h => by simpa using h)
                obtain ⟨Acv, ccv, rfl, _, _⟩ := hcr.val
                obtain ⟨Aiv, civ, rfl, _, _⟩ := hown.val
                have hLI : (pre ++ [(⟨num, time, saved⟩ : Snap)]).length = pre.length + 1 := by simp
                rw [hLI] at hown
                have hul := hown.lt
                have hownA := (hown.more (T := fun b => M ≤ b ∧ b ≠ w2.heap.size) (fun b hb h => ⟨h, by omega⟩)).alloc (.cells #[.slice Acv cur.length ccv, .slice Aiv (pre.length + 1) civ] 26)
                have K4 := Blk.new w2 26 #[.slice Acv cur.length ccv, .slice Aiv (pre.length + 1) civ]
                have K5 := (K1L.below B2).alloc (.cells #[.slice Acv cur.length ccv, .slice Aiv (pre.length + 1) civ] 26)
                have hw2 := B2.size
                simp only [World.size_alloc] at hw2
                have BA2 := (below_then HBL.out HBL.out.size B2).alloc (below_then HBL.out HBL.out.size B2).size (.cells #[.slice Acv cur.length ccv, .slice Aiv (pre.length + 1) civ] 26)
                have hcrA := hcr.below ((Below.refl _ _).alloc (Nat.le_refl _) (.cells #[.slice Acv cur.length ccv, .slice Aiv (pre.length + 1) civ] 26))
                simp only [World.size_alloc] at hM1
                have HR := Lib.hid (And.intro hcrA BA2)
                clear hcr hown B2 hcrA BA2 K1L
                go_wp2_with (first | (at_builtin; refine wpList_appendNew rfl _ _ 24 rfl 88 _ 3 40 Try.underlying24 infoSn rfl (by omega) RSnap M (fun b => M ≤ b ∧ b ≠ w2.heap.size) (.slice Aiv (pre.length + 1) civ) (pre ++ [(⟨num, time, saved⟩ : Snap)]) rfl hownA #[.int .i64 n, .int .i64 t, .slice none 0 0] ⟨n, t, []⟩ (w2.heap.size + 1) (by simp) (by rfl) rfl (by simp [Value.oneCell']) ⟨hn64, ht64, _, rfl, RSl.nil _ _⟩ (by first | decide | (simp; omega)) (by omega) (by simp; omega) ?_; intro v5 w5 hO5 hg5 hat5; obtain ⟨A5, cap5, rfl, hc5, hm5⟩ := hO5.val; have K4' := K4.grown hg5 (take_ne hul (Nat.le_refl _)); have K5' := K5.grown hg5 (take_ne2 hul (by omega)); obtain ⟨z0, z1, z2, z3⟩ := K4'.two; obtain ⟨q0, q1, q2, q3⟩ := K5'.two; have l4 := K4'.lt; have l5 := K5'.lt))
                have e5 : ((pre ++ [(⟨num, time, saved⟩ : Snap)]) ++ [(⟨n, t, []⟩ : Snap)]).length = pre.length + 1 + 1 := by simp
                have hs5 := hg5.size
                simp only [World.size_alloc] at hs5
                obtain ⟨crow, hrow⟩ := hO5.row
                have hnb := own_blk_ne hrow K4' (by decide)
                have hlt5 := hO5.lt
                have hrd := hO5.reads (T := fun b => M ≤ b ∧ b ≠ w2.heap.size) (fun b _ hh => by rcases hh with hh | hh; exact hh; exact ⟨(hlt5 b hh.symm).1, fun e => hnb (by rw [← hh, e])⟩)
                rw [e5] at hrd
                have hcr5 := HR.out.1.keep (fun b hb h => hg5.block b hb (take_ne2 hul h.2))
                have BF := HR.out.2.grown hg5 HR.out.2.size (fun j e => by have := (hul j e).1; omega)
                have HF := Lib.hid (And.intro hrd (And.intro hcr5 BF))
                clear hrd hcr5 BF hO5 hrow hnb hlt5 K4 K5 K4' K5' hownA
                go_wp2
                refine bodyPost_ret (v := .tuple #[.agg #[.slice Acv cur.length ccv, .slice A5 (pre.length + 1 + 1) cap5], .int .i64 0]) (by simp [results, Try.results51, go_sem, l4, l5, z0, z1, z2, z3, q0, q1, q2, q3, ne_of hlw]) rfl ?_
                rw [HT.out.1, HT.out.2]
                obtain ⟨hrd, hcr5, BF⟩ := HF.out
                have BK : ∀ W : World, ∀ b, w.heap.size + 2 ≤ b → b ≠ w2.heap.size → (((W.setCell ⟨w2.heap.size, 1, none⟩ (.slice A5 (pre.length + 1 + 1) cap5)).setCell ⟨w.heap.size + 1, 0, none⟩ (.slice Acv cur.length ccv)).setCell ⟨w.heap.size + 1, 1, none⟩ (.slice A5 (pre.length + 1 + 1) cap5)).heap[b]? = W.heap[b]? := fun W b h1 h2 =>
                  (Below.heap_setCell _ _ _ b (by simp; omega)).trans ((Below.heap_setCell _ _ _ b (by simp; omega)).trans (Below.heap_setCell _ _ _ b (by simpa using h2)))
                refine ⟨_, _, rfl, ?_, ?_, ?_⟩
                · exact (hcr5.keep (fun b hb h1 => BK _ b (by omega) (by omega))).more (fun b _ h => by omega)
                · exact (hrd.keep (fun b hb h1 => BK _ b (by omega) (by omega))).more (fun b _ h => by omega)
                · exact ((BF.setCell (p := ⟨w2.heap.size, 1, none⟩) (by simp; omega) _).setCell (by simp) _).setCell (by simp) _
  · have hz' : (chkS ⟨cur, items⟩ != 0) = true := by simpa using hz
    have hae : takeE ⟨cur, items⟩ n t = chkS ⟨cur, items⟩ := by unfold takeE; rw [if_neg hz]
    have HAE := Lib.hid hae
    have HZ := Lib.hid hz
    clear hae hz
    go_wp2
    exact bodyPost_ret (v := .tuple #[.agg #[.slice none 0 0, .slice none 0 0], .int .i64 (chkS ⟨cur, items⟩)]) (by simp [results, Try.results51, go_sem, l1, y0, y1, y2, y3]) rfl (HN.out _ _ ((B1.setCell (by simp) _).setCell (by simp) _) HZ.out HAE.out)
end Go.Proofs.Ytccbbecfmfldbaa
