import Derived.Test.YtoifinmcoldidaaI8
import Derived.Test.YtoifinmcoldidaaIm
set_option maxRecDepth 100000
set_option linter.unusedVariables false
set_option linter.unusedSimpArgs false
namespace Go.Proofs.Ytoifinmcoldidaa
open Go.RowKit Go.Mm Sb

/-! ### image.Apply -/
theorem wpList_copyS {P : Program} {ops : Array Oper} {rest : List Oper} {o : Oper} {a : Act} {Q : Exit → Act → World → Prop} {w : World} (hgd : o.guard = none) (d s : Operand) (dT sT : TypeId)
    (ho : o.op = .call { callee := .builtin .copy, args := #[d, s], argTypes := #[dT, sT] }) {vd vs r : Value} {w' : World} (hd : a.eval d = vd) (hs : a.eval s = vs)
    (hr : (Builtin.copy_ #[dT, sT] o.type #[vd, vs]).run P w = .ok r w') (h : wpList P ops Q rest (a.put o.dst r) w') : wpList P ops Q (o :: rest) a w := by
  refine wpList_plain hgd fun K hK => ?_
  unfold Oper.wp execOp
  simp only [ho, resolve, invoke, builtin, Sem.run_bind, Sem.run_pure, Result.andThen_ok, List.map_toArray, List.map_cons, List.map_nil, hd, hs, hr]
  exact hK _ _ h
theorem infoS8 : (Try.prog.info? 53).map (·.size) = some 8 := by kernel_rfl
def ApRet (im : List (List Sec)) (l : List Wr) (w : World) (e : Ending) (w' : World) : Prop :=
  ∃ v i, e = .returned (.tuple #[v, .int .i64 i, .int .i64 (apE im l)]) ∧ RImg w' (fun b => w.heap.size ≤ b) v (apR im l) ∧ Below w.heap.size w w'
theorem sizes_small {im : List (List Sec)} (h : sizesI (lens im) = 0) : im.length ≤ 8 ∧ ∀ x ∈ im, x.length ≤ 4096 := by
  have h1 := sizesI_len h
  have h2 := sizesI_ok h
  refine ⟨by simpa [lens] using h1.2, fun x hx => ?_⟩
  have := h2 (x.length : Int) (List.mem_map.2 ⟨x, hx, rfl⟩)
  omega
set_option maxHeartbeats 8000000 in
theorem apply_any (vi v : Value) (im : List (List Sec)) (l : List Wr) (w : World) (S S2 : Nat → Prop) (hi : RImg w S2 vi im) (h : RWrs w S v l) (hl : im.length ≤ 100000) :
    Calls Try.prog 34 #[vi, v] w (ApRet im l w) := by
  obtain ⟨A, cap, rfl, hcap, hm⟩ := h.val
  unfold maxLen at hm
  by_cases hz : sizesI (lens im) = 0
  · obtain ⟨z1, z2⟩ := sizes_small hz
    have hae : apE im l = fitAll (lens im) l := by unfold apE; rw [if_pos hz]
    go_enter Try.func34, Try.ntmps34
    go_wp2_with fail
    refine (imgCheck_any vi im w S2 hi hl).mono ?_
    rintro e w1 ⟨rfl, B1⟩
    rw [hz]
    have G1 : Below w.heap.size w w1 := B1
    go_wp2_with fail
    refine (copied_any vi im w1 S2 (hi.below G1) z1 z2).mono ?_
    rintro e w2 ⟨v8, rfl, hv8, B2⟩
    have G2 := below_then G1 G1.size B2
    have gs1 := G1.size
    obtain ⟨A8, c8, rfl, hc8, hm8⟩ := hv8.val
    have HAE := Lib.hid hae
    have HZ := Lib.hid hz
    clear hae hz
    go_wp2
    go_loopw [21] (fun i wr => ∃ k : Nat, k ≤ l.length ∧ i = .int .i64 k ∧ ImgO wr w1.heap.size (.slice A8 im.length c8) (putAll im (l.take k)) ∧ fitAll (lens im) l = fitAll (lens im) (l.drop k) ∧ (∀ x ∈ l.take k, fitW (lens im) x = 0) ∧ Below w.heap.size w wr) (fun i _ => l.length - (intOf i).toNat)
    case atStart => exact ⟨0, Nat.zero_le _, rfl, hv8, rfl, by simp, G2⟩
    case round =>
      clear hv8 B2 G2
      obtain ⟨k, hk, rfl, hown, hI, hpr, hb⟩ := hrel
      have hbs := hb.size
      by_cases hlt : k < l.length
      · obtain ⟨x, hx⟩ : ∃ x, l[k]? = some x := ⟨_, List.getElem?_eq_getElem hlt⟩
        obtain ⟨b, off, cs, rfl, hbl, _, hll, hc, hr⟩ := h.at_ hx
        obtain ⟨hv64, hs64, dv, rfl, hd⟩ := hr
        obtain ⟨Ad, dcap, rfl, hdc, hdm⟩ := hd.val
        unfold maxLen at hdm
        have c0 := (hb.cell (p := ⟨b, off + k * 3 + 0, none⟩) hbl).trans (hc 0 (by omega))
        have c1 := (hb.cell (p := ⟨b, off + k * 3 + 1, none⟩) hbl).trans (hc 1 (by omega))
        have c2 := (hb.cell (p := ⟨b, off + k * 3 + 2, none⟩) hbl).trans (hc 2 (by omega))
        clear hc hll
        simp at c0 c1 c2
        have hbox := Blk.new wr 35 #[.int .i64 x.vol, .int .i64 x.start, .slice Ad x.data.length dcap]
        have hA := (Below.refl wr.heap.size wr).alloc (Nat.le_refl _) (.cells #[.int .i64 x.vol, .int .i64 x.start, .slice Ad x.data.length dcap] 35)
        have hlp := lens_putAll hpr
        have hown2 := hown.alloc (.cells #[.int .i64 x.vol, .int .i64 x.start, .slice Ad x.data.length dcap] 35)
        have hrd := hown2.reads (T := fun _ => True) (fun _ _ => trivial)
        have hfit := fun W (hW : RImg W (fun _ => True) (.slice A8 im.length c8) (putAll im (l.take k))) => imgFits_any (.slice A8 im.length c8) (putAll im (l.take k)) x.vol x.start Ad x.data.length dcap W _ hW (by omega) hs64
        rw [hlp] at hfit
        have HI := Lib.hid hI
        have HPR := Lib.hid hpr
        have HX := Lib.hid hx
        have HLP := Lib.hid hlp
        clear hI hpr hx hlp
        by_cases hf : fitW (lens im) x = 0
        · have hf' : fitsI (lens im) x.vol x.start x.data.length = 0 := hf
          rw [hf'] at hfit
          have hf2 : fitW (lens (putAll im (l.take k))) x = 0 := by rw [HLP.out]; exact hf
          obtain ⟨j, d, s0, j1, j2, j3, j4, j5⟩ := fitW_in hf2
          obtain ⟨xv, xs, xd⟩ := x
          simp only at *
          subst j1 j3
          have hxl : 0 < xd.length := List.length_pos_iff.2 j5
          obtain ⟨ad, rfl⟩ : ∃ ad, Ad = some ad := by
            obtain ⟨A', c', hv', _, _, hx'⟩ := hd
            injection hv' with e1 e2 e3
            obtain ⟨b', o', hA', _⟩ := hx' hxl
            exact ⟨_, e1.trans hA'⟩
          have hpl : (putAll im (l.take k)).length = im.length := by
            have := congrArg List.length HLP.out
            simpa [lens] using this
          obtain ⟨g0, cap0, dvj, hve, hcd, hod, hg0, hput⟩ := hown2.at_ j2
          have hj8 : j < im.length := by rw [← hpl]; exact (List.getElem?_eq_some_iff.1 j2).1
          injection hve with e1 e2 e3
          subst e1
          subst e3
          clear e2
          obtain ⟨g, capd, rfl, hbg, hgl, hnl, hml, _⟩ := own_ptr hod (by intro e; rw [e] at j4; simp only [List.length_nil] at j4; omega)
          unfold maxLen at hml
          have hds : s0 ≤ d.length := by omega
          have hydx := hd.below hb
          have hcs : ¬ capd = s0 := by omega
          have HPUT := Lib.hid hput
          have HJ2 := Lib.hid j2
          clear hput hpl j2 hc8
          go_wp2_with (first | (go_at_call 65; refine (hfit _ hrd).mono ?_; rintro e w3 ⟨rfl, hb3⟩; obtain ⟨q0, q1, q2, q3, q4, q5⟩ := (hbox.below hb3).three; have q6 := (hb3.cell (p := ⟨g0, j, none⟩) hg0).trans hcd))
          have hod3 := (hod.below hb3).drew
          have hyd3 := ((hydx.below hA).below hb3).below (Below.refl w3.heap.size w3).drew
          have HB := below_then (hb.alloc hbs _) (by simp; omega) hb3
          obtain ⟨w4, r4, o4, g4⟩ := OwnSl.copied (P := Try.prog) (enc := secCells) (k := 8) (by intro y; rfl) (by omega) (fun y u hu => RSec.one (w := w3) (T := fun _ => True) (x := y) rfl u hu) hod3 (off := s0) (dLen := d.length - s0) (dCap := capd - s0) hyd3 j4 (by omega) 33 33 3 Try.underlying33 infoS8
          go_still_tail 10, (by kernel_rfl)
          change wpList _ _ _ _ _ w3.drew
          go_wp2_with (first | (at_builtin; refine wpList_copyS rfl _ _ 33 33 rfl rfl rfl r4 ?_))
          go_roundw
          case rel =>
            have gd := HB.drew
            refine ⟨k + 1, by omega, by go_num, ?_, ?_, ?_, ?_⟩
            · rw [putAll_take HX.out, putW_eq rfl HJ2.out rfl]
              exact HPUT.out w4 _ g rfl o4 ((grown_below hb3.drew (some g)).andThen g4 (fun j e => .inr e))
            · rw [HI.out, fitAll_step HX.out, if_pos hf]
            · intro y hy
              obtain ⟨hkk, hxx⟩ := List.getElem?_eq_some_iff.1 HX.out
              rw [List.take_succ_eq_append_getElem hkk] at hy
              rcases List.mem_append.1 hy with hy | hy
              · exact HPR.out y hy
              · obtain rfl := List.mem_singleton.1 hy; rw [hxx]; exact hf
            · exact gd.grown g4 gd.size (fun i e => by injection e with e; omega)
          case measure => simp [intOf]; omega
        · have hf' : (fitsI (lens im) x.vol x.start x.data.length != 0) = true := by simpa using (show ¬ fitsI (lens im) x.vol x.start x.data.length = 0 from hf)
          go_wp2_with (first | (go_at_call 65; refine (hfit _ hrd).mono ?_; rintro e w3 ⟨rfl, hb3⟩))
          have hfe : apE im l = fitsI (lens im) x.vol x.start x.data.length := by rw [HAE.out, HI.out, fitAll_step HX.out, if_neg hf]; rfl
          refine bodyPost_ret (v := .tuple #[.slice none 0 0, .int .i64 k, .int .i64 (apE im l)]) (by simp [results, Try.results34, go_sem, hfe]) rfl ⟨_, _, rfl, ?_, below_then (hb.alloc hbs _) (by simp; omega) hb3⟩
          unfold apR
          rw [if_neg (by rw [hfe]; exact hf)]
          exact RSl.nil _ _
      · obtain rfl : k = l.length := by omega
        have hfe : apE im l = 0 := by rw [HAE.out, hI, List.drop_length]; rfl
        have HFE := Lib.hid hfe
        clear hfe hI
        rw [List.take_length] at hown
        go_wp2
        refine bodyPost_ret (v := .tuple #[.slice A8 im.length c8, .int .i64 0, .int .i64 (apE im l)]) (by simp [results, Try.results34, go_sem, HFE.out]) rfl ⟨_, _, rfl, ?_, hb⟩
        unfold apR
        rw [if_pos HFE.out]
        exact hown.reads (fun b hb => by omega)
  · have hae : apE im l = sizesI (lens im) := by unfold apE; rw [if_neg hz]
    have hz' : (sizesI (lens im) != 0) = true := by simpa using hz
    go_enter Try.func34, Try.ntmps34
    go_wp2_with fail
    refine (imgCheck_any vi im w S2 hi hl).mono ?_
    rintro e w1 ⟨rfl, B1⟩
    go_wp2
    refine bodyPost_ret (v := .tuple #[.slice none 0 0, .int .i64 0, .int .i64 (apE im l)]) (by simp [results, Try.results34, go_sem, hae]) rfl ⟨_, _, rfl, ?_, B1⟩
    unfold apR
    rw [if_neg (by rw [hae]; exact hz)]
    exact RSl.nil _ _
end Go.Proofs.Ytoifinmcoldidaa
