import Derived.Test.YtccbbecfmfldbaaQ4
import Derived.Shelf.SlSortCmp.WholeK
import Derived.Shelf.SlSortCmp.NoneTotal
set_option linter.unusedVariables false
set_option linter.unusedSimpArgs false
namespace Go.Mm
open Go.RowKit Go.Proofs
open Go.Sort hiding Below

/-! ### what the sort does to a row of the call's own -/
theorem grown_sortWorldK {α : Type} [Inhabited α] (enc : α → List Value) (k : Nat) (w : World) (g off m : Nat) (dk : Array α) (os : Array Obj) : w.grownBy (sortWorldK enc k w g off m dk os) (some g) := by
  unfold sortWorldK
  have h1 : w.grownBy (putRowK enc k (Sort.ahead w m) g off dk) (some g) := by
    refine ⟨rfl, rfl, rfl, by simp [putRowK, Sort.putRow, Sort.mapBlock, Sort.ahead], fun i _ hi => ?_⟩
    simp only [putRowK, Sort.putRow, Sort.mapBlock, Sort.ahead, Array.getElem?_modify]
    rw [if_neg (fun e => hi (by rw [e]))]
  exact ⟨h1.os, h1.tape, h1.output, by have := h1.size; simp [Sort.grow] at this ⊢; omega, fun i hi hne => (Sort.heap_grow_old _ _ (Nat.lt_of_lt_of_le hi h1.size)).trans (h1.block i hi hne)⟩

theorem flatK_toList {α : Type} [Inhabited α] (enc : α → List Value) (k : Nat) (hk : ∀ x, (enc x).length = k) (h0 : 0 < k) (xs : List α) (t : Nat) (ht : t < xs.length * k) : (flatK enc k xs.toArray)[t]! = ((xs.map enc).flatten)[t]?.getD default := by
  rw [get_flatK enc k xs.toArray t (by simpa using ht)]
  have hlt : t / k < xs.length := (Nat.div_lt_iff_lt_mul h0).2 ht
  have hm : t % k < k := Nat.mod_lt _ h0
  have hx : (xs.map enc)[t / k]? = some (enc xs[t / k]) := by simp [hlt]
  have := flatten_get (k := k) (cells := xs.map enc) (by intro cs hc; obtain ⟨x, _, rfl⟩ := List.mem_map.1 hc; exact hk x) hx (t % k) hm
  rw [Nat.div_add_mod' t k] at this
  rw [this]
  have e1 : xs.toArray[t / k]! = xs[t / k] := by simp [hlt]
  rw [e1]
  simp [hk, hm]

section
variable {α : Type} [Inhabited α] {P : Program} {ρ : Go.Shelf.Ren} {e : TypeId} {k : Nat} {enc : α → List Value} {w : World} {base : Nat} {S : Nat → Prop} {A : Option Addr} {cap : Nat} {xs : List α}
def RPure (enc : α → List Value) : ERel α := fun _ _ cs x => cs = enc x
instance : Steady (RPure enc) := ⟨fun h _ => h, fun h _ => h⟩

theorem holdsK_own (hk : ∀ x, (enc x).length = k) (h0 : 0 < k) (h : OwnSl e k (RPure enc) w base S (.slice A xs.length cap) xs) (hne : xs ≠ []) : ∃ g, A = some ⟨g, 0, none⟩ ∧ g < w.heap.size ∧ HoldsK enc k w g 0 xs.toArray ∧ xs.length ≤ cap ∧ cap ≤ maxLen := by
  obtain ⟨c, h1, h2, h3, h4⟩ := h
  have hc : c = xs.map enc := by
    refine List.ext_getElem (by simpa using h2) fun i hi hi' => ?_
    have := h4 i _ _ (List.getElem?_eq_getElem hi) (List.getElem?_eq_getElem (by omega))
    simpa [RPure] using this
  subst hc
  rcases h1.2 with ⟨hv, h0⟩ | ⟨g, cap', cur, hv, hbg, hg, hn, hm, hcs, htake⟩
  · exact absurd (List.eq_nil_of_length_eq_zero h0) hne
  · injection hv with e1 e2 e3
    subst e1; subst e3
    refine ⟨g, rfl, (Array.getElem?_eq_some_iff.1 hg).1, fun j hj => ?_, hn, hm⟩
    have hj' : j < xs.length * k := by simpa [flatK] using hj
    have hlen := flatten_len (k := k) h3
    rw [List.length_map] at hlen
    have hjl : j < ((xs.map enc).flatten).length := by omega
    refine ⟨?_, by simp [World.frozen?, hg]⟩
    have := h1.cells (g := g) rfl j _ (List.getElem?_eq_getElem hjl)
    have e1 : (⟨g, 0, none⟩ : Addr).add j = ⟨g, 0 + j, none⟩ := by unfold Addr.add; split <;> simp_all
    rw [e1] at this
    rw [this, flatK_toList enc k hk h0 xs j hj', List.getElem?_eq_getElem hjl]
    rfl

theorem reads_holdsK (hk : ∀ x, (enc x).length = k) {w' : World} {g : Nat} {ys : List α} (h : HoldsK enc k w' g 0 ys.toArray) (hlt : g < w'.heap.size) (hn : ys.length ≤ cap) (hm : cap ≤ maxLen) {T : Nat → Prop} (hT : T g) :
    RSl k (RPure enc) w' T (.slice (some ⟨g, 0, none⟩) ys.length cap) ys := by
  refine ⟨_, cap, rfl, hn, hm, fun _ => ⟨g, 0, rfl, hlt, hT, fun j x hj => ⟨enc x, hk x, fun i hi => ?_, rfl⟩⟩⟩
  obtain ⟨hjl, rfl⟩ := List.getElem?_eq_some_iff.1 hj
  have := (HoldsK.cell h (i := j) (c := i) (by simpa using hjl) hi).1
  rw [this]
  have e1 : ys.toArray[j]! = ys[j] := by simp [hjl]
  rw [e1]
  simp [hk, hi]

theorem sort_own (L : SlLaysF0.n6 P ρ) (aE : ∀ w, (isAgg (ρ.t 24)).run P w = .ok true w) (zE : ∀ w, (Go.sizeOf (ρ.t 24)).run P w = .ok k w) (hk : ∀ x, (enc x).length = k) (h0 : 0 < k) (h1 : ∀ x, ∀ v ∈ enc x, v.oneCell' = true) (cf : α → α → Int) (hO : SWO (ltOf cf)) (f : Nat)
    (ef : ∀ args w, (callFunc f args).run P w = .ok (.enter f args) w)
    (hcmp : ∀ (x y : α) (W : World), Calls P f #[.agg (enc x).toArray, .agg (enc y).toArray] W fun e w' => e = .returned (.int .i64 (cf x y)) ∧ ∃ q os', w' = Sort.grow (W.drewN q) os')
    (h : OwnSl e k (RPure enc) w base S (.slice A xs.length cap) xs) (hsz : xs.length < 4611686018427387904) :
    Calls P (ρ.f 6) #[.slice A xs.length cap, .func (.func f) #[] #[]] w fun en w' => en = .returned (.tuple #[]) ∧ ∃ ys : List α, ys.Perm xs ∧ ys.Pairwise (fun x y => ltOf cf y x = false) ∧ ys.length = xs.length ∧
      RSl k (RPure enc) w' (fun b => A.map (·.block) = some b) (.slice A xs.length cap) ys ∧ w.grownBy w' (A.map (·.block)) := by
  by_cases hne : xs = []
  · subst hne
    refine (AnyF.slices_SortFunc_none { L with } A cap _ w).mono ?_
    rintro en w' ⟨rfl, rfl⟩
    obtain ⟨A', cap', hv, hc, hm⟩ := h.val
    injection hv with e1 e2 e3
    subst e3
    exact ⟨rfl, [], .refl _, .nil, rfl, ⟨A, cap, rfl, by simp, hm, by simp⟩, ⟨rfl, rfl, rfl, Nat.le_refl _, fun _ _ _ => rfl⟩⟩
  · obtain ⟨g, rfl, hg, hH, hn, hm⟩ := holdsK_own hk h0 h hne
    have := AnyQ.slices_SortFunc L k aE zE enc hk h1 cf hO f #[] g 0 cap xs.toArray w ef (fun m os dk _ x y => hcmp x y _) hH hg (by simpa using hsz)
    simp only [List.size_toArray] at this
    refine this.mono ?_
    rintro en w' ⟨rfl, d', n, os, hp, hs, rfl⟩
    obtain ⟨p1, _, p3⟩ := hp
    have hsize : d'.size = xs.length := by simpa using p1
    have hl : d'.toList.length = xs.length := by simpa using hsize
    have hperm : d'.toList.Perm xs := by
      have e1 : (d'.extract 0 xs.length) = d' := by rw [← hsize]; simp
      have e2 : (xs.toArray.extract 0 xs.length) = xs.toArray := by simp
      rw [e1, e2] at p3
      simpa using p3
    refine ⟨rfl, d'.toList, hperm, ?_, hl, ?_, grown_sortWorldK enc k w g 0 n d' os⟩
    · rw [List.pairwise_iff_getElem]
      intro i j hi hj hij
      have := hs i j (Nat.zero_le _) hij (by omega)
      have e1 : d'[j]! = d'.toList[j] := by simp at hj; simp [hj]
      have e2 : d'[i]! = d'.toList[i] := by simp at hi; simp [hi]
      rw [e1, e2] at this
      exact this
    · have hH' := holdsK_sortWorldK_c enc k w g 0 xs.toArray d' n os hH hg (by simpa using hsize)
      have := reads_holdsK (cap := cap) hk (ys := d'.toList) (T := fun b => (some (⟨g, 0, none⟩ : Addr)).map (·.block) = some b) (by simpa using hH') (Nat.lt_of_lt_of_le hg (size_sortWorldK_c enc k w g 0 n d' os)) (by omega) hm rfl
      rwa [hl] at this
end
end Go.Mm

set_option linter.unusedVariables false
set_option linter.unusedSimpArgs false
namespace Go.Mm
open Go.RowKit Sb

/-! ### a list of writes under way: each one's data is a row of its own, which may grow -/
def wrCells (x : Wr) (dv : Value) : List Value := [.int .i64 x.vol, .int .i64 x.start, dv]
def outCells (out : List Wr) (dvs : List Value) : List (List Value) := List.zipWith wrCells out dvs
def Outs (eW eS : TypeId) (w : World) (base : Nat) (v : Value) (out : List Wr) (dvs : List Value) : Prop :=
  dvs.length = out.length ∧ w.ownsRow base eW 3 v out.length (outCells out dvs).flatten ∧
    (∀ (j : Nat) (dv : Value) (x : Wr), dvs[j]? = some dv → out[j]? = some x → OwnSl eS 8 RSec w base (fun _ => False) dv x.data) ∧ dvs.Pairwise (fun a b => a.ownBlock = none ∨ a.ownBlock ≠ b.ownBlock)

theorem own_type_ne {w : World} {b b' : Nat} {e e' : TypeId} {s s' n n' : Nat} {v v' : Value} {xs xs' : List Value} (h : w.ownsRow b e s v n xs) (h' : w.ownsRow b' e' s' v' n' xs') (hne : e ≠ e') : v.ownBlock = none ∨ v.ownBlock ≠ v'.ownBlock := by
  rcases h.2 with ⟨rfl, _⟩ | ⟨g, cap, cur, rfl, _, hh, _⟩
  · exact .inl rfl
  · refine .inr fun hk => ?_
    rcases h'.2 with ⟨rfl, _⟩ | ⟨g', cap', cur', rfl, _, hh', _⟩
    · simp [Value.ownBlock] at hk
    · have : g = g' := by simpa [Value.ownBlock] using hk
      subst this
      rw [hh] at hh'
      injection hh' with hh'
      injection hh' with _ ht
      exact hne ht
theorem own_blk_ne {w : World} {base : Nat} {e t : TypeId} {size n g : Nat} {v : Value} {xs : List Value} {cs : Array Value} (h : w.ownsRow base e size v n xs) (hg : Blk w g t cs) (hne : e ≠ t) : v.ownBlock ≠ some g := by
  rcases h.2 with ⟨rfl, _⟩ | ⟨g', cap, cur, rfl, _, hh, _⟩
  · simp [Value.ownBlock]
  · intro he
    have : g' = g := by simpa [Value.ownBlock] using he
    subst this
    exact Blk.ne_ (t := e) hh hg hne rfl

theorem outCells_len {out : List Wr} {dvs : List Value} (h : dvs.length = out.length) : (outCells out dvs).length = out.length ∧ ∀ cs ∈ outCells out dvs, cs.length = 3 := by
  refine ⟨by simp [outCells, h], fun cs hc => ?_⟩
  unfold outCells at hc
  obtain ⟨i, hi, rfl⟩ := List.getElem_of_mem hc
  simp [wrCells]
theorem outCells_get {out : List Wr} {dvs : List Value} {j : Nat} {x : Wr} {dv : Value} (hx : out[j]? = some x) (hd : dvs[j]? = some dv) : (outCells out dvs)[j]? = some (wrCells x dv) := by
  unfold outCells
  rw [List.getElem?_zipWith, hx, hd]
theorem outCells_snoc (out : List Wr) (dvs : List Value) (h : dvs.length = out.length) (x : Wr) (dv : Value) : outCells (out ++ [x]) (dvs ++ [dv]) = outCells out dvs ++ [wrCells x dv] := by
  unfold outCells
  rw [List.zipWith_append h.symm]
  rfl

section
variable {eW eS : TypeId} {w w' : World} {base : Nat} {v : Value} {out : List Wr} {dvs : List Value}
theorem Outs.nil (w : World) : Outs eW eS w base (.slice none 0 0) [] [] := ⟨rfl, World.ownsRow_nil w base eW 3, by simp, .nil⟩
theorem Outs.below (h : Outs eW eS w base v out dvs) (hb : Below w.heap.size w w') : Outs eW eS w' base v out dvs :=
  ⟨h.1, h.2.1.kept (grown_below hb none) (by cases v.ownBlock <;> simp), fun j dv x h1 h2 => (h.2.2.1 j dv x h1 h2).below hb, h.2.2.2⟩
theorem Outs.alloc (h : Outs eW eS w base v out dvs) (o : Obj) : Outs eW eS (w.alloc o) base v out dvs := h.below ((Below.refl _ _).alloc (Nat.le_refl _) o)
theorem Outs.drew (h : Outs eW eS w base v out dvs) : Outs eW eS w.drew base v out dvs := h.below (Below.refl _ _).drew
theorem Outs.kept_blk {w' : World} (h : Outs eW eS w base v out dvs) (hg : w.grownBy w' none) : Outs eW eS w' base v out dvs := h.below ⟨hg.os, hg.tape, hg.output, hg.size, fun k hk => hg.block k hk (by simp)⟩
theorem Outs.lt (h : Outs eW eS w base v out dvs) : ∀ g, v.ownBlock = some g → base ≤ g ∧ g < w.heap.size := h.2.1.lt
theorem Outs.val (h : Outs eW eS w base v out dvs) : ∃ A cap, v = .slice A out.length cap ∧ out.length ≤ cap ∧ cap ≤ maxLen := by
  rcases h.2.1.2 with ⟨rfl, h0⟩ | ⟨g, cap, cur, rfl, _, _, h1, h2, _⟩
  · exact ⟨none, 0, by rw [h0], by omega, by simp⟩
  · exact ⟨_, cap, rfl, h1, h2⟩
/-- A store into a block that is none of these. -/
theorem Outs.setCell (h : Outs eW eS w base v out dvs) {p : Addr} (t : TypeId) {cs : Array Value} (hp : Blk w p.block t cs) (h1 : eW ≠ t) (h2 : eS ≠ t) (u : Value) : Outs eW eS (w.setCell p u) base v out dvs := by
  have hg : w.grownBy (w.setCell p u) (some p.block) := ⟨rfl, rfl, rfl, by simp [World.setCell], fun i _ hi => Below.heap_setCell _ _ _ _ (fun e => hi (by rw [e]))⟩
  refine ⟨h.1, h.2.1.kept hg (.inr (own_blk_ne h.2.1 hp h1)), fun j dv x hj hx => ?_, h.2.2.2⟩
  obtain ⟨c, o1, o2, o3, o4⟩ := h.2.2.1 j dv x hj hx
  exact ⟨c, o1.kept hg (.inr (own_blk_ne o1 hp h2)), o2, o3, o4⟩

/-- One write more, without data. -/
theorem wpList_push {P : Program} {ops : Array Oper} {rest : List Oper} {o : Oper} {a : Act} {Q : Exit → Act → World → Prop} (hgd : o.guard = none) (s y : Operand) (t : TypeId)
    (ho : o.op = .call { callee := .builtin .append, args := #[s, y], argTypes := #[t, t] })
    (eW eS : TypeId) (z : Value) (bytes : Nat) (ht : P.underlying t = some (.slice eW)) (hinfo : (P.info? eW).map (fun i => (i.zero, i.size, i.bytes)) = some (some z, 3, bytes)) (hzs : z.cells.size = 3)
    (hne : eW ≠ eS) (base : Nat) (v : Value) (out : List Wr) (dvs : List Value) (hs : a.eval s = v) (hown : Outs eW eS w base v out dvs)
    (ad : Addr) (x : Wr) (hxd : x.data = []) (hx : a.eval y = .slice (some ad) 1 1) (hcs : ∀ j u, (wrCells x (.slice none 0 0))[j]? = some u → w.cell? (ad.add j) = some u)
    (hbytes : (out.length + 1) * bytes ≤ 140737488355328) (hb0 : 0 < bytes) (hbase : base ≤ w.heap.size)
    (h : ∀ g cap w', Outs eW eS w' base (.slice (some ⟨g, 0, none⟩) (out.length + 1) cap) (out ++ [x]) (dvs ++ [.slice none 0 0]) → w.grownBy w' v.ownBlock → base ≤ g → wpList P ops Q rest (a.put o.dst (.slice (some ⟨g, 0, none⟩) (out.length + 1) cap)) w') :
    wpList P ops Q (o :: rest) a w := by
  obtain ⟨i0, hi, hzz⟩ := Option.map_eq_some_iff.1 hinfo
  simp only [Prod.mk.injEq] at hzz
  obtain ⟨hz0, hz1, hz2⟩ := hzz
  obtain ⟨h1, h2, h3, h4⟩ := hown
  have hlen : out.length + 1 ≤ 140737488355328 := Nat.le_trans (Nat.le_mul_of_pos_right _ hb0) hbytes
  refine wpList_append_own_at w hgd s y t ho base eW i0 z 3 bytes ht hi hz0 hz1 hz2 hzs (by omega) v out.length (outCells out dvs).flatten hs h2 ad 1 1 (wrCells x (.slice none 0 0)) hx rfl hcs
    (by intro u hu; simp [wrCells] at hu; rcases hu with rfl | rfl | rfl <;> rfl) (by unfold maxLen; omega) hbytes hbase ?_
  intro v' w' hown' hg _ hat
  have hform := hown'.form (by omega)
  obtain ⟨g, cap, rfl, hgb, _⟩ := hform
  refine h g cap w' ⟨by simp [h1], ?_, ?_, ?_⟩ hg hgb
  · rw [outCells_snoc out dvs h1]; simpa using hown'
  · intro j dv y' hj hy
    by_cases hjl : j < out.length
    · rw [List.getElem?_append_left (by omega)] at hj
      rw [List.getElem?_append_left hjl] at hy
      obtain ⟨c, o1, o2, o3, o4⟩ := h3 j dv y' hj hy
      have : dv.ownBlock = none ∨ dv.ownBlock ≠ v.ownBlock := own_type_ne o1 h2 hne.symm
      exact ⟨c, o1.kept hg this, o2, o3, o4⟩
    · rw [List.getElem?_append_right (by omega)] at hj
      rw [List.getElem?_append_right (by omega)] at hy
      have e1 : j - out.length = 0 := by
        have := (List.getElem?_eq_some_iff.1 hy).1; simp at this; omega
      rw [h1, e1] at hj
      rw [e1] at hy
      simp at hj hy
      subst hj; subst hy
      rw [hxd]
      exact OwnSl.nil _
  · rw [List.pairwise_append]
    refine ⟨h4, by simp, fun a ha b hb => ?_⟩
    obtain rfl := List.mem_singleton.1 hb
    cases hab : a.ownBlock with
    | none => exact .inl rfl
    | some g' => exact .inr (by simp [Value.ownBlock])

/-- The last write's data, as the walk reads it. -/
theorem Outs.last {out : List Wr} {x : Wr} {dvs : List Value} (h : Outs eW eS w base v (out ++ [x]) dvs) : ∃ dvs' dv g cap, dvs = dvs' ++ [dv] ∧ dvs'.length = out.length ∧ v = .slice (some ⟨g, 0, none⟩) (out.length + 1) cap ∧ base ≤ g ∧ g < w.heap.size ∧
    w.cell? ⟨g, out.length * 3 + 2, none⟩ = some dv ∧ w.frozen? ⟨g, out.length * 3 + 2, none⟩ = false ∧ OwnSl eS 8 RSec w base (fun _ => False) dv x.data ∧ (∃ cs fr, w.heap[g]? = some (.cells cs eW fr)) := by
  obtain ⟨h1, h2, h3, h4⟩ := h
  have hne : dvs ≠ [] := by intro e; subst e; simp at h1
  obtain ⟨dvs', dv, rfl⟩ : ∃ d' d, dvs = d' ++ [d] := ⟨dvs.dropLast, dvs.getLast hne, (List.dropLast_concat_getLast hne).symm⟩
  have hl : dvs'.length = out.length := by simpa using h1
  rcases h2.2 with ⟨_, h0⟩ | ⟨g, cap, cur, rfl, hbg, hg, hn, hm, hcs, htake⟩
  · simp at h0
  · have hlen : (out ++ [x]).length = out.length + 1 := by simp
    have hget := flatten_get (outCells_len h1).2 (outCells_get (j := out.length) (x := x) (dv := dv) (by simp) (by rw [← hl]; simp)) 2 (by omega)
    have hcell := h2.cells (g := g) rfl (out.length * 3 + 2) dv (by rw [hget]; rfl)
    rw [Addr.add_lit] at hcell
    refine ⟨dvs', dv, g, cap, rfl, hl, by rw [hlen], hbg, (Array.getElem?_eq_some_iff.1 hg).1, by simpa using hcell, by simp [World.frozen?, hg], h3 out.length dv x (by rw [← hl]; simp) (by simp), ⟨_, _, hg⟩⟩

/-- The last write's data has grown by a sector, and its new slice has been stored. -/
theorem Outs.grow {out : List Wr} {x : Wr} {dvs' : List Value} {dv dv' : Value} {g n cap : Nat} {s : Sec} (h : Outs eW eS w base (.slice (some ⟨g, 0, none⟩) n cap) (out ++ [x]) (dvs' ++ [dv])) (hl : dvs'.length = out.length) (hne : eW ≠ eS)
    (hg : w.grownBy w' dv.ownBlock) (hat : dv'.ownBlock = dv.ownBlock ∨ ∃ k, dv'.ownBlock = some k ∧ w.heap.size ≤ k) (hown : OwnSl eS 8 RSec w' base (fun _ => False) dv' (x.data ++ [s])) :
    Outs eW eS (w'.setCell ⟨g, out.length * 3 + 2, none⟩ dv') base (.slice (some ⟨g, 0, none⟩) n cap) (out ++ [⟨x.vol, x.start, x.data ++ [s]⟩]) (dvs' ++ [dv']) := by
  obtain ⟨h1, h2, h3, h4⟩ := h
  have hdv := h3 out.length dv x (by rw [← hl]; simp) (by simp)
  obtain ⟨cdv, hdvr⟩ := hdv.row
  have hvne : (Value.slice (some ⟨g, 0, none⟩) n cap).ownBlock = none ∨ (Value.slice (some ⟨g, 0, none⟩) n cap).ownBlock ≠ dv.ownBlock := own_type_ne h2 hdvr hne
  have h2' := h2.kept hg hvne
  obtain rfl : n = (out ++ [x]).length := by
    rcases h2.2 with ⟨_, h0⟩ | ⟨_, _, _, hv, _⟩
    · simp at h0
    · injection hv
  have hst := h2'.stored (out.length * 3 + 2) dv'
  obtain ⟨hst1, hst2⟩ := hst
  have hset : (outCells (out ++ [x]) (dvs' ++ [dv])).flatten.set (out.length * 3 + 2) dv' = (outCells (out ++ [⟨x.vol, x.start, x.data ++ [s]⟩]) (dvs' ++ [dv'])).flatten := by
    rw [outCells_snoc _ _ hl, outCells_snoc _ _ hl, List.flatten_append, List.flatten_append]
    have e1 : (outCells out dvs').flatten.length = out.length * 3 := by rw [flatten_len (outCells_len hl).2, (outCells_len hl).1]
    rw [List.set_append_right _ _ (by omega)]
    rw [e1, show out.length * 3 + 2 - out.length * 3 = 2 by omega]
    rfl
  rw [hset] at hst1
  have hlen : (out ++ [x]).length = (out ++ [(⟨x.vol, x.start, x.data ++ [s]⟩ : Wr)]).length := by simp
  rw [hlen] at hst1 ⊢
  refine ⟨by simp [hl], hst1, fun j d y hj hy => ?_, ?_⟩
  · by_cases hjl : j < out.length
    · rw [List.getElem?_append_left (by omega)] at hj
      rw [List.getElem?_append_left hjl] at hy
      obtain ⟨c, o1, o2, o3, o4⟩ := h3 j d y (by rw [List.getElem?_append_left (by omega)]; exact hj) (by rw [List.getElem?_append_left hjl]; exact hy)
      have hpw := (List.pairwise_append.1 h4).2.2 d (List.mem_of_getElem? hj) dv (by simp)
      have o1' := o1.kept hg hpw
      have : d.ownBlock = none ∨ d.ownBlock ≠ some g := own_type_ne o1' h2' hne.symm
      exact ⟨c, o1'.kept hst2 this, o2, o3, o4⟩
    · rw [List.getElem?_append_right (by omega)] at hj
      rw [List.getElem?_append_right (by omega)] at hy
      have e1 : j - out.length = 0 := by
        have := (List.getElem?_eq_some_iff.1 hy).1; simp at this; omega
      rw [hl, e1] at hj
      rw [e1] at hy
      simp at hj hy
      subst hj; subst hy
      obtain ⟨c, o1, o2, o3, o4⟩ := hown
      have : dv'.ownBlock = none ∨ dv'.ownBlock ≠ some g := own_type_ne o1 h2' hne.symm
      exact ⟨c, o1.kept hst2 this, o2, o3, o4⟩
  · rw [List.pairwise_append] at h4 ⊢
    refine ⟨h4.1, by simp, fun a ha b hb => ?_⟩
    obtain rfl := List.mem_singleton.1 hb
    rcases hat with hat | ⟨k, hk, hge⟩
    · rw [hat]; exact h4.2.2 a ha dv (by simp)
    · cases hab : a.ownBlock with
      | none => exact .inl rfl
      | some g' =>
        right
        rw [hk]
        obtain ⟨j, hj, rfl⟩ := List.getElem_of_mem ha
        have := (h3 j _ ((out ++ [x])[j]'(by simp; omega)) (by rw [List.getElem?_append_left hj]; exact List.getElem?_eq_getElem hj) (List.getElem?_eq_getElem _)).lt g' hab
        intro e; injection e with e; omega

theorem Outs.reads (h : Outs eW eS w base v out dvs) (h64 : ∀ x ∈ out, In64 x.vol ∧ In64 x.start) {T : Nat → Prop} (hT : ∀ b, base ≤ b → T b) : RSl 3 RWr w T v out := by
  obtain ⟨h1, h2, h3, h4⟩ := h
  obtain ⟨l1, l2⟩ := outCells_len h1
  rcases h2.2 with ⟨rfl, h0⟩ | ⟨g, cap, cur, rfl, hbg, hg, hn, hm, hcs, htake⟩
  · obtain rfl : out = [] := List.eq_nil_of_length_eq_zero h0
    exact RSl.nil _ _
  · refine ⟨_, cap, rfl, hn, hm, fun _ => ⟨g, 0, rfl, (Array.getElem?_eq_some_iff.1 hg).1, hT g hbg, fun j x hj => ?_⟩⟩
    have hjl : j < out.length := (List.getElem?_eq_some_iff.1 hj).1
    have hdj : dvs[j]? = some (dvs[j]'(by omega)) := List.getElem?_eq_getElem (by omega)
    have hc := outCells_get hj hdj
    have hx := h64 x (List.mem_of_getElem? hj)
    refine ⟨wrCells x dvs[j], rfl, fun i hi => ?_, hx.1, hx.2, _, rfl, (h3 j _ x hdj hj).reads fun b hb hh => ?_⟩
    · rw [← flatten_get l2 hc i hi]
      have hlt : j * 3 + i < (outCells out dvs).flatten.length := by rw [flatten_len l2, l1]; omega
      have := h2.cells (g := g) rfl (j * 3 + i) _ (List.getElem?_eq_getElem hlt)
      rw [Addr.add_lit] at this
      rw [show 0 + j * 3 + i = 0 + (j * 3 + i) by omega, this, List.getElem?_eq_getElem hlt]
    · rcases hh with hh | hh
      · exact hh.elim
      · exact hT b ((h3 j _ x hdj hj).lt b hh.symm).1
end
end Go.Mm
