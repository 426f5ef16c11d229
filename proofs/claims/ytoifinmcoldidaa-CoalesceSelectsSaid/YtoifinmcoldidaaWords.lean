import Derived.Test.YtoifinmcoldidaaRows
import Derived.KernelRfl
set_option maxRecDepth 100000
namespace Go.Proofs.Ytoifinmcoldidaa
open Go
def sp : Char := Char.ofNat 32
def glue : List (List Char) → List Char
  | [] => []
  | [w] => w
  | w :: v :: ws => w ++ sp :: glue (v :: ws)
theorem words_nosp : ∀ {w r : List Char}, (∀ c ∈ w, c ≠ sp) → ∀ {h : List Char} {t : List (List Char)}, wordsSigns r = h :: t → wordsSigns (w ++ r) = (w ++ h) :: t
  | [], r, _, h, t, e => e
  | c :: w, r, hc, h, t, e => by
    have ih := words_nosp (w := w) (r := r) (fun x hx => hc x (by simp [hx])) e
    have hne : c ≠ sp := hc c (by simp)
    rw [List.cons_append, wordsSigns, ih]
    · rfl
    · intro e; exact hne e
theorem words_glue : ∀ {w : List Char} {ws : List (List Char)}, (∀ v ∈ w :: ws, ∀ c ∈ v, c ≠ sp) → wordsSigns (glue (w :: ws)) = w :: ws
  | w, [], h => by
    have := words_nosp (w := w) (r := []) (h w (by simp)) (h := []) (t := []) rfl
    simpa [glue] using this
  | w, v :: ws, h => by
    have ih := words_glue (w := v) (ws := ws) (fun x hx => h x (by simp at hx; simp [hx]))
    have e : wordsSigns (sp :: glue (v :: ws)) = [] :: (v :: ws) := by
      show [] :: wordsSigns (glue (v :: ws)) = _
      rw [ih]
    have := words_nosp (w := w) (r := sp :: glue (v :: ws)) (h w (by simp)) e
    simpa [glue] using this
def ioWords : List (List Char) := ([[104, 97, 114, 110, 101, 115, 115], [55, 98, 56, 48, 101, 102, 51, 100, 51, 57, 98, 49, 57, 49, 51, 56, 48, 101, 102, 54, 98, 53, 54, 98, 51, 102, 100, 49, 57, 56, 53, 48, 54, 97, 53, 52, 55, 54, 50, 97, 98, 51, 101, 56, 57, 52, 49, 49, 57, 55, 48, 54, 99, 57, 102, 99, 53, 55, 98, 100, 54, 98, 102, 55], [99, 117, 116], [97, 116], [115, 116, 97, 110, 100, 98, 121, 47, 115, 116, 97, 110, 100, 98, 121, 108, 97, 119, 50, 50, 46, 67, 111, 97, 108, 101, 115, 99, 101, 70, 111, 108, 100, 115], [115, 116, 97, 110, 100, 98, 121, 47, 115, 116, 97, 110, 100, 98, 121, 108, 97, 119, 50, 50, 46, 67, 111, 97, 108, 101, 115, 99, 101, 77, 101, 114, 103, 101, 115], [115, 116, 97, 110, 100, 98, 121, 47, 115, 116, 97, 110, 100, 98, 121, 108, 97, 119, 50, 50, 46, 67, 111, 97, 108, 101, 115, 99, 101, 69, 120, 99, 104, 97, 110, 103, 101, 115], [115, 116, 97, 110, 100, 98, 121, 47, 115, 116, 97, 110, 100, 98, 121, 108, 97, 119, 50, 50, 46, 67, 111, 97, 108, 101, 115, 99, 101, 65, 115, 115, 111, 99, 105, 97, 116, 101, 115], [115, 116, 97, 110, 100, 98, 121, 47, 115, 116, 97, 110, 100, 98, 121, 108, 97, 119, 50, 50, 46, 67, 111, 97, 108, 101, 115, 99, 101, 67, 104, 101, 99, 107, 115], [115, 116, 97, 110, 100, 98, 121, 47, 115, 116, 97, 110, 100, 98, 121, 108, 97, 119, 50, 50, 46, 67, 111, 97, 108, 101, 115, 99, 101, 68, 105, 118, 105, 100, 101, 115], [115, 116, 97, 110, 100, 98, 121, 47, 115, 116, 97, 110, 100, 98, 121, 108, 97, 119, 50, 50, 46, 67, 111, 97, 108, 101, 115, 99, 101, 83, 101, 108, 101, 99, 116, 115], [115, 116, 97, 110, 100, 98, 121, 47, 115, 116, 97, 110, 100, 98, 121, 108, 97, 119, 50, 50, 46, 67, 111, 97, 108, 101, 115, 99, 101, 70, 105, 110, 100, 115], [115, 116, 97, 110, 100, 98, 121, 47, 115, 116, 97, 110, 100, 98, 121, 108, 97, 119, 50, 50, 46, 67, 111, 97, 108, 101, 115, 99, 101, 67, 104, 97, 110, 103, 101, 115]] : List (List Nat)).map fun w => w.map Char.ofNat
theorem ioEq : Try.prog.initOrder = String.ofList (glue ioWords) := by kernel_rfl
theorem ioList : Try.prog.initOrder.toList = glue ioWords := by rw [ioEq, String.toList_ofList]
theorem ioNo : (ioWords.all fun w => w.all fun c => c != sp) = true := by kernel_rfl
theorem ioSigns : wordsSigns Try.prog.initOrder.toList = ioWords := by
  rw [ioList]
  have h := ioNo
  have h2 : ∀ v ∈ ioWords, ∀ c ∈ v, c ≠ sp := fun v hv c hc => by
    have := (List.all_eq_true.1 ((List.all_eq_true.1 h) v hv)) c hc
    simpa using this
  exact words_glue h2
theorem mayEnterP : Try.prog.mayEnter = true := by
  unfold Program.mayEnter
  rw [ioSigns]
  kernel_rfl
theorem liftsFinalP : Try.prog.liftsFinal = false := by
  unfold Program.liftsFinal Program.headLifts
  rw [ioSigns]
  kernel_rfl
theorem makeP : Try.prog.make = some .cut := by
  unfold Program.make Program.headLifts
  rw [ioSigns]
  kernel_rfl
end Go.Proofs.Ytoifinmcoldidaa
