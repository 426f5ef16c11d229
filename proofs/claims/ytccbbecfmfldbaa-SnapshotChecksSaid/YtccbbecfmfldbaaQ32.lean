import Derived.Test.YtccbbecfmfldbaaRows
import Derived.KernelRfl
set_option maxRecDepth 100000
namespace Go.Proofs.Ytccbbecfmfldbaa
open Go
def sp : Char := Char.ofNat 32
def glue : List (List Char) → List Char
  | [] => []
  | [w] => w
  | w :: v :: ws => w ++ sp :: glue (v :: ws)
theorem words_nosp : ∀ {w r : List Char}, (∀ c ∈ w, c ≠ sp) → ∀ {h : List Char} {t : List (List Char)}, wordsSigns r = h :: t → wordsSigns (w ++ r) = (w ++ h) :: t
  | [], r, _, h, t, e => e
  | c :: w, r, hc, h, t, e => by
    have ih := words_nosp (w := w) (r := r) (fun x hx => hc x (by simp [hx])) e
    have hne : c ≠ sp := hc c (by simp)
    rw [List.cons_append, wordsSigns, ih]
    · rfl
    · intro e; exact hne e
theorem words_glue : ∀ {w : List Char} {ws : List (List Char)}, (∀ v ∈ w :: ws, ∀ c ∈ v, c ≠ sp) → wordsSigns (glue (w :: ws)) = w :: ws
  | w, [], h => by
    have := words_nosp (w := w) (r := []) (h w (by simp)) (h := []) (t := []) rfl
    simpa [glue] using this
  | w, v :: ws, h => by
    have ih := words_glue (w := v) (ws := ws) (fun x hx => h x (by simp at hx; simp [hx]))
    have e : wordsSigns (sp :: glue (v :: ws)) = [] :: (v :: ws) := by
      show [] :: wordsSigns (glue (v :: ws)) = _
      rw [ih]
    have := words_nosp (w := w) (r := sp :: glue (v :: ws)) (h w (by simp)) e
    simpa [glue] using this
def ioWords : List (List Char) := ([[104, 97, 114, 110, 101, 115, 115], [49, 100, 48, 99, 97, 48, 100, 52, 97, 49, 101, 101, 48, 51, 52, 100, 56, 53, 102, 48, 100, 97, 48, 52, 48, 53, 48, 102, 48, 52, 49, 98, 98, 100, 52, 55, 101, 53, 56, 101, 50, 53, 101, 49, 53, 49, 101, 97, 54, 55, 101, 53, 54, 50, 52, 53, 97, 98, 55, 54, 101, 55, 55, 53], [99, 117, 116], [97, 116], [115, 116, 97, 110, 100, 98, 121, 47, 115, 116, 97, 110, 100, 98, 121, 108, 97, 119, 51, 54, 46, 83, 110, 97, 112, 115, 104, 111, 116, 67, 104, 101, 99, 107, 115], [115, 116, 97, 110, 100, 98, 121, 47, 115, 116, 97, 110, 100, 98, 121, 108, 97, 119, 51, 54, 46, 83, 110, 97, 112, 115, 104, 111, 116, 75, 101, 101, 112, 115], [115, 116, 97, 110, 100, 98, 121, 47, 115, 116, 97, 110, 100, 98, 121, 108, 97, 119, 51, 54, 46, 83, 110, 97, 112, 115, 104, 111, 116, 82, 101, 118, 101, 114, 116, 115], [115, 116, 97, 110, 100, 98, 121, 47, 115, 116, 97, 110, 100, 98, 121, 108, 97, 119, 51, 54, 46, 83, 110, 97, 112, 115, 104, 111, 116, 83, 97, 118, 101, 115], [115, 116, 97, 110, 100, 98, 121, 47, 115, 116, 97, 110, 100, 98, 121, 108, 97, 119, 51, 56, 46, 82, 101, 116, 101, 110, 116, 105, 111, 110, 67, 104, 101, 99, 107, 115], [115, 116, 97, 110, 100, 98, 121, 47, 115, 116, 97, 110, 100, 98, 121, 108, 97, 119, 51, 56, 46, 82, 101, 116, 101, 110, 116, 105, 111, 110, 75, 101, 101, 112, 115], [115, 116, 97, 110, 100, 98, 121, 47, 115, 116, 97, 110, 100, 98, 121, 108, 97, 119, 51, 56, 46, 82, 101, 116, 101, 110, 116, 105, 111, 110, 77, 101, 114, 103, 101, 115], [115, 116, 97, 110, 100, 98, 121, 47, 115, 116, 97, 110, 100, 98, 121, 108, 97, 119, 51, 56, 46, 82, 101, 116, 101, 110, 116, 105, 111, 110, 85, 110, 105, 111, 110], [115, 116, 97, 110, 100, 98, 121, 47, 115, 116, 97, 110, 100, 98, 121, 108, 97, 119, 51, 56, 46, 82, 101, 116, 101, 110, 116, 105, 111, 110, 83, 116, 97, 98, 108, 101], [115, 116, 97, 110, 100, 98, 121, 47, 115, 116, 97, 110, 100, 98, 121, 108, 97, 119, 51, 56, 46, 82, 101, 116, 101, 110, 116, 105, 111, 110, 66, 111, 117, 110, 100, 101, 100], [115, 116, 97, 110, 100, 98, 121, 47, 115, 116, 97, 110, 100, 98, 121, 108, 97, 119, 51, 56, 46, 82, 101, 116, 101, 110, 116, 105, 111, 110, 73, 109, 97, 103, 101, 115]] : List (List Nat)).map fun w => w.map Char.ofNat
theorem ioEq : Try.prog.initOrder = String.ofList (glue ioWords) := by kernel_rfl
theorem ioList : Try.prog.initOrder.toList = glue ioWords := by rw [ioEq, String.toList_ofList]
theorem ioNo : (ioWords.all fun w => w.all fun c => c != sp) = true := by kernel_rfl
theorem ioSigns : wordsSigns Try.prog.initOrder.toList = ioWords := by
  rw [ioList]
  have h := ioNo
  have h2 : ∀ v ∈ ioWords, ∀ c ∈ v, c ≠ sp := fun v hv c hc => by
    have := (List.all_eq_true.1 ((List.all_eq_true.1 h) v hv)) c hc
    simpa using this
  exact words_glue h2
theorem mayEnterP : Try.prog.mayEnter = true := by
  unfold Program.mayEnter
  rw [ioSigns]
  kernel_rfl
theorem liftsFinalP : Try.prog.liftsFinal = false := by
  unfold Program.liftsFinal Program.headLifts
  rw [ioSigns]
  kernel_rfl
theorem makeP : Try.prog.make = some .cut := by
  unfold Program.make Program.headLifts
  rw [ioSigns]
  kernel_rfl
end Go.Proofs.Ytccbbecfmfldbaa
