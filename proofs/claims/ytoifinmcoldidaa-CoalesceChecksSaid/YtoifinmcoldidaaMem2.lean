import Derived.Test.YtoifinmcoldidaaMem1
import Derived.Test.YtoifinmcoldidaaMath3
import Derived.Test.YtoifinmcoldidaaMath4
set_option linter.unusedVariables false
namespace Go.Mm
open Go.RowKit Sb

def In64 (x : Int) : Prop := -9223372036854775808 ≤ x ∧ x ≤ 9223372036854775807
def u8 (x : Int) : Value := .int .u8 x
def i64 (x : Int) : Value := .int .i64 x
def secCells (s : Sec) : List Value := [.int .u8 s.b0, .int .u8 s.b1, .int .u8 s.b2, .int .u8 s.b3, .int .u8 s.b4, .int .u8 s.b5, .int .u8 s.b6, .int .u8 s.b7]
def RSec : ERel Sec := fun _ _ cs s => cs = secCells s
instance : Steady RSec := ⟨fun h _ => h, fun h _ => h⟩
abbrev RSecs := RSl 8 RSec
def RWr : ERel Wr := fun w S cs x => In64 x.vol ∧ In64 x.start ∧ ∃ dv, cs = [.int .i64 x.vol, .int .i64 x.start, dv] ∧ RSecs w S dv x.data
instance : Steady RWr := ⟨fun ⟨a, b, dv, e, h⟩ hw => ⟨a, b, dv, e, h.keep hw⟩, fun ⟨a, b, dv, e, h⟩ hw => ⟨a, b, dv, e, h.more hw⟩⟩
abbrev RWrs := RSl 3 RWr
def RInt : ERel Int := fun _ _ cs x => In64 x ∧ cs = [.int .i64 x]
instance : Steady RInt := ⟨fun h _ => h, fun h _ => h⟩
abbrev RInts := RSl 1 RInt
theorem ret_int {k : IntKind} {a b : Int} (h : a = b) : Ending.returned (.int k a) = .returned (.int k b) := by rw [h]
theorem ret_bool {a b : Bool} (h : a = b) : Ending.returned (.bool a) = .returned (.bool b) := by rw [h]
theorem pw_below_drewN {B : Nat} {w W : World} (h : Below B w W) (n : Nat) : Below B w (W.drewN n) := ⟨h.os, h.tape, h.output, h.size, h.block⟩
/-- Read through whatever blocks. -/
def Any : Nat → Prop := fun _ => True
def sectors (l : List Wr) : Int := (l.map fun w => (w.data.length : Int)).sum
end Go.Mm
