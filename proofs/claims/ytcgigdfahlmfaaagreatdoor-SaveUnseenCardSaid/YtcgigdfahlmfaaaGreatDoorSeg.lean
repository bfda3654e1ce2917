/-
  Boxes of many cells: rows of whole numbers within a struct, as functions of their place.
-/
import Derived.Test.YtcgigdfahlmfaaaGreatDoorRo
import Derived.Deep.MidRow
import Derived.Laws.CopyRow
@[match_pattern] abbrev Go.Value.I (x : Int) : Go.Value := .int .i64 x
@[match_pattern] abbrev Go.Value.U (x : Int) : Go.Value := .int .u32 x
@[match_pattern] abbrev Go.Value.P (b : Nat) : Go.Value := .pointer (some ⟨b, 0, none⟩)
@[match_pattern] abbrev Go.Value.F : Go.Value := .bool false
namespace Go.Vc
open Go
set_option linter.unusedVariables false
abbrev Rt := Ending → World → Prop
abbrev Pa := Option Addr
abbrev Cl (w : World) (b i : Nat) (v : Value) : Prop := w.cell? ⟨b, i, none⟩ = some v
inductive Seg where
  | c (v : Value)
  | r (k : IntKind) (n : Nat) (f : Nat → Int)
  | o (n : Nat) (f : Nat → Value)
def Seg.cells : Seg → List Value
  | .c v => [v]
  | .r k n f => (List.range n).map fun i => .int k (f i)
  | .o n f => (List.range n).map f
def Seg.len : Seg → Nat
  | .c _ => 1
  | .r _ n _ => n
  | .o n _ => n
section
variable {B : Nat → Prop} {w0 w : World} {b : Nat} {l : List Seg} {t : TypeId} {L : List Asn}
end
structure BigA (P : Program) (t : TypeId) (k : IntKind) (n : Nat) : Prop where
  und : ∃ e, P.underlying t = some (.array n e) ∧ P.underlying e = some (.int k) ∧ sz? P e = some 1
  size : (P.info? t).map (·.size) = some n
  guard : P.eqGuardType P.depth t = false
end Go.Vc
