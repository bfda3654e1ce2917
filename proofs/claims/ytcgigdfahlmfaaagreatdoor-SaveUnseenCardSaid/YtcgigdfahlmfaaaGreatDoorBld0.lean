import Derived.Test.YtcgigdfahlmfaaaGreatDoorChecked
import Derived.Test.YtcgigdfahlmfaaaGreatDoorVc
import Derived.Test.YtcgigdfahlmfaaaGreatDoorRo
namespace Go.Proofs.YtcgigdfahlmfaaaGreatDoor
open Go.Vc
set_option linter.unusedVariables false
set_option linter.unusedSimpArgs false
def ann_WriteString : Ann := ⟨[], [], []⟩
set_option maxRecDepth 100000 in
def p_WriteString (q0 : Nat) (q1 : ByteArray) (R : Ending → World → Prop) (w : World) : Prop :=
  (Calls Tryz.prog 119 #[.pointer (some ⟨q0, 0, none⟩)] w fun e w_1 => e = .returned (.tuple #[]) ∧ (∃ (x12 : Option Addr) (x12n : Nat) (x12c : Nat), w_1.cell? ⟨q0, 1, none⟩ = some (.slice x12 x12n
  x12c) ∧ (∃ (x14 : Option Addr) (x14n : Nat) (x14c : Nat), ∃ w_2, (Builtin.append_ #[88, 9] 88 #[.slice x12 x12n x12c, .string q1]).run Tryz.prog w_1 = .ok (.slice x14 x14n x14c) w_2 ∧ St w_2 ⟨q0, 1,
  none⟩ (.slice x14 x14n x14c) fun w_3 => R (.returned (.tuple #[.int .i64 (q1.size : Int), .nilIface])) w_3)))
set_option maxRecDepth 100000 in
theorem v_WriteString (q0 : Nat) (q1 : ByteArray) (R : Ending → World → Prop) (w : World) :
  vc Tryz.prog ann_WriteString (Tryz.f86.body.getD .skip) (retQ Tryz.prog Tryz.f86.results.toList R) (initFr [.pointer (some ⟨q0, 0, none⟩), .string q1] Tryz.f86.ntmps) w = p_WriteString q0 q1 R w := by kernel_rfl
theorem c_WriteString (q0 : Nat) (q1 : ByteArray) (R : Ending → World → Prop) (w : World) (h : p_WriteString q0 q1 R w) : Calls Tryz.prog 86 #[.pointer (some ⟨q0, 0, none⟩), .string q1] w R :=
  calls_by (P := Tryz.prog) (f := 86) (fn := Tryz.f86) (c := Tryz.f86.body.getD .skip) (args := [.pointer (some ⟨q0, 0, none⟩), .string q1]) (w := w) (R := R) (p := p_WriteString q0 q1 R w) ann_WriteString Tryz.func86 rfl (v_WriteString q0 q1 R w) h
end Go.Proofs.YtcgigdfahlmfaaaGreatDoor
