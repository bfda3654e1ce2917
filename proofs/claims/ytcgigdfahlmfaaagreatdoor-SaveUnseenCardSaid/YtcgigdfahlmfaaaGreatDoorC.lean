import Derived.Test.YtcgigdfahlmfaaaGreatDoorChecked
import Derived.Test.YtcgigdfahlmfaaaGreatDoorVc
import Derived.Test.YtcgigdfahlmfaaaGreatDoorRo
namespace Go.Proofs.YtcgigdfahlmfaaaGreatDoor
open Go.Vc
set_option linter.unusedVariables false
set_option linter.unusedSimpArgs false
abbrev n_Clone : FuncId := 56
def ann_Clone : Ann := ⟨[], [], []⟩
set_option maxRecDepth 100000 in
def p_Clone (q0 : Option Addr) (q0n : Nat) (q0c : Nat) (R : Ending → World → Prop) (w : World) : Prop :=
  cond q0.isNone (R (.returned (.slice none 0 0)) w) (Nw w (.cells #[] 9) fun b w_1 => (∃ (x7 : Option Addr) (x7n : Nat) (x7c : Nat), ∃ w_2, (Builtin.append_ #[66, 66] 66 #[.slice (some ⟨b, 0, none⟩)
  0 0, .slice q0 q0n q0c]).run Tryz.prog w_1 = .ok (.slice x7 x7n x7c) w_2 ∧ R (.returned (.slice x7 x7n x7c)) w_2))
set_option maxRecDepth 100000 in
theorem v_Clone (q0 : Option Addr) (q0n : Nat) (q0c : Nat) (R : Ending → World → Prop) (w : World) :
  vc Tryz.prog ann_Clone (Tryz.f56.body.getD .skip) (retQ Tryz.prog Tryz.f56.results.toList R) (initFr [.slice q0 q0n q0c] Tryz.f56.ntmps) w = p_Clone q0 q0n q0c R w := by kernel_rfl
theorem c_Clone (q0 : Option Addr) (q0n : Nat) (q0c : Nat) (R : Ending → World → Prop) (w : World) (h : p_Clone q0 q0n q0c R w) : Calls Tryz.prog 56 #[.slice q0 q0n q0c] w R :=
  calls_by (P := Tryz.prog) (f := 56) (fn := Tryz.f56) (c := Tryz.f56.body.getD .skip) (args := [.slice q0 q0n q0c]) (w := w) (R := R) (p := p_Clone q0 q0n q0c R w) ann_Clone Tryz.func56 rfl (v_Clone q0 q0n q0c R w) h
end Go.Proofs.YtcgigdfahlmfaaaGreatDoor
