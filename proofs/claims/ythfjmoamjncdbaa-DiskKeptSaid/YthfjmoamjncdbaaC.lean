import Derived.Test.YthfjmoamjncdbaaChecked
import Derived.Test.YthfjmoamjncdbaaVc
import Derived.Test.YthfjmoamjncdbaaRo
namespace Go.Proofs.Ythfjmoamjncdbaa
open Go.Vc
set_option linter.unusedVariables false

/-! slices.Clone[[]string,string] -/
abbrev n_Clone : FuncId := 25
def ann_Clone : Ann := ⟨[], [], []⟩
set_option maxRecDepth 100000 in
def p_Clone (q0 : Option Addr) (q0n : Nat) (q0c : Nat) (R : Ending → World → Prop) (w : World) : Prop :=
  cond q0.isNone (R (.returned (.slice none 0 0)) w) (Nw w (.cells #[] 9) fun b w_1 => (∃ (x7 : Option Addr) (x7n : Nat) (x7c : Nat), ∃ w_2, (Builtin.append_ #[22, 22] 22 #[.slice (some ⟨b, 0, none⟩)
  0 0, .slice q0 q0n q0c]).run Try.prog w_1 = .ok (.slice x7 x7n x7c) w_2 ∧ R (.returned (.slice x7 x7n x7c)) w_2))
set_option maxRecDepth 100000 in
theorem v_Clone (q0 : Option Addr) (q0n : Nat) (q0c : Nat) (R : Ending → World → Prop) (w : World) :
  vc Try.prog ann_Clone (Try.f25.body.getD .skip) (retQ Try.prog Try.f25.results.toList R) (initFr [.slice q0 q0n q0c] Try.f25.ntmps) w = p_Clone q0 q0n q0c R w := by kernel_rfl
theorem c_Clone (q0 : Option Addr) (q0n : Nat) (q0c : Nat) (R : Ending → World → Prop) (w : World) (h : p_Clone q0 q0n q0c R w) : Calls Try.prog 25 #[.slice q0 q0n q0c] w R :=
  calls_by (P := Try.prog) (f := 25) (fn := Try.f25) (c := Try.f25.body.getD .skip) (args := [.slice q0 q0n q0c]) (w := w) (R := R) (p := p_Clone q0 q0n q0c R w) ann_Clone Try.func25 rfl (v_Clone q0 q0n q0c R w) h

end Go.Proofs.Ythfjmoamjncdbaa
