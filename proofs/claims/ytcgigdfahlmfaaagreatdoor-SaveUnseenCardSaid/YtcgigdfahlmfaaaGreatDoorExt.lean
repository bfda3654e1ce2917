/-
  Library functions, in the walk's form.
-/
import Derived.Test.YtcgigdfahlmfaaaGreatDoorArr
import Derived.Test.YtcgigdfahlmfaaaGreatDoorShelf
import Derived.Laws.IdiomStrings
import Derived.Lib.Repeat
namespace Go.Proofs.YtcgigdfahlmfaaaGreatDoor
open Go.Vc
set_option linter.unusedVariables false
abbrev O_Repeat := ByteArray
def f_Repeat (s : ByteArray) (n : Int) : Option ByteArray := cond (decide (0 ≤ n) && decide (s.size * n.toNat ≤ 140737488355328) && decide (n ≤ 140737488355328)) (some (bs (Lib.repeatL s.data.toList n.toNat))) none
def o_Repeat (s : ByteArray) (n : Int) (w0 : World) : O_Repeat → Ending → World → Prop
  | r0, e, w => e = .returned (.string r0) ∧ Now (Foot []) w0 w []
theorem t_Repeat {s : ByteArray} {n : Int} {w0 : World} {r : O_Repeat} (hf : f_Repeat s n = some r) (hp : Hp w0 []) : Calls Tryz.prog 75 #[.string s, .int .i64 n] w0 (o_Repeat s n w0 r) := by
  unfold f_Repeat at hf
  refine chkE hf fun hb hf => ?_
  simp only [Bool.and_eq_true, decide_eq_true_eq] at hb
  cases hf
  have := Tryz.strings_Repeat s n.toNat w0 (by omega) hb.1.2
  rw [show ((n.toNat : Nat) : Int) = n by omega] at this
  exact this.mono fun e w' ⟨he, hc⟩ => ⟨he, ⟨trivial, below_chg hc, fun _ h => h.elim⟩⟩
end Go.Proofs.YtcgigdfahlmfaaaGreatDoor
