/-
  slices.Clone of strings, in the walk's form.
-/
import Derived.Test.YtcgigdfahlmfaaaGreatDoorC
import Derived.Test.YtcgigdfahlmfaaaGreatDoorRo
namespace Go.Proofs.YtcgigdfahlmfaaaGreatDoor
open Go.Vc
set_option linter.unusedVariables false
abbrev O_Clone := List ByteArray
def f_Clone (xs : List ByteArray) : Option O_Clone := cond (decide (xs.length ≤ 1099511627776)) (some xs) none
def o_Clone (q0 : Option Addr) (q0c : Nat) (q0x : List ByteArray) (w0 : World) : O_Clone → Ending → World → Prop
  | r_xs0, e, w => ∃ (r_p0 : Option Addr) (r_c0 : Nat), e = .returned (.slice r_p0 r_xs0.length r_c0) ∧ Now (Foot []) w0 w [arr elS r_p0 r_c0 r_xs0]
set_option maxRecDepth 100000 in
theorem t_Clone {q0 : Option Addr} {q0c : Nat} {q0x : List ByteArray} {q0n : Nat} {w0 : World} {r : O_Clone} (hf : f_Clone q0x = some r) (hp : Hp w0 []) (ro : RoAt elS w0 q0 q0c q0x) (roB : ∀ a, q0 = some a → q0x ≠ [] → ¬ Foot [] a.block) (roN : q0n = q0x.length) :
    Calls Tryz.prog n_Clone #[.slice q0 q0n q0c] w0 (o_Clone q0 q0c q0x w0 r) := by
  unfold f_Clone at hf
  refine chkE hf fun hb hf => ?_
  have hb := of_decide_eq_true hb
  cases hf
  apply c_Clone
  unfold p_Clone
  have n0 : Now (Foot []) w0 w0 [] := Now.start hp
  cases q0 with
  | none =>
    have hx : q0x = [] := ro.reads
    subst hx
    exact condP_true rfl ⟨none, 0, rfl, n0.nil elS⟩
  | some a =>
    refine condP_false rfl ?_
    refine n0.Nw (cs := []) fun b w1 n1 => ?_
    have n2 := n1.boxNil elS
    refine Now.appendO (ty := 66) (⟨Tryz.underlying66, ⟨_, _, rfl, rfl, rfl, rfl, by decide⟩⟩ : Elem Tryz.prog 66 9 (El.z elS)) n2 (ro.at n2.chg roB) roN (by simpa using hb) fun p' c' w' n3 => ?_
    rw [List.nil_append] at n3
    rw [List.nil_append]
    exact ⟨p', c', rfl, n3⟩
end Go.Proofs.YtcgigdfahlmfaaaGreatDoor
