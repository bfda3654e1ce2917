/-
  strings.Join and strings.Trim, in the walk's form.
-/
import Derived.Test.YtcgigdfahlmfaaaGreatDoorExt
import Derived.Test.YtcgigdfahlmfaaaGreatDoorRo
namespace Go.Proofs.YtcgigdfahlmfaaaGreatDoor
open Go.Vc
set_option linter.unusedVariables false
abbrev O_Trim := ByteArray
def f_Trim (s c : ByteArray) : Option ByteArray := match c.data.toList with | [x] => cond (decide (x.toNat < 128) && decide (s.size ≤ 9223372036854775807)) (some (bs (Lib.trimB s.data.toList x))) none | _ => none
def o_Trim (s c : ByteArray) (w0 : World) : O_Trim → Ending → World → Prop
  | r0, e, w => e = .returned (.string r0) ∧ Now (Foot []) w0 w []
theorem t_Trim {s c : ByteArray} {w0 : World} {r : O_Trim} (hf : f_Trim s c = some r) (hp : Hp w0 []) : Calls Tryz.prog 137 #[.string s, .string c] w0 (o_Trim s c w0 r) := by
  unfold f_Trim at hf
  split at hf
  · rename_i x hx
    refine chkE hf fun hb hf => ?_
    simp only [Bool.and_eq_true, decide_eq_true_eq] at hb
    cases hf
    have hc : c = ⟨#[x]⟩ := by rw [← bs_list c, hx]; rfl
    subst hc
    refine (Tryz.strings_Trim_one s x hb.1 w0 hb.2).mono fun e w' ⟨he, hw⟩ => ⟨he, ?_⟩
    rcases hw with rfl | rfl
    · exact Now.start hp
    · exact (Now.start hp).drewN 1
  · cases hf
abbrev O_Join := ByteArray
def joinS (xs : List ByteArray) (sep : ByteArray) : List UInt8 := Lib.join (xs.map (·.data.toList)) sep.data.toList
def f_Join (xs : List ByteArray) (sep : ByteArray) : Option ByteArray := cond (decide (xs.length ≤ 140737488355328) && decide ((joinS xs sep).length ≤ 140737488355328)) (some (bs (joinS xs sep))) none
def o_Join (q0 : Option Addr) (q0c : Nat) (xs : List ByteArray) (sep : ByteArray) (w0 : World) : O_Join → Ending → World → Prop
  | r0, e, w => e = .returned (.string r0) ∧ Now (Foot [arr elS q0 q0c xs]) w0 w [arr elS q0 q0c xs]
theorem row_str : ∀ l : List ByteArray, elS.row l = l.map Value.string
  | [] => rfl
  | x :: l => by show [Value.string x] ++ elS.row l = _; rw [row_str l]; rfl
theorem t_Join {q0 : Option Addr} {q0c q0n : Nat} {xs : List ByteArray} {sep : ByteArray} {w0 : World} {r : O_Join} (hf : f_Join xs sep = some r) (hp : Hp w0 [arr elS q0 q0c xs]) (roN : q0n = xs.length) : Calls Tryz.prog 141 #[.slice q0 q0n q0c, .string sep] w0 (o_Join q0 q0c xs sep w0 r) := by
  subst roN
  unfold f_Join at hf
  refine chkE hf fun hb hf => ?_
  simp only [Bool.and_eq_true, decide_eq_true_eq] at hb
  cases hf
  have h := hp.1
  have hn := Now.start hp
  cases q0 with
  | none =>
    have hx : xs = [] := arr_reads h
    subst hx
    refine (Tryz.strings_Join_none none q0c sep w0).mono fun e w' ⟨he, hw⟩ => ⟨he, by subst hw; exact hn⟩
  | some a =>
    obtain ⟨h1, h2, h3⟩ := h
    obtain ⟨bk, o, sp⟩ := a
    obtain rfl : sp = none := h3.spot
    refine (Tryz.strings_Join bk o q0c xs sep w0 (fun j x hj => h3.cell j _ (by rw [row_str, List.getElem?_map, hj]; rfl)) h3.lt hb.1 h1 hb.2).mono fun e w' ⟨he, hw⟩ => ⟨he, hn.pass (below_chg hw)⟩
end Go.Proofs.YtcgigdfahlmfaaaGreatDoor
