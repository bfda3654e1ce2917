/-
  A command is noted in the journal, on a good disk.
-/
import Derived.Test.YtcgigdfahlmfaaaGreatDoorRunA
import Derived.Test.YtcgigdfahlmfaaaGreatDoorEepR
namespace Go.Proofs.YtcgigdfahlmfaaaGreatDoor
open Go.Vc
set_option linter.unusedVariables false
set_option linter.unusedSimpArgs false
structure Jr where
  er : Int
  ct : Int
  su : Int
  ba : Int
  nx : Int
  ar : Int
  od : Bool
  F : List ByteArray
  S : List ByteArray
  W : List E115
structure Jok (n slots : Nat) (j : Jr) (mem : List UInt8) (bd wd : Nat) : Prop where
  er : j.er = 0
  od : j.od = false
  w : j.W.length ≤ wd
  good : Good j.F j.S j.W
  js : ∃ (base area : Nat) (img : List UInt8) (cs : List E59), j.ba = (base : Int) ∧ j.nx = ((base + cs.length : Nat) : Int) ∧ j.ar = (area : Int) ∧ JS j.S n slots base area img cs ∧ runE img cs = some mem ∧ base + cs.length ≤ bd
end Go.Proofs.YtcgigdfahlmfaaaGreatDoor
