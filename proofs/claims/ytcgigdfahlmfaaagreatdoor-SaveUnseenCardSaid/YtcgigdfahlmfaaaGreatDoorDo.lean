/-
  Calls: what a chip with a journal makes of them, and the document's.
-/
import Derived.Test.YtcgigdfahlmfaaaGreatDoorOps
namespace Go.Proofs.YtcgigdfahlmfaaaGreatDoor
open Go.Vc
set_option linter.unusedVariables false
set_option linter.unusedSimpArgs false
theorem ixL_at {α : Type} [Inhabited α] {l : List α} {i : Nat} (h : i < l.length) : ixL l (i : Int) = l[i] := ixL_nat h
def putsL (c : E35) : List E51 :=
  if Int.tmod c.N 5 = 0 then [⟨21845, 170⟩, ⟨10922, 85⟩, ⟨21845, 128⟩, ⟨21845, 170⟩, ⟨10922, 85⟩, ⟨c.Addr, 48⟩] else [⟨21845, 170⟩, ⟨10922, 85⟩, ⟨21845, 160⟩, ⟨c.Addr, IntKind.wrap .u32 c.Byte⟩]
theorem puts_eq (c : E35) : f_puts c.Kind c.Addr c.Byte c.N c.Picks = some (putsL c) := by
  unfold f_puts putsL
  by_cases h : Int.tmod c.N 5 = 0
  · rw [ceq h, if_pos h]; rfl
  · rw [cne h, if_neg h]; rfl
theorem putsL_len (c : E35) : (putsL c).length ≤ 6 := by unfold putsL; split <;> simp
def okC (c : E35) : Prop := (0 ≤ c.Addr ∧ c.Addr < 4294967296) ∧ 0 ≤ c.Byte ∧ c.Byte < 256
theorem putsL_ok {c : E35} (h : okC c) : ∀ p ∈ putsL c, 0 ≤ p.f0 ∧ p.f0 < 4294967296 := by
  unfold putsL
  have := h.1
  split <;> intro p hp <;> simp at hp <;> rcases hp with rfl | rfl | rfl | rfl | rfl | rfl <;> simp <;> omega
def bitN (n s : Int) : Int := IntKind.wrap .u8 (bits .and .i64 (Int.fdiv n (2 ^ (min s.toNat 64))) 1)
def bitsN (n : Int) : List Int := (List.range 16).map fun (i : Nat) => bitN n (15 - (i : Int))
theorem bitsN_len (n : Int) : (bitsN n).length = 16 := by unfold bitsN; simp
theorem bitsN_at (n : Int) (i : Nat) (h : i < (bitsN n).length) : (bitsN n)[i] = bitN n (15 - (i : Int)) := by simp [bitsN]
theorem wrap8_bd (x : Int) : 0 ≤ IntKind.wrap .u8 x ∧ IntKind.wrap .u8 x < 256 := by
  have e : IntKind.wrap .u8 x = x % 256 := rfl
  rw [e]; omega
theorem bitN_bd (n s : Int) : 0 ≤ bitN n s ∧ bitN n s < 256 := wrap8_bd _
def putS (m : List UInt8) (p : E51) : List UInt8 × List E59 := opS m (p.f0, IntKind.wrap .u8 p.f1)
def putF (c : Fl.Chip) (p : E51) : Fl.Chip × List E59 := opF c (p.f0, IntKind.wrap .u8 p.f1)
def callS (m : List UInt8) (c : E35) : List UInt8 × List E59 := if c.Kind = 0 then opS m (c.Addr, c.Byte) else if c.Kind = 1 then (m, []) else if c.Kind = 7 then fold putS m (putsL c) else (m, [])
def callF (m : Fl.Chip) (c : E35) : Fl.Chip × List E59 := if c.Kind = 0 then opF m (c.Addr, c.Byte) else if c.Kind = 1 then (m, []) else if c.Kind = 7 then fold putF m (putsL c) else (m, [])
def callE (m : Chip) (c : E35) : Chip × List E59 := if c.Kind = 1 then fold opE m (bitsN c.N) else (m, [])
theorem down_wrap {i : Nat} (h : i < 16) : IntKind.wrap .i64 ((15 - (i : Int)) - 1) = 15 - ((i + 1 : Nat) : Int) := by rw [wrap_i64 (by omega) (by omega)]; omega
theorem up_wrap {i n : Nat} (h : i < n) (hn : n ≤ 1000000) : IntKind.wrap .i64 ((i : Int) + 1) = ((i + 1 : Nat) : Int) := by rw [wrap_i64 (by omega) (by omega)]; omega
theorem EWriteN_eq (b : Int) : f_EWriteN b = some (ByteArray.mk #[]) := rfl
end Go.Proofs.YtcgigdfahlmfaaaGreatDoor
