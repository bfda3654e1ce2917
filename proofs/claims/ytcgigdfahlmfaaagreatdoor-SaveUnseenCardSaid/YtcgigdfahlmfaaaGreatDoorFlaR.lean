/-
  The flash chip and the document's, reading.
-/
import Derived.Test.YtcgigdfahlmfaaaGreatDoorFla
namespace Go.Proofs.YtcgigdfahlmfaaaGreatDoor
open Go.Vc
set_option linter.unusedVariables false
set_option linter.unusedSimpArgs false
namespace Fl
def makerF (m : List UInt8) (i : Int) : Int := if m.length = 131072 then (if i = 0 then 98 else 19) else (if i = 0 then 50 else 27)
def readF (c : Chip) (x : Int) : Int := if c.id = true ∧ at16 x < 2 then makerF c.mem (at16 x) else byteAt c.mem (c.bank * 65536 + at16 x)
theorem read_eq (c : Chip) (ok : Ok c) (x : Int) (x0 : 0 ≤ x) (x1 : x < 4294967296) : f_FRead (bs c.mem) c.state c.id c.bank x = some (readF c x) := by
  obtain ⟨p1, p2, p3, p4⟩ := put_ok ok (x := x)
  have hx := at16_bd x
  unfold f_FRead
  rw [at16_ok x0 x1, Let_eq, p1, bs_size, sbyte_bs]
  unfold readF
  by_cases h : c.id = true
  · rw [ctrueT h]
    by_cases h2 : at16 x < 2
    · rw [cpos h2, if_pos ⟨h, h2⟩]
      unfold f_maker makerF
      rw [bs_size]
      by_cases h3 : c.mem.length = 131072
      · rw [ceq (by omega), if_pos h3, cand hx.1 (by omega), bind_some']
        obtain h4 | h4 : at16 x = 0 ∨ at16 x = 1 := by omega
        · rw [h4]; rfl
        · rw [h4]; rfl
      · rw [cne (by omega), if_neg h3, cand hx.1 (by omega), bind_some']
        obtain h4 | h4 : at16 x = 0 ∨ at16 x = 1 := by omega
        · rw [h4]; rfl
        · rw [h4]; rfl
    · rw [cneg h2, if_neg (fun h => h2 h.2), cand p2 p3]; rfl
  · rw [ctrueF (by simpa using h), if_neg (fun h' => h h'.1), cand p2 p3]; rfl
end Fl
end Go.Proofs.YtcgigdfahlmfaaaGreatDoor
