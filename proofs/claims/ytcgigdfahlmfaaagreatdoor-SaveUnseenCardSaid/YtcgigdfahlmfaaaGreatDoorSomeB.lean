/-
  The bytes of a string: the slice is never nil.
-/
import Derived.Test.YtcgigdfahlmfaaaGreatDoorRo
namespace Go.Vc
open Go
set_option linter.unusedVariables false
theorem Now.toBytesS {P : Program} {src d e : TypeId} (hs : P.underlying src = some .string) (hd : P.underlying d = some (.slice e)) (he : P.underlying e = some (.int .u8)) {B : Nat → Prop} {w0 w : World} {L : List Asn} (h : Now B w0 w L) {s : ByteArray} (hb : s.size ≤ 140737488355328)
    {K : Option Addr → Nat → Nat → World → Prop} (k : ∀ (a' : Addr) c' w', Now B w0 w' (arr (elI .u8) (some a') c' (bytesOf s) :: L) → K (some a') (bytesOf s).length c' w') :
    ∃ x n c' w', (Go.convert src d (.string s)).run P w = .ok (.slice x n c') w' ∧ K x n c' w' := by
  have hr := Lib.run_convert_string_bytes (P := P) w src d e s hs hd he
  refine ⟨_, _, _, _, hr, ?_⟩
  have hlen : s.size = (bytesOf s).length := by unfold bytesOf; rw [List.length_map]; exact Array.length_toList.symm
  have hold := Lib.bytesWorld_at_old w e s
  have hge := grownCap_ge w s.size 0 e
  have hle := grownCap_le_maxLen w s.size 0 e (by unfold maxLen; omega)
  have hnew := Lib.bytesWorld_at_new w e s
  have hsz := Lib.bytesWorld_size w e s
  have hcs : (Lib.bytesCells w e s).size = grownCap w s.size 0 e := by simp [Lib.bytesCells]; have : s.data.size = s.size := rfl; omega
  have hn : Now B w0 (Lib.bytesWorld w e s) (arr (elI .u8) (some ⟨w.heap.size, 0, none⟩) (grownCap w s.size 0 e) (bytesOf s) :: L) := by
    refine h.add ⟨by omega, hle, rfl, by show w.heap.size < _; omega, fun j u hu => ?_, fun j hj => ?_, fun j hj => ?_⟩ ⟨rfl, rfl, rfl, by omega, fun k hk _ => hold k hk⟩ (fun k hk => Nat.le_of_eq hk.symm)
    · show World.cell? _ ⟨w.heap.size, 0 + j, none⟩ = _
      rw [row_map] at hu
      obtain ⟨hl, e2⟩ := List.getElem?_eq_some_iff.1 hu
      have hl' : j < s.size := by simpa [bytesOf] using hl
      rw [Nat.zero_add, Lib.bytesWorld_cell w e s j hl', ← e2]
      have hd' : j < s.data.toList.length := by simpa using hl'
      have hd2 : j < s.data.size := by simpa using hd'
      simp [bytesOf, List.getD_eq_getElem?_getD, Array.getElem?_eq_getElem hd2]
    · show (World.cell? _ ⟨w.heap.size, 0 + j, none⟩).isSome = true
      have hj' : j < grownCap w s.size 0 e := by simpa [elI] using hj
      simp only [World.cell?, hnew, Nat.zero_add]
      rw [Array.getElem?_eq_getElem (by omega)]; rfl
    · show World.frozen? _ ⟨w.heap.size, 0 + j, none⟩ = false
      have hj' : j < grownCap w s.size 0 e := by simpa [elI] using hj
      simp only [World.frozen?, hnew, Nat.zero_add]
      simp; omega
  have := k _ _ _ hn
  rw [← hlen] at this
  exact this
end Go.Vc
