/-
  The EEPROM and the document's, writing.
-/
import Derived.Test.YtcgigdfahlmfaaaGreatDoorFla
namespace Go.Proofs.YtcgigdfahlmfaaaGreatDoor
open Go.Vc
set_option linter.unusedVariables false
set_option linter.unusedSimpArgs false
theorem dataF_len (ys : List Int) : (dataF ys).length = 8 := by unfold dataF; simp
theorem put_good {mem : List UInt8} {a : Int} {d : List UInt8} (h0 : 0 ≤ a) (h1 : a + 8 ≤ mem.length) (hm : mem.length ≤ 8192) (hd : d.length = 8) : applyF mem 1 a d = (mem.take a.toNat ++ d ++ mem.drop (a.toNat + 8), 0) := by
  unfold applyF okF
  rw [if_pos rfl, if_pos (by rw [hd]; simp; omega)]
  unfold applyT
  rw [if_neg (show ¬ (1 : Int) = 2 by decide), if_neg (show ¬ (1 : Int) = 3 by decide), if_neg (by rw [hd]; omega), hd]
structure Inv (c : Chip) : Prop where
  ok : Ok c.mem c.wide
  bits : Bits c.inn
  len : c.inn.length < 67 + c.wide
  head : c.inn = [] ∨ c.inn.getD 0 0 = 1
  next : 3 + c.wide ≤ c.inn.length → c.inn.getD 1 0 = 0
theorem bits_snoc {l : List Int} (h : Bits l) (b : Int) : Bits (l ++ [b % 2]) := by
  intro x hx
  rcases List.mem_append.1 hx with h' | h'
  · exact h x h'
  · simp at h'; omega
theorem bits_nil : Bits [] := fun _ h => by cases h
theorem Bits.getD {l : List Int} (h : Bits l) (i : Nat) : l.getD i 0 = 0 ∨ l.getD i 0 = 1 := by
  rw [List.getD_eq_getElem?_getD]
  by_cases hi : i < l.length
  · rw [List.getElem?_eq_getElem hi]; exact h _ (List.getElem_mem hi)
  · rw [List.getElem?_eq_none (by omega)]; exact .inl rfl
theorem ewriteF_Inv {c : Chip} (h : Inv c) (b : Int) : Inv (ewriteF c b).2 ∧ (ewriteF c b).2.wide = c.wide ∧ (ewriteF c b).2.mem.length = c.mem.length := by
  have hw := h.ok.w
  have hb := bits_snoc h.bits b
  have hll : (c.inn ++ [b % 2]).length = c.inn.length + 1 := by simp
  have hlen := h.len
  unfold ewriteF
  simp only
  split
  · exact ⟨⟨h.ok, bits_nil, by show ((0 : Nat) : Int) < 67 + c.wide; omega, .inl rfl, fun h' => by have : 3 + c.wide ≤ ((0 : Nat) : Int) := h'; omega⟩, rfl, rfl⟩
  rename_i h0
  have hh : (c.inn ++ [b % 2]).getD 0 0 = 1 := (hb.getD 0).resolve_left h0
  split
  · rename_i h1
    exact ⟨⟨h.ok, hb, by show ((c.inn ++ [b % 2]).length : Int) < 67 + c.wide; omega, .inr hh, fun h' => by have : 3 + c.wide ≤ ((c.inn ++ [b % 2]).length : Int) := h'; omega⟩, rfl, rfl⟩
  rename_i h1
  split
  · exact ⟨⟨h.ok, bits_nil, by show ((0 : Nat) : Int) < 67 + c.wide; omega, .inl rfl, fun h' => by have : 3 + c.wide ≤ ((0 : Nat) : Int) := h'; omega⟩, rfl, rfl⟩
  rename_i h2
  have hn : (c.inn ++ [b % 2]).getD 1 0 = 0 := (hb.getD 1).resolve_right h2
  split
  · have hu := unitF_bd h.ok (c.inn ++ [b % 2])
    have hg := put_good (mem := c.mem) (a := 8 * unitF c.mem (c.inn ++ [b % 2]) c.wide) (d := dataF (((c.inn ++ [b % 2]).drop (2 + c.wide.toNat)).take 64)) (by omega) (by omega) (by omega) (dataF_len _)
    have hl : (applyF c.mem 1 (8 * unitF c.mem (c.inn ++ [b % 2]) c.wide) (dataF (((c.inn ++ [b % 2]).drop (2 + c.wide.toNat)).take 64))).1.length = c.mem.length := applyF_len (by rw [hg])
    exact ⟨⟨⟨by show (_ = 512 ∧ _) ∨ _; rw [hl]; exact hw⟩, bits_nil, by show ((0 : Nat) : Int) < 67 + c.wide; omega, .inl rfl, fun h' => by have : 3 + c.wide ≤ ((0 : Nat) : Int) := h'; omega⟩, rfl, hl⟩
  · rename_i h3
    exact ⟨⟨h.ok, hb, by show ((c.inn ++ [b % 2]).length : Int) < 67 + c.wide; omega, .inr hh, fun _ => hn⟩, rfl, rfl⟩
theorem bits8_bits (b : Int) : Bits (bits8 b) := by intro x hx; unfold bits8 at hx; simp at hx; omega
theorem ewriteF_out {c : Chip} (h : Bits c.out) (hl : c.out.length ≤ 68) (b : Int) : Bits (ewriteF c b).2.out ∧ (ewriteF c b).2.out.length ≤ 68 := by
  unfold ewriteF
  simp only
  split
  · exact ⟨h, hl⟩
  split
  · exact ⟨h, hl⟩
  split
  · constructor
    · intro x hx
      have hx' : x ∈ [0, 0, 0, 0] ++ bitsOf ((c.mem.drop (8 * (unitF c.mem (c.inn ++ [b % 2]) c.wide).toNat)).take 8) := hx
      rcases List.mem_append.1 hx' with h | h
      · simp at h; exact .inl h
      · unfold bitsOf at h
        obtain ⟨y, _, hy⟩ := List.mem_flatMap.1 h
        exact bits8_bits _ x hy
    · show ([0, 0, 0, 0] ++ bitsOf ((c.mem.drop (8 * (unitF c.mem (c.inn ++ [b % 2]) c.wide).toNat)).take 8)).length ≤ 68
      rw [List.length_append, bitsOf_len]; simp; omega
  split
  · exact ⟨bits_nil, by show 0 ≤ 68; decide⟩
  · exact ⟨h, hl⟩
end Go.Proofs.YtcgigdfahlmfaaaGreatDoor
