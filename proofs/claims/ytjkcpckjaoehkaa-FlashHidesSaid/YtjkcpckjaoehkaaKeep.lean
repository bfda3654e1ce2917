/-
  What writes keep: plain.
-/
import Derived.Test.YtjkcpckjaoehkaaMade
namespace Go.Proofs.Ytjkcpckjaoehkaa
open Go.Vc
set_option linter.unusedVariables false

theorem at16_bound (x : Int) : 0 ≤ at16 x ∧ at16 x < 65536 := by unfold at16; omega
theorem erase_ok {c : Chip} (ok : Ok c) (x : Int) : eraseAt c x = c.bank * 65536 + at16 x / 4096 * 4096 ∧ 0 ≤ eraseAt c x ∧ eraseAt c x + 4096 ≤ c.mem.length ∧ eraseAt c x < 131072 ∧ eraseAt c x % 4096 = 0 := by
  have hx := at16_bound x
  have e : bits .and .i64 (at16 x) 61440 = at16 x / 4096 * 4096 := by
    rw [andHigh64 12 4 (by decide) (by decide) hx.1 (by omega)]
    show at16 x / 4096 % 16 * 4096 = _
    omega
  have hl := ok.len
  unfold eraseAt
  rw [e]
  rcases ok.bank with hb | ⟨hb, hb'⟩ <;> rw [hb]
  · rw [wrap_i64 (by omega) (by omega), or64 16 (by omega) (by omega) (by omega) (by omega) (by omega)]; omega
  · rw [wrap_i64 (by omega) (by omega), or64 16 (by omega) (by omega) (by omega) (by omega) (by omega)]; omega

theorem put_facts {c : Chip} (ok : Ok c) (x : Int) (v : UInt8) : applyF c.mem 1 (c.bank * 65536 + at16 x) [v] = (c.mem.take (c.bank * 65536 + at16 x).toNat ++ [v] ++ c.mem.drop ((c.bank * 65536 + at16 x).toNat + 1), 0) := by
  obtain ⟨p1, p2, p3⟩ := put_ok ok (x := x)
  have hl := ok.len
  have hok : okF 1 (c.bank * 65536 + at16 x) [v] = true := by
    unfold okF; rw [if_pos rfl]
    simp only [Bool.and_eq_true, decide_eq_true_eq]
    exact ⟨⟨p2, by omega⟩, by simp⟩
  unfold applyF
  rw [if_pos hok, if_neg (by decide), if_neg (by decide), if_neg (by simp; omega)]
  rfl
theorem erase_facts {c : Chip} (ok : Ok c) (x : Int) : applyF c.mem 2 (eraseAt c x) [] = (c.mem.take (eraseAt c x).toNat ++ ffs 4096 ++ c.mem.drop ((eraseAt c x).toNat + 4096), 0) := by
  obtain ⟨e1, e2, e3, e4, e5⟩ := erase_ok ok x
  have hok : okF 2 (eraseAt c x) [] = true := by
    unfold okF; rw [if_neg (by decide), if_pos rfl]
    simp only [Bool.and_eq_true, decide_eq_true_eq]
    exact ⟨⟨e2, e4⟩, trivial, by rw [tmod_nn e2]; exact e5⟩
  unfold applyF
  rw [if_pos hok, if_pos rfl, if_neg (by omega)]
theorem blank_facts (m : List UInt8) : applyF m 3 0 [] = (ffs m.length, 0) := by
  unfold applyF
  rw [if_pos (by decide), if_neg (by decide), if_pos rfl]

theorem writeF_len {c : Chip} (ok : Ok c) (x b : Int) : (writeF c x b).2.mem.length = c.mem.length := by
  obtain ⟨p1, p2, p3⟩ := put_ok ok (x := x)
  have ok0 : Ok { c with state := 0 } := ⟨ok.len, ok.bank⟩
  have hst : ∀ a b, (stepF c a b).2.mem = c.mem := by
    intro a b
    unfold stepF commandF
    repeat' split
    all_goals rfl
  unfold writeF
  split
  · unfold doneF putByte
    show ((applyF c.mem 1 _ _).1).length = _
    rw [put_facts ok x]
    simp; omega
  split
  · split <;> rfl
  split
  · split
    · show ((applyF c.mem 3 0 []).1).length = _
      rw [blank_facts]; exact ffs_length _
    split
    · obtain ⟨e1, e2, e3, e4, e5⟩ := erase_ok ok x
      show ((applyF c.mem 2 (eraseAt c x) []).1).length = _
      rw [erase_facts ok x]
      simp [ffs_length]; omega
    · rfl
  · show (stepF c (at16 x) b).2.mem.length = _
    rw [hst]
theorem writeF_Ok {c : Chip} (ok : Ok c) (x b : Int) (b0 : 0 ≤ b) (b1 : b < 256) : Ok (writeF c x b).2 := by
  have hl := writeF_len ok x b
  refine ⟨by rw [hl]; exact ok.len, ?_⟩
  rw [hl]
  have hst : ∀ a b, (stepF c a b).2.bank = c.bank := by
    intro a b
    unfold stepF commandF
    repeat' split
    all_goals rfl
  unfold writeF
  split
  · exact ok.bank
  split
  · split
    · rename_i h
      show IntKind.wrap .i64 (bits .and .u8 b 1) = 0 ∨ _
      rw [and8 1 (by decide) (by decide) b0 b1, wrap_i64 (by omega) (by omega)]
      have : b % ((2 ^ 1 : Nat) : Int) = 0 ∨ b % ((2 ^ 1 : Nat) : Int) = 1 := by omega
      rcases this with h1 | h1
      · exact .inl h1
      · exact .inr ⟨h1, h.2⟩
    · exact ok.bank
  split
  · split
    · exact ok.bank
    split
    · exact ok.bank
    · exact ok.bank
  · show (stepF c (at16 x) b).2.bank = 0 ∨ (stepF c (at16 x) b).2.bank = 1 ∧ _
    rw [hst]; exact ok.bank

end Go.Proofs.Ytjkcpckjaoehkaa
