/-
  Sectors that are written in part.
-/
import Derived.Test.YtcgigdfahlmfaaaGreatDoorJrn2
namespace Go.Proofs.YtcgigdfahlmfaaaGreatDoor
open Go.Vc
set_option linter.unusedVariables false
set_option linter.unusedSimpArgs false
def lastN (s : List UInt8) : Nat := numL (s.drop 60)
theorem numL_take (l : List UInt8) : numL (l.take 4) = numL l := by
  unfold numL
  simp [List.getElem?_take]
theorem open_last {s : List UInt8} (h : (openL s).2.2 = 0) : (openL s).1 = lastN s ∧ s.length = 64 ∧ s.take 4 = s.drop 60 := by
  unfold openL at h ⊢
  split at h
  · cases h
  split at h
  · cases h
  split at h
  · cases h
  split at h
  · cases h
  split at h
  · cases h
  rename_i h1 h2 h3 h4 h5
  rw [if_neg h1, if_neg h2, if_neg h3, if_neg h4, if_neg h5]
  simp only [ne_eq, Decidable.not_not] at h1 h2
  refine ⟨?_, h1, h2⟩
  show numL s = numL (s.drop 60)
  rw [← h2, numL_take]
theorem last_wrap {b : Nat} (hb : b < 4294967296) {body : List UInt8} (h : body.length ≤ 51) : lastN (wrapL b body) = b := by
  unfold lastN
  rw [wrapL_drop b body h, ← List.append_nil (fourL b)]
  exact numL_four b hb []
theorem four_of {l : List UInt8} (h : l.length = 4) : ∃ a b c d, l = [a, b, c, d] := by
  match l, h with
  | [a, b, c, d], _ => exact ⟨a, b, c, d, rfl⟩
theorem u8_eq {a b : UInt8} (h : a.toNat = b.toNat) : a = b := UInt8.toNat_inj.1 h
theorem numL_four_inj {l : List UInt8} {b : Nat} (h : l.length = 4) (hb : b < 4294967296) (e : numL l = b) : l = fourL b := by
  obtain ⟨a0, a1, a2, a3, rfl⟩ := four_of h
  have h0 := a0.toNat_lt; have h1 := a1.toNat_lt; have h2 := a2.toNat_lt; have h3 := a3.toNat_lt
  have e' : a0.toNat + 256 * a1.toNat + 65536 * a2.toNat + 16777216 * a3.toNat = b := e
  unfold fourL
  rw [show a0 = UInt8.ofNat b from u8_eq (by rw [UInt8.toNat_ofNat']; omega), show a1 = UInt8.ofNat (b / 256) from u8_eq (by rw [UInt8.toNat_ofNat']; omega), show a2 = UInt8.ofNat (b / 65536) from u8_eq (by rw [UInt8.toNat_ofNat']; omega), show a3 = UInt8.ofNat (b / 16777216) from u8_eq (by rw [UInt8.toNat_ofNat']; omega)]
theorem mixL_drop {w o : List UInt8} (hw : w.length = 64) (ho : o.length = 64) {n : Nat} (hn : n ≤ 64) : (w.take n ++ o.drop n).length = 64 := by simp; omega
theorem mixL_low {w o : List UInt8} (hw : w.length = 64) {n : Nat} (hn : n ≤ 60) : (w.take n ++ o.drop n).drop 60 = o.drop 60 := by
  rw [List.drop_append]
  have : (w.take n).length = n := by simp; omega
  rw [this, List.drop_of_length_le (by omega), List.nil_append, List.drop_drop]
  congr 1; omega
theorem mixL_high {w o : List UInt8} (hw : w.length = 64) {n : Nat} (h0 : 60 ≤ n) (hn : n ≤ 64) : (w.take n ++ o.drop n).take 60 = w.take 60 := by
  rw [List.take_append_of_le_length (by simp; omega), List.take_take]
  congr 1; omega
theorem num_mix {b : Nat} (hb : b < 4294967296) {o : List UInt8} (ho : o.length = 4) {n : Nat} (hn : n ≤ 4) (h : numL o < b) : numL ((fourL b).take n ++ o.drop n) ≤ b := by
  obtain ⟨a0, a1, a2, a3, rfl⟩ := four_of ho
  have h0 := a0.toNat_lt; have h1 := a1.toNat_lt; have h2 := a2.toNat_lt; have h3 := a3.toNat_lt
  have h' : a0.toNat + 256 * a1.toNat + 65536 * a2.toNat + 16777216 * a3.toNat < b := h
  have b0 : (UInt8.ofNat b).toNat = b % 256 := by rw [UInt8.toNat_ofNat']
  have b1 : (UInt8.ofNat (b / 256)).toNat = b / 256 % 256 := by rw [UInt8.toNat_ofNat']
  have b2 : (UInt8.ofNat (b / 65536)).toNat = b / 65536 % 256 := by rw [UInt8.toNat_ofNat']
  have b3 : (UInt8.ofNat (b / 16777216)).toNat = b / 16777216 % 256 := by rw [UInt8.toNat_ofNat']
  rcases (show n = 0 ∨ n = 1 ∨ n = 2 ∨ n = 3 ∨ n = 4 by omega) with e | e | e | e | e <;> subst e
  · show a0.toNat + 256 * a1.toNat + 65536 * a2.toNat + 16777216 * a3.toNat ≤ b
    omega
  · show (UInt8.ofNat b).toNat + 256 * a1.toNat + 65536 * a2.toNat + 16777216 * a3.toNat ≤ b
    omega
  · show (UInt8.ofNat b).toNat + 256 * (UInt8.ofNat (b / 256)).toNat + 65536 * a2.toNat + 16777216 * a3.toNat ≤ b
    omega
  · show (UInt8.ofNat b).toNat + 256 * (UInt8.ofNat (b / 256)).toNat + 65536 * (UInt8.ofNat (b / 65536)).toNat + 16777216 * a3.toNat ≤ b
    omega
  · show (UInt8.ofNat b).toNat + 256 * (UInt8.ofNat (b / 256)).toNat + 65536 * (UInt8.ofNat (b / 65536)).toNat + 16777216 * (UInt8.ofNat (b / 16777216)).toNat ≤ b
    omega
theorem mixL_end {w o : List UInt8} (hw : w.length = 64) (ho : o.length = 64) {n : Nat} (h0 : 60 ≤ n) (hn : n ≤ 64) : (w.take n ++ o.drop n).drop 60 = (w.drop 60).take (n - 60) ++ (o.drop 60).drop (n - 60) := by
  rw [List.drop_append_of_le_length (by simp; omega), List.drop_drop, List.drop_take]
  congr 2; omega
theorem tear {b : Nat} (hb : b < 4294967296) {body : List UInt8} (hl : body.length ≤ 51) {o : List UInt8} (ho : o.length = 64) (hlt : lastN o < b) {n : Nat} (hn : n ≤ 64) :
    (wrapL b body).take n ++ o.drop n = wrapL b body ∨ (lastN ((wrapL b body).take n ++ o.drop n) < b ∧ (n ≤ 60 ∧ lastN ((wrapL b body).take n ++ o.drop n) = lastN o ∨ ((wrapL b body).take n ++ o.drop n).take 60 = (wrapL b body).take 60)) := by
  have hw := wrapL_len b body hl
  by_cases h : n ≤ 60
  · right
    have e : lastN ((wrapL b body).take n ++ o.drop n) = lastN o := by unfold lastN; rw [mixL_low hw h]
    exact ⟨by omega, .inl ⟨h, e⟩⟩
  · have hh := mixL_high (o := o) hw (show 60 ≤ n by omega) hn
    have he := mixL_end hw ho (show 60 ≤ n by omega) hn
    by_cases hq : ((wrapL b body).take n ++ o.drop n).drop 60 = fourL b
    · left
      rw [← List.take_append_drop 60 ((wrapL b body).take n ++ o.drop n), hh, hq, ← wrapL_drop b body hl, List.take_append_drop]
    · right
      have hle : lastN ((wrapL b body).take n ++ o.drop n) ≤ b := by
        unfold lastN
        rw [he, wrapL_drop b body hl]
        exact num_mix hb (by simp; omega) (by omega) hlt
      have hne : lastN ((wrapL b body).take n ++ o.drop n) ≠ b := fun e => hq (numL_four_inj (by simp; omega) hb e)
      exact ⟨by omega, .inr hh⟩
theorem mval_last {a : Nat} {s : List UInt8} {base : Nat} (h0 : 1 ≤ base) (h : lastN s < base) : mval a s < base := by
  unfold mval
  split
  · rename_i h1; rw [(open_last h1.1).1]; exact h
  · omega
theorem mval_half {a b : Nat} {s body : List UInt8} {base : Nat} (h0 : 1 ≤ base) (hb : b < 4294967296) (hl : body.length ≤ 51) (hs : s.take 60 = (wrapL b body).take 60) (h : lastN s < b) : mval a s < base := by
  unfold mval
  split
  · rename_i h1
    obtain ⟨e1, e2, e3⟩ := open_last h1.1
    have e4 : s.take 4 = fourL b := by
      rw [show s.take 4 = (s.take 60).take 4 by rw [List.take_take]; congr 1, hs, List.take_take]
      exact wrapL_take b body
    have : lastN s = b := by
      unfold lastN
      rw [← e3, e4, ← List.append_nil (fourL b)]; exact numL_four b hb []
    omega
  · omega
theorem recorded_last {s : List UInt8} (h : (recordedL s).2.2.2.2 = 0) : (recordedL s).1 = ((lastN s : Nat) : Int) := by
  unfold recordedL at h ⊢
  split at h
  · rename_i h1; exact absurd h h1
  split at h
  · rename_i h1 h2; exact absurd h h2
  rename_i h1 h2
  rw [if_neg h1, if_neg h2]
  show (((openL s).1 : Nat) : Int) = _
  rw [(open_last (by simpa using h1)).1]
end Go.Proofs.YtcgigdfahlmfaaaGreatDoor
