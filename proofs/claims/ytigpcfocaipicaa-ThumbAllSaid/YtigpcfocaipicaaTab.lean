/-
  The document's table of Thumb code: patterns, letters, the first row that fits.
-/
import Derived.Test.YtigpcfocaipicaaG
import Derived.Test.YtigpcfocaipicaaFields
import Derived.Test.YtigpcfocaipicaaWrap
namespace Go.Proofs.Ytigpcfocaipicaa
open Go.Vc
set_option linter.unusedVariables false
set_option linter.unusedSimpArgs false

def chars (p : ByteArray) : List Nat := p.data.toList.map UInt8.toNat
theorem chars_len (p : ByteArray) : (chars p).length = p.size := by unfold chars; rw [List.length_map, Array.length_toList]; rfl
theorem sbyte_chars {p : ByteArray} {i : Nat} (h : i < p.size) : sbyte p (i : Int) = (((chars p)[i]'(by rw [chars_len]; exact h) : Nat) : Int) := by
  have h' : i < p.data.toList.length := by rw [Array.length_toList]; exact h
  unfold sbyte chars
  rw [show ((i : Nat) : Int).toNat = i from rfl, List.getElem_map, List.getD_eq_getElem?_getD, List.getElem?_eq_getElem h']; rfl
def fitsN : List Nat → Nat → Bool
  | [], _ => true
  | c :: r, w => if c = 48 then (if w / 2 ^ r.length % 2 = 0 then fitsN r w else false) else if c = 49 then (if w / 2 ^ r.length % 2 = 1 then fitsN r w else false) else fitsN r w
def fldN : List Nat → Nat → Nat → Nat → Nat
  | [], _, _, a => a
  | x :: r, w, c, a => if x = c then fldN r w c (2 * a + w / 2 ^ r.length % 2) else fldN r w c a
def hasN : List Nat → Nat → Bool
  | [], _ => false
  | x :: r, c => if x = c then true else hasN r c
theorem fitsN_cons (c : Nat) (r : List Nat) (w : Nat) : fitsN (c :: r) w = if c = 48 then (if w / 2 ^ r.length % 2 = 0 then fitsN r w else false) else if c = 49 then (if w / 2 ^ r.length % 2 = 1 then fitsN r w else false) else fitsN r w := rfl
theorem fldN_cons (x : Nat) (r : List Nat) (w c a : Nat) : fldN (x :: r) w c a = if x = c then fldN r w c (2 * a + w / 2 ^ r.length % 2) else fldN r w c a := rfl
theorem hasN_cons (x : Nat) (r : List Nat) (c : Nat) : hasN (x :: r) c = if x = c then true else hasN r c := rfl
theorem shift_eq {q n i : Nat} (hn : n ≤ 16) (hi : i < n) : Int.tmod (Int.fdiv ((q : Nat) : Int) (2 ^ (min (IntKind.wrap .i64 ((IntKind.wrap .i64 ((n : Int) - 1)) - (i : Int))).toNat 32))) 2 = ((q / 2 ^ (n - 1 - i) % 2 : Nat) : Int) := by
  rw [wrap_i64 (x := (n : Int) - 1) (by omega) (by omega), wrap_i64 (x := (n : Int) - 1 - (i : Int)) (by omega) (by omega), show min ((n : Int) - 1 - (i : Int)).toNat 32 = n - 1 - i by omega, pow_cast, fdiv_cast, Int.tmod_eq_emod_of_nonneg (Int.natCast_nonneg _)]
  rfl
theorem drop_at {l : List Nat} {i : Nat} (h : i < l.length) : l.drop i = l[i] :: l.drop (i + 1) := (List.drop_eq_getElem_cons h)
theorem Fits_eq (p : ByteArray) (q : Nat) (hp : p.size ≤ 16) : f_Fits p (q : Int) = some (fitsN (chars p) q) := by
  unfold f_Fits
  refine loopO_inv (fun (n : Nat) (s : Int) => ∃ i : Nat, s = (i : Int) ∧ n = p.size - i ∧ i ≤ p.size ∧ fitsN ((chars p).drop i) q = fitsN (chars p) q) ?_ p.size 0 ⟨0, rfl, rfl, by omega, by rw [List.drop_zero]⟩
  rintro n s ⟨i, rfl, rfl, hi, hf⟩
  by_cases hc : i < p.size
  · have hsh := shift_eq (q := q) hp hc
    have hs := sbyte_chars hc
    have hcl : i < (chars p).length := by rw [chars_len]; exact hc
    rw [drop_at hcl] at hf
    have hdl : ((chars p).drop (i + 1)).length = p.size - 1 - i := by rw [List.length_drop, chars_len]; omega
    rw [fitsN_cons] at hf
    rw [hdl] at hf
    generalize hx : (chars p)[i] = x at hf hs
    generalize hb : q / 2 ^ (p.size - 1 - i) % 2 = b at hf hsh
    show (∃ s' m, cond (decide ((i : Int) < ((p.size : Nat) : Int))) (cond _ (Let _ _) none) _ = _ ∧ _) ∨ cond (decide ((i : Int) < ((p.size : Nat) : Int))) (cond _ (Let _ _) none) _ = _
    rw [cpos (by omega), cpos (by rw [wrap_i64 (x := (p.size : Int) - 1) (by omega) (by omega), wrap_i64 (by omega) (by omega)]; omega), Let_eq, hsh, cand (by omega) (by omega), hs, cand (by omega) (by omega)]
    have next : ∃ s' m, (some (Sum.inl (IntKind.wrap .i64 ((i : Int) + 1))) : Option (Int ⊕ Bool)) = some (.inl s') ∧ m < p.size - i ∧ ∃ j : Nat, s' = (j : Int) ∧ m = p.size - j ∧ j ≤ p.size ∧ j = i + 1 := ⟨_, p.size - (i + 1), rfl, by omega, i + 1, by rw [wrap_i64 (by omega) (by omega)]; omega, rfl, by omega, rfl⟩
    by_cases h0 : x = 48
    · rw [if_pos h0] at hf
      rw [ceq (by omega)]
      by_cases hb0 : b = 0
      · rw [if_pos hb0] at hf
        rw [cbeq (by omega), cne (by omega)]
        left
        obtain ⟨s', m, e1, e2, j, e3, e4, e5, rfl⟩ := next
        exact ⟨s', m, e1, e2, _, e3, e4, e5, hf⟩
      · rw [if_neg hb0] at hf
        rw [cbne (by omega)]
        right; rw [← hf]
    · rw [if_neg h0] at hf
      rw [cne (by omega)]
      by_cases h1 : x = 49
      · rw [if_pos h1] at hf
        rw [ceq (by omega)]
        by_cases hb0 : b = 1
        · rw [if_pos hb0] at hf
          rw [cbeq (by omega)]
          left
          obtain ⟨s', m, e1, e2, j, e3, e4, e5, rfl⟩ := next
          exact ⟨s', m, e1, e2, _, e3, e4, e5, hf⟩
        · rw [if_neg hb0] at hf
          rw [cbne (by omega)]
          right; rw [← hf]
      · rw [if_neg h1] at hf
        rw [cne (by omega)]
        left
        obtain ⟨s', m, e1, e2, j, e3, e4, e5, rfl⟩ := next
        exact ⟨s', m, e1, e2, _, e3, e4, e5, hf⟩
  · right
    have he : i = p.size := by omega
    subst he
    show cond (decide (((p.size : Nat) : Int) < ((p.size : Nat) : Int))) _ _ = _
    rw [cneg (by omega), ← hf, show (chars p).drop p.size = [] by rw [List.drop_eq_nil_iff, chars_len]; exact Nat.le_refl _]; rfl
theorem has_eq (p : ByteArray) (c : Nat) (hp : p.size ≤ 16) : f_has p (c : Int) = some (hasN (chars p) c) := by
  unfold f_has
  refine loopO_inv (fun (n : Nat) (s : Int) => ∃ i : Nat, s = (i : Int) ∧ n = p.size - i ∧ i ≤ p.size ∧ hasN ((chars p).drop i) c = hasN (chars p) c) ?_ p.size 0 ⟨0, rfl, rfl, by omega, by rw [List.drop_zero]⟩
  rintro n s ⟨i, rfl, rfl, hi, hf⟩
  by_cases hc : i < p.size
  · have hs := sbyte_chars hc
    have hcl : i < (chars p).length := by rw [chars_len]; exact hc
    rw [drop_at hcl] at hf
    rw [hasN_cons] at hf
    generalize hx : (chars p)[i] = x at hf hs
    show (∃ s' m, cond (decide ((i : Int) < ((p.size : Nat) : Int))) (cond _ _ none) _ = _ ∧ _) ∨ cond (decide ((i : Int) < ((p.size : Nat) : Int))) (cond _ _ none) _ = _
    rw [cpos (by omega), cand (by omega) (by omega), hs]
    by_cases h0 : x = c
    · rw [if_pos h0] at hf
      rw [ceq (by omega)]
      right; rw [← hf]
    · rw [if_neg h0] at hf
      rw [cne (by omega)]
      left
      exact ⟨_, p.size - (i + 1), rfl, by omega, i + 1, by rw [wrap_i64 (by omega) (by omega)]; omega, rfl, by omega, hf⟩
  · right
    have he : i = p.size := by omega
    subst he
    show cond (decide (((p.size : Nat) : Int) < ((p.size : Nat) : Int))) _ _ = _
    rw [cneg (by omega), ← hf, show (chars p).drop p.size = [] by rw [List.drop_eq_nil_iff, chars_len]; exact Nat.le_refl _]; rfl
theorem Field_eq0 (p : ByteArray) (q c : Nat) (hp : p.size ≤ 16) : f_Field p (q : Int) (c : Int) = some ((fldN (chars p) q c 0 : Nat) : Int) := by
  unfold f_Field
  refine loopO_inv (fun (n : Nat) (s : Int × Int) => ∃ i a : Nat, s = ((a : Int), (i : Int)) ∧ n = p.size - i ∧ i ≤ p.size ∧ a < 2 ^ i ∧ fldN ((chars p).drop i) q c a = fldN (chars p) q c 0) ?_ p.size (0, 0) ⟨0, 0, rfl, rfl, by omega, by decide, by rw [List.drop_zero]⟩
  rintro n s ⟨i, a, rfl, rfl, hi, ha, hf⟩
  by_cases hc : i < p.size
  · have hsh := shift_eq (q := q) hp hc
    have hs := sbyte_chars hc
    have hcl : i < (chars p).length := by rw [chars_len]; exact hc
    rw [drop_at hcl] at hf
    have hdl : ((chars p).drop (i + 1)).length = p.size - 1 - i := by rw [List.length_drop, chars_len]; omega
    rw [fldN_cons] at hf
    rw [hdl] at hf
    generalize hx : (chars p)[i] = x at hf hs
    have hb2 : q / 2 ^ (p.size - 1 - i) % 2 < 2 := Nat.mod_lt _ (by decide)
    generalize hb : q / 2 ^ (p.size - 1 - i) % 2 = b at hf hsh hb2
    have h16 : 2 ^ i ≤ 2 ^ 16 := Nat.pow_le_pow_right (by decide) (by omega)
    have hsucc : 2 ^ (i + 1) = 2 * 2 ^ i := by rw [Nat.pow_succ, Nat.mul_comm]
    show (∃ s' m, cond (decide ((i : Int) < ((p.size : Nat) : Int))) (cond _ _ none) _ = _ ∧ _) ∨ cond (decide ((i : Int) < ((p.size : Nat) : Int))) (cond _ _ none) _ = _
    rw [cpos (by omega), cand (by omega) (by omega), hs]
    left
    by_cases h0 : x = c
    · rw [if_pos h0] at hf
      rw [ceq (by omega), cpos (by rw [wrap_i64 (x := (p.size : Int) - 1) (by omega) (by omega), wrap_i64 (by omega) (by omega)]; omega), Let_eq, hsh]
      refine ⟨_, p.size - (i + 1), rfl, by omega, i + 1, 2 * a + b, ?_, rfl, by omega, by omega, hf⟩
      rw [wrap_i64 (x := 2 * (a : Int)) (by omega) (by omega), wrap_i64 (x := ((b : Nat) : Int)) (by omega) (by omega), wrap_i64 (x := 2 * (a : Int) + (b : Int)) (by omega) (by omega), wrap_i64 (x := (i : Int) + 1) (by omega) (by omega)]
      rfl
    · rw [if_neg h0] at hf
      rw [cne (by omega)]
      refine ⟨_, p.size - (i + 1), rfl, by omega, i + 1, a, ?_, rfl, by omega, by omega, hf⟩
      rw [wrap_i64 (x := (i : Int) + 1) (by omega) (by omega)]; rfl
  · right
    have he : i = p.size := by omega
    subst he
    show cond (decide (((p.size : Nat) : Int) < ((p.size : Nat) : Int))) _ _ = _
    rw [cneg (by omega), ← hf, show (chars p).drop p.size = [] by rw [List.drop_eq_nil_iff, chars_len]; exact Nat.le_refl _]; rfl
/-- Where a letter's bits lie: runs of them. -/
def segs : List Nat → Nat → List (Nat × Nat)
  | [], _ => []
  | x :: r, c => if x = c then (match segs r c with
      | [] => [(r.length, 1)]
      | (lo, n) :: s => if lo + n = r.length then (lo, n + 1) :: s else (r.length, 1) :: (lo, n) :: s) else segs r c
def evs (w : Nat) : List (Nat × Nat) → Nat → Nat
  | [], a => a
  | (lo, n) :: s, a => evs w s (a * 2 ^ n + w / 2 ^ lo % 2 ^ n)
theorem evs_segs (w c : Nat) : ∀ (p : List Nat) (a : Nat), evs w (segs p c) a = fldN p w c a
  | [], a => rfl
  | x :: r, a => by
    have ih := evs_segs w c r
    rw [fldN_cons]; unfold segs
    by_cases h : x = c
    · rw [if_pos h, if_pos h, ← ih]
      cases hs : segs r c with
      | nil =>
        show evs w [] (a * 2 ^ 1 + w / 2 ^ r.length % 2 ^ 1) = evs w [] (2 * a + w / 2 ^ r.length % 2)
        rw [Nat.pow_one, Nat.mul_comm]
      | cons y s =>
        obtain ⟨lo, n⟩ := y
        dsimp only
        by_cases hl : lo + n = r.length
        · rw [if_pos hl]
          show evs w s (a * 2 ^ (n + 1) + w / 2 ^ lo % 2 ^ (n + 1)) = evs w s ((2 * a + w / 2 ^ r.length % 2) * 2 ^ n + w / 2 ^ lo % 2 ^ n)
          congr 1
          have e1 : w / 2 ^ (lo + n) = w / 2 ^ lo / 2 ^ n := by rw [Nat.pow_add, Nat.div_div_eq_div_mul]
          rw [← hl, e1, Nat.pow_succ, Nat.mod_mul]
          generalize w / 2 ^ lo = y
          generalize 2 ^ n = m
          generalize y / m % 2 = b
          generalize y % m = z
          rw [Nat.add_mul, Nat.mul_comm m b, show a * (m * 2) = 2 * a * m by rw [Nat.mul_comm m 2, ← Nat.mul_assoc, Nat.mul_comm a 2]]
          omega
        · rw [if_neg hl]
          show evs w ((lo, n) :: s) (a * 2 ^ 1 + w / 2 ^ r.length % 2 ^ 1) = evs w ((lo, n) :: s) (2 * a + w / 2 ^ r.length % 2)
          rw [Nat.pow_one, Nat.mul_comm]
    · rw [if_neg h, if_neg h]; exact ih a
def evf (w : Nat) (s : List (Nat × Nat)) : Nat := match s with
  | [] => 0
  | [(lo, n)] => w / 2 ^ lo % 2 ^ n
  | x :: y :: s => evs w (x :: y :: s) 0
theorem evf_eq (w : Nat) (s : List (Nat × Nat)) : evf w s = evs w s 0 := by
  match s with
  | [] => rfl
  | [(lo, n)] => show w / 2 ^ lo % 2 ^ n = 0 * 2 ^ n + w / 2 ^ lo % 2 ^ n; omega
  | x :: y :: s => rfl
def fldS (p : List Nat) (w c : Nat) : Nat := evf w (segs p c)
theorem Field_eq (p : ByteArray) (q c : Nat) (hp : p.size ≤ 16) : f_Field p (q : Int) (c : Int) = some ((fldS (chars p) q c : Nat) : Int) := by
  rw [Field_eq0 p q c hp]; unfold fldS; rw [evf_eq, evs_segs]
/-! ### parts of a pattern -/
theorem div_split (w k m : Nat) : w / 2 ^ (k + m) = w / 2 ^ m / 2 ^ k := by rw [Nat.add_comm, Nat.pow_add, Nat.div_div_eq_div_mul]
theorem fits_app (b : List Nat) (w : Nat) : ∀ a : List Nat, fitsN (a ++ b) w = (fitsN a (w / 2 ^ b.length) && fitsN b w)
  | [] => by simp [fitsN]
  | c :: r => by
    have ih := fits_app b w r
    rw [List.cons_append]
    rw [fitsN_cons, fitsN_cons, List.length_append, div_split, ih]
    by_cases h0 : c = 48
    · rw [if_pos h0, if_pos h0]; split <;> simp
    · rw [if_neg h0, if_neg h0]
      by_cases h1 : c = 49
      · rw [if_pos h1, if_pos h1]; split <;> simp
      · rw [if_neg h1, if_neg h1]
theorem fld_app (b : List Nat) (w c : Nat) : ∀ (a : List Nat) (x : Nat), fldN (a ++ b) w c x = fldN b w c (fldN a (w / 2 ^ b.length) c x)
  | [], _ => rfl
  | y :: r, x => by
    have ih := fld_app b w c r
    rw [List.cons_append]
    rw [fldN_cons, fldN_cons, List.length_append, div_split]
    split <;> exact ih _
def plain (b : List Nat) : Bool := b.all fun c => !(c == 48) && !(c == 49)
theorem fits_plain (w : Nat) : ∀ b : List Nat, plain b = true → fitsN b w = true
  | [], _ => rfl
  | c :: r, h => by
    simp [plain] at h
    rw [fitsN_cons, if_neg h.1.1, if_neg h.1.2]
    exact fits_plain w r (by simpa [plain] using h.2)
theorem fld_none (w c : Nat) : ∀ (b : List Nat) (x : Nat), hasN b c = false → fldN b w c x = x
  | [], _, _ => rfl
  | y :: r, x, h => by
    rw [hasN_cons] at h
    rw [fldN_cons]
    by_cases hy : y = c
    · rw [if_pos hy] at h; cases h
    · rw [if_neg hy] at h ⊢; exact fld_none w c r x h
end Go.Proofs.Ytigpcfocaipicaa
