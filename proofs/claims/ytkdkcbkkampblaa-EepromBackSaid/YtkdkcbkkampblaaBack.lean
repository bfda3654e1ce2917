/-
  EEPROM: what is sent as a text of bits; numbers in bits.
-/
import Derived.Test.YtkdkcbkkampblaaRef
namespace Go.Proofs.Ytkdkcbkkampblaa
open Go.Vc
set_option linter.unusedVariables false

/-! ### numbers in bits -/
def nbits (n : Int) : Nat → List Int
  | 0 => []
  | w + 1 => nbits (n / 2) w ++ [n % 2]
theorem nbits_len : ∀ (w : Nat) (n : Int), (nbits n w).length = w
  | 0, _ => rfl
  | w + 1, n => by unfold nbits; rw [List.length_append, nbits_len w]; rfl
theorem nbits_bits : ∀ (w : Nat) (n : Int), Bits (nbits n w)
  | 0, _ => bits_nil
  | w + 1, n => by unfold nbits; exact bits_snoc (nbits_bits w (n / 2)) n
theorem nbits_val : ∀ (w : Nat) (n : Int), 0 ≤ n → n < 2 ^ w → val (nbits n w) = n
  | 0, n, h0, h1 => by have : n < 1 := h1; have : n = 0 := by omega
                       subst this; rfl
  | w + 1, n, h0, h1 => by
    unfold nbits
    rw [Int.pow_succ] at h1
    rw [val_snoc, nbits_val w (n / 2) (by omega) (by omega)]; omega
theorem nbits_get : ∀ (w : Nat) (n : Int) (i : Nat) (h : i < w), (nbits n w)[i]'(by rw [nbits_len]; exact h) = n / 2 ^ (w - 1 - i) % 2
  | w + 1, n, i, h => by
    unfold nbits
    rw [List.getElem_append]
    by_cases hi : i < w
    · rw [dif_pos (by rw [nbits_len]; exact hi), nbits_get w (n / 2) i hi, show w + 1 - 1 - i = (w - 1 - i) + 1 by omega, Int.pow_succ, Int.mul_comm, Int.ediv_ediv_of_nonneg (by decide)]
    · rw [dif_neg (by rw [nbits_len]; exact hi)]
      have : i = w := by omega
      subst this
      simp
theorem number_eq (n : Int) (w : Nat) (h0 : 0 ≤ n) (h1 : n < 9223372036854775808) (hw : w ≤ 60) : f_number n w = some (bs (chr (nbits n w))) := by
  unfold f_number
  rw [wrap_i64 (x := (w : Int) - 1) (by omega) (by omega)]
  have e0 : (ByteArray.mk #[], (w : Int) - 1) = (fun i : Nat => (bs (chr ((nbits n w).take i)), (w : Int) - 1 - i)) 0 := by
    show _ = (bs (chr ((nbits n w).take 0)), (w : Int) - 1 - ((0 : Nat) : Int))
    rw [show (w : Int) - 1 - ((0 : Nat) : Int) = (w : Int) - 1 by omega]; rfl
  rw [e0]
  refine loopO_for (fun i : Nat => (bs (chr ((nbits n w).take i)), (w : Int) - 1 - i)) w (fun i hi => ?_) ?_
  · show cond (decide ((w : Int) - 1 - i ≥ 0)) (cond (decide (0 ≤ (w : Int) - 1 - i)) _ none) _ = _
    have hs := List.take_succ_eq_append_getElem (show i < (nbits n w).length by rw [nbits_len]; exact hi)
    have hsz : (chr ((nbits n w).take i)).length = i := by rw [chr_len, List.length_take, nbits_len]; omega
    have hg := nbits_get w n i hi
    have hp : (0 : Int) < 2 ^ (w - 1 - i) := Int.pow_pos (by decide)
    have hbit : bits .and .i64 (Int.fdiv n (2 ^ (min ((w : Int) - 1 - i).toNat 64))) 1 = (nbits n w)[i]'(by rw [nbits_len]; exact hi) := by
      rw [hg, show min ((w : Int) - 1 - i).toNat 64 = w - 1 - i by omega, Int.fdiv_eq_ediv_of_nonneg _ (by omega), and64 1 (by decide) (by decide)]; rfl
    have hb := getElem_bit (nbits_bits w n) (show i < (nbits n w).length by rw [nbits_len]; exact hi)
    rw [cpos (by omega), cpos (by omega), hbit]
    rw [hs, chr_snoc]
    generalize (nbits n w)[i]'(by rw [nbits_len]; exact hi) = x at hb ⊢
    rw [wrap_u8 (x := x) (by omega) (by omega), wrap_u8 (by omega) (by omega)]
    have hin : bytesIn [48 + x] = true := by unfold bytesIn; simp; omega
    have hst : strOf [48 + x] = bs [UInt8.ofNat (48 + x.toNat)] := by
      unfold strOf; show bs [UInt8.ofNat (48 + x).toNat] = _; rw [show (48 + x).toNat = 48 + x.toNat by omega]
    rw [ctrueT hin, hst, cfits (by rw [bs_size, bs_size, hsz]; simp; omega), bs_append, wrap_i64 (by omega) (by omega)]
    show some (Sum.inl (_, (w : Int) - 1 - (i : Int) - 1)) = some (Sum.inl (_, (w : Int) - 1 - ((i + 1 : Nat) : Int)))
    rw [show (w : Int) - 1 - (i : Int) - 1 = (w : Int) - 1 - ((i + 1 : Nat) : Int) by omega]
  · show cond (decide ((w : Int) - 1 - (w : Int) ≥ 0)) _ _ = _
    have : (nbits n w).take w = nbits n w := List.take_of_length_le (by rw [nbits_len]; exact Nat.le_refl _)
    rw [cneg (by omega)]
    show some (Sum.inr (bs (chr ((nbits n w).take w)))) = _
    rw [this]

/-! ### sending bits -/
theorem chr_bit (b : Int) (h : b = 0 ∨ b = 1) : IntKind.wrap .u8 (((UInt8.ofNat (48 + b.toNat)).toNat : Int) - 48) = b := by
  rcases h with h | h <;> subst h <;> rfl
theorem send_more (mem : List UInt8) (out : List Int) (wide : Int) (l : List Int) (hb : Bits l) (h0 : l.getD 0 0 = 1) : ∀ n, n ≤ l.length → ((n : Int) < 2 ∨ (n : Int) < 3 + wide ∨ (l.getD 1 0 = 0 ∧ (n : Int) < 67 + wide)) → 0 ≤ wide →
    sendF ⟨mem, [], out, wide⟩ (chr (l.take n)) = (noneR, ⟨mem, l.take n, out, wide⟩) := by
  intro n
  induction n with
  | zero => intro _ _ _; rfl
  | succ n ih =>
    intro hn hw hw0
    have hn' : n < l.length := by omega
    have hs := List.take_succ_eq_append_getElem hn'
    have hbit := getElem_bit hb hn'
    rw [hs, chr_snoc, sendF_snoc, ih (by omega) (by omega) hw0, chr_bit _ hbit]
    have hmod : l[n] % 2 = l[n] := by omega
    have hlen : (l.take n ++ [l[n]]).length = n + 1 := by rw [← hs, List.length_take]; omega
    have hg0 : (l.take n ++ [l[n]]).getD 0 0 = 1 := by
      rw [← hs, List.getD_eq_getElem?_getD, List.getElem?_take_of_lt (by omega), ← List.getD_eq_getElem?_getD]; exact h0
    by_cases g : ((n + 1 : Nat) : Int) < 2 ∨ ((n + 1 : Nat) : Int) < 3 + wide
    · exact writeF_more (by show l.take n ++ [l[n] % 2] = _; rw [hmod]) hg0 (by rw [hlen]; exact g)
    · have g2 : l.getD 1 0 = 0 ∧ ((n + 1 : Nat) : Int) < 67 + wide := by omega
      refine writeF_wait (by show l.take n ++ [l[n] % 2] = _; rw [hmod]) hg0 (by rw [hlen]; exact g) ?_ (by rw [hlen]; show ((n + 1 : Nat) : Int) ≠ 67 + wide; omega)
      rw [← hs, List.getD_eq_getElem?_getD, List.getElem?_take_of_lt (by omega), ← List.getD_eq_getElem?_getD]; exact g2.1
theorem send_read (mem : List UInt8) (out : List Int) (wide : Int) (ok : Ok mem wide) (u : Int) (u0 : 0 ≤ u) (u1 : u < mem.length / 8) (x : Int) (hx : x = 0 ∨ x = 1) :
    sendF ⟨mem, [], out, wide⟩ (chr ([1, 1] ++ nbits u wide.toNat ++ [x])) = (noneR, ⟨mem, [], [0, 0, 0, 0] ++ bitsOf ((mem.drop (8 * u.toNat)).take 8), wide⟩) := by
  have hw := ok.w
  have hpow : u < 2 ^ wide.toNat := by
    rcases hw with ⟨h, h'⟩ | ⟨h, h'⟩ <;> subst h'
    · show u < 64; omega
    · show u < 16384; omega
  have hb : Bits ([1, 1] ++ nbits u wide.toNat ++ [x]) := by
    intro y hy
    simp only [List.mem_append, List.mem_cons, List.not_mem_nil, or_false] at hy
    rcases hy with (h | h) | h
    · omega
    · exact nbits_bits _ _ _ h
    · omega
  have hl : ([1, 1] ++ nbits u wide.toNat ++ [x]).length = wide.toNat + 3 := by simp [nbits_len]
  have hm := send_more mem out wide ([1, 1] ++ nbits u wide.toNat ++ [x]) hb rfl (wide.toNat + 2) (by omega) (by omega) (by omega)
  have ht : ([1, 1] ++ nbits u wide.toNat ++ [x]).take (wide.toNat + 2) = [1, 1] ++ nbits u wide.toNat := List.take_left' (by simp [nbits_len])
  rw [ht] at hm
  rw [chr_append, show chr [x] = [UInt8.ofNat (48 + x.toNat)] from rfl, sendF_snoc, hm, chr_bit x hx]
  have hmod : x % 2 = x := by omega
  have hu : unitF mem ([1, 1] ++ nbits u wide.toNat ++ [x]) wide = u := by
    unfold unitF
    have e : (([1, 1] ++ nbits u wide.toNat ++ [x]).drop 2).take wide.toNat = nbits u wide.toNat := List.take_left' (nbits_len _ _)
    rw [e, nbits_val _ _ u0 hpow, Int.emod_eq_of_lt u0 u1]
  have := writeF_read (c := ⟨mem, [1, 1] ++ nbits u wide.toNat, out, wide⟩) (b := x) (l := [1, 1] ++ nbits u wide.toNat ++ [x]) (by show _ ++ [x % 2] = _; rw [hmod]) rfl (by rw [hl]; show ¬ (((wide.toNat + 3 : Nat) : Int) < 2 ∨ ((wide.toNat + 3 : Nat) : Int) < 3 + wide); omega) rfl
  rw [this, hu]
theorem send_write (mem : List UInt8) (out : List Int) (wide : Int) (ok : Ok mem wide) (u : Int) (u0 : 0 ≤ u) (u1 : u < mem.length / 8) (ys : List Int) (hy : Bits ys) (hyl : ys.length = 64) (x : Int) (hx : x = 0 ∨ x = 1) :
    sendF ⟨mem, [], out, wide⟩ (chr ([1, 0] ++ nbits u wide.toNat ++ ys ++ [x])) = (⟨1, 8 * u, dataF ys, true⟩, ⟨mem.take (8 * u.toNat) ++ dataF ys ++ mem.drop (8 * u.toNat + 8), [], [], wide⟩) := by
  have hw := ok.w
  have hpow : u < 2 ^ wide.toNat := by
    rcases hw with ⟨h, h'⟩ | ⟨h, h'⟩ <;> subst h'
    · show u < 64; omega
    · show u < 16384; omega
  have hb : Bits ([1, 0] ++ nbits u wide.toNat ++ ys ++ [x]) := by
    intro y hy'
    simp only [List.mem_append, List.mem_cons, List.not_mem_nil, or_false] at hy'
    rcases hy' with ((h | h) | h) | h
    · omega
    · exact nbits_bits _ _ _ h
    · exact hy _ h
    · omega
  have hl : ([1, 0] ++ nbits u wide.toNat ++ ys ++ [x]).length = wide.toNat + 67 := by simp [nbits_len, hyl]
  have hm := send_more mem out wide ([1, 0] ++ nbits u wide.toNat ++ ys ++ [x]) hb rfl (wide.toNat + 66) (by omega) (.inr (.inr ⟨rfl, by omega⟩)) (by omega)
  have ht : ([1, 0] ++ nbits u wide.toNat ++ ys ++ [x]).take (wide.toNat + 66) = [1, 0] ++ nbits u wide.toNat ++ ys := List.take_left' (by simp [nbits_len, hyl])
  rw [ht] at hm
  rw [chr_append, show chr [x] = [UInt8.ofNat (48 + x.toNat)] from rfl, sendF_snoc, hm, chr_bit x hx]
  have hmod : x % 2 = x := by omega
  have hu : unitF mem ([1, 0] ++ nbits u wide.toNat ++ ys ++ [x]) wide = u := by
    unfold unitF
    have e : (([1, 0] ++ nbits u wide.toNat ++ ys ++ [x]).drop 2).take wide.toNat = nbits u wide.toNat := by
      rw [List.append_assoc, List.append_assoc]
      exact List.take_left' (nbits_len _ _)
    rw [e, nbits_val _ _ u0 hpow, Int.emod_eq_of_lt u0 u1]
  have hd : (([1, 0] ++ nbits u wide.toNat ++ ys ++ [x]).drop (2 + wide.toNat)).take 64 = ys := by
    rw [List.append_assoc, List.drop_left' (by simp [nbits_len]; omega)]
    exact List.take_left' hyl
  have := writeF_put (c := ⟨mem, [1, 0] ++ nbits u wide.toNat ++ ys, out, wide⟩) (b := x) (l := [1, 0] ++ nbits u wide.toNat ++ ys ++ [x]) (by show _ ++ [x % 2] = _; rw [hmod]) rfl (by rw [hl]; show ¬ (((wide.toNat + 67 : Nat) : Int) < 2 ∨ ((wide.toNat + 67 : Nat) : Int) < 3 + wide); omega) rfl (by rw [hl]; show ((wide.toNat + 67 : Nat) : Int) = 67 + wide; omega)
  rw [this, hu, hd]
  show ((⟨1, 8 * u, dataF ys, true⟩ : Res), (⟨(applyF mem 1 (8 * u) (dataF ys)).1, [], [], wide⟩ : Chip)) = _
  rw [put_good (mem := mem) (by omega) (by omega) (by omega) (dataF_len ys), show (8 * u).toNat = 8 * u.toNat by omega]
set_option maxHeartbeats 1000000 in
theorem bits8_val (l : List Int) (hb : Bits l) (hl : l.length = 8) : bits8 (val l) = l := by
  match l, hl with
  | [a, b, c, d, e, f, g, h], _ =>
    have ha := hb a (by simp)
    have hb' := hb b (by simp)
    have hc := hb c (by simp)
    have hd := hb d (by simp)
    have he := hb e (by simp)
    have hf := hb f (by simp)
    have hg := hb g (by simp)
    have hh := hb h (by simp)
    have hv : val [a, b, c, d, e, f, g, h] = 2 * (2 * (2 * (2 * (2 * (2 * (2 * (2 * 0 + a) + b) + c) + d) + e) + f) + g) + h := by simp only [val, List.foldl_cons, List.foldl_nil]
    rw [hv]
    have hs : (2 * (2 * (2 * (2 * (2 * (2 * (2 * (2 * 0 + a) + b) + c) + d) + e) + f) + g) + h) = 128 * a + 64 * b + 32 * c + 16 * d + 8 * e + 4 * f + 2 * g + h := by omega
    rw [hs]
    unfold bits8
    simp only [List.cons.injEq, and_true]
    refine ⟨?_, ?_, ?_, ?_, ?_, ?_, ?_, ?_⟩ <;> omega
end Go.Proofs.Ytkdkcbkkampblaa
