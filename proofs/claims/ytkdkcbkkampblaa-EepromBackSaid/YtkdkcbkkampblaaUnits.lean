/-
  EepromUnits.
-/
import Derived.Test.YtkdkcbkkampblaaBack
import Derived.Test.YtkdkcbkkampblaaRuns
namespace Go.Proofs.Ytkdkcbkkampblaa
open Go.Vc
set_option linter.unusedVariables false

theorem bitsOf_get : ∀ (bytes : List UInt8) (j : Nat) (h : j < 8 * bytes.length), (bitsOf bytes)[j]'(by rw [bitsOf_len]; exact h) = (bits8 ((bytes[j / 8]'(by omega)).toNat : Int))[j % 8]'(by rw [bits8_len]; omega)
  | b :: l, j, h => by
    have e : bitsOf (b :: l) = bits8 (b.toNat : Int) ++ bitsOf l := rfl
    by_cases hj : j < 8
    · have : (bitsOf (b :: l))[j]'(by rw [bitsOf_len]; exact h) = (bits8 (b.toNat : Int))[j]'(by rw [bits8_len]; exact hj) := by
        simp only [e]; rw [List.getElem_append_left (by rw [bits8_len]; exact hj)]
      rw [this]
      have e1 : j / 8 = 0 := by omega
      have e2 : j % 8 = j := by omega
      simp only [e1, e2]; rfl
    · have hl : j - 8 < 8 * l.length := by simp at h; omega
      have : (bitsOf (b :: l))[j]'(by rw [bitsOf_len]; exact h) = (bitsOf l)[j - 8]'(by rw [bitsOf_len]; exact hl) := by
        simp only [e]; rw [List.getElem_append_right (by rw [bits8_len]; omega)]; simp only [bits8_len]
      rw [this, bitsOf_get l (j - 8) hl]
      have e1 : j / 8 = (j - 8) / 8 + 1 := by omega
      have e2 : (j - 8) % 8 = j % 8 := by omega
      simp only [e1, e2]; rfl
theorem ints_bytes (xs : List Int) (h : ∀ x ∈ xs, 0 ≤ x ∧ x < 256) : ∃ m : List UInt8, xs = m.map fun b => (b.toNat : Int) := by
  refine ⟨xs.map fun x => UInt8.ofNat x.toNat, ?_⟩
  rw [List.map_map]
  have : ∀ x ∈ xs, ((fun b : UInt8 => (b.toNat : Int)) ∘ fun x : Int => UInt8.ofNat x.toNat) x = id x := by
    intro x hx
    have := h x hx
    show ((UInt8.ofNat x.toNat).toNat : Int) = x
    rw [UInt8.toNat_ofNat']; omega
  rw [List.map_congr_left this, List.map_id]
theorem wide2 (great : Bool) : ∃ (n : Nat) (wide : Int), (n = 512 ∧ wide = 6 ∨ n = 8192 ∧ wide = 14) ∧ f_wide great = some (wide, (n : Int)) := by
  rw [wide_eq]
  cases great
  · exact ⟨512, 6, .inl ⟨rfl, rfl⟩, rfl⟩
  · exact ⟨8192, 14, .inr ⟨rfl, rfl⟩, rfl⟩
theorem new_wide {n : Nat} {wide : Int} (hn : n = 512 ∧ wide = 6 ∨ n = 8192 ∧ wide = 14) (m : List UInt8) (hml : m.length = n) : f_New (bs m) = some (.inl (0, bs m, wide)) := by
  rw [new_eq m n hml]
  rcases hn with ⟨h1, h2⟩ | ⟨h1, h2⟩ <;> subst h1 <;> subst h2 <;> rfl
theorem inv_new {n : Nat} {wide : Int} (hn : n = 512 ∧ wide = 6 ∨ n = 8192 ∧ wide = 14) (m : List UInt8) (hml : m.length = n) (out : List Int) : Inv ⟨m, [], out, wide⟩ :=
  ⟨⟨by show (m.length = 512 ∧ wide = 6) ∨ (m.length = 8192 ∧ wide = 14); omega⟩, bits_nil, by show ((0 : Nat) : Int) < 67 + wide; omega, .inl rfl, fun h' => by have : (3 : Int) + wide ≤ ((0 : Nat) : Int) := h'; omega⟩
/-- Reading so many bits. -/
theorem loop_bits (out : List Int) (n : Nat) {ρ : Type} (r : ρ) {f : Int × List Int → Option ((Int × List Int) ⊕ ρ)}
    (hf : ∀ (i : Nat) (hi : i < n), f ((i : Int), out.drop i) = some (.inl (((i + 1 : Nat) : Int), (readF (out.drop i)).2)))
    (he : f ((n : Int), out.drop n) = some (.inr r)) : loopO f (0, out) = some r := by
  refine loopO_for (fun i : Nat => ((i : Int), out.drop i)) n (fun i hi => ?_) he
  show f ((i : Int), out.drop i) = _
  rw [hf i hi, readF_snd, List.drop_drop]
theorem readF_at (out : List Int) (i : Nat) (h : i < out.length) : (readF (out.drop i)).1 = out[i] := by
  rw [List.drop_eq_getElem_cons h]; rfl
theorem EepromUnits_eq (great : Bool) (seed : Int) (s0 : 0 ≤ seed) (s1 : seed < 4294967296) : f_EepromUnits great seed = some true := by
  unfold f_EepromUnits
  obtain ⟨n, wide, hn, hw⟩ := wide2 great
  rw [awake_eq, bind_some', cnot, ctrueT rfl, hw, bind_some']
  show cond (decide (0 ≤ (n : Int)) && decide ((n : Int) ≤ (n : Int)) && decide ((n : Int) ≤ 1099511627776)) _ none = _
  rw [cand3 (by omega) (by omega) (by omega), Int.toNat_natCast]
  have hrl : (((List.replicate n (0 : Int)).length : Nat) : Int) = n := by rw [List.length_replicate]
  refine loopO_inv (fun k s => ∃ (i : Nat) (sd : Int) (xs : List Int), k = n - i ∧ i ≤ n ∧ xs.length = n ∧ (∀ x ∈ xs, 0 ≤ x ∧ x < 256) ∧ s = (sd, (i : Int), xs)) ?_ n _ ⟨0, seed, _, rfl, Nat.zero_le _, List.length_replicate, fun x hx => by rw [List.eq_of_mem_replicate hx]; decide, rfl⟩
  rintro k s ⟨i, sd, xs, rfl, hi, hxl, hx, rfl⟩
  show (_ : Prop) ∨ _
  by_cases hlt : i < n
  · left
    have w1 : IntKind.wrap .i64 ((i : Int) + 1) = ((i + 1 : Nat) : Int) := by rw [wrap_i64 (by omega) (by omega)]; omega
    refine ⟨(IntKind.wrap .u32 ((IntKind.wrap .u32 (sd * 1664525)) + 1013904223), ((i + 1 : Nat) : Int), xs.set i (IntKind.wrap .u8 (Int.fdiv (IntKind.wrap .u32 ((IntKind.wrap .u32 (sd * 1664525)) + 1013904223)) 16777216))), n - (i + 1), ?_, by omega, i + 1, _, _, rfl, by omega, by simp [hxl], ?_, rfl⟩
    · show cond (decide ((i : Int) < (((List.replicate n (0 : Int)).length : Nat) : Int))) _ _ = _
      rw [hrl, cpos (by omega), Let_eq, cand (by omega) (by omega), w1]; rfl
    · intro x hx'
      rcases List.mem_or_eq_of_mem_set hx' with h | h
      · exact hx x h
      · rw [h]; exact wrap_u8_bd _
  right
  obtain rfl : i = n := by omega
  show cond (decide ((i : Int) < (((List.replicate i (0 : Int)).length : Nat) : Int))) _ _ = _
  obtain ⟨m, rfl⟩ := ints_bytes xs hx
  have hml : m.length = i := by simpa using hxl
  rw [hrl, cneg (by omega), cbytes, strOf_map, new_wide hn m hml, bind_some']
  show cond ((0 : Int) != 0) _ (loopO _ ((0 : Int), bs m, ([] : List Int), ([] : List Int))) = _
  have hd8 : IntKind.wrap .i64 (Int.tdiv (i : Int) 8) = (i : Int) / 8 := by rw [Int.tdiv_eq_ediv_of_nonneg (by omega), wrap_i64 (by omega) (by omega)]
  have hd2 : IntKind.wrap .i64 (Int.tdiv (i : Int) 2048) = (i : Int) / 2048 := by rw [Int.tdiv_eq_ediv_of_nonneg (by omega), wrap_i64 (by omega) (by omega)]
  rw [cbeq rfl]
  refine loopO_inv (fun k s => ∃ (u : Nat) (out : List Int), k = i - u ∧ u ≤ i ∧ s = ((u : Int), bs m, ([] : List Int), out)) ?_ i _ ⟨0, [], rfl, Nat.zero_le _, rfl⟩
  rintro k s ⟨u, out, rfl, hu, rfl⟩
  show (_ : Prop) ∨ _
  have w3 : IntKind.wrap .i64 (1 + IntKind.wrap .i64 (Int.tdiv (i : Int) 2048)) = 1 + (i : Int) / 2048 := by rw [hd2, wrap_i64 (by omega) (by omega)]
  by_cases hlu : (u : Int) < (i : Int) / 8
  · left
    have ok := (inv_new hn m hml out).ok
    have hsr := send_read m out wide ok u (by omega) (by rw [hml]; exact hlu) 1 (.inr rfl)
    have hnum : f_number (u : Int) wide = some (bs (chr (nbits u wide.toNat))) := by
      have := number_eq (u : Int) wide.toNat (by omega) (by omega) (by omega)
      rwa [show ((wide.toNat : Nat) : Int) = wide by omega] at this
    have hbl8 : ((m.drop (8 * u)).take 8).length = 8 := by simp; omega
    rw [Int.toNat_natCast] at hsr
    have w4 : IntKind.wrap .i64 ((u : Int) + (1 + (i : Int) / 2048)) = ((u + (1 + i / 2048) : Nat) : Int) := by rw [wrap_i64 (by omega) (by omega)]; omega
    generalize ho : [0, 0, 0, 0] ++ bitsOf ((m.drop (8 * u)).take 8) = o at hsr
    have hol : o.length = 68 := by rw [← ho, List.length_append, bitsOf_len, hbl8]; rfl
    refine ⟨(((u + (1 + i / 2048) : Nat) : Int), bs m, ([] : List Int), (o.drop 4).drop 64), i - (u + (1 + i / 2048)), ?_, by omega, u + (1 + i / 2048), _, rfl, by omega, rfl⟩
    show cond (decide ((u : Int) < IntKind.wrap .i64 (Int.tdiv (i : Int) 8))) _ _ = _
    rw [hd8, cpos hlu, hnum, bind_some', show (ByteArray.mk #[49, 49]) = bs (chr [1, 1]) from rfl, show (ByteArray.mk #[49]) = bs (chr [1]) from rfl]
    have hnl : (chr (nbits (u : Int) wide.toNat)).length = wide.toNat := by rw [chr_len, nbits_len]
    rw [cfits (by rw [bs_size, bs_size, hnl, chr_len]; simp; omega), bs_append, cfits (by rw [bs_size, bs_size, List.length_append, hnl, chr_len, chr_len]; simp; omega), bs_append, ← chr_append, ← chr_append]
    have hse := send_eq ⟨m, [], out, wide⟩ (inv_new hn m hml out) (chr ([1, 1] ++ nbits (u : Int) wide.toNat ++ [1])) (by rw [chr_len]; simp [nbits_len]; omega)
    rw [hsr] at hse
    show Option.bind (f_send (bs m) [] out wide _) _ = _
    rw [hse, bind_some']
    show cond false _ (loopO _ ((0 : Int), o)) = _
    rw [ctrueF rfl]
    refine loop_bits o 4 (Sum.inl (((u + (1 + i / 2048) : Nat) : Int), bs m, ([] : List Int), (o.drop 4).drop 64) : (Int × ByteArray × List Int × List Int) ⊕ ((Int × Int × List Int) ⊕ O_EepromUnits)) (fun j hj => ?_) ?_
    · have w1 : IntKind.wrap .i64 ((j : Int) + 1) = ((j + 1 : Nat) : Int) := by rw [wrap_i64 (by omega) (by omega)]; omega
      show cond (decide ((j : Int) < 4)) ((f_Read (bs m) [] (o.drop j) wide).bind _) _ = _
      rw [cpos (by omega), read_eq _ _ _ _ (by simp; omega), bind_some', w1]
      show cond ((readF (o.drop j)).1 != 0) _ _ = _
      have hz : (readF (o.drop j)).1 = 0 := by
        rw [readF_at o j (by omega)]
        have : ∀ (j : Nat) (h : j < 4), o[j]'(by omega) = 0 := by
          intro j h
          simp only [← ho]
          rw [List.getElem_append_left (by simp; omega)]
          obtain rfl | rfl | rfl | rfl : j = 0 ∨ j = 1 ∨ j = 2 ∨ j = 3 := by omega
          all_goals rfl
        exact this j hj
      rw [cbeq hz]; rfl
    · show cond (decide (((4 : Nat) : Int) < 4)) _ (loopO _ ((0 : Int), o.drop 4)) = _
      rw [cneg (by decide)]
      have hod : o.drop 4 = bitsOf ((m.drop (8 * u)).take 8) := by rw [← ho]; rfl
      refine loop_bits (o.drop 4) 64 _ (fun j hj => ?_) ?_
      · have w1 : IntKind.wrap .i64 ((j : Int) + 1) = ((j + 1 : Nat) : Int) := by rw [wrap_i64 (by omega) (by omega)]; omega
        have hmod : Int.tmod (j : Int) 8 = ((j % 8 : Nat) : Int) := by rw [Int.tmod_eq_emod_of_nonneg (by omega)]; omega
        have hdiv : Int.tdiv (j : Int) 8 = ((j / 8 : Nat) : Int) := by rw [Int.tdiv_eq_ediv_of_nonneg (by omega)]; omega
        have hix : IntKind.wrap .i64 ((IntKind.wrap .i64 (8 * (u : Int))) + (IntKind.wrap .i64 (Int.tdiv (j : Int) 8))) = ((8 * u + j / 8 : Nat) : Int) := by
          rw [hdiv, wrap_i64 (x := 8 * (u : Int)) (by omega) (by omega), wrap_i64 (x := ((j / 8 : Nat) : Int)) (by omega) (by omega), wrap_i64 (by omega) (by omega)]; omega
        have hsh : IntKind.wrap .i64 (7 - (Int.tmod (j : Int) 8)) = 7 - ((j % 8 : Nat) : Int) := by rw [hmod, wrap_i64 (by omega) (by omega)]
        show cond (decide ((j : Int) < 64)) (cond (decide (0 ≤ IntKind.wrap .i64 ((IntKind.wrap .i64 (8 * (u : Int))) + (IntKind.wrap .i64 (Int.tdiv (j : Int) 8)))) && decide (IntKind.wrap .i64 ((IntKind.wrap .i64 (8 * (u : Int))) + (IntKind.wrap .i64 (Int.tdiv (j : Int) 8))) < (i : Int))) (cond (decide (0 ≤ IntKind.wrap .i64 (7 - (Int.tmod (j : Int) 8)))) ((f_Read (bs m) [] ((o.drop 4).drop j) wide).bind _) none) none) _ = _
        rw [hix, hsh, cpos (by omega), cand (by omega) (by omega), cpos (by omega), read_eq _ _ _ _ (by simp; omega), bind_some', w1]
        show cond ((readF ((o.drop 4).drop j)).1 != bits .and .u8 (Int.fdiv (ixL (m.map fun b => (b.toNat : Int)) ((8 * u + j / 8 : Nat) : Int)) (2 ^ (min (7 - ((j % 8 : Nat) : Int)).toNat 8))) 1) _ _ = _
        have hjl : j < (o.drop 4).length := by rw [List.length_drop, hol]; omega
        have hmi : 8 * u + j / 8 < m.length := by omega
        have hv : ixL (m.map fun b => (b.toNat : Int)) ((8 * u + j / 8 : Nat) : Int) = ((m[8 * u + j / 8]).toNat : Int) := by
          rw [ixL_nat (by simpa using hmi)]; simp
        have hlt8 := (m[8 * u + j / 8]).toNat_lt
        have hrd : (readF ((o.drop 4).drop j)).1 = bits .and .u8 (Int.fdiv (ixL (m.map fun b => (b.toNat : Int)) ((8 * u + j / 8 : Nat) : Int)) (2 ^ (min (7 - ((j % 8 : Nat) : Int)).toNat 8))) 1 := by
          rw [readF_at _ j hjl, hv, bit_at _ (by omega) (by omega) (j % 8) (by omega)]
          have h8 : j < 8 * ((m.drop (8 * u)).take 8).length := by rw [hbl8]; omega
          have e1 : (o.drop 4)[j]'hjl = (bitsOf ((m.drop (8 * u)).take 8))[j]'(by rw [bitsOf_len]; exact h8) := by simp only [hod]
          rw [e1, bitsOf_get _ j h8]
          have e2 : ((m.drop (8 * u)).take 8)[j / 8]'(by omega) = m[8 * u + j / 8] := by rw [List.getElem_take, List.getElem_drop]
          simp only [e2]
        rw [cbeq hrd]; rfl
      · show cond (decide (((64 : Nat) : Int) < 64)) _ _ = _
        rw [cneg (by decide), Let_eq, w3, w4]
  · right
    show cond (decide ((u : Int) < IntKind.wrap .i64 (Int.tdiv (i : Int) 8))) _ (Option.bind (f_Image (bs m) [] out wide) _) = _
    rw [hd8, cneg hlu, show f_Image (bs m) [] out wide = some (bs m) from rfl, bind_some', cbytes, beq_bs, decide_eq_true rfl]

theorem law_EepromUnits (w : World) (a0 : Bool) (a1 : Int) (w1 : (Lit.int .u32 a1).wf = true) :
    Calls Try.prog n_EepromUnits #[.bool a0, .int .u32 a1] w fun e w' => e = .returned (.bool true) ∧ Chg (fun _ => False) w w' :=
  (t_EepromUnits (EepromUnits_eq a0 a1 (wf_u32 w1).1 (wf_u32 w1).2) trivial).mono fun e w' h => ⟨h.1, h.2.quiet⟩
end Go.Proofs.Ytkdkcbkkampblaa
