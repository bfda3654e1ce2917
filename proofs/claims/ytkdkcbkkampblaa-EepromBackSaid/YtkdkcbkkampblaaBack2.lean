/-
  EepromBack.
-/
import Derived.Test.YtkdkcbkkampblaaUnits
namespace Go.Proofs.Ytkdkcbkkampblaa
open Go.Vc
set_option linter.unusedVariables false

theorem bitsOf_data (ys : List Int) (hy : Bits ys) (hl : ys.length = 64) : bitsOf (dataF ys) = ys := by
  apply List.ext_getElem (by rw [bitsOf_len, dataF_len, hl])
  intro i h1 h2
  have h8 : i < 8 * (dataF ys).length := by rw [dataF_len]; omega
  rw [bitsOf_get _ i h8]
  have hd : (dataF ys)[i / 8]'(by rw [dataF_len]; omega) = UInt8.ofNat (part ys 64 (i / 8)).toNat := by unfold dataF; simp
  obtain ⟨p0, p1⟩ := part_bd hy 64 (i / 8)
  have hv : (((dataF ys)[i / 8]'(by rw [dataF_len]; omega)).toNat : Int) = part ys 64 (i / 8) := by
    rw [hd, UInt8.toNat_ofNat']; omega
  have hpl : ((ys.drop (8 * (i / 8))).take 8).length = 8 := by simp; omega
  have hb : bits8 (part ys 64 (i / 8)) = (ys.drop (8 * (i / 8))).take 8 := by
    unfold part
    rw [show min 8 (64 - 8 * (i / 8)) = 8 by omega]
    exact bits8_val _ ((hy.drop _).take _) hpl
  simp only [hv, hb]
  rw [List.getElem_take, List.getElem_drop]
  congr 1; omega
theorem ffs_take (n k : Nat) (h : k ≤ n) : (ffs n).take k = ffs k := by unfold ffs; rw [List.take_replicate, Nat.min_eq_left h]
theorem ffs_drop (n k : Nat) : (ffs n).drop k = ffs (n - k) := by unfold ffs; rw [List.drop_replicate]
theorem EepromBack_eq (great : Bool) (unit data : Int) (hu : -9223372036854775808 ≤ unit ∧ unit ≤ 9223372036854775807) (d0 : 0 ≤ data) (d1 : data < 18446744073709551616) : f_EepromBack great unit data = some true := by
  unfold f_EepromBack
  obtain ⟨n, wide, hn, hw⟩ := wide2 great
  rw [awake_eq, bind_some', cnot, ctrueT rfl, hw, bind_some']
  have hd8 : IntKind.wrap .i64 (Int.tdiv (n : Int) 8) = (n : Int) / 8 := by rw [Int.tdiv_eq_ediv_of_nonneg (by omega), wrap_i64 (by omega) (by omega)]
  show cond (!(IntKind.wrap .i64 (Int.tdiv (n : Int) 8) == 0)) _ none = _
  rw [hd8, cnot, cne (by omega), cnot, cne (by omega), Let_eq]
  have hun : ∃ u : Nat, (u : Int) < (n : Int) / 8 ∧ Int.tmod (IntKind.wrap .i64 (Int.tmod unit ((n : Int) / 8) + (n : Int) / 8)) ((n : Int) / 8) = (u : Int) := by
    have hpos : (0 : Int) < (n : Int) / 8 := by omega
    have h1 := Int.tmod_lt_of_pos unit hpos
    have h2 : -((n : Int) / 8) < Int.tmod unit ((n : Int) / 8) := by
      have := Int.tmod_lt_of_pos (-unit) hpos
      rw [Int.neg_tmod] at this; omega
    rw [wrap_i64 (by omega) (by omega), Int.tmod_eq_emod_of_nonneg (by omega)]
    have h3 := Int.emod_nonneg (Int.tmod unit ((n : Int) / 8) + (n : Int) / 8) (show (n : Int) / 8 ≠ 0 by omega)
    have h4 := Int.emod_lt_of_pos (Int.tmod unit ((n : Int) / 8) + (n : Int) / 8) hpos
    exact ⟨(Int.tmod unit ((n : Int) / 8) + (n : Int) / 8).emod ((n : Int) / 8) |>.toNat, by show (((_ % _ : Int).toNat : Nat) : Int) < _; omega, by show _ = (((_ % _ : Int).toNat : Nat) : Int); omega⟩
  obtain ⟨u, hu1, hu2⟩ := hun
  rw [hu2]
  have hrep : ∀ k : Nat, k ≤ 8192 → f_Repeat (ByteArray.mk #[255]) (k : Int) = some (bs (ffs k)) := fun k hk => by rw [repeat_ff _ (by omega) (by omega), Int.toNat_natCast]
  rw [hrep n (by omega), bind_some', new_wide hn (ffs n) (ffs_length n), bind_some']
  have w8 : IntKind.wrap .i64 (8 * (u : Int)) = ((8 * u : Nat) : Int) := by rw [wrap_i64 (by omega) (by omega)]; omega
  have hhi : f_number (IntKind.wrap .i64 (Int.fdiv data 4294967296)) 32 = some (bs (chr (nbits (data / 4294967296) 32))) := by
    rw [Int.fdiv_eq_ediv_of_nonneg _ (by decide), wrap_i64 (by omega) (by omega)]
    exact number_eq _ 32 (by omega) (by omega) (by decide)
  have hlo : f_number (IntKind.wrap .i64 (bits .and .u64 data 4294967295)) 32 = some (bs (chr (nbits (data % 4294967296) 32))) := by
    have e : bits .and .u64 data 4294967295 = data % 4294967296 := by
      rw [u64_and data 4294967295 d0 (by omega) (by decide) (by decide), show (4294967295 : Int).toNat = 2 ^ 32 - 1 from rfl, Nat.and_two_pow_sub_one_eq_mod]
      show ((data.toNat % 4294967296 : Nat) : Int) = _
      omega
    rw [e, wrap_i64 (by omega) (by omega)]
    exact number_eq _ 32 (by omega) (by omega) (by decide)
  have hnum : f_number (u : Int) wide = some (bs (chr (nbits (u : Int) wide.toNat))) := by
    have := number_eq (u : Int) wide.toNat (by omega) (by omega) (by omega)
    rwa [show ((wide.toNat : Nat) : Int) = wide by omega] at this
  show Option.bind (f_number (IntKind.wrap .i64 (Int.fdiv data 4294967296)) 32) _ = _
  rw [hhi, bind_some', hlo, bind_some']
  have hl1 := nbits_len 32 (data / 4294967296)
  have hl2 := nbits_len 32 (data % 4294967296)
  have hb1 := nbits_bits 32 (data / 4294967296)
  have hb2 := nbits_bits 32 (data % 4294967296)
  generalize nbits (data / 4294967296) 32 = y1 at *
  generalize nbits (data % 4294967296) 32 = y2 at *
  have hnl : (chr (nbits (u : Int) wide.toNat)).length = wide.toNat := by rw [chr_len, nbits_len]
  have hc1 : (chr y1).length = 32 := by rw [chr_len, hl1]
  have hc2 : (chr y2).length = 32 := by rw [chr_len, hl2]
  rw [cfits (by rw [bs_size, bs_size, hc1, hc2]; decide), hnum, bind_some']
  rw [show (ByteArray.mk #[49, 48]) = bs (chr [1, 0]) from rfl, show (ByteArray.mk #[49, 49]) = bs (chr [1, 1]) from rfl, show (ByteArray.mk #[48]) = bs (chr [0]) from rfl, show (ByteArray.mk #[48, 48, 48, 48]) = bs (chr [0, 0, 0, 0]) from rfl]
  rw [bs_append (chr y1), cfits (by rw [bs_size, bs_size, hnl, chr_len]; simp; omega), bs_append (chr [1, 0]), cfits (by rw [bs_size, bs_size]; simp [chr_len, nbits_len, hl1, hl2]; omega), bs_append (chr [1, 0] ++ chr (nbits (u : Int) wide.toNat)), cfits (by rw [bs_size, bs_size]; simp [chr_len, nbits_len, hl1, hl2]; omega), bs_append (chr [1, 0] ++ chr (nbits (u : Int) wide.toNat) ++ (chr y1 ++ chr y2))]
  rw [← chr_append, ← chr_append, ← chr_append, ← chr_append]
  have hys : (y1 ++ y2).length = 64 := by rw [List.length_append, hl1, hl2]
  have hyb : Bits (y1 ++ y2) := by
    intro x hx
    rcases List.mem_append.1 hx with h | h
    · exact hb1 x h
    · exact hb2 x h
  generalize y1 ++ y2 = ys at hys hyb ⊢
  have ok := (inv_new hn (ffs n) (ffs_length n) []).ok
  have hsw := send_write (ffs n) [] wide ok (u : Int) (by omega) (by rw [ffs_length]; exact hu1) ys hyb hys 0 (.inl rfl)
  have hse := send_eq ⟨ffs n, [], [], wide⟩ (inv_new hn (ffs n) (ffs_length n) []) (chr ([1, 0] ++ nbits (u : Int) wide.toNat ++ ys ++ [0])) (by rw [chr_len]; simp [nbits_len, hys]; omega)
  rw [hsw] at hse
  show Option.bind (f_send (bs (ffs n)) [] [] wide (bs (chr ([1, 0] ++ nbits (u : Int) wide.toNat ++ ys ++ [0])))) _ = _
  rw [hse, bind_some', Int.toNat_natCast]
  have hmem : ((ffs n).take (8 * u) ++ dataF ys ++ (ffs n).drop (8 * u + 8)) = ffs (8 * u) ++ dataF ys ++ ffs (n - (8 * u + 8)) := by rw [ffs_take n _ (by omega), ffs_drop]
  rw [hmem]
  have hml : (ffs (8 * u) ++ dataF ys ++ ffs (n - (8 * u + 8))).length = n := by simp [ffs_length, dataF_len]; omega
  have ex1 : ((ffs (8 * u) ++ dataF ys ++ ffs (n - (8 * u + 8))).drop 0).take (8 * u) = ffs (8 * u) := by rw [List.drop_zero, List.append_assoc, List.take_left' (ffs_length _)]
  have ex2 : (ffs (8 * u) ++ dataF ys ++ ffs (n - (8 * u + 8))).drop (8 * u + 8) = ffs (n - (8 * u + 8)) := List.drop_left' (by simp [ffs_length, dataF_len])
  have ex3 : ((ffs (8 * u) ++ dataF ys ++ ffs (n - (8 * u + 8))).drop (8 * u)).take 8 = dataF ys := by rw [List.append_assoc, List.drop_left' (ffs_length _), List.take_left' (dataF_len ys)]
  generalize ffs (8 * u) ++ dataF ys ++ ffs (n - (8 * u + 8)) = m2 at *
  have hdl := dataF_len ys
  show cond (!true) _ (cond ((1 : Int) != 1) _ (cond ((8 * (u : Int)) != IntKind.wrap .i64 (8 * (u : Int))) _ (cond ((((bs (dataF ys)).size : Nat) : Int) != 8) _ (Option.bind (f_Image (bs m2) [] [] wide) _)))) = _
  have w88 : IntKind.wrap .i64 (((8 * u : Nat) : Int) + 8) = ((8 * u + 8 : Nat) : Int) := by rw [wrap_i64 (by omega) (by omega)]; omega
  have wn : IntKind.wrap .i64 (IntKind.wrap .i64 ((n : Int) - ((8 * u : Nat) : Int)) - 8) = ((n - (8 * u + 8) : Nat) : Int) := by rw [wrap_i64 (x := (n : Int) - ((8 * u : Nat) : Int)) (by omega) (by omega), wrap_i64 (by omega) (by omega)]; omega
  rw [cnot, ctrueT rfl, cbeq rfl, w8, cbeq (by omega), bs_size, hdl, cbeq (show ((8 : Nat) : Int) = 8 from rfl), w88, wn]
  show Option.bind (some (bs m2)) _ = _
  rw [bind_some', bs_size, hml, cand (by omega) (by omega), cand (by decide) (by omega), hrep (8 * u) (by omega), bind_some', Int.toNat_natCast, Int.toNat_natCast, bs_extract, Nat.sub_zero, ex1, beq_bs, decide_eq_true rfl, cnot, ctrueT rfl]
  rw [cand (by omega) (by omega), cand (by omega) (by omega), hrep _ (by omega), bind_some', bs_extract, ex2, List.take_of_length_le (by rw [ffs_length]; omega), beq_bs, decide_eq_true rfl, cnot, ctrueT rfl]
  rw [cand (by omega) (by omega), cand (by omega) (by omega), bs_extract, show 8 * u + 8 - 8 * u = 8 by omega, ex3, beq_bs, decide_eq_true rfl, cnot, ctrueT rfl]
  rw [bind_some', cfits (by rw [bs_size, bs_size, hnl, chr_len]; simp; omega), bs_append (chr [1, 1]), cfits (by rw [bs_size, bs_size]; simp [chr_len, nbits_len]; omega), bs_append (chr [1, 1] ++ chr (nbits (u : Int) wide.toNat)), ← chr_append, ← chr_append]
  have ok2 := (inv_new hn m2 hml []).ok
  have hsr := send_read m2 [] wide ok2 (u : Int) (by omega) (by rw [hml]; exact hu1) 0 (.inl rfl)
  have hse2 := send_eq ⟨m2, [], [], wide⟩ (inv_new hn m2 hml []) (chr ([1, 1] ++ nbits (u : Int) wide.toNat ++ [0])) (by rw [chr_len]; simp [nbits_len]; omega)
  rw [hsr] at hse2
  show Option.bind (f_send (bs m2) [] [] wide (bs (chr ([1, 1] ++ nbits (u : Int) wide.toNat ++ [0])))) _ = _
  rw [hse2, bind_some', Int.toNat_natCast, ex3, bitsOf_data ys hyb hys]
  show cond false _ (loopO _ (ByteArray.mk #[], (0 : Int), [0, 0, 0, 0] ++ ys)) = _
  rw [ctrueF rfl]
  have hol : ([0, 0, 0, 0] ++ ys).length = 68 := by rw [List.length_append, hys]; rfl
  have hob : Bits ([0, 0, 0, 0] ++ ys) := by
    intro x hx
    rcases List.mem_append.1 hx with h | h
    · simp at h; exact .inl h
    · exact hyb x h
  refine loop_text ([0, 0, 0, 0] ++ ys) hob 68 (by omega) (by decide) true (fun i hi s xs h1 h2 => ?_) ?_
  · show cond (decide ((i : Int) < 68)) ((f_Read (bs m2) [] xs wide).bind _) _ = _
    rw [cpos (by omega), read_eq _ _ _ _ (by omega), bind_some']
  · show cond (decide (((68 : Nat) : Int) < 68)) _ (cond (fitsS (bs (chr [0, 0, 0, 0])) (bs (chr ys))) (cond ((bs (chr (([0, 0, 0, 0] ++ ys).take 68))).toList == (bs (chr [0, 0, 0, 0]) ++ bs (chr ys)).toList) ((f_Read (bs m2) [] (([0, 0, 0, 0] ++ ys).drop 68) wide).bind _) _) none) = _
    rw [cneg (by decide), cfits (by rw [bs_size, bs_size, chr_len, chr_len, hys]; decide), bs_append, ← chr_append, List.take_of_length_le (by omega), beq_bs, decide_eq_true rfl, ctrueT rfl, List.drop_eq_nil_of_le (by omega), read_eq _ _ _ _ (by decide), bind_some']; rfl

theorem law_EepromBack (w : World) (a0 : Bool) (a1 : Int) (w1 : (Lit.int .i64 a1).wf = true) (a2 : Int) (w2 : (Lit.int .u64 a2).wf = true) :
    Calls Try.prog n_EepromBack #[.bool a0, .int .i64 a1, .int .u64 a2] w fun e w' => e = .returned (.bool true) ∧ Chg (fun _ => False) w w' :=
  (t_EepromBack (EepromBack_eq a0 a1 a2 (wf_i64 w1) (wf_u64 w2).1 (wf_u64 w2).2) trivial).mono fun e w' h => ⟨h.1, h.2.quiet⟩
end Go.Proofs.Ytkdkcbkkampblaa
