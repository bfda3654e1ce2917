/-
  EepromRuns.
-/
import Derived.Test.YtkdkcbkkampblaaRef
namespace Go.Proofs.Ytkdkcbkkampblaa
open Go.Vc
set_option linter.unusedVariables false

theorem loopO_ex' {σ ρ : Type} {f : σ → Option (σ ⊕ ρ)} (P : ρ → Prop) (I : Nat → σ → Prop) (h : ∀ n s, I n s → (∃ s' m, f s = some (.inl s') ∧ m < n ∧ I m s') ∨ ∃ r, f s = some (.inr r) ∧ P r) : ∀ (n : Nat) (s : σ), I n s → ∃ r, loopO f s = some r ∧ P r := by
  intro n
  induction n using Nat.strongRecOn with
  | _ n ih =>
    intro s hs
    rw [loopO_eq]
    rcases h n s hs with ⟨s', m, e, hm, hi⟩ | ⟨r, e, hp⟩
    · rw [e]; exact ih m hm s' hi
    · rw [e]; exact ⟨r, rfl, hp⟩
theorem readF_snd (out : List Int) : (readF out).2 = out.drop 1 := by cases out <;> rfl
theorem rRead_eq (m i : ByteArray) (out : List Int) (hb : Bits out) : f_rRead m i (bs (chr out)) = some ((readF out).1, bs (chr (readF out).2)) := by
  unfold f_rRead
  rw [show (ByteArray.mk #[]) = bs [] from rfl, beq_bs, bs_size, chr_len]
  cases out with
  | nil => rfl
  | cons b l =>
    have hn : (((b :: l).length : Nat) : Int) = l.length + 1 := by simp
    have hbit := hb b (List.mem_cons_self)
    rw [cneg (by intro h; cases h), cand (by omega) (by omega), cand (by omega) (by omega), cand (by omega) (by omega), bs_extract]
    have hs : sbyte (bs (chr (b :: l))) 0 = 48 + b := by
      rw [sbyte_get (by decide) (by rw [chr_len]; omega)]
      exact chr_val hb (i := 0) (by simp)
    rw [hs, wrap_u8 (by omega) (by omega), chr_drop, chr_take]
    show some (48 + b - 48, bs (chr (l.take (l.length + 1 - 1)))) = some (b, bs (chr l))
    rw [List.take_of_length_le (by omega), show 48 + b - 48 = b by omega]
theorem loop_reads (out : List Int) (hb : Bits out) (n : Nat) {ρ : Type} (T : List Int → ρ) {f : Int × ByteArray × List Int → Option ((Int × ByteArray × List Int) ⊕ ρ)}
    (hf : ∀ (i : Nat) (hi : i < n) (xs : List Int), Bits xs → xs.length ≤ out.length → f ((i : Int), bs (chr xs), xs) = some (.inl (((i + 1 : Nat) : Int), bs (chr (readF xs).2), (readF xs).2)))
    (he : ∀ xs, Bits xs → f ((n : Int), bs (chr xs), xs) = some (.inr (T xs))) : loopO f (0, bs (chr out), out) = some (T (out.drop n)) := by
  refine loopO_for (fun i : Nat => ((i : Int), bs (chr (out.drop i)), out.drop i)) n (fun i hi => ?_) ?_
  · show f ((i : Int), bs (chr (out.drop i)), out.drop i) = _
    rw [hf i hi _ (hb.drop i) (by simp), readF_snd, List.drop_drop]
  · exact he _ (hb.drop n)
theorem writeF_out {c : Chip} (h : Bits c.out) (hl : c.out.length ≤ 68) (b : Int) : Bits (writeF c b).2.out ∧ (writeF c b).2.out.length ≤ 68 := by
  unfold writeF
  simp only
  split
  · exact ⟨h, hl⟩
  split
  · exact ⟨h, hl⟩
  split
  · constructor
    · intro x hx
      have hx' : x ∈ [0, 0, 0, 0] ++ bitsOf ((c.mem.drop (8 * (unitF c.mem (c.inn ++ [b % 2]) c.wide).toNat)).take 8) := hx
      rcases List.mem_append.1 hx' with h | h
      · simp at h; exact .inl h
      · unfold bitsOf at h
        obtain ⟨y, _, hy⟩ := List.mem_flatMap.1 h
        exact bits8_bits _ x hy
    · show ([0, 0, 0, 0] ++ bitsOf ((c.mem.drop (8 * (unitF c.mem (c.inn ++ [b % 2]) c.wide).toNat)).take 8)).length ≤ 68
      rw [List.length_append, bitsOf_len]; simp; omega
  split
  · exact ⟨bits_nil, by show 0 ≤ 68; decide⟩
  · exact ⟨h, hl⟩
theorem wide_eq (great : Bool) : f_wide great = some (if great = true then (14, 8192) else (6, 512)) := by
  unfold f_wide; cases great <;> rfl
abbrev OutS := (Int × Int × ByteArray × ByteArray × ByteArray × ByteArray × List Int × List Int)
theorem EepromRuns_eq (great : Bool) (bits : List Int) (reads : List Int) (hbits : ∀ x ∈ bits, 0 ≤ x ∧ x < 256) (hreads : (reads.length : Int) ≤ 9223372036854775807) : f_EepromRuns great bits reads = some true := by
  unfold f_EepromRuns
  rw [awake_eq, bind_some', cnot, ctrueT rfl]
  by_cases hl : ((bits.length : Nat) : Int) > 2000
  · rw [cpos hl]
  rw [cneg hl, wide_eq]
  obtain ⟨n, wide, hn, hw, he⟩ : ∃ (n : Nat) (wide : Int), (n = 512 ∧ wide = 6 ∨ n = 8192 ∧ wide = 14) ∧ (if great = true then ((14 : Int), (8192 : Int)) else (6, 512)) = (wide, (n : Int)) ∧ (if n = 512 then (Sum.inl (0, wide) : (Int × Int) ⊕ Int) else Sum.inl (0, wide)) = Sum.inl (0, wide) := by
    cases great
    · exact ⟨512, 6, .inl ⟨rfl, rfl⟩, rfl, by simp⟩
    · exact ⟨8192, 14, .inr ⟨rfl, rfl⟩, rfl, by simp⟩
  rw [hw, bind_some']
  have hd : IntKind.wrap .i64 (Int.tdiv (n : Int) 8) = (n : Int) / 8 := by rw [Int.tdiv_eq_ediv_of_nonneg (by omega), wrap_i64 (by omega) (by omega)]
  show Option.bind (f_Repeat (bs [97, 98, 99, 100, 101, 102, 103, 104]) (IntKind.wrap .i64 (Int.tdiv (n : Int) 8))) _ = _
  rw [hd, repeat_eq _ _ (by omega) (by simp; omega) (by omega), bind_some']
  have hml : (Lib.repeatL [97, 98, 99, 100, 101, 102, 103, 104] ((n : Int) / 8).toNat).length = n := by rw [Lib.repeatL_length]; simp; omega
  generalize Lib.repeatL [97, 98, 99, 100, 101, 102, 103, 104] ((n : Int) / 8).toNat = m at hml ⊢
  have hnew : f_New (bs m) = some (.inl (0, bs m, wide)) := by
    rw [new_eq m n hml]
    rcases hn with ⟨h1, h2⟩ | ⟨h1, h2⟩ <;> subst h1 <;> subst h2 <;> rfl
  rw [hnew, bind_some']
  show cond ((0 : Int) != 0) _ (loopO _ ((0 : Int), (0 : Int), bs m, ByteArray.mk #[], ByteArray.mk #[], bs m, ([] : List Int), ([] : List Int))) = _
  rw [cbeq rfl]
  have inv0 : Inv ⟨m, [], [], wide⟩ := ⟨⟨by show (m.length = 512 ∧ wide = 6) ∨ (m.length = 8192 ∧ wide = 14); omega⟩, bits_nil, by show ((0 : Nat) : Int) < 67 + wide; omega, .inl rfl, fun h' => by have : (3 : Int) + wide ≤ ((0 : Nat) : Int) := h'; omega⟩
  refine loopO_inv (fun k s => ∃ (i a : Nat) (c : Chip), k = bits.length - i ∧ i ≤ bits.length ∧ a ≤ reads.length ∧ Inv c ∧ c.wide = wide ∧ Bits c.out ∧ c.out.length ≤ 68 ∧ s = ((a : Int), (i : Int), bs c.mem, bs (chr c.inn), bs (chr c.out), bs c.mem, c.inn, c.out)) ?_ bits.length _ ⟨0, 0, ⟨m, [], [], wide⟩, rfl, Nat.zero_le _, Nat.zero_le _, inv0, rfl, bits_nil, by show 0 ≤ 68; decide, rfl⟩
  rintro k s ⟨i, a, c, rfl, hi, ha, inv, hcw, hbo, hlo, rfl⟩
  show (_ : Prop) ∨ _
  by_cases hlt : i < bits.length
  · left
    obtain ⟨b0, b1⟩ := hbits bits[i] (List.getElem_mem hlt)
    obtain ⟨inv', hw', hm'⟩ := writeF_Inv inv bits[i]
    obtain ⟨hbo', hlo'⟩ := writeF_out hbo hlo bits[i]
    have w1 : IntKind.wrap .i64 ((i : Int) + 1) = ((i + 1 : Nat) : Int) := by rw [wrap_i64 (by omega) (by omega)]; omega
    show ∃ s' m, cond (decide ((i : Int) < ((bits.length : Nat) : Int))) _ _ = _ ∧ _
    rw [cpos (by omega), cand (by omega) (by omega), ixL_nat hlt]
    have hwr := write_eq c inv.ok inv.bits inv.len _ b0 b1
    rw [hcw] at hwr
    rw [hwr, bind_some', rWrite_eq c inv _ b0 b1, w1]
    generalize writeF c bits[i] = r at inv' hw' hbo' hlo' ⊢
    show ∃ s' m, cond (!((r.1.k == r.1.k) && ((r.1.a == r.1.a) && (bs r.1.d == bs r.1.d)))) _ (cond (!(r.1.ok == r.1.ok)) _ (loopO _ ((a : Int), bs (chr r.2.out), r.2.out))) = _ ∧ _
    have hb : (!((r.1.k == r.1.k) && ((r.1.a == r.1.a) && (bs r.1.d == bs r.1.d)))) = false := by rw [beq_bs']; simp
    have hb2 : (!(r.1.ok == r.1.ok)) = false := by simp
    rw [hb, hb2, ctrueF rfl, ctrueF rfl]
    have hin := loopO_ex' (f := (fun (s : (Int × ByteArray × (List Int))) => match s with | (s13_1, I_1_b_2, I_1_xs_cell_w_3_r0_b0_2) => ((cond (decide (s13_1 < ((reads.length : Nat) : Int))) (cond (decide (0 ≤ s13_1) && decide (s13_1 < ((reads.length : Nat) : Int))) (cond (decide ((ixL reads s13_1) ≤ (i : Int))) (loopO (fun (s : (Int × ByteArray × (List Int))) => match s with | (s84, I_2_b_2, I_2_xs_cell_w_3_r0_b0_2) => ((cond (decide (s84 < 5)) ((f_Read (bs r.2.mem) r.2.inn I_2_xs_cell_w_3_r0_b0_2 wide).bind fun (o : O_Read) => (match o with | (x87, w_18_r_xs_cell_q0_2) => ((f_rRead (bs r.2.mem) (bs (chr r.2.inn)) I_2_b_2).bind fun (o : O_rRead) => (match o with | (x89, w_19_r_q0_2) => (cond (x87 != x89) (some (.inr (.inr (.inr false)))) (some (.inl ((IntKind.wrap .i64 (s84 + 1)), w_19_r_q0_2, w_18_r_xs_cell_q0_2)))))))) (some (.inr (.inl ((IntKind.wrap .i64 (s13_1 + 1)), I_2_b_2, I_2_xs_cell_w_3_r0_b0_2))))) : Option ((Int × ByteArray × (List Int)) ⊕ ((Int × ByteArray × (List Int)) ⊕ ((Int × Int × ByteArray × ByteArray × ByteArray × ByteArray × (List Int) × (List Int)) ⊕ O_EepromRuns))))) (0, I_1_b_2, I_1_xs_cell_w_3_r0_b0_2)) (some (.inr (.inl (s13_1, ((i + 1 : Nat) : Int), (bs r.2.mem), (bs (chr r.2.inn)), I_1_b_2, (bs r.2.mem), r.2.inn, I_1_xs_cell_w_3_r0_b0_2))))) none) (some (.inr (.inl (s13_1, ((i + 1 : Nat) : Int), (bs r.2.mem), (bs (chr r.2.inn)), I_1_b_2, (bs r.2.mem), r.2.inn, I_1_xs_cell_w_3_r0_b0_2))))) : Option ((Int × ByteArray × (List Int)) ⊕ ((Int × Int × ByteArray × ByteArray × ByteArray × ByteArray × (List Int) × (List Int)) ⊕ O_EepromRuns)))))
      (fun x => ∃ (a' : Nat) (out' : List Int), a' ≤ reads.length ∧ Bits out' ∧ out'.length ≤ 68 ∧ x = .inl ((a' : Int), ((i + 1 : Nat) : Int), bs r.2.mem, bs (chr r.2.inn), bs (chr out'), bs r.2.mem, r.2.inn, out'))
      (fun k s => ∃ (a' : Nat) (out' : List Int), k = reads.length - a' ∧ a' ≤ reads.length ∧ Bits out' ∧ out'.length ≤ 68 ∧ s = ((a' : Int), bs (chr out'), out')) ?_ (reads.length - a) ((a : Int), bs (chr r.2.out), r.2.out) ⟨a, r.2.out, rfl, ha, hbo', hlo', rfl⟩
    · obtain ⟨x, hx, a', out', ha', hbo2, hlo2, rfl⟩ := hin
      exact ⟨_, bits.length - (i + 1), hx, by omega, i + 1, a', ⟨r.2.mem, r.2.inn, out', r.2.wide⟩, rfl, by omega, ha', ⟨inv'.ok, inv'.bits, inv'.len, inv'.head, inv'.next⟩, hw'.trans hcw, hbo2, hlo2, rfl⟩
    · rintro k s ⟨a', out', rfl, ha', hbo2, hlo2, rfl⟩
      by_cases g : a' < reads.length
      · show (∃ s' m, cond (decide ((a' : Int) < ((reads.length : Nat) : Int))) _ _ = _ ∧ _) ∨ (∃ r', cond (decide ((a' : Int) < ((reads.length : Nat) : Int))) _ _ = _ ∧ _)
        rw [cpos (by omega), cand (by omega) (by omega)]
        by_cases g2 : ixL reads (a' : Int) ≤ (i : Int)
        · left
          have w2 : IntKind.wrap .i64 ((a' : Int) + 1) = ((a' + 1 : Nat) : Int) := by rw [wrap_i64 (by omega) (by omega)]; omega
          rw [cpos g2, w2]
          refine ⟨_, reads.length - (a' + 1), loop_reads out' hbo2 5 (fun xs => (Sum.inl (((a' + 1 : Nat) : Int), bs (chr xs), xs) : (Int × ByteArray × List Int) ⊕ (OutS ⊕ O_EepromRuns))) (fun j hj xs hb hl => ?_) (fun xs hb => ?_), by omega, a' + 1, out'.drop 5, rfl, by omega, hbo2.drop 5, by simp; omega, rfl⟩
          · have w3 : IntKind.wrap .i64 ((j : Int) + 1) = ((j + 1 : Nat) : Int) := by rw [wrap_i64 (by omega) (by omega)]; omega
            show cond (decide ((j : Int) < 5)) ((f_Read (bs r.2.mem) r.2.inn xs wide).bind _) _ = _
            rw [cpos (by omega), read_eq _ _ _ _ (by omega), bind_some']
            show Option.bind (f_rRead (bs r.2.mem) (bs (chr r.2.inn)) (bs (chr xs))) _ = _
            rw [rRead_eq _ _ _ hb, bind_some', w3]
            show cond ((readF xs).1 != (readF xs).1) _ _ = _
            rw [cbeq rfl]; rfl
          · show cond (decide (((5 : Nat) : Int) < 5)) _ _ = _
            rw [cneg (by decide)]
        · right
          rw [cneg g2]
          exact ⟨_, rfl, a', out', ha', hbo2, hlo2, rfl⟩
      · right
        show ∃ r', cond (decide ((a' : Int) < ((reads.length : Nat) : Int))) _ _ = _ ∧ _
        rw [cneg (by omega)]
        exact ⟨_, rfl, a', out', ha', hbo2, hlo2, rfl⟩
  · right
    show cond (decide ((i : Int) < ((bits.length : Nat) : Int))) _ _ = _
    rw [cneg (by omega)]
    refine (loop_reads c.out hbo 70 (fun xs => (Sum.inr true : OutS ⊕ O_EepromRuns)) (fun j hj xs hb hl => ?_) (fun xs hb => ?_))
    · have w3 : IntKind.wrap .i64 ((j : Int) + 1) = ((j + 1 : Nat) : Int) := by rw [wrap_i64 (by omega) (by omega)]; omega
      show cond (decide ((j : Int) < 70)) ((f_Read (bs c.mem) c.inn xs wide).bind _) _ = _
      rw [cpos (by omega), read_eq _ _ _ _ (by omega), bind_some']
      show Option.bind (f_rRead (bs c.mem) (bs (chr c.inn)) (bs (chr xs))) _ = _
      rw [rRead_eq _ _ _ hb, bind_some', w3]
      show cond ((readF xs).1 != (readF xs).1) _ _ = _
      rw [cbeq rfl]; rfl
    · show cond (decide (((70 : Nat) : Int) < 70)) _ (some (Sum.inr (Sum.inr ((bs c.mem).toList == (bs c.mem).toList)))) = _
      rw [cneg (by decide), beq_bs, decide_eq_true rfl]

theorem law_EepromRuns (w : World) (a0 : Bool) (a1 : Option Addr) (n1 c1 : Nat) (w1 : Rds Try.prog w 5 a1 n1 c1) (a2 : Option Addr) (n2 c2 : Nat) (w2 : Rds Try.prog w 3 a2 n2 c2) :
    Calls Try.prog n_EepromRuns #[.bool a0, .slice a1 n1 c1, .slice a2 n2 c2] w fun e w' => e = .returned (.bool true) ∧ Chg (fun _ => False) w w' := by
  obtain ⟨xs, rfl, hr, hx⟩ := ro_int (k := .u8) w1 (by first | rfl | kernel_rfl) (by first | rfl | kernel_rfl)
  have hlen : (n2 : Int) ≤ 9223372036854775807 := by
    rcases w2 with ⟨_, h, _⟩ | ⟨a, m, _, h1, h2, _⟩
    · omega
    · unfold maxLen at h2; omega
  obtain ⟨ys, rfl, hs, hy⟩ := ro_int (k := .i64) w2 (by first | rfl | kernel_rfl) (by first | rfl | kernel_rfl)
  exact (t_EepromRuns (EepromRuns_eq a0 xs ys (fun x h => wf_u8 (hx x h)) hlen) trivial hr not_foot_nil hs not_foot_nil).mono fun e w' h => ⟨h.1, h.2.quiet⟩
end Go.Proofs.Ytkdkcbkkampblaa
