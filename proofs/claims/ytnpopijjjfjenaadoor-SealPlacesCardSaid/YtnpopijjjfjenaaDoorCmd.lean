/-
  Sectors and commands.
-/
import Derived.Test.YtnpopijjjfjenaaDoorSum
namespace Go.Proofs.YtnpopijjjfjenaaDoor
open Go.Vc
set_option linter.unusedVariables false

theorem join_flat : ∀ l : List (List UInt8), Lib.join l [] = l.flatten := by
  intro l
  induction l with
  | nil => rfl
  | cons a l ih =>
    cases l with
    | nil => simp [Lib.join, List.intercalate, List.intersperse]
    | cons b r =>
      have h : Lib.join (a :: b :: r) [] = a ++ ([] ++ Lib.join (b :: r) []) := by
        simp [Lib.join, List.intercalate, List.intersperse]
      rw [h, ih]; simp
theorem join_eq (l : List (List UInt8)) (h : l.length ≤ 100) (h2 : l.flatten.length ≤ 1000000) : f_join (l.map bs) = some (bs l.flatten) := by
  unfold f_join f_Join joinS
  have e : (l.map bs).map (·.data.toList) = l := by
    rw [List.map_map]
    have : ((fun x : ByteArray => x.data.toList) ∘ bs) = id := by funext x; exact bs_data x
    rw [this, List.map_id]
  rw [e, show (ByteArray.mk #[]).data.toList = ([] : List UInt8) from rfl, join_flat, cand (by simp; omega) (by omega)]; rfl
theorem repeat_one (b : UInt8) (n : Nat) (h : n ≤ 1000000) : f_Repeat (ByteArray.mk #[b]) (n : Int) = some (bs (List.replicate n b)) := by
  have e := repeat_eq [b] n (by omega) (by simp; omega) (by omega)
  rw [Int.toNat_natCast] at e
  have := Lib.repeatL_replicate b 1 n
  rw [Nat.mul_one] at this
  rw [show Lib.repeatL [b] n = List.replicate n b from this] at e
  exact e
/-- The first 56 bytes of a sector, and the sector. -/
def headL (seq : Nat) (body : List UInt8) : List UInt8 := fourL seq ++ [UInt8.ofNat body.length] ++ body ++ List.replicate (51 - body.length) 0
def wrapL (seq : Nat) (body : List UInt8) : List UInt8 := headL seq body ++ fourL (sumN (headL seq body)) ++ fourL seq
theorem fourL_len (n : Nat) : (fourL n).length = 4 := rfl
theorem headL_len (seq : Nat) (body : List UInt8) (h : body.length ≤ 51) : (headL seq body).length = 56 := by unfold headL; simp [fourL_len]; omega
theorem wrapL_len (seq : Nat) (body : List UInt8) (h : body.length ≤ 51) : (wrapL seq body).length = 64 := by unfold wrapL; simp [fourL_len, headL_len seq body h]
theorem one_byte (n : Nat) : bytesIn [IntKind.wrap .u8 (n : Int)] = true ∧ strOf [IntKind.wrap .u8 (n : Int)] = bs [UInt8.ofNat n] := by
  rw [wrap_u8_nat]
  exact ⟨bytesIn_map [UInt8.ofNat n], strOf_map [UInt8.ofNat n]⟩
theorem Wrap_eq (seq : Nat) (hs : seq < 4294967296) (body : List UInt8) : f_Wrap (seq : Int) (bs body) = some (if body.length > 51 then (bs [], 2) else (bs (wrapL seq body), 0)) := by
  unfold f_Wrap
  rw [bs_size]
  by_cases h : body.length > 51
  · rw [cpos (by omega), if_pos h]; rfl
  rw [cneg (by omega), if_neg h, four_eq, bind_some', ctrueT (one_byte _).1, (one_byte _).2, wrap_i64 (by omega) (by omega), show (51 : Int) - (body.length : Int) = ((51 - body.length : Nat) : Int) by omega, repeat_one 0 _ (by omega), bind_some']
  have j1 := join_eq [fourL seq, [UInt8.ofNat body.length], body, List.replicate (51 - body.length) 0] (by simp) (by simp [fourL_len]; omega)
  have e1 : [fourL seq, [UInt8.ofNat body.length], body, List.replicate (51 - body.length) 0].flatten = headL seq body := by simp [headL]
  rw [e1] at j1
  show Option.bind (f_join ([fourL seq, [UInt8.ofNat body.length], body, List.replicate (51 - body.length) 0].map bs)) _ = _
  have hl := headL_len seq body (by omega)
  rw [j1, bind_some', Sum_eq _ (by omega), bind_some', four_eq, bind_some', bind_some']
  have j2 := join_eq [headL seq body, fourL (sumN (headL seq body)), fourL seq] (by simp) (by simp [fourL_len, hl])
  have e2 : [headL seq body, fourL (sumN (headL seq body)), fourL seq].flatten = wrapL seq body := by simp [wrapL]
  rw [e2] at j2
  show Option.bind (f_join ([headL seq body, fourL (sumN (headL seq body)), fourL seq].map bs)) _ = _
  rw [j2]; rfl
/-- What opening gives. -/
def openL (s : List UInt8) : Nat × List UInt8 × Int :=
  if s.length ≠ 64 then (0, [], 30) else if s.take 4 ≠ s.drop 60 then (0, [], 20) else if numL (s.drop 56) ≠ sumN (s.take 56) then (0, [], 21) else
  if (s.getD 4 0).toNat > 51 then (0, [], 30) else if Lib.trimB ((s.drop (5 + (s.getD 4 0).toNat)).take (56 - (5 + (s.getD 4 0).toNat))) 0 ≠ [] then (0, [], 30) else
  (numL s, (s.drop 5).take (s.getD 4 0).toNat, 0)
theorem Open_eq (s : List UInt8) : f_Open (bs s) = some (((openL s).1 : Int), bs (openL s).2.1, (openL s).2.2) := by
  unfold f_Open openL
  rw [bs_size]
  by_cases h : s.length = 64
  rotate_left
  · rw [cbne (by omega), if_pos h]; rfl
  rw [cbeq (by omega), if_neg (by simpa using h), cand (by decide) (by omega), cand (by decide) (by decide), cand (by omega) (by omega), cand (by decide) (by omega), Let_eq, bs_extract, bs_extract, beq_bs, cnot]
  have e1 : (s.drop 0).take (4 - 0) = s.take 4 := by simp
  have e2 : (s.drop 60).take (s.length - 60) = s.drop 60 := List.take_of_length_le (by simp)
  rw [e1, e2]
  by_cases h1 : s.take 4 = s.drop 60
  rotate_left
  · rw [cneg h1, if_pos h1]; rfl
  have e3 : (s.drop 56).take (s.length - 56) = s.drop 56 := List.take_of_length_le (by simp)
  have e4 : (s.drop 0).take (56 - 0) = s.take 56 := by simp
  rw [cpos h1, if_neg (by simpa using h1), cand (by omega) (by omega), cand (by decide) (by omega), bs_extract, e3, num_eq _ (by simp; omega), bind_some', cand (by decide) (by omega), cand (by decide) (by decide), bs_extract, e4, Sum_eq _ (by simp; omega), bind_some']
  by_cases h2 : numL (s.drop 56) = sumN (s.take 56)
  rotate_left
  · rw [cbne (by omega), if_pos h2]; rfl
  rw [cbeq (by omega), if_neg (by simpa using h2), cand (by decide) (by omega), sbyte_bs]
  show cond (decide (IntKind.wrap .i64 (((s.getD 4 0).toNat : Nat) : Int) > 51)) _ _ = _
  have hb := (s.getD 4 0).toNat_lt
  rw [show (4 : Int).toNat = 4 from rfl]
  generalize (s.getD 4 0).toNat = n at hb ⊢
  rw [wrap_i64 (x := (n : Int)) (by omega) (by omega)]
  by_cases h3 : n > 51
  · rw [cpos (by omega), if_pos h3]; rfl
  rw [cneg (by omega), if_neg h3, wrap_i64 (x := 5 + (n : Int)) (by omega) (by omega), cand (by decide) (by omega), cand (by omega) (by omega), bs_extract, show (5 + (n : Int)).toNat = 5 + n by omega]
  have ht : f_Trim (bs ((s.drop (5 + n)).take (56 - (5 + n)))) (ByteArray.mk #[0]) = some (bs (Lib.trimB ((s.drop (5 + n)).take (56 - (5 + n))) 0)) := by
    unfold f_Trim
    show cond (decide ((0 : UInt8).toNat < 128) && decide ((bs ((s.drop (5 + n)).take (56 - (5 + n)))).size ≤ 9223372036854775807)) _ none = _
    rw [bs_size, cand (by decide) (by simp; omega), bs_data]
  rw [ht, bind_some', show (ByteArray.mk #[]) = bs [] from rfl, beq_bs, cnot]
  by_cases h4 : Lib.trimB ((s.drop (5 + n)).take (56 - (5 + n))) 0 = []
  · rw [cpos h4, if_neg (by simpa using h4), num_eq _ (by omega), bind_some', cand (by omega) (by omega), cand (by decide) (by omega), bs_extract, show 5 + n - 5 = n by omega]
  · rw [cneg h4, if_pos h4]; rfl
def commandL (k a : Int) (d : List UInt8) : List UInt8 := [UInt8.ofNat k.toNat] ++ fourL a.toNat ++ d
theorem Command_eq (k a : Int) (d : List UInt8) : f_Command k a (bs d) = some (if okF k a d = true then (bs (commandL k a d), 0) else (bs [], 1)) := by
  unfold f_Command
  rw [sCheck_eq, bind_some']
  by_cases h : okF k a d = true
  · obtain ⟨a0, a1, d1⟩ := okF_addr h
    have k0 : 0 ≤ k ∧ k ≤ 3 := by rcases okF_kind h with h | h | h <;> omega
    obtain ⟨kn, rfl⟩ := Int.eq_ofNat_of_zero_le k0.1
    obtain ⟨an, rfl⟩ := Int.eq_ofNat_of_zero_le a0
    rw [if_pos h, if_pos h, cbeq rfl, ctrueT (one_byte _).1, (one_byte _).2, wrap_u32 (by omega) (by omega), four_eq, bind_some', cfits (by rw [bs_size, bs_size, fourL_len]; simp), bs_append, cfits (by rw [bs_size, bs_size]; simp [fourL_len]; omega), bs_append]; rfl
  · rw [if_neg h, if_neg h, cbne (by decide)]; rfl
theorem rCommand_eq (k a : Int) (d : List UInt8) : f_rCommand k a (bs d) = some (if okF k a d = true then (bs (commandL k a d), 0) else (bs [], 1)) := by
  unfold f_rCommand
  rw [rRight_eq, bind_some']
  by_cases h : okF k a d = true
  · obtain ⟨a0, a1, d1⟩ := okF_addr h
    have k0 : 0 ≤ k ∧ k ≤ 3 := by rcases okF_kind h with h | h | h <;> omega
    obtain ⟨kn, rfl⟩ := Int.eq_ofNat_of_zero_le k0.1
    obtain ⟨an, rfl⟩ := Int.eq_ofNat_of_zero_le a0
    rw [if_pos h, cnot, ctrueT h, ctrueT (one_byte _).1, (one_byte _).2, wrap_u32 (by omega) (by omega), rFour_eq _ (by omega), bind_some', cfits (by rw [bs_size, bs_size, fourL_len]; simp), bs_append, cfits (by rw [bs_size, bs_size]; simp [fourL_len]; omega), bs_append]; rfl
  · rw [if_neg h, cnot, ctrueF (by simpa using h)]; rfl
def commandedL (b : List UInt8) : Int × Int × List UInt8 × Int :=
  if b.length < 5 then (0, 0, [], 30) else if okF ((b.getD 0 0).toNat : Int) (numL (b.drop 1) : Int) (b.drop 5) = true then (((b.getD 0 0).toNat : Int), (numL (b.drop 1) : Int), b.drop 5, 0) else (0, 0, [], 30)
theorem Commanded_eq (b : List UInt8) (hl : (b.length : Int) ≤ 9223372036854775807) : f_Commanded (bs b) = some ((commandedL b).1, (commandedL b).2.1, bs (commandedL b).2.2.1, (commandedL b).2.2.2) := by
  unfold f_Commanded commandedL
  rw [bs_size]
  by_cases h : b.length < 5
  · rw [cpos (by omega), if_pos h]; rfl
  have e1 : (b.drop 1).take (b.length - 1) = b.drop 1 := List.take_of_length_le (by simp)
  have e5 : (b.drop 5).take (b.length - 5) = b.drop 5 := List.take_of_length_le (by simp)
  have hb := (b.getD 0 0).toNat_lt
  have hn := numL_lt (b.drop 1)
  rw [cneg (by omega), if_neg h, cand (by decide) (by omega), cand (by omega) (by omega), cand (by decide) (by omega), cand (by omega) (by omega), cand (by decide) (by omega), bs_extract, e1, num_eq _ (by simp; omega), bind_some', sbyte_bs, show (0 : Int).toNat = 0 from rfl, bs_extract, e5, wrap_i64 (by omega) (by omega), wrap_i64 (by omega) (by omega), sCheck_eq, bind_some']
  by_cases h2 : okF ((b.getD 0 0).toNat : Int) (numL (b.drop 1) : Int) (b.drop 5) = true
  · rw [if_pos h2, if_pos h2, cbeq rfl]
  · rw [if_neg h2, if_neg h2, cbne (by decide)]; rfl
theorem numL_take (b : List UInt8) : numL (b.take 4) = numL b := by
  unfold numL
  have h : ∀ i, i < 4 → (b.take 4).getD i 0 = b.getD i 0 := fun i hi => by rw [List.getD_eq_getElem?_getD, List.getElem?_take_of_lt hi, ← List.getD_eq_getElem?_getD]
  rw [h 0 (by decide), h 1 (by decide), h 2 (by decide), h 3 (by decide)]
theorem rCommanded_eq (b : List UInt8) (hl : (b.length : Int) ≤ 9223372036854775807) : f_rCommanded (bs b) = some ((commandedL b).1, (commandedL b).2.1, bs (commandedL b).2.2.1, (commandedL b).2.2.2) := by
  unfold f_rCommanded commandedL
  rw [bs_size]
  by_cases h : b.length < 5
  · rw [cpos (by omega), if_pos h]; rfl
  have e5 : (b.drop 5).take (b.length - 5) = b.drop 5 := List.take_of_length_le (by simp)
  have hb := (b.getD 0 0).toNat_lt
  have hn := numL_lt (b.drop 1)
  rw [cneg (by omega), if_neg h, cand (by decide) (by omega), cand (by decide) (by omega), cand (by decide) (by decide), cand (by omega) (by omega), cand (by decide) (by omega), bs_extract, rNum_eq _ (by simp; omega), bind_some', numL_take, sbyte_bs, show (0 : Int).toNat = 0 from rfl, bs_extract, e5, wrap_i64 (by omega) (by omega), wrap_i64 (by omega) (by omega), rRight_eq, bind_some', cnot]
  by_cases h2 : okF ((b.getD 0 0).toNat : Int) (numL (b.drop 1) : Int) (b.drop 5) = true
  · rw [if_pos h2, ctrueT h2]
  · rw [if_neg h2, ctrueF (by simpa using h2)]; rfl
theorem awake_eq : f_awake = some true := by
  unfold f_awake
  have hw : f_Wrap 1 (ByteArray.mk #[120]) = some (bs (wrapL 1 [120]), 0) := Wrap_eq 1 (by decide) [120]
  have ho : openL (wrapL 1 [120]) = (1, [120], 0) := by decide +kernel
  have hc : f_Command 1 300 (ByteArray.mk #[97]) = some (bs [1, 44, 1, 0, 0, 97], 0) := by
    have := Command_eq 1 300 [97]
    rw [if_pos (by decide)] at this
    exact this
  have ha : f_sApply (ByteArray.mk #[97, 98, 99, 100]) 1 1 (ByteArray.mk #[120, 121]) = some (bs [97, 120, 121, 100], 0) := by
    have := sApply_eq [97, 98, 99, 100] (by decide) 1 1 [120, 121]
    exact this
  rw [hw, bind_some']
  show Option.bind (f_Open (bs (wrapL 1 [120]))) _ = _
  rw [Open_eq, ho, bind_some']
  show Option.bind (f_Command 1 300 (ByteArray.mk #[97])) _ = _
  rw [hc, bind_some']
  show Option.bind (f_sApply (ByteArray.mk #[97, 98, 99, 100]) 1 1 (ByteArray.mk #[120, 121])) _ = _
  rw [ha, bind_some']
  show cond ((bs [120]).toList == (bs [120]).toList) (cond ((bs [1, 44, 1, 0, 0, 97]).toList == (bs [1, 44, 1, 0, 0, 97]).toList) (Let ((bs [97, 120, 121, 100]).toList == (bs [97, 120, 121, 100]).toList) _) _) _ = _
  rw [beq_bs, beq_bs, beq_bs, cpos rfl, cpos rfl, Let_eq, decide_eq_true rfl]
end Go.Proofs.YtnpopijjjfjenaaDoor
