/-
  Seals, commands, images: the program's side.
-/
import Derived.Test.YtcgigdfahlmfaaaGreatDoorG
import Derived.Test.YtcgigdfahlmfaaaGreatDoorPure
import Derived.Laws.BitsAllLaws
namespace Go.Proofs.YtcgigdfahlmfaaaGreatDoor
open Go.Vc
set_option linter.unusedVariables false
set_option linter.unusedSimpArgs false
def okF (k a : Int) (d : List UInt8) : Bool :=
  if k = 1 then decide (0 ≤ a ∧ a < 131072) && decide (1 ≤ d.length ∧ d.length ≤ 8)
  else if k = 2 then decide (0 ≤ a ∧ a < 131072) && (decide (d = []) && decide (Int.tmod a 4096 = 0))
  else if k = 3 then decide (d = []) && decide (a = 0) else false
theorem sCheck_eq (k a : Int) (d : List UInt8) : f_sCheck k a (bs d) = some (if okF k a d = true then 0 else 1) := by
  unfold f_sCheck okF
  rw [bs_size, show (ByteArray.mk #[]) = bs [] from rfl, beq_bs]
  by_cases ha : 0 ≤ a ∧ a < 131072
  · obtain ⟨h0, h1⟩ := ha
    rw [cpos (by omega), bind_some', decide_eq_true h1]
    by_cases h1 : k = 1
    · rw [ceq h1, if_pos h1, ctrue rfl]
      by_cases hl : 1 ≤ d.length
      · rw [cpos (by omega), cnot]
        by_cases hl2 : d.length ≤ 8
        · rw [cpos (by omega)]; simp [*]
        · rw [cneg (by omega)]; simp [*]
      · rw [cneg (by omega)]; simp [*]
    rw [cne h1, if_neg h1]
    by_cases h2 : k = 2
    · rw [ceq h2, if_pos h2, ctrue rfl]
      by_cases hd : d = []
      · rw [cpos hd, cnot]
        by_cases hm : Int.tmod a 4096 = 0
        · rw [ceq hm]; simp [*]
        · rw [cne hm]; simp [*]
      · rw [cneg hd]; simp [*]
    rw [cne h2, if_neg h2]
    by_cases h3 : k = 3
    · rw [ceq h3, if_pos h3]
      by_cases hd : d = []
      · rw [cpos hd, cnot]
        by_cases hm : a = 0
        · rw [ceq hm]; simp [*]
        · rw [cne hm]; simp [*]
      · rw [cneg hd]; simp [*]
    rw [cne h3, if_neg h3]; simp
  · have e : ∀ (f : Bool → Option Int), ((cond (decide (a ≥ 0)) (some (decide (a < 131072))) (some false)).bind f) = f false := by
      intro f
      by_cases h : 0 ≤ a
      · rw [cpos h, decide_eq_false (by omega)]; rfl
      · rw [cneg h]; rfl
    rw [e]
    have hn : decide (0 ≤ a ∧ a < 131072) = false := decide_eq_false ha
    by_cases h1 : k = 1
    · rw [ceq h1, if_pos h1, hn]; rfl
    rw [cne h1, if_neg h1]
    by_cases h2 : k = 2
    · rw [ceq h2, if_pos h2, hn]; rfl
    rw [cne h2, if_neg h2]
    by_cases h3 : k = 3
    · rw [ceq h3, if_pos h3]
      by_cases hd : d = []
      · rw [cpos hd, cnot]
        by_cases hm : a = 0
        · rw [ceq hm]; simp [*]
        · rw [cne hm]; simp [*]
      · rw [cneg hd]; simp [*]
    rw [cne h3, if_neg h3]; simp
def ffs (n : Nat) : List UInt8 := List.replicate n 255
theorem ffs_length (n : Nat) : (ffs n).length = n := by unfold ffs; simp
theorem repeat_eq (l : List UInt8) (n : Int) (h0 : 0 ≤ n) (h1 : l.length * n.toNat ≤ 140737488355328) (h2 : n ≤ 140737488355328) : f_Repeat (bs l) n = some (bs (Lib.repeatL l n.toNat)) := by
  unfold f_Repeat
  rw [bs_size, bs_data, cand3 h0 h1 h2]
theorem repeat_ff (n : Int) (h0 : 0 ≤ n) (h2 : n ≤ 140737488355328) : f_Repeat (ByteArray.mk #[255]) n = some (bs (ffs n.toNat)) := by
  have e := repeat_eq [255] n h0 (by simp; omega) h2
  have := Lib.repeatL_replicate (255 : UInt8) 1 n.toNat
  rw [Nat.mul_one] at this
  rw [show Lib.repeatL [255] n.toNat = ffs n.toNat from this] at e
  exact e
def applyT (m : List UInt8) (k a : Int) (d : List UInt8) : List UInt8 × Int :=
  if k = 2 then if a + 4096 > m.length then ([], 1) else (m.take a.toNat ++ ffs 4096 ++ m.drop (a.toNat + 4096), 0)
  else if k = 3 then (ffs m.length, 0)
  else if a + d.length > m.length then ([], 1) else (m.take a.toNat ++ d ++ m.drop (a.toNat + d.length), 0)
def applyF (m : List UInt8) (k a : Int) (d : List UInt8) : List UInt8 × Int := if okF k a d = true then applyT m k a d else ([], 1)
theorem okF_addr {k a : Int} {d : List UInt8} (h : okF k a d = true) : 0 ≤ a ∧ a < 131072 ∧ d.length ≤ 8 := by
  unfold okF at h
  split at h
  · simp at h; omega
  split at h
  · simp at h; obtain ⟨h1, rfl, _⟩ := h; exact ⟨h1.1, h1.2, by simp⟩
  split at h
  · simp at h; obtain ⟨rfl, rfl⟩ := h; exact ⟨by decide, by decide, by simp⟩
  · cases h
theorem okF_kind {k a : Int} {d : List UInt8} (h : okF k a d = true) : k = 1 ∨ k = 2 ∧ d = [] ∨ k = 3 ∧ a = 0 ∧ d = [] := by
  unfold okF at h
  split at h
  · exact .inl ‹_›
  split at h
  · simp at h; exact .inr (.inl ⟨‹_›, h.2.1⟩)
  split at h
  · simp at h; exact .inr (.inr ⟨‹_›, h.2, h.1⟩)
  · cases h
def stepN (c : Nat) : Nat := (c / 2) ^^^ (if c % 2 = 1 then 3988292384 else 0)
def stepsN : Nat → Nat → Nat
  | 0, c => c
  | k + 1, c => stepN (stepsN k c)
def byteN (c : Nat) (b : UInt8) : Nat := stepsN 8 (c ^^^ b.toNat)
def crcN (c : Nat) (l : List UInt8) : Nat := l.foldl byteN c
def sumN (l : List UInt8) : Nat := 4294967295 ^^^ crcN 4294967295 l
theorem xor_lt {a b : Nat} (ha : a < 4294967296) (hb : b < 4294967296) : a ^^^ b < 4294967296 := Nat.xor_lt_two_pow (n := 32) ha hb
theorem stepN_lt {c : Nat} (h : c < 4294967296) : stepN c < 4294967296 := by
  unfold stepN
  exact xor_lt (by omega) (by split <;> decide)
theorem stepsN_lt {c : Nat} (h : c < 4294967296) : ∀ k, stepsN k c < 4294967296
  | 0 => h
  | k + 1 => stepN_lt (stepsN_lt h k)
theorem byteN_lt {c : Nat} (h : c < 4294967296) (b : UInt8) : byteN c b < 4294967296 := stepsN_lt (xor_lt h (by have := b.toNat_lt; omega)) 8
theorem crcN_lt (l : List UInt8) : ∀ c, c < 4294967296 → crcN c l < 4294967296 := by
  induction l with
  | nil => intro c h; exact h
  | cons b l ih => intro c h; exact ih _ (byteN_lt h b)
theorem crcN_snoc (c : Nat) (l : List UInt8) (b : UInt8) : crcN c (l ++ [b]) = byteN (crcN c l) b := by unfold crcN; rw [List.foldl_append]; rfl
theorem sumN_lt (l : List UInt8) : sumN l < 4294967296 := xor_lt (by decide) (crcN_lt l _ (by decide))
theorem xor32 (a b : Nat) (ha : a < 4294967296) (hb : b < 4294967296) : bits .xor .u32 (a : Int) (b : Int) = ((a ^^^ b : Nat) : Int) := by
  rw [u32_xor _ _ (by omega) (by omega) (by omega) (by omega), Int.toNat_natCast, Int.toNat_natCast]
theorem Sum_eq (l : List UInt8) (hl : l.length ≤ 140737488355328) : f_Sum (bs l) = some ((sumN l : Nat) : Int) := by
  unfold f_Sum
  rw [bs_size]
  refine loopO_for (fun i : Nat => (((crcN 4294967295 (l.take i) : Nat) : Int), (i : Int))) l.length (fun i hi => ?_) ?_
  · have hc := crcN_lt (l.take i) 4294967295 (by decide)
    have w1 : IntKind.wrap .i64 ((i : Int) + 1) = ((i + 1 : Nat) : Int) := by rw [wrap_i64 (by omega) (by omega)]; omega
    have hb := (l[i]).toNat_lt
    show cond (decide ((i : Int) < (l.length : Int))) (cond (decide (0 ≤ (i : Int)) && decide ((i : Int) < (l.length : Int))) _ none) _ = some (Sum.inl (((crcN 4294967295 (l.take (i + 1)) : Nat) : Int), ((i + 1 : Nat) : Int)))
    rw [cpos (by omega), cand (by omega) (by omega), w1, sbyte_get (by omega) (by omega), List.take_succ_eq_append_getElem hi, crcN_snoc]
    simp only [Int.toNat_natCast]
    rw [wrap_u32 (by omega) (by omega), xor32 _ _ hc (by omega), Let_eq]
    have hx : crcN 4294967295 (l.take i) ^^^ (l[i]).toNat < 4294967296 := xor_lt hc (by omega)
    show loopO _ (((crcN 4294967295 (l.take i) ^^^ (l[i]).toNat : Nat) : Int), (0 : Int)) = some (Sum.inl (((stepsN 8 (crcN 4294967295 (l.take i) ^^^ (l[i]).toNat) : Nat) : Int), ((i + 1 : Nat) : Int)))
    generalize crcN 4294967295 (l.take i) ^^^ (l[i]).toNat = x at hx
    refine loopO_for (fun k : Nat => (((stepsN k x : Nat) : Int), (k : Int))) 8 (fun k hk => ?_) ?_
    · have hs := stepsN_lt hx k
      have w2 : IntKind.wrap .i64 ((k : Int) + 1) = ((k + 1 : Nat) : Int) := by rw [wrap_i64 (by omega) (by omega)]; omega
      show cond (decide ((k : Int) < 8)) _ _ = some (Sum.inl (((stepN (stepsN k x) : Nat) : Int), ((k + 1 : Nat) : Int)))
      rw [cpos (by omega), Let_eq, w2]
      generalize stepsN k x = c at hs
      have h1 : bits .and .u32 (c : Int) 1 = ((c % 2 : Nat) : Int) := by rw [and32 1 (by decide) (by decide) (by omega) (by omega)]; rfl
      have h2 : Int.fdiv (c : Int) 2 = ((c / 2 : Nat) : Int) := by rw [Int.fdiv_eq_ediv_of_nonneg _ (by decide)]; rfl
      have h3 : bits .and .u32 3988292384 (IntKind.wrap .u32 (0 - ((c % 2 : Nat) : Int))) = (((if c % 2 = 1 then 3988292384 else 0 : Nat)) : Int) := by
        by_cases g : c % 2 = 1
        · rw [if_pos g, g]; decide
        · have g' : c % 2 = 0 := by omega
          rw [if_neg g, g']; decide
      rw [h1, h2, h3, xor32 _ _ (by omega) (by split <;> decide)]; rfl
    · show cond (decide (((8 : Nat) : Int) < 8)) _ _ = _
      rw [cneg (by decide)]
  · show cond (decide ((l.length : Int) < (l.length : Int))) _ _ = _
    have hc := crcN_lt (l.take l.length) 4294967295 (by decide)
    rw [cneg (by omega)]
    show some (Sum.inr (bits .xor .u32 4294967295 ((crcN 4294967295 (l.take l.length) : Nat) : Int))) = _
    have := xor32 4294967295 _ (by decide) hc
    rw [show ((4294967295 : Nat) : Int) = 4294967295 from rfl] at this
    rw [this, List.take_length]; rfl
def fourL (n : Nat) : List UInt8 := [UInt8.ofNat n, UInt8.ofNat (n / 256), UInt8.ofNat (n / 65536), UInt8.ofNat (n / 16777216)]
theorem wrap_u8_nat (n : Nat) : IntKind.wrap .u8 (n : Int) = (((UInt8.ofNat n).toNat : Nat) : Int) := by
  have e1 : (2 : Int) ^ 8 = 256 := by decide
  simp only [IntKind.wrap, IntKind.bits, IntKind.signed, e1, Bool.false_and, Bool.false_eq_true, if_false]
  rw [UInt8.toNat_ofNat']; omega
theorem four_eq (n : Nat) : f_four (n : Int) = some (bs (fourL n)) := by
  unfold f_four
  have h1 : Int.fdiv (n : Int) 256 = ((n / 256 : Nat) : Int) := by rw [Int.fdiv_eq_ediv_of_nonneg _ (by decide)]; rfl
  have h2 : Int.fdiv (n : Int) 65536 = ((n / 65536 : Nat) : Int) := by rw [Int.fdiv_eq_ediv_of_nonneg _ (by decide)]; rfl
  have h3 : Int.fdiv (n : Int) 16777216 = ((n / 16777216 : Nat) : Int) := by rw [Int.fdiv_eq_ediv_of_nonneg _ (by decide)]; rfl
  rw [h1, h2, h3, wrap_u8_nat, wrap_u8_nat, wrap_u8_nat, wrap_u8_nat]
  exact (cbytes (l := fourL n)).trans (congrArg some (strOf_map (fourL n)))
def numL (l : List UInt8) : Nat := (l.getD 0 0).toNat + 256 * (l.getD 1 0).toNat + 65536 * (l.getD 2 0).toNat + 16777216 * (l.getD 3 0).toNat
theorem numL_lt (l : List UInt8) : numL l < 4294967296 := by
  unfold numL
  have h0 := (l.getD 0 0).toNat_lt
  have h1 := (l.getD 1 0).toNat_lt
  have h2 := (l.getD 2 0).toNat_lt
  have h3 := (l.getD 3 0).toNat_lt
  omega
theorem or32 (a b : Nat) (ha : a < 4294967296) (hb : b < 4294967296) : bits .or .u32 (a : Int) (b : Int) = ((a ||| b : Nat) : Int) := by
  rw [u32_or _ _ (by omega) (by omega) (by omega) (by omega), Int.toNat_natCast, Int.toNat_natCast]
theorem or_add (a b k : Nat) (ha : a < 2 ^ k) : a ||| (b * 2 ^ k) = a + b * 2 ^ k := by
  have := Nat.two_pow_add_eq_or_of_lt (b := a) (i := k) ha b
  rw [Nat.mul_comm b, Nat.or_comm, ← this, Nat.add_comm]
theorem num_eq (l : List UInt8) (hl : 4 ≤ l.length) : f_num (bs l) = some ((numL l : Nat) : Int) := by
  unfold f_num
  rw [bs_size, cand (by omega) (by omega), cand (by omega) (by omega), cand (by omega) (by omega), cand (by omega) (by omega), Let_eq, sbyte_bs, sbyte_bs, sbyte_bs, sbyte_bs]
  have h0 := (l.getD 0 0).toNat_lt
  have h1 := (l.getD 1 0).toNat_lt
  have h2 := (l.getD 2 0).toNat_lt
  have h3 := (l.getD 3 0).toNat_lt
  show some (bits .or .u32 (bits .or .u32 (bits .or .u32 (IntKind.wrap .u32 (((l.getD 0 0).toNat : Nat) : Int)) (IntKind.wrap .u32 ((IntKind.wrap .u32 (((l.getD 1 0).toNat : Nat) : Int)) * 256))) (IntKind.wrap .u32 ((IntKind.wrap .u32 (((l.getD 2 0).toNat : Nat) : Int)) * 65536))) (IntKind.wrap .u32 ((IntKind.wrap .u32 (((l.getD 3 0).toNat : Nat) : Int)) * 16777216))) = _
  unfold numL
  generalize (l.getD 0 0).toNat = a at *
  generalize (l.getD 1 0).toNat = b at *
  generalize (l.getD 2 0).toNat = c at *
  generalize (l.getD 3 0).toNat = d at *
  rw [wrap_u32 (x := (a : Int)) (by omega) (by omega), wrap_u32 (x := (b : Int)) (by omega) (by omega), wrap_u32 (x := (c : Int)) (by omega) (by omega), wrap_u32 (x := (d : Int)) (by omega) (by omega), wrap_u32 (x := (b : Int) * 256) (by omega) (by omega), wrap_u32 (x := (c : Int) * 65536) (by omega) (by omega), wrap_u32 (x := (d : Int) * 16777216) (by omega) (by omega)]
  rw [show (b : Int) * 256 = ((b * 2 ^ 8 : Nat) : Int) by omega, show (c : Int) * 65536 = ((c * 2 ^ 16 : Nat) : Int) by omega, show (d : Int) * 16777216 = ((d * 2 ^ 24 : Nat) : Int) by omega]
  rw [or32 _ _ (by omega) (by omega), or_add a b 8 (by omega), or32 _ _ (by omega) (by omega), or_add _ c 16 (by omega), or32 _ _ (by omega) (by omega), or_add _ d 24 (by omega)]
  congr 2; omega
theorem join_flat : ∀ l : List (List UInt8), Lib.join l [] = l.flatten := by
  intro l
  induction l with
  | nil => rfl
  | cons a l ih =>
    cases l with
    | nil => simp [Lib.join, List.intercalate, List.intersperse]
    | cons b r =>
      have h : Lib.join (a :: b :: r) [] = a ++ ([] ++ Lib.join (b :: r) []) := by
        simp [Lib.join, List.intercalate, List.intersperse]
      rw [h, ih]; simp
theorem join_eq (l : List (List UInt8)) (h : l.length ≤ 100) (h2 : l.flatten.length ≤ 1000000) : f_join (l.map bs) = some (bs l.flatten) := by
  unfold f_join f_Join joinS
  have e : (l.map bs).map (·.data.toList) = l := by
    rw [List.map_map]
    have : ((fun x : ByteArray => x.data.toList) ∘ bs) = id := by funext x; exact bs_data x
    rw [this, List.map_id]
  rw [e, show (ByteArray.mk #[]).data.toList = ([] : List UInt8) from rfl, join_flat, cand (by simp; omega) (by omega)]; rfl
theorem repeat_one (b : UInt8) (n : Nat) (h : n ≤ 1000000) : f_Repeat (ByteArray.mk #[b]) (n : Int) = some (bs (List.replicate n b)) := by
  have e := repeat_eq [b] n (by omega) (by simp; omega) (by omega)
  rw [Int.toNat_natCast] at e
  have := Lib.repeatL_replicate b 1 n
  rw [Nat.mul_one] at this
  rw [show Lib.repeatL [b] n = List.replicate n b from this] at e
  exact e
def headL (seq : Nat) (body : List UInt8) : List UInt8 := fourL seq ++ [UInt8.ofNat body.length] ++ body ++ List.replicate (51 - body.length) 0
def wrapL (seq : Nat) (body : List UInt8) : List UInt8 := headL seq body ++ fourL (sumN (headL seq body)) ++ fourL seq
theorem fourL_len (n : Nat) : (fourL n).length = 4 := rfl
theorem headL_len (seq : Nat) (body : List UInt8) (h : body.length ≤ 51) : (headL seq body).length = 56 := by unfold headL; simp [fourL_len]; omega
theorem wrapL_len (seq : Nat) (body : List UInt8) (h : body.length ≤ 51) : (wrapL seq body).length = 64 := by unfold wrapL; simp [fourL_len, headL_len seq body h]
theorem one_byte (n : Nat) : bytesIn [IntKind.wrap .u8 (n : Int)] = true ∧ strOf [IntKind.wrap .u8 (n : Int)] = bs [UInt8.ofNat n] := by
  rw [wrap_u8_nat]
  exact ⟨bytesIn_map [UInt8.ofNat n], strOf_map [UInt8.ofNat n]⟩
theorem Wrap_eq (seq : Nat) (hs : seq < 4294967296) (body : List UInt8) : f_Wrap (seq : Int) (bs body) = some (if body.length > 51 then (bs [], 2) else (bs (wrapL seq body), 0)) := by
  unfold f_Wrap
  rw [bs_size]
  by_cases h : body.length > 51
  · rw [cpos (by omega), if_pos h]; rfl
  rw [cneg (by omega), if_neg h, four_eq, bind_some', ctrueT (one_byte _).1, (one_byte _).2, wrap_i64 (by omega) (by omega), show (51 : Int) - (body.length : Int) = ((51 - body.length : Nat) : Int) by omega, repeat_one 0 _ (by omega), bind_some']
  have j1 := join_eq [fourL seq, [UInt8.ofNat body.length], body, List.replicate (51 - body.length) 0] (by simp) (by simp [fourL_len]; omega)
  have e1 : [fourL seq, [UInt8.ofNat body.length], body, List.replicate (51 - body.length) 0].flatten = headL seq body := by simp [headL]
  rw [e1] at j1
  show Option.bind (f_join ([fourL seq, [UInt8.ofNat body.length], body, List.replicate (51 - body.length) 0].map bs)) _ = _
  have hl := headL_len seq body (by omega)
  rw [j1, bind_some', Sum_eq _ (by omega), bind_some', four_eq, bind_some', bind_some']
  have j2 := join_eq [headL seq body, fourL (sumN (headL seq body)), fourL seq] (by simp) (by simp [fourL_len, hl])
  have e2 : [headL seq body, fourL (sumN (headL seq body)), fourL seq].flatten = wrapL seq body := by simp [wrapL]
  rw [e2] at j2
  show Option.bind (f_join ([headL seq body, fourL (sumN (headL seq body)), fourL seq].map bs)) _ = _
  rw [j2]; rfl
def openL (s : List UInt8) : Nat × List UInt8 × Int :=
  if s.length ≠ 64 then (0, [], 30) else if s.take 4 ≠ s.drop 60 then (0, [], 20) else if numL (s.drop 56) ≠ sumN (s.take 56) then (0, [], 21) else
  if (s.getD 4 0).toNat > 51 then (0, [], 30) else if Lib.trimB ((s.drop (5 + (s.getD 4 0).toNat)).take (56 - (5 + (s.getD 4 0).toNat))) 0 ≠ [] then (0, [], 30) else
  (numL s, (s.drop 5).take (s.getD 4 0).toNat, 0)
theorem Open_eq (s : List UInt8) : f_SOpen (bs s) = some (((openL s).1 : Int), bs (openL s).2.1, (openL s).2.2) := by
  unfold f_SOpen openL
  rw [bs_size]
  by_cases h : s.length = 64
  rotate_left
  · rw [cbne (by omega), if_pos h]; rfl
  rw [cbeq (by omega), if_neg (by simpa using h), cand (by decide) (by omega), cand (by decide) (by decide), cand (by omega) (by omega), cand (by decide) (by omega), Let_eq, bs_extract, bs_extract, beq_bs, cnot]
  have e1 : (s.drop 0).take (4 - 0) = s.take 4 := by simp
  have e2 : (s.drop 60).take (s.length - 60) = s.drop 60 := List.take_of_length_le (by simp)
  rw [e1, e2]
  by_cases h1 : s.take 4 = s.drop 60
  rotate_left
  · rw [cneg h1, if_pos h1]; rfl
  have e3 : (s.drop 56).take (s.length - 56) = s.drop 56 := List.take_of_length_le (by simp)
  have e4 : (s.drop 0).take (56 - 0) = s.take 56 := by simp
  rw [cpos h1, if_neg (by simpa using h1), cand (by omega) (by omega), cand (by decide) (by omega), bs_extract, e3, num_eq _ (by simp; omega), bind_some', cand (by decide) (by omega), cand (by decide) (by decide), bs_extract, e4, Sum_eq _ (by simp; omega), bind_some']
  by_cases h2 : numL (s.drop 56) = sumN (s.take 56)
  rotate_left
  · rw [cbne (by omega), if_pos h2]; rfl
  rw [cbeq (by omega), if_neg (by simpa using h2), cand (by decide) (by omega), sbyte_bs]
  show cond (decide (IntKind.wrap .i64 (((s.getD 4 0).toNat : Nat) : Int) > 51)) _ _ = _
  have hb := (s.getD 4 0).toNat_lt
  rw [show (4 : Int).toNat = 4 from rfl]
  generalize (s.getD 4 0).toNat = n at hb ⊢
  rw [wrap_i64 (x := (n : Int)) (by omega) (by omega)]
  by_cases h3 : n > 51
  · rw [cpos (by omega), if_pos h3]; rfl
  rw [cneg (by omega), if_neg h3, wrap_i64 (x := 5 + (n : Int)) (by omega) (by omega), cand (by decide) (by omega), cand (by omega) (by omega), bs_extract, show (5 + (n : Int)).toNat = 5 + n by omega]
  have ht : f_Trim (bs ((s.drop (5 + n)).take (56 - (5 + n)))) (ByteArray.mk #[0]) = some (bs (Lib.trimB ((s.drop (5 + n)).take (56 - (5 + n))) 0)) := by
    unfold f_Trim
    show cond (decide ((0 : UInt8).toNat < 128) && decide ((bs ((s.drop (5 + n)).take (56 - (5 + n)))).size ≤ 9223372036854775807)) _ none = _
    rw [bs_size, cand (by decide) (by simp; omega), bs_data]
  rw [ht, bind_some', show (ByteArray.mk #[]) = bs [] from rfl, beq_bs, cnot]
  by_cases h4 : Lib.trimB ((s.drop (5 + n)).take (56 - (5 + n))) 0 = []
  · rw [cpos h4, if_neg (by simpa using h4), num_eq _ (by omega), bind_some', cand (by omega) (by omega), cand (by decide) (by omega), bs_extract, show 5 + n - 5 = n by omega]
  · rw [cneg h4, if_pos h4]; rfl
def commandL (k a : Int) (d : List UInt8) : List UInt8 := [UInt8.ofNat k.toNat] ++ fourL a.toNat ++ d
theorem Command_eq (k a : Int) (d : List UInt8) : f_Command k a (bs d) = some (if okF k a d = true then (bs (commandL k a d), 0) else (bs [], 1)) := by
  unfold f_Command
  rw [sCheck_eq, bind_some']
  by_cases h : okF k a d = true
  · obtain ⟨a0, a1, d1⟩ := okF_addr h
    have k0 : 0 ≤ k ∧ k ≤ 3 := by rcases okF_kind h with h | h | h <;> omega
    obtain ⟨kn, rfl⟩ := Int.eq_ofNat_of_zero_le k0.1
    obtain ⟨an, rfl⟩ := Int.eq_ofNat_of_zero_le a0
    rw [if_pos h, if_pos h, cbeq rfl, ctrueT (one_byte _).1, (one_byte _).2, wrap_u32 (by omega) (by omega), four_eq, bind_some', cfits (by rw [bs_size, bs_size, fourL_len]; simp), bs_append, cfits (by rw [bs_size, bs_size]; simp [fourL_len]; omega), bs_append]; rfl
  · rw [if_neg h, if_neg h, cbne (by decide)]; rfl
def commandedL (b : List UInt8) : Int × Int × List UInt8 × Int :=
  if b.length < 5 then (0, 0, [], 30) else if okF ((b.getD 0 0).toNat : Int) (numL (b.drop 1) : Int) (b.drop 5) = true then (((b.getD 0 0).toNat : Int), (numL (b.drop 1) : Int), b.drop 5, 0) else (0, 0, [], 30)
theorem Commanded_eq (b : List UInt8) (hl : (b.length : Int) ≤ 9223372036854775807) : f_Commanded (bs b) = some ((commandedL b).1, (commandedL b).2.1, bs (commandedL b).2.2.1, (commandedL b).2.2.2) := by
  unfold f_Commanded commandedL
  rw [bs_size]
  by_cases h : b.length < 5
  · rw [cpos (by omega), if_pos h]; rfl
  have e1 : (b.drop 1).take (b.length - 1) = b.drop 1 := List.take_of_length_le (by simp)
  have e5 : (b.drop 5).take (b.length - 5) = b.drop 5 := List.take_of_length_le (by simp)
  have hb := (b.getD 0 0).toNat_lt
  have hn := numL_lt (b.drop 1)
  rw [cneg (by omega), if_neg h, cand (by decide) (by omega), cand (by omega) (by omega), cand (by decide) (by omega), cand (by omega) (by omega), cand (by decide) (by omega), bs_extract, e1, num_eq _ (by simp; omega), bind_some', sbyte_bs, show (0 : Int).toNat = 0 from rfl, bs_extract, e5, wrap_i64 (by omega) (by omega), wrap_i64 (by omega) (by omega), sCheck_eq, bind_some']
  by_cases h2 : okF ((b.getD 0 0).toNat : Int) (numL (b.drop 1) : Int) (b.drop 5) = true
  · rw [if_pos h2, if_pos h2, cbeq rfl]
  · rw [if_neg h2, if_neg h2, cbne (by decide)]; rfl
theorem commandL_len (k a : Int) (d : List UInt8) : (commandL k a d).length = 5 + d.length := by unfold commandL; simp [fourL_len]; omega
theorem Record_eq (seq : Nat) (hs : seq < 4294967296) (k a : Int) (d : List UInt8) : f_Record (seq : Int) k a (bs d) = some (if okF k a d = true then (bs (wrapL seq (commandL k a d)), 0) else (bs [], 1)) := by
  unfold f_Record
  rw [Command_eq, bind_some']
  by_cases h : okF k a d = true
  · obtain ⟨a0, a1, d1⟩ := okF_addr h
    rw [if_pos h, if_pos h]
    show cond ((0 : Int) != 0) _ (Option.bind (f_Wrap (seq : Int) (bs (commandL k a d))) _) = _
    rw [cbeq rfl, Wrap_eq _ hs, if_neg (by rw [commandL_len]; omega), bind_some']
  · rw [if_neg h, if_neg h]; rfl
def recordedL (s : List UInt8) : Int × Int × Int × List UInt8 × Int :=
  if (openL s).2.2 ≠ 0 then (0, 0, 0, [], (openL s).2.2) else
  if (commandedL (openL s).2.1).2.2.2 ≠ 0 then (0, 0, 0, [], (commandedL (openL s).2.1).2.2.2) else
  (((openL s).1 : Int), (commandedL (openL s).2.1).1, (commandedL (openL s).2.1).2.1, (commandedL (openL s).2.1).2.2.1, 0)
theorem openL_len (s : List UInt8) : (openL s).2.1.length ≤ s.length := by
  unfold openL
  repeat' split
  all_goals simp
  all_goals omega
theorem Recorded_eq (s : List UInt8) (hl : s.length ≤ 140737488351232) : f_Recorded (bs s) = some ((recordedL s).1, (recordedL s).2.1, (recordedL s).2.2.1, bs (recordedL s).2.2.2.1, (recordedL s).2.2.2.2) := by
  unfold f_Recorded recordedL
  have ho := openL_len s
  rw [Open_eq, bind_some']
  show cond ((openL s).2.2 != 0) _ (Option.bind (f_Commanded (bs (openL s).2.1)) _) = _
  by_cases h : (openL s).2.2 = 0
  rotate_left
  · rw [cbne h, if_pos h]; rfl
  rw [cbeq h, if_neg (by simpa using h), Commanded_eq _ (by omega), bind_some']
  show cond ((commandedL (openL s).2.1).2.2.2 != 0) _ _ = _
  by_cases h2 : (commandedL (openL s).2.1).2.2.2 = 0
  · rw [cbeq h2, if_neg (by simpa using h2)]
  · rw [cbne h2, if_pos h2]; rfl
theorem wrapL_take (seq : Nat) (body : List UInt8) : (wrapL seq body).take 4 = fourL seq := by unfold wrapL headL; rw [List.append_assoc, List.append_assoc, List.append_assoc, List.append_assoc]; exact List.take_left (l₁ := fourL seq)
theorem wrapL_drop (seq : Nat) (body : List UInt8) (h : body.length ≤ 51) : (wrapL seq body).drop 60 = fourL seq := by
  unfold wrapL
  have e : (headL seq body ++ fourL (sumN (headL seq body))).length = 60 := by rw [List.length_append, headL_len seq body h, fourL_len]
  rw [← e]; exact List.drop_left
theorem numL_four (x : Nat) (hx : x < 4294967296) (r : List UInt8) : numL (fourL x ++ r) = x := by
  show (UInt8.ofNat x).toNat + 256 * (UInt8.ofNat (x / 256)).toNat + 65536 * (UInt8.ofNat (x / 65536)).toNat + 16777216 * (UInt8.ofNat (x / 16777216)).toNat = x
  simp only [UInt8.toNat_ofNat']
  omega
theorem wrapL_parts (seq : Nat) (body : List UInt8) (h : body.length ≤ 51) : (wrapL seq body).take 56 = headL seq body ∧ (wrapL seq body).drop 56 = fourL (sumN (headL seq body)) ++ fourL seq := by
  have hl := headL_len seq body h
  unfold wrapL
  rw [List.append_assoc]
  exact ⟨by rw [← hl]; exact List.take_left, by rw [← hl]; exact List.drop_left⟩
theorem drop_zeros (n : Nat) : (List.replicate n (0 : UInt8)).dropWhile (· == 0) = [] := by
  induction n with
  | zero => rfl
  | succ n ih => rw [List.replicate_succ, List.dropWhile_cons_of_pos (by decide)]; exact ih
theorem trim_zeros (n : Nat) : Lib.trimB (List.replicate n (0 : UInt8)) 0 = [] := by
  unfold Lib.trimB Lib.trimRightB Lib.trimLeftB
  rw [List.reverse_replicate, drop_zeros]; rfl
theorem open_wrap (seq : Nat) (hs : seq < 4294967296) (body : List UInt8) (h : body.length ≤ 51) : openL (wrapL seq body) = (seq, body, 0) := by
  obtain ⟨p1, p2⟩ := wrapL_parts seq body h
  have hl := wrapL_len seq body h
  have h4 : (wrapL seq body).getD 4 0 = UInt8.ofNat body.length := by unfold wrapL headL; rfl
  have hn : (UInt8.ofNat body.length).toNat = body.length := by rw [UInt8.toNat_ofNat']; omega
  have hb : (wrapL seq body).drop 5 = body ++ (List.replicate (51 - body.length) 0 ++ (fourL (sumN (headL seq body)) ++ fourL seq)) := by
    have e : wrapL seq body = (fourL seq ++ [UInt8.ofNat body.length]) ++ (body ++ (List.replicate (51 - body.length) 0 ++ (fourL (sumN (headL seq body)) ++ fourL seq))) := by
      unfold wrapL headL; simp only [List.append_assoc]
    rw [e]; exact List.drop_left (l₁ := fourL seq ++ [UInt8.ofNat body.length])
  have hz : ((wrapL seq body).drop (5 + body.length)).take (56 - (5 + body.length)) = List.replicate (51 - body.length) 0 := by
    rw [← List.drop_drop, hb, List.drop_left, show 56 - (5 + body.length) = 51 - body.length by omega]
    exact List.take_left' (List.length_replicate ..)
  unfold openL
  rw [if_neg (by simpa using hl), if_neg (by rw [wrapL_take, wrapL_drop seq body h]; simp), if_neg (by rw [p1, p2, numL_four _ (sumN_lt _)]; simp), h4, hn, if_neg (by omega), hz, trim_zeros, if_neg (by simp), hb, List.take_left]
  have hq : numL (wrapL seq body) = seq := by
    have := numL_four seq hs ([UInt8.ofNat body.length] ++ body ++ List.replicate (51 - body.length) 0 ++ fourL (sumN (headL seq body)) ++ fourL seq)
    unfold wrapL headL
    simp only [List.append_assoc] at this ⊢
    exact this
  rw [hq]
theorem commanded_command (k a : Int) (d : List UInt8) (h : okF k a d = true) : commandedL (commandL k a d) = (k, a, d, 0) := by
  obtain ⟨a0, a1, d1⟩ := okF_addr h
  have k0 : 0 ≤ k ∧ k ≤ 3 := by rcases okF_kind h with h | h | h <;> omega
  obtain ⟨kn, rfl⟩ := Int.eq_ofNat_of_zero_le k0.1
  obtain ⟨an, rfl⟩ := Int.eq_ofNat_of_zero_le a0
  have e0 : (commandL (kn : Int) (an : Int) d).getD 0 0 = UInt8.ofNat kn := rfl
  have e1 : (commandL (kn : Int) (an : Int) d).drop 1 = fourL an ++ d := rfl
  have e5 : (commandL (kn : Int) (an : Int) d).drop 5 = d := rfl
  have hk : (UInt8.ofNat kn).toNat = kn := by rw [UInt8.toNat_ofNat']; omega
  unfold commandedL
  rw [if_neg (by rw [commandL_len]; omega), e0, e1, e5, numL_four _ (by omega), hk, if_pos h]
end Go.Proofs.YtcgigdfahlmfaaaGreatDoor
