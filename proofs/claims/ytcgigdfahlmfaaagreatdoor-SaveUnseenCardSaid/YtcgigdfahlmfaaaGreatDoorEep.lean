/-
  The EEPROM's Write and Read, as plain functions.
-/
import Derived.Test.YtcgigdfahlmfaaaGreatDoorJrn2
namespace Go.Proofs.YtcgigdfahlmfaaaGreatDoor
open Go.Vc
set_option linter.unusedVariables false
theorem sApply_eq (m : List UInt8) (hm : m.length ≤ 140737488355328) (k a : Int) (d : List UInt8) : f_sApply (bs m) k a (bs d) = some (bs (applyF m k a d).1, (applyF m k a d).2) := by
  unfold f_sApply applyF
  rw [sCheck_eq, bind_some']
  by_cases h0 : okF k a d = true
  rotate_left
  · rw [if_neg h0, if_neg h0, cbne (by decide)]; rfl
  rw [if_pos h0, if_pos h0, cbeq rfl]
  unfold applyT
  obtain ⟨a0, a1, d1⟩ := okF_addr h0
  have e1 : IntKind.wrap .i64 (a + 4096) = a + 4096 := wrap_i64 (by omega) (by omega)
  have e2 : IntKind.wrap .i64 (a + (d.length : Int)) = a + d.length := wrap_i64 (by omega) (by omega)
  rw [bs_size, bs_size, e1, e2]
  by_cases h2 : k = 2
  · rw [ceq h2, if_pos h2]
    by_cases h3 : a + 4096 > m.length
    · rw [cpos h3, if_pos h3]; rfl
    · rw [cneg h3, if_neg h3, cand (by omega) (by omega), cand (by omega) (by omega), cand (by omega) (by omega), cand (by omega) (by omega), repeat_ff _ (by decide) (by decide), bind_some']
      have hf : (ffs (4096 : Int).toNat).length = 4096 := ffs_length _
      have hf' : (ffs 4096) = ffs (4096 : Int).toNat := rfl
      rw [hf']
      generalize ffs (4096 : Int).toNat = z at hf ⊢
      rw [bs_extract, bs_extract, bs_append, cfits (by rw [bs_size, bs_size]; simp; omega), bs_append, cfits (by rw [bs_size, bs_size]; simp; omega)]
      have e3 : (m.drop 0).take (a.toNat - 0) = m.take a.toNat := by simp
      have e4 : (m.drop (a + 4096).toNat).take (m.length - (a + 4096).toNat) = m.drop (a.toNat + 4096) := by
        rw [show (a + 4096).toNat = a.toNat + 4096 by omega]; exact List.take_of_length_le (by simp)
      rw [e3, e4]
  rw [cne h2, if_neg h2]
  by_cases h3 : k = 3
  · rw [ceq h3, if_pos h3, repeat_ff _ (by omega) (by omega), bind_some']; rfl
  rw [cne h3, if_neg h3]
  by_cases h4 : a + d.length > m.length
  · rw [cpos h4, if_pos h4]; rfl
  · rw [cneg h4, if_neg h4, cand (by omega) (by omega), cand (by omega) (by omega)]
    rw [bs_extract, bs_extract, bs_append, cfits (by rw [bs_size, bs_size]; simp; omega), cand (by omega) (by omega), cand (by omega) (by omega), bs_append, cfits (by rw [bs_size, bs_size]; simp; omega)]
    have e3 : (m.drop 0).take (a.toNat - 0) = m.take a.toNat := by simp
    have e4 : (m.drop (a + (d.length : Int)).toNat).take (m.length - (a + (d.length : Int)).toNat) = m.drop (a.toNat + d.length) := by
      rw [show (a + (d.length : Int)).toNat = a.toNat + d.length by omega]; exact List.take_of_length_le (by simp)
    rw [e3, e4]
def val (l : List Int) : Int := l.foldl (fun n b => 2 * n + b) 0
theorem val_snoc (l : List Int) (b : Int) : val (l ++ [b]) = 2 * val l + b := by unfold val; rw [List.foldl_append]; rfl
def Bits (l : List Int) : Prop := ∀ b ∈ l, b = 0 ∨ b = 1
theorem Bits.take {l : List Int} (h : Bits l) (n : Nat) : Bits (l.take n) := fun b hb => h b (List.mem_of_mem_take hb)
theorem Bits.drop {l : List Int} (h : Bits l) (n : Nat) : Bits (l.drop n) := fun b hb => h b (List.mem_of_mem_drop hb)
theorem val_take_succ (l : List Int) (i : Nat) (h : i < l.length) : val (l.take (i + 1)) = 2 * val (l.take i) + l[i] := by rw [List.take_succ_eq_append_getElem h, val_snoc]
theorem val_bd (l : List Int) (h : Bits l) : ∀ n, n ≤ l.length → 0 ≤ val (l.take n) ∧ val (l.take n) < 2 ^ n := by
  intro n
  induction n with
  | zero => intro _; simp [val]
  | succ n ih =>
    intro hn
    obtain ⟨h0, h1⟩ := ih (by omega)
    rw [val_take_succ l n (by omega)]
    have hb := h l[n] (List.getElem_mem _)
    rw [Int.pow_succ]
    omega
theorem val_bd' (l : List Int) (h : Bits l) : 0 ≤ val l ∧ val l < 2 ^ l.length := by
  have := val_bd l h l.length (Nat.le_refl _)
  rwa [List.take_length] at this
theorem getElem_bit {l : List Int} (h : Bits l) {i : Nat} (hi : i < l.length) : l[i] = 0 ∨ l[i] = 1 := h _ (List.getElem_mem hi)
theorem pow_le_int {L n : Nat} (h : L ≤ n) : (2 : Int) ^ L ≤ (2 : Int) ^ n := by
  have := Nat.pow_le_pow_right (show 0 < 2 by decide) h
  exact_mod_cast this
structure Ok (mem : List UInt8) (wide : Int) : Prop where
  w : (mem.length = 512 ∧ wide = 6) ∨ (mem.length = 8192 ∧ wide = 14)
def unitF (mem : List UInt8) (inn : List Int) (wide : Int) : Int := val ((inn.drop 2).take wide.toNat) % (mem.length / 8)
theorem unit_eq {mem : List UInt8} {wide : Int} (ok : Ok mem wide) (inn out : List Int) (hb : Bits inn) (hl : 2 + wide ≤ inn.length) : f_unit (bs mem) inn out wide = some (unitF mem inn wide) := by
  unfold f_unit unitF
  have hw := ok.w
  rw [bs_size, wrap_i64 (x := 2 + wide) (by omega) (by omega), cand (by omega) (by omega), cand (by decide) (by omega)]
  have e1 : (2 + wide).toNat - 2 = wide.toNat := by omega
  rw [e1, Int.tdiv_eq_ediv_of_nonneg (by omega), wrap_i64 (x := (mem.length : Int) / 8) (by omega) (by omega)]
  generalize hys : (inn.drop 2).take wide.toNat = ys
  have hyl : ys.length = wide.toNat := by rw [← hys]; simp; omega
  have hyb : Bits ys := by rw [← hys]; exact (hb.drop 2).take _
  rw [← hyl]
  refine loopO_for (fun i => (val (ys.take i), (i : Int))) ys.length (fun i hi => ?_) ?_
  · show cond (decide ((i : Int) < ((ys.length : Nat) : Int))) _ _ = _
    obtain ⟨v0, v1⟩ := val_bd ys hyb i (by omega)
    have v2 : (2 : Int) ^ i ≤ 2 ^ 14 := by
      have : (2 : Nat) ^ i ≤ 2 ^ 14 := Nat.pow_le_pow_right (by decide) (by omega)
      exact_mod_cast this
    have v3 : (2 : Int) ^ 14 = 16384 := rfl
    have hbit := getElem_bit hyb hi
    rw [cpos (by omega), cand (by omega) (by omega), ixL_nat hi, Let_eq, wrap_i64 (x := val (ys.take i) * 2) (by omega) (by omega), wrap_i64 (x := ys[i]) (by omega) (by omega),
      or64 1 (by omega) (by show ys[i] < 2; omega) (by omega) (by omega) (by show _ % (2 : Int) = 0; omega), wrap_i64 (x := (i : Int) + 1) (by omega) (by omega), val_take_succ ys i hi]
    congr 2; simp; omega
  · show cond (decide ((ys.length : Int) < ((ys.length : Nat) : Int))) _ _ = _
    obtain ⟨v0, v1⟩ := val_bd' ys hyb
    rw [cneg (by omega), cnot, cne (by omega), Let_eq, List.take_length, Int.tmod_eq_emod_of_nonneg v0]
def bits8 (b : Int) : List Int := [b / 128 % 2, b / 64 % 2, b / 32 % 2, b / 16 % 2, b / 8 % 2, b / 4 % 2, b / 2 % 2, b % 2]
theorem bits8_len (b : Int) : (bits8 b).length = 8 := rfl
theorem bit_at (b : Int) (h0 : 0 ≤ b) (h1 : b < 256) (i : Nat) (hi : i < 8) : bits .and .u8 (Int.fdiv b (2 ^ (min (7 - (i : Int)).toNat 8))) 1 = (bits8 b)[i]'(by rw [bits8_len]; exact hi) := by
  have key : ∀ (k : Nat), k ≤ 8 → bits .and .u8 (Int.fdiv b (2 ^ k)) 1 = b / (2 ^ k) % 2 := by
    intro k hk
    have hp : (0 : Int) < 2 ^ k := Int.pow_pos (by decide)
    rw [Int.fdiv_eq_ediv_of_nonneg _ (by omega)]
    have d0 : 0 ≤ b / 2 ^ k := Int.ediv_nonneg h0 (by omega)
    have d1 : b / 2 ^ k ≤ b := Int.ediv_le_self _ h0
    rw [and8 1 (by decide) (by decide) d0 (by omega)]; rfl
  obtain rfl | rfl | rfl | rfl | rfl | rfl | rfl | rfl : i = 0 ∨ i = 1 ∨ i = 2 ∨ i = 3 ∨ i = 4 ∨ i = 5 ∨ i = 6 ∨ i = 7 := by omega
  · exact key 7 (by decide)
  · exact key 6 (by decide)
  · exact key 5 (by decide)
  · exact key 4 (by decide)
  · exact key 3 (by decide)
  · exact key 2 (by decide)
  · exact key 1 (by decide)
  · show bits .and .u8 (Int.fdiv b (2 ^ 0)) 1 = b % 2
    rw [key 0 (by decide), Int.pow_zero, Int.ediv_one]
def bitsOf (l : List UInt8) : List Int := l.flatMap fun b => bits8 (b.toNat : Int)
theorem bitsOf_snoc (l : List UInt8) (b : UInt8) : bitsOf (l ++ [b]) = bitsOf l ++ bits8 (b.toNat : Int) := by unfold bitsOf; rw [List.flatMap_append]; simp
theorem bitsOf_len (l : List UInt8) : (bitsOf l).length = 8 * l.length := by
  induction l with
  | nil => rfl
  | cons b l ih => show ((bits8 (b.toNat : Int)) ++ bitsOf l).length = _; rw [List.length_append, ih, bits8_len, List.length_cons]; omega
def part (ys : List Int) (i j : Nat) : Int := val ((ys.drop (8 * j)).take (min 8 (i - 8 * j)))
def parts (ys : List Int) (i : Nat) : List Int := (List.range 8).map (part ys i)
def dataF (ys : List Int) : List UInt8 := (List.range 8).map fun j => UInt8.ofNat (part ys 64 j).toNat
theorem part_bd {ys : List Int} (hb : Bits ys) (i j : Nat) : 0 ≤ part ys i j ∧ part ys i j < 256 := by
  unfold part
  obtain ⟨h0, h1⟩ := val_bd' ((ys.drop (8 * j)).take (min 8 (i - 8 * j))) ((hb.drop _).take _)
  have h2 : (2 : Int) ^ ((ys.drop (8 * j)).take (min 8 (i - 8 * j))).length ≤ 2 ^ 8 := pow_le_int (by rw [List.length_take]; omega)
  rw [show (2 : Int) ^ 8 = 256 from rfl] at h2
  omega
theorem or8 {a b : Int} (ha0 : 0 ≤ a) (ha1 : a < 128) (hb : b = 0 ∨ b = 1) : bits .or .u8 (IntKind.wrap .u8 (a * 2)) b = 2 * a + b := by
  rw [wrap_u8 (by omega) (by omega), u8_or (a * 2) b (by omega) (by omega) (by omega) (by omega)]
  obtain ⟨A, rfl⟩ := Int.eq_ofNat_of_zero_le ha0
  have e : (((A : Int) * 2).toNat ||| b.toNat) = 2 * A + b.toNat := by
    have := Nat.two_pow_add_eq_or_of_lt (b := b.toNat) (i := 1) (by omega) A
    rw [show ((A : Int) * 2).toNat = 2 ^ 1 * A by omega, ← this]
  rw [e]; omega
theorem parts_step {ys : List Int} (hb : Bits ys) (hl : ys.length = 64) (i : Nat) (hi : i < 64) :
    (parts ys i).set (i / 8) (bits .or .u8 (IntKind.wrap .u8 ((parts ys i).getD (i / 8) 0 * 2)) (ys[i]'(by omega))) = parts ys (i + 1) := by
  have hg : (parts ys i).getD (i / 8) 0 = part ys i (i / 8) := by
    unfold parts; rw [List.getD_eq_getElem?_getD, List.getElem?_map, List.getElem?_range (show i / 8 < 8 by omega)]; rfl
  have hp : part ys i (i / 8) < 128 ∧ 0 ≤ part ys i (i / 8) := by
    refine ⟨?_, (part_bd hb _ _).1⟩
    unfold part
    obtain ⟨h0, h1⟩ := val_bd' ((ys.drop (8 * (i / 8))).take (min 8 (i - 8 * (i / 8)))) ((hb.drop _).take _)
    have h2 : (2 : Int) ^ ((ys.drop (8 * (i / 8))).take (min 8 (i - 8 * (i / 8)))).length ≤ 2 ^ 7 := pow_le_int (by rw [List.length_take]; omega)
    rw [show (2 : Int) ^ 7 = 128 from rfl] at h2
    omega
  rw [hg, or8 hp.2 hp.1 (getElem_bit hb _)]
  apply List.ext_getElem?
  intro j
  rw [List.getElem?_set]
  unfold parts
  by_cases hj : j < 8
  · by_cases e : i / 8 = j
    · subst e
      rw [if_pos rfl, if_pos (by simp; omega)]
      rw [List.getElem?_map, List.getElem?_range hj]
      show some _ = some (part ys (i + 1) (i / 8))
      congr 1
      unfold part
      rw [show min 8 (i + 1 - 8 * (i / 8)) = min 8 (i - 8 * (i / 8)) + 1 by omega, val_take_succ _ _ (by simp; omega)]
      congr 1
      rw [List.getElem_drop]
      congr 1; omega
    · rw [if_neg e, List.getElem?_map, List.getElem?_map, List.getElem?_range hj]
      show some (part ys i j) = some (part ys (i + 1) j)
      unfold part
      rw [show min 8 (i + 1 - 8 * j) = min 8 (i - 8 * j) by omega]
  · rw [if_neg (by omega)]
    simp [hj]
structure Res where
  k : Int
  a : Int
  d : List UInt8
  ok : Bool
structure Chip where
  mem : List UInt8
  inn : List Int
  out : List Int
  wide : Int
def noneR : Res := ⟨0, 0, [], false⟩
def outW (r : Res × Chip) : O_EWrite := (r.1.k, r.1.a, bs r.1.d, r.1.ok, bs r.2.mem, r.2.inn, r.2.out)
def ewriteF (c : Chip) (b : Int) : Res × Chip :=
  let l := c.inn ++ [b % 2]
  if l.getD 0 0 = 0 then (noneR, ⟨c.mem, [], c.out, c.wide⟩) else
  if (l.length : Int) < 2 ∨ (l.length : Int) < 3 + c.wide then (noneR, ⟨c.mem, l, c.out, c.wide⟩) else
  if l.getD 1 0 = 1 then (noneR, ⟨c.mem, [], [0, 0, 0, 0] ++ bitsOf ((c.mem.drop (8 * (unitF c.mem l c.wide).toNat)).take 8), c.wide⟩) else
  if (l.length : Int) = 67 + c.wide then
    let x := (8 * unitF c.mem l c.wide, dataF ((l.drop (2 + c.wide.toNat)).take 64))
    (⟨1, x.1, x.2, true⟩, ⟨(applyF c.mem 1 x.1 x.2).1, [], [], c.wide⟩)
  else (noneR, ⟨c.mem, l, c.out, c.wide⟩)
theorem loop_read (bytes : List UInt8) (hl : bytes.length = 8) (xs0 : List Int) (h0 : xs0.length = 4) (T : List Int → O_EWrite) {f : Int × List Int → Option ((Int × List Int) ⊕ O_EWrite)}
    (hf : ∀ (i : Nat) (hi : i < 8) (xs : List Int), xs.length ≤ 1000 → f ((i : Int), xs) = some (.inl (((i + 1 : Nat) : Int), xs ++ bits8 ((bytes[i]'(by omega)).toNat : Int))))
    (he : ∀ xs, f ((8 : Int), xs) = some (.inr (T xs))) : loopO f (0, xs0) = some (T (xs0 ++ bitsOf bytes)) := by
  have e0 : ((0 : Int), xs0) = (fun i : Nat => ((i : Int), xs0 ++ bitsOf (bytes.take i))) 0 := by simp [bitsOf]
  rw [e0]
  refine loopO_for (fun i : Nat => ((i : Int), xs0 ++ bitsOf (bytes.take i))) 8 (fun i hi => ?_) ?_
  · show f ((i : Int), xs0 ++ bitsOf (bytes.take i)) = some (.inl (((i + 1 : Nat) : Int), xs0 ++ bitsOf (bytes.take (i + 1))))
    rw [hf i hi _ (by rw [List.length_append, bitsOf_len]; simp; omega), List.take_succ_eq_append_getElem (show i < bytes.length by omega), bitsOf_snoc, List.append_assoc]
  · show f ((8 : Int), xs0 ++ bitsOf (bytes.take 8)) = _
    rw [he, ← hl, List.take_length]
theorem unitF_bd {mem : List UInt8} {wide : Int} (ok : Ok mem wide) (inn : List Int) : 0 ≤ unitF mem inn wide ∧ 8 * unitF mem inn wide + 8 ≤ mem.length := by
  have hw := ok.w
  unfold unitF
  have h1 : (0 : Int) < (mem.length : Int) / 8 := by omega
  have h2 := Int.emod_nonneg (val ((inn.drop 2).take wide.toNat)) (show (mem.length : Int) / 8 ≠ 0 by omega)
  have h3 := Int.emod_lt_of_pos (val ((inn.drop 2).take wide.toNat)) h1
  omega
theorem write_eq (c : Chip) (ok : Ok c.mem c.wide) (hb : Bits c.inn) (hn : c.inn.length < 67 + c.wide) (b : Int) (b0 : 0 ≤ b) (b1 : b < 256) : f_EWrite (bs c.mem) c.inn c.out c.wide b = some (outW (ewriteF c b)) := by
  obtain ⟨mem, inn, out, wide⟩ := c
  simp only at ok hb hn ⊢
  have hw := ok.w
  have hand : bits .and .u8 b 1 = b % 2 := by rw [and8 1 (by decide) (by decide) b0 b1]; rfl
  unfold f_EWrite ewriteF
  rw [hand, bs_size]
  simp only
  generalize hl : inn ++ [b % 2] = l
  have hll : l.length = inn.length + 1 := by rw [← hl]; simp
  have hbl : Bits l := by
    rw [← hl]; intro x hx
    rcases List.mem_append.1 hx with h | h
    · exact hb x h
    · simp at h; omega
  have g0 : ixL l (0 : Int) = l.getD 0 0 := rfl
  have g1 : ixL l (1 : Int) = l.getD 1 0 := rfl
  rw [cpos (by omega), cand (by omega) (by omega), g0, g1]
  have w3 : IntKind.wrap .i64 (3 + wide) = 3 + wide := wrap_i64 (by omega) (by omega)
  have w67 : IntKind.wrap .i64 (67 + wide) = 67 + wide := wrap_i64 (by omega) (by omega)
  have w66 : IntKind.wrap .i64 (66 + wide) = 66 + wide := wrap_i64 (by omega) (by omega)
  have w2 : IntKind.wrap .i64 (2 + wide) = 2 + wide := wrap_i64 (by omega) (by omega)
  rw [w3, w67, w66, w2]
  by_cases h0 : l.getD 0 0 = 0
  · rw [ceq h0, if_pos h0]; rfl
  rw [cne h0, if_neg h0]
  have hj : ∀ (f : Bool → Option O_EWrite), (cond (decide (((l.length : Nat) : Int) < 2)) (some true) (Let (decide (((l.length : Nat) : Int) < 3 + wide) : Bool) fun s45 => (some s45))).bind f = f (decide ((l.length : Int) < 2 ∨ (l.length : Int) < 3 + wide)) := by
    intro f
    by_cases h : (l.length : Int) < 2
    · rw [cpos h, decide_eq_true (.inl h)]; rfl
    · rw [cneg h]
      show f _ = f _
      congr 1
      simp [h]
  rw [hj]
  by_cases h1 : (l.length : Int) < 2 ∨ (l.length : Int) < 3 + wide
  · rw [cpos h1, if_pos h1]; rfl
  rw [cneg h1, if_neg h1, cand (by omega) (by omega), unit_eq ok l out hbl (by omega), bind_some']
  obtain ⟨u0, u1⟩ := unitF_bd ok l
  by_cases h2 : l.getD 1 0 = 1
  · rw [ceq h2, if_pos h2, cand3 (by decide) (by decide) (by decide), wrap_i64 (x := unitF mem l wide * 8) (by omega) (by omega), wrap_i64 (x := unitF mem l wide * 8 + 8) (by omega) (by omega), cand (by omega) (by omega), cand (by omega) (by omega), bs_extract, bs_size, cpos (by simp; omega), bytesOf_bs]
    have e8 : ((mem.drop (unitF mem l wide * 8).toNat).take ((unitF mem l wide * 8 + 8).toNat - (unitF mem l wide * 8).toNat)) = (mem.drop (8 * (unitF mem l wide).toNat)).take 8 := by
      rw [show (unitF mem l wide * 8 + 8).toNat - (unitF mem l wide * 8).toNat = 8 by omega, show (unitF mem l wide * 8).toNat = 8 * (unitF mem l wide).toNat by omega]
    rw [e8]
    have hbl8 : ((mem.drop (8 * (unitF mem l wide).toNat)).take 8).length = 8 := by simp; omega
    generalize (mem.drop (8 * (unitF mem l wide).toNat)).take 8 = bytes at hbl8 ⊢
    have hlen8 : ((bytes.map fun b => (b.toNat : Int)).length : Int) = 8 := by rw [List.length_map, hbl8]; rfl
    refine loop_read bytes hbl8 _ (by simp) (fun xs => ((0 : Int), (0 : Int), (ByteArray.mk #[]), false, bs mem, ([] : List Int), xs)) (fun i hi xs hx => ?_) (fun xs => ?_)
    · show cond (decide ((i : Int) < (((bytes.map fun b => (b.toNat : Int)).length : Nat) : Int))) _ _ = _
      have hib : i < (bytes.map fun b => (b.toNat : Int)).length := by rw [List.length_map]; omega
      rw [cpos (by omega), cand (by omega) (by omega)]
      have hel : ixL (bytes.map fun b => (b.toNat : Int)) (i : Int) = ((bytes[i]'(by omega)).toNat : Int) := by rw [ixL_nat hib]; simp
      rw [hel]
      have hlt := (bytes[i]'(by omega)).toNat_lt
      have hv : 0 ≤ ((bytes[i]'(by omega)).toNat : Int) ∧ ((bytes[i]'(by omega)).toNat : Int) < 256 := by omega
      generalize ((bytes[i]'(by omega)).toNat : Int) = v at hv ⊢
      have w1 : IntKind.wrap .i64 ((i : Int) + 1) = ((i + 1 : Nat) : Int) := by rw [wrap_i64 (by omega) (by omega)]; omega
      rw [w1]
      have e7 : ((7 : Int), xs) = (fun k : Nat => (7 - (k : Int), xs ++ (bits8 v).take k)) 0 := by simp
      rw [e7]
      refine loopO_for (fun k : Nat => (7 - (k : Int), xs ++ (bits8 v).take k)) 8 (fun k hk => ?_) ?_
      · show cond (decide (7 - (k : Int) ≥ 0)) _ _ = _
        rw [cpos (by omega), cpos (by omega), bit_at v hv.1 hv.2 k hk]
        have hs := List.take_succ_eq_append_getElem (show k < (bits8 v).length by rw [bits8_len]; exact hk)
        have hx2 : ((xs ++ (bits8 v).take k) ++ [(bits8 v)[k]'(by rw [bits8_len]; exact hk)]) = xs ++ (bits8 v).take (k + 1) := by rw [hs, List.append_assoc]
        rw [hx2, cpos (by simp; omega), wrap_i64 (by omega) (by omega)]
        show some (Sum.inl _) = some (Sum.inl _)
        congr 3; omega
      · show cond (decide (7 - ((8 : Nat) : Int) ≥ 0)) _ _ = _
        rw [cneg (by decide)]
        have : (bits8 v).take 8 = bits8 v := List.take_of_length_le (by rw [bits8_len]; decide)
        rw [this]
    · show cond (decide ((8 : Int) < (((bytes.map fun b => (b.toNat : Int)).length : Nat) : Int))) _ _ = _
      rw [cneg (by omega)]
  rw [cne h2, if_neg h2, Let_eq]
  by_cases h3 : (l.length : Int) = 67 + wide
  · rw [ceq h3, if_pos h3, cand3 (by decide) (by decide) (by decide), cand (by omega) (by omega), cand (by omega) (by omega)]
    have hm : mem.length ≤ 140737488355328 := by omega
    rw [show (66 + wide).toNat - (2 + wide).toNat = 64 by omega, show (2 + wide).toNat = 2 + wide.toNat by omega]
    have hyl : ((l.drop (2 + wide.toNat)).take 64).length = 64 := by simp; omega
    have hyb : Bits ((l.drop (2 + wide.toNat)).take 64) := (hbl.drop _).take _
    generalize hys : (l.drop (2 + wide.toNat)).take 64 = ys at hyl hyb ⊢
    have hpl : ∀ i, (parts ys i).length = 8 := fun i => by unfold parts; simp
    have e0 : ((0 : Int), List.replicate (8 : Int).toNat (0 : Int)) = (fun i : Nat => ((i : Int), parts ys i)) 0 := by
      have e : parts ys 0 = List.replicate 8 0 := by
        unfold parts part
        simp [val]; rfl
      show _ = (((0 : Nat) : Int), parts ys 0)
      rw [e]; rfl
    rw [e0]
    refine loopO_for (fun i : Nat => ((i : Int), parts ys i)) 64 (fun i hi => ?_) ?_
    · show cond (decide ((i : Int) < ((64 : Nat) : Int))) _ _ = _
      have hr : (((List.replicate (8 : Int).toNat (0 : Int)).length : Nat) : Int) = 8 := rfl
      have hd : Int.tdiv (i : Int) 8 = ((i / 8 : Nat) : Int) := by rw [Int.tdiv_eq_ediv_of_nonneg (by omega)]; omega
      have w1 : IntKind.wrap .i64 ((i : Int) + 1) = ((i + 1 : Nat) : Int) := by rw [wrap_i64 (by omega) (by omega)]; omega
      rw [hr, hd, wrap_i64 (x := ((i / 8 : Nat) : Int)) (by omega) (by omega), w1, cpos (by omega), cand (by omega) (by omega), cand (by omega) (by omega), cand (by omega) (by omega), Int.toNat_natCast]
      have hix : ixL (parts ys i) ((i / 8 : Nat) : Int) = (parts ys i).getD (i / 8) 0 := by unfold ixL; rw [Int.toNat_natCast]; rfl
      rw [hix, ixL_nat (show i < ys.length by omega), parts_step hyb hyl i hi]
    · show cond (decide (((64 : Nat) : Int) < ((64 : Nat) : Int))) _ _ = _
      have hin : bytesIn (parts ys 64) = true := by
        unfold bytesIn parts
        rw [List.all_eq_true]
        intro x hx
        obtain ⟨j, _, rfl⟩ := List.mem_map.1 hx
        have := part_bd hyb 64 j
        simp [this.1, this.2]
      have hst : strOf (parts ys 64) = bs (dataF ys) := by
        unfold strOf parts dataF; rw [List.map_map]; rfl
      rw [cneg (by omega), bind_some']
      show cond (bytesIn (parts ys 64)) ((f_sApply (bs mem) 1 (IntKind.wrap .i64 (unitF mem l wide * 8)) (strOf (parts ys 64))).bind _) _ = _
      rw [ctrueT hin, hst, wrap_i64 (x := unitF mem l wide * 8) (by omega) (by omega), sApply_eq _ hm, bind_some']
      rw [show unitF mem l wide * 8 = 8 * unitF mem l wide by omega]; rfl
  · rw [cne h3, if_neg h3]; rfl
end Go.Proofs.YtcgigdfahlmfaaaGreatDoor
