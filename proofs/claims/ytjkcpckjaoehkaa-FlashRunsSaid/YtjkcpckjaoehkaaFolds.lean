/-
  awake; FlashFolds and FlashRuns, plain.
-/
import Derived.Test.YtjkcpckjaoehkaaFlash
namespace Go.Proofs.Ytjkcpckjaoehkaa
open Go.Vc
set_option linter.unusedVariables false

theorem blank_eq (n : Nat) (h : n ≤ 131072) : f_Blank (n : Int) = some (bs (ffs n)) := by
  unfold f_Blank
  have e : (if (if (131072 : Int) < n then 131072 else (n : Int)) > 0 then (if (131072 : Int) < n then 131072 else (n : Int)) else 0) = n := by
    rw [if_neg (show ¬ (131072 : Int) < n by omega)]; split <;> omega
  rw [e, repeat_ff _ (by omega) (by omega)]; rfl
theorem new_eq (m : List UInt8) (h : m.length = 65536 ∨ m.length = 131072) : f_New (bs m) = some (.inl (0, bs m)) := by
  unfold f_New
  rw [bs_size]
  rcases h with h | h
  · rw [cbeq (by omega)]
  · rw [cbne (by omega), cbeq (by omega)]
theorem chip_eq (two : Bool) : f_chip two = some (.inl (bs (ffs (if two = true then 131072 else 65536)))) := by
  unfold f_chip
  cases two
  · rw [ctrueF rfl, show (65536 : Int) = ((65536 : Nat) : Int) from rfl, blank_eq _ (by decide), bind_some', new_eq _ (.inl (ffs_length _)), bind_some']; rfl
  · rw [ctrueT rfl, show (131072 : Int) = ((131072 : Nat) : Int) from rfl, blank_eq _ (by decide), bind_some', new_eq _ (.inr (ffs_length _)), bind_some']; rfl
def makerF (m : List UInt8) (i : Int) : Int := if m.length = 131072 then (if i = 0 then 98 else 19) else (if i = 0 then 50 else 27)
def readF (c : Chip) (x : Int) : Int := if c.id = true ∧ at16 x < 2 then makerF c.mem (at16 x) else byteAt c.mem (c.bank * 65536 + at16 x)
theorem read_eq (c : Chip) (ok : Ok c) (x : Int) (x0 : 0 ≤ x) (x1 : x < 4294967296) : f_Read (bs c.mem) c.state c.id c.bank x = some (readF c x) := by
  obtain ⟨p1, p2, p3, p4⟩ := put_ok ok (x := x)
  have hx := at16_bd x
  unfold f_Read
  rw [at16_ok x0 x1, Let_eq, p1, bs_size, sbyte_bs]
  unfold readF
  by_cases h : c.id = true
  · rw [ctrueT h]
    by_cases h2 : at16 x < 2
    · rw [cpos h2, if_pos ⟨h, h2⟩]
      unfold f_maker makerF
      rw [bs_size]
      by_cases h3 : c.mem.length = 131072
      · rw [ceq (by omega), if_pos h3, cand hx.1 (by omega), bind_some']
        obtain h4 | h4 : at16 x = 0 ∨ at16 x = 1 := by omega
        · rw [h4]; rfl
        · rw [h4]; rfl
      · rw [cne (by omega), if_neg h3, cand hx.1 (by omega), bind_some']
        obtain h4 | h4 : at16 x = 0 ∨ at16 x = 1 := by omega
        · rw [h4]; rfl
        · rw [h4]; rfl
    · rw [cneg h2, if_neg (fun h => h2 h.2), cand p2 p3]; rfl
  · rw [ctrueF (by simpa using h), if_neg (fun h' => h h'.1), cand p2 p3]; rfl
theorem rRead_eq (c : Chip) (ok : Ok c) (x : Int) (x0 : 0 ≤ x) (x1 : x < 4294967296) (ks : ByteArray) : f_rRead (bs c.mem) ks c.id c.bank x = some (readF c x) := by
  obtain ⟨p1, p2, p3, p4⟩ := put_ok ok (x := x)
  have hx := at16_bd x
  have hl := ok.len
  unfold f_rRead
  rw [at16_ref x0 x1, put_ref ok, bs_size, sbyte_bs]
  unfold readF
  by_cases h : c.id = true
  · rw [ctrueT h]
    by_cases h2 : at16 x < 2
    · rw [cpos h2, if_pos ⟨h, h2⟩]
      unfold makerF
      have s1 : ((ByteArray.mk #[50, 27]).size : Int) = 2 := rfl
      have s2 : ((ByteArray.mk #[98, 19]).size : Int) = 2 := rfl
      rw [s1, s2]
      by_cases h3 : c.mem.length = 131072
      · rw [cne (by omega), if_pos h3, cand hx.1 (by omega)]
        obtain h4 | h4 : at16 x = 0 ∨ at16 x = 1 := by omega
        · rw [h4]; rfl
        · rw [h4]; rfl
      · rw [ceq (by omega), if_neg h3, cand hx.1 (by omega)]
        obtain h4 | h4 : at16 x = 0 ∨ at16 x = 1 := by omega
        · rw [h4]; rfl
        · rw [h4]; rfl
    · rw [cneg h2, if_neg (fun h => h2 h.2), cand p2 p3]; rfl
  · rw [ctrueF (by simpa using h), if_neg (fun h' => h h'.1), cand p2 p3]; rfl

/-! ### what stays right -/
theorem applyF_len {m : List UInt8} {k a : Int} {d : List UInt8} (h : (applyF m k a d).2 = 0) : (applyF m k a d).1.length = m.length := by
  unfold applyF at *
  split at h
  · rename_i h0
    rw [if_pos h0]
    obtain ⟨a0, a1, d1⟩ := okF_addr h0
    unfold applyT at *
    have hf : (ffs 4096).length = 4096 := ffs_length _
    split at h
    · rename_i h2
      rw [if_pos h2]
      split at h
      · cases h
      · rename_i h3; rw [if_neg h3]; simp [hf]; omega
    · rename_i h2
      rw [if_neg h2]
      split at h
      · rename_i h3; rw [if_pos h3]; exact ffs_length _
      · rename_i h3
        rw [if_neg h3]
        split at h
        · cases h
        · rename_i h4; rw [if_neg h4]; simp; omega
  · cases h
/-- A command that the chip tells may be carried out. -/
theorem writeF_good {c : Chip} (ok : Ok c) (x b : Int) (h : (writeF c x b).1.ok = true) :
    (applyF c.mem (writeF c x b).1.k (writeF c x b).1.a (writeF c x b).1.d).2 = 0 ∧ (writeF c x b).2.mem = (applyF c.mem (writeF c x b).1.k (writeF c x b).1.a (writeF c x b).1.d).1 := by
  obtain ⟨p1, p2, p3, p4⟩ := put_ok ok (x := x)
  have hx := at16_bd x
  have hb := ok.bank
  have hl := ok.len
  unfold writeF at *
  by_cases h3 : c.state = 3
  · rw [if_pos h3] at *
    refine ⟨?_, rfl⟩
    show (applyF c.mem 1 (c.bank * 65536 + at16 x) (putByte c x b)).2 = 0
    have hd : (putByte c x b).length = 1 := rfl
    unfold applyF okF
    rw [if_pos rfl, if_pos (by rw [hd]; simp; omega)]
    unfold applyT
    rw [if_neg (by decide), if_neg (by decide), if_neg (by rw [hd]; omega)]
  rw [if_neg h3] at *
  by_cases h4 : c.state = 4
  · rw [if_pos h4] at h; cases h
  rw [if_neg h4] at *
  by_cases h7 : c.state = 7
  · rw [if_pos h7] at *
    by_cases g : at16 x = 21845 ∧ b = 16
    · rw [if_pos g] at *
      exact ⟨rfl, rfl⟩
    rw [if_neg g] at *
    by_cases g2 : b = 48
    · rw [if_pos g2] at *
      refine ⟨?_, rfl⟩
      show (applyF c.mem 2 (c.bank * 65536 + at16 x / 4096 * 4096) []).2 = 0
      unfold applyF okF
      have hm : Int.tmod (c.bank * 65536 + at16 x / 4096 * 4096) 4096 = 0 := by
        rw [Int.tmod_eq_emod_of_nonneg (by omega)]; omega
      rw [if_neg (show ¬ (2 : Int) = 1 by decide), if_pos rfl, if_pos (by simp [hm]; omega)]
      unfold applyT
      rw [if_pos rfl, if_neg (by omega)]
    · rw [if_neg g2] at h; cases h
  · rw [if_neg h7] at h; cases h
theorem writeF_none {c : Chip} (x b : Int) (h : (writeF c x b).1.ok = false) : (writeF c x b).1 = noneR ∧ (writeF c x b).2.mem = c.mem := by
  unfold writeF at *
  by_cases h3 : c.state = 3
  · rw [if_pos h3] at h; cases h
  rw [if_neg h3] at *
  by_cases h4 : c.state = 4
  · rw [if_pos h4]; exact ⟨rfl, rfl⟩
  rw [if_neg h4] at *
  by_cases h7 : c.state = 7
  · rw [if_pos h7] at *
    by_cases g : at16 x = 21845 ∧ b = 16
    · rw [if_pos g] at h; cases h
    rw [if_neg g] at *
    by_cases g2 : b = 48
    · rw [if_pos g2] at h; cases h
    · rw [if_neg g2]; exact ⟨rfl, rfl⟩
  · rw [if_neg h7]; exact ⟨rfl, rfl⟩
theorem stepF_bd (st : Int) (id : Bool) (a b : Int) (h0 : 0 ≤ st) (h7 : st ≤ 6 ∨ st = 7) : 0 ≤ (stepF st id a b).1 ∧ (stepF st id a b).1 ≤ 7 := by
  unfold stepF
  split
  · simp; omega
  split
  · simp; omega
  split
  · unfold commandF; repeat' split
    all_goals exact ⟨by simp, by simp⟩
  split <;> exact ⟨by simp, by simp⟩
theorem writeF_Ok {c : Chip} (ok : Ok c) (x b : Int) (b0 : 0 ≤ b) : Ok (writeF c x b).2 := by
  have hm : (writeF c x b).2.mem.length = c.mem.length := by
    cases h : (writeF c x b).1.ok
    · rw [(writeF_none x b h).2]
    · obtain ⟨h1, h2⟩ := writeF_good ok x b h
      rw [h2]; exact applyF_len h1
  have hbk : (writeF c x b).2.bank = c.bank ∨ ((writeF c x b).2.bank = b % 2 ∧ c.mem.length = 131072) := by
    unfold writeF
    split
    · exact .inl rfl
    split
    · show (if _ then _ else _) = _ ∨ _
      by_cases g : at16 x = 0 ∧ c.mem.length = 131072
      · right; exact ⟨if_pos g, g.2⟩
      · left; exact if_neg g
    split
    · split
      · exact .inl rfl
      split <;> exact .inl rfl
    · exact .inl rfl
  refine ⟨by rw [hm]; exact ok.len, ?_, ?_⟩
  · rw [hm]
    rcases hbk with h | ⟨h, h'⟩
    · rw [h]; exact ok.bank
    · rw [h]
      have : b % 2 = 0 ∨ b % 2 = 1 := by omega
      rcases this with h | h
      · exact .inl h
      · exact .inr ⟨h, h'⟩
  · unfold writeF
    split
    · exact ⟨by show (0 : Int) ≤ 0; decide, by show (0 : Int) ≤ 7; decide⟩
    split
    · exact ⟨by show (0 : Int) ≤ 0; decide, by show (0 : Int) ≤ 7; decide⟩
    split
    · repeat' split
      all_goals exact ⟨by show (0 : Int) ≤ 0; decide, by show (0 : Int) ≤ 7; decide⟩
    · exact stepF_bd _ _ _ _ ok.st.1 (by have := ok.st.2; omega)

/-! ### awake -/
theorem step1 (m : List UInt8) (i : Bool) (bk : Int) : writeF ⟨m, 0, i, bk⟩ 21845 170 = (noneR, ⟨m, 1, i, bk⟩) := rfl
theorem step2 (m : List UInt8) (i : Bool) (bk : Int) : writeF ⟨m, 1, i, bk⟩ 10922 85 = (noneR, ⟨m, 2, i, bk⟩) := rfl
theorem step3 (m : List UInt8) (i : Bool) (bk : Int) : writeF ⟨m, 2, i, bk⟩ 21845 160 = (noneR, ⟨m, 3, i, bk⟩) := rfl
theorem ffs_getD (n i : Nat) (h : i < n) : (ffs n).getD i 0 = 255 := by
  unfold ffs; simp [List.getD_eq_getElem?_getD, h]
theorem awake_eq : f_awake = some true := by
  unfold f_awake
  rw [show (65536 : Int) = ((65536 : Nat) : Int) from rfl, blank_eq _ (by decide), bind_some', new_eq _ (.inl (ffs_length _)), bind_some']
  have hl := ffs_length 65536
  have hg : ∀ i, i < 65536 → (ffs 65536).getD i 0 = 255 := fun i h => ffs_getD 65536 i h
  generalize ffs 65536 = m at *
  have ok : ∀ (s : Int), 0 ≤ s → s ≤ 7 → Ok ⟨m, s, false, 0⟩ := fun s h h' => ⟨.inl hl, .inl rfl, h, h'⟩
  have w1 : f_Write (bs m) 0 false 0 21845 170 = some (outW (noneR, ⟨m, 1, false, 0⟩)) := write_eq _ (ok 0 (by decide) (by decide)) 21845 170 (by decide) (by decide) (by decide) (by decide)
  have w2 : f_Write (bs m) 1 false 0 10922 85 = some (outW (noneR, ⟨m, 2, false, 0⟩)) := write_eq _ (ok 1 (by decide) (by decide)) 10922 85 (by decide) (by decide) (by decide) (by decide)
  have w3 : f_Write (bs m) 2 false 0 21845 160 = some (outW (noneR, ⟨m, 3, false, 0⟩)) := write_eq _ (ok 2 (by decide) (by decide)) 21845 160 (by decide) (by decide) (by decide) (by decide)
  have hp : putByte ⟨m, 3, false, 0⟩ 291 90 = [90] := by
    unfold putByte byteAt
    show [UInt8.ofNat (90 &&& ((m.getD 291 0).toNat : Int).toNat)] = [90]
    rw [hg 291 (by decide)]; rfl
  have hap : applyF m 1 291 [90] = (m.take 291 ++ [90] ++ m.drop 292, 0) := by
    unfold applyF
    rw [if_pos (by decide)]
    unfold applyT
    rw [if_neg (by decide), if_neg (by decide), if_neg (by rw [hl]; decide)]; rfl
  have hwf : writeF ⟨m, 3, false, 0⟩ 291 90 = (⟨1, 291, [90], true⟩, ⟨m.take 291 ++ [90] ++ m.drop 292, 0, false, 0⟩) := by
    show doneF ⟨m, 3, false, 0⟩ 1 291 (putByte ⟨m, 3, false, 0⟩ 291 90) = _
    rw [hp]; unfold doneF; rw [hap]
  have w4 : f_Write (bs m) 3 false 0 291 90 = some (outW (⟨1, 291, [90], true⟩, ⟨m.take 291 ++ [90] ++ m.drop 292, 0, false, 0⟩)) := by
    rw [← hwf]; exact write_eq _ (ok 3 (by decide) (by decide)) 291 90 (by decide) (by decide) (by decide) (by decide)
  have ok4 : Ok ⟨m.take 291 ++ [90] ++ m.drop 292, 0, false, 0⟩ := ⟨.inl (by simp; omega), .inl rfl, show (0 : Int) ≤ 0 by decide, show (0 : Int) ≤ 7 by decide⟩
  have r1 : f_Read (bs (m.take 291 ++ [90] ++ m.drop 292)) 0 false 0 291 = some (byteAt (m.take 291 ++ [90] ++ m.drop 292) 291) := read_eq _ ok4 291 (by decide) (by decide)
  have r2 : f_Read (bs (m.take 291 ++ [90] ++ m.drop 292)) 0 false 0 292 = some (byteAt (m.take 291 ++ [90] ++ m.drop 292) 292) := read_eq _ ok4 292 (by decide) (by decide)
  have ht : (m.take 291).length = 291 := by simp; omega
  have e1 : byteAt (m.take 291 ++ [90] ++ m.drop 292) 291 = 90 := by
    unfold byteAt
    show (((m.take 291 ++ [90] ++ m.drop 292).getD 291 0).toNat : Int) = 90
    rw [List.getD_eq_getElem?_getD, List.append_assoc, List.getElem?_append_right (by omega), ht]; rfl
  have e2 : byteAt (m.take 291 ++ [90] ++ m.drop 292) 292 = 255 := by
    unfold byteAt
    show (((m.take 291 ++ [90] ++ m.drop 292).getD 292 0).toNat : Int) = 255
    rw [List.getD_eq_getElem?_getD, List.getElem?_append_right (by simp; omega), List.getElem?_drop]
    have e : 292 + (292 - (m.take 291 ++ [90]).length) = 292 := by simp; omega
    rw [e, ← List.getD_eq_getElem?_getD, hg 292 (by decide)]; rfl
  show ((f_Write (bs m) 0 false 0 21845 170).bind _) = _
  rw [w1, bind_some']
  show ((f_Write (bs m) 1 false 0 10922 85).bind _) = _
  rw [w2, bind_some']
  show ((f_Write (bs m) 2 false 0 21845 160).bind _) = _
  rw [w3, bind_some']
  show ((f_Write (bs m) 3 false 0 291 90).bind _) = _
  rw [w4, bind_some']
  show ((f_Read (bs (m.take 291 ++ [90] ++ m.drop 292)) 0 false 0 291).bind _) = _
  rw [r1, bind_some', e1]
  show ((f_Read (bs (m.take 291 ++ [90] ++ m.drop 292)) 0 false 0 292).bind _) = _
  rw [r2, bind_some', e2]; rfl

/-! ### the laws -/
theorem beq_ok (a b : List UInt8) (h : a = b) : (bs a == bs b) = true := by rw [beq_bs']; exact decide_eq_true h
theorem FlashFolds_eq (two : Bool) (puts : List E33) (hp : ∀ p ∈ puts, (0 ≤ p.Addr ∧ p.Addr < 4294967296) ∧ 0 ≤ p.Byte ∧ p.Byte < 256) : f_FlashFolds two puts = some true := by
  unfold f_FlashFolds
  rw [awake_eq, bind_some', cnot, ctrueT rfl]
  by_cases hl : ((puts.length : Nat) : Int) > 200
  · rw [cpos hl]
  rw [cneg hl, chip_eq, bind_some']
  have h0 : (ffs (if two = true then 131072 else 65536)).length = if two = true then 131072 else 65536 := ffs_length _
  generalize ffs (if two = true then 131072 else 65536) = m0 at *
  have ok0 : Ok ⟨m0, 0, false, 0⟩ := ⟨by rw [h0]; split <;> simp, .inl rfl, show (0 : Int) ≤ 0 by decide, show (0 : Int) ≤ 7 by decide⟩
  show ((f_Image (bs m0) 0 false 0).bind _) = _
  rw [show f_Image (bs m0) 0 false 0 = some (bs m0) from rfl, bind_some']
  refine loopO_inv (fun n s => ∃ (i : Nat) (c : Chip), n = puts.length - i ∧ i ≤ puts.length ∧ Ok c ∧ s = (bs c.mem, (i : Int), bs c.mem, c.state, c.id, c.bank)) ?_ puts.length _ ⟨0, ⟨m0, 0, false, 0⟩, rfl, Nat.zero_le _, ok0, rfl⟩
  rintro n s ⟨i, c, rfl, hi, ok, rfl⟩
  show (_ : Prop) ∨ _
  by_cases hlt : i < puts.length
  · left
    obtain ⟨⟨a0, a1⟩, b0, b1⟩ := hp puts[i] (List.getElem_mem hlt)
    have hcm : c.mem.length ≤ 1099511627776 := by rcases ok.len with h | h <;> omega
    refine ⟨(bs (writeF c puts[i].Addr puts[i].Byte).2.mem, ((i + 1 : Nat) : Int), bs (writeF c puts[i].Addr puts[i].Byte).2.mem, (writeF c puts[i].Addr puts[i].Byte).2.state, (writeF c puts[i].Addr puts[i].Byte).2.id, (writeF c puts[i].Addr puts[i].Byte).2.bank), puts.length - (i + 1), ?_, by omega, i + 1, _, rfl, by omega, writeF_Ok ok _ _ b0, rfl⟩
    show cond (decide ((i : Int) < ((puts.length : Nat) : Int))) _ _ = _
    rw [cpos (by omega), cand (by omega) (by omega), ixL_nat hlt]
    rw [show f_Image (bs c.mem) c.state c.id c.bank = some (bs c.mem) from rfl, bind_some', write_eq c ok _ _ a0 a1 b0 b1, bind_some']
    have w1 : IntKind.wrap .i64 ((i : Int) + 1) = ((i + 1 : Nat) : Int) := by rw [wrap_i64 (by omega) (by omega)]; omega
    rw [w1]
    generalize hw : writeF c puts[i].Addr puts[i].Byte = r
    show cond (!r.1.ok) _ _ = _
    rw [cnot]
    cases hok : r.1.ok
    · rw [ctrueF rfl]
      obtain ⟨e1, e2⟩ := writeF_none (c := c) puts[i].Addr puts[i].Byte (by rw [hw]; exact hok)
      rw [hw] at e1 e2
      show ((f_Image (bs r.2.mem) r.2.state r.2.id r.2.bank).bind _) = _
      rw [show f_Image (bs r.2.mem) r.2.state r.2.id r.2.bank = some (bs r.2.mem) from rfl, bind_some', e2, beq_bs, cnot, cpos rfl]
      show cond (!((r.1.k == 0) && ((r.1.a == 0) && (bs r.1.d == (ByteArray.mk #[]))))) _ _ = _
      rw [e1]; rfl
    · rw [ctrueT rfl]
      obtain ⟨g1, g2⟩ := writeF_good ok puts[i].Addr puts[i].Byte (by rw [hw]; exact hok)
      rw [hw] at g1 g2
      show ((f_rApply (bs c.mem) r.1.k r.1.a (bs r.1.d)).bind _) = _
      rw [rApply_eq _ hcm, bind_some']
      show cond ((applyF c.mem r.1.k r.1.a r.1.d).2 != 0) _ _ = _
      rw [cbeq g1, ← g2]
  · right
    show cond (decide ((i : Int) < ((puts.length : Nat) : Int))) _ _ = _
    rw [cneg (by omega), show f_Image (bs c.mem) c.state c.id c.bank = some (bs c.mem) from rfl, bind_some', beq_bs, decide_eq_true rfl]
theorem outW_nil : keysOf 0 = [] := rfl
theorem FlashRuns_eq (two : Bool) (puts : List E33) (asks : List Int) (hp : ∀ p ∈ puts, (0 ≤ p.Addr ∧ p.Addr < 4294967296) ∧ 0 ≤ p.Byte ∧ p.Byte < 256) (ha : ∀ x ∈ asks, 0 ≤ x ∧ x < 4294967296) : f_FlashRuns two puts asks = some true := by
  unfold f_FlashRuns
  rw [awake_eq, bind_some', cnot, ctrueT rfl]
  by_cases hl : ((puts.length : Nat) : Int) > 400
  · rw [cpos hl]
  rw [cneg hl, chip_eq, bind_some']
  have h0 : (ffs (if two = true then 131072 else 65536)).length = if two = true then 131072 else 65536 := ffs_length _
  generalize ffs (if two = true then 131072 else 65536) = m0 at *
  have ok0 : Ok ⟨m0, 0, false, 0⟩ := ⟨by rw [h0]; split <;> simp, .inl rfl, show (0 : Int) ≤ 0 by decide, show (0 : Int) ≤ 7 by decide⟩
  show ((f_Image (bs m0) 0 false 0).bind _) = _
  rw [show f_Image (bs m0) 0 false 0 = some (bs m0) from rfl, bind_some']
  refine loopO_inv (fun n s => ∃ (i : Nat) (c : Chip), n = puts.length - i ∧ i ≤ puts.length ∧ Ok c ∧ s = ((i : Int), bs c.mem, bs (keysOf c.state), c.id, c.bank, bs c.mem, c.state, c.id, c.bank)) ?_ puts.length _ ⟨0, ⟨m0, 0, false, 0⟩, rfl, Nat.zero_le _, ok0, rfl⟩
  rintro n s ⟨i, c, rfl, hi, ok, rfl⟩
  show (_ : Prop) ∨ _
  by_cases hlt : i < puts.length
  · left
    obtain ⟨⟨a0, a1⟩, b0, b1⟩ := hp puts[i] (List.getElem_mem hlt)
    have ok' := writeF_Ok ok puts[i].Addr puts[i].Byte b0
    refine ⟨_, puts.length - (i + 1), ?_, by omega, i + 1, (writeF c puts[i].Addr puts[i].Byte).2, rfl, by omega, ok', rfl⟩
    show cond (decide ((i : Int) < ((puts.length : Nat) : Int))) _ _ = _
    rw [cpos (by omega), cand (by omega) (by omega), ixL_nat hlt]
    rw [write_eq c ok _ _ a0 a1 b0 b1, bind_some', rWrite_eq c ok _ _ a0 a1 b0 b1]
    have w1 : IntKind.wrap .i64 ((i : Int) + 1) = ((i + 1 : Nat) : Int) := by rw [wrap_i64 (by omega) (by omega)]; omega
    rw [w1]
    generalize hw : writeF c puts[i].Addr puts[i].Byte = r at *
    show cond (!((r.1.k == r.1.k) && ((r.1.a == r.1.a) && (bs r.1.d == bs r.1.d)))) _ (cond (!(r.1.ok == r.1.ok)) _ ((f_Read (bs r.2.mem) r.2.state r.2.id r.2.bank puts[i].Addr).bind _)) = _
    have hb : (!((r.1.k == r.1.k) && ((r.1.a == r.1.a) && (bs r.1.d == bs r.1.d)))) = false := by rw [beq_ok _ _ rfl]; simp
    have hb2 : (!(r.1.ok == r.1.ok)) = false := by simp
    rw [hb, hb2]
    show ((f_Read (bs r.2.mem) r.2.state r.2.id r.2.bank puts[i].Addr).bind _) = _
    rw [read_eq r.2 ok' _ a0 a1, bind_some']
    show ((f_rRead (bs r.2.mem) (bs (keysOf r.2.state)) r.2.id r.2.bank puts[i].Addr).bind _) = _
    rw [rRead_eq r.2 ok' _ a0 a1, bind_some', cbeq rfl]
    by_cases hq : i < asks.length
    · obtain ⟨q0, q1⟩ := ha asks[i] (List.getElem_mem hq)
      rw [cpos (by omega), cand (by omega) (by omega), cand (by omega) (by omega), ixL_nat hq]
      show ((f_Read (bs r.2.mem) r.2.state r.2.id r.2.bank asks[i]).bind _) = _
      rw [read_eq r.2 ok' _ q0 q1, bind_some']
      show ((f_rRead (bs r.2.mem) (bs (keysOf r.2.state)) r.2.id r.2.bank asks[i]).bind _) = _
      rw [rRead_eq r.2 ok' _ q0 q1, bind_some', cbeq rfl]
    · rw [cneg (by omega)]
  · right
    show cond (decide ((i : Int) < ((puts.length : Nat) : Int))) _ _ = _
    rw [cneg (by omega), show f_Image (bs c.mem) c.state c.id c.bank = some (bs c.mem) from rfl, bind_some', beq_bs, decide_eq_true rfl]
end Go.Proofs.Ytjkcpckjaoehkaa
