/-
  FlashBits, plain.
-/
import Derived.Test.YtjkcpckjaoehkaaFlashP
namespace Go.Proofs.Ytjkcpckjaoehkaa
open Go.Vc
set_option linter.unusedVariables false
set_option linter.unusedSimpArgs false

theorem blank_eq (n : Nat) (h : n ≤ 131072) : f_Blank (n : Int) = some (bs (ffs n)) := by
  unfold f_Blank
  have e : (if (if (131072 : Int) < n then 131072 else (n : Int)) > 0 then (if (131072 : Int) < n then 131072 else (n : Int)) else 0) = n := by
    rw [if_neg (show ¬ (131072 : Int) < n by omega)]; split <;> omega
  rw [e, repeat_ff _ (by omega) (by omega)]; rfl
theorem new_eq (m : List UInt8) (h : m.length = 65536 ∨ m.length = 131072) : f_New (bs m) = some (.inl (bs m)) := by
  unfold f_New
  rw [bs_size]
  rcases h with h | h
  · rw [cbeq (by omega)]
  · rw [cbne (by omega), cbeq (by omega)]
theorem chip_eq (two : Bool) : f_chip two = some (.inl (bs (ffs (if two = true then 131072 else 65536)))) := by
  unfold f_chip
  cases two
  · rw [ctrueF rfl, show (65536 : Int) = ((65536 : Nat) : Int) from rfl, blank_eq _ (by decide), bind_some', new_eq _ (.inl (ffs_length _)), bind_some']; rfl
  · rw [ctrueT rfl, show (131072 : Int) = ((131072 : Nat) : Int) from rfl, blank_eq _ (by decide), bind_some', new_eq _ (.inr (ffs_length _)), bind_some']; rfl
def makerF (m : List UInt8) (i : Int) : Int := if m.length = 131072 then (if i = 0 then 98 else 19) else (if i = 0 then 50 else 27)
def readF (c : Chip) (x : Int) : Int := if c.id = true ∧ at16 x < 2 then makerF c.mem (at16 x) else byteAt c.mem (c.bank * 65536 + at16 x)
theorem read_eq (c : Chip) (ok : Ok c) (x : Int) (x0 : 0 ≤ x) (x1 : x < 4294967296) : f_Read (bs c.mem) c.state c.id c.bank x = some (readF c x) := by
  obtain ⟨p1, p2, p3, p4⟩ := put_ok ok (x := x)
  have hx := at16_bd x
  unfold f_Read
  rw [at16_ok x0 x1, Let_eq, p1, bs_size, sbyte_bs]
  unfold readF
  by_cases h : c.id = true
  · rw [ctrueT h]
    by_cases h2 : at16 x < 2
    · rw [cpos h2, if_pos ⟨h, h2⟩]
      unfold f_maker makerF
      rw [bs_size]
      by_cases h3 : c.mem.length = 131072
      · rw [ceq (by omega), if_pos h3, cand hx.1 (by omega), bind_some']
        obtain h4 | h4 : at16 x = 0 ∨ at16 x = 1 := by omega
        · rw [h4]; rfl
        · rw [h4]; rfl
      · rw [cne (by omega), if_neg h3, cand hx.1 (by omega), bind_some']
        obtain h4 | h4 : at16 x = 0 ∨ at16 x = 1 := by omega
        · rw [h4]; rfl
        · rw [h4]; rfl
    · rw [cneg h2, if_neg (fun h => h2 h.2), cand p2 p3]; rfl
  · rw [ctrueF (by simpa using h), if_neg (fun h' => h h'.1), cand p2 p3]; rfl
theorem ffs_getD (n i : Nat) (h : i < n) : (ffs n).getD i 0 = 255 := by
  unfold ffs; simp [List.getD_eq_getElem?_getD, h]
theorem awake_eq : f_awake = some true := by
  unfold f_awake
  rw [show (65536 : Int) = ((65536 : Nat) : Int) from rfl, blank_eq _ (by decide), bind_some', new_eq _ (.inl (ffs_length _)), bind_some']
  have hl := ffs_length 65536
  have hg : ∀ i, i < 65536 → (ffs 65536).getD i 0 = 255 := fun i h => ffs_getD 65536 i h
  generalize ffs 65536 = m at *
  have ok : ∀ (s : Int), 0 ≤ s → s ≤ 7 → Ok ⟨m, s, false, 0⟩ := fun s h h' => ⟨.inl hl, .inl rfl, h, h'⟩
  have w1 : f_Write (bs m) 0 false 0 21845 170 = some (outW (noneR, ⟨m, 1, false, 0⟩)) := write_eq _ (ok 0 (by decide) (by decide)) 21845 170 (by decide) (by decide) (by decide) (by decide)
  have w2 : f_Write (bs m) 1 false 0 10922 85 = some (outW (noneR, ⟨m, 2, false, 0⟩)) := write_eq _ (ok 1 (by decide) (by decide)) 10922 85 (by decide) (by decide) (by decide) (by decide)
  have w3 : f_Write (bs m) 2 false 0 21845 160 = some (outW (noneR, ⟨m, 3, false, 0⟩)) := write_eq _ (ok 2 (by decide) (by decide)) 21845 160 (by decide) (by decide) (by decide) (by decide)
  have hp : putByte ⟨m, 3, false, 0⟩ 291 90 = [90] := by
    unfold putByte byteAt
    show [UInt8.ofNat (90 &&& ((m.getD 291 0).toNat : Int).toNat)] = [90]
    rw [hg 291 (by decide)]; rfl
  have hap : applyF m 1 291 [90] = (m.take 291 ++ [90] ++ m.drop 292, 0) := by
    unfold applyF
    rw [if_pos (by decide)]
    unfold applyT
    rw [if_neg (by decide), if_neg (by decide), if_neg (by rw [hl]; decide)]; rfl
  have hwf : writeF ⟨m, 3, false, 0⟩ 291 90 = (⟨1, 291, [90], true⟩, ⟨m.take 291 ++ [90] ++ m.drop 292, 0, false, 0⟩) := by
    show doneF ⟨m, 3, false, 0⟩ 1 291 (putByte ⟨m, 3, false, 0⟩ 291 90) = _
    rw [hp]; unfold doneF; rw [hap]
  have w4 : f_Write (bs m) 3 false 0 291 90 = some (outW (⟨1, 291, [90], true⟩, ⟨m.take 291 ++ [90] ++ m.drop 292, 0, false, 0⟩)) := by
    rw [← hwf]; exact write_eq _ (ok 3 (by decide) (by decide)) 291 90 (by decide) (by decide) (by decide) (by decide)
  have ok4 : Ok ⟨m.take 291 ++ [90] ++ m.drop 292, 0, false, 0⟩ := ⟨.inl (by simp; omega), .inl rfl, show (0 : Int) ≤ 0 by decide, show (0 : Int) ≤ 7 by decide⟩
  have r1 : f_Read (bs (m.take 291 ++ [90] ++ m.drop 292)) 0 false 0 291 = some (byteAt (m.take 291 ++ [90] ++ m.drop 292) 291) := read_eq _ ok4 291 (by decide) (by decide)
  have r2 : f_Read (bs (m.take 291 ++ [90] ++ m.drop 292)) 0 false 0 292 = some (byteAt (m.take 291 ++ [90] ++ m.drop 292) 292) := read_eq _ ok4 292 (by decide) (by decide)
  have ht : (m.take 291).length = 291 := by simp; omega
  have e1 : byteAt (m.take 291 ++ [90] ++ m.drop 292) 291 = 90 := by
    unfold byteAt
    show (((m.take 291 ++ [90] ++ m.drop 292).getD 291 0).toNat : Int) = 90
    rw [List.getD_eq_getElem?_getD, List.append_assoc, List.getElem?_append_right (by omega), ht]; rfl
  have e2 : byteAt (m.take 291 ++ [90] ++ m.drop 292) 292 = 255 := by
    unfold byteAt
    show (((m.take 291 ++ [90] ++ m.drop 292).getD 292 0).toNat : Int) = 255
    rw [List.getD_eq_getElem?_getD, List.getElem?_append_right (by simp; omega), List.getElem?_drop]
    have e : 292 + (292 - (m.take 291 ++ [90]).length) = 292 := by simp; omega
    rw [e, ← List.getD_eq_getElem?_getD, hg 292 (by decide)]; rfl
  show ((f_Write (bs m) 0 false 0 21845 170).bind _) = _
  rw [w1, bind_some']
  show ((f_Write (bs m) 1 false 0 10922 85).bind _) = _
  rw [w2, bind_some']
  show ((f_Write (bs m) 2 false 0 21845 160).bind _) = _
  rw [w3, bind_some']
  show ((f_Write (bs m) 3 false 0 291 90).bind _) = _
  rw [w4, bind_some']
  show ((f_Read (bs (m.take 291 ++ [90] ++ m.drop 292)) 0 false 0 291).bind _) = _
  rw [r1, bind_some', e1]
  show ((f_Read (bs (m.take 291 ++ [90] ++ m.drop 292)) 0 false 0 292).bind _) = _
  rw [r2, bind_some', e2]; rfl

/-! ### a list of bytes that are written -/
def sendF (l : List E33) (c : Chip) : Res × Chip := l.foldl (fun r p => writeF r.2 p.Addr p.Byte) (noneR, c)
theorem send_eq (l : List E33) (c : Chip) (hl : l.length ≤ 100) (hp : ∀ p ∈ l, (0 ≤ p.Addr ∧ p.Addr < 4294967296) ∧ 0 ≤ p.Byte ∧ p.Byte < 256) (ok : ∀ k, k ≤ l.length → Ok (sendF (l.take k) c).2) :
    f_send l (bs c.mem) c.state c.id c.bank = some (outW (sendF l c)) := by
  unfold f_send
  refine loopO_for (fun (k : Nat) => ((sendF (l.take k) c).1.ok, (k : Int), (sendF (l.take k) c).1.k, (sendF (l.take k) c).1.a, bs (sendF (l.take k) c).1.d, bs (sendF (l.take k) c).2.mem, (sendF (l.take k) c).2.state, (sendF (l.take k) c).2.id, (sendF (l.take k) c).2.bank)) l.length (fun i hi => ?_) ?_
  · show cond (decide ((i : Int) < ((l.length : Nat) : Int))) _ _ = _
    have hn : sendF (l.take (i + 1)) c = writeF (sendF (l.take i) c).2 l[i].Addr l[i].Byte := by
      unfold sendF; rw [List.take_succ_eq_append_getElem hi, List.foldl_append]; rfl
    obtain ⟨⟨a0, a1⟩, b0, b1⟩ := hp _ (List.getElem_mem hi)
    rw [cpos (by omega), cand (by omega) (by omega), ixL_nat hi, write_eq _ (ok i (by omega)) _ _ a0 a1 b0 b1, bind_some', wrap_i64 (by omega) (by omega), hn]
    rfl
  · show cond (decide ((l.length : Int) < ((l.length : Nat) : Int))) _ _ = _
    rw [cneg (by omega), List.take_of_length_le (by omega)]; rfl
abbrev opn : List E33 := [⟨21845, 170⟩, ⟨10922, 85⟩]
abbrev big (m : List UInt8) : Prop := m.length = 131072
theorem Ok_of {m : List UInt8} (h : big m) {s b : Int} {i : Bool} (hs : 0 ≤ s ∧ s ≤ 7) (hb : b = 0 ∨ b = 1) : Ok ⟨m, s, i, b⟩ := ⟨.inr h, hb.imp id fun h' => ⟨h', h⟩, hs⟩
theorem w0 (m : List UInt8) (b : Int) : writeF ⟨m, 0, false, b⟩ 21845 170 = (noneR, ⟨m, 1, false, b⟩) := by
  unfold writeF; rw [if_neg (by show ¬ (0 : Int) = 3; decide), if_neg (by show ¬ (0 : Int) = 4; decide), if_neg (by show ¬ (0 : Int) = 7; decide)]; rfl
theorem w1 (m : List UInt8) (b : Int) : writeF ⟨m, 1, false, b⟩ 10922 85 = (noneR, ⟨m, 2, false, b⟩) := by
  unfold writeF; rw [if_neg (by show ¬ (1 : Int) = 3; decide), if_neg (by show ¬ (1 : Int) = 4; decide), if_neg (by show ¬ (1 : Int) = 7; decide)]; rfl
theorem w2 (m : List UInt8) (b x : Int) (s : Int) (h : commandF false x = (s, false)) : writeF ⟨m, 2, false, b⟩ 21845 x = (noneR, ⟨m, s, false, b⟩) := by
  unfold writeF; rw [if_neg (by show ¬ (2 : Int) = 3; decide), if_neg (by show ¬ (2 : Int) = 4; decide), if_neg (by show ¬ (2 : Int) = 7; decide)]
  have : stepF 2 false (at16 21845) x = commandF false x := by unfold stepF; rw [if_neg (by omega), if_neg (by omega), if_pos ⟨rfl, by decide⟩]
  show (noneR, _) = _
  rw [this, h]
theorem w5 (m : List UInt8) (b : Int) : writeF ⟨m, 5, false, b⟩ 21845 170 = (noneR, ⟨m, 6, false, b⟩) := by
  unfold writeF; rw [if_neg (by show ¬ (5 : Int) = 3; decide), if_neg (by show ¬ (5 : Int) = 4; decide), if_neg (by show ¬ (5 : Int) = 7; decide)]; rfl
theorem w6 (m : List UInt8) (b : Int) : writeF ⟨m, 6, false, b⟩ 10922 85 = (noneR, ⟨m, 7, false, b⟩) := by
  unfold writeF; rw [if_neg (by show ¬ (6 : Int) = 3; decide), if_neg (by show ¬ (6 : Int) = 4; decide), if_neg (by show ¬ (6 : Int) = 7; decide)]; rfl
theorem send_sw (m : List UInt8) (hm : big m) (x : Int) : sendF (opn ++ [⟨21845, 176⟩, ⟨0, x⟩]) ⟨m, 0, false, 0⟩ = (noneR, ⟨m, 0, false, x % 2⟩) := by
  unfold sendF
  simp only [opn, List.cons_append, List.nil_append, List.foldl_cons, List.foldl_nil]
  rw [w0, w1, w2 m 0 176 4 rfl]
  unfold writeF
  rw [if_neg (by show ¬ (4 : Int) = 3; decide), if_pos rfl]
  show (noneR, (⟨m, 0, false, if at16 0 = 0 ∧ m.length = 131072 then x % 2 else 0⟩ : Chip)) = _
  rw [if_pos ⟨by decide, hm⟩]
def spot (b x : Int) : Nat := (b * 65536 + at16 x).toNat
def prog1 (m : List UInt8) (b x y : Int) : List UInt8 := m.take (spot b x) ++ [UInt8.ofNat (y.toNat &&& (byteAt m (b * 65536 + at16 x)).toNat)] ++ m.drop (spot b x + 1)
theorem spot_lt {b x : Int} (hb : b = 0 ∨ b = 1) : spot b x < 131072 ∧ 0 ≤ b * 65536 + at16 x := by
  have := at16_bd x
  unfold spot; rcases hb with rfl | rfl <;> omega
theorem prog1_len {m : List UInt8} (hm : big m) {b x y : Int} (hb : b = 0 ∨ b = 1) : big (prog1 m b x y) := by
  have := (spot_lt (x := x) hb).1
  have h : m.length = 131072 := hm
  show (prog1 m b x y).length = 131072
  unfold prog1; simp; omega
theorem send_put (m : List UInt8) (hm : big m) (b x y : Int) (hb : b = 0 ∨ b = 1) :
    sendF (opn ++ [⟨21845, 160⟩, ⟨x, y⟩]) ⟨m, 0, false, b⟩ = (⟨1, b * 65536 + at16 x, [UInt8.ofNat (y.toNat &&& (byteAt m (b * 65536 + at16 x)).toNat)], true⟩, ⟨prog1 m b x y, 0, false, b⟩) := by
  unfold sendF
  simp only [opn, List.cons_append, List.nil_append, List.foldl_cons, List.foldl_nil]
  rw [w0, w1, w2 m b 160 3 rfl]
  obtain ⟨h1, h2⟩ := spot_lt (x := x) hb
  have h : m.length = 131072 := hm
  unfold writeF
  rw [if_pos rfl]
  unfold doneF putByte
  have hap : ∀ v : UInt8, applyF m 1 (b * 65536 + at16 x) [v] = (m.take (spot b x) ++ [v] ++ m.drop (spot b x + 1), 0) := fun v => by
    unfold applyF
    have ho : okF 1 (b * 65536 + at16 x) [v] = true := by
      unfold okF; rw [if_pos rfl]; unfold spot at h1; simp; omega
    rw [if_pos ho]
    unfold applyT
    rw [if_neg (by decide), if_neg (by decide), if_neg (by unfold spot at h1; simp; omega)]; rfl
  show (_, (⟨(applyF m 1 (b * 65536 + at16 x) _).1, 0, false, b⟩ : Chip)) = _
  rw [hap]; rfl
def era (b x : Int) : Nat := (b * 65536 + at16 x / 4096 * 4096).toNat
def erase1 (m : List UInt8) (b x : Int) : List UInt8 := m.take (era b x) ++ ffs 4096 ++ m.drop (era b x + 4096)
theorem era_lt {b x : Int} (hb : b = 0 ∨ b = 1) : era b x + 4096 ≤ 131072 ∧ 0 ≤ b * 65536 + at16 x / 4096 * 4096 ∧ (b * 65536 + at16 x / 4096 * 4096) % 4096 = 0 := by
  have := at16_bd x
  unfold era; rcases hb with rfl | rfl <;> omega
theorem send_era (m : List UInt8) (hm : big m) (b x : Int) (hb : b = 0 ∨ b = 1) :
    sendF (opn ++ [⟨21845, 128⟩, ⟨21845, 170⟩, ⟨10922, 85⟩, ⟨x, 48⟩]) ⟨m, 0, false, b⟩ = (⟨2, b * 65536 + at16 x / 4096 * 4096, [], true⟩, ⟨erase1 m b x, 0, false, b⟩) := by
  unfold sendF
  simp only [opn, List.cons_append, List.nil_append, List.foldl_cons, List.foldl_nil]
  rw [w0, w1, w2 m b 128 5 rfl, w5, w6]
  obtain ⟨h1, h2, h3⟩ := era_lt (x := x) hb
  have h : m.length = 131072 := hm
  unfold writeF
  rw [if_neg (by show ¬ (7 : Int) = 3; decide), if_neg (by show ¬ (7 : Int) = 4; decide), if_pos rfl, if_neg (by omega), if_pos rfl]
  unfold doneF
  have hap : applyF m 2 (b * 65536 + at16 x / 4096 * 4096) [] = (erase1 m b x, 0) := by
    unfold applyF
    have ho : okF 2 (b * 65536 + at16 x / 4096 * 4096) [] = true := by
      unfold okF; rw [if_neg (by decide), if_pos rfl, tmod_nn h2, h3]; unfold era at h1; simp; omega
    rw [if_pos ho]
    unfold applyT
    rw [if_pos rfl, if_neg (by unfold era at h1; omega)]; rfl
  show (_, (⟨(applyF m 2 (b * 65536 + at16 x / 4096 * 4096) []).1, 0, false, b⟩ : Chip)) = _
  rw [hap]
end Go.Proofs.Ytjkcpckjaoehkaa
