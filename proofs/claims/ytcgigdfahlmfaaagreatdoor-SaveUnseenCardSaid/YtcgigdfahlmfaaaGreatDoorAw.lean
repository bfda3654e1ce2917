/-
  awake: an EEPROM's unit, written bit by bit, synced.
-/
import Derived.Test.YtcgigdfahlmfaaaGreatDoorEep
import Derived.Laws.RangeString
namespace Go.Proofs.YtcgigdfahlmfaaaGreatDoor
open Go.Vc
set_option linter.unusedVariables false
set_option linter.unusedSimpArgs false
theorem New_h {L : Nat} (h0 : 1 ≤ L) (h1 : L ≤ 8192) : f_New (L : Int) = some (.inl (List.replicate L Z, List.replicate L Z, [])) := New_eq (by omega) (by omega)
theorem zeros_full (L : Nat) : Full (List.replicate L Z) := fun s hs => by rw [(List.mem_replicate.1 hs).2]; exact Z_size
theorem JSync_h {F S : List ByteArray} {W : List E115} (h : Good F S W) (hl : W.length ≤ 2000000) {a b c d e : Int} {o : Bool} : f_JSync a b c d e o F S W [] (-1) false = some (0, -1, false, S, []) := by
  unfold f_JSync
  rw [Sync_h h hl, bind_some']
theorem Crash_h {S : List ByteArray} (h : Full S) (hl : S.length ≤ 8192) : f_Crash S S [] [] (-1) false [] = some (S, S, []) := by
  rw [Crash_eq S S [] [] (-1) false [] (by decide) h (fun w hw => by simp at hw) hl]; rfl
theorem Blank_eq (n : Nat) (h : n ≤ 131072) : f_Blank (n : Int) = some (bs (ffs n)) := by
  unfold f_Blank
  have e : (if (if (131072 : Int) < (n : Int) then 131072 else (n : Int)) > 0 then (if (131072 : Int) < (n : Int) then 131072 else (n : Int)) else 0) = (n : Int) := by
    rw [if_neg (show ¬ (131072 : Int) < (n : Int) by omega)]
    split <;> omega
  rw [e, repeat_ff (n : Int) (by omega) (by omega), bind_some', Int.toNat_natCast]
theorem bs_nil_beq (m : List UInt8) : ((bs m).toList == (ByteArray.mk #[]).toList) = decide (m = []) := beq_bs m []
theorem ENew_512 (m : List UInt8) (hm : m.length = 512) : f_ENew (bs m) = some (.inl (bs m, 6)) := by
  unfold f_ENew
  rw [bs_size, hm, ceq (by omega)]
theorem BNew_E (m : List UInt8) (hm : m.length = 512) : f_BNew 4 (bs m) = some (.inr (.inr (.inl (4, bs m, 6)))) := by
  unfold f_BNew
  rw [show f_Size 4 = some (512, 0) from rfl, bind_some']
  dsimp only
  rw [cbeq rfl, bs_nil_beq, cneg (by intro h; rw [h] at hm; cases hm), bind_some']
  show cond (((bs m).size : Int) != 512) _ _ = _
  rw [bs_size, hm, cbeq (by omega), ENew_512 m hm]
  rfl
theorem BNew_E0 : f_BNew 4 (ByteArray.mk #[]) = some (.inr (.inr (.inl (4, bs (ffs 512), 6)))) := by
  unfold f_BNew
  rw [show f_Size 4 = some (512, 0) from rfl, bind_some']
  dsimp only
  rw [cbeq rfl, show ((ByteArray.mk #[]).toList == (ByteArray.mk #[]).toList) = true from (bs_nil_beq []).trans (by simp), show f_Blank 512 = some (bs (ffs 512)) from Blank_eq 512 (by decide), bind_some']
  show Option.bind (some (bs (ffs 512))) _ = _
  rw [bind_some']
  show cond (((bs (ffs 512)).size : Int) != 512) _ _ = _
  rw [bs_size, ffs_length, cbeq (by omega), ENew_512 (ffs 512) (ffs_length 512)]
  rfl
theorem disked_h : f_disked 4 4 = some (.inr (true, List.replicate 22 Z, List.replicate 22 Z, [])) := by
  unfold f_disked
  rw [show f_Size 4 = some (512, 0) from rfl, bind_some']
  dsimp only
  rw [show f_Sectors 512 4 = some (((2 + 2 * 8 + 4 : Nat) : Int), 0) from Sectors_h (n := 8) (slots := 4) (by decide) (by decide) (by decide) (by decide), bind_some']
  dsimp only
  rw [show f_New ((2 + 2 * 8 + 4 : Nat) : Int) = _ from New_h (L := 22) (by decide) (by decide), bind_some']
  rfl
def S0 : List ByteArray := fmt (List.replicate 22 Z) 8 4 (ffs 512)
theorem S0_JS : JS S0 8 4 1 0 (ffs 512) [] := fmt_JS (zeros_full 22) (by simp) (by decide) (by decide) (by decide) (by decide) (ffs_length 512)
theorem Attach_h : f_AttachE 4 0 0 0 (bs (ffs 512)) [] [] 6 (List.replicate 22 Z) (List.replicate 22 Z) [] [] (-1) false 4 = some (.inr (-1, false, 512, 4, S0, S0, [])) := by
  unfold f_AttachE
  rw [cne (by decide), show f_BImageE 4 0 0 0 (bs (ffs 512)) [] [] 6 = some (bs (ffs 512)) from rfl, bind_some', show f_Format (List.replicate 22 Z) (List.replicate 22 Z) [] [] (-1) false (bs (ffs 512)) 4 = _ from Format_h (n := 8) (slots := 4) (Good.self (zeros_full 22)) (by simp) (by simp) (by decide) (by decide) (by decide) (by decide) (ffs_length 512), bind_some']
  rfl
def TB : ByteArray := ByteArray.mk #[49, 48, 48, 48, 48, 48, 48, 49, 48, 48, 48, 48, 48, 48, 48, 49, 48, 48, 48, 48, 48, 48, 49, 48, 48, 48, 48, 48, 48, 48, 48, 48, 48, 48, 48, 48, 48, 48, 48, 48, 48, 48, 48, 48, 48, 48, 48, 48, 48, 48, 48, 48, 48, 48, 48, 48, 48, 48, 48, 48, 48, 48, 48, 48, 48, 48, 48, 48, 48, 48, 48, 48, 48]
def TL : List Int := [1, 0, 0, 0, 0, 0, 0, 1, 0, 0, 0, 0, 0, 0, 0, 1, 0, 0, 0, 0, 0, 0, 1, 0, 0, 0, 0, 0, 0, 0, 0, 0, 0, 0, 0, 0, 0, 0, 0, 0, 0, 0, 0, 0, 0, 0, 0, 0, 0, 0, 0, 0, 0, 0, 0, 0, 0, 0, 0, 0, 0, 0, 0, 0, 0, 0, 0, 0, 0, 0, 0, 0, 0]
theorem TB_size : TB.size = 73 := rfl
theorem TL_len : TL.length = 73 := rfl
set_option maxRecDepth 100000 in
theorem TB_dec (i : Nat) (h : i < 73) : Utf8.decode TB i = (48 + (TL.getD i 0).toNat, 1) := by
  have key : ∀ j : Fin 73, Utf8.decode TB j.val = (48 + (TL.getD j.val 0).toNat, 1) := by decide
  exact key ⟨i, h⟩
theorem TL_bits : Bits TL := by unfold Bits TL; decide
set_option maxRecDepth 100000 in
theorem TL_at (i : Nat) (h : i < 73) : (IntKind.wrap .u8 (((48 + (TL.getD i 0).toNat : Nat) : Nat) : Int)) = 48 + TL.getD i 0 ∧ (48 + TL.getD i 0) % 2 = TL.getD i 0 := by
  have key : ∀ j : Fin 73, (IntKind.wrap .u8 (((48 + (TL.getD j.val 0).toNat : Nat) : Nat) : Int)) = 48 + TL.getD j.val 0 ∧ (48 + TL.getD j.val 0) % 2 = TL.getD j.val 0 := by decide
  exact key ⟨i, h⟩
theorem Take_wait (c : Chip) (ok : Ok c.mem c.wide) (hb : Bits c.inn) (hn : c.inn.length < 67 + c.wide) (b : Int) (b0 : 0 ≤ b) (b1 : b < 256) {c' : Chip} (hw : ewriteF c b = (noneR, c')) (hwide : c'.wide = c.wide) {kind err n sure size slots base next area fu : Int} {old dn : Bool} {F S : List ByteArray} {W : List E115} {B : List (Int × Bool)} :
    f_BTakeE1 kind err n sure (bs c.mem) c.inn c.out c.wide size slots base next area old F S W B fu dn b = some (err, n, sure, bs c'.mem, base, next, area, old, fu, dn, c'.inn, c'.out, F, S, W) := by
  unfold f_BTakeE1
  rw [write_eq c ok hb hn b b0 b1, bind_some', hw]
  rfl
def chipAt (i : Nat) : Chip := ⟨ffs 512, TL.take i, [], 6⟩
theorem take_snoc (i : Nat) (h : i < 73) : TL.take i ++ [(48 + TL.getD i 0) % 2] = TL.take (i + 1) := by
  rw [(TL_at i h).2, List.take_succ_eq_append_getElem (by rw [TL_len]; exact h)]
  congr 2
  rw [List.getD_eq_getElem?_getD, List.getElem?_eq_getElem (by rw [TL_len]; exact h)]; rfl
theorem chip_ok (i : Nat) : Ok (chipAt i).mem (chipAt i).wide := ⟨.inl ⟨ffs_length 512, rfl⟩⟩
theorem take_len (i : Nat) (h : i ≤ 73) : (TL.take i).length = i := by rw [List.length_take, TL_len]; omega
theorem take_get0 (i : Nat) (h : 1 ≤ i) : (TL.take i).getD 0 0 = 1 := by
  obtain ⟨j, rfl⟩ : ∃ j, i = j + 1 := ⟨i - 1, by omega⟩
  rfl
theorem take_get1 (i : Nat) (h : 2 ≤ i) : (TL.take i).getD 1 0 = 0 := by
  obtain ⟨j, rfl⟩ : ∃ j, i = j + 2 := ⟨i - 2, by omega⟩
  rfl
theorem ewriteF_more {c : Chip} {b : Int} {l : List Int} (hl : c.inn ++ [b % 2] = l) (h0 : l.getD 0 0 = 1) (h1 : (l.length : Int) < 2 ∨ (l.length : Int) < 3 + c.wide) : ewriteF c b = (noneR, ⟨c.mem, l, c.out, c.wide⟩) := by
  subst hl; unfold ewriteF; simp only; rw [if_neg (by rw [h0]; decide), if_pos h1]
theorem ewriteF_wait {c : Chip} {b : Int} {l : List Int} (hl : c.inn ++ [b % 2] = l) (h0 : l.getD 0 0 = 1) (h1 : ¬ ((l.length : Int) < 2 ∨ (l.length : Int) < 3 + c.wide)) (h2 : l.getD 1 0 = 0) (h3 : (l.length : Int) ≠ 67 + c.wide) :
    ewriteF c b = (noneR, ⟨c.mem, l, c.out, c.wide⟩) := by
  subst hl; unfold ewriteF; simp only; rw [if_neg (by rw [h0]; decide), if_neg h1, if_neg (by rw [h2]; decide), if_neg h3]
theorem ewriteF_put {c : Chip} {b : Int} {l : List Int} (hl : c.inn ++ [b % 2] = l) (h0 : l.getD 0 0 = 1) (h1 : ¬ ((l.length : Int) < 2 ∨ (l.length : Int) < 3 + c.wide)) (h2 : l.getD 1 0 = 0) (h3 : (l.length : Int) = 67 + c.wide) :
    ewriteF c b = (⟨1, 8 * unitF c.mem l c.wide, dataF ((l.drop (2 + c.wide.toNat)).take 64), true⟩, ⟨(applyF c.mem 1 (8 * unitF c.mem l c.wide) (dataF ((l.drop (2 + c.wide.toNat)).take 64))).1, [], [], c.wide⟩) := by
  subst hl; unfold ewriteF; simp only; rw [if_neg (by rw [h0]; decide), if_neg h1, if_neg (by rw [h2]; decide), if_pos h3]
theorem step_wait (i : Nat) (h : i < 72) : ewriteF (chipAt i) (48 + TL.getD i 0) = (noneR, chipAt (i + 1)) := by
  have hs : (chipAt i).inn ++ [(48 + TL.getD i 0) % 2] = TL.take (i + 1) := take_snoc i (by omega)
  have hl := take_len (i + 1) (by omega)
  have hw : (chipAt i).wide = 6 := rfl
  by_cases h1 : i + 1 < 9
  · exact ewriteF_more hs (take_get0 (i + 1) (by omega)) (by rw [hl, hw]; omega)
  · exact ewriteF_wait hs (take_get0 (i + 1) (by omega)) (by rw [hl, hw]; omega) (take_get1 (i + 1) (by omega)) (by rw [hl, hw]; omega)
def datA : List UInt8 := [1, 2, 0, 0, 0, 0, 0, 0]
theorem step_put : ewriteF (chipAt 72) (48 + TL.getD 72 0) = (⟨1, 8, datA, true⟩, ⟨(applyF (ffs 512) 1 8 datA).1, [], [], 6⟩) := by
  have hs := take_snoc 72 (by omega)
  have hT : TL.take (72 + 1) = TL := List.take_of_length_le (by rw [TL_len]; decide)
  rw [hT] at hs
  have hu : unitF (ffs 512) TL 6 = 1 := by unfold unitF; rw [ffs_length]; decide
  have hd : dataF ((TL.drop (2 + (6 : Int).toNat)).take 64) = datA := by decide
  have hs' : (chipAt 72).inn ++ [(48 + TL.getD 72 0) % 2] = TL := hs
  have hw : (chipAt 72).wide = 6 := rfl
  have hm : (chipAt 72).mem = ffs 512 := rfl
  rw [ewriteF_put hs' (by decide) (by rw [TL_len, hw]; decide) (by decide) (by rw [TL_len, hw]; decide), hw, hm, hu, hd]
  rfl
set_option maxRecDepth 100000 in
theorem TL_bd (i : Nat) (h : i < 73) : 0 ≤ 48 + TL.getD i 0 ∧ 48 + TL.getD i 0 < 256 := by
  have key : ∀ j : Fin 73, 0 ≤ 48 + TL.getD j.val 0 ∧ 48 + TL.getD j.val 0 < 256 := by decide
  exact key ⟨i, h⟩
theorem loop_reach {σ ρ : Type} {f : σ → Option (σ ⊕ ρ)} (S : Nat → σ) : ∀ n, (∀ i, i < n → f (S i) = some (.inl (S (i + 1)))) → loopO f (S 0) = loopO f (S n)
  | 0, _ => rfl
  | n + 1, h => by
    rw [loop_reach S n fun i hi => h i (by omega), loopO_eq f (S n), h n (by omega), bind_some']
def memA : List UInt8 := (applyF (ffs 512) 1 8 datA).1
theorem appA : applyF (ffs 512) 1 8 datA = ((ffs 512).take 8 ++ datA ++ (ffs 512).drop 16, 0) := by
  unfold applyF applyT
  rw [if_pos (by decide), if_neg (by decide), if_neg (by decide), if_neg (by rw [ffs_length]; decide)]
  rfl
theorem memA_eq : memA = (ffs 512).take 8 ++ datA ++ (ffs 512).drop 16 := by unfold memA; rw [appA]
theorem memA_len : memA.length = 512 := by rw [memA_eq]; simp [ffs_length, datA]
theorem cut_A : ((bs memA).extract 8 10).toList == (ByteArray.mk #[1, 2]).toList := by
  rw [bs_extract, show (ByteArray.mk #[1, 2]) = bs [1, 2] from rfl, beq_bs, memA_eq]
  have e : (ffs 512).take 8 = ffs 8 := by unfold ffs; rw [List.take_replicate]; rfl
  rw [e, List.append_assoc, List.drop_append_of_le_length (by rw [ffs_length]; decide), List.drop_of_length_le (by rw [ffs_length]; decide)]
  simp [datA]
theorem Sync_A {F S' : List ByteArray} {W' : List E115} (h : Good F S' W') (hl : W'.length ≤ 2000000) : f_BSyncE1 4 0 1 0 (bs memA) [] [] 6 512 4 1 2 0 false F S' W' [] (-1) false = some (0, 0, 1, -1, false, S', []) := by
  unfold f_BSyncE1
  rw [cbeq rfl, JSync_h h hl, bind_some']
  rfl
def cmdA : E59 := ⟨1, 8, bs datA⟩
theorem cmdA_ok : okE cmdA = true := by decide
set_option maxRecDepth 100000 in
theorem Take_put {S' : List ByteArray} {W' : List E115} (ha : f_Append ((64 * 8 : Nat) : Int) ((4 : Nat) : Int) ((1 : Nat) : Int) ((1 + ([] : List E59).length : Nat) : Int) ((0 : Nat) : Int) false S0 S0 [] [] (-1) false cmdA.Kind cmdA.Addr cmdA.Data = some (0, ((1 + ([] : List E59).length + 1 : Nat) : Int), -1, false, S', W')) :
    f_BTakeE1 4 0 0 0 (bs (ffs 512)) (TL.take 72) [] 6 512 4 1 1 0 false S0 S0 [] [] (-1) false (48 + TL.getD 72 0) = some (0, 1, 0, bs memA, 1, 2, 0, false, -1, false, [], [], S0, S', W') := by
  unfold f_BTakeE1
  have hw := write_eq (chipAt 72) (chip_ok 72) (TL_bits.take 72) (by rw [show (chipAt 72).inn.length = 72 from take_len 72 (by decide)]; decide) (48 + TL.getD 72 0) (by decide) (by decide)
  rw [show f_EWrite (bs (ffs 512)) (TL.take 72) [] 6 (48 + TL.getD 72 0) = _ from hw, step_put, bind_some']
  show Option.bind (f_BNoteE1 4 0 0 0 (bs memA) [] [] 6 512 4 1 1 0 false S0 S0 [] [] (-1) false 1 8 (bs datA)) _ = _
  have hn : f_BNoteE1 4 0 0 0 (bs memA) [] [] 6 512 4 1 1 0 false S0 S0 [] [] (-1) false 1 8 (bs datA) = some (0, 1, 0, 1, 2, 0, false, -1, false, S0, S', W') := by
    unfold f_BNoteE1
    rw [cbeq rfl, show f_Left 512 4 1 1 0 false S0 S0 [] [] (-1) false = some ((4 - 0 : Nat) : Int) from Left_h (slots := 4) (b := 1) (k := 0) (by decide) (by decide) (by decide), bind_some', cne (by decide), show f_Append 512 4 1 1 0 false S0 S0 [] [] (-1) false 1 8 (bs datA) = _ from ha, bind_some']
    rfl
  rw [hn, bind_some']
  rfl
set_option maxRecDepth 100000 in
theorem Recover_A {S' : List ByteArray} (hj : JS S' 8 4 1 0 (ffs 512) [cmdA]) : ∃ T : List ByteArray, f_Recover S' S' [] [] (-1) false 4 4 = some (.inr (.inr (.inl (-1, false, 4, bs memA, 6, 512, 4, 6, 6, 1, false, T, T, [])))) := by
  refine ⟨chk2 S' 8 (2 + 4) 0 memA, ?_⟩
  unfold f_Recover
  rw [show f_Size 4 = some (512, 0) from rfl, bind_some']
  dsimp only
  rw [cbeq rfl, cne (by decide), show f_JOpen S' S' [] [] (-1) false 512 4 = _ from JOpen_h hj, bind_some']
  show loopO _ (bs (ffs 512), 0) = _
  rw [loopO_eq]
  show Option.bind (cond (decide ((0 : Int) < ((([cmdA] : List E59).length : Nat) : Int))) (cond (decide (0 ≤ (0 : Int)) && decide ((0 : Int) < ((([cmdA] : List E59).length : Nat) : Int))) (Option.bind (f_sApply (bs (ffs 512)) 1 8 (bs datA)) _) none) _) _ = _
  rw [cpos (by decide), cand (by decide) (by decide), sApply_eq (ffs 512) (by rw [ffs_length]; decide), appA, bind_some']
  show Option.bind (cond ((0 : Int) != 0) _ _) _ = _
  rw [cbeq rfl, ← memA_eq, bind_some']
  show loopO _ (bs memA, IntKind.wrap .i64 (0 + 1)) = _
  rw [loopO_eq]
  show Option.bind (cond (decide (IntKind.wrap .i64 (0 + 1) < ((([cmdA] : List E59).length : Nat) : Int))) _ (Option.bind (f_Check _ _ _ _ _ _ _ _ _ _ _ _ _) _)) _ = _
  rw [cneg (by decide), show f_Check ((64 * 8 : Nat) : Int) ((4 : Nat) : Int) ((1 : Nat) : Int) ((1 + ([cmdA] : List E59).length : Nat) : Int) ((0 : Nat) : Int) true S' S' [] [] (-1) false (bs memA) = _ from Check_h (nx := 2) (m := memA) hj (Good.self hj.full) (by simp) memA_len (by decide) (by decide), bind_some']
  show Option.bind (cond ((0 : Int) != 0) _ (Option.bind (f_BNew 4 (bs memA)) _)) _ = _
  rw [cbeq rfl, BNew_E memA memA_len, bind_some']
  rfl
set_option maxRecDepth 100000 in
theorem awake_eq : f_awake = some true := by
  unfold f_awake
  rw [BNew_E0, bind_some']
  dsimp only
  rw [disked_h, bind_some']
  dsimp only
  rw [Attach_h, bind_some']
  dsimp only
  obtain ⟨S', W', a1, a2, a3, a4⟩ := Append_h S0_JS (Good.self S0_JS.full) (by simp) cmdA cmdA_ok (by decide)
  refine (loop_reach (fun i => ((0 : Int), (0 : Int), (0 : Int), bs (ffs 512), (-1 : Int), false, (1 : Int), (1 : Int), (0 : Int), false, TL.take i, ([] : List Int), S0, S0, ([] : List E115), i)) 72 (fun i hi => ?_)).trans ?_
  · show cond (decide (i < TB.size)) (Option.bind (f_BTakeE1 4 0 0 0 (bs (ffs 512)) (TL.take i) [] 6 512 4 1 1 0 false S0 S0 [] [] (-1) false (IntKind.wrap .u8 (((Utf8.decode TB i).1 : Nat) : Int))) _) _ = some (Sum.inl (_, _, _, _, _, _, _, _, _, _, _, _, _, _, _, i + 1))
    have hb := TL_bd i (by omega)
    rw [TB_size, cpos (by omega), TB_dec i (by omega)]
    show Option.bind (f_BTakeE1 4 0 0 0 (bs (ffs 512)) (TL.take i) [] 6 512 4 1 1 0 false S0 S0 [] [] (-1) false (IntKind.wrap .u8 (((48 + (TL.getD i 0).toNat : Nat) : Nat) : Int))) _ = _
    rw [(TL_at i (by omega)).1, show f_BTakeE1 4 0 0 0 (bs (ffs 512)) (TL.take i) [] 6 512 4 1 1 0 false S0 S0 [] [] (-1) false (48 + TL.getD i 0) = _ from Take_wait (chipAt i) (chip_ok i) (TL_bits.take i) (by rw [show (chipAt i).inn.length = i from take_len i (by omega)]; show (i : Int) < 67 + 6; omega) (48 + TL.getD i 0) hb.1 hb.2 (step_wait i hi) rfl, bind_some']
    show some (Sum.inl ((0 : Int), (0 : Int), (0 : Int), bs (ffs 512), (-1 : Int), false, (1 : Int), (1 : Int), (0 : Int), false, TL.take (i + 1), ([] : List Int), S0, S0, ([] : List E115), i + (Utf8.decode TB i).2)) = _
    rw [TB_dec i (by omega)]
  · rw [loopO_eq]
    show Option.bind (cond (decide (72 < TB.size)) (Option.bind (f_BTakeE1 4 0 0 0 (bs (ffs 512)) (TL.take 72) [] 6 512 4 1 1 0 false S0 S0 [] [] (-1) false (IntKind.wrap .u8 (((Utf8.decode TB 72).1 : Nat) : Int))) _) _) _ = _
    rw [TB_size, cpos (by decide), TB_dec 72 (by decide)]
    show Option.bind (Option.bind (f_BTakeE1 4 0 0 0 (bs (ffs 512)) (TL.take 72) [] 6 512 4 1 1 0 false S0 S0 [] [] (-1) false (IntKind.wrap .u8 (((48 + (TL.getD 72 0).toNat : Nat) : Nat) : Int))) _) _ = _
    rw [(TL_at 72 (by decide)).1, Take_put a1, bind_some', bind_some']
    show loopO _ ((0 : Int), (1 : Int), (0 : Int), bs memA, (-1 : Int), false, (1 : Int), (2 : Int), (0 : Int), false, ([] : List Int), ([] : List Int), S0, S', W', 73) = _
    rw [loopO_eq]
    show Option.bind (cond (decide (73 < TB.size)) _ (Option.bind (f_BCountN 4 0 1 0) _)) _ = _
    rw [TB_size, cneg (by decide), show f_BCountN 4 0 1 0 = some (1, 0) from rfl, bind_some']
    show Option.bind (Option.bind (f_BSyncE1 4 0 1 0 (bs memA) [] [] 6 512 4 1 2 0 false S0 S' W' [] (-1) false) _) _ = _
    rw [Sync_A a3 (by rw [a4]; decide), bind_some']
    show Option.bind (Option.bind (f_Crash S' S' [] [] (-1) false []) _) _ = _
    rw [Crash_h a2.full (by rw [a2.len]; decide), bind_some']
    obtain ⟨T, hT⟩ := Recover_A a2
    show Option.bind (Option.bind (f_Recover S' S' [] [] (-1) false 4 4) _) _ = _
    rw [hT, bind_some']
    show Option.bind (cond true (cond ((0 : Int) == 0) (cond ((1 : Int) == 1) (Option.bind (f_BImageE 4 0 0 0 (bs memA) [] [] 6) _) _) _) _) _ = _
    rw [ctrue rfl, ceq rfl, ceq rfl, show f_BImageE 4 0 0 0 (bs memA) [] [] 6 = some (bs memA) from rfl, bind_some']
    show Option.bind (cond (decide (0 ≤ (10 : Int)) && decide ((10 : Int) ≤ ((bs memA).size : Int))) (cond (decide (0 ≤ (8 : Int)) && decide ((8 : Int) ≤ (10 : Int))) (Let (((bs memA).extract 8 10).toList == (ByteArray.mk #[1, 2]).toList) _) none) none) _ = _
    rw [cand (by decide) (by rw [bs_size, memA_len]; decide), cand (by decide) (by decide), Let_eq, cut_A]
    rfl
end Go.Proofs.YtcgigdfahlmfaaaGreatDoor
