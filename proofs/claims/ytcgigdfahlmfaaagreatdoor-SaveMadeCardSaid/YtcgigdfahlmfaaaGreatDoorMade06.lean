/-
  SaveMade.
-/
import Derived.Test.YtcgigdfahlmfaaaGreatDoorAw
namespace Go.Proofs.YtcgigdfahlmfaaaGreatDoor
open Go.Vc
set_option linter.unusedVariables false
set_option linter.unusedSimpArgs false

theorem ffs_ne {n : Nat} (h : n ≠ 0) : ¬ ffs n = [] := fun e => by
  have := ffs_length n
  rw [e] at this
  exact h this.symm
theorem rBlank_eq (n : Nat) (h : n ≤ 140000) : f_rBlank (n : Int) = some (bs (ffs n)) := by
  unfold f_rBlank
  rw [cand3 (by omega) (by omega) (by omega)]
  have hl : (List.replicate ((n : Int)).toNat (0 : Int)).length = n := by simp
  refine loopO_inv (fun (d : Nat) (st : Int × List Int) => ∃ i : Nat, st = ((i : Int), List.replicate i 255 ++ List.replicate (n - i) 0) ∧ d = n - i ∧ i ≤ n) ?_ n _ ⟨0, by simp, rfl, by omega⟩
  rintro d st ⟨i, rfl, rfl, hi⟩
  by_cases hc : i < n
  · left
    refine ⟨(((i + 1 : Nat) : Int), List.replicate (i + 1) 255 ++ List.replicate (n - (i + 1)) 0), n - (i + 1), ?_, by omega, i + 1, rfl, rfl, by omega⟩
    show cond (decide ((i : Int) < (n : Int))) (cond (decide (0 ≤ (i : Int)) && decide ((i : Int) < ((((List.replicate ((n : Int)).toNat (0 : Int)).length) : Nat) : Int))) (some (Sum.inl (IntKind.wrap .i64 ((i : Int) + 1), (List.replicate i (255 : Int) ++ List.replicate (n - i) 0).set ((i : Int)).toNat 255))) none) _ = _
    rw [hl, cpos (by omega), cand (by omega) (by omega), wrap_i64 (by omega) (by omega), Int.toNat_natCast, List.set_append_right _ _ (by simp)]
    rw [List.length_replicate, Nat.sub_self, show n - i = (n - (i + 1)) + 1 by omega, List.replicate_succ, List.set_cons_zero, List.replicate_succ' (n := i), List.append_assoc]
    rfl
  · right
    have he : i = n := by omega
    subst he
    show cond (decide ((i : Int) < (i : Int))) _ (cond (bytesIn (List.replicate i (255 : Int) ++ List.replicate (i - i) 0)) (some (Sum.inr (strOf (List.replicate i (255 : Int) ++ List.replicate (i - i) 0)))) none) = _
    have e : List.replicate i (255 : Int) ++ List.replicate (i - i) 0 = (ffs i).map fun b => (b.toNat : Int) := by unfold ffs; simp
    rw [cneg (by omega), e, ctrue (bytesIn_map (ffs i)), strOf_map]
theorem pick_eq {n z : Nat} {zi : Int} (hzi : zi = (z : Int)) (h : n = 0 ∨ n = z) (hz : z ≤ 131072) : (cond ((bs (ffs n)).toList == (ByteArray.mk #[]).toList) ((f_Blank zi).bind fun (x20 : O_Blank) => (some x20)) (some (bs (ffs n))) : Option ByteArray) = some (bs (ffs z)) := by
  subst hzi
  rw [bs_nil_beq, Blank_eq z hz, bind_some']
  rcases h with rfl | rfl
  · rw [cpos (show ffs 0 = [] from rfl)]
  · by_cases h0 : n = 0
    · subst h0; rw [cpos (show ffs 0 = [] from rfl)]
    · rw [cneg (ffs_ne h0)]
theorem rpick_eq {n z : Nat} {zi : Int} (hzi : zi = (z : Int)) (h : n = 0 ∨ n = z) (hz : z ≤ 131072) : (cond ((bs (ffs n)).toList == (ByteArray.mk #[]).toList) ((f_rBlank zi).bind fun (x20 : O_rBlank) => (some x20)) (some (bs (ffs n))) : Option ByteArray) = some (bs (ffs z)) := by
  subst hzi
  rw [bs_nil_beq, rBlank_eq z (by omega), bind_some']
  rcases h with rfl | rfl
  · rw [cpos (show ffs 0 = [] from rfl)]
  · by_cases h0 : n = 0
    · subst h0; rw [cpos (show ffs 0 = [] from rfl)]
    · rw [cneg (ffs_ne h0)]
theorem nil_beq : ((ByteArray.mk #[]).toList == (ByteArray.mk #[]).toList) = true := (bs_nil_beq []).trans (by simp)
theorem FNew_ok {m : List UInt8} (h : m.length = 65536 ∨ m.length = 131072) : f_FNew (bs m) = some (.inl (bs m)) := by
  unfold f_FNew
  rw [bs_size]
  rcases h with h | h
  · rw [cbeq (by omega)]
  · rw [cbne (by omega), cbeq (by omega)]
theorem ENew_ok4 {m : List UInt8} (h : m.length = 512) : f_ENew (bs m) = some (.inl (bs m, 6)) := ENew_512 m h
theorem ENew_ok5 {m : List UInt8} (h : m.length = 8192) : f_ENew (bs m) = some (.inl (bs m, 14)) := by
  unfold f_ENew
  rw [bs_size, cne (by omega), ceq (by omega)]
theorem Sz0 : f_Size 0 = some (0, 0) := rfl
theorem rSz0 : f_rSize 0 = some (0, 0) := rfl
theorem BNew0 {n : Nat} (h : n = 0 ∨ n = 0) : f_BNew 0 (bs (ffs n)) = some (.inr (.inl 0)) := by
  unfold f_BNew
  rw [Sz0, bind_some']
  dsimp only
  rw [cbeq rfl, pick_eq (zi := 0) rfl h (by decide), bind_some']
  show cond (((bs (ffs 0)).size : Int) != 0) _ _ = _
  rw [bs_size, ffs_length, cbeq (by omega)]
  rfl
theorem rBNew0 {n : Nat} (h : n = 0 ∨ n = 0) : f_rBNew 0 (bs (ffs n)) = some (.inr (.inl (0, ByteArray.mk #[]))) := by
  unfold f_rBNew
  rw [rSz0, bind_some']
  dsimp only
  rw [cbeq rfl, rpick_eq (zi := 0) rfl h (by decide), bind_some']
  show cond (((bs (ffs 0)).size : Int) != 0) _ _ = _
  rw [bs_size, ffs_length, cbeq (by omega)]
  rfl
theorem BNewX0 {n : Nat} (h0 : n ≠ 0) (h : n ≠ 0) : f_BNew 0 (bs (ffs n)) = some (.inl 1) := by
  unfold f_BNew
  rw [Sz0, bind_some']
  dsimp only
  rw [cbeq rfl, bs_nil_beq, cneg (ffs_ne h0), bind_some']
  show cond (((bs (ffs n)).size : Int) != 0) _ _ = _
  rw [bs_size, ffs_length, cbne (by omega)]
theorem rBNewX0 {n : Nat} (h0 : n ≠ 0) (h : n ≠ 0) : f_rBNew 0 (bs (ffs n)) = some (.inl 1) := by
  unfold f_rBNew
  rw [rSz0, bind_some']
  dsimp only
  rw [cbeq rfl, bs_nil_beq, cneg (ffs_ne h0), bind_some']
  show cond (((bs (ffs n)).size : Int) != 0) _ _ = _
  rw [bs_size, ffs_length, cbne (by omega)]
theorem Sz1 : f_Size 1 = some (32768, 0) := rfl
theorem rSz1 : f_rSize 1 = some (32768, 0) := rfl
theorem BNew1 {n : Nat} (h : n = 0 ∨ n = 32768) : f_BNew 1 (bs (ffs n)) = some (.inr (.inr (.inr (.inr (1, bytesOf (bs (ffs 32768))))))) := by
  unfold f_BNew
  rw [Sz1, bind_some']
  dsimp only
  rw [cbeq rfl, pick_eq (zi := 32768) rfl h (by decide), bind_some']
  show cond (((bs (ffs 32768)).size : Int) != 32768) _ _ = _
  rw [bs_size, ffs_length, cbeq (by omega)]
  rw [ceq rfl, cpos (by decide)]
theorem rBNew1 {n : Nat} (h : n = 0 ∨ n = 32768) : f_rBNew 1 (bs (ffs n)) = some (.inr (.inl (1, bs (ffs 32768)))) := by
  unfold f_rBNew
  rw [rSz1, bind_some']
  dsimp only
  rw [cbeq rfl, rpick_eq (zi := 32768) rfl h (by decide), bind_some']
  show cond (((bs (ffs 32768)).size : Int) != 32768) _ _ = _
  rw [bs_size, ffs_length, cbeq (by omega)]
  rfl
theorem BNewX1 {n : Nat} (h0 : n ≠ 0) (h : n ≠ 32768) : f_BNew 1 (bs (ffs n)) = some (.inl 1) := by
  unfold f_BNew
  rw [Sz1, bind_some']
  dsimp only
  rw [cbeq rfl, bs_nil_beq, cneg (ffs_ne h0), bind_some']
  show cond (((bs (ffs n)).size : Int) != 32768) _ _ = _
  rw [bs_size, ffs_length, cbne (by omega)]
theorem rBNewX1 {n : Nat} (h0 : n ≠ 0) (h : n ≠ 32768) : f_rBNew 1 (bs (ffs n)) = some (.inl 1) := by
  unfold f_rBNew
  rw [rSz1, bind_some']
  dsimp only
  rw [cbeq rfl, bs_nil_beq, cneg (ffs_ne h0), bind_some']
  show cond (((bs (ffs n)).size : Int) != 32768) _ _ = _
  rw [bs_size, ffs_length, cbne (by omega)]
theorem Sz2 : f_Size 2 = some (65536, 0) := rfl
theorem rSz2 : f_rSize 2 = some (65536, 0) := rfl
theorem BNew2 {n : Nat} (h : n = 0 ∨ n = 65536) : f_BNew 2 (bs (ffs n)) = some (.inr (.inr (.inr (.inl (2, bs (ffs 65536)))))) := by
  unfold f_BNew
  rw [Sz2, bind_some']
  dsimp only
  rw [cbeq rfl, pick_eq (zi := 65536) rfl h (by decide), bind_some']
  show cond (((bs (ffs 65536)).size : Int) != 65536) _ _ = _
  rw [bs_size, ffs_length, cbeq (by omega)]
  rw [show f_FNew (bs (ffs 65536)) = some (.inl (bs (ffs 65536))) from FNew_ok (by rw [ffs_length]; decide)]
  rfl
theorem rBNew2 {n : Nat} (h : n = 0 ∨ n = 65536) : f_rBNew 2 (bs (ffs n)) = some (.inr (.inr (.inr (2, bs (ffs 65536))))) := by
  unfold f_rBNew
  rw [rSz2, bind_some']
  dsimp only
  rw [cbeq rfl, rpick_eq (zi := 65536) rfl h (by decide), bind_some']
  show cond (((bs (ffs 65536)).size : Int) != 65536) _ _ = _
  rw [bs_size, ffs_length, cbeq (by omega)]
  rfl
theorem BNewX2 {n : Nat} (h0 : n ≠ 0) (h : n ≠ 65536) : f_BNew 2 (bs (ffs n)) = some (.inl 1) := by
  unfold f_BNew
  rw [Sz2, bind_some']
  dsimp only
  rw [cbeq rfl, bs_nil_beq, cneg (ffs_ne h0), bind_some']
  show cond (((bs (ffs n)).size : Int) != 65536) _ _ = _
  rw [bs_size, ffs_length, cbne (by omega)]
theorem rBNewX2 {n : Nat} (h0 : n ≠ 0) (h : n ≠ 65536) : f_rBNew 2 (bs (ffs n)) = some (.inl 1) := by
  unfold f_rBNew
  rw [rSz2, bind_some']
  dsimp only
  rw [cbeq rfl, bs_nil_beq, cneg (ffs_ne h0), bind_some']
  show cond (((bs (ffs n)).size : Int) != 65536) _ _ = _
  rw [bs_size, ffs_length, cbne (by omega)]
theorem Sz3 : f_Size 3 = some (131072, 0) := rfl
theorem rSz3 : f_rSize 3 = some (131072, 0) := rfl
theorem BNew3 {n : Nat} (h : n = 0 ∨ n = 131072) : f_BNew 3 (bs (ffs n)) = some (.inr (.inr (.inr (.inl (3, bs (ffs 131072)))))) := by
  unfold f_BNew
  rw [Sz3, bind_some']
  dsimp only
  rw [cbeq rfl, pick_eq (zi := 131072) rfl h (by decide), bind_some']
  show cond (((bs (ffs 131072)).size : Int) != 131072) _ _ = _
  rw [bs_size, ffs_length, cbeq (by omega)]
  rw [show f_FNew (bs (ffs 131072)) = some (.inl (bs (ffs 131072))) from FNew_ok (by rw [ffs_length]; decide)]
  rfl
theorem rBNew3 {n : Nat} (h : n = 0 ∨ n = 131072) : f_rBNew 3 (bs (ffs n)) = some (.inr (.inr (.inr (3, bs (ffs 131072))))) := by
  unfold f_rBNew
  rw [rSz3, bind_some']
  dsimp only
  rw [cbeq rfl, rpick_eq (zi := 131072) rfl h (by decide), bind_some']
  show cond (((bs (ffs 131072)).size : Int) != 131072) _ _ = _
  rw [bs_size, ffs_length, cbeq (by omega)]
  rfl
theorem BNewX3 {n : Nat} (h0 : n ≠ 0) (h : n ≠ 131072) : f_BNew 3 (bs (ffs n)) = some (.inl 1) := by
  unfold f_BNew
  rw [Sz3, bind_some']
  dsimp only
  rw [cbeq rfl, bs_nil_beq, cneg (ffs_ne h0), bind_some']
  show cond (((bs (ffs n)).size : Int) != 131072) _ _ = _
  rw [bs_size, ffs_length, cbne (by omega)]
theorem rBNewX3 {n : Nat} (h0 : n ≠ 0) (h : n ≠ 131072) : f_rBNew 3 (bs (ffs n)) = some (.inl 1) := by
  unfold f_rBNew
  rw [rSz3, bind_some']
  dsimp only
  rw [cbeq rfl, bs_nil_beq, cneg (ffs_ne h0), bind_some']
  show cond (((bs (ffs n)).size : Int) != 131072) _ _ = _
  rw [bs_size, ffs_length, cbne (by omega)]
theorem Sz4 : f_Size 4 = some (512, 0) := rfl
theorem rSz4 : f_rSize 4 = some (512, 0) := rfl
theorem BNew4 {n : Nat} (h : n = 0 ∨ n = 512) : f_BNew 4 (bs (ffs n)) = some (.inr (.inr (.inl (4, bs (ffs 512), 6)))) := by
  unfold f_BNew
  rw [Sz4, bind_some']
  dsimp only
  rw [cbeq rfl, pick_eq (zi := 512) rfl h (by decide), bind_some']
  show cond (((bs (ffs 512)).size : Int) != 512) _ _ = _
  rw [bs_size, ffs_length, cbeq (by omega)]
  rw [show f_ENew (bs (ffs 512)) = some (.inl (bs (ffs 512), 6)) from ENew_ok4 (ffs_length 512)]
  rfl
theorem rBNew4 {n : Nat} (h : n = 0 ∨ n = 512) : f_rBNew 4 (bs (ffs n)) = some (.inr (.inr (.inl (4, bs (ffs 512))))) := by
  unfold f_rBNew
  rw [rSz4, bind_some']
  dsimp only
  rw [cbeq rfl, rpick_eq (zi := 512) rfl h (by decide), bind_some']
  show cond (((bs (ffs 512)).size : Int) != 512) _ _ = _
  rw [bs_size, ffs_length, cbeq (by omega)]
  rfl
theorem BNewX4 {n : Nat} (h0 : n ≠ 0) (h : n ≠ 512) : f_BNew 4 (bs (ffs n)) = some (.inl 1) := by
  unfold f_BNew
  rw [Sz4, bind_some']
  dsimp only
  rw [cbeq rfl, bs_nil_beq, cneg (ffs_ne h0), bind_some']
  show cond (((bs (ffs n)).size : Int) != 512) _ _ = _
  rw [bs_size, ffs_length, cbne (by omega)]
theorem rBNewX4 {n : Nat} (h0 : n ≠ 0) (h : n ≠ 512) : f_rBNew 4 (bs (ffs n)) = some (.inl 1) := by
  unfold f_rBNew
  rw [rSz4, bind_some']
  dsimp only
  rw [cbeq rfl, bs_nil_beq, cneg (ffs_ne h0), bind_some']
  show cond (((bs (ffs n)).size : Int) != 512) _ _ = _
  rw [bs_size, ffs_length, cbne (by omega)]
theorem Sz5 : f_Size 5 = some (8192, 0) := rfl
theorem rSz5 : f_rSize 5 = some (8192, 0) := rfl
theorem BNew5 {n : Nat} (h : n = 0 ∨ n = 8192) : f_BNew 5 (bs (ffs n)) = some (.inr (.inr (.inl (5, bs (ffs 8192), 14)))) := by
  unfold f_BNew
  rw [Sz5, bind_some']
  dsimp only
  rw [cbeq rfl, pick_eq (zi := 8192) rfl h (by decide), bind_some']
  show cond (((bs (ffs 8192)).size : Int) != 8192) _ _ = _
  rw [bs_size, ffs_length, cbeq (by omega)]
  rw [show f_ENew (bs (ffs 8192)) = some (.inl (bs (ffs 8192), 14)) from ENew_ok5 (ffs_length 8192)]
  rfl
theorem rBNew5 {n : Nat} (h : n = 0 ∨ n = 8192) : f_rBNew 5 (bs (ffs n)) = some (.inr (.inr (.inl (5, bs (ffs 8192))))) := by
  unfold f_rBNew
  rw [rSz5, bind_some']
  dsimp only
  rw [cbeq rfl, rpick_eq (zi := 8192) rfl h (by decide), bind_some']
  show cond (((bs (ffs 8192)).size : Int) != 8192) _ _ = _
  rw [bs_size, ffs_length, cbeq (by omega)]
  rfl
theorem BNewX5 {n : Nat} (h0 : n ≠ 0) (h : n ≠ 8192) : f_BNew 5 (bs (ffs n)) = some (.inl 1) := by
  unfold f_BNew
  rw [Sz5, bind_some']
  dsimp only
  rw [cbeq rfl, bs_nil_beq, cneg (ffs_ne h0), bind_some']
  show cond (((bs (ffs n)).size : Int) != 8192) _ _ = _
  rw [bs_size, ffs_length, cbne (by omega)]
theorem rBNewX5 {n : Nat} (h0 : n ≠ 0) (h : n ≠ 8192) : f_rBNew 5 (bs (ffs n)) = some (.inl 1) := by
  unfold f_rBNew
  rw [rSz5, bind_some']
  dsimp only
  rw [cbeq rfl, bs_nil_beq, cneg (ffs_ne h0), bind_some']
  show cond (((bs (ffs n)).size : Int) != 8192) _ _ = _
  rw [bs_size, ffs_length, cbne (by omega)]
theorem JOpenN_h {n : Nat} (h0 : 1 ≤ n) (h1 : n ≤ 2048) : f_JOpenN ((64 * n : Nat) : Int) 4 = some (ByteArray.mk #[], 10, []) := by
  unfold f_JOpenN f_fitsN
  rw [show f_Sectors ((64 * n : Nat) : Int) 4 = _ from Sectors_h (n := n) (slots := 4) h0 h1 (by decide) (by decide), bind_some']
  rfl
theorem RecN0 : f_RecoverN 0 4 = some 60 := rfl
theorem RecN1 : f_RecoverN 1 4 = some 10 := by
  unfold f_RecoverN
  rw [Sz1, bind_some']
  dsimp only
  rw [cbeq rfl, cne (by decide), show f_JOpenN 32768 4 = _ from JOpenN_h (n := 512) (by decide) (by decide), bind_some']
  rfl
theorem RecN2 : f_RecoverN 2 4 = some 10 := by
  unfold f_RecoverN
  rw [Sz2, bind_some']
  dsimp only
  rw [cbeq rfl, cne (by decide), show f_JOpenN 65536 4 = _ from JOpenN_h (n := 1024) (by decide) (by decide), bind_some']
  rfl
theorem RecN3 : f_RecoverN 3 4 = some 10 := by
  unfold f_RecoverN
  rw [Sz3, bind_some']
  dsimp only
  rw [cbeq rfl, cne (by decide), show f_JOpenN 131072 4 = _ from JOpenN_h (n := 2048) (by decide) (by decide), bind_some']
  rfl
theorem RecN4 : f_RecoverN 4 4 = some 10 := by
  unfold f_RecoverN
  rw [Sz4, bind_some']
  dsimp only
  rw [cbeq rfl, cne (by decide), show f_JOpenN 512 4 = _ from JOpenN_h (n := 8) (by decide) (by decide), bind_some']
  rfl
theorem RecN5 : f_RecoverN 5 4 = some 10 := by
  unfold f_RecoverN
  rw [Sz5, bind_some']
  dsimp only
  rw [cbeq rfl, cne (by decide), show f_JOpenN 8192 4 = _ from JOpenN_h (n := 128) (by decide) (by decide), bind_some']
  rfl
theorem ImgS {a b c : Int} : f_BImageS 1 (bytesOf (bs (ffs 32768))) a b c = some (bs (ffs 32768)) := by
  unfold f_BImageS
  have e : bytesOf (bs (ffs 32768)) = (ffs 32768).map fun b => (b.toNat : Int) := rfl
  rw [e, ctrue (bytesIn_map (ffs 32768)), strOf_map]
theorem Made0 (n : Nat) (hn : n ≤ 140000) (h3 : ¬ ((n : Int) < 0)) (h4 : ¬ ((n : Int) > 140000)) : f_SaveMade 0 (n : Int) = some true := by
  unfold f_SaveMade
  rw [awake_eq, bind_some', cfalse (show (!true) = false from rfl), cneg h3, cneg h4, Sz0, bind_some']
  dsimp only
  rw [rSz0, bind_some']
  dsimp only
  rw [rBlank_eq n hn, bind_some']
  by_cases h : n = 0 ∨ n = 0
  · rw [BNew0 h, bind_some']
    dsimp only
    rw [bind_some', rBNew0 h, bind_some']
    dsimp only
    rw [cbeq rfl, cbeq rfl, show f_BImageZ 0 0 0 0 = some (ByteArray.mk #[]) from rfl, bind_some', show f_rBImageN 0 (ByteArray.mk #[]) 0 0 = some (ByteArray.mk #[]) from rfl, bind_some', nil_beq, cfalse (show (!true) = false from rfl), bind_some']
    dsimp only
    rw [RecN0]
    show cond ((ByteArray.mk #[]).toList == (ByteArray.mk #[]).toList) _ _ = _
    rw [nil_beq]
    rfl
  · have h0 : n ≠ 0 := fun e => h (.inl e)
    have h1 : n ≠ 0 := fun e => h (.inr e)
    rw [BNewX0 h0 h1, bind_some']
    dsimp only
    rw [bind_some', rBNewX0 h0 h1, bind_some']
    dsimp only
    rw [cbeq rfl, cbeq rfl, cbeq rfl, cne (by decide), bind_some']
    dsimp only
    rw [RecN0]
    show cond ((ByteArray.mk #[]).toList == (ByteArray.mk #[]).toList) _ _ = _
    rw [nil_beq]
    rfl
theorem Made1 (n : Nat) (hn : n ≤ 140000) (h3 : ¬ ((n : Int) < 0)) (h4 : ¬ ((n : Int) > 140000)) : f_SaveMade 1 (n : Int) = some true := by
  unfold f_SaveMade
  rw [awake_eq, bind_some', cfalse (show (!true) = false from rfl), cneg h3, cneg h4, Sz1, bind_some']
  dsimp only
  rw [rSz1, bind_some']
  dsimp only
  rw [rBlank_eq n hn, bind_some']
  by_cases h : n = 0 ∨ n = 32768
  · rw [BNew1 h, bind_some']
    dsimp only
    rw [bind_some', rBNew1 h, bind_some']
    dsimp only
    rw [cbeq rfl, cbeq rfl, ImgS, bind_some', show f_rBImageN 1 (bs (ffs 32768)) 0 0 = some (bs (ffs 32768)) from rfl, bind_some', beq_bs, cfalse (by simp), bind_some']
    dsimp only
    rw [RecN1]
    show cond ((ByteArray.mk #[]).toList == (ByteArray.mk #[]).toList) _ _ = _
    rw [nil_beq]
    rfl
  · have h0 : n ≠ 0 := fun e => h (.inl e)
    have h1 : n ≠ 32768 := fun e => h (.inr e)
    rw [BNewX1 h0 h1, bind_some']
    dsimp only
    rw [bind_some', rBNewX1 h0 h1, bind_some']
    dsimp only
    rw [cbeq rfl, cbeq rfl, cbeq rfl, cne (by decide), bind_some']
    dsimp only
    rw [RecN1]
    show cond ((ByteArray.mk #[]).toList == (ByteArray.mk #[]).toList) _ _ = _
    rw [nil_beq]
    rfl
theorem Made2 (n : Nat) (hn : n ≤ 140000) (h3 : ¬ ((n : Int) < 0)) (h4 : ¬ ((n : Int) > 140000)) : f_SaveMade 2 (n : Int) = some true := by
  unfold f_SaveMade
  rw [awake_eq, bind_some', cfalse (show (!true) = false from rfl), cneg h3, cneg h4, Sz2, bind_some']
  dsimp only
  rw [rSz2, bind_some']
  dsimp only
  rw [rBlank_eq n hn, bind_some']
  by_cases h : n = 0 ∨ n = 65536
  · rw [BNew2 h, bind_some']
    dsimp only
    rw [bind_some', rBNew2 h, bind_some']
    dsimp only
    rw [cbeq rfl, cbeq rfl, show f_BImageF 2 0 0 0 (bs (ffs 65536)) 0 false 0 = some (bs (ffs 65536)) from rfl, bind_some', show f_rBImageF 2 (ByteArray.mk #[]) 0 0 (bs (ffs 65536)) (ByteArray.mk #[]) false 0 = some (bs (ffs 65536)) from rfl, bind_some', beq_bs, cfalse (by simp), bind_some']
    dsimp only
    rw [RecN2]
    show cond ((ByteArray.mk #[]).toList == (ByteArray.mk #[]).toList) _ _ = _
    rw [nil_beq]
    rfl
  · have h0 : n ≠ 0 := fun e => h (.inl e)
    have h1 : n ≠ 65536 := fun e => h (.inr e)
    rw [BNewX2 h0 h1, bind_some']
    dsimp only
    rw [bind_some', rBNewX2 h0 h1, bind_some']
    dsimp only
    rw [cbeq rfl, cbeq rfl, cbeq rfl, cne (by decide), bind_some']
    dsimp only
    rw [RecN2]
    show cond ((ByteArray.mk #[]).toList == (ByteArray.mk #[]).toList) _ _ = _
    rw [nil_beq]
    rfl
theorem Made3 (n : Nat) (hn : n ≤ 140000) (h3 : ¬ ((n : Int) < 0)) (h4 : ¬ ((n : Int) > 140000)) : f_SaveMade 3 (n : Int) = some true := by
  unfold f_SaveMade
  rw [awake_eq, bind_some', cfalse (show (!true) = false from rfl), cneg h3, cneg h4, Sz3, bind_some']
  dsimp only
  rw [rSz3, bind_some']
  dsimp only
  rw [rBlank_eq n hn, bind_some']
  by_cases h : n = 0 ∨ n = 131072
  · rw [BNew3 h, bind_some']
    dsimp only
    rw [bind_some', rBNew3 h, bind_some']
    dsimp only
    rw [cbeq rfl, cbeq rfl, show f_BImageF 3 0 0 0 (bs (ffs 131072)) 0 false 0 = some (bs (ffs 131072)) from rfl, bind_some', show f_rBImageF 3 (ByteArray.mk #[]) 0 0 (bs (ffs 131072)) (ByteArray.mk #[]) false 0 = some (bs (ffs 131072)) from rfl, bind_some', beq_bs, cfalse (by simp), bind_some']
    dsimp only
    rw [RecN3]
    show cond ((ByteArray.mk #[]).toList == (ByteArray.mk #[]).toList) _ _ = _
    rw [nil_beq]
    rfl
  · have h0 : n ≠ 0 := fun e => h (.inl e)
    have h1 : n ≠ 131072 := fun e => h (.inr e)
    rw [BNewX3 h0 h1, bind_some']
    dsimp only
    rw [bind_some', rBNewX3 h0 h1, bind_some']
    dsimp only
    rw [cbeq rfl, cbeq rfl, cbeq rfl, cne (by decide), bind_some']
    dsimp only
    rw [RecN3]
    show cond ((ByteArray.mk #[]).toList == (ByteArray.mk #[]).toList) _ _ = _
    rw [nil_beq]
    rfl
theorem Made4 (n : Nat) (hn : n ≤ 140000) (h3 : ¬ ((n : Int) < 0)) (h4 : ¬ ((n : Int) > 140000)) : f_SaveMade 4 (n : Int) = some true := by
  unfold f_SaveMade
  rw [awake_eq, bind_some', cfalse (show (!true) = false from rfl), cneg h3, cneg h4, Sz4, bind_some']
  dsimp only
  rw [rSz4, bind_some']
  dsimp only
  rw [rBlank_eq n hn, bind_some']
  by_cases h : n = 0 ∨ n = 512
  · rw [BNew4 h, bind_some']
    dsimp only
    rw [bind_some', rBNew4 h, bind_some']
    dsimp only
    rw [cbeq rfl, cbeq rfl, show f_BImageE 4 0 0 0 (bs (ffs 512)) [] [] 6 = some (bs (ffs 512)) from rfl, bind_some', show f_rBImageE 4 (ByteArray.mk #[]) 0 0 (bs (ffs 512)) (ByteArray.mk #[]) (ByteArray.mk #[]) = some (bs (ffs 512)) from rfl, bind_some', beq_bs, cfalse (by simp), bind_some']
    dsimp only
    rw [RecN4]
    show cond ((ByteArray.mk #[]).toList == (ByteArray.mk #[]).toList) _ _ = _
    rw [nil_beq]
    rfl
  · have h0 : n ≠ 0 := fun e => h (.inl e)
    have h1 : n ≠ 512 := fun e => h (.inr e)
    rw [BNewX4 h0 h1, bind_some']
    dsimp only
    rw [bind_some', rBNewX4 h0 h1, bind_some']
    dsimp only
    rw [cbeq rfl, cbeq rfl, cbeq rfl, cne (by decide), bind_some']
    dsimp only
    rw [RecN4]
    show cond ((ByteArray.mk #[]).toList == (ByteArray.mk #[]).toList) _ _ = _
    rw [nil_beq]
    rfl
theorem Made5 (n : Nat) (hn : n ≤ 140000) (h3 : ¬ ((n : Int) < 0)) (h4 : ¬ ((n : Int) > 140000)) : f_SaveMade 5 (n : Int) = some true := by
  unfold f_SaveMade
  rw [awake_eq, bind_some', cfalse (show (!true) = false from rfl), cneg h3, cneg h4, Sz5, bind_some']
  dsimp only
  rw [rSz5, bind_some']
  dsimp only
  rw [rBlank_eq n hn, bind_some']
  by_cases h : n = 0 ∨ n = 8192
  · rw [BNew5 h, bind_some']
    dsimp only
    rw [bind_some', rBNew5 h, bind_some']
    dsimp only
    rw [cbeq rfl, cbeq rfl, show f_BImageE 5 0 0 0 (bs (ffs 8192)) [] [] 14 = some (bs (ffs 8192)) from rfl, bind_some', show f_rBImageE 5 (ByteArray.mk #[]) 0 0 (bs (ffs 8192)) (ByteArray.mk #[]) (ByteArray.mk #[]) = some (bs (ffs 8192)) from rfl, bind_some', beq_bs, cfalse (by simp), bind_some']
    dsimp only
    rw [RecN5]
    show cond ((ByteArray.mk #[]).toList == (ByteArray.mk #[]).toList) _ _ = _
    rw [nil_beq]
    rfl
  · have h0 : n ≠ 0 := fun e => h (.inl e)
    have h1 : n ≠ 8192 := fun e => h (.inr e)
    rw [BNewX5 h0 h1, bind_some']
    dsimp only
    rw [bind_some', rBNewX5 h0 h1, bind_some']
    dsimp only
    rw [cbeq rfl, cbeq rfl, cbeq rfl, cne (by decide), bind_some']
    dsimp only
    rw [RecN5]
    show cond ((ByteArray.mk #[]).toList == (ByteArray.mk #[]).toList) _ _ = _
    rw [nil_beq]
    rfl

end Go.Proofs.YtcgigdfahlmfaaaGreatDoor
