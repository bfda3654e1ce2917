/-
  What is new, attached, synced, and recovered.
-/
import Derived.Test.YtcgigdfahlmfaaaGreatDoorDo
import Derived.Test.YtcgigdfahlmfaaaGreatDoorAw
namespace Go.Proofs.YtcgigdfahlmfaaaGreatDoor
open Go.Vc
set_option linter.unusedVariables false
set_option linter.unusedSimpArgs false
theorem ffs_ne {n : Nat} (h : n ≠ 0) : ¬ ffs n = [] := fun e => by
  have := ffs_length n
  rw [e] at this
  exact h this.symm
theorem rBlank_eq (n : Nat) (h : n ≤ 140000) : f_rBlank (n : Int) = some (bs (ffs n)) := by
  unfold f_rBlank
  rw [cand3 (by omega) (by omega) (by omega)]
  have hl : (List.replicate ((n : Int)).toNat (0 : Int)).length = n := by simp
  refine loopO_inv (fun (d : Nat) (st : Int × List Int) => ∃ i : Nat, st = ((i : Int), List.replicate i 255 ++ List.replicate (n - i) 0) ∧ d = n - i ∧ i ≤ n) ?_ n _ ⟨0, by simp, rfl, by omega⟩
  rintro d st ⟨i, rfl, rfl, hi⟩
  by_cases hc : i < n
  · left
    refine ⟨(((i + 1 : Nat) : Int), List.replicate (i + 1) 255 ++ List.replicate (n - (i + 1)) 0), n - (i + 1), ?_, by omega, i + 1, rfl, rfl, by omega⟩
    show cond (decide ((i : Int) < (n : Int))) (cond (decide (0 ≤ (i : Int)) && decide ((i : Int) < ((((List.replicate ((n : Int)).toNat (0 : Int)).length) : Nat) : Int))) (some (Sum.inl (IntKind.wrap .i64 ((i : Int) + 1), (List.replicate i (255 : Int) ++ List.replicate (n - i) 0).set ((i : Int)).toNat 255))) none) _ = _
    rw [hl, cpos (by omega), cand (by omega) (by omega), wrap_i64 (by omega) (by omega), Int.toNat_natCast, List.set_append_right _ _ (by simp)]
    rw [List.length_replicate, Nat.sub_self, show n - i = (n - (i + 1)) + 1 by omega, List.replicate_succ, List.set_cons_zero, List.replicate_succ' (n := i), List.append_assoc]
    rfl
  · right
    have he : i = n := by omega
    subst he
    show cond (decide ((i : Int) < (i : Int))) _ (cond (bytesIn (List.replicate i (255 : Int) ++ List.replicate (i - i) 0)) (some (Sum.inr (strOf (List.replicate i (255 : Int) ++ List.replicate (i - i) 0)))) none) = _
    have e : List.replicate i (255 : Int) ++ List.replicate (i - i) 0 = (ffs i).map fun b => (b.toNat : Int) := by unfold ffs; simp
    rw [cneg (by omega), e, ctrue (bytesIn_map (ffs i)), strOf_map]
theorem nil_beq : ((ByteArray.mk #[]).toList == (ByteArray.mk #[]).toList) = true := (bs_nil_beq []).trans (by simp)
theorem len_ne {m : List UInt8} {n : Nat} (h : m.length = n) (h0 : n ≠ 0) : ¬ m = [] := fun e => h0 (by rw [← h, e]; rfl)
theorem BNew_nil {k : Int} {n : Nat} (hz : f_Size k = some ((n : Int), 0)) (h0 : n ≠ 0) (h1 : n ≤ 131072) : f_BNew k (ByteArray.mk #[]) = f_BNew k (bs (ffs n)) := by
  unfold f_BNew
  rw [hz, bind_some', bind_some']
  dsimp only
  rw [cbeq rfl, cbeq rfl, nil_beq, ctrue rfl, Blank_eq n h1, bind_some', bs_nil_beq, cneg (ffs_ne h0)]
theorem rBNew_nil {k : Int} {n : Nat} (hz : f_rSize k = some ((n : Int), 0)) (h0 : n ≠ 0) (h1 : n ≤ 131072) : f_rBNew k (ByteArray.mk #[]) = f_rBNew k (bs (ffs n)) := by
  unfold f_rBNew
  rw [hz, bind_some', bind_some']
  dsimp only
  rw [cbeq rfl, cbeq rfl, nil_beq, ctrue rfl, rBlank_eq n (by omega), bind_some', bs_nil_beq, cneg (ffs_ne h0)]
theorem FNew_ok {m : List UInt8} (h : m.length = 65536 ∨ m.length = 131072) : f_FNew (bs m) = some (.inl (bs m)) := by
  unfold f_FNew
  rw [bs_size]
  rcases h with h | h
  · rw [cbeq (by omega)]
  · rw [cbne (by omega), cbeq (by omega)]
theorem ENew_ok5 {m : List UInt8} (h : m.length = 8192) : f_ENew (bs m) = some (.inl (bs m, 14)) := by
  unfold f_ENew
  rw [bs_size, cne (by omega), ceq (by omega)]
theorem BNewS {m : List UInt8} (h : m.length = 32768) : f_BNew 1 (bs m) = some (.inr (.inr (.inr (.inr (1, ints m))))) := by
  unfold f_BNew
  rw [show f_Size 1 = some (32768, 0) from rfl, bind_some']
  dsimp only
  rw [cbeq rfl, bs_nil_beq, cneg (len_ne h (by decide)), bind_some', bs_size, h, cbeq (by omega), ceq rfl, cpos (by omega), bytesOf_bs]
  rfl
theorem BNewF {k : Int} {m : List UInt8} (h : k = 2 ∧ m.length = 65536 ∨ k = 3 ∧ m.length = 131072) : f_BNew k (bs m) = some (.inr (.inr (.inr (.inl (k, bs m))))) := by
  unfold f_BNew
  rcases h with ⟨rfl, h⟩ | ⟨rfl, h⟩
  · rw [show f_Size 2 = some (65536, 0) from rfl, bind_some']
    dsimp only
    rw [cbeq rfl, bs_nil_beq, cneg (len_ne h (by decide)), bind_some', bs_size, h, cbeq (by omega), FNew_ok (.inl h)]
    rfl
  · rw [show f_Size 3 = some (131072, 0) from rfl, bind_some']
    dsimp only
    rw [cbeq rfl, bs_nil_beq, cneg (len_ne h (by decide)), bind_some', bs_size, h, cbeq (by omega), FNew_ok (.inr h)]
    rfl
theorem BNewE {k w : Int} {m : List UInt8} (h : k = 4 ∧ m.length = 512 ∧ w = 6 ∨ k = 5 ∧ m.length = 8192 ∧ w = 14) : f_BNew k (bs m) = some (.inr (.inr (.inl (k, bs m, w)))) := by
  unfold f_BNew
  rcases h with ⟨rfl, h, rfl⟩ | ⟨rfl, h, rfl⟩
  · rw [show f_Size 4 = some (512, 0) from rfl, bind_some']
    dsimp only
    rw [cbeq rfl, bs_nil_beq, cneg (len_ne h (by decide)), bind_some', bs_size, h, cbeq (by omega), ENew_512 m h]
    rfl
  · rw [show f_Size 5 = some (8192, 0) from rfl, bind_some']
    dsimp only
    rw [cbeq rfl, bs_nil_beq, cneg (len_ne h (by decide)), bind_some', bs_size, h, cbeq (by omega), ENew_ok5 h]
    rfl
theorem rBNewS {m : List UInt8} (h : m.length = 32768) : f_rBNew 1 (bs m) = some (.inr (.inl (1, bs m))) := by
  unfold f_rBNew
  rw [show f_rSize 1 = some (32768, 0) from rfl, bind_some']
  dsimp only
  rw [cbeq rfl, bs_nil_beq, cneg (len_ne h (by decide)), bind_some', bs_size, h, cbeq (by omega)]
  rfl
theorem rBNewF {k : Int} {m : List UInt8} (h : k = 2 ∧ m.length = 65536 ∨ k = 3 ∧ m.length = 131072) : f_rBNew k (bs m) = some (.inr (.inr (.inr (k, bs m)))) := by
  unfold f_rBNew
  rcases h with ⟨rfl, h⟩ | ⟨rfl, h⟩
  · rw [show f_rSize 2 = some (65536, 0) from rfl, bind_some']
    dsimp only
    rw [cbeq rfl, bs_nil_beq, cneg (len_ne h (by decide)), bind_some', bs_size, h, cbeq (by omega)]
    rfl
  · rw [show f_rSize 3 = some (131072, 0) from rfl, bind_some']
    dsimp only
    rw [cbeq rfl, bs_nil_beq, cneg (len_ne h (by decide)), bind_some', bs_size, h, cbeq (by omega)]
    rfl
theorem rBNewE {k w : Int} {m : List UInt8} (h : k = 4 ∧ m.length = 512 ∧ w = 6 ∨ k = 5 ∧ m.length = 8192 ∧ w = 14) : f_rBNew k (bs m) = some (.inr (.inr (.inl (k, bs m)))) := by
  unfold f_rBNew
  rcases h with ⟨rfl, h, rfl⟩ | ⟨rfl, h, rfl⟩
  · rw [show f_rSize 4 = some (512, 0) from rfl, bind_some']
    dsimp only
    rw [cbeq rfl, bs_nil_beq, cneg (len_ne h (by decide)), bind_some', bs_size, h, cbeq (by omega)]
    rfl
  · rw [show f_rSize 5 = some (8192, 0) from rfl, bind_some']
    dsimp only
    rw [cbeq rfl, bs_nil_beq, cneg (len_ne h (by decide)), bind_some', bs_size, h, cbeq (by omega)]
    rfl
def zs (n slots : Nat) : List ByteArray := List.replicate (2 + 2 * n + slots) Z
def D0 (n slots : Nat) : List ByteArray := fmt (zs n slots) n slots (ffs (64 * n))
theorem D0_JS {n slots : Nat} (hn0 : 1 ≤ n) (hn1 : n ≤ 2048) (hs0 : 1 ≤ slots) (hs1 : slots ≤ 1024) : JS (D0 n slots) n slots 1 0 (ffs (64 * n)) [] :=
  fmt_JS (zeros_full _) (by unfold zs; simp) hn0 hn1 hs0 hs1 (ffs_length _)
theorem disked_gen {k : Int} {n slots : Nat} (hz : f_Size k = some (((64 * n : Nat) : Int), 0)) (hn0 : 1 ≤ n) (hn1 : n ≤ 2048) (hs0 : 1 ≤ slots) (hs1 : slots ≤ 1024) : f_disked k (slots : Int) = some (.inr (true, zs n slots, zs n slots, [])) := by
  unfold f_disked
  rw [hz, bind_some']
  dsimp only
  rw [Sectors_h hn0 hn1 hs0 hs1, bind_some']
  dsimp only
  rw [New_h (by omega) (by omega), bind_some']
  rfl
theorem Format_gen {n slots : Nat} (hn0 : 1 ≤ n) (hn1 : n ≤ 2048) (hs0 : 1 ≤ slots) (hs1 : slots ≤ 1024) : f_Format (zs n slots) (zs n slots) [] [] (-1) false (bs (ffs (64 * n))) (slots : Int) = some (.inl (-1, false, ((64 * n : Nat) : Int), (slots : Int), D0 n slots, D0 n slots, [])) :=
  Format_h (Good.self (zeros_full _)) (by simp) (by unfold zs; simp) hn0 hn1 hs0 hs1 (ffs_length _)
theorem AttS {n slots : Nat} (hn0 : 1 ≤ n) (hn1 : n ≤ 2048) (hs0 : 1 ≤ slots) (hs1 : slots ≤ 1024) {k : Int} (hk : k ≠ 0) : f_AttachS k (ints (ffs (64 * n))) 0 0 0 (zs n slots) (zs n slots) [] [] (-1) false (slots : Int) = some (.inr (-1, false, ((64 * n : Nat) : Int), (slots : Int), D0 n slots, D0 n slots, [])) := by
  unfold f_AttachS f_BImageS ints
  rw [cne hk, ctrue (bytesIn_map _), strOf_map, bind_some', Format_gen hn0 hn1 hs0 hs1, bind_some']
theorem AttF {n slots : Nat} (hn0 : 1 ≤ n) (hn1 : n ≤ 2048) (hs0 : 1 ≤ slots) (hs1 : slots ≤ 1024) {k : Int} (hk : k ≠ 0) : f_AttachF k 0 0 0 (bs (ffs (64 * n))) 0 false 0 (zs n slots) (zs n slots) [] [] (-1) false (slots : Int) = some (.inr (-1, false, ((64 * n : Nat) : Int), (slots : Int), D0 n slots, D0 n slots, [])) := by
  unfold f_AttachF f_BImageF f_FImage
  rw [cne hk, bind_some', bind_some', Format_gen hn0 hn1 hs0 hs1, bind_some']
theorem AttE {n slots : Nat} (hn0 : 1 ≤ n) (hn1 : n ≤ 2048) (hs0 : 1 ≤ slots) (hs1 : slots ≤ 1024) {k : Int} (hk : k ≠ 0) (w : Int) : f_AttachE k 0 0 0 (bs (ffs (64 * n))) [] [] w (zs n slots) (zs n slots) [] [] (-1) false (slots : Int) = some (.inr (-1, false, ((64 * n : Nat) : Int), (slots : Int), D0 n slots, D0 n slots, [])) := by
  unfold f_AttachE f_BImageE f_EImage
  rw [cne hk, bind_some', bind_some', Format_gen hn0 hn1 hs0 hs1, bind_some']
def J0 (n slots : Nat) : Jr := ⟨0, 0, 0, 1, 1, 0, false, D0 n slots, D0 n slots, []⟩
theorem J0_ok {n slots : Nat} (hn0 : 1 ≤ n) (hn1 : n ≤ 2048) (hs0 : 1 ≤ slots) (hs1 : slots ≤ 1024) : Jok n slots (J0 n slots) (ffs (64 * n)) 1 0 :=
  ⟨rfl, rfl, Nat.le_refl _, Good.self (D0_JS hn0 hn1 hs0 hs1).full, 1, 0, ffs (64 * n), [], rfl, rfl, rfl, D0_JS hn0 hn1 hs0 hs1, rfl, Nat.le_refl _⟩
theorem rec_loop {ρ : Type} {f : ByteArray × Int → Option ((ByteArray × Int) ⊕ ρ)} {cs : List E59} {img s : List UInt8} (h : runE img cs = some s) {R : ρ}
    (step : ∀ (i : Nat) (hi : i < cs.length) (m : List UInt8), m.length = img.length → (stepE m cs[i]).2 = 0 → f (bs m, (i : Int)) = some (.inl (bs (stepE m cs[i]).1, ((i + 1 : Nat) : Int))))
    (fin : f (bs s, ((cs.length : Nat) : Int)) = some (.inr R)) : loopO f (bs img, 0) = some R := by
  obtain ⟨r, e, rfl⟩ := ends_apply h (Q := fun r => r = R) step ⟨_, fin, R, rfl, rfl⟩
  exact e
theorem sApply_E {m : List UInt8} (hm : m.length ≤ 140737488355328) (c : E59) : f_sApply (bs m) c.Kind c.Addr c.Data = some (bs (stepE m c).1, (stepE m c).2) := by
  have h := sApply_eq m hm c.Kind c.Addr c.Data.data.toList
  rw [bs_list] at h
  exact h
end Go.Proofs.YtcgigdfahlmfaaaGreatDoor
