/-
  What is new, attached, synced, and recovered.
-/
import Derived.Test.YtcgigdfahlmfaaaGreatDoorDo
import Derived.Test.YtcgigdfahlmfaaaGreatDoorAw
namespace Go.Proofs.YtcgigdfahlmfaaaGreatDoor
open Go.Vc
set_option linter.unusedVariables false
set_option linter.unusedSimpArgs false
theorem ffs_ne {n : Nat} (h : n ≠ 0) : ¬ ffs n = [] := fun e => by
  have := ffs_length n
  rw [e] at this
  exact h this.symm
theorem nil_beq : ((ByteArray.mk #[]).toList == (ByteArray.mk #[]).toList) = true := (bs_nil_beq []).trans (by simp)
theorem len_ne {m : List UInt8} {n : Nat} (h : m.length = n) (h0 : n ≠ 0) : ¬ m = [] := fun e => h0 (by rw [← h, e]; rfl)
theorem BNew_nil {k : Int} {n : Nat} (hz : f_Size k = some ((n : Int), 0)) (h0 : n ≠ 0) (h1 : n ≤ 131072) : f_BNew k (ByteArray.mk #[]) = f_BNew k (bs (ffs n)) := by
  unfold f_BNew
  rw [hz, bind_some', bind_some']
  dsimp only
  rw [cbeq rfl, cbeq rfl, nil_beq, ctrue rfl, Blank_eq n h1, bind_some', bs_nil_beq, cneg (ffs_ne h0)]
theorem FNew_ok {m : List UInt8} (h : m.length = 65536 ∨ m.length = 131072) : f_FNew (bs m) = some (.inl (bs m)) := by
  unfold f_FNew
  rw [bs_size]
  rcases h with h | h
  · rw [cbeq (by omega)]
  · rw [cbne (by omega), cbeq (by omega)]
theorem ENew_ok5 {m : List UInt8} (h : m.length = 8192) : f_ENew (bs m) = some (.inl (bs m, 14)) := by
  unfold f_ENew
  rw [bs_size, cne (by omega), ceq (by omega)]
theorem BNewS {m : List UInt8} (h : m.length = 32768) : f_BNew 1 (bs m) = some (.inr (.inr (.inr (.inr (1, ints m))))) := by
  unfold f_BNew
  rw [show f_Size 1 = some (32768, 0) from rfl, bind_some']
  dsimp only
  rw [cbeq rfl, bs_nil_beq, cneg (len_ne h (by decide)), bind_some', bs_size, h, cbeq (by omega), ceq rfl, cpos (by omega), bytesOf_bs]
  rfl
theorem BNewF {k : Int} {m : List UInt8} (h : k = 2 ∧ m.length = 65536 ∨ k = 3 ∧ m.length = 131072) : f_BNew k (bs m) = some (.inr (.inr (.inr (.inl (k, bs m))))) := by
  unfold f_BNew
  rcases h with ⟨rfl, h⟩ | ⟨rfl, h⟩
  · rw [show f_Size 2 = some (65536, 0) from rfl, bind_some']
    dsimp only
    rw [cbeq rfl, bs_nil_beq, cneg (len_ne h (by decide)), bind_some', bs_size, h, cbeq (by omega), FNew_ok (.inl h)]
    rfl
  · rw [show f_Size 3 = some (131072, 0) from rfl, bind_some']
    dsimp only
    rw [cbeq rfl, bs_nil_beq, cneg (len_ne h (by decide)), bind_some', bs_size, h, cbeq (by omega), FNew_ok (.inr h)]
    rfl
theorem BNewE {k w : Int} {m : List UInt8} (h : k = 4 ∧ m.length = 512 ∧ w = 6 ∨ k = 5 ∧ m.length = 8192 ∧ w = 14) : f_BNew k (bs m) = some (.inr (.inr (.inl (k, bs m, w)))) := by
  unfold f_BNew
  rcases h with ⟨rfl, h, rfl⟩ | ⟨rfl, h, rfl⟩
  · rw [show f_Size 4 = some (512, 0) from rfl, bind_some']
    dsimp only
    rw [cbeq rfl, bs_nil_beq, cneg (len_ne h (by decide)), bind_some', bs_size, h, cbeq (by omega), ENew_512 m h]
    rfl
  · rw [show f_Size 5 = some (8192, 0) from rfl, bind_some']
    dsimp only
    rw [cbeq rfl, bs_nil_beq, cneg (len_ne h (by decide)), bind_some', bs_size, h, cbeq (by omega), ENew_ok5 h]
    rfl
def zs (n slots : Nat) : List ByteArray := List.replicate (2 + 2 * n + slots) Z
def D0 (n slots : Nat) : List ByteArray := fmt (zs n slots) n slots (ffs (64 * n))
theorem D0_JS {n slots : Nat} (hn0 : 1 ≤ n) (hn1 : n ≤ 2048) (hs0 : 1 ≤ slots) (hs1 : slots ≤ 1024) : JS (D0 n slots) n slots 1 0 (ffs (64 * n)) [] :=
  fmt_JS (zeros_full _) (by unfold zs; simp) hn0 hn1 hs0 hs1 (ffs_length _)
theorem disked_gen {k : Int} {n slots : Nat} (hz : f_Size k = some (((64 * n : Nat) : Int), 0)) (hn0 : 1 ≤ n) (hn1 : n ≤ 2048) (hs0 : 1 ≤ slots) (hs1 : slots ≤ 1024) : f_disked k (slots : Int) = some (.inr (true, zs n slots, zs n slots, [])) := by
  unfold f_disked
  rw [hz, bind_some']
  dsimp only
  rw [Sectors_h hn0 hn1 hs0 hs1, bind_some']
  dsimp only
  rw [New_h (by omega) (by omega), bind_some']
  rfl
theorem Format_gen {n slots : Nat} (hn0 : 1 ≤ n) (hn1 : n ≤ 2048) (hs0 : 1 ≤ slots) (hs1 : slots ≤ 1024) : f_Format (zs n slots) (zs n slots) [] [] (-1) false (bs (ffs (64 * n))) (slots : Int) = some (.inl (-1, false, ((64 * n : Nat) : Int), (slots : Int), D0 n slots, D0 n slots, [])) :=
  Format_h (Good.self (zeros_full _)) (by simp) (by unfold zs; simp) hn0 hn1 hs0 hs1 (ffs_length _)
theorem AttS {n slots : Nat} (hn0 : 1 ≤ n) (hn1 : n ≤ 2048) (hs0 : 1 ≤ slots) (hs1 : slots ≤ 1024) {k : Int} (hk : k ≠ 0) : f_AttachS k (ints (ffs (64 * n))) 0 0 0 (zs n slots) (zs n slots) [] [] (-1) false (slots : Int) = some (.inr (-1, false, ((64 * n : Nat) : Int), (slots : Int), D0 n slots, D0 n slots, [])) := by
  unfold f_AttachS f_BImageS ints
  rw [cne hk, ctrue (bytesIn_map _), strOf_map, bind_some', Format_gen hn0 hn1 hs0 hs1, bind_some']
theorem AttF {n slots : Nat} (hn0 : 1 ≤ n) (hn1 : n ≤ 2048) (hs0 : 1 ≤ slots) (hs1 : slots ≤ 1024) {k : Int} (hk : k ≠ 0) : f_AttachF k 0 0 0 (bs (ffs (64 * n))) 0 false 0 (zs n slots) (zs n slots) [] [] (-1) false (slots : Int) = some (.inr (-1, false, ((64 * n : Nat) : Int), (slots : Int), D0 n slots, D0 n slots, [])) := by
  unfold f_AttachF f_BImageF f_FImage
  rw [cne hk, bind_some', bind_some', Format_gen hn0 hn1 hs0 hs1, bind_some']
theorem AttE {n slots : Nat} (hn0 : 1 ≤ n) (hn1 : n ≤ 2048) (hs0 : 1 ≤ slots) (hs1 : slots ≤ 1024) {k : Int} (hk : k ≠ 0) (w : Int) : f_AttachE k 0 0 0 (bs (ffs (64 * n))) [] [] w (zs n slots) (zs n slots) [] [] (-1) false (slots : Int) = some (.inr (-1, false, ((64 * n : Nat) : Int), (slots : Int), D0 n slots, D0 n slots, [])) := by
  unfold f_AttachE f_BImageE f_EImage
  rw [cne hk, bind_some', bind_some', Format_gen hn0 hn1 hs0 hs1, bind_some']
end Go.Proofs.YtcgigdfahlmfaaaGreatDoor
