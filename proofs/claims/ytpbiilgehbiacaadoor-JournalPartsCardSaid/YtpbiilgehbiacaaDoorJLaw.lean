/-
  JournalNone, JournalFull: what the laws compute.
-/
import Derived.Test.YtpbiilgehbiacaaDoorJrn2
namespace Go.Proofs.YtpbiilgehbiacaaDoor
open Go.Vc
set_option linter.unusedVariables false
set_option linter.unusedSimpArgs false

def imgL (n : Nat) (t : List UInt8) : List UInt8 := (t ++ List.replicate (64 * n) 0).take (64 * n)
theorem imgL_len (n : Nat) (t : List UInt8) : (imgL n t).length = 64 * n := by unfold imgL; simp
theorem image_eq (n : Nat) (hn : n ≤ 10) (t : List UInt8) (ht : t.length ≤ 140737488355328) : f_image (n : Int) (bs t) = some (bs (imgL n t)) := by
  unfold f_image
  have hr : f_Repeat (ByteArray.mk #[0]) ((n : Int) * 64) = some (bs (List.replicate (64 * n) 0)) := by
    rw [show (n : Int) * 64 = ((64 * n : Nat) : Int) by omega]
    exact repeat_one 0 (64 * n) (by omega)
  rw [wrap_i64 (x := (n : Int) * 64) (by omega) (by omega), hr, bind_some', cfits (by rw [bs_size, bs_size, List.length_replicate]; omega), bs_append, bs_size, cand (by omega) (by simp; omega), cand (by omega) (by omega), bs_extract, show ((n : Int) * 64).toNat - 0 = 64 * n by omega, List.drop_zero]; rfl
theorem New_h {L : Nat} (h0 : 1 ≤ L) (h1 : L ≤ 8192) : f_New (L : Int) = some (.inl (List.replicate L Z, List.replicate L Z, [])) := New_eq (by omega) (by omega)
theorem zeros_full (L : Nat) : Full (List.replicate L Z) := fun s hs => by rw [(List.mem_replicate.1 hs).2]; exact Z_size
def cmd0 : E34 := ⟨1, 2, ByteArray.mk #[120]⟩
theorem cmd0_ok : okE cmd0 = true := by decide
theorem JSync_h {F S : List ByteArray} {W : List E91} (h : Good F S W) (hl : W.length ≤ 2000000) {a b c d e : Int} {o : Bool} : f_JSync a b c d e o F S W [] (-1) false = some (0, -1, false, S, []) := by
  unfold f_JSync
  rw [Sync_h h hl, bind_some']
theorem Crash_h {S : List ByteArray} (h : Full S) (hl : S.length ≤ 8192) : f_Crash S S [] [] (-1) false [] = some (S, S, []) := by
  rw [Crash_eq S S [] [] (-1) false [] (by decide) h (fun w hw => by simp at hw) hl]; rfl
theorem awake_eq : f_awake = some true := by
  have h7 : (List.replicate 7 Z).length = 2 + 2 * 1 + 3 := by simp
  have hA : f_Repeat (ByteArray.mk #[97]) 64 = some (bs (List.replicate 64 97)) := repeat_one 97 64 (by decide)
  have hF := Format_h (F := List.replicate 7 Z) (S := List.replicate 7 Z) (W := []) (n := 1) (slots := 3) (m := List.replicate 64 97) (Good.self (zeros_full 7)) (by simp) h7 (by decide) (by decide) (by decide) (by decide) (by simp)
  have hJ := fmt_JS (S := List.replicate 7 Z) (n := 1) (slots := 3) (m := List.replicate 64 97) (zeros_full 7) h7 (by decide) (by decide) (by decide) (by decide) (by simp)
  obtain ⟨S', W', a1, a2, a3, a4⟩ := Append_h hJ (Good.self hJ.full) (by simp) cmd0 cmd0_ok (by simp)
  unfold f_awake
  rw [show f_Sectors 64 3 = some (7, 0) from Sectors_h (n := 1) (slots := 3) (by decide) (by decide) (by decide) (by decide), bind_some']
  dsimp only
  rw [show f_New 7 = _ from New_h (L := 7) (by decide) (by decide), bind_some']
  dsimp only
  rw [hA, bind_some', show f_Format (List.replicate 7 Z) (List.replicate 7 Z) [] [] (-1) false (bs (List.replicate 64 97)) 3 = _ from hF, bind_some']
  dsimp only
  rw [show f_Append ((64 * 1 : Nat) : Int) ((3 : Nat) : Int) 1 1 0 false (fmt (List.replicate 7 Z) 1 3 (List.replicate 64 97)) (fmt (List.replicate 7 Z) 1 3 (List.replicate 64 97)) [] [] (-1) false 1 2 (ByteArray.mk #[120]) = _ from a1, bind_some']
  dsimp only
  rw [JSync_h a3 (by rw [a4]; decide), bind_some']
  dsimp only
  have hc := Crash_h a2.full (by rw [a2.len]; decide)
  have hcr : f_Crash S' S' [] [] (-1) false [] = some (S', S', []) := hc
  rw [hcr, bind_some']
  dsimp only
  rw [show f_JOpen S' S' [] [] (-1) false 64 3 = _ from JOpen_h a2, bind_some']
  dsimp only
  rw [ceq rfl, ceq rfl, ceq rfl, ceq rfl, bind_some', beq_bs, cpos rfl, ceq (show (((([] : List E34) ++ [cmd0]).length : Nat) : Int) = 1 from rfl), cand (by decide) (by decide), Let_eq]
  show some ((cmd0.Kind == 1) && ((cmd0.Addr == 2) && (cmd0.Data == ByteArray.mk #[120]))) = some true
  have hb : (ByteArray.mk #[120] == ByteArray.mk #[120]) = true := by
    show (bs [120] == bs [120]) = true
    rw [bs_beq]; decide
  simp [cmd0, hb]
def cmdB : E34 := ⟨3, 0, ByteArray.mk #[]⟩
theorem cmdB_ok : okE cmdB = true := by decide
theorem JournalNone_eq (k a : Int) (d t : ByteArray) (slots : Int) (ht : t.size ≤ 140737488351232) : f_JournalNone k a d t slots = some true := by
  unfold f_JournalNone
  rw [awake_eq, bind_some', cfalse (show (!true) = false from rfl), ← bs_list t, show f_image 1 (bs t.data.toList) = some (bs (imgL 1 t.data.toList)) from image_eq 1 (by decide) _ (by rw [← size_list]; omega), bind_some']
  have e1 : f_FormatN (bs (imgL 1 t.data.toList)) 4 = some 10 := by
    unfold f_FormatN f_fitsN
    rw [bs_size, imgL_len, show f_Sectors ((64 * 1 : Nat) : Int) 4 = _ from Sectors_h (n := 1) (slots := 4) (by decide) (by decide) (by decide) (by decide), bind_some']
    rfl
  have e2 : f_JOpenN 64 4 = some (ByteArray.mk #[], 10, []) := by
    unfold f_JOpenN f_fitsN
    rw [show f_Sectors 64 4 = _ from Sectors_h (n := 1) (slots := 4) (by decide) (by decide) (by decide) (by decide), bind_some']
    rfl
  have e3 : f_JOpenN 63 slots = some (ByteArray.mk #[], 1, []) := by
    unfold f_JOpenN f_fitsN f_Sectors
    rw [cpos (by decide), bind_some']
    rfl
  rw [e1, bind_some', e2, bind_some']
  dsimp only
  rw [e3, bind_some']
  rfl
end Go.Proofs.YtpbiilgehbiacaaDoor
