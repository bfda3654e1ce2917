/-
  CpuStacks: the tape's stores, and counting bits.
-/
import Derived.Test.YtdjgicimfeocbaaGreatAwM
import Derived.Test.YtdjgicimfeocbaaGreatStart
import Derived.Laws.BitsAllLaws
namespace Go.Proofs.YtdjgicimfeocbaaGreat
open Go.Vc
set_option linter.unusedVariables false
set_option linter.unusedSimpArgs false

/-- A word stored. -/
def st4 (m : Nat → Int) (a y : Int) : Nat → Int := rup (rup (rup (rup m a.toNat (y % 256)) (a.toNat + 1) (y / 256 % 256)) (a.toNat + 2) (y / 65536 % 256)) (a.toNat + 3) (y / 16777216 % 256)
def st4s (m : Nat → Int) (a y : Int) : Nat → Nat → Int
  | 0 => m
  | 1 => rup m a.toNat (y % 256)
  | 2 => rup (rup m a.toNat (y % 256)) (a.toNat + 1) (y / 256 % 256)
  | 3 => rup (rup (rup m a.toNat (y % 256)) (a.toNat + 1) (y / 256 % 256)) (a.toNat + 2) (y / 65536 % 256)
  | _ => st4 m a y
theorem tStore_eq {m : Nat → Int} {log : List E51} (hl : log.length ≤ 1000000) {a y cl : Int} (h0 : 0 ≤ a) (h1 : a < 4090) (y0 : 0 ≤ y) (y1 : y < 4294967296) : f_tStore m log a 4 cl y = some (st4 m a y, log ++ [⟨0, 0, a, 4, true, y, cl⟩]) := by
  unfold f_tStore
  rw [cpos (by simp; omega)]
  have key : ∀ i : Nat, i < 4 → (bits .and .u32 (IntKind.wrap .u32 (a + IntKind.wrap .u32 (i : Int))) 4095 = a + (i : Int)) := fun i hi => by rw [at_i h0 (by omega) (by omega) (by omega)]; omega
  refine loopO_for (fun i => (((i : Nat) : Int), st4s m a y i)) 4 (fun i hi => ?_) ?_
  · show cond (decide ((i : Int) < 4)) _ _ = _
    rw [cpos (by omega), key i hi, wrap_i64 (x := 8 * (i : Int)) (by omega) (by omega), cpos (by omega), cand (by omega) (by omega), wrap_i64 (by omega) (by omega), wr_u8]
    match i, hi with
    | 0, _ =>
      show some (Sum.inl ((1 : Int), rup m (a + 0).toNat (Int.fdiv y 1 % 256))) = _
      rw [fdiv_pos (by decide), Int.ediv_one, Int.add_zero]; rfl
    | 1, _ =>
      show some (Sum.inl ((2 : Int), rup _ (a + 1).toNat (Int.fdiv y 256 % 256))) = _
      rw [fdiv_pos (by decide), show (a + 1).toNat = a.toNat + 1 by omega]; rfl
    | 2, _ =>
      show some (Sum.inl ((3 : Int), rup _ (a + 2).toNat (Int.fdiv y 65536 % 256))) = _
      rw [fdiv_pos (by decide), show (a + 2).toNat = a.toNat + 2 by omega]; rfl
    | 3, _ =>
      show some (Sum.inl ((4 : Int), rup _ (a + 3).toNat (Int.fdiv y 16777216 % 256))) = _
      rw [fdiv_pos (by decide), show (a + 3).toNat = a.toNat + 3 by omega]; rfl
  · rfl
theorem st4_byt {m : Nat → Int} (hm : Byt m) (a y : Int) : Byt (st4 m a y) := by
  unfold st4
  exact (((hm.rup _ (by omega) (by omega)).rup _ (by omega) (by omega)).rup _ (by omega) (by omega)).rup _ (by omega) (by omega)
theorem st4_other {m : Nat → Int} {a y b : Int} (a0 : 0 ≤ a) (a1 : a < 4090) (b0 : 0 ≤ b) (b1 : b < 4096) (h : b < a ∨ a + 4 ≤ b) : mb (st4 m a y) b = mb m b := by
  unfold mb st4
  rw [rup_ne _ _ (by omega), rup_ne _ _ (by omega), rup_ne _ _ (by omega), rup_ne _ _ (by omega)]
theorem wd_other {m : Nat → Int} {a y b : Int} (a0 : 0 ≤ a) (a1 : a < 4090) (b0 : 0 ≤ b) (b1 : b + 3 < 4096) (h : b + 4 ≤ a ∨ a + 4 ≤ b) : wd (st4 m a y) b = wd m b := by
  unfold wd
  rw [st4_other a0 a1 (by omega) (by omega) (by omega), st4_other a0 a1 (by omega) (by omega) (by omega), st4_other a0 a1 (by omega) (by omega) (by omega), st4_other a0 a1 (by omega) (by omega) (by omega)]
theorem wd_same {m : Nat → Int} {a y : Int} (a0 : 0 ≤ a) (a1 : a < 4090) (y0 : 0 ≤ y) (y1 : y < 4294967296) : wd (st4 m a y) a = y := by
  have e0 : mb (st4 m a y) a = y % 256 := by
    unfold mb st4
    rw [show (a % 4096).toNat = a.toNat by omega, rup_ne _ _ (by omega), rup_ne _ _ (by omega), rup_ne _ _ (by omega), rup_at]
  have e1 : mb (st4 m a y) (a + 1) = y / 256 % 256 := by
    unfold mb st4
    rw [show ((a + 1) % 4096).toNat = a.toNat + 1 by omega, rup_ne _ _ (by omega), rup_ne _ _ (by omega), rup_at]
  have e2 : mb (st4 m a y) (a + 2) = y / 65536 % 256 := by
    unfold mb st4
    rw [show ((a + 2) % 4096).toNat = a.toNat + 2 by omega, rup_ne _ _ (by omega), rup_at]
  have e3 : mb (st4 m a y) (a + 3) = y / 16777216 % 256 := by
    unfold mb st4
    rw [show ((a + 3) % 4096).toNat = a.toNat + 3 by omega, rup_at]
  unfold wd
  rw [e0, e1, e2, e3]; omega
end Go.Proofs.YtdjgicimfeocbaaGreat
