/-
  Halfwords 0 to 8191: both decodings say the same.
-/
import Derived.Test.YtigpcfocaipicaaChk
namespace Go.Proofs.Ytigpcfocaipicaa
open Go.Vc

theorem chk_0_0 : ((List.range 16).all fun t => chkT (0 + t)) = true := by kernel_rfl
theorem chk_0_1 : ((List.range 16).all fun t => chkT (16 + t)) = true := by kernel_rfl
theorem chk_0_2 : ((List.range 16).all fun t => chkT (32 + t)) = true := by kernel_rfl
theorem chk_0_3 : ((List.range 16).all fun t => chkT (48 + t)) = true := by kernel_rfl
theorem chk_0_4 : ((List.range 16).all fun t => chkT (64 + t)) = true := by kernel_rfl
theorem chk_0_5 : ((List.range 16).all fun t => chkT (80 + t)) = true := by kernel_rfl
theorem chk_0_6 : ((List.range 16).all fun t => chkT (96 + t)) = true := by kernel_rfl
theorem chk_0_7 : ((List.range 16).all fun t => chkT (112 + t)) = true := by kernel_rfl
theorem chkM_0 (t : Nat) (h0 : 0 ≤ t) (h1 : t < 128) : chkT t = true := by
  by_cases h2 : t < 16
  · exact chk_part chk_0_0 t (by omega) (by omega)
  by_cases h3 : t < 32
  · exact chk_part chk_0_1 t (by omega) (by omega)
  by_cases h4 : t < 48
  · exact chk_part chk_0_2 t (by omega) (by omega)
  by_cases h5 : t < 64
  · exact chk_part chk_0_3 t (by omega) (by omega)
  by_cases h6 : t < 80
  · exact chk_part chk_0_4 t (by omega) (by omega)
  by_cases h7 : t < 96
  · exact chk_part chk_0_5 t (by omega) (by omega)
  by_cases h8 : t < 112
  · exact chk_part chk_0_6 t (by omega) (by omega)
  exact chk_part chk_0_7 t (by omega) (by omega)
end Go.Proofs.Ytigpcfocaipicaa
