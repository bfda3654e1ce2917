/-
  Halfwords 24576 to 32767: both decodings say the same.
-/
import Derived.Test.YtigpcfocaipicaaChk
namespace Go.Proofs.Ytigpcfocaipicaa
open Go.Vc

theorem chk_3_0 : ((List.range 16).all fun t => chkT (384 + t)) = true := by kernel_rfl
theorem chk_3_1 : ((List.range 16).all fun t => chkT (400 + t)) = true := by kernel_rfl
theorem chk_3_2 : ((List.range 16).all fun t => chkT (416 + t)) = true := by kernel_rfl
theorem chk_3_3 : ((List.range 16).all fun t => chkT (432 + t)) = true := by kernel_rfl
theorem chk_3_4 : ((List.range 16).all fun t => chkT (448 + t)) = true := by kernel_rfl
theorem chk_3_5 : ((List.range 16).all fun t => chkT (464 + t)) = true := by kernel_rfl
theorem chk_3_6 : ((List.range 16).all fun t => chkT (480 + t)) = true := by kernel_rfl
theorem chk_3_7 : ((List.range 16).all fun t => chkT (496 + t)) = true := by kernel_rfl
theorem chkM_3 (t : Nat) (h0 : 384 ≤ t) (h1 : t < 512) : chkT t = true := by
  by_cases h2 : t < 400
  · exact chk_part chk_3_0 t (by omega) (by omega)
  by_cases h3 : t < 416
  · exact chk_part chk_3_1 t (by omega) (by omega)
  by_cases h4 : t < 432
  · exact chk_part chk_3_2 t (by omega) (by omega)
  by_cases h5 : t < 448
  · exact chk_part chk_3_3 t (by omega) (by omega)
  by_cases h6 : t < 464
  · exact chk_part chk_3_4 t (by omega) (by omega)
  by_cases h7 : t < 480
  · exact chk_part chk_3_5 t (by omega) (by omega)
  by_cases h8 : t < 496
  · exact chk_part chk_3_6 t (by omega) (by omega)
  exact chk_part chk_3_7 t (by omega) (by omega)
end Go.Proofs.Ytigpcfocaipicaa
