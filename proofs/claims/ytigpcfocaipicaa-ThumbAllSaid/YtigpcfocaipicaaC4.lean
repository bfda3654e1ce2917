/-
  Halfwords 32768 to 40959: both decodings say the same.
-/
import Derived.Test.YtigpcfocaipicaaChk
namespace Go.Proofs.Ytigpcfocaipicaa
open Go.Vc

theorem chk_4_0 : ((List.range 16).all fun t => chkT (512 + t)) = true := by kernel_rfl
theorem chk_4_1 : ((List.range 16).all fun t => chkT (528 + t)) = true := by kernel_rfl
theorem chk_4_2 : ((List.range 16).all fun t => chkT (544 + t)) = true := by kernel_rfl
theorem chk_4_3 : ((List.range 16).all fun t => chkT (560 + t)) = true := by kernel_rfl
theorem chk_4_4 : ((List.range 16).all fun t => chkT (576 + t)) = true := by kernel_rfl
theorem chk_4_5 : ((List.range 16).all fun t => chkT (592 + t)) = true := by kernel_rfl
theorem chk_4_6 : ((List.range 16).all fun t => chkT (608 + t)) = true := by kernel_rfl
theorem chk_4_7 : ((List.range 16).all fun t => chkT (624 + t)) = true := by kernel_rfl
theorem chkM_4 (t : Nat) (h0 : 512 ≤ t) (h1 : t < 640) : chkT t = true := by
  by_cases h2 : t < 528
  · exact chk_part chk_4_0 t (by omega) (by omega)
  by_cases h3 : t < 544
  · exact chk_part chk_4_1 t (by omega) (by omega)
  by_cases h4 : t < 560
  · exact chk_part chk_4_2 t (by omega) (by omega)
  by_cases h5 : t < 576
  · exact chk_part chk_4_3 t (by omega) (by omega)
  by_cases h6 : t < 592
  · exact chk_part chk_4_4 t (by omega) (by omega)
  by_cases h7 : t < 608
  · exact chk_part chk_4_5 t (by omega) (by omega)
  by_cases h8 : t < 624
  · exact chk_part chk_4_6 t (by omega) (by omega)
  exact chk_part chk_4_7 t (by omega) (by omega)
end Go.Proofs.Ytigpcfocaipicaa
