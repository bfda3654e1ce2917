/-
  Halfwords 40960 to 49151: both decodings say the same.
-/
import Derived.Test.YtigpcfocaipicaaChk
namespace Go.Proofs.Ytigpcfocaipicaa
open Go.Vc

theorem chk_5_0 : ((List.range 16).all fun t => chkT (640 + t)) = true := by kernel_rfl
theorem chk_5_1 : ((List.range 16).all fun t => chkT (656 + t)) = true := by kernel_rfl
theorem chk_5_2 : ((List.range 16).all fun t => chkT (672 + t)) = true := by kernel_rfl
theorem chk_5_3 : ((List.range 16).all fun t => chkT (688 + t)) = true := by kernel_rfl
theorem chk_5_4 : ((List.range 16).all fun t => chkT (704 + t)) = true := by kernel_rfl
theorem chk_5_5 : ((List.range 16).all fun t => chkT (720 + t)) = true := by kernel_rfl
theorem chk_5_6 : ((List.range 16).all fun t => chkT (736 + t)) = true := by kernel_rfl
theorem chk_5_7 : ((List.range 16).all fun t => chkT (752 + t)) = true := by kernel_rfl
theorem chkM_5 (t : Nat) (h0 : 640 ≤ t) (h1 : t < 768) : chkT t = true := by
  by_cases h2 : t < 656
  · exact chk_part chk_5_0 t (by omega) (by omega)
  by_cases h3 : t < 672
  · exact chk_part chk_5_1 t (by omega) (by omega)
  by_cases h4 : t < 688
  · exact chk_part chk_5_2 t (by omega) (by omega)
  by_cases h5 : t < 704
  · exact chk_part chk_5_3 t (by omega) (by omega)
  by_cases h6 : t < 720
  · exact chk_part chk_5_4 t (by omega) (by omega)
  by_cases h7 : t < 736
  · exact chk_part chk_5_5 t (by omega) (by omega)
  by_cases h8 : t < 752
  · exact chk_part chk_5_6 t (by omega) (by omega)
  exact chk_part chk_5_7 t (by omega) (by omega)
end Go.Proofs.Ytigpcfocaipicaa
