/-
  Halfwords 57344 to 65535: both decodings say the same.
-/
import Derived.Test.YtigpcfocaipicaaChk
namespace Go.Proofs.Ytigpcfocaipicaa
open Go.Vc

theorem chk_7_0 : ((List.range 16).all fun t => chkT (896 + t)) = true := by kernel_rfl
theorem chk_7_1 : ((List.range 16).all fun t => chkT (912 + t)) = true := by kernel_rfl
theorem chk_7_2 : ((List.range 16).all fun t => chkT (928 + t)) = true := by kernel_rfl
theorem chk_7_3 : ((List.range 16).all fun t => chkT (944 + t)) = true := by kernel_rfl
theorem chk_7_4 : ((List.range 16).all fun t => chkT (960 + t)) = true := by kernel_rfl
theorem chk_7_5 : ((List.range 16).all fun t => chkT (976 + t)) = true := by kernel_rfl
theorem chk_7_6 : ((List.range 16).all fun t => chkT (992 + t)) = true := by kernel_rfl
theorem chk_7_7 : ((List.range 16).all fun t => chkT (1008 + t)) = true := by kernel_rfl
theorem chkM_7 (t : Nat) (h0 : 896 ≤ t) (h1 : t < 1024) : chkT t = true := by
  by_cases h2 : t < 912
  · exact chk_part chk_7_0 t (by omega) (by omega)
  by_cases h3 : t < 928
  · exact chk_part chk_7_1 t (by omega) (by omega)
  by_cases h4 : t < 944
  · exact chk_part chk_7_2 t (by omega) (by omega)
  by_cases h5 : t < 960
  · exact chk_part chk_7_3 t (by omega) (by omega)
  by_cases h6 : t < 976
  · exact chk_part chk_7_4 t (by omega) (by omega)
  by_cases h7 : t < 992
  · exact chk_part chk_7_5 t (by omega) (by omega)
  by_cases h8 : t < 1008
  · exact chk_part chk_7_6 t (by omega) (by omega)
  exact chk_part chk_7_7 t (by omega) (by omega)
end Go.Proofs.Ytigpcfocaipicaa
