/-
  Halfwords 49152 to 57343: both decodings say the same.
-/
import Derived.Test.YtigpcfocaipicaaChk
namespace Go.Proofs.Ytigpcfocaipicaa
open Go.Vc

theorem chk_6_0 : ((List.range 16).all fun t => chkT (768 + t)) = true := by kernel_rfl
theorem chk_6_1 : ((List.range 16).all fun t => chkT (784 + t)) = true := by kernel_rfl
theorem chk_6_2 : ((List.range 16).all fun t => chkT (800 + t)) = true := by kernel_rfl
theorem chk_6_3 : ((List.range 16).all fun t => chkT (816 + t)) = true := by kernel_rfl
theorem chk_6_4 : ((List.range 16).all fun t => chkT (832 + t)) = true := by kernel_rfl
theorem chk_6_5 : ((List.range 16).all fun t => chkT (848 + t)) = true := by kernel_rfl
theorem chk_6_6 : ((List.range 16).all fun t => chkT (864 + t)) = true := by kernel_rfl
theorem chk_6_7 : ((List.range 16).all fun t => chkT (880 + t)) = true := by kernel_rfl
theorem chkM_6 (t : Nat) (h0 : 768 ≤ t) (h1 : t < 896) : chkT t = true := by
  by_cases h2 : t < 784
  · exact chk_part chk_6_0 t (by omega) (by omega)
  by_cases h3 : t < 800
  · exact chk_part chk_6_1 t (by omega) (by omega)
  by_cases h4 : t < 816
  · exact chk_part chk_6_2 t (by omega) (by omega)
  by_cases h5 : t < 832
  · exact chk_part chk_6_3 t (by omega) (by omega)
  by_cases h6 : t < 848
  · exact chk_part chk_6_4 t (by omega) (by omega)
  by_cases h7 : t < 864
  · exact chk_part chk_6_5 t (by omega) (by omega)
  by_cases h8 : t < 880
  · exact chk_part chk_6_6 t (by omega) (by omega)
  exact chk_part chk_6_7 t (by omega) (by omega)
end Go.Proofs.Ytigpcfocaipicaa
