/-
  Halfwords 8192 to 16383: both decodings say the same.
-/
import Derived.Test.YtigpcfocaipicaaChk
namespace Go.Proofs.Ytigpcfocaipicaa
open Go.Vc

theorem chk_1_0 : ((List.range 16).all fun t => chkT (128 + t)) = true := by kernel_rfl
theorem chk_1_1 : ((List.range 16).all fun t => chkT (144 + t)) = true := by kernel_rfl
theorem chk_1_2 : ((List.range 16).all fun t => chkT (160 + t)) = true := by kernel_rfl
theorem chk_1_3 : ((List.range 16).all fun t => chkT (176 + t)) = true := by kernel_rfl
theorem chk_1_4 : ((List.range 16).all fun t => chkT (192 + t)) = true := by kernel_rfl
theorem chk_1_5 : ((List.range 16).all fun t => chkT (208 + t)) = true := by kernel_rfl
theorem chk_1_6 : ((List.range 16).all fun t => chkT (224 + t)) = true := by kernel_rfl
theorem chk_1_7 : ((List.range 16).all fun t => chkT (240 + t)) = true := by kernel_rfl
theorem chkM_1 (t : Nat) (h0 : 128 ≤ t) (h1 : t < 256) : chkT t = true := by
  by_cases h2 : t < 144
  · exact chk_part chk_1_0 t (by omega) (by omega)
  by_cases h3 : t < 160
  · exact chk_part chk_1_1 t (by omega) (by omega)
  by_cases h4 : t < 176
  · exact chk_part chk_1_2 t (by omega) (by omega)
  by_cases h5 : t < 192
  · exact chk_part chk_1_3 t (by omega) (by omega)
  by_cases h6 : t < 208
  · exact chk_part chk_1_4 t (by omega) (by omega)
  by_cases h7 : t < 224
  · exact chk_part chk_1_5 t (by omega) (by omega)
  by_cases h8 : t < 240
  · exact chk_part chk_1_6 t (by omega) (by omega)
  exact chk_part chk_1_7 t (by omega) (by omega)
end Go.Proofs.Ytigpcfocaipicaa
