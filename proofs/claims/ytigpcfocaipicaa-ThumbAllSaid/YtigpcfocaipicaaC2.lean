/-
  Halfwords 16384 to 24575: both decodings say the same.
-/
import Derived.Test.YtigpcfocaipicaaChk
namespace Go.Proofs.Ytigpcfocaipicaa
open Go.Vc

theorem chk_2_0 : ((List.range 16).all fun t => chkT (256 + t)) = true := by kernel_rfl
theorem chk_2_1 : ((List.range 16).all fun t => chkT (272 + t)) = true := by kernel_rfl
theorem chk_2_2 : ((List.range 16).all fun t => chkT (288 + t)) = true := by kernel_rfl
theorem chk_2_3 : ((List.range 16).all fun t => chkT (304 + t)) = true := by kernel_rfl
theorem chk_2_4 : ((List.range 16).all fun t => chkT (320 + t)) = true := by kernel_rfl
theorem chk_2_5 : ((List.range 16).all fun t => chkT (336 + t)) = true := by kernel_rfl
theorem chk_2_6 : ((List.range 16).all fun t => chkT (352 + t)) = true := by kernel_rfl
theorem chk_2_7 : ((List.range 16).all fun t => chkT (368 + t)) = true := by kernel_rfl
theorem chkM_2 (t : Nat) (h0 : 256 ≤ t) (h1 : t < 384) : chkT t = true := by
  by_cases h2 : t < 272
  · exact chk_part chk_2_0 t (by omega) (by omega)
  by_cases h3 : t < 288
  · exact chk_part chk_2_1 t (by omega) (by omega)
  by_cases h4 : t < 304
  · exact chk_part chk_2_2 t (by omega) (by omega)
  by_cases h5 : t < 320
  · exact chk_part chk_2_3 t (by omega) (by omega)
  by_cases h6 : t < 336
  · exact chk_part chk_2_4 t (by omega) (by omega)
  by_cases h7 : t < 352
  · exact chk_part chk_2_5 t (by omega) (by omega)
  by_cases h8 : t < 368
  · exact chk_part chk_2_6 t (by omega) (by omega)
  exact chk_part chk_2_7 t (by omega) (by omega)
end Go.Proofs.Ytigpcfocaipicaa
