/-
  Both decodings are the same.
-/
import Derived.Test.YtigpcfocaipicaaC0
import Derived.Test.YtigpcfocaipicaaC1
import Derived.Test.YtigpcfocaipicaaC2
import Derived.Test.YtigpcfocaipicaaC3
import Derived.Test.YtigpcfocaipicaaC4
import Derived.Test.YtigpcfocaipicaaC5
import Derived.Test.YtigpcfocaipicaaC6
import Derived.Test.YtigpcfocaipicaaC7
import Derived.Test.YtigpcfocaipicaaRo
namespace Go.Proofs.Ytigpcfocaipicaa
open Go.Vc
set_option linter.unusedVariables false
set_option linter.unusedSimpArgs false

theorem chk_all (t : Nat) (h : t < 1024) : chkT t = true := by
  by_cases h0 : t < 128
  · exact chkM_0 t (by omega) h0
  by_cases h1 : t < 256
  · exact chkM_1 t (by omega) h1
  by_cases h2 : t < 384
  · exact chkM_2 t (by omega) h2
  by_cases h3 : t < 512
  · exact chkM_3 t (by omega) h3
  by_cases h4 : t < 640
  · exact chkM_4 t (by omega) h4
  by_cases h5 : t < 768
  · exact chkM_5 t (by omega) h5
  by_cases h6 : t < 896
  · exact chkM_6 t (by omega) h6
  exact chkM_7 t (by omega) h
theorem both (q : Nat) (hq : q < 65536) : ∃ (x0 x1 x2 : Int) (x3 : Bool) (x4 x5 x6 x7 x8 : Int) (x9 : Bool) (x10 x11 : Int) (x12 x13 x14 x16 x17 x18 : Bool) (x20 : Int) (x23 : Bool),
    f_Decode (q : Int) = some (x0, x1, x2, x3, x4, x5, x6, x7, x8, x9, x10, x11, x12, x13, x14, x16, x17, x18, x20, x23) ∧
    f_rDecode (q : Int) = some (x0, x1, x2, x3, x4, x5, x6, x7, x8, x9, x10, x11, x12, x13, x14, false, x16, x17, x18, false, x20, false, false, x23) := by
  have h := chkT_eq (chk_all (q / 64) (by omega))
  rw [d_Decode_eq q hq, rDecode_eq q hq]
  generalize d_Decode q = o at h
  generalize refD tbl q = y at h
  cases o with
  | none => cases h
  | some x =>
    obtain ⟨x0, x1, x2, x3, x4, x5, x6, x7, x8, x9, x10, x11, x12, x13, x14, x16, x17, x18, x20, x23⟩ := x
    obtain ⟨y0, y1, y2, y3, y4, y5, y6, y7, y8, y9, y10, y11, y12, y13, y14, y15, y16, y17, y18, y19, y20, y21, y22, y23⟩ := y
    simp only [eqv, Bool.and_eq_true] at h
    obtain ⟨h0, h1, h2, h3, h4, h5, h6, h7, h8, h9, h10, h11, h12, h13, h14, h15, h16, h17, h18, h19, h20, h21, h22, h23⟩ := h
    refine ⟨x0, x1, x2, x3, x4, x5, x6, x7, x8, x9, x10, x11, x12, x13, x14, x16, x17, x18, x20, x23, rfl, ?_⟩
    rw [eqI_eq h0, eqI_eq h1, eqI_eq h2, eqB_eq h3, eqI_eq h4, eqI_eq h5, eqI_eq h6, eqI_eq h7, eqI_eq h8, eqB_eq h9, eqI_eq h10, eqI_eq h11, eqB_eq h12, eqB_eq h13, eqB_eq h14, ← eqB_eq h15, eqB_eq h16, eqB_eq h17, eqB_eq h18, ← eqB_eq h19, eqI_eq h20, ← eqB_eq h21, ← eqB_eq h22, eqB_eq h23]
theorem awake_eq : f_awake = some true := by decide +kernel
end Go.Proofs.Ytigpcfocaipicaa
