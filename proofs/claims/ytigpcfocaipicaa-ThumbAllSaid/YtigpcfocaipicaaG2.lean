import Derived.Test.YtigpcfocaipicaaG1
namespace Go.Proofs.Ytigpcfocaipicaa
open Go.Vc
set_option linter.unusedVariables false
set_option linter.unusedSimpArgs false

/-! cameo/thumb.Decode -/
abbrev n_Decode : FuncId := 7
def ann_Decode : Ann := ⟨[(8, .phased [2, 5, 7, 8, 9, 10])], [], [(22, [(46, .one (.bool))]), (8, [(17, .one (.bool))]), (5, [(12, .one (.bool))])]⟩
set_option maxRecDepth 100000 in
def p_Decode (q0 : Int) (R : Ending → World → Prop) (w : World) : Prop :=
  Nw w (.cells #[.int .i64 0, .int .i64 0, .int .i64 0, .bool false, .int .i64 0, .int .i64 0, .int .i64 0, .int .i64 0, .int .u32 0, .bool false, .int .i64 0, .int .i64 0, .bool false, .bool false,
  .bool false, .bool false, .bool false, .bool false, .bool false, .bool false, .int .i64 0, .bool false, .bool false, .bool false] 26) fun b w_1 => (∃ J : List Value → World → Prop, (Lt ((Int.fdiv
  (IntKind.wrap .u32 q0) 4096) == 0 : Bool) fun s12 => cond s12 (J [.bool s12] w_1) (Lt ((Int.fdiv (IntKind.wrap .u32 q0) 4096) == 1 : Bool) fun s12_1 => J [.bool s12_1] w_1)) ∧ ∀ (s12_2 : Bool) (w_2
  : World), J [.bool s12_2] w_2 → cond s12_2 ((Calls Try.prog 9 #[.int .u32 (IntKind.wrap .u32 q0)] w_2 fun e w_3 => ∃ (x16_0 : Int) (x16_1 : Int) (x16_2 : Int) (x16_3 : Bool) (x16_4 : Int) (x16_5 :
  Int) (x16_6 : Int) (x16_7 : Int) (x16_8 : Int) (x16_9 : Bool) (x16_10 : Int) (x16_11 : Int) (x16_12 : Bool) (x16_13 : Bool) (x16_14 : Bool) (x16_15 : Bool) (x16_16 : Bool) (x16_17 : Bool) (x16_18 :
  Bool) (x16_19 : Bool) (x16_20 : Int) (x16_21 : Bool) (x16_22 : Bool) (x16_23 : Bool), e = .returned (.agg #[.int .i64 x16_0, .int .i64 x16_1, .int .i64 x16_2, .bool x16_3, .int .i64 x16_4, .int .i64
  x16_5, .int .i64 x16_6, .int .i64 x16_7, .int .u32 x16_8, .bool x16_9, .int .i64 x16_10, .int .i64 x16_11, .bool x16_12, .bool x16_13, .bool x16_14, .bool x16_15, .bool x16_16, .bool x16_17, .bool
  x16_18, .bool x16_19, .int .i64 x16_20, .bool x16_21, .bool x16_22, .bool x16_23]) ∧ St w_3 ⟨b, 0, none⟩ (.int .i64 x16_0) fun w_4 => St w_4 ⟨b, 1, none⟩ (.int .i64 x16_1) fun w_5 => St w_5 ⟨b, 2,
  none⟩ (.int .i64 x16_2) fun w_6 => St w_6 ⟨b, 3, none⟩ (.bool x16_3) fun w_7 => St w_7 ⟨b, 4, none⟩ (.int .i64 x16_4) fun w_8 => St w_8 ⟨b, 5, none⟩ (.int .i64 x16_5) fun w_9 => St w_9 ⟨b, 6, none⟩
  (.int .i64 x16_6) fun w_10 => St w_10 ⟨b, 7, none⟩ (.int .i64 x16_7) fun w_11 => St w_11 ⟨b, 8, none⟩ (.int .u32 x16_8) fun w_12 => St w_12 ⟨b, 9, none⟩ (.bool x16_9) fun w_13 => St w_13 ⟨b, 10,
  none⟩ (.int .i64 x16_10) fun w_14 => St w_14 ⟨b, 11, none⟩ (.int .i64 x16_11) fun w_15 => St w_15 ⟨b, 12, none⟩ (.bool x16_12) fun w_16 => St w_16 ⟨b, 13, none⟩ (.bool x16_13) fun w_17 => St w_17
  ⟨b, 14, none⟩ (.bool x16_14) fun w_18 => St w_18 ⟨b, 15, none⟩ (.bool x16_15) fun w_19 => St w_19 ⟨b, 16, none⟩ (.bool x16_16) fun w_20 => St w_20 ⟨b, 17, none⟩ (.bool x16_17) fun w_21 => St w_21
  ⟨b, 18, none⟩ (.bool x16_18) fun w_22 => St w_22 ⟨b, 19, none⟩ (.bool x16_19) fun w_23 => St w_23 ⟨b, 20, none⟩ (.int .i64 x16_20) fun w_24 => St w_24 ⟨b, 21, none⟩ (.bool x16_21) fun w_25 => St
  w_25 ⟨b, 22, none⟩ (.bool x16_22) fun w_26 => St w_26 ⟨b, 23, none⟩ (.bool x16_23) fun w_27 => (∃ (r_0 : Int), w_27.cell? ⟨b, 0, none⟩ = some (.int .i64 r_0) ∧ (∃ (r_1 : Int), w_27.cell? ⟨b, 1,
  none⟩ = some (.int .i64 r_1) ∧ (∃ (r_2 : Int), w_27.cell? ⟨b, 2, none⟩ = some (.int .i64 r_2) ∧ (∃ (r_3 : Bool), w_27.cell? ⟨b, 3, none⟩ = some (.bool r_3) ∧ (∃ (r_4 : Int), w_27.cell? ⟨b, 4, none⟩
  = some (.int .i64 r_4) ∧ (∃ (r_5 : Int), w_27.cell? ⟨b, 5, none⟩ = some (.int .i64 r_5) ∧ (∃ (r_6 : Int), w_27.cell? ⟨b, 6, none⟩ = some (.int .i64 r_6) ∧ (∃ (r_7 : Int), w_27.cell? ⟨b, 7, none⟩ =
  some (.int .i64 r_7) ∧ (∃ (r_8 : Int), w_27.cell? ⟨b, 8, none⟩ = some (.int .u32 r_8) ∧ (∃ (r_9 : Bool), w_27.cell? ⟨b, 9, none⟩ = some (.bool r_9) ∧ (∃ (r_10 : Int), w_27.cell? ⟨b, 10, none⟩ = some
  (.int .i64 r_10) ∧ (∃ (r_11 : Int), w_27.cell? ⟨b, 11, none⟩ = some (.int .i64 r_11) ∧ (∃ (r_12 : Bool), w_27.cell? ⟨b, 12, none⟩ = some (.bool r_12) ∧ (∃ (r_13 : Bool), w_27.cell? ⟨b, 13, none⟩ =
  some (.bool r_13) ∧ (∃ (r_14 : Bool), w_27.cell? ⟨b, 14, none⟩ = some (.bool r_14) ∧ (∃ (r_15 : Bool), w_27.cell? ⟨b, 15, none⟩ = some (.bool r_15) ∧ (∃ (r_16 : Bool), w_27.cell? ⟨b, 16, none⟩ =
  some (.bool r_16) ∧ (∃ (r_17 : Bool), w_27.cell? ⟨b, 17, none⟩ = some (.bool r_17) ∧ (∃ (r_18 : Bool), w_27.cell? ⟨b, 18, none⟩ = some (.bool r_18) ∧ (∃ (r_19 : Bool), w_27.cell? ⟨b, 19, none⟩ =
  some (.bool r_19) ∧ (∃ (r_20 : Int), w_27.cell? ⟨b, 20, none⟩ = some (.int .i64 r_20) ∧ (∃ (r_21 : Bool), w_27.cell? ⟨b, 21, none⟩ = some (.bool r_21) ∧ (∃ (r_22 : Bool), w_27.cell? ⟨b, 22, none⟩ =
  some (.bool r_22) ∧ (∃ (r_23 : Bool), w_27.cell? ⟨b, 23, none⟩ = some (.bool r_23) ∧ R (.returned (.agg #[.int .i64 r_0, .int .i64 r_1, .int .i64 r_2, .bool r_3, .int .i64 r_4, .int .i64 r_5, .int
  .i64 r_6, .int .i64 r_7, .int .u32 r_8, .bool r_9, .int .i64 r_10, .int .i64 r_11, .bool r_12, .bool r_13, .bool r_14, .bool r_15, .bool r_16, .bool r_17, .bool r_18, .bool r_19, .int .i64 r_20,
  .bool r_21, .bool r_22, .bool r_23])) w_27)))))))))))))))))))))))))) ((∃ J_1 : List Value → World → Prop, (Lt ((Int.fdiv (IntKind.wrap .u32 q0) 4096) == 2 : Bool) fun s17 => cond s17 (J_1 [.bool
  s17] w_2) (Lt ((Int.fdiv (IntKind.wrap .u32 q0) 4096) == 3 : Bool) fun s17_1 => J_1 [.bool s17_1] w_2)) ∧ ∀ (s17_2 : Bool) (w_28 : World), J_1 [.bool s17_2] w_28 → cond s17_2 ((∃ S : World → Prop, S
  (w_28.drewN 1) ∧ (((Calls Try.prog 11 #[.int .u32 (IntKind.wrap .u32 q0), .int .i64 11, .int .i64 2] (w_28.drewN 1) fun e w_29 => ∃ (x22 : Int), e = .returned (.int .i64 x22) ∧ (∃ S_1 : World →
  Prop, S_1 w_29 ∧ chk (decide (0 ≤ x22) && decide (x22 < ((4 : Nat) : Int))) (∃ (x23 : Int), (#[.int .i64 13, .int .i64 10, .int .i64 4, .int .i64 2] : Array Value)[x22.toNat * 1]? = some (.int .i64
  x23) ∧ (((Calls Try.prog 11 #[.int .u32 (IntKind.wrap .u32 q0), .int .i64 8, .int .i64 3] w_29 fun e w_30 => ∃ (x25 : Int), e = .returned (.int .i64 x25) ∧ (S_1 w_30 ∧ (((Calls Try.prog 11 #[.int
  .u32 (IntKind.wrap .u32 q0), .int .i64 8, .int .i64 3] w_30 fun e w_31 => ∃ (x27 : Int), e = .returned (.int .i64 x27) ∧ (S_1 w_31 ∧ (((Calls Try.prog 10 #[.int .i64 x23, .int .i64 x25, .int .i64
  x27] w_31 fun e w_32 => ∃ (x28_0 : Int) (x28_1 : Int) (x28_2 : Int) (x28_3 : Bool) (x28_4 : Int) (x28_5 : Int) (x28_6 : Int) (x28_7 : Int) (x28_8 : Int) (x28_9 : Bool) (x28_10 : Int) (x28_11 : Int)
  (x28_12 : Bool) (x28_13 : Bool) (x28_14 : Bool) (x28_15 : Bool) (x28_16 : Bool) (x28_17 : Bool) (x28_18 : Bool) (x28_19 : Bool) (x28_20 : Int) (x28_21 : Bool) (x28_22 : Bool) (x28_23 : Bool), e =
  .returned (.agg #[.int .i64 x28_0, .int .i64 x28_1, .int .i64 x28_2, .bool x28_3, .int .i64 x28_4, .int .i64 x28_5, .int .i64 x28_6, .int .i64 x28_7, .int .u32 x28_8, .bool x28_9, .int .i64 x28_10,
  .int .i64 x28_11, .bool x28_12, .bool x28_13, .bool x28_14, .bool x28_15, .bool x28_16, .bool x28_17, .bool x28_18, .bool x28_19, .int .i64 x28_20, .bool x28_21, .bool x28_22, .bool x28_23]) ∧ Nw
  w_32 (.cells #[.int .i64 0, .int .i64 0, .int .i64 0, .bool false, .int .i64 0, .int .i64 0, .int .i64 0, .int .i64 0, .int .u32 0, .bool false, .int .i64 0, .int .i64 0, .bool false, .bool false,
  .bool false, .bool false, .bool false, .bool false, .bool false, .bool false, .int .i64 0, .bool false, .bool false, .bool false] 26) fun b_1 w_33 => St w_33 ⟨b_1, 0, none⟩ (.int .i64 x28_0) fun
  w_34 => St w_34 ⟨b_1, 1, none⟩ (.int .i64 x28_1) fun w_35 => St w_35 ⟨b_1, 2, none⟩ (.int .i64 x28_2) fun w_36 => St w_36 ⟨b_1, 3, none⟩ (.bool x28_3) fun w_37 => St w_37 ⟨b_1, 4, none⟩ (.int .i64
  x28_4) fun w_38 => St w_38 ⟨b_1, 5, none⟩ (.int .i64 x28_5) fun w_39 => St w_39 ⟨b_1, 6, none⟩ (.int .i64 x28_6) fun w_40 => St w_40 ⟨b_1, 7, none⟩ (.int .i64 x28_7) fun w_41 => St w_41 ⟨b_1, 8,
  none⟩ (.int .u32 x28_8) fun w_42 => St w_42 ⟨b_1, 9, none⟩ (.bool x28_9) fun w_43 => St w_43 ⟨b_1, 10, none⟩ (.int .i64 x28_10) fun w_44 => St w_44 ⟨b_1, 11, none⟩ (.int .i64 x28_11) fun w_45 => St
  w_45 ⟨b_1, 12, none⟩ (.bool x28_12) fun w_46 => St w_46 ⟨b_1, 13, none⟩ (.bool x28_13) fun w_47 => St w_47 ⟨b_1, 14, none⟩ (.bool x28_14) fun w_48 => St w_48 ⟨b_1, 15, none⟩ (.bool x28_15) fun w_49
  => St w_49 ⟨b_1, 16, none⟩ (.bool x28_16) fun w_50 => St w_50 ⟨b_1, 17, none⟩ (.bool x28_17) fun w_51 => St w_51 ⟨b_1, 18, none⟩ (.bool x28_18) fun w_52 => St w_52 ⟨b_1, 19, none⟩ (.bool x28_19) fun
  w_53 => St w_53 ⟨b_1, 20, none⟩ (.int .i64 x28_20) fun w_54 => St w_54 ⟨b_1, 21, none⟩ (.bool x28_21) fun w_55 => St w_55 ⟨b_1, 22, none⟩ (.bool x28_22) fun w_56 => St w_56 ⟨b_1, 23, none⟩ (.bool
  x28_23) fun w_57 => St w_57 ⟨b_1, 9, none⟩ (.bool true) fun w_58 => St w_58 ⟨b_1, 8, none⟩ (.int .u32 (bits .and .u32 (IntKind.wrap .u32 q0) 255)) fun w_59 => (∃ (x34 : Int), w_59.cell? ⟨b_1, 2,
  none⟩ = some (.int .i64 x34) ∧ cond (x34 == 13) (St w_59 ⟨b_1, 5, none⟩ (.int .i64 0) fun w_60 => (∃ (x38 : Int), w_60.cell? ⟨b_1, 2, none⟩ = some (.int .i64 x38) ∧ cond (x38 == 10) (St w_60 ⟨b_1,
  4, none⟩ (.int .i64 0) fun w_61 => (∃ (x41_0 : Int), w_61.cell? ⟨b_1, 0, none⟩ = some (.int .i64 x41_0) ∧ (∃ (x41_1 : Int), w_61.cell? ⟨b_1, 1, none⟩ = some (.int .i64 x41_1) ∧ (∃ (x41_2 : Int),
  w_61.cell? ⟨b_1, 2, none⟩ = some (.int .i64 x41_2) ∧ (∃ (x41_3 : Bool), w_61.cell? ⟨b_1, 3, none⟩ = some (.bool x41_3) ∧ (∃ (x41_4 : Int), w_61.cell? ⟨b_1, 4, none⟩ = some (.int .i64 x41_4) ∧ (∃
  (x41_5 : Int), w_61.cell? ⟨b_1, 5, none⟩ = some (.int .i64 x41_5) ∧ (∃ (x41_6 : Int), w_61.cell? ⟨b_1, 6, none⟩ = some (.int .i64 x41_6) ∧ (∃ (x41_7 : Int), w_61.cell? ⟨b_1, 7, none⟩ = some (.int
  .i64 x41_7) ∧ (∃ (x41_8 : Int), w_61.cell? ⟨b_1, 8, none⟩ = some (.int .u32 x41_8) ∧ (∃ (x41_9 : Bool), w_61.cell? ⟨b_1, 9, none⟩ = some (.bool x41_9) ∧ (∃ (x41_10 : Int), w_61.cell? ⟨b_1, 10, none⟩
  = some (.int .i64 x41_10) ∧ (∃ (x41_11 : Int), w_61.cell? ⟨b_1, 11, none⟩ = some (.int .i64 x41_11) ∧ (∃ (x41_12 : Bool), w_61.cell? ⟨b_1, 12, none⟩ = some (.bool x41_12) ∧ (∃ (x41_13 : Bool),
  w_61.cell? ⟨b_1, 13, none⟩ = some (.bool x41_13) ∧ (∃ (x41_14 : Bool), w_61.cell? ⟨b_1, 14, none⟩ = some (.bool x41_14) ∧ (∃ (x41_15 : Bool), w_61.cell? ⟨b_1, 15, none⟩ = some (.bool x41_15) ∧ (∃
  (x41_16 : Bool), w_61.cell? ⟨b_1, 16, none⟩ = some (.bool x41_16) ∧ (∃ (x41_17 : Bool), w_61.cell? ⟨b_1, 17, none⟩ = some (.bool x41_17) ∧ (∃ (x41_18 : Bool), w_61.cell? ⟨b_1, 18, none⟩ = some
  (.bool x41_18) ∧ (∃ (x41_19 : Bool), w_61.cell? ⟨b_1, 19, none⟩ = some (.bool x41_19) ∧ (∃ (x41_20 : Int), w_61.cell? ⟨b_1, 20, none⟩ = some (.int .i64 x41_20) ∧ (∃ (x41_21 : Bool), w_61.cell? ⟨b_1,
  21, none⟩ = some (.bool x41_21) ∧ (∃ (x41_22 : Bool), w_61.cell? ⟨b_1, 22, none⟩ = some (.bool x41_22) ∧ (∃ (x41_23 : Bool), w_61.cell? ⟨b_1, 23, none⟩ = some (.bool x41_23) ∧ St w_61 ⟨b, 0, none⟩
  (.int .i64 x41_0) fun w_62 => St w_62 ⟨b, 1, none⟩ (.int .i64 x41_1) fun w_63 => St w_63 ⟨b, 2, none⟩ (.int .i64 x41_2) fun w_64 => St w_64 ⟨b, 3, none⟩ (.bool x41_3) fun w_65 => St w_65 ⟨b, 4,
  none⟩ (.int .i64 x41_4) fun w_66 => St w_66 ⟨b, 5, none⟩ (.int .i64 x41_5) fun w_67 => St w_67 ⟨b, 6, none⟩ (.int .i64 x41_6) fun w_68 => St w_68 ⟨b, 7, none⟩ (.int .i64 x41_7) fun w_69 => St w_69
  ⟨b, 8, none⟩ (.int .u32 x41_8) fun w_70 => St w_70 ⟨b, 9, none⟩ (.bool x41_9) fun w_71 => St w_71 ⟨b, 10, none⟩ (.int .i64 x41_10) fun w_72 => St w_72 ⟨b, 11, none⟩ (.int .i64 x41_11) fun w_73 => St
  w_73 ⟨b, 12, none⟩ (.bool x41_12) fun w_74 => St w_74 ⟨b, 13, none⟩ (.bool x41_13) fun w_75 => St w_75 ⟨b, 14, none⟩ (.bool x41_14) fun w_76 => St w_76 ⟨b, 15, none⟩ (.bool x41_15) fun w_77 => St
  w_77 ⟨b, 16, none⟩ (.bool x41_16) fun w_78 => St w_78 ⟨b, 17, none⟩ (.bool x41_17) fun w_79 => St w_79 ⟨b, 18, none⟩ (.bool x41_18) fun w_80 => St w_80 ⟨b, 19, none⟩ (.bool x41_19) fun w_81 => St
  w_81 ⟨b, 20, none⟩ (.int .i64 x41_20) fun w_82 => St w_82 ⟨b, 21, none⟩ (.bool x41_21) fun w_83 => St w_83 ⟨b, 22, none⟩ (.bool x41_22) fun w_84 => St w_84 ⟨b, 23, none⟩ (.bool x41_23) fun w_85 =>
  (∃ (r_0_1 : Int), w_85.cell? ⟨b, 0, none⟩ = some (.int .i64 r_0_1) ∧ (∃ (r_1_1 : Int), w_85.cell? ⟨b, 1, none⟩ = some (.int .i64 r_1_1) ∧ (∃ (r_2_1 : Int), w_85.cell? ⟨b, 2, none⟩ = some (.int .i64
  r_2_1) ∧ (∃ (r_3_1 : Bool), w_85.cell? ⟨b, 3, none⟩ = some (.bool r_3_1) ∧ (∃ (r_4_1 : Int), w_85.cell? ⟨b, 4, none⟩ = some (.int .i64 r_4_1) ∧ (∃ (r_5_1 : Int), w_85.cell? ⟨b, 5, none⟩ = some (.int
  .i64 r_5_1) ∧ (∃ (r_6_1 : Int), w_85.cell? ⟨b, 6, none⟩ = some (.int .i64 r_6_1) ∧ (∃ (r_7_1 : Int), w_85.cell? ⟨b, 7, none⟩ = some (.int .i64 r_7_1) ∧ (∃ (r_8_1 : Int), w_85.cell? ⟨b, 8, none⟩ =
  some (.int .u32 r_8_1) ∧ (∃ (r_9_1 : Bool), w_85.cell? ⟨b, 9, none⟩ = some (.bool r_9_1) ∧ (∃ (r_10_1 : Int), w_85.cell? ⟨b, 10, none⟩ = some (.int .i64 r_10_1) ∧ (∃ (r_11_1 : Int), w_85.cell? ⟨b,
  11, none⟩ = some (.int .i64 r_11_1) ∧ (∃ (r_12_1 : Bool), w_85.cell? ⟨b, 12, none⟩ = some (.bool r_12_1) ∧ (∃ (r_13_1 : Bool), w_85.cell? ⟨b, 13, none⟩ = some (.bool r_13_1) ∧ (∃ (r_14_1 : Bool),
  w_85.cell? ⟨b, 14, none⟩ = some (.bool r_14_1) ∧ (∃ (r_15_1 : Bool), w_85.cell? ⟨b, 15, none⟩ = some (.bool r_15_1) ∧ (∃ (r_16_1 : Bool), w_85.cell? ⟨b, 16, none⟩ = some (.bool r_16_1) ∧ (∃ (r_17_1
  : Bool), w_85.cell? ⟨b, 17, none⟩ = some (.bool r_17_1) ∧ (∃ (r_18_1 : Bool), w_85.cell? ⟨b, 18, none⟩ = some (.bool r_18_1) ∧ (∃ (r_19_1 : Bool), w_85.cell? ⟨b, 19, none⟩ = some (.bool r_19_1) ∧ (∃
  (r_20_1 : Int), w_85.cell? ⟨b, 20, none⟩ = some (.int .i64 r_20_1) ∧ (∃ (r_21_1 : Bool), w_85.cell? ⟨b, 21, none⟩ = some (.bool r_21_1) ∧ (∃ (r_22_1 : Bool), w_85.cell? ⟨b, 22, none⟩ = some (.bool
  r_22_1) ∧ (∃ (r_23_1 : Bool), w_85.cell? ⟨b, 23, none⟩ = some (.bool r_23_1) ∧ R (.returned (.agg #[.int .i64 r_0_1, .int .i64 r_1_1, .int .i64 r_2_1, .bool r_3_1, .int .i64 r_4_1, .int .i64 r_5_1,
  .int .i64 r_6_1, .int .i64 r_7_1, .int .u32 r_8_1, .bool r_9_1, .int .i64 r_10_1, .int .i64 r_11_1, .bool r_12_1, .bool r_13_1, .bool r_14_1, .bool r_15_1, .bool r_16_1, .bool r_17_1, .bool r_18_1,
  .bool r_19_1, .int .i64 r_20_1, .bool r_21_1, .bool r_22_1, .bool r_23_1])) w_85))))))))))))))))))))))))))))))))))))))))))))))))) ((∃ (x41_0_1 : Int), w_60.cell? ⟨b_1, 0, none⟩ = some (.int .i64
  x41_0_1) ∧ (∃ (x41_1_1 : Int), w_60.cell? ⟨b_1, 1, none⟩ = some (.int .i64 x41_1_1) ∧ (∃ (x41_2_1 : Int), w_60.cell? ⟨b_1, 2, none⟩ = some (.int .i64 x41_2_1) ∧ (∃ (x41_3_1 : Bool), w_60.cell? ⟨b_1,
  3, none⟩ = some (.bool x41_3_1) ∧ (∃ (x41_4_1 : Int), w_60.cell? ⟨b_1, 4, none⟩ = some (.int .i64 x41_4_1) ∧ (∃ (x41_5_1 : Int), w_60.cell? ⟨b_1, 5, none⟩ = some (.int .i64 x41_5_1) ∧ (∃ (x41_6_1 :
  Int), w_60.cell? ⟨b_1, 6, none⟩ = some (.int .i64 x41_6_1) ∧ (∃ (x41_7_1 : Int), w_60.cell? ⟨b_1, 7, none⟩ = some (.int .i64 x41_7_1) ∧ (∃ (x41_8_1 : Int), w_60.cell? ⟨b_1, 8, none⟩ = some (.int
  .u32 x41_8_1) ∧ (∃ (x41_9_1 : Bool), w_60.cell? ⟨b_1, 9, none⟩ = some (.bool x41_9_1) ∧ (∃ (x41_10_1 : Int), w_60.cell? ⟨b_1, 10, none⟩ = some (.int .i64 x41_10_1) ∧ (∃ (x41_11_1 : Int), w_60.cell?
  ⟨b_1, 11, none⟩ = some (.int .i64 x41_11_1) ∧ (∃ (x41_12_1 : Bool), w_60.cell? ⟨b_1, 12, none⟩ = some (.bool x41_12_1) ∧ (∃ (x41_13_1 : Bool), w_60.cell? ⟨b_1, 13, none⟩ = some (.bool x41_13_1) ∧ (∃
  (x41_14_1 : Bool), w_60.cell? ⟨b_1, 14, none⟩ = some (.bool x41_14_1) ∧ (∃ (x41_15_1 : Bool), w_60.cell? ⟨b_1, 15, none⟩ = some (.bool x41_15_1) ∧ (∃ (x41_16_1 : Bool), w_60.cell? ⟨b_1, 16, none⟩ =
  some (.bool x41_16_1) ∧ (∃ (x41_17_1 : Bool), w_60.cell? ⟨b_1, 17, none⟩ = some (.bool x41_17_1) ∧ (∃ (x41_18_1 : Bool), w_60.cell? ⟨b_1, 18, none⟩ = some (.bool x41_18_1) ∧ (∃ (x41_19_1 : Bool),
  w_60.cell? ⟨b_1, 19, none⟩ = some (.bool x41_19_1) ∧ (∃ (x41_20_1 : Int), w_60.cell? ⟨b_1, 20, none⟩ = some (.int .i64 x41_20_1) ∧ (∃ (x41_21_1 : Bool), w_60.cell? ⟨b_1, 21, none⟩ = some (.bool
  x41_21_1) ∧ (∃ (x41_22_1 : Bool), w_60.cell? ⟨b_1, 22, none⟩ = some (.bool x41_22_1) ∧ (∃ (x41_23_1 : Bool), w_60.cell? ⟨b_1, 23, none⟩ = some (.bool x41_23_1) ∧ St w_60 ⟨b, 0, none⟩ (.int .i64
  x41_0_1) fun w_86 => St w_86 ⟨b, 1, none⟩ (.int .i64 x41_1_1) fun w_87 => St w_87 ⟨b, 2, none⟩ (.int .i64 x41_2_1) fun w_88 => St w_88 ⟨b, 3, none⟩ (.bool x41_3_1) fun w_89 => St w_89 ⟨b, 4, none⟩
  (.int .i64 x41_4_1) fun w_90 => St w_90 ⟨b, 5, none⟩ (.int .i64 x41_5_1) fun w_91 => St w_91 ⟨b, 6, none⟩ (.int .i64 x41_6_1) fun w_92 => St w_92 ⟨b, 7, none⟩ (.int .i64 x41_7_1) fun w_93 => St w_93
  ⟨b, 8, none⟩ (.int .u32 x41_8_1) fun w_94 => St w_94 ⟨b, 9, none⟩ (.bool x41_9_1) fun w_95 => St w_95 ⟨b, 10, none⟩ (.int .i64 x41_10_1) fun w_96 => St w_96 ⟨b, 11, none⟩ (.int .i64 x41_11_1) fun
  w_97 => St w_97 ⟨b, 12, none⟩ (.bool x41_12_1) fun w_98 => St w_98 ⟨b, 13, none⟩ (.bool x41_13_1) fun w_99 => St w_99 ⟨b, 14, none⟩ (.bool x41_14_1) fun w_100 => St w_100 ⟨b, 15, none⟩ (.bool
  x41_15_1) fun w_101 => St w_101 ⟨b, 16, none⟩ (.bool x41_16_1) fun w_102 => St w_102 ⟨b, 17, none⟩ (.bool x41_17_1) fun w_103 => St w_103 ⟨b, 18, none⟩ (.bool x41_18_1) fun w_104 => St w_104 ⟨b, 19,
  none⟩ (.bool x41_19_1) fun w_105 => St w_105 ⟨b, 20, none⟩ (.int .i64 x41_20_1) fun w_106 => St w_106 ⟨b, 21, none⟩ (.bool x41_21_1) fun w_107 => St w_107 ⟨b, 22, none⟩ (.bool x41_22_1) fun w_108 =>
  St w_108 ⟨b, 23, none⟩ (.bool x41_23_1) fun w_109 => (∃ (r_0_2 : Int), w_109.cell? ⟨b, 0, none⟩ = some (.int .i64 r_0_2) ∧ (∃ (r_1_2 : Int), w_109.cell? ⟨b, 1, none⟩ = some (.int .i64 r_1_2) ∧ (∃
  (r_2_2 : Int), w_109.cell? ⟨b, 2, none⟩ = some (.int .i64 r_2_2) ∧ (∃ (r_3_2 : Bool), w_109.cell? ⟨b, 3, none⟩ = some (.bool r_3_2) ∧ (∃ (r_4_2 : Int), w_109.cell? ⟨b, 4, none⟩ = some (.int .i64
  r_4_2) ∧ (∃ (r_5_2 : Int), w_109.cell? ⟨b, 5, none⟩ = some (.int .i64 r_5_2) ∧ (∃ (r_6_2 : Int), w_109.cell? ⟨b, 6, none⟩ = some (.int .i64 r_6_2) ∧ (∃ (r_7_2 : Int), w_109.cell? ⟨b, 7, none⟩ = some
  (.int .i64 r_7_2) ∧ (∃ (r_8_2 : Int), w_109.cell? ⟨b, 8, none⟩ = some (.int .u32 r_8_2) ∧ (∃ (r_9_2 : Bool), w_109.cell? ⟨b, 9, none⟩ = some (.bool r_9_2) ∧ (∃ (r_10_2 : Int), w_109.cell? ⟨b, 10,
  none⟩ = some (.int .i64 r_10_2) ∧ (∃ (r_11_2 : Int), w_109.cell? ⟨b, 11, none⟩ = some (.int .i64 r_11_2) ∧ (∃ (r_12_2 : Bool), w_109.cell? ⟨b, 12, none⟩ = some (.bool r_12_2) ∧ (∃ (r_13_2 : Bool),
  w_109.cell? ⟨b, 13, none⟩ = some (.bool r_13_2) ∧ (∃ (r_14_2 : Bool), w_109.cell? ⟨b, 14, none⟩ = some (.bool r_14_2) ∧ (∃ (r_15_2 : Bool), w_109.cell? ⟨b, 15, none⟩ = some (.bool r_15_2) ∧ (∃
  (r_16_2 : Bool), w_109.cell? ⟨b, 16, none⟩ = some (.bool r_16_2) ∧ (∃ (r_17_2 : Bool), w_109.cell? ⟨b, 17, none⟩ = some (.bool r_17_2) ∧ (∃ (r_18_2 : Bool), w_109.cell? ⟨b, 18, none⟩ = some (.bool
  r_18_2) ∧ (∃ (r_19_2 : Bool), w_109.cell? ⟨b, 19, none⟩ = some (.bool r_19_2) ∧ (∃ (r_20_2 : Int), w_109.cell? ⟨b, 20, none⟩ = some (.int .i64 r_20_2) ∧ (∃ (r_21_2 : Bool), w_109.cell? ⟨b, 21, none⟩
  = some (.bool r_21_2) ∧ (∃ (r_22_2 : Bool), w_109.cell? ⟨b, 22, none⟩ = some (.bool r_22_2) ∧ (∃ (r_23_2 : Bool), w_109.cell? ⟨b, 23, none⟩ = some (.bool r_23_2) ∧ R (.returned (.agg #[.int .i64
  r_0_2, .int .i64 r_1_2, .int .i64 r_2_2, .bool r_3_2, .int .i64 r_4_2, .int .i64 r_5_2, .int .i64 r_6_2, .int .i64 r_7_2, .int .u32 r_8_2, .bool r_9_2, .int .i64 r_10_2, .int .i64 r_11_2, .bool
  r_12_2, .bool r_13_2, .bool r_14_2, .bool r_15_2, .bool r_16_2, .bool r_17_2, .bool r_18_2, .bool r_19_2, .int .i64 r_20_2, .bool r_21_2, .bool r_22_2, .bool r_23_2]))
  w_109))))))))))))))))))))))))))))))))))))))))))))))))))) ((∃ (x38_1 : Int), w_59.cell? ⟨b_1, 2, none⟩ = some (.int .i64 x38_1) ∧ cond (x38_1 == 10) (St w_59 ⟨b_1, 4, none⟩ (.int .i64 0) fun w_110 =>
  (∃ (x41_0_2 : Int), w_110.cell? ⟨b_1, 0, none⟩ = some (.int .i64 x41_0_2) ∧ (∃ (x41_1_2 : Int), w_110.cell? ⟨b_1, 1, none⟩ = some (.int .i64 x41_1_2) ∧ (∃ (x41_2_2 : Int), w_110.cell? ⟨b_1, 2, none⟩
  = some (.int .i64 x41_2_2) ∧ (∃ (x41_3_2 : Bool), w_110.cell? ⟨b_1, 3, none⟩ = some (.bool x41_3_2) ∧ (∃ (x41_4_2 : Int), w_110.cell? ⟨b_1, 4, none⟩ = some (.int .i64 x41_4_2) ∧ (∃ (x41_5_2 : Int),
  w_110.cell? ⟨b_1, 5, none⟩ = some (.int .i64 x41_5_2) ∧ (∃ (x41_6_2 : Int), w_110.cell? ⟨b_1, 6, none⟩ = some (.int .i64 x41_6_2) ∧ (∃ (x41_7_2 : Int), w_110.cell? ⟨b_1, 7, none⟩ = some (.int .i64
  x41_7_2) ∧ (∃ (x41_8_2 : Int), w_110.cell? ⟨b_1, 8, none⟩ = some (.int .u32 x41_8_2) ∧ (∃ (x41_9_2 : Bool), w_110.cell? ⟨b_1, 9, none⟩ = some (.bool x41_9_2) ∧ (∃ (x41_10_2 : Int), w_110.cell? ⟨b_1,
  10, none⟩ = some (.int .i64 x41_10_2) ∧ (∃ (x41_11_2 : Int), w_110.cell? ⟨b_1, 11, none⟩ = some (.int .i64 x41_11_2) ∧ (∃ (x41_12_2 : Bool), w_110.cell? ⟨b_1, 12, none⟩ = some (.bool x41_12_2) ∧ (∃
  (x41_13_2 : Bool), w_110.cell? ⟨b_1, 13, none⟩ = some (.bool x41_13_2) ∧ (∃ (x41_14_2 : Bool), w_110.cell? ⟨b_1, 14, none⟩ = some (.bool x41_14_2) ∧ (∃ (x41_15_2 : Bool), w_110.cell? ⟨b_1, 15, none⟩
  = some (.bool x41_15_2) ∧ (∃ (x41_16_2 : Bool), w_110.cell? ⟨b_1, 16, none⟩ = some (.bool x41_16_2) ∧ (∃ (x41_17_2 : Bool), w_110.cell? ⟨b_1, 17, none⟩ = some (.bool x41_17_2) ∧ (∃ (x41_18_2 :
  Bool), w_110.cell? ⟨b_1, 18, none⟩ = some (.bool x41_18_2) ∧ (∃ (x41_19_2 : Bool), w_110.cell? ⟨b_1, 19, none⟩ = some (.bool x41_19_2) ∧ (∃ (x41_20_2 : Int), w_110.cell? ⟨b_1, 20, none⟩ = some (.int
  .i64 x41_20_2) ∧ (∃ (x41_21_2 : Bool), w_110.cell? ⟨b_1, 21, none⟩ = some (.bool x41_21_2) ∧ (∃ (x41_22_2 : Bool), w_110.cell? ⟨b_1, 22, none⟩ = some (.bool x41_22_2) ∧ (∃ (x41_23_2 : Bool),
  w_110.cell? ⟨b_1, 23, none⟩ = some (.bool x41_23_2) ∧ St w_110 ⟨b, 0, none⟩ (.int .i64 x41_0_2) fun w_111 => St w_111 ⟨b, 1, none⟩ (.int .i64 x41_1_2) fun w_112 => St w_112 ⟨b, 2, none⟩ (.int .i64
  x41_2_2) fun w_113 => St w_113 ⟨b, 3, none⟩ (.bool x41_3_2) fun w_114 => St w_114 ⟨b, 4, none⟩ (.int .i64 x41_4_2) fun w_115 => St w_115 ⟨b, 5, none⟩ (.int .i64 x41_5_2) fun w_116 => St w_116 ⟨b, 6,
  none⟩ (.int .i64 x41_6_2) fun w_117 => St w_117 ⟨b, 7, none⟩ (.int .i64 x41_7_2) fun w_118 => St w_118 ⟨b, 8, none⟩ (.int .u32 x41_8_2) fun w_119 => St w_119 ⟨b, 9, none⟩ (.bool x41_9_2) fun w_120
  => St w_120 ⟨b, 10, none⟩ (.int .i64 x41_10_2) fun w_121 => St w_121 ⟨b, 11, none⟩ (.int .i64 x41_11_2) fun w_122 => St w_122 ⟨b, 12, none⟩ (.bool x41_12_2) fun w_123 => St w_123 ⟨b, 13, none⟩
  (.bool x41_13_2) fun w_124 => St w_124 ⟨b, 14, none⟩ (.bool x41_14_2) fun w_125 => St w_125 ⟨b, 15, none⟩ (.bool x41_15_2) fun w_126 => St w_126 ⟨b, 16, none⟩ (.bool x41_16_2) fun w_127 => St w_127
  ⟨b, 17, none⟩ (.bool x41_17_2) fun w_128 => St w_128 ⟨b, 18, none⟩ (.bool x41_18_2) fun w_129 => St w_129 ⟨b, 19, none⟩ (.bool x41_19_2) fun w_130 => St w_130 ⟨b, 20, none⟩ (.int .i64 x41_20_2) fun
  w_131 => St w_131 ⟨b, 21, none⟩ (.bool x41_21_2) fun w_132 => St w_132 ⟨b, 22, none⟩ (.bool x41_22_2) fun w_133 => St w_133 ⟨b, 23, none⟩ (.bool x41_23_2) fun w_134 => (∃ (r_0_3 : Int), w_134.cell?
  ⟨b, 0, none⟩ = some (.int .i64 r_0_3) ∧ (∃ (r_1_3 : Int), w_134.cell? ⟨b, 1, none⟩ = some (.int .i64 r_1_3) ∧ (∃ (r_2_3 : Int), w_134.cell? ⟨b, 2, none⟩ = some (.int .i64 r_2_3) ∧ (∃ (r_3_3 : Bool),
  w_134.cell? ⟨b, 3, none⟩ = some (.bool r_3_3) ∧ (∃ (r_4_3 : Int), w_134.cell? ⟨b, 4, none⟩ = some (.int .i64 r_4_3) ∧ (∃ (r_5_3 : Int), w_134.cell? ⟨b, 5, none⟩ = some (.int .i64 r_5_3) ∧ (∃ (r_6_3
  : Int), w_134.cell? ⟨b, 6, none⟩ = some (.int .i64 r_6_3) ∧ (∃ (r_7_3 : Int), w_134.cell? ⟨b, 7, none⟩ = some (.int .i64 r_7_3) ∧ (∃ (r_8_3 : Int), w_134.cell? ⟨b, 8, none⟩ = some (.int .u32 r_8_3)
  ∧ (∃ (r_9_3 : Bool), w_134.cell? ⟨b, 9, none⟩ = some (.bool r_9_3) ∧ (∃ (r_10_3 : Int), w_134.cell? ⟨b, 10, none⟩ = some (.int .i64 r_10_3) ∧ (∃ (r_11_3 : Int), w_134.cell? ⟨b, 11, none⟩ = some
  (.int .i64 r_11_3) ∧ (∃ (r_12_3 : Bool), w_134.cell? ⟨b, 12, none⟩ = some (.bool r_12_3) ∧ (∃ (r_13_3 : Bool), w_134.cell? ⟨b, 13, none⟩ = some (.bool r_13_3) ∧ (∃ (r_14_3 : Bool), w_134.cell? ⟨b,
  14, none⟩ = some (.bool r_14_3) ∧ (∃ (r_15_3 : Bool), w_134.cell? ⟨b, 15, none⟩ = some (.bool r_15_3) ∧ (∃ (r_16_3 : Bool), w_134.cell? ⟨b, 16, none⟩ = some (.bool r_16_3) ∧ (∃ (r_17_3 : Bool),
  w_134.cell? ⟨b, 17, none⟩ = some (.bool r_17_3) ∧ (∃ (r_18_3 : Bool), w_134.cell? ⟨b, 18, none⟩ = some (.bool r_18_3) ∧ (∃ (r_19_3 : Bool), w_134.cell? ⟨b, 19, none⟩ = some (.bool r_19_3) ∧ (∃
  (r_20_3 : Int), w_134.cell? ⟨b, 20, none⟩ = some (.int .i64 r_20_3) ∧ (∃ (r_21_3 : Bool), w_134.cell? ⟨b, 21, none⟩ = some (.bool r_21_3) ∧ (∃ (r_22_3 : Bool), w_134.cell? ⟨b, 22, none⟩ = some
  (.bool r_22_3) ∧ (∃ (r_23_3 : Bool), w_134.cell? ⟨b, 23, none⟩ = some (.bool r_23_3) ∧ R (.returned (.agg #[.int .i64 r_0_3, .int .i64 r_1_3, .int .i64 r_2_3, .bool r_3_3, .int .i64 r_4_3, .int .i64
  r_5_3, .int .i64 r_6_3, .int .i64 r_7_3, .int .u32 r_8_3, .bool r_9_3, .int .i64 r_10_3, .int .i64 r_11_3, .bool r_12_3, .bool r_13_3, .bool r_14_3, .bool r_15_3, .bool r_16_3, .bool r_17_3, .bool
  r_18_3, .bool r_19_3, .int .i64 r_20_3, .bool r_21_3, .bool r_22_3, .bool r_23_3])) w_134))))))))))))))))))))))))))))))))))))))))))))))))) ((∃ (x41_0_3 : Int), w_59.cell? ⟨b_1, 0, none⟩ = some (.int
  .i64 x41_0_3) ∧ (∃ (x41_1_3 : Int), w_59.cell? ⟨b_1, 1, none⟩ = some (.int .i64 x41_1_3) ∧ (∃ (x41_2_3 : Int), w_59.cell? ⟨b_1, 2, none⟩ = some (.int .i64 x41_2_3) ∧ (∃ (x41_3_3 : Bool), w_59.cell?
  ⟨b_1, 3, none⟩ = some (.bool x41_3_3) ∧ (∃ (x41_4_3 : Int), w_59.cell? ⟨b_1, 4, none⟩ = some (.int .i64 x41_4_3) ∧ (∃ (x41_5_3 : Int), w_59.cell? ⟨b_1, 5, none⟩ = some (.int .i64 x41_5_3) ∧ (∃
  (x41_6_3 : Int), w_59.cell? ⟨b_1, 6, none⟩ = some (.int .i64 x41_6_3) ∧ (∃ (x41_7_3 : Int), w_59.cell? ⟨b_1, 7, none⟩ = some (.int .i64 x41_7_3) ∧ (∃ (x41_8_3 : Int), w_59.cell? ⟨b_1, 8, none⟩ =
  some (.int .u32 x41_8_3) ∧ (∃ (x41_9_3 : Bool), w_59.cell? ⟨b_1, 9, none⟩ = some (.bool x41_9_3) ∧ (∃ (x41_10_3 : Int), w_59.cell? ⟨b_1, 10, none⟩ = some (.int .i64 x41_10_3) ∧ (∃ (x41_11_3 : Int),
  w_59.cell? ⟨b_1, 11, none⟩ = some (.int .i64 x41_11_3) ∧ (∃ (x41_12_3 : Bool), w_59.cell? ⟨b_1, 12, none⟩ = some (.bool x41_12_3) ∧ (∃ (x41_13_3 : Bool), w_59.cell? ⟨b_1, 13, none⟩ = some (.bool
  x41_13_3) ∧ (∃ (x41_14_3 : Bool), w_59.cell? ⟨b_1, 14, none⟩ = some (.bool x41_14_3) ∧ (∃ (x41_15_3 : Bool), w_59.cell? ⟨b_1, 15, none⟩ = some (.bool x41_15_3) ∧ (∃ (x41_16_3 : Bool), w_59.cell?
  ⟨b_1, 16, none⟩ = some (.bool x41_16_3) ∧ (∃ (x41_17_3 : Bool), w_59.cell? ⟨b_1, 17, none⟩ = some (.bool x41_17_3) ∧ (∃ (x41_18_3 : Bool), w_59.cell? ⟨b_1, 18, none⟩ = some (.bool x41_18_3) ∧ (∃
  (x41_19_3 : Bool), w_59.cell? ⟨b_1, 19, none⟩ = some (.bool x41_19_3) ∧ (∃ (x41_20_3 : Int), w_59.cell? ⟨b_1, 20, none⟩ = some (.int .i64 x41_20_3) ∧ (∃ (x41_21_3 : Bool), w_59.cell? ⟨b_1, 21, none⟩
  = some (.bool x41_21_3) ∧ (∃ (x41_22_3 : Bool), w_59.cell? ⟨b_1, 22, none⟩ = some (.bool x41_22_3) ∧ (∃ (x41_23_3 : Bool), w_59.cell? ⟨b_1, 23, none⟩ = some (.bool x41_23_3) ∧ St w_59 ⟨b, 0, none⟩
  (.int .i64 x41_0_3) fun w_135 => St w_135 ⟨b, 1, none⟩ (.int .i64 x41_1_3) fun w_136 => St w_136 ⟨b, 2, none⟩ (.int .i64 x41_2_3) fun w_137 => St w_137 ⟨b, 3, none⟩ (.bool x41_3_3) fun w_138 => St
  w_138 ⟨b, 4, none⟩ (.int .i64 x41_4_3) fun w_139 => St w_139 ⟨b, 5, none⟩ (.int .i64 x41_5_3) fun w_140 => St w_140 ⟨b, 6, none⟩ (.int .i64 x41_6_3) fun w_141 => St w_141 ⟨b, 7, none⟩ (.int .i64
  x41_7_3) fun w_142 => St w_142 ⟨b, 8, none⟩ (.int .u32 x41_8_3) fun w_143 => St w_143 ⟨b, 9, none⟩ (.bool x41_9_3) fun w_144 => St w_144 ⟨b, 10, none⟩ (.int .i64 x41_10_3) fun w_145 => St w_145 ⟨b,
  11, none⟩ (.int .i64 x41_11_3) fun w_146 => St w_146 ⟨b, 12, none⟩ (.bool x41_12_3) fun w_147 => St w_147 ⟨b, 13, none⟩ (.bool x41_13_3) fun w_148 => St w_148 ⟨b, 14, none⟩ (.bool x41_14_3) fun
  w_149 => St w_149 ⟨b, 15, none⟩ (.bool x41_15_3) fun w_150 => St w_150 ⟨b, 16, none⟩ (.bool x41_16_3) fun w_151 => St w_151 ⟨b, 17, none⟩ (.bool x41_17_3) fun w_152 => St w_152 ⟨b, 18, none⟩ (.bool
  x41_18_3) fun w_153 => St w_153 ⟨b, 19, none⟩ (.bool x41_19_3) fun w_154 => St w_154 ⟨b, 20, none⟩ (.int .i64 x41_20_3) fun w_155 => St w_155 ⟨b, 21, none⟩ (.bool x41_21_3) fun w_156 => St w_156 ⟨b,
  22, none⟩ (.bool x41_22_3) fun w_157 => St w_157 ⟨b, 23, none⟩ (.bool x41_23_3) fun w_158 => (∃ (r_0_4 : Int), w_158.cell? ⟨b, 0, none⟩ = some (.int .i64 r_0_4) ∧ (∃ (r_1_4 : Int), w_158.cell? ⟨b,
  1, none⟩ = some (.int .i64 r_1_4) ∧ (∃ (r_2_4 : Int), w_158.cell? ⟨b, 2, none⟩ = some (.int .i64 r_2_4) ∧ (∃ (r_3_4 : Bool), w_158.cell? ⟨b, 3, none⟩ = some (.bool r_3_4) ∧ (∃ (r_4_4 : Int),
  w_158.cell? ⟨b, 4, none⟩ = some (.int .i64 r_4_4) ∧ (∃ (r_5_4 : Int), w_158.cell? ⟨b, 5, none⟩ = some (.int .i64 r_5_4) ∧ (∃ (r_6_4 : Int), w_158.cell? ⟨b, 6, none⟩ = some (.int .i64 r_6_4) ∧ (∃
  (r_7_4 : Int), w_158.cell? ⟨b, 7, none⟩ = some (.int .i64 r_7_4) ∧ (∃ (r_8_4 : Int), w_158.cell? ⟨b, 8, none⟩ = some (.int .u32 r_8_4) ∧ (∃ (r_9_4 : Bool), w_158.cell? ⟨b, 9, none⟩ = some (.bool
  r_9_4) ∧ (∃ (r_10_4 : Int), w_158.cell? ⟨b, 10, none⟩ = some (.int .i64 r_10_4) ∧ (∃ (r_11_4 : Int), w_158.cell? ⟨b, 11, none⟩ = some (.int .i64 r_11_4) ∧ (∃ (r_12_4 : Bool), w_158.cell? ⟨b, 12,
  none⟩ = some (.bool r_12_4) ∧ (∃ (r_13_4 : Bool), w_158.cell? ⟨b, 13, none⟩ = some (.bool r_13_4) ∧ (∃ (r_14_4 : Bool), w_158.cell? ⟨b, 14, none⟩ = some (.bool r_14_4) ∧ (∃ (r_15_4 : Bool),
  w_158.cell? ⟨b, 15, none⟩ = some (.bool r_15_4) ∧ (∃ (r_16_4 : Bool), w_158.cell? ⟨b, 16, none⟩ = some (.bool r_16_4) ∧ (∃ (r_17_4 : Bool), w_158.cell? ⟨b, 17, none⟩ = some (.bool r_17_4) ∧ (∃
  (r_18_4 : Bool), w_158.cell? ⟨b, 18, none⟩ = some (.bool r_18_4) ∧ (∃ (r_19_4 : Bool), w_158.cell? ⟨b, 19, none⟩ = some (.bool r_19_4) ∧ (∃ (r_20_4 : Int), w_158.cell? ⟨b, 20, none⟩ = some (.int
  .i64 r_20_4) ∧ (∃ (r_21_4 : Bool), w_158.cell? ⟨b, 21, none⟩ = some (.bool r_21_4) ∧ (∃ (r_22_4 : Bool), w_158.cell? ⟨b, 22, none⟩ = some (.bool r_22_4) ∧ (∃ (r_23_4 : Bool), w_158.cell? ⟨b, 23,
  none⟩ = some (.bool r_23_4) ∧ R (.returned (.agg #[.int .i64 r_0_4, .int .i64 r_1_4, .int .i64 r_2_4, .bool r_3_4, .int .i64 r_4_4, .int .i64 r_5_4, .int .i64 r_6_4, .int .i64 r_7_4, .int .u32
  r_8_4, .bool r_9_4, .int .i64 r_10_4, .int .i64 r_11_4, .bool r_12_4, .bool r_13_4, .bool r_14_4, .bool r_15_4, .bool r_16_4, .bool r_17_4, .bool r_18_4, .bool r_19_4, .int .i64 r_20_4, .bool
  r_21_4, .bool r_22_4, .bool r_23_4])) w_158)))))))))))))))))))))))))))))))))))))))))))))))))))))) ∧ (Nw w_31 (.cells #[.int .i64 0, .int .i64 0, .int .i64 0, .bool false, .int .i64 0, .int .i64 0,
  .int .i64 0, .int .i64 0, .int .u32 0, .bool false, .int .i64 0, .int .i64 0, .bool false, .bool false, .bool false, .bool false, .bool false, .bool false, .bool false, .bool false, .int .i64 0,
  .bool false, .bool false, .bool false] 26) fun b_2 w_159 => (S_1 w_159 ∧ (Calls Try.prog 10 #[.int .i64 x23, .int .i64 x25, .int .i64 x27] w_159 fun e w_160 => ∃ (x28_0_1 : Int) (x28_1_1 : Int)
  (x28_2_1 : Int) (x28_3_1 : Bool) (x28_4_1 : Int) (x28_5_1 : Int) (x28_6_1 : Int) (x28_7_1 : Int) (x28_8_1 : Int) (x28_9_1 : Bool) (x28_10_1 : Int) (x28_11_1 : Int) (x28_12_1 : Bool) (x28_13_1 :
  Bool) (x28_14_1 : Bool) (x28_15_1 : Bool) (x28_16_1 : Bool) (x28_17_1 : Bool) (x28_18_1 : Bool) (x28_19_1 : Bool) (x28_20_1 : Int) (x28_21_1 : Bool) (x28_22_1 : Bool) (x28_23_1 : Bool), e =
  .returned (.agg #[.int .i64 x28_0_1, .int .i64 x28_1_1, .int .i64 x28_2_1, .bool x28_3_1, .int .i64 x28_4_1, .int .i64 x28_5_1, .int .i64 x28_6_1, .int .i64 x28_7_1, .int .u32 x28_8_1, .bool
  x28_9_1, .int .i64 x28_10_1, .int .i64 x28_11_1, .bool x28_12_1, .bool x28_13_1, .bool x28_14_1, .bool x28_15_1, .bool x28_16_1, .bool x28_17_1, .bool x28_18_1, .bool x28_19_1, .int .i64 x28_20_1,
  .bool x28_21_1, .bool x28_22_1, .bool x28_23_1]) ∧ St w_160 ⟨b_2, 0, none⟩ (.int .i64 x28_0_1) fun w_161 => St w_161 ⟨b_2, 1, none⟩ (.int .i64 x28_1_1) fun w_162 => St w_162 ⟨b_2, 2, none⟩ (.int
  .i64 x28_2_1) fun w_163 => St w_163 ⟨b_2, 3, none⟩ (.bool x28_3_1) fun w_164 => St w_164 ⟨b_2, 4, none⟩ (.int .i64 x28_4_1) fun w_165 => St w_165 ⟨b_2, 5, none⟩ (.int .i64 x28_5_1) fun w_166 => St
  w_166 ⟨b_2, 6, none⟩ (.int .i64 x28_6_1) fun w_167 => St w_167 ⟨b_2, 7, none⟩ (.int .i64 x28_7_1) fun w_168 => St w_168 ⟨b_2, 8, none⟩ (.int .u32 x28_8_1) fun w_169 => St w_169 ⟨b_2, 9, none⟩ (.bool
  x28_9_1) fun w_170 => St w_170 ⟨b_2, 10, none⟩ (.int .i64 x28_10_1) fun w_171 => St w_171 ⟨b_2, 11, none⟩ (.int .i64 x28_11_1) fun w_172 => St w_172 ⟨b_2, 12, none⟩ (.bool x28_12_1) fun w_173 => St
  w_173 ⟨b_2, 13, none⟩ (.bool x28_13_1) fun w_174 => St w_174 ⟨b_2, 14, none⟩ (.bool x28_14_1) fun w_175 => St w_175 ⟨b_2, 15, none⟩ (.bool x28_15_1) fun w_176 => St w_176 ⟨b_2, 16, none⟩ (.bool
  x28_16_1) fun w_177 => St w_177 ⟨b_2, 17, none⟩ (.bool x28_17_1) fun w_178 => St w_178 ⟨b_2, 18, none⟩ (.bool x28_18_1) fun w_179 => St w_179 ⟨b_2, 19, none⟩ (.bool x28_19_1) fun w_180 => St w_180
  ⟨b_2, 20, none⟩ (.int .i64 x28_20_1) fun w_181 => St w_181 ⟨b_2, 21, none⟩ (.bool x28_21_1) fun w_182 => St w_182 ⟨b_2, 22, none⟩ (.bool x28_22_1) fun w_183 => St w_183 ⟨b_2, 23, none⟩ (.bool
  x28_23_1) fun w_184 => St w_184 ⟨b_2, 9, none⟩ (.bool true) fun w_185 => St w_185 ⟨b_2, 8, none⟩ (.int .u32 (bits .and .u32 (IntKind.wrap .u32 q0) 255)) fun w_186 => (∃ (x34_1 : Int), w_186.cell?
  ⟨b_2, 2, none⟩ = some (.int .i64 x34_1) ∧ cond (x34_1 == 13) (St w_186 ⟨b_2, 5, none⟩ (.int .i64 0) fun w_187 => (∃ (x38_2 : Int), w_187.cell? ⟨b_2, 2, none⟩ = some (.int .i64 x38_2) ∧ cond (x38_2
  == 10) (St w_187 ⟨b_2, 4, none⟩ (.int .i64 0) fun w_188 => (∃ (x41_0_4 : Int), w_188.cell? ⟨b_2, 0, none⟩ = some (.int .i64 x41_0_4) ∧ (∃ (x41_1_4 : Int), w_188.cell? ⟨b_2, 1, none⟩ = some (.int
  .i64 x41_1_4) ∧ (∃ (x41_2_4 : Int), w_188.cell? ⟨b_2, 2, none⟩ = some (.int .i64 x41_2_4) ∧ (∃ (x41_3_4 : Bool), w_188.cell? ⟨b_2, 3, none⟩ = some (.bool x41_3_4) ∧ (∃ (x41_4_4 : Int), w_188.cell?
  ⟨b_2, 4, none⟩ = some (.int .i64 x41_4_4) ∧ (∃ (x41_5_4 : Int), w_188.cell? ⟨b_2, 5, none⟩ = some (.int .i64 x41_5_4) ∧ (∃ (x41_6_4 : Int), w_188.cell? ⟨b_2, 6, none⟩ = some (.int .i64 x41_6_4) ∧ (∃
  (x41_7_4 : Int), w_188.cell? ⟨b_2, 7, none⟩ = some (.int .i64 x41_7_4) ∧ (∃ (x41_8_4 : Int), w_188.cell? ⟨b_2, 8, none⟩ = some (.int .u32 x41_8_4) ∧ (∃ (x41_9_4 : Bool), w_188.cell? ⟨b_2, 9, none⟩ =
  some (.bool x41_9_4) ∧ (∃ (x41_10_4 : Int), w_188.cell? ⟨b_2, 10, none⟩ = some (.int .i64 x41_10_4) ∧ (∃ (x41_11_4 : Int), w_188.cell? ⟨b_2, 11, none⟩ = some (.int .i64 x41_11_4) ∧ (∃ (x41_12_4 :
  Bool), w_188.cell? ⟨b_2, 12, none⟩ = some (.bool x41_12_4) ∧ (∃ (x41_13_4 : Bool), w_188.cell? ⟨b_2, 13, none⟩ = some (.bool x41_13_4) ∧ (∃ (x41_14_4 : Bool), w_188.cell? ⟨b_2, 14, none⟩ = some
  (.bool x41_14_4) ∧ (∃ (x41_15_4 : Bool), w_188.cell? ⟨b_2, 15, none⟩ = some (.bool x41_15_4) ∧ (∃ (x41_16_4 : Bool), w_188.cell? ⟨b_2, 16, none⟩ = some (.bool x41_16_4) ∧ (∃ (x41_17_4 : Bool),
  w_188.cell? ⟨b_2, 17, none⟩ = some (.bool x41_17_4) ∧ (∃ (x41_18_4 : Bool), w_188.cell? ⟨b_2, 18, none⟩ = some (.bool x41_18_4) ∧ (∃ (x41_19_4 : Bool), w_188.cell? ⟨b_2, 19, none⟩ = some (.bool
  x41_19_4) ∧ (∃ (x41_20_4 : Int), w_188.cell? ⟨b_2, 20, none⟩ = some (.int .i64 x41_20_4) ∧ (∃ (x41_21_4 : Bool), w_188.cell? ⟨b_2, 21, none⟩ = some (.bool x41_21_4) ∧ (∃ (x41_22_4 : Bool),
  w_188.cell? ⟨b_2, 22, none⟩ = some (.bool x41_22_4) ∧ (∃ (x41_23_4 : Bool), w_188.cell? ⟨b_2, 23, none⟩ = some (.bool x41_23_4) ∧ St w_188 ⟨b, 0, none⟩ (.int .i64 x41_0_4) fun w_189 => St w_189 ⟨b,
  1, none⟩ (.int .i64 x41_1_4) fun w_190 => St w_190 ⟨b, 2, none⟩ (.int .i64 x41_2_4) fun w_191 => St w_191 ⟨b, 3, none⟩ (.bool x41_3_4) fun w_192 => St w_192 ⟨b, 4, none⟩ (.int .i64 x41_4_4) fun
  w_193 => St w_193 ⟨b, 5, none⟩ (.int .i64 x41_5_4) fun w_194 => St w_194 ⟨b, 6, none⟩ (.int .i64 x41_6_4) fun w_195 => St w_195 ⟨b, 7, none⟩ (.int .i64 x41_7_4) fun w_196 => St w_196 ⟨b, 8, none⟩
  (.int .u32 x41_8_4) fun w_197 => St w_197 ⟨b, 9, none⟩ (.bool x41_9_4) fun w_198 => St w_198 ⟨b, 10, none⟩ (.int .i64 x41_10_4) fun w_199 => St w_199 ⟨b, 11, none⟩ (.int .i64 x41_11_4) fun w_200 =>
  St w_200 ⟨b, 12, none⟩ (.bool x41_12_4) fun w_201 => St w_201 ⟨b, 13, none⟩ (.bool x41_13_4) fun w_202 => St w_202 ⟨b, 14, none⟩ (.bool x41_14_4) fun w_203 => St w_203 ⟨b, 15, none⟩ (.bool x41_15_4)
  fun w_204 => St w_204 ⟨b, 16, none⟩ (.bool x41_16_4) fun w_205 => St w_205 ⟨b, 17, none⟩ (.bool x41_17_4) fun w_206 => St w_206 ⟨b, 18, none⟩ (.bool x41_18_4) fun w_207 => St w_207 ⟨b, 19, none⟩
  (.bool x41_19_4) fun w_208 => St w_208 ⟨b, 20, none⟩ (.int .i64 x41_20_4) fun w_209 => St w_209 ⟨b, 21, none⟩ (.bool x41_21_4) fun w_210 => St w_210 ⟨b, 22, none⟩ (.bool x41_22_4) fun w_211 => St
  w_211 ⟨b, 23, none⟩ (.bool x41_23_4) fun w_212 => (∃ (r_0_5 : Int), w_212.cell? ⟨b, 0, none⟩ = some (.int .i64 r_0_5) ∧ (∃ (r_1_5 : Int), w_212.cell? ⟨b, 1, none⟩ = some (.int .i64 r_1_5) ∧ (∃
  (r_2_5 : Int), w_212.cell? ⟨b, 2, none⟩ = some (.int .i64 r_2_5) ∧ (∃ (r_3_5 : Bool), w_212.cell? ⟨b, 3, none⟩ = some (.bool r_3_5) ∧ (∃ (r_4_5 : Int), w_212.cell? ⟨b, 4, none⟩ = some (.int .i64
  r_4_5) ∧ (∃ (r_5_5 : Int), w_212.cell? ⟨b, 5, none⟩ = some (.int .i64 r_5_5) ∧ (∃ (r_6_5 : Int), w_212.cell? ⟨b, 6, none⟩ = some (.int .i64 r_6_5) ∧ (∃ (r_7_5 : Int), w_212.cell? ⟨b, 7, none⟩ = some
  (.int .i64 r_7_5) ∧ (∃ (r_8_5 : Int), w_212.cell? ⟨b, 8, none⟩ = some (.int .u32 r_8_5) ∧ (∃ (r_9_5 : Bool), w_212.cell? ⟨b, 9, none⟩ = some (.bool r_9_5) ∧ (∃ (r_10_5 : Int), w_212.cell? ⟨b, 10,
  none⟩ = some (.int .i64 r_10_5) ∧ (∃ (r_11_5 : Int), w_212.cell? ⟨b, 11, none⟩ = some (.int .i64 r_11_5) ∧ (∃ (r_12_5 : Bool), w_212.cell? ⟨b, 12, none⟩ = some (.bool r_12_5) ∧ (∃ (r_13_5 : Bool),
  w_212.cell? ⟨b, 13, none⟩ = some (.bool r_13_5) ∧ (∃ (r_14_5 : Bool), w_212.cell? ⟨b, 14, none⟩ = some (.bool r_14_5) ∧ (∃ (r_15_5 : Bool), w_212.cell? ⟨b, 15, none⟩ = some (.bool r_15_5) ∧ (∃
  (r_16_5 : Bool), w_212.cell? ⟨b, 16, none⟩ = some (.bool r_16_5) ∧ (∃ (r_17_5 : Bool), w_212.cell? ⟨b, 17, none⟩ = some (.bool r_17_5) ∧ (∃ (r_18_5 : Bool), w_212.cell? ⟨b, 18, none⟩ = some (.bool
  r_18_5) ∧ (∃ (r_19_5 : Bool), w_212.cell? ⟨b, 19, none⟩ = some (.bool r_19_5) ∧ (∃ (r_20_5 : Int), w_212.cell? ⟨b, 20, none⟩ = some (.int .i64 r_20_5) ∧ (∃ (r_21_5 : Bool), w_212.cell? ⟨b, 21, none⟩
  = some (.bool r_21_5) ∧ (∃ (r_22_5 : Bool), w_212.cell? ⟨b, 22, none⟩ = some (.bool r_22_5) ∧ (∃ (r_23_5 : Bool), w_212.cell? ⟨b, 23, none⟩ = some (.bool r_23_5) ∧ R (.returned (.agg #[.int .i64
  r_0_5, .int .i64 r_1_5, .int .i64 r_2_5, .bool r_3_5, .int .i64 r_4_5, .int .i64 r_5_5, .int .i64 r_6_5, .int .i64 r_7_5, .int .u32 r_8_5, .bool r_9_5, .int .i64 r_10_5, .int .i64 r_11_5, .bool
  r_12_5, .bool r_13_5, .bool r_14_5, .bool r_15_5, .bool r_16_5, .bool r_17_5, .bool r_18_5, .bool r_19_5, .int .i64 r_20_5, .bool r_21_5, .bool r_22_5, .bool r_23_5]))
  w_212))))))))))))))))))))))))))))))))))))))))))))))))) ((∃ (x41_0_5 : Int), w_187.cell? ⟨b_2, 0, none⟩ = some (.int .i64 x41_0_5) ∧ (∃ (x41_1_5 : Int), w_187.cell? ⟨b_2, 1, none⟩ = some (.int .i64
  x41_1_5) ∧ (∃ (x41_2_5 : Int), w_187.cell? ⟨b_2, 2, none⟩ = some (.int .i64 x41_2_5) ∧ (∃ (x41_3_5 : Bool), w_187.cell? ⟨b_2, 3, none⟩ = some (.bool x41_3_5) ∧ (∃ (x41_4_5 : Int), w_187.cell? ⟨b_2,
  4, none⟩ = some (.int .i64 x41_4_5) ∧ (∃ (x41_5_5 : Int), w_187.cell? ⟨b_2, 5, none⟩ = some (.int .i64 x41_5_5) ∧ (∃ (x41_6_5 : Int), w_187.cell? ⟨b_2, 6, none⟩ = some (.int .i64 x41_6_5) ∧ (∃
  (x41_7_5 : Int), w_187.cell? ⟨b_2, 7, none⟩ = some (.int .i64 x41_7_5) ∧ (∃ (x41_8_5 : Int), w_187.cell? ⟨b_2, 8, none⟩ = some (.int .u32 x41_8_5) ∧ (∃ (x41_9_5 : Bool), w_187.cell? ⟨b_2, 9, none⟩ =
  some (.bool x41_9_5) ∧ (∃ (x41_10_5 : Int), w_187.cell? ⟨b_2, 10, none⟩ = some (.int .i64 x41_10_5) ∧ (∃ (x41_11_5 : Int), w_187.cell? ⟨b_2, 11, none⟩ = some (.int .i64 x41_11_5) ∧ (∃ (x41_12_5 :
  Bool), w_187.cell? ⟨b_2, 12, none⟩ = some (.bool x41_12_5) ∧ (∃ (x41_13_5 : Bool), w_187.cell? ⟨b_2, 13, none⟩ = some (.bool x41_13_5) ∧ (∃ (x41_14_5 : Bool), w_187.cell? ⟨b_2, 14, none⟩ = some
  (.bool x41_14_5) ∧ (∃ (x41_15_5 : Bool), w_187.cell? ⟨b_2, 15, none⟩ = some (.bool x41_15_5) ∧ (∃ (x41_16_5 : Bool), w_187.cell? ⟨b_2, 16, none⟩ = some (.bool x41_16_5) ∧ (∃ (x41_17_5 : Bool),
  w_187.cell? ⟨b_2, 17, none⟩ = some (.bool x41_17_5) ∧ (∃ (x41_18_5 : Bool), w_187.cell? ⟨b_2, 18, none⟩ = some (.bool x41_18_5) ∧ (∃ (x41_19_5 : Bool), w_187.cell? ⟨b_2, 19, none⟩ = some (.bool
  x41_19_5) ∧ (∃ (x41_20_5 : Int), w_187.cell? ⟨b_2, 20, none⟩ = some (.int .i64 x41_20_5) ∧ (∃ (x41_21_5 : Bool), w_187.cell? ⟨b_2, 21, none⟩ = some (.bool x41_21_5) ∧ (∃ (x41_22_5 : Bool),
  w_187.cell? ⟨b_2, 22, none⟩ = some (.bool x41_22_5) ∧ (∃ (x41_23_5 : Bool), w_187.cell? ⟨b_2, 23, none⟩ = some (.bool x41_23_5) ∧ St w_187 ⟨b, 0, none⟩ (.int .i64 x41_0_5) fun w_213 => St w_213 ⟨b,
  1, none⟩ (.int .i64 x41_1_5) fun w_214 => St w_214 ⟨b, 2, none⟩ (.int .i64 x41_2_5) fun w_215 => St w_215 ⟨b, 3, none⟩ (.bool x41_3_5) fun w_216 => St w_216 ⟨b, 4, none⟩ (.int .i64 x41_4_5) fun
  w_217 => St w_217 ⟨b, 5, none⟩ (.int .i64 x41_5_5) fun w_218 => St w_218 ⟨b, 6, none⟩ (.int .i64 x41_6_5) fun w_219 => St w_219 ⟨b, 7, none⟩ (.int .i64 x41_7_5) fun w_220 => St w_220 ⟨b, 8, none⟩
  (.int .u32 x41_8_5) fun w_221 => St w_221 ⟨b, 9, none⟩ (.bool x41_9_5) fun w_222 => St w_222 ⟨b, 10, none⟩ (.int .i64 x41_10_5) fun w_223 => St w_223 ⟨b, 11, none⟩ (.int .i64 x41_11_5) fun w_224 =>
  St w_224 ⟨b, 12, none⟩ (.bool x41_12_5) fun w_225 => St w_225 ⟨b, 13, none⟩ (.bool x41_13_5) fun w_226 => St w_226 ⟨b, 14, none⟩ (.bool x41_14_5) fun w_227 => St w_227 ⟨b, 15, none⟩ (.bool x41_15_5)
  fun w_228 => St w_228 ⟨b, 16, none⟩ (.bool x41_16_5) fun w_229 => St w_229 ⟨b, 17, none⟩ (.bool x41_17_5) fun w_230 => St w_230 ⟨b, 18, none⟩ (.bool x41_18_5) fun w_231 => St w_231 ⟨b, 19, none⟩
  (.bool x41_19_5) fun w_232 => St w_232 ⟨b, 20, none⟩ (.int .i64 x41_20_5) fun w_233 => St w_233 ⟨b, 21, none⟩ (.bool x41_21_5) fun w_234 => St w_234 ⟨b, 22, none⟩ (.bool x41_22_5) fun w_235 => St
  w_235 ⟨b, 23, none⟩ (.bool x41_23_5) fun w_236 => (∃ (r_0_6 : Int), w_236.cell? ⟨b, 0, none⟩ = some (.int .i64 r_0_6) ∧ (∃ (r_1_6 : Int), w_236.cell? ⟨b, 1, none⟩ = some (.int .i64 r_1_6) ∧ (∃
  (r_2_6 : Int), w_236.cell? ⟨b, 2, none⟩ = some (.int .i64 r_2_6) ∧ (∃ (r_3_6 : Bool), w_236.cell? ⟨b, 3, none⟩ = some (.bool r_3_6) ∧ (∃ (r_4_6 : Int), w_236.cell? ⟨b, 4, none⟩ = some (.int .i64
  r_4_6) ∧ (∃ (r_5_6 : Int), w_236.cell? ⟨b, 5, none⟩ = some (.int .i64 r_5_6) ∧ (∃ (r_6_6 : Int), w_236.cell? ⟨b, 6, none⟩ = some (.int .i64 r_6_6) ∧ (∃ (r_7_6 : Int), w_236.cell? ⟨b, 7, none⟩ = some
  (.int .i64 r_7_6) ∧ (∃ (r_8_6 : Int), w_236.cell? ⟨b, 8, none⟩ = some (.int .u32 r_8_6) ∧ (∃ (r_9_6 : Bool), w_236.cell? ⟨b, 9, none⟩ = some (.bool r_9_6) ∧ (∃ (r_10_6 : Int), w_236.cell? ⟨b, 10,
  none⟩ = some (.int .i64 r_10_6) ∧ (∃ (r_11_6 : Int), w_236.cell? ⟨b, 11, none⟩ = some (.int .i64 r_11_6) ∧ (∃ (r_12_6 : Bool), w_236.cell? ⟨b, 12, none⟩ = some (.bool r_12_6) ∧ (∃ (r_13_6 : Bool),
  w_236.cell? ⟨b, 13, none⟩ = some (.bool r_13_6) ∧ (∃ (r_14_6 : Bool), w_236.cell? ⟨b, 14, none⟩ = some (.bool r_14_6) ∧ (∃ (r_15_6 : Bool), w_236.cell? ⟨b, 15, none⟩ = some (.bool r_15_6) ∧ (∃
  (r_16_6 : Bool), w_236.cell? ⟨b, 16, none⟩ = some (.bool r_16_6) ∧ (∃ (r_17_6 : Bool), w_236.cell? ⟨b, 17, none⟩ = some (.bool r_17_6) ∧ (∃ (r_18_6 : Bool), w_236.cell? ⟨b, 18, none⟩ = some (.bool
  r_18_6) ∧ (∃ (r_19_6 : Bool), w_236.cell? ⟨b, 19, none⟩ = some (.bool r_19_6) ∧ (∃ (r_20_6 : Int), w_236.cell? ⟨b, 20, none⟩ = some (.int .i64 r_20_6) ∧ (∃ (r_21_6 : Bool), w_236.cell? ⟨b, 21, none⟩
  = some (.bool r_21_6) ∧ (∃ (r_22_6 : Bool), w_236.cell? ⟨b, 22, none⟩ = some (.bool r_22_6) ∧ (∃ (r_23_6 : Bool), w_236.cell? ⟨b, 23, none⟩ = some (.bool r_23_6) ∧ R (.returned (.agg #[.int .i64
  r_0_6, .int .i64 r_1_6, .int .i64 r_2_6, .bool r_3_6, .int .i64 r_4_6, .int .i64 r_5_6, .int .i64 r_6_6, .int .i64 r_7_6, .int .u32 r_8_6, .bool r_9_6, .int .i64 r_10_6, .int .i64 r_11_6, .bool
  r_12_6, .bool r_13_6, .bool r_14_6, .bool r_15_6, .bool r_16_6, .bool r_17_6, .bool r_18_6, .bool r_19_6, .int .i64 r_20_6, .bool r_21_6, .bool r_22_6, .bool r_23_6]))
  w_236))))))))))))))))))))))))))))))))))))))))))))))))))) ((∃ (x38_3 : Int), w_186.cell? ⟨b_2, 2, none⟩ = some (.int .i64 x38_3) ∧ cond (x38_3 == 10) (St w_186 ⟨b_2, 4, none⟩ (.int .i64 0) fun w_237
  => (∃ (x41_0_6 : Int), w_237.cell? ⟨b_2, 0, none⟩ = some (.int .i64 x41_0_6) ∧ (∃ (x41_1_6 : Int), w_237.cell? ⟨b_2, 1, none⟩ = some (.int .i64 x41_1_6) ∧ (∃ (x41_2_6 : Int), w_237.cell? ⟨b_2, 2,
  none⟩ = some (.int .i64 x41_2_6) ∧ (∃ (x41_3_6 : Bool), w_237.cell? ⟨b_2, 3, none⟩ = some (.bool x41_3_6) ∧ (∃ (x41_4_6 : Int), w_237.cell? ⟨b_2, 4, none⟩ = some (.int .i64 x41_4_6) ∧ (∃ (x41_5_6 :
  Int), w_237.cell? ⟨b_2, 5, none⟩ = some (.int .i64 x41_5_6) ∧ (∃ (x41_6_6 : Int), w_237.cell? ⟨b_2, 6, none⟩ = some (.int .i64 x41_6_6) ∧ (∃ (x41_7_6 : Int), w_237.cell? ⟨b_2, 7, none⟩ = some (.int
  .i64 x41_7_6) ∧ (∃ (x41_8_6 : Int), w_237.cell? ⟨b_2, 8, none⟩ = some (.int .u32 x41_8_6) ∧ (∃ (x41_9_6 : Bool), w_237.cell? ⟨b_2, 9, none⟩ = some (.bool x41_9_6) ∧ (∃ (x41_10_6 : Int), w_237.cell?
  ⟨b_2, 10, none⟩ = some (.int .i64 x41_10_6) ∧ (∃ (x41_11_6 : Int), w_237.cell? ⟨b_2, 11, none⟩ = some (.int .i64 x41_11_6) ∧ (∃ (x41_12_6 : Bool), w_237.cell? ⟨b_2, 12, none⟩ = some (.bool x41_12_6)
  ∧ (∃ (x41_13_6 : Bool), w_237.cell? ⟨b_2, 13, none⟩ = some (.bool x41_13_6) ∧ (∃ (x41_14_6 : Bool), w_237.cell? ⟨b_2, 14, none⟩ = some (.bool x41_14_6) ∧ (∃ (x41_15_6 : Bool), w_237.cell? ⟨b_2, 15,
  none⟩ = some (.bool x41_15_6) ∧ (∃ (x41_16_6 : Bool), w_237.cell? ⟨b_2, 16, none⟩ = some (.bool x41_16_6) ∧ (∃ (x41_17_6 : Bool), w_237.cell? ⟨b_2, 17, none⟩ = some (.bool x41_17_6) ∧ (∃ (x41_18_6 :
  Bool), w_237.cell? ⟨b_2, 18, none⟩ = some (.bool x41_18_6) ∧ (∃ (x41_19_6 : Bool), w_237.cell? ⟨b_2, 19, none⟩ = some (.bool x41_19_6) ∧ (∃ (x41_20_6 : Int), w_237.cell? ⟨b_2, 20, none⟩ = some (.int
  .i64 x41_20_6) ∧ (∃ (x41_21_6 : Bool), w_237.cell? ⟨b_2, 21, none⟩ = some (.bool x41_21_6) ∧ (∃ (x41_22_6 : Bool), w_237.cell? ⟨b_2, 22, none⟩ = some (.bool x41_22_6) ∧ (∃ (x41_23_6 : Bool),
  w_237.cell? ⟨b_2, 23, none⟩ = some (.bool x41_23_6) ∧ St w_237 ⟨b, 0, none⟩ (.int .i64 x41_0_6) fun w_238 => St w_238 ⟨b, 1, none⟩ (.int .i64 x41_1_6) fun w_239 => St w_239 ⟨b, 2, none⟩ (.int .i64
  x41_2_6) fun w_240 => St w_240 ⟨b, 3, none⟩ (.bool x41_3_6) fun w_241 => St w_241 ⟨b, 4, none⟩ (.int .i64 x41_4_6) fun w_242 => St w_242 ⟨b, 5, none⟩ (.int .i64 x41_5_6) fun w_243 => St w_243 ⟨b, 6,
  none⟩ (.int .i64 x41_6_6) fun w_244 => St w_244 ⟨b, 7, none⟩ (.int .i64 x41_7_6) fun w_245 => St w_245 ⟨b, 8, none⟩ (.int .u32 x41_8_6) fun w_246 => St w_246 ⟨b, 9, none⟩ (.bool x41_9_6) fun w_247
  => St w_247 ⟨b, 10, none⟩ (.int .i64 x41_10_6) fun w_248 => St w_248 ⟨b, 11, none⟩ (.int .i64 x41_11_6) fun w_249 => St w_249 ⟨b, 12, none⟩ (.bool x41_12_6) fun w_250 => St w_250 ⟨b, 13, none⟩
  (.bool x41_13_6) fun w_251 => St w_251 ⟨b, 14, none⟩ (.bool x41_14_6) fun w_252 => St w_252 ⟨b, 15, none⟩ (.bool x41_15_6) fun w_253 => St w_253 ⟨b, 16, none⟩ (.bool x41_16_6) fun w_254 => St w_254
  ⟨b, 17, none⟩ (.bool x41_17_6) fun w_255 => St w_255 ⟨b, 18, none⟩ (.bool x41_18_6) fun w_256 => St w_256 ⟨b, 19, none⟩ (.bool x41_19_6) fun w_257 => St w_257 ⟨b, 20, none⟩ (.int .i64 x41_20_6) fun
  w_258 => St w_258 ⟨b, 21, none⟩ (.bool x41_21_6) fun w_259 => St w_259 ⟨b, 22, none⟩ (.bool x41_22_6) fun w_260 => St w_260 ⟨b, 23, none⟩ (.bool x41_23_6) fun w_261 => (∃ (r_0_7 : Int), w_261.cell?
  ⟨b, 0, none⟩ = some (.int .i64 r_0_7) ∧ (∃ (r_1_7 : Int), w_261.cell? ⟨b, 1, none⟩ = some (.int .i64 r_1_7) ∧ (∃ (r_2_7 : Int), w_261.cell? ⟨b, 2, none⟩ = some (.int .i64 r_2_7) ∧ (∃ (r_3_7 : Bool),
  w_261.cell? ⟨b, 3, none⟩ = some (.bool r_3_7) ∧ (∃ (r_4_7 : Int), w_261.cell? ⟨b, 4, none⟩ = some (.int .i64 r_4_7) ∧ (∃ (r_5_7 : Int), w_261.cell? ⟨b, 5, none⟩ = some (.int .i64 r_5_7) ∧ (∃ (r_6_7
  : Int), w_261.cell? ⟨b, 6, none⟩ = some (.int .i64 r_6_7) ∧ (∃ (r_7_7 : Int), w_261.cell? ⟨b, 7, none⟩ = some (.int .i64 r_7_7) ∧ (∃ (r_8_7 : Int), w_261.cell? ⟨b, 8, none⟩ = some (.int .u32 r_8_7)
  ∧ (∃ (r_9_7 : Bool), w_261.cell? ⟨b, 9, none⟩ = some (.bool r_9_7) ∧ (∃ (r_10_7 : Int), w_261.cell? ⟨b, 10, none⟩ = some (.int .i64 r_10_7) ∧ (∃ (r_11_7 : Int), w_261.cell? ⟨b, 11, none⟩ = some
  (.int .i64 r_11_7) ∧ (∃ (r_12_7 : Bool), w_261.cell? ⟨b, 12, none⟩ = some (.bool r_12_7) ∧ (∃ (r_13_7 : Bool), w_261.cell? ⟨b, 13, none⟩ = some (.bool r_13_7) ∧ (∃ (r_14_7 : Bool), w_261.cell? ⟨b,
  14, none⟩ = some (.bool r_14_7) ∧ (∃ (r_15_7 : Bool), w_261.cell? ⟨b, 15, none⟩ = some (.bool r_15_7) ∧ (∃ (r_16_7 : Bool), w_261.cell? ⟨b, 16, none⟩ = some (.bool r_16_7) ∧ (∃ (r_17_7 : Bool),
  w_261.cell? ⟨b, 17, none⟩ = some (.bool r_17_7) ∧ (∃ (r_18_7 : Bool), w_261.cell? ⟨b, 18, none⟩ = some (.bool r_18_7) ∧ (∃ (r_19_7 : Bool), w_261.cell? ⟨b, 19, none⟩ = some (.bool r_19_7) ∧ (∃
  (r_20_7 : Int), w_261.cell? ⟨b, 20, none⟩ = some (.int .i64 r_20_7) ∧ (∃ (r_21_7 : Bool), w_261.cell? ⟨b, 21, none⟩ = some (.bool r_21_7) ∧ (∃ (r_22_7 : Bool), w_261.cell? ⟨b, 22, none⟩ = some
  (.bool r_22_7) ∧ (∃ (r_23_7 : Bool), w_261.cell? ⟨b, 23, none⟩ = some (.bool r_23_7) ∧ R (.returned (.agg #[.int .i64 r_0_7, .int .i64 r_1_7, .int .i64 r_2_7, .bool r_3_7, .int .i64 r_4_7, .int .i64
  r_5_7, .int .i64 r_6_7, .int .i64 r_7_7, .int .u32 r_8_7, .bool r_9_7, .int .i64 r_10_7, .int .i64 r_11_7, .bool r_12_7, .bool r_13_7, .bool r_14_7, .bool r_15_7, .bool r_16_7, .bool r_17_7, .bool
  r_18_7, .bool r_19_7, .int .i64 r_20_7, .bool r_21_7, .bool r_22_7, .bool r_23_7])) w_261))))))))))))))))))))))))))))))))))))))))))))))))) ((∃ (x41_0_7 : Int), w_186.cell? ⟨b_2, 0, none⟩ = some
  (.int .i64 x41_0_7) ∧ (∃ (x41_1_7 : Int), w_186.cell? ⟨b_2, 1, none⟩ = some (.int .i64 x41_1_7) ∧ (∃ (x41_2_7 : Int), w_186.cell? ⟨b_2, 2, none⟩ = some (.int .i64 x41_2_7) ∧ (∃ (x41_3_7 : Bool),
  w_186.cell? ⟨b_2, 3, none⟩ = some (.bool x41_3_7) ∧ (∃ (x41_4_7 : Int), w_186.cell? ⟨b_2, 4, none⟩ = some (.int .i64 x41_4_7) ∧ (∃ (x41_5_7 : Int), w_186.cell? ⟨b_2, 5, none⟩ = some (.int .i64
  x41_5_7) ∧ (∃ (x41_6_7 : Int), w_186.cell? ⟨b_2, 6, none⟩ = some (.int .i64 x41_6_7) ∧ (∃ (x41_7_7 : Int), w_186.cell? ⟨b_2, 7, none⟩ = some (.int .i64 x41_7_7) ∧ (∃ (x41_8_7 : Int), w_186.cell?
  ⟨b_2, 8, none⟩ = some (.int .u32 x41_8_7) ∧ (∃ (x41_9_7 : Bool), w_186.cell? ⟨b_2, 9, none⟩ = some (.bool x41_9_7) ∧ (∃ (x41_10_7 : Int), w_186.cell? ⟨b_2, 10, none⟩ = some (.int .i64 x41_10_7) ∧ (∃
  (x41_11_7 : Int), w_186.cell? ⟨b_2, 11, none⟩ = some (.int .i64 x41_11_7) ∧ (∃ (x41_12_7 : Bool), w_186.cell? ⟨b_2, 12, none⟩ = some (.bool x41_12_7) ∧ (∃ (x41_13_7 : Bool), w_186.cell? ⟨b_2, 13,
  none⟩ = some (.bool x41_13_7) ∧ (∃ (x41_14_7 : Bool), w_186.cell? ⟨b_2, 14, none⟩ = some (.bool x41_14_7) ∧ (∃ (x41_15_7 : Bool), w_186.cell? ⟨b_2, 15, none⟩ = some (.bool x41_15_7) ∧ (∃ (x41_16_7 :
  Bool), w_186.cell? ⟨b_2, 16, none⟩ = some (.bool x41_16_7) ∧ (∃ (x41_17_7 : Bool), w_186.cell? ⟨b_2, 17, none⟩ = some (.bool x41_17_7) ∧ (∃ (x41_18_7 : Bool), w_186.cell? ⟨b_2, 18, none⟩ = some
  (.bool x41_18_7) ∧ (∃ (x41_19_7 : Bool), w_186.cell? ⟨b_2, 19, none⟩ = some (.bool x41_19_7) ∧ (∃ (x41_20_7 : Int), w_186.cell? ⟨b_2, 20, none⟩ = some (.int .i64 x41_20_7) ∧ (∃ (x41_21_7 : Bool),
  w_186.cell? ⟨b_2, 21, none⟩ = some (.bool x41_21_7) ∧ (∃ (x41_22_7 : Bool), w_186.cell? ⟨b_2, 22, none⟩ = some (.bool x41_22_7) ∧ (∃ (x41_23_7 : Bool), w_186.cell? ⟨b_2, 23, none⟩ = some (.bool
  x41_23_7) ∧ St w_186 ⟨b, 0, none⟩ (.int .i64 x41_0_7) fun w_262 => St w_262 ⟨b, 1, none⟩ (.int .i64 x41_1_7) fun w_263 => St w_263 ⟨b, 2, none⟩ (.int .i64 x41_2_7) fun w_264 => St w_264 ⟨b, 3, none⟩
  (.bool x41_3_7) fun w_265 => St w_265 ⟨b, 4, none⟩ (.int .i64 x41_4_7) fun w_266 => St w_266 ⟨b, 5, none⟩ (.int .i64 x41_5_7) fun w_267 => St w_267 ⟨b, 6, none⟩ (.int .i64 x41_6_7) fun w_268 => St
  w_268 ⟨b, 7, none⟩ (.int .i64 x41_7_7) fun w_269 => St w_269 ⟨b, 8, none⟩ (.int .u32 x41_8_7) fun w_270 => St w_270 ⟨b, 9, none⟩ (.bool x41_9_7) fun w_271 => St w_271 ⟨b, 10, none⟩ (.int .i64
  x41_10_7) fun w_272 => St w_272 ⟨b, 11, none⟩ (.int .i64 x41_11_7) fun w_273 => St w_273 ⟨b, 12, none⟩ (.bool x41_12_7) fun w_274 => St w_274 ⟨b, 13, none⟩ (.bool x41_13_7) fun w_275 => St w_275 ⟨b,
  14, none⟩ (.bool x41_14_7) fun w_276 => St w_276 ⟨b, 15, none⟩ (.bool x41_15_7) fun w_277 => St w_277 ⟨b, 16, none⟩ (.bool x41_16_7) fun w_278 => St w_278 ⟨b, 17, none⟩ (.bool x41_17_7) fun w_279 =>
  St w_279 ⟨b, 18, none⟩ (.bool x41_18_7) fun w_280 => St w_280 ⟨b, 19, none⟩ (.bool x41_19_7) fun w_281 => St w_281 ⟨b, 20, none⟩ (.int .i64 x41_20_7) fun w_282 => St w_282 ⟨b, 21, none⟩ (.bool
  x41_21_7) fun w_283 => St w_283 ⟨b, 22, none⟩ (.bool x41_22_7) fun w_284 => St w_284 ⟨b, 23, none⟩ (.bool x41_23_7) fun w_285 => (∃ (r_0_8 : Int), w_285.cell? ⟨b, 0, none⟩ = some (.int .i64 r_0_8) ∧
  (∃ (r_1_8 : Int), w_285.cell? ⟨b, 1, none⟩ = some (.int .i64 r_1_8) ∧ (∃ (r_2_8 : Int), w_285.cell? ⟨b, 2, none⟩ = some (.int .i64 r_2_8) ∧ (∃ (r_3_8 : Bool), w_285.cell? ⟨b, 3, none⟩ = some (.bool
  r_3_8) ∧ (∃ (r_4_8 : Int), w_285.cell? ⟨b, 4, none⟩ = some (.int .i64 r_4_8) ∧ (∃ (r_5_8 : Int), w_285.cell? ⟨b, 5, none⟩ = some (.int .i64 r_5_8) ∧ (∃ (r_6_8 : Int), w_285.cell? ⟨b, 6, none⟩ = some
  (.int .i64 r_6_8) ∧ (∃ (r_7_8 : Int), w_285.cell? ⟨b, 7, none⟩ = some (.int .i64 r_7_8) ∧ (∃ (r_8_8 : Int), w_285.cell? ⟨b, 8, none⟩ = some (.int .u32 r_8_8) ∧ (∃ (r_9_8 : Bool), w_285.cell? ⟨b, 9,
  none⟩ = some (.bool r_9_8) ∧ (∃ (r_10_8 : Int), w_285.cell? ⟨b, 10, none⟩ = some (.int .i64 r_10_8) ∧ (∃ (r_11_8 : Int), w_285.cell? ⟨b, 11, none⟩ = some (.int .i64 r_11_8) ∧ (∃ (r_12_8 : Bool),
  w_285.cell? ⟨b, 12, none⟩ = some (.bool r_12_8) ∧ (∃ (r_13_8 : Bool), w_285.cell? ⟨b, 13, none⟩ = some (.bool r_13_8) ∧ (∃ (r_14_8 : Bool), w_285.cell? ⟨b, 14, none⟩ = some (.bool r_14_8) ∧ (∃
  (r_15_8 : Bool), w_285.cell? ⟨b, 15, none⟩ = some (.bool r_15_8) ∧ (∃ (r_16_8 : Bool), w_285.cell? ⟨b, 16, none⟩ = some (.bool r_16_8) ∧ (∃ (r_17_8 : Bool), w_285.cell? ⟨b, 17, none⟩ = some (.bool
  r_17_8) ∧ (∃ (r_18_8 : Bool), w_285.cell? ⟨b, 18, none⟩ = some (.bool r_18_8) ∧ (∃ (r_19_8 : Bool), w_285.cell? ⟨b, 19, none⟩ = some (.bool r_19_8) ∧ (∃ (r_20_8 : Int), w_285.cell? ⟨b, 20, none⟩ =
  some (.int .i64 r_20_8) ∧ (∃ (r_21_8 : Bool), w_285.cell? ⟨b, 21, none⟩ = some (.bool r_21_8) ∧ (∃ (r_22_8 : Bool), w_285.cell? ⟨b, 22, none⟩ = some (.bool r_22_8) ∧ (∃ (r_23_8 : Bool), w_285.cell?
  ⟨b, 23, none⟩ = some (.bool r_23_8) ∧ R (.returned (.agg #[.int .i64 r_0_8, .int .i64 r_1_8, .int .i64 r_2_8, .bool r_3_8, .int .i64 r_4_8, .int .i64 r_5_8, .int .i64 r_6_8, .int .i64 r_7_8, .int
  .u32 r_8_8, .bool r_9_8, .int .i64 r_10_8, .int .i64 r_11_8, .bool r_12_8, .bool r_13_8, .bool r_14_8, .bool r_15_8, .bool r_16_8, .bool r_17_8, .bool r_18_8, .bool r_19_8, .int .i64 r_20_8, .bool
  r_21_8, .bool r_22_8, .bool r_23_8])) w_285))))))))))))))))))))))))))))))))))))))))))))))))))))))))))) ∧ (Nw w_30 (.cells #[.int .i64 0, .int .i64 0, .int .i64 0, .bool false, .int .i64 0, .int .i64
  0, .int .i64 0, .int .i64 0, .int .u32 0, .bool false, .int .i64 0, .int .i64 0, .bool false, .bool false, .bool false, .bool false, .bool false, .bool false, .bool false, .bool false, .int .i64 0,
  .bool false, .bool false, .bool false] 26) fun b_3 w_286 => (S_1 w_286 ∧ (Calls Try.prog 11 #[.int .u32 (IntKind.wrap .u32 q0), .int .i64 8, .int .i64 3] w_286 fun e w_287 => ∃ (x27_1 : Int), e =
  .returned (.int .i64 x27_1) ∧ (S_1 w_287 ∧ (Calls Try.prog 10 #[.int .i64 x23, .int .i64 x25, .int .i64 x27_1] w_287 fun e w_288 => ∃ (x28_0_2 : Int) (x28_1_2 : Int) (x28_2_2 : Int) (x28_3_2 : Bool)
  (x28_4_2 : Int) (x28_5_2 : Int) (x28_6_2 : Int) (x28_7_2 : Int) (x28_8_2 : Int) (x28_9_2 : Bool) (x28_10_2 : Int) (x28_11_2 : Int) (x28_12_2 : Bool) (x28_13_2 : Bool) (x28_14_2 : Bool) (x28_15_2 :
  Bool) (x28_16_2 : Bool) (x28_17_2 : Bool) (x28_18_2 : Bool) (x28_19_2 : Bool) (x28_20_2 : Int) (x28_21_2 : Bool) (x28_22_2 : Bool) (x28_23_2 : Bool), e = .returned (.agg #[.int .i64 x28_0_2, .int
  .i64 x28_1_2, .int .i64 x28_2_2, .bool x28_3_2, .int .i64 x28_4_2, .int .i64 x28_5_2, .int .i64 x28_6_2, .int .i64 x28_7_2, .int .u32 x28_8_2, .bool x28_9_2, .int .i64 x28_10_2, .int .i64 x28_11_2,
  .bool x28_12_2, .bool x28_13_2, .bool x28_14_2, .bool x28_15_2, .bool x28_16_2, .bool x28_17_2, .bool x28_18_2, .bool x28_19_2, .int .i64 x28_20_2, .bool x28_21_2, .bool x28_22_2, .bool x28_23_2]) ∧
  St w_288 ⟨b_3, 0, none⟩ (.int .i64 x28_0_2) fun w_289 => St w_289 ⟨b_3, 1, none⟩ (.int .i64 x28_1_2) fun w_290 => St w_290 ⟨b_3, 2, none⟩ (.int .i64 x28_2_2) fun w_291 => St w_291 ⟨b_3, 3, none⟩
  (.bool x28_3_2) fun w_292 => St w_292 ⟨b_3, 4, none⟩ (.int .i64 x28_4_2) fun w_293 => St w_293 ⟨b_3, 5, none⟩ (.int .i64 x28_5_2) fun w_294 => St w_294 ⟨b_3, 6, none⟩ (.int .i64 x28_6_2) fun w_295
  => St w_295 ⟨b_3, 7, none⟩ (.int .i64 x28_7_2) fun w_296 => St w_296 ⟨b_3, 8, none⟩ (.int .u32 x28_8_2) fun w_297 => St w_297 ⟨b_3, 9, none⟩ (.bool x28_9_2) fun w_298 => St w_298 ⟨b_3, 10, none⟩
  (.int .i64 x28_10_2) fun w_299 => St w_299 ⟨b_3, 11, none⟩ (.int .i64 x28_11_2) fun w_300 => St w_300 ⟨b_3, 12, none⟩ (.bool x28_12_2) fun w_301 => St w_301 ⟨b_3, 13, none⟩ (.bool x28_13_2) fun
  w_302 => St w_302 ⟨b_3, 14, none⟩ (.bool x28_14_2) fun w_303 => St w_303 ⟨b_3, 15, none⟩ (.bool x28_15_2) fun w_304 => St w_304 ⟨b_3, 16, none⟩ (.bool x28_16_2) fun w_305 => St w_305 ⟨b_3, 17, none⟩
  (.bool x28_17_2) fun w_306 => St w_306 ⟨b_3, 18, none⟩ (.bool x28_18_2) fun w_307 => St w_307 ⟨b_3, 19, none⟩ (.bool x28_19_2) fun w_308 => St w_308 ⟨b_3, 20, none⟩ (.int .i64 x28_20_2) fun w_309 =>
  St w_309 ⟨b_3, 21, none⟩ (.bool x28_21_2) fun w_310 => St w_310 ⟨b_3, 22, none⟩ (.bool x28_22_2) fun w_311 => St w_311 ⟨b_3, 23, none⟩ (.bool x28_23_2) fun w_312 => St w_312 ⟨b_3, 9, none⟩ (.bool
  true) fun w_313 => St w_313 ⟨b_3, 8, none⟩ (.int .u32 (bits .and .u32 (IntKind.wrap .u32 q0) 255)) fun w_314 => (∃ (x34_2 : Int), w_314.cell? ⟨b_3, 2, none⟩ = some (.int .i64 x34_2) ∧ cond (x34_2 ==
  13) (St w_314 ⟨b_3, 5, none⟩ (.int .i64 0) fun w_315 => (∃ (x38_4 : Int), w_315.cell? ⟨b_3, 2, none⟩ = some (.int .i64 x38_4) ∧ cond (x38_4 == 10) (St w_315 ⟨b_3, 4, none⟩ (.int .i64 0) fun w_316 =>
  (∃ (x41_0_8 : Int), w_316.cell? ⟨b_3, 0, none⟩ = some (.int .i64 x41_0_8) ∧ (∃ (x41_1_8 : Int), w_316.cell? ⟨b_3, 1, none⟩ = some (.int .i64 x41_1_8) ∧ (∃ (x41_2_8 : Int), w_316.cell? ⟨b_3, 2, none⟩
  = some (.int .i64 x41_2_8) ∧ (∃ (x41_3_8 : Bool), w_316.cell? ⟨b_3, 3, none⟩ = some (.bool x41_3_8) ∧ (∃ (x41_4_8 : Int), w_316.cell? ⟨b_3, 4, none⟩ = some (.int .i64 x41_4_8) ∧ (∃ (x41_5_8 : Int),
  w_316.cell? ⟨b_3, 5, none⟩ = some (.int .i64 x41_5_8) ∧ (∃ (x41_6_8 : Int), w_316.cell? ⟨b_3, 6, none⟩ = some (.int .i64 x41_6_8) ∧ (∃ (x41_7_8 : Int), w_316.cell? ⟨b_3, 7, none⟩ = some (.int .i64
  x41_7_8) ∧ (∃ (x41_8_8 : Int), w_316.cell? ⟨b_3, 8, none⟩ = some (.int .u32 x41_8_8) ∧ (∃ (x41_9_8 : Bool), w_316.cell? ⟨b_3, 9, none⟩ = some (.bool x41_9_8) ∧ (∃ (x41_10_8 : Int), w_316.cell? ⟨b_3,
  10, none⟩ = some (.int .i64 x41_10_8) ∧ (∃ (x41_11_8 : Int), w_316.cell? ⟨b_3, 11, none⟩ = some (.int .i64 x41_11_8) ∧ (∃ (x41_12_8 : Bool), w_316.cell? ⟨b_3, 12, none⟩ = some (.bool x41_12_8) ∧ (∃
  (x41_13_8 : Bool), w_316.cell? ⟨b_3, 13, none⟩ = some (.bool x41_13_8) ∧ (∃ (x41_14_8 : Bool), w_316.cell? ⟨b_3, 14, none⟩ = some (.bool x41_14_8) ∧ (∃ (x41_15_8 : Bool), w_316.cell? ⟨b_3, 15, none⟩
  = some (.bool x41_15_8) ∧ (∃ (x41_16_8 : Bool), w_316.cell? ⟨b_3, 16, none⟩ = some (.bool x41_16_8) ∧ (∃ (x41_17_8 : Bool), w_316.cell? ⟨b_3, 17, none⟩ = some (.bool x41_17_8) ∧ (∃ (x41_18_8 :
  Bool), w_316.cell? ⟨b_3, 18, none⟩ = some (.bool x41_18_8) ∧ (∃ (x41_19_8 : Bool), w_316.cell? ⟨b_3, 19, none⟩ = some (.bool x41_19_8) ∧ (∃ (x41_20_8 : Int), w_316.cell? ⟨b_3, 20, none⟩ = some (.int
  .i64 x41_20_8) ∧ (∃ (x41_21_8 : Bool), w_316.cell? ⟨b_3, 21, none⟩ = some (.bool x41_21_8) ∧ (∃ (x41_22_8 : Bool), w_316.cell? ⟨b_3, 22, none⟩ = some (.bool x41_22_8) ∧ (∃ (x41_23_8 : Bool),
  w_316.cell? ⟨b_3, 23, none⟩ = some (.bool x41_23_8) ∧ St w_316 ⟨b, 0, none⟩ (.int .i64 x41_0_8) fun w_317 => St w_317 ⟨b, 1, none⟩ (.int .i64 x41_1_8) fun w_318 => St w_318 ⟨b, 2, none⟩ (.int .i64
  x41_2_8) fun w_319 => St w_319 ⟨b, 3, none⟩ (.bool x41_3_8) fun w_320 => St w_320 ⟨b, 4, none⟩ (.int .i64 x41_4_8) fun w_321 => St w_321 ⟨b, 5, none⟩ (.int .i64 x41_5_8) fun w_322 => St w_322 ⟨b, 6,
  none⟩ (.int .i64 x41_6_8) fun w_323 => St w_323 ⟨b, 7, none⟩ (.int .i64 x41_7_8) fun w_324 => St w_324 ⟨b, 8, none⟩ (.int .u32 x41_8_8) fun w_325 => St w_325 ⟨b, 9, none⟩ (.bool x41_9_8) fun w_326
  => St w_326 ⟨b, 10, none⟩ (.int .i64 x41_10_8) fun w_327 => St w_327 ⟨b, 11, none⟩ (.int .i64 x41_11_8) fun w_328 => St w_328 ⟨b, 12, none⟩ (.bool x41_12_8) fun w_329 => St w_329 ⟨b, 13, none⟩
  (.bool x41_13_8) fun w_330 => St w_330 ⟨b, 14, none⟩ (.bool x41_14_8) fun w_331 => St w_331 ⟨b, 15, none⟩ (.bool x41_15_8) fun w_332 => St w_332 ⟨b, 16, none⟩ (.bool x41_16_8) fun w_333 => St w_333
  ⟨b, 17, none⟩ (.bool x41_17_8) fun w_334 => St w_334 ⟨b, 18, none⟩ (.bool x41_18_8) fun w_335 => St w_335 ⟨b, 19, none⟩ (.bool x41_19_8) fun w_336 => St w_336 ⟨b, 20, none⟩ (.int .i64 x41_20_8) fun
  w_337 => St w_337 ⟨b, 21, none⟩ (.bool x41_21_8) fun w_338 => St w_338 ⟨b, 22, none⟩ (.bool x41_22_8) fun w_339 => St w_339 ⟨b, 23, none⟩ (.bool x41_23_8) fun w_340 => (∃ (r_0_9 : Int), w_340.cell?
  ⟨b, 0, none⟩ = some (.int .i64 r_0_9) ∧ (∃ (r_1_9 : Int), w_340.cell? ⟨b, 1, none⟩ = some (.int .i64 r_1_9) ∧ (∃ (r_2_9 : Int), w_340.cell? ⟨b, 2, none⟩ = some (.int .i64 r_2_9) ∧ (∃ (r_3_9 : Bool),
  w_340.cell? ⟨b, 3, none⟩ = some (.bool r_3_9) ∧ (∃ (r_4_9 : Int), w_340.cell? ⟨b, 4, none⟩ = some (.int .i64 r_4_9) ∧ (∃ (r_5_9 : Int), w_340.cell? ⟨b, 5, none⟩ = some (.int .i64 r_5_9) ∧ (∃ (r_6_9
  : Int), w_340.cell? ⟨b, 6, none⟩ = some (.int .i64 r_6_9) ∧ (∃ (r_7_9 : Int), w_340.cell? ⟨b, 7, none⟩ = some (.int .i64 r_7_9) ∧ (∃ (r_8_9 : Int), w_340.cell? ⟨b, 8, none⟩ = some (.int .u32 r_8_9)
  ∧ (∃ (r_9_9 : Bool), w_340.cell? ⟨b, 9, none⟩ = some (.bool r_9_9) ∧ (∃ (r_10_9 : Int), w_340.cell? ⟨b, 10, none⟩ = some (.int .i64 r_10_9) ∧ (∃ (r_11_9 : Int), w_340.cell? ⟨b, 11, none⟩ = some
  (.int .i64 r_11_9) ∧ (∃ (r_12_9 : Bool), w_340.cell? ⟨b, 12, none⟩ = some (.bool r_12_9) ∧ (∃ (r_13_9 : Bool), w_340.cell? ⟨b, 13, none⟩ = some (.bool r_13_9) ∧ (∃ (r_14_9 : Bool), w_340.cell? ⟨b,
  14, none⟩ = some (.bool r_14_9) ∧ (∃ (r_15_9 : Bool), w_340.cell? ⟨b, 15, none⟩ = some (.bool r_15_9) ∧ (∃ (r_16_9 : Bool), w_340.cell? ⟨b, 16, none⟩ = some (.bool r_16_9) ∧ (∃ (r_17_9 : Bool),
  w_340.cell? ⟨b, 17, none⟩ = some (.bool r_17_9) ∧ (∃ (r_18_9 : Bool), w_340.cell? ⟨b, 18, none⟩ = some (.bool r_18_9) ∧ (∃ (r_19_9 : Bool), w_340.cell? ⟨b, 19, none⟩ = some (.bool r_19_9) ∧ (∃
  (r_20_9 : Int), w_340.cell? ⟨b, 20, none⟩ = some (.int .i64 r_20_9) ∧ (∃ (r_21_9 : Bool), w_340.cell? ⟨b, 21, none⟩ = some (.bool r_21_9) ∧ (∃ (r_22_9 : Bool), w_340.cell? ⟨b, 22, none⟩ = some
  (.bool r_22_9) ∧ (∃ (r_23_9 : Bool), w_340.cell? ⟨b, 23, none⟩ = some (.bool r_23_9) ∧ R (.returned (.agg #[.int .i64 r_0_9, .int .i64 r_1_9, .int .i64 r_2_9, .bool r_3_9, .int .i64 r_4_9, .int .i64
  r_5_9, .int .i64 r_6_9, .int .i64 r_7_9, .int .u32 r_8_9, .bool r_9_9, .int .i64 r_10_9, .int .i64 r_11_9, .bool r_12_9, .bool r_13_9, .bool r_14_9, .bool r_15_9, .bool r_16_9, .bool r_17_9, .bool
  r_18_9, .bool r_19_9, .int .i64 r_20_9, .bool r_21_9, .bool r_22_9, .bool r_23_9])) w_340))))))))))))))))))))))))))))))))))))))))))))))))) ((∃ (x41_0_9 : Int), w_315.cell? ⟨b_3, 0, none⟩ = some
  (.int .i64 x41_0_9) ∧ (∃ (x41_1_9 : Int), w_315.cell? ⟨b_3, 1, none⟩ = some (.int .i64 x41_1_9) ∧ (∃ (x41_2_9 : Int), w_315.cell? ⟨b_3, 2, none⟩ = some (.int .i64 x41_2_9) ∧ (∃ (x41_3_9 : Bool),
  w_315.cell? ⟨b_3, 3, none⟩ = some (.bool x41_3_9) ∧ (∃ (x41_4_9 : Int), w_315.cell? ⟨b_3, 4, none⟩ = some (.int .i64 x41_4_9) ∧ (∃ (x41_5_9 : Int), w_315.cell? ⟨b_3, 5, none⟩ = some (.int .i64
  x41_5_9) ∧ (∃ (x41_6_9 : Int), w_315.cell? ⟨b_3, 6, none⟩ = some (.int .i64 x41_6_9) ∧ (∃ (x41_7_9 : Int), w_315.cell? ⟨b_3, 7, none⟩ = some (.int .i64 x41_7_9) ∧ (∃ (x41_8_9 : Int), w_315.cell?
  ⟨b_3, 8, none⟩ = some (.int .u32 x41_8_9) ∧ (∃ (x41_9_9 : Bool), w_315.cell? ⟨b_3, 9, none⟩ = some (.bool x41_9_9) ∧ (∃ (x41_10_9 : Int), w_315.cell? ⟨b_3, 10, none⟩ = some (.int .i64 x41_10_9) ∧ (∃
  (x41_11_9 : Int), w_315.cell? ⟨b_3, 11, none⟩ = some (.int .i64 x41_11_9) ∧ (∃ (x41_12_9 : Bool), w_315.cell? ⟨b_3, 12, none⟩ = some (.bool x41_12_9) ∧ (∃ (x41_13_9 : Bool), w_315.cell? ⟨b_3, 13,
  none⟩ = some (.bool x41_13_9) ∧ (∃ (x41_14_9 : Bool), w_315.cell? ⟨b_3, 14, none⟩ = some (.bool x41_14_9) ∧ (∃ (x41_15_9 : Bool), w_315.cell? ⟨b_3, 15, none⟩ = some (.bool x41_15_9) ∧ (∃ (x41_16_9 :
  Bool), w_315.cell? ⟨b_3, 16, none⟩ = some (.bool x41_16_9) ∧ (∃ (x41_17_9 : Bool), w_315.cell? ⟨b_3, 17, none⟩ = some (.bool x41_17_9) ∧ (∃ (x41_18_9 : Bool), w_315.cell? ⟨b_3, 18, none⟩ = some
  (.bool x41_18_9) ∧ (∃ (x41_19_9 : Bool), w_315.cell? ⟨b_3, 19, none⟩ = some (.bool x41_19_9) ∧ (∃ (x41_20_9 : Int), w_315.cell? ⟨b_3, 20, none⟩ = some (.int .i64 x41_20_9) ∧ (∃ (x41_21_9 : Bool),
  w_315.cell? ⟨b_3, 21, none⟩ = some (.bool x41_21_9) ∧ (∃ (x41_22_9 : Bool), w_315.cell? ⟨b_3, 22, none⟩ = some (.bool x41_22_9) ∧ (∃ (x41_23_9 : Bool), w_315.cell? ⟨b_3, 23, none⟩ = some (.bool
  x41_23_9) ∧ St w_315 ⟨b, 0, none⟩ (.int .i64 x41_0_9) fun w_341 => St w_341 ⟨b, 1, none⟩ (.int .i64 x41_1_9) fun w_342 => St w_342 ⟨b, 2, none⟩ (.int .i64 x41_2_9) fun w_343 => St w_343 ⟨b, 3, none⟩
  (.bool x41_3_9) fun w_344 => St w_344 ⟨b, 4, none⟩ (.int .i64 x41_4_9) fun w_345 => St w_345 ⟨b, 5, none⟩ (.int .i64 x41_5_9) fun w_346 => St w_346 ⟨b, 6, none⟩ (.int .i64 x41_6_9) fun w_347 => St
  w_347 ⟨b, 7, none⟩ (.int .i64 x41_7_9) fun w_348 => St w_348 ⟨b, 8, none⟩ (.int .u32 x41_8_9) fun w_349 => St w_349 ⟨b, 9, none⟩ (.bool x41_9_9) fun w_350 => St w_350 ⟨b, 10, none⟩ (.int .i64
  x41_10_9) fun w_351 => St w_351 ⟨b, 11, none⟩ (.int .i64 x41_11_9) fun w_352 => St w_352 ⟨b, 12, none⟩ (.bool x41_12_9) fun w_353 => St w_353 ⟨b, 13, none⟩ (.bool x41_13_9) fun w_354 => St w_354 ⟨b,
  14, none⟩ (.bool x41_14_9) fun w_355 => St w_355 ⟨b, 15, none⟩ (.bool x41_15_9) fun w_356 => St w_356 ⟨b, 16, none⟩ (.bool x41_16_9) fun w_357 => St w_357 ⟨b, 17, none⟩ (.bool x41_17_9) fun w_358 =>
  St w_358 ⟨b, 18, none⟩ (.bool x41_18_9) fun w_359 => St w_359 ⟨b, 19, none⟩ (.bool x41_19_9) fun w_360 => St w_360 ⟨b, 20, none⟩ (.int .i64 x41_20_9) fun w_361 => St w_361 ⟨b, 21, none⟩ (.bool
  x41_21_9) fun w_362 => St w_362 ⟨b, 22, none⟩ (.bool x41_22_9) fun w_363 => St w_363 ⟨b, 23, none⟩ (.bool x41_23_9) fun w_364 => (∃ (r_0_10 : Int), w_364.cell? ⟨b, 0, none⟩ = some (.int .i64 r_0_10)
  ∧ (∃ (r_1_10 : Int), w_364.cell? ⟨b, 1, none⟩ = some (.int .i64 r_1_10) ∧ (∃ (r_2_10 : Int), w_364.cell? ⟨b, 2, none⟩ = some (.int .i64 r_2_10) ∧ (∃ (r_3_10 : Bool), w_364.cell? ⟨b, 3, none⟩ = some
  (.bool r_3_10) ∧ (∃ (r_4_10 : Int), w_364.cell? ⟨b, 4, none⟩ = some (.int .i64 r_4_10) ∧ (∃ (r_5_10 : Int), w_364.cell? ⟨b, 5, none⟩ = some (.int .i64 r_5_10) ∧ (∃ (r_6_10 : Int), w_364.cell? ⟨b, 6,
  none⟩ = some (.int .i64 r_6_10) ∧ (∃ (r_7_10 : Int), w_364.cell? ⟨b, 7, none⟩ = some (.int .i64 r_7_10) ∧ (∃ (r_8_10 : Int), w_364.cell? ⟨b, 8, none⟩ = some (.int .u32 r_8_10) ∧ (∃ (r_9_10 : Bool),
  w_364.cell? ⟨b, 9, none⟩ = some (.bool r_9_10) ∧ (∃ (r_10_10 : Int), w_364.cell? ⟨b, 10, none⟩ = some (.int .i64 r_10_10) ∧ (∃ (r_11_10 : Int), w_364.cell? ⟨b, 11, none⟩ = some (.int .i64 r_11_10) ∧
  (∃ (r_12_10 : Bool), w_364.cell? ⟨b, 12, none⟩ = some (.bool r_12_10) ∧ (∃ (r_13_10 : Bool), w_364.cell? ⟨b, 13, none⟩ = some (.bool r_13_10) ∧ (∃ (r_14_10 : Bool), w_364.cell? ⟨b, 14, none⟩ = some
  (.bool r_14_10) ∧ (∃ (r_15_10 : Bool), w_364.cell? ⟨b, 15, none⟩ = some (.bool r_15_10) ∧ (∃ (r_16_10 : Bool), w_364.cell? ⟨b, 16, none⟩ = some (.bool r_16_10) ∧ (∃ (r_17_10 : Bool), w_364.cell? ⟨b,
  17, none⟩ = some (.bool r_17_10) ∧ (∃ (r_18_10 : Bool), w_364.cell? ⟨b, 18, none⟩ = some (.bool r_18_10) ∧ (∃ (r_19_10 : Bool), w_364.cell? ⟨b, 19, none⟩ = some (.bool r_19_10) ∧ (∃ (r_20_10 : Int),
  w_364.cell? ⟨b, 20, none⟩ = some (.int .i64 r_20_10) ∧ (∃ (r_21_10 : Bool), w_364.cell? ⟨b, 21, none⟩ = some (.bool r_21_10) ∧ (∃ (r_22_10 : Bool), w_364.cell? ⟨b, 22, none⟩ = some (.bool r_22_10) ∧
  (∃ (r_23_10 : Bool), w_364.cell? ⟨b, 23, none⟩ = some (.bool r_23_10) ∧ R (.returned (.agg #[.int .i64 r_0_10, .int .i64 r_1_10, .int .i64 r_2_10, .bool r_3_10, .int .i64 r_4_10, .int .i64 r_5_10,
  .int .i64 r_6_10, .int .i64 r_7_10, .int .u32 r_8_10, .bool r_9_10, .int .i64 r_10_10, .int .i64 r_11_10, .bool r_12_10, .bool r_13_10, .bool r_14_10, .bool r_15_10, .bool r_16_10, .bool r_17_10,
  .bool r_18_10, .bool r_19_10, .int .i64 r_20_10, .bool r_21_10, .bool r_22_10, .bool r_23_10])) w_364))))))))))))))))))))))))))))))))))))))))))))))))))) ((∃ (x38_5 : Int), w_314.cell? ⟨b_3, 2, none⟩
  = some (.int .i64 x38_5) ∧ cond (x38_5 == 10) (St w_314 ⟨b_3, 4, none⟩ (.int .i64 0) fun w_365 => (∃ (x41_0_10 : Int), w_365.cell? ⟨b_3, 0, none⟩ = some (.int .i64 x41_0_10) ∧ (∃ (x41_1_10 : Int),
  w_365.cell? ⟨b_3, 1, none⟩ = some (.int .i64 x41_1_10) ∧ (∃ (x41_2_10 : Int), w_365.cell? ⟨b_3, 2, none⟩ = some (.int .i64 x41_2_10) ∧ (∃ (x41_3_10 : Bool), w_365.cell? ⟨b_3, 3, none⟩ = some (.bool
  x41_3_10) ∧ (∃ (x41_4_10 : Int), w_365.cell? ⟨b_3, 4, none⟩ = some (.int .i64 x41_4_10) ∧ (∃ (x41_5_10 : Int), w_365.cell? ⟨b_3, 5, none⟩ = some (.int .i64 x41_5_10) ∧ (∃ (x41_6_10 : Int),
  w_365.cell? ⟨b_3, 6, none⟩ = some (.int .i64 x41_6_10) ∧ (∃ (x41_7_10 : Int), w_365.cell? ⟨b_3, 7, none⟩ = some (.int .i64 x41_7_10) ∧ (∃ (x41_8_10 : Int), w_365.cell? ⟨b_3, 8, none⟩ = some (.int
  .u32 x41_8_10) ∧ (∃ (x41_9_10 : Bool), w_365.cell? ⟨b_3, 9, none⟩ = some (.bool x41_9_10) ∧ (∃ (x41_10_10 : Int), w_365.cell? ⟨b_3, 10, none⟩ = some (.int .i64 x41_10_10) ∧ (∃ (x41_11_10 : Int),
  w_365.cell? ⟨b_3, 11, none⟩ = some (.int .i64 x41_11_10) ∧ (∃ (x41_12_10 : Bool), w_365.cell? ⟨b_3, 12, none⟩ = some (.bool x41_12_10) ∧ (∃ (x41_13_10 : Bool), w_365.cell? ⟨b_3, 13, none⟩ = some
  (.bool x41_13_10) ∧ (∃ (x41_14_10 : Bool), w_365.cell? ⟨b_3, 14, none⟩ = some (.bool x41_14_10) ∧ (∃ (x41_15_10 : Bool), w_365.cell? ⟨b_3, 15, none⟩ = some (.bool x41_15_10) ∧ (∃ (x41_16_10 : Bool),
  w_365.cell? ⟨b_3, 16, none⟩ = some (.bool x41_16_10) ∧ (∃ (x41_17_10 : Bool), w_365.cell? ⟨b_3, 17, none⟩ = some (.bool x41_17_10) ∧ (∃ (x41_18_10 : Bool), w_365.cell? ⟨b_3, 18, none⟩ = some (.bool
  x41_18_10) ∧ (∃ (x41_19_10 : Bool), w_365.cell? ⟨b_3, 19, none⟩ = some (.bool x41_19_10) ∧ (∃ (x41_20_10 : Int), w_365.cell? ⟨b_3, 20, none⟩ = some (.int .i64 x41_20_10) ∧ (∃ (x41_21_10 : Bool),
  w_365.cell? ⟨b_3, 21, none⟩ = some (.bool x41_21_10) ∧ (∃ (x41_22_10 : Bool), w_365.cell? ⟨b_3, 22, none⟩ = some (.bool x41_22_10) ∧ (∃ (x41_23_10 : Bool), w_365.cell? ⟨b_3, 23, none⟩ = some (.bool
  x41_23_10) ∧ St w_365 ⟨b, 0, none⟩ (.int .i64 x41_0_10) fun w_366 => St w_366 ⟨b, 1, none⟩ (.int .i64 x41_1_10) fun w_367 => St w_367 ⟨b, 2, none⟩ (.int .i64 x41_2_10) fun w_368 => St w_368 ⟨b, 3,
  none⟩ (.bool x41_3_10) fun w_369 => St w_369 ⟨b, 4, none⟩ (.int .i64 x41_4_10) fun w_370 => St w_370 ⟨b, 5, none⟩ (.int .i64 x41_5_10) fun w_371 => St w_371 ⟨b, 6, none⟩ (.int .i64 x41_6_10) fun
  w_372 => St w_372 ⟨b, 7, none⟩ (.int .i64 x41_7_10) fun w_373 => St w_373 ⟨b, 8, none⟩ (.int .u32 x41_8_10) fun w_374 => St w_374 ⟨b, 9, none⟩ (.bool x41_9_10) fun w_375 => St w_375 ⟨b, 10, none⟩
  (.int .i64 x41_10_10) fun w_376 => St w_376 ⟨b, 11, none⟩ (.int .i64 x41_11_10) fun w_377 => St w_377 ⟨b, 12, none⟩ (.bool x41_12_10) fun w_378 => St w_378 ⟨b, 13, none⟩ (.bool x41_13_10) fun w_379
  => St w_379 ⟨b, 14, none⟩ (.bool x41_14_10) fun w_380 => St w_380 ⟨b, 15, none⟩ (.bool x41_15_10) fun w_381 => St w_381 ⟨b, 16, none⟩ (.bool x41_16_10) fun w_382 => St w_382 ⟨b, 17, none⟩ (.bool
  x41_17_10) fun w_383 => St w_383 ⟨b, 18, none⟩ (.bool x41_18_10) fun w_384 => St w_384 ⟨b, 19, none⟩ (.bool x41_19_10) fun w_385 => St w_385 ⟨b, 20, none⟩ (.int .i64 x41_20_10) fun w_386 => St w_386
  ⟨b, 21, none⟩ (.bool x41_21_10) fun w_387 => St w_387 ⟨b, 22, none⟩ (.bool x41_22_10) fun w_388 => St w_388 ⟨b, 23, none⟩ (.bool x41_23_10) fun w_389 => (∃ (r_0_11 : Int), w_389.cell? ⟨b, 0, none⟩ =
  some (.int .i64 r_0_11) ∧ (∃ (r_1_11 : Int), w_389.cell? ⟨b, 1, none⟩ = some (.int .i64 r_1_11) ∧ (∃ (r_2_11 : Int), w_389.cell? ⟨b, 2, none⟩ = some (.int .i64 r_2_11) ∧ (∃ (r_3_11 : Bool),
  w_389.cell? ⟨b, 3, none⟩ = some (.bool r_3_11) ∧ (∃ (r_4_11 : Int), w_389.cell? ⟨b, 4, none⟩ = some (.int .i64 r_4_11) ∧ (∃ (r_5_11 : Int), w_389.cell? ⟨b, 5, none⟩ = some (.int .i64 r_5_11) ∧ (∃
  (r_6_11 : Int), w_389.cell? ⟨b, 6, none⟩ = some (.int .i64 r_6_11) ∧ (∃ (r_7_11 : Int), w_389.cell? ⟨b, 7, none⟩ = some (.int .i64 r_7_11) ∧ (∃ (r_8_11 : Int), w_389.cell? ⟨b, 8, none⟩ = some (.int
  .u32 r_8_11) ∧ (∃ (r_9_11 : Bool), w_389.cell? ⟨b, 9, none⟩ = some (.bool r_9_11) ∧ (∃ (r_10_11 : Int), w_389.cell? ⟨b, 10, none⟩ = some (.int .i64 r_10_11) ∧ (∃ (r_11_11 : Int), w_389.cell? ⟨b, 11,
  none⟩ = some (.int .i64 r_11_11) ∧ (∃ (r_12_11 : Bool), w_389.cell? ⟨b, 12, none⟩ = some (.bool r_12_11) ∧ (∃ (r_13_11 : Bool), w_389.cell? ⟨b, 13, none⟩ = some (.bool r_13_11) ∧ (∃ (r_14_11 :
  Bool), w_389.cell? ⟨b, 14, none⟩ = some (.bool r_14_11) ∧ (∃ (r_15_11 : Bool), w_389.cell? ⟨b, 15, none⟩ = some (.bool r_15_11) ∧ (∃ (r_16_11 : Bool), w_389.cell? ⟨b, 16, none⟩ = some (.bool
  r_16_11) ∧ (∃ (r_17_11 : Bool), w_389.cell? ⟨b, 17, none⟩ = some (.bool r_17_11) ∧ (∃ (r_18_11 : Bool), w_389.cell? ⟨b, 18, none⟩ = some (.bool r_18_11) ∧ (∃ (r_19_11 : Bool), w_389.cell? ⟨b, 19,
  none⟩ = some (.bool r_19_11) ∧ (∃ (r_20_11 : Int), w_389.cell? ⟨b, 20, none⟩ = some (.int .i64 r_20_11) ∧ (∃ (r_21_11 : Bool), w_389.cell? ⟨b, 21, none⟩ = some (.bool r_21_11) ∧ (∃ (r_22_11 : Bool),
  w_389.cell? ⟨b, 22, none⟩ = some (.bool r_22_11) ∧ (∃ (r_23_11 : Bool), w_389.cell? ⟨b, 23, none⟩ = some (.bool r_23_11) ∧ R (.returned (.agg #[.int .i64 r_0_11, .int .i64 r_1_11, .int .i64 r_2_11,
  .bool r_3_11, .int .i64 r_4_11, .int .i64 r_5_11, .int .i64 r_6_11, .int .i64 r_7_11, .int .u32 r_8_11, .bool r_9_11, .int .i64 r_10_11, .int .i64 r_11_11, .bool r_12_11, .bool r_13_11, .bool
  r_14_11, .bool r_15_11, .bool r_16_11, .bool r_17_11, .bool r_18_11, .bool r_19_11, .int .i64 r_20_11, .bool r_21_11, .bool r_22_11, .bool r_23_11]))
  w_389))))))))))))))))))))))))))))))))))))))))))))))))) ((∃ (x41_0_11 : Int), w_314.cell? ⟨b_3, 0, none⟩ = some (.int .i64 x41_0_11) ∧ (∃ (x41_1_11 : Int), w_314.cell? ⟨b_3, 1, none⟩ = some (.int
  .i64 x41_1_11) ∧ (∃ (x41_2_11 : Int), w_314.cell? ⟨b_3, 2, none⟩ = some (.int .i64 x41_2_11) ∧ (∃ (x41_3_11 : Bool), w_314.cell? ⟨b_3, 3, none⟩ = some (.bool x41_3_11) ∧ (∃ (x41_4_11 : Int),
  w_314.cell? ⟨b_3, 4, none⟩ = some (.int .i64 x41_4_11) ∧ (∃ (x41_5_11 : Int), w_314.cell? ⟨b_3, 5, none⟩ = some (.int .i64 x41_5_11) ∧ (∃ (x41_6_11 : Int), w_314.cell? ⟨b_3, 6, none⟩ = some (.int
  .i64 x41_6_11) ∧ (∃ (x41_7_11 : Int), w_314.cell? ⟨b_3, 7, none⟩ = some (.int .i64 x41_7_11) ∧ (∃ (x41_8_11 : Int), w_314.cell? ⟨b_3, 8, none⟩ = some (.int .u32 x41_8_11) ∧ (∃ (x41_9_11 : Bool),
  w_314.cell? ⟨b_3, 9, none⟩ = some (.bool x41_9_11) ∧ (∃ (x41_10_11 : Int), w_314.cell? ⟨b_3, 10, none⟩ = some (.int .i64 x41_10_11) ∧ (∃ (x41_11_11 : Int), w_314.cell? ⟨b_3, 11, none⟩ = some (.int
  .i64 x41_11_11) ∧ (∃ (x41_12_11 : Bool), w_314.cell? ⟨b_3, 12, none⟩ = some (.bool x41_12_11) ∧ (∃ (x41_13_11 : Bool), w_314.cell? ⟨b_3, 13, none⟩ = some (.bool x41_13_11) ∧ (∃ (x41_14_11 : Bool),
  w_314.cell? ⟨b_3, 14, none⟩ = some (.bool x41_14_11) ∧ (∃ (x41_15_11 : Bool), w_314.cell? ⟨b_3, 15, none⟩ = some (.bool x41_15_11) ∧ (∃ (x41_16_11 : Bool), w_314.cell? ⟨b_3, 16, none⟩ = some (.bool
  x41_16_11) ∧ (∃ (x41_17_11 : Bool), w_314.cell? ⟨b_3, 17, none⟩ = some (.bool x41_17_11) ∧ (∃ (x41_18_11 : Bool), w_314.cell? ⟨b_3, 18, none⟩ = some (.bool x41_18_11) ∧ (∃ (x41_19_11 : Bool),
  w_314.cell? ⟨b_3, 19, none⟩ = some (.bool x41_19_11) ∧ (∃ (x41_20_11 : Int), w_314.cell? ⟨b_3, 20, none⟩ = some (.int .i64 x41_20_11) ∧ (∃ (x41_21_11 : Bool), w_314.cell? ⟨b_3, 21, none⟩ = some
  (.bool x41_21_11) ∧ (∃ (x41_22_11 : Bool), w_314.cell? ⟨b_3, 22, none⟩ = some (.bool x41_22_11) ∧ (∃ (x41_23_11 : Bool), w_314.cell? ⟨b_3, 23, none⟩ = some (.bool x41_23_11) ∧ St w_314 ⟨b, 0, none⟩
  (.int .i64 x41_0_11) fun w_390 => St w_390 ⟨b, 1, none⟩ (.int .i64 x41_1_11) fun w_391 => St w_391 ⟨b, 2, none⟩ (.int .i64 x41_2_11) fun w_392 => St w_392 ⟨b, 3, none⟩ (.bool x41_3_11) fun w_393 =>
  St w_393 ⟨b, 4, none⟩ (.int .i64 x41_4_11) fun w_394 => St w_394 ⟨b, 5, none⟩ (.int .i64 x41_5_11) fun w_395 => St w_395 ⟨b, 6, none⟩ (.int .i64 x41_6_11) fun w_396 => St w_396 ⟨b, 7, none⟩ (.int
  .i64 x41_7_11) fun w_397 => St w_397 ⟨b, 8, none⟩ (.int .u32 x41_8_11) fun w_398 => St w_398 ⟨b, 9, none⟩ (.bool x41_9_11) fun w_399 => St w_399 ⟨b, 10, none⟩ (.int .i64 x41_10_11) fun w_400 => St
  w_400 ⟨b, 11, none⟩ (.int .i64 x41_11_11) fun w_401 => St w_401 ⟨b, 12, none⟩ (.bool x41_12_11) fun w_402 => St w_402 ⟨b, 13, none⟩ (.bool x41_13_11) fun w_403 => St w_403 ⟨b, 14, none⟩ (.bool
  x41_14_11) fun w_404 => St w_404 ⟨b, 15, none⟩ (.bool x41_15_11) fun w_405 => St w_405 ⟨b, 16, none⟩ (.bool x41_16_11) fun w_406 => St w_406 ⟨b, 17, none⟩ (.bool x41_17_11) fun w_407 => St w_407 ⟨b,
  18, none⟩ (.bool x41_18_11) fun w_408 => St w_408 ⟨b, 19, none⟩ (.bool x41_19_11) fun w_409 => St w_409 ⟨b, 20, none⟩ (.int .i64 x41_20_11) fun w_410 => St w_410 ⟨b, 21, none⟩ (.bool x41_21_11) fun
  w_411 => St w_411 ⟨b, 22, none⟩ (.bool x41_22_11) fun w_412 => St w_412 ⟨b, 23, none⟩ (.bool x41_23_11) fun w_413 => (∃ (r_0_12 : Int), w_413.cell? ⟨b, 0, none⟩ = some (.int .i64 r_0_12) ∧ (∃
  (r_1_12 : Int), w_413.cell? ⟨b, 1, none⟩ = some (.int .i64 r_1_12) ∧ (∃ (r_2_12 : Int), w_413.cell? ⟨b, 2, none⟩ = some (.int .i64 r_2_12) ∧ (∃ (r_3_12 : Bool), w_413.cell? ⟨b, 3, none⟩ = some
  (.bool r_3_12) ∧ (∃ (r_4_12 : Int), w_413.cell? ⟨b, 4, none⟩ = some (.int .i64 r_4_12) ∧ (∃ (r_5_12 : Int), w_413.cell? ⟨b, 5, none⟩ = some (.int .i64 r_5_12) ∧ (∃ (r_6_12 : Int), w_413.cell? ⟨b, 6,
  none⟩ = some (.int .i64 r_6_12) ∧ (∃ (r_7_12 : Int), w_413.cell? ⟨b, 7, none⟩ = some (.int .i64 r_7_12) ∧ (∃ (r_8_12 : Int), w_413.cell? ⟨b, 8, none⟩ = some (.int .u32 r_8_12) ∧ (∃ (r_9_12 : Bool),
  w_413.cell? ⟨b, 9, none⟩ = some (.bool r_9_12) ∧ (∃ (r_10_12 : Int), w_413.cell? ⟨b, 10, none⟩ = some (.int .i64 r_10_12) ∧ (∃ (r_11_12 : Int), w_413.cell? ⟨b, 11, none⟩ = some (.int .i64 r_11_12) ∧
  (∃ (r_12_12 : Bool), w_413.cell? ⟨b, 12, none⟩ = some (.bool r_12_12) ∧ (∃ (r_13_12 : Bool), w_413.cell? ⟨b, 13, none⟩ = some (.bool r_13_12) ∧ (∃ (r_14_12 : Bool), w_413.cell? ⟨b, 14, none⟩ = some
  (.bool r_14_12) ∧ (∃ (r_15_12 : Bool), w_413.cell? ⟨b, 15, none⟩ = some (.bool r_15_12) ∧ (∃ (r_16_12 : Bool), w_413.cell? ⟨b, 16, none⟩ = some (.bool r_16_12) ∧ (∃ (r_17_12 : Bool), w_413.cell? ⟨b,
  17, none⟩ = some (.bool r_17_12) ∧ (∃ (r_18_12 : Bool), w_413.cell? ⟨b, 18, none⟩ = some (.bool r_18_12) ∧ (∃ (r_19_12 : Bool), w_413.cell? ⟨b, 19, none⟩ = some (.bool r_19_12) ∧ (∃ (r_20_12 : Int),
  w_413.cell? ⟨b, 20, none⟩ = some (.int .i64 r_20_12) ∧ (∃ (r_21_12 : Bool), w_413.cell? ⟨b, 21, none⟩ = some (.bool r_21_12) ∧ (∃ (r_22_12 : Bool), w_413.cell? ⟨b, 22, none⟩ = some (.bool r_22_12) ∧
  (∃ (r_23_12 : Bool), w_413.cell? ⟨b, 23, none⟩ = some (.bool r_23_12) ∧ R (.returned (.agg #[.int .i64 r_0_12, .int .i64 r_1_12, .int .i64 r_2_12, .bool r_3_12, .int .i64 r_4_12, .int .i64 r_5_12,
  .int .i64 r_6_12, .int .i64 r_7_12, .int .u32 r_8_12, .bool r_9_12, .int .i64 r_10_12, .int .i64 r_11_12, .bool r_12_12, .bool r_13_12, .bool r_14_12, .bool r_15_12, .bool r_16_12, .bool r_17_12,
  .bool r_18_12, .bool r_19_12, .int .i64 r_20_12, .bool r_21_12, .bool r_22_12, .bool r_23_12])) w_413))))))))))))))))))))))))))))))))))))))))))))))))))))))))))))) ∧ (Nw w_29 (.cells #[.int .i64 0,
  .int .i64 0, .int .i64 0, .bool false, .int .i64 0, .int .i64 0, .int .i64 0, .int .i64 0, .int .u32 0, .bool false, .int .i64 0, .int .i64 0, .bool false, .bool false, .bool false, .bool false,
  .bool false, .bool false, .bool false, .bool false, .int .i64 0, .bool false, .bool false, .bool false] 26) fun b_4 w_414 => (S_1 w_414 ∧ (Calls Try.prog 11 #[.int .u32 (IntKind.wrap .u32 q0), .int
  .i64 8, .int .i64 3] w_414 fun e w_415 => ∃ (x25_1 : Int), e = .returned (.int .i64 x25_1) ∧ (S_1 w_415 ∧ (Calls Try.prog 11 #[.int .u32 (IntKind.wrap .u32 q0), .int .i64 8, .int .i64 3] w_415 fun e
  w_416 => ∃ (x27_2 : Int), e = .returned (.int .i64 x27_2) ∧ (S_1 w_416 ∧ (Calls Try.prog 10 #[.int .i64 x23, .int .i64 x25_1, .int .i64 x27_2] w_416 fun e w_417 => ∃ (x28_0_3 : Int) (x28_1_3 : Int)
  (x28_2_3 : Int) (x28_3_3 : Bool) (x28_4_3 : Int) (x28_5_3 : Int) (x28_6_3 : Int) (x28_7_3 : Int) (x28_8_3 : Int) (x28_9_3 : Bool) (x28_10_3 : Int) (x28_11_3 : Int) (x28_12_3 : Bool) (x28_13_3 :
  Bool) (x28_14_3 : Bool) (x28_15_3 : Bool) (x28_16_3 : Bool) (x28_17_3 : Bool) (x28_18_3 : Bool) (x28_19_3 : Bool) (x28_20_3 : Int) (x28_21_3 : Bool) (x28_22_3 : Bool) (x28_23_3 : Bool), e =
  .returned (.agg #[.int .i64 x28_0_3, .int .i64 x28_1_3, .int .i64 x28_2_3, .bool x28_3_3, .int .i64 x28_4_3, .int .i64 x28_5_3, .int .i64 x28_6_3, .int .i64 x28_7_3, .int .u32 x28_8_3, .bool
  x28_9_3, .int .i64 x28_10_3, .int .i64 x28_11_3, .bool x28_12_3, .bool x28_13_3, .bool x28_14_3, .bool x28_15_3, .bool x28_16_3, .bool x28_17_3, .bool x28_18_3, .bool x28_19_3, .int .i64 x28_20_3,
  .bool x28_21_3, .bool x28_22_3, .bool x28_23_3]) ∧ St w_417 ⟨b_4, 0, none⟩ (.int .i64 x28_0_3) fun w_418 => St w_418 ⟨b_4, 1, none⟩ (.int .i64 x28_1_3) fun w_419 => St w_419 ⟨b_4, 2, none⟩ (.int
  .i64 x28_2_3) fun w_420 => St w_420 ⟨b_4, 3, none⟩ (.bool x28_3_3) fun w_421 => St w_421 ⟨b_4, 4, none⟩ (.int .i64 x28_4_3) fun w_422 => St w_422 ⟨b_4, 5, none⟩ (.int .i64 x28_5_3) fun w_423 => St
  w_423 ⟨b_4, 6, none⟩ (.int .i64 x28_6_3) fun w_424 => St w_424 ⟨b_4, 7, none⟩ (.int .i64 x28_7_3) fun w_425 => St w_425 ⟨b_4, 8, none⟩ (.int .u32 x28_8_3) fun w_426 => St w_426 ⟨b_4, 9, none⟩ (.bool
  x28_9_3) fun w_427 => St w_427 ⟨b_4, 10, none⟩ (.int .i64 x28_10_3) fun w_428 => St w_428 ⟨b_4, 11, none⟩ (.int .i64 x28_11_3) fun w_429 => St w_429 ⟨b_4, 12, none⟩ (.bool x28_12_3) fun w_430 => St
  w_430 ⟨b_4, 13, none⟩ (.bool x28_13_3) fun w_431 => St w_431 ⟨b_4, 14, none⟩ (.bool x28_14_3) fun w_432 => St w_432 ⟨b_4, 15, none⟩ (.bool x28_15_3) fun w_433 => St w_433 ⟨b_4, 16, none⟩ (.bool
  x28_16_3) fun w_434 => St w_434 ⟨b_4, 17, none⟩ (.bool x28_17_3) fun w_435 => St w_435 ⟨b_4, 18, none⟩ (.bool x28_18_3) fun w_436 => St w_436 ⟨b_4, 19, none⟩ (.bool x28_19_3) fun w_437 => St w_437
  ⟨b_4, 20, none⟩ (.int .i64 x28_20_3) fun w_438 => St w_438 ⟨b_4, 21, none⟩ (.bool x28_21_3) fun w_439 => St w_439 ⟨b_4, 22, none⟩ (.bool x28_22_3) fun w_440 => St w_440 ⟨b_4, 23, none⟩ (.bool
  x28_23_3) fun w_441 => St w_441 ⟨b_4, 9, none⟩ (.bool true) fun w_442 => St w_442 ⟨b_4, 8, none⟩ (.int .u32 (bits .and .u32 (IntKind.wrap .u32 q0) 255)) fun w_443 => (∃ (x34_3 : Int), w_443.cell?
  ⟨b_4, 2, none⟩ = some (.int .i64 x34_3) ∧ cond (x34_3 == 13) (St w_443 ⟨b_4, 5, none⟩ (.int .i64 0) fun w_444 => (∃ (x38_6 : Int), w_444.cell? ⟨b_4, 2, none⟩ = some (.int .i64 x38_6) ∧ cond (x38_6
  == 10) (St w_444 ⟨b_4, 4, none⟩ (.int .i64 0) fun w_445 => (∃ (x41_0_12 : Int), w_445.cell? ⟨b_4, 0, none⟩ = some (.int .i64 x41_0_12) ∧ (∃ (x41_1_12 : Int), w_445.cell? ⟨b_4, 1, none⟩ = some (.int
  .i64 x41_1_12) ∧ (∃ (x41_2_12 : Int), w_445.cell? ⟨b_4, 2, none⟩ = some (.int .i64 x41_2_12) ∧ (∃ (x41_3_12 : Bool), w_445.cell? ⟨b_4, 3, none⟩ = some (.bool x41_3_12) ∧ (∃ (x41_4_12 : Int),
  w_445.cell? ⟨b_4, 4, none⟩ = some (.int .i64 x41_4_12) ∧ (∃ (x41_5_12 : Int), w_445.cell? ⟨b_4, 5, none⟩ = some (.int .i64 x41_5_12) ∧ (∃ (x41_6_12 : Int), w_445.cell? ⟨b_4, 6, none⟩ = some (.int
  .i64 x41_6_12) ∧ (∃ (x41_7_12 : Int), w_445.cell? ⟨b_4, 7, none⟩ = some (.int .i64 x41_7_12) ∧ (∃ (x41_8_12 : Int), w_445.cell? ⟨b_4, 8, none⟩ = some (.int .u32 x41_8_12) ∧ (∃ (x41_9_12 : Bool),
  w_445.cell? ⟨b_4, 9, none⟩ = some (.bool x41_9_12) ∧ (∃ (x41_10_12 : Int), w_445.cell? ⟨b_4, 10, none⟩ = some (.int .i64 x41_10_12) ∧ (∃ (x41_11_12 : Int), w_445.cell? ⟨b_4, 11, none⟩ = some (.int
  .i64 x41_11_12) ∧ (∃ (x41_12_12 : Bool), w_445.cell? ⟨b_4, 12, none⟩ = some (.bool x41_12_12) ∧ (∃ (x41_13_12 : Bool), w_445.cell? ⟨b_4, 13, none⟩ = some (.bool x41_13_12) ∧ (∃ (x41_14_12 : Bool),
  w_445.cell? ⟨b_4, 14, none⟩ = some (.bool x41_14_12) ∧ (∃ (x41_15_12 : Bool), w_445.cell? ⟨b_4, 15, none⟩ = some (.bool x41_15_12) ∧ (∃ (x41_16_12 : Bool), w_445.cell? ⟨b_4, 16, none⟩ = some (.bool
  x41_16_12) ∧ (∃ (x41_17_12 : Bool), w_445.cell? ⟨b_4, 17, none⟩ = some (.bool x41_17_12) ∧ (∃ (x41_18_12 : Bool), w_445.cell? ⟨b_4, 18, none⟩ = some (.bool x41_18_12) ∧ (∃ (x41_19_12 : Bool),
  w_445.cell? ⟨b_4, 19, none⟩ = some (.bool x41_19_12) ∧ (∃ (x41_20_12 : Int), w_445.cell? ⟨b_4, 20, none⟩ = some (.int .i64 x41_20_12) ∧ (∃ (x41_21_12 : Bool), w_445.cell? ⟨b_4, 21, none⟩ = some
  (.bool x41_21_12) ∧ (∃ (x41_22_12 : Bool), w_445.cell? ⟨b_4, 22, none⟩ = some (.bool x41_22_12) ∧ (∃ (x41_23_12 : Bool), w_445.cell? ⟨b_4, 23, none⟩ = some (.bool x41_23_12) ∧ St w_445 ⟨b, 0, none⟩
  (.int .i64 x41_0_12) fun w_446 => St w_446 ⟨b, 1, none⟩ (.int .i64 x41_1_12) fun w_447 => St w_447 ⟨b, 2, none⟩ (.int .i64 x41_2_12) fun w_448 => St w_448 ⟨b, 3, none⟩ (.bool x41_3_12) fun w_449 =>
  St w_449 ⟨b, 4, none⟩ (.int .i64 x41_4_12) fun w_450 => St w_450 ⟨b, 5, none⟩ (.int .i64 x41_5_12) fun w_451 => St w_451 ⟨b, 6, none⟩ (.int .i64 x41_6_12) fun w_452 => St w_452 ⟨b, 7, none⟩ (.int
  .i64 x41_7_12) fun w_453 => St w_453 ⟨b, 8, none⟩ (.int .u32 x41_8_12) fun w_454 => St w_454 ⟨b, 9, none⟩ (.bool x41_9_12) fun w_455 => St w_455 ⟨b, 10, none⟩ (.int .i64 x41_10_12) fun w_456 => St
  w_456 ⟨b, 11, none⟩ (.int .i64 x41_11_12) fun w_457 => St w_457 ⟨b, 12, none⟩ (.bool x41_12_12) fun w_458 => St w_458 ⟨b, 13, none⟩ (.bool x41_13_12) fun w_459 => St w_459 ⟨b, 14, none⟩ (.bool
  x41_14_12) fun w_460 => St w_460 ⟨b, 15, none⟩ (.bool x41_15_12) fun w_461 => St w_461 ⟨b, 16, none⟩ (.bool x41_16_12) fun w_462 => St w_462 ⟨b, 17, none⟩ (.bool x41_17_12) fun w_463 => St w_463 ⟨b,
  18, none⟩ (.bool x41_18_12) fun w_464 => St w_464 ⟨b, 19, none⟩ (.bool x41_19_12) fun w_465 => St w_465 ⟨b, 20, none⟩ (.int .i64 x41_20_12) fun w_466 => St w_466 ⟨b, 21, none⟩ (.bool x41_21_12) fun
  w_467 => St w_467 ⟨b, 22, none⟩ (.bool x41_22_12) fun w_468 => St w_468 ⟨b, 23, none⟩ (.bool x41_23_12) fun w_469 => (∃ (r_0_13 : Int), w_469.cell? ⟨b, 0, none⟩ = some (.int .i64 r_0_13) ∧ (∃
  (r_1_13 : Int), w_469.cell? ⟨b, 1, none⟩ = some (.int .i64 r_1_13) ∧ (∃ (r_2_13 : Int), w_469.cell? ⟨b, 2, none⟩ = some (.int .i64 r_2_13) ∧ (∃ (r_3_13 : Bool), w_469.cell? ⟨b, 3, none⟩ = some
  (.bool r_3_13) ∧ (∃ (r_4_13 : Int), w_469.cell? ⟨b, 4, none⟩ = some (.int .i64 r_4_13) ∧ (∃ (r_5_13 : Int), w_469.cell? ⟨b, 5, none⟩ = some (.int .i64 r_5_13) ∧ (∃ (r_6_13 : Int), w_469.cell? ⟨b, 6,
  none⟩ = some (.int .i64 r_6_13) ∧ (∃ (r_7_13 : Int), w_469.cell? ⟨b, 7, none⟩ = some (.int .i64 r_7_13) ∧ (∃ (r_8_13 : Int), w_469.cell? ⟨b, 8, none⟩ = some (.int .u32 r_8_13) ∧ (∃ (r_9_13 : Bool),
  w_469.cell? ⟨b, 9, none⟩ = some (.bool r_9_13) ∧ (∃ (r_10_13 : Int), w_469.cell? ⟨b, 10, none⟩ = some (.int .i64 r_10_13) ∧ (∃ (r_11_13 : Int), w_469.cell? ⟨b, 11, none⟩ = some (.int .i64 r_11_13) ∧
  (∃ (r_12_13 : Bool), w_469.cell? ⟨b, 12, none⟩ = some (.bool r_12_13) ∧ (∃ (r_13_13 : Bool), w_469.cell? ⟨b, 13, none⟩ = some (.bool r_13_13) ∧ (∃ (r_14_13 : Bool), w_469.cell? ⟨b, 14, none⟩ = some
  (.bool r_14_13) ∧ (∃ (r_15_13 : Bool), w_469.cell? ⟨b, 15, none⟩ = some (.bool r_15_13) ∧ (∃ (r_16_13 : Bool), w_469.cell? ⟨b, 16, none⟩ = some (.bool r_16_13) ∧ (∃ (r_17_13 : Bool), w_469.cell? ⟨b,
  17, none⟩ = some (.bool r_17_13) ∧ (∃ (r_18_13 : Bool), w_469.cell? ⟨b, 18, none⟩ = some (.bool r_18_13) ∧ (∃ (r_19_13 : Bool), w_469.cell? ⟨b, 19, none⟩ = some (.bool r_19_13) ∧ (∃ (r_20_13 : Int),
  w_469.cell? ⟨b, 20, none⟩ = some (.int .i64 r_20_13) ∧ (∃ (r_21_13 : Bool), w_469.cell? ⟨b, 21, none⟩ = some (.bool r_21_13) ∧ (∃ (r_22_13 : Bool), w_469.cell? ⟨b, 22, none⟩ = some (.bool r_22_13) ∧
  (∃ (r_23_13 : Bool), w_469.cell? ⟨b, 23, none⟩ = some (.bool r_23_13) ∧ R (.returned (.agg #[.int .i64 r_0_13, .int .i64 r_1_13, .int .i64 r_2_13, .bool r_3_13, .int .i64 r_4_13, .int .i64 r_5_13,
  .int .i64 r_6_13, .int .i64 r_7_13, .int .u32 r_8_13, .bool r_9_13, .int .i64 r_10_13, .int .i64 r_11_13, .bool r_12_13, .bool r_13_13, .bool r_14_13, .bool r_15_13, .bool r_16_13, .bool r_17_13,
  .bool r_18_13, .bool r_19_13, .int .i64 r_20_13, .bool r_21_13, .bool r_22_13, .bool r_23_13])) w_469))))))))))))))))))))))))))))))))))))))))))))))))) ((∃ (x41_0_13 : Int), w_444.cell? ⟨b_4, 0,
  none⟩ = some (.int .i64 x41_0_13) ∧ (∃ (x41_1_13 : Int), w_444.cell? ⟨b_4, 1, none⟩ = some (.int .i64 x41_1_13) ∧ (∃ (x41_2_13 : Int), w_444.cell? ⟨b_4, 2, none⟩ = some (.int .i64 x41_2_13) ∧ (∃
  (x41_3_13 : Bool), w_444.cell? ⟨b_4, 3, none⟩ = some (.bool x41_3_13) ∧ (∃ (x41_4_13 : Int), w_444.cell? ⟨b_4, 4, none⟩ = some (.int .i64 x41_4_13) ∧ (∃ (x41_5_13 : Int), w_444.cell? ⟨b_4, 5, none⟩
  = some (.int .i64 x41_5_13) ∧ (∃ (x41_6_13 : Int), w_444.cell? ⟨b_4, 6, none⟩ = some (.int .i64 x41_6_13) ∧ (∃ (x41_7_13 : Int), w_444.cell? ⟨b_4, 7, none⟩ = some (.int .i64 x41_7_13) ∧ (∃ (x41_8_13
  : Int), w_444.cell? ⟨b_4, 8, none⟩ = some (.int .u32 x41_8_13) ∧ (∃ (x41_9_13 : Bool), w_444.cell? ⟨b_4, 9, none⟩ = some (.bool x41_9_13) ∧ (∃ (x41_10_13 : Int), w_444.cell? ⟨b_4, 10, none⟩ = some
  (.int .i64 x41_10_13) ∧ (∃ (x41_11_13 : Int), w_444.cell? ⟨b_4, 11, none⟩ = some (.int .i64 x41_11_13) ∧ (∃ (x41_12_13 : Bool), w_444.cell? ⟨b_4, 12, none⟩ = some (.bool x41_12_13) ∧ (∃ (x41_13_13 :
  Bool), w_444.cell? ⟨b_4, 13, none⟩ = some (.bool x41_13_13) ∧ (∃ (x41_14_13 : Bool), w_444.cell? ⟨b_4, 14, none⟩ = some (.bool x41_14_13) ∧ (∃ (x41_15_13 : Bool), w_444.cell? ⟨b_4, 15, none⟩ = some
  (.bool x41_15_13) ∧ (∃ (x41_16_13 : Bool), w_444.cell? ⟨b_4, 16, none⟩ = some (.bool x41_16_13) ∧ (∃ (x41_17_13 : Bool), w_444.cell? ⟨b_4, 17, none⟩ = some (.bool x41_17_13) ∧ (∃ (x41_18_13 : Bool),
  w_444.cell? ⟨b_4, 18, none⟩ = some (.bool x41_18_13) ∧ (∃ (x41_19_13 : Bool), w_444.cell? ⟨b_4, 19, none⟩ = some (.bool x41_19_13) ∧ (∃ (x41_20_13 : Int), w_444.cell? ⟨b_4, 20, none⟩ = some (.int
  .i64 x41_20_13) ∧ (∃ (x41_21_13 : Bool), w_444.cell? ⟨b_4, 21, none⟩ = some (.bool x41_21_13) ∧ (∃ (x41_22_13 : Bool), w_444.cell? ⟨b_4, 22, none⟩ = some (.bool x41_22_13) ∧ (∃ (x41_23_13 : Bool),
  w_444.cell? ⟨b_4, 23, none⟩ = some (.bool x41_23_13) ∧ St w_444 ⟨b, 0, none⟩ (.int .i64 x41_0_13) fun w_470 => St w_470 ⟨b, 1, none⟩ (.int .i64 x41_1_13) fun w_471 => St w_471 ⟨b, 2, none⟩ (.int
  .i64 x41_2_13) fun w_472 => St w_472 ⟨b, 3, none⟩ (.bool x41_3_13) fun w_473 => St w_473 ⟨b, 4, none⟩ (.int .i64 x41_4_13) fun w_474 => St w_474 ⟨b, 5, none⟩ (.int .i64 x41_5_13) fun w_475 => St
  w_475 ⟨b, 6, none⟩ (.int .i64 x41_6_13) fun w_476 => St w_476 ⟨b, 7, none⟩ (.int .i64 x41_7_13) fun w_477 => St w_477 ⟨b, 8, none⟩ (.int .u32 x41_8_13) fun w_478 => St w_478 ⟨b, 9, none⟩ (.bool
  x41_9_13) fun w_479 => St w_479 ⟨b, 10, none⟩ (.int .i64 x41_10_13) fun w_480 => St w_480 ⟨b, 11, none⟩ (.int .i64 x41_11_13) fun w_481 => St w_481 ⟨b, 12, none⟩ (.bool x41_12_13) fun w_482 => St
  w_482 ⟨b, 13, none⟩ (.bool x41_13_13) fun w_483 => St w_483 ⟨b, 14, none⟩ (.bool x41_14_13) fun w_484 => St w_484 ⟨b, 15, none⟩ (.bool x41_15_13) fun w_485 => St w_485 ⟨b, 16, none⟩ (.bool
  x41_16_13) fun w_486 => St w_486 ⟨b, 17, none⟩ (.bool x41_17_13) fun w_487 => St w_487 ⟨b, 18, none⟩ (.bool x41_18_13) fun w_488 => St w_488 ⟨b, 19, none⟩ (.bool x41_19_13) fun w_489 => St w_489 ⟨b,
  20, none⟩ (.int .i64 x41_20_13) fun w_490 => St w_490 ⟨b, 21, none⟩ (.bool x41_21_13) fun w_491 => St w_491 ⟨b, 22, none⟩ (.bool x41_22_13) fun w_492 => St w_492 ⟨b, 23, none⟩ (.bool x41_23_13) fun
  w_493 => (∃ (r_0_14 : Int), w_493.cell? ⟨b, 0, none⟩ = some (.int .i64 r_0_14) ∧ (∃ (r_1_14 : Int), w_493.cell? ⟨b, 1, none⟩ = some (.int .i64 r_1_14) ∧ (∃ (r_2_14 : Int), w_493.cell? ⟨b, 2, none⟩ =
  some (.int .i64 r_2_14) ∧ (∃ (r_3_14 : Bool), w_493.cell? ⟨b, 3, none⟩ = some (.bool r_3_14) ∧ (∃ (r_4_14 : Int), w_493.cell? ⟨b, 4, none⟩ = some (.int .i64 r_4_14) ∧ (∃ (r_5_14 : Int), w_493.cell?
  ⟨b, 5, none⟩ = some (.int .i64 r_5_14) ∧ (∃ (r_6_14 : Int), w_493.cell? ⟨b, 6, none⟩ = some (.int .i64 r_6_14) ∧ (∃ (r_7_14 : Int), w_493.cell? ⟨b, 7, none⟩ = some (.int .i64 r_7_14) ∧ (∃ (r_8_14 :
  Int), w_493.cell? ⟨b, 8, none⟩ = some (.int .u32 r_8_14) ∧ (∃ (r_9_14 : Bool), w_493.cell? ⟨b, 9, none⟩ = some (.bool r_9_14) ∧ (∃ (r_10_14 : Int), w_493.cell? ⟨b, 10, none⟩ = some (.int .i64
  r_10_14) ∧ (∃ (r_11_14 : Int), w_493.cell? ⟨b, 11, none⟩ = some (.int .i64 r_11_14) ∧ (∃ (r_12_14 : Bool), w_493.cell? ⟨b, 12, none⟩ = some (.bool r_12_14) ∧ (∃ (r_13_14 : Bool), w_493.cell? ⟨b, 13,
  none⟩ = some (.bool r_13_14) ∧ (∃ (r_14_14 : Bool), w_493.cell? ⟨b, 14, none⟩ = some (.bool r_14_14) ∧ (∃ (r_15_14 : Bool), w_493.cell? ⟨b, 15, none⟩ = some (.bool r_15_14) ∧ (∃ (r_16_14 : Bool),
  w_493.cell? ⟨b, 16, none⟩ = some (.bool r_16_14) ∧ (∃ (r_17_14 : Bool), w_493.cell? ⟨b, 17, none⟩ = some (.bool r_17_14) ∧ (∃ (r_18_14 : Bool), w_493.cell? ⟨b, 18, none⟩ = some (.bool r_18_14) ∧ (∃
  (r_19_14 : Bool), w_493.cell? ⟨b, 19, none⟩ = some (.bool r_19_14) ∧ (∃ (r_20_14 : Int), w_493.cell? ⟨b, 20, none⟩ = some (.int .i64 r_20_14) ∧ (∃ (r_21_14 : Bool), w_493.cell? ⟨b, 21, none⟩ = some
  (.bool r_21_14) ∧ (∃ (r_22_14 : Bool), w_493.cell? ⟨b, 22, none⟩ = some (.bool r_22_14) ∧ (∃ (r_23_14 : Bool), w_493.cell? ⟨b, 23, none⟩ = some (.bool r_23_14) ∧ R (.returned (.agg #[.int .i64
  r_0_14, .int .i64 r_1_14, .int .i64 r_2_14, .bool r_3_14, .int .i64 r_4_14, .int .i64 r_5_14, .int .i64 r_6_14, .int .i64 r_7_14, .int .u32 r_8_14, .bool r_9_14, .int .i64 r_10_14, .int .i64
  r_11_14, .bool r_12_14, .bool r_13_14, .bool r_14_14, .bool r_15_14, .bool r_16_14, .bool r_17_14, .bool r_18_14, .bool r_19_14, .int .i64 r_20_14, .bool r_21_14, .bool r_22_14, .bool r_23_14]))
  w_493))))))))))))))))))))))))))))))))))))))))))))))))))) ((∃ (x38_7 : Int), w_443.cell? ⟨b_4, 2, none⟩ = some (.int .i64 x38_7) ∧ cond (x38_7 == 10) (St w_443 ⟨b_4, 4, none⟩ (.int .i64 0) fun w_494
  => (∃ (x41_0_14 : Int), w_494.cell? ⟨b_4, 0, none⟩ = some (.int .i64 x41_0_14) ∧ (∃ (x41_1_14 : Int), w_494.cell? ⟨b_4, 1, none⟩ = some (.int .i64 x41_1_14) ∧ (∃ (x41_2_14 : Int), w_494.cell? ⟨b_4,
  2, none⟩ = some (.int .i64 x41_2_14) ∧ (∃ (x41_3_14 : Bool), w_494.cell? ⟨b_4, 3, none⟩ = some (.bool x41_3_14) ∧ (∃ (x41_4_14 : Int), w_494.cell? ⟨b_4, 4, none⟩ = some (.int .i64 x41_4_14) ∧ (∃
  (x41_5_14 : Int), w_494.cell? ⟨b_4, 5, none⟩ = some (.int .i64 x41_5_14) ∧ (∃ (x41_6_14 : Int), w_494.cell? ⟨b_4, 6, none⟩ = some (.int .i64 x41_6_14) ∧ (∃ (x41_7_14 : Int), w_494.cell? ⟨b_4, 7,
  none⟩ = some (.int .i64 x41_7_14) ∧ (∃ (x41_8_14 : Int), w_494.cell? ⟨b_4, 8, none⟩ = some (.int .u32 x41_8_14) ∧ (∃ (x41_9_14 : Bool), w_494.cell? ⟨b_4, 9, none⟩ = some (.bool x41_9_14) ∧ (∃
  (x41_10_14 : Int), w_494.cell? ⟨b_4, 10, none⟩ = some (.int .i64 x41_10_14) ∧ (∃ (x41_11_14 : Int), w_494.cell? ⟨b_4, 11, none⟩ = some (.int .i64 x41_11_14) ∧ (∃ (x41_12_14 : Bool), w_494.cell?
  ⟨b_4, 12, none⟩ = some (.bool x41_12_14) ∧ (∃ (x41_13_14 : Bool), w_494.cell? ⟨b_4, 13, none⟩ = some (.bool x41_13_14) ∧ (∃ (x41_14_14 : Bool), w_494.cell? ⟨b_4, 14, none⟩ = some (.bool x41_14_14) ∧
  (∃ (x41_15_14 : Bool), w_494.cell? ⟨b_4, 15, none⟩ = some (.bool x41_15_14) ∧ (∃ (x41_16_14 : Bool), w_494.cell? ⟨b_4, 16, none⟩ = some (.bool x41_16_14) ∧ (∃ (x41_17_14 : Bool), w_494.cell? ⟨b_4,
  17, none⟩ = some (.bool x41_17_14) ∧ (∃ (x41_18_14 : Bool), w_494.cell? ⟨b_4, 18, none⟩ = some (.bool x41_18_14) ∧ (∃ (x41_19_14 : Bool), w_494.cell? ⟨b_4, 19, none⟩ = some (.bool x41_19_14) ∧ (∃
  (x41_20_14 : Int), w_494.cell? ⟨b_4, 20, none⟩ = some (.int .i64 x41_20_14) ∧ (∃ (x41_21_14 : Bool), w_494.cell? ⟨b_4, 21, none⟩ = some (.bool x41_21_14) ∧ (∃ (x41_22_14 : Bool), w_494.cell? ⟨b_4,
  22, none⟩ = some (.bool x41_22_14) ∧ (∃ (x41_23_14 : Bool), w_494.cell? ⟨b_4, 23, none⟩ = some (.bool x41_23_14) ∧ St w_494 ⟨b, 0, none⟩ (.int .i64 x41_0_14) fun w_495 => St w_495 ⟨b, 1, none⟩ (.int
  .i64 x41_1_14) fun w_496 => St w_496 ⟨b, 2, none⟩ (.int .i64 x41_2_14) fun w_497 => St w_497 ⟨b, 3, none⟩ (.bool x41_3_14) fun w_498 => St w_498 ⟨b, 4, none⟩ (.int .i64 x41_4_14) fun w_499 => St
  w_499 ⟨b, 5, none⟩ (.int .i64 x41_5_14) fun w_500 => St w_500 ⟨b, 6, none⟩ (.int .i64 x41_6_14) fun w_501 => St w_501 ⟨b, 7, none⟩ (.int .i64 x41_7_14) fun w_502 => St w_502 ⟨b, 8, none⟩ (.int .u32
  x41_8_14) fun w_503 => St w_503 ⟨b, 9, none⟩ (.bool x41_9_14) fun w_504 => St w_504 ⟨b, 10, none⟩ (.int .i64 x41_10_14) fun w_505 => St w_505 ⟨b, 11, none⟩ (.int .i64 x41_11_14) fun w_506 => St
  w_506 ⟨b, 12, none⟩ (.bool x41_12_14) fun w_507 => St w_507 ⟨b, 13, none⟩ (.bool x41_13_14) fun w_508 => St w_508 ⟨b, 14, none⟩ (.bool x41_14_14) fun w_509 => St w_509 ⟨b, 15, none⟩ (.bool
  x41_15_14) fun w_510 => St w_510 ⟨b, 16, none⟩ (.bool x41_16_14) fun w_511 => St w_511 ⟨b, 17, none⟩ (.bool x41_17_14) fun w_512 => St w_512 ⟨b, 18, none⟩ (.bool x41_18_14) fun w_513 => St w_513 ⟨b,
  19, none⟩ (.bool x41_19_14) fun w_514 => St w_514 ⟨b, 20, none⟩ (.int .i64 x41_20_14) fun w_515 => St w_515 ⟨b, 21, none⟩ (.bool x41_21_14) fun w_516 => St w_516 ⟨b, 22, none⟩ (.bool x41_22_14) fun
  w_517 => St w_517 ⟨b, 23, none⟩ (.bool x41_23_14) fun w_518 => (∃ (r_0_15 : Int), w_518.cell? ⟨b, 0, none⟩ = some (.int .i64 r_0_15) ∧ (∃ (r_1_15 : Int), w_518.cell? ⟨b, 1, none⟩ = some (.int .i64
  r_1_15) ∧ (∃ (r_2_15 : Int), w_518.cell? ⟨b, 2, none⟩ = some (.int .i64 r_2_15) ∧ (∃ (r_3_15 : Bool), w_518.cell? ⟨b, 3, none⟩ = some (.bool r_3_15) ∧ (∃ (r_4_15 : Int), w_518.cell? ⟨b, 4, none⟩ =
  some (.int .i64 r_4_15) ∧ (∃ (r_5_15 : Int), w_518.cell? ⟨b, 5, none⟩ = some (.int .i64 r_5_15) ∧ (∃ (r_6_15 : Int), w_518.cell? ⟨b, 6, none⟩ = some (.int .i64 r_6_15) ∧ (∃ (r_7_15 : Int),
  w_518.cell? ⟨b, 7, none⟩ = some (.int .i64 r_7_15) ∧ (∃ (r_8_15 : Int), w_518.cell? ⟨b, 8, none⟩ = some (.int .u32 r_8_15) ∧ (∃ (r_9_15 : Bool), w_518.cell? ⟨b, 9, none⟩ = some (.bool r_9_15) ∧ (∃
  (r_10_15 : Int), w_518.cell? ⟨b, 10, none⟩ = some (.int .i64 r_10_15) ∧ (∃ (r_11_15 : Int), w_518.cell? ⟨b, 11, none⟩ = some (.int .i64 r_11_15) ∧ (∃ (r_12_15 : Bool), w_518.cell? ⟨b, 12, none⟩ =
  some (.bool r_12_15) ∧ (∃ (r_13_15 : Bool), w_518.cell? ⟨b, 13, none⟩ = some (.bool r_13_15) ∧ (∃ (r_14_15 : Bool), w_518.cell? ⟨b, 14, none⟩ = some (.bool r_14_15) ∧ (∃ (r_15_15 : Bool),
  w_518.cell? ⟨b, 15, none⟩ = some (.bool r_15_15) ∧ (∃ (r_16_15 : Bool), w_518.cell? ⟨b, 16, none⟩ = some (.bool r_16_15) ∧ (∃ (r_17_15 : Bool), w_518.cell? ⟨b, 17, none⟩ = some (.bool r_17_15) ∧ (∃
  (r_18_15 : Bool), w_518.cell? ⟨b, 18, none⟩ = some (.bool r_18_15) ∧ (∃ (r_19_15 : Bool), w_518.cell? ⟨b, 19, none⟩ = some (.bool r_19_15) ∧ (∃ (r_20_15 : Int), w_518.cell? ⟨b, 20, none⟩ = some
  (.int .i64 r_20_15) ∧ (∃ (r_21_15 : Bool), w_518.cell? ⟨b, 21, none⟩ = some (.bool r_21_15) ∧ (∃ (r_22_15 : Bool), w_518.cell? ⟨b, 22, none⟩ = some (.bool r_22_15) ∧ (∃ (r_23_15 : Bool), w_518.cell?
  ⟨b, 23, none⟩ = some (.bool r_23_15) ∧ R (.returned (.agg #[.int .i64 r_0_15, .int .i64 r_1_15, .int .i64 r_2_15, .bool r_3_15, .int .i64 r_4_15, .int .i64 r_5_15, .int .i64 r_6_15, .int .i64
  r_7_15, .int .u32 r_8_15, .bool r_9_15, .int .i64 r_10_15, .int .i64 r_11_15, .bool r_12_15, .bool r_13_15, .bool r_14_15, .bool r_15_15, .bool r_16_15, .bool r_17_15, .bool r_18_15, .bool r_19_15,
  .int .i64 r_20_15, .bool r_21_15, .bool r_22_15, .bool r_23_15])) w_518))))))))))))))))))))))))))))))))))))))))))))))))) ((∃ (x41_0_15 : Int), w_443.cell? ⟨b_4, 0, none⟩ = some (.int .i64 x41_0_15)
  ∧ (∃ (x41_1_15 : Int), w_443.cell? ⟨b_4, 1, none⟩ = some (.int .i64 x41_1_15) ∧ (∃ (x41_2_15 : Int), w_443.cell? ⟨b_4, 2, none⟩ = some (.int .i64 x41_2_15) ∧ (∃ (x41_3_15 : Bool), w_443.cell? ⟨b_4,
  3, none⟩ = some (.bool x41_3_15) ∧ (∃ (x41_4_15 : Int), w_443.cell? ⟨b_4, 4, none⟩ = some (.int .i64 x41_4_15) ∧ (∃ (x41_5_15 : Int), w_443.cell? ⟨b_4, 5, none⟩ = some (.int .i64 x41_5_15) ∧ (∃
  (x41_6_15 : Int), w_443.cell? ⟨b_4, 6, none⟩ = some (.int .i64 x41_6_15) ∧ (∃ (x41_7_15 : Int), w_443.cell? ⟨b_4, 7, none⟩ = some (.int .i64 x41_7_15) ∧ (∃ (x41_8_15 : Int), w_443.cell? ⟨b_4, 8,
  none⟩ = some (.int .u32 x41_8_15) ∧ (∃ (x41_9_15 : Bool), w_443.cell? ⟨b_4, 9, none⟩ = some (.bool x41_9_15) ∧ (∃ (x41_10_15 : Int), w_443.cell? ⟨b_4, 10, none⟩ = some (.int .i64 x41_10_15) ∧ (∃
  (x41_11_15 : Int), w_443.cell? ⟨b_4, 11, none⟩ = some (.int .i64 x41_11_15) ∧ (∃ (x41_12_15 : Bool), w_443.cell? ⟨b_4, 12, none⟩ = some (.bool x41_12_15) ∧ (∃ (x41_13_15 : Bool), w_443.cell? ⟨b_4,
  13, none⟩ = some (.bool x41_13_15) ∧ (∃ (x41_14_15 : Bool), w_443.cell? ⟨b_4, 14, none⟩ = some (.bool x41_14_15) ∧ (∃ (x41_15_15 : Bool), w_443.cell? ⟨b_4, 15, none⟩ = some (.bool x41_15_15) ∧ (∃
  (x41_16_15 : Bool), w_443.cell? ⟨b_4, 16, none⟩ = some (.bool x41_16_15) ∧ (∃ (x41_17_15 : Bool), w_443.cell? ⟨b_4, 17, none⟩ = some (.bool x41_17_15) ∧ (∃ (x41_18_15 : Bool), w_443.cell? ⟨b_4, 18,
  none⟩ = some (.bool x41_18_15) ∧ (∃ (x41_19_15 : Bool), w_443.cell? ⟨b_4, 19, none⟩ = some (.bool x41_19_15) ∧ (∃ (x41_20_15 : Int), w_443.cell? ⟨b_4, 20, none⟩ = some (.int .i64 x41_20_15) ∧ (∃
  (x41_21_15 : Bool), w_443.cell? ⟨b_4, 21, none⟩ = some (.bool x41_21_15) ∧ (∃ (x41_22_15 : Bool), w_443.cell? ⟨b_4, 22, none⟩ = some (.bool x41_22_15) ∧ (∃ (x41_23_15 : Bool), w_443.cell? ⟨b_4, 23,
  none⟩ = some (.bool x41_23_15) ∧ St w_443 ⟨b, 0, none⟩ (.int .i64 x41_0_15) fun w_519 => St w_519 ⟨b, 1, none⟩ (.int .i64 x41_1_15) fun w_520 => St w_520 ⟨b, 2, none⟩ (.int .i64 x41_2_15) fun w_521
  => St w_521 ⟨b, 3, none⟩ (.bool x41_3_15) fun w_522 => St w_522 ⟨b, 4, none⟩ (.int .i64 x41_4_15) fun w_523 => St w_523 ⟨b, 5, none⟩ (.int .i64 x41_5_15) fun w_524 => St w_524 ⟨b, 6, none⟩ (.int
  .i64 x41_6_15) fun w_525 => St w_525 ⟨b, 7, none⟩ (.int .i64 x41_7_15) fun w_526 => St w_526 ⟨b, 8, none⟩ (.int .u32 x41_8_15) fun w_527 => St w_527 ⟨b, 9, none⟩ (.bool x41_9_15) fun w_528 => St
  w_528 ⟨b, 10, none⟩ (.int .i64 x41_10_15) fun w_529 => St w_529 ⟨b, 11, none⟩ (.int .i64 x41_11_15) fun w_530 => St w_530 ⟨b, 12, none⟩ (.bool x41_12_15) fun w_531 => St w_531 ⟨b, 13, none⟩ (.bool
  x41_13_15) fun w_532 => St w_532 ⟨b, 14, none⟩ (.bool x41_14_15) fun w_533 => St w_533 ⟨b, 15, none⟩ (.bool x41_15_15) fun w_534 => St w_534 ⟨b, 16, none⟩ (.bool x41_16_15) fun w_535 => St w_535 ⟨b,
  17, none⟩ (.bool x41_17_15) fun w_536 => St w_536 ⟨b, 18, none⟩ (.bool x41_18_15) fun w_537 => St w_537 ⟨b, 19, none⟩ (.bool x41_19_15) fun w_538 => St w_538 ⟨b, 20, none⟩ (.int .i64 x41_20_15) fun
  w_539 => St w_539 ⟨b, 21, none⟩ (.bool x41_21_15) fun w_540 => St w_540 ⟨b, 22, none⟩ (.bool x41_22_15) fun w_541 => St w_541 ⟨b, 23, none⟩ (.bool x41_23_15) fun w_542 => (∃ (r_0_16 : Int),
  w_542.cell? ⟨b, 0, none⟩ = some (.int .i64 r_0_16) ∧ (∃ (r_1_16 : Int), w_542.cell? ⟨b, 1, none⟩ = some (.int .i64 r_1_16) ∧ (∃ (r_2_16 : Int), w_542.cell? ⟨b, 2, none⟩ = some (.int .i64 r_2_16) ∧
  (∃ (r_3_16 : Bool), w_542.cell? ⟨b, 3, none⟩ = some (.bool r_3_16) ∧ (∃ (r_4_16 : Int), w_542.cell? ⟨b, 4, none⟩ = some (.int .i64 r_4_16) ∧ (∃ (r_5_16 : Int), w_542.cell? ⟨b, 5, none⟩ = some (.int
  .i64 r_5_16) ∧ (∃ (r_6_16 : Int), w_542.cell? ⟨b, 6, none⟩ = some (.int .i64 r_6_16) ∧ (∃ (r_7_16 : Int), w_542.cell? ⟨b, 7, none⟩ = some (.int .i64 r_7_16) ∧ (∃ (r_8_16 : Int), w_542.cell? ⟨b, 8,
  none⟩ = some (.int .u32 r_8_16) ∧ (∃ (r_9_16 : Bool), w_542.cell? ⟨b, 9, none⟩ = some (.bool r_9_16) ∧ (∃ (r_10_16 : Int), w_542.cell? ⟨b, 10, none⟩ = some (.int .i64 r_10_16) ∧ (∃ (r_11_16 : Int),
  w_542.cell? ⟨b, 11, none⟩ = some (.int .i64 r_11_16) ∧ (∃ (r_12_16 : Bool), w_542.cell? ⟨b, 12, none⟩ = some (.bool r_12_16) ∧ (∃ (r_13_16 : Bool), w_542.cell? ⟨b, 13, none⟩ = some (.bool r_13_16) ∧
  (∃ (r_14_16 : Bool), w_542.cell? ⟨b, 14, none⟩ = some (.bool r_14_16) ∧ (∃ (r_15_16 : Bool), w_542.cell? ⟨b, 15, none⟩ = some (.bool r_15_16) ∧ (∃ (r_16_16 : Bool), w_542.cell? ⟨b, 16, none⟩ = some
  (.bool r_16_16) ∧ (∃ (r_17_16 : Bool), w_542.cell? ⟨b, 17, none⟩ = some (.bool r_17_16) ∧ (∃ (r_18_16 : Bool), w_542.cell? ⟨b, 18, none⟩ = some (.bool r_18_16) ∧ (∃ (r_19_16 : Bool), w_542.cell? ⟨b,
  19, none⟩ = some (.bool r_19_16) ∧ (∃ (r_20_16 : Int), w_542.cell? ⟨b, 20, none⟩ = some (.int .i64 r_20_16) ∧ (∃ (r_21_16 : Bool), w_542.cell? ⟨b, 21, none⟩ = some (.bool r_21_16) ∧ (∃ (r_22_16 :
  Bool), w_542.cell? ⟨b, 22, none⟩ = some (.bool r_22_16) ∧ (∃ (r_23_16 : Bool), w_542.cell? ⟨b, 23, none⟩ = some (.bool r_23_16) ∧ R (.returned (.agg #[.int .i64 r_0_16, .int .i64 r_1_16, .int .i64
  r_2_16, .bool r_3_16, .int .i64 r_4_16, .int .i64 r_5_16, .int .i64 r_6_16, .int .i64 r_7_16, .int .u32 r_8_16, .bool r_9_16, .int .i64 r_10_16, .int .i64 r_11_16, .bool r_12_16, .bool r_13_16,
  .bool r_14_16, .bool r_15_16, .bool r_16_16, .bool r_17_16, .bool r_18_16, .bool r_19_16, .int .i64 r_20_16, .bool r_21_16, .bool r_22_16, .bool r_23_16]))
  w_542)))))))))))))))))))))))))))))))))))))))))))))))))))))))))))))))) ∧ (Nw (w_28.drewN 1) (.cells #[.int .i64 0, .int .i64 0, .int .i64 0, .bool false, .int .i64 0, .int .i64 0, .int .i64 0, .int
  .i64 0, .int .u32 0, .bool false, .int .i64 0, .int .i64 0, .bool false, .bool false, .bool false, .bool false, .bool false, .bool false, .bool false, .bool false, .int .i64 0, .bool false, .bool
  false, .bool false] 26) fun b_5 w_543 => (∃ S_2 : World → Prop, S_2 w_543 ∧ (Calls Try.prog 11 #[.int .u32 (IntKind.wrap .u32 q0), .int .i64 11, .int .i64 2] w_543 fun e w_544 => ∃ (x22_1 : Int), e
  = .returned (.int .i64 x22_1) ∧ (∃ S_3 : World → Prop, S_3 w_544 ∧ chk (decide (0 ≤ x22_1) && decide (x22_1 < ((4 : Nat) : Int))) (∃ (x23_1 : Int), (#[.int .i64 13, .int .i64 10, .int .i64 4, .int
  .i64 2] : Array Value)[x22_1.toNat * 1]? = some (.int .i64 x23_1) ∧ (Calls Try.prog 11 #[.int .u32 (IntKind.wrap .u32 q0), .int .i64 8, .int .i64 3] w_544 fun e w_545 => ∃ (x25_2 : Int), e =
  .returned (.int .i64 x25_2) ∧ (S_3 w_545 ∧ (Calls Try.prog 11 #[.int .u32 (IntKind.wrap .u32 q0), .int .i64 8, .int .i64 3] w_545 fun e w_546 => ∃ (x27_3 : Int), e = .returned (.int .i64 x27_3) ∧
  (S_3 w_546 ∧ (Calls Try.prog 10 #[.int .i64 x23_1, .int .i64 x25_2, .int .i64 x27_3] w_546 fun e w_547 => ∃ (x28_0_4 : Int) (x28_1_4 : Int) (x28_2_4 : Int) (x28_3_4 : Bool) (x28_4_4 : Int) (x28_5_4
  : Int) (x28_6_4 : Int) (x28_7_4 : Int) (x28_8_4 : Int) (x28_9_4 : Bool) (x28_10_4 : Int) (x28_11_4 : Int) (x28_12_4 : Bool) (x28_13_4 : Bool) (x28_14_4 : Bool) (x28_15_4 : Bool) (x28_16_4 : Bool)
  (x28_17_4 : Bool) (x28_18_4 : Bool) (x28_19_4 : Bool) (x28_20_4 : Int) (x28_21_4 : Bool) (x28_22_4 : Bool) (x28_23_4 : Bool), e = .returned (.agg #[.int .i64 x28_0_4, .int .i64 x28_1_4, .int .i64
  x28_2_4, .bool x28_3_4, .int .i64 x28_4_4, .int .i64 x28_5_4, .int .i64 x28_6_4, .int .i64 x28_7_4, .int .u32 x28_8_4, .bool x28_9_4, .int .i64 x28_10_4, .int .i64 x28_11_4, .bool x28_12_4, .bool
  x28_13_4, .bool x28_14_4, .bool x28_15_4, .bool x28_16_4, .bool x28_17_4, .bool x28_18_4, .bool x28_19_4, .int .i64 x28_20_4, .bool x28_21_4, .bool x28_22_4, .bool x28_23_4]) ∧ St w_547 ⟨b_5, 0,
  none⟩ (.int .i64 x28_0_4) fun w_548 => St w_548 ⟨b_5, 1, none⟩ (.int .i64 x28_1_4) fun w_549 => St w_549 ⟨b_5, 2, none⟩ (.int .i64 x28_2_4) fun w_550 => St w_550 ⟨b_5, 3, none⟩ (.bool x28_3_4) fun
  w_551 => St w_551 ⟨b_5, 4, none⟩ (.int .i64 x28_4_4) fun w_552 => St w_552 ⟨b_5, 5, none⟩ (.int .i64 x28_5_4) fun w_553 => St w_553 ⟨b_5, 6, none⟩ (.int .i64 x28_6_4) fun w_554 => St w_554 ⟨b_5, 7,
  none⟩ (.int .i64 x28_7_4) fun w_555 => St w_555 ⟨b_5, 8, none⟩ (.int .u32 x28_8_4) fun w_556 => St w_556 ⟨b_5, 9, none⟩ (.bool x28_9_4) fun w_557 => St w_557 ⟨b_5, 10, none⟩ (.int .i64 x28_10_4) fun
  w_558 => St w_558 ⟨b_5, 11, none⟩ (.int .i64 x28_11_4) fun w_559 => St w_559 ⟨b_5, 12, none⟩ (.bool x28_12_4) fun w_560 => St w_560 ⟨b_5, 13, none⟩ (.bool x28_13_4) fun w_561 => St w_561 ⟨b_5, 14,
  none⟩ (.bool x28_14_4) fun w_562 => St w_562 ⟨b_5, 15, none⟩ (.bool x28_15_4) fun w_563 => St w_563 ⟨b_5, 16, none⟩ (.bool x28_16_4) fun w_564 => St w_564 ⟨b_5, 17, none⟩ (.bool x28_17_4) fun w_565
  => St w_565 ⟨b_5, 18, none⟩ (.bool x28_18_4) fun w_566 => St w_566 ⟨b_5, 19, none⟩ (.bool x28_19_4) fun w_567 => St w_567 ⟨b_5, 20, none⟩ (.int .i64 x28_20_4) fun w_568 => St w_568 ⟨b_5, 21, none⟩
  (.bool x28_21_4) fun w_569 => St w_569 ⟨b_5, 22, none⟩ (.bool x28_22_4) fun w_570 => St w_570 ⟨b_5, 23, none⟩ (.bool x28_23_4) fun w_571 => St w_571 ⟨b_5, 9, none⟩ (.bool true) fun w_572 => St w_572
  ⟨b_5, 8, none⟩ (.int .u32 (bits .and .u32 (IntKind.wrap .u32 q0) 255)) fun w_573 => (∃ (x34_4 : Int), w_573.cell? ⟨b_5, 2, none⟩ = some (.int .i64 x34_4) ∧ cond (x34_4 == 13) (St w_573 ⟨b_5, 5,
  none⟩ (.int .i64 0) fun w_574 => (∃ (x38_8 : Int), w_574.cell? ⟨b_5, 2, none⟩ = some (.int .i64 x38_8) ∧ cond (x38_8 == 10) (St w_574 ⟨b_5, 4, none⟩ (.int .i64 0) fun w_575 => (∃ (x41_0_16 : Int),
  w_575.cell? ⟨b_5, 0, none⟩ = some (.int .i64 x41_0_16) ∧ (∃ (x41_1_16 : Int), w_575.cell? ⟨b_5, 1, none⟩ = some (.int .i64 x41_1_16) ∧ (∃ (x41_2_16 : Int), w_575.cell? ⟨b_5, 2, none⟩ = some (.int
  .i64 x41_2_16) ∧ (∃ (x41_3_16 : Bool), w_575.cell? ⟨b_5, 3, none⟩ = some (.bool x41_3_16) ∧ (∃ (x41_4_16 : Int), w_575.cell? ⟨b_5, 4, none⟩ = some (.int .i64 x41_4_16) ∧ (∃ (x41_5_16 : Int),
  w_575.cell? ⟨b_5, 5, none⟩ = some (.int .i64 x41_5_16) ∧ (∃ (x41_6_16 : Int), w_575.cell? ⟨b_5, 6, none⟩ = some (.int .i64 x41_6_16) ∧ (∃ (x41_7_16 : Int), w_575.cell? ⟨b_5, 7, none⟩ = some (.int
  .i64 x41_7_16) ∧ (∃ (x41_8_16 : Int), w_575.cell? ⟨b_5, 8, none⟩ = some (.int .u32 x41_8_16) ∧ (∃ (x41_9_16 : Bool), w_575.cell? ⟨b_5, 9, none⟩ = some (.bool x41_9_16) ∧ (∃ (x41_10_16 : Int),
  w_575.cell? ⟨b_5, 10, none⟩ = some (.int .i64 x41_10_16) ∧ (∃ (x41_11_16 : Int), w_575.cell? ⟨b_5, 11, none⟩ = some (.int .i64 x41_11_16) ∧ (∃ (x41_12_16 : Bool), w_575.cell? ⟨b_5, 12, none⟩ = some
  (.bool x41_12_16) ∧ (∃ (x41_13_16 : Bool), w_575.cell? ⟨b_5, 13, none⟩ = some (.bool x41_13_16) ∧ (∃ (x41_14_16 : Bool), w_575.cell? ⟨b_5, 14, none⟩ = some (.bool x41_14_16) ∧ (∃ (x41_15_16 : Bool),
  w_575.cell? ⟨b_5, 15, none⟩ = some (.bool x41_15_16) ∧ (∃ (x41_16_16 : Bool), w_575.cell? ⟨b_5, 16, none⟩ = some (.bool x41_16_16) ∧ (∃ (x41_17_16 : Bool), w_575.cell? ⟨b_5, 17, none⟩ = some (.bool
  x41_17_16) ∧ (∃ (x41_18_16 : Bool), w_575.cell? ⟨b_5, 18, none⟩ = some (.bool x41_18_16) ∧ (∃ (x41_19_16 : Bool), w_575.cell? ⟨b_5, 19, none⟩ = some (.bool x41_19_16) ∧ (∃ (x41_20_16 : Int),
  w_575.cell? ⟨b_5, 20, none⟩ = some (.int .i64 x41_20_16) ∧ (∃ (x41_21_16 : Bool), w_575.cell? ⟨b_5, 21, none⟩ = some (.bool x41_21_16) ∧ (∃ (x41_22_16 : Bool), w_575.cell? ⟨b_5, 22, none⟩ = some
  (.bool x41_22_16) ∧ (∃ (x41_23_16 : Bool), w_575.cell? ⟨b_5, 23, none⟩ = some (.bool x41_23_16) ∧ St w_575 ⟨b, 0, none⟩ (.int .i64 x41_0_16) fun w_576 => St w_576 ⟨b, 1, none⟩ (.int .i64 x41_1_16)
  fun w_577 => St w_577 ⟨b, 2, none⟩ (.int .i64 x41_2_16) fun w_578 => St w_578 ⟨b, 3, none⟩ (.bool x41_3_16) fun w_579 => St w_579 ⟨b, 4, none⟩ (.int .i64 x41_4_16) fun w_580 => St w_580 ⟨b, 5, none⟩
  (.int .i64 x41_5_16) fun w_581 => St w_581 ⟨b, 6, none⟩ (.int .i64 x41_6_16) fun w_582 => St w_582 ⟨b, 7, none⟩ (.int .i64 x41_7_16) fun w_583 => St w_583 ⟨b, 8, none⟩ (.int .u32 x41_8_16) fun w_584
  => St w_584 ⟨b, 9, none⟩ (.bool x41_9_16) fun w_585 => St w_585 ⟨b, 10, none⟩ (.int .i64 x41_10_16) fun w_586 => St w_586 ⟨b, 11, none⟩ (.int .i64 x41_11_16) fun w_587 => St w_587 ⟨b, 12, none⟩
  (.bool x41_12_16) fun w_588 => St w_588 ⟨b, 13, none⟩ (.bool x41_13_16) fun w_589 => St w_589 ⟨b, 14, none⟩ (.bool x41_14_16) fun w_590 => St w_590 ⟨b, 15, none⟩ (.bool x41_15_16) fun w_591 => St
  w_591 ⟨b, 16, none⟩ (.bool x41_16_16) fun w_592 => St w_592 ⟨b, 17, none⟩ (.bool x41_17_16) fun w_593 => St w_593 ⟨b, 18, none⟩ (.bool x41_18_16) fun w_594 => St w_594 ⟨b, 19, none⟩ (.bool
  x41_19_16) fun w_595 => St w_595 ⟨b, 20, none⟩ (.int .i64 x41_20_16) fun w_596 => St w_596 ⟨b, 21, none⟩ (.bool x41_21_16) fun w_597 => St w_597 ⟨b, 22, none⟩ (.bool x41_22_16) fun w_598 => St w_598
  ⟨b, 23, none⟩ (.bool x41_23_16) fun w_599 => (∃ (r_0_17 : Int), w_599.cell? ⟨b, 0, none⟩ = some (.int .i64 r_0_17) ∧ (∃ (r_1_17 : Int), w_599.cell? ⟨b, 1, none⟩ = some (.int .i64 r_1_17) ∧ (∃
  (r_2_17 : Int), w_599.cell? ⟨b, 2, none⟩ = some (.int .i64 r_2_17) ∧ (∃ (r_3_17 : Bool), w_599.cell? ⟨b, 3, none⟩ = some (.bool r_3_17) ∧ (∃ (r_4_17 : Int), w_599.cell? ⟨b, 4, none⟩ = some (.int
  .i64 r_4_17) ∧ (∃ (r_5_17 : Int), w_599.cell? ⟨b, 5, none⟩ = some (.int .i64 r_5_17) ∧ (∃ (r_6_17 : Int), w_599.cell? ⟨b, 6, none⟩ = some (.int .i64 r_6_17) ∧ (∃ (r_7_17 : Int), w_599.cell? ⟨b, 7,
  none⟩ = some (.int .i64 r_7_17) ∧ (∃ (r_8_17 : Int), w_599.cell? ⟨b, 8, none⟩ = some (.int .u32 r_8_17) ∧ (∃ (r_9_17 : Bool), w_599.cell? ⟨b, 9, none⟩ = some (.bool r_9_17) ∧ (∃ (r_10_17 : Int),
  w_599.cell? ⟨b, 10, none⟩ = some (.int .i64 r_10_17) ∧ (∃ (r_11_17 : Int), w_599.cell? ⟨b, 11, none⟩ = some (.int .i64 r_11_17) ∧ (∃ (r_12_17 : Bool), w_599.cell? ⟨b, 12, none⟩ = some (.bool
  r_12_17) ∧ (∃ (r_13_17 : Bool), w_599.cell? ⟨b, 13, none⟩ = some (.bool r_13_17) ∧ (∃ (r_14_17 : Bool), w_599.cell? ⟨b, 14, none⟩ = some (.bool r_14_17) ∧ (∃ (r_15_17 : Bool), w_599.cell? ⟨b, 15,
  none⟩ = some (.bool r_15_17) ∧ (∃ (r_16_17 : Bool), w_599.cell? ⟨b, 16, none⟩ = some (.bool r_16_17) ∧ (∃ (r_17_17 : Bool), w_599.cell? ⟨b, 17, none⟩ = some (.bool r_17_17) ∧ (∃ (r_18_17 : Bool),
  w_599.cell? ⟨b, 18, none⟩ = some (.bool r_18_17) ∧ (∃ (r_19_17 : Bool), w_599.cell? ⟨b, 19, none⟩ = some (.bool r_19_17) ∧ (∃ (r_20_17 : Int), w_599.cell? ⟨b, 20, none⟩ = some (.int .i64 r_20_17) ∧
  (∃ (r_21_17 : Bool), w_599.cell? ⟨b, 21, none⟩ = some (.bool r_21_17) ∧ (∃ (r_22_17 : Bool), w_599.cell? ⟨b, 22, none⟩ = some (.bool r_22_17) ∧ (∃ (r_23_17 : Bool), w_599.cell? ⟨b, 23, none⟩ = some
  (.bool r_23_17) ∧ R (.returned (.agg #[.int .i64 r_0_17, .int .i64 r_1_17, .int .i64 r_2_17, .bool r_3_17, .int .i64 r_4_17, .int .i64 r_5_17, .int .i64 r_6_17, .int .i64 r_7_17, .int .u32 r_8_17,
  .bool r_9_17, .int .i64 r_10_17, .int .i64 r_11_17, .bool r_12_17, .bool r_13_17, .bool r_14_17, .bool r_15_17, .bool r_16_17, .bool r_17_17, .bool r_18_17, .bool r_19_17, .int .i64 r_20_17, .bool
  r_21_17, .bool r_22_17, .bool r_23_17])) w_599))))))))))))))))))))))))))))))))))))))))))))))))) ((∃ (x41_0_17 : Int), w_574.cell? ⟨b_5, 0, none⟩ = some (.int .i64 x41_0_17) ∧ (∃ (x41_1_17 : Int),
  w_574.cell? ⟨b_5, 1, none⟩ = some (.int .i64 x41_1_17) ∧ (∃ (x41_2_17 : Int), w_574.cell? ⟨b_5, 2, none⟩ = some (.int .i64 x41_2_17) ∧ (∃ (x41_3_17 : Bool), w_574.cell? ⟨b_5, 3, none⟩ = some (.bool
  x41_3_17) ∧ (∃ (x41_4_17 : Int), w_574.cell? ⟨b_5, 4, none⟩ = some (.int .i64 x41_4_17) ∧ (∃ (x41_5_17 : Int), w_574.cell? ⟨b_5, 5, none⟩ = some (.int .i64 x41_5_17) ∧ (∃ (x41_6_17 : Int),
  w_574.cell? ⟨b_5, 6, none⟩ = some (.int .i64 x41_6_17) ∧ (∃ (x41_7_17 : Int), w_574.cell? ⟨b_5, 7, none⟩ = some (.int .i64 x41_7_17) ∧ (∃ (x41_8_17 : Int), w_574.cell? ⟨b_5, 8, none⟩ = some (.int
  .u32 x41_8_17) ∧ (∃ (x41_9_17 : Bool), w_574.cell? ⟨b_5, 9, none⟩ = some (.bool x41_9_17) ∧ (∃ (x41_10_17 : Int), w_574.cell? ⟨b_5, 10, none⟩ = some (.int .i64 x41_10_17) ∧ (∃ (x41_11_17 : Int),
  w_574.cell? ⟨b_5, 11, none⟩ = some (.int .i64 x41_11_17) ∧ (∃ (x41_12_17 : Bool), w_574.cell? ⟨b_5, 12, none⟩ = some (.bool x41_12_17) ∧ (∃ (x41_13_17 : Bool), w_574.cell? ⟨b_5, 13, none⟩ = some
  (.bool x41_13_17) ∧ (∃ (x41_14_17 : Bool), w_574.cell? ⟨b_5, 14, none⟩ = some (.bool x41_14_17) ∧ (∃ (x41_15_17 : Bool), w_574.cell? ⟨b_5, 15, none⟩ = some (.bool x41_15_17) ∧ (∃ (x41_16_17 : Bool),
  w_574.cell? ⟨b_5, 16, none⟩ = some (.bool x41_16_17) ∧ (∃ (x41_17_17 : Bool), w_574.cell? ⟨b_5, 17, none⟩ = some (.bool x41_17_17) ∧ (∃ (x41_18_17 : Bool), w_574.cell? ⟨b_5, 18, none⟩ = some (.bool
  x41_18_17) ∧ (∃ (x41_19_17 : Bool), w_574.cell? ⟨b_5, 19, none⟩ = some (.bool x41_19_17) ∧ (∃ (x41_20_17 : Int), w_574.cell? ⟨b_5, 20, none⟩ = some (.int .i64 x41_20_17) ∧ (∃ (x41_21_17 : Bool),
  w_574.cell? ⟨b_5, 21, none⟩ = some (.bool x41_21_17) ∧ (∃ (x41_22_17 : Bool), w_574.cell? ⟨b_5, 22, none⟩ = some (.bool x41_22_17) ∧ (∃ (x41_23_17 : Bool), w_574.cell? ⟨b_5, 23, none⟩ = some (.bool
  x41_23_17) ∧ St w_574 ⟨b, 0, none⟩ (.int .i64 x41_0_17) fun w_600 => St w_600 ⟨b, 1, none⟩ (.int .i64 x41_1_17) fun w_601 => St w_601 ⟨b, 2, none⟩ (.int .i64 x41_2_17) fun w_602 => St w_602 ⟨b, 3,
  none⟩ (.bool x41_3_17) fun w_603 => St w_603 ⟨b, 4, none⟩ (.int .i64 x41_4_17) fun w_604 => St w_604 ⟨b, 5, none⟩ (.int .i64 x41_5_17) fun w_605 => St w_605 ⟨b, 6, none⟩ (.int .i64 x41_6_17) fun
  w_606 => St w_606 ⟨b, 7, none⟩ (.int .i64 x41_7_17) fun w_607 => St w_607 ⟨b, 8, none⟩ (.int .u32 x41_8_17) fun w_608 => St w_608 ⟨b, 9, none⟩ (.bool x41_9_17) fun w_609 => St w_609 ⟨b, 10, none⟩
  (.int .i64 x41_10_17) fun w_610 => St w_610 ⟨b, 11, none⟩ (.int .i64 x41_11_17) fun w_611 => St w_611 ⟨b, 12, none⟩ (.bool x41_12_17) fun w_612 => St w_612 ⟨b, 13, none⟩ (.bool x41_13_17) fun w_613
  => St w_613 ⟨b, 14, none⟩ (.bool x41_14_17) fun w_614 => St w_614 ⟨b, 15, none⟩ (.bool x41_15_17) fun w_615 => St w_615 ⟨b, 16, none⟩ (.bool x41_16_17) fun w_616 => St w_616 ⟨b, 17, none⟩ (.bool
  x41_17_17) fun w_617 => St w_617 ⟨b, 18, none⟩ (.bool x41_18_17) fun w_618 => St w_618 ⟨b, 19, none⟩ (.bool x41_19_17) fun w_619 => St w_619 ⟨b, 20, none⟩ (.int .i64 x41_20_17) fun w_620 => St w_620
  ⟨b, 21, none⟩ (.bool x41_21_17) fun w_621 => St w_621 ⟨b, 22, none⟩ (.bool x41_22_17) fun w_622 => St w_622 ⟨b, 23, none⟩ (.bool x41_23_17) fun w_623 => (∃ (r_0_18 : Int), w_623.cell? ⟨b, 0, none⟩ =
  some (.int .i64 r_0_18) ∧ (∃ (r_1_18 : Int), w_623.cell? ⟨b, 1, none⟩ = some (.int .i64 r_1_18) ∧ (∃ (r_2_18 : Int), w_623.cell? ⟨b, 2, none⟩ = some (.int .i64 r_2_18) ∧ (∃ (r_3_18 : Bool),
  w_623.cell? ⟨b, 3, none⟩ = some (.bool r_3_18) ∧ (∃ (r_4_18 : Int), w_623.cell? ⟨b, 4, none⟩ = some (.int .i64 r_4_18) ∧ (∃ (r_5_18 : Int), w_623.cell? ⟨b, 5, none⟩ = some (.int .i64 r_5_18) ∧ (∃
  (r_6_18 : Int), w_623.cell? ⟨b, 6, none⟩ = some (.int .i64 r_6_18) ∧ (∃ (r_7_18 : Int), w_623.cell? ⟨b, 7, none⟩ = some (.int .i64 r_7_18) ∧ (∃ (r_8_18 : Int), w_623.cell? ⟨b, 8, none⟩ = some (.int
  .u32 r_8_18) ∧ (∃ (r_9_18 : Bool), w_623.cell? ⟨b, 9, none⟩ = some (.bool r_9_18) ∧ (∃ (r_10_18 : Int), w_623.cell? ⟨b, 10, none⟩ = some (.int .i64 r_10_18) ∧ (∃ (r_11_18 : Int), w_623.cell? ⟨b, 11,
  none⟩ = some (.int .i64 r_11_18) ∧ (∃ (r_12_18 : Bool), w_623.cell? ⟨b, 12, none⟩ = some (.bool r_12_18) ∧ (∃ (r_13_18 : Bool), w_623.cell? ⟨b, 13, none⟩ = some (.bool r_13_18) ∧ (∃ (r_14_18 :
  Bool), w_623.cell? ⟨b, 14, none⟩ = some (.bool r_14_18) ∧ (∃ (r_15_18 : Bool), w_623.cell? ⟨b, 15, none⟩ = some (.bool r_15_18) ∧ (∃ (r_16_18 : Bool), w_623.cell? ⟨b, 16, none⟩ = some (.bool
  r_16_18) ∧ (∃ (r_17_18 : Bool), w_623.cell? ⟨b, 17, none⟩ = some (.bool r_17_18) ∧ (∃ (r_18_18 : Bool), w_623.cell? ⟨b, 18, none⟩ = some (.bool r_18_18) ∧ (∃ (r_19_18 : Bool), w_623.cell? ⟨b, 19,
  none⟩ = some (.bool r_19_18) ∧ (∃ (r_20_18 : Int), w_623.cell? ⟨b, 20, none⟩ = some (.int .i64 r_20_18) ∧ (∃ (r_21_18 : Bool), w_623.cell? ⟨b, 21, none⟩ = some (.bool r_21_18) ∧ (∃ (r_22_18 : Bool),
  w_623.cell? ⟨b, 22, none⟩ = some (.bool r_22_18) ∧ (∃ (r_23_18 : Bool), w_623.cell? ⟨b, 23, none⟩ = some (.bool r_23_18) ∧ R (.returned (.agg #[.int .i64 r_0_18, .int .i64 r_1_18, .int .i64 r_2_18,
  .bool r_3_18, .int .i64 r_4_18, .int .i64 r_5_18, .int .i64 r_6_18, .int .i64 r_7_18, .int .u32 r_8_18, .bool r_9_18, .int .i64 r_10_18, .int .i64 r_11_18, .bool r_12_18, .bool r_13_18, .bool
  r_14_18, .bool r_15_18, .bool r_16_18, .bool r_17_18, .bool r_18_18, .bool r_19_18, .int .i64 r_20_18, .bool r_21_18, .bool r_22_18, .bool r_23_18]))
  w_623))))))))))))))))))))))))))))))))))))))))))))))))))) ((∃ (x38_9 : Int), w_573.cell? ⟨b_5, 2, none⟩ = some (.int .i64 x38_9) ∧ cond (x38_9 == 10) (St w_573 ⟨b_5, 4, none⟩ (.int .i64 0) fun w_624
  => (∃ (x41_0_18 : Int), w_624.cell? ⟨b_5, 0, none⟩ = some (.int .i64 x41_0_18) ∧ (∃ (x41_1_18 : Int), w_624.cell? ⟨b_5, 1, none⟩ = some (.int .i64 x41_1_18) ∧ (∃ (x41_2_18 : Int), w_624.cell? ⟨b_5,
  2, none⟩ = some (.int .i64 x41_2_18) ∧ (∃ (x41_3_18 : Bool), w_624.cell? ⟨b_5, 3, none⟩ = some (.bool x41_3_18) ∧ (∃ (x41_4_18 : Int), w_624.cell? ⟨b_5, 4, none⟩ = some (.int .i64 x41_4_18) ∧ (∃
  (x41_5_18 : Int), w_624.cell? ⟨b_5, 5, none⟩ = some (.int .i64 x41_5_18) ∧ (∃ (x41_6_18 : Int), w_624.cell? ⟨b_5, 6, none⟩ = some (.int .i64 x41_6_18) ∧ (∃ (x41_7_18 : Int), w_624.cell? ⟨b_5, 7,
  none⟩ = some (.int .i64 x41_7_18) ∧ (∃ (x41_8_18 : Int), w_624.cell? ⟨b_5, 8, none⟩ = some (.int .u32 x41_8_18) ∧ (∃ (x41_9_18 : Bool), w_624.cell? ⟨b_5, 9, none⟩ = some (.bool x41_9_18) ∧ (∃
  (x41_10_18 : Int), w_624.cell? ⟨b_5, 10, none⟩ = some (.int .i64 x41_10_18) ∧ (∃ (x41_11_18 : Int), w_624.cell? ⟨b_5, 11, none⟩ = some (.int .i64 x41_11_18) ∧ (∃ (x41_12_18 : Bool), w_624.cell?
  ⟨b_5, 12, none⟩ = some (.bool x41_12_18) ∧ (∃ (x41_13_18 : Bool), w_624.cell? ⟨b_5, 13, none⟩ = some (.bool x41_13_18) ∧ (∃ (x41_14_18 : Bool), w_624.cell? ⟨b_5, 14, none⟩ = some (.bool x41_14_18) ∧
  (∃ (x41_15_18 : Bool), w_624.cell? ⟨b_5, 15, none⟩ = some (.bool x41_15_18) ∧ (∃ (x41_16_18 : Bool), w_624.cell? ⟨b_5, 16, none⟩ = some (.bool x41_16_18) ∧ (∃ (x41_17_18 : Bool), w_624.cell? ⟨b_5,
  17, none⟩ = some (.bool x41_17_18) ∧ (∃ (x41_18_18 : Bool), w_624.cell? ⟨b_5, 18, none⟩ = some (.bool x41_18_18) ∧ (∃ (x41_19_18 : Bool), w_624.cell? ⟨b_5, 19, none⟩ = some (.bool x41_19_18) ∧ (∃
  (x41_20_18 : Int), w_624.cell? ⟨b_5, 20, none⟩ = some (.int .i64 x41_20_18) ∧ (∃ (x41_21_18 : Bool), w_624.cell? ⟨b_5, 21, none⟩ = some (.bool x41_21_18) ∧ (∃ (x41_22_18 : Bool), w_624.cell? ⟨b_5,
  22, none⟩ = some (.bool x41_22_18) ∧ (∃ (x41_23_18 : Bool), w_624.cell? ⟨b_5, 23, none⟩ = some (.bool x41_23_18) ∧ St w_624 ⟨b, 0, none⟩ (.int .i64 x41_0_18) fun w_625 => St w_625 ⟨b, 1, none⟩ (.int
  .i64 x41_1_18) fun w_626 => St w_626 ⟨b, 2, none⟩ (.int .i64 x41_2_18) fun w_627 => St w_627 ⟨b, 3, none⟩ (.bool x41_3_18) fun w_628 => St w_628 ⟨b, 4, none⟩ (.int .i64 x41_4_18) fun w_629 => St
  w_629 ⟨b, 5, none⟩ (.int .i64 x41_5_18) fun w_630 => St w_630 ⟨b, 6, none⟩ (.int .i64 x41_6_18) fun w_631 => St w_631 ⟨b, 7, none⟩ (.int .i64 x41_7_18) fun w_632 => St w_632 ⟨b, 8, none⟩ (.int .u32
  x41_8_18) fun w_633 => St w_633 ⟨b, 9, none⟩ (.bool x41_9_18) fun w_634 => St w_634 ⟨b, 10, none⟩ (.int .i64 x41_10_18) fun w_635 => St w_635 ⟨b, 11, none⟩ (.int .i64 x41_11_18) fun w_636 => St
  w_636 ⟨b, 12, none⟩ (.bool x41_12_18) fun w_637 => St w_637 ⟨b, 13, none⟩ (.bool x41_13_18) fun w_638 => St w_638 ⟨b, 14, none⟩ (.bool x41_14_18) fun w_639 => St w_639 ⟨b, 15, none⟩ (.bool
  x41_15_18) fun w_640 => St w_640 ⟨b, 16, none⟩ (.bool x41_16_18) fun w_641 => St w_641 ⟨b, 17, none⟩ (.bool x41_17_18) fun w_642 => St w_642 ⟨b, 18, none⟩ (.bool x41_18_18) fun w_643 => St w_643 ⟨b,
  19, none⟩ (.bool x41_19_18) fun w_644 => St w_644 ⟨b, 20, none⟩ (.int .i64 x41_20_18) fun w_645 => St w_645 ⟨b, 21, none⟩ (.bool x41_21_18) fun w_646 => St w_646 ⟨b, 22, none⟩ (.bool x41_22_18) fun
  w_647 => St w_647 ⟨b, 23, none⟩ (.bool x41_23_18) fun w_648 => (∃ (r_0_19 : Int), w_648.cell? ⟨b, 0, none⟩ = some (.int .i64 r_0_19) ∧ (∃ (r_1_19 : Int), w_648.cell? ⟨b, 1, none⟩ = some (.int .i64
  r_1_19) ∧ (∃ (r_2_19 : Int), w_648.cell? ⟨b, 2, none⟩ = some (.int .i64 r_2_19) ∧ (∃ (r_3_19 : Bool), w_648.cell? ⟨b, 3, none⟩ = some (.bool r_3_19) ∧ (∃ (r_4_19 : Int), w_648.cell? ⟨b, 4, none⟩ =
  some (.int .i64 r_4_19) ∧ (∃ (r_5_19 : Int), w_648.cell? ⟨b, 5, none⟩ = some (.int .i64 r_5_19) ∧ (∃ (r_6_19 : Int), w_648.cell? ⟨b, 6, none⟩ = some (.int .i64 r_6_19) ∧ (∃ (r_7_19 : Int),
  w_648.cell? ⟨b, 7, none⟩ = some (.int .i64 r_7_19) ∧ (∃ (r_8_19 : Int), w_648.cell? ⟨b, 8, none⟩ = some (.int .u32 r_8_19) ∧ (∃ (r_9_19 : Bool), w_648.cell? ⟨b, 9, none⟩ = some (.bool r_9_19) ∧ (∃
  (r_10_19 : Int), w_648.cell? ⟨b, 10, none⟩ = some (.int .i64 r_10_19) ∧ (∃ (r_11_19 : Int), w_648.cell? ⟨b, 11, none⟩ = some (.int .i64 r_11_19) ∧ (∃ (r_12_19 : Bool), w_648.cell? ⟨b, 12, none⟩ =
  some (.bool r_12_19) ∧ (∃ (r_13_19 : Bool), w_648.cell? ⟨b, 13, none⟩ = some (.bool r_13_19) ∧ (∃ (r_14_19 : Bool), w_648.cell? ⟨b, 14, none⟩ = some (.bool r_14_19) ∧ (∃ (r_15_19 : Bool),
  w_648.cell? ⟨b, 15, none⟩ = some (.bool r_15_19) ∧ (∃ (r_16_19 : Bool), w_648.cell? ⟨b, 16, none⟩ = some (.bool r_16_19) ∧ (∃ (r_17_19 : Bool), w_648.cell? ⟨b, 17, none⟩ = some (.bool r_17_19) ∧ (∃
  (r_18_19 : Bool), w_648.cell? ⟨b, 18, none⟩ = some (.bool r_18_19) ∧ (∃ (r_19_19 : Bool), w_648.cell? ⟨b, 19, none⟩ = some (.bool r_19_19) ∧ (∃ (r_20_19 : Int), w_648.cell? ⟨b, 20, none⟩ = some
  (.int .i64 r_20_19) ∧ (∃ (r_21_19 : Bool), w_648.cell? ⟨b, 21, none⟩ = some (.bool r_21_19) ∧ (∃ (r_22_19 : Bool), w_648.cell? ⟨b, 22, none⟩ = some (.bool r_22_19) ∧ (∃ (r_23_19 : Bool), w_648.cell?
  ⟨b, 23, none⟩ = some (.bool r_23_19) ∧ R (.returned (.agg #[.int .i64 r_0_19, .int .i64 r_1_19, .int .i64 r_2_19, .bool r_3_19, .int .i64 r_4_19, .int .i64 r_5_19, .int .i64 r_6_19, .int .i64
  r_7_19, .int .u32 r_8_19, .bool r_9_19, .int .i64 r_10_19, .int .i64 r_11_19, .bool r_12_19, .bool r_13_19, .bool r_14_19, .bool r_15_19, .bool r_16_19, .bool r_17_19, .bool r_18_19, .bool r_19_19,
  .int .i64 r_20_19, .bool r_21_19, .bool r_22_19, .bool r_23_19])) w_648))))))))))))))))))))))))))))))))))))))))))))))))) ((∃ (x41_0_19 : Int), w_573.cell? ⟨b_5, 0, none⟩ = some (.int .i64 x41_0_19)
  ∧ (∃ (x41_1_19 : Int), w_573.cell? ⟨b_5, 1, none⟩ = some (.int .i64 x41_1_19) ∧ (∃ (x41_2_19 : Int), w_573.cell? ⟨b_5, 2, none⟩ = some (.int .i64 x41_2_19) ∧ (∃ (x41_3_19 : Bool), w_573.cell? ⟨b_5,
  3, none⟩ = some (.bool x41_3_19) ∧ (∃ (x41_4_19 : Int), w_573.cell? ⟨b_5, 4, none⟩ = some (.int .i64 x41_4_19) ∧ (∃ (x41_5_19 : Int), w_573.cell? ⟨b_5, 5, none⟩ = some (.int .i64 x41_5_19) ∧ (∃
  (x41_6_19 : Int), w_573.cell? ⟨b_5, 6, none⟩ = some (.int .i64 x41_6_19) ∧ (∃ (x41_7_19 : Int), w_573.cell? ⟨b_5, 7, none⟩ = some (.int .i64 x41_7_19) ∧ (∃ (x41_8_19 : Int), w_573.cell? ⟨b_5, 8,
  none⟩ = some (.int .u32 x41_8_19) ∧ (∃ (x41_9_19 : Bool), w_573.cell? ⟨b_5, 9, none⟩ = some (.bool x41_9_19) ∧ (∃ (x41_10_19 : Int), w_573.cell? ⟨b_5, 10, none⟩ = some (.int .i64 x41_10_19) ∧ (∃
  (x41_11_19 : Int), w_573.cell? ⟨b_5, 11, none⟩ = some (.int .i64 x41_11_19) ∧ (∃ (x41_12_19 : Bool), w_573.cell? ⟨b_5, 12, none⟩ = some (.bool x41_12_19) ∧ (∃ (x41_13_19 : Bool), w_573.cell? ⟨b_5,
  13, none⟩ = some (.bool x41_13_19) ∧ (∃ (x41_14_19 : Bool), w_573.cell? ⟨b_5, 14, none⟩ = some (.bool x41_14_19) ∧ (∃ (x41_15_19 : Bool), w_573.cell? ⟨b_5, 15, none⟩ = some (.bool x41_15_19) ∧ (∃
  (x41_16_19 : Bool), w_573.cell? ⟨b_5, 16, none⟩ = some (.bool x41_16_19) ∧ (∃ (x41_17_19 : Bool), w_573.cell? ⟨b_5, 17, none⟩ = some (.bool x41_17_19) ∧ (∃ (x41_18_19 : Bool), w_573.cell? ⟨b_5, 18,
  none⟩ = some (.bool x41_18_19) ∧ (∃ (x41_19_19 : Bool), w_573.cell? ⟨b_5, 19, none⟩ = some (.bool x41_19_19) ∧ (∃ (x41_20_19 : Int), w_573.cell? ⟨b_5, 20, none⟩ = some (.int .i64 x41_20_19) ∧ (∃
  (x41_21_19 : Bool), w_573.cell? ⟨b_5, 21, none⟩ = some (.bool x41_21_19) ∧ (∃ (x41_22_19 : Bool), w_573.cell? ⟨b_5, 22, none⟩ = some (.bool x41_22_19) ∧ (∃ (x41_23_19 : Bool), w_573.cell? ⟨b_5, 23,
  none⟩ = some (.bool x41_23_19) ∧ St w_573 ⟨b, 0, none⟩ (.int .i64 x41_0_19) fun w_649 => St w_649 ⟨b, 1, none⟩ (.int .i64 x41_1_19) fun w_650 => St w_650 ⟨b, 2, none⟩ (.int .i64 x41_2_19) fun w_651
  => St w_651 ⟨b, 3, none⟩ (.bool x41_3_19) fun w_652 => St w_652 ⟨b, 4, none⟩ (.int .i64 x41_4_19) fun w_653 => St w_653 ⟨b, 5, none⟩ (.int .i64 x41_5_19) fun w_654 => St w_654 ⟨b, 6, none⟩ (.int
  .i64 x41_6_19) fun w_655 => St w_655 ⟨b, 7, none⟩ (.int .i64 x41_7_19) fun w_656 => St w_656 ⟨b, 8, none⟩ (.int .u32 x41_8_19) fun w_657 => St w_657 ⟨b, 9, none⟩ (.bool x41_9_19) fun w_658 => St
  w_658 ⟨b, 10, none⟩ (.int .i64 x41_10_19) fun w_659 => St w_659 ⟨b, 11, none⟩ (.int .i64 x41_11_19) fun w_660 => St w_660 ⟨b, 12, none⟩ (.bool x41_12_19) fun w_661 => St w_661 ⟨b, 13, none⟩ (.bool
  x41_13_19) fun w_662 => St w_662 ⟨b, 14, none⟩ (.bool x41_14_19) fun w_663 => St w_663 ⟨b, 15, none⟩ (.bool x41_15_19) fun w_664 => St w_664 ⟨b, 16, none⟩ (.bool x41_16_19) fun w_665 => St w_665 ⟨b,
  17, none⟩ (.bool x41_17_19) fun w_666 => St w_666 ⟨b, 18, none⟩ (.bool x41_18_19) fun w_667 => St w_667 ⟨b, 19, none⟩ (.bool x41_19_19) fun w_668 => St w_668 ⟨b, 20, none⟩ (.int .i64 x41_20_19) fun
  w_669 => St w_669 ⟨b, 21, none⟩ (.bool x41_21_19) fun w_670 => St w_670 ⟨b, 22, none⟩ (.bool x41_22_19) fun w_671 => St w_671 ⟨b, 23, none⟩ (.bool x41_23_19) fun w_672 => (∃ (r_0_20 : Int),
  w_672.cell? ⟨b, 0, none⟩ = some (.int .i64 r_0_20) ∧ (∃ (r_1_20 : Int), w_672.cell? ⟨b, 1, none⟩ = some (.int .i64 r_1_20) ∧ (∃ (r_2_20 : Int), w_672.cell? ⟨b, 2, none⟩ = some (.int .i64 r_2_20) ∧
  (∃ (r_3_20 : Bool), w_672.cell? ⟨b, 3, none⟩ = some (.bool r_3_20) ∧ (∃ (r_4_20 : Int), w_672.cell? ⟨b, 4, none⟩ = some (.int .i64 r_4_20) ∧ (∃ (r_5_20 : Int), w_672.cell? ⟨b, 5, none⟩ = some (.int
  .i64 r_5_20) ∧ (∃ (r_6_20 : Int), w_672.cell? ⟨b, 6, none⟩ = some (.int .i64 r_6_20) ∧ (∃ (r_7_20 : Int), w_672.cell? ⟨b, 7, none⟩ = some (.int .i64 r_7_20) ∧ (∃ (r_8_20 : Int), w_672.cell? ⟨b, 8,
  none⟩ = some (.int .u32 r_8_20) ∧ (∃ (r_9_20 : Bool), w_672.cell? ⟨b, 9, none⟩ = some (.bool r_9_20) ∧ (∃ (r_10_20 : Int), w_672.cell? ⟨b, 10, none⟩ = some (.int .i64 r_10_20) ∧ (∃ (r_11_20 : Int),
  w_672.cell? ⟨b, 11, none⟩ = some (.int .i64 r_11_20) ∧ (∃ (r_12_20 : Bool), w_672.cell? ⟨b, 12, none⟩ = some (.bool r_12_20) ∧ (∃ (r_13_20 : Bool), w_672.cell? ⟨b, 13, none⟩ = some (.bool r_13_20) ∧
  (∃ (r_14_20 : Bool), w_672.cell? ⟨b, 14, none⟩ = some (.bool r_14_20) ∧ (∃ (r_15_20 : Bool), w_672.cell? ⟨b, 15, none⟩ = some (.bool r_15_20) ∧ (∃ (r_16_20 : Bool), w_672.cell? ⟨b, 16, none⟩ = some
  (.bool r_16_20) ∧ (∃ (r_17_20 : Bool), w_672.cell? ⟨b, 17, none⟩ = some (.bool r_17_20) ∧ (∃ (r_18_20 : Bool), w_672.cell? ⟨b, 18, none⟩ = some (.bool r_18_20) ∧ (∃ (r_19_20 : Bool), w_672.cell? ⟨b,
  19, none⟩ = some (.bool r_19_20) ∧ (∃ (r_20_20 : Int), w_672.cell? ⟨b, 20, none⟩ = some (.int .i64 r_20_20) ∧ (∃ (r_21_20 : Bool), w_672.cell? ⟨b, 21, none⟩ = some (.bool r_21_20) ∧ (∃ (r_22_20 :
  Bool), w_672.cell? ⟨b, 22, none⟩ = some (.bool r_22_20) ∧ (∃ (r_23_20 : Bool), w_672.cell? ⟨b, 23, none⟩ = some (.bool r_23_20) ∧ R (.returned (.agg #[.int .i64 r_0_20, .int .i64 r_1_20, .int .i64
  r_2_20, .bool r_3_20, .int .i64 r_4_20, .int .i64 r_5_20, .int .i64 r_6_20, .int .i64 r_7_20, .int .u32 r_8_20, .bool r_9_20, .int .i64 r_10_20, .int .i64 r_11_20, .bool r_12_20, .bool r_13_20,
  .bool r_14_20, .bool r_15_20, .bool r_16_20, .bool r_17_20, .bool r_18_20, .bool r_19_20, .int .i64 r_20_20, .bool r_21_20, .bool r_22_20, .bool r_23_20]))
  w_672))))))))))))))))))))))))))))))))))))))))))))))))))))))))))))))))) (Lt ((Int.fdiv (IntKind.wrap .u32 q0) 4096) == 4 : Bool) fun s42 => cond s42 ((Calls Try.prog 12 #[.int .u32 (IntKind.wrap .u32
  q0)] w_28 fun e w_673 => ∃ (x45_0 : Int) (x45_1 : Int) (x45_2 : Int) (x45_3 : Bool) (x45_4 : Int) (x45_5 : Int) (x45_6 : Int) (x45_7 : Int) (x45_8 : Int) (x45_9 : Bool) (x45_10 : Int) (x45_11 : Int)
  (x45_12 : Bool) (x45_13 : Bool) (x45_14 : Bool) (x45_15 : Bool) (x45_16 : Bool) (x45_17 : Bool) (x45_18 : Bool) (x45_19 : Bool) (x45_20 : Int) (x45_21 : Bool) (x45_22 : Bool) (x45_23 : Bool), e =
  .returned (.agg #[.int .i64 x45_0, .int .i64 x45_1, .int .i64 x45_2, .bool x45_3, .int .i64 x45_4, .int .i64 x45_5, .int .i64 x45_6, .int .i64 x45_7, .int .u32 x45_8, .bool x45_9, .int .i64 x45_10,
  .int .i64 x45_11, .bool x45_12, .bool x45_13, .bool x45_14, .bool x45_15, .bool x45_16, .bool x45_17, .bool x45_18, .bool x45_19, .int .i64 x45_20, .bool x45_21, .bool x45_22, .bool x45_23]) ∧ St
  w_673 ⟨b, 0, none⟩ (.int .i64 x45_0) fun w_674 => St w_674 ⟨b, 1, none⟩ (.int .i64 x45_1) fun w_675 => St w_675 ⟨b, 2, none⟩ (.int .i64 x45_2) fun w_676 => St w_676 ⟨b, 3, none⟩ (.bool x45_3) fun
  w_677 => St w_677 ⟨b, 4, none⟩ (.int .i64 x45_4) fun w_678 => St w_678 ⟨b, 5, none⟩ (.int .i64 x45_5) fun w_679 => St w_679 ⟨b, 6, none⟩ (.int .i64 x45_6) fun w_680 => St w_680 ⟨b, 7, none⟩ (.int
  .i64 x45_7) fun w_681 => St w_681 ⟨b, 8, none⟩ (.int .u32 x45_8) fun w_682 => St w_682 ⟨b, 9, none⟩ (.bool x45_9) fun w_683 => St w_683 ⟨b, 10, none⟩ (.int .i64 x45_10) fun w_684 => St w_684 ⟨b, 11,
  none⟩ (.int .i64 x45_11) fun w_685 => St w_685 ⟨b, 12, none⟩ (.bool x45_12) fun w_686 => St w_686 ⟨b, 13, none⟩ (.bool x45_13) fun w_687 => St w_687 ⟨b, 14, none⟩ (.bool x45_14) fun w_688 => St
  w_688 ⟨b, 15, none⟩ (.bool x45_15) fun w_689 => St w_689 ⟨b, 16, none⟩ (.bool x45_16) fun w_690 => St w_690 ⟨b, 17, none⟩ (.bool x45_17) fun w_691 => St w_691 ⟨b, 18, none⟩ (.bool x45_18) fun w_692
  => St w_692 ⟨b, 19, none⟩ (.bool x45_19) fun w_693 => St w_693 ⟨b, 20, none⟩ (.int .i64 x45_20) fun w_694 => St w_694 ⟨b, 21, none⟩ (.bool x45_21) fun w_695 => St w_695 ⟨b, 22, none⟩ (.bool x45_22)
  fun w_696 => St w_696 ⟨b, 23, none⟩ (.bool x45_23) fun w_697 => (∃ (r_0_21 : Int), w_697.cell? ⟨b, 0, none⟩ = some (.int .i64 r_0_21) ∧ (∃ (r_1_21 : Int), w_697.cell? ⟨b, 1, none⟩ = some (.int .i64
  r_1_21) ∧ (∃ (r_2_21 : Int), w_697.cell? ⟨b, 2, none⟩ = some (.int .i64 r_2_21) ∧ (∃ (r_3_21 : Bool), w_697.cell? ⟨b, 3, none⟩ = some (.bool r_3_21) ∧ (∃ (r_4_21 : Int), w_697.cell? ⟨b, 4, none⟩ =
  some (.int .i64 r_4_21) ∧ (∃ (r_5_21 : Int), w_697.cell? ⟨b, 5, none⟩ = some (.int .i64 r_5_21) ∧ (∃ (r_6_21 : Int), w_697.cell? ⟨b, 6, none⟩ = some (.int .i64 r_6_21) ∧ (∃ (r_7_21 : Int),
  w_697.cell? ⟨b, 7, none⟩ = some (.int .i64 r_7_21) ∧ (∃ (r_8_21 : Int), w_697.cell? ⟨b, 8, none⟩ = some (.int .u32 r_8_21) ∧ (∃ (r_9_21 : Bool), w_697.cell? ⟨b, 9, none⟩ = some (.bool r_9_21) ∧ (∃
  (r_10_21 : Int), w_697.cell? ⟨b, 10, none⟩ = some (.int .i64 r_10_21) ∧ (∃ (r_11_21 : Int), w_697.cell? ⟨b, 11, none⟩ = some (.int .i64 r_11_21) ∧ (∃ (r_12_21 : Bool), w_697.cell? ⟨b, 12, none⟩ =
  some (.bool r_12_21) ∧ (∃ (r_13_21 : Bool), w_697.cell? ⟨b, 13, none⟩ = some (.bool r_13_21) ∧ (∃ (r_14_21 : Bool), w_697.cell? ⟨b, 14, none⟩ = some (.bool r_14_21) ∧ (∃ (r_15_21 : Bool),
  w_697.cell? ⟨b, 15, none⟩ = some (.bool r_15_21) ∧ (∃ (r_16_21 : Bool), w_697.cell? ⟨b, 16, none⟩ = some (.bool r_16_21) ∧ (∃ (r_17_21 : Bool), w_697.cell? ⟨b, 17, none⟩ = some (.bool r_17_21) ∧ (∃
  (r_18_21 : Bool), w_697.cell? ⟨b, 18, none⟩ = some (.bool r_18_21) ∧ (∃ (r_19_21 : Bool), w_697.cell? ⟨b, 19, none⟩ = some (.bool r_19_21) ∧ (∃ (r_20_21 : Int), w_697.cell? ⟨b, 20, none⟩ = some
  (.int .i64 r_20_21) ∧ (∃ (r_21_21 : Bool), w_697.cell? ⟨b, 21, none⟩ = some (.bool r_21_21) ∧ (∃ (r_22_21 : Bool), w_697.cell? ⟨b, 22, none⟩ = some (.bool r_22_21) ∧ (∃ (r_23_21 : Bool), w_697.cell?
  ⟨b, 23, none⟩ = some (.bool r_23_21) ∧ R (.returned (.agg #[.int .i64 r_0_21, .int .i64 r_1_21, .int .i64 r_2_21, .bool r_3_21, .int .i64 r_4_21, .int .i64 r_5_21, .int .i64 r_6_21, .int .i64
  r_7_21, .int .u32 r_8_21, .bool r_9_21, .int .i64 r_10_21, .int .i64 r_11_21, .bool r_12_21, .bool r_13_21, .bool r_14_21, .bool r_15_21, .bool r_16_21, .bool r_17_21, .bool r_18_21, .bool r_19_21,
  .int .i64 r_20_21, .bool r_21_21, .bool r_22_21, .bool r_23_21])) w_697)))))))))))))))))))))))))) ((∃ J_2 : List Value → World → Prop, (Lt ((Int.fdiv (IntKind.wrap .u32 q0) 4096) == 5 : Bool) fun
  s46 => cond s46 (J_2 [.bool s46] w_28) (Lt ((Int.fdiv (IntKind.wrap .u32 q0) 4096) == 6 : Bool) fun s46_1 => cond s46_1 (J_2 [.bool s46_1] w_28) (Lt ((Int.fdiv (IntKind.wrap .u32 q0) 4096) == 7 :
  Bool) fun s46_2 => cond s46_2 (J_2 [.bool s46_2] w_28) (Lt ((Int.fdiv (IntKind.wrap .u32 q0) 4096) == 8 : Bool) fun s46_3 => cond s46_3 (J_2 [.bool s46_3] w_28) (Lt ((Int.fdiv (IntKind.wrap .u32 q0)
  4096) == 9 : Bool) fun s46_4 => J_2 [.bool s46_4] w_28))))) ∧ ∀ (s46_5 : Bool) (w_698 : World), J_2 [.bool s46_5] w_698 → cond s46_5 ((Calls Try.prog 13 #[.int .u32 (IntKind.wrap .u32 q0)] w_698 fun
  e w_699 => ∃ (x53_0 : Int) (x53_1 : Int) (x53_2 : Int) (x53_3 : Bool) (x53_4 : Int) (x53_5 : Int) (x53_6 : Int) (x53_7 : Int) (x53_8 : Int) (x53_9 : Bool) (x53_10 : Int) (x53_11 : Int) (x53_12 :
  Bool) (x53_13 : Bool) (x53_14 : Bool) (x53_15 : Bool) (x53_16 : Bool) (x53_17 : Bool) (x53_18 : Bool) (x53_19 : Bool) (x53_20 : Int) (x53_21 : Bool) (x53_22 : Bool) (x53_23 : Bool), e = .returned
  (.agg #[.int .i64 x53_0, .int .i64 x53_1, .int .i64 x53_2, .bool x53_3, .int .i64 x53_4, .int .i64 x53_5, .int .i64 x53_6, .int .i64 x53_7, .int .u32 x53_8, .bool x53_9, .int .i64 x53_10, .int .i64
  x53_11, .bool x53_12, .bool x53_13, .bool x53_14, .bool x53_15, .bool x53_16, .bool x53_17, .bool x53_18, .bool x53_19, .int .i64 x53_20, .bool x53_21, .bool x53_22, .bool x53_23]) ∧ St w_699 ⟨b, 0,
  none⟩ (.int .i64 x53_0) fun w_700 => St w_700 ⟨b, 1, none⟩ (.int .i64 x53_1) fun w_701 => St w_701 ⟨b, 2, none⟩ (.int .i64 x53_2) fun w_702 => St w_702 ⟨b, 3, none⟩ (.bool x53_3) fun w_703 => St
  w_703 ⟨b, 4, none⟩ (.int .i64 x53_4) fun w_704 => St w_704 ⟨b, 5, none⟩ (.int .i64 x53_5) fun w_705 => St w_705 ⟨b, 6, none⟩ (.int .i64 x53_6) fun w_706 => St w_706 ⟨b, 7, none⟩ (.int .i64 x53_7)
  fun w_707 => St w_707 ⟨b, 8, none⟩ (.int .u32 x53_8) fun w_708 => St w_708 ⟨b, 9, none⟩ (.bool x53_9) fun w_709 => St w_709 ⟨b, 10, none⟩ (.int .i64 x53_10) fun w_710 => St w_710 ⟨b, 11, none⟩ (.int
  .i64 x53_11) fun w_711 => St w_711 ⟨b, 12, none⟩ (.bool x53_12) fun w_712 => St w_712 ⟨b, 13, none⟩ (.bool x53_13) fun w_713 => St w_713 ⟨b, 14, none⟩ (.bool x53_14) fun w_714 => St w_714 ⟨b, 15,
  none⟩ (.bool x53_15) fun w_715 => St w_715 ⟨b, 16, none⟩ (.bool x53_16) fun w_716 => St w_716 ⟨b, 17, none⟩ (.bool x53_17) fun w_717 => St w_717 ⟨b, 18, none⟩ (.bool x53_18) fun w_718 => St w_718
  ⟨b, 19, none⟩ (.bool x53_19) fun w_719 => St w_719 ⟨b, 20, none⟩ (.int .i64 x53_20) fun w_720 => St w_720 ⟨b, 21, none⟩ (.bool x53_21) fun w_721 => St w_721 ⟨b, 22, none⟩ (.bool x53_22) fun w_722 =>
  St w_722 ⟨b, 23, none⟩ (.bool x53_23) fun w_723 => (∃ (r_0_22 : Int), w_723.cell? ⟨b, 0, none⟩ = some (.int .i64 r_0_22) ∧ (∃ (r_1_22 : Int), w_723.cell? ⟨b, 1, none⟩ = some (.int .i64 r_1_22) ∧ (∃
  (r_2_22 : Int), w_723.cell? ⟨b, 2, none⟩ = some (.int .i64 r_2_22) ∧ (∃ (r_3_22 : Bool), w_723.cell? ⟨b, 3, none⟩ = some (.bool r_3_22) ∧ (∃ (r_4_22 : Int), w_723.cell? ⟨b, 4, none⟩ = some (.int
  .i64 r_4_22) ∧ (∃ (r_5_22 : Int), w_723.cell? ⟨b, 5, none⟩ = some (.int .i64 r_5_22) ∧ (∃ (r_6_22 : Int), w_723.cell? ⟨b, 6, none⟩ = some (.int .i64 r_6_22) ∧ (∃ (r_7_22 : Int), w_723.cell? ⟨b, 7,
  none⟩ = some (.int .i64 r_7_22) ∧ (∃ (r_8_22 : Int), w_723.cell? ⟨b, 8, none⟩ = some (.int .u32 r_8_22) ∧ (∃ (r_9_22 : Bool), w_723.cell? ⟨b, 9, none⟩ = some (.bool r_9_22) ∧ (∃ (r_10_22 : Int),
  w_723.cell? ⟨b, 10, none⟩ = some (.int .i64 r_10_22) ∧ (∃ (r_11_22 : Int), w_723.cell? ⟨b, 11, none⟩ = some (.int .i64 r_11_22) ∧ (∃ (r_12_22 : Bool), w_723.cell? ⟨b, 12, none⟩ = some (.bool
  r_12_22) ∧ (∃ (r_13_22 : Bool), w_723.cell? ⟨b, 13, none⟩ = some (.bool r_13_22) ∧ (∃ (r_14_22 : Bool), w_723.cell? ⟨b, 14, none⟩ = some (.bool r_14_22) ∧ (∃ (r_15_22 : Bool), w_723.cell? ⟨b, 15,
  none⟩ = some (.bool r_15_22) ∧ (∃ (r_16_22 : Bool), w_723.cell? ⟨b, 16, none⟩ = some (.bool r_16_22) ∧ (∃ (r_17_22 : Bool), w_723.cell? ⟨b, 17, none⟩ = some (.bool r_17_22) ∧ (∃ (r_18_22 : Bool),
  w_723.cell? ⟨b, 18, none⟩ = some (.bool r_18_22) ∧ (∃ (r_19_22 : Bool), w_723.cell? ⟨b, 19, none⟩ = some (.bool r_19_22) ∧ (∃ (r_20_22 : Int), w_723.cell? ⟨b, 20, none⟩ = some (.int .i64 r_20_22) ∧
  (∃ (r_21_22 : Bool), w_723.cell? ⟨b, 21, none⟩ = some (.bool r_21_22) ∧ (∃ (r_22_22 : Bool), w_723.cell? ⟨b, 22, none⟩ = some (.bool r_22_22) ∧ (∃ (r_23_22 : Bool), w_723.cell? ⟨b, 23, none⟩ = some
  (.bool r_23_22) ∧ R (.returned (.agg #[.int .i64 r_0_22, .int .i64 r_1_22, .int .i64 r_2_22, .bool r_3_22, .int .i64 r_4_22, .int .i64 r_5_22, .int .i64 r_6_22, .int .i64 r_7_22, .int .u32 r_8_22,
  .bool r_9_22, .int .i64 r_10_22, .int .i64 r_11_22, .bool r_12_22, .bool r_13_22, .bool r_14_22, .bool r_15_22, .bool r_16_22, .bool r_17_22, .bool r_18_22, .bool r_19_22, .int .i64 r_20_22, .bool
  r_21_22, .bool r_22_22, .bool r_23_22])) w_723)))))))))))))))))))))))))) (Lt ((Int.fdiv (IntKind.wrap .u32 q0) 4096) == 10 : Bool) fun s54 => cond s54 ((Calls Try.prog 11 #[.int .u32 (IntKind.wrap
  .u32 q0), .int .i64 8, .int .i64 3] w_698 fun e w_724 => ∃ (x57 : Int), e = .returned (.int .i64 x57) ∧ Nw w_724 (.cells #[.int .i64 0, .int .i64 0, .int .i64 0, .bool false, .int .i64 0, .int .i64
  0, .int .i64 0, .int .i64 0, .int .u32 0, .bool false, .int .i64 0, .int .i64 0, .bool false, .bool false, .bool false, .bool false, .bool false, .bool false, .bool false, .bool false, .int .i64 0,
  .bool false, .bool false, .bool false] 26) fun b_6 w_725 => St w_725 ⟨b_6, 0, none⟩ (.int .i64 1) fun w_726 => St w_726 ⟨b_6, 1, none⟩ (.int .i64 14) fun w_727 => St w_727 ⟨b_6, 2, none⟩ (.int .i64
  4) fun w_728 => St w_728 ⟨b_6, 3, none⟩ (.bool false) fun w_729 => St w_729 ⟨b_6, 4, none⟩ (.int .i64 x57) fun w_730 => St w_730 ⟨b_6, 5, none⟩ (.int .i64 15) fun w_731 => St w_731 ⟨b_6, 6, none⟩
  (.int .i64 0) fun w_732 => St w_732 ⟨b_6, 7, none⟩ (.int .i64 0) fun w_733 => St w_733 ⟨b_6, 8, none⟩ (.int .u32 (bits .and .u32 (IntKind.wrap .u32 q0) 255)) fun w_734 => St w_734 ⟨b_6, 9, none⟩
  (.bool true) fun w_735 => St w_735 ⟨b_6, 10, none⟩ (.int .i64 0) fun w_736 => St w_736 ⟨b_6, 11, none⟩ (.int .i64 15) fun w_737 => St w_737 ⟨b_6, 12, none⟩ (.bool false) fun w_738 => St w_738 ⟨b_6,
  13, none⟩ (.bool false) fun w_739 => St w_739 ⟨b_6, 14, none⟩ (.bool false) fun w_740 => St w_740 ⟨b_6, 15, none⟩ (.bool false) fun w_741 => St w_741 ⟨b_6, 16, none⟩ (.bool false) fun w_742 => St
  w_742 ⟨b_6, 17, none⟩ (.bool false) fun w_743 => St w_743 ⟨b_6, 18, none⟩ (.bool false) fun w_744 => St w_744 ⟨b_6, 19, none⟩ (.bool false) fun w_745 => St w_745 ⟨b_6, 20, none⟩ (.int .i64 0) fun
  w_746 => St w_746 ⟨b_6, 21, none⟩ (.bool false) fun w_747 => St w_747 ⟨b_6, 22, none⟩ (.bool false) fun w_748 => St w_748 ⟨b_6, 23, none⟩ (.bool true) fun w_749 => (Calls Try.prog 14 #[.int .u32
  (IntKind.wrap .u32 q0), .int .i64 11] w_749 fun e w_750 => ∃ (x62 : Bool), e = .returned (.bool x62) ∧ cond x62 (St w_750 ⟨b_6, 5, none⟩ (.int .i64 13) fun w_751 => St w_751 ⟨b_6, 23, none⟩ (.bool
  false) fun w_752 => (∃ (x65_0 : Int), w_752.cell? ⟨b_6, 0, none⟩ = some (.int .i64 x65_0) ∧ (∃ (x65_1 : Int), w_752.cell? ⟨b_6, 1, none⟩ = some (.int .i64 x65_1) ∧ (∃ (x65_2 : Int), w_752.cell?
  ⟨b_6, 2, none⟩ = some (.int .i64 x65_2) ∧ (∃ (x65_3 : Bool), w_752.cell? ⟨b_6, 3, none⟩ = some (.bool x65_3) ∧ (∃ (x65_4 : Int), w_752.cell? ⟨b_6, 4, none⟩ = some (.int .i64 x65_4) ∧ (∃ (x65_5 :
  Int), w_752.cell? ⟨b_6, 5, none⟩ = some (.int .i64 x65_5) ∧ (∃ (x65_6 : Int), w_752.cell? ⟨b_6, 6, none⟩ = some (.int .i64 x65_6) ∧ (∃ (x65_7 : Int), w_752.cell? ⟨b_6, 7, none⟩ = some (.int .i64
  x65_7) ∧ (∃ (x65_8 : Int), w_752.cell? ⟨b_6, 8, none⟩ = some (.int .u32 x65_8) ∧ (∃ (x65_9 : Bool), w_752.cell? ⟨b_6, 9, none⟩ = some (.bool x65_9) ∧ (∃ (x65_10 : Int), w_752.cell? ⟨b_6, 10, none⟩ =
  some (.int .i64 x65_10) ∧ (∃ (x65_11 : Int), w_752.cell? ⟨b_6, 11, none⟩ = some (.int .i64 x65_11) ∧ (∃ (x65_12 : Bool), w_752.cell? ⟨b_6, 12, none⟩ = some (.bool x65_12) ∧ (∃ (x65_13 : Bool),
  w_752.cell? ⟨b_6, 13, none⟩ = some (.bool x65_13) ∧ (∃ (x65_14 : Bool), w_752.cell? ⟨b_6, 14, none⟩ = some (.bool x65_14) ∧ (∃ (x65_15 : Bool), w_752.cell? ⟨b_6, 15, none⟩ = some (.bool x65_15) ∧ (∃
  (x65_16 : Bool), w_752.cell? ⟨b_6, 16, none⟩ = some (.bool x65_16) ∧ (∃ (x65_17 : Bool), w_752.cell? ⟨b_6, 17, none⟩ = some (.bool x65_17) ∧ (∃ (x65_18 : Bool), w_752.cell? ⟨b_6, 18, none⟩ = some
  (.bool x65_18) ∧ (∃ (x65_19 : Bool), w_752.cell? ⟨b_6, 19, none⟩ = some (.bool x65_19) ∧ (∃ (x65_20 : Int), w_752.cell? ⟨b_6, 20, none⟩ = some (.int .i64 x65_20) ∧ (∃ (x65_21 : Bool), w_752.cell?
  ⟨b_6, 21, none⟩ = some (.bool x65_21) ∧ (∃ (x65_22 : Bool), w_752.cell? ⟨b_6, 22, none⟩ = some (.bool x65_22) ∧ (∃ (x65_23 : Bool), w_752.cell? ⟨b_6, 23, none⟩ = some (.bool x65_23) ∧ St w_752 ⟨b,
  0, none⟩ (.int .i64 x65_0) fun w_753 => St w_753 ⟨b, 1, none⟩ (.int .i64 x65_1) fun w_754 => St w_754 ⟨b, 2, none⟩ (.int .i64 x65_2) fun w_755 => St w_755 ⟨b, 3, none⟩ (.bool x65_3) fun w_756 => St
  w_756 ⟨b, 4, none⟩ (.int .i64 x65_4) fun w_757 => St w_757 ⟨b, 5, none⟩ (.int .i64 x65_5) fun w_758 => St w_758 ⟨b, 6, none⟩ (.int .i64 x65_6) fun w_759 => St w_759 ⟨b, 7, none⟩ (.int .i64 x65_7)
  fun w_760 => St w_760 ⟨b, 8, none⟩ (.int .u32 x65_8) fun w_761 => St w_761 ⟨b, 9, none⟩ (.bool x65_9) fun w_762 => St w_762 ⟨b, 10, none⟩ (.int .i64 x65_10) fun w_763 => St w_763 ⟨b, 11, none⟩ (.int
  .i64 x65_11) fun w_764 => St w_764 ⟨b, 12, none⟩ (.bool x65_12) fun w_765 => St w_765 ⟨b, 13, none⟩ (.bool x65_13) fun w_766 => St w_766 ⟨b, 14, none⟩ (.bool x65_14) fun w_767 => St w_767 ⟨b, 15,
  none⟩ (.bool x65_15) fun w_768 => St w_768 ⟨b, 16, none⟩ (.bool x65_16) fun w_769 => St w_769 ⟨b, 17, none⟩ (.bool x65_17) fun w_770 => St w_770 ⟨b, 18, none⟩ (.bool x65_18) fun w_771 => St w_771
  ⟨b, 19, none⟩ (.bool x65_19) fun w_772 => St w_772 ⟨b, 20, none⟩ (.int .i64 x65_20) fun w_773 => St w_773 ⟨b, 21, none⟩ (.bool x65_21) fun w_774 => St w_774 ⟨b, 22, none⟩ (.bool x65_22) fun w_775 =>
  St w_775 ⟨b, 23, none⟩ (.bool x65_23) fun w_776 => (∃ (r_0_23 : Int), w_776.cell? ⟨b, 0, none⟩ = some (.int .i64 r_0_23) ∧ (∃ (r_1_23 : Int), w_776.cell? ⟨b, 1, none⟩ = some (.int .i64 r_1_23) ∧ (∃
  (r_2_23 : Int), w_776.cell? ⟨b, 2, none⟩ = some (.int .i64 r_2_23) ∧ (∃ (r_3_23 : Bool), w_776.cell? ⟨b, 3, none⟩ = some (.bool r_3_23) ∧ (∃ (r_4_23 : Int), w_776.cell? ⟨b, 4, none⟩ = some (.int
  .i64 r_4_23) ∧ (∃ (r_5_23 : Int), w_776.cell? ⟨b, 5, none⟩ = some (.int .i64 r_5_23) ∧ (∃ (r_6_23 : Int), w_776.cell? ⟨b, 6, none⟩ = some (.int .i64 r_6_23) ∧ (∃ (r_7_23 : Int), w_776.cell? ⟨b, 7,
  none⟩ = some (.int .i64 r_7_23) ∧ (∃ (r_8_23 : Int), w_776.cell? ⟨b, 8, none⟩ = some (.int .u32 r_8_23) ∧ (∃ (r_9_23 : Bool), w_776.cell? ⟨b, 9, none⟩ = some (.bool r_9_23) ∧ (∃ (r_10_23 : Int),
  w_776.cell? ⟨b, 10, none⟩ = some (.int .i64 r_10_23) ∧ (∃ (r_11_23 : Int), w_776.cell? ⟨b, 11, none⟩ = some (.int .i64 r_11_23) ∧ (∃ (r_12_23 : Bool), w_776.cell? ⟨b, 12, none⟩ = some (.bool
  r_12_23) ∧ (∃ (r_13_23 : Bool), w_776.cell? ⟨b, 13, none⟩ = some (.bool r_13_23) ∧ (∃ (r_14_23 : Bool), w_776.cell? ⟨b, 14, none⟩ = some (.bool r_14_23) ∧ (∃ (r_15_23 : Bool), w_776.cell? ⟨b, 15,
  none⟩ = some (.bool r_15_23) ∧ (∃ (r_16_23 : Bool), w_776.cell? ⟨b, 16, none⟩ = some (.bool r_16_23) ∧ (∃ (r_17_23 : Bool), w_776.cell? ⟨b, 17, none⟩ = some (.bool r_17_23) ∧ (∃ (r_18_23 : Bool),
  w_776.cell? ⟨b, 18, none⟩ = some (.bool r_18_23) ∧ (∃ (r_19_23 : Bool), w_776.cell? ⟨b, 19, none⟩ = some (.bool r_19_23) ∧ (∃ (r_20_23 : Int), w_776.cell? ⟨b, 20, none⟩ = some (.int .i64 r_20_23) ∧
  (∃ (r_21_23 : Bool), w_776.cell? ⟨b, 21, none⟩ = some (.bool r_21_23) ∧ (∃ (r_22_23 : Bool), w_776.cell? ⟨b, 22, none⟩ = some (.bool r_22_23) ∧ (∃ (r_23_23 : Bool), w_776.cell? ⟨b, 23, none⟩ = some
  (.bool r_23_23) ∧ R (.returned (.agg #[.int .i64 r_0_23, .int .i64 r_1_23, .int .i64 r_2_23, .bool r_3_23, .int .i64 r_4_23, .int .i64 r_5_23, .int .i64 r_6_23, .int .i64 r_7_23, .int .u32 r_8_23,
  .bool r_9_23, .int .i64 r_10_23, .int .i64 r_11_23, .bool r_12_23, .bool r_13_23, .bool r_14_23, .bool r_15_23, .bool r_16_23, .bool r_17_23, .bool r_18_23, .bool r_19_23, .int .i64 r_20_23, .bool
  r_21_23, .bool r_22_23, .bool r_23_23])) w_776))))))))))))))))))))))))))))))))))))))))))))))))) ((∃ (x65_0_1 : Int), w_750.cell? ⟨b_6, 0, none⟩ = some (.int .i64 x65_0_1) ∧ (∃ (x65_1_1 : Int),
  w_750.cell? ⟨b_6, 1, none⟩ = some (.int .i64 x65_1_1) ∧ (∃ (x65_2_1 : Int), w_750.cell? ⟨b_6, 2, none⟩ = some (.int .i64 x65_2_1) ∧ (∃ (x65_3_1 : Bool), w_750.cell? ⟨b_6, 3, none⟩ = some (.bool
  x65_3_1) ∧ (∃ (x65_4_1 : Int), w_750.cell? ⟨b_6, 4, none⟩ = some (.int .i64 x65_4_1) ∧ (∃ (x65_5_1 : Int), w_750.cell? ⟨b_6, 5, none⟩ = some (.int .i64 x65_5_1) ∧ (∃ (x65_6_1 : Int), w_750.cell?
  ⟨b_6, 6, none⟩ = some (.int .i64 x65_6_1) ∧ (∃ (x65_7_1 : Int), w_750.cell? ⟨b_6, 7, none⟩ = some (.int .i64 x65_7_1) ∧ (∃ (x65_8_1 : Int), w_750.cell? ⟨b_6, 8, none⟩ = some (.int .u32 x65_8_1) ∧ (∃
  (x65_9_1 : Bool), w_750.cell? ⟨b_6, 9, none⟩ = some (.bool x65_9_1) ∧ (∃ (x65_10_1 : Int), w_750.cell? ⟨b_6, 10, none⟩ = some (.int .i64 x65_10_1) ∧ (∃ (x65_11_1 : Int), w_750.cell? ⟨b_6, 11, none⟩
  = some (.int .i64 x65_11_1) ∧ (∃ (x65_12_1 : Bool), w_750.cell? ⟨b_6, 12, none⟩ = some (.bool x65_12_1) ∧ (∃ (x65_13_1 : Bool), w_750.cell? ⟨b_6, 13, none⟩ = some (.bool x65_13_1) ∧ (∃ (x65_14_1 :
  Bool), w_750.cell? ⟨b_6, 14, none⟩ = some (.bool x65_14_1) ∧ (∃ (x65_15_1 : Bool), w_750.cell? ⟨b_6, 15, none⟩ = some (.bool x65_15_1) ∧ (∃ (x65_16_1 : Bool), w_750.cell? ⟨b_6, 16, none⟩ = some
  (.bool x65_16_1) ∧ (∃ (x65_17_1 : Bool), w_750.cell? ⟨b_6, 17, none⟩ = some (.bool x65_17_1) ∧ (∃ (x65_18_1 : Bool), w_750.cell? ⟨b_6, 18, none⟩ = some (.bool x65_18_1) ∧ (∃ (x65_19_1 : Bool),
  w_750.cell? ⟨b_6, 19, none⟩ = some (.bool x65_19_1) ∧ (∃ (x65_20_1 : Int), w_750.cell? ⟨b_6, 20, none⟩ = some (.int .i64 x65_20_1) ∧ (∃ (x65_21_1 : Bool), w_750.cell? ⟨b_6, 21, none⟩ = some (.bool
  x65_21_1) ∧ (∃ (x65_22_1 : Bool), w_750.cell? ⟨b_6, 22, none⟩ = some (.bool x65_22_1) ∧ (∃ (x65_23_1 : Bool), w_750.cell? ⟨b_6, 23, none⟩ = some (.bool x65_23_1) ∧ St w_750 ⟨b, 0, none⟩ (.int .i64
  x65_0_1) fun w_777 => St w_777 ⟨b, 1, none⟩ (.int .i64 x65_1_1) fun w_778 => St w_778 ⟨b, 2, none⟩ (.int .i64 x65_2_1) fun w_779 => St w_779 ⟨b, 3, none⟩ (.bool x65_3_1) fun w_780 => St w_780 ⟨b, 4,
  none⟩ (.int .i64 x65_4_1) fun w_781 => St w_781 ⟨b, 5, none⟩ (.int .i64 x65_5_1) fun w_782 => St w_782 ⟨b, 6, none⟩ (.int .i64 x65_6_1) fun w_783 => St w_783 ⟨b, 7, none⟩ (.int .i64 x65_7_1) fun
  w_784 => St w_784 ⟨b, 8, none⟩ (.int .u32 x65_8_1) fun w_785 => St w_785 ⟨b, 9, none⟩ (.bool x65_9_1) fun w_786 => St w_786 ⟨b, 10, none⟩ (.int .i64 x65_10_1) fun w_787 => St w_787 ⟨b, 11, none⟩
  (.int .i64 x65_11_1) fun w_788 => St w_788 ⟨b, 12, none⟩ (.bool x65_12_1) fun w_789 => St w_789 ⟨b, 13, none⟩ (.bool x65_13_1) fun w_790 => St w_790 ⟨b, 14, none⟩ (.bool x65_14_1) fun w_791 => St
  w_791 ⟨b, 15, none⟩ (.bool x65_15_1) fun w_792 => St w_792 ⟨b, 16, none⟩ (.bool x65_16_1) fun w_793 => St w_793 ⟨b, 17, none⟩ (.bool x65_17_1) fun w_794 => St w_794 ⟨b, 18, none⟩ (.bool x65_18_1)
  fun w_795 => St w_795 ⟨b, 19, none⟩ (.bool x65_19_1) fun w_796 => St w_796 ⟨b, 20, none⟩ (.int .i64 x65_20_1) fun w_797 => St w_797 ⟨b, 21, none⟩ (.bool x65_21_1) fun w_798 => St w_798 ⟨b, 22, none⟩
  (.bool x65_22_1) fun w_799 => St w_799 ⟨b, 23, none⟩ (.bool x65_23_1) fun w_800 => (∃ (r_0_24 : Int), w_800.cell? ⟨b, 0, none⟩ = some (.int .i64 r_0_24) ∧ (∃ (r_1_24 : Int), w_800.cell? ⟨b, 1, none⟩
  = some (.int .i64 r_1_24) ∧ (∃ (r_2_24 : Int), w_800.cell? ⟨b, 2, none⟩ = some (.int .i64 r_2_24) ∧ (∃ (r_3_24 : Bool), w_800.cell? ⟨b, 3, none⟩ = some (.bool r_3_24) ∧ (∃ (r_4_24 : Int),
  w_800.cell? ⟨b, 4, none⟩ = some (.int .i64 r_4_24) ∧ (∃ (r_5_24 : Int), w_800.cell? ⟨b, 5, none⟩ = some (.int .i64 r_5_24) ∧ (∃ (r_6_24 : Int), w_800.cell? ⟨b, 6, none⟩ = some (.int .i64 r_6_24) ∧
  (∃ (r_7_24 : Int), w_800.cell? ⟨b, 7, none⟩ = some (.int .i64 r_7_24) ∧ (∃ (r_8_24 : Int), w_800.cell? ⟨b, 8, none⟩ = some (.int .u32 r_8_24) ∧ (∃ (r_9_24 : Bool), w_800.cell? ⟨b, 9, none⟩ = some
  (.bool r_9_24) ∧ (∃ (r_10_24 : Int), w_800.cell? ⟨b, 10, none⟩ = some (.int .i64 r_10_24) ∧ (∃ (r_11_24 : Int), w_800.cell? ⟨b, 11, none⟩ = some (.int .i64 r_11_24) ∧ (∃ (r_12_24 : Bool),
  w_800.cell? ⟨b, 12, none⟩ = some (.bool r_12_24) ∧ (∃ (r_13_24 : Bool), w_800.cell? ⟨b, 13, none⟩ = some (.bool r_13_24) ∧ (∃ (r_14_24 : Bool), w_800.cell? ⟨b, 14, none⟩ = some (.bool r_14_24) ∧ (∃
  (r_15_24 : Bool), w_800.cell? ⟨b, 15, none⟩ = some (.bool r_15_24) ∧ (∃ (r_16_24 : Bool), w_800.cell? ⟨b, 16, none⟩ = some (.bool r_16_24) ∧ (∃ (r_17_24 : Bool), w_800.cell? ⟨b, 17, none⟩ = some
  (.bool r_17_24) ∧ (∃ (r_18_24 : Bool), w_800.cell? ⟨b, 18, none⟩ = some (.bool r_18_24) ∧ (∃ (r_19_24 : Bool), w_800.cell? ⟨b, 19, none⟩ = some (.bool r_19_24) ∧ (∃ (r_20_24 : Int), w_800.cell? ⟨b,
  20, none⟩ = some (.int .i64 r_20_24) ∧ (∃ (r_21_24 : Bool), w_800.cell? ⟨b, 21, none⟩ = some (.bool r_21_24) ∧ (∃ (r_22_24 : Bool), w_800.cell? ⟨b, 22, none⟩ = some (.bool r_22_24) ∧ (∃ (r_23_24 :
  Bool), w_800.cell? ⟨b, 23, none⟩ = some (.bool r_23_24) ∧ R (.returned (.agg #[.int .i64 r_0_24, .int .i64 r_1_24, .int .i64 r_2_24, .bool r_3_24, .int .i64 r_4_24, .int .i64 r_5_24, .int .i64
  r_6_24, .int .i64 r_7_24, .int .u32 r_8_24, .bool r_9_24, .int .i64 r_10_24, .int .i64 r_11_24, .bool r_12_24, .bool r_13_24, .bool r_14_24, .bool r_15_24, .bool r_16_24, .bool r_17_24, .bool
  r_18_24, .bool r_19_24, .int .i64 r_20_24, .bool r_21_24, .bool r_22_24, .bool r_23_24])) w_800)))))))))))))))))))))))))))))))))))))))))))))))))))) (Lt ((Int.fdiv (IntKind.wrap .u32 q0) 4096) == 11
  : Bool) fun s66 => cond s66 ((Calls Try.prog 15 #[.int .u32 (IntKind.wrap .u32 q0)] w_698 fun e w_801 => ∃ (x69_0 : Int) (x69_1 : Int) (x69_2 : Int) (x69_3 : Bool) (x69_4 : Int) (x69_5 : Int) (x69_6
  : Int) (x69_7 : Int) (x69_8 : Int) (x69_9 : Bool) (x69_10 : Int) (x69_11 : Int) (x69_12 : Bool) (x69_13 : Bool) (x69_14 : Bool) (x69_15 : Bool) (x69_16 : Bool) (x69_17 : Bool) (x69_18 : Bool)
  (x69_19 : Bool) (x69_20 : Int) (x69_21 : Bool) (x69_22 : Bool) (x69_23 : Bool), e = .returned (.agg #[.int .i64 x69_0, .int .i64 x69_1, .int .i64 x69_2, .bool x69_3, .int .i64 x69_4, .int .i64
  x69_5, .int .i64 x69_6, .int .i64 x69_7, .int .u32 x69_8, .bool x69_9, .int .i64 x69_10, .int .i64 x69_11, .bool x69_12, .bool x69_13, .bool x69_14, .bool x69_15, .bool x69_16, .bool x69_17, .bool
  x69_18, .bool x69_19, .int .i64 x69_20, .bool x69_21, .bool x69_22, .bool x69_23]) ∧ St w_801 ⟨b, 0, none⟩ (.int .i64 x69_0) fun w_802 => St w_802 ⟨b, 1, none⟩ (.int .i64 x69_1) fun w_803 => St
  w_803 ⟨b, 2, none⟩ (.int .i64 x69_2) fun w_804 => St w_804 ⟨b, 3, none⟩ (.bool x69_3) fun w_805 => St w_805 ⟨b, 4, none⟩ (.int .i64 x69_4) fun w_806 => St w_806 ⟨b, 5, none⟩ (.int .i64 x69_5) fun
  w_807 => St w_807 ⟨b, 6, none⟩ (.int .i64 x69_6) fun w_808 => St w_808 ⟨b, 7, none⟩ (.int .i64 x69_7) fun w_809 => St w_809 ⟨b, 8, none⟩ (.int .u32 x69_8) fun w_810 => St w_810 ⟨b, 9, none⟩ (.bool
  x69_9) fun w_811 => St w_811 ⟨b, 10, none⟩ (.int .i64 x69_10) fun w_812 => St w_812 ⟨b, 11, none⟩ (.int .i64 x69_11) fun w_813 => St w_813 ⟨b, 12, none⟩ (.bool x69_12) fun w_814 => St w_814 ⟨b, 13,
  none⟩ (.bool x69_13) fun w_815 => St w_815 ⟨b, 14, none⟩ (.bool x69_14) fun w_816 => St w_816 ⟨b, 15, none⟩ (.bool x69_15) fun w_817 => St w_817 ⟨b, 16, none⟩ (.bool x69_16) fun w_818 => St w_818
  ⟨b, 17, none⟩ (.bool x69_17) fun w_819 => St w_819 ⟨b, 18, none⟩ (.bool x69_18) fun w_820 => St w_820 ⟨b, 19, none⟩ (.bool x69_19) fun w_821 => St w_821 ⟨b, 20, none⟩ (.int .i64 x69_20) fun w_822 =>
  St w_822 ⟨b, 21, none⟩ (.bool x69_21) fun w_823 => St w_823 ⟨b, 22, none⟩ (.bool x69_22) fun w_824 => St w_824 ⟨b, 23, none⟩ (.bool x69_23) fun w_825 => (∃ (r_0_25 : Int), w_825.cell? ⟨b, 0, none⟩ =
  some (.int .i64 r_0_25) ∧ (∃ (r_1_25 : Int), w_825.cell? ⟨b, 1, none⟩ = some (.int .i64 r_1_25) ∧ (∃ (r_2_25 : Int), w_825.cell? ⟨b, 2, none⟩ = some (.int .i64 r_2_25) ∧ (∃ (r_3_25 : Bool),
  w_825.cell? ⟨b, 3, none⟩ = some (.bool r_3_25) ∧ (∃ (r_4_25 : Int), w_825.cell? ⟨b, 4, none⟩ = some (.int .i64 r_4_25) ∧ (∃ (r_5_25 : Int), w_825.cell? ⟨b, 5, none⟩ = some (.int .i64 r_5_25) ∧ (∃
  (r_6_25 : Int), w_825.cell? ⟨b, 6, none⟩ = some (.int .i64 r_6_25) ∧ (∃ (r_7_25 : Int), w_825.cell? ⟨b, 7, none⟩ = some (.int .i64 r_7_25) ∧ (∃ (r_8_25 : Int), w_825.cell? ⟨b, 8, none⟩ = some (.int
  .u32 r_8_25) ∧ (∃ (r_9_25 : Bool), w_825.cell? ⟨b, 9, none⟩ = some (.bool r_9_25) ∧ (∃ (r_10_25 : Int), w_825.cell? ⟨b, 10, none⟩ = some (.int .i64 r_10_25) ∧ (∃ (r_11_25 : Int), w_825.cell? ⟨b, 11,
  none⟩ = some (.int .i64 r_11_25) ∧ (∃ (r_12_25 : Bool), w_825.cell? ⟨b, 12, none⟩ = some (.bool r_12_25) ∧ (∃ (r_13_25 : Bool), w_825.cell? ⟨b, 13, none⟩ = some (.bool r_13_25) ∧ (∃ (r_14_25 :
  Bool), w_825.cell? ⟨b, 14, none⟩ = some (.bool r_14_25) ∧ (∃ (r_15_25 : Bool), w_825.cell? ⟨b, 15, none⟩ = some (.bool r_15_25) ∧ (∃ (r_16_25 : Bool), w_825.cell? ⟨b, 16, none⟩ = some (.bool
  r_16_25) ∧ (∃ (r_17_25 : Bool), w_825.cell? ⟨b, 17, none⟩ = some (.bool r_17_25) ∧ (∃ (r_18_25 : Bool), w_825.cell? ⟨b, 18, none⟩ = some (.bool r_18_25) ∧ (∃ (r_19_25 : Bool), w_825.cell? ⟨b, 19,
  none⟩ = some (.bool r_19_25) ∧ (∃ (r_20_25 : Int), w_825.cell? ⟨b, 20, none⟩ = some (.int .i64 r_20_25) ∧ (∃ (r_21_25 : Bool), w_825.cell? ⟨b, 21, none⟩ = some (.bool r_21_25) ∧ (∃ (r_22_25 : Bool),
  w_825.cell? ⟨b, 22, none⟩ = some (.bool r_22_25) ∧ (∃ (r_23_25 : Bool), w_825.cell? ⟨b, 23, none⟩ = some (.bool r_23_25) ∧ R (.returned (.agg #[.int .i64 r_0_25, .int .i64 r_1_25, .int .i64 r_2_25,
  .bool r_3_25, .int .i64 r_4_25, .int .i64 r_5_25, .int .i64 r_6_25, .int .i64 r_7_25, .int .u32 r_8_25, .bool r_9_25, .int .i64 r_10_25, .int .i64 r_11_25, .bool r_12_25, .bool r_13_25, .bool
  r_14_25, .bool r_15_25, .bool r_16_25, .bool r_17_25, .bool r_18_25, .bool r_19_25, .int .i64 r_20_25, .bool r_21_25, .bool r_22_25, .bool r_23_25])) w_825)))))))))))))))))))))))))) (Lt ((Int.fdiv
  (IntKind.wrap .u32 q0) 4096) == 12 : Bool) fun s70 => cond s70 ((Calls Try.prog 11 #[.int .u32 (IntKind.wrap .u32 q0), .int .i64 8, .int .i64 3] w_698 fun e w_826 => ∃ (x73 : Int), e = .returned
  (.int .i64 x73) ∧ (Calls Try.prog 14 #[.int .u32 (IntKind.wrap .u32 q0), .int .i64 11] w_826 fun e w_827 => ∃ (x76 : Bool), e = .returned (.bool x76) ∧ St w_827 ⟨b, 0, none⟩ (.int .i64 8) fun w_828
  => St w_828 ⟨b, 1, none⟩ (.int .i64 14) fun w_829 => St w_829 ⟨b, 2, none⟩ (.int .i64 0) fun w_830 => St w_830 ⟨b, 3, none⟩ (.bool false) fun w_831 => St w_831 ⟨b, 4, none⟩ (.int .i64 0) fun w_832
  => St w_832 ⟨b, 5, none⟩ (.int .i64 x73) fun w_833 => St w_833 ⟨b, 6, none⟩ (.int .i64 0) fun w_834 => St w_834 ⟨b, 7, none⟩ (.int .i64 0) fun w_835 => St w_835 ⟨b, 8, none⟩ (.int .u32 0) fun w_836
  => St w_836 ⟨b, 9, none⟩ (.bool false) fun w_837 => St w_837 ⟨b, 10, none⟩ (.int .i64 0) fun w_838 => St w_838 ⟨b, 11, none⟩ (.int .i64 0) fun w_839 => St w_839 ⟨b, 12, none⟩ (.bool false) fun w_840
  => St w_840 ⟨b, 13, none⟩ (.bool x76) fun w_841 => St w_841 ⟨b, 14, none⟩ (.bool false) fun w_842 => St w_842 ⟨b, 15, none⟩ (.bool false) fun w_843 => St w_843 ⟨b, 16, none⟩ (.bool false) fun w_844
  => St w_844 ⟨b, 17, none⟩ (.bool true) fun w_845 => St w_845 ⟨b, 18, none⟩ (.bool true) fun w_846 => St w_846 ⟨b, 19, none⟩ (.bool false) fun w_847 => St w_847 ⟨b, 20, none⟩ (.int .i64 (IntKind.wrap
  .i64 (bits .and .u32 (IntKind.wrap .u32 q0) 255))) fun w_848 => St w_848 ⟨b, 21, none⟩ (.bool false) fun w_849 => St w_849 ⟨b, 22, none⟩ (.bool false) fun w_850 => St w_850 ⟨b, 23, none⟩ (.bool
  false) fun w_851 => (∃ (r_0_26 : Int), w_851.cell? ⟨b, 0, none⟩ = some (.int .i64 r_0_26) ∧ (∃ (r_1_26 : Int), w_851.cell? ⟨b, 1, none⟩ = some (.int .i64 r_1_26) ∧ (∃ (r_2_26 : Int), w_851.cell? ⟨b,
  2, none⟩ = some (.int .i64 r_2_26) ∧ (∃ (r_3_26 : Bool), w_851.cell? ⟨b, 3, none⟩ = some (.bool r_3_26) ∧ (∃ (r_4_26 : Int), w_851.cell? ⟨b, 4, none⟩ = some (.int .i64 r_4_26) ∧ (∃ (r_5_26 : Int),
  w_851.cell? ⟨b, 5, none⟩ = some (.int .i64 r_5_26) ∧ (∃ (r_6_26 : Int), w_851.cell? ⟨b, 6, none⟩ = some (.int .i64 r_6_26) ∧ (∃ (r_7_26 : Int), w_851.cell? ⟨b, 7, none⟩ = some (.int .i64 r_7_26) ∧
  (∃ (r_8_26 : Int), w_851.cell? ⟨b, 8, none⟩ = some (.int .u32 r_8_26) ∧ (∃ (r_9_26 : Bool), w_851.cell? ⟨b, 9, none⟩ = some (.bool r_9_26) ∧ (∃ (r_10_26 : Int), w_851.cell? ⟨b, 10, none⟩ = some
  (.int .i64 r_10_26) ∧ (∃ (r_11_26 : Int), w_851.cell? ⟨b, 11, none⟩ = some (.int .i64 r_11_26) ∧ (∃ (r_12_26 : Bool), w_851.cell? ⟨b, 12, none⟩ = some (.bool r_12_26) ∧ (∃ (r_13_26 : Bool),
  w_851.cell? ⟨b, 13, none⟩ = some (.bool r_13_26) ∧ (∃ (r_14_26 : Bool), w_851.cell? ⟨b, 14, none⟩ = some (.bool r_14_26) ∧ (∃ (r_15_26 : Bool), w_851.cell? ⟨b, 15, none⟩ = some (.bool r_15_26) ∧ (∃
  (r_16_26 : Bool), w_851.cell? ⟨b, 16, none⟩ = some (.bool r_16_26) ∧ (∃ (r_17_26 : Bool), w_851.cell? ⟨b, 17, none⟩ = some (.bool r_17_26) ∧ (∃ (r_18_26 : Bool), w_851.cell? ⟨b, 18, none⟩ = some
  (.bool r_18_26) ∧ (∃ (r_19_26 : Bool), w_851.cell? ⟨b, 19, none⟩ = some (.bool r_19_26) ∧ (∃ (r_20_26 : Int), w_851.cell? ⟨b, 20, none⟩ = some (.int .i64 r_20_26) ∧ (∃ (r_21_26 : Bool), w_851.cell?
  ⟨b, 21, none⟩ = some (.bool r_21_26) ∧ (∃ (r_22_26 : Bool), w_851.cell? ⟨b, 22, none⟩ = some (.bool r_22_26) ∧ (∃ (r_23_26 : Bool), w_851.cell? ⟨b, 23, none⟩ = some (.bool r_23_26) ∧ R (.returned
  (.agg #[.int .i64 r_0_26, .int .i64 r_1_26, .int .i64 r_2_26, .bool r_3_26, .int .i64 r_4_26, .int .i64 r_5_26, .int .i64 r_6_26, .int .i64 r_7_26, .int .u32 r_8_26, .bool r_9_26, .int .i64 r_10_26,
  .int .i64 r_11_26, .bool r_12_26, .bool r_13_26, .bool r_14_26, .bool r_15_26, .bool r_16_26, .bool r_17_26, .bool r_18_26, .bool r_19_26, .int .i64 r_20_26, .bool r_21_26, .bool r_22_26, .bool
  r_23_26])) w_851))))))))))))))))))))))))))) (Lt ((Int.fdiv (IntKind.wrap .u32 q0) 4096) == 13 : Bool) fun s81 => cond s81 ((Calls Try.prog 11 #[.int .u32 (IntKind.wrap .u32 q0), .int .i64 8, .int
  .i64 4] w_698 fun e w_852 => ∃ (x84 : Int), e = .returned (.int .i64 x84) ∧ cond (x84 == 14) (St w_852 ⟨b, 0, none⟩ (.int .i64 0) fun w_853 => St w_853 ⟨b, 1, none⟩ (.int .i64 14) fun w_854 => St
  w_854 ⟨b, 2, none⟩ (.int .i64 0) fun w_855 => St w_855 ⟨b, 3, none⟩ (.bool false) fun w_856 => St w_856 ⟨b, 4, none⟩ (.int .i64 0) fun w_857 => St w_857 ⟨b, 5, none⟩ (.int .i64 0) fun w_858 => St
  w_858 ⟨b, 6, none⟩ (.int .i64 0) fun w_859 => St w_859 ⟨b, 7, none⟩ (.int .i64 0) fun w_860 => St w_860 ⟨b, 8, none⟩ (.int .u32 0) fun w_861 => St w_861 ⟨b, 9, none⟩ (.bool false) fun w_862 => St
  w_862 ⟨b, 10, none⟩ (.int .i64 0) fun w_863 => St w_863 ⟨b, 11, none⟩ (.int .i64 0) fun w_864 => St w_864 ⟨b, 12, none⟩ (.bool false) fun w_865 => St w_865 ⟨b, 13, none⟩ (.bool false) fun w_866 =>
  St w_866 ⟨b, 14, none⟩ (.bool false) fun w_867 => St w_867 ⟨b, 15, none⟩ (.bool false) fun w_868 => St w_868 ⟨b, 16, none⟩ (.bool false) fun w_869 => St w_869 ⟨b, 17, none⟩ (.bool false) fun w_870
  => St w_870 ⟨b, 18, none⟩ (.bool false) fun w_871 => St w_871 ⟨b, 19, none⟩ (.bool false) fun w_872 => St w_872 ⟨b, 20, none⟩ (.int .i64 0) fun w_873 => St w_873 ⟨b, 21, none⟩ (.bool false) fun
  w_874 => St w_874 ⟨b, 22, none⟩ (.bool false) fun w_875 => St w_875 ⟨b, 23, none⟩ (.bool false) fun w_876 => (∃ (r_0_27 : Int), w_876.cell? ⟨b, 0, none⟩ = some (.int .i64 r_0_27) ∧ (∃ (r_1_27 :
  Int), w_876.cell? ⟨b, 1, none⟩ = some (.int .i64 r_1_27) ∧ (∃ (r_2_27 : Int), w_876.cell? ⟨b, 2, none⟩ = some (.int .i64 r_2_27) ∧ (∃ (r_3_27 : Bool), w_876.cell? ⟨b, 3, none⟩ = some (.bool r_3_27)
  ∧ (∃ (r_4_27 : Int), w_876.cell? ⟨b, 4, none⟩ = some (.int .i64 r_4_27) ∧ (∃ (r_5_27 : Int), w_876.cell? ⟨b, 5, none⟩ = some (.int .i64 r_5_27) ∧ (∃ (r_6_27 : Int), w_876.cell? ⟨b, 6, none⟩ = some
  (.int .i64 r_6_27) ∧ (∃ (r_7_27 : Int), w_876.cell? ⟨b, 7, none⟩ = some (.int .i64 r_7_27) ∧ (∃ (r_8_27 : Int), w_876.cell? ⟨b, 8, none⟩ = some (.int .u32 r_8_27) ∧ (∃ (r_9_27 : Bool), w_876.cell?
  ⟨b, 9, none⟩ = some (.bool r_9_27) ∧ (∃ (r_10_27 : Int), w_876.cell? ⟨b, 10, none⟩ = some (.int .i64 r_10_27) ∧ (∃ (r_11_27 : Int), w_876.cell? ⟨b, 11, none⟩ = some (.int .i64 r_11_27) ∧ (∃ (r_12_27
  : Bool), w_876.cell? ⟨b, 12, none⟩ = some (.bool r_12_27) ∧ (∃ (r_13_27 : Bool), w_876.cell? ⟨b, 13, none⟩ = some (.bool r_13_27) ∧ (∃ (r_14_27 : Bool), w_876.cell? ⟨b, 14, none⟩ = some (.bool
  r_14_27) ∧ (∃ (r_15_27 : Bool), w_876.cell? ⟨b, 15, none⟩ = some (.bool r_15_27) ∧ (∃ (r_16_27 : Bool), w_876.cell? ⟨b, 16, none⟩ = some (.bool r_16_27) ∧ (∃ (r_17_27 : Bool), w_876.cell? ⟨b, 17,
  none⟩ = some (.bool r_17_27) ∧ (∃ (r_18_27 : Bool), w_876.cell? ⟨b, 18, none⟩ = some (.bool r_18_27) ∧ (∃ (r_19_27 : Bool), w_876.cell? ⟨b, 19, none⟩ = some (.bool r_19_27) ∧ (∃ (r_20_27 : Int),
  w_876.cell? ⟨b, 20, none⟩ = some (.int .i64 r_20_27) ∧ (∃ (r_21_27 : Bool), w_876.cell? ⟨b, 21, none⟩ = some (.bool r_21_27) ∧ (∃ (r_22_27 : Bool), w_876.cell? ⟨b, 22, none⟩ = some (.bool r_22_27) ∧
  (∃ (r_23_27 : Bool), w_876.cell? ⟨b, 23, none⟩ = some (.bool r_23_27) ∧ R (.returned (.agg #[.int .i64 r_0_27, .int .i64 r_1_27, .int .i64 r_2_27, .bool r_3_27, .int .i64 r_4_27, .int .i64 r_5_27,
  .int .i64 r_6_27, .int .i64 r_7_27, .int .u32 r_8_27, .bool r_9_27, .int .i64 r_10_27, .int .i64 r_11_27, .bool r_12_27, .bool r_13_27, .bool r_14_27, .bool r_15_27, .bool r_16_27, .bool r_17_27,
  .bool r_18_27, .bool r_19_27, .int .i64 r_20_27, .bool r_21_27, .bool r_22_27, .bool r_23_27])) w_876))))))))))))))))))))))))) (cond (x84 == 15) (St w_852 ⟨b, 0, none⟩ (.int .i64 10) fun w_877 => St
  w_877 ⟨b, 1, none⟩ (.int .i64 14) fun w_878 => St w_878 ⟨b, 2, none⟩ (.int .i64 0) fun w_879 => St w_879 ⟨b, 3, none⟩ (.bool false) fun w_880 => St w_880 ⟨b, 4, none⟩ (.int .i64 0) fun w_881 => St
  w_881 ⟨b, 5, none⟩ (.int .i64 0) fun w_882 => St w_882 ⟨b, 6, none⟩ (.int .i64 0) fun w_883 => St w_883 ⟨b, 7, none⟩ (.int .i64 0) fun w_884 => St w_884 ⟨b, 8, none⟩ (.int .u32 (bits .and .u32
  (IntKind.wrap .u32 q0) 255)) fun w_885 => St w_885 ⟨b, 9, none⟩ (.bool false) fun w_886 => St w_886 ⟨b, 10, none⟩ (.int .i64 0) fun w_887 => St w_887 ⟨b, 11, none⟩ (.int .i64 0) fun w_888 => St
  w_888 ⟨b, 12, none⟩ (.bool false) fun w_889 => St w_889 ⟨b, 13, none⟩ (.bool false) fun w_890 => St w_890 ⟨b, 14, none⟩ (.bool false) fun w_891 => St w_891 ⟨b, 15, none⟩ (.bool false) fun w_892 =>
  St w_892 ⟨b, 16, none⟩ (.bool false) fun w_893 => St w_893 ⟨b, 17, none⟩ (.bool false) fun w_894 => St w_894 ⟨b, 18, none⟩ (.bool false) fun w_895 => St w_895 ⟨b, 19, none⟩ (.bool false) fun w_896
  => St w_896 ⟨b, 20, none⟩ (.int .i64 0) fun w_897 => St w_897 ⟨b, 21, none⟩ (.bool false) fun w_898 => St w_898 ⟨b, 22, none⟩ (.bool false) fun w_899 => St w_899 ⟨b, 23, none⟩ (.bool false) fun
  w_900 => (∃ (r_0_28 : Int), w_900.cell? ⟨b, 0, none⟩ = some (.int .i64 r_0_28) ∧ (∃ (r_1_28 : Int), w_900.cell? ⟨b, 1, none⟩ = some (.int .i64 r_1_28) ∧ (∃ (r_2_28 : Int), w_900.cell? ⟨b, 2, none⟩ =
  some (.int .i64 r_2_28) ∧ (∃ (r_3_28 : Bool), w_900.cell? ⟨b, 3, none⟩ = some (.bool r_3_28) ∧ (∃ (r_4_28 : Int), w_900.cell? ⟨b, 4, none⟩ = some (.int .i64 r_4_28) ∧ (∃ (r_5_28 : Int), w_900.cell?
  ⟨b, 5, none⟩ = some (.int .i64 r_5_28) ∧ (∃ (r_6_28 : Int), w_900.cell? ⟨b, 6, none⟩ = some (.int .i64 r_6_28) ∧ (∃ (r_7_28 : Int), w_900.cell? ⟨b, 7, none⟩ = some (.int .i64 r_7_28) ∧ (∃ (r_8_28 :
  Int), w_900.cell? ⟨b, 8, none⟩ = some (.int .u32 r_8_28) ∧ (∃ (r_9_28 : Bool), w_900.cell? ⟨b, 9, none⟩ = some (.bool r_9_28) ∧ (∃ (r_10_28 : Int), w_900.cell? ⟨b, 10, none⟩ = some (.int .i64
  r_10_28) ∧ (∃ (r_11_28 : Int), w_900.cell? ⟨b, 11, none⟩ = some (.int .i64 r_11_28) ∧ (∃ (r_12_28 : Bool), w_900.cell? ⟨b, 12, none⟩ = some (.bool r_12_28) ∧ (∃ (r_13_28 : Bool), w_900.cell? ⟨b, 13,
  none⟩ = some (.bool r_13_28) ∧ (∃ (r_14_28 : Bool), w_900.cell? ⟨b, 14, none⟩ = some (.bool r_14_28) ∧ (∃ (r_15_28 : Bool), w_900.cell? ⟨b, 15, none⟩ = some (.bool r_15_28) ∧ (∃ (r_16_28 : Bool),
  w_900.cell? ⟨b, 16, none⟩ = some (.bool r_16_28) ∧ (∃ (r_17_28 : Bool), w_900.cell? ⟨b, 17, none⟩ = some (.bool r_17_28) ∧ (∃ (r_18_28 : Bool), w_900.cell? ⟨b, 18, none⟩ = some (.bool r_18_28) ∧ (∃
  (r_19_28 : Bool), w_900.cell? ⟨b, 19, none⟩ = some (.bool r_19_28) ∧ (∃ (r_20_28 : Int), w_900.cell? ⟨b, 20, none⟩ = some (.int .i64 r_20_28) ∧ (∃ (r_21_28 : Bool), w_900.cell? ⟨b, 21, none⟩ = some
  (.bool r_21_28) ∧ (∃ (r_22_28 : Bool), w_900.cell? ⟨b, 22, none⟩ = some (.bool r_22_28) ∧ (∃ (r_23_28 : Bool), w_900.cell? ⟨b, 23, none⟩ = some (.bool r_23_28) ∧ R (.returned (.agg #[.int .i64
  r_0_28, .int .i64 r_1_28, .int .i64 r_2_28, .bool r_3_28, .int .i64 r_4_28, .int .i64 r_5_28, .int .i64 r_6_28, .int .i64 r_7_28, .int .u32 r_8_28, .bool r_9_28, .int .i64 r_10_28, .int .i64
  r_11_28, .bool r_12_28, .bool r_13_28, .bool r_14_28, .bool r_15_28, .bool r_16_28, .bool r_17_28, .bool r_18_28, .bool r_19_28, .int .i64 r_20_28, .bool r_21_28, .bool r_22_28, .bool r_23_28]))
  w_900))))))))))))))))))))))))) (St w_852 ⟨b, 0, none⟩ (.int .i64 9) fun w_901 => St w_901 ⟨b, 1, none⟩ (.int .i64 x84) fun w_902 => St w_902 ⟨b, 2, none⟩ (.int .i64 0) fun w_903 => St w_903 ⟨b, 3,
  none⟩ (.bool false) fun w_904 => St w_904 ⟨b, 4, none⟩ (.int .i64 0) fun w_905 => St w_905 ⟨b, 5, none⟩ (.int .i64 0) fun w_906 => St w_906 ⟨b, 6, none⟩ (.int .i64 0) fun w_907 => St w_907 ⟨b, 7,
  none⟩ (.int .i64 0) fun w_908 => St w_908 ⟨b, 8, none⟩ (.int .u32 (IntKind.wrap .u32 (IntKind.wrap .i32 ((IntKind.wrap .i32 (IntKind.wrap .i8 (IntKind.wrap .u32 q0))) * 2)))) fun w_909 => St w_909
  ⟨b, 9, none⟩ (.bool false) fun w_910 => St w_910 ⟨b, 10, none⟩ (.int .i64 0) fun w_911 => St w_911 ⟨b, 11, none⟩ (.int .i64 0) fun w_912 => St w_912 ⟨b, 12, none⟩ (.bool false) fun w_913 => St w_913
  ⟨b, 13, none⟩ (.bool false) fun w_914 => St w_914 ⟨b, 14, none⟩ (.bool false) fun w_915 => St w_915 ⟨b, 15, none⟩ (.bool false) fun w_916 => St w_916 ⟨b, 16, none⟩ (.bool false) fun w_917 => St
  w_917 ⟨b, 17, none⟩ (.bool false) fun w_918 => St w_918 ⟨b, 18, none⟩ (.bool false) fun w_919 => St w_919 ⟨b, 19, none⟩ (.bool false) fun w_920 => St w_920 ⟨b, 20, none⟩ (.int .i64 0) fun w_921 =>
  St w_921 ⟨b, 21, none⟩ (.bool false) fun w_922 => St w_922 ⟨b, 22, none⟩ (.bool false) fun w_923 => St w_923 ⟨b, 23, none⟩ (.bool false) fun w_924 => (∃ (r_0_29 : Int), w_924.cell? ⟨b, 0, none⟩ =
  some (.int .i64 r_0_29) ∧ (∃ (r_1_29 : Int), w_924.cell? ⟨b, 1, none⟩ = some (.int .i64 r_1_29) ∧ (∃ (r_2_29 : Int), w_924.cell? ⟨b, 2, none⟩ = some (.int .i64 r_2_29) ∧ (∃ (r_3_29 : Bool),
  w_924.cell? ⟨b, 3, none⟩ = some (.bool r_3_29) ∧ (∃ (r_4_29 : Int), w_924.cell? ⟨b, 4, none⟩ = some (.int .i64 r_4_29) ∧ (∃ (r_5_29 : Int), w_924.cell? ⟨b, 5, none⟩ = some (.int .i64 r_5_29) ∧ (∃
  (r_6_29 : Int), w_924.cell? ⟨b, 6, none⟩ = some (.int .i64 r_6_29) ∧ (∃ (r_7_29 : Int), w_924.cell? ⟨b, 7, none⟩ = some (.int .i64 r_7_29) ∧ (∃ (r_8_29 : Int), w_924.cell? ⟨b, 8, none⟩ = some (.int
  .u32 r_8_29) ∧ (∃ (r_9_29 : Bool), w_924.cell? ⟨b, 9, none⟩ = some (.bool r_9_29) ∧ (∃ (r_10_29 : Int), w_924.cell? ⟨b, 10, none⟩ = some (.int .i64 r_10_29) ∧ (∃ (r_11_29 : Int), w_924.cell? ⟨b, 11,
  none⟩ = some (.int .i64 r_11_29) ∧ (∃ (r_12_29 : Bool), w_924.cell? ⟨b, 12, none⟩ = some (.bool r_12_29) ∧ (∃ (r_13_29 : Bool), w_924.cell? ⟨b, 13, none⟩ = some (.bool r_13_29) ∧ (∃ (r_14_29 :
  Bool), w_924.cell? ⟨b, 14, none⟩ = some (.bool r_14_29) ∧ (∃ (r_15_29 : Bool), w_924.cell? ⟨b, 15, none⟩ = some (.bool r_15_29) ∧ (∃ (r_16_29 : Bool), w_924.cell? ⟨b, 16, none⟩ = some (.bool
  r_16_29) ∧ (∃ (r_17_29 : Bool), w_924.cell? ⟨b, 17, none⟩ = some (.bool r_17_29) ∧ (∃ (r_18_29 : Bool), w_924.cell? ⟨b, 18, none⟩ = some (.bool r_18_29) ∧ (∃ (r_19_29 : Bool), w_924.cell? ⟨b, 19,
  none⟩ = some (.bool r_19_29) ∧ (∃ (r_20_29 : Int), w_924.cell? ⟨b, 20, none⟩ = some (.int .i64 r_20_29) ∧ (∃ (r_21_29 : Bool), w_924.cell? ⟨b, 21, none⟩ = some (.bool r_21_29) ∧ (∃ (r_22_29 : Bool),
  w_924.cell? ⟨b, 22, none⟩ = some (.bool r_22_29) ∧ (∃ (r_23_29 : Bool), w_924.cell? ⟨b, 23, none⟩ = some (.bool r_23_29) ∧ R (.returned (.agg #[.int .i64 r_0_29, .int .i64 r_1_29, .int .i64 r_2_29,
  .bool r_3_29, .int .i64 r_4_29, .int .i64 r_5_29, .int .i64 r_6_29, .int .i64 r_7_29, .int .u32 r_8_29, .bool r_9_29, .int .i64 r_10_29, .int .i64 r_11_29, .bool r_12_29, .bool r_13_29, .bool
  r_14_29, .bool r_15_29, .bool r_16_29, .bool r_17_29, .bool r_18_29, .bool r_19_29, .int .i64 r_20_29, .bool r_21_29, .bool r_22_29, .bool r_23_29])) w_924)))))))))))))))))))))))))))) (Lt ((Int.fdiv
  (IntKind.wrap .u32 q0) 4096) == 14 : Bool) fun s101 => cond s101 ((Calls Try.prog 14 #[.int .u32 (IntKind.wrap .u32 q0), .int .i64 11] w_698 fun e w_925 => ∃ (x104 : Bool), e = .returned (.bool
  x104) ∧ cond x104 (St w_925 ⟨b, 0, none⟩ (.int .i64 0) fun w_926 => St w_926 ⟨b, 1, none⟩ (.int .i64 14) fun w_927 => St w_927 ⟨b, 2, none⟩ (.int .i64 0) fun w_928 => St w_928 ⟨b, 3, none⟩ (.bool
  false) fun w_929 => St w_929 ⟨b, 4, none⟩ (.int .i64 0) fun w_930 => St w_930 ⟨b, 5, none⟩ (.int .i64 0) fun w_931 => St w_931 ⟨b, 6, none⟩ (.int .i64 0) fun w_932 => St w_932 ⟨b, 7, none⟩ (.int
  .i64 0) fun w_933 => St w_933 ⟨b, 8, none⟩ (.int .u32 0) fun w_934 => St w_934 ⟨b, 9, none⟩ (.bool false) fun w_935 => St w_935 ⟨b, 10, none⟩ (.int .i64 0) fun w_936 => St w_936 ⟨b, 11, none⟩ (.int
  .i64 0) fun w_937 => St w_937 ⟨b, 12, none⟩ (.bool false) fun w_938 => St w_938 ⟨b, 13, none⟩ (.bool false) fun w_939 => St w_939 ⟨b, 14, none⟩ (.bool false) fun w_940 => St w_940 ⟨b, 15, none⟩
  (.bool false) fun w_941 => St w_941 ⟨b, 16, none⟩ (.bool false) fun w_942 => St w_942 ⟨b, 17, none⟩ (.bool false) fun w_943 => St w_943 ⟨b, 18, none⟩ (.bool false) fun w_944 => St w_944 ⟨b, 19,
  none⟩ (.bool false) fun w_945 => St w_945 ⟨b, 20, none⟩ (.int .i64 0) fun w_946 => St w_946 ⟨b, 21, none⟩ (.bool false) fun w_947 => St w_947 ⟨b, 22, none⟩ (.bool false) fun w_948 => St w_948 ⟨b,
  23, none⟩ (.bool false) fun w_949 => (∃ (r_0_30 : Int), w_949.cell? ⟨b, 0, none⟩ = some (.int .i64 r_0_30) ∧ (∃ (r_1_30 : Int), w_949.cell? ⟨b, 1, none⟩ = some (.int .i64 r_1_30) ∧ (∃ (r_2_30 :
  Int), w_949.cell? ⟨b, 2, none⟩ = some (.int .i64 r_2_30) ∧ (∃ (r_3_30 : Bool), w_949.cell? ⟨b, 3, none⟩ = some (.bool r_3_30) ∧ (∃ (r_4_30 : Int), w_949.cell? ⟨b, 4, none⟩ = some (.int .i64 r_4_30)
  ∧ (∃ (r_5_30 : Int), w_949.cell? ⟨b, 5, none⟩ = some (.int .i64 r_5_30) ∧ (∃ (r_6_30 : Int), w_949.cell? ⟨b, 6, none⟩ = some (.int .i64 r_6_30) ∧ (∃ (r_7_30 : Int), w_949.cell? ⟨b, 7, none⟩ = some
  (.int .i64 r_7_30) ∧ (∃ (r_8_30 : Int), w_949.cell? ⟨b, 8, none⟩ = some (.int .u32 r_8_30) ∧ (∃ (r_9_30 : Bool), w_949.cell? ⟨b, 9, none⟩ = some (.bool r_9_30) ∧ (∃ (r_10_30 : Int), w_949.cell? ⟨b,
  10, none⟩ = some (.int .i64 r_10_30) ∧ (∃ (r_11_30 : Int), w_949.cell? ⟨b, 11, none⟩ = some (.int .i64 r_11_30) ∧ (∃ (r_12_30 : Bool), w_949.cell? ⟨b, 12, none⟩ = some (.bool r_12_30) ∧ (∃ (r_13_30
  : Bool), w_949.cell? ⟨b, 13, none⟩ = some (.bool r_13_30) ∧ (∃ (r_14_30 : Bool), w_949.cell? ⟨b, 14, none⟩ = some (.bool r_14_30) ∧ (∃ (r_15_30 : Bool), w_949.cell? ⟨b, 15, none⟩ = some (.bool
  r_15_30) ∧ (∃ (r_16_30 : Bool), w_949.cell? ⟨b, 16, none⟩ = some (.bool r_16_30) ∧ (∃ (r_17_30 : Bool), w_949.cell? ⟨b, 17, none⟩ = some (.bool r_17_30) ∧ (∃ (r_18_30 : Bool), w_949.cell? ⟨b, 18,
  none⟩ = some (.bool r_18_30) ∧ (∃ (r_19_30 : Bool), w_949.cell? ⟨b, 19, none⟩ = some (.bool r_19_30) ∧ (∃ (r_20_30 : Int), w_949.cell? ⟨b, 20, none⟩ = some (.int .i64 r_20_30) ∧ (∃ (r_21_30 : Bool),
  w_949.cell? ⟨b, 21, none⟩ = some (.bool r_21_30) ∧ (∃ (r_22_30 : Bool), w_949.cell? ⟨b, 22, none⟩ = some (.bool r_22_30) ∧ (∃ (r_23_30 : Bool), w_949.cell? ⟨b, 23, none⟩ = some (.bool r_23_30) ∧ R
  (.returned (.agg #[.int .i64 r_0_30, .int .i64 r_1_30, .int .i64 r_2_30, .bool r_3_30, .int .i64 r_4_30, .int .i64 r_5_30, .int .i64 r_6_30, .int .i64 r_7_30, .int .u32 r_8_30, .bool r_9_30, .int
  .i64 r_10_30, .int .i64 r_11_30, .bool r_12_30, .bool r_13_30, .bool r_14_30, .bool r_15_30, .bool r_16_30, .bool r_17_30, .bool r_18_30, .bool r_19_30, .int .i64 r_20_30, .bool r_21_30, .bool
  r_22_30, .bool r_23_30])) w_949))))))))))))))))))))))))) (St w_925 ⟨b, 0, none⟩ (.int .i64 9) fun w_950 => St w_950 ⟨b, 1, none⟩ (.int .i64 14) fun w_951 => St w_951 ⟨b, 2, none⟩ (.int .i64 0) fun
  w_952 => St w_952 ⟨b, 3, none⟩ (.bool false) fun w_953 => St w_953 ⟨b, 4, none⟩ (.int .i64 0) fun w_954 => St w_954 ⟨b, 5, none⟩ (.int .i64 0) fun w_955 => St w_955 ⟨b, 6, none⟩ (.int .i64 0) fun
  w_956 => St w_956 ⟨b, 7, none⟩ (.int .i64 0) fun w_957 => St w_957 ⟨b, 8, none⟩ (.int .u32 (IntKind.wrap .u32 (Int.fdiv (IntKind.wrap .i32 (IntKind.wrap .u32 ((IntKind.wrap .u32 q0) * 2097152)))
  1048576))) fun w_958 => St w_958 ⟨b, 9, none⟩ (.bool false) fun w_959 => St w_959 ⟨b, 10, none⟩ (.int .i64 0) fun w_960 => St w_960 ⟨b, 11, none⟩ (.int .i64 0) fun w_961 => St w_961 ⟨b, 12, none⟩
  (.bool false) fun w_962 => St w_962 ⟨b, 13, none⟩ (.bool false) fun w_963 => St w_963 ⟨b, 14, none⟩ (.bool false) fun w_964 => St w_964 ⟨b, 15, none⟩ (.bool false) fun w_965 => St w_965 ⟨b, 16,
  none⟩ (.bool false) fun w_966 => St w_966 ⟨b, 17, none⟩ (.bool false) fun w_967 => St w_967 ⟨b, 18, none⟩ (.bool false) fun w_968 => St w_968 ⟨b, 19, none⟩ (.bool false) fun w_969 => St w_969 ⟨b,
  20, none⟩ (.int .i64 0) fun w_970 => St w_970 ⟨b, 21, none⟩ (.bool false) fun w_971 => St w_971 ⟨b, 22, none⟩ (.bool false) fun w_972 => St w_972 ⟨b, 23, none⟩ (.bool false) fun w_973 => (∃ (r_0_31
  : Int), w_973.cell? ⟨b, 0, none⟩ = some (.int .i64 r_0_31) ∧ (∃ (r_1_31 : Int), w_973.cell? ⟨b, 1, none⟩ = some (.int .i64 r_1_31) ∧ (∃ (r_2_31 : Int), w_973.cell? ⟨b, 2, none⟩ = some (.int .i64
  r_2_31) ∧ (∃ (r_3_31 : Bool), w_973.cell? ⟨b, 3, none⟩ = some (.bool r_3_31) ∧ (∃ (r_4_31 : Int), w_973.cell? ⟨b, 4, none⟩ = some (.int .i64 r_4_31) ∧ (∃ (r_5_31 : Int), w_973.cell? ⟨b, 5, none⟩ =
  some (.int .i64 r_5_31) ∧ (∃ (r_6_31 : Int), w_973.cell? ⟨b, 6, none⟩ = some (.int .i64 r_6_31) ∧ (∃ (r_7_31 : Int), w_973.cell? ⟨b, 7, none⟩ = some (.int .i64 r_7_31) ∧ (∃ (r_8_31 : Int),
  w_973.cell? ⟨b, 8, none⟩ = some (.int .u32 r_8_31) ∧ (∃ (r_9_31 : Bool), w_973.cell? ⟨b, 9, none⟩ = some (.bool r_9_31) ∧ (∃ (r_10_31 : Int), w_973.cell? ⟨b, 10, none⟩ = some (.int .i64 r_10_31) ∧
  (∃ (r_11_31 : Int), w_973.cell? ⟨b, 11, none⟩ = some (.int .i64 r_11_31) ∧ (∃ (r_12_31 : Bool), w_973.cell? ⟨b, 12, none⟩ = some (.bool r_12_31) ∧ (∃ (r_13_31 : Bool), w_973.cell? ⟨b, 13, none⟩ =
  some (.bool r_13_31) ∧ (∃ (r_14_31 : Bool), w_973.cell? ⟨b, 14, none⟩ = some (.bool r_14_31) ∧ (∃ (r_15_31 : Bool), w_973.cell? ⟨b, 15, none⟩ = some (.bool r_15_31) ∧ (∃ (r_16_31 : Bool),
  w_973.cell? ⟨b, 16, none⟩ = some (.bool r_16_31) ∧ (∃ (r_17_31 : Bool), w_973.cell? ⟨b, 17, none⟩ = some (.bool r_17_31) ∧ (∃ (r_18_31 : Bool), w_973.cell? ⟨b, 18, none⟩ = some (.bool r_18_31) ∧ (∃
  (r_19_31 : Bool), w_973.cell? ⟨b, 19, none⟩ = some (.bool r_19_31) ∧ (∃ (r_20_31 : Int), w_973.cell? ⟨b, 20, none⟩ = some (.int .i64 r_20_31) ∧ (∃ (r_21_31 : Bool), w_973.cell? ⟨b, 21, none⟩ = some
  (.bool r_21_31) ∧ (∃ (r_22_31 : Bool), w_973.cell? ⟨b, 22, none⟩ = some (.bool r_22_31) ∧ (∃ (r_23_31 : Bool), w_973.cell? ⟨b, 23, none⟩ = some (.bool r_23_31) ∧ R (.returned (.agg #[.int .i64
  r_0_31, .int .i64 r_1_31, .int .i64 r_2_31, .bool r_3_31, .int .i64 r_4_31, .int .i64 r_5_31, .int .i64 r_6_31, .int .i64 r_7_31, .int .u32 r_8_31, .bool r_9_31, .int .i64 r_10_31, .int .i64
  r_11_31, .bool r_12_31, .bool r_13_31, .bool r_14_31, .bool r_15_31, .bool r_16_31, .bool r_17_31, .bool r_18_31, .bool r_19_31, .int .i64 r_20_31, .bool r_21_31, .bool r_22_31, .bool r_23_31]))
  w_973))))))))))))))))))))))))))) ((Calls Try.prog 14 #[.int .u32 (IntKind.wrap .u32 q0), .int .i64 11] w_698 fun e w_974 => ∃ (x113 : Bool), e = .returned (.bool x113) ∧ cond (!x113) (St w_974 ⟨b,
  0, none⟩ (.int .i64 13) fun w_975 => St w_975 ⟨b, 1, none⟩ (.int .i64 14) fun w_976 => St w_976 ⟨b, 2, none⟩ (.int .i64 0) fun w_977 => St w_977 ⟨b, 3, none⟩ (.bool false) fun w_978 => St w_978 ⟨b,
  4, none⟩ (.int .i64 0) fun w_979 => St w_979 ⟨b, 5, none⟩ (.int .i64 0) fun w_980 => St w_980 ⟨b, 6, none⟩ (.int .i64 0) fun w_981 => St w_981 ⟨b, 7, none⟩ (.int .i64 0) fun w_982 => St w_982 ⟨b, 8,
  none⟩ (.int .u32 (IntKind.wrap .u32 (Int.fdiv (IntKind.wrap .i32 (IntKind.wrap .u32 ((IntKind.wrap .u32 q0) * 2097152))) 512))) fun w_983 => St w_983 ⟨b, 9, none⟩ (.bool false) fun w_984 => St w_984
  ⟨b, 10, none⟩ (.int .i64 0) fun w_985 => St w_985 ⟨b, 11, none⟩ (.int .i64 0) fun w_986 => St w_986 ⟨b, 12, none⟩ (.bool false) fun w_987 => St w_987 ⟨b, 13, none⟩ (.bool false) fun w_988 => St
  w_988 ⟨b, 14, none⟩ (.bool false) fun w_989 => St w_989 ⟨b, 15, none⟩ (.bool false) fun w_990 => St w_990 ⟨b, 16, none⟩ (.bool false) fun w_991 => St w_991 ⟨b, 17, none⟩ (.bool false) fun w_992 =>
  St w_992 ⟨b, 18, none⟩ (.bool false) fun w_993 => St w_993 ⟨b, 19, none⟩ (.bool false) fun w_994 => St w_994 ⟨b, 20, none⟩ (.int .i64 0) fun w_995 => St w_995 ⟨b, 21, none⟩ (.bool false) fun w_996
  => St w_996 ⟨b, 22, none⟩ (.bool false) fun w_997 => St w_997 ⟨b, 23, none⟩ (.bool false) fun w_998 => (∃ (r_0_32 : Int), w_998.cell? ⟨b, 0, none⟩ = some (.int .i64 r_0_32) ∧ (∃ (r_1_32 : Int),
  w_998.cell? ⟨b, 1, none⟩ = some (.int .i64 r_1_32) ∧ (∃ (r_2_32 : Int), w_998.cell? ⟨b, 2, none⟩ = some (.int .i64 r_2_32) ∧ (∃ (r_3_32 : Bool), w_998.cell? ⟨b, 3, none⟩ = some (.bool r_3_32) ∧ (∃
  (r_4_32 : Int), w_998.cell? ⟨b, 4, none⟩ = some (.int .i64 r_4_32) ∧ (∃ (r_5_32 : Int), w_998.cell? ⟨b, 5, none⟩ = some (.int .i64 r_5_32) ∧ (∃ (r_6_32 : Int), w_998.cell? ⟨b, 6, none⟩ = some (.int
  .i64 r_6_32) ∧ (∃ (r_7_32 : Int), w_998.cell? ⟨b, 7, none⟩ = some (.int .i64 r_7_32) ∧ (∃ (r_8_32 : Int), w_998.cell? ⟨b, 8, none⟩ = some (.int .u32 r_8_32) ∧ (∃ (r_9_32 : Bool), w_998.cell? ⟨b, 9,
  none⟩ = some (.bool r_9_32) ∧ (∃ (r_10_32 : Int), w_998.cell? ⟨b, 10, none⟩ = some (.int .i64 r_10_32) ∧ (∃ (r_11_32 : Int), w_998.cell? ⟨b, 11, none⟩ = some (.int .i64 r_11_32) ∧ (∃ (r_12_32 :
  Bool), w_998.cell? ⟨b, 12, none⟩ = some (.bool r_12_32) ∧ (∃ (r_13_32 : Bool), w_998.cell? ⟨b, 13, none⟩ = some (.bool r_13_32) ∧ (∃ (r_14_32 : Bool), w_998.cell? ⟨b, 14, none⟩ = some (.bool
  r_14_32) ∧ (∃ (r_15_32 : Bool), w_998.cell? ⟨b, 15, none⟩ = some (.bool r_15_32) ∧ (∃ (r_16_32 : Bool), w_998.cell? ⟨b, 16, none⟩ = some (.bool r_16_32) ∧ (∃ (r_17_32 : Bool), w_998.cell? ⟨b, 17,
  none⟩ = some (.bool r_17_32) ∧ (∃ (r_18_32 : Bool), w_998.cell? ⟨b, 18, none⟩ = some (.bool r_18_32) ∧ (∃ (r_19_32 : Bool), w_998.cell? ⟨b, 19, none⟩ = some (.bool r_19_32) ∧ (∃ (r_20_32 : Int),
  w_998.cell? ⟨b, 20, none⟩ = some (.int .i64 r_20_32) ∧ (∃ (r_21_32 : Bool), w_998.cell? ⟨b, 21, none⟩ = some (.bool r_21_32) ∧ (∃ (r_22_32 : Bool), w_998.cell? ⟨b, 22, none⟩ = some (.bool r_22_32) ∧
  (∃ (r_23_32 : Bool), w_998.cell? ⟨b, 23, none⟩ = some (.bool r_23_32) ∧ R (.returned (.agg #[.int .i64 r_0_32, .int .i64 r_1_32, .int .i64 r_2_32, .bool r_3_32, .int .i64 r_4_32, .int .i64 r_5_32,
  .int .i64 r_6_32, .int .i64 r_7_32, .int .u32 r_8_32, .bool r_9_32, .int .i64 r_10_32, .int .i64 r_11_32, .bool r_12_32, .bool r_13_32, .bool r_14_32, .bool r_15_32, .bool r_16_32, .bool r_17_32,
  .bool r_18_32, .bool r_19_32, .int .i64 r_20_32, .bool r_21_32, .bool r_22_32, .bool r_23_32])) w_998))))))))))))))))))))))))) (St w_974 ⟨b, 0, none⟩ (.int .i64 13) fun w_999 => St w_999 ⟨b, 1,
  none⟩ (.int .i64 14) fun w_1000 => St w_1000 ⟨b, 2, none⟩ (.int .i64 1) fun w_1001 => St w_1001 ⟨b, 3, none⟩ (.bool false) fun w_1002 => St w_1002 ⟨b, 4, none⟩ (.int .i64 0) fun w_1003 => St w_1003
  ⟨b, 5, none⟩ (.int .i64 0) fun w_1004 => St w_1004 ⟨b, 6, none⟩ (.int .i64 0) fun w_1005 => St w_1005 ⟨b, 7, none⟩ (.int .i64 0) fun w_1006 => St w_1006 ⟨b, 8, none⟩ (.int .u32 (IntKind.wrap .u32
  ((bits .and .u32 (IntKind.wrap .u32 q0) 2047) * 2))) fun w_1007 => St w_1007 ⟨b, 9, none⟩ (.bool false) fun w_1008 => St w_1008 ⟨b, 10, none⟩ (.int .i64 0) fun w_1009 => St w_1009 ⟨b, 11, none⟩
  (.int .i64 0) fun w_1010 => St w_1010 ⟨b, 12, none⟩ (.bool false) fun w_1011 => St w_1011 ⟨b, 13, none⟩ (.bool false) fun w_1012 => St w_1012 ⟨b, 14, none⟩ (.bool false) fun w_1013 => St w_1013 ⟨b,
  15, none⟩ (.bool false) fun w_1014 => St w_1014 ⟨b, 16, none⟩ (.bool false) fun w_1015 => St w_1015 ⟨b, 17, none⟩ (.bool false) fun w_1016 => St w_1016 ⟨b, 18, none⟩ (.bool false) fun w_1017 => St
  w_1017 ⟨b, 19, none⟩ (.bool false) fun w_1018 => St w_1018 ⟨b, 20, none⟩ (.int .i64 0) fun w_1019 => St w_1019 ⟨b, 21, none⟩ (.bool false) fun w_1020 => St w_1020 ⟨b, 22, none⟩ (.bool false) fun
  w_1021 => St w_1021 ⟨b, 23, none⟩ (.bool false) fun w_1022 => (∃ (r_0_33 : Int), w_1022.cell? ⟨b, 0, none⟩ = some (.int .i64 r_0_33) ∧ (∃ (r_1_33 : Int), w_1022.cell? ⟨b, 1, none⟩ = some (.int .i64
  r_1_33) ∧ (∃ (r_2_33 : Int), w_1022.cell? ⟨b, 2, none⟩ = some (.int .i64 r_2_33) ∧ (∃ (r_3_33 : Bool), w_1022.cell? ⟨b, 3, none⟩ = some (.bool r_3_33) ∧ (∃ (r_4_33 : Int), w_1022.cell? ⟨b, 4, none⟩
  = some (.int .i64 r_4_33) ∧ (∃ (r_5_33 : Int), w_1022.cell? ⟨b, 5, none⟩ = some (.int .i64 r_5_33) ∧ (∃ (r_6_33 : Int), w_1022.cell? ⟨b, 6, none⟩ = some (.int .i64 r_6_33) ∧ (∃ (r_7_33 : Int),
  w_1022.cell? ⟨b, 7, none⟩ = some (.int .i64 r_7_33) ∧ (∃ (r_8_33 : Int), w_1022.cell? ⟨b, 8, none⟩ = some (.int .u32 r_8_33) ∧ (∃ (r_9_33 : Bool), w_1022.cell? ⟨b, 9, none⟩ = some (.bool r_9_33) ∧
  (∃ (r_10_33 : Int), w_1022.cell? ⟨b, 10, none⟩ = some (.int .i64 r_10_33) ∧ (∃ (r_11_33 : Int), w_1022.cell? ⟨b, 11, none⟩ = some (.int .i64 r_11_33) ∧ (∃ (r_12_33 : Bool), w_1022.cell? ⟨b, 12,
  none⟩ = some (.bool r_12_33) ∧ (∃ (r_13_33 : Bool), w_1022.cell? ⟨b, 13, none⟩ = some (.bool r_13_33) ∧ (∃ (r_14_33 : Bool), w_1022.cell? ⟨b, 14, none⟩ = some (.bool r_14_33) ∧ (∃ (r_15_33 : Bool),
  w_1022.cell? ⟨b, 15, none⟩ = some (.bool r_15_33) ∧ (∃ (r_16_33 : Bool), w_1022.cell? ⟨b, 16, none⟩ = some (.bool r_16_33) ∧ (∃ (r_17_33 : Bool), w_1022.cell? ⟨b, 17, none⟩ = some (.bool r_17_33) ∧
  (∃ (r_18_33 : Bool), w_1022.cell? ⟨b, 18, none⟩ = some (.bool r_18_33) ∧ (∃ (r_19_33 : Bool), w_1022.cell? ⟨b, 19, none⟩ = some (.bool r_19_33) ∧ (∃ (r_20_33 : Int), w_1022.cell? ⟨b, 20, none⟩ =
  some (.int .i64 r_20_33) ∧ (∃ (r_21_33 : Bool), w_1022.cell? ⟨b, 21, none⟩ = some (.bool r_21_33) ∧ (∃ (r_22_33 : Bool), w_1022.cell? ⟨b, 22, none⟩ = some (.bool r_22_33) ∧ (∃ (r_23_33 : Bool),
  w_1022.cell? ⟨b, 23, none⟩ = some (.bool r_23_33) ∧ R (.returned (.agg #[.int .i64 r_0_33, .int .i64 r_1_33, .int .i64 r_2_33, .bool r_3_33, .int .i64 r_4_33, .int .i64 r_5_33, .int .i64 r_6_33,
  .int .i64 r_7_33, .int .u32 r_8_33, .bool r_9_33, .int .i64 r_10_33, .int .i64 r_11_33, .bool r_12_33, .bool r_13_33, .bool r_14_33, .bool r_15_33, .bool r_16_33, .bool r_17_33, .bool r_18_33, .bool
  r_19_33, .int .i64 r_20_33, .bool r_21_33, .bool r_22_33, .bool r_23_33])) w_1022))))))))))))))))))))))))))))))))))))))
set_option maxRecDepth 100000 in
theorem v_Decode (q0 : Int) (R : Ending → World → Prop) (w : World) :
  vc Try.prog ann_Decode (Try.f7.body.getD .skip) (retQ Try.prog Try.f7.results.toList R) (initFr [.int .u16 q0] Try.f7.ntmps) w = p_Decode q0 R w := by kernel_rfl
theorem c_Decode (q0 : Int) (R : Ending → World → Prop) (w : World) (h : p_Decode q0 R w) : Calls Try.prog 7 #[.int .u16 q0] w R :=
  calls_by (P := Try.prog) (f := 7) (fn := Try.f7) (c := Try.f7.body.getD .skip) (args := [.int .u16 q0]) (w := w) (R := R) (p := p_Decode q0 R w) ann_Decode Try.func7 rfl (v_Decode q0 R w) h
end Go.Proofs.Ytigpcfocaipicaa
