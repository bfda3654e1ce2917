import Derived.Test.YtieamlpjdilcoaaChecked
import Derived.Test.YtieamlpjdilcoaaVc
import Derived.Test.YtieamlpjdilcoaaLib
namespace Go.Proofs.Ytieamlpjdilcoaa
open Go.Vc
set_option linter.unusedVariables false

/-! cameo/psg.New -/
abbrev n_New : FuncId := 7
def ann_New : Ann := ⟨[], [], []⟩
set_option maxRecDepth 100000 in
def p_New (R : Ending → World → Prop) (w : World) : Prop :=
  Nw w (.cells #[.bool false, .int .i64 0, .int .i64 0, .bool false, .int .i64 0, .int .i64 0, .bool false, .int .i64 0, .int .i64 0, .int .i64 0, .int .i64 0, .int .i64 0, .int .i64 0, .int .i64 0,
  .bool false, .int .i64 0, .bool false, .int .i64 0, .int .i64 0, .bool false, .int .i64 0, .int .i64 0, .bool false, .int .i64 0, .int .i64 0, .int .i64 0, .int .i64 0, .int .i64 0, .int .i64 0,
  .int .i64 0, .bool false, .int .i64 0, .bool false, .int .i64 0, .int .i64 0, .bool false, .int .i64 0, .int .i64 0, .bool false, .int .i64 0, .int .i64 0, .int .i64 0, .int .i64 0, .int .i64 0,
  .int .i64 0, .int .i64 0, .bool false, .int .i64 0, .int .u8 0, .int .u8 0, .int .u8 0, .int .u8 0, .int .u8 0, .int .u8 0, .int .u8 0, .int .u8 0, .int .u8 0, .int .u8 0, .int .u8 0, .int .u8 0,
  .int .u8 0, .int .u8 0, .int .u8 0, .int .u8 0, .int .u8 0, .int .u8 0, .int .u8 0, .int .u8 0, .int .u8 0, .int .u8 0, .int .u8 0, .int .u8 0, .int .u8 0, .int .u8 0, .int .u8 0, .int .u8 0, .int
  .u8 0, .int .u8 0, .int .u8 0, .int .u8 0, .bool false, .int .i64 0, .int .i64 0, .bool false, .bool false, .int .i64 0, .int .i64 0, .bool false, .int .i64 0, .int .i64 0, .bool false, .int .i64 0,
  .int .i64 0, .int .i64 0, .int .i64 0, .int .i64 0, .int .i64 0, .int .i64 0, .bool false, .int .i64 0, .int .i64 0, .bool false, .int .i64 0, .int .i64 0, .int .i64 0, .int .i64 0] 44) fun b w => R
  (.returned (.pointer (some ⟨b, 0, none⟩))) w
set_option maxRecDepth 100000 in
theorem v_New (R : Ending → World → Prop) (w : World) :
  vc Try.prog ann_New (Try.f7.body.getD .skip) (retQ Try.prog Try.f7.results.toList R) (initFr [] Try.f7.ntmps) w = p_New R w := by kernel_rfl
theorem c_New (R : Ending → World → Prop) (w : World) (h : p_New R w) : Calls Try.prog 7 #[] w R :=
  calls_by (P := Try.prog) (f := 7) (fn := Try.f7) (c := Try.f7.body.getD .skip) (args := []) (w := w) (R := R) (p := p_New R w) ann_New Try.func7 rfl (v_New R w) h

/-! (*cameo/psg.Unit).cycles -/
abbrev n_cycles : FuncId := 17
def ann_cycles : Ann := ⟨[], [], []⟩
set_option maxRecDepth 100000 in
def p_cycles (q0 : Nat) (q1 : Int) (R : Ending → World → Prop) (w : World) : Prop :=
  cond (q1 == 0) (cond (q1 == 0) (chk (decide (0 ≤ q1) && decide (q1 < ((2 : Nat) : Int))) ((∃ (x16 : Int), w.cell? (((⟨q0, 0, none⟩ : Addr).add (q1.toNat * 16)).add 9) = some (.int .i64 x16) ∧ Lt
  ((IntKind.wrap .i64 (16 * (IntKind.wrap .i64 (2048 - x16)))) : Int) fun s4 => R (.returned (.int .i64 s4)) w))) (cond (q1 == 2) ((∃ (x25 : Int), w.cell? ⟨q0, 41, none⟩ = some (.int .i64 x25) ∧ Lt
  ((IntKind.wrap .i64 (8 * (IntKind.wrap .i64 (2048 - x25)))) : Int) fun s4_1 => R (.returned (.int .i64 s4_1)) w)) ((∃ (x31 : Int), w.cell? ⟨q0, 103, none⟩ = some (.int .i64 x31) ∧ (∃ (x36 : Int),
  w.cell? ⟨q0, 103, none⟩ = some (.int .i64 x36) ∧ cond (x36 == 0) ((∃ (x43 : Int), w.cell? ⟨q0, 102, none⟩ = some (.int .i64 x43) ∧ chk (decide (0 ≤ x43)) (Lt ((IntKind.wrap .i64 ((IntKind.wrap .i64
  ((4 : Int) * 8)) * 2 ^ (min x43.toNat 64))) : Int) fun s4_2 => R (.returned (.int .i64 s4_2)) w))) ((∃ (x43_1 : Int), w.cell? ⟨q0, 102, none⟩ = some (.int .i64 x43_1) ∧ chk (decide (0 ≤ x43_1)) (Lt
  ((IntKind.wrap .i64 ((IntKind.wrap .i64 (4 * (IntKind.wrap .i64 (16 * x31)))) * 2 ^ (min x43_1.toNat 64))) : Int) fun s4_3 => R (.returned (.int .i64 s4_3)) w)))))))) (cond (q1 == 1) (chk (decide (0
  ≤ q1) && decide (q1 < ((2 : Nat) : Int))) ((∃ (x16_1 : Int), w.cell? (((⟨q0, 0, none⟩ : Addr).add (q1.toNat * 16)).add 9) = some (.int .i64 x16_1) ∧ Lt ((IntKind.wrap .i64 (16 * (IntKind.wrap .i64
  (2048 - x16_1)))) : Int) fun s4_4 => R (.returned (.int .i64 s4_4)) w))) (cond (q1 == 2) ((∃ (x25_1 : Int), w.cell? ⟨q0, 41, none⟩ = some (.int .i64 x25_1) ∧ Lt ((IntKind.wrap .i64 (8 *
  (IntKind.wrap .i64 (2048 - x25_1)))) : Int) fun s4_5 => R (.returned (.int .i64 s4_5)) w)) ((∃ (x31_1 : Int), w.cell? ⟨q0, 103, none⟩ = some (.int .i64 x31_1) ∧ (∃ (x36_1 : Int), w.cell? ⟨q0, 103,
  none⟩ = some (.int .i64 x36_1) ∧ cond (x36_1 == 0) ((∃ (x43_2 : Int), w.cell? ⟨q0, 102, none⟩ = some (.int .i64 x43_2) ∧ chk (decide (0 ≤ x43_2)) (Lt ((IntKind.wrap .i64 ((IntKind.wrap .i64 ((4 :
  Int) * 8)) * 2 ^ (min x43_2.toNat 64))) : Int) fun s4_6 => R (.returned (.int .i64 s4_6)) w))) ((∃ (x43_3 : Int), w.cell? ⟨q0, 102, none⟩ = some (.int .i64 x43_3) ∧ chk (decide (0 ≤ x43_3)) (Lt
  ((IntKind.wrap .i64 ((IntKind.wrap .i64 (4 * (IntKind.wrap .i64 (16 * x31_1)))) * 2 ^ (min x43_3.toNat 64))) : Int) fun s4_7 => R (.returned (.int .i64 s4_7)) w))))))))
set_option maxRecDepth 100000 in
theorem v_cycles (q0 : Nat) (q1 : Int) (R : Ending → World → Prop) (w : World) :
  vc Try.prog ann_cycles (Try.f17.body.getD .skip) (retQ Try.prog Try.f17.results.toList R) (initFr [.pointer (some ⟨q0, 0, none⟩), .int .i64 q1] Try.f17.ntmps) w = p_cycles q0 q1 R w := by kernel_rfl
theorem c_cycles (q0 : Nat) (q1 : Int) (R : Ending → World → Prop) (w : World) (h : p_cycles q0 q1 R w) : Calls Try.prog 17 #[.pointer (some ⟨q0, 0, none⟩), .int .i64 q1] w R :=
  calls_by (P := Try.prog) (f := 17) (fn := Try.f17) (c := Try.f17.body.getD .skip) (args := [.pointer (some ⟨q0, 0, none⟩), .int .i64 q1]) (w := w) (R := R) (p := p_cycles q0 q1 R w) ann_cycles Try.func17 rfl (v_cycles q0 q1 R w) h

/-! (*cameo/psg.Unit).Write -/
abbrev n_Write : FuncId := 8
def ann_Write : Ann := ⟨[(9, .held [0, 5, 10, 14, 17])], [], [(10, [(9, .one (.ptr))]), (16, [(113, .one (.bool))]), (9, [(45, .one (.bool))])]⟩
set_option maxRecDepth 100000 in
def p_Write (q0 : Nat) (q1 : Int) (q2 : Int) (q3 : Int) (R : Ending → World → Prop) (w : World) : Prop :=
  (Calls Try.prog 9 #[.pointer (some ⟨q0, 0, none⟩), .int .i64 q1] w fun e w => e = .returned (.tuple #[]) ∧ cond (q2 == 0) (chk (decide (0 ≤ (0 : Int)) && decide ((0 : Int) < ((2 : Nat) : Int))) (St
  w ⟨q0, 12, none⟩ (.int .i64 (IntKind.wrap .i64 (bits .and .u16 q3 7))) fun w_1 => St w_1 ⟨q0, 14, none⟩ (.bool ((bits .and .u16 (Int.fdiv q3 8) 1) == 1)) fun w_2 => St w_2 ⟨q0, 13, none⟩ (.int .i64
  (IntKind.wrap .i64 (bits .and .u16 (Int.fdiv q3 16) 7))) fun w_3 => R (.returned (.tuple #[])) w_3)) ((∃ J : List Value → World → Prop, (cond (q2 == 1) (J [.bool (q2 == 1)] w) (cond (q2 == 3) (J
  [.bool (q2 == 3)] w) (J [.bool (q2 == 7)] w))) ∧ ∀ (s45 : Bool) (w_4 : World), J [.bool s45] w_4 → cond s45 ((∃ J_1 : List Value → World → Prop, ((∃ S : World → Prop, S (w_4.drewN 1) ∧ chk (decide
  (0 ≤ (0 : Int)) && decide ((0 : Int) < ((2 : Nat) : Int))) (chk (decide (0 ≤ (1 : Int)) && decide ((1 : Int) < ((2 : Nat) : Int))) ((∃ (x49 : Option Nat), ∃ w_5, (Instr.makeMap 47 none).run Try.prog
  (w_4.drewN 1) = .ok (.map x49) w_5 ∧ (S w_5 ∧ (((∃ (x0 : Value), ∃ w_6, (updS 47 (.map x49) (.int .i64 1) (.pointer (some ⟨q0, 0, none⟩))).run Try.prog w_5 = .ok (x0) w_6 ∧ (S w_6 ∧ (((∃ (x0_1 :
  Value), ∃ w_7, (updS 47 (.map x49) (.int .i64 3) (.pointer (some ⟨q0, 16, none⟩))).run Try.prog w_6 = .ok (x0_1) w_7 ∧ (S w_7 ∧ (∃ (x0_2 : Value), ∃ w_8, (updS 47 (.map x49) (.int .i64 7) (.pointer
  (some ⟨q0, 84, none⟩))).run Try.prog w_7 = .ok (x0_2) w_8 ∧ (S w_8 ∧ (∃ (x63 : Option Addr), ∃ w_9, (Instr.lookup 47 (.map x49) (.int .i64 q2) false).run Try.prog w_8 = .ok (.pointer x63) w_9 ∧ (S
  w_9 ∧ J_1 [.pointer x63] w_9))))))) ∧ ((∃ (x0_3 : Value), ∃ w_10, (updS 47 (.map x49) (.int .i64 7) (.pointer (some ⟨q0, 84, none⟩))).run Try.prog w_6 = .ok (x0_3) w_10 ∧ (S w_10 ∧ (∃ (x0_4 :
  Value), ∃ w_11, (updS 47 (.map x49) (.int .i64 3) (.pointer (some ⟨q0, 16, none⟩))).run Try.prog w_10 = .ok (x0_4) w_11 ∧ (S w_11 ∧ (∃ (x63_1 : Option Addr), ∃ w_12, (Instr.lookup 47 (.map x49)
  (.int .i64 q2) false).run Try.prog w_11 = .ok (.pointer x63_1) w_12 ∧ (S w_12 ∧ J_1 [.pointer x63_1] w_12))))))))))) ∧ ((∃ (x0_5 : Value), ∃ w_13, (updS 47 (.map x49) (.int .i64 3) (.pointer (some
  ⟨q0, 16, none⟩))).run Try.prog w_5 = .ok (x0_5) w_13 ∧ (S w_13 ∧ (((∃ (x0_6 : Value), ∃ w_14, (updS 47 (.map x49) (.int .i64 1) (.pointer (some ⟨q0, 0, none⟩))).run Try.prog w_13 = .ok (x0_6) w_14 ∧
  (S w_14 ∧ (∃ (x0_7 : Value), ∃ w_15, (updS 47 (.map x49) (.int .i64 7) (.pointer (some ⟨q0, 84, none⟩))).run Try.prog w_14 = .ok (x0_7) w_15 ∧ (S w_15 ∧ (∃ (x63_2 : Option Addr), ∃ w_16,
  (Instr.lookup 47 (.map x49) (.int .i64 q2) false).run Try.prog w_15 = .ok (.pointer x63_2) w_16 ∧ (S w_16 ∧ J_1 [.pointer x63_2] w_16))))))) ∧ ((∃ (x0_8 : Value), ∃ w_17, (updS 47 (.map x49) (.int
  .i64 7) (.pointer (some ⟨q0, 84, none⟩))).run Try.prog w_13 = .ok (x0_8) w_17 ∧ (S w_17 ∧ (∃ (x0_9 : Value), ∃ w_18, (updS 47 (.map x49) (.int .i64 1) (.pointer (some ⟨q0, 0, none⟩))).run Try.prog
  w_17 = .ok (x0_9) w_18 ∧ (S w_18 ∧ (∃ (x63_3 : Option Addr), ∃ w_19, (Instr.lookup 47 (.map x49) (.int .i64 q2) false).run Try.prog w_18 = .ok (.pointer x63_3) w_19 ∧ (S w_19 ∧ J_1 [.pointer x63_3]
  w_19))))))))))) ∧ ((∃ (x0_10 : Value), ∃ w_20, (updS 47 (.map x49) (.int .i64 7) (.pointer (some ⟨q0, 84, none⟩))).run Try.prog w_5 = .ok (x0_10) w_20 ∧ (S w_20 ∧ (((∃ (x0_11 : Value), ∃ w_21, (updS
  47 (.map x49) (.int .i64 1) (.pointer (some ⟨q0, 0, none⟩))).run Try.prog w_20 = .ok (x0_11) w_21 ∧ (S w_21 ∧ (∃ (x0_12 : Value), ∃ w_22, (updS 47 (.map x49) (.int .i64 3) (.pointer (some ⟨q0, 16,
  none⟩))).run Try.prog w_21 = .ok (x0_12) w_22 ∧ (S w_22 ∧ (∃ (x63_4 : Option Addr), ∃ w_23, (Instr.lookup 47 (.map x49) (.int .i64 q2) false).run Try.prog w_22 = .ok (.pointer x63_4) w_23 ∧ (S w_23
  ∧ J_1 [.pointer x63_4] w_23))))))) ∧ ((∃ (x0_13 : Value), ∃ w_24, (updS 47 (.map x49) (.int .i64 3) (.pointer (some ⟨q0, 16, none⟩))).run Try.prog w_20 = .ok (x0_13) w_24 ∧ (S w_24 ∧ (∃ (x0_14 :
  Value), ∃ w_25, (updS 47 (.map x49) (.int .i64 1) (.pointer (some ⟨q0, 0, none⟩))).run Try.prog w_24 = .ok (x0_14) w_25 ∧ (S w_25 ∧ (∃ (x63_5 : Option Addr), ∃ w_26, (Instr.lookup 47 (.map x49)
  (.int .i64 q2) false).run Try.prog w_25 = .ok (.pointer x63_5) w_26 ∧ (S w_26 ∧ J_1 [.pointer x63_5] w_26)))))))))))))))))) ∧ ∀ (s9 : Option Addr) (w_27 : World), J_1 [.pointer s9] w_27 → NN s9 fun
  a74 => St w_27 (a74.add 2) (.int .i64 (IntKind.wrap .i64 (64 - (IntKind.wrap .i64 (bits .and .u16 q3 63))))) fun w_28 => NN s9 fun a76 => St w_28 (a76.add 1) (.int .i64 (IntKind.wrap .i64 (bits .and
  .u16 (Int.fdiv q3 64) 3))) fun w_29 => NN s9 fun a92 => St w_29 (a92.add 5) (.int .i64 (IntKind.wrap .i64 (bits .and .u16 (Int.fdiv q3 256) 7))) fun w_30 => NN s9 fun a94 => St w_30 (a94.add 6)
  (.bool ((bits .and .u16 (Int.fdiv q3 2048) 1) == 1)) fun w_31 => NN s9 fun a96 => St w_31 (a96.add 4) (.int .i64 (IntKind.wrap .i64 (Int.fdiv q3 4096))) fun w_32 => NN s9 fun a99 => (∃ (x101 : Int),
  w_32.cell? (a99.add 4) = some (.int .i64 x101) ∧ cond (x101 == 0) (NN s9 fun a105 => (∃ (x107 : Bool), w_32.cell? (a105.add 6) = some (.bool x107) ∧ cond (!x107) (NN s9 fun a111 => St w_32 a111
  (.bool false) fun w_33 => R (.returned (.tuple #[])) w_33) (R (.returned (.tuple #[])) w_32))) (R (.returned (.tuple #[])) w_32)))) ((∃ J_2 : List Value → World → Prop, (cond (q2 == 2) (J_2 [.bool
  (q2 == 2)] w_4) (J_2 [.bool (q2 == 4)] w_4)) ∧ ∀ (s113 : Bool) (w_34 : World), J_2 [.bool s113] w_34 → cond s113 (chk (decide (0 ≤ (IntKind.wrap .i64 ((IntKind.wrap .i64 (Int.tdiv q2 2)) - 1))) &&
  decide ((IntKind.wrap .i64 ((IntKind.wrap .i64 (Int.tdiv q2 2)) - 1)) < ((2 : Nat) : Int))) (St w_34 (((⟨q0, 0, none⟩ : Addr).add ((IntKind.wrap .i64 ((IntKind.wrap .i64 (Int.tdiv q2 2)) - 1)).toNat
  * 16)).add 9) (.int .i64 (IntKind.wrap .i64 (bits .and .u16 q3 2047))) fun w_35 => St w_35 (((⟨q0, 0, none⟩ : Addr).add ((IntKind.wrap .i64 ((IntKind.wrap .i64 (Int.tdiv q2 2)) - 1)).toNat *
  16)).add 3) (.bool ((bits .and .u16 (Int.fdiv q3 16384) 1) == 1)) fun w_36 => cond ((Int.fdiv q3 32768) == 1) ((Calls Try.prog 14 #[.pointer (some ⟨q0, 0, none⟩), .pointer (some ((⟨q0, 0, none⟩ :
  Addr).add ((IntKind.wrap .i64 ((IntKind.wrap .i64 (Int.tdiv q2 2)) - 1)).toNat * 16))), .int .i64 (IntKind.wrap .i64 ((IntKind.wrap .i64 (Int.tdiv q2 2)) - 1)), .int .i64 64] w_36 fun e w_37 => e =
  .returned (.tuple #[]) ∧ R (.returned (.tuple #[])) w_37)) (R (.returned (.tuple #[])) w_36))) (cond (q2 == 5) (St w_34 ⟨q0, 80, none⟩ (.bool ((bits .and .u16 (Int.fdiv q3 32) 1) == 1)) fun w_38 =>
  St w_38 ⟨q0, 81, none⟩ (.int .i64 (IntKind.wrap .i64 (bits .and .u16 (Int.fdiv q3 64) 1))) fun w_39 => St w_39 ⟨q0, 83, none⟩ (.bool ((bits .and .u16 (Int.fdiv q3 128) 1) == 1)) fun w_40 => St w_40
  ⟨q0, 34, none⟩ (.int .i64 (IntKind.wrap .i64 (256 - (IntKind.wrap .i64 (Int.fdiv q3 256))))) fun w_41 => (∃ (x179 : Bool), w_41.cell? ⟨q0, 83, none⟩ = some (.bool x179) ∧ cond (!x179) (St w_41 ⟨q0,
  32, none⟩ (.bool false) fun w_42 => R (.returned (.tuple #[])) w_42) (R (.returned (.tuple #[])) w_41))) (cond (q2 == 6) (chk (decide (0 ≤ (Int.fdiv q3 8192)) && decide ((Int.fdiv q3 8192) < ((8 :
  Nat) : Int))) (∃ (x191 : Int), (#[.int .i64 0, .int .i64 1, .int .i64 2, .int .i64 3, .int .i64 4, .int .i64 4, .int .i64 4, .int .i64 4] : Array Value)[(Int.fdiv q3 8192).toNat * 1]? = some (.int
  .i64 x191) ∧ St w_34 ⟨q0, 82, none⟩ (.int .i64 x191) fun w_43 => R (.returned (.tuple #[])) w_43)) (cond (q2 == 8) (St w_34 ⟨q0, 103, none⟩ (.int .i64 (IntKind.wrap .i64 (bits .and .u16 q3 7))) fun
  w_44 => St w_44 ⟨q0, 101, none⟩ (.bool ((bits .and .u16 (Int.fdiv q3 8) 1) == 1)) fun w_45 => St w_45 ⟨q0, 102, none⟩ (.int .i64 (IntKind.wrap .i64 (bits .and .u16 (Int.fdiv q3 16) 15))) fun w_46 =>
  St w_46 ⟨q0, 87, none⟩ (.bool ((bits .and .u16 (Int.fdiv q3 16384) 1) == 1)) fun w_47 => cond ((Int.fdiv q3 32768) == 1) ((Calls Try.prog 14 #[.pointer (some ⟨q0, 0, none⟩), .pointer (some ⟨q0, 84,
  none⟩), .int .i64 3, .int .i64 64] w_47 fun e w_48 => e = .returned (.tuple #[]) ∧ St w_48 ⟨q0, 100, none⟩ (.int .i64 32767) fun w_49 => R (.returned (.tuple #[])) w_49)) (R (.returned (.tuple #[]))
  w_47)) (cond (q2 == 9) (St w_34 ⟨q0, 41, none⟩ (.int .i64 (IntKind.wrap .i64 (bits .and .u16 q3 2047))) fun w_50 => St w_50 ⟨q0, 35, none⟩ (.bool ((bits .and .u16 (Int.fdiv q3 16384) 1) == 1)) fun
  w_51 => cond ((Int.fdiv q3 32768) == 1) ((Calls Try.prog 14 #[.pointer (some ⟨q0, 0, none⟩), .pointer (some ⟨q0, 32, none⟩), .int .i64 2, .int .i64 256] w_51 fun e w_52 => e = .returned (.tuple #[])
  ∧ (∃ (x263 : Bool), w_52.cell? ⟨q0, 83, none⟩ = some (.bool x263) ∧ St w_52 ⟨q0, 32, none⟩ (.bool x263) fun w_53 => R (.returned (.tuple #[])) w_53))) (R (.returned (.tuple #[])) w_51)) (R
  (.returned (.tuple #[])) w_34))))))))))
set_option maxRecDepth 100000 in
theorem v_Write (q0 : Nat) (q1 : Int) (q2 : Int) (q3 : Int) (R : Ending → World → Prop) (w : World) :
  vc Try.prog ann_Write (Try.f8.body.getD .skip) (retQ Try.prog Try.f8.results.toList R) (initFr [.pointer (some ⟨q0, 0, none⟩), .int .i64 q1, .int .i64 q2, .int .u16 q3] Try.f8.ntmps) w = p_Write q0 q1 q2 q3 R w := by kernel_rfl
theorem c_Write (q0 : Nat) (q1 : Int) (q2 : Int) (q3 : Int) (R : Ending → World → Prop) (w : World) (h : p_Write q0 q1 q2 q3 R w) : Calls Try.prog 8 #[.pointer (some ⟨q0, 0, none⟩), .int .i64 q1, .int .i64 q2, .int .u16 q3] w R :=
  calls_by (P := Try.prog) (f := 8) (fn := Try.f8) (c := Try.f8.body.getD .skip) (args := [.pointer (some ⟨q0, 0, none⟩), .int .i64 q1, .int .i64 q2, .int .u16 q3]) (w := w) (R := R) (p := p_Write q0 q1 q2 q3 R w) ann_Write Try.func8 rfl (v_Write q0 q1 q2 q3 R w) h

/-! (*cameo/psg.Unit).begin -/
abbrev n_begin : FuncId := 14
def ann_begin : Ann := ⟨[(3, .held [12, 15])], [], [(3, []), (2, [])]⟩
set_option maxRecDepth 100000 in
def p_begin (q0 : Nat) (q1 : Addr) (q2 : Int) (q3 : Int) (R : Ending → World → Prop) (w : World) : Prop :=
  (∃ J : List Value → World → Prop, ((∃ (x11 : Int), w.cell? (q1.add 2) = some (.int .i64 x11) ∧ cond (x11 == 0) (St w (q1.add 2) (.int .i64 q3) fun w => J [] w) (J [] w))) ∧ ∀ (w_1 : World), J [] w_1
  → (∃ J_1 : List Value → World → Prop, (cond (q2 == 2) (St w_1 q1 (.bool true) fun w_2 => J_1 [] w_2) ((∃ (x24 : Int), w_1.cell? (q1.add 4) = some (.int .i64 x24) ∧ cond (decide (x24 > 0)) (St w_1 q1
  (.bool true) fun w_3 => J_1 [] w_3) ((∃ (x31 : Bool), w_1.cell? (q1.add 6) = some (.bool x31) ∧ St w_1 q1 (.bool x31) fun w_4 => J_1 [] w_4))))) ∧ ∀ (w_5 : World), J_1 [] w_5 → (∃ S : World → Prop,
  S (w_5.drewN 1) ∧ (∃ (x40 : Int), (∀ w, S w → w.cell? (q1.add 4) = some (.int .i64 x40)) ∧ (∃ (x44 : Int), (∀ w, S w → w.cell? (q1.add 5) = some (.int .i64 x44)) ∧ St (w_5.drewN 1) (q1.add 7) (.int
  .i64 x40) fun w_6 => (S w_6 ∧ St w_6 (q1.add 8) (.int .i64 x44) fun w_7 => (S w_7 ∧ (Calls Try.prog 17 #[.pointer (some ⟨q0, 0, none⟩), .int .i64 q2] w_7 fun e w_8 => ∃ (x53 : Int), e = .returned
  (.int .i64 x53) ∧ St w_8 (q1.add 10) (.int .i64 x53) fun w_9 => St w_9 (q1.add 11) (.int .i64 0) fun w_10 => (∃ (x62 : Int), w_10.cell? (q1.add 13) = some (.int .i64 x62) ∧ St w_10 (q1.add 15) (.int
  .i64 x62) fun w_11 => R (.returned (.tuple #[])) w_11)))))))))
set_option maxRecDepth 100000 in
theorem v_begin (q0 : Nat) (q1 : Addr) (q2 : Int) (q3 : Int) (R : Ending → World → Prop) (w : World) :
  vc Try.prog ann_begin (Try.f14.body.getD .skip) (retQ Try.prog Try.f14.results.toList R) (initFr [.pointer (some ⟨q0, 0, none⟩), .pointer (some q1), .int .i64 q2, .int .i64 q3] Try.f14.ntmps) w = p_begin q0 q1 q2 q3 R w := by kernel_rfl
theorem c_begin (q0 : Nat) (q1 : Addr) (q2 : Int) (q3 : Int) (R : Ending → World → Prop) (w : World) (h : p_begin q0 q1 q2 q3 R w) : Calls Try.prog 14 #[.pointer (some ⟨q0, 0, none⟩), .pointer (some q1), .int .i64 q2, .int .i64 q3] w R :=
  calls_by (P := Try.prog) (f := 14) (fn := Try.f14) (c := Try.f14.body.getD .skip) (args := [.pointer (some ⟨q0, 0, none⟩), .pointer (some q1), .int .i64 q2, .int .i64 q3]) (w := w) (R := R) (p := p_begin q0 q1 q2 q3 R w) ann_begin Try.func14 rfl (v_begin q0 q1 q2 q3 R w) h

/-! (*cameo/psg.Unit).Bank -/
abbrev n_Bank : FuncId := 12
def ann_Bank : Ann := ⟨[(3, .tail 13)], [], []⟩
set_option maxRecDepth 100000 in
def p_Bank (q0 : Nat) (q1 : Int) (q2 : Int) (q3 : Int) (R : Ending → World → Prop) (w : World) : Prop :=
  (Calls Try.prog 9 #[.pointer (some ⟨q0, 0, none⟩), .int .i64 q1] w fun e w => e = .returned (.tuple #[]) ∧ cond (decide (q2 ≥ 0)) (cond (decide (q2 < 16)) ((∃ (x23 : Int), (w.drewN 1).cell? ⟨q0, 81,
  none⟩ = some (.int .i64 x23) ∧ chk (decide (0 ≤ (IntKind.wrap .i64 ((IntKind.wrap .i64 (16 * (IntKind.wrap .i64 (1 - x23)))) + q2))) && decide ((IntKind.wrap .i64 ((IntKind.wrap .i64 (16 *
  (IntKind.wrap .i64 (1 - x23)))) + q2)) < ((32 : Nat) : Int))) (St (w.drewN 1) ((⟨q0, 48, none⟩ : Addr).add ((IntKind.wrap .i64 ((IntKind.wrap .i64 (16 * (IntKind.wrap .i64 (1 - x23)))) + q2)).toNat
  * 1)) (.int .u8 q3) fun w_1 => R (.returned (.tuple #[])) w_1))) (R (.returned (.tuple #[])) w)) (R (.returned (.tuple #[])) w))
set_option maxRecDepth 100000 in
theorem v_Bank (q0 : Nat) (q1 : Int) (q2 : Int) (q3 : Int) (R : Ending → World → Prop) (w : World) :
  vc Try.prog ann_Bank (Try.f12.body.getD .skip) (retQ Try.prog Try.f12.results.toList R) (initFr [.pointer (some ⟨q0, 0, none⟩), .int .i64 q1, .int .i64 q2, .int .u8 q3] Try.f12.ntmps) w = p_Bank q0 q1 q2 q3 R w := by kernel_rfl
theorem c_Bank (q0 : Nat) (q1 : Int) (q2 : Int) (q3 : Int) (R : Ending → World → Prop) (w : World) (h : p_Bank q0 q1 q2 q3 R w) : Calls Try.prog 12 #[.pointer (some ⟨q0, 0, none⟩), .int .i64 q1, .int .i64 q2, .int .u8 q3] w R :=
  calls_by (P := Try.prog) (f := 12) (fn := Try.f12) (c := Try.f12.body.getD .skip) (args := [.pointer (some ⟨q0, 0, none⟩), .int .i64 q1, .int .i64 q2, .int .u8 q3]) (w := w) (R := R) (p := p_Bank q0 q1 q2 q3 R w) ann_Bank Try.func12 rfl (v_Bank q0 q1 q2 q3 R w) h

/-! (*cameo/psg.Unit).Peek -/
abbrev n_Peek : FuncId := 13
def ann_Peek : Ann := ⟨[], [], []⟩
set_option maxRecDepth 100000 in
def p_Peek (q0 : Nat) (q1 : Int) (R : Ending → World → Prop) (w : World) : Prop :=
  cond (decide (q1 < 0)) (R (.returned (.int .u8 0)) w) (cond (decide (q1 ≥ 16)) (R (.returned (.int .u8 0)) w) ((∃ (x19 : Int), w.cell? ⟨q0, 81, none⟩ = some (.int .i64 x19) ∧ chk (decide (0 ≤
  (IntKind.wrap .i64 ((IntKind.wrap .i64 (16 * (IntKind.wrap .i64 (1 - x19)))) + q1))) && decide ((IntKind.wrap .i64 ((IntKind.wrap .i64 (16 * (IntKind.wrap .i64 (1 - x19)))) + q1)) < ((32 : Nat) :
  Int))) ((∃ (x27 : Int), w.cell? ((⟨q0, 48, none⟩ : Addr).add ((IntKind.wrap .i64 ((IntKind.wrap .i64 (16 * (IntKind.wrap .i64 (1 - x19)))) + q1)).toNat * 1)) = some (.int .u8 x27) ∧ (∀ n, R
  (.returned (.int .u8 x27)) (w.drewN n)))))))
set_option maxRecDepth 100000 in
theorem v_Peek (q0 : Nat) (q1 : Int) (R : Ending → World → Prop) (w : World) :
  vc Try.prog ann_Peek (Try.f13.body.getD .skip) (retQ Try.prog Try.f13.results.toList R) (initFr [.pointer (some ⟨q0, 0, none⟩), .int .i64 q1] Try.f13.ntmps) w = p_Peek q0 q1 R w := by kernel_rfl
theorem c_Peek (q0 : Nat) (q1 : Int) (R : Ending → World → Prop) (w : World) (h : p_Peek q0 q1 R w) : Calls Try.prog 13 #[.pointer (some ⟨q0, 0, none⟩), .int .i64 q1] w R :=
  calls_by (P := Try.prog) (f := 13) (fn := Try.f13) (c := Try.f13.body.getD .skip) (args := [.pointer (some ⟨q0, 0, none⟩), .int .i64 q1]) (w := w) (R := R) (p := p_Peek q0 q1 R w) ann_Peek Try.func13 rfl (v_Peek q0 q1 R w) h

/-! (*cameo/psg.Unit).Run -/
abbrev n_Run : FuncId := 9
def ann_Run : Ann := ⟨[], [(1, [])], []⟩
set_option maxRecDepth 100000 in
def p_Run (q0 : Nat) (q1 : Int) (R : Ending → World → Prop) (w : World) : Prop :=
  (∃ I : Nat → List Value → World → Prop, (∃ n, I n [] w) ∧ ∀ n, ∀ (w : World), I n [] w → (∃ (x10 : Int), w.cell? ⟨q0, 104, none⟩ = some (.int .i64 x10) ∧ cond (decide (x10 < q1)) ((∃ (x17 : Int),
  w.cell? ⟨q0, 104, none⟩ = some (.int .i64 x17) ∧ Lt ((if (IntKind.wrap .i64 ((IntKind.wrap .i64 ((IntKind.wrap .i64 (Int.tdiv x17 32768)) + 1)) * 32768)) < q1 then (IntKind.wrap .i64 ((IntKind.wrap
  .i64 ((IntKind.wrap .i64 (Int.tdiv x17 32768)) + 1)) * 32768)) else q1) : Int) fun s4 => (∃ (x27 : Int), w.cell? ⟨q0, 104, none⟩ = some (.int .i64 x27) ∧ (Calls Try.prog 15 #[.pointer (some ⟨q0, 0,
  none⟩), .int .i64 (IntKind.wrap .i64 (s4 - x27))] w fun e w_1 => e = .returned (.tuple #[]) ∧ St w_1 ⟨q0, 104, none⟩ (.int .i64 s4) fun w_2 => cond ((Int.tmod s4 32768) == 0) ((Calls Try.prog 16
  #[.pointer (some ⟨q0, 0, none⟩)] w_2 fun e w_3 => e = .returned (.tuple #[]) ∧ (∃ m, m < n ∧ I m [] w_3))) ((∃ m, m < n ∧ I m [] w_2)))))) (R (.returned (.tuple #[])) w)))
set_option maxRecDepth 100000 in
theorem v_Run (q0 : Nat) (q1 : Int) (R : Ending → World → Prop) (w : World) :
  vc Try.prog ann_Run (Try.f9.body.getD .skip) (retQ Try.prog Try.f9.results.toList R) (initFr [.pointer (some ⟨q0, 0, none⟩), .int .i64 q1] Try.f9.ntmps) w = p_Run q0 q1 R w := by kernel_rfl
theorem c_Run (q0 : Nat) (q1 : Int) (R : Ending → World → Prop) (w : World) (h : p_Run q0 q1 R w) : Calls Try.prog 9 #[.pointer (some ⟨q0, 0, none⟩), .int .i64 q1] w R :=
  calls_by (P := Try.prog) (f := 9) (fn := Try.f9) (c := Try.f9.body.getD .skip) (args := [.pointer (some ⟨q0, 0, none⟩), .int .i64 q1]) (w := w) (R := R) (p := p_Run q0 q1 R w) ann_Run Try.func9 rfl (v_Run q0 q1 R w) h

/-! (*cameo/psg.Unit).play -/
abbrev n_play : FuncId := 15
def ann_play : Ann := ⟨[(0, .held [14])], [(11, [(75, .one (.int .i64))]), (1, [(24, .one (.int .i64))])], []⟩
set_option maxRecDepth 100000 in
def p_play (q0 : Nat) (q1 : Int) (R : Ending → World → Prop) (w : World) : Prop :=
  (∃ S : World → Prop, S (w.drewN 1) ∧ chk (decide (0 ≤ (0 : Int)) && decide ((0 : Int) < ((2 : Nat) : Int))) (chk (decide (0 ≤ (1 : Int)) && decide ((1 : Int) < ((2 : Nat) : Int))) (Nw (w.drewN 1)
  (.cells #[.pointer (some ⟨q0, 0, none⟩), .pointer (some ⟨q0, 16, none⟩), .pointer (some ⟨q0, 32, none⟩), .pointer (some ⟨q0, 84, none⟩)] 45) fun b w => (S w ∧ (∃ I : Nat → List Value → World → Prop,
  (∃ n, I n [.int .i64 0] w) ∧ ∀ n, ∀ (s24 : Int) (w_1 : World), I n [.int .i64 s24] w_1 → cond (decide (s24 < ((4 : Nat) : Int))) (chk (decide (0 ≤ s24) && decide (s24 < ((4 : Nat) : Int))) ((∃ (x28
  : Option Addr), w_1.cell? ((⟨b, 0, none⟩ : Addr).add (s24.toNat * 1)) = some (.pointer x28) ∧ NN x28 fun a30 => (∃ (x32 : Bool), w_1.cell? a30 = some (.bool x32) ∧ cond (!x32) ((∃ m, m < n ∧ I m
  [.int .i64 (IntKind.wrap .i64 (s24 + 1))] w_1)) (NN x28 fun a36 => (∃ (x38 : Int), w_1.cell? (a36.add 10) = some (.int .i64 x38) ∧ cond (decide (q1 < x38)) (NN x28 fun a41 => (∃ (x43 : Int),
  w_1.cell? (a41.add 10) = some (.int .i64 x43) ∧ NN x28 fun a46 => St w_1 (a46.add 10) (.int .i64 (IntKind.wrap .i64 (x43 - q1))) fun w_2 => (∃ m, m < n ∧ I m [.int .i64 (IntKind.wrap .i64 (s24 +
  1))] w_2))) ((Calls Try.prog 17 #[.pointer (some ⟨q0, 0, none⟩), .int .i64 s24] w_1 fun e w_3 => ∃ (x50 : Int), e = .returned (.int .i64 x50) ∧ NN x28 fun a53 => (∃ (x55 : Int), w_3.cell? (a53.add
  10) = some (.int .i64 x55) ∧ chk (!(x50 == 0)) (Lt ((IntKind.wrap .i64 (1 + (IntKind.wrap .i64 (Int.tdiv (IntKind.wrap .i64 (q1 - x55)) x50)))) : Int) fun s7 => NN x28 fun a64 => (∃ (x66 : Int),
  w_3.cell? (a64.add 10) = some (.int .i64 x66) ∧ chk (!(x50 == 0)) (NN x28 fun a71 => St w_3 (a71.add 10) (.int .i64 (IntKind.wrap .i64 (x50 - (Int.tmod (IntKind.wrap .i64 (q1 - x66)) x50)))) fun w_4
  => cond (s24 == 0) (cond (s24 == 0) (NN x28 fun a85 => (∃ (x87 : Int), w_4.cell? (a85.add 11) = some (.int .i64 x87) ∧ NN x28 fun a91 => St w_4 (a91.add 11) (.int .i64 (Int.tmod (IntKind.wrap .i64
  (x87 + s7)) 8)) fun w_5 => (∃ m, m < n ∧ I m [.int .i64 (IntKind.wrap .i64 (s24 + 1))] w_5))) (cond (s24 == 2) (NN x28 fun a97 => (∃ (x99 : Int), w_4.cell? (a97.add 11) = some (.int .i64 x99) ∧ NN
  x28 fun a103 => St w_4 (a103.add 11) (.int .i64 (Int.tmod (IntKind.wrap .i64 (x99 + s7)) 64)) fun w_6 => (∃ m, m < n ∧ I m [.int .i64 (IntKind.wrap .i64 (s24 + 1))] w_6))) ((∃ I_1 : Nat → List Value
  → World → Prop, (∃ n_1, I_1 n_1 [.int .i64 0] w_4) ∧ ∀ n_1, ∀ (s75 : Int) (w_7 : World), I_1 n_1 [.int .i64 s75] w_7 → cond (decide (s75 < s7)) ((Calls Try.prog 18 #[.pointer (some ⟨q0, 0, none⟩)]
  w_7 fun e w_8 => e = .returned (.tuple #[]) ∧ (∃ m_1, m_1 < n_1 ∧ I_1 m_1 [.int .i64 (IntKind.wrap .i64 (s75 + 1))] w_8))) ((∃ m, m < n ∧ I m [.int .i64 (IntKind.wrap .i64 (s24 + 1))] w_7))))))
  (cond (s24 == 1) (NN x28 fun a85_1 => (∃ (x87_1 : Int), w_4.cell? (a85_1.add 11) = some (.int .i64 x87_1) ∧ NN x28 fun a91_1 => St w_4 (a91_1.add 11) (.int .i64 (Int.tmod (IntKind.wrap .i64 (x87_1 +
  s7)) 8)) fun w_9 => (∃ m, m < n ∧ I m [.int .i64 (IntKind.wrap .i64 (s24 + 1))] w_9))) (cond (s24 == 2) (NN x28 fun a97_1 => (∃ (x99_1 : Int), w_4.cell? (a97_1.add 11) = some (.int .i64 x99_1) ∧ NN
  x28 fun a103_1 => St w_4 (a103_1.add 11) (.int .i64 (Int.tmod (IntKind.wrap .i64 (x99_1 + s7)) 64)) fun w_10 => (∃ m, m < n ∧ I m [.int .i64 (IntKind.wrap .i64 (s24 + 1))] w_10))) ((∃ I_2 : Nat →
  List Value → World → Prop, (∃ n_2, I_2 n_2 [.int .i64 0] w_4) ∧ ∀ n_2, ∀ (s75_1 : Int) (w_11 : World), I_2 n_2 [.int .i64 s75_1] w_11 → cond (decide (s75_1 < s7)) ((Calls Try.prog 18 #[.pointer
  (some ⟨q0, 0, none⟩)] w_11 fun e w_12 => e = .returned (.tuple #[]) ∧ (∃ m_2, m_2 < n_2 ∧ I_2 m_2 [.int .i64 (IntKind.wrap .i64 (s75_1 + 1))] w_12))) ((∃ m, m < n ∧ I m [.int .i64 (IntKind.wrap .i64
  (s24 + 1))] w_11)))))))))))))))))) (R (.returned (.tuple #[])) w_1))))))
set_option maxRecDepth 100000 in
theorem v_play (q0 : Nat) (q1 : Int) (R : Ending → World → Prop) (w : World) :
  vc Try.prog ann_play (Try.f15.body.getD .skip) (retQ Try.prog Try.f15.results.toList R) (initFr [.pointer (some ⟨q0, 0, none⟩), .int .i64 q1] Try.f15.ntmps) w = p_play q0 q1 R w := by kernel_rfl
theorem c_play (q0 : Nat) (q1 : Int) (R : Ending → World → Prop) (w : World) (h : p_play q0 q1 R w) : Calls Try.prog 15 #[.pointer (some ⟨q0, 0, none⟩), .int .i64 q1] w R :=
  calls_by (P := Try.prog) (f := 15) (fn := Try.f15) (c := Try.f15.body.getD .skip) (args := [.pointer (some ⟨q0, 0, none⟩), .int .i64 q1]) (w := w) (R := R) (p := p_play q0 q1 R w) ann_play Try.func15 rfl (v_play q0 q1 R w) h

/-! (*cameo/psg.Unit).clock -/
abbrev n_clock : FuncId := 18
def ann_clock : Ann := ⟨[], [], []⟩
set_option maxRecDepth 100000 in
def p_clock (q0 : Nat) (R : Ending → World → Prop) (w : World) : Prop :=
  (∃ (x6 : Int), w.cell? ⟨q0, 100, none⟩ = some (.int .i64 x6) ∧ (∃ (x10 : Int), w.cell? ⟨q0, 100, none⟩ = some (.int .i64 x10) ∧ Lt ((bits .and .i64 (bits .xor .i64 x6 (Int.fdiv x10 2)) 1) : Int) fun
  s2 => (∀ n, (∃ (x18 : Int), (w.drewN n).cell? ⟨q0, 100, none⟩ = some (.int .i64 x18) ∧ St (w.drewN n) ⟨q0, 100, none⟩ (.int .i64 (bits .or .i64 (Int.fdiv x18 2) (IntKind.wrap .i64 (s2 * 16384))))
  fun w => (∃ (x28 : Bool), w.cell? ⟨q0, 101, none⟩ = some (.bool x28) ∧ cond x28 ((∃ (x33 : Int), w.cell? ⟨q0, 100, none⟩ = some (.int .i64 x33) ∧ St w ⟨q0, 100, none⟩ (.int .i64 (bits .or .i64 (bits
  .andNot .i64 x33 64) (IntKind.wrap .i64 (s2 * 64)))) fun w_1 => R (.returned (.tuple #[])) w_1)) (R (.returned (.tuple #[])) w))))))
set_option maxRecDepth 100000 in
theorem v_clock (q0 : Nat) (R : Ending → World → Prop) (w : World) :
  vc Try.prog ann_clock (Try.f18.body.getD .skip) (retQ Try.prog Try.f18.results.toList R) (initFr [.pointer (some ⟨q0, 0, none⟩)] Try.f18.ntmps) w = p_clock q0 R w := by kernel_rfl
theorem c_clock (q0 : Nat) (R : Ending → World → Prop) (w : World) (h : p_clock q0 R w) : Calls Try.prog 18 #[.pointer (some ⟨q0, 0, none⟩)] w R :=
  calls_by (P := Try.prog) (f := 18) (fn := Try.f18) (c := Try.f18.body.getD .skip) (args := [.pointer (some ⟨q0, 0, none⟩)]) (w := w) (R := R) (p := p_clock q0 R w) ann_clock Try.func18 rfl (v_clock q0 R w) h

/-! (*cameo/psg.Unit).beat -/
abbrev n_beat : FuncId := 16
def ann_beat : Ann := ⟨[(1, .tail 14)], [(4, [(37, .one (.int .i64))]), (15, [(87, .one (.int .i64))])], [(18, [(106, .one (.bool))]), (13, []), (11, [])]⟩
set_option maxRecDepth 100000 in
def p_beat (q0 : Nat) (R : Ending → World → Prop) (w : World) : Prop :=
  (∃ (x10 : Int), w.cell? ⟨q0, 105, none⟩ = some (.int .i64 x10) ∧ St w ⟨q0, 105, none⟩ (.int .i64 (IntKind.wrap .i64 (x10 + 1))) fun w => chk (decide (0 ≤ (0 : Int)) && decide ((0 : Int) < ((2 : Nat)
  : Int))) (chk (decide (0 ≤ (1 : Int)) && decide ((1 : Int) < ((2 : Nat) : Int))) (Nw (w.drewN 1) (.cells #[.pointer (some ⟨q0, 0, none⟩), .pointer (some ⟨q0, 16, none⟩), .pointer (some ⟨q0, 32,
  none⟩), .pointer (some ⟨q0, 84, none⟩)] 45) fun b w_1 => (∃ J : List Value → World → Prop, ((∃ (x32 : Int), w_1.cell? ⟨q0, 105, none⟩ = some (.int .i64 x32) ∧ cond ((Int.tmod x32 2) == 0) ((∃ I :
  Nat → List Value → World → Prop, (∃ n, I n [.int .i64 0] w_1) ∧ ∀ n, ∀ (s37 : Int) (w_2 : World), I n [.int .i64 s37] w_2 → cond (decide (s37 < ((4 : Nat) : Int))) (chk (decide (0 ≤ s37) && decide
  (s37 < ((4 : Nat) : Int))) ((∃ (x40 : Option Addr), w_2.cell? ((⟨b, 0, none⟩ : Addr).add (s37.toNat * 1)) = some (.pointer x40) ∧ NN x40 fun a42 => (∃ (x44 : Bool), w_2.cell? a42 = some (.bool x44)
  ∧ cond x44 (NN x40 fun a47 => (∃ (x49 : Bool), w_2.cell? (a47.add 3) = some (.bool x49) ∧ cond x49 (NN x40 fun a52 => (∃ (x54 : Int), w_2.cell? (a52.add 2) = some (.int .i64 x54) ∧ NN x40 fun a56 =>
  St w_2 (a56.add 2) (.int .i64 (IntKind.wrap .i64 (x54 - 1))) fun w_3 => NN x40 fun a59 => (∃ (x61 : Int), w_3.cell? (a59.add 2) = some (.int .i64 x61) ∧ cond (x61 == 0) (NN x40 fun a64 => St w_3 a64
  (.bool false) fun w_4 => (∃ m, m < n ∧ I m [.int .i64 (IntKind.wrap .i64 (s37 + 1))] w_4)) ((∃ m, m < n ∧ I m [.int .i64 (IntKind.wrap .i64 (s37 + 1))] w_3))))) ((∃ m, m < n ∧ I m [.int .i64
  (IntKind.wrap .i64 (s37 + 1))] w_2)))) ((∃ m, m < n ∧ I m [.int .i64 (IntKind.wrap .i64 (s37 + 1))] w_2)))))) (J [] w_2))) (J [] w_1))) ∧ ∀ (w_5 : World), J [] w_5 → (∃ J_1 : List Value → World →
  Prop, ((∃ (x70 : Int), w_5.cell? ⟨q0, 105, none⟩ = some (.int .i64 x70) ∧ cond ((Int.tmod x70 4) == 0) (chk (decide (0 ≤ (0 : Int)) && decide ((0 : Int) < ((2 : Nat) : Int))) ((Calls Try.prog 19
  #[.pointer (some ⟨q0, 0, none⟩), .pointer (some ⟨q0, 0, none⟩)] w_5 fun e w_6 => e = .returned (.tuple #[]) ∧ J_1 [] w_6))) (J_1 [] w_5))) ∧ ∀ (w_7 : World), J_1 [] w_7 → (∃ (x82 : Int), w_7.cell?
  ⟨q0, 105, none⟩ = some (.int .i64 x82) ∧ cond ((Int.tmod x82 8) == 0) ((∃ I_1 : Nat → List Value → World → Prop, (∃ n_1, I_1 n_1 [.int .i64 0] w_7) ∧ ∀ n_1, ∀ (s87 : Int) (w_8 : World), I_1 n_1
  [.int .i64 s87] w_8 → cond (decide (s87 < ((4 : Nat) : Int))) (chk (decide (0 ≤ s87) && decide (s87 < ((4 : Nat) : Int))) ((∃ (x91 : Option Addr), w_8.cell? ((⟨b, 0, none⟩ : Addr).add (s87.toNat *
  1)) = some (.pointer x91) ∧ (∃ J_2 : List Value → World → Prop, (cond (s87 != 2) (NN x91 fun a96 => (∃ (x98 : Bool), w_8.cell? a96 = some (.bool x98) ∧ cond x98 (NN x91 fun a102 => (∃ (x104 : Int),
  w_8.cell? (a102.add 5) = some (.int .i64 x104) ∧ J_2 [.bool (decide (x104 > 0))] w_8)) (J_2 [.bool false] w_8))) (J_2 [.bool false] w_8)) ∧ ∀ (s106 : Bool) (w_9 : World), J_2 [.bool s106] w_9 → cond
  s106 (NN x91 fun a108 => (∃ (x110 : Int), w_9.cell? (a108.add 8) = some (.int .i64 x110) ∧ NN x91 fun a112 => St w_9 (a112.add 8) (.int .i64 (IntKind.wrap .i64 (x110 - 1))) fun w_10 => NN x91 fun
  a115 => (∃ (x117 : Int), w_10.cell? (a115.add 8) = some (.int .i64 x117) ∧ cond (x117 == 0) (NN x91 fun a121 => (∃ (x123 : Int), w_10.cell? (a121.add 5) = some (.int .i64 x123) ∧ NN x91 fun a124 =>
  St w_10 (a124.add 8) (.int .i64 x123) fun w_11 => NN x91 fun a127 => (∃ (x129 : Bool), w_11.cell? (a127.add 6) = some (.bool x129) ∧ cond x129 (NN x91 fun a132 => (∃ (x134 : Int), w_11.cell?
  (a132.add 7) = some (.int .i64 x134) ∧ cond (decide (x134 < 15)) (NN x91 fun a138 => (∃ (x140 : Int), w_11.cell? (a138.add 7) = some (.int .i64 x140) ∧ NN x91 fun a142 => St w_11 (a142.add 7) (.int
  .i64 (IntKind.wrap .i64 (x140 + 1))) fun w_12 => (∃ m_1, m_1 < n_1 ∧ I_1 m_1 [.int .i64 (IntKind.wrap .i64 (s87 + 1))] w_12))) (NN x91 fun a145 => (∃ (x147 : Bool), w_11.cell? (a145.add 6) = some
  (.bool x147) ∧ cond (!x147) (NN x91 fun a151 => (∃ (x153 : Int), w_11.cell? (a151.add 7) = some (.int .i64 x153) ∧ cond (decide (x153 > 0)) (NN x91 fun a157 => (∃ (x159 : Int), w_11.cell? (a157.add
  7) = some (.int .i64 x159) ∧ NN x91 fun a161 => St w_11 (a161.add 7) (.int .i64 (IntKind.wrap .i64 (x159 - 1))) fun w_13 => (∃ m_1, m_1 < n_1 ∧ I_1 m_1 [.int .i64 (IntKind.wrap .i64 (s87 + 1))]
  w_13))) ((∃ m_1, m_1 < n_1 ∧ I_1 m_1 [.int .i64 (IntKind.wrap .i64 (s87 + 1))] w_11)))) ((∃ m_1, m_1 < n_1 ∧ I_1 m_1 [.int .i64 (IntKind.wrap .i64 (s87 + 1))] w_11)))))) (NN x91 fun a145_1 => (∃
  (x147_1 : Bool), w_11.cell? (a145_1.add 6) = some (.bool x147_1) ∧ cond (!x147_1) (NN x91 fun a151_1 => (∃ (x153_1 : Int), w_11.cell? (a151_1.add 7) = some (.int .i64 x153_1) ∧ cond (decide (x153_1
  > 0)) (NN x91 fun a157_1 => (∃ (x159_1 : Int), w_11.cell? (a157_1.add 7) = some (.int .i64 x159_1) ∧ NN x91 fun a161_1 => St w_11 (a161_1.add 7) (.int .i64 (IntKind.wrap .i64 (x159_1 - 1))) fun w_14
  => (∃ m_1, m_1 < n_1 ∧ I_1 m_1 [.int .i64 (IntKind.wrap .i64 (s87 + 1))] w_14))) ((∃ m_1, m_1 < n_1 ∧ I_1 m_1 [.int .i64 (IntKind.wrap .i64 (s87 + 1))] w_11)))) ((∃ m_1, m_1 < n_1 ∧ I_1 m_1 [.int
  .i64 (IntKind.wrap .i64 (s87 + 1))] w_11))))))) ((∃ m_1, m_1 < n_1 ∧ I_1 m_1 [.int .i64 (IntKind.wrap .i64 (s87 + 1))] w_10))))) ((∃ m_1, m_1 < n_1 ∧ I_1 m_1 [.int .i64 (IntKind.wrap .i64 (s87 +
  1))] w_9)))))) (R (.returned (.tuple #[])) w_8))) (R (.returned (.tuple #[])) w_7)))))))
set_option maxRecDepth 100000 in
theorem v_beat (q0 : Nat) (R : Ending → World → Prop) (w : World) :
  vc Try.prog ann_beat (Try.f16.body.getD .skip) (retQ Try.prog Try.f16.results.toList R) (initFr [.pointer (some ⟨q0, 0, none⟩)] Try.f16.ntmps) w = p_beat q0 R w := by kernel_rfl
theorem c_beat (q0 : Nat) (R : Ending → World → Prop) (w : World) (h : p_beat q0 R w) : Calls Try.prog 16 #[.pointer (some ⟨q0, 0, none⟩)] w R :=
  calls_by (P := Try.prog) (f := 16) (fn := Try.f16) (c := Try.f16.body.getD .skip) (args := [.pointer (some ⟨q0, 0, none⟩)]) (w := w) (R := R) (p := p_beat q0 R w) ann_beat Try.func16 rfl (v_beat q0 R w) h

/-! (*cameo/psg.Unit).sweep -/
abbrev n_sweep : FuncId := 19
def ann_sweep : Ann := ⟨[], [], []⟩
set_option maxRecDepth 100000 in
def p_sweep (q0 : Nat) (q1 : Nat) (R : Ending → World → Prop) (w : World) : Prop :=
  (∃ (x9 : Bool), w.cell? ⟨q1, 0, none⟩ = some (.bool x9) ∧ cond (!x9) (R (.returned (.tuple #[])) w) ((∃ (x15 : Int), w.cell? ⟨q1, 13, none⟩ = some (.int .i64 x15) ∧ cond (x15 == 0) (R (.returned
  (.tuple #[])) w) ((∃ (x21 : Int), w.cell? ⟨q1, 15, none⟩ = some (.int .i64 x21) ∧ St w ⟨q1, 15, none⟩ (.int .i64 (IntKind.wrap .i64 (x21 - 1))) fun w => (∃ (x28 : Int), w.cell? ⟨q1, 15, none⟩ = some
  (.int .i64 x28) ∧ cond (decide (x28 > 0)) (R (.returned (.tuple #[])) w) ((∃ (x34 : Int), w.cell? ⟨q1, 13, none⟩ = some (.int .i64 x34) ∧ St w ⟨q1, 15, none⟩ (.int .i64 x34) fun w_1 => (∃ (x40 :
  Int), w_1.cell? ⟨q1, 9, none⟩ = some (.int .i64 x40) ∧ (∃ (x44 : Int), w_1.cell? ⟨q1, 12, none⟩ = some (.int .i64 x44) ∧ chk (decide (0 ≤ x44)) ((∀ n, (∃ (x49 : Bool), (w_1.drewN n).cell? ⟨q1, 14,
  none⟩ = some (.bool x49) ∧ cond x49 (Lt ((IntKind.wrap .i64 (0 - (Int.fdiv x40 (2 ^ (min x44.toNat 64))))) : Int) fun s4 => (∃ (x55 : Int), (w_1.drewN n).cell? ⟨q1, 9, none⟩ = some (.int .i64 x55) ∧
  Lt (decide ((IntKind.wrap .i64 (x55 + s4)) > 2047) : Bool) fun s58 => cond s58 (St (w_1.drewN n) ⟨q1, 0, none⟩ (.bool false) fun w_2 => R (.returned (.tuple #[])) w_2) ((∃ (x68 : Int), (w_1.drewN
  n).cell? ⟨q1, 12, none⟩ = some (.int .i64 x68) ∧ cond (decide (x68 > 0)) (St (w_1.drewN n) ⟨q1, 9, none⟩ (.int .i64 (IntKind.wrap .i64 (x55 + s4))) fun w_3 => R (.returned (.tuple #[])) w_3) (R
  (.returned (.tuple #[])) (w_1.drewN n)))))) ((∃ (x55_1 : Int), (w_1.drewN n).cell? ⟨q1, 9, none⟩ = some (.int .i64 x55_1) ∧ Lt ((IntKind.wrap .i64 (x55_1 + (Int.fdiv x40 (2 ^ (min x44.toNat 64)))))
  : Int) fun s5 => cond (decide (s5 > 2047)) (St (w_1.drewN n) ⟨q1, 0, none⟩ (.bool false) fun w_4 => R (.returned (.tuple #[])) w_4) ((∃ (x68_1 : Int), (w_1.drewN n).cell? ⟨q1, 12, none⟩ = some (.int
  .i64 x68_1) ∧ cond (decide (x68_1 > 0)) (St (w_1.drewN n) ⟨q1, 9, none⟩ (.int .i64 s5) fun w_5 => R (.returned (.tuple #[])) w_5) (R (.returned (.tuple #[])) (w_1.drewN n)))))))))))))))))))
set_option maxRecDepth 100000 in
theorem v_sweep (q0 : Nat) (q1 : Nat) (R : Ending → World → Prop) (w : World) :
  vc Try.prog ann_sweep (Try.f19.body.getD .skip) (retQ Try.prog Try.f19.results.toList R) (initFr [.pointer (some ⟨q0, 0, none⟩), .pointer (some ⟨q1, 0, none⟩)] Try.f19.ntmps) w = p_sweep q0 q1 R w := by kernel_rfl
theorem c_sweep (q0 : Nat) (q1 : Nat) (R : Ending → World → Prop) (w : World) (h : p_sweep q0 q1 R w) : Calls Try.prog 19 #[.pointer (some ⟨q0, 0, none⟩), .pointer (some ⟨q1, 0, none⟩)] w R :=
  calls_by (P := Try.prog) (f := 19) (fn := Try.f19) (c := Try.f19.body.getD .skip) (args := [.pointer (some ⟨q0, 0, none⟩), .pointer (some ⟨q1, 0, none⟩)]) (w := w) (R := R) (p := p_sweep q0 q1 R w) ann_sweep Try.func19 rfl (v_sweep q0 q1 R w) h

/-! (*cameo/psg.Unit).Out -/
abbrev n_Out : FuncId := 11
def ann_Out : Ann := ⟨[], [(5, [(12, .one (.int .i64))])], [(18, [])]⟩
set_option maxRecDepth 100000 in
def p_Out (q0 : Nat) (R : Ending → World → Prop) (w : World) : Prop :=
  Nw w (.cells #[.int .i64 0, .int .i64 0, .int .i64 0, .int .i64 0] 29) fun b w => Nw w (.cells #[.int .i64 0, .int .i64 0, .int .i64 0, .int .i64 0] 29) fun b_1 w_1 => (∃ I : Nat → List Value →
  World → Prop, (∃ n, I n [.int .i64 0] w_1) ∧ ∀ n, ∀ (s12 : Int) (w_2 : World), I n [.int .i64 s12] w_2 → cond (decide (s12 < 2)) (chk (decide (0 ≤ s12) && decide (s12 < ((2 : Nat) : Int))) ((∃ (x23
  : Bool), w_2.cell? ((⟨q0, 0, none⟩ : Addr).add (s12.toNat * 16)) = some (.bool x23) ∧ cond x23 ((∃ (x28 : Int), w_2.cell? (((⟨q0, 0, none⟩ : Addr).add (s12.toNat * 16)).add 11) = some (.int .i64
  x28) ∧ (∃ (x33 : Int), w_2.cell? (((⟨q0, 0, none⟩ : Addr).add (s12.toNat * 16)).add 1) = some (.int .i64 x33) ∧ chk (decide (0 ≤ x33) && decide (x33 < ((4 : Nat) : Int))) (∃ (x34 : Int), (#[.int
  .i64 1, .int .i64 2, .int .i64 4, .int .i64 6] : Array Value)[x33.toNat * 1]? = some (.int .i64 x34) ∧ (∀ n_1, cond (decide (x28 < x34)) ((∃ (x41 : Int), (w_2.drewN n_1).cell? (((⟨q0, 0, none⟩ :
  Addr).add (s12.toNat * 16)).add 7) = some (.int .i64 x41) ∧ chk (decide (0 ≤ s12) && decide (s12 < ((4 : Nat) : Int))) (St (w_2.drewN n_1) ((⟨b_1, 0, none⟩ : Addr).add (s12.toNat * 1)) (.int .i64
  x41) fun w_3 => (∃ m, m < n ∧ I m [.int .i64 (IntKind.wrap .i64 (s12 + 1))] w_3)))) ((∃ m, m < n ∧ I m [.int .i64 (IntKind.wrap .i64 (s12 + 1))] (w_2.drewN n_1)))))))) ((∀ n_2, (∃ m, m < n ∧ I m
  [.int .i64 (IntKind.wrap .i64 (s12 + 1))] (w_2.drewN n_2))))))) ((∃ J : List Value → World → Prop, ((∃ (x50 : Bool), w_2.cell? ⟨q0, 32, none⟩ = some (.bool x50) ∧ cond x50 ((∃ (x54 : Int), w_2.cell?
  ⟨q0, 43, none⟩ = some (.int .i64 x54) ∧ (∃ (x58 : Bool), w_2.cell? ⟨q0, 80, none⟩ = some (.bool x58) ∧ cond (!x58) ((∃ (x66 : Int), w_2.cell? ⟨q0, 81, none⟩ = some (.int .i64 x66) ∧ chk (decide (0 ≤
  (Int.tmod (IntKind.wrap .i64 ((IntKind.wrap .i64 (16 * x66)) + (IntKind.wrap .i64 (Int.tdiv (Int.tmod x54 32) 2)))) 32)) && decide ((Int.tmod (IntKind.wrap .i64 ((IntKind.wrap .i64 (16 * x66)) +
  (IntKind.wrap .i64 (Int.tdiv (Int.tmod x54 32) 2)))) 32) < ((32 : Nat) : Int))) ((∃ (x75 : Int), w_2.cell? ((⟨q0, 48, none⟩ : Addr).add ((Int.tmod (IntKind.wrap .i64 ((IntKind.wrap .i64 (16 * x66))
  + (IntKind.wrap .i64 (Int.tdiv (Int.tmod x54 32) 2)))) 32).toNat * 1)) = some (.int .u8 x75) ∧ chk (decide (0 ≤ (IntKind.wrap .i64 (4 - (IntKind.wrap .i64 (4 * (bits .and .i64 (Int.tmod x54 32)
  1))))))) (Lt ((IntKind.wrap .i64 (bits .and .u8 (Int.fdiv x75 (2 ^ (min (IntKind.wrap .i64 (4 - (IntKind.wrap .i64 (4 * (bits .and .i64 (Int.tmod x54 32) 1))))).toNat 8))) 15)) : Int) fun s8 => (∀
  n_3, (∃ (x94 : Int), (w_2.drewN n_3).cell? ⟨q0, 82, none⟩ = some (.int .i64 x94) ∧ chk (decide (0 ≤ x94) && decide (x94 < ((5 : Nat) : Int))) (∃ (x95 : Int), (#[.int .i64 0, .int .i64 (IntKind.wrap
  .i64 (4 * s8)), .int .i64 (IntKind.wrap .i64 (2 * s8)), .int .i64 s8, .int .i64 (IntKind.wrap .i64 (3 * s8))] : Array Value)[x94.toNat * 1]? = some (.int .i64 x95) ∧ chk (decide (0 ≤ (2 : Int)) &&
  decide ((2 : Int) < ((4 : Nat) : Int))) (St (w_2.drewN n_3) ⟨b_1, 2, none⟩ (.int .i64 (IntKind.wrap .i64 (Int.tdiv x95 4))) fun w_4 => J [] w_4))))))))) ((∃ (x66_1 : Int), w_2.cell? ⟨q0, 81, none⟩ =
  some (.int .i64 x66_1) ∧ chk (decide (0 ≤ (Int.tmod (IntKind.wrap .i64 ((IntKind.wrap .i64 (16 * x66_1)) + (IntKind.wrap .i64 (Int.tdiv x54 2)))) 32)) && decide ((Int.tmod (IntKind.wrap .i64
  ((IntKind.wrap .i64 (16 * x66_1)) + (IntKind.wrap .i64 (Int.tdiv x54 2)))) 32) < ((32 : Nat) : Int))) ((∃ (x75_1 : Int), w_2.cell? ((⟨q0, 48, none⟩ : Addr).add ((Int.tmod (IntKind.wrap .i64
  ((IntKind.wrap .i64 (16 * x66_1)) + (IntKind.wrap .i64 (Int.tdiv x54 2)))) 32).toNat * 1)) = some (.int .u8 x75_1) ∧ chk (decide (0 ≤ (IntKind.wrap .i64 (4 - (IntKind.wrap .i64 (4 * (bits .and .i64
  x54 1))))))) (Lt ((IntKind.wrap .i64 (bits .and .u8 (Int.fdiv x75_1 (2 ^ (min (IntKind.wrap .i64 (4 - (IntKind.wrap .i64 (4 * (bits .and .i64 x54 1))))).toNat 8))) 15)) : Int) fun s8_1 => (∀ n_4, (∃
  (x94_1 : Int), (w_2.drewN n_4).cell? ⟨q0, 82, none⟩ = some (.int .i64 x94_1) ∧ chk (decide (0 ≤ x94_1) && decide (x94_1 < ((5 : Nat) : Int))) (∃ (x95_1 : Int), (#[.int .i64 0, .int .i64
  (IntKind.wrap .i64 (4 * s8_1)), .int .i64 (IntKind.wrap .i64 (2 * s8_1)), .int .i64 s8_1, .int .i64 (IntKind.wrap .i64 (3 * s8_1))] : Array Value)[x94_1.toNat * 1]? = some (.int .i64 x95_1) ∧ chk
  (decide (0 ≤ (2 : Int)) && decide ((2 : Int) < ((4 : Nat) : Int))) (St (w_2.drewN n_4) ⟨b_1, 2, none⟩ (.int .i64 (IntKind.wrap .i64 (Int.tdiv x95_1 4))) fun w_5 => J [] w_5)))))))))))) (J [] w_2)))
  ∧ ∀ (w_6 : World), J [] w_6 → (∃ (x102 : Bool), w_6.cell? ⟨q0, 84, none⟩ = some (.bool x102) ∧ cond x102 ((∃ (x107 : Int), w_6.cell? ⟨q0, 100, none⟩ = some (.int .i64 x107) ∧ cond ((bits .and .i64
  x107 1) == 0) ((∃ (x115 : Int), w_6.cell? ⟨q0, 91, none⟩ = some (.int .i64 x115) ∧ chk (decide (0 ≤ (3 : Int)) && decide ((3 : Int) < ((4 : Nat) : Int))) (St w_6 ⟨b_1, 3, none⟩ (.int .i64 x115) fun
  w_7 => (∃ (x117_0 : Int), w_7.cell? ⟨b_1, 0, none⟩ = some (.int .i64 x117_0) ∧ (∃ (x117_1 : Int), w_7.cell? ⟨b_1, 1, none⟩ = some (.int .i64 x117_1) ∧ (∃ (x117_2 : Int), w_7.cell? ⟨b_1, 2, none⟩ =
  some (.int .i64 x117_2) ∧ (∃ (x117_3 : Int), w_7.cell? ⟨b_1, 3, none⟩ = some (.int .i64 x117_3) ∧ St w_7 ⟨b, 0, none⟩ (.int .i64 x117_0) fun w_8 => St w_8 ⟨b, 1, none⟩ (.int .i64 x117_1) fun w_9 =>
  St w_9 ⟨b, 2, none⟩ (.int .i64 x117_2) fun w_10 => St w_10 ⟨b, 3, none⟩ (.int .i64 x117_3) fun w_11 => (∃ (r_0 : Int), w_11.cell? ⟨b, 0, none⟩ = some (.int .i64 r_0) ∧ (∃ (r_1 : Int), w_11.cell? ⟨b,
  1, none⟩ = some (.int .i64 r_1) ∧ (∃ (r_2 : Int), w_11.cell? ⟨b, 2, none⟩ = some (.int .i64 r_2) ∧ (∃ (r_3 : Int), w_11.cell? ⟨b, 3, none⟩ = some (.int .i64 r_3) ∧ R (.returned (.agg #[.int .i64
  r_0, .int .i64 r_1, .int .i64 r_2, .int .i64 r_3])) w_11))))))))))) ((∃ (x117_0_1 : Int), w_6.cell? ⟨b_1, 0, none⟩ = some (.int .i64 x117_0_1) ∧ (∃ (x117_1_1 : Int), w_6.cell? ⟨b_1, 1, none⟩ = some
  (.int .i64 x117_1_1) ∧ (∃ (x117_2_1 : Int), w_6.cell? ⟨b_1, 2, none⟩ = some (.int .i64 x117_2_1) ∧ (∃ (x117_3_1 : Int), w_6.cell? ⟨b_1, 3, none⟩ = some (.int .i64 x117_3_1) ∧ St w_6 ⟨b, 0, none⟩
  (.int .i64 x117_0_1) fun w_12 => St w_12 ⟨b, 1, none⟩ (.int .i64 x117_1_1) fun w_13 => St w_13 ⟨b, 2, none⟩ (.int .i64 x117_2_1) fun w_14 => St w_14 ⟨b, 3, none⟩ (.int .i64 x117_3_1) fun w_15 => (∃
  (r_0_1 : Int), w_15.cell? ⟨b, 0, none⟩ = some (.int .i64 r_0_1) ∧ (∃ (r_1_1 : Int), w_15.cell? ⟨b, 1, none⟩ = some (.int .i64 r_1_1) ∧ (∃ (r_2_1 : Int), w_15.cell? ⟨b, 2, none⟩ = some (.int .i64
  r_2_1) ∧ (∃ (r_3_1 : Int), w_15.cell? ⟨b, 3, none⟩ = some (.int .i64 r_3_1) ∧ R (.returned (.agg #[.int .i64 r_0_1, .int .i64 r_1_1, .int .i64 r_2_1, .int .i64 r_3_1])) w_15))))))))))) ((∃ (x117_0_2
  : Int), w_6.cell? ⟨b_1, 0, none⟩ = some (.int .i64 x117_0_2) ∧ (∃ (x117_1_2 : Int), w_6.cell? ⟨b_1, 1, none⟩ = some (.int .i64 x117_1_2) ∧ (∃ (x117_2_2 : Int), w_6.cell? ⟨b_1, 2, none⟩ = some (.int
  .i64 x117_2_2) ∧ (∃ (x117_3_2 : Int), w_6.cell? ⟨b_1, 3, none⟩ = some (.int .i64 x117_3_2) ∧ St w_6 ⟨b, 0, none⟩ (.int .i64 x117_0_2) fun w_16 => St w_16 ⟨b, 1, none⟩ (.int .i64 x117_1_2) fun w_17
  => St w_17 ⟨b, 2, none⟩ (.int .i64 x117_2_2) fun w_18 => St w_18 ⟨b, 3, none⟩ (.int .i64 x117_3_2) fun w_19 => (∃ (r_0_2 : Int), w_19.cell? ⟨b, 0, none⟩ = some (.int .i64 r_0_2) ∧ (∃ (r_1_2 : Int),
  w_19.cell? ⟨b, 1, none⟩ = some (.int .i64 r_1_2) ∧ (∃ (r_2_2 : Int), w_19.cell? ⟨b, 2, none⟩ = some (.int .i64 r_2_2) ∧ (∃ (r_3_2 : Int), w_19.cell? ⟨b, 3, none⟩ = some (.int .i64 r_3_2) ∧ R
  (.returned (.agg #[.int .i64 r_0_2, .int .i64 r_1_2, .int .i64 r_2_2, .int .i64 r_3_2])) w_19)))))))))))))
set_option maxRecDepth 100000 in
theorem v_Out (q0 : Nat) (R : Ending → World → Prop) (w : World) :
  vc Try.prog ann_Out (Try.f11.body.getD .skip) (retQ Try.prog Try.f11.results.toList R) (initFr [.pointer (some ⟨q0, 0, none⟩)] Try.f11.ntmps) w = p_Out q0 R w := by kernel_rfl
theorem c_Out (q0 : Nat) (R : Ending → World → Prop) (w : World) (h : p_Out q0 R w) : Calls Try.prog 11 #[.pointer (some ⟨q0, 0, none⟩)] w R :=
  calls_by (P := Try.prog) (f := 11) (fn := Try.f11) (c := Try.f11.body.getD .skip) (args := [.pointer (some ⟨q0, 0, none⟩)]) (w := w) (R := R) (p := p_Out q0 R w) ann_Out Try.func11 rfl (v_Out q0 R w) h

/-! (*cameo/psg.Unit).Playing -/
abbrev n_Playing : FuncId := 10
def ann_Playing : Ann := ⟨[], [(5, [(3, .one (.int .i64)), (31, .one (.int .i64))])], []⟩
set_option maxRecDepth 100000 in
def p_Playing (q0 : Nat) (R : Ending → World → Prop) (w : World) : Prop :=
  chk (decide (0 ≤ (0 : Int)) && decide ((0 : Int) < ((2 : Nat) : Int))) ((∃ (x13 : Bool), w.cell? ⟨q0, 0, none⟩ = some (.bool x13) ∧ chk (decide (0 ≤ (1 : Int)) && decide ((1 : Int) < ((2 : Nat) :
  Int))) ((∃ (x19 : Bool), w.cell? ⟨q0, 16, none⟩ = some (.bool x19) ∧ (∃ (x24 : Bool), w.cell? ⟨q0, 32, none⟩ = some (.bool x24) ∧ (∃ (x29 : Bool), w.cell? ⟨q0, 84, none⟩ = some (.bool x29) ∧ (∀ n,
  (∃ I : Nat → List Value → World → Prop, (∃ n_1, I n_1 [.int .i64 0, .int .i64 0] (w.drewN n)) ∧ ∀ n_1, ∀ (s3 : Int) (s31 : Int) (w : World), I n_1 [.int .i64 s3, .int .i64 s31] w → cond (decide (s31
  < 4)) (chk (decide (0 ≤ s31) && decide (s31 < ((4 : Nat) : Int))) (∃ (x34 : Bool), (#[.bool x13, .bool x19, .bool x24, .bool x29] : Array Value)[s31.toNat * 1]? = some (.bool x34) ∧ cond x34 (chk
  (decide (0 ≤ s31)) (Lt ((bits .or .i64 s3 (IntKind.wrap .i64 ((1 : Int) * 2 ^ (min s31.toNat 64)))) : Int) fun s3_1 => (∃ m, m < n_1 ∧ I m [.int .i64 s3_1, .int .i64 (IntKind.wrap .i64 (s31 + 1))]
  w))) ((∃ m, m < n_1 ∧ I m [.int .i64 s3, .int .i64 (IntKind.wrap .i64 (s31 + 1))] w)))) (R (.returned (.int .i64 s3)) w)))))))))
set_option maxRecDepth 100000 in
theorem v_Playing (q0 : Nat) (R : Ending → World → Prop) (w : World) :
  vc Try.prog ann_Playing (Try.f10.body.getD .skip) (retQ Try.prog Try.f10.results.toList R) (initFr [.pointer (some ⟨q0, 0, none⟩)] Try.f10.ntmps) w = p_Playing q0 R w := by kernel_rfl
theorem c_Playing (q0 : Nat) (R : Ending → World → Prop) (w : World) (h : p_Playing q0 R w) : Calls Try.prog 10 #[.pointer (some ⟨q0, 0, none⟩)] w R :=
  calls_by (P := Try.prog) (f := 10) (fn := Try.f10) (c := Try.f10.body.getD .skip) (args := [.pointer (some ⟨q0, 0, none⟩)]) (w := w) (R := R) (p := p_Playing q0 R w) ann_Playing Try.func10 rfl (v_Playing q0 R w) h

/-! (*cameo/psg.Unit).Write -/
abbrev n_WriteN : FuncId := 8
def ann_WriteN : Ann := ⟨[], [], []⟩
set_option maxRecDepth 100000 in
def p_WriteN (q1 : Int) (q2 : Int) (q3 : Int) (R : Ending → World → Prop) (w : World) : Prop :=
  R (.returned (.tuple #[])) w
set_option maxRecDepth 100000 in
theorem v_WriteN (q1 : Int) (q2 : Int) (q3 : Int) (R : Ending → World → Prop) (w : World) :
  vc Try.prog ann_WriteN (Try.f8.body.getD .skip) (retQ Try.prog Try.f8.results.toList R) (initFr [.pointer none, .int .i64 q1, .int .i64 q2, .int .u16 q3] Try.f8.ntmps) w = p_WriteN q1 q2 q3 R w := by kernel_rfl
theorem c_WriteN (q1 : Int) (q2 : Int) (q3 : Int) (R : Ending → World → Prop) (w : World) (h : p_WriteN q1 q2 q3 R w) : Calls Try.prog 8 #[.pointer none, .int .i64 q1, .int .i64 q2, .int .u16 q3] w R :=
  calls_by (P := Try.prog) (f := 8) (fn := Try.f8) (c := Try.f8.body.getD .skip) (args := [.pointer none, .int .i64 q1, .int .i64 q2, .int .u16 q3]) (w := w) (R := R) (p := p_WriteN q1 q2 q3 R w) ann_WriteN Try.func8 rfl (v_WriteN q1 q2 q3 R w) h
set_option maxRecDepth 100000 in
def q_WriteN (q1 : Int) (q2 : Int) (q3 : Int) (R : Value → Prop) : Prop :=
  R (.tuple #[])
set_option maxRecDepth 100000 in
set_option maxHeartbeats 4000000 in
theorem u_WriteN (q1 : Int) (q2 : Int) (q3 : Int) (R : Value → Prop) (w0 : World) (hq : q_WriteN q1 q2 q3 R) : Calls Try.prog 8 #[.pointer none, .int .i64 q1, .int .i64 q2, .int .u16 q3] w0 (fun e w' => ∃ v, e = .returned v ∧ R v ∧ Chg (fun _ => False) w0 w') := by
  apply c_WriteN
  unfold p_WriteN
  unfold q_WriteN at hq
  have g0 : Chg (fun _ => False) w0 w0 := Chg.refl _ _
  exact (
  ⟨_, rfl, hq, g0⟩)
theorem pure_WriteN (q1 : Int) (q2 : Int) (q3 : Int) (r : Value) (hq : q_WriteN q1 q2 q3 (fun v => v = r)) : PureCalls Try.prog 8 #[.pointer none, .int .i64 q1, .int .i64 q2, .int .u16 q3] r :=
  fun w => (u_WriteN q1 q2 q3 _ w hq).mono fun _ _ ⟨_, he, hv, hc⟩ => ⟨by rw [he, hv], hc⟩

/-! (*cameo/psg.Unit).Bank -/
abbrev n_BankN : FuncId := 12
def ann_BankN : Ann := ⟨[], [], []⟩
set_option maxRecDepth 100000 in
def p_BankN (q1 : Int) (q2 : Int) (q3 : Int) (R : Ending → World → Prop) (w : World) : Prop :=
  R (.returned (.tuple #[])) w
set_option maxRecDepth 100000 in
theorem v_BankN (q1 : Int) (q2 : Int) (q3 : Int) (R : Ending → World → Prop) (w : World) :
  vc Try.prog ann_BankN (Try.f12.body.getD .skip) (retQ Try.prog Try.f12.results.toList R) (initFr [.pointer none, .int .i64 q1, .int .i64 q2, .int .u8 q3] Try.f12.ntmps) w = p_BankN q1 q2 q3 R w := by kernel_rfl
theorem c_BankN (q1 : Int) (q2 : Int) (q3 : Int) (R : Ending → World → Prop) (w : World) (h : p_BankN q1 q2 q3 R w) : Calls Try.prog 12 #[.pointer none, .int .i64 q1, .int .i64 q2, .int .u8 q3] w R :=
  calls_by (P := Try.prog) (f := 12) (fn := Try.f12) (c := Try.f12.body.getD .skip) (args := [.pointer none, .int .i64 q1, .int .i64 q2, .int .u8 q3]) (w := w) (R := R) (p := p_BankN q1 q2 q3 R w) ann_BankN Try.func12 rfl (v_BankN q1 q2 q3 R w) h
set_option maxRecDepth 100000 in
def q_BankN (q1 : Int) (q2 : Int) (q3 : Int) (R : Value → Prop) : Prop :=
  R (.tuple #[])
set_option maxRecDepth 100000 in
set_option maxHeartbeats 4000000 in
theorem u_BankN (q1 : Int) (q2 : Int) (q3 : Int) (R : Value → Prop) (w0 : World) (hq : q_BankN q1 q2 q3 R) : Calls Try.prog 12 #[.pointer none, .int .i64 q1, .int .i64 q2, .int .u8 q3] w0 (fun e w' => ∃ v, e = .returned v ∧ R v ∧ Chg (fun _ => False) w0 w') := by
  apply c_BankN
  unfold p_BankN
  unfold q_BankN at hq
  have g0 : Chg (fun _ => False) w0 w0 := Chg.refl _ _
  exact (
  ⟨_, rfl, hq, g0⟩)
theorem pure_BankN (q1 : Int) (q2 : Int) (q3 : Int) (r : Value) (hq : q_BankN q1 q2 q3 (fun v => v = r)) : PureCalls Try.prog 12 #[.pointer none, .int .i64 q1, .int .i64 q2, .int .u8 q3] r :=
  fun w => (u_BankN q1 q2 q3 _ w hq).mono fun _ _ ⟨_, he, hv, hc⟩ => ⟨by rw [he, hv], hc⟩

/-! (*cameo/psg.Unit).Peek -/
abbrev n_PeekN : FuncId := 13
def ann_PeekN : Ann := ⟨[], [], []⟩
set_option maxRecDepth 100000 in
def p_PeekN (q1 : Int) (R : Ending → World → Prop) (w : World) : Prop :=
  R (.returned (.int .u8 0)) w
set_option maxRecDepth 100000 in
theorem v_PeekN (q1 : Int) (R : Ending → World → Prop) (w : World) :
  vc Try.prog ann_PeekN (Try.f13.body.getD .skip) (retQ Try.prog Try.f13.results.toList R) (initFr [.pointer none, .int .i64 q1] Try.f13.ntmps) w = p_PeekN q1 R w := by kernel_rfl
theorem c_PeekN (q1 : Int) (R : Ending → World → Prop) (w : World) (h : p_PeekN q1 R w) : Calls Try.prog 13 #[.pointer none, .int .i64 q1] w R :=
  calls_by (P := Try.prog) (f := 13) (fn := Try.f13) (c := Try.f13.body.getD .skip) (args := [.pointer none, .int .i64 q1]) (w := w) (R := R) (p := p_PeekN q1 R w) ann_PeekN Try.func13 rfl (v_PeekN q1 R w) h
set_option maxRecDepth 100000 in
def q_PeekN (q1 : Int) (R : Value → Prop) : Prop :=
  R (.int .u8 0)
set_option maxRecDepth 100000 in
set_option maxHeartbeats 4000000 in
theorem u_PeekN (q1 : Int) (R : Value → Prop) (w0 : World) (hq : q_PeekN q1 R) : Calls Try.prog 13 #[.pointer none, .int .i64 q1] w0 (fun e w' => ∃ v, e = .returned v ∧ R v ∧ Chg (fun _ => False) w0 w') := by
  apply c_PeekN
  unfold p_PeekN
  unfold q_PeekN at hq
  have g0 : Chg (fun _ => False) w0 w0 := Chg.refl _ _
  exact (
  ⟨_, rfl, hq, g0⟩)
theorem pure_PeekN (q1 : Int) (r : Value) (hq : q_PeekN q1 (fun v => v = r)) : PureCalls Try.prog 13 #[.pointer none, .int .i64 q1] r :=
  fun w => (u_PeekN q1 _ w hq).mono fun _ _ ⟨_, he, hv, hc⟩ => ⟨by rw [he, hv], hc⟩

/-! (*cameo/psg.Unit).Run -/
abbrev n_RunN : FuncId := 9
def ann_RunN : Ann := ⟨[], [], []⟩
set_option maxRecDepth 100000 in
def p_RunN (q1 : Int) (R : Ending → World → Prop) (w : World) : Prop :=
  R (.returned (.tuple #[])) w
set_option maxRecDepth 100000 in
theorem v_RunN (q1 : Int) (R : Ending → World → Prop) (w : World) :
  vc Try.prog ann_RunN (Try.f9.body.getD .skip) (retQ Try.prog Try.f9.results.toList R) (initFr [.pointer none, .int .i64 q1] Try.f9.ntmps) w = p_RunN q1 R w := by kernel_rfl
theorem c_RunN (q1 : Int) (R : Ending → World → Prop) (w : World) (h : p_RunN q1 R w) : Calls Try.prog 9 #[.pointer none, .int .i64 q1] w R :=
  calls_by (P := Try.prog) (f := 9) (fn := Try.f9) (c := Try.f9.body.getD .skip) (args := [.pointer none, .int .i64 q1]) (w := w) (R := R) (p := p_RunN q1 R w) ann_RunN Try.func9 rfl (v_RunN q1 R w) h
set_option maxRecDepth 100000 in
def q_RunN (q1 : Int) (R : Value → Prop) : Prop :=
  R (.tuple #[])
set_option maxRecDepth 100000 in
set_option maxHeartbeats 4000000 in
theorem u_RunN (q1 : Int) (R : Value → Prop) (w0 : World) (hq : q_RunN q1 R) : Calls Try.prog 9 #[.pointer none, .int .i64 q1] w0 (fun e w' => ∃ v, e = .returned v ∧ R v ∧ Chg (fun _ => False) w0 w') := by
  apply c_RunN
  unfold p_RunN
  unfold q_RunN at hq
  have g0 : Chg (fun _ => False) w0 w0 := Chg.refl _ _
  exact (
  ⟨_, rfl, hq, g0⟩)
theorem pure_RunN (q1 : Int) (r : Value) (hq : q_RunN q1 (fun v => v = r)) : PureCalls Try.prog 9 #[.pointer none, .int .i64 q1] r :=
  fun w => (u_RunN q1 _ w hq).mono fun _ _ ⟨_, he, hv, hc⟩ => ⟨by rw [he, hv], hc⟩

/-! (*cameo/psg.Unit).Out -/
abbrev n_OutN : FuncId := 11
def ann_OutN : Ann := ⟨[], [], []⟩
set_option maxRecDepth 100000 in
def p_OutN (R : Ending → World → Prop) (w : World) : Prop :=
  Nw w (.cells #[.int .i64 0, .int .i64 0, .int .i64 0, .int .i64 0] 29) fun b w => Nw w (.cells #[.int .i64 0, .int .i64 0, .int .i64 0, .int .i64 0] 29) fun b_1 w_1 => (∃ (x11_0 : Int), w_1.cell?
  ⟨b_1, 0, none⟩ = some (.int .i64 x11_0) ∧ (∃ (x11_1 : Int), w_1.cell? ⟨b_1, 1, none⟩ = some (.int .i64 x11_1) ∧ (∃ (x11_2 : Int), w_1.cell? ⟨b_1, 2, none⟩ = some (.int .i64 x11_2) ∧ (∃ (x11_3 :
  Int), w_1.cell? ⟨b_1, 3, none⟩ = some (.int .i64 x11_3) ∧ St w_1 ⟨b, 0, none⟩ (.int .i64 x11_0) fun w_2 => St w_2 ⟨b, 1, none⟩ (.int .i64 x11_1) fun w_3 => St w_3 ⟨b, 2, none⟩ (.int .i64 x11_2) fun
  w_4 => St w_4 ⟨b, 3, none⟩ (.int .i64 x11_3) fun w_5 => (∃ (r_0 : Int), w_5.cell? ⟨b, 0, none⟩ = some (.int .i64 r_0) ∧ (∃ (r_1 : Int), w_5.cell? ⟨b, 1, none⟩ = some (.int .i64 r_1) ∧ (∃ (r_2 :
  Int), w_5.cell? ⟨b, 2, none⟩ = some (.int .i64 r_2) ∧ (∃ (r_3 : Int), w_5.cell? ⟨b, 3, none⟩ = some (.int .i64 r_3) ∧ R (.returned (.agg #[.int .i64 r_0, .int .i64 r_1, .int .i64 r_2, .int .i64
  r_3])) w_5))))))))
set_option maxRecDepth 100000 in
theorem v_OutN (R : Ending → World → Prop) (w : World) :
  vc Try.prog ann_OutN (Try.f11.body.getD .skip) (retQ Try.prog Try.f11.results.toList R) (initFr [.pointer none] Try.f11.ntmps) w = p_OutN R w := by kernel_rfl
theorem c_OutN (R : Ending → World → Prop) (w : World) (h : p_OutN R w) : Calls Try.prog 11 #[.pointer none] w R :=
  calls_by (P := Try.prog) (f := 11) (fn := Try.f11) (c := Try.f11.body.getD .skip) (args := [.pointer none]) (w := w) (R := R) (p := p_OutN R w) ann_OutN Try.func11 rfl (v_OutN R w) h
set_option maxRecDepth 100000 in
def q_OutN (R : Value → Prop) : Prop :=
  R (.agg #[.int .i64 (0 : Int), .int .i64 (0 : Int), .int .i64 (0 : Int), .int .i64 (0 : Int)])
set_option maxRecDepth 100000 in
set_option maxHeartbeats 4000000 in
theorem u_OutN (R : Value → Prop) (w0 : World) (hq : q_OutN R) : Calls Try.prog 11 #[.pointer none] w0 (fun e w' => ∃ v, e = .returned v ∧ R v ∧ Chg (fun _ => False) w0 w') := by
  apply c_OutN
  unfold p_OutN
  unfold q_OutN at hq
  have g0 : Chg (fun _ => False) w0 w0 := Chg.refl _ _
  exact (
  Nw_blk (cs := [.int .i64 0, .int .i64 0, .int .i64 0, .int .i64 0]) fun w b1 c2 s3 => have g4 := g0.then c2 (fun _ _ h => h);
  Nw_blk (cs := [.int .i64 0, .int .i64 0, .int .i64 0, .int .i64 0]) fun w_1 b5 c6 s7 => have b8 := b1.keep c6 (fun h => h);
  have g9 := g4.then c6 (fun _ _ h => h);
  ⟨(0 : Int), b5.cell 0, ⟨(0 : Int), b5.cell 1, ⟨(0 : Int), b5.cell 2, ⟨(0 : Int), b5.cell 3, St_blk b8 rfl fun w_2 (b10 : Blk _ _ [.int .i64 (0 : Int), .int .i64 0, .int .i64 0, .int .i64 0] _) c11 s12 => have b13 := b5.keep c11 (Nat.ne_of_gt b1.lt);
  have g14 := g9.then c11 (fun k hk e => absurd hk (Nat.not_lt.2 (Nat.le_trans g0.size (Nat.le_of_eq e.symm))));
  St_blk b10 rfl fun w_3 (b15 : Blk _ _ [.int .i64 (0 : Int), .int .i64 (0 : Int), .int .i64 0, .int .i64 0] _) c16 s17 => have b18 := b13.keep c16 (Nat.ne_of_gt b1.lt);
  have g19 := g14.then c16 (fun k hk e => absurd hk (Nat.not_lt.2 (Nat.le_trans g0.size (Nat.le_of_eq e.symm))));
  St_blk b15 rfl fun w_4 (b20 : Blk _ _ [.int .i64 (0 : Int), .int .i64 (0 : Int), .int .i64 (0 : Int), .int .i64 0] _) c21 s22 => have b23 := b18.keep c21 (Nat.ne_of_gt b1.lt);
  have g24 := g19.then c21 (fun k hk e => absurd hk (Nat.not_lt.2 (Nat.le_trans g0.size (Nat.le_of_eq e.symm))));
  St_blk b20 rfl fun w_5 (b25 : Blk _ _ [.int .i64 (0 : Int), .int .i64 (0 : Int), .int .i64 (0 : Int), .int .i64 (0 : Int)] _) c26 s27 => have b28 := b23.keep c26 (Nat.ne_of_gt b1.lt);
  have g29 := g24.then c26 (fun k hk e => absurd hk (Nat.not_lt.2 (Nat.le_trans g0.size (Nat.le_of_eq e.symm))));
  ⟨(0 : Int), b25.cell 0, ⟨(0 : Int), b25.cell 1, ⟨(0 : Int), b25.cell 2, ⟨(0 : Int), b25.cell 3, ⟨_, rfl, hq, g29⟩⟩⟩⟩⟩⟩⟩⟩⟩)
theorem pure_OutN (r : Value) (hq : q_OutN (fun v => v = r)) : PureCalls Try.prog 11 #[.pointer none] r :=
  fun w => (u_OutN _ w hq).mono fun _ _ ⟨_, he, hv, hc⟩ => ⟨by rw [he, hv], hc⟩

/-! (*cameo/psg.Unit).Playing -/
abbrev n_PlayingN : FuncId := 10
def ann_PlayingN : Ann := ⟨[], [], []⟩
set_option maxRecDepth 100000 in
def p_PlayingN (R : Ending → World → Prop) (w : World) : Prop :=
  R (.returned (.int .i64 0)) w
set_option maxRecDepth 100000 in
theorem v_PlayingN (R : Ending → World → Prop) (w : World) :
  vc Try.prog ann_PlayingN (Try.f10.body.getD .skip) (retQ Try.prog Try.f10.results.toList R) (initFr [.pointer none] Try.f10.ntmps) w = p_PlayingN R w := by kernel_rfl
theorem c_PlayingN (R : Ending → World → Prop) (w : World) (h : p_PlayingN R w) : Calls Try.prog 10 #[.pointer none] w R :=
  calls_by (P := Try.prog) (f := 10) (fn := Try.f10) (c := Try.f10.body.getD .skip) (args := [.pointer none]) (w := w) (R := R) (p := p_PlayingN R w) ann_PlayingN Try.func10 rfl (v_PlayingN R w) h
set_option maxRecDepth 100000 in
def q_PlayingN (R : Value → Prop) : Prop :=
  R (.int .i64 0)
set_option maxRecDepth 100000 in
set_option maxHeartbeats 4000000 in
theorem u_PlayingN (R : Value → Prop) (w0 : World) (hq : q_PlayingN R) : Calls Try.prog 10 #[.pointer none] w0 (fun e w' => ∃ v, e = .returned v ∧ R v ∧ Chg (fun _ => False) w0 w') := by
  apply c_PlayingN
  unfold p_PlayingN
  unfold q_PlayingN at hq
  have g0 : Chg (fun _ => False) w0 w0 := Chg.refl _ _
  exact (
  ⟨_, rfl, hq, g0⟩)
theorem pure_PlayingN (r : Value) (hq : q_PlayingN (fun v => v = r)) : PureCalls Try.prog 10 #[.pointer none] r :=
  fun w => (u_PlayingN _ w hq).mono fun _ _ ⟨_, he, hv, hc⟩ => ⟨by rw [he, hv], hc⟩

/-! cameo/cameolaw22.awake -/
abbrev n_awake : FuncId := 6
def ann_awake : Ann := ⟨[], [], []⟩
set_option maxRecDepth 100000 in
def p_awake (R : Ending → World → Prop) (w : World) : Prop :=
  (Calls Try.prog 7 #[] w fun e w => ∃ (x4 : Option Addr), e = .returned (.pointer x4) ∧ (Calls Try.prog 8 #[.pointer x4, .int .i64 0, .int .i64 1, .int .u16 61568] w fun e w_1 => e = .returned
  (.tuple #[]) ∧ (Calls Try.prog 8 #[.pointer x4, .int .i64 0, .int .i64 2, .int .u16 34560] w_1 fun e w_2 => e = .returned (.tuple #[]) ∧ (Calls Try.prog 11 #[.pointer x4] w_2 fun e w_3 => ∃ (x10_0 :
  Int) (x10_1 : Int) (x10_2 : Int) (x10_3 : Int), e = .returned (.agg #[.int .i64 x10_0, .int .i64 x10_1, .int .i64 x10_2, .int .i64 x10_3]) ∧ (Calls Try.prog 10 #[.pointer x4] w_3 fun e w_4 => ∃ (x12
  : Int), e = .returned (.int .i64 x12) ∧ Nw w_4 (.cells #[.int .i64 0, .int .i64 0, .int .i64 0, .int .i64 0] 29) fun b w_5 => St w_5 ⟨b, 0, none⟩ (.int .i64 x10_0) fun w_6 => St w_6 ⟨b, 1, none⟩
  (.int .i64 x10_1) fun w_7 => St w_7 ⟨b, 2, none⟩ (.int .i64 x10_2) fun w_8 => St w_8 ⟨b, 3, none⟩ (.int .i64 x10_3) fun w_9 => (Calls Try.prog 9 #[.pointer x4, .int .i64 16384] w_9 fun e w_10 => e =
  .returned (.tuple #[]) ∧ chk (decide (0 ≤ (0 : Int)) && decide ((0 : Int) < ((4 : Nat) : Int))) ((∃ (x16 : Int), w_10.cell? ⟨b, 0, none⟩ = some (.int .i64 x16) ∧ cond (x16 == 15) (cond (x12 == 1)
  ((Calls Try.prog 11 #[.pointer x4] w_10 fun e w_11 => ∃ (x24_0 : Int) (x24_1 : Int) (x24_2 : Int) (x24_3 : Int), e = .returned (.agg #[.int .i64 x24_0, .int .i64 x24_1, .int .i64 x24_2, .int .i64
  x24_3]) ∧ chk (decide (0 ≤ (0 : Int)) && decide ((0 : Int) < ((4 : Nat) : Int))) (∃ (x25 : Int), (#[.int .i64 x24_0, .int .i64 x24_1, .int .i64 x24_2, .int .i64 x24_3] : Array Value)[(0 : Int).toNat
  * 1]? = some (.int .i64 x25) ∧ R (.returned (.bool (x25 == 0))) w_11))) (R (.returned (.bool false)) w_10)) (R (.returned (.bool false)) w_10)))))))))
set_option maxRecDepth 100000 in
theorem v_awake (R : Ending → World → Prop) (w : World) :
  vc Try.prog ann_awake (Try.f6.body.getD .skip) (retQ Try.prog Try.f6.results.toList R) (initFr [] Try.f6.ntmps) w = p_awake R w := by kernel_rfl
theorem c_awake (R : Ending → World → Prop) (w : World) (h : p_awake R w) : Calls Try.prog 6 #[] w R :=
  calls_by (P := Try.prog) (f := 6) (fn := Try.f6) (c := Try.f6.body.getD .skip) (args := []) (w := w) (R := R) (p := p_awake R w) ann_awake Try.func6 rfl (v_awake R w) h
set_option maxRecDepth 100000 in
def q_awake (R : Value → Prop) : Prop :=
  (∃ (x4 : Option Addr), PureCalls Try.prog 7 #[] (.pointer x4) ∧ (PureCalls Try.prog 8 #[.pointer x4, .int .i64 0, .int .i64 1, .int .u16 61568] (.tuple #[]) ∧ (PureCalls Try.prog 8 #[.pointer x4,
  .int .i64 0, .int .i64 2, .int .u16 34560] (.tuple #[]) ∧ (∃ (x10_0 : Int) (x10_1 : Int) (x10_2 : Int) (x10_3 : Int), PureCalls Try.prog 11 #[.pointer x4] (.agg #[.int .i64 x10_0, .int .i64 x10_1,
  .int .i64 x10_2, .int .i64 x10_3]) ∧ (∃ (x12 : Int), PureCalls Try.prog 10 #[.pointer x4] (.int .i64 x12) ∧ (PureCalls Try.prog 9 #[.pointer x4, .int .i64 16384] (.tuple #[]) ∧ chk (decide (0 ≤ (0 :
  Int)) && decide ((0 : Int) < ((4 : Nat) : Int))) (cond (x10_0 == 15) (cond (x12 == 1) ((∃ (x24_0 : Int) (x24_1 : Int) (x24_2 : Int) (x24_3 : Int), PureCalls Try.prog 11 #[.pointer x4] (.agg #[.int
  .i64 x24_0, .int .i64 x24_1, .int .i64 x24_2, .int .i64 x24_3]) ∧ chk (decide (0 ≤ (0 : Int)) && decide ((0 : Int) < ((4 : Nat) : Int))) (∃ (x25 : Int), (#[.int .i64 x24_0, .int .i64 x24_1, .int
  .i64 x24_2, .int .i64 x24_3] : Array Value)[(0 : Int).toNat * 1]? = some (.int .i64 x25) ∧ R (.bool (x25 == 0))))) (R (.bool false))) (R (.bool false)))))))))
set_option maxRecDepth 100000 in
set_option maxHeartbeats 4000000 in
theorem u_awake (R : Value → Prop) (w0 : World) (hq : q_awake R) : Calls Try.prog 6 #[] w0 (fun e w' => ∃ v, e = .returned v ∧ R v ∧ Chg (fun _ => False) w0 w') := by
  apply c_awake
  unfold p_awake
  unfold q_awake at hq
  have g0 : Chg (fun _ => False) w0 w0 := Chg.refl _ _
  exact (
  hq.elim fun x4 h1 => (h1.1 w0).mono fun _ w e2 => ⟨x4, e2.1, have g3 := g0.then e2.2 (fun _ _ h => h);
  (h1.2.1 w).mono fun _ w_1 e4 => ⟨e4.1, have g5 := g3.then e4.2 (fun _ _ h => h);
  (h1.2.2.1 w_1).mono fun _ w_2 e6 => ⟨e6.1, have g7 := g5.then e6.2 (fun _ _ h => h);
  h1.2.2.2.elim fun x10_0 h8 => h8.elim fun x10_1 h9 => h9.elim fun x10_2 h10 => h10.elim fun x10_3 h11 => (h11.1 w_2).mono fun _ w_3 e12 => ⟨x10_0, x10_1, x10_2, x10_3, e12.1, have g13 := g7.then e12.2 (fun _ _ h => h);
  h11.2.elim fun x12 h14 => (h14.1 w_3).mono fun _ w_4 e15 => ⟨x12, e15.1, have g16 := g13.then e15.2 (fun _ _ h => h);
  Nw_blk (cs := [.int .i64 0, .int .i64 0, .int .i64 0, .int .i64 0]) fun w_5 b17 c18 s19 => have g20 := g16.then c18 (fun _ _ h => h);
  St_blk b17 rfl fun w_6 (b21 : Blk _ _ [.int .i64 x10_0, .int .i64 0, .int .i64 0, .int .i64 0] _) c22 s23 => have g24 := g20.then c22 (fun k hk e => absurd hk (Nat.not_lt.2 (Nat.le_trans g16.size (Nat.le_of_eq e.symm))));
  St_blk b21 rfl fun w_7 (b25 : Blk _ _ [.int .i64 x10_0, .int .i64 x10_1, .int .i64 0, .int .i64 0] _) c26 s27 => have g28 := g24.then c26 (fun k hk e => absurd hk (Nat.not_lt.2 (Nat.le_trans g16.size (Nat.le_of_eq e.symm))));
  St_blk b25 rfl fun w_8 (b29 : Blk _ _ [.int .i64 x10_0, .int .i64 x10_1, .int .i64 x10_2, .int .i64 0] _) c30 s31 => have g32 := g28.then c30 (fun k hk e => absurd hk (Nat.not_lt.2 (Nat.le_trans g16.size (Nat.le_of_eq e.symm))));
  St_blk b29 rfl fun w_9 (b33 : Blk _ _ [.int .i64 x10_0, .int .i64 x10_1, .int .i64 x10_2, .int .i64 x10_3] _) c34 s35 => have g36 := g32.then c34 (fun k hk e => absurd hk (Nat.not_lt.2 (Nat.le_trans g16.size (Nat.le_of_eq e.symm))));
  (h14.2.1 w_9).mono fun _ w_10 e37 => ⟨e37.1, have b39 := b33.keep e37.2 (fun h => h);
  have g38 := g36.then e37.2 (fun _ _ h => h);
  chkM h14.2.2 (fun h40 => ⟨x10_0, b39.cell 0, condM h40 (fun h41 => condM h41 (fun h42 => h42.elim fun x24_0 h43 => h43.elim fun x24_1 h44 => h44.elim fun x24_2 h45 => h45.elim fun x24_3 h46 => (h46.1 w_10).mono fun _ w_11 e47 => ⟨x24_0, x24_1, x24_2, x24_3, e47.1, have b49 := b39.keep e47.2 (fun h => h);
  have g48 := g38.then e47.2 (fun _ _ h => h);
  chkM h46.2 (fun h50 => h50.elim fun x25 h51 => ⟨x25, h51.1, ⟨_, rfl, h51.2, g48⟩⟩)⟩) (fun h42 => ⟨_, rfl, h42, g38⟩)) (fun h41 => ⟨_, rfl, h41, g38⟩)⟩)⟩⟩⟩⟩⟩⟩)
theorem pure_awake (r : Value) (hq : q_awake (fun v => v = r)) : PureCalls Try.prog 6 #[] r :=
  fun w => (u_awake _ w hq).mono fun _ _ ⟨_, he, hv, hc⟩ => ⟨by rw [he, hv], hc⟩

/-! cameo/cameolaw22.PsgLengths -/
abbrev n_PsgLengths : FuncId := 3
def ann_PsgLengths : Ann := ⟨[(9, .held [1]), (16, .held [1])], [], []⟩
set_option maxRecDepth 100000 in
def p_PsgLengths (q0 : Int) (q1 : Int) (q2 : Int) (R : Ending → World → Prop) (w : World) : Prop :=
  (Calls Try.prog 6 #[] w fun e w => ∃ (x9 : Bool), e = .returned (.bool x9) ∧ cond (!x9) (R (.returned (.bool false)) w) ((Calls Try.prog 7 #[] w fun e w_1 => ∃ (x13 : Option Addr), e = .returned
  (.pointer x13) ∧ (Calls Try.prog 8 #[.pointer x13, .int .i64 0, .int .i64 (IntKind.wrap .i64 (1 + (IntKind.wrap .i64 (2 * (bits .and .i64 q0 1))))), .int .u16 (bits .or .u16 (bits .and .u16 q1 63)
  61440)] w_1 fun e w_2 => e = .returned (.tuple #[]) ∧ (Calls Try.prog 8 #[.pointer x13, .int .i64 0, .int .i64 (IntKind.wrap .i64 (2 + (IntKind.wrap .i64 (2 * (bits .and .i64 q0 1))))), .int .u16
  (bits .or .u16 (bits .and .u16 q2 2047) 49152)] w_2 fun e w_3 => e = .returned (.tuple #[]) ∧ Lt ((IntKind.wrap .i64 (65536 * (IntKind.wrap .i64 (64 - (IntKind.wrap .i64 (bits .and .u16 q1 63))))))
  : Int) fun s8 => (Calls Try.prog 9 #[.pointer x13, .int .i64 (IntKind.wrap .i64 (s8 - 1))] w_3 fun e w_4 => e = .returned (.tuple #[]) ∧ (∃ S : World → Prop, S (w_4.drewN 1) ∧ chk (decide (0 ≤ (bits
  .and .i64 q0 1))) ((Calls Try.prog 10 #[.pointer x13] (w_4.drewN 1) fun e w_5 => ∃ (x40 : Int), e = .returned (.int .i64 x40) ∧ (S w_5 ∧ cond (x40 != (IntKind.wrap .i64 ((1 : Int) * 2 ^ (min (bits
  .and .i64 q0 1).toNat 64)))) (R (.returned (.bool false)) w_5) ((Calls Try.prog 9 #[.pointer x13, .int .i64 s8] w_5 fun e w_6 => e = .returned (.tuple #[]) ∧ (Calls Try.prog 10 #[.pointer x13] w_6
  fun e w_7 => ∃ (x48 : Int), e = .returned (.int .i64 x48) ∧ cond (x48 != 0) (R (.returned (.bool false)) w_7) ((Calls Try.prog 11 #[.pointer x13] w_7 fun e w_8 => ∃ (x52_0 : Int) (x52_1 : Int)
  (x52_2 : Int) (x52_3 : Int), e = .returned (.agg #[.int .i64 x52_0, .int .i64 x52_1, .int .i64 x52_2, .int .i64 x52_3]) ∧ cond (!(((x52_0 == 0) && ((x52_1 == 0) && ((x52_2 == 0) && (x52_3 == 0))))))
  (R (.returned (.bool false)) w_8) ((Calls Try.prog 8 #[.pointer x13, .int .i64 s8, .int .i64 (IntKind.wrap .i64 (2 + (IntKind.wrap .i64 (2 * (bits .and .i64 q0 1))))), .int .u16 (bits .or .u16 (bits
  .and .u16 q2 2047) 32768)] w_8 fun e w_9 => e = .returned (.tuple #[]) ∧ (Calls Try.prog 9 #[.pointer x13, .int .i64 (IntKind.wrap .i64 (s8 + 10000000))] w_9 fun e w_10 => e = .returned (.tuple #[])
  ∧ (∃ S_1 : World → Prop, S_1 (w_10.drewN 1) ∧ chk (decide (0 ≤ (bits .and .i64 q0 1))) ((Calls Try.prog 10 #[.pointer x13] (w_10.drewN 1) fun e w_11 => ∃ (x70 : Int), e = .returned (.int .i64 x70) ∧
  (S_1 w_11 ∧ Lt (x70 == (IntKind.wrap .i64 ((1 : Int) * 2 ^ (min (bits .and .i64 q0 1).toNat 64))) : Bool) fun s6 => R (.returned (.bool s6)) w_11))))))))))))))))))))))
set_option maxRecDepth 100000 in
theorem v_PsgLengths (q0 : Int) (q1 : Int) (q2 : Int) (R : Ending → World → Prop) (w : World) :
  vc Try.prog ann_PsgLengths (Try.f3.body.getD .skip) (retQ Try.prog Try.f3.results.toList R) (initFr [.int .i64 q0, .int .u16 q1, .int .u16 q2] Try.f3.ntmps) w = p_PsgLengths q0 q1 q2 R w := by kernel_rfl
theorem c_PsgLengths (q0 : Int) (q1 : Int) (q2 : Int) (R : Ending → World → Prop) (w : World) (h : p_PsgLengths q0 q1 q2 R w) : Calls Try.prog 3 #[.int .i64 q0, .int .u16 q1, .int .u16 q2] w R :=
  calls_by (P := Try.prog) (f := 3) (fn := Try.f3) (c := Try.f3.body.getD .skip) (args := [.int .i64 q0, .int .u16 q1, .int .u16 q2]) (w := w) (R := R) (p := p_PsgLengths q0 q1 q2 R w) ann_PsgLengths Try.func3 rfl (v_PsgLengths q0 q1 q2 R w) h
set_option maxRecDepth 100000 in
def q_PsgLengths (q0 : Int) (q1 : Int) (q2 : Int) (R : Value → Prop) : Prop :=
  (∃ (x9 : Bool), PureCalls Try.prog 6 #[] (.bool x9) ∧ cond (!x9) (R (.bool false)) ((∃ (x13 : Option Addr), PureCalls Try.prog 7 #[] (.pointer x13) ∧ (PureCalls Try.prog 8 #[.pointer x13, .int .i64
  0, .int .i64 (IntKind.wrap .i64 (1 + (IntKind.wrap .i64 (2 * (bits .and .i64 q0 1))))), .int .u16 (bits .or .u16 (bits .and .u16 q1 63) 61440)] (.tuple #[]) ∧ (PureCalls Try.prog 8 #[.pointer x13,
  .int .i64 0, .int .i64 (IntKind.wrap .i64 (2 + (IntKind.wrap .i64 (2 * (bits .and .i64 q0 1))))), .int .u16 (bits .or .u16 (bits .and .u16 q2 2047) 49152)] (.tuple #[]) ∧ Lt ((IntKind.wrap .i64
  (65536 * (IntKind.wrap .i64 (64 - (IntKind.wrap .i64 (bits .and .u16 q1 63)))))) : Int) fun s8 => (PureCalls Try.prog 9 #[.pointer x13, .int .i64 (IntKind.wrap .i64 (s8 - 1))] (.tuple #[]) ∧ chk
  (decide (0 ≤ (bits .and .i64 q0 1))) ((∃ (x40 : Int), PureCalls Try.prog 10 #[.pointer x13] (.int .i64 x40) ∧ cond (x40 != (IntKind.wrap .i64 ((1 : Int) * 2 ^ (min (bits .and .i64 q0 1).toNat 64))))
  (R (.bool false)) ((PureCalls Try.prog 9 #[.pointer x13, .int .i64 s8] (.tuple #[]) ∧ (∃ (x48 : Int), PureCalls Try.prog 10 #[.pointer x13] (.int .i64 x48) ∧ cond (x48 != 0) (R (.bool false)) ((∃
  (x52_0 : Int) (x52_1 : Int) (x52_2 : Int) (x52_3 : Int), PureCalls Try.prog 11 #[.pointer x13] (.agg #[.int .i64 x52_0, .int .i64 x52_1, .int .i64 x52_2, .int .i64 x52_3]) ∧ cond (!(((x52_0 == 0) &&
  ((x52_1 == 0) && ((x52_2 == 0) && (x52_3 == 0)))))) (R (.bool false)) ((PureCalls Try.prog 8 #[.pointer x13, .int .i64 s8, .int .i64 (IntKind.wrap .i64 (2 + (IntKind.wrap .i64 (2 * (bits .and .i64
  q0 1))))), .int .u16 (bits .or .u16 (bits .and .u16 q2 2047) 32768)] (.tuple #[]) ∧ (PureCalls Try.prog 9 #[.pointer x13, .int .i64 (IntKind.wrap .i64 (s8 + 10000000))] (.tuple #[]) ∧ chk (decide (0
  ≤ (bits .and .i64 q0 1))) ((∃ (x70 : Int), PureCalls Try.prog 10 #[.pointer x13] (.int .i64 x70) ∧ Lt (x70 == (IntKind.wrap .i64 ((1 : Int) * 2 ^ (min (bits .and .i64 q0 1).toNat 64))) : Bool) fun
  s6 => R (.bool s6)))))))))))))))))))
set_option maxRecDepth 100000 in
set_option maxHeartbeats 4000000 in
theorem u_PsgLengths (q0 : Int) (q1 : Int) (q2 : Int) (R : Value → Prop) (w0 : World) (hq : q_PsgLengths q0 q1 q2 R) : Calls Try.prog 3 #[.int .i64 q0, .int .u16 q1, .int .u16 q2] w0 (fun e w' => ∃ v, e = .returned v ∧ R v ∧ Chg (fun _ => False) w0 w') := by
  apply c_PsgLengths
  unfold p_PsgLengths
  unfold q_PsgLengths at hq
  have g0 : Chg (fun _ => False) w0 w0 := Chg.refl _ _
  exact (
  hq.elim fun x9 h1 => (h1.1 w0).mono fun _ w e2 => ⟨x9, e2.1, have g3 := g0.then e2.2 (fun _ _ h => h);
  condM h1.2 (fun h4 => ⟨_, rfl, h4, g3⟩) (fun h4 => h4.elim fun x13 h5 => (h5.1 w).mono fun _ w_1 e6 => ⟨x13, e6.1, have g7 := g3.then e6.2 (fun _ _ h => h);
  (h5.2.1 w_1).mono fun _ w_2 e8 => ⟨e8.1, have g9 := g7.then e8.2 (fun _ _ h => h);
  (h5.2.2.1 w_2).mono fun _ w_3 e10 => ⟨e10.1, have g11 := g9.then e10.2 (fun _ _ h => h);
  LtM h5.2.2.2 (fun s8 h12 => (h12.1 w_3).mono fun _ w_4 e13 => ⟨e13.1, have g14 := g11.then e13.2 (fun _ _ h => h);
  have g15 := g14.drewBy 1;
  ⟨fun w2 => True, trivial, chkM h12.2 (fun h16 => h16.elim fun x40 h17 => (h17.1 (w_4.drewN 1)).mono fun _ w_5 e18 => ⟨x40, e18.1, have g19 := g15.then e18.2 (fun _ _ h => h);
  ⟨trivial, condM h17.2 (fun h20 => ⟨_, rfl, h20, g19⟩) (fun h20 => (h20.1 w_5).mono fun _ w_6 e21 => ⟨e21.1, have g22 := g19.then e21.2 (fun _ _ h => h);
  h20.2.elim fun x48 h23 => (h23.1 w_6).mono fun _ w_7 e24 => ⟨x48, e24.1, have g25 := g22.then e24.2 (fun _ _ h => h);
  condM h23.2 (fun h26 => ⟨_, rfl, h26, g25⟩) (fun h26 => h26.elim fun x52_0 h27 => h27.elim fun x52_1 h28 => h28.elim fun x52_2 h29 => h29.elim fun x52_3 h30 => (h30.1 w_7).mono fun _ w_8 e31 => ⟨x52_0, x52_1, x52_2, x52_3, e31.1, have g32 := g25.then e31.2 (fun _ _ h => h);
  condM h30.2 (fun h33 => ⟨_, rfl, h33, g32⟩) (fun h33 => (h33.1 w_8).mono fun _ w_9 e34 => ⟨e34.1, have g35 := g32.then e34.2 (fun _ _ h => h);
  (h33.2.1 w_9).mono fun _ w_10 e36 => ⟨e36.1, have g37 := g35.then e36.2 (fun _ _ h => h);
  have g38 := g37.drewBy 1;
  ⟨fun w2 => True, trivial, chkM h33.2.2 (fun h39 => h39.elim fun x70 h40 => (h40.1 (w_10.drewN 1)).mono fun _ w_11 e41 => ⟨x70, e41.1, have g42 := g38.then e41.2 (fun _ _ h => h);
  ⟨trivial, LtM h40.2 (fun s6 h43 => ⟨_, rfl, h43, g42⟩)⟩⟩)⟩⟩⟩)⟩)⟩⟩)⟩⟩)⟩⟩)⟩⟩⟩)⟩)
theorem pure_PsgLengths (q0 : Int) (q1 : Int) (q2 : Int) (r : Value) (hq : q_PsgLengths q0 q1 q2 (fun v => v = r)) : PureCalls Try.prog 3 #[.int .i64 q0, .int .u16 q1, .int .u16 q2] r :=
  fun w => (u_PsgLengths q0 q1 q2 _ w hq).mono fun _ _ ⟨_, he, hv, hc⟩ => ⟨by rw [he, hv], hc⟩

/-! cameo/cameolaw22.PsgBounds -/
abbrev n_PsgBounds : FuncId := 4
def ann_PsgBounds : Ann := ⟨[], [(16, [(53, .one (.int .i64))]), (8, [(4, .one (.int .i64)), (17, .one (.int .i64))])], [(15, [])]⟩
set_option maxRecDepth 100000 in
def p_PsgBounds (q0 : Option Addr) (q0n : Nat) (q0c : Nat) (R : Ending → World → Prop) (w : World) : Prop :=
  (Calls Try.prog 6 #[] w fun e w => ∃ (x9 : Bool), e = .returned (.bool x9) ∧ cond (!x9) (R (.returned (.bool false)) w) (cond (decide (((q0n : Nat) : Int) > 200)) (R (.returned (.bool true)) w)
  ((Calls Try.prog 7 #[] w fun e w_1 => ∃ (x14 : Option Addr), e = .returned (.pointer x14) ∧ (∃ I : Nat → List Value → World → Prop, (∃ n, I n [.int .i64 0, .int .i64 0] w_1) ∧ ∀ n, ∀ (s4 : Int) (s17
  : Int) (w_2 : World), I n [.int .i64 s4, .int .i64 s17] w_2 → cond (decide (s17 < ((q0n : Nat) : Int))) (NN q0 fun a19 => chk (decide (0 ≤ s17) && decide (s17 < ((q0n : Nat) : Int))) ((∃ (x20_0 :
  Int), w_2.cell? (a19.add (s17.toNat * 4)) = some (.int .i64 x20_0) ∧ (∃ (x20_1 : Int), w_2.cell? ((a19.add (s17.toNat * 4)).add 1) = some (.int .i64 x20_1) ∧ (∃ (x20_2 : Int), w_2.cell? ((a19.add
  (s17.toNat * 4)).add 2) = some (.int .i64 x20_2) ∧ (∃ (x20_3 : Int), w_2.cell? ((a19.add (s17.toNat * 4)).add 3) = some (.int .u16 x20_3) ∧ Nw w_2 (.cells #[.int .i64 0, .int .i64 0, .int .i64 0,
  .int .u16 0] 34) fun b w_3 => St w_3 ⟨b, 0, none⟩ (.int .i64 x20_0) fun w_4 => St w_4 ⟨b, 1, none⟩ (.int .i64 x20_1) fun w_5 => St w_5 ⟨b, 2, none⟩ (.int .i64 x20_2) fun w_6 => St w_6 ⟨b, 3, none⟩
  (.int .u16 x20_3) fun w_7 => (∃ (x22 : Int), w_7.cell? ⟨b, 0, none⟩ = some (.int .i64 x22) ∧ cond (decide (x22 < 0)) ((∃ m, m < n ∧ I m [.int .i64 s4, .int .i64 (IntKind.wrap .i64 (s17 + 1))] w_7))
  ((∃ (x26 : Int), w_7.cell? ⟨b, 0, none⟩ = some (.int .i64 x26) ∧ cond (decide (x26 > 1000000)) ((∃ m, m < n ∧ I m [.int .i64 s4, .int .i64 (IntKind.wrap .i64 (s17 + 1))] w_7)) ((∃ (x31 : Int),
  w_7.cell? ⟨b, 0, none⟩ = some (.int .i64 x31) ∧ (∃ J : List Value → World → Prop, ((∃ (x34 : Int), w_7.cell? ⟨b, 1, none⟩ = some (.int .i64 x34) ∧ cond (x34 == 0) ((∃ (x39 : Int), w_7.cell? ⟨b, 2,
  none⟩ = some (.int .i64 x39) ∧ (∃ (x41 : Int), w_7.cell? ⟨b, 3, none⟩ = some (.int .u16 x41) ∧ (Calls Try.prog 8 #[.pointer x14, .int .i64 (IntKind.wrap .i64 (s4 + x31)), .int .i64 x39, .int .u16
  x41] w_7 fun e w_8 => e = .returned (.tuple #[]) ∧ J [] w_8)))) ((∃ (x46 : Int), w_7.cell? ⟨b, 2, none⟩ = some (.int .i64 x46) ∧ (∃ (x48 : Int), w_7.cell? ⟨b, 3, none⟩ = some (.int .u16 x48) ∧
  (Calls Try.prog 12 #[.pointer x14, .int .i64 (IntKind.wrap .i64 (s4 + x31)), .int .i64 x46, .int .u8 (IntKind.wrap .u8 x48)] w_7 fun e w_9 => e = .returned (.tuple #[]) ∧ J [] w_9)))))) ∧ ∀ (w_10 :
  World), J [] w_10 → (Calls Try.prog 11 #[.pointer x14] w_10 fun e w_11 => ∃ (x52_0 : Int) (x52_1 : Int) (x52_2 : Int) (x52_3 : Int), e = .returned (.agg #[.int .i64 x52_0, .int .i64 x52_1, .int .i64
  x52_2, .int .i64 x52_3]) ∧ (∃ I_1 : Nat → List Value → World → Prop, (∃ n_1, I_1 n_1 [.int .i64 0] w_11) ∧ ∀ n_1, ∀ (s53 : Int) (w_12 : World), I_1 n_1 [.int .i64 s53] w_12 → cond (decide (s53 < 4))
  (chk (decide (0 ≤ s53) && decide (s53 < ((4 : Nat) : Int))) (∃ (x56 : Int), (#[.int .i64 x52_0, .int .i64 x52_1, .int .i64 x52_2, .int .i64 x52_3] : Array Value)[s53.toNat * 1]? = some (.int .i64
  x56) ∧ cond (decide (x56 < 0)) (R (.returned (.bool false)) w_12) (cond (decide (x56 > 15)) (R (.returned (.bool false)) w_12) (cond (decide (x56 > 0)) ((Calls Try.prog 10 #[.pointer x14] w_12 fun e
  w_13 => ∃ (x68 : Int), e = .returned (.int .i64 x68) ∧ chk (decide (0 ≤ s53)) (cond ((bits .and .i64 (Int.fdiv x68 (2 ^ (min s53.toNat 64))) 1) == 0) (R (.returned (.bool false)) w_13) ((∃ m_1, m_1
  < n_1 ∧ I_1 m_1 [.int .i64 (IntKind.wrap .i64 (s53 + 1))] w_13))))) ((∃ m_1, m_1 < n_1 ∧ I_1 m_1 [.int .i64 (IntKind.wrap .i64 (s53 + 1))] w_12)))))) ((∃ m, m < n ∧ I m [.int .i64 (IntKind.wrap .i64
  (s4 + x31)), .int .i64 (IntKind.wrap .i64 (s17 + 1))] w_12)))))))))))))))) ((Calls Try.prog 10 #[.pointer x14] w_2 fun e w_14 => ∃ (x78 : Int), e = .returned (.int .i64 x78) ∧ R (.returned (.bool
  (decide (x78 < 16)))) w_14)))))))
set_option maxRecDepth 100000 in
theorem v_PsgBounds (q0 : Option Addr) (q0n : Nat) (q0c : Nat) (R : Ending → World → Prop) (w : World) :
  vc Try.prog ann_PsgBounds (Try.f4.body.getD .skip) (retQ Try.prog Try.f4.results.toList R) (initFr [.slice q0 q0n q0c] Try.f4.ntmps) w = p_PsgBounds q0 q0n q0c R w := by kernel_rfl
theorem c_PsgBounds (q0 : Option Addr) (q0n : Nat) (q0c : Nat) (R : Ending → World → Prop) (w : World) (h : p_PsgBounds q0 q0n q0c R w) : Calls Try.prog 4 #[.slice q0 q0n q0c] w R :=
  calls_by (P := Try.prog) (f := 4) (fn := Try.f4) (c := Try.f4.body.getD .skip) (args := [.slice q0 q0n q0c]) (w := w) (R := R) (p := p_PsgBounds q0 q0n q0c R w) ann_PsgBounds Try.func4 rfl (v_PsgBounds q0 q0n q0c R w) h

/-! cameo/cameolaw22.PsgNone -/
abbrev n_PsgNone : FuncId := 5
def ann_PsgNone : Ann := ⟨[], [], []⟩
set_option maxRecDepth 100000 in
def p_PsgNone (q0 : Int) (q1 : Int) (q2 : Int) (R : Ending → World → Prop) (w : World) : Prop :=
  (Calls Try.prog 6 #[] w fun e w => ∃ (x8 : Bool), e = .returned (.bool x8) ∧ cond (!x8) (R (.returned (.bool false)) w) ((Calls Try.prog 8 #[.pointer none, .int .i64 q0, .int .i64 q1, .int .u16 q2]
  w fun e w_1 => e = .returned (.tuple #[]) ∧ (Calls Try.prog 12 #[.pointer none, .int .i64 q0, .int .i64 q1, .int .u8 (IntKind.wrap .u8 q2)] w_1 fun e w_2 => e = .returned (.tuple #[]) ∧ (Calls
  Try.prog 9 #[.pointer none, .int .i64 q0] w_2 fun e w_3 => e = .returned (.tuple #[]) ∧ (Calls Try.prog 11 #[.pointer none] w_3 fun e w_4 => ∃ (x25_0 : Int) (x25_1 : Int) (x25_2 : Int) (x25_3 :
  Int), e = .returned (.agg #[.int .i64 x25_0, .int .i64 x25_1, .int .i64 x25_2, .int .i64 x25_3]) ∧ cond ((x25_0 == 0) && ((x25_1 == 0) && ((x25_2 == 0) && (x25_3 == 0)))) ((Calls Try.prog 10
  #[.pointer none] w_4 fun e w_5 => ∃ (x30 : Int), e = .returned (.int .i64 x30) ∧ cond (x30 == 0) ((Calls Try.prog 13 #[.pointer none, .int .i64 q1] w_5 fun e w_6 => ∃ (x36 : Int), e = .returned
  (.int .u8 x36) ∧ R (.returned (.bool (x36 == 0))) w_6)) (R (.returned (.bool false)) w_5))) (R (.returned (.bool false)) w_4)))))))
set_option maxRecDepth 100000 in
theorem v_PsgNone (q0 : Int) (q1 : Int) (q2 : Int) (R : Ending → World → Prop) (w : World) :
  vc Try.prog ann_PsgNone (Try.f5.body.getD .skip) (retQ Try.prog Try.f5.results.toList R) (initFr [.int .i64 q0, .int .i64 q1, .int .u16 q2] Try.f5.ntmps) w = p_PsgNone q0 q1 q2 R w := by kernel_rfl
theorem c_PsgNone (q0 : Int) (q1 : Int) (q2 : Int) (R : Ending → World → Prop) (w : World) (h : p_PsgNone q0 q1 q2 R w) : Calls Try.prog 5 #[.int .i64 q0, .int .i64 q1, .int .u16 q2] w R :=
  calls_by (P := Try.prog) (f := 5) (fn := Try.f5) (c := Try.f5.body.getD .skip) (args := [.int .i64 q0, .int .i64 q1, .int .u16 q2]) (w := w) (R := R) (p := p_PsgNone q0 q1 q2 R w) ann_PsgNone Try.func5 rfl (v_PsgNone q0 q1 q2 R w) h
set_option maxRecDepth 100000 in
def q_PsgNone (q0 : Int) (q1 : Int) (q2 : Int) (R : Value → Prop) : Prop :=
  (∃ (x8 : Bool), PureCalls Try.prog 6 #[] (.bool x8) ∧ cond (!x8) (R (.bool false)) ((PureCalls Try.prog 8 #[.pointer none, .int .i64 q0, .int .i64 q1, .int .u16 q2] (.tuple #[]) ∧ (PureCalls
  Try.prog 12 #[.pointer none, .int .i64 q0, .int .i64 q1, .int .u8 (IntKind.wrap .u8 q2)] (.tuple #[]) ∧ (PureCalls Try.prog 9 #[.pointer none, .int .i64 q0] (.tuple #[]) ∧ (∃ (x25_0 : Int) (x25_1 :
  Int) (x25_2 : Int) (x25_3 : Int), PureCalls Try.prog 11 #[.pointer none] (.agg #[.int .i64 x25_0, .int .i64 x25_1, .int .i64 x25_2, .int .i64 x25_3]) ∧ cond ((x25_0 == 0) && ((x25_1 == 0) && ((x25_2
  == 0) && (x25_3 == 0)))) ((∃ (x30 : Int), PureCalls Try.prog 10 #[.pointer none] (.int .i64 x30) ∧ cond (x30 == 0) ((∃ (x36 : Int), PureCalls Try.prog 13 #[.pointer none, .int .i64 q1] (.int .u8
  x36) ∧ R (.bool (x36 == 0)))) (R (.bool false)))) (R (.bool false))))))))
set_option maxRecDepth 100000 in
set_option maxHeartbeats 4000000 in
theorem u_PsgNone (q0 : Int) (q1 : Int) (q2 : Int) (R : Value → Prop) (w0 : World) (hq : q_PsgNone q0 q1 q2 R) : Calls Try.prog 5 #[.int .i64 q0, .int .i64 q1, .int .u16 q2] w0 (fun e w' => ∃ v, e = .returned v ∧ R v ∧ Chg (fun _ => False) w0 w') := by
  apply c_PsgNone
  unfold p_PsgNone
  unfold q_PsgNone at hq
  have g0 : Chg (fun _ => False) w0 w0 := Chg.refl _ _
  exact (
  hq.elim fun x8 h1 => (h1.1 w0).mono fun _ w e2 => ⟨x8, e2.1, have g3 := g0.then e2.2 (fun _ _ h => h);
  condM h1.2 (fun h4 => ⟨_, rfl, h4, g3⟩) (fun h4 => (h4.1 w).mono fun _ w_1 e5 => ⟨e5.1, have g6 := g3.then e5.2 (fun _ _ h => h);
  (h4.2.1 w_1).mono fun _ w_2 e7 => ⟨e7.1, have g8 := g6.then e7.2 (fun _ _ h => h);
  (h4.2.2.1 w_2).mono fun _ w_3 e9 => ⟨e9.1, have g10 := g8.then e9.2 (fun _ _ h => h);
  h4.2.2.2.elim fun x25_0 h11 => h11.elim fun x25_1 h12 => h12.elim fun x25_2 h13 => h13.elim fun x25_3 h14 => (h14.1 w_3).mono fun _ w_4 e15 => ⟨x25_0, x25_1, x25_2, x25_3, e15.1, have g16 := g10.then e15.2 (fun _ _ h => h);
  condM h14.2 (fun h17 => h17.elim fun x30 h18 => (h18.1 w_4).mono fun _ w_5 e19 => ⟨x30, e19.1, have g20 := g16.then e19.2 (fun _ _ h => h);
  condM h18.2 (fun h21 => h21.elim fun x36 h22 => (h22.1 w_5).mono fun _ w_6 e23 => ⟨x36, e23.1, have g24 := g20.then e23.2 (fun _ _ h => h);
  ⟨_, rfl, h22.2, g24⟩⟩) (fun h21 => ⟨_, rfl, h21, g20⟩)⟩) (fun h17 => ⟨_, rfl, h17, g16⟩)⟩⟩⟩⟩)⟩)
theorem pure_PsgNone (q0 : Int) (q1 : Int) (q2 : Int) (r : Value) (hq : q_PsgNone q0 q1 q2 (fun v => v = r)) : PureCalls Try.prog 5 #[.int .i64 q0, .int .i64 q1, .int .u16 q2] r :=
  fun w => (u_PsgNone q0 q1 q2 _ w hq).mono fun _ _ ⟨_, he, hv, hc⟩ => ⟨by rw [he, hv], hc⟩

end Go.Proofs.Ytieamlpjdilcoaa
