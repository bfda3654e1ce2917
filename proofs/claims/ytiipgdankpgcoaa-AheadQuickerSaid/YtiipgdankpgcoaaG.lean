import Derived.Test.YtiipgdankpgcoaaChecked
import Derived.Test.YtiipgdankpgcoaaVc
namespace Go.Proofs.Ytiipgdankpgcoaa
open Go.Vc
set_option linter.unusedVariables false

/-! cameo/ahead.New -/
abbrev n_New : FuncId := 6
def ann_New : Ann := ⟨[], [], []⟩
def p_New (R : Ending → World → Prop) (w : World) : Prop :=
  Nw w (.cells #[.int .u32 0, .int .i64 0, .int .i64 0] 36) fun b w => R (.returned (.pointer (some ⟨b, 0, none⟩))) w
theorem v_New (R : Ending → World → Prop) (w : World) :
  vc Try.prog ann_New (Try.f6.body.getD .skip) (retQ Try.prog Try.f6.results.toList R) (initFr [] Try.f6.ntmps) w = p_New R w := by kernel_rfl
theorem c_New (R : Ending → World → Prop) (w : World) (h : p_New R w) : Calls Try.prog 6 #[] w R :=
  calls_by (P := Try.prog) (f := 6) (fn := Try.f6) (c := Try.f6.body.getD .skip) (args := []) (w := w) (R := R) (p := p_New R w) ann_New Try.func6 rfl (v_New R w) h

/-! (*cameo/ahead.Buffer).Fetch -/
abbrev n_Fetch : FuncId := 7
def ann_Fetch : Ann := ⟨[], [], []⟩
def p_Fetch (q0 : Nat) (q1 : Int) (q2 : Int) (q3 : Int) (q4 : Int) (R : Ending → World → Prop) (w : World) : Prop :=
  cond (decide (q2 < 1)) (R (.returned (.int .i64 0)) w) (cond (decide (q2 > 2)) (R (.returned (.int .i64 0)) w) (cond (decide (q3 < 1)) (R (.returned (.int .i64 0)) w) (cond (decide (q4 < 1)) (R
  (.returned (.int .i64 0)) w) ((∃ (x36 : Int), w.cell? ⟨q0, 0, none⟩ = some (.int .u32 x36) ∧ cond ((bits .andNot .u32 q1 1) != x36) (St w ⟨q0, 0, none⟩ (.int .u32 (IntKind.wrap .u32 ((bits .andNot
  .u32 q1 1) + (IntKind.wrap .u32 (IntKind.wrap .i64 (2 * q2)))))) fun w => St w ⟨q0, 1, none⟩ (.int .i64 0) fun w_1 => St w_1 ⟨q0, 2, none⟩ (.int .i64 0) fun w_2 => Lt ((IntKind.wrap .i64 (q3 +
  (IntKind.wrap .i64 ((IntKind.wrap .i64 (q2 - 1)) * q4)))) : Int) fun s10 => R (.returned (.int .i64 s10)) w_2) ((∃ (x61 : Int), w.cell? ⟨q0, 0, none⟩ = some (.int .u32 x61) ∧ St w ⟨q0, 0, none⟩
  (.int .u32 (IntKind.wrap .u32 (x61 + (IntKind.wrap .u32 (IntKind.wrap .i64 (2 * q2)))))) fun w_3 => (∃ (x71 : Int), w_3.cell? ⟨q0, 1, none⟩ = some (.int .i64 x71) ∧ cond (decide (x71 ≥ q2)) ((∃ (x77
  : Int), w_3.cell? ⟨q0, 1, none⟩ = some (.int .i64 x77) ∧ St w_3 ⟨q0, 1, none⟩ (.int .i64 (IntKind.wrap .i64 (x77 - q2))) fun w_4 => R (.returned (.int .i64 1)) w_4)) ((∃ (x86 : Int), w_3.cell? ⟨q0,
  1, none⟩ = some (.int .i64 x86) ∧ (∃ (x93 : Int), w_3.cell? ⟨q0, 2, none⟩ = some (.int .i64 x93) ∧ Lt ((IntKind.wrap .i64 ((IntKind.wrap .i64 ((IntKind.wrap .i64 (q2 - x86)) * q4)) - x93)) : Int)
  fun s11 => (∀ n, St (w_3.drewN n) ⟨q0, 1, none⟩ (.int .i64 0) fun w_5 => St w_5 ⟨q0, 2, none⟩ (.int .i64 0) fun w_6 => R (.returned (.int .i64 (if s11 > 1 then s11 else 1))) w_6))))))))))))
theorem v_Fetch (q0 : Nat) (q1 : Int) (q2 : Int) (q3 : Int) (q4 : Int) (R : Ending → World → Prop) (w : World) :
  vc Try.prog ann_Fetch (Try.f7.body.getD .skip) (retQ Try.prog Try.f7.results.toList R) (initFr [.pointer (some ⟨q0, 0, none⟩), .int .u32 q1, .int .i64 q2, .int .i64 q3, .int .i64 q4] Try.f7.ntmps) w = p_Fetch q0 q1 q2 q3 q4 R w := by kernel_rfl
theorem c_Fetch (q0 : Nat) (q1 : Int) (q2 : Int) (q3 : Int) (q4 : Int) (R : Ending → World → Prop) (w : World) (h : p_Fetch q0 q1 q2 q3 q4 R w) : Calls Try.prog 7 #[.pointer (some ⟨q0, 0, none⟩), .int .u32 q1, .int .i64 q2, .int .i64 q3, .int .i64 q4] w R :=
  calls_by (P := Try.prog) (f := 7) (fn := Try.f7) (c := Try.f7.body.getD .skip) (args := [.pointer (some ⟨q0, 0, none⟩), .int .u32 q1, .int .i64 q2, .int .i64 q3, .int .i64 q4]) (w := w) (R := R) (p := p_Fetch q0 q1 q2 q3 q4 R w) ann_Fetch Try.func7 rfl (v_Fetch q0 q1 q2 q3 q4 R w) h

/-! (*cameo/ahead.Buffer).Fetch -/
abbrev n_FetchN : FuncId := 7
def ann_FetchN : Ann := ⟨[], [], []⟩
def p_FetchN (q1 : Int) (q2 : Int) (q3 : Int) (q4 : Int) (R : Ending → World → Prop) (w : World) : Prop :=
  R (.returned (.int .i64 0)) w
theorem v_FetchN (q1 : Int) (q2 : Int) (q3 : Int) (q4 : Int) (R : Ending → World → Prop) (w : World) :
  vc Try.prog ann_FetchN (Try.f7.body.getD .skip) (retQ Try.prog Try.f7.results.toList R) (initFr [.pointer none, .int .u32 q1, .int .i64 q2, .int .i64 q3, .int .i64 q4] Try.f7.ntmps) w = p_FetchN q1 q2 q3 q4 R w := by kernel_rfl
theorem c_FetchN (q1 : Int) (q2 : Int) (q3 : Int) (q4 : Int) (R : Ending → World → Prop) (w : World) (h : p_FetchN q1 q2 q3 q4 R w) : Calls Try.prog 7 #[.pointer none, .int .u32 q1, .int .i64 q2, .int .i64 q3, .int .i64 q4] w R :=
  calls_by (P := Try.prog) (f := 7) (fn := Try.f7) (c := Try.f7.body.getD .skip) (args := [.pointer none, .int .u32 q1, .int .i64 q2, .int .i64 q3, .int .i64 q4]) (w := w) (R := R) (p := p_FetchN q1 q2 q3 q4 R w) ann_FetchN Try.func7 rfl (v_FetchN q1 q2 q3 q4 R w) h

/-! (*cameo/ahead.Buffer).Rest -/
abbrev n_Rest : FuncId := 8
def ann_Rest : Ann := ⟨[], [], []⟩
def p_Rest (q0 : Nat) (q1 : Int) (q2 : Int) (R : Ending → World → Prop) (w : World) : Prop :=
  cond (decide (q1 ≤ 0)) (R (.returned (.tuple #[])) w) (cond (decide (q2 ≤ 0)) (R (.returned (.tuple #[])) w) ((∃ (x24 : Int), w.cell? ⟨q0, 1, none⟩ = some (.int .i64 x24) ∧ cond (x24 == 8) (R
  (.returned (.tuple #[])) w) ((∃ (x30 : Int), w.cell? ⟨q0, 1, none⟩ = some (.int .i64 x30) ∧ chk (!(q2 == 0)) ((∃ (x40 : Int), w.cell? ⟨q0, 2, none⟩ = some (.int .i64 x40) ∧ chk (!(q2 == 0)) (Lt
  ((IntKind.wrap .i64 ((if (IntKind.wrap .i64 (8 - x30)) < (IntKind.wrap .i64 (Int.tdiv q1 q2)) then (IntKind.wrap .i64 (8 - x30)) else (IntKind.wrap .i64 (Int.tdiv q1 q2))) + (if (IntKind.wrap .i64
  (8 - x30)) < (IntKind.wrap .i64 (Int.tdiv x40 q2)) then (IntKind.wrap .i64 (8 - x30)) else (IntKind.wrap .i64 (Int.tdiv x40 q2))))) : Int) fun s7 => (∀ n, chk (!(q2 == 0)) ((∃ (x53 : Int), (w.drewN
  n).cell? ⟨q0, 2, none⟩ = some (.int .i64 x53) ∧ chk (!(q2 == 0)) (Lt ((IntKind.wrap .i64 (q2 - (Int.tmod x53 q2))) : Int) fun s9 => (∀ n_1, cond (decide ((Int.tmod q1 q2) ≥ s9)) (Lt ((IntKind.wrap
  .i64 ((Int.tmod q1 q2) - s9)) : Int) fun s8 => (∃ (x78 : Int), ((w.drewN n).drewN n_1).cell? ⟨q0, 1, none⟩ = some (.int .i64 x78) ∧ St ((w.drewN n).drewN n_1) ⟨q0, 1, none⟩ (.int .i64 (IntKind.wrap
  .i64 (x78 + (IntKind.wrap .i64 (s7 + 1))))) fun w => St w ⟨q0, 2, none⟩ (.int .i64 s8) fun w_1 => cond (decide ((IntKind.wrap .i64 (s7 + 1)) ≥ (IntKind.wrap .i64 (8 - x30)))) (St w_1 ⟨q0, 1, none⟩
  (.int .i64 8) fun w_2 => St w_2 ⟨q0, 2, none⟩ (.int .i64 0) fun w_3 => R (.returned (.tuple #[])) w_3) (R (.returned (.tuple #[])) w_1))) ((∃ (x69 : Int), ((w.drewN n).drewN n_1).cell? ⟨q0, 2, none⟩
  = some (.int .i64 x69) ∧ chk (!(q2 == 0)) (Lt ((IntKind.wrap .i64 ((Int.tmod q1 q2) + (Int.tmod x69 q2))) : Int) fun s8_1 => (∃ (x78_1 : Int), ((w.drewN n).drewN n_1).cell? ⟨q0, 1, none⟩ = some
  (.int .i64 x78_1) ∧ St ((w.drewN n).drewN n_1) ⟨q0, 1, none⟩ (.int .i64 (IntKind.wrap .i64 (x78_1 + s7))) fun w_4 => St w_4 ⟨q0, 2, none⟩ (.int .i64 s8_1) fun w_5 => cond (decide (s7 ≥ (IntKind.wrap
  .i64 (8 - x30)))) (St w_5 ⟨q0, 1, none⟩ (.int .i64 8) fun w_6 => St w_6 ⟨q0, 2, none⟩ (.int .i64 0) fun w_7 => R (.returned (.tuple #[])) w_7) (R (.returned (.tuple #[])) w_5))))))))))))))))))
theorem v_Rest (q0 : Nat) (q1 : Int) (q2 : Int) (R : Ending → World → Prop) (w : World) :
  vc Try.prog ann_Rest (Try.f8.body.getD .skip) (retQ Try.prog Try.f8.results.toList R) (initFr [.pointer (some ⟨q0, 0, none⟩), .int .i64 q1, .int .i64 q2] Try.f8.ntmps) w = p_Rest q0 q1 q2 R w := by kernel_rfl
theorem c_Rest (q0 : Nat) (q1 : Int) (q2 : Int) (R : Ending → World → Prop) (w : World) (h : p_Rest q0 q1 q2 R w) : Calls Try.prog 8 #[.pointer (some ⟨q0, 0, none⟩), .int .i64 q1, .int .i64 q2] w R :=
  calls_by (P := Try.prog) (f := 8) (fn := Try.f8) (c := Try.f8.body.getD .skip) (args := [.pointer (some ⟨q0, 0, none⟩), .int .i64 q1, .int .i64 q2]) (w := w) (R := R) (p := p_Rest q0 q1 q2 R w) ann_Rest Try.func8 rfl (v_Rest q0 q1 q2 R w) h

/-! (*cameo/ahead.Buffer).Rest -/
abbrev n_RestN : FuncId := 8
def ann_RestN : Ann := ⟨[], [], []⟩
def p_RestN (q1 : Int) (q2 : Int) (R : Ending → World → Prop) (w : World) : Prop :=
  R (.returned (.tuple #[])) w
theorem v_RestN (q1 : Int) (q2 : Int) (R : Ending → World → Prop) (w : World) :
  vc Try.prog ann_RestN (Try.f8.body.getD .skip) (retQ Try.prog Try.f8.results.toList R) (initFr [.pointer none, .int .i64 q1, .int .i64 q2] Try.f8.ntmps) w = p_RestN q1 q2 R w := by kernel_rfl
theorem c_RestN (q1 : Int) (q2 : Int) (R : Ending → World → Prop) (w : World) (h : p_RestN q1 q2 R w) : Calls Try.prog 8 #[.pointer none, .int .i64 q1, .int .i64 q2] w R :=
  calls_by (P := Try.prog) (f := 8) (fn := Try.f8) (c := Try.f8.body.getD .skip) (args := [.pointer none, .int .i64 q1, .int .i64 q2]) (w := w) (R := R) (p := p_RestN q1 q2 R w) ann_RestN Try.func8 rfl (v_RestN q1 q2 R w) h

/-! (*cameo/ahead.Buffer).Drop -/
abbrev n_DropN : FuncId := 9
def ann_DropN : Ann := ⟨[], [], []⟩
def p_DropN (R : Ending → World → Prop) (w : World) : Prop :=
  R (.returned (.tuple #[])) w
theorem v_DropN (R : Ending → World → Prop) (w : World) :
  vc Try.prog ann_DropN (Try.f9.body.getD .skip) (retQ Try.prog Try.f9.results.toList R) (initFr [.pointer none] Try.f9.ntmps) w = p_DropN R w := by kernel_rfl
theorem c_DropN (R : Ending → World → Prop) (w : World) (h : p_DropN R w) : Calls Try.prog 9 #[.pointer none] w R :=
  calls_by (P := Try.prog) (f := 9) (fn := Try.f9) (c := Try.f9.body.getD .skip) (args := [.pointer none]) (w := w) (R := R) (p := p_DropN R w) ann_DropN Try.func9 rfl (v_DropN R w) h

/-! (*cameo/ahead.Buffer).Kept -/
abbrev n_Kept : FuncId := 10
def ann_Kept : Ann := ⟨[], [], []⟩
def p_Kept (q0 : Nat) (R : Ending → World → Prop) (w : World) : Prop :=
  (∃ (x9 : Int), w.cell? ⟨q0, 0, none⟩ = some (.int .u32 x9) ∧ (∃ (x13 : Int), w.cell? ⟨q0, 1, none⟩ = some (.int .i64 x13) ∧ (∀ n, R (.returned (.tuple #[.int .u32 x9, .int .i64 x13])) (w.drewN n))))
theorem v_Kept (q0 : Nat) (R : Ending → World → Prop) (w : World) :
  vc Try.prog ann_Kept (Try.f10.body.getD .skip) (retQ Try.prog Try.f10.results.toList R) (initFr [.pointer (some ⟨q0, 0, none⟩)] Try.f10.ntmps) w = p_Kept q0 R w := by kernel_rfl
theorem c_Kept (q0 : Nat) (R : Ending → World → Prop) (w : World) (h : p_Kept q0 R w) : Calls Try.prog 10 #[.pointer (some ⟨q0, 0, none⟩)] w R :=
  calls_by (P := Try.prog) (f := 10) (fn := Try.f10) (c := Try.f10.body.getD .skip) (args := [.pointer (some ⟨q0, 0, none⟩)]) (w := w) (R := R) (p := p_Kept q0 R w) ann_Kept Try.func10 rfl (v_Kept q0 R w) h

/-! (*cameo/ahead.Buffer).Kept -/
abbrev n_KeptN : FuncId := 10
def ann_KeptN : Ann := ⟨[], [], []⟩
def p_KeptN (R : Ending → World → Prop) (w : World) : Prop :=
  R (.returned (.tuple #[.int .u32 0, .int .i64 0])) w
theorem v_KeptN (R : Ending → World → Prop) (w : World) :
  vc Try.prog ann_KeptN (Try.f10.body.getD .skip) (retQ Try.prog Try.f10.results.toList R) (initFr [.pointer none] Try.f10.ntmps) w = p_KeptN R w := by kernel_rfl
theorem c_KeptN (R : Ending → World → Prop) (w : World) (h : p_KeptN R w) : Calls Try.prog 10 #[.pointer none] w R :=
  calls_by (P := Try.prog) (f := 10) (fn := Try.f10) (c := Try.f10.body.getD .skip) (args := [.pointer none]) (w := w) (R := R) (p := p_KeptN R w) ann_KeptN Try.func10 rfl (v_KeptN R w) h

/-! cameo/cameolaw14.awake -/
abbrev n_awake : FuncId := 5
def ann_awake : Ann := ⟨[], [], []⟩
def p_awake (R : Ending → World → Prop) (w : World) : Prop :=
  (Calls Try.prog 6 #[] w fun e w => ∃ (x5 : Option Addr), e = .returned (.pointer x5) ∧ (Calls Try.prog 7 #[.pointer x5, .int .u32 134217728, .int .i64 1, .int .i64 5, .int .i64 3] w fun e w_1 => ∃
  (x7 : Int), e = .returned (.int .i64 x7) ∧ (Calls Try.prog 8 #[.pointer x5, .int .i64 7, .int .i64 3] w_1 fun e w_2 => e = .returned (.tuple #[]) ∧ (Calls Try.prog 10 #[.pointer x5] w_2 fun e w_3 =>
  ∃ (x12a : Int) (x12b : Int), e = .returned (.tuple #[.int .u32 x12a, .int .i64 x12b]) ∧ cond (x7 == 5) (cond (x12b == 2) ((Calls Try.prog 7 #[.pointer x5, .int .u32 134217730, .int .i64 1, .int .i64
  5, .int .i64 3] w_3 fun e w_4 => ∃ (x23 : Int), e = .returned (.int .i64 x23) ∧ cond (x23 == 1) ((Calls Try.prog 7 #[.pointer x5, .int .u32 134217732, .int .i64 2, .int .i64 5, .int .i64 3] w_4 fun
  e w_5 => ∃ (x28 : Int), e = .returned (.int .i64 x28) ∧ R (.returned (.bool (x28 == 2))) w_5)) (R (.returned (.bool false)) w_4))) (R (.returned (.bool false)) w_3)) (R (.returned (.bool false))
  w_3)))))
theorem v_awake (R : Ending → World → Prop) (w : World) :
  vc Try.prog ann_awake (Try.f5.body.getD .skip) (retQ Try.prog Try.f5.results.toList R) (initFr [] Try.f5.ntmps) w = p_awake R w := by kernel_rfl
theorem c_awake (R : Ending → World → Prop) (w : World) (h : p_awake R w) : Calls Try.prog 5 #[] w R :=
  calls_by (P := Try.prog) (f := 5) (fn := Try.f5) (c := Try.f5.body.getD .skip) (args := []) (w := w) (R := R) (p := p_awake R w) ann_awake Try.func5 rfl (v_awake R w) h

/-! cameo/cameolaw14.AheadNone -/
abbrev n_AheadNone : FuncId := 4
def ann_AheadNone : Ann := ⟨[], [], []⟩
def p_AheadNone (q0_0 : Int) (q0_1 : Int) (q0_2 : Int) (q0_3 : Int) (q0_4 : Int) (q0_5 : Int) (R : Ending → World → Prop) (w : World) : Prop :=
  Nw w (.cells #[.int .i64 q0_0, .int .u32 q0_1, .int .i64 q0_2, .int .i64 q0_3, .int .i64 q0_4, .int .i64 q0_5] 31) fun b w => (Calls Try.prog 5 #[] w fun e w_1 => ∃ (x6 : Bool), e = .returned (.bool
  x6) ∧ cond (!x6) (R (.returned (.bool false)) w_1) ((∃ (x10 : Int), w_1.cell? ⟨b, 2, none⟩ = some (.int .i64 x10) ∧ (∃ (x12 : Int), w_1.cell? ⟨b, 5, none⟩ = some (.int .i64 x12) ∧ (Calls Try.prog 8
  #[.pointer none, .int .i64 x10, .int .i64 x12] w_1 fun e w_2 => e = .returned (.tuple #[]) ∧ (Calls Try.prog 9 #[.pointer none] w_2 fun e w_3 => e = .returned (.tuple #[]) ∧ (Calls Try.prog 10
  #[.pointer none] w_3 fun e w_4 => ∃ (x18a : Int) (x18b : Int), e = .returned (.tuple #[.int .u32 x18a, .int .i64 x18b]) ∧ (∃ (x23 : Int), w_4.cell? ⟨b, 1, none⟩ = some (.int .u32 x23) ∧ (∃ (x25 :
  Int), w_4.cell? ⟨b, 3, none⟩ = some (.int .i64 x25) ∧ (∃ (x27 : Int), w_4.cell? ⟨b, 4, none⟩ = some (.int .i64 x27) ∧ (∃ (x29 : Int), w_4.cell? ⟨b, 5, none⟩ = some (.int .i64 x29) ∧ (Calls Try.prog
  7 #[.pointer none, .int .u32 x23, .int .i64 x25, .int .i64 x27, .int .i64 x29] w_4 fun e w_5 => ∃ (x30 : Int), e = .returned (.int .i64 x30) ∧ cond (x30 == 0) (cond (x18a == 0) (R (.returned (.bool
  (x18b == 0))) w_5) (R (.returned (.bool false)) w_5)) (R (.returned (.bool false)) w_5)))))))))))))
theorem v_AheadNone (q0_0 : Int) (q0_1 : Int) (q0_2 : Int) (q0_3 : Int) (q0_4 : Int) (q0_5 : Int) (R : Ending → World → Prop) (w : World) :
  vc Try.prog ann_AheadNone (Try.f4.body.getD .skip) (retQ Try.prog Try.f4.results.toList R) (initFr [.agg #[.int .i64 q0_0, .int .u32 q0_1, .int .i64 q0_2, .int .i64 q0_3, .int .i64 q0_4, .int .i64 q0_5]] Try.f4.ntmps) w = p_AheadNone q0_0 q0_1 q0_2 q0_3 q0_4 q0_5 R w := by kernel_rfl
theorem c_AheadNone (q0_0 : Int) (q0_1 : Int) (q0_2 : Int) (q0_3 : Int) (q0_4 : Int) (q0_5 : Int) (R : Ending → World → Prop) (w : World) (h : p_AheadNone q0_0 q0_1 q0_2 q0_3 q0_4 q0_5 R w) : Calls Try.prog 4 #[.agg #[.int .i64 q0_0, .int .u32 q0_1, .int .i64 q0_2, .int .i64 q0_3, .int .i64 q0_4, .int .i64 q0_5]] w R :=
  calls_by (P := Try.prog) (f := 4) (fn := Try.f4) (c := Try.f4.body.getD .skip) (args := [.agg #[.int .i64 q0_0, .int .u32 q0_1, .int .i64 q0_2, .int .i64 q0_3, .int .i64 q0_4, .int .i64 q0_5]]) (w := w) (R := R) (p := p_AheadNone q0_0 q0_1 q0_2 q0_3 q0_4 q0_5 R w) ann_AheadNone Try.func4 rfl (v_AheadNone q0_0 q0_1 q0_2 q0_3 q0_4 q0_5 R w) h

/-! cameo/cameolaw14.AheadQuicker -/
abbrev n_AheadQuicker : FuncId := 3
def ann_AheadQuicker : Ann := ⟨[], [(11, [(8, .one (.int .u32)), (39, .one (.int .i64))])], []⟩
def p_AheadQuicker (q0 : Option Addr) (q0n : Nat) (q0c : Nat) (q1 : Int) (q2 : Int) (R : Ending → World → Prop) (w : World) : Prop :=
  (Calls Try.prog 5 #[] w fun e w => ∃ (x13 : Bool), e = .returned (.bool x13) ∧ cond (!x13) (R (.returned (.bool false)) w) (cond (decide (((q0n : Nat) : Int) > 200)) (R (.returned (.bool true)) w)
  (Lt ((IntKind.wrap .i64 ((Int.tmod (IntKind.wrap .i64 ((Int.tmod q1 8) + 8)) 8) + 1)) : Int) fun s1 => Lt ((Int.tmod (IntKind.wrap .i64 ((Int.tmod q2 8) + 8)) 8) : Int) fun s2 => (Calls Try.prog 6
  #[] w fun e w_1 => ∃ (x27 : Option Addr), e = .returned (.pointer x27) ∧ (Calls Try.prog 7 #[.pointer x27, .int .u32 134217728, .int .i64 1, .int .i64 (IntKind.wrap .i64 (s1 + s2)), .int .i64 s1]
  w_1 fun e w_2 => ∃ (x34 : Int), e = .returned (.int .i64 x34) ∧ Lt ((IntKind.wrap .u32 ((134217728 : Int) + 2)) : Int) fun s8 => (∃ I : Nat → List Value → World → Prop, (∃ n, I n [.int .u32 s8, .int
  .i64 0] w_2) ∧ ∀ n, ∀ (s8_1 : Int) (s39 : Int) (w_3 : World), I n [.int .u32 s8_1, .int .i64 s39] w_3 → cond (decide (s39 < ((q0n : Nat) : Int))) (NN q0 fun a41 => chk (decide (0 ≤ s39) && decide
  (s39 < ((q0n : Nat) : Int))) ((∃ (x42 : Int), w_3.cell? (a41.add (s39.toNat * 1)) = some (.int .i64 x42) ∧ (Calls Try.prog 8 #[.pointer x27, .int .i64 x42, .int .i64 s1] w_3 fun e w_4 => e =
  .returned (.tuple #[]) ∧ Lt ((IntKind.wrap .i64 (1 + (Int.tmod (IntKind.wrap .i64 ((Int.tmod x42 2) + 2)) 2))) : Int) fun s11 => (Calls Try.prog 7 #[.pointer x27, .int .u32 s8_1, .int .i64 s11, .int
  .i64 (IntKind.wrap .i64 (s1 + s2)), .int .i64 s1] w_4 fun e w_5 => ∃ (x59 : Int), e = .returned (.int .i64 x59) ∧ cond (decide (x59 < 1)) (R (.returned (.bool false)) w_5) (cond (decide (x59 >
  (IntKind.wrap .i64 (s11 * s1)))) (R (.returned (.bool false)) w_5) (Lt ((IntKind.wrap .u32 (s8_1 + (IntKind.wrap .u32 (IntKind.wrap .i64 (2 * s11))))) : Int) fun s8_2 => (∃ m, m < n ∧ I m [.int .u32
  s8_2, .int .i64 (IntKind.wrap .i64 (s39 + 1))] w_5)))))))) (R (.returned (.bool true)) w_3)))))))
theorem v_AheadQuicker (q0 : Option Addr) (q0n : Nat) (q0c : Nat) (q1 : Int) (q2 : Int) (R : Ending → World → Prop) (w : World) :
  vc Try.prog ann_AheadQuicker (Try.f3.body.getD .skip) (retQ Try.prog Try.f3.results.toList R) (initFr [.slice q0 q0n q0c, .int .i64 q1, .int .i64 q2] Try.f3.ntmps) w = p_AheadQuicker q0 q0n q0c q1 q2 R w := by kernel_rfl
theorem c_AheadQuicker (q0 : Option Addr) (q0n : Nat) (q0c : Nat) (q1 : Int) (q2 : Int) (R : Ending → World → Prop) (w : World) (h : p_AheadQuicker q0 q0n q0c q1 q2 R w) : Calls Try.prog 3 #[.slice q0 q0n q0c, .int .i64 q1, .int .i64 q2] w R :=
  calls_by (P := Try.prog) (f := 3) (fn := Try.f3) (c := Try.f3.body.getD .skip) (args := [.slice q0 q0n q0c, .int .i64 q1, .int .i64 q2]) (w := w) (R := R) (p := p_AheadQuicker q0 q0n q0c q1 q2 R w) ann_AheadQuicker Try.func3 rfl (v_AheadQuicker q0 q0n q0c q1 q2 R w) h

end Go.Proofs.Ytiipgdankpgcoaa
