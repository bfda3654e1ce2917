import Derived.Test.YtjkcpckjaoehkaaChecked
import Derived.Test.YtjkcpckjaoehkaaVc
import Derived.Test.YtjkcpckjaoehkaaLib
namespace Go.Proofs.Ytjkcpckjaoehkaa
open Go.Vc
set_option linter.unusedVariables false

/-! cameo/seal.Check -/
abbrev n_sCheck : FuncId := 34
def ann_sCheck : Ann := ⟨[], [], [(2, [(3, .one (.bool))])]⟩
set_option maxRecDepth 100000 in
def p_sCheck (q0_0 : Int) (q0_1 : Int) (q0_2 : ByteArray) (R : Ending → World → Prop) (w : World) : Prop :=
  Nw w (.cells #[.int .i64 q0_0, .int .i64 q0_1, .string q0_2] 35) fun b w => (∃ J : List Value → World → Prop, ((∃ (x5 : Int), w.cell? ⟨b, 1, none⟩ = some (.int .i64 x5) ∧ cond (decide (x5 ≥ 0)) ((∃
  (x9 : Int), w.cell? ⟨b, 1, none⟩ = some (.int .i64 x9) ∧ J [.bool (decide (x9 < 131072))] w)) (J [.bool false] w))) ∧ ∀ (s3 : Bool) (w_1 : World), J [.bool s3] w_1 → (∃ (x13 : Int), w_1.cell? ⟨b, 0,
  none⟩ = some (.int .i64 x13) ∧ cond (x13 == 1) (cond s3 ((∃ (x19 : ByteArray), w_1.cell? ⟨b, 2, none⟩ = some (.string x19) ∧ cond (decide ((x19.size : Int) ≥ 1)) ((∃ (x25 : ByteArray), w_1.cell? ⟨b,
  2, none⟩ = some (.string x25) ∧ cond (!(decide ((x25.size : Int) ≤ 8))) (R (.returned (.int .i64 1)) w_1) (R (.returned (.int .i64 0)) w_1))) (R (.returned (.int .i64 1)) w_1))) (R (.returned (.int
  .i64 1)) w_1)) (cond (x13 == 2) (cond s3 ((∃ (x34 : ByteArray), w_1.cell? ⟨b, 2, none⟩ = some (.string x34) ∧ cond (x34.toList == (ByteArray.mk #[]).toList) ((∃ (x39 : Int), w_1.cell? ⟨b, 1, none⟩ =
  some (.int .i64 x39) ∧ cond (!((Int.tmod x39 4096) == 0)) (R (.returned (.int .i64 1)) w_1) (R (.returned (.int .i64 0)) w_1))) (R (.returned (.int .i64 1)) w_1))) (R (.returned (.int .i64 1)) w_1))
  (cond (x13 == 3) ((∃ (x46 : ByteArray), w_1.cell? ⟨b, 2, none⟩ = some (.string x46) ∧ cond (x46.toList == (ByteArray.mk #[]).toList) ((∃ (x50 : Int), w_1.cell? ⟨b, 1, none⟩ = some (.int .i64 x50) ∧
  cond (!(x50 == 0)) (R (.returned (.int .i64 1)) w_1) (R (.returned (.int .i64 0)) w_1))) (R (.returned (.int .i64 1)) w_1))) (R (.returned (.int .i64 1)) w_1)))))
set_option maxRecDepth 100000 in
theorem v_sCheck (q0_0 : Int) (q0_1 : Int) (q0_2 : ByteArray) (R : Ending → World → Prop) (w : World) :
  vc Try.prog ann_sCheck (Try.f34.body.getD .skip) (retQ Try.prog Try.f34.results.toList R) (initFr [.agg #[.int .i64 q0_0, .int .i64 q0_1, .string q0_2]] Try.f34.ntmps) w = p_sCheck q0_0 q0_1 q0_2 R w := by kernel_rfl
theorem c_sCheck (q0_0 : Int) (q0_1 : Int) (q0_2 : ByteArray) (R : Ending → World → Prop) (w : World) (h : p_sCheck q0_0 q0_1 q0_2 R w) : Calls Try.prog 34 #[.agg #[.int .i64 q0_0, .int .i64 q0_1, .string q0_2]] w R :=
  calls_by (P := Try.prog) (f := 34) (fn := Try.f34) (c := Try.f34.body.getD .skip) (args := [.agg #[.int .i64 q0_0, .int .i64 q0_1, .string q0_2]]) (w := w) (R := R) (p := p_sCheck q0_0 q0_1 q0_2 R w) ann_sCheck Try.func34 rfl (v_sCheck q0_0 q0_1 q0_2 R w) h
set_option maxRecDepth 100000 in
def q_sCheck (q0_0 : Int) (q0_1 : Int) (q0_2 : ByteArray) (R : Value → Prop) : Prop :=
  (∃ J : List Value → List Value → Prop, (cond (decide (q0_1 ≥ 0)) (J [.bool (decide (q0_1 < 131072))] []) (J [.bool false] [])) ∧ (∀ (s3 : Bool), J [.bool s3] [] → cond (q0_0 == 1) (cond s3 (cond
  (decide ((q0_2.size : Int) ≥ 1)) (cond (!(decide ((q0_2.size : Int) ≤ 8))) (R (.int .i64 1)) (R (.int .i64 0))) (R (.int .i64 1))) (R (.int .i64 1))) (cond (q0_0 == 2) (cond s3 (cond (q0_2.toList ==
  (ByteArray.mk #[]).toList) (cond (!((Int.tmod q0_1 4096) == 0)) (R (.int .i64 1)) (R (.int .i64 0))) (R (.int .i64 1))) (R (.int .i64 1))) (cond (q0_0 == 3) (cond (q0_2.toList == (ByteArray.mk
  #[]).toList) (cond (!(q0_1 == 0)) (R (.int .i64 1)) (R (.int .i64 0))) (R (.int .i64 1))) (R (.int .i64 1))))))
set_option maxRecDepth 100000 in
set_option maxHeartbeats 4000000 in
theorem u_sCheck (q0_0 : Int) (q0_1 : Int) (q0_2 : ByteArray) (R : Value → Prop) (w0 : World) (hq : q_sCheck q0_0 q0_1 q0_2 R) : Calls Try.prog 34 #[.agg #[.int .i64 q0_0, .int .i64 q0_1, .string q0_2]] w0 (fun e w' => ∃ v, e = .returned v ∧ R v ∧ Chg (fun _ => False) w0 w') := by
  apply c_sCheck
  unfold p_sCheck
  unfold q_sCheck at hq
  have g0 : Chg (fun _ => False) w0 w0 := Chg.refl _ _
  exact (
  Nw_blk (cs := [.int .i64 q0_0, .int .i64 q0_1, .string q0_2]) fun w b1 c2 s3 => have g4 := g0.then c2 (fun _ _ h => h);
  hq.elim fun J5 h13 => ⟨fun vs w2 => Blk w2 (w0.heap.size) [.int .i64 q0_0, .int .i64 q0_1, .string q0_2] 35 ∧ Chg (fun _ => False) w0 w2 ∧ J5 vs [], ⟨q0_1, b1.cell 1, condM h13.1 (fun h25 => ⟨q0_1, b1.cell 1, ⟨b1, g4, h25⟩⟩) (fun h25 => ⟨b1, g4, h25⟩)⟩, fun s3 w_1 j11 => have b10 := j11.1;
  have g9 := j11.2.1;
  have h12 := h13.2 s3  j11.2.2;
  ⟨q0_0, b10.cell 0, condM h12 (fun h14 => condM h14 (fun h15 => ⟨q0_2, b10.cell 2, condM h15 (fun h16 => ⟨q0_2, b10.cell 2, condM h16 (fun h17 => ⟨_, rfl, h17, g9⟩) (fun h17 => ⟨_, rfl, h17, g9⟩)⟩) (fun h16 => ⟨_, rfl, h16, g9⟩)⟩) (fun h15 => ⟨_, rfl, h15, g9⟩)) (fun h14 => condM h14 (fun h18 => condM h18 (fun h19 => ⟨q0_2, b10.cell 2, condM h19 (fun h20 => ⟨q0_1, b10.cell 1, condM h20 (fun h21 => ⟨_, rfl, h21, g9⟩) (fun h21 => ⟨_, rfl, h21, g9⟩)⟩) (fun h20 => ⟨_, rfl, h20, g9⟩)⟩) (fun h19 => ⟨_, rfl, h19, g9⟩)) (fun h18 => condM h18 (fun h22 => ⟨q0_2, b10.cell 2, condM h22 (fun h23 => ⟨q0_1, b10.cell 1, condM h23 (fun h24 => ⟨_, rfl, h24, g9⟩) (fun h24 => ⟨_, rfl, h24, g9⟩)⟩) (fun h23 => ⟨_, rfl, h23, g9⟩)⟩) (fun h22 => ⟨_, rfl, h22, g9⟩)))⟩⟩)
theorem pure_sCheck (q0_0 : Int) (q0_1 : Int) (q0_2 : ByteArray) (r : Value) (hq : q_sCheck q0_0 q0_1 q0_2 (fun v => v = r)) : PureCalls Try.prog 34 #[.agg #[.int .i64 q0_0, .int .i64 q0_1, .string q0_2]] r :=
  fun w => (u_sCheck q0_0 q0_1 q0_2 _ w hq).mono fun _ _ ⟨_, he, hv, hc⟩ => ⟨by rw [he, hv], hc⟩

/-! cameo/seal.Apply -/
abbrev n_sApply : FuncId := 26
def ann_sApply : Ann := ⟨[(7, .phased [4])], [], []⟩
set_option maxRecDepth 100000 in
def p_sApply (q0 : ByteArray) (q1_0 : Int) (q1_1 : Int) (q1_2 : ByteArray) (R : Ending → World → Prop) (w : World) : Prop :=
  Nw w (.cells #[.int .i64 q1_0, .int .i64 q1_1, .string q1_2] 35) fun b w => (∃ (x6_0 : Int), w.cell? ⟨b, 0, none⟩ = some (.int .i64 x6_0) ∧ (∃ (x6_1 : Int), w.cell? ⟨b, 1, none⟩ = some (.int .i64
  x6_1) ∧ (∃ (x6_2 : ByteArray), w.cell? ⟨b, 2, none⟩ = some (.string x6_2) ∧ (Calls Try.prog 34 #[.agg #[.int .i64 x6_0, .int .i64 x6_1, .string x6_2]] w fun e w_1 => ∃ (x7 : Int), e = .returned
  (.int .i64 x7) ∧ cond (x7 != 0) (R (.returned (.tuple #[.string (ByteArray.mk #[]), .int .i64 1])) w_1) ((∃ (x10 : Int), w_1.cell? ⟨b, 0, none⟩ = some (.int .i64 x10) ∧ cond (x10 == 2) ((∃ (x14 :
  Int), w_1.cell? ⟨b, 1, none⟩ = some (.int .i64 x14) ∧ cond (decide ((IntKind.wrap .i64 (x14 + 4096)) > (q0.size : Int))) (R (.returned (.tuple #[.string (ByteArray.mk #[]), .int .i64 1])) w_1) ((∃ S
  : World → Prop, S (w_1.drewN 1) ∧ (∃ (x21 : Int), (∀ w, S w → w.cell? ⟨b, 1, none⟩ = some (.int .i64 x21)) ∧ chk (decide (0 ≤ x21) && decide (x21 ≤ (q0.size : Int))) (chk (decide (0 ≤ (0 : Int)) &&
  decide ((0 : Int) ≤ x21)) ((∃ (x27 : Int), (∀ w, S w → w.cell? ⟨b, 1, none⟩ = some (.int .i64 x27)) ∧ chk (decide (0 ≤ (q0.size : Int)) && decide ((q0.size : Int) ≤ (q0.size : Int))) (chk (decide (0
  ≤ (IntKind.wrap .i64 (x27 + 4096))) && decide ((IntKind.wrap .i64 (x27 + 4096)) ≤ (q0.size : Int))) ((Calls Try.prog 25 #[.string (ByteArray.mk #[255]), .int .i64 4096] (w_1.drewN 1) fun e w_2 => ∃
  (x23 : ByteArray), e = .returned (.string x23) ∧ (S w_2 ∧ chk (decide ((((q0.extract 0 x21.toNat).size + x23.size : Nat) : Int) ≤ 9223372036854775807)) (chk (decide (((((q0.extract 0 x21.toNat) ++
  x23).size + (q0.extract ((IntKind.wrap .i64 (x27 + 4096)).toNat) q0.size).size : Nat) : Int) ≤ 9223372036854775807)) (R (.returned (.tuple #[.string (((q0.extract 0 x21.toNat) ++ x23) ++ (q0.extract
  ((IntKind.wrap .i64 (x27 + 4096)).toNat) q0.size)), .int .i64 0])) w_2)))))))))))))) (cond (x10 == 3) ((Calls Try.prog 25 #[.string (ByteArray.mk #[255]), .int .i64 (q0.size : Int)] w_1 fun e w_3 =>
  ∃ (x35 : ByteArray), e = .returned (.string x35) ∧ R (.returned (.tuple #[.string x35, .int .i64 0])) w_3)) ((∃ (x37 : Int), w_1.cell? ⟨b, 1, none⟩ = some (.int .i64 x37) ∧ (∃ (x39 : ByteArray),
  w_1.cell? ⟨b, 2, none⟩ = some (.string x39) ∧ cond (decide ((IntKind.wrap .i64 (x37 + (x39.size : Int))) > (q0.size : Int))) (R (.returned (.tuple #[.string (ByteArray.mk #[]), .int .i64 1])) w_1)
  ((∃ (x47 : Int), w_1.cell? ⟨b, 1, none⟩ = some (.int .i64 x47) ∧ chk (decide (0 ≤ x47) && decide (x47 ≤ (q0.size : Int))) (chk (decide (0 ≤ (0 : Int)) && decide ((0 : Int) ≤ x47)) ((∃ (x50 :
  ByteArray), w_1.cell? ⟨b, 2, none⟩ = some (.string x50) ∧ chk (decide ((((q0.extract 0 x47.toNat).size + x50.size : Nat) : Int) ≤ 9223372036854775807)) ((∃ (x54 : Int), w_1.cell? ⟨b, 1, none⟩ = some
  (.int .i64 x54) ∧ (∃ (x56 : ByteArray), w_1.cell? ⟨b, 2, none⟩ = some (.string x56) ∧ chk (decide (0 ≤ (q0.size : Int)) && decide ((q0.size : Int) ≤ (q0.size : Int))) (chk (decide (0 ≤ (IntKind.wrap
  .i64 (x54 + (x56.size : Int)))) && decide ((IntKind.wrap .i64 (x54 + (x56.size : Int))) ≤ (q0.size : Int))) (chk (decide (((((q0.extract 0 x47.toNat) ++ x50).size + (q0.extract ((IntKind.wrap .i64
  (x54 + (x56.size : Int))).toNat) q0.size).size : Nat) : Int) ≤ 9223372036854775807)) ((∀ n, R (.returned (.tuple #[.string (((q0.extract 0 x47.toNat) ++ x50) ++ (q0.extract ((IntKind.wrap .i64 (x54
  + (x56.size : Int))).toNat) q0.size)), .int .i64 0])) (w_1.drewN n)))))))))))))))))))))))
set_option maxRecDepth 100000 in
theorem v_sApply (q0 : ByteArray) (q1_0 : Int) (q1_1 : Int) (q1_2 : ByteArray) (R : Ending → World → Prop) (w : World) :
  vc Try.prog ann_sApply (Try.f26.body.getD .skip) (retQ Try.prog Try.f26.results.toList R) (initFr [.string q0, .agg #[.int .i64 q1_0, .int .i64 q1_1, .string q1_2]] Try.f26.ntmps) w = p_sApply q0 q1_0 q1_1 q1_2 R w := by kernel_rfl
theorem c_sApply (q0 : ByteArray) (q1_0 : Int) (q1_1 : Int) (q1_2 : ByteArray) (R : Ending → World → Prop) (w : World) (h : p_sApply q0 q1_0 q1_1 q1_2 R w) : Calls Try.prog 26 #[.string q0, .agg #[.int .i64 q1_0, .int .i64 q1_1, .string q1_2]] w R :=
  calls_by (P := Try.prog) (f := 26) (fn := Try.f26) (c := Try.f26.body.getD .skip) (args := [.string q0, .agg #[.int .i64 q1_0, .int .i64 q1_1, .string q1_2]]) (w := w) (R := R) (p := p_sApply q0 q1_0 q1_1 q1_2 R w) ann_sApply Try.func26 rfl (v_sApply q0 q1_0 q1_1 q1_2 R w) h
set_option maxRecDepth 100000 in
def q_sApply (q0 : ByteArray) (q1_0 : Int) (q1_1 : Int) (q1_2 : ByteArray) (R : Value → Prop) : Prop :=
  (∃ (x7 : Int), PureCalls Try.prog 34 #[.agg #[.int .i64 q1_0, .int .i64 q1_1, .string q1_2]] (.int .i64 x7) ∧ cond (x7 != 0) (R (.tuple #[.string (ByteArray.mk #[]), .int .i64 1])) (cond (q1_0 == 2)
  (cond (decide ((IntKind.wrap .i64 (q1_1 + 4096)) > (q0.size : Int))) (R (.tuple #[.string (ByteArray.mk #[]), .int .i64 1])) (chk (decide (0 ≤ q1_1) && decide (q1_1 ≤ (q0.size : Int))) (chk (decide
  (0 ≤ (0 : Int)) && decide ((0 : Int) ≤ q1_1)) (chk (decide (0 ≤ (q0.size : Int)) && decide ((q0.size : Int) ≤ (q0.size : Int))) (chk (decide (0 ≤ (IntKind.wrap .i64 (q1_1 + 4096))) && decide
  ((IntKind.wrap .i64 (q1_1 + 4096)) ≤ (q0.size : Int))) ((∃ (x23 : ByteArray), PureCalls Try.prog 25 #[.string (ByteArray.mk #[255]), .int .i64 4096] (.string x23) ∧ chk (decide ((((q0.extract 0
  q1_1.toNat).size + x23.size : Nat) : Int) ≤ 9223372036854775807)) (chk (decide (((((q0.extract 0 q1_1.toNat) ++ x23).size + (q0.extract ((IntKind.wrap .i64 (q1_1 + 4096)).toNat) q0.size).size : Nat)
  : Int) ≤ 9223372036854775807)) (R (.tuple #[.string (((q0.extract 0 q1_1.toNat) ++ x23) ++ (q0.extract ((IntKind.wrap .i64 (q1_1 + 4096)).toNat) q0.size)), .int .i64 0])))))))))) (cond (q1_0 == 3)
  ((∃ (x35 : ByteArray), PureCalls Try.prog 25 #[.string (ByteArray.mk #[255]), .int .i64 (q0.size : Int)] (.string x35) ∧ R (.tuple #[.string x35, .int .i64 0]))) (cond (decide ((IntKind.wrap .i64
  (q1_1 + (q1_2.size : Int))) > (q0.size : Int))) (R (.tuple #[.string (ByteArray.mk #[]), .int .i64 1])) (chk (decide (0 ≤ q1_1) && decide (q1_1 ≤ (q0.size : Int))) (chk (decide (0 ≤ (0 : Int)) &&
  decide ((0 : Int) ≤ q1_1)) (chk (decide ((((q0.extract 0 q1_1.toNat).size + q1_2.size : Nat) : Int) ≤ 9223372036854775807)) (chk (decide (0 ≤ (q0.size : Int)) && decide ((q0.size : Int) ≤ (q0.size :
  Int))) (chk (decide (0 ≤ (IntKind.wrap .i64 (q1_1 + (q1_2.size : Int)))) && decide ((IntKind.wrap .i64 (q1_1 + (q1_2.size : Int))) ≤ (q0.size : Int))) (chk (decide (((((q0.extract 0 q1_1.toNat) ++
  q1_2).size + (q0.extract ((IntKind.wrap .i64 (q1_1 + (q1_2.size : Int))).toNat) q0.size).size : Nat) : Int) ≤ 9223372036854775807)) (R (.tuple #[.string (((q0.extract 0 q1_1.toNat) ++ q1_2) ++
  (q0.extract ((IntKind.wrap .i64 (q1_1 + (q1_2.size : Int))).toNat) q0.size)), .int .i64 0]))))))))))))
set_option maxRecDepth 100000 in
set_option maxHeartbeats 4000000 in
theorem u_sApply (q0 : ByteArray) (q1_0 : Int) (q1_1 : Int) (q1_2 : ByteArray) (R : Value → Prop) (w0 : World) (hq : q_sApply q0 q1_0 q1_1 q1_2 R) : Calls Try.prog 26 #[.string q0, .agg #[.int .i64 q1_0, .int .i64 q1_1, .string q1_2]] w0 (fun e w' => ∃ v, e = .returned v ∧ R v ∧ Chg (fun _ => False) w0 w') := by
  apply c_sApply
  unfold p_sApply
  unfold q_sApply at hq
  have g0 : Chg (fun _ => False) w0 w0 := Chg.refl _ _
  exact (
  Nw_blk (cs := [.int .i64 q1_0, .int .i64 q1_1, .string q1_2]) fun w b1 c2 s3 => have g4 := g0.then c2 (fun _ _ h => h);
  ⟨q1_0, b1.cell 0, ⟨q1_1, b1.cell 1, ⟨q1_2, b1.cell 2, hq.elim fun x7 h5 => (h5.1 w).mono fun _ w_1 e6 => ⟨x7, e6.1, have b8 := b1.keep e6.2 (fun h => h);
  have g7 := g4.then e6.2 (fun _ _ h => h);
  condM h5.2 (fun h9 => ⟨_, rfl, h9, g7⟩) (fun h9 => ⟨q1_0, b8.cell 0, condM h9 (fun h10 => ⟨q1_1, b8.cell 1, condM h10 (fun h11 => ⟨_, rfl, h11, g7⟩) (fun h11 => have b13 := b8.drewN 1;
  have g12 := g7.drewBy 1;
  ⟨fun w2 => Blk w2 (w0.heap.size) [.int .i64 q1_0, .int .i64 q1_1, .string q1_2] 35 ∧ True, ⟨b13, trivial⟩, ⟨q1_1, (fun _ hS => hS.1.cell 1), chkM h11 (fun h14 => chkM h14 (fun h15 => ⟨q1_1, (fun _ hS => hS.1.cell 1), chkM h15 (fun h16 => chkM h16 (fun h17 => h17.elim fun x23 h18 => (h18.1 (w_1.drewN 1)).mono fun _ w_2 e19 => ⟨x23, e19.1, have b21 := b13.keep e19.2 (fun h => h);
  have g20 := g12.then e19.2 (fun _ _ h => h);
  ⟨⟨b21, trivial⟩, chkM h18.2 (fun h22 => chkM h22 (fun h23 => ⟨_, rfl, h23, g20⟩))⟩⟩))⟩))⟩⟩)⟩) (fun h10 => condM h10 (fun h24 => h24.elim fun x35 h25 => (h25.1 w_1).mono fun _ w_3 e26 => ⟨x35, e26.1, have b28 := b8.keep e26.2 (fun h => h);
  have g27 := g7.then e26.2 (fun _ _ h => h);
  ⟨_, rfl, h25.2, g27⟩⟩) (fun h24 => ⟨q1_1, b8.cell 1, ⟨q1_2, b8.cell 2, condM h24 (fun h29 => ⟨_, rfl, h29, g7⟩) (fun h29 => ⟨q1_1, b8.cell 1, chkM h29 (fun h30 => chkM h30 (fun h31 => ⟨q1_2, b8.cell 2, chkM h31 (fun h32 => ⟨q1_1, b8.cell 1, ⟨q1_2, b8.cell 2, chkM h32 (fun h33 => chkM h33 (fun h34 => chkM h34 (fun h35 => fun n => have b37 := b8.drewN n;
  have g36 := g7.drewBy n;
  ⟨_, rfl, h35, g36⟩)))⟩⟩)⟩))⟩)⟩⟩))⟩)⟩⟩⟩⟩)
theorem pure_sApply (q0 : ByteArray) (q1_0 : Int) (q1_1 : Int) (q1_2 : ByteArray) (r : Value) (hq : q_sApply q0 q1_0 q1_1 q1_2 (fun v => v = r)) : PureCalls Try.prog 26 #[.string q0, .agg #[.int .i64 q1_0, .int .i64 q1_1, .string q1_2]] r :=
  fun w => (u_sApply q0 q1_0 q1_1 q1_2 _ w hq).mono fun _ _ ⟨_, he, hv, hc⟩ => ⟨by rw [he, hv], hc⟩

/-! cameo/cameoref02.Right -/
abbrev n_rRight : FuncId := 24
def ann_rRight : Ann := ⟨[], [], []⟩
set_option maxRecDepth 100000 in
def p_rRight (q0_0 : Int) (q0_1 : Int) (q0_2 : ByteArray) (R : Ending → World → Prop) (w : World) : Prop :=
  Nw w (.cells #[.int .i64 q0_0, .int .i64 q0_1, .string q0_2] 35) fun b w => (∃ (x4 : Int), w.cell? ⟨b, 1, none⟩ = some (.int .i64 x4) ∧ cond (decide (x4 < 0)) (R (.returned (.bool false)) w) ((∃ (x8
  : Int), w.cell? ⟨b, 1, none⟩ = some (.int .i64 x8) ∧ cond (decide (x8 > 131071)) (R (.returned (.bool false)) w) ((∃ (x12 : Int), w.cell? ⟨b, 0, none⟩ = some (.int .i64 x12) ∧ cond (x12 == 1) ((∃
  (x16 : ByteArray), w.cell? ⟨b, 2, none⟩ = some (.string x16) ∧ cond (decide ((x16.size : Int) > 0)) ((∃ (x21 : ByteArray), w.cell? ⟨b, 2, none⟩ = some (.string x21) ∧ R (.returned (.bool (decide
  ((x21.size : Int) < 9)))) w)) (R (.returned (.bool false)) w))) (cond (x12 == 2) ((∃ (x28 : ByteArray), w.cell? ⟨b, 2, none⟩ = some (.string x28) ∧ cond (x28.toList == (ByteArray.mk #[]).toList) ((∃
  (x32 : Int), w.cell? ⟨b, 1, none⟩ = some (.int .i64 x32) ∧ R (.returned (.bool ((Int.tmod x32 4096) == 0))) w)) (R (.returned (.bool false)) w))) (cond (x12 == 3) ((∃ (x39 : ByteArray), w.cell? ⟨b,
  2, none⟩ = some (.string x39) ∧ cond (x39.toList == (ByteArray.mk #[]).toList) ((∃ (x43 : Int), w.cell? ⟨b, 1, none⟩ = some (.int .i64 x43) ∧ R (.returned (.bool (x43 == 0))) w)) (R (.returned
  (.bool false)) w))) (R (.returned (.bool false)) w))))))))
set_option maxRecDepth 100000 in
theorem v_rRight (q0_0 : Int) (q0_1 : Int) (q0_2 : ByteArray) (R : Ending → World → Prop) (w : World) :
  vc Try.prog ann_rRight (Try.f24.body.getD .skip) (retQ Try.prog Try.f24.results.toList R) (initFr [.agg #[.int .i64 q0_0, .int .i64 q0_1, .string q0_2]] Try.f24.ntmps) w = p_rRight q0_0 q0_1 q0_2 R w := by kernel_rfl
theorem c_rRight (q0_0 : Int) (q0_1 : Int) (q0_2 : ByteArray) (R : Ending → World → Prop) (w : World) (h : p_rRight q0_0 q0_1 q0_2 R w) : Calls Try.prog 24 #[.agg #[.int .i64 q0_0, .int .i64 q0_1, .string q0_2]] w R :=
  calls_by (P := Try.prog) (f := 24) (fn := Try.f24) (c := Try.f24.body.getD .skip) (args := [.agg #[.int .i64 q0_0, .int .i64 q0_1, .string q0_2]]) (w := w) (R := R) (p := p_rRight q0_0 q0_1 q0_2 R w) ann_rRight Try.func24 rfl (v_rRight q0_0 q0_1 q0_2 R w) h
set_option maxRecDepth 100000 in
def q_rRight (q0_0 : Int) (q0_1 : Int) (q0_2 : ByteArray) (R : Value → Prop) : Prop :=
  cond (decide (q0_1 < 0)) (R (.bool false)) (cond (decide (q0_1 > 131071)) (R (.bool false)) (cond (q0_0 == 1) (cond (decide ((q0_2.size : Int) > 0)) (R (.bool (decide ((q0_2.size : Int) < 9)))) (R
  (.bool false))) (cond (q0_0 == 2) (cond (q0_2.toList == (ByteArray.mk #[]).toList) (R (.bool ((Int.tmod q0_1 4096) == 0))) (R (.bool false))) (cond (q0_0 == 3) (cond (q0_2.toList == (ByteArray.mk
  #[]).toList) (R (.bool (q0_1 == 0))) (R (.bool false))) (R (.bool false))))))
set_option maxRecDepth 100000 in
set_option maxHeartbeats 4000000 in
theorem u_rRight (q0_0 : Int) (q0_1 : Int) (q0_2 : ByteArray) (R : Value → Prop) (w0 : World) (hq : q_rRight q0_0 q0_1 q0_2 R) : Calls Try.prog 24 #[.agg #[.int .i64 q0_0, .int .i64 q0_1, .string q0_2]] w0 (fun e w' => ∃ v, e = .returned v ∧ R v ∧ Chg (fun _ => False) w0 w') := by
  apply c_rRight
  unfold p_rRight
  unfold q_rRight at hq
  have g0 : Chg (fun _ => False) w0 w0 := Chg.refl _ _
  exact (
  Nw_blk (cs := [.int .i64 q0_0, .int .i64 q0_1, .string q0_2]) fun w b1 c2 s3 => have g4 := g0.then c2 (fun _ _ h => h);
  ⟨q0_1, b1.cell 1, condM hq (fun h5 => ⟨_, rfl, h5, g4⟩) (fun h5 => ⟨q0_1, b1.cell 1, condM h5 (fun h6 => ⟨_, rfl, h6, g4⟩) (fun h6 => ⟨q0_0, b1.cell 0, condM h6 (fun h7 => ⟨q0_2, b1.cell 2, condM h7 (fun h8 => ⟨q0_2, b1.cell 2, ⟨_, rfl, h8, g4⟩⟩) (fun h8 => ⟨_, rfl, h8, g4⟩)⟩) (fun h7 => condM h7 (fun h9 => ⟨q0_2, b1.cell 2, condM h9 (fun h10 => ⟨q0_1, b1.cell 1, ⟨_, rfl, h10, g4⟩⟩) (fun h10 => ⟨_, rfl, h10, g4⟩)⟩) (fun h9 => condM h9 (fun h11 => ⟨q0_2, b1.cell 2, condM h11 (fun h12 => ⟨q0_1, b1.cell 1, ⟨_, rfl, h12, g4⟩⟩) (fun h12 => ⟨_, rfl, h12, g4⟩)⟩) (fun h11 => ⟨_, rfl, h11, g4⟩)))⟩)⟩)⟩)
theorem pure_rRight (q0_0 : Int) (q0_1 : Int) (q0_2 : ByteArray) (r : Value) (hq : q_rRight q0_0 q0_1 q0_2 (fun v => v = r)) : PureCalls Try.prog 24 #[.agg #[.int .i64 q0_0, .int .i64 q0_1, .string q0_2]] r :=
  fun w => (u_rRight q0_0 q0_1 q0_2 _ w hq).mono fun _ _ ⟨_, he, hv, hc⟩ => ⟨by rw [he, hv], hc⟩

/-! cameo/cameoref02.Apply -/
abbrev n_rApply : FuncId := 15
def ann_rApply : Ann := ⟨[], [(10, [(8, .one (.int .i64))])], [(14, []), (8, []), (6, [(6, .one (.int .i64))])]⟩
set_option maxRecDepth 100000 in
def p_rApply (q0 : ByteArray) (q1_0 : Int) (q1_1 : Int) (q1_2 : ByteArray) (R : Ending → World → Prop) (w : World) : Prop :=
  Nw w (.cells #[.int .i64 q1_0, .int .i64 q1_1, .string q1_2] 35) fun b w => (∃ (x9_0 : Int), w.cell? ⟨b, 0, none⟩ = some (.int .i64 x9_0) ∧ (∃ (x9_1 : Int), w.cell? ⟨b, 1, none⟩ = some (.int .i64
  x9_1) ∧ (∃ (x9_2 : ByteArray), w.cell? ⟨b, 2, none⟩ = some (.string x9_2) ∧ (Calls Try.prog 24 #[.agg #[.int .i64 x9_0, .int .i64 x9_1, .string x9_2]] w fun e w_1 => ∃ (x10 : Bool), e = .returned
  (.bool x10) ∧ cond (!x10) (R (.returned (.tuple #[.string (ByteArray.mk #[]), .int .i64 1])) w_1) ((∃ (x13 : ByteArray), w_1.cell? ⟨b, 2, none⟩ = some (.string x13) ∧ (∃ J : List Value → World →
  Prop, ((∃ (x16 : Int), w_1.cell? ⟨b, 0, none⟩ = some (.int .i64 x16) ∧ cond (x16 == 2) (J [.int .i64 4096] w_1) (J [.int .i64 (x13.size : Int)] w_1))) ∧ ∀ (s6 : Int) (w_2 : World), J [.int .i64 s6]
  w_2 → (∃ J_1 : List Value → World → Prop, ((∃ (x19 : Int), w_2.cell? ⟨b, 0, none⟩ = some (.int .i64 x19) ∧ cond (x19 != 3) ((∃ (x23 : Int), w_2.cell? ⟨b, 1, none⟩ = some (.int .i64 x23) ∧ cond
  (decide (x23 > (IntKind.wrap .i64 ((q0.size : Int) - s6)))) (R (.returned (.tuple #[.string (ByteArray.mk #[]), .int .i64 1])) w_2) (J_1 [] w_2))) (J_1 [] w_2))) ∧ ∀ (w_3 : World), J_1 [] w_3 → (∃
  (x31 : Option Addr) (x31n : Nat) (x31c : Nat), ∃ w_4, (Go.convert 9 55 (.string q0)).run Try.prog w_3 = .ok (.slice x31 x31n x31c) w_4 ∧ (∃ I : Nat → List Value → World → Prop, (∃ n, I n [.int .i64
  0] w_4) ∧ ∀ n, ∀ (s8 : Int) (w_5 : World), I n [.int .i64 s8] w_5 → cond (decide (s8 < ((x31n : Nat) : Int))) ((∃ J_2 : List Value → World → Prop, ((∃ (x39 : Int), w_5.cell? ⟨b, 0, none⟩ = some
  (.int .i64 x39) ∧ cond (x39 == 3) (NN x31 fun a61 => chk (decide (0 ≤ s8) && decide (s8 < ((x31n : Nat) : Int))) (St w_5 (a61.add (s8.toNat * 1)) (.int .u8 255) fun w_6 => J_2 [] w_6)) ((∃ (x43 :
  Int), w_5.cell? ⟨b, 0, none⟩ = some (.int .i64 x43) ∧ cond (x43 == 2) ((∃ (x48 : Int), w_5.cell? ⟨b, 1, none⟩ = some (.int .i64 x48) ∧ cond (decide (s8 ≥ x48)) ((∃ (x54 : Int), w_5.cell? ⟨b, 1,
  none⟩ = some (.int .i64 x54) ∧ cond (decide (s8 < (IntKind.wrap .i64 (x54 + 4096)))) (NN x31 fun a61_1 => chk (decide (0 ≤ s8) && decide (s8 < ((x31n : Nat) : Int))) (St w_5 (a61_1.add (s8.toNat *
  1)) (.int .u8 255) fun w_7 => J_2 [] w_7)) (J_2 [] w_5))) (J_2 [] w_5))) (J_2 [] w_5))))) ∧ ∀ (w_8 : World), J_2 [] w_8 → (∃ (x63 : Int), w_8.cell? ⟨b, 0, none⟩ = some (.int .i64 x63) ∧ cond (x63 ==
  1) ((∃ (x68 : Int), w_8.cell? ⟨b, 1, none⟩ = some (.int .i64 x68) ∧ cond (decide (s8 ≥ x68)) ((∃ (x74 : Int), w_8.cell? ⟨b, 1, none⟩ = some (.int .i64 x74) ∧ cond (decide (s8 < (IntKind.wrap .i64
  (x74 + s6)))) ((∃ (x82 : ByteArray), w_8.cell? ⟨b, 2, none⟩ = some (.string x82) ∧ (∃ (x85 : Int), w_8.cell? ⟨b, 1, none⟩ = some (.int .i64 x85) ∧ chk (decide (0 ≤ (IntKind.wrap .i64 (s8 - x85))) &&
  decide ((IntKind.wrap .i64 (s8 - x85)) < (x82.size : Int))) (NN x31 fun a88 => chk (decide (0 ≤ s8) && decide (s8 < ((x31n : Nat) : Int))) (St w_8 (a88.add (s8.toNat * 1)) (.int .u8 (sbyte x82
  (IntKind.wrap .i64 (s8 - x85)))) fun w_9 => (∃ m, m < n ∧ I m [.int .i64 (IntKind.wrap .i64 (s8 + 1))] w_9)))))) ((∃ m, m < n ∧ I m [.int .i64 (IntKind.wrap .i64 (s8 + 1))] w_8)))) ((∃ m, m < n ∧ I
  m [.int .i64 (IntKind.wrap .i64 (s8 + 1))] w_8)))) ((∃ m, m < n ∧ I m [.int .i64 (IntKind.wrap .i64 (s8 + 1))] w_8))))) ((∃ (x90 : ByteArray), ∃ w_10, (Go.convert 55 9 (.slice x31 x31n x31c)).run
  Try.prog w_5 = .ok (.string x90) w_10 ∧ R (.returned (.tuple #[.string x90, .int .i64 0])) w_10))))))))))))
set_option maxRecDepth 100000 in
theorem v_rApply (q0 : ByteArray) (q1_0 : Int) (q1_1 : Int) (q1_2 : ByteArray) (R : Ending → World → Prop) (w : World) :
  vc Try.prog ann_rApply (Try.f15.body.getD .skip) (retQ Try.prog Try.f15.results.toList R) (initFr [.string q0, .agg #[.int .i64 q1_0, .int .i64 q1_1, .string q1_2]] Try.f15.ntmps) w = p_rApply q0 q1_0 q1_1 q1_2 R w := by kernel_rfl
theorem c_rApply (q0 : ByteArray) (q1_0 : Int) (q1_1 : Int) (q1_2 : ByteArray) (R : Ending → World → Prop) (w : World) (h : p_rApply q0 q1_0 q1_1 q1_2 R w) : Calls Try.prog 15 #[.string q0, .agg #[.int .i64 q1_0, .int .i64 q1_1, .string q1_2]] w R :=
  calls_by (P := Try.prog) (f := 15) (fn := Try.f15) (c := Try.f15.body.getD .skip) (args := [.string q0, .agg #[.int .i64 q1_0, .int .i64 q1_1, .string q1_2]]) (w := w) (R := R) (p := p_rApply q0 q1_0 q1_1 q1_2 R w) ann_rApply Try.func15 rfl (v_rApply q0 q1_0 q1_1 q1_2 R w) h

/-! cameo/flash.Blank -/
abbrev n_Blank : FuncId := 17
def ann_Blank : Ann := ⟨[], [], []⟩
set_option maxRecDepth 100000 in
def p_Blank (q0 : Int) (R : Ending → World → Prop) (w : World) : Prop :=
  (Calls Try.prog 25 #[.string (ByteArray.mk #[255]), .int .i64 (if (if (131072 : Int) < q0 then 131072 else q0) > 0 then (if (131072 : Int) < q0 then 131072 else q0) else 0)] w fun e w => ∃ (x6 :
  ByteArray), e = .returned (.string x6) ∧ R (.returned (.string x6)) w)
set_option maxRecDepth 100000 in
theorem v_Blank (q0 : Int) (R : Ending → World → Prop) (w : World) :
  vc Try.prog ann_Blank (Try.f17.body.getD .skip) (retQ Try.prog Try.f17.results.toList R) (initFr [.int .i64 q0] Try.f17.ntmps) w = p_Blank q0 R w := by kernel_rfl
theorem c_Blank (q0 : Int) (R : Ending → World → Prop) (w : World) (h : p_Blank q0 R w) : Calls Try.prog 17 #[.int .i64 q0] w R :=
  calls_by (P := Try.prog) (f := 17) (fn := Try.f17) (c := Try.f17.body.getD .skip) (args := [.int .i64 q0]) (w := w) (R := R) (p := p_Blank q0 R w) ann_Blank Try.func17 rfl (v_Blank q0 R w) h
set_option maxRecDepth 100000 in
def q_Blank (q0 : Int) (R : Value → Prop) : Prop :=
  (∃ (x6 : ByteArray), PureCalls Try.prog 25 #[.string (ByteArray.mk #[255]), .int .i64 (if (if (131072 : Int) < q0 then 131072 else q0) > 0 then (if (131072 : Int) < q0 then 131072 else q0) else 0)]
  (.string x6) ∧ R (.string x6))
set_option maxRecDepth 100000 in
set_option maxHeartbeats 4000000 in
theorem u_Blank (q0 : Int) (R : Value → Prop) (w0 : World) (hq : q_Blank q0 R) : Calls Try.prog 17 #[.int .i64 q0] w0 (fun e w' => ∃ v, e = .returned v ∧ R v ∧ Chg (fun _ => False) w0 w') := by
  apply c_Blank
  unfold p_Blank
  unfold q_Blank at hq
  have g0 : Chg (fun _ => False) w0 w0 := Chg.refl _ _
  exact (
  hq.elim fun x6 h1 => (h1.1 w0).mono fun _ w e2 => ⟨x6, e2.1, have g3 := g0.then e2.2 (fun _ _ h => h);
  ⟨_, rfl, h1.2, g3⟩⟩)
theorem pure_Blank (q0 : Int) (r : Value) (hq : q_Blank q0 (fun v => v = r)) : PureCalls Try.prog 17 #[.int .i64 q0] r :=
  fun w => (u_Blank q0 _ w hq).mono fun _ _ ⟨_, he, hv, hc⟩ => ⟨by rw [he, hv], hc⟩

/-! cameo/flash.New -/
abbrev n_New : FuncId := 18
def ann_New : Ann := ⟨[], [], []⟩
set_option maxRecDepth 100000 in
def p_New (q0 : ByteArray) (R : Ending → World → Prop) (w : World) : Prop :=
  cond ((q0.size : Int) != 65536) (cond ((q0.size : Int) != 131072) (R (.returned (.tuple #[.pointer none, .int .i64 1])) w) (Nw w (.cells #[.string q0, .int .i64 0, .bool false, .int .i64 0] 53) fun
  b w => R (.returned (.tuple #[.pointer (some ⟨b, 0, none⟩), .int .i64 0])) w)) (Nw w (.cells #[.string q0, .int .i64 0, .bool false, .int .i64 0] 53) fun b_1 w_1 => R (.returned (.tuple #[.pointer
  (some ⟨b_1, 0, none⟩), .int .i64 0])) w_1)
set_option maxRecDepth 100000 in
theorem v_New (q0 : ByteArray) (R : Ending → World → Prop) (w : World) :
  vc Try.prog ann_New (Try.f18.body.getD .skip) (retQ Try.prog Try.f18.results.toList R) (initFr [.string q0] Try.f18.ntmps) w = p_New q0 R w := by kernel_rfl
theorem c_New (q0 : ByteArray) (R : Ending → World → Prop) (w : World) (h : p_New q0 R w) : Calls Try.prog 18 #[.string q0] w R :=
  calls_by (P := Try.prog) (f := 18) (fn := Try.f18) (c := Try.f18.body.getD .skip) (args := [.string q0]) (w := w) (R := R) (p := p_New q0 R w) ann_New Try.func18 rfl (v_New q0 R w) h

/-! (*cameo/flash.Chip).maker -/
abbrev n_maker : FuncId := 23
def ann_maker : Ann := ⟨[], [], []⟩
set_option maxRecDepth 100000 in
def p_maker (q0 : Nat) (q1 : Int) (R : Ending → World → Prop) (w : World) : Prop :=
  (∃ (x8 : ByteArray), w.cell? ⟨q0, 0, none⟩ = some (.string x8) ∧ cond ((x8.size : Int) == 131072) (chk (decide (0 ≤ q1) && decide (q1 < ((2 : Nat) : Int))) (∃ (x13 : Int), (#[.int .u8 98, .int .u8
  19] : Array Value)[q1.toNat * 1]? = some (.int .u8 x13) ∧ R (.returned (.int .u8 x13)) w)) (chk (decide (0 ≤ q1) && decide (q1 < ((2 : Nat) : Int))) (∃ (x16 : Int), (#[.int .u8 50, .int .u8 27] :
  Array Value)[q1.toNat * 1]? = some (.int .u8 x16) ∧ R (.returned (.int .u8 x16)) w)))
set_option maxRecDepth 100000 in
theorem v_maker (q0 : Nat) (q1 : Int) (R : Ending → World → Prop) (w : World) :
  vc Try.prog ann_maker (Try.f23.body.getD .skip) (retQ Try.prog Try.f23.results.toList R) (initFr [.pointer (some ⟨q0, 0, none⟩), .int .i64 q1] Try.f23.ntmps) w = p_maker q0 q1 R w := by kernel_rfl
theorem c_maker (q0 : Nat) (q1 : Int) (R : Ending → World → Prop) (w : World) (h : p_maker q0 q1 R w) : Calls Try.prog 23 #[.pointer (some ⟨q0, 0, none⟩), .int .i64 q1] w R :=
  calls_by (P := Try.prog) (f := 23) (fn := Try.f23) (c := Try.f23.body.getD .skip) (args := [.pointer (some ⟨q0, 0, none⟩), .int .i64 q1]) (w := w) (R := R) (p := p_maker q0 q1 R w) ann_maker Try.func23 rfl (v_maker q0 q1 R w) h

/-! (*cameo/flash.Chip).Read -/
abbrev n_Read : FuncId := 13
def ann_Read : Ann := ⟨[], [], []⟩
set_option maxRecDepth 100000 in
def p_Read (q0 : Nat) (q1 : Int) (R : Ending → World → Prop) (w : World) : Prop :=
  Lt ((IntKind.wrap .i64 (bits .and .u32 q1 65535)) : Int) fun s5 => (∃ (x14 : Bool), w.cell? ⟨q0, 2, none⟩ = some (.bool x14) ∧ cond x14 (cond (decide (s5 < 2)) ((Calls Try.prog 23 #[.pointer (some
  ⟨q0, 0, none⟩), .int .i64 s5] w fun e w => ∃ (x21 : Int), e = .returned (.int .u8 x21) ∧ R (.returned (.int .u8 x21)) w)) ((∃ (x25 : ByteArray), w.cell? ⟨q0, 0, none⟩ = some (.string x25) ∧ (∃ (x29
  : Int), w.cell? ⟨q0, 3, none⟩ = some (.int .i64 x29) ∧ chk (decide (0 ≤ (bits .or .i64 (IntKind.wrap .i64 (x29 * 65536)) s5)) && decide ((bits .or .i64 (IntKind.wrap .i64 (x29 * 65536)) s5) <
  (x25.size : Int))) (Lt ((sbyte x25 (bits .or .i64 (IntKind.wrap .i64 (x29 * 65536)) s5)) : Int) fun s4 => (∀ n, R (.returned (.int .u8 s4)) (w.drewN n))))))) ((∃ (x25_1 : ByteArray), w.cell? ⟨q0, 0,
  none⟩ = some (.string x25_1) ∧ (∃ (x29_1 : Int), w.cell? ⟨q0, 3, none⟩ = some (.int .i64 x29_1) ∧ chk (decide (0 ≤ (bits .or .i64 (IntKind.wrap .i64 (x29_1 * 65536)) s5)) && decide ((bits .or .i64
  (IntKind.wrap .i64 (x29_1 * 65536)) s5) < (x25_1.size : Int))) (Lt ((sbyte x25_1 (bits .or .i64 (IntKind.wrap .i64 (x29_1 * 65536)) s5)) : Int) fun s4_1 => (∀ n_1, R (.returned (.int .u8 s4_1))
  (w.drewN n_1)))))))
set_option maxRecDepth 100000 in
theorem v_Read (q0 : Nat) (q1 : Int) (R : Ending → World → Prop) (w : World) :
  vc Try.prog ann_Read (Try.f13.body.getD .skip) (retQ Try.prog Try.f13.results.toList R) (initFr [.pointer (some ⟨q0, 0, none⟩), .int .u32 q1] Try.f13.ntmps) w = p_Read q0 q1 R w := by kernel_rfl
theorem c_Read (q0 : Nat) (q1 : Int) (R : Ending → World → Prop) (w : World) (h : p_Read q0 q1 R w) : Calls Try.prog 13 #[.pointer (some ⟨q0, 0, none⟩), .int .u32 q1] w R :=
  calls_by (P := Try.prog) (f := 13) (fn := Try.f13) (c := Try.f13.body.getD .skip) (args := [.pointer (some ⟨q0, 0, none⟩), .int .u32 q1]) (w := w) (R := R) (p := p_Read q0 q1 R w) ann_Read Try.func13 rfl (v_Read q0 q1 R w) h

/-! (*cameo/flash.Chip).Read -/
abbrev n_ReadN : FuncId := 13
def ann_ReadN : Ann := ⟨[], [], []⟩
set_option maxRecDepth 100000 in
def p_ReadN (q1 : Int) (R : Ending → World → Prop) (w : World) : Prop :=
  R (.returned (.int .u8 255)) w
set_option maxRecDepth 100000 in
theorem v_ReadN (q1 : Int) (R : Ending → World → Prop) (w : World) :
  vc Try.prog ann_ReadN (Try.f13.body.getD .skip) (retQ Try.prog Try.f13.results.toList R) (initFr [.pointer none, .int .u32 q1] Try.f13.ntmps) w = p_ReadN q1 R w := by kernel_rfl
theorem c_ReadN (q1 : Int) (R : Ending → World → Prop) (w : World) (h : p_ReadN q1 R w) : Calls Try.prog 13 #[.pointer none, .int .u32 q1] w R :=
  calls_by (P := Try.prog) (f := 13) (fn := Try.f13) (c := Try.f13.body.getD .skip) (args := [.pointer none, .int .u32 q1]) (w := w) (R := R) (p := p_ReadN q1 R w) ann_ReadN Try.func13 rfl (v_ReadN q1 R w) h
set_option maxRecDepth 100000 in
def q_ReadN (q1 : Int) (R : Value → Prop) : Prop :=
  R (.int .u8 255)
set_option maxRecDepth 100000 in
set_option maxHeartbeats 4000000 in
theorem u_ReadN (q1 : Int) (R : Value → Prop) (w0 : World) (hq : q_ReadN q1 R) : Calls Try.prog 13 #[.pointer none, .int .u32 q1] w0 (fun e w' => ∃ v, e = .returned v ∧ R v ∧ Chg (fun _ => False) w0 w') := by
  apply c_ReadN
  unfold p_ReadN
  unfold q_ReadN at hq
  have g0 : Chg (fun _ => False) w0 w0 := Chg.refl _ _
  exact (
  ⟨_, rfl, hq, g0⟩)
theorem pure_ReadN (q1 : Int) (r : Value) (hq : q_ReadN q1 (fun v => v = r)) : PureCalls Try.prog 13 #[.pointer none, .int .u32 q1] r :=
  fun w => (u_ReadN q1 _ w hq).mono fun _ _ ⟨_, he, hv, hc⟩ => ⟨by rw [he, hv], hc⟩

/-! (*cameo/flash.Chip).command -/
abbrev n_command : FuncId := 27
def ann_command : Ann := ⟨[], [], []⟩
set_option maxRecDepth 100000 in
def p_command (q0 : Nat) (q1 : Int) (R : Ending → World → Prop) (w : World) : Prop :=
  cond (q1 == 144) (St w ⟨q0, 2, none⟩ (.bool true) fun w => R (.returned (.int .i64 0)) w) (cond (q1 == 240) (St w ⟨q0, 2, none⟩ (.bool false) fun w_1 => R (.returned (.int .i64 0)) w_1) (cond (q1 ==
  128) (R (.returned (.int .i64 5)) w) (cond (q1 == 160) (R (.returned (.int .i64 3)) w) (cond (q1 == 176) (R (.returned (.int .i64 4)) w) (R (.returned (.int .i64 0)) w)))))
set_option maxRecDepth 100000 in
theorem v_command (q0 : Nat) (q1 : Int) (R : Ending → World → Prop) (w : World) :
  vc Try.prog ann_command (Try.f27.body.getD .skip) (retQ Try.prog Try.f27.results.toList R) (initFr [.pointer (some ⟨q0, 0, none⟩), .int .u8 q1] Try.f27.ntmps) w = p_command q0 q1 R w := by kernel_rfl
theorem c_command (q0 : Nat) (q1 : Int) (R : Ending → World → Prop) (w : World) (h : p_command q0 q1 R w) : Calls Try.prog 27 #[.pointer (some ⟨q0, 0, none⟩), .int .u8 q1] w R :=
  calls_by (P := Try.prog) (f := 27) (fn := Try.f27) (c := Try.f27.body.getD .skip) (args := [.pointer (some ⟨q0, 0, none⟩), .int .u8 q1]) (w := w) (R := R) (p := p_command q0 q1 R w) ann_command Try.func27 rfl (v_command q0 q1 R w) h

/-! (*cameo/flash.Chip).step -/
abbrev n_step : FuncId := 20
def ann_step : Ann := ⟨[], [], [(4, [(33, .one (.bool))]), (2, [(7, .one (.bool))])]⟩
set_option maxRecDepth 100000 in
def p_step (q0 : Nat) (q1 : Int) (q2 : Int) (R : Ending → World → Prop) (w : World) : Prop :=
  (∃ J : List Value → World → Prop, ((∃ (x11 : Int), w.cell? ⟨q0, 1, none⟩ = some (.int .i64 x11) ∧ cond (x11 == 0) (cond (q1 == 21845) (J [.bool (q2 == 170)] w) (J [.bool false] w)) ((∃ (x17 : Int),
  w.cell? ⟨q0, 1, none⟩ = some (.int .i64 x17) ∧ cond (x17 == 5) (cond (q1 == 21845) (J [.bool (q2 == 170)] w) (J [.bool false] w)) (J [.bool false] w))))) ∧ ∀ (s7 : Bool) (w : World), J [.bool s7] w
  → cond s7 ((∃ (x31 : Int), w.cell? ⟨q0, 1, none⟩ = some (.int .i64 x31) ∧ R (.returned (.int .i64 (IntKind.wrap .i64 (x31 + 1)))) w)) ((∃ J_1 : List Value → World → Prop, ((∃ (x37 : Int), w.cell?
  ⟨q0, 1, none⟩ = some (.int .i64 x37) ∧ cond (x37 == 1) (cond (q1 == 10922) (J_1 [.bool (q2 == 85)] w) (J_1 [.bool false] w)) ((∃ (x43 : Int), w.cell? ⟨q0, 1, none⟩ = some (.int .i64 x43) ∧ cond (x43
  == 6) (cond (q1 == 10922) (J_1 [.bool (q2 == 85)] w) (J_1 [.bool false] w)) (J_1 [.bool false] w))))) ∧ ∀ (s33 : Bool) (w_1 : World), J_1 [.bool s33] w_1 → cond s33 ((∃ (x57 : Int), w_1.cell? ⟨q0,
  1, none⟩ = some (.int .i64 x57) ∧ R (.returned (.int .i64 (IntKind.wrap .i64 (x57 + 1)))) w_1)) ((∃ (x63 : Int), w_1.cell? ⟨q0, 1, none⟩ = some (.int .i64 x63) ∧ cond (x63 == 2) (cond (q1 == 21845)
  ((Calls Try.prog 27 #[.pointer (some ⟨q0, 0, none⟩), .int .u8 q2] w_1 fun e w_2 => ∃ (x71 : Int), e = .returned (.int .i64 x71) ∧ R (.returned (.int .i64 x71)) w_2)) ((∃ (x76 : Int), w_1.cell? ⟨q0,
  1, none⟩ = some (.int .i64 x76) ∧ cond (x76 == 0) (cond (q2 == 240) (St w_1 ⟨q0, 2, none⟩ (.bool false) fun w_3 => R (.returned (.int .i64 0)) w_3) (R (.returned (.int .i64 0)) w_1)) (R (.returned
  (.int .i64 0)) w_1)))) ((∃ (x76_1 : Int), w_1.cell? ⟨q0, 1, none⟩ = some (.int .i64 x76_1) ∧ cond (x76_1 == 0) (cond (q2 == 240) (St w_1 ⟨q0, 2, none⟩ (.bool false) fun w_4 => R (.returned (.int
  .i64 0)) w_4) (R (.returned (.int .i64 0)) w_1)) (R (.returned (.int .i64 0)) w_1))))))))
set_option maxRecDepth 100000 in
theorem v_step (q0 : Nat) (q1 : Int) (q2 : Int) (R : Ending → World → Prop) (w : World) :
  vc Try.prog ann_step (Try.f20.body.getD .skip) (retQ Try.prog Try.f20.results.toList R) (initFr [.pointer (some ⟨q0, 0, none⟩), .int .i64 q1, .int .u8 q2] Try.f20.ntmps) w = p_step q0 q1 q2 R w := by kernel_rfl
theorem c_step (q0 : Nat) (q1 : Int) (q2 : Int) (R : Ending → World → Prop) (w : World) (h : p_step q0 q1 q2 R w) : Calls Try.prog 20 #[.pointer (some ⟨q0, 0, none⟩), .int .i64 q1, .int .u8 q2] w R :=
  calls_by (P := Try.prog) (f := 20) (fn := Try.f20) (c := Try.f20.body.getD .skip) (args := [.pointer (some ⟨q0, 0, none⟩), .int .i64 q1, .int .u8 q2]) (w := w) (R := R) (p := p_step q0 q1 q2 R w) ann_step Try.func20 rfl (v_step q0 q1 q2 R w) h

/-! (*cameo/flash.Chip).done -/
abbrev n_done : FuncId := 19
def ann_done : Ann := ⟨[(1, .phased [6, 12])], [], []⟩
set_option maxRecDepth 100000 in
def p_done (q0 : Nat) (q1_0 : Int) (q1_1 : Int) (q1_2 : ByteArray) (R : Ending → World → Prop) (w : World) : Prop :=
  Nw w (.cells #[.int .i64 q1_0, .int .i64 q1_1, .string q1_2] 35) fun b w => Nw w (.cells #[.int .i64 0, .int .i64 0, .string (ByteArray.mk #[])] 35) fun b_1 w_1 => (∃ S : World → Prop, S (w_1.drewN
  1) ∧ (∃ (x11 : ByteArray), (∀ w, S w → w.cell? ⟨q0, 0, none⟩ = some (.string x11)) ∧ (∃ (x12_0 : Int), (∀ w, S w → w.cell? ⟨b, 0, none⟩ = some (.int .i64 x12_0)) ∧ (∃ (x12_1 : Int), (∀ w, S w →
  w.cell? ⟨b, 1, none⟩ = some (.int .i64 x12_1)) ∧ (∃ (x12_2 : ByteArray), (∀ w, S w → w.cell? ⟨b, 2, none⟩ = some (.string x12_2)) ∧ (Calls Try.prog 26 #[.string x11, .agg #[.int .i64 x12_0, .int
  .i64 x12_1, .string x12_2]] (w_1.drewN 1) fun e w_2 => ∃ (x13a : ByteArray) (x13b : Int), e = .returned (.tuple #[.string x13a, .int .i64 x13b]) ∧ St w_2 ⟨q0, 0, none⟩ (.string x13a) fun w_3 => (∃
  (x18_0 : Int), w_3.cell? ⟨b, 0, none⟩ = some (.int .i64 x18_0) ∧ (∃ (x18_1 : Int), w_3.cell? ⟨b, 1, none⟩ = some (.int .i64 x18_1) ∧ (∃ (x18_2 : ByteArray), w_3.cell? ⟨b, 2, none⟩ = some (.string
  x18_2) ∧ St w_3 ⟨b_1, 0, none⟩ (.int .i64 x18_0) fun w_4 => St w_4 ⟨b_1, 1, none⟩ (.int .i64 x18_1) fun w_5 => St w_5 ⟨b_1, 2, none⟩ (.string x18_2) fun w_6 => (∃ (r_0 : Int), w_6.cell? ⟨b_1, 0,
  none⟩ = some (.int .i64 r_0) ∧ (∃ (r_1 : Int), w_6.cell? ⟨b_1, 1, none⟩ = some (.int .i64 r_1) ∧ (∃ (r_2 : ByteArray), w_6.cell? ⟨b_1, 2, none⟩ = some (.string r_2) ∧ R (.returned (.tuple #[.agg
  #[.int .i64 r_0, .int .i64 r_1, .string r_2], .bool true])) w_6))))))))))))
set_option maxRecDepth 100000 in
theorem v_done (q0 : Nat) (q1_0 : Int) (q1_1 : Int) (q1_2 : ByteArray) (R : Ending → World → Prop) (w : World) :
  vc Try.prog ann_done (Try.f19.body.getD .skip) (retQ Try.prog Try.f19.results.toList R) (initFr [.pointer (some ⟨q0, 0, none⟩), .agg #[.int .i64 q1_0, .int .i64 q1_1, .string q1_2]] Try.f19.ntmps) w = p_done q0 q1_0 q1_1 q1_2 R w := by kernel_rfl
theorem c_done (q0 : Nat) (q1_0 : Int) (q1_1 : Int) (q1_2 : ByteArray) (R : Ending → World → Prop) (w : World) (h : p_done q0 q1_0 q1_1 q1_2 R w) : Calls Try.prog 19 #[.pointer (some ⟨q0, 0, none⟩), .agg #[.int .i64 q1_0, .int .i64 q1_1, .string q1_2]] w R :=
  calls_by (P := Try.prog) (f := 19) (fn := Try.f19) (c := Try.f19.body.getD .skip) (args := [.pointer (some ⟨q0, 0, none⟩), .agg #[.int .i64 q1_0, .int .i64 q1_1, .string q1_2]]) (w := w) (R := R) (p := p_done q0 q1_0 q1_1 q1_2 R w) ann_done Try.func19 rfl (v_done q0 q1_0 q1_1 q1_2 R w) h

/-! (*cameo/flash.Chip).Write -/
abbrev n_Write : FuncId := 11
def ann_Write : Ann := ⟨[], [], []⟩
set_option maxRecDepth 100000 in
def p_Write (q0 : Nat) (q1 : Int) (q2 : Int) (R : Ending → World → Prop) (w : World) : Prop :=
  Nw w (.cells #[.int .i64 0, .int .i64 0, .string (ByteArray.mk #[])] 35) fun b w => Lt ((IntKind.wrap .i64 (bits .and .u32 q1 65535)) : Int) fun s8 => (∃ (x19 : Int), w.cell? ⟨q0, 1, none⟩ = some
  (.int .i64 x19) ∧ cond (x19 == 3) (St w ⟨q0, 1, none⟩ (.int .i64 0) fun w_1 => (∃ (x28 : Int), w_1.cell? ⟨q0, 3, none⟩ = some (.int .i64 x28) ∧ Lt ((bits .or .i64 (IntKind.wrap .i64 (x28 * 65536))
  s8) : Int) fun s9 => (∃ (x38 : ByteArray), w_1.cell? ⟨q0, 0, none⟩ = some (.string x38) ∧ chk (decide (0 ≤ s9) && decide (s9 < (x38.size : Int))) (Nw w_1 (.cells #[.int .u8 (bits .and .u8 q2 (sbyte
  x38 s9))] 5) fun b_1 w_2 => (∃ (x43 : ByteArray), ∃ w_3, (Go.convert 55 9 (.slice (some ⟨b_1, 0, none⟩) 1 1)).run Try.prog w_2 = .ok (.string x43) w_3 ∧ (Calls Try.prog 19 #[.pointer (some ⟨q0, 0,
  none⟩), .agg #[.int .i64 1, .int .i64 s9, .string x43]] w_3 fun e w_4 => ∃ (x45a_0 : Int) (x45a_1 : Int) (x45a_2 : ByteArray) (x45b : Bool), e = .returned (.tuple #[.agg #[.int .i64 x45a_0, .int
  .i64 x45a_1, .string x45a_2], .bool x45b]) ∧ St w_4 ⟨b, 0, none⟩ (.int .i64 x45a_0) fun w_5 => St w_5 ⟨b, 1, none⟩ (.int .i64 x45a_1) fun w_6 => St w_6 ⟨b, 2, none⟩ (.string x45a_2) fun w_7 => (∃
  (r_0 : Int), w_7.cell? ⟨b, 0, none⟩ = some (.int .i64 r_0) ∧ (∃ (r_1 : Int), w_7.cell? ⟨b, 1, none⟩ = some (.int .i64 r_1) ∧ (∃ (r_2 : ByteArray), w_7.cell? ⟨b, 2, none⟩ = some (.string r_2) ∧ R
  (.returned (.tuple #[.agg #[.int .i64 r_0, .int .i64 r_1, .string r_2], .bool x45b])) w_7))))))))) (cond (x19 == 4) (St w ⟨q0, 1, none⟩ (.int .i64 0) fun w_8 => cond (s8 == 0) ((∃ (x59 : ByteArray),
  w_8.cell? ⟨q0, 0, none⟩ = some (.string x59) ∧ cond ((x59.size : Int) == 131072) (St w_8 ⟨q0, 3, none⟩ (.int .i64 (IntKind.wrap .i64 (bits .and .u8 q2 1))) fun w_9 => St w_9 ⟨b, 0, none⟩ (.int .i64
  0) fun w_10 => St w_10 ⟨b, 1, none⟩ (.int .i64 0) fun w_11 => St w_11 ⟨b, 2, none⟩ (.string (ByteArray.mk #[])) fun w_12 => (∃ (r_0_1 : Int), w_12.cell? ⟨b, 0, none⟩ = some (.int .i64 r_0_1) ∧ (∃
  (r_1_1 : Int), w_12.cell? ⟨b, 1, none⟩ = some (.int .i64 r_1_1) ∧ (∃ (r_2_1 : ByteArray), w_12.cell? ⟨b, 2, none⟩ = some (.string r_2_1) ∧ R (.returned (.tuple #[.agg #[.int .i64 r_0_1, .int .i64
  r_1_1, .string r_2_1], .bool false])) w_12)))) (St w_8 ⟨b, 0, none⟩ (.int .i64 0) fun w_13 => St w_13 ⟨b, 1, none⟩ (.int .i64 0) fun w_14 => St w_14 ⟨b, 2, none⟩ (.string (ByteArray.mk #[])) fun
  w_15 => (∃ (r_0_2 : Int), w_15.cell? ⟨b, 0, none⟩ = some (.int .i64 r_0_2) ∧ (∃ (r_1_2 : Int), w_15.cell? ⟨b, 1, none⟩ = some (.int .i64 r_1_2) ∧ (∃ (r_2_2 : ByteArray), w_15.cell? ⟨b, 2, none⟩ =
  some (.string r_2_2) ∧ R (.returned (.tuple #[.agg #[.int .i64 r_0_2, .int .i64 r_1_2, .string r_2_2], .bool false])) w_15)))))) (St w_8 ⟨b, 0, none⟩ (.int .i64 0) fun w_16 => St w_16 ⟨b, 1, none⟩
  (.int .i64 0) fun w_17 => St w_17 ⟨b, 2, none⟩ (.string (ByteArray.mk #[])) fun w_18 => (∃ (r_0_3 : Int), w_18.cell? ⟨b, 0, none⟩ = some (.int .i64 r_0_3) ∧ (∃ (r_1_3 : Int), w_18.cell? ⟨b, 1, none⟩
  = some (.int .i64 r_1_3) ∧ (∃ (r_2_3 : ByteArray), w_18.cell? ⟨b, 2, none⟩ = some (.string r_2_3) ∧ R (.returned (.tuple #[.agg #[.int .i64 r_0_3, .int .i64 r_1_3, .string r_2_3], .bool false]))
  w_18))))) (cond (x19 == 7) (St w ⟨q0, 1, none⟩ (.int .i64 0) fun w_19 => cond (s8 == 21845) (cond (q2 == 16) ((Calls Try.prog 19 #[.pointer (some ⟨q0, 0, none⟩), .agg #[.int .i64 3, .int .i64 0,
  .string (ByteArray.mk #[])]] w_19 fun e w_20 => ∃ (x84a_0 : Int) (x84a_1 : Int) (x84a_2 : ByteArray) (x84b : Bool), e = .returned (.tuple #[.agg #[.int .i64 x84a_0, .int .i64 x84a_1, .string
  x84a_2], .bool x84b]) ∧ St w_20 ⟨b, 0, none⟩ (.int .i64 x84a_0) fun w_21 => St w_21 ⟨b, 1, none⟩ (.int .i64 x84a_1) fun w_22 => St w_22 ⟨b, 2, none⟩ (.string x84a_2) fun w_23 => (∃ (r_0_4 : Int),
  w_23.cell? ⟨b, 0, none⟩ = some (.int .i64 r_0_4) ∧ (∃ (r_1_4 : Int), w_23.cell? ⟨b, 1, none⟩ = some (.int .i64 r_1_4) ∧ (∃ (r_2_4 : ByteArray), w_23.cell? ⟨b, 2, none⟩ = some (.string r_2_4) ∧ R
  (.returned (.tuple #[.agg #[.int .i64 r_0_4, .int .i64 r_1_4, .string r_2_4], .bool x84b])) w_23))))) (cond (q2 == 48) ((∃ (x94 : Int), w_19.cell? ⟨q0, 3, none⟩ = some (.int .i64 x94) ∧ (Calls
  Try.prog 19 #[.pointer (some ⟨q0, 0, none⟩), .agg #[.int .i64 2, .int .i64 (bits .or .i64 (IntKind.wrap .i64 (x94 * 65536)) (bits .and .i64 s8 61440)), .string (ByteArray.mk #[])]] w_19 fun e w_24
  => ∃ (x100a_0 : Int) (x100a_1 : Int) (x100a_2 : ByteArray) (x100b : Bool), e = .returned (.tuple #[.agg #[.int .i64 x100a_0, .int .i64 x100a_1, .string x100a_2], .bool x100b]) ∧ St w_24 ⟨b, 0, none⟩
  (.int .i64 x100a_0) fun w_25 => St w_25 ⟨b, 1, none⟩ (.int .i64 x100a_1) fun w_26 => St w_26 ⟨b, 2, none⟩ (.string x100a_2) fun w_27 => (∃ (r_0_5 : Int), w_27.cell? ⟨b, 0, none⟩ = some (.int .i64
  r_0_5) ∧ (∃ (r_1_5 : Int), w_27.cell? ⟨b, 1, none⟩ = some (.int .i64 r_1_5) ∧ (∃ (r_2_5 : ByteArray), w_27.cell? ⟨b, 2, none⟩ = some (.string r_2_5) ∧ R (.returned (.tuple #[.agg #[.int .i64 r_0_5,
  .int .i64 r_1_5, .string r_2_5], .bool x100b])) w_27)))))) (St w_19 ⟨b, 0, none⟩ (.int .i64 0) fun w_28 => St w_28 ⟨b, 1, none⟩ (.int .i64 0) fun w_29 => St w_29 ⟨b, 2, none⟩ (.string (ByteArray.mk
  #[])) fun w_30 => (∃ (r_0_6 : Int), w_30.cell? ⟨b, 0, none⟩ = some (.int .i64 r_0_6) ∧ (∃ (r_1_6 : Int), w_30.cell? ⟨b, 1, none⟩ = some (.int .i64 r_1_6) ∧ (∃ (r_2_6 : ByteArray), w_30.cell? ⟨b, 2,
  none⟩ = some (.string r_2_6) ∧ R (.returned (.tuple #[.agg #[.int .i64 r_0_6, .int .i64 r_1_6, .string r_2_6], .bool false])) w_30)))))) (cond (q2 == 48) ((∃ (x94_1 : Int), w_19.cell? ⟨q0, 3, none⟩
  = some (.int .i64 x94_1) ∧ (Calls Try.prog 19 #[.pointer (some ⟨q0, 0, none⟩), .agg #[.int .i64 2, .int .i64 (bits .or .i64 (IntKind.wrap .i64 (x94_1 * 65536)) (bits .and .i64 s8 61440)), .string
  (ByteArray.mk #[])]] w_19 fun e w_31 => ∃ (x100a_0_1 : Int) (x100a_1_1 : Int) (x100a_2_1 : ByteArray) (x100b_1 : Bool), e = .returned (.tuple #[.agg #[.int .i64 x100a_0_1, .int .i64 x100a_1_1,
  .string x100a_2_1], .bool x100b_1]) ∧ St w_31 ⟨b, 0, none⟩ (.int .i64 x100a_0_1) fun w_32 => St w_32 ⟨b, 1, none⟩ (.int .i64 x100a_1_1) fun w_33 => St w_33 ⟨b, 2, none⟩ (.string x100a_2_1) fun w_34
  => (∃ (r_0_7 : Int), w_34.cell? ⟨b, 0, none⟩ = some (.int .i64 r_0_7) ∧ (∃ (r_1_7 : Int), w_34.cell? ⟨b, 1, none⟩ = some (.int .i64 r_1_7) ∧ (∃ (r_2_7 : ByteArray), w_34.cell? ⟨b, 2, none⟩ = some
  (.string r_2_7) ∧ R (.returned (.tuple #[.agg #[.int .i64 r_0_7, .int .i64 r_1_7, .string r_2_7], .bool x100b_1])) w_34)))))) (St w_19 ⟨b, 0, none⟩ (.int .i64 0) fun w_35 => St w_35 ⟨b, 1, none⟩
  (.int .i64 0) fun w_36 => St w_36 ⟨b, 2, none⟩ (.string (ByteArray.mk #[])) fun w_37 => (∃ (r_0_8 : Int), w_37.cell? ⟨b, 0, none⟩ = some (.int .i64 r_0_8) ∧ (∃ (r_1_8 : Int), w_37.cell? ⟨b, 1, none⟩
  = some (.int .i64 r_1_8) ∧ (∃ (r_2_8 : ByteArray), w_37.cell? ⟨b, 2, none⟩ = some (.string r_2_8) ∧ R (.returned (.tuple #[.agg #[.int .i64 r_0_8, .int .i64 r_1_8, .string r_2_8], .bool false]))
  w_37)))))) ((Calls Try.prog 20 #[.pointer (some ⟨q0, 0, none⟩), .int .i64 s8, .int .u8 q2] w fun e w_38 => ∃ (x108 : Int), e = .returned (.int .i64 x108) ∧ St w_38 ⟨q0, 1, none⟩ (.int .i64 x108) fun
  w_39 => St w_39 ⟨b, 0, none⟩ (.int .i64 0) fun w_40 => St w_40 ⟨b, 1, none⟩ (.int .i64 0) fun w_41 => St w_41 ⟨b, 2, none⟩ (.string (ByteArray.mk #[])) fun w_42 => (∃ (r_0_9 : Int), w_42.cell? ⟨b,
  0, none⟩ = some (.int .i64 r_0_9) ∧ (∃ (r_1_9 : Int), w_42.cell? ⟨b, 1, none⟩ = some (.int .i64 r_1_9) ∧ (∃ (r_2_9 : ByteArray), w_42.cell? ⟨b, 2, none⟩ = some (.string r_2_9) ∧ R (.returned (.tuple
  #[.agg #[.int .i64 r_0_9, .int .i64 r_1_9, .string r_2_9], .bool false])) w_42))))))))
set_option maxRecDepth 100000 in
theorem v_Write (q0 : Nat) (q1 : Int) (q2 : Int) (R : Ending → World → Prop) (w : World) :
  vc Try.prog ann_Write (Try.f11.body.getD .skip) (retQ Try.prog Try.f11.results.toList R) (initFr [.pointer (some ⟨q0, 0, none⟩), .int .u32 q1, .int .u8 q2] Try.f11.ntmps) w = p_Write q0 q1 q2 R w := by kernel_rfl
theorem c_Write (q0 : Nat) (q1 : Int) (q2 : Int) (R : Ending → World → Prop) (w : World) (h : p_Write q0 q1 q2 R w) : Calls Try.prog 11 #[.pointer (some ⟨q0, 0, none⟩), .int .u32 q1, .int .u8 q2] w R :=
  calls_by (P := Try.prog) (f := 11) (fn := Try.f11) (c := Try.f11.body.getD .skip) (args := [.pointer (some ⟨q0, 0, none⟩), .int .u32 q1, .int .u8 q2]) (w := w) (R := R) (p := p_Write q0 q1 q2 R w) ann_Write Try.func11 rfl (v_Write q0 q1 q2 R w) h

/-! (*cameo/flash.Chip).Write -/
abbrev n_WriteN : FuncId := 11
def ann_WriteN : Ann := ⟨[], [], []⟩
set_option maxRecDepth 100000 in
def p_WriteN (q1 : Int) (q2 : Int) (R : Ending → World → Prop) (w : World) : Prop :=
  Nw w (.cells #[.int .i64 0, .int .i64 0, .string (ByteArray.mk #[])] 35) fun b w => St w ⟨b, 0, none⟩ (.int .i64 0) fun w_1 => St w_1 ⟨b, 1, none⟩ (.int .i64 0) fun w_2 => St w_2 ⟨b, 2, none⟩
  (.string (ByteArray.mk #[])) fun w_3 => (∃ (r_0 : Int), w_3.cell? ⟨b, 0, none⟩ = some (.int .i64 r_0) ∧ (∃ (r_1 : Int), w_3.cell? ⟨b, 1, none⟩ = some (.int .i64 r_1) ∧ (∃ (r_2 : ByteArray),
  w_3.cell? ⟨b, 2, none⟩ = some (.string r_2) ∧ R (.returned (.tuple #[.agg #[.int .i64 r_0, .int .i64 r_1, .string r_2], .bool false])) w_3)))
set_option maxRecDepth 100000 in
theorem v_WriteN (q1 : Int) (q2 : Int) (R : Ending → World → Prop) (w : World) :
  vc Try.prog ann_WriteN (Try.f11.body.getD .skip) (retQ Try.prog Try.f11.results.toList R) (initFr [.pointer none, .int .u32 q1, .int .u8 q2] Try.f11.ntmps) w = p_WriteN q1 q2 R w := by kernel_rfl
theorem c_WriteN (q1 : Int) (q2 : Int) (R : Ending → World → Prop) (w : World) (h : p_WriteN q1 q2 R w) : Calls Try.prog 11 #[.pointer none, .int .u32 q1, .int .u8 q2] w R :=
  calls_by (P := Try.prog) (f := 11) (fn := Try.f11) (c := Try.f11.body.getD .skip) (args := [.pointer none, .int .u32 q1, .int .u8 q2]) (w := w) (R := R) (p := p_WriteN q1 q2 R w) ann_WriteN Try.func11 rfl (v_WriteN q1 q2 R w) h
set_option maxRecDepth 100000 in
def q_WriteN (q1 : Int) (q2 : Int) (R : Value → Prop) : Prop :=
  R (.tuple #[.agg #[.int .i64 (0 : Int), .int .i64 (0 : Int), .string (ByteArray.mk #[])], .bool false])
set_option maxRecDepth 100000 in
set_option maxHeartbeats 4000000 in
theorem u_WriteN (q1 : Int) (q2 : Int) (R : Value → Prop) (w0 : World) (hq : q_WriteN q1 q2 R) : Calls Try.prog 11 #[.pointer none, .int .u32 q1, .int .u8 q2] w0 (fun e w' => ∃ v, e = .returned v ∧ R v ∧ Chg (fun _ => False) w0 w') := by
  apply c_WriteN
  unfold p_WriteN
  unfold q_WriteN at hq
  have g0 : Chg (fun _ => False) w0 w0 := Chg.refl _ _
  exact (
  Nw_blk (cs := [.int .i64 0, .int .i64 0, .string (ByteArray.mk #[])]) fun w b1 c2 s3 => have g4 := g0.then c2 (fun _ _ h => h);
  St_blk b1 rfl fun w_1 (b5 : Blk _ _ [.int .i64 0, .int .i64 0, .string (ByteArray.mk #[])] _) c6 s7 => have g8 := g4.then c6 (fun k hk e => absurd hk (Nat.not_lt.2 (Nat.le_trans g0.size (Nat.le_of_eq e.symm))));
  St_blk b5 rfl fun w_2 (b9 : Blk _ _ [.int .i64 0, .int .i64 0, .string (ByteArray.mk #[])] _) c10 s11 => have g12 := g8.then c10 (fun k hk e => absurd hk (Nat.not_lt.2 (Nat.le_trans g0.size (Nat.le_of_eq e.symm))));
  St_blk b9 rfl fun w_3 (b13 : Blk _ _ [.int .i64 0, .int .i64 0, .string (ByteArray.mk #[])] _) c14 s15 => have g16 := g12.then c14 (fun k hk e => absurd hk (Nat.not_lt.2 (Nat.le_trans g0.size (Nat.le_of_eq e.symm))));
  ⟨(0 : Int), b13.cell 0, ⟨(0 : Int), b13.cell 1, ⟨(ByteArray.mk #[]), b13.cell 2, ⟨_, rfl, hq, g16⟩⟩⟩⟩)
theorem pure_WriteN (q1 : Int) (q2 : Int) (r : Value) (hq : q_WriteN q1 q2 (fun v => v = r)) : PureCalls Try.prog 11 #[.pointer none, .int .u32 q1, .int .u8 q2] r :=
  fun w => (u_WriteN q1 q2 _ w hq).mono fun _ _ ⟨_, he, hv, hc⟩ => ⟨by rw [he, hv], hc⟩

/-! (*cameo/flash.Chip).Image -/
abbrev n_Image : FuncId := 10
def ann_Image : Ann := ⟨[], [], []⟩
set_option maxRecDepth 100000 in
def p_Image (q0 : Nat) (R : Ending → World → Prop) (w : World) : Prop :=
  (∃ (x8 : ByteArray), w.cell? ⟨q0, 0, none⟩ = some (.string x8) ∧ R (.returned (.string x8)) w)
set_option maxRecDepth 100000 in
theorem v_Image (q0 : Nat) (R : Ending → World → Prop) (w : World) :
  vc Try.prog ann_Image (Try.f10.body.getD .skip) (retQ Try.prog Try.f10.results.toList R) (initFr [.pointer (some ⟨q0, 0, none⟩)] Try.f10.ntmps) w = p_Image q0 R w := by kernel_rfl
theorem c_Image (q0 : Nat) (R : Ending → World → Prop) (w : World) (h : p_Image q0 R w) : Calls Try.prog 10 #[.pointer (some ⟨q0, 0, none⟩)] w R :=
  calls_by (P := Try.prog) (f := 10) (fn := Try.f10) (c := Try.f10.body.getD .skip) (args := [.pointer (some ⟨q0, 0, none⟩)]) (w := w) (R := R) (p := p_Image q0 R w) ann_Image Try.func10 rfl (v_Image q0 R w) h

/-! (*cameo/flash.Chip).Image -/
abbrev n_ImageN : FuncId := 10
def ann_ImageN : Ann := ⟨[], [], []⟩
set_option maxRecDepth 100000 in
def p_ImageN (R : Ending → World → Prop) (w : World) : Prop :=
  R (.returned (.string (ByteArray.mk #[]))) w
set_option maxRecDepth 100000 in
theorem v_ImageN (R : Ending → World → Prop) (w : World) :
  vc Try.prog ann_ImageN (Try.f10.body.getD .skip) (retQ Try.prog Try.f10.results.toList R) (initFr [.pointer none] Try.f10.ntmps) w = p_ImageN R w := by kernel_rfl
theorem c_ImageN (R : Ending → World → Prop) (w : World) (h : p_ImageN R w) : Calls Try.prog 10 #[.pointer none] w R :=
  calls_by (P := Try.prog) (f := 10) (fn := Try.f10) (c := Try.f10.body.getD .skip) (args := [.pointer none]) (w := w) (R := R) (p := p_ImageN R w) ann_ImageN Try.func10 rfl (v_ImageN R w) h
set_option maxRecDepth 100000 in
def q_ImageN (R : Value → Prop) : Prop :=
  R (.string (ByteArray.mk #[]))
set_option maxRecDepth 100000 in
set_option maxHeartbeats 4000000 in
theorem u_ImageN (R : Value → Prop) (w0 : World) (hq : q_ImageN R) : Calls Try.prog 10 #[.pointer none] w0 (fun e w' => ∃ v, e = .returned v ∧ R v ∧ Chg (fun _ => False) w0 w') := by
  apply c_ImageN
  unfold p_ImageN
  unfold q_ImageN at hq
  have g0 : Chg (fun _ => False) w0 w0 := Chg.refl _ _
  exact (
  ⟨_, rfl, hq, g0⟩)
theorem pure_ImageN (r : Value) (hq : q_ImageN (fun v => v = r)) : PureCalls Try.prog 10 #[.pointer none] r :=
  fun w => (u_ImageN _ w hq).mono fun _ _ ⟨_, he, hv, hc⟩ => ⟨by rw [he, hv], hc⟩

/-! cameo/cameoref04.key -/
abbrev n_key : FuncId := 22
def ann_key : Ann := ⟨[], [], [(6, [(19, .one (.bool))]), (4, [(12, .one (.bool))]), (2, [(5, .one (.bool))])]⟩
set_option maxRecDepth 100000 in
def p_key (q0 : Int) (q1 : Int) (R : Ending → World → Prop) (w : World) : Prop :=
  (∃ J : List Value → World → Prop, (cond (q0 == 21845) (J [.bool (q1 == 170)] w) (J [.bool false] w)) ∧ ∀ (s5 : Bool) (w : World), J [.bool s5] w → cond s5 (R (.returned (.int .u8 97)) w) ((∃ J_1 :
  List Value → World → Prop, (cond (q0 == 10922) (J_1 [.bool (q1 == 85)] w) (J_1 [.bool false] w)) ∧ ∀ (s12 : Bool) (w_1 : World), J_1 [.bool s12] w_1 → cond s12 (R (.returned (.int .u8 98)) w_1) ((∃
  J_2 : List Value → World → Prop, (cond (q0 == 21845) (J_2 [.bool (q1 == 144)] w_1) (J_2 [.bool false] w_1)) ∧ ∀ (s19 : Bool) (w_2 : World), J_2 [.bool s19] w_2 → cond s19 (R (.returned (.int .u8
  105)) w_2) (cond (q0 == 21845) (cond (q1 == 240) (R (.returned (.int .u8 120)) w_2) (cond (q0 == 21845) (cond (q1 == 128) (R (.returned (.int .u8 101)) w_2) (cond (q0 == 21845) (cond (q1 == 160) (R
  (.returned (.int .u8 112)) w_2) (cond (q0 == 21845) (cond (q1 == 176) (R (.returned (.int .u8 107)) w_2) (R (.returned (.int .u8 45)) w_2)) (R (.returned (.int .u8 45)) w_2))) (cond (q0 == 21845)
  (cond (q1 == 176) (R (.returned (.int .u8 107)) w_2) (R (.returned (.int .u8 45)) w_2)) (R (.returned (.int .u8 45)) w_2)))) (cond (q0 == 21845) (cond (q1 == 160) (R (.returned (.int .u8 112)) w_2)
  (cond (q0 == 21845) (cond (q1 == 176) (R (.returned (.int .u8 107)) w_2) (R (.returned (.int .u8 45)) w_2)) (R (.returned (.int .u8 45)) w_2))) (cond (q0 == 21845) (cond (q1 == 176) (R (.returned
  (.int .u8 107)) w_2) (R (.returned (.int .u8 45)) w_2)) (R (.returned (.int .u8 45)) w_2))))) (cond (q0 == 21845) (cond (q1 == 128) (R (.returned (.int .u8 101)) w_2) (cond (q0 == 21845) (cond (q1
  == 160) (R (.returned (.int .u8 112)) w_2) (cond (q0 == 21845) (cond (q1 == 176) (R (.returned (.int .u8 107)) w_2) (R (.returned (.int .u8 45)) w_2)) (R (.returned (.int .u8 45)) w_2))) (cond (q0
  == 21845) (cond (q1 == 176) (R (.returned (.int .u8 107)) w_2) (R (.returned (.int .u8 45)) w_2)) (R (.returned (.int .u8 45)) w_2)))) (cond (q0 == 21845) (cond (q1 == 160) (R (.returned (.int .u8
  112)) w_2) (cond (q0 == 21845) (cond (q1 == 176) (R (.returned (.int .u8 107)) w_2) (R (.returned (.int .u8 45)) w_2)) (R (.returned (.int .u8 45)) w_2))) (cond (q0 == 21845) (cond (q1 == 176) (R
  (.returned (.int .u8 107)) w_2) (R (.returned (.int .u8 45)) w_2)) (R (.returned (.int .u8 45)) w_2))))))))))
set_option maxRecDepth 100000 in
theorem v_key (q0 : Int) (q1 : Int) (R : Ending → World → Prop) (w : World) :
  vc Try.prog ann_key (Try.f22.body.getD .skip) (retQ Try.prog Try.f22.results.toList R) (initFr [.int .i64 q0, .int .u8 q1] Try.f22.ntmps) w = p_key q0 q1 R w := by kernel_rfl
theorem c_key (q0 : Int) (q1 : Int) (R : Ending → World → Prop) (w : World) (h : p_key q0 q1 R w) : Calls Try.prog 22 #[.int .i64 q0, .int .u8 q1] w R :=
  calls_by (P := Try.prog) (f := 22) (fn := Try.f22) (c := Try.f22.body.getD .skip) (args := [.int .i64 q0, .int .u8 q1]) (w := w) (R := R) (p := p_key q0 q1 R w) ann_key Try.func22 rfl (v_key q0 q1 R w) h
set_option maxRecDepth 100000 in
def q_key (q0 : Int) (q1 : Int) (R : Value → Prop) : Prop :=
  (∃ J : List Value → List Value → Prop, (cond (q0 == 21845) (J [.bool (q1 == 170)] []) (J [.bool false] [])) ∧ (∀ (s5 : Bool), J [.bool s5] [] → cond s5 (R (.int .u8 97)) ((∃ J_1 : List Value → List
  Value → Prop, (cond (q0 == 10922) (J_1 [.bool (q1 == 85)] []) (J_1 [.bool false] [])) ∧ (∀ (s12 : Bool), J_1 [.bool s12] [] → cond s12 (R (.int .u8 98)) ((∃ J_2 : List Value → List Value → Prop,
  (cond (q0 == 21845) (J_2 [.bool (q1 == 144)] []) (J_2 [.bool false] [])) ∧ (∀ (s19 : Bool), J_2 [.bool s19] [] → cond s19 (R (.int .u8 105)) (cond (q0 == 21845) (cond (q1 == 240) (R (.int .u8 120))
  (cond (q0 == 21845) (cond (q1 == 128) (R (.int .u8 101)) (cond (q0 == 21845) (cond (q1 == 160) (R (.int .u8 112)) (cond (q0 == 21845) (cond (q1 == 176) (R (.int .u8 107)) (R (.int .u8 45))) (R (.int
  .u8 45)))) (cond (q0 == 21845) (cond (q1 == 176) (R (.int .u8 107)) (R (.int .u8 45))) (R (.int .u8 45))))) (cond (q0 == 21845) (cond (q1 == 160) (R (.int .u8 112)) (cond (q0 == 21845) (cond (q1 ==
  176) (R (.int .u8 107)) (R (.int .u8 45))) (R (.int .u8 45)))) (cond (q0 == 21845) (cond (q1 == 176) (R (.int .u8 107)) (R (.int .u8 45))) (R (.int .u8 45)))))) (cond (q0 == 21845) (cond (q1 == 128)
  (R (.int .u8 101)) (cond (q0 == 21845) (cond (q1 == 160) (R (.int .u8 112)) (cond (q0 == 21845) (cond (q1 == 176) (R (.int .u8 107)) (R (.int .u8 45))) (R (.int .u8 45)))) (cond (q0 == 21845) (cond
  (q1 == 176) (R (.int .u8 107)) (R (.int .u8 45))) (R (.int .u8 45))))) (cond (q0 == 21845) (cond (q1 == 160) (R (.int .u8 112)) (cond (q0 == 21845) (cond (q1 == 176) (R (.int .u8 107)) (R (.int .u8
  45))) (R (.int .u8 45)))) (cond (q0 == 21845) (cond (q1 == 176) (R (.int .u8 107)) (R (.int .u8 45))) (R (.int .u8 45))))))))))))))
set_option maxRecDepth 100000 in
set_option maxHeartbeats 4000000 in
theorem u_key (q0 : Int) (q1 : Int) (R : Value → Prop) (w0 : World) (hq : q_key q0 q1 R) : Calls Try.prog 22 #[.int .i64 q0, .int .u8 q1] w0 (fun e w' => ∃ v, e = .returned v ∧ R v ∧ Dr w0 w') := by
  apply c_key
  unfold p_key
  unfold q_key at hq
  have g0 : Dr w0 w0 := Dr.refl _
  exact (
  hq.elim fun J1 h8 => ⟨fun vs w2 => Dr w0 w2 ∧ J1 vs [], condM h8.1 (fun h60 => ⟨g0, h60⟩) (fun h60 => ⟨g0, h60⟩), fun s5 w j6 => have g5 := j6.1;
  have h7 := h8.2 s5  j6.2;
  condM h7 (fun h9 => ⟨_, rfl, h9, g5⟩) (fun h9 => h9.elim fun J10 h17 => ⟨fun vs w2 => Dr w0 w2 ∧ J10 vs [], condM h17.1 (fun h59 => ⟨g5, h59⟩) (fun h59 => ⟨g5, h59⟩), fun s12 w_1 j15 => have g14 := j15.1;
  have h16 := h17.2 s12  j15.2;
  condM h16 (fun h18 => ⟨_, rfl, h18, g14⟩) (fun h18 => h18.elim fun J19 h26 => ⟨fun vs w2 => Dr w0 w2 ∧ J19 vs [], condM h26.1 (fun h58 => ⟨g14, h58⟩) (fun h58 => ⟨g14, h58⟩), fun s19 w_2 j24 => have g23 := j24.1;
  have h25 := h26.2 s19  j24.2;
  condM h25 (fun h27 => ⟨_, rfl, h27, g23⟩) (fun h27 => condM h27 (fun h28 => condM h28 (fun h29 => ⟨_, rfl, h29, g23⟩) (fun h29 => condM h29 (fun h30 => condM h30 (fun h31 => ⟨_, rfl, h31, g23⟩) (fun h31 => condM h31 (fun h32 => condM h32 (fun h33 => ⟨_, rfl, h33, g23⟩) (fun h33 => condM h33 (fun h34 => condM h34 (fun h35 => ⟨_, rfl, h35, g23⟩) (fun h35 => ⟨_, rfl, h35, g23⟩)) (fun h34 => ⟨_, rfl, h34, g23⟩))) (fun h32 => condM h32 (fun h36 => condM h36 (fun h37 => ⟨_, rfl, h37, g23⟩) (fun h37 => ⟨_, rfl, h37, g23⟩)) (fun h36 => ⟨_, rfl, h36, g23⟩)))) (fun h30 => condM h30 (fun h38 => condM h38 (fun h39 => ⟨_, rfl, h39, g23⟩) (fun h39 => condM h39 (fun h40 => condM h40 (fun h41 => ⟨_, rfl, h41, g23⟩) (fun h41 => ⟨_, rfl, h41, g23⟩)) (fun h40 => ⟨_, rfl, h40, g23⟩))) (fun h38 => condM h38 (fun h42 => condM h42 (fun h43 => ⟨_, rfl, h43, g23⟩) (fun h43 => ⟨_, rfl, h43, g23⟩)) (fun h42 => ⟨_, rfl, h42, g23⟩))))) (fun h28 => condM h28 (fun h44 => condM h44 (fun h45 => ⟨_, rfl, h45, g23⟩) (fun h45 => condM h45 (fun h46 => condM h46 (fun h47 => ⟨_, rfl, h47, g23⟩) (fun h47 => condM h47 (fun h48 => condM h48 (fun h49 => ⟨_, rfl, h49, g23⟩) (fun h49 => ⟨_, rfl, h49, g23⟩)) (fun h48 => ⟨_, rfl, h48, g23⟩))) (fun h46 => condM h46 (fun h50 => condM h50 (fun h51 => ⟨_, rfl, h51, g23⟩) (fun h51 => ⟨_, rfl, h51, g23⟩)) (fun h50 => ⟨_, rfl, h50, g23⟩)))) (fun h44 => condM h44 (fun h52 => condM h52 (fun h53 => ⟨_, rfl, h53, g23⟩) (fun h53 => condM h53 (fun h54 => condM h54 (fun h55 => ⟨_, rfl, h55, g23⟩) (fun h55 => ⟨_, rfl, h55, g23⟩)) (fun h54 => ⟨_, rfl, h54, g23⟩))) (fun h52 => condM h52 (fun h56 => condM h56 (fun h57 => ⟨_, rfl, h57, g23⟩) (fun h57 => ⟨_, rfl, h57, g23⟩)) (fun h56 => ⟨_, rfl, h56, g23⟩)))))⟩)⟩)⟩)
theorem quiet_key (q0 : Int) (q1 : Int) (r : Value) (hq : q_key q0 q1 (fun v => v = r)) : QuietCalls Try.prog 22 #[.int .i64 q0, .int .u8 q1] r :=
  fun w => (u_key q0 q1 _ w hq).mono fun _ _ ⟨_, he, hv, hc⟩ => ⟨by rw [he, hv], hc⟩

/-! (*cameo/cameoref04.Chip).Read -/
abbrev n_rRead : FuncId := 14
def ann_rRead : Ann := ⟨[], [], []⟩
set_option maxRecDepth 100000 in
def p_rRead (q0 : Nat) (q1 : Int) (R : Ending → World → Prop) (w : World) : Prop :=
  (∃ (x12 : Bool), w.cell? ⟨q0, 2, none⟩ = some (.bool x12) ∧ cond x12 (cond (decide ((IntKind.wrap .i64 (Int.tmod q1 65536)) < 2)) ((∃ (x20 : ByteArray), w.cell? ⟨q0, 0, none⟩ = some (.string x20) ∧
  cond ((x20.size : Int) == 65536) (chk (decide (0 ≤ (IntKind.wrap .i64 (Int.tmod q1 65536))) && decide ((IntKind.wrap .i64 (Int.tmod q1 65536)) < ((ByteArray.mk #[50, 27]).size : Int))) (Lt ((sbyte
  (ByteArray.mk #[50, 27]) (IntKind.wrap .i64 (Int.tmod q1 65536))) : Int) fun s4 => R (.returned (.int .u8 s4)) w)) (chk (decide (0 ≤ (IntKind.wrap .i64 (Int.tmod q1 65536))) && decide ((IntKind.wrap
  .i64 (Int.tmod q1 65536)) < ((ByteArray.mk #[98, 19]).size : Int))) (Lt ((sbyte (ByteArray.mk #[98, 19]) (IntKind.wrap .i64 (Int.tmod q1 65536))) : Int) fun s4_1 => R (.returned (.int .u8 s4_1))
  w)))) ((∃ (x30 : ByteArray), w.cell? ⟨q0, 0, none⟩ = some (.string x30) ∧ (∃ (x34 : Int), w.cell? ⟨q0, 3, none⟩ = some (.int .i64 x34) ∧ chk (decide (0 ≤ (IntKind.wrap .i64 ((IntKind.wrap .i64
  (65536 * x34)) + (IntKind.wrap .i64 (Int.tmod q1 65536))))) && decide ((IntKind.wrap .i64 ((IntKind.wrap .i64 (65536 * x34)) + (IntKind.wrap .i64 (Int.tmod q1 65536)))) < (x30.size : Int))) (Lt
  ((sbyte x30 (IntKind.wrap .i64 ((IntKind.wrap .i64 (65536 * x34)) + (IntKind.wrap .i64 (Int.tmod q1 65536))))) : Int) fun s4_2 => (∀ n, R (.returned (.int .u8 s4_2)) (w.drewN n))))))) ((∃ (x30_1 :
  ByteArray), w.cell? ⟨q0, 0, none⟩ = some (.string x30_1) ∧ (∃ (x34_1 : Int), w.cell? ⟨q0, 3, none⟩ = some (.int .i64 x34_1) ∧ chk (decide (0 ≤ (IntKind.wrap .i64 ((IntKind.wrap .i64 (65536 * x34_1))
  + (IntKind.wrap .i64 (Int.tmod q1 65536))))) && decide ((IntKind.wrap .i64 ((IntKind.wrap .i64 (65536 * x34_1)) + (IntKind.wrap .i64 (Int.tmod q1 65536)))) < (x30_1.size : Int))) (Lt ((sbyte x30_1
  (IntKind.wrap .i64 ((IntKind.wrap .i64 (65536 * x34_1)) + (IntKind.wrap .i64 (Int.tmod q1 65536))))) : Int) fun s4_3 => (∀ n_1, R (.returned (.int .u8 s4_3)) (w.drewN n_1)))))))
set_option maxRecDepth 100000 in
theorem v_rRead (q0 : Nat) (q1 : Int) (R : Ending → World → Prop) (w : World) :
  vc Try.prog ann_rRead (Try.f14.body.getD .skip) (retQ Try.prog Try.f14.results.toList R) (initFr [.pointer (some ⟨q0, 0, none⟩), .int .u32 q1] Try.f14.ntmps) w = p_rRead q0 q1 R w := by kernel_rfl
theorem c_rRead (q0 : Nat) (q1 : Int) (R : Ending → World → Prop) (w : World) (h : p_rRead q0 q1 R w) : Calls Try.prog 14 #[.pointer (some ⟨q0, 0, none⟩), .int .u32 q1] w R :=
  calls_by (P := Try.prog) (f := 14) (fn := Try.f14) (c := Try.f14.body.getD .skip) (args := [.pointer (some ⟨q0, 0, none⟩), .int .u32 q1]) (w := w) (R := R) (p := p_rRead q0 q1 R w) ann_rRead Try.func14 rfl (v_rRead q0 q1 R w) h

/-! (*cameo/cameoref04.Chip).apply -/
abbrev n_rapply : FuncId := 21
def ann_rapply : Ann := ⟨[(1, .phased [6, 12])], [], []⟩
set_option maxRecDepth 100000 in
def p_rapply (q0 : Nat) (q1_0 : Int) (q1_1 : Int) (q1_2 : ByteArray) (R : Ending → World → Prop) (w : World) : Prop :=
  Nw w (.cells #[.int .i64 q1_0, .int .i64 q1_1, .string q1_2] 35) fun b w => Nw w (.cells #[.int .i64 0, .int .i64 0, .string (ByteArray.mk #[])] 35) fun b_1 w_1 => (∃ S : World → Prop, S (w_1.drewN
  1) ∧ (∃ (x11 : ByteArray), (∀ w, S w → w.cell? ⟨q0, 0, none⟩ = some (.string x11)) ∧ (∃ (x12_0 : Int), (∀ w, S w → w.cell? ⟨b, 0, none⟩ = some (.int .i64 x12_0)) ∧ (∃ (x12_1 : Int), (∀ w, S w →
  w.cell? ⟨b, 1, none⟩ = some (.int .i64 x12_1)) ∧ (∃ (x12_2 : ByteArray), (∀ w, S w → w.cell? ⟨b, 2, none⟩ = some (.string x12_2)) ∧ (Calls Try.prog 15 #[.string x11, .agg #[.int .i64 x12_0, .int
  .i64 x12_1, .string x12_2]] (w_1.drewN 1) fun e w_2 => ∃ (x13a : ByteArray) (x13b : Int), e = .returned (.tuple #[.string x13a, .int .i64 x13b]) ∧ St w_2 ⟨q0, 0, none⟩ (.string x13a) fun w_3 => (∃
  (x18_0 : Int), w_3.cell? ⟨b, 0, none⟩ = some (.int .i64 x18_0) ∧ (∃ (x18_1 : Int), w_3.cell? ⟨b, 1, none⟩ = some (.int .i64 x18_1) ∧ (∃ (x18_2 : ByteArray), w_3.cell? ⟨b, 2, none⟩ = some (.string
  x18_2) ∧ St w_3 ⟨b_1, 0, none⟩ (.int .i64 x18_0) fun w_4 => St w_4 ⟨b_1, 1, none⟩ (.int .i64 x18_1) fun w_5 => St w_5 ⟨b_1, 2, none⟩ (.string x18_2) fun w_6 => (∃ (r_0 : Int), w_6.cell? ⟨b_1, 0,
  none⟩ = some (.int .i64 r_0) ∧ (∃ (r_1 : Int), w_6.cell? ⟨b_1, 1, none⟩ = some (.int .i64 r_1) ∧ (∃ (r_2 : ByteArray), w_6.cell? ⟨b_1, 2, none⟩ = some (.string r_2) ∧ R (.returned (.tuple #[.agg
  #[.int .i64 r_0, .int .i64 r_1, .string r_2], .bool true])) w_6))))))))))))
set_option maxRecDepth 100000 in
theorem v_rapply (q0 : Nat) (q1_0 : Int) (q1_1 : Int) (q1_2 : ByteArray) (R : Ending → World → Prop) (w : World) :
  vc Try.prog ann_rapply (Try.f21.body.getD .skip) (retQ Try.prog Try.f21.results.toList R) (initFr [.pointer (some ⟨q0, 0, none⟩), .agg #[.int .i64 q1_0, .int .i64 q1_1, .string q1_2]] Try.f21.ntmps) w = p_rapply q0 q1_0 q1_1 q1_2 R w := by kernel_rfl
theorem c_rapply (q0 : Nat) (q1_0 : Int) (q1_1 : Int) (q1_2 : ByteArray) (R : Ending → World → Prop) (w : World) (h : p_rapply q0 q1_0 q1_1 q1_2 R w) : Calls Try.prog 21 #[.pointer (some ⟨q0, 0, none⟩), .agg #[.int .i64 q1_0, .int .i64 q1_1, .string q1_2]] w R :=
  calls_by (P := Try.prog) (f := 21) (fn := Try.f21) (c := Try.f21.body.getD .skip) (args := [.pointer (some ⟨q0, 0, none⟩), .agg #[.int .i64 q1_0, .int .i64 q1_1, .string q1_2]]) (w := w) (R := R) (p := p_rapply q0 q1_0 q1_1 q1_2 R w) ann_rapply Try.func21 rfl (v_rapply q0 q1_0 q1_1 q1_2 R w) h

/-! (*cameo/cameoref04.Chip).Write -/
abbrev n_rWrite : FuncId := 12
def ann_rWrite : Ann := ⟨[], [], [(30, [(112, .one (.bool))]), (21, [])]⟩
set_option maxRecDepth 100000 in
def p_rWrite (q0 : Nat) (q1 : Int) (q2 : Int) (R : Ending → World → Prop) (w : World) : Prop :=
  Nw w (.cells #[.int .i64 0, .int .i64 0, .string (ByteArray.mk #[])] 35) fun b w => (∃ (x18 : ByteArray), w.cell? ⟨q0, 1, none⟩ = some (.string x18) ∧ St w ⟨q0, 1, none⟩ (.string (ByteArray.mk #[]))
  fun w_1 => (∃ J : List Value → World → Prop, (Lt (x18.toList == (ByteArray.mk #[97, 98, 112]).toList : Bool) fun s23 => cond s23 ((∃ (x28 : Int), w_1.cell? ⟨q0, 3, none⟩ = some (.int .i64 x28) ∧ Lt
  ((IntKind.wrap .i64 ((IntKind.wrap .i64 (65536 * x28)) + (IntKind.wrap .i64 (Int.tmod q1 65536)))) : Int) fun s10 => (∃ (x37 : ByteArray), w_1.cell? ⟨q0, 0, none⟩ = some (.string x37) ∧ chk (decide
  (0 ≤ s10) && decide (s10 < (x37.size : Int))) (Nw w_1 (.cells #[.int .u8 (bits .and .u8 (sbyte x37 s10) q2)] 5) fun b_1 w_2 => (∃ (x43 : ByteArray), ∃ w_3, (Go.convert 55 9 (.slice (some ⟨b_1, 0,
  none⟩) 1 1)).run Try.prog w_2 = .ok (.string x43) w_3 ∧ (Calls Try.prog 21 #[.pointer (some ⟨q0, 0, none⟩), .agg #[.int .i64 1, .int .i64 s10, .string x43]] w_3 fun e w_4 => ∃ (x45a_0 : Int) (x45a_1
  : Int) (x45a_2 : ByteArray) (x45b : Bool), e = .returned (.tuple #[.agg #[.int .i64 x45a_0, .int .i64 x45a_1, .string x45a_2], .bool x45b]) ∧ St w_4 ⟨b, 0, none⟩ (.int .i64 x45a_0) fun w_5 => St w_5
  ⟨b, 1, none⟩ (.int .i64 x45a_1) fun w_6 => St w_6 ⟨b, 2, none⟩ (.string x45a_2) fun w_7 => (∃ (r_0 : Int), w_7.cell? ⟨b, 0, none⟩ = some (.int .i64 r_0) ∧ (∃ (r_1 : Int), w_7.cell? ⟨b, 1, none⟩ =
  some (.int .i64 r_1) ∧ (∃ (r_2 : ByteArray), w_7.cell? ⟨b, 2, none⟩ = some (.string r_2) ∧ R (.returned (.tuple #[.agg #[.int .i64 r_0, .int .i64 r_1, .string r_2], .bool x45b])) w_7))))))))) (Lt
  (x18.toList == (ByteArray.mk #[97, 98, 107]).toList : Bool) fun s48 => cond s48 (cond ((IntKind.wrap .i64 (Int.tmod q1 65536)) == 0) ((∃ (x56 : ByteArray), w_1.cell? ⟨q0, 0, none⟩ = some (.string
  x56) ∧ cond (decide ((x56.size : Int) > 65536)) (St w_1 ⟨q0, 3, none⟩ (.int .i64 (IntKind.wrap .i64 (Int.tmod q2 2))) fun w_8 => St w_8 ⟨b, 0, none⟩ (.int .i64 0) fun w_9 => St w_9 ⟨b, 1, none⟩
  (.int .i64 0) fun w_10 => St w_10 ⟨b, 2, none⟩ (.string (ByteArray.mk #[])) fun w_11 => (∃ (r_0_1 : Int), w_11.cell? ⟨b, 0, none⟩ = some (.int .i64 r_0_1) ∧ (∃ (r_1_1 : Int), w_11.cell? ⟨b, 1, none⟩
  = some (.int .i64 r_1_1) ∧ (∃ (r_2_1 : ByteArray), w_11.cell? ⟨b, 2, none⟩ = some (.string r_2_1) ∧ R (.returned (.tuple #[.agg #[.int .i64 r_0_1, .int .i64 r_1_1, .string r_2_1], .bool false]))
  w_11)))) (St w_1 ⟨b, 0, none⟩ (.int .i64 0) fun w_12 => St w_12 ⟨b, 1, none⟩ (.int .i64 0) fun w_13 => St w_13 ⟨b, 2, none⟩ (.string (ByteArray.mk #[])) fun w_14 => (∃ (r_0_2 : Int), w_14.cell? ⟨b,
  0, none⟩ = some (.int .i64 r_0_2) ∧ (∃ (r_1_2 : Int), w_14.cell? ⟨b, 1, none⟩ = some (.int .i64 r_1_2) ∧ (∃ (r_2_2 : ByteArray), w_14.cell? ⟨b, 2, none⟩ = some (.string r_2_2) ∧ R (.returned (.tuple
  #[.agg #[.int .i64 r_0_2, .int .i64 r_1_2, .string r_2_2], .bool false])) w_14)))))) (St w_1 ⟨b, 0, none⟩ (.int .i64 0) fun w_15 => St w_15 ⟨b, 1, none⟩ (.int .i64 0) fun w_16 => St w_16 ⟨b, 2,
  none⟩ (.string (ByteArray.mk #[])) fun w_17 => (∃ (r_0_3 : Int), w_17.cell? ⟨b, 0, none⟩ = some (.int .i64 r_0_3) ∧ (∃ (r_1_3 : Int), w_17.cell? ⟨b, 1, none⟩ = some (.int .i64 r_1_3) ∧ (∃ (r_2_3 :
  ByteArray), w_17.cell? ⟨b, 2, none⟩ = some (.string r_2_3) ∧ R (.returned (.tuple #[.agg #[.int .i64 r_0_3, .int .i64 r_1_3, .string r_2_3], .bool false])) w_17))))) (Lt (x18.toList == (ByteArray.mk
  #[97, 98, 101, 97, 98]).toList : Bool) fun s67 => cond s67 (cond ((IntKind.wrap .i64 (Int.tmod q1 65536)) == 21845) (cond (q2 == 16) ((Calls Try.prog 21 #[.pointer (some ⟨q0, 0, none⟩), .agg #[.int
  .i64 3, .int .i64 0, .string (ByteArray.mk #[])]] w_1 fun e w_18 => ∃ (x77a_0 : Int) (x77a_1 : Int) (x77a_2 : ByteArray) (x77b : Bool), e = .returned (.tuple #[.agg #[.int .i64 x77a_0, .int .i64
  x77a_1, .string x77a_2], .bool x77b]) ∧ St w_18 ⟨b, 0, none⟩ (.int .i64 x77a_0) fun w_19 => St w_19 ⟨b, 1, none⟩ (.int .i64 x77a_1) fun w_20 => St w_20 ⟨b, 2, none⟩ (.string x77a_2) fun w_21 => (∃
  (r_0_4 : Int), w_21.cell? ⟨b, 0, none⟩ = some (.int .i64 r_0_4) ∧ (∃ (r_1_4 : Int), w_21.cell? ⟨b, 1, none⟩ = some (.int .i64 r_1_4) ∧ (∃ (r_2_4 : ByteArray), w_21.cell? ⟨b, 2, none⟩ = some (.string
  r_2_4) ∧ R (.returned (.tuple #[.agg #[.int .i64 r_0_4, .int .i64 r_1_4, .string r_2_4], .bool x77b])) w_21))))) (cond (q2 == 48) ((∃ (x86 : Int), w_1.cell? ⟨q0, 3, none⟩ = some (.int .i64 x86) ∧
  (Calls Try.prog 21 #[.pointer (some ⟨q0, 0, none⟩), .agg #[.int .i64 2, .int .i64 (IntKind.wrap .i64 ((IntKind.wrap .i64 (65536 * x86)) + (IntKind.wrap .i64 ((IntKind.wrap .i64 (Int.tdiv
  (IntKind.wrap .i64 (Int.tmod q1 65536)) 4096)) * 4096)))), .string (ByteArray.mk #[])]] w_1 fun e w_22 => ∃ (x93a_0 : Int) (x93a_1 : Int) (x93a_2 : ByteArray) (x93b : Bool), e = .returned (.tuple
  #[.agg #[.int .i64 x93a_0, .int .i64 x93a_1, .string x93a_2], .bool x93b]) ∧ St w_22 ⟨b, 0, none⟩ (.int .i64 x93a_0) fun w_23 => St w_23 ⟨b, 1, none⟩ (.int .i64 x93a_1) fun w_24 => St w_24 ⟨b, 2,
  none⟩ (.string x93a_2) fun w_25 => (∃ (r_0_5 : Int), w_25.cell? ⟨b, 0, none⟩ = some (.int .i64 r_0_5) ∧ (∃ (r_1_5 : Int), w_25.cell? ⟨b, 1, none⟩ = some (.int .i64 r_1_5) ∧ (∃ (r_2_5 : ByteArray),
  w_25.cell? ⟨b, 2, none⟩ = some (.string r_2_5) ∧ R (.returned (.tuple #[.agg #[.int .i64 r_0_5, .int .i64 r_1_5, .string r_2_5], .bool x93b])) w_25)))))) (St w_1 ⟨b, 0, none⟩ (.int .i64 0) fun w_26
  => St w_26 ⟨b, 1, none⟩ (.int .i64 0) fun w_27 => St w_27 ⟨b, 2, none⟩ (.string (ByteArray.mk #[])) fun w_28 => (∃ (r_0_6 : Int), w_28.cell? ⟨b, 0, none⟩ = some (.int .i64 r_0_6) ∧ (∃ (r_1_6 : Int),
  w_28.cell? ⟨b, 1, none⟩ = some (.int .i64 r_1_6) ∧ (∃ (r_2_6 : ByteArray), w_28.cell? ⟨b, 2, none⟩ = some (.string r_2_6) ∧ R (.returned (.tuple #[.agg #[.int .i64 r_0_6, .int .i64 r_1_6, .string
  r_2_6], .bool false])) w_28)))))) (cond (q2 == 48) ((∃ (x86_1 : Int), w_1.cell? ⟨q0, 3, none⟩ = some (.int .i64 x86_1) ∧ (Calls Try.prog 21 #[.pointer (some ⟨q0, 0, none⟩), .agg #[.int .i64 2, .int
  .i64 (IntKind.wrap .i64 ((IntKind.wrap .i64 (65536 * x86_1)) + (IntKind.wrap .i64 ((IntKind.wrap .i64 (Int.tdiv (IntKind.wrap .i64 (Int.tmod q1 65536)) 4096)) * 4096)))), .string (ByteArray.mk
  #[])]] w_1 fun e w_29 => ∃ (x93a_0_1 : Int) (x93a_1_1 : Int) (x93a_2_1 : ByteArray) (x93b_1 : Bool), e = .returned (.tuple #[.agg #[.int .i64 x93a_0_1, .int .i64 x93a_1_1, .string x93a_2_1], .bool
  x93b_1]) ∧ St w_29 ⟨b, 0, none⟩ (.int .i64 x93a_0_1) fun w_30 => St w_30 ⟨b, 1, none⟩ (.int .i64 x93a_1_1) fun w_31 => St w_31 ⟨b, 2, none⟩ (.string x93a_2_1) fun w_32 => (∃ (r_0_7 : Int),
  w_32.cell? ⟨b, 0, none⟩ = some (.int .i64 r_0_7) ∧ (∃ (r_1_7 : Int), w_32.cell? ⟨b, 1, none⟩ = some (.int .i64 r_1_7) ∧ (∃ (r_2_7 : ByteArray), w_32.cell? ⟨b, 2, none⟩ = some (.string r_2_7) ∧ R
  (.returned (.tuple #[.agg #[.int .i64 r_0_7, .int .i64 r_1_7, .string r_2_7], .bool x93b_1])) w_32)))))) (St w_1 ⟨b, 0, none⟩ (.int .i64 0) fun w_33 => St w_33 ⟨b, 1, none⟩ (.int .i64 0) fun w_34 =>
  St w_34 ⟨b, 2, none⟩ (.string (ByteArray.mk #[])) fun w_35 => (∃ (r_0_8 : Int), w_35.cell? ⟨b, 0, none⟩ = some (.int .i64 r_0_8) ∧ (∃ (r_1_8 : Int), w_35.cell? ⟨b, 1, none⟩ = some (.int .i64 r_1_8)
  ∧ (∃ (r_2_8 : ByteArray), w_35.cell? ⟨b, 2, none⟩ = some (.string r_2_8) ∧ R (.returned (.tuple #[.agg #[.int .i64 r_0_8, .int .i64 r_1_8, .string r_2_8], .bool false])) w_35)))))) (cond (x18.toList
  == (ByteArray.mk #[]).toList) (cond (q2 == 240) (St w_1 ⟨q0, 2, none⟩ (.bool false) fun w_36 => J [] w_36) (J [] w_1)) (J [] w_1))))) ∧ ∀ (w_37 : World), J [] w_37 → (Calls Try.prog 22 #[.int .i64
  (IntKind.wrap .i64 (Int.tmod q1 65536)), .int .u8 q2] w_37 fun e w_38 => ∃ (x107 : Int), e = .returned (.int .u8 x107) ∧ Nw w_38 (.cells #[.int .u8 x107] 5) fun b_2 w_39 => (∃ (x109 : ByteArray), ∃
  w_40, (Go.convert 55 9 (.slice (some ⟨b_2, 0, none⟩) 1 1)).run Try.prog w_39 = .ok (.string x109) w_40 ∧ chk (decide (((x18.size + x109.size : Nat) : Int) ≤ 9223372036854775807)) ((∃ J_1 : List
  Value → World → Prop, (Lt ((x18 ++ x109).toList == (ByteArray.mk #[97]).toList : Bool) fun s112 => cond s112 (J_1 [.bool s112] w_40) (Lt ((x18 ++ x109).toList == (ByteArray.mk #[97, 98]).toList :
  Bool) fun s112_1 => cond s112_1 (J_1 [.bool s112_1] w_40) (Lt ((x18 ++ x109).toList == (ByteArray.mk #[97, 98, 101]).toList : Bool) fun s112_2 => cond s112_2 (J_1 [.bool s112_2] w_40) (Lt ((x18 ++
  x109).toList == (ByteArray.mk #[97, 98, 101, 97]).toList : Bool) fun s112_3 => cond s112_3 (J_1 [.bool s112_3] w_40) (Lt ((x18 ++ x109).toList == (ByteArray.mk #[97, 98, 101, 97, 98]).toList : Bool)
  fun s112_4 => cond s112_4 (J_1 [.bool s112_4] w_40) (Lt ((x18 ++ x109).toList == (ByteArray.mk #[97, 98, 112]).toList : Bool) fun s112_5 => cond s112_5 (J_1 [.bool s112_5] w_40) (Lt ((x18 ++
  x109).toList == (ByteArray.mk #[97, 98, 107]).toList : Bool) fun s112_6 => J_1 [.bool s112_6] w_40))))))) ∧ ∀ (s112_7 : Bool) (w_41 : World), J_1 [.bool s112_7] w_41 → cond s112_7 (St w_41 ⟨q0, 1,
  none⟩ (.string (x18 ++ x109)) fun w_42 => St w_42 ⟨b, 0, none⟩ (.int .i64 0) fun w_43 => St w_43 ⟨b, 1, none⟩ (.int .i64 0) fun w_44 => St w_44 ⟨b, 2, none⟩ (.string (ByteArray.mk #[])) fun w_45 =>
  (∃ (r_0_9 : Int), w_45.cell? ⟨b, 0, none⟩ = some (.int .i64 r_0_9) ∧ (∃ (r_1_9 : Int), w_45.cell? ⟨b, 1, none⟩ = some (.int .i64 r_1_9) ∧ (∃ (r_2_9 : ByteArray), w_45.cell? ⟨b, 2, none⟩ = some
  (.string r_2_9) ∧ R (.returned (.tuple #[.agg #[.int .i64 r_0_9, .int .i64 r_1_9, .string r_2_9], .bool false])) w_45)))) (Lt ((x18 ++ x109).toList == (ByteArray.mk #[97, 98, 105]).toList : Bool)
  fun s124 => cond s124 (St w_41 ⟨q0, 2, none⟩ (.bool true) fun w_46 => St w_46 ⟨b, 0, none⟩ (.int .i64 0) fun w_47 => St w_47 ⟨b, 1, none⟩ (.int .i64 0) fun w_48 => St w_48 ⟨b, 2, none⟩ (.string
  (ByteArray.mk #[])) fun w_49 => (∃ (r_0_10 : Int), w_49.cell? ⟨b, 0, none⟩ = some (.int .i64 r_0_10) ∧ (∃ (r_1_10 : Int), w_49.cell? ⟨b, 1, none⟩ = some (.int .i64 r_1_10) ∧ (∃ (r_2_10 : ByteArray),
  w_49.cell? ⟨b, 2, none⟩ = some (.string r_2_10) ∧ R (.returned (.tuple #[.agg #[.int .i64 r_0_10, .int .i64 r_1_10, .string r_2_10], .bool false])) w_49)))) (Lt ((x18 ++ x109).toList ==
  (ByteArray.mk #[97, 98, 120]).toList : Bool) fun s129 => cond s129 (St w_41 ⟨q0, 2, none⟩ (.bool false) fun w_50 => St w_50 ⟨b, 0, none⟩ (.int .i64 0) fun w_51 => St w_51 ⟨b, 1, none⟩ (.int .i64 0)
  fun w_52 => St w_52 ⟨b, 2, none⟩ (.string (ByteArray.mk #[])) fun w_53 => (∃ (r_0_11 : Int), w_53.cell? ⟨b, 0, none⟩ = some (.int .i64 r_0_11) ∧ (∃ (r_1_11 : Int), w_53.cell? ⟨b, 1, none⟩ = some
  (.int .i64 r_1_11) ∧ (∃ (r_2_11 : ByteArray), w_53.cell? ⟨b, 2, none⟩ = some (.string r_2_11) ∧ R (.returned (.tuple #[.agg #[.int .i64 r_0_11, .int .i64 r_1_11, .string r_2_11], .bool false]))
  w_53)))) (St w_41 ⟨b, 0, none⟩ (.int .i64 0) fun w_54 => St w_54 ⟨b, 1, none⟩ (.int .i64 0) fun w_55 => St w_55 ⟨b, 2, none⟩ (.string (ByteArray.mk #[])) fun w_56 => (∃ (r_0_12 : Int), w_56.cell?
  ⟨b, 0, none⟩ = some (.int .i64 r_0_12) ∧ (∃ (r_1_12 : Int), w_56.cell? ⟨b, 1, none⟩ = some (.int .i64 r_1_12) ∧ (∃ (r_2_12 : ByteArray), w_56.cell? ⟨b, 2, none⟩ = some (.string r_2_12) ∧ R
  (.returned (.tuple #[.agg #[.int .i64 r_0_12, .int .i64 r_1_12, .string r_2_12], .bool false])) w_56))))))))))))
set_option maxRecDepth 100000 in
theorem v_rWrite (q0 : Nat) (q1 : Int) (q2 : Int) (R : Ending → World → Prop) (w : World) :
  vc Try.prog ann_rWrite (Try.f12.body.getD .skip) (retQ Try.prog Try.f12.results.toList R) (initFr [.pointer (some ⟨q0, 0, none⟩), .int .u32 q1, .int .u8 q2] Try.f12.ntmps) w = p_rWrite q0 q1 q2 R w := by kernel_rfl
theorem c_rWrite (q0 : Nat) (q1 : Int) (q2 : Int) (R : Ending → World → Prop) (w : World) (h : p_rWrite q0 q1 q2 R w) : Calls Try.prog 12 #[.pointer (some ⟨q0, 0, none⟩), .int .u32 q1, .int .u8 q2] w R :=
  calls_by (P := Try.prog) (f := 12) (fn := Try.f12) (c := Try.f12.body.getD .skip) (args := [.pointer (some ⟨q0, 0, none⟩), .int .u32 q1, .int .u8 q2]) (w := w) (R := R) (p := p_rWrite q0 q1 q2 R w) ann_rWrite Try.func12 rfl (v_rWrite q0 q1 q2 R w) h

/-! cameo/cameolaw04.awake -/
abbrev n_awake : FuncId := 8
def ann_awake : Ann := ⟨[], [], []⟩
set_option maxRecDepth 100000 in
def p_awake (R : Ending → World → Prop) (w : World) : Prop :=
  (Calls Try.prog 17 #[.int .i64 65536] w fun e w => ∃ (x6 : ByteArray), e = .returned (.string x6) ∧ (Calls Try.prog 18 #[.string x6] w fun e w_1 => ∃ (x7a : Option Addr) (x7b : Int), e = .returned
  (.tuple #[.pointer x7a, .int .i64 x7b]) ∧ (Calls Try.prog 11 #[.pointer x7a, .int .u32 21845, .int .u8 170] w_1 fun e w_2 => ∃ (x11a_0 : Int) (x11a_1 : Int) (x11a_2 : ByteArray) (x11b : Bool), e =
  .returned (.tuple #[.agg #[.int .i64 x11a_0, .int .i64 x11a_1, .string x11a_2], .bool x11b]) ∧ (Calls Try.prog 11 #[.pointer x7a, .int .u32 10922, .int .u8 85] w_2 fun e w_3 => ∃ (x13a_0 : Int)
  (x13a_1 : Int) (x13a_2 : ByteArray) (x13b : Bool), e = .returned (.tuple #[.agg #[.int .i64 x13a_0, .int .i64 x13a_1, .string x13a_2], .bool x13b]) ∧ (Calls Try.prog 11 #[.pointer x7a, .int .u32
  21845, .int .u8 160] w_3 fun e w_4 => ∃ (x15a_0 : Int) (x15a_1 : Int) (x15a_2 : ByteArray) (x15b : Bool), e = .returned (.tuple #[.agg #[.int .i64 x15a_0, .int .i64 x15a_1, .string x15a_2], .bool
  x15b]) ∧ (Calls Try.prog 11 #[.pointer x7a, .int .u32 291, .int .u8 90] w_4 fun e w_5 => ∃ (x18a_0 : Int) (x18a_1 : Int) (x18a_2 : ByteArray) (x18b : Bool), e = .returned (.tuple #[.agg #[.int .i64
  x18a_0, .int .i64 x18a_1, .string x18a_2], .bool x18b]) ∧ Nw w_5 (.cells #[.int .i64 0, .int .i64 0, .string (ByteArray.mk #[])] 35) fun b w_6 => St w_6 ⟨b, 0, none⟩ (.int .i64 x18a_0) fun w_7 => St
  w_7 ⟨b, 1, none⟩ (.int .i64 x18a_1) fun w_8 => St w_8 ⟨b, 2, none⟩ (.string x18a_2) fun w_9 => cond (x7b == 0) (cond x18b ((∃ (x27_0 : Int), w_9.cell? ⟨b, 0, none⟩ = some (.int .i64 x27_0) ∧ (∃
  (x27_1 : Int), w_9.cell? ⟨b, 1, none⟩ = some (.int .i64 x27_1) ∧ (∃ (x27_2 : ByteArray), w_9.cell? ⟨b, 2, none⟩ = some (.string x27_2) ∧ cond ((x27_0 == 1) && ((x27_1 == 291) && (x27_2 ==
  (ByteArray.mk #[90])))) ((Calls Try.prog 13 #[.pointer x7a, .int .u32 291] w_9 fun e w_10 => ∃ (x33 : Int), e = .returned (.int .u8 x33) ∧ cond (x33 == 90) ((Calls Try.prog 13 #[.pointer x7a, .int
  .u32 292] w_10 fun e w_11 => ∃ (x38 : Int), e = .returned (.int .u8 x38) ∧ R (.returned (.bool (x38 == 255))) w_11)) (R (.returned (.bool false)) w_10))) (R (.returned (.bool false)) w_9))))) (R
  (.returned (.bool false)) w_9)) (R (.returned (.bool false)) w_9)))))))
set_option maxRecDepth 100000 in
theorem v_awake (R : Ending → World → Prop) (w : World) :
  vc Try.prog ann_awake (Try.f8.body.getD .skip) (retQ Try.prog Try.f8.results.toList R) (initFr [] Try.f8.ntmps) w = p_awake R w := by kernel_rfl
theorem c_awake (R : Ending → World → Prop) (w : World) (h : p_awake R w) : Calls Try.prog 8 #[] w R :=
  calls_by (P := Try.prog) (f := 8) (fn := Try.f8) (c := Try.f8.body.getD .skip) (args := []) (w := w) (R := R) (p := p_awake R w) ann_awake Try.func8 rfl (v_awake R w) h

/-! cameo/cameolaw04.chip -/
abbrev n_chip : FuncId := 9
def ann_chip : Ann := ⟨[], [], []⟩
set_option maxRecDepth 100000 in
def p_chip (q0 : Bool) (R : Ending → World → Prop) (w : World) : Prop :=
  cond q0 ((Calls Try.prog 17 #[.int .i64 131072] w fun e w => ∃ (x9 : ByteArray), e = .returned (.string x9) ∧ (Calls Try.prog 18 #[.string x9] w fun e w_1 => ∃ (x10a : Option Addr) (x10b : Int), e =
  .returned (.tuple #[.pointer x10a, .int .i64 x10b]) ∧ R (.returned (.pointer x10a)) w_1))) ((Calls Try.prog 17 #[.int .i64 65536] w fun e w_2 => ∃ (x9_1 : ByteArray), e = .returned (.string x9_1) ∧
  (Calls Try.prog 18 #[.string x9_1] w_2 fun e w_3 => ∃ (x10a_1 : Option Addr) (x10b_1 : Int), e = .returned (.tuple #[.pointer x10a_1, .int .i64 x10b_1]) ∧ R (.returned (.pointer x10a_1)) w_3)))
set_option maxRecDepth 100000 in
theorem v_chip (q0 : Bool) (R : Ending → World → Prop) (w : World) :
  vc Try.prog ann_chip (Try.f9.body.getD .skip) (retQ Try.prog Try.f9.results.toList R) (initFr [.bool q0] Try.f9.ntmps) w = p_chip q0 R w := by kernel_rfl
theorem c_chip (q0 : Bool) (R : Ending → World → Prop) (w : World) (h : p_chip q0 R w) : Calls Try.prog 9 #[.bool q0] w R :=
  calls_by (P := Try.prog) (f := 9) (fn := Try.f9) (c := Try.f9.body.getD .skip) (args := [.bool q0]) (w := w) (R := R) (p := p_chip q0 R w) ann_chip Try.func9 rfl (v_chip q0 R w) h

/-! cameo/cameolaw04.FlashRuns -/
abbrev n_FlashRuns : FuncId := 3
def ann_FlashRuns : Ann := ⟨[(12, .phased [12, 16]), (14, .phased [10, 16]), (17, .phased [1])], [(8, [(28, .one (.int .i64))])], []⟩
set_option maxRecDepth 100000 in
def p_FlashRuns (q0 : Bool) (q1 : Option Addr) (q1n : Nat) (q1c : Nat) (q2 : Option Addr) (q2n : Nat) (q2c : Nat) (R : Ending → World → Prop) (w : World) : Prop :=
  (Calls Try.prog 8 #[] w fun e w => ∃ (x15 : Bool), e = .returned (.bool x15) ∧ cond (!x15) (R (.returned (.bool false)) w) (cond (decide (((q1n : Nat) : Int) > 400)) (R (.returned (.bool true)) w)
  ((Calls Try.prog 9 #[.bool q0] w fun e w_1 => ∃ (x21 : Option Addr), e = .returned (.pointer x21) ∧ (Calls Try.prog 10 #[.pointer x21] w_1 fun e w_2 => ∃ (x23 : ByteArray), e = .returned (.string
  x23) ∧ Nw w_2 (.cells #[.string x23, .string (ByteArray.mk #[]), .bool false, .int .i64 0] 30) fun b w_3 => (∃ I : Nat → List Value → World → Prop, (∃ n, I n [.int .i64 0] w_3) ∧ ∀ n, ∀ (s28 : Int)
  (w_4 : World), I n [.int .i64 s28] w_4 → cond (decide (s28 < ((q1n : Nat) : Int))) (NN q1 fun a31 => chk (decide (0 ≤ s28) && decide (s28 < ((q1n : Nat) : Int))) ((∃ (x32_0 : Int), w_4.cell?
  (a31.add (s28.toNat * 2)) = some (.int .u32 x32_0) ∧ (∃ (x32_1 : Int), w_4.cell? ((a31.add (s28.toNat * 2)).add 1) = some (.int .u8 x32_1) ∧ Nw w_4 (.cells #[.int .u32 0, .int .u8 0] 33) fun b_1 w_5
  => St w_5 ⟨b_1, 0, none⟩ (.int .u32 x32_0) fun w_6 => St w_6 ⟨b_1, 1, none⟩ (.int .u8 x32_1) fun w_7 => (∃ (x36 : Int), w_7.cell? ⟨b_1, 0, none⟩ = some (.int .u32 x36) ∧ (∃ (x38 : Int), w_7.cell?
  ⟨b_1, 1, none⟩ = some (.int .u8 x38) ∧ (Calls Try.prog 11 #[.pointer x21, .int .u32 x36, .int .u8 x38] w_7 fun e w_8 => ∃ (x39a_0 : Int) (x39a_1 : Int) (x39a_2 : ByteArray) (x39b : Bool), e =
  .returned (.tuple #[.agg #[.int .i64 x39a_0, .int .i64 x39a_1, .string x39a_2], .bool x39b]) ∧ Nw w_8 (.cells #[.int .i64 0, .int .i64 0, .string (ByteArray.mk #[])] 35) fun b_2 w_9 => St w_9 ⟨b_2,
  0, none⟩ (.int .i64 x39a_0) fun w_10 => St w_10 ⟨b_2, 1, none⟩ (.int .i64 x39a_1) fun w_11 => St w_11 ⟨b_2, 2, none⟩ (.string x39a_2) fun w_12 => (∃ (x45 : Int), w_12.cell? ⟨b_1, 0, none⟩ = some
  (.int .u32 x45) ∧ (∃ (x47 : Int), w_12.cell? ⟨b_1, 1, none⟩ = some (.int .u8 x47) ∧ (Calls Try.prog 12 #[.pointer (some ⟨b, 0, none⟩), .int .u32 x45, .int .u8 x47] w_12 fun e w_13 => ∃ (x48a_0 :
  Int) (x48a_1 : Int) (x48a_2 : ByteArray) (x48b : Bool), e = .returned (.tuple #[.agg #[.int .i64 x48a_0, .int .i64 x48a_1, .string x48a_2], .bool x48b]) ∧ Nw w_13 (.cells #[.int .i64 0, .int .i64 0,
  .string (ByteArray.mk #[])] 35) fun b_3 w_14 => St w_14 ⟨b_3, 0, none⟩ (.int .i64 x48a_0) fun w_15 => St w_15 ⟨b_3, 1, none⟩ (.int .i64 x48a_1) fun w_16 => St w_16 ⟨b_3, 2, none⟩ (.string x48a_2)
  fun w_17 => (∃ S : World → Prop, S (w_17.drewN 1) ∧ (∃ (x51_0 : Int), (∀ w, S w → w.cell? ⟨b_2, 0, none⟩ = some (.int .i64 x51_0)) ∧ (∃ (x51_1 : Int), (∀ w, S w → w.cell? ⟨b_2, 1, none⟩ = some (.int
  .i64 x51_1)) ∧ (∃ (x51_2 : ByteArray), (∀ w, S w → w.cell? ⟨b_2, 2, none⟩ = some (.string x51_2)) ∧ (∃ (x52_0 : Int), (∀ w, S w → w.cell? ⟨b_3, 0, none⟩ = some (.int .i64 x52_0)) ∧ (∃ (x52_1 : Int),
  (∀ w, S w → w.cell? ⟨b_3, 1, none⟩ = some (.int .i64 x52_1)) ∧ (∃ (x52_2 : ByteArray), (∀ w, S w → w.cell? ⟨b_3, 2, none⟩ = some (.string x52_2)) ∧ cond (!(((x51_0 == x52_0) && ((x51_1 == x52_1) &&
  (x51_2 == x52_2))))) (R (.returned (.bool false)) (w_17.drewN 1)) (cond (!(x39b == x48b)) (R (.returned (.bool false)) (w_17.drewN 1)) ((∃ (x62 : Int), (∀ w, S w → w.cell? ⟨b_1, 0, none⟩ = some
  (.int .u32 x62)) ∧ (∃ (x66 : Int), (∀ w, S w → w.cell? ⟨b_1, 0, none⟩ = some (.int .u32 x66)) ∧ (Calls Try.prog 13 #[.pointer x21, .int .u32 x62] (w_17.drewN 1) fun e w_18 => ∃ (x63 : Int), e =
  .returned (.int .u8 x63) ∧ (S w_18 ∧ (Calls Try.prog 14 #[.pointer (some ⟨b, 0, none⟩), .int .u32 x66] w_18 fun e w_19 => ∃ (x67 : Int), e = .returned (.int .u8 x67) ∧ (S w_19 ∧ cond (x63 != x67) (R
  (.returned (.bool false)) w_19) ((∃ S_1 : World → Prop, S_1 (w_19.drewN 1) ∧ cond (decide (s28 < ((q2n : Nat) : Int))) (NN q2 fun a78 => chk (decide (0 ≤ s28) && decide (s28 < ((q2n : Nat) : Int)))
  ((∃ (x79 : Int), (∀ w, S_1 w → w.cell? (a78.add (s28.toNat * 1)) = some (.int .u32 x79)) ∧ NN q2 fun a84 => chk (decide (0 ≤ s28) && decide (s28 < ((q2n : Nat) : Int))) ((∃ (x85 : Int), (∀ w, S_1 w
  → w.cell? (a84.add (s28.toNat * 1)) = some (.int .u32 x85)) ∧ (Calls Try.prog 13 #[.pointer x21, .int .u32 x79] (w_19.drewN 1) fun e w_20 => ∃ (x80 : Int), e = .returned (.int .u8 x80) ∧ (S_1 w_20 ∧
  (Calls Try.prog 14 #[.pointer (some ⟨b, 0, none⟩), .int .u32 x85] w_20 fun e w_21 => ∃ (x86 : Int), e = .returned (.int .u8 x86) ∧ (S_1 w_21 ∧ cond (x80 != x86) (R (.returned (.bool false)) w_21)
  ((∃ m, m < n ∧ I m [.int .i64 (IntKind.wrap .i64 (s28 + 1))] w_21))))))))))) ((∃ m, m < n ∧ I m [.int .i64 (IntKind.wrap .i64 (s28 + 1))] (w_19.drewN 1)))))))))))))))))))))))))))))) ((∃ S_2 : World
  → Prop, S_2 (w_4.drewN 1) ∧ (∃ (x95 : ByteArray), (∀ w, S_2 w → w.cell? ⟨b, 0, none⟩ = some (.string x95)) ∧ (Calls Try.prog 10 #[.pointer x21] (w_4.drewN 1) fun e w_22 => ∃ (x91 : ByteArray), e =
  .returned (.string x91) ∧ (S_2 w_22 ∧ R (.returned (.bool (x91.toList == x95.toList))) w_22)))))))))))
set_option maxRecDepth 100000 in
theorem v_FlashRuns (q0 : Bool) (q1 : Option Addr) (q1n : Nat) (q1c : Nat) (q2 : Option Addr) (q2n : Nat) (q2c : Nat) (R : Ending → World → Prop) (w : World) :
  vc Try.prog ann_FlashRuns (Try.f3.body.getD .skip) (retQ Try.prog Try.f3.results.toList R) (initFr [.bool q0, .slice q1 q1n q1c, .slice q2 q2n q2c] Try.f3.ntmps) w = p_FlashRuns q0 q1 q1n q1c q2 q2n q2c R w := by kernel_rfl
theorem c_FlashRuns (q0 : Bool) (q1 : Option Addr) (q1n : Nat) (q1c : Nat) (q2 : Option Addr) (q2n : Nat) (q2c : Nat) (R : Ending → World → Prop) (w : World) (h : p_FlashRuns q0 q1 q1n q1c q2 q2n q2c R w) : Calls Try.prog 3 #[.bool q0, .slice q1 q1n q1c, .slice q2 q2n q2c] w R :=
  calls_by (P := Try.prog) (f := 3) (fn := Try.f3) (c := Try.f3.body.getD .skip) (args := [.bool q0, .slice q1 q1n q1c, .slice q2 q2n q2c]) (w := w) (R := R) (p := p_FlashRuns q0 q1 q1n q1c q2 q2n q2c R w) ann_FlashRuns Try.func3 rfl (v_FlashRuns q0 q1 q1n q1c q2 q2n q2c R w) h

/-! cameo/cameolaw04.FlashFolds -/
abbrev n_FlashFolds : FuncId := 4
def ann_FlashFolds : Ann := ⟨[], [(8, [(6, .one (.str)), (25, .one (.int .i64))])], []⟩
set_option maxRecDepth 100000 in
def p_FlashFolds (q0 : Bool) (q1 : Option Addr) (q1n : Nat) (q1c : Nat) (R : Ending → World → Prop) (w : World) : Prop :=
  (Calls Try.prog 8 #[] w fun e w => ∃ (x14 : Bool), e = .returned (.bool x14) ∧ cond (!x14) (R (.returned (.bool false)) w) (cond (decide (((q1n : Nat) : Int) > 200)) (R (.returned (.bool true)) w)
  ((Calls Try.prog 9 #[.bool q0] w fun e w_1 => ∃ (x20 : Option Addr), e = .returned (.pointer x20) ∧ (Calls Try.prog 10 #[.pointer x20] w_1 fun e w_2 => ∃ (x22 : ByteArray), e = .returned (.string
  x22) ∧ (∃ I : Nat → List Value → World → Prop, (∃ n, I n [.string x22, .int .i64 0] w_2) ∧ ∀ n, ∀ (s6 : ByteArray) (s25 : Int) (w_3 : World), I n [.string s6, .int .i64 s25] w_3 → cond (decide (s25
  < ((q1n : Nat) : Int))) (NN q1 fun a27 => chk (decide (0 ≤ s25) && decide (s25 < ((q1n : Nat) : Int))) ((∃ (x28_0 : Int), w_3.cell? (a27.add (s25.toNat * 2)) = some (.int .u32 x28_0) ∧ (∃ (x28_1 :
  Int), w_3.cell? ((a27.add (s25.toNat * 2)).add 1) = some (.int .u8 x28_1) ∧ Nw w_3 (.cells #[.int .u32 0, .int .u8 0] 33) fun b w_4 => St w_4 ⟨b, 0, none⟩ (.int .u32 x28_0) fun w_5 => St w_5 ⟨b, 1,
  none⟩ (.int .u8 x28_1) fun w_6 => (Calls Try.prog 10 #[.pointer x20] w_6 fun e w_7 => ∃ (x30 : ByteArray), e = .returned (.string x30) ∧ (∃ (x34 : Int), w_7.cell? ⟨b, 0, none⟩ = some (.int .u32 x34)
  ∧ (∃ (x36 : Int), w_7.cell? ⟨b, 1, none⟩ = some (.int .u8 x36) ∧ (Calls Try.prog 11 #[.pointer x20, .int .u32 x34, .int .u8 x36] w_7 fun e w_8 => ∃ (x37a_0 : Int) (x37a_1 : Int) (x37a_2 : ByteArray)
  (x37b : Bool), e = .returned (.tuple #[.agg #[.int .i64 x37a_0, .int .i64 x37a_1, .string x37a_2], .bool x37b]) ∧ Nw w_8 (.cells #[.int .i64 0, .int .i64 0, .string (ByteArray.mk #[])] 35) fun b_1
  w_9 => St w_9 ⟨b_1, 0, none⟩ (.int .i64 x37a_0) fun w_10 => St w_10 ⟨b_1, 1, none⟩ (.int .i64 x37a_1) fun w_11 => St w_11 ⟨b_1, 2, none⟩ (.string x37a_2) fun w_12 => cond (!x37b) ((Calls Try.prog 10
  #[.pointer x20] w_12 fun e w_13 => ∃ (x43 : ByteArray), e = .returned (.string x43) ∧ cond (!(x43.toList == x30.toList)) (R (.returned (.bool false)) w_13) ((∃ (x47_0 : Int), w_13.cell? ⟨b_1, 0,
  none⟩ = some (.int .i64 x47_0) ∧ (∃ (x47_1 : Int), w_13.cell? ⟨b_1, 1, none⟩ = some (.int .i64 x47_1) ∧ (∃ (x47_2 : ByteArray), w_13.cell? ⟨b_1, 2, none⟩ = some (.string x47_2) ∧ cond (!(((x47_0 ==
  0) && ((x47_1 == 0) && (x47_2 == (ByteArray.mk #[])))))) (R (.returned (.bool false)) w_13) ((∃ m, m < n ∧ I m [.string s6, .int .i64 (IntKind.wrap .i64 (s25 + 1))] w_13)))))))) ((∃ (x53_0 : Int),
  w_12.cell? ⟨b_1, 0, none⟩ = some (.int .i64 x53_0) ∧ (∃ (x53_1 : Int), w_12.cell? ⟨b_1, 1, none⟩ = some (.int .i64 x53_1) ∧ (∃ (x53_2 : ByteArray), w_12.cell? ⟨b_1, 2, none⟩ = some (.string x53_2) ∧
  (Calls Try.prog 15 #[.string s6, .agg #[.int .i64 x53_0, .int .i64 x53_1, .string x53_2]] w_12 fun e w_14 => ∃ (x54a : ByteArray) (x54b : Int), e = .returned (.tuple #[.string x54a, .int .i64 x54b])
  ∧ cond (x54b != 0) (R (.returned (.bool false)) w_14) ((∃ m, m < n ∧ I m [.string x54a, .int .i64 (IntKind.wrap .i64 (s25 + 1))] w_14))))))))))))))) ((Calls Try.prog 10 #[.pointer x20] w_3 fun e
  w_15 => ∃ (x62 : ByteArray), e = .returned (.string x62) ∧ R (.returned (.bool (x62.toList == s6.toList))) w_15))))))))
set_option maxRecDepth 100000 in
theorem v_FlashFolds (q0 : Bool) (q1 : Option Addr) (q1n : Nat) (q1c : Nat) (R : Ending → World → Prop) (w : World) :
  vc Try.prog ann_FlashFolds (Try.f4.body.getD .skip) (retQ Try.prog Try.f4.results.toList R) (initFr [.bool q0, .slice q1 q1n q1c] Try.f4.ntmps) w = p_FlashFolds q0 q1 q1n q1c R w := by kernel_rfl
theorem c_FlashFolds (q0 : Bool) (q1 : Option Addr) (q1n : Nat) (q1c : Nat) (R : Ending → World → Prop) (w : World) (h : p_FlashFolds q0 q1 q1n q1c R w) : Calls Try.prog 4 #[.bool q0, .slice q1 q1n q1c] w R :=
  calls_by (P := Try.prog) (f := 4) (fn := Try.f4) (c := Try.f4.body.getD .skip) (args := [.bool q0, .slice q1 q1n q1c]) (w := w) (R := R) (p := p_FlashFolds q0 q1 q1n q1c R w) ann_FlashFolds Try.func4 rfl (v_FlashFolds q0 q1 q1n q1c R w) h

/-! cameo/cameolaw04.FlashMade -/
abbrev n_FlashMade : FuncId := 6
def ann_FlashMade : Ann := ⟨[], [], [(9, [])]⟩
set_option maxRecDepth 100000 in
def p_FlashMade (q0 : Int) (q1 : Int) (q2 : Int) (R : Ending → World → Prop) (w : World) : Prop :=
  (Calls Try.prog 8 #[] w fun e w => ∃ (x13 : Bool), e = .returned (.bool x13) ∧ cond (!x13) (R (.returned (.bool false)) w) ((Calls Try.prog 17 #[.int .i64 q0] w fun e w_1 => ∃ (x16 : ByteArray), e =
  .returned (.string x16) ∧ cond ((x16.size : Int) != (if (if (131072 : Int) < q0 then 131072 else q0) > 0 then (if (131072 : Int) < q0 then 131072 else q0) else 0)) (R (.returned (.bool false)) w_1)
  ((Calls Try.prog 18 #[.string x16] w_1 fun e w_2 => ∃ (x25a : Option Addr) (x25b : Int), e = .returned (.tuple #[.pointer x25a, .int .i64 x25b]) ∧ (∃ J : List Value → World → Prop, (cond ((x16.size
  : Int) == 65536) (cond (!((x25b == 0) == true)) (R (.returned (.bool false)) w_2) (cond (x25b != 0) (cond (x25b != 1) (R (.returned (.bool false)) w_2) (cond (!x25a.isNone) (R (.returned (.bool
  false)) w_2) (J [] w_2))) (J [] w_2))) (cond (!((x25b == 0) == ((x16.size : Int) == 131072))) (R (.returned (.bool false)) w_2) (cond (x25b != 0) (cond (x25b != 1) (R (.returned (.bool false)) w_2)
  (cond (!x25a.isNone) (R (.returned (.bool false)) w_2) (J [] w_2))) (J [] w_2)))) ∧ ∀ (w_3 : World), J [] w_3 → (Calls Try.prog 11 #[.pointer none, .int .u32 q1, .int .u8 q2] w_3 fun e w_4 => ∃
  (x55a_0 : Int) (x55a_1 : Int) (x55a_2 : ByteArray) (x55b : Bool), e = .returned (.tuple #[.agg #[.int .i64 x55a_0, .int .i64 x55a_1, .string x55a_2], .bool x55b]) ∧ Nw w_4 (.cells #[.int .i64 0,
  .int .i64 0, .string (ByteArray.mk #[])] 35) fun b w_5 => St w_5 ⟨b, 0, none⟩ (.int .i64 x55a_0) fun w_6 => St w_6 ⟨b, 1, none⟩ (.int .i64 x55a_1) fun w_7 => St w_7 ⟨b, 2, none⟩ (.string x55a_2) fun
  w_8 => (Calls Try.prog 13 #[.pointer none, .int .u32 q1] w_8 fun e w_9 => ∃ (x60 : Int), e = .returned (.int .u8 x60) ∧ cond (x60 == 255) (cond (!x55b) ((Calls Try.prog 10 #[.pointer none] w_9 fun e
  w_10 => ∃ (x68 : ByteArray), e = .returned (.string x68) ∧ R (.returned (.bool (x68.toList == (ByteArray.mk #[]).toList))) w_10)) (R (.returned (.bool false)) w_9)) (R (.returned (.bool false))
  w_9)))))))))
set_option maxRecDepth 100000 in
theorem v_FlashMade (q0 : Int) (q1 : Int) (q2 : Int) (R : Ending → World → Prop) (w : World) :
  vc Try.prog ann_FlashMade (Try.f6.body.getD .skip) (retQ Try.prog Try.f6.results.toList R) (initFr [.int .i64 q0, .int .u32 q1, .int .u8 q2] Try.f6.ntmps) w = p_FlashMade q0 q1 q2 R w := by kernel_rfl
theorem c_FlashMade (q0 : Int) (q1 : Int) (q2 : Int) (R : Ending → World → Prop) (w : World) (h : p_FlashMade q0 q1 q2 R w) : Calls Try.prog 6 #[.int .i64 q0, .int .u32 q1, .int .u8 q2] w R :=
  calls_by (P := Try.prog) (f := 6) (fn := Try.f6) (c := Try.f6.body.getD .skip) (args := [.int .i64 q0, .int .u32 q1, .int .u8 q2]) (w := w) (R := R) (p := p_FlashMade q0 q1 q2 R w) ann_FlashMade Try.func6 rfl (v_FlashMade q0 q1 q2 R w) h

/-! cameo/cameolaw04.FlashHides -/
abbrev n_FlashHides : FuncId := 7
def ann_FlashHides : Ann := ⟨[(28, .phased [1, 6, 12]), (31, .phased [1, 8, 17])], [(17, [(55, .one (.int .i64))]), (12, [(38, .one (.int .i64))]), (7, [(27, .one (.int .i64))])], [(28, [(15, .one (.int .u8)), (16, .one (.int .u8)), (17, .one (.int .i64))])]⟩
set_option maxRecDepth 100000 in
def p_FlashHides (q0 : Bool) (q1 : Int) (q2 : Option Addr) (q2n : Nat) (q2c : Nat) (R : Ending → World → Prop) (w : World) : Prop :=
  (Calls Try.prog 8 #[] w fun e w => ∃ (x18 : Bool), e = .returned (.bool x18) ∧ cond (!x18) (R (.returned (.bool false)) w) (cond (decide (((q2n : Nat) : Int) > 60)) (R (.returned (.bool true)) w)
  ((Calls Try.prog 9 #[.bool q0] w fun e w_1 => ∃ (x24 : Option Addr), e = .returned (.pointer x24) ∧ (∃ I : Nat → List Value → World → Prop, (∃ n, I n [.int .i64 0] w_1) ∧ ∀ n, ∀ (s27 : Int) (w_2 :
  World), I n [.int .i64 s27] w_2 → cond (decide (s27 < ((q2n : Nat) : Int))) (NN q2 fun a29 => chk (decide (0 ≤ s27) && decide (s27 < ((q2n : Nat) : Int))) ((∃ (x30_0 : Int), w_2.cell? (a29.add
  (s27.toNat * 2)) = some (.int .u32 x30_0) ∧ (∃ (x30_1 : Int), w_2.cell? ((a29.add (s27.toNat * 2)).add 1) = some (.int .u8 x30_1) ∧ Nw w_2 (.cells #[.int .u32 0, .int .u8 0] 33) fun b w_3 => St w_3
  ⟨b, 0, none⟩ (.int .u32 x30_0) fun w_4 => St w_4 ⟨b, 1, none⟩ (.int .u8 x30_1) fun w_5 => (∃ (x33 : Int), w_5.cell? ⟨b, 0, none⟩ = some (.int .u32 x33) ∧ (∃ (x35 : Int), w_5.cell? ⟨b, 1, none⟩ =
  some (.int .u8 x35) ∧ (Calls Try.prog 11 #[.pointer x24, .int .u32 x33, .int .u8 x35] w_5 fun e w_6 => ∃ (x36a_0 : Int) (x36a_1 : Int) (x36a_2 : ByteArray) (x36b : Bool), e = .returned (.tuple
  #[.agg #[.int .i64 x36a_0, .int .i64 x36a_1, .string x36a_2], .bool x36b]) ∧ (∃ m, m < n ∧ I m [.int .i64 (IntKind.wrap .i64 (s27 + 1))] w_6)))))))) ((∃ I_1 : Nat → List Value → World → Prop, (∃
  n_1, I_1 n_1 [.int .i64 0] w_2) ∧ ∀ n_1, ∀ (s38 : Int) (w_7 : World), I_1 n_1 [.int .i64 s38] w_7 → cond (decide (s38 < 3)) ((Calls Try.prog 11 #[.pointer x24, .int .u32 0, .int .u8 240] w_7 fun e
  w_8 => ∃ (x41a_0 : Int) (x41a_1 : Int) (x41a_2 : ByteArray) (x41b : Bool), e = .returned (.tuple #[.agg #[.int .i64 x41a_0, .int .i64 x41a_1, .string x41a_2], .bool x41b]) ∧ (∃ m_1, m_1 < n_1 ∧ I_1
  m_1 [.int .i64 (IntKind.wrap .i64 (s38 + 1))] w_8))) ((Calls Try.prog 10 #[.pointer x24] w_7 fun e w_9 => ∃ (x44 : ByteArray), e = .returned (.string x44) ∧ Nw w_9 (.cells #[.int .u32 21845, .int
  .u8 170, .int .u32 10922, .int .u8 85, .int .u32 21845, .int .u8 176, .int .u32 0, .int .u8 q1, .int .u32 21845, .int .u8 170, .int .u32 10922, .int .u8 85, .int .u32 21845, .int .u8 144] 33) fun
  b_1 w_10 => (∃ I_2 : Nat → List Value → World → Prop, (∃ n_2, I_2 n_2 [.int .i64 0] w_10) ∧ ∀ n_2, ∀ (s55 : Int) (w_11 : World), I_2 n_2 [.int .i64 s55] w_11 → cond (decide (s55 < ((7 : Nat) :
  Int))) (chk (decide (0 ≤ s55) && decide (s55 < ((7 : Nat) : Int))) ((∃ (x58_0 : Int), w_11.cell? ((⟨b_1, 0, none⟩ : Addr).add (s55.toNat * 2)) = some (.int .u32 x58_0) ∧ (∃ (x58_1 : Int), w_11.cell?
  (((⟨b_1, 0, none⟩ : Addr).add (s55.toNat * 2)).add 1) = some (.int .u8 x58_1) ∧ Nw w_11 (.cells #[.int .u32 0, .int .u8 0] 33) fun b_2 w_12 => St w_12 ⟨b_2, 0, none⟩ (.int .u32 x58_0) fun w_13 => St
  w_13 ⟨b_2, 1, none⟩ (.int .u8 x58_1) fun w_14 => (∃ (x62 : Int), w_14.cell? ⟨b_2, 0, none⟩ = some (.int .u32 x62) ∧ (∃ (x64 : Int), w_14.cell? ⟨b_2, 1, none⟩ = some (.int .u8 x64) ∧ (Calls Try.prog
  11 #[.pointer x24, .int .u32 x62, .int .u8 x64] w_14 fun e w_15 => ∃ (x65a_0 : Int) (x65a_1 : Int) (x65a_2 : ByteArray) (x65b : Bool), e = .returned (.tuple #[.agg #[.int .i64 x65a_0, .int .i64
  x65a_1, .string x65a_2], .bool x65b]) ∧ Nw w_15 (.cells #[.int .i64 0, .int .i64 0, .string (ByteArray.mk #[])] 35) fun b_3 w_16 => St w_16 ⟨b_3, 0, none⟩ (.int .i64 x65a_0) fun w_17 => St w_17
  ⟨b_3, 1, none⟩ (.int .i64 x65a_1) fun w_18 => St w_18 ⟨b_3, 2, none⟩ (.string x65a_2) fun w_19 => cond x65b (R (.returned (.bool false)) w_19) ((∃ m_2, m_2 < n_2 ∧ I_2 m_2 [.int .i64 (IntKind.wrap
  .i64 (s55 + 1))] w_19))))))))) ((∃ J : List Value → World → Prop, (cond q0 (Lt ((IntKind.wrap .i64 ((IntKind.wrap .i64 (bits .and .u8 q1 1)) * 65536)) : Int) fun s17 => J [.int .u8 98, .int .u8 19,
  .int .i64 s17] w_11) (J [.int .u8 50, .int .u8 27, .int .i64 0] w_11)) ∧ ∀ (s15 : Int) (s16 : Int) (s17_1 : Int) (w_20 : World), J [.int .u8 s15, .int .u8 s16, .int .i64 s17_1] w_20 → (∃ S : World →
  Prop, S (w_20.drewN 1) ∧ (Calls Try.prog 13 #[.pointer x24, .int .u32 0] (w_20.drewN 1) fun e w_21 => ∃ (x76 : Int), e = .returned (.int .u8 x76) ∧ (∃ S_1 : World → Prop, S_1 w_21 ∧ cond (x76 !=
  s15) (R (.returned (.bool false)) w_21) ((Calls Try.prog 13 #[.pointer x24, .int .u32 65537] w_21 fun e w_22 => ∃ (x81 : Int), e = .returned (.int .u8 x81) ∧ (∃ S_2 : World → Prop, S_2 w_22 ∧ cond
  (x81 != s16) (R (.returned (.bool false)) w_22) (chk (decide (0 ≤ (IntKind.wrap .i64 (s17_1 + 2))) && decide ((IntKind.wrap .i64 (s17_1 + 2)) < (x44.size : Int))) ((Calls Try.prog 13 #[.pointer x24,
  .int .u32 2] w_22 fun e w_23 => ∃ (x87 : Int), e = .returned (.int .u8 x87) ∧ (S_2 w_23 ∧ cond (x87 != (sbyte x44 (IntKind.wrap .i64 (s17_1 + 2)))) (R (.returned (.bool false)) w_23) ((Calls
  Try.prog 11 #[.pointer x24, .int .u32 4660, .int .u8 240] w_23 fun e w_24 => ∃ (x95a_0 : Int) (x95a_1 : Int) (x95a_2 : ByteArray) (x95b : Bool), e = .returned (.tuple #[.agg #[.int .i64 x95a_0, .int
  .i64 x95a_1, .string x95a_2], .bool x95b]) ∧ (∃ S_3 : World → Prop, S_3 (w_24.drewN 1) ∧ chk (decide (0 ≤ s17_1) && decide (s17_1 < (x44.size : Int))) ((Calls Try.prog 13 #[.pointer x24, .int .u32
  0] (w_24.drewN 1) fun e w_25 => ∃ (x97 : Int), e = .returned (.int .u8 x97) ∧ (S_3 w_25 ∧ cond (x97 == (sbyte x44 s17_1)) (chk (decide (0 ≤ (IntKind.wrap .i64 (s17_1 + 1))) && decide ((IntKind.wrap
  .i64 (s17_1 + 1)) < (x44.size : Int))) ((Calls Try.prog 13 #[.pointer x24, .int .u32 1] w_25 fun e w_26 => ∃ (x104 : Int), e = .returned (.int .u8 x104) ∧ (S_3 w_26 ∧ cond (x104 == (sbyte x44
  (IntKind.wrap .i64 (s17_1 + 1)))) ((Calls Try.prog 10 #[.pointer x24] w_26 fun e w_27 => ∃ (x113 : ByteArray), e = .returned (.string x113) ∧ (S_3 w_27 ∧ R (.returned (.bool (x113.toList ==
  x44.toList))) w_27))) (R (.returned (.bool false)) w_26))))) (R (.returned (.bool false)) w_25)))))))))))))))))))))))))))))
set_option maxRecDepth 100000 in
theorem v_FlashHides (q0 : Bool) (q1 : Int) (q2 : Option Addr) (q2n : Nat) (q2c : Nat) (R : Ending → World → Prop) (w : World) :
  vc Try.prog ann_FlashHides (Try.f7.body.getD .skip) (retQ Try.prog Try.f7.results.toList R) (initFr [.bool q0, .int .u8 q1, .slice q2 q2n q2c] Try.f7.ntmps) w = p_FlashHides q0 q1 q2 q2n q2c R w := by kernel_rfl
theorem c_FlashHides (q0 : Bool) (q1 : Int) (q2 : Option Addr) (q2n : Nat) (q2c : Nat) (R : Ending → World → Prop) (w : World) (h : p_FlashHides q0 q1 q2 q2n q2c R w) : Calls Try.prog 7 #[.bool q0, .int .u8 q1, .slice q2 q2n q2c] w R :=
  calls_by (P := Try.prog) (f := 7) (fn := Try.f7) (c := Try.f7.body.getD .skip) (args := [.bool q0, .int .u8 q1, .slice q2 q2n q2c]) (w := w) (R := R) (p := p_FlashHides q0 q1 q2 q2n q2c R w) ann_FlashHides Try.func7 rfl (v_FlashHides q0 q1 q2 q2n q2c R w) h

end Go.Proofs.Ytjkcpckjaoehkaa
