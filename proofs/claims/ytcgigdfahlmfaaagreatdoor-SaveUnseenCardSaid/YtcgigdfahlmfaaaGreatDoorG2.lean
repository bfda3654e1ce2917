import Derived.Test.YtcgigdfahlmfaaaGreatDoorG1
namespace Go.Proofs.YtcgigdfahlmfaaaGreatDoor
open Go.Vc
set_option linter.unusedVariables false
set_option linter.unusedSimpArgs false
set_option maxRecDepth 100000
set_option maxHeartbeats 4000000
def ann_EImage : Ann := ⟨[], [], []⟩
def p_EImage (q0 : Nat) (R : Rt) (w : World) : Prop :=
  (∃ (x8 : ByteArray), Cl w q0 0 (.string x8) ∧ R (.returned (.string x8)) w)
theorem v_EImage (q0 : Nat) (R : Rt) (w : World) :
  vc Tryz.prog ann_EImage (Tryz.f58.body.getD .skip) (retQ Tryz.prog Tryz.f58.results.toList R) (initFr [.P q0] Tryz.f58.ntmps) w = p_EImage q0 R w := by kernel_rfl
theorem c_EImage (q0 : Nat) (R : Rt) (w : World) (h : p_EImage q0 R w) : Calls Tryz.prog 58 #[.P q0] w R :=
  calls_by ann_EImage Tryz.func58 rfl (v_EImage q0 R w) h
abbrev O_EImage := ByteArray
noncomputable def f_EImage (bh : ByteArray) (bm : List Int) (bp : List Int) (bk : Int) : Option O_EImage :=
  (some bh)
def o_EImage (q0 : Nat) (bs : Pa) (br : Nat) (bo : Pa) (bn : Nat) (bh : ByteArray) (bm : List Int) (bp : List Int) (bk : Int) (w0 : World) : O_EImage → Rt
  | r0, e, w => e = .returned (.string r0) ∧ Now (Foot [box q0 [.string bh, .slice bs bm.length br, .slice bo bp.length bn, .I bk] 138, arr (elI .u8) bs br bm, arr (elI .u8) bo bn bp]) w0 w [box q0 [.string bh, .slice bs bm.length br, .slice bo bp.length bn, .I bk] 138, arr (elI .u8) bs br bm, arr (elI .u8) bo bn bp]
theorem t_EImage {q0 : Nat} {bs : Option Addr} {br : Nat} {bo : Option Addr} {bn : Nat} {bh : ByteArray} {bm : List Int} {bp : List Int} {bk : Int} {w0 : World} {r : O_EImage} (hf : f_EImage bh bm bp bk = some r) (hp : Hp w0 [box q0 [.string bh, .slice bs bm.length br, .slice bo bp.length bn, .I bk] 138, arr (elI .u8) bs br bm, arr (elI .u8) bo bn bp]) : Calls Tryz.prog 58 #[.P q0] w0 (o_EImage q0 bs br bo bn bh bm bp bk w0 r) := by
  apply c_EImage q0
  unfold p_EImage
  unfold f_EImage at hf
  let oo := o_EImage q0 bs br bo bn bh bm bp bk w0
  have n0 : Now (Foot [box q0 [.string bh, .slice bs bm.length br, .slice bo bp.length bn, .I bk] 138, arr (elI .u8) bs br bm, arr (elI .u8) bo bn bp]) w0 w0 [box q0 [.string bh, .slice bs bm.length br, .slice bo bp.length bn, .I bk] 138, arr (elI .u8) bs br bm, arr (elI .u8) bo bn bp] := Now.start hp
  exact (
  ⟨bh, n0.cell 0 rfl, have n3 := n0.front2.front2.front2; leafX oo (.returned (.string bh)) w0 hf ⟨rfl, n3⟩⟩)
def ann_EImageN : Ann := ⟨[], [], []⟩
def p_EImageN (R : Rt) (w : World) : Prop :=
  R (.returned (.string (ByteArray.mk #[]))) w
theorem v_EImageN (R : Rt) (w : World) :
  vc Tryz.prog ann_EImageN (Tryz.f58.body.getD .skip) (retQ Tryz.prog Tryz.f58.results.toList R) (initFr [.pointer none] Tryz.f58.ntmps) w = p_EImageN R w := by kernel_rfl
theorem c_EImageN (R : Rt) (w : World) (h : p_EImageN R w) : Calls Tryz.prog 58 #[.pointer none] w R :=
  calls_by ann_EImageN Tryz.func58 rfl (v_EImageN R w) h
abbrev O_EImageN := ByteArray
noncomputable def f_EImageN : Option O_EImageN :=
  (some (ByteArray.mk #[]))
def o_EImageN (w0 : World) : O_EImageN → Rt
  | r0, e, w => e = .returned (.string r0) ∧ Now (Foot []) w0 w []
theorem t_EImageN {w0 : World} {r : O_EImageN} (hf : f_EImageN = some r) (hp : Hp w0 []) : Calls Tryz.prog 58 #[.pointer none] w0 (o_EImageN w0 r) := by
  apply c_EImageN 
  unfold p_EImageN
  unfold f_EImageN at hf
  have n0 : Now (Foot []) w0 w0 [] := Now.start hp
  exact (
  leafX (o_EImageN w0) (.returned (.string (ByteArray.mk #[]))) w0 hf ⟨rfl, n0⟩)
def ann_Size : Ann := ⟨[], [], []⟩
def p_Size (q0 : Int) (R : Rt) (w : World) : Prop :=
  cond (q0 == 0) (R (.returned (.tuple #[.I 0, .I 0])) w) (cond (q0 == 1) (R (.returned (.tuple #[.I 32768, .I 0])) w) (cond (q0 == 2) (R (.returned (.tuple #[.I 65536, .I 0])) w) (cond (q0 == 3) (R (.returned (.tuple #[.I 131072, .I 0])) w) (cond (q0 == 4) (R (.returned (.tuple #[.I 512, .I 0])) w) (cond (q0 == 5) (R
  (.returned (.tuple #[.I 8192, .I 0])) w) (R (.returned (.tuple #[.I 0, .I 60])) w))))))
theorem v_Size (q0 : Int) (R : Rt) (w : World) :
  vc Tryz.prog ann_Size (Tryz.f29.body.getD .skip) (retQ Tryz.prog Tryz.f29.results.toList R) (initFr [.I q0] Tryz.f29.ntmps) w = p_Size q0 R w := by kernel_rfl
theorem c_Size (q0 : Int) (R : Rt) (w : World) (h : p_Size q0 R w) : Calls Tryz.prog 29 #[.I q0] w R :=
  calls_by ann_Size Tryz.func29 rfl (v_Size q0 R w) h
abbrev O_Size := (Int × Int)
noncomputable def f_Size (q0 : Int) : Option O_Size :=
  (cond (q0 == 0) (some (0, 0)) (cond (q0 == 1) (some (32768, 0)) (cond (q0 == 2) (some (65536, 0)) (cond (q0 == 3) (some (131072, 0)) (cond (q0 == 4) (some (512, 0)) (cond (q0 == 5) (some (8192, 0)) (some (0, 60))))))))
def o_Size (q0 : Int) (w0 : World) : O_Size → Rt
  | (r0, r1), e, w => e = .returned (.tuple #[.I r0, .I r1]) ∧ Dr w0 w
theorem tq_Size {q0 : Int} {r : O_Size} (hf : f_Size q0 = some r) (w0 : World) : Calls Tryz.prog 29 #[.I q0] w0 (o_Size q0 w0 r) := by
  apply c_Size
  unfold p_Size
  unfold f_Size at hf
  have n0 : Dr w0 w0 := Dr.refl _
  exact (
  condF hf (fun c1 h2 => leafX (x := (0, 0)) (o_Size _ w0) (.returned (.tuple #[.I 0, .I 0])) w0 h2 ⟨rfl, n0⟩) (fun c1 h3 => condF h3 (fun c4 h5 => leafX (x := (32768, 0)) (o_Size _ w0) (.returned (.tuple #[.I 32768, .I 0])) w0 h5 ⟨rfl, n0⟩) (fun c4 h6 => condF h6 (fun c7 h8 => leafX (x := (65536, 0)) (o_Size _ w0) (.returned (.tuple #[.I 65536, .I 0])) w0 h8 ⟨rfl, n0⟩) (fun c7 h9 => condF h9 (fun c10 h11 => leafX (x := (131072, 0)) (o_Size _ w0) (.returned (.tuple #[.I 131072, .I 0])) w0 h11 ⟨rfl, n0⟩) (fun c10 h12 => condF h12 (fun c13 h14 => leafX (x := (512, 0)) (o_Size _ w0) (.returned (.tuple #[.I 512, .I 0])) w0 h14 ⟨rfl, n0⟩) (fun c13 h15 => condF h15 (fun c16 h17 => leafX (x := (8192, 0)) (o_Size _ w0) (.returned (.tuple #[.I 8192, .I 0])) w0 h17 ⟨rfl, n0⟩) (fun c16 h18 => leafX (x := (0, 60)) (o_Size _ w0) (.returned (.tuple #[.I 0, .I 60])) w0 h18 ⟨rfl, n0⟩)))))))
def ann_BNew : Ann := ⟨[], [], [(6, [(1, .one (.str))])]⟩
def p_BNew (q0 : Int) (q1 : ByteArray) (R : Rt) (w : World) : Prop :=
  (Calls Tryz.prog 29 #[.I q0] w fun e w_1 => ∃ (x11a x11b : Int), e = .returned (.tuple #[.I x11a, .I x11b]) ∧ cond (x11b != 0) (R (.returned (.tuple #[.pointer none,
  .I x11b])) w_1) ((∃ J : List Value → World → Prop, (cond (q1.toList == (ByteArray.mk #[]).toList) ((Calls Tryz.prog 47 #[.I x11a] w_1 fun e w_2 => ∃ (x20 : ByteArray), e = .returned
  (.string x20) ∧ J [.string x20] w_2)) (J [.string q1] w_1)) ∧ ∀ (s1 : ByteArray) (w_3 : World), J [.string s1] w_3 → cond ((s1.size : Int) != x11a) (R (.returned (.tuple #[.pointer none, .I 1])) w_3) (Nw w_3 (.cells #[.I q0, .slice none 0 0, .pointer none, .pointer none, .pointer none, .I 0, .I 0, .I 0] 93) fun b w_4 => cond (q0 == 1) ((∃ (x33 : Pa)
  (x33n x33c : Nat), ∃ w_5, (Go.convert 9 88 (.string s1)).run Tryz.prog w_4 = .ok (.slice x33 x33n x33c) w_5 ∧ St w_5 ⟨b, 1, none⟩ (.slice x33 x33n x33c) fun w_6 => R (.returned (.tuple
  #[.P b, .I 0])) w_6)) (cond (q0 == 2) (cond (q0 == 2) ((Calls Tryz.prog 48 #[.string s1] w_4 fun e w_7 => ∃ (x42a : Pa) (x42b : Int), e = .returned (.tuple
  #[.pointer x42a, .I x42b]) ∧ St w_7 ⟨b, 2, none⟩ (.pointer x42a) fun w_8 => R (.returned (.tuple #[.P b, .I 0])) w_8)) (cond (q0 == 4) (cond (q0 == 4) ((Calls
  Tryz.prog 49 #[.string s1] w_4 fun e w_9 => ∃ (x53a : Pa) (x53b : Int), e = .returned (.tuple #[.pointer x53a, .I x53b]) ∧ St w_9 ⟨b, 3, none⟩ (.pointer x53a) fun w_10 => R
  (.returned (.tuple #[.P b, .I 0])) w_10)) (R (.returned (.tuple #[.P b, .I 0])) w_4)) (cond (q0 == 5) ((Calls Tryz.prog 49 #[.string s1]
  w_4 fun e w_11 => ∃ (x53a_1 : Pa) (x53b_1 : Int), e = .returned (.tuple #[.pointer x53a_1, .I x53b_1]) ∧ St w_11 ⟨b, 3, none⟩ (.pointer x53a_1) fun w_12 => R (.returned (.tuple
  #[.P b, .I 0])) w_12)) (R (.returned (.tuple #[.P b, .I 0])) w_4)))) (cond (q0 == 3) ((Calls Tryz.prog 48 #[.string s1] w_4 fun e w_13
  => ∃ (x42a_1 : Pa) (x42b_1 : Int), e = .returned (.tuple #[.pointer x42a_1, .I x42b_1]) ∧ St w_13 ⟨b, 2, none⟩ (.pointer x42a_1) fun w_14 => R (.returned (.tuple #[.P b, .I 0])) w_14)) (cond (q0 == 4) (cond (q0 == 4) ((Calls Tryz.prog 49 #[.string s1] w_4 fun e w_15 => ∃ (x53a_2 : Pa) (x53b_2 : Int), e = .returned (.tuple #[.pointer
  x53a_2, .I x53b_2]) ∧ St w_15 ⟨b, 3, none⟩ (.pointer x53a_2) fun w_16 => R (.returned (.tuple #[.P b, .I 0])) w_16)) (R (.returned (.tuple #[.P b, .I 0])) w_4)) (cond (q0 == 5) ((Calls Tryz.prog 49 #[.string s1] w_4 fun e w_17 => ∃ (x53a_3 : Pa) (x53b_3 : Int), e = .returned (.tuple #[.pointer x53a_3, .I x53b_3]) ∧ St w_17 ⟨b, 3, none⟩ (.pointer x53a_3) fun w_18 => R (.returned (.tuple #[.P b, .I 0])) w_18)) (R (.returned (.tuple #[.P b, .I 0])) w_4)))))))))
theorem v_BNew (q0 : Int) (q1 : ByteArray) (R : Rt) (w : World) :
  vc Tryz.prog ann_BNew (Tryz.f9.body.getD .skip) (retQ Tryz.prog Tryz.f9.results.toList R) (initFr [.I q0, .string q1] Tryz.f9.ntmps) w = p_BNew q0 q1 R w := by kernel_rfl
theorem c_BNew (q0 : Int) (q1 : ByteArray) (R : Rt) (w : World) (h : p_BNew q0 q1 R w) : Calls Tryz.prog 9 #[.I q0, .string q1] w R :=
  calls_by ann_BNew Tryz.func9 rfl (v_BNew q0 q1 R w) h
abbrev O_BNew := Int ⊕ Int ⊕ (Int × ByteArray × Int) ⊕ (Int × ByteArray) ⊕ (Int × (List Int))
noncomputable def f_BNew (q0 : Int) (q1 : ByteArray) : Option O_BNew :=
  ((f_Size q0).bind fun (o : O_Size) => (match o with | (x11a, x11b) => (cond (x11b != 0) (some (.inl x11b)) (((cond (q1.toList == (ByteArray.mk #[]).toList) ((f_Blank x11a).bind fun (x20 : O_Blank) => (some x20)) (some q1)) : Option ByteArray).bind (fun (s1 : ByteArray) => (cond ((s1.size : Int) != x11a) (some (.inl 1)) (cond (q0 == 1) (cond (decide (s1.size ≤ 140737488355328)) (some (.inr (.inr (.inr (.inr (q0, (bytesOf s1))))))) none) (cond (q0 == 2) (cond (q0 == 2) ((f_FNew s1).bind fun (o : O_FNew) => (match o with | (.inl w_7_r0_r0_b0_0) => (some (.inr (.inr (.inr (.inl (q0, w_7_r0_r0_b0_0)))))) | (.inr _) => (some (.inr (.inl q0))))) (cond (q0 == 4) (cond (q0 == 4) ((f_ENew s1).bind fun (o : O_ENew) => (match o with | (.inl (w_9_r0_r0_b0_0, w_9_r0_r0_b0_3)) => (some (.inr (.inr (.inl (q0, w_9_r0_r0_b0_0, w_9_r0_r0_b0_3))))) | (.inr _) => (some (.inr (.inl q0))))) (some (.inr (.inl q0)))) (cond (q0 == 5) ((f_ENew s1).bind fun (o : O_ENew) => (match o with | (.inl (w_11_r0_r0_b0_0, w_11_r0_r0_b0_3)) => (some (.inr (.inr (.inl (q0, w_11_r0_r0_b0_0, w_11_r0_r0_b0_3))))) | (.inr _) => (some (.inr (.inl q0))))) (some (.inr (.inl q0)))))) (cond (q0 == 3) ((f_FNew s1).bind fun (o : O_FNew) => (match o with | (.inl w_13_r0_r0_b0_0) => (some (.inr (.inr (.inr (.inl (q0, w_13_r0_r0_b0_0)))))) | (.inr _) => (some (.inr (.inl q0))))) (cond (q0 == 4) (cond (q0 == 4) ((f_ENew s1).bind fun (o : O_ENew) => (match o with | (.inl (w_15_r0_r0_b0_0, w_15_r0_r0_b0_3)) => (some (.inr (.inr (.inl (q0, w_15_r0_r0_b0_0, w_15_r0_r0_b0_3))))) | (.inr _) => (some (.inr (.inl q0))))) (some (.inr (.inl q0)))) (cond (q0 == 5) ((f_ENew s1).bind fun (o : O_ENew) => (match o with | (.inl (w_17_r0_r0_b0_0, w_17_r0_r0_b0_3)) => (some (.inr (.inr (.inl (q0, w_17_r0_r0_b0_0, w_17_r0_r0_b0_3))))) | (.inr _) => (some (.inr (.inl q0))))) (some (.inr (.inl q0))))))))))))))
def o_BNew (q0 : Int) (q1 : ByteArray) (w0 : World) : O_BNew → Rt
  | (.inl r1), e, w => e = .returned (.tuple #[.pointer none, .I r1]) ∧ Now (Foot []) w0 w []
  | (.inr (.inl r1_r1_b0_0)), e, w => ∃ (r1_b0 : Nat), e = .returned (.tuple #[.P r1_b0, .I 0]) ∧ Now (Foot []) w0 w [B93_8 r1_b0 r1_r1_b0_0 (.slice none 0 0) (.pointer none) (.pointer none) (.pointer none) 0 0 0]
  | (.inr (.inr (.inl (r2_r2_b0_0, r2_r2_c3_r2_b0_0, r2_r2_c3_r2_b0_3)))), e, w => ∃ (r2_b0 : Nat), ∃ (r2_c3_r2_b0 : Nat), e = .returned (.tuple #[.P r2_b0, .I 0]) ∧ Now (Foot []) w0 w [B93_8 r2_b0 r2_r2_b0_0 (.slice none 0 0) (.pointer none) (.P r2_c3_r2_b0) (.pointer none) 0 0 0, box r2_c3_r2_b0 [.string r2_r2_c3_r2_b0_0, .slice none 0 0, .slice none 0 0, .I r2_r2_c3_r2_b0_3] 138]
  | (.inr (.inr (.inr (.inl (r3_r3_b0_0, r3_r3_c2_r3_b0_0))))), e, w => ∃ (r3_b0 : Nat), ∃ (r3_c2_r3_b0 : Nat), e = .returned (.tuple #[.P r3_b0, .I 0]) ∧ Now (Foot []) w0 w [B93_8 r3_b0 r3_r3_b0_0 (.slice none 0 0) (.P r3_c2_r3_b0) (.pointer none) (.pointer none) 0 0 0, box r3_c2_r3_b0 [.string r3_r3_c2_r3_b0_0, .I 0, .F, .I 0] 136]
  | (.inr (.inr (.inr (.inr (r4_r4_b0_0, r4_xs_cell___new_____slot___0___1))))), e, w => ∃ (r4_b0 : Nat), ∃ (r4_p_cell___new_____slot___0___1 : Addr), ∃ (r4_c_cell___new_____slot___0___1 : Nat), e = .returned (.tuple #[.P r4_b0, .I 0]) ∧ Now (Foot []) w0 w [B93_8 r4_b0 r4_r4_b0_0 (.slice (some r4_p_cell___new_____slot___0___1) r4_xs_cell___new_____slot___0___1.length r4_c_cell___new_____slot___0___1) (.pointer none) (.pointer none) (.pointer none) 0 0 0, arr (elI .u8) (some r4_p_cell___new_____slot___0___1) r4_c_cell___new_____slot___0___1 r4_xs_cell___new_____slot___0___1]
theorem t_BNew {q0 : Int} {q1 : ByteArray} {w0 : World} {r : O_BNew} (hf : f_BNew q0 q1 = some r) (hp : Hp w0 []) : Calls Tryz.prog 9 #[.I q0, .string q1] w0 (o_BNew q0 q1 w0 r) := by
  apply c_BNew q0 q1
  unfold p_BNew
  unfold f_BNew at hf
  let FF := Foot []
  let oo := o_BNew q0 q1 w0
  have n0 : Now FF w0 w0 [] := Now.start hp
  exact (
  bindF hf (fun o => match o with | (x11a, x11b) => fun h1 h3 => (tq_Size h1 _).mono fun _ w_1 ⟨e4, d142⟩ => ⟨x11a, x11b, e4, have n2 := n0.pass d142.chg; condF h3 (fun c6 h7 => leafX oo (.returned (.tuple #[.pointer none, .I x11b])) w_1 h7 ⟨rfl, n2⟩) (fun c6 h8 => joinF h8 fun T9 t10 ⟨x13, h11, t12⟩ => ⟨fun vsI wI => match vsI with | [.string s1] => Now FF w0 wI [] ∧ T9 s1 | _ => False, (condF h11 (fun c14 h15 => bindF h15 (fun x20 h16 h18 => (t_Blank h16 (n2.take [])).mono fun _ w_2 ⟨e19, n20⟩ => ⟨x20, e19, have n17 := n2.call [] n20; ⟨n17, joinTo h18 t12⟩⟩)) (fun c14 h21 => ⟨n2, joinTo h21 t12⟩)), fun s1 w_3 ⟨n22, t23⟩ => condF (t10 _ t23) (fun c24 h25 => leafX oo (.returned (.tuple #[.pointer none, .I 1])) w_3 h25 ⟨rfl, n22⟩) (fun c24 h26 => n22.Nw (cs := [.I q0, .slice none 0 0, .pointer none, .pointer none, .pointer none, .I 0, .I 0, .I 0]) fun b w_4 n27 => condF h26 (fun c28 h29 => chkE h29 fun c31 h32 => Now.toBytesS Tryz.underlying9 Tryz.underlying88 Tryz.underlying5 n27 (of_decide_eq_true c31) fun x33 x33c w_5 n30 => (n30.front1).St (by rfl) fun w_6 n33 => have n35 := n33.front1.front1; leafX oo (.returned (.tuple #[.P b, .I 0])) w_6 h32 ⟨b, x33, x33c, rfl, n35⟩) (fun c28 h36 => condF h36 (fun c37 h38 => condF h38 (fun c39 h40 => bindF h40 (fun o => match o with | (.inl w_7_r0_r0_b0_0) => fun h41 h43 => (t_FNew h41 (n27.take [])).mono fun _ w_7 ⟨w_7_r0_b0, e44, n45⟩ => ⟨(some ⟨w_7_r0_b0, 0, none⟩), 0, e44, have n42 := n27.call [] n45; (n42.front1).St (by rfl) fun w_8 n46 => have n48 := n46.front1.front1; leafX oo (.returned (.tuple #[.P b, .I 0])) w_8 h43 ⟨b, w_7_r0_b0, rfl, n48⟩⟩ | (.inr _) => fun h41 h50 => (t_FNew h41 (n27.take [])).mono fun _ w_7 ⟨e51, n52⟩ => ⟨none, 1, e51, have n49 := n27.call [] n52; n49.St (by rfl) fun w_8 n53 => leafX oo (.returned (.tuple #[.P b, .I 0])) w_8 h50 ⟨b, rfl, n53⟩⟩)) (fun c39 h54 => condF h54 (fun c55 h56 => condF h56 (fun c57 h58 => bindF h58 (fun o => match o with | (.inl (w_9_r0_r0_b0_0, w_9_r0_r0_b0_3)) => fun h59 h61 => (t_ENew h59 (n27.take [])).mono fun _ w_9 ⟨w_9_r0_b0, e62, n63⟩ => ⟨(some ⟨w_9_r0_b0, 0, none⟩), 0, e62, have n60 := n27.call [] n63; (n60.front1).St (by rfl) fun w_10 n64 => have n66 := n64.front1.front1; leafX oo (.returned (.tuple #[.P b, .I 0])) w_10 h61 ⟨b, w_9_r0_b0, rfl, n66⟩⟩ | (.inr _) => fun h59 h68 => (t_ENew h59 (n27.take [])).mono fun _ w_9 ⟨e69, n70⟩ => ⟨none, 1, e69, have n67 := n27.call [] n70; n67.St (by rfl) fun w_10 n71 => leafX oo (.returned (.tuple #[.P b, .I 0])) w_10 h68 ⟨b, rfl, n71⟩⟩)) (fun c57 h72 => leafX oo (.returned (.tuple #[.P b, .I 0])) w_4 h72 ⟨b, rfl, n27⟩)) (fun c55 h73 => condF h73 (fun c74 h75 => bindF h75 (fun o => match o with | (.inl (w_11_r0_r0_b0_0, w_11_r0_r0_b0_3)) => fun h76 h78 => (t_ENew h76 (n27.take [])).mono fun _ w_11 ⟨w_11_r0_b0, e79, n80⟩ => ⟨(some ⟨w_11_r0_b0, 0, none⟩), 0, e79, have n77 := n27.call [] n80; (n77.front1).St (by rfl) fun w_12 n81 => have n83 := n81.front1.front1; leafX oo (.returned (.tuple #[.P b, .I 0])) w_12 h78 ⟨b, w_11_r0_b0, rfl, n83⟩⟩ | (.inr _) => fun h76 h85 => (t_ENew h76 (n27.take [])).mono fun _ w_11 ⟨e86, n87⟩ => ⟨none, 1, e86, have n84 := n27.call [] n87; n84.St (by rfl) fun w_12 n88 => leafX oo (.returned (.tuple #[.P b, .I 0])) w_12 h85 ⟨b, rfl, n88⟩⟩)) (fun c74 h89 => leafX oo (.returned (.tuple #[.P b, .I 0])) w_4 h89 ⟨b, rfl, n27⟩)))) (fun c37 h90 => condF h90 (fun c91 h92 => bindF h92 (fun o => match o with | (.inl w_13_r0_r0_b0_0) => fun h93 h95 => (t_FNew h93 (n27.take [])).mono fun _ w_13 ⟨w_13_r0_b0, e96, n97⟩ => ⟨(some ⟨w_13_r0_b0, 0, none⟩), 0, e96, have n94 := n27.call [] n97; (n94.front1).St (by rfl) fun w_14 n98 => have n100 := n98.front1.front1; leafX oo (.returned (.tuple #[.P b, .I 0])) w_14 h95 ⟨b, w_13_r0_b0, rfl, n100⟩⟩ | (.inr _) => fun h93 h102 => (t_FNew h93 (n27.take [])).mono fun _ w_13 ⟨e103, n104⟩ => ⟨none, 1, e103, have n101 := n27.call [] n104; n101.St (by rfl) fun w_14 n105 => leafX oo (.returned (.tuple #[.P b, .I 0])) w_14 h102 ⟨b, rfl, n105⟩⟩)) (fun c91 h106 => condF h106 (fun c107 h108 => condF h108 (fun c109 h110 => bindF h110 (fun o => match o with | (.inl (w_15_r0_r0_b0_0, w_15_r0_r0_b0_3)) => fun h111 h113 => (t_ENew h111 (n27.take [])).mono fun _ w_15 ⟨w_15_r0_b0, e114, n115⟩ => ⟨(some ⟨w_15_r0_b0, 0, none⟩), 0, e114, have n112 := n27.call [] n115; (n112.front1).St (by rfl) fun w_16 n116 => have n118 := n116.front1.front1; leafX oo (.returned (.tuple #[.P b, .I 0])) w_16 h113 ⟨b, w_15_r0_b0, rfl, n118⟩⟩ | (.inr _) => fun h111 h120 => (t_ENew h111 (n27.take [])).mono fun _ w_15 ⟨e121, n122⟩ => ⟨none, 1, e121, have n119 := n27.call [] n122; n119.St (by rfl) fun w_16 n123 => leafX oo (.returned (.tuple #[.P b, .I 0])) w_16 h120 ⟨b, rfl, n123⟩⟩)) (fun c109 h124 => leafX oo (.returned (.tuple #[.P b, .I 0])) w_4 h124 ⟨b, rfl, n27⟩)) (fun c107 h125 => condF h125 (fun c126 h127 => bindF h127 (fun o => match o with | (.inl (w_17_r0_r0_b0_0, w_17_r0_r0_b0_3)) => fun h128 h130 => (t_ENew h128 (n27.take [])).mono fun _ w_17 ⟨w_17_r0_b0, e131, n132⟩ => ⟨(some ⟨w_17_r0_b0, 0, none⟩), 0, e131, have n129 := n27.call [] n132; (n129.front1).St (by rfl) fun w_18 n133 => have n135 := n133.front1.front1; leafX oo (.returned (.tuple #[.P b, .I 0])) w_18 h130 ⟨b, w_17_r0_b0, rfl, n135⟩⟩ | (.inr _) => fun h128 h137 => (t_ENew h128 (n27.take [])).mono fun _ w_17 ⟨e138, n139⟩ => ⟨none, 1, e138, have n136 := n27.call [] n139; n136.St (by rfl) fun w_18 n140 => leafX oo (.returned (.tuple #[.P b, .I 0])) w_18 h137 ⟨b, rfl, n140⟩⟩)) (fun c126 h141 => leafX oo (.returned (.tuple #[.P b, .I 0])) w_4 h141 ⟨b, rfl, n27⟩))))))⟩)⟩))
def ann_BImageS : Ann := ⟨[], [], []⟩
def p_BImageS (q0 : Nat) (R : Rt) (w : World) : Prop :=
  (∃ (x10 : Pa) (x10n x10c : Nat), Cl w q0 1 (.slice x10 x10n x10c) ∧ cond (!x10.isNone) ((∃ (x15 : Pa) (x15n x15c : Nat), Cl w q0 1 (.slice x15 x15n x15c) ∧ (∃ (x16 : ByteArray), ∃ w_1, (Go.convert 88 9 (.slice x15 x15n x15c)).run Tryz.prog w = .ok (.string x16) w_1 ∧ R (.returned (.string x16)) w_1))) ((∃ (x21 : Option
  Addr), Cl w q0 2 (.pointer x21) ∧ cond (!x21.isNone) ((∃ (x26 : Pa), Cl w q0 2 (.pointer x26) ∧ (Calls Tryz.prog 57 #[.pointer x26] w fun e w_2 => ∃
  (x27 : ByteArray), e = .returned (.string x27) ∧ R (.returned (.string x27)) w_2))) ((∃ (x31 : Pa), Cl w q0 3 (.pointer x31) ∧ (Calls Tryz.prog 58 #[.pointer x31] w fun e
  w_3 => ∃ (x32 : ByteArray), e = .returned (.string x32) ∧ R (.returned (.string x32)) w_3))))))
theorem v_BImageS (q0 : Nat) (R : Rt) (w : World) :
  vc Tryz.prog ann_BImageS (Tryz.f17.body.getD .skip) (retQ Tryz.prog Tryz.f17.results.toList R) (initFr [.P q0] Tryz.f17.ntmps) w = p_BImageS q0 R w := by kernel_rfl
theorem c_BImageS (q0 : Nat) (R : Rt) (w : World) (h : p_BImageS q0 R w) : Calls Tryz.prog 17 #[.P q0] w R :=
  calls_by ann_BImageS Tryz.func17 rfl (v_BImageS q0 R w) h
abbrev O_BImageS := ByteArray
noncomputable def f_BImageS (cq : Int) (cT : List Int) (cr q0_n cp : Int) : Option O_BImageS :=
  (cond (bytesIn cT) (some (strOf cT)) none)
def o_BImageS (q0 : Nat) (cQ : Addr) (cP : Nat) (q0_j : Pa) (cq : Int) (cT : List Int) (cr q0_n cp : Int) (w0 : World) : O_BImageS → Rt
  | r0, e, w => e = .returned (.string r0) ∧ Now (Foot [B93_8 q0 cq (.slice (some cQ) cT.length cP) (.pointer none) (.pointer none) (.pointer q0_j) cr q0_n cp, arr (elI .u8) (some cQ) cP cT]) w0 w [B93_8 q0 cq (.slice (some cQ) cT.length cP) (.pointer none) (.pointer none) (.pointer q0_j) cr q0_n cp, arr (elI .u8) (some cQ) cP cT]
theorem t_BImageS {q0 : Nat} {cQ : Addr} {cP : Nat} {q0_j : Option Addr} {cq : Int} {cT : List Int} {cr q0_n cp : Int} {w0 : World} {r : O_BImageS} (hf : f_BImageS cq cT cr q0_n cp = some r) (hp : Hp w0 [B93_8 q0 cq (.slice (some cQ) cT.length cP) (.pointer none) (.pointer none) (.pointer q0_j) cr q0_n cp, arr (elI .u8) (some cQ) cP cT]) : Calls Tryz.prog 17 #[.P q0] w0 (o_BImageS q0 cQ cP q0_j cq cT cr q0_n cp w0 r) := by
  apply c_BImageS q0
  unfold p_BImageS
  unfold f_BImageS at hf
  let oo := o_BImageS q0 cQ cP q0_j cq cT cr q0_n cp w0
  have n0 : Now (Foot [B93_8 q0 cq (.slice (some cQ) cT.length cP) (.pointer none) (.pointer none) (.pointer q0_j) cr q0_n cp, arr (elI .u8) (some cQ) cP cT]) w0 w0 [B93_8 q0 cq (.slice (some cQ) cT.length cP) (.pointer none) (.pointer none) (.pointer q0_j) cr q0_n cp, arr (elI .u8) (some cQ) cP cT] := Now.start hp
  exact (
  ⟨(some cQ), cT.length, cP, n0.cell 1 rfl, condT_true (⟨(some cQ), cT.length, cP, n0.cell 1 rfl, chkE hf fun c1 h2 => ⟨strOf cT, _, toStr (arr_reads (n0.front1).hp.1) c1 rfl Tryz.underlying88 Tryz.underlying5 Tryz.underlying9, have n4 := n0.front1.front1; leafX oo (.returned (.string (strOf cT))) w0 h2 ⟨rfl, n4⟩⟩⟩)⟩)
def ann_BImageF : Ann := ⟨[], [], []⟩
def p_BImageF (q0 : Nat) (R : Rt) (w : World) : Prop :=
  (∃ (x10 : Pa) (x10n x10c : Nat), Cl w q0 1 (.slice x10 x10n x10c) ∧ cond (!x10.isNone) ((∃ (x15 : Pa) (x15n x15c : Nat), Cl w q0 1 (.slice x15 x15n x15c) ∧ (∃ (x16 : ByteArray), ∃ w_1, (Go.convert 88 9 (.slice x15 x15n x15c)).run Tryz.prog w = .ok (.string x16) w_1 ∧ R (.returned (.string x16)) w_1))) ((∃ (x21 : Option
  Addr), Cl w q0 2 (.pointer x21) ∧ cond (!x21.isNone) ((∃ (x26 : Pa), Cl w q0 2 (.pointer x26) ∧ (Calls Tryz.prog 57 #[.pointer x26] w fun e w_2 => ∃
  (x27 : ByteArray), e = .returned (.string x27) ∧ R (.returned (.string x27)) w_2))) ((∃ (x31 : Pa), Cl w q0 3 (.pointer x31) ∧ (Calls Tryz.prog 58 #[.pointer x31] w fun e
  w_3 => ∃ (x32 : ByteArray), e = .returned (.string x32) ∧ R (.returned (.string x32)) w_3))))))
theorem v_BImageF (q0 : Nat) (R : Rt) (w : World) :
  vc Tryz.prog ann_BImageF (Tryz.f17.body.getD .skip) (retQ Tryz.prog Tryz.f17.results.toList R) (initFr [.P q0] Tryz.f17.ntmps) w = p_BImageF q0 R w := by kernel_rfl
theorem c_BImageF (q0 : Nat) (R : Rt) (w : World) (h : p_BImageF q0 R w) : Calls Tryz.prog 17 #[.P q0] w R :=
  calls_by ann_BImageF Tryz.func17 rfl (v_BImageF q0 R w) h
abbrev O_BImageF := ByteArray
noncomputable def f_BImageF (cq cr q0_n cp : Int) (cN : ByteArray) (cD : Int) (cR : Bool) (cG : Int) : Option O_BImageF :=
  ((f_FImage cN cD cR cG).bind fun (x27 : O_FImage) => (some x27))
def o_BImageF (q0 : Nat) (q0_j : Pa) (cS : Nat) (cq cr q0_n cp : Int) (cN : ByteArray) (cD : Int) (cR : Bool) (cG : Int) (w0 : World) : O_BImageF → Rt
  | r0, e, w => e = .returned (.string r0) ∧ Now (Foot [B93_8 q0 cq (.slice none 0 0) (.P cS) (.pointer none) (.pointer q0_j) cr q0_n cp, box cS [.string cN, .I cD, .bool cR, .I cG] 136]) w0 w [B93_8 q0 cq (.slice none 0 0) (.P cS) (.pointer none) (.pointer q0_j) cr q0_n cp, box cS [.string cN, .I cD, .bool cR, .I cG] 136]
theorem t_BImageF {q0 : Nat} {q0_j : Option Addr} {cS : Nat} {cq cr q0_n cp : Int} {cN : ByteArray} {cD : Int} {cR : Bool} {cG : Int} {w0 : World} {r : O_BImageF} (hf : f_BImageF cq cr q0_n cp cN cD cR cG = some r) (hp : Hp w0 [B93_8 q0 cq (.slice none 0 0) (.P cS) (.pointer none) (.pointer q0_j) cr q0_n cp, box cS [.string cN, .I cD, .bool cR, .I cG] 136]) : Calls Tryz.prog 17 #[.P q0] w0 (o_BImageF q0 q0_j cS cq cr q0_n cp cN cD cR cG w0 r) := by
  apply c_BImageF q0
  unfold p_BImageF
  unfold f_BImageF at hf
  let oo := o_BImageF q0 q0_j cS cq cr q0_n cp cN cD cR cG w0
  have n0 : Now (Foot [B93_8 q0 cq (.slice none 0 0) (.P cS) (.pointer none) (.pointer q0_j) cr q0_n cp, box cS [.string cN, .I cD, .bool cR, .I cG] 136]) w0 w0 [B93_8 q0 cq (.slice none 0 0) (.P cS) (.pointer none) (.pointer q0_j) cr q0_n cp, box cS [.string cN, .I cD, .bool cR, .I cG] 136] := Now.start hp
  exact (
  ⟨none, 0, 0, n0.cell 1 rfl, condT_false (⟨(some ⟨cS, 0, none⟩), n0.cell 2 rfl, condT_true (⟨(some ⟨cS, 0, none⟩), n0.cell 2 rfl, have n1 := n0.front1; bindF hf (fun x27 h2 h4 => (t_FImage h2 (n1.take [_])).mono fun _ w_2 ⟨e5, n6⟩ => ⟨x27, e5, have n3 := n1.call [_] n6; have n7 := n3.front1; leafX oo (.returned (.string x27)) w_2 h4 ⟨rfl, n7⟩⟩)⟩)⟩)⟩)
def ann_BImageE : Ann := ⟨[], [], []⟩
def p_BImageE (q0 : Nat) (R : Rt) (w : World) : Prop :=
  (∃ (x10 : Pa) (x10n x10c : Nat), Cl w q0 1 (.slice x10 x10n x10c) ∧ cond (!x10.isNone) ((∃ (x15 : Pa) (x15n x15c : Nat), Cl w q0 1 (.slice x15 x15n x15c) ∧ (∃ (x16 : ByteArray), ∃ w_1, (Go.convert 88 9 (.slice x15 x15n x15c)).run Tryz.prog w = .ok (.string x16) w_1 ∧ R (.returned (.string x16)) w_1))) ((∃ (x21 : Option
  Addr), Cl w q0 2 (.pointer x21) ∧ cond (!x21.isNone) ((∃ (x26 : Pa), Cl w q0 2 (.pointer x26) ∧ (Calls Tryz.prog 57 #[.pointer x26] w fun e w_2 => ∃
  (x27 : ByteArray), e = .returned (.string x27) ∧ R (.returned (.string x27)) w_2))) ((∃ (x31 : Pa), Cl w q0 3 (.pointer x31) ∧ (Calls Tryz.prog 58 #[.pointer x31] w fun e
  w_3 => ∃ (x32 : ByteArray), e = .returned (.string x32) ∧ R (.returned (.string x32)) w_3))))))
theorem v_BImageE (q0 : Nat) (R : Rt) (w : World) :
  vc Tryz.prog ann_BImageE (Tryz.f17.body.getD .skip) (retQ Tryz.prog Tryz.f17.results.toList R) (initFr [.P q0] Tryz.f17.ntmps) w = p_BImageE q0 R w := by kernel_rfl
theorem c_BImageE (q0 : Nat) (R : Rt) (w : World) (h : p_BImageE q0 R w) : Calls Tryz.prog 17 #[.P q0] w R :=
  calls_by ann_BImageE Tryz.func17 rfl (v_BImageE q0 R w) h
abbrev O_BImageE := ByteArray
noncomputable def f_BImageE (cq cr q0_n cp : Int) (d0 : ByteArray) (cJ : List Int) (cK : List Int) (cX : Int) : Option O_BImageE :=
  ((f_EImage d0 cJ cK cX).bind fun (x32 : O_EImage) => (some x32))
def o_BImageE (q0 : Nat) (q0_j : Pa) (d3 : Nat) (cI : Pa) (cH : Nat) (cM : Pa) (cL : Nat) (cq cr q0_n cp : Int) (d0 : ByteArray) (cJ : List Int) (cK : List Int) (cX : Int) (w0 : World) : O_BImageE → Rt
  | r0, e, w => e = .returned (.string r0) ∧ Now (Foot [B93_8 q0 cq (.slice none 0 0) (.pointer none) (.P d3) (.pointer q0_j) cr q0_n cp, box d3 [.string d0, .slice cI cJ.length cH, .slice cM cK.length cL, .I cX] 138, arr (elI .u8) cI cH cJ, arr (elI .u8) cM cL cK]) w0 w [B93_8 q0 cq (.slice none 0 0) (.pointer none) (.P d3) (.pointer q0_j) cr q0_n cp, box d3 [.string d0, .slice cI cJ.length cH, .slice cM cK.length cL, .I cX] 138, arr (elI .u8) cI cH cJ, arr (elI .u8) cM cL cK]
theorem t_BImageE {q0 : Nat} {q0_j : Option Addr} {d3 : Nat} {cI : Option Addr} {cH : Nat} {cM : Option Addr} {cL : Nat} {cq cr q0_n cp : Int} {d0 : ByteArray} {cJ : List Int} {cK : List Int} {cX : Int} {w0 : World} {r : O_BImageE} (hf : f_BImageE cq cr q0_n cp d0 cJ cK cX = some r) (hp : Hp w0 [B93_8 q0 cq (.slice none 0 0) (.pointer none) (.P d3) (.pointer q0_j) cr q0_n cp, box d3 [.string d0, .slice cI cJ.length cH, .slice cM cK.length cL, .I cX] 138, arr (elI .u8) cI cH cJ, arr (elI .u8) cM cL cK]) : Calls Tryz.prog 17 #[.P q0] w0 (o_BImageE q0 q0_j d3 cI cH cM cL cq cr q0_n cp d0 cJ cK cX w0 r) := by
  apply c_BImageE q0
  unfold p_BImageE
  unfold f_BImageE at hf
  let oo := o_BImageE q0 q0_j d3 cI cH cM cL cq cr q0_n cp d0 cJ cK cX w0
  have n0 : Now (Foot [B93_8 q0 cq (.slice none 0 0) (.pointer none) (.P d3) (.pointer q0_j) cr q0_n cp, box d3 [.string d0, .slice cI cJ.length cH, .slice cM cK.length cL, .I cX] 138, arr (elI .u8) cI cH cJ, arr (elI .u8) cM cL cK]) w0 w0 [B93_8 q0 cq (.slice none 0 0) (.pointer none) (.P d3) (.pointer q0_j) cr q0_n cp, box d3 [.string d0, .slice cI cJ.length cH, .slice cM cK.length cL, .I cX] 138, arr (elI .u8) cI cH cJ, arr (elI .u8) cM cL cK] := Now.start hp
  exact (
  ⟨none, 0, 0, n0.cell 1 rfl, condT_false (⟨none, n0.cell 2 rfl, condT_false (⟨(some ⟨d3, 0, none⟩), n0.cell 3 rfl, have n3 := n0.front3.front3.front3; bindF hf (fun x32 h4 h6 => (t_EImage h4 (n3.take [_, _, _])).mono fun _ w_3 ⟨e7, n8⟩ => ⟨x32, e7, have n5 := n3.call [_, _, _] n8; have n12 := n5.front2.front2.front2.front3; leafX oo (.returned (.string x32)) w_3 h6 ⟨rfl, n12⟩⟩)⟩)⟩)⟩)
def ann_BReadS : Ann := ⟨[], [], []⟩
def p_BReadS (q0 : Nat) (q1 : Int) (R : Rt) (w : World) : Prop :=
  (∃ (x12 : Pa) (x12n x12c : Nat), Cl w q0 1 (.slice x12 x12n x12c) ∧ cond (!x12.isNone) ((∃ (x17 : Pa) (x17n x17c : Nat), Cl w q0 1 (.slice x17 x17n x17c) ∧ NN x17 fun a20 => chk (decide (0 ≤ (bits .and .u32 q1 32767)) && decide ((bits .and .u32 q1 32767) < ((x17n : Nat) : Int))) ((∃ (x21 : Int), w.cell? (a20.add ((bits
  .and .u32 q1 32767).toNat * 1)) = some (.int .u8 x21) ∧ R (.returned (.int .u8 x21)) w)))) ((∃ (x26 : Pa), Cl w q0 2 (.pointer x26) ∧ cond (!x26.isNone) ((∃ (x31 : Option
  Addr), Cl w q0 2 (.pointer x31) ∧ (Calls Tryz.prog 63 #[.pointer x31, .U q1] w fun e w_1 => ∃ (x33 : Int), e = .returned (.int .u8 x33) ∧ R (.returned (.int .u8 x33))
  w_1))) (R (.returned (.int .u8 255)) w))))
theorem v_BReadS (q0 : Nat) (q1 : Int) (R : Rt) (w : World) :
  vc Tryz.prog ann_BReadS (Tryz.f27.body.getD .skip) (retQ Tryz.prog Tryz.f27.results.toList R) (initFr [.P q0, .U q1] Tryz.f27.ntmps) w = p_BReadS q0 q1 R w := by kernel_rfl
theorem c_BReadS (q0 : Nat) (q1 : Int) (R : Rt) (w : World) (h : p_BReadS q0 q1 R w) : Calls Tryz.prog 27 #[.P q0, .U q1] w R :=
  calls_by ann_BReadS Tryz.func27 rfl (v_BReadS q0 q1 R w) h
abbrev O_BReadS := Int
noncomputable def f_BReadS (cq : Int) (cT : List Int) (cr q0_n cp q1 : Int) : Option O_BReadS :=
  (cond (decide (0 ≤ (bits .and .u32 q1 32767)) && decide ((bits .and .u32 q1 32767) < ((cT.length : Nat) : Int))) (some (ixL cT (bits .and .u32 q1 32767))) none)
def o_BReadS (q0 : Nat) (cQ : Addr) (cP : Nat) (q0_j : Pa) (cq : Int) (cT : List Int) (cr q0_n cp q1 : Int) (w0 : World) : O_BReadS → Rt
  | r0, e, w => e = .returned (.int .u8 r0) ∧ Now (Foot [B93_8 q0 cq (.slice (some cQ) cT.length cP) (.pointer none) (.pointer none) (.pointer q0_j) cr q0_n cp, arr (elI .u8) (some cQ) cP cT]) w0 w [B93_8 q0 cq (.slice (some cQ) cT.length cP) (.pointer none) (.pointer none) (.pointer q0_j) cr q0_n cp, arr (elI .u8) (some cQ) cP cT]
theorem t_BReadS {q0 : Nat} {cQ : Addr} {cP : Nat} {q0_j : Option Addr} {cq : Int} {cT : List Int} {cr q0_n cp q1 : Int} {w0 : World} {r : O_BReadS} (hf : f_BReadS cq cT cr q0_n cp q1 = some r) (hp : Hp w0 [B93_8 q0 cq (.slice (some cQ) cT.length cP) (.pointer none) (.pointer none) (.pointer q0_j) cr q0_n cp, arr (elI .u8) (some cQ) cP cT]) : Calls Tryz.prog 27 #[.P q0, .U q1] w0 (o_BReadS q0 cQ cP q0_j cq cT cr q0_n cp q1 w0 r) := by
  apply c_BReadS q0 q1
  unfold p_BReadS
  unfold f_BReadS at hf
  let oo := o_BReadS q0 cQ cP q0_j cq cT cr q0_n cp q1 w0
  have n0 : Now (Foot [B93_8 q0 cq (.slice (some cQ) cT.length cP) (.pointer none) (.pointer none) (.pointer q0_j) cr q0_n cp, arr (elI .u8) (some cQ) cP cT]) w0 w0 [B93_8 q0 cq (.slice (some cQ) cT.length cP) (.pointer none) (.pointer none) (.pointer q0_j) cr q0_n cp, arr (elI .u8) (some cQ) cP cT] := Now.start hp
  exact (
  ⟨(some cQ), cT.length, cP, n0.cell 1 rfl, condT_true (⟨(some cQ), cT.length, cP, n0.cell 1 rfl, NNix hf (arr_reads (n0.front1).hp.1) rfl fun a20 a1 i2 i3 h4 => ⟨(ixL cT (bits .and .u32 q1 32767)), read_ix0 (arr_reads (n0.front1).hp.1) a1 i2 i3 rfl rfl, have n7 := n0.front1.front1; leafX oo (.returned (.int .u8 (ixL cT (bits .and .u32 q1 32767)))) w0 h4 ⟨rfl, n7⟩⟩⟩)⟩)
def ann_BReadF : Ann := ⟨[], [], []⟩
def p_BReadF (q0 : Nat) (q1 : Int) (R : Rt) (w : World) : Prop :=
  (∃ (x12 : Pa) (x12n x12c : Nat), Cl w q0 1 (.slice x12 x12n x12c) ∧ cond (!x12.isNone) ((∃ (x17 : Pa) (x17n x17c : Nat), Cl w q0 1 (.slice x17 x17n x17c) ∧ NN x17 fun a20 => chk (decide (0 ≤ (bits .and .u32 q1 32767)) && decide ((bits .and .u32 q1 32767) < ((x17n : Nat) : Int))) ((∃ (x21 : Int), w.cell? (a20.add ((bits
  .and .u32 q1 32767).toNat * 1)) = some (.int .u8 x21) ∧ R (.returned (.int .u8 x21)) w)))) ((∃ (x26 : Pa), Cl w q0 2 (.pointer x26) ∧ cond (!x26.isNone) ((∃ (x31 : Option
  Addr), Cl w q0 2 (.pointer x31) ∧ (Calls Tryz.prog 63 #[.pointer x31, .U q1] w fun e w_1 => ∃ (x33 : Int), e = .returned (.int .u8 x33) ∧ R (.returned (.int .u8 x33))
  w_1))) (R (.returned (.int .u8 255)) w))))
theorem v_BReadF (q0 : Nat) (q1 : Int) (R : Rt) (w : World) :
  vc Tryz.prog ann_BReadF (Tryz.f27.body.getD .skip) (retQ Tryz.prog Tryz.f27.results.toList R) (initFr [.P q0, .U q1] Tryz.f27.ntmps) w = p_BReadF q0 q1 R w := by kernel_rfl
theorem c_BReadF (q0 : Nat) (q1 : Int) (R : Rt) (w : World) (h : p_BReadF q0 q1 R w) : Calls Tryz.prog 27 #[.P q0, .U q1] w R :=
  calls_by ann_BReadF Tryz.func27 rfl (v_BReadF q0 q1 R w) h
abbrev O_BReadF := Int
noncomputable def f_BReadF (cq cr q0_n cp : Int) (cN : ByteArray) (cD : Int) (cR : Bool) (cG q1 : Int) : Option O_BReadF :=
  ((f_FRead cN cD cR cG q1).bind fun (x33 : O_FRead) => (some x33))
def o_BReadF (q0 : Nat) (q0_j : Pa) (cS : Nat) (cq cr q0_n cp : Int) (cN : ByteArray) (cD : Int) (cR : Bool) (cG q1 : Int) (w0 : World) : O_BReadF → Rt
  | r0, e, w => e = .returned (.int .u8 r0) ∧ Now (Foot [B93_8 q0 cq (.slice none 0 0) (.P cS) (.pointer none) (.pointer q0_j) cr q0_n cp, box cS [.string cN, .I cD, .bool cR, .I cG] 136]) w0 w [B93_8 q0 cq (.slice none 0 0) (.P cS) (.pointer none) (.pointer q0_j) cr q0_n cp, box cS [.string cN, .I cD, .bool cR, .I cG] 136]
theorem t_BReadF {q0 : Nat} {q0_j : Option Addr} {cS : Nat} {cq cr q0_n cp : Int} {cN : ByteArray} {cD : Int} {cR : Bool} {cG q1 : Int} {w0 : World} {r : O_BReadF} (hf : f_BReadF cq cr q0_n cp cN cD cR cG q1 = some r) (hp : Hp w0 [B93_8 q0 cq (.slice none 0 0) (.P cS) (.pointer none) (.pointer q0_j) cr q0_n cp, box cS [.string cN, .I cD, .bool cR, .I cG] 136]) : Calls Tryz.prog 27 #[.P q0, .U q1] w0 (o_BReadF q0 q0_j cS cq cr q0_n cp cN cD cR cG q1 w0 r) := by
  apply c_BReadF q0 q1
  unfold p_BReadF
  unfold f_BReadF at hf
  let oo := o_BReadF q0 q0_j cS cq cr q0_n cp cN cD cR cG q1 w0
  have n0 : Now (Foot [B93_8 q0 cq (.slice none 0 0) (.P cS) (.pointer none) (.pointer q0_j) cr q0_n cp, box cS [.string cN, .I cD, .bool cR, .I cG] 136]) w0 w0 [B93_8 q0 cq (.slice none 0 0) (.P cS) (.pointer none) (.pointer q0_j) cr q0_n cp, box cS [.string cN, .I cD, .bool cR, .I cG] 136] := Now.start hp
  exact (
  ⟨none, 0, 0, n0.cell 1 rfl, condT_false (⟨(some ⟨cS, 0, none⟩), n0.cell 2 rfl, condT_true (⟨(some ⟨cS, 0, none⟩), n0.cell 2 rfl, have n1 := n0.front1; bindF hf (fun x33 h2 h4 => (t_FRead h2 (n1.take [_])).mono fun _ w_1 ⟨e5, n6⟩ => ⟨x33, e5, have n3 := n1.call [_] n6; have n7 := n3.front1; leafX oo (.returned (.int .u8 x33)) w_1 h4 ⟨rfl, n7⟩⟩)⟩)⟩)⟩)
def ann_BReadE : Ann := ⟨[], [], []⟩
def p_BReadE (q0 : Nat) (q1 : Int) (R : Rt) (w : World) : Prop :=
  (∃ (x12 : Pa) (x12n x12c : Nat), Cl w q0 1 (.slice x12 x12n x12c) ∧ cond (!x12.isNone) ((∃ (x17 : Pa) (x17n x17c : Nat), Cl w q0 1 (.slice x17 x17n x17c) ∧ NN x17 fun a20 => chk (decide (0 ≤ (bits .and .u32 q1 32767)) && decide ((bits .and .u32 q1 32767) < ((x17n : Nat) : Int))) ((∃ (x21 : Int), w.cell? (a20.add ((bits
  .and .u32 q1 32767).toNat * 1)) = some (.int .u8 x21) ∧ R (.returned (.int .u8 x21)) w)))) ((∃ (x26 : Pa), Cl w q0 2 (.pointer x26) ∧ cond (!x26.isNone) ((∃ (x31 : Option
  Addr), Cl w q0 2 (.pointer x31) ∧ (Calls Tryz.prog 63 #[.pointer x31, .U q1] w fun e w_1 => ∃ (x33 : Int), e = .returned (.int .u8 x33) ∧ R (.returned (.int .u8 x33))
  w_1))) (R (.returned (.int .u8 255)) w))))
theorem v_BReadE (q0 : Nat) (q1 : Int) (R : Rt) (w : World) :
  vc Tryz.prog ann_BReadE (Tryz.f27.body.getD .skip) (retQ Tryz.prog Tryz.f27.results.toList R) (initFr [.P q0, .U q1] Tryz.f27.ntmps) w = p_BReadE q0 q1 R w := by kernel_rfl
theorem c_BReadE (q0 : Nat) (q1 : Int) (R : Rt) (w : World) (h : p_BReadE q0 q1 R w) : Calls Tryz.prog 27 #[.P q0, .U q1] w R :=
  calls_by ann_BReadE Tryz.func27 rfl (v_BReadE q0 q1 R w) h
abbrev O_BReadE := Unit
noncomputable def f_BReadE (cq cr q0_n cp : Int) (d0 : ByteArray) (cJ : List Int) (cK : List Int) (cX q1 : Int) : Option O_BReadE :=
  (some ())
def o_BReadE (q0 : Nat) (q0_j : Pa) (d3 : Nat) (cI : Pa) (cH : Nat) (cM : Pa) (cL : Nat) (cq cr q0_n cp : Int) (d0 : ByteArray) (cJ : List Int) (cK : List Int) (cX q1 : Int) (w0 : World) : O_BReadE → Rt
  | _, e, w => e = .returned (.int .u8 255) ∧ Now (Foot [B93_8 q0 cq (.slice none 0 0) (.pointer none) (.P d3) (.pointer q0_j) cr q0_n cp, box d3 [.string d0, .slice cI cJ.length cH, .slice cM cK.length cL, .I cX] 138, arr (elI .u8) cI cH cJ, arr (elI .u8) cM cL cK]) w0 w [B93_8 q0 cq (.slice none 0 0) (.pointer none) (.P d3) (.pointer q0_j) cr q0_n cp, box d3 [.string d0, .slice cI cJ.length cH, .slice cM cK.length cL, .I cX] 138, arr (elI .u8) cI cH cJ, arr (elI .u8) cM cL cK]
theorem t_BReadE {q0 : Nat} {q0_j : Option Addr} {d3 : Nat} {cI : Option Addr} {cH : Nat} {cM : Option Addr} {cL : Nat} {cq cr q0_n cp : Int} {d0 : ByteArray} {cJ : List Int} {cK : List Int} {cX q1 : Int} {w0 : World} {r : O_BReadE} (hf : f_BReadE cq cr q0_n cp d0 cJ cK cX q1 = some r) (hp : Hp w0 [B93_8 q0 cq (.slice none 0 0) (.pointer none) (.P d3) (.pointer q0_j) cr q0_n cp, box d3 [.string d0, .slice cI cJ.length cH, .slice cM cK.length cL, .I cX] 138, arr (elI .u8) cI cH cJ, arr (elI .u8) cM cL cK]) : Calls Tryz.prog 27 #[.P q0, .U q1] w0 (o_BReadE q0 q0_j d3 cI cH cM cL cq cr q0_n cp d0 cJ cK cX q1 w0 r) := by
  apply c_BReadE q0 q1
  unfold p_BReadE
  unfold f_BReadE at hf
  let oo := o_BReadE q0 q0_j d3 cI cH cM cL cq cr q0_n cp d0 cJ cK cX q1 w0
  have n0 : Now (Foot [B93_8 q0 cq (.slice none 0 0) (.pointer none) (.P d3) (.pointer q0_j) cr q0_n cp, box d3 [.string d0, .slice cI cJ.length cH, .slice cM cK.length cL, .I cX] 138, arr (elI .u8) cI cH cJ, arr (elI .u8) cM cL cK]) w0 w0 [B93_8 q0 cq (.slice none 0 0) (.pointer none) (.P d3) (.pointer q0_j) cr q0_n cp, box d3 [.string d0, .slice cI cJ.length cH, .slice cM cK.length cL, .I cX] 138, arr (elI .u8) cI cH cJ, arr (elI .u8) cM cL cK] := Now.start hp
  exact (
  ⟨none, 0, 0, n0.cell 1 rfl, condT_false (⟨none, n0.cell 2 rfl, condT_false (have n4 := n0.front3.front3.front3.front3; leafX oo (.returned (.int .u8 255)) w0 hf ⟨rfl, n4⟩)⟩)⟩)
def ann_BReadZ : Ann := ⟨[], [], []⟩
def p_BReadZ (q0 : Nat) (q1 : Int) (R : Rt) (w : World) : Prop :=
  (∃ (x12 : Pa) (x12n x12c : Nat), Cl w q0 1 (.slice x12 x12n x12c) ∧ cond (!x12.isNone) ((∃ (x17 : Pa) (x17n x17c : Nat), Cl w q0 1 (.slice x17 x17n x17c) ∧ NN x17 fun a20 => chk (decide (0 ≤ (bits .and .u32 q1 32767)) && decide ((bits .and .u32 q1 32767) < ((x17n : Nat) : Int))) ((∃ (x21 : Int), w.cell? (a20.add ((bits
  .and .u32 q1 32767).toNat * 1)) = some (.int .u8 x21) ∧ R (.returned (.int .u8 x21)) w)))) ((∃ (x26 : Pa), Cl w q0 2 (.pointer x26) ∧ cond (!x26.isNone) ((∃ (x31 : Option
  Addr), Cl w q0 2 (.pointer x31) ∧ (Calls Tryz.prog 63 #[.pointer x31, .U q1] w fun e w_1 => ∃ (x33 : Int), e = .returned (.int .u8 x33) ∧ R (.returned (.int .u8 x33))
  w_1))) (R (.returned (.int .u8 255)) w))))
theorem v_BReadZ (q0 : Nat) (q1 : Int) (R : Rt) (w : World) :
  vc Tryz.prog ann_BReadZ (Tryz.f27.body.getD .skip) (retQ Tryz.prog Tryz.f27.results.toList R) (initFr [.P q0, .U q1] Tryz.f27.ntmps) w = p_BReadZ q0 q1 R w := by kernel_rfl
theorem c_BReadZ (q0 : Nat) (q1 : Int) (R : Rt) (w : World) (h : p_BReadZ q0 q1 R w) : Calls Tryz.prog 27 #[.P q0, .U q1] w R :=
  calls_by ann_BReadZ Tryz.func27 rfl (v_BReadZ q0 q1 R w) h
abbrev O_BReadZ := Unit
noncomputable def f_BReadZ (cq cr q0_n cp q1 : Int) : Option O_BReadZ :=
  (some ())
def o_BReadZ (q0 : Nat) (q0_j : Pa) (cq cr q0_n cp q1 : Int) (w0 : World) : O_BReadZ → Rt
  | _, e, w => e = .returned (.int .u8 255) ∧ Now (Foot [B93_8 q0 cq (.slice none 0 0) (.pointer none) (.pointer none) (.pointer q0_j) cr q0_n cp]) w0 w [B93_8 q0 cq (.slice none 0 0) (.pointer none) (.pointer none) (.pointer q0_j) cr q0_n cp]
theorem t_BReadZ {q0 : Nat} {q0_j : Option Addr} {cq cr q0_n cp q1 : Int} {w0 : World} {r : O_BReadZ} (hf : f_BReadZ cq cr q0_n cp q1 = some r) (hp : Hp w0 [B93_8 q0 cq (.slice none 0 0) (.pointer none) (.pointer none) (.pointer q0_j) cr q0_n cp]) : Calls Tryz.prog 27 #[.P q0, .U q1] w0 (o_BReadZ q0 q0_j cq cr q0_n cp q1 w0 r) := by
  apply c_BReadZ q0 q1
  unfold p_BReadZ
  unfold f_BReadZ at hf
  let oo := o_BReadZ q0 q0_j cq cr q0_n cp q1 w0
  have n0 : Now (Foot [B93_8 q0 cq (.slice none 0 0) (.pointer none) (.pointer none) (.pointer q0_j) cr q0_n cp]) w0 w0 [B93_8 q0 cq (.slice none 0 0) (.pointer none) (.pointer none) (.pointer q0_j) cr q0_n cp] := Now.start hp
  exact (
  ⟨none, 0, 0, n0.cell 1 rfl, condT_false (⟨none, n0.cell 2 rfl, condT_false (leafX oo (.returned (.int .u8 255)) w0 hf ⟨rfl, n0⟩)⟩)⟩)
def ann_BBitS : Ann := ⟨[], [], []⟩
def p_BBitS (q0 : Nat) (R : Rt) (w : World) : Prop :=
  (∃ (x8 : Pa), Cl w q0 3 (.pointer x8) ∧ (Calls Tryz.prog 64 #[.pointer x8] w fun e w_1 => ∃ (x9 : Int), e = .returned (.int .u8 x9) ∧ R (.returned (.int .u8 x9)) w_1))
theorem v_BBitS (q0 : Nat) (R : Rt) (w : World) :
  vc Tryz.prog ann_BBitS (Tryz.f28.body.getD .skip) (retQ Tryz.prog Tryz.f28.results.toList R) (initFr [.P q0] Tryz.f28.ntmps) w = p_BBitS q0 R w := by kernel_rfl
theorem c_BBitS (q0 : Nat) (R : Rt) (w : World) (h : p_BBitS q0 R w) : Calls Tryz.prog 28 #[.P q0] w R :=
  calls_by ann_BBitS Tryz.func28 rfl (v_BBitS q0 R w) h
abbrev O_BBitS := Unit
noncomputable def f_BBitS (cq : Int) (cT : List Int) (cr q0_n cp : Int) : Option O_BBitS :=
  ((f_EReadN).bind fun (_ : O_EReadN) => (some ()))
def o_BBitS (q0 : Nat) (cQ : Addr) (cP : Nat) (q0_j : Pa) (cq : Int) (cT : List Int) (cr q0_n cp : Int) (w0 : World) : O_BBitS → Rt
  | _, e, w => e = .returned (.int .u8 1) ∧ Now (Foot [B93_8 q0 cq (.slice (some cQ) cT.length cP) (.pointer none) (.pointer none) (.pointer q0_j) cr q0_n cp, arr (elI .u8) (some cQ) cP cT]) w0 w [B93_8 q0 cq (.slice (some cQ) cT.length cP) (.pointer none) (.pointer none) (.pointer q0_j) cr q0_n cp, arr (elI .u8) (some cQ) cP cT]
theorem t_BBitS {q0 : Nat} {cQ : Addr} {cP : Nat} {q0_j : Option Addr} {cq : Int} {cT : List Int} {cr q0_n cp : Int} {w0 : World} {r : O_BBitS} (hf : f_BBitS cq cT cr q0_n cp = some r) (hp : Hp w0 [B93_8 q0 cq (.slice (some cQ) cT.length cP) (.pointer none) (.pointer none) (.pointer q0_j) cr q0_n cp, arr (elI .u8) (some cQ) cP cT]) : Calls Tryz.prog 28 #[.P q0] w0 (o_BBitS q0 cQ cP q0_j cq cT cr q0_n cp w0 r) := by
  apply c_BBitS q0
  unfold p_BBitS
  unfold f_BBitS at hf
  let oo := o_BBitS q0 cQ cP q0_j cq cT cr q0_n cp w0
  have n0 : Now (Foot [B93_8 q0 cq (.slice (some cQ) cT.length cP) (.pointer none) (.pointer none) (.pointer q0_j) cr q0_n cp, arr (elI .u8) (some cQ) cP cT]) w0 w0 [B93_8 q0 cq (.slice (some cQ) cT.length cP) (.pointer none) (.pointer none) (.pointer q0_j) cr q0_n cp, arr (elI .u8) (some cQ) cP cT] := Now.start hp
  exact (
  ⟨none, n0.cell 3 rfl, bindF hf (fun _ h1 h3 => (t_EReadN h1 (n0.take [])).mono fun _ w_1 ⟨e4, n5⟩ => ⟨1, e4, have n2 := n0.call [] n5; have n7 := n2.front1.front1; leafX oo (.returned (.int .u8 1)) w_1 h3 ⟨rfl, n7⟩⟩)⟩)
def ann_BBitF : Ann := ⟨[], [], []⟩
def p_BBitF (q0 : Nat) (R : Rt) (w : World) : Prop :=
  (∃ (x8 : Pa), Cl w q0 3 (.pointer x8) ∧ (Calls Tryz.prog 64 #[.pointer x8] w fun e w_1 => ∃ (x9 : Int), e = .returned (.int .u8 x9) ∧ R (.returned (.int .u8 x9)) w_1))
theorem v_BBitF (q0 : Nat) (R : Rt) (w : World) :
  vc Tryz.prog ann_BBitF (Tryz.f28.body.getD .skip) (retQ Tryz.prog Tryz.f28.results.toList R) (initFr [.P q0] Tryz.f28.ntmps) w = p_BBitF q0 R w := by kernel_rfl
theorem c_BBitF (q0 : Nat) (R : Rt) (w : World) (h : p_BBitF q0 R w) : Calls Tryz.prog 28 #[.P q0] w R :=
  calls_by ann_BBitF Tryz.func28 rfl (v_BBitF q0 R w) h
abbrev O_BBitF := Unit
noncomputable def f_BBitF (cq cr q0_n cp : Int) (cN : ByteArray) (cD : Int) (cR : Bool) (cG : Int) : Option O_BBitF :=
  ((f_EReadN).bind fun (_ : O_EReadN) => (some ()))
def o_BBitF (q0 : Nat) (q0_j : Pa) (cS : Nat) (cq cr q0_n cp : Int) (cN : ByteArray) (cD : Int) (cR : Bool) (cG : Int) (w0 : World) : O_BBitF → Rt
  | _, e, w => e = .returned (.int .u8 1) ∧ Now (Foot [B93_8 q0 cq (.slice none 0 0) (.P cS) (.pointer none) (.pointer q0_j) cr q0_n cp, box cS [.string cN, .I cD, .bool cR, .I cG] 136]) w0 w [B93_8 q0 cq (.slice none 0 0) (.P cS) (.pointer none) (.pointer q0_j) cr q0_n cp, box cS [.string cN, .I cD, .bool cR, .I cG] 136]
theorem t_BBitF {q0 : Nat} {q0_j : Option Addr} {cS : Nat} {cq cr q0_n cp : Int} {cN : ByteArray} {cD : Int} {cR : Bool} {cG : Int} {w0 : World} {r : O_BBitF} (hf : f_BBitF cq cr q0_n cp cN cD cR cG = some r) (hp : Hp w0 [B93_8 q0 cq (.slice none 0 0) (.P cS) (.pointer none) (.pointer q0_j) cr q0_n cp, box cS [.string cN, .I cD, .bool cR, .I cG] 136]) : Calls Tryz.prog 28 #[.P q0] w0 (o_BBitF q0 q0_j cS cq cr q0_n cp cN cD cR cG w0 r) := by
  apply c_BBitF q0
  unfold p_BBitF
  unfold f_BBitF at hf
  let oo := o_BBitF q0 q0_j cS cq cr q0_n cp cN cD cR cG w0
  have n0 : Now (Foot [B93_8 q0 cq (.slice none 0 0) (.P cS) (.pointer none) (.pointer q0_j) cr q0_n cp, box cS [.string cN, .I cD, .bool cR, .I cG] 136]) w0 w0 [B93_8 q0 cq (.slice none 0 0) (.P cS) (.pointer none) (.pointer q0_j) cr q0_n cp, box cS [.string cN, .I cD, .bool cR, .I cG] 136] := Now.start hp
  exact (
  ⟨none, n0.cell 3 rfl, bindF hf (fun _ h1 h3 => (t_EReadN h1 (n0.take [])).mono fun _ w_1 ⟨e4, n5⟩ => ⟨1, e4, have n2 := n0.call [] n5; have n7 := n2.front1.front1; leafX oo (.returned (.int .u8 1)) w_1 h3 ⟨rfl, n7⟩⟩)⟩)
def ann_BBitE : Ann := ⟨[], [], []⟩
def p_BBitE (q0 : Nat) (R : Rt) (w : World) : Prop :=
  (∃ (x8 : Pa), Cl w q0 3 (.pointer x8) ∧ (Calls Tryz.prog 64 #[.pointer x8] w fun e w_1 => ∃ (x9 : Int), e = .returned (.int .u8 x9) ∧ R (.returned (.int .u8 x9)) w_1))
theorem v_BBitE (q0 : Nat) (R : Rt) (w : World) :
  vc Tryz.prog ann_BBitE (Tryz.f28.body.getD .skip) (retQ Tryz.prog Tryz.f28.results.toList R) (initFr [.P q0] Tryz.f28.ntmps) w = p_BBitE q0 R w := by kernel_rfl
theorem c_BBitE (q0 : Nat) (R : Rt) (w : World) (h : p_BBitE q0 R w) : Calls Tryz.prog 28 #[.P q0] w R :=
  calls_by ann_BBitE Tryz.func28 rfl (v_BBitE q0 R w) h
abbrev O_BBitE := (Int × (List Int))
noncomputable def f_BBitE (cq cr q0_n cp : Int) (d0 : ByteArray) (cJ : List Int) (cK : List Int) (cX : Int) : Option O_BBitE :=
  ((f_ERead d0 cJ cK cX).bind fun (o : O_ERead) => (match o with | (x9, cg) => (some (x9, cg))))
def o_BBitE (q0 : Nat) (q0_j : Pa) (d3 : Nat) (cI : Pa) (cH : Nat) (cM : Pa) (cL : Nat) (cq cr q0_n cp : Int) (d0 : ByteArray) (cJ : List Int) (cK : List Int) (cX : Int) (w0 : World) : O_BBitE → Rt
  | (r0, eB), e, w => ∃ (eF : Pa), ∃ (eD : Nat), e = .returned (.int .u8 r0) ∧ Now (Foot [B93_8 q0 cq (.slice none 0 0) (.pointer none) (.P d3) (.pointer q0_j) cr q0_n cp, box d3 [.string d0, .slice cI cJ.length cH, .slice cM cK.length cL, .I cX] 138, arr (elI .u8) cI cH cJ, arr (elI .u8) cM cL cK]) w0 w [B93_8 q0 cq (.slice none 0 0) (.pointer none) (.P d3) (.pointer q0_j) cr q0_n cp, box d3 [.string d0, .slice cI cJ.length cH, .slice eF eB.length eD, .I cX] 138, arr (elI .u8) cI cH cJ, arr (elI .u8) eF eD eB]
theorem t_BBitE {q0 : Nat} {q0_j : Option Addr} {d3 : Nat} {cI : Option Addr} {cH : Nat} {cM : Option Addr} {cL : Nat} {cq cr q0_n cp : Int} {d0 : ByteArray} {cJ : List Int} {cK : List Int} {cX : Int} {w0 : World} {r : O_BBitE} (hf : f_BBitE cq cr q0_n cp d0 cJ cK cX = some r) (hp : Hp w0 [B93_8 q0 cq (.slice none 0 0) (.pointer none) (.P d3) (.pointer q0_j) cr q0_n cp, box d3 [.string d0, .slice cI cJ.length cH, .slice cM cK.length cL, .I cX] 138, arr (elI .u8) cI cH cJ, arr (elI .u8) cM cL cK]) : Calls Tryz.prog 28 #[.P q0] w0 (o_BBitE q0 q0_j d3 cI cH cM cL cq cr q0_n cp d0 cJ cK cX w0 r) := by
  apply c_BBitE q0
  unfold p_BBitE
  unfold f_BBitE at hf
  let oo := o_BBitE q0 q0_j d3 cI cH cM cL cq cr q0_n cp d0 cJ cK cX w0
  have n0 : Now (Foot [B93_8 q0 cq (.slice none 0 0) (.pointer none) (.P d3) (.pointer q0_j) cr q0_n cp, box d3 [.string d0, .slice cI cJ.length cH, .slice cM cK.length cL, .I cX] 138, arr (elI .u8) cI cH cJ, arr (elI .u8) cM cL cK]) w0 w0 [B93_8 q0 cq (.slice none 0 0) (.pointer none) (.P d3) (.pointer q0_j) cr q0_n cp, box d3 [.string d0, .slice cI cJ.length cH, .slice cM cK.length cL, .I cX] 138, arr (elI .u8) cI cH cJ, arr (elI .u8) cM cL cK] := Now.start hp
  exact (
  ⟨(some ⟨d3, 0, none⟩), n0.cell 3 rfl, have n3 := n0.front3.front3.front3; bindF hf (fun o => match o with | (x9, cg) => fun h4 h6 => (t_ERead h4 (n3.take [_, _, _])).mono fun _ w_1 ⟨eU, eS, e7, n8⟩ => ⟨x9, e7, have n5 := n3.call [_, _, _] n8; have n12 := n5.front2.front2.front2.front3; leafX oo (.returned (.int .u8 x9)) w_1 h6 ⟨eU, eS, rfl, n12⟩⟩)⟩)
def ann_BCountS : Ann := ⟨[], [], []⟩
def p_BCountS (q0 : Nat) (R : Rt) (w : World) : Prop :=
  (∃ (x9 : Int), Cl w q0 6 (.I x9) ∧ (∃ (x13 : Int), Cl w q0 7 (.I x13) ∧ (∀ n, R (.returned (.tuple #[.I x9, .I x13])) (w.drewN n))))
theorem v_BCountS (q0 : Nat) (R : Rt) (w : World) :
  vc Tryz.prog ann_BCountS (Tryz.f13.body.getD .skip) (retQ Tryz.prog Tryz.f13.results.toList R) (initFr [.P q0] Tryz.f13.ntmps) w = p_BCountS q0 R w := by kernel_rfl
theorem c_BCountS (q0 : Nat) (R : Rt) (w : World) (h : p_BCountS q0 R w) : Calls Tryz.prog 13 #[.P q0] w R :=
  calls_by ann_BCountS Tryz.func13 rfl (v_BCountS q0 R w) h
abbrev O_BCountS := (Int × Int)
noncomputable def f_BCountS (cq : Int) (cT : List Int) (cr q0_n cp : Int) : Option O_BCountS :=
  (some (q0_n, cp))
def o_BCountS (q0 : Nat) (cQ : Addr) (cP : Nat) (dv dz q0_j : Pa) (cq : Int) (cT : List Int) (cr q0_n cp : Int) (w0 : World) : O_BCountS → Rt
  | (r0, r1), e, w => e = .returned (.tuple #[.I r0, .I r1]) ∧ Now (Foot [B93_8 q0 cq (.slice (some cQ) cT.length cP) (.pointer dv) (.pointer dz) (.pointer q0_j) cr q0_n cp, arr (elI .u8) (some cQ) cP cT]) w0 w [B93_8 q0 cq (.slice (some cQ) cT.length cP) (.pointer dv) (.pointer dz) (.pointer q0_j) cr q0_n cp, arr (elI .u8) (some cQ) cP cT]
theorem t_BCountS {q0 : Nat} {cQ : Addr} {cP : Nat} {dv dz q0_j : Option Addr} {cq : Int} {cT : List Int} {cr q0_n cp : Int} {w0 : World} {r : O_BCountS} (hf : f_BCountS cq cT cr q0_n cp = some r) (hp : Hp w0 [B93_8 q0 cq (.slice (some cQ) cT.length cP) (.pointer dv) (.pointer dz) (.pointer q0_j) cr q0_n cp, arr (elI .u8) (some cQ) cP cT]) : Calls Tryz.prog 13 #[.P q0] w0 (o_BCountS q0 cQ cP dv dz q0_j cq cT cr q0_n cp w0 r) := by
  apply c_BCountS q0
  unfold p_BCountS
  unfold f_BCountS at hf
  let oo := o_BCountS q0 cQ cP dv dz q0_j cq cT cr q0_n cp w0
  have n0 : Now (Foot [B93_8 q0 cq (.slice (some cQ) cT.length cP) (.pointer dv) (.pointer dz) (.pointer q0_j) cr q0_n cp, arr (elI .u8) (some cQ) cP cT]) w0 w0 [B93_8 q0 cq (.slice (some cQ) cT.length cP) (.pointer dv) (.pointer dz) (.pointer q0_j) cr q0_n cp, arr (elI .u8) (some cQ) cP cT] := Now.start hp
  exact (
  ⟨q0_n, n0.cell 6 rfl, ⟨cp, n0.cell 7 rfl, fun n => have n1 := n0.drewN n; have n3 := n1.front1.front1; leafF (x := (q0_n, cp)) (G := fun r => oo r (.returned (.tuple #[.I q0_n, .I cp])) (w0.drewN n)) hf ⟨rfl, n3⟩⟩⟩)
def ann_BCountN : Ann := ⟨[], [], []⟩
def p_BCountN (q0 : Nat) (R : Rt) (w : World) : Prop :=
  (∃ (x9 : Int), Cl w q0 6 (.I x9) ∧ (∃ (x13 : Int), Cl w q0 7 (.I x13) ∧ (∀ n, R (.returned (.tuple #[.I x9, .I x13])) (w.drewN n))))
theorem v_BCountN (q0 : Nat) (R : Rt) (w : World) :
  vc Tryz.prog ann_BCountN (Tryz.f13.body.getD .skip) (retQ Tryz.prog Tryz.f13.results.toList R) (initFr [.P q0] Tryz.f13.ntmps) w = p_BCountN q0 R w := by kernel_rfl
theorem c_BCountN (q0 : Nat) (R : Rt) (w : World) (h : p_BCountN q0 R w) : Calls Tryz.prog 13 #[.P q0] w R :=
  calls_by ann_BCountN Tryz.func13 rfl (v_BCountN q0 R w) h
abbrev O_BCountN := (Int × Int)
noncomputable def f_BCountN (cq cr q0_n cp : Int) : Option O_BCountN :=
  (some (q0_n, cp))
def o_BCountN (q0 : Nat) (dv dz q0_j : Pa) (cq cr q0_n cp : Int) (w0 : World) : O_BCountN → Rt
  | (r0, r1), e, w => e = .returned (.tuple #[.I r0, .I r1]) ∧ Now (Foot [B93_8 q0 cq (.slice none 0 0) (.pointer dv) (.pointer dz) (.pointer q0_j) cr q0_n cp]) w0 w [B93_8 q0 cq (.slice none 0 0) (.pointer dv) (.pointer dz) (.pointer q0_j) cr q0_n cp]
theorem t_BCountN {q0 : Nat} {dv dz q0_j : Option Addr} {cq cr q0_n cp : Int} {w0 : World} {r : O_BCountN} (hf : f_BCountN cq cr q0_n cp = some r) (hp : Hp w0 [B93_8 q0 cq (.slice none 0 0) (.pointer dv) (.pointer dz) (.pointer q0_j) cr q0_n cp]) : Calls Tryz.prog 13 #[.P q0] w0 (o_BCountN q0 dv dz q0_j cq cr q0_n cp w0 r) := by
  apply c_BCountN q0
  unfold p_BCountN
  unfold f_BCountN at hf
  let oo := o_BCountN q0 dv dz q0_j cq cr q0_n cp w0
  have n0 : Now (Foot [B93_8 q0 cq (.slice none 0 0) (.pointer dv) (.pointer dz) (.pointer q0_j) cr q0_n cp]) w0 w0 [B93_8 q0 cq (.slice none 0 0) (.pointer dv) (.pointer dz) (.pointer q0_j) cr q0_n cp] := Now.start hp
  exact (
  ⟨q0_n, n0.cell 6 rfl, ⟨cp, n0.cell 7 rfl, fun n => have n1 := n0.drewN n; leafF (x := (q0_n, cp)) (G := fun r => oo r (.returned (.tuple #[.I q0_n, .I cp])) (w0.drewN n)) hf ⟨rfl, n1⟩⟩⟩)
def ann_BNoteS0 : Ann := ⟨[(4, .phased [6, 7, 10]), (7, .phased [6, 9])], [], []⟩
def p_BNoteS0 (q0 : Nat) (q1_0 q1_1 : Int) (q1_2 : ByteArray) (R : Rt) (w : World) : Prop :=
  Nw w (.cells #[.I q1_0, .I q1_1, .string q1_2] 59) fun b w_1 => (∃ (x7 : Int), Cl w_1 q0 6 (.I x7) ∧ St w_1 ⟨q0, 6, none⟩ (.I (W6 (x7 +
  1))) fun w_2 => (∃ (x14 : Pa), Cl w_2 q0 4 (.pointer x14) ∧ cond x14.isNone (R RT0 w_2) ((∃ (x20 : Int), Cl w_2 q0 5 (.I x20) ∧ cond (x20 != 0) (R RT0 w_2) ((∃ (x26 : Pa), Cl w_2 q0 4 (.pointer x26) ∧ (Calls Tryz.prog 99 #[.pointer x26] w_2 fun e w_3 => ∃ (x27 : Int), e
  = .returned (.I x27) ∧ cond (x27 == 0) ((∃ S : World → Prop, S (w_3.drewN 1) ∧ (∃ (x33 : Pa), (∀ w, S w → Cl w q0 4 (.pointer x33)) ∧ (Calls Tryz.prog 17
  #[.P q0] (w_3.drewN 1) fun e w_4 => ∃ (x35 : ByteArray), e = .returned (.string x35) ∧ (S w_4 ∧ (Calls Tryz.prog 55 #[.pointer x33, .string x35] w_4 fun e w_5 => ∃ (x36 :
  Int), e = .returned (.I x36) ∧ St w_5 ⟨q0, 5, none⟩ (.I x36) fun w_6 => (∃ (x42 : Int), Cl w_6 q0 5 (.I x42) ∧ cond (x42 == 0) ((∃ (x48 : Int), Cl w_6 q0 6 (.I x48) ∧ St w_6 ⟨q0, 7, none⟩ (.I x48) fun w_7 => R RT0 w_7)) (R RT0 w_6)))))))) ((∃ S_1 : World → Prop, S_1 (w_3.drewN 1) ∧
  (∃ (x55 : Pa), (∀ w, S_1 w → Cl w q0 4 (.pointer x55)) ∧ (∃ (x56_0 : Int), (∀ w, S_1 w → Cl w b 0 (.I x56_0)) ∧ (∃ (x56_1 : Int), (∀ w, S_1 w →
  Cl w b 1 (.I x56_1)) ∧ (∃ (x56_2 : ByteArray), (∀ w, S_1 w → Cl w b 2 (.string x56_2)) ∧ (Calls Tryz.prog 100 #[.pointer x55, .agg #[.I x56_0,
  .I x56_1, .string x56_2]] (w_3.drewN 1) fun e w_8 => ∃ (x57 : Int), e = .returned (.I x57) ∧ St w_8 ⟨q0, 5, none⟩ (.I x57) fun w_9 => R RT0
  w_9))))))))))))))
theorem v_BNoteS0 (q0 : Nat) (q1_0 q1_1 : Int) (q1_2 : ByteArray) (R : Rt) (w : World) :
  vc Tryz.prog ann_BNoteS0 (Tryz.f65.body.getD .skip) (retQ Tryz.prog Tryz.f65.results.toList R) (initFr [.P q0, .agg #[.I q1_0, .I q1_1, .string q1_2]] Tryz.f65.ntmps) w = p_BNoteS0 q0 q1_0 q1_1 q1_2 R w := by kernel_rfl
theorem c_BNoteS0 (q0 : Nat) (q1_0 q1_1 : Int) (q1_2 : ByteArray) (R : Rt) (w : World) (h : p_BNoteS0 q0 q1_0 q1_1 q1_2 R w) : Calls Tryz.prog 65 #[.P q0, .agg #[.I q1_0, .I q1_1, .string q1_2]] w R :=
  calls_by ann_BNoteS0 Tryz.func65 rfl (v_BNoteS0 q0 q1_0 q1_1 q1_2 R w) h
abbrev O_BNoteS0 := Int
noncomputable def f_BNoteS0 (cq : Int) (cT : List Int) (cr q0_n cp q1_0 q1_1 : Int) (q1_2 : ByteArray) : Option O_BNoteS0 :=
  (some (IntKind.wrap .i64 (q0_n + 1)))
def o_BNoteS0 (q0 : Nat) (cQ : Addr) (cP : Nat) (cq : Int) (cT : List Int) (cr q0_n cp q1_0 q1_1 : Int) (q1_2 : ByteArray) (w0 : World) : O_BNoteS0 → Rt
  | dA, e, w => e = .returned (.tuple #[]) ∧ Now (Foot [B93_8 q0 cq (.slice (some cQ) cT.length cP) (.pointer none) (.pointer none) (.pointer none) cr q0_n cp, arr (elI .u8) (some cQ) cP cT]) w0 w [B93_8 q0 cq (.slice (some cQ) cT.length cP) (.pointer none) (.pointer none) (.pointer none) cr dA cp, arr (elI .u8) (some cQ) cP cT]
theorem t_BNoteS0 {q0 : Nat} {cQ : Addr} {cP : Nat} {cq : Int} {cT : List Int} {cr q0_n cp q1_0 q1_1 : Int} {q1_2 : ByteArray} {w0 : World} {r : O_BNoteS0} (hf : f_BNoteS0 cq cT cr q0_n cp q1_0 q1_1 q1_2 = some r) (hp : Hp w0 [B93_8 q0 cq (.slice (some cQ) cT.length cP) (.pointer none) (.pointer none) (.pointer none) cr q0_n cp, arr (elI .u8) (some cQ) cP cT]) : Calls Tryz.prog 65 #[.P q0, .agg #[.I q1_0, .I q1_1, .string q1_2]] w0 (o_BNoteS0 q0 cQ cP cq cT cr q0_n cp q1_0 q1_1 q1_2 w0 r) := by
  apply c_BNoteS0 q0 q1_0 q1_1 q1_2
  unfold p_BNoteS0
  unfold f_BNoteS0 at hf
  let oo := o_BNoteS0 q0 cQ cP cq cT cr q0_n cp q1_0 q1_1 q1_2 w0
  have n0 : Now (Foot [B93_8 q0 cq (.slice (some cQ) cT.length cP) (.pointer none) (.pointer none) (.pointer none) cr q0_n cp, arr (elI .u8) (some cQ) cP cT]) w0 w0 [B93_8 q0 cq (.slice (some cQ) cT.length cP) (.pointer none) (.pointer none) (.pointer none) cr q0_n cp, arr (elI .u8) (some cQ) cP cT] := Now.start hp
  exact (
  n0.Nw (cs := [.I q1_0, .I q1_1, .string q1_2]) fun b w_1 n1 => ⟨q0_n, (n1.front1).cell 6 rfl, (n1.front1).St (by rfl) fun w_2 n2 => ⟨none, n2.cell 4 rfl, condT_true (have n5 := n2.front2.front1.takeN 2; leafX oo RT0 w_2 hf ⟨rfl, n5⟩)⟩⟩)
def ann_BNoteF0 : Ann := ⟨[(4, .phased [6, 7, 10]), (7, .phased [6, 9])], [], []⟩
def p_BNoteF0 (q0 : Nat) (q1_0 q1_1 : Int) (q1_2 : ByteArray) (R : Rt) (w : World) : Prop :=
  Nw w (.cells #[.I q1_0, .I q1_1, .string q1_2] 59) fun b w_1 => (∃ (x7 : Int), Cl w_1 q0 6 (.I x7) ∧ St w_1 ⟨q0, 6, none⟩ (.I (W6 (x7 +
  1))) fun w_2 => (∃ (x14 : Pa), Cl w_2 q0 4 (.pointer x14) ∧ cond x14.isNone (R RT0 w_2) ((∃ (x20 : Int), Cl w_2 q0 5 (.I x20) ∧ cond (x20 != 0) (R RT0 w_2) ((∃ (x26 : Pa), Cl w_2 q0 4 (.pointer x26) ∧ (Calls Tryz.prog 99 #[.pointer x26] w_2 fun e w_3 => ∃ (x27 : Int), e
  = .returned (.I x27) ∧ cond (x27 == 0) ((∃ S : World → Prop, S (w_3.drewN 1) ∧ (∃ (x33 : Pa), (∀ w, S w → Cl w q0 4 (.pointer x33)) ∧ (Calls Tryz.prog 17
  #[.P q0] (w_3.drewN 1) fun e w_4 => ∃ (x35 : ByteArray), e = .returned (.string x35) ∧ (S w_4 ∧ (Calls Tryz.prog 55 #[.pointer x33, .string x35] w_4 fun e w_5 => ∃ (x36 :
  Int), e = .returned (.I x36) ∧ St w_5 ⟨q0, 5, none⟩ (.I x36) fun w_6 => (∃ (x42 : Int), Cl w_6 q0 5 (.I x42) ∧ cond (x42 == 0) ((∃ (x48 : Int), Cl w_6 q0 6 (.I x48) ∧ St w_6 ⟨q0, 7, none⟩ (.I x48) fun w_7 => R RT0 w_7)) (R RT0 w_6)))))))) ((∃ S_1 : World → Prop, S_1 (w_3.drewN 1) ∧
  (∃ (x55 : Pa), (∀ w, S_1 w → Cl w q0 4 (.pointer x55)) ∧ (∃ (x56_0 : Int), (∀ w, S_1 w → Cl w b 0 (.I x56_0)) ∧ (∃ (x56_1 : Int), (∀ w, S_1 w →
  Cl w b 1 (.I x56_1)) ∧ (∃ (x56_2 : ByteArray), (∀ w, S_1 w → Cl w b 2 (.string x56_2)) ∧ (Calls Tryz.prog 100 #[.pointer x55, .agg #[.I x56_0,
  .I x56_1, .string x56_2]] (w_3.drewN 1) fun e w_8 => ∃ (x57 : Int), e = .returned (.I x57) ∧ St w_8 ⟨q0, 5, none⟩ (.I x57) fun w_9 => R RT0
  w_9))))))))))))))
theorem v_BNoteF0 (q0 : Nat) (q1_0 q1_1 : Int) (q1_2 : ByteArray) (R : Rt) (w : World) :
  vc Tryz.prog ann_BNoteF0 (Tryz.f65.body.getD .skip) (retQ Tryz.prog Tryz.f65.results.toList R) (initFr [.P q0, .agg #[.I q1_0, .I q1_1, .string q1_2]] Tryz.f65.ntmps) w = p_BNoteF0 q0 q1_0 q1_1 q1_2 R w := by kernel_rfl
theorem c_BNoteF0 (q0 : Nat) (q1_0 q1_1 : Int) (q1_2 : ByteArray) (R : Rt) (w : World) (h : p_BNoteF0 q0 q1_0 q1_1 q1_2 R w) : Calls Tryz.prog 65 #[.P q0, .agg #[.I q1_0, .I q1_1, .string q1_2]] w R :=
  calls_by ann_BNoteF0 Tryz.func65 rfl (v_BNoteF0 q0 q1_0 q1_1 q1_2 R w) h
abbrev O_BNoteF0 := Int
noncomputable def f_BNoteF0 (cq cr q0_n cp : Int) (cN : ByteArray) (cD : Int) (cR : Bool) (cG q1_0 q1_1 : Int) (q1_2 : ByteArray) : Option O_BNoteF0 :=
  (some (IntKind.wrap .i64 (q0_n + 1)))
def o_BNoteF0 (q0 cS : Nat) (cq cr q0_n cp : Int) (cN : ByteArray) (cD : Int) (cR : Bool) (cG q1_0 q1_1 : Int) (q1_2 : ByteArray) (w0 : World) : O_BNoteF0 → Rt
  | dA, e, w => e = .returned (.tuple #[]) ∧ Now (Foot [B93_8 q0 cq (.slice none 0 0) (.P cS) (.pointer none) (.pointer none) cr q0_n cp, box cS [.string cN, .I cD, .bool cR, .I cG] 136]) w0 w [B93_8 q0 cq (.slice none 0 0) (.P cS) (.pointer none) (.pointer none) cr dA cp, box cS [.string cN, .I cD, .bool cR, .I cG] 136]
theorem t_BNoteF0 {q0 cS : Nat} {cq cr q0_n cp : Int} {cN : ByteArray} {cD : Int} {cR : Bool} {cG q1_0 q1_1 : Int} {q1_2 : ByteArray} {w0 : World} {r : O_BNoteF0} (hf : f_BNoteF0 cq cr q0_n cp cN cD cR cG q1_0 q1_1 q1_2 = some r) (hp : Hp w0 [B93_8 q0 cq (.slice none 0 0) (.P cS) (.pointer none) (.pointer none) cr q0_n cp, box cS [.string cN, .I cD, .bool cR, .I cG] 136]) : Calls Tryz.prog 65 #[.P q0, .agg #[.I q1_0, .I q1_1, .string q1_2]] w0 (o_BNoteF0 q0 cS cq cr q0_n cp cN cD cR cG q1_0 q1_1 q1_2 w0 r) := by
  apply c_BNoteF0 q0 q1_0 q1_1 q1_2
  unfold p_BNoteF0
  unfold f_BNoteF0 at hf
  let oo := o_BNoteF0 q0 cS cq cr q0_n cp cN cD cR cG q1_0 q1_1 q1_2 w0
  have n0 : Now (Foot [B93_8 q0 cq (.slice none 0 0) (.P cS) (.pointer none) (.pointer none) cr q0_n cp, box cS [.string cN, .I cD, .bool cR, .I cG] 136]) w0 w0 [B93_8 q0 cq (.slice none 0 0) (.P cS) (.pointer none) (.pointer none) cr q0_n cp, box cS [.string cN, .I cD, .bool cR, .I cG] 136] := Now.start hp
  exact (
  n0.Nw (cs := [.I q1_0, .I q1_1, .string q1_2]) fun b w_1 n1 => ⟨q0_n, (n1.front1).cell 6 rfl, (n1.front1).St (by rfl) fun w_2 n2 => ⟨none, n2.cell 4 rfl, condT_true (have n5 := n2.front2.front1.takeN 2; leafX oo RT0 w_2 hf ⟨rfl, n5⟩)⟩⟩)
def ann_BNoteE0 : Ann := ⟨[(4, .phased [6, 7, 10]), (7, .phased [6, 9])], [], []⟩
def p_BNoteE0 (q0 : Nat) (q1_0 q1_1 : Int) (q1_2 : ByteArray) (R : Rt) (w : World) : Prop :=
  Nw w (.cells #[.I q1_0, .I q1_1, .string q1_2] 59) fun b w_1 => (∃ (x7 : Int), Cl w_1 q0 6 (.I x7) ∧ St w_1 ⟨q0, 6, none⟩ (.I (W6 (x7 +
  1))) fun w_2 => (∃ (x14 : Pa), Cl w_2 q0 4 (.pointer x14) ∧ cond x14.isNone (R RT0 w_2) ((∃ (x20 : Int), Cl w_2 q0 5 (.I x20) ∧ cond (x20 != 0) (R RT0 w_2) ((∃ (x26 : Pa), Cl w_2 q0 4 (.pointer x26) ∧ (Calls Tryz.prog 99 #[.pointer x26] w_2 fun e w_3 => ∃ (x27 : Int), e
  = .returned (.I x27) ∧ cond (x27 == 0) ((∃ S : World → Prop, S (w_3.drewN 1) ∧ (∃ (x33 : Pa), (∀ w, S w → Cl w q0 4 (.pointer x33)) ∧ (Calls Tryz.prog 17
  #[.P q0] (w_3.drewN 1) fun e w_4 => ∃ (x35 : ByteArray), e = .returned (.string x35) ∧ (S w_4 ∧ (Calls Tryz.prog 55 #[.pointer x33, .string x35] w_4 fun e w_5 => ∃ (x36 :
  Int), e = .returned (.I x36) ∧ St w_5 ⟨q0, 5, none⟩ (.I x36) fun w_6 => (∃ (x42 : Int), Cl w_6 q0 5 (.I x42) ∧ cond (x42 == 0) ((∃ (x48 : Int), Cl w_6 q0 6 (.I x48) ∧ St w_6 ⟨q0, 7, none⟩ (.I x48) fun w_7 => R RT0 w_7)) (R RT0 w_6)))))))) ((∃ S_1 : World → Prop, S_1 (w_3.drewN 1) ∧
  (∃ (x55 : Pa), (∀ w, S_1 w → Cl w q0 4 (.pointer x55)) ∧ (∃ (x56_0 : Int), (∀ w, S_1 w → Cl w b 0 (.I x56_0)) ∧ (∃ (x56_1 : Int), (∀ w, S_1 w →
  Cl w b 1 (.I x56_1)) ∧ (∃ (x56_2 : ByteArray), (∀ w, S_1 w → Cl w b 2 (.string x56_2)) ∧ (Calls Tryz.prog 100 #[.pointer x55, .agg #[.I x56_0,
  .I x56_1, .string x56_2]] (w_3.drewN 1) fun e w_8 => ∃ (x57 : Int), e = .returned (.I x57) ∧ St w_8 ⟨q0, 5, none⟩ (.I x57) fun w_9 => R RT0
  w_9))))))))))))))
theorem v_BNoteE0 (q0 : Nat) (q1_0 q1_1 : Int) (q1_2 : ByteArray) (R : Rt) (w : World) :
  vc Tryz.prog ann_BNoteE0 (Tryz.f65.body.getD .skip) (retQ Tryz.prog Tryz.f65.results.toList R) (initFr [.P q0, .agg #[.I q1_0, .I q1_1, .string q1_2]] Tryz.f65.ntmps) w = p_BNoteE0 q0 q1_0 q1_1 q1_2 R w := by kernel_rfl
theorem c_BNoteE0 (q0 : Nat) (q1_0 q1_1 : Int) (q1_2 : ByteArray) (R : Rt) (w : World) (h : p_BNoteE0 q0 q1_0 q1_1 q1_2 R w) : Calls Tryz.prog 65 #[.P q0, .agg #[.I q1_0, .I q1_1, .string q1_2]] w R :=
  calls_by ann_BNoteE0 Tryz.func65 rfl (v_BNoteE0 q0 q1_0 q1_1 q1_2 R w) h
abbrev O_BNoteE0 := Int
noncomputable def f_BNoteE0 (cq cr q0_n cp : Int) (d0 : ByteArray) (cJ : List Int) (cK : List Int) (cX q1_0 q1_1 : Int) (q1_2 : ByteArray) : Option O_BNoteE0 :=
  (some (IntKind.wrap .i64 (q0_n + 1)))
def o_BNoteE0 (q0 d3 : Nat) (cI : Pa) (cH : Nat) (cM : Pa) (cL : Nat) (cq cr q0_n cp : Int) (d0 : ByteArray) (cJ : List Int) (cK : List Int) (cX q1_0 q1_1 : Int) (q1_2 : ByteArray) (w0 : World) : O_BNoteE0 → Rt
  | dA, e, w => e = .returned (.tuple #[]) ∧ Now (Foot [B93_8 q0 cq (.slice none 0 0) (.pointer none) (.P d3) (.pointer none) cr q0_n cp, box d3 [.string d0, .slice cI cJ.length cH, .slice cM cK.length cL, .I cX] 138, arr (elI .u8) cI cH cJ, arr (elI .u8) cM cL cK]) w0 w [B93_8 q0 cq (.slice none 0 0) (.pointer none) (.P d3) (.pointer none) cr dA cp, box d3 [.string d0, .slice cI cJ.length cH, .slice cM cK.length cL, .I cX] 138, arr (elI .u8) cI cH cJ, arr (elI .u8) cM cL cK]
theorem t_BNoteE0 {q0 d3 : Nat} {cI : Option Addr} {cH : Nat} {cM : Option Addr} {cL : Nat} {cq cr q0_n cp : Int} {d0 : ByteArray} {cJ : List Int} {cK : List Int} {cX q1_0 q1_1 : Int} {q1_2 : ByteArray} {w0 : World} {r : O_BNoteE0} (hf : f_BNoteE0 cq cr q0_n cp d0 cJ cK cX q1_0 q1_1 q1_2 = some r) (hp : Hp w0 [B93_8 q0 cq (.slice none 0 0) (.pointer none) (.P d3) (.pointer none) cr q0_n cp, box d3 [.string d0, .slice cI cJ.length cH, .slice cM cK.length cL, .I cX] 138, arr (elI .u8) cI cH cJ, arr (elI .u8) cM cL cK]) : Calls Tryz.prog 65 #[.P q0, .agg #[.I q1_0, .I q1_1, .string q1_2]] w0 (o_BNoteE0 q0 d3 cI cH cM cL cq cr q0_n cp d0 cJ cK cX q1_0 q1_1 q1_2 w0 r) := by
  apply c_BNoteE0 q0 q1_0 q1_1 q1_2
  unfold p_BNoteE0
  unfold f_BNoteE0 at hf
  let oo := o_BNoteE0 q0 d3 cI cH cM cL cq cr q0_n cp d0 cJ cK cX q1_0 q1_1 q1_2 w0
  have n0 : Now (Foot [B93_8 q0 cq (.slice none 0 0) (.pointer none) (.P d3) (.pointer none) cr q0_n cp, box d3 [.string d0, .slice cI cJ.length cH, .slice cM cK.length cL, .I cX] 138, arr (elI .u8) cI cH cJ, arr (elI .u8) cM cL cK]) w0 w0 [B93_8 q0 cq (.slice none 0 0) (.pointer none) (.P d3) (.pointer none) cr q0_n cp, box d3 [.string d0, .slice cI cJ.length cH, .slice cM cK.length cL, .I cX] 138, arr (elI .u8) cI cH cJ, arr (elI .u8) cM cL cK] := Now.start hp
  exact (
  n0.Nw (cs := [.I q1_0, .I q1_1, .string q1_2]) fun b w_1 n1 => ⟨q0_n, (n1.front1).cell 6 rfl, (n1.front1).St (by rfl) fun w_2 n2 => ⟨none, n2.cell 4 rfl, condT_true (have n7 := n2.front4.front4.front4.front3.takeN 4; leafX oo RT0 w_2 hf ⟨rfl, n7⟩)⟩⟩)
def ann_BNoteS1 : Ann := ⟨[(4, .phased [6, 7, 10]), (7, .phased [6, 9])], [], []⟩
def p_BNoteS1 (q0 : Nat) (q1_0 q1_1 : Int) (q1_2 : ByteArray) (R : Rt) (w : World) : Prop :=
  Nw w (.cells #[.I q1_0, .I q1_1, .string q1_2] 59) fun b w_1 => (∃ (x7 : Int), Cl w_1 q0 6 (.I x7) ∧ St w_1 ⟨q0, 6, none⟩ (.I (W6 (x7 +
  1))) fun w_2 => (∃ (x14 : Pa), Cl w_2 q0 4 (.pointer x14) ∧ cond x14.isNone (R RT0 w_2) ((∃ (x20 : Int), Cl w_2 q0 5 (.I x20) ∧ cond (x20 != 0) (R RT0 w_2) ((∃ (x26 : Pa), Cl w_2 q0 4 (.pointer x26) ∧ (Calls Tryz.prog 99 #[.pointer x26] w_2 fun e w_3 => ∃ (x27 : Int), e
  = .returned (.I x27) ∧ cond (x27 == 0) ((∃ S : World → Prop, S (w_3.drewN 1) ∧ (∃ (x33 : Pa), (∀ w, S w → Cl w q0 4 (.pointer x33)) ∧ (Calls Tryz.prog 17
  #[.P q0] (w_3.drewN 1) fun e w_4 => ∃ (x35 : ByteArray), e = .returned (.string x35) ∧ (S w_4 ∧ (Calls Tryz.prog 55 #[.pointer x33, .string x35] w_4 fun e w_5 => ∃ (x36 :
  Int), e = .returned (.I x36) ∧ St w_5 ⟨q0, 5, none⟩ (.I x36) fun w_6 => (∃ (x42 : Int), Cl w_6 q0 5 (.I x42) ∧ cond (x42 == 0) ((∃ (x48 : Int), Cl w_6 q0 6 (.I x48) ∧ St w_6 ⟨q0, 7, none⟩ (.I x48) fun w_7 => R RT0 w_7)) (R RT0 w_6)))))))) ((∃ S_1 : World → Prop, S_1 (w_3.drewN 1) ∧
  (∃ (x55 : Pa), (∀ w, S_1 w → Cl w q0 4 (.pointer x55)) ∧ (∃ (x56_0 : Int), (∀ w, S_1 w → Cl w b 0 (.I x56_0)) ∧ (∃ (x56_1 : Int), (∀ w, S_1 w →
  Cl w b 1 (.I x56_1)) ∧ (∃ (x56_2 : ByteArray), (∀ w, S_1 w → Cl w b 2 (.string x56_2)) ∧ (Calls Tryz.prog 100 #[.pointer x55, .agg #[.I x56_0,
  .I x56_1, .string x56_2]] (w_3.drewN 1) fun e w_8 => ∃ (x57 : Int), e = .returned (.I x57) ∧ St w_8 ⟨q0, 5, none⟩ (.I x57) fun w_9 => R RT0
  w_9))))))))))))))
theorem v_BNoteS1 (q0 : Nat) (q1_0 q1_1 : Int) (q1_2 : ByteArray) (R : Rt) (w : World) :
  vc Tryz.prog ann_BNoteS1 (Tryz.f65.body.getD .skip) (retQ Tryz.prog Tryz.f65.results.toList R) (initFr [.P q0, .agg #[.I q1_0, .I q1_1, .string q1_2]] Tryz.f65.ntmps) w = p_BNoteS1 q0 q1_0 q1_1 q1_2 R w := by kernel_rfl
theorem c_BNoteS1 (q0 : Nat) (q1_0 q1_1 : Int) (q1_2 : ByteArray) (R : Rt) (w : World) (h : p_BNoteS1 q0 q1_0 q1_1 q1_2 R w) : Calls Tryz.prog 65 #[.P q0, .agg #[.I q1_0, .I q1_1, .string q1_2]] w R :=
  calls_by ann_BNoteS1 Tryz.func65 rfl (v_BNoteS1 q0 q1_0 q1_1 q1_2 R w) h
abbrev O_BNoteS1 := (Int × Int × Int × Int × Int × Int × Bool × Int × Bool × (List ByteArray) × (List ByteArray) × (List E115))
noncomputable def f_BNoteS1 (cq : Int) (cT : List Int) (cr q0_n cp cZ cW cV cY cU : Int) (d1 : Bool) (ct : List ByteArray) (cu : List ByteArray) (cv : List E115) (cO : List (Int × Bool)) (cF : Int) (cE : Bool) (q1_0 q1_1 : Int) (q1_2 : ByteArray) : Option O_BNoteS1 :=
  (cond (cr != 0) (some (cr, (IntKind.wrap .i64 (q0_n + 1)), cp, cV, cY, cU, d1, cF, cE, ct, cu, cv)) ((f_Left cZ cW cV cY cU d1 ct cu cv cO cF cE).bind fun (x27 : O_Left) => (cond (x27 == 0) ((f_BImageS cq cT cr (IntKind.wrap .i64 (q0_n + 1)) cp).bind fun (x35 : O_BImageS) => ((f_Check cZ cW cV cY cU d1 ct cu cv cO cF cE x35).bind fun (o : O_Check) => (match o with | (x36, dh, dn, dp, dq, df, dg, d8, d9, da) => (cond (x36 == 0) (some (x36, (IntKind.wrap .i64 (q0_n + 1)), (IntKind.wrap .i64 (q0_n + 1)), dh, dn, dp, dq, df, dg, d8, d9, da)) (some (x36, (IntKind.wrap .i64 (q0_n + 1)), cp, dh, dn, dp, dq, df, dg, d8, d9, da)))))) ((f_Append cZ cW cV cY cU d1 ct cu cv cO cF cE q1_0 q1_1 q1_2).bind fun (o : O_Append) => (match o with | (x57, dy, dt, du, dd, de) => (some (x57, (IntKind.wrap .i64 (q0_n + 1)), cp, cV, dy, cU, d1, dt, du, ct, dd, de)))))))
def o_BNoteS1 (q0 : Nat) (cQ : Addr) (cP d4 d2 : Nat) (cx : Pa) (cw : Nat) (cz : Pa) (cy : Nat) (cC : Pa) (cB : Nat) (cA : Option Nat) (cq : Int) (cT : List Int) (cr q0_n cp cZ cW cV cY cU : Int) (d1 : Bool) (ct : List ByteArray) (cu : List ByteArray) (cv : List E115) (cO : List (Int × Bool)) (cF : Int) (cE : Bool) (q1_0 q1_1 : Int) (q1_2 : ByteArray) (w0 : World) : O_BNoteS1 → Rt
  | (dB, dA, dC, r_q0_j_b_3, r_q0_j_b_4, r_q0_j_b_5, r_q0_j_b_6, dr, ds, d5, di, d7), e, w => ∃ (dc : Pa), ∃ (db : Nat), e = .returned (.tuple #[]) ∧ Now (Foot [B93_8 q0 cq (.slice (some cQ) cT.length cP) (.pointer none) (.pointer none) (.P d4) cr q0_n cp, arr (elI .u8) (some cQ) cP cT, box d4 [.P d2, .I cZ, .I cW, .U cV, .U cY, .I cU, .bool d1] 142, box d2 [.slice cx ct.length cw, .slice cz cu.length cy, .slice cC cv.length cB, .map cA, .I cF, .bool cE] 111, arr elS cx cw ct, arr elS cz cy cu, arr el115 cC cB cv, mapB .i64 cA cO]) w0 w [B93_8 q0 cq (.slice (some cQ) cT.length cP) (.pointer none) (.pointer none) (.P d4) dB dA dC, box d4 [.P d2, .I cZ, .I cW, .U r_q0_j_b_3, .U r_q0_j_b_4, .I r_q0_j_b_5, .bool r_q0_j_b_6] 142, box d2 [.slice cx d5.length cw, .slice cz di.length cy, .slice dc d7.length db, .map cA, .I dr, .bool ds] 111, arr (elI .u8) (some cQ) cP cT, arr elS cx cw d5, arr elS cz cy di, arr el115 dc db d7, mapB .i64 cA cO]
theorem t_BNoteS1 {q0 : Nat} {cQ : Addr} {cP d4 d2 : Nat} {cx : Option Addr} {cw : Nat} {cz : Option Addr} {cy : Nat} {cC : Option Addr} {cB : Nat} {cA : Option Nat} {cq : Int} {cT : List Int} {cr q0_n cp cZ cW cV cY cU : Int} {d1 : Bool} {ct : List ByteArray} {cu : List ByteArray} {cv : List E115} {cO : List (Int × Bool)} {cF : Int} {cE : Bool} {q1_0 q1_1 : Int} {q1_2 : ByteArray} {w0 : World} {r : O_BNoteS1} (hf : f_BNoteS1 cq cT cr q0_n cp cZ cW cV cY cU d1 ct cu cv cO cF cE q1_0 q1_1 q1_2 = some r) (hp : Hp w0 [B93_8 q0 cq (.slice (some cQ) cT.length cP) (.pointer none) (.pointer none) (.P d4) cr q0_n cp, arr (elI .u8) (some cQ) cP cT, box d4 [.P d2, .I cZ, .I cW, .U cV, .U cY, .I cU, .bool d1] 142, box d2 [.slice cx ct.length cw, .slice cz cu.length cy, .slice cC cv.length cB, .map cA, .I cF, .bool cE] 111, arr elS cx cw ct, arr elS cz cy cu, arr el115 cC cB cv, mapB .i64 cA cO]) : Calls Tryz.prog 65 #[.P q0, .agg #[.I q1_0, .I q1_1, .string q1_2]] w0 (o_BNoteS1 q0 cQ cP d4 d2 cx cw cz cy cC cB cA cq cT cr q0_n cp cZ cW cV cY cU d1 ct cu cv cO cF cE q1_0 q1_1 q1_2 w0 r) := by
  apply c_BNoteS1 q0 q1_0 q1_1 q1_2
  unfold p_BNoteS1
  unfold f_BNoteS1 at hf
  let oo := o_BNoteS1 q0 cQ cP d4 d2 cx cw cz cy cC cB cA cq cT cr q0_n cp cZ cW cV cY cU d1 ct cu cv cO cF cE q1_0 q1_1 q1_2 w0
  have n0 : Now (Foot [B93_8 q0 cq (.slice (some cQ) cT.length cP) (.pointer none) (.pointer none) (.P d4) cr q0_n cp, arr (elI .u8) (some cQ) cP cT, box d4 [.P d2, .I cZ, .I cW, .U cV, .U cY, .I cU, .bool d1] 142, box d2 [.slice cx ct.length cw, .slice cz cu.length cy, .slice cC cv.length cB, .map cA, .I cF, .bool cE] 111, arr elS cx cw ct, arr elS cz cy cu, arr el115 cC cB cv, mapB .i64 cA cO]) w0 w0 [B93_8 q0 cq (.slice (some cQ) cT.length cP) (.pointer none) (.pointer none) (.P d4) cr q0_n cp, arr (elI .u8) (some cQ) cP cT, box d4 [.P d2, .I cZ, .I cW, .U cV, .U cY, .I cU, .bool d1] 142, box d2 [.slice cx ct.length cw, .slice cz cu.length cy, .slice cC cv.length cB, .map cA, .I cF, .bool cE] 111, arr elS cx cw ct, arr elS cz cy cu, arr el115 cC cB cv, mapB .i64 cA cO] := Now.start hp
  exact (
  n0.Nw (cs := [.I q1_0, .I q1_1, .string q1_2]) fun b w_1 n1 => ⟨q0_n, (n1.front1).cell 6 rfl, (n1.front1).St (by rfl) fun w_2 n2 => ⟨(some ⟨d4, 0, none⟩), n2.cell 4 rfl, condT_false (⟨cr, n2.cell 5 rfl, condF hf (fun c3 h4 => have n13 := n2.front8.front8.front8.front8.front6.front8.front8.front7.takeN 8; leafX oo RT0 w_2 h4 ⟨cC, cB, rfl, n13⟩) (fun c3 h14 => ⟨(some ⟨d4, 0, none⟩), n2.cell 4 rfl, have n20 := n2.front8.front8.front8.front8.front8.front8; bindF h14 (fun x27 h21 h23 => (t_Left h21 (n20.take [_, _, _, _, _, _])).mono fun _ w_3 ⟨e24, n25⟩ => ⟨x27, e24, have n22 := n20.call [_, _, _, _, _, _] n25; condF h23 (fun c26 h27 => have n28 := n22.drewN 1; ⟨fun w2 => (B93_8 q0 cq (.slice (some cQ) cT.length cP) (.pointer none) (.pointer none) (.P d4) cr (W6 (q0_n + 1)) cp).holds w2 ∧ True, ⟨(n28.front6).hp.1, trivial⟩, ⟨(some ⟨d4, 0, none⟩), fun _ hS => (Blk.cell hS.1 4).trans rfl, have n30 := n28.front8.front7; bindF h27 (fun x35 h31 h33 => (t_BImageS h31 (n30.take [_, _])).mono fun _ w_4 ⟨e34, n35⟩ => ⟨x35, e34, have n32 := n30.call [_, _] n35; ⟨⟨n32.hp.1, trivial⟩, have n41 := n32.front7.front7.front7.front7.front7.front7; bindF h33 (fun o => match o with | (x36, dh, dn, dp, dq, df, dg, d8, d9, da) => fun h42 h44 => (t_Check h42 (n41.take [_, _, _, _, _, _])).mono fun _ w_5 ⟨dm, dl, e45, n46⟩ => ⟨x36, e45, have n43 := n41.call [_, _, _, _, _, _] n46; (n43.front6).St (by rfl) fun w_6 n47 => ⟨x36, n47.cell 5 rfl, condF h44 (fun c48 h49 => ⟨(W6 (q0_n + 1)), n47.cell 6 rfl, n47.St (by rfl) fun w_7 n50 => have n59 := n50.front6.front6.front6.front6.front7.front7.front7.front7.takeN 8; leafX oo RT0 w_7 h49 ⟨dm, dl, rfl, n59⟩⟩) (fun c48 h60 => have n69 := n47.front6.front6.front6.front6.front7.front7.front7.front7.takeN 8; leafX oo RT0 w_6 h60 ⟨dm, dl, rfl, n69⟩)⟩⟩)⟩⟩)⟩⟩) (fun c26 h70 => have n71 := n22.drewN 1; ⟨fun w2 => (B93_8 q0 cq (.slice (some cQ) cT.length cP) (.pointer none) (.pointer none) (.P d4) cr (W6 (q0_n + 1)) cp).holds w2 ∧ (box b [.I q1_0, .I q1_1, .string q1_2] 59).holds w2 ∧ True, ⟨(n71.front6).hp.1, (n71.front7).hp.1, trivial⟩, ⟨(some ⟨d4, 0, none⟩), fun _ hS => (Blk.cell hS.1 4).trans rfl, ⟨q1_0, fun _ hS => (Blk.cell hS.2.1 0).trans rfl, ⟨q1_1, fun _ hS => (Blk.cell hS.2.1 1).trans rfl, ⟨q1_2, fun _ hS => (Blk.cell hS.2.1 2).trans rfl, have n77 := n71.front5.front5.front5.front5.front5.front5; bindF h70 (fun o => match o with | (x57, dy, dt, du, dd, de) => fun h78 h80 => (t_Append h78 (n77.take [_, _, _, _, _, _])).mono fun _ w_8 ⟨dx, dw, e81, n82⟩ => ⟨x57, e81, have n79 := n77.call [_, _, _, _, _, _] n82; (n79.front6).St (by rfl) fun w_9 n83 => have n92 := n83.front6.front6.front6.front6.front8.front7.front7.front7.takeN 8; leafX oo RT0 w_9 h80 ⟨dx, dw, rfl, n92⟩⟩)⟩⟩⟩⟩⟩)⟩)⟩)⟩)⟩⟩)
def ann_BNoteF1 : Ann := ⟨[(4, .phased [6, 7, 10]), (7, .phased [6, 9])], [], []⟩
def p_BNoteF1 (q0 : Nat) (q1_0 q1_1 : Int) (q1_2 : ByteArray) (R : Rt) (w : World) : Prop :=
  Nw w (.cells #[.I q1_0, .I q1_1, .string q1_2] 59) fun b w_1 => (∃ (x7 : Int), Cl w_1 q0 6 (.I x7) ∧ St w_1 ⟨q0, 6, none⟩ (.I (W6 (x7 +
  1))) fun w_2 => (∃ (x14 : Pa), Cl w_2 q0 4 (.pointer x14) ∧ cond x14.isNone (R RT0 w_2) ((∃ (x20 : Int), Cl w_2 q0 5 (.I x20) ∧ cond (x20 != 0) (R RT0 w_2) ((∃ (x26 : Pa), Cl w_2 q0 4 (.pointer x26) ∧ (Calls Tryz.prog 99 #[.pointer x26] w_2 fun e w_3 => ∃ (x27 : Int), e
  = .returned (.I x27) ∧ cond (x27 == 0) ((∃ S : World → Prop, S (w_3.drewN 1) ∧ (∃ (x33 : Pa), (∀ w, S w → Cl w q0 4 (.pointer x33)) ∧ (Calls Tryz.prog 17
  #[.P q0] (w_3.drewN 1) fun e w_4 => ∃ (x35 : ByteArray), e = .returned (.string x35) ∧ (S w_4 ∧ (Calls Tryz.prog 55 #[.pointer x33, .string x35] w_4 fun e w_5 => ∃ (x36 :
  Int), e = .returned (.I x36) ∧ St w_5 ⟨q0, 5, none⟩ (.I x36) fun w_6 => (∃ (x42 : Int), Cl w_6 q0 5 (.I x42) ∧ cond (x42 == 0) ((∃ (x48 : Int), Cl w_6 q0 6 (.I x48) ∧ St w_6 ⟨q0, 7, none⟩ (.I x48) fun w_7 => R RT0 w_7)) (R RT0 w_6)))))))) ((∃ S_1 : World → Prop, S_1 (w_3.drewN 1) ∧
  (∃ (x55 : Pa), (∀ w, S_1 w → Cl w q0 4 (.pointer x55)) ∧ (∃ (x56_0 : Int), (∀ w, S_1 w → Cl w b 0 (.I x56_0)) ∧ (∃ (x56_1 : Int), (∀ w, S_1 w →
  Cl w b 1 (.I x56_1)) ∧ (∃ (x56_2 : ByteArray), (∀ w, S_1 w → Cl w b 2 (.string x56_2)) ∧ (Calls Tryz.prog 100 #[.pointer x55, .agg #[.I x56_0,
  .I x56_1, .string x56_2]] (w_3.drewN 1) fun e w_8 => ∃ (x57 : Int), e = .returned (.I x57) ∧ St w_8 ⟨q0, 5, none⟩ (.I x57) fun w_9 => R RT0
  w_9))))))))))))))
theorem v_BNoteF1 (q0 : Nat) (q1_0 q1_1 : Int) (q1_2 : ByteArray) (R : Rt) (w : World) :
  vc Tryz.prog ann_BNoteF1 (Tryz.f65.body.getD .skip) (retQ Tryz.prog Tryz.f65.results.toList R) (initFr [.P q0, .agg #[.I q1_0, .I q1_1, .string q1_2]] Tryz.f65.ntmps) w = p_BNoteF1 q0 q1_0 q1_1 q1_2 R w := by kernel_rfl
theorem c_BNoteF1 (q0 : Nat) (q1_0 q1_1 : Int) (q1_2 : ByteArray) (R : Rt) (w : World) (h : p_BNoteF1 q0 q1_0 q1_1 q1_2 R w) : Calls Tryz.prog 65 #[.P q0, .agg #[.I q1_0, .I q1_1, .string q1_2]] w R :=
  calls_by ann_BNoteF1 Tryz.func65 rfl (v_BNoteF1 q0 q1_0 q1_1 q1_2 R w) h
abbrev O_BNoteF1 := (Int × Int × Int × Int × Int × Int × Bool × Int × Bool × (List ByteArray) × (List ByteArray) × (List E115))
noncomputable def f_BNoteF1 (cq cr q0_n cp : Int) (cN : ByteArray) (cD : Int) (cR : Bool) (cG cZ cW cV cY cU : Int) (d1 : Bool) (ct : List ByteArray) (cu : List ByteArray) (cv : List E115) (cO : List (Int × Bool)) (cF : Int) (cE : Bool) (q1_0 q1_1 : Int) (q1_2 : ByteArray) : Option O_BNoteF1 :=
  (cond (cr != 0) (some (cr, (IntKind.wrap .i64 (q0_n + 1)), cp, cV, cY, cU, d1, cF, cE, ct, cu, cv)) ((f_Left cZ cW cV cY cU d1 ct cu cv cO cF cE).bind fun (x27 : O_Left) => (cond (x27 == 0) ((f_BImageF cq cr (IntKind.wrap .i64 (q0_n + 1)) cp cN cD cR cG).bind fun (x35 : O_BImageF) => ((f_Check cZ cW cV cY cU d1 ct cu cv cO cF cE x35).bind fun (o : O_Check) => (match o with | (x36, dh, dn, dp, dq, df, dg, d8, d9, da) => (cond (x36 == 0) (some (x36, (IntKind.wrap .i64 (q0_n + 1)), (IntKind.wrap .i64 (q0_n + 1)), dh, dn, dp, dq, df, dg, d8, d9, da)) (some (x36, (IntKind.wrap .i64 (q0_n + 1)), cp, dh, dn, dp, dq, df, dg, d8, d9, da)))))) ((f_Append cZ cW cV cY cU d1 ct cu cv cO cF cE q1_0 q1_1 q1_2).bind fun (o : O_Append) => (match o with | (x57, dy, dt, du, dd, de) => (some (x57, (IntKind.wrap .i64 (q0_n + 1)), cp, cV, dy, cU, d1, dt, du, ct, dd, de)))))))
def o_BNoteF1 (q0 cS d4 d2 : Nat) (cx : Pa) (cw : Nat) (cz : Pa) (cy : Nat) (cC : Pa) (cB : Nat) (cA : Option Nat) (cq cr q0_n cp : Int) (cN : ByteArray) (cD : Int) (cR : Bool) (cG cZ cW cV cY cU : Int) (d1 : Bool) (ct : List ByteArray) (cu : List ByteArray) (cv : List E115) (cO : List (Int × Bool)) (cF : Int) (cE : Bool) (q1_0 q1_1 : Int) (q1_2 : ByteArray) (w0 : World) : O_BNoteF1 → Rt
  | (dB, dA, dC, r_q0_j_b_3, r_q0_j_b_4, r_q0_j_b_5, r_q0_j_b_6, dr, ds, d5, di, d7), e, w => ∃ (dc : Pa), ∃ (db : Nat), e = .returned (.tuple #[]) ∧ Now (Foot [B93_8 q0 cq (.slice none 0 0) (.P cS) (.pointer none) (.P d4) cr q0_n cp, box cS [.string cN, .I cD, .bool cR, .I cG] 136, box d4 [.P d2, .I cZ, .I cW, .U cV, .U cY, .I cU, .bool d1] 142, box d2 [.slice cx ct.length cw, .slice cz cu.length cy, .slice cC cv.length cB, .map cA, .I cF, .bool cE] 111, arr elS cx cw ct, arr elS cz cy cu, arr el115 cC cB cv, mapB .i64 cA cO]) w0 w [B93_8 q0 cq (.slice none 0 0) (.P cS) (.pointer none) (.P d4) dB dA dC, box cS [.string cN, .I cD, .bool cR, .I cG] 136, box d4 [.P d2, .I cZ, .I cW, .U r_q0_j_b_3, .U r_q0_j_b_4, .I r_q0_j_b_5, .bool r_q0_j_b_6] 142, box d2 [.slice cx d5.length cw, .slice cz di.length cy, .slice dc d7.length db, .map cA, .I dr, .bool ds] 111, arr elS cx cw d5, arr elS cz cy di, arr el115 dc db d7, mapB .i64 cA cO]
theorem t_BNoteF1 {q0 cS d4 d2 : Nat} {cx : Option Addr} {cw : Nat} {cz : Option Addr} {cy : Nat} {cC : Option Addr} {cB : Nat} {cA : Option Nat} {cq cr q0_n cp : Int} {cN : ByteArray} {cD : Int} {cR : Bool} {cG cZ cW cV cY cU : Int} {d1 : Bool} {ct : List ByteArray} {cu : List ByteArray} {cv : List E115} {cO : List (Int × Bool)} {cF : Int} {cE : Bool} {q1_0 q1_1 : Int} {q1_2 : ByteArray} {w0 : World} {r : O_BNoteF1} (hf : f_BNoteF1 cq cr q0_n cp cN cD cR cG cZ cW cV cY cU d1 ct cu cv cO cF cE q1_0 q1_1 q1_2 = some r) (hp : Hp w0 [B93_8 q0 cq (.slice none 0 0) (.P cS) (.pointer none) (.P d4) cr q0_n cp, box cS [.string cN, .I cD, .bool cR, .I cG] 136, box d4 [.P d2, .I cZ, .I cW, .U cV, .U cY, .I cU, .bool d1] 142, box d2 [.slice cx ct.length cw, .slice cz cu.length cy, .slice cC cv.length cB, .map cA, .I cF, .bool cE] 111, arr elS cx cw ct, arr elS cz cy cu, arr el115 cC cB cv, mapB .i64 cA cO]) : Calls Tryz.prog 65 #[.P q0, .agg #[.I q1_0, .I q1_1, .string q1_2]] w0 (o_BNoteF1 q0 cS d4 d2 cx cw cz cy cC cB cA cq cr q0_n cp cN cD cR cG cZ cW cV cY cU d1 ct cu cv cO cF cE q1_0 q1_1 q1_2 w0 r) := by
  apply c_BNoteF1 q0 q1_0 q1_1 q1_2
  unfold p_BNoteF1
  unfold f_BNoteF1 at hf
  let oo := o_BNoteF1 q0 cS d4 d2 cx cw cz cy cC cB cA cq cr q0_n cp cN cD cR cG cZ cW cV cY cU d1 ct cu cv cO cF cE q1_0 q1_1 q1_2 w0
  have n0 : Now (Foot [B93_8 q0 cq (.slice none 0 0) (.P cS) (.pointer none) (.P d4) cr q0_n cp, box cS [.string cN, .I cD, .bool cR, .I cG] 136, box d4 [.P d2, .I cZ, .I cW, .U cV, .U cY, .I cU, .bool d1] 142, box d2 [.slice cx ct.length cw, .slice cz cu.length cy, .slice cC cv.length cB, .map cA, .I cF, .bool cE] 111, arr elS cx cw ct, arr elS cz cy cu, arr el115 cC cB cv, mapB .i64 cA cO]) w0 w0 [B93_8 q0 cq (.slice none 0 0) (.P cS) (.pointer none) (.P d4) cr q0_n cp, box cS [.string cN, .I cD, .bool cR, .I cG] 136, box d4 [.P d2, .I cZ, .I cW, .U cV, .U cY, .I cU, .bool d1] 142, box d2 [.slice cx ct.length cw, .slice cz cu.length cy, .slice cC cv.length cB, .map cA, .I cF, .bool cE] 111, arr elS cx cw ct, arr elS cz cy cu, arr el115 cC cB cv, mapB .i64 cA cO] := Now.start hp
  exact (
  n0.Nw (cs := [.I q1_0, .I q1_1, .string q1_2]) fun b w_1 n1 => ⟨q0_n, (n1.front1).cell 6 rfl, (n1.front1).St (by rfl) fun w_2 n2 => ⟨(some ⟨d4, 0, none⟩), n2.cell 4 rfl, condT_false (⟨cr, n2.cell 5 rfl, condF hf (fun c3 h4 => have n13 := n2.front8.front8.front8.front8.front8.front8.front8.front7.takeN 8; leafX oo RT0 w_2 h4 ⟨cC, cB, rfl, n13⟩) (fun c3 h14 => ⟨(some ⟨d4, 0, none⟩), n2.cell 4 rfl, have n20 := n2.front8.front8.front8.front8.front8.front8; bindF h14 (fun x27 h21 h23 => (t_Left h21 (n20.take [_, _, _, _, _, _])).mono fun _ w_3 ⟨e24, n25⟩ => ⟨x27, e24, have n22 := n20.call [_, _, _, _, _, _] n25; condF h23 (fun c26 h27 => have n28 := n22.drewN 1; ⟨fun w2 => (B93_8 q0 cq (.slice none 0 0) (.P cS) (.pointer none) (.P d4) cr (W6 (q0_n + 1)) cp).holds w2 ∧ True, ⟨(n28.front6).hp.1, trivial⟩, ⟨(some ⟨d4, 0, none⟩), fun _ hS => (Blk.cell hS.1 4).trans rfl, have n30 := n28.front8.front7; bindF h27 (fun x35 h31 h33 => (t_BImageF h31 (n30.take [_, _])).mono fun _ w_4 ⟨e34, n35⟩ => ⟨x35, e34, have n32 := n30.call [_, _] n35; ⟨⟨n32.hp.1, trivial⟩, have n41 := n32.front7.front7.front7.front7.front7.front7; bindF h33 (fun o => match o with | (x36, dh, dn, dp, dq, df, dg, d8, d9, da) => fun h42 h44 => (t_Check h42 (n41.take [_, _, _, _, _, _])).mono fun _ w_5 ⟨dm, dl, e45, n46⟩ => ⟨x36, e45, have n43 := n41.call [_, _, _, _, _, _] n46; (n43.front6).St (by rfl) fun w_6 n47 => ⟨x36, n47.cell 5 rfl, condF h44 (fun c48 h49 => ⟨(W6 (q0_n + 1)), n47.cell 6 rfl, n47.St (by rfl) fun w_7 n50 => have n59 := n50.front6.front6.front6.front6.front6.front6.front7.front7.takeN 8; leafX oo RT0 w_7 h49 ⟨dm, dl, rfl, n59⟩⟩) (fun c48 h60 => have n69 := n47.front6.front6.front6.front6.front6.front6.front7.front7.takeN 8; leafX oo RT0 w_6 h60 ⟨dm, dl, rfl, n69⟩)⟩⟩)⟩⟩)⟩⟩) (fun c26 h70 => have n71 := n22.drewN 1; ⟨fun w2 => (B93_8 q0 cq (.slice none 0 0) (.P cS) (.pointer none) (.P d4) cr (W6 (q0_n + 1)) cp).holds w2 ∧ (box b [.I q1_0, .I q1_1, .string q1_2] 59).holds w2 ∧ True, ⟨(n71.front6).hp.1, (n71.front7).hp.1, trivial⟩, ⟨(some ⟨d4, 0, none⟩), fun _ hS => (Blk.cell hS.1 4).trans rfl, ⟨q1_0, fun _ hS => (Blk.cell hS.2.1 0).trans rfl, ⟨q1_1, fun _ hS => (Blk.cell hS.2.1 1).trans rfl, ⟨q1_2, fun _ hS => (Blk.cell hS.2.1 2).trans rfl, have n77 := n71.front5.front5.front5.front5.front5.front5; bindF h70 (fun o => match o with | (x57, dy, dt, du, dd, de) => fun h78 h80 => (t_Append h78 (n77.take [_, _, _, _, _, _])).mono fun _ w_8 ⟨dx, dw, e81, n82⟩ => ⟨x57, e81, have n79 := n77.call [_, _, _, _, _, _] n82; (n79.front6).St (by rfl) fun w_9 n83 => have n92 := n83.front6.front6.front6.front6.front6.front6.front8.front7.takeN 8; leafX oo RT0 w_9 h80 ⟨dx, dw, rfl, n92⟩⟩)⟩⟩⟩⟩⟩)⟩)⟩)⟩)⟩⟩)
def ann_BNoteE1 : Ann := ⟨[(4, .phased [6, 7, 10]), (7, .phased [6, 9])], [], []⟩
def p_BNoteE1 (q0 : Nat) (q1_0 q1_1 : Int) (q1_2 : ByteArray) (R : Rt) (w : World) : Prop :=
  Nw w (.cells #[.I q1_0, .I q1_1, .string q1_2] 59) fun b w_1 => (∃ (x7 : Int), Cl w_1 q0 6 (.I x7) ∧ St w_1 ⟨q0, 6, none⟩ (.I (W6 (x7 +
  1))) fun w_2 => (∃ (x14 : Pa), Cl w_2 q0 4 (.pointer x14) ∧ cond x14.isNone (R RT0 w_2) ((∃ (x20 : Int), Cl w_2 q0 5 (.I x20) ∧ cond (x20 != 0) (R RT0 w_2) ((∃ (x26 : Pa), Cl w_2 q0 4 (.pointer x26) ∧ (Calls Tryz.prog 99 #[.pointer x26] w_2 fun e w_3 => ∃ (x27 : Int), e
  = .returned (.I x27) ∧ cond (x27 == 0) ((∃ S : World → Prop, S (w_3.drewN 1) ∧ (∃ (x33 : Pa), (∀ w, S w → Cl w q0 4 (.pointer x33)) ∧ (Calls Tryz.prog 17
  #[.P q0] (w_3.drewN 1) fun e w_4 => ∃ (x35 : ByteArray), e = .returned (.string x35) ∧ (S w_4 ∧ (Calls Tryz.prog 55 #[.pointer x33, .string x35] w_4 fun e w_5 => ∃ (x36 :
  Int), e = .returned (.I x36) ∧ St w_5 ⟨q0, 5, none⟩ (.I x36) fun w_6 => (∃ (x42 : Int), Cl w_6 q0 5 (.I x42) ∧ cond (x42 == 0) ((∃ (x48 : Int), Cl w_6 q0 6 (.I x48) ∧ St w_6 ⟨q0, 7, none⟩ (.I x48) fun w_7 => R RT0 w_7)) (R RT0 w_6)))))))) ((∃ S_1 : World → Prop, S_1 (w_3.drewN 1) ∧
  (∃ (x55 : Pa), (∀ w, S_1 w → Cl w q0 4 (.pointer x55)) ∧ (∃ (x56_0 : Int), (∀ w, S_1 w → Cl w b 0 (.I x56_0)) ∧ (∃ (x56_1 : Int), (∀ w, S_1 w →
  Cl w b 1 (.I x56_1)) ∧ (∃ (x56_2 : ByteArray), (∀ w, S_1 w → Cl w b 2 (.string x56_2)) ∧ (Calls Tryz.prog 100 #[.pointer x55, .agg #[.I x56_0,
  .I x56_1, .string x56_2]] (w_3.drewN 1) fun e w_8 => ∃ (x57 : Int), e = .returned (.I x57) ∧ St w_8 ⟨q0, 5, none⟩ (.I x57) fun w_9 => R RT0
  w_9))))))))))))))
theorem v_BNoteE1 (q0 : Nat) (q1_0 q1_1 : Int) (q1_2 : ByteArray) (R : Rt) (w : World) :
  vc Tryz.prog ann_BNoteE1 (Tryz.f65.body.getD .skip) (retQ Tryz.prog Tryz.f65.results.toList R) (initFr [.P q0, .agg #[.I q1_0, .I q1_1, .string q1_2]] Tryz.f65.ntmps) w = p_BNoteE1 q0 q1_0 q1_1 q1_2 R w := by kernel_rfl
theorem c_BNoteE1 (q0 : Nat) (q1_0 q1_1 : Int) (q1_2 : ByteArray) (R : Rt) (w : World) (h : p_BNoteE1 q0 q1_0 q1_1 q1_2 R w) : Calls Tryz.prog 65 #[.P q0, .agg #[.I q1_0, .I q1_1, .string q1_2]] w R :=
  calls_by ann_BNoteE1 Tryz.func65 rfl (v_BNoteE1 q0 q1_0 q1_1 q1_2 R w) h
abbrev O_BNoteE1 := (Int × Int × Int × Int × Int × Int × Bool × Int × Bool × (List ByteArray) × (List ByteArray) × (List E115))
noncomputable def f_BNoteE1 (cq cr q0_n cp : Int) (d0 : ByteArray) (cJ : List Int) (cK : List Int) (cX cZ cW cV cY cU : Int) (d1 : Bool) (ct : List ByteArray) (cu : List ByteArray) (cv : List E115) (cO : List (Int × Bool)) (cF : Int) (cE : Bool) (q1_0 q1_1 : Int) (q1_2 : ByteArray) : Option O_BNoteE1 :=
  (cond (cr != 0) (some (cr, (IntKind.wrap .i64 (q0_n + 1)), cp, cV, cY, cU, d1, cF, cE, ct, cu, cv)) ((f_Left cZ cW cV cY cU d1 ct cu cv cO cF cE).bind fun (x27 : O_Left) => (cond (x27 == 0) ((f_BImageE cq cr (IntKind.wrap .i64 (q0_n + 1)) cp d0 cJ cK cX).bind fun (x35 : O_BImageE) => ((f_Check cZ cW cV cY cU d1 ct cu cv cO cF cE x35).bind fun (o : O_Check) => (match o with | (x36, dh, dn, dp, dq, df, dg, d8, d9, da) => (cond (x36 == 0) (some (x36, (IntKind.wrap .i64 (q0_n + 1)), (IntKind.wrap .i64 (q0_n + 1)), dh, dn, dp, dq, df, dg, d8, d9, da)) (some (x36, (IntKind.wrap .i64 (q0_n + 1)), cp, dh, dn, dp, dq, df, dg, d8, d9, da)))))) ((f_Append cZ cW cV cY cU d1 ct cu cv cO cF cE q1_0 q1_1 q1_2).bind fun (o : O_Append) => (match o with | (x57, dy, dt, du, dd, de) => (some (x57, (IntKind.wrap .i64 (q0_n + 1)), cp, cV, dy, cU, d1, dt, du, ct, dd, de)))))))
def o_BNoteE1 (q0 d3 : Nat) (cI : Pa) (cH : Nat) (cM : Pa) (cL d4 d2 : Nat) (cx : Pa) (cw : Nat) (cz : Pa) (cy : Nat) (cC : Pa) (cB : Nat) (cA : Option Nat) (cq cr q0_n cp : Int) (d0 : ByteArray) (cJ : List Int) (cK : List Int) (cX cZ cW cV cY cU : Int) (d1 : Bool) (ct : List ByteArray) (cu : List ByteArray) (cv : List E115) (cO : List (Int × Bool)) (cF : Int) (cE : Bool) (q1_0 q1_1 : Int) (q1_2 : ByteArray) (w0 : World) : O_BNoteE1 → Rt
  | (dB, dA, dC, r_q0_j_b_3, r_q0_j_b_4, r_q0_j_b_5, r_q0_j_b_6, dr, ds, d5, di, d7), e, w => ∃ (dc : Pa), ∃ (db : Nat), e = .returned (.tuple #[]) ∧ Now (Foot [B93_8 q0 cq (.slice none 0 0) (.pointer none) (.P d3) (.P d4) cr q0_n cp, box d3 [.string d0, .slice cI cJ.length cH, .slice cM cK.length cL, .I cX] 138, arr (elI .u8) cI cH cJ, arr (elI .u8) cM cL cK, box d4 [.P d2, .I cZ, .I cW, .U cV, .U cY, .I cU, .bool d1] 142, box d2 [.slice cx ct.length cw, .slice cz cu.length cy, .slice cC cv.length cB, .map cA, .I cF, .bool cE] 111, arr elS cx cw ct, arr elS cz cy cu, arr el115 cC cB cv, mapB .i64 cA cO]) w0 w [B93_8 q0 cq (.slice none 0 0) (.pointer none) (.P d3) (.P d4) dB dA dC, box d3 [.string d0, .slice cI cJ.length cH, .slice cM cK.length cL, .I cX] 138, box d4 [.P d2, .I cZ, .I cW, .U r_q0_j_b_3, .U r_q0_j_b_4, .I r_q0_j_b_5, .bool r_q0_j_b_6] 142, box d2 [.slice cx d5.length cw, .slice cz di.length cy, .slice dc d7.length db, .map cA, .I dr, .bool ds] 111, arr (elI .u8) cI cH cJ, arr (elI .u8) cM cL cK, arr elS cx cw d5, arr elS cz cy di, arr el115 dc db d7, mapB .i64 cA cO]
theorem t_BNoteE1 {q0 d3 : Nat} {cI : Option Addr} {cH : Nat} {cM : Option Addr} {cL d4 d2 : Nat} {cx : Option Addr} {cw : Nat} {cz : Option Addr} {cy : Nat} {cC : Option Addr} {cB : Nat} {cA : Option Nat} {cq cr q0_n cp : Int} {d0 : ByteArray} {cJ : List Int} {cK : List Int} {cX cZ cW cV cY cU : Int} {d1 : Bool} {ct : List ByteArray} {cu : List ByteArray} {cv : List E115} {cO : List (Int × Bool)} {cF : Int} {cE : Bool} {q1_0 q1_1 : Int} {q1_2 : ByteArray} {w0 : World} {r : O_BNoteE1} (hf : f_BNoteE1 cq cr q0_n cp d0 cJ cK cX cZ cW cV cY cU d1 ct cu cv cO cF cE q1_0 q1_1 q1_2 = some r) (hp : Hp w0 [B93_8 q0 cq (.slice none 0 0) (.pointer none) (.P d3) (.P d4) cr q0_n cp, box d3 [.string d0, .slice cI cJ.length cH, .slice cM cK.length cL, .I cX] 138, arr (elI .u8) cI cH cJ, arr (elI .u8) cM cL cK, box d4 [.P d2, .I cZ, .I cW, .U cV, .U cY, .I cU, .bool d1] 142, box d2 [.slice cx ct.length cw, .slice cz cu.length cy, .slice cC cv.length cB, .map cA, .I cF, .bool cE] 111, arr elS cx cw ct, arr elS cz cy cu, arr el115 cC cB cv, mapB .i64 cA cO]) : Calls Tryz.prog 65 #[.P q0, .agg #[.I q1_0, .I q1_1, .string q1_2]] w0 (o_BNoteE1 q0 d3 cI cH cM cL d4 d2 cx cw cz cy cC cB cA cq cr q0_n cp d0 cJ cK cX cZ cW cV cY cU d1 ct cu cv cO cF cE q1_0 q1_1 q1_2 w0 r) := by
  apply c_BNoteE1 q0 q1_0 q1_1 q1_2
  unfold p_BNoteE1
  unfold f_BNoteE1 at hf
  let oo := o_BNoteE1 q0 d3 cI cH cM cL d4 d2 cx cw cz cy cC cB cA cq cr q0_n cp d0 cJ cK cX cZ cW cV cY cU d1 ct cu cv cO cF cE q1_0 q1_1 q1_2 w0
  have n0 : Now (Foot [B93_8 q0 cq (.slice none 0 0) (.pointer none) (.P d3) (.P d4) cr q0_n cp, box d3 [.string d0, .slice cI cJ.length cH, .slice cM cK.length cL, .I cX] 138, arr (elI .u8) cI cH cJ, arr (elI .u8) cM cL cK, box d4 [.P d2, .I cZ, .I cW, .U cV, .U cY, .I cU, .bool d1] 142, box d2 [.slice cx ct.length cw, .slice cz cu.length cy, .slice cC cv.length cB, .map cA, .I cF, .bool cE] 111, arr elS cx cw ct, arr elS cz cy cu, arr el115 cC cB cv, mapB .i64 cA cO]) w0 w0 [B93_8 q0 cq (.slice none 0 0) (.pointer none) (.P d3) (.P d4) cr q0_n cp, box d3 [.string d0, .slice cI cJ.length cH, .slice cM cK.length cL, .I cX] 138, arr (elI .u8) cI cH cJ, arr (elI .u8) cM cL cK, box d4 [.P d2, .I cZ, .I cW, .U cV, .U cY, .I cU, .bool d1] 142, box d2 [.slice cx ct.length cw, .slice cz cu.length cy, .slice cC cv.length cB, .map cA, .I cF, .bool cE] 111, arr elS cx cw ct, arr elS cz cy cu, arr el115 cC cB cv, mapB .i64 cA cO] := Now.start hp
  exact (
  n0.Nw (cs := [.I q1_0, .I q1_1, .string q1_2]) fun b w_1 n1 => ⟨q0_n, (n1.front1).cell 6 rfl, (n1.front1).St (by rfl) fun w_2 n2 => ⟨(some ⟨d4, 0, none⟩), n2.cell 4 rfl, condT_false (⟨cr, n2.cell 5 rfl, condF hf (fun c3 h4 => have n15 := n2.front10.front10.front10.front10.front8.front8.front10.front10.front10.front9.takeN 10; leafX oo RT0 w_2 h4 ⟨cC, cB, rfl, n15⟩) (fun c3 h16 => ⟨(some ⟨d4, 0, none⟩), n2.cell 4 rfl, have n22 := n2.front10.front10.front10.front10.front10.front10; bindF h16 (fun x27 h23 h25 => (t_Left h23 (n22.take [_, _, _, _, _, _])).mono fun _ w_3 ⟨e26, n27⟩ => ⟨x27, e26, have n24 := n22.call [_, _, _, _, _, _] n27; condF h25 (fun c28 h29 => have n30 := n24.drewN 1; ⟨fun w2 => (B93_8 q0 cq (.slice none 0 0) (.pointer none) (.P d3) (.P d4) cr (W6 (q0_n + 1)) cp).holds w2 ∧ True, ⟨(n30.front6).hp.1, trivial⟩, ⟨(some ⟨d4, 0, none⟩), fun _ hS => (Blk.cell hS.1 4).trans rfl, have n34 := n30.front10.front10.front10.front9; bindF h29 (fun x35 h35 h37 => (t_BImageE h35 (n34.take [_, _, _, _])).mono fun _ w_4 ⟨e38, n39⟩ => ⟨x35, e38, have n36 := n34.call [_, _, _, _] n39; ⟨⟨n36.hp.1, trivial⟩, have n45 := n36.front9.front9.front9.front9.front9.front9; bindF h37 (fun o => match o with | (x36, dh, dn, dp, dq, df, dg, d8, d9, da) => fun h46 h48 => (t_Check h46 (n45.take [_, _, _, _, _, _])).mono fun _ w_5 ⟨dm, dl, e49, n50⟩ => ⟨x36, e49, have n47 := n45.call [_, _, _, _, _, _] n50; (n47.front6).St (by rfl) fun w_6 n51 => ⟨x36, n51.cell 5 rfl, condF h48 (fun c52 h53 => ⟨(W6 (q0_n + 1)), n51.cell 6 rfl, n51.St (by rfl) fun w_7 n54 => have n65 := n54.front6.front6.front6.front6.front9.front9.front8.front8.front9.front9.takeN 10; leafX oo RT0 w_7 h53 ⟨dm, dl, rfl, n65⟩⟩) (fun c52 h66 => have n77 := n51.front6.front6.front6.front6.front9.front9.front8.front8.front9.front9.takeN 10; leafX oo RT0 w_6 h66 ⟨dm, dl, rfl, n77⟩)⟩⟩)⟩⟩)⟩⟩) (fun c28 h78 => have n79 := n24.drewN 1; ⟨fun w2 => (B93_8 q0 cq (.slice none 0 0) (.pointer none) (.P d3) (.P d4) cr (W6 (q0_n + 1)) cp).holds w2 ∧ (box b [.I q1_0, .I q1_1, .string q1_2] 59).holds w2 ∧ True, ⟨(n79.front6).hp.1, (n79.front7).hp.1, trivial⟩, ⟨(some ⟨d4, 0, none⟩), fun _ hS => (Blk.cell hS.1 4).trans rfl, ⟨q1_0, fun _ hS => (Blk.cell hS.2.1 0).trans rfl, ⟨q1_1, fun _ hS => (Blk.cell hS.2.1 1).trans rfl, ⟨q1_2, fun _ hS => (Blk.cell hS.2.1 2).trans rfl, have n85 := n79.front5.front5.front5.front5.front5.front5; bindF h78 (fun o => match o with | (x57, dy, dt, du, dd, de) => fun h86 h88 => (t_Append h86 (n85.take [_, _, _, _, _, _])).mono fun _ w_8 ⟨dx, dw, e89, n90⟩ => ⟨x57, e89, have n87 := n85.call [_, _, _, _, _, _] n90; (n87.front6).St (by rfl) fun w_9 n91 => have n102 := n91.front6.front6.front6.front6.front10.front10.front8.front8.front10.front9.takeN 10; leafX oo RT0 w_9 h88 ⟨dx, dw, rfl, n102⟩⟩)⟩⟩⟩⟩⟩)⟩)⟩)⟩)⟩⟩)
def ann_BSyncS0 : Ann := ⟨[], [], []⟩
def p_BSyncS0 (q0 : Nat) (R : Rt) (w : World) : Prop :=
  (∃ (x9 : Pa), Cl w q0 4 (.pointer x9) ∧ cond x9.isNone (R (.returned (.I 60)) w) ((∃ (x15 : Int), Cl w q0 5 (.I x15) ∧ cond (x15 != 0)
  ((∃ (x20 : Int), Cl w q0 5 (.I x20) ∧ R (.returned (.I x20)) w)) ((∃ (x25 : Pa), Cl w q0 4 (.pointer x25) ∧ (Calls Tryz.prog 52
  #[.pointer x25] w fun e w_1 => ∃ (x26 : Int), e = .returned (.I x26) ∧ St w_1 ⟨q0, 5, none⟩ (.I x26) fun w_2 => (∃ (x32 : Int), Cl w_2 q0 5 (.I x32) ∧ cond
  (x32 == 0) ((∃ (x38 : Int), Cl w_2 q0 6 (.I x38) ∧ St w_2 ⟨q0, 7, none⟩ (.I x38) fun w_3 => (∃ (x44 : Int), Cl w_3 q0 5 (.I x44) ∧ R
  (.returned (.I x44)) w_3))) ((∃ (x44_1 : Int), Cl w_2 q0 5 (.I x44_1) ∧ R (.returned (.I x44_1)) w_2)))))))))
theorem v_BSyncS0 (q0 : Nat) (R : Rt) (w : World) :
  vc Tryz.prog ann_BSyncS0 (Tryz.f14.body.getD .skip) (retQ Tryz.prog Tryz.f14.results.toList R) (initFr [.P q0] Tryz.f14.ntmps) w = p_BSyncS0 q0 R w := by kernel_rfl
theorem c_BSyncS0 (q0 : Nat) (R : Rt) (w : World) (h : p_BSyncS0 q0 R w) : Calls Tryz.prog 14 #[.P q0] w R :=
  calls_by ann_BSyncS0 Tryz.func14 rfl (v_BSyncS0 q0 R w) h
abbrev O_BSyncS0 := Unit
noncomputable def f_BSyncS0 (cq : Int) (cT : List Int) (cr q0_n cp : Int) : Option O_BSyncS0 :=
  (some ())
def o_BSyncS0 (q0 : Nat) (cQ : Addr) (cP : Nat) (cq : Int) (cT : List Int) (cr q0_n cp : Int) (w0 : World) : O_BSyncS0 → Rt
  | _, e, w => e = .returned (.I 60) ∧ Now (Foot [B93_8 q0 cq (.slice (some cQ) cT.length cP) (.pointer none) (.pointer none) (.pointer none) cr q0_n cp, arr (elI .u8) (some cQ) cP cT]) w0 w [B93_8 q0 cq (.slice (some cQ) cT.length cP) (.pointer none) (.pointer none) (.pointer none) cr q0_n cp, arr (elI .u8) (some cQ) cP cT]
theorem t_BSyncS0 {q0 : Nat} {cQ : Addr} {cP : Nat} {cq : Int} {cT : List Int} {cr q0_n cp : Int} {w0 : World} {r : O_BSyncS0} (hf : f_BSyncS0 cq cT cr q0_n cp = some r) (hp : Hp w0 [B93_8 q0 cq (.slice (some cQ) cT.length cP) (.pointer none) (.pointer none) (.pointer none) cr q0_n cp, arr (elI .u8) (some cQ) cP cT]) : Calls Tryz.prog 14 #[.P q0] w0 (o_BSyncS0 q0 cQ cP cq cT cr q0_n cp w0 r) := by
  apply c_BSyncS0 q0
  unfold p_BSyncS0
  unfold f_BSyncS0 at hf
  let oo := o_BSyncS0 q0 cQ cP cq cT cr q0_n cp w0
  have n0 : Now (Foot [B93_8 q0 cq (.slice (some cQ) cT.length cP) (.pointer none) (.pointer none) (.pointer none) cr q0_n cp, arr (elI .u8) (some cQ) cP cT]) w0 w0 [B93_8 q0 cq (.slice (some cQ) cT.length cP) (.pointer none) (.pointer none) (.pointer none) cr q0_n cp, arr (elI .u8) (some cQ) cP cT] := Now.start hp
  exact (
  ⟨none, n0.cell 4 rfl, condT_true (have n2 := n0.front1.front1; leafX oo (.returned (.I 60)) w0 hf ⟨rfl, n2⟩)⟩)
def ann_BSyncF0 : Ann := ⟨[], [], []⟩
def p_BSyncF0 (q0 : Nat) (R : Rt) (w : World) : Prop :=
  (∃ (x9 : Pa), Cl w q0 4 (.pointer x9) ∧ cond x9.isNone (R (.returned (.I 60)) w) ((∃ (x15 : Int), Cl w q0 5 (.I x15) ∧ cond (x15 != 0)
  ((∃ (x20 : Int), Cl w q0 5 (.I x20) ∧ R (.returned (.I x20)) w)) ((∃ (x25 : Pa), Cl w q0 4 (.pointer x25) ∧ (Calls Tryz.prog 52
  #[.pointer x25] w fun e w_1 => ∃ (x26 : Int), e = .returned (.I x26) ∧ St w_1 ⟨q0, 5, none⟩ (.I x26) fun w_2 => (∃ (x32 : Int), Cl w_2 q0 5 (.I x32) ∧ cond
  (x32 == 0) ((∃ (x38 : Int), Cl w_2 q0 6 (.I x38) ∧ St w_2 ⟨q0, 7, none⟩ (.I x38) fun w_3 => (∃ (x44 : Int), Cl w_3 q0 5 (.I x44) ∧ R
  (.returned (.I x44)) w_3))) ((∃ (x44_1 : Int), Cl w_2 q0 5 (.I x44_1) ∧ R (.returned (.I x44_1)) w_2)))))))))
theorem v_BSyncF0 (q0 : Nat) (R : Rt) (w : World) :
  vc Tryz.prog ann_BSyncF0 (Tryz.f14.body.getD .skip) (retQ Tryz.prog Tryz.f14.results.toList R) (initFr [.P q0] Tryz.f14.ntmps) w = p_BSyncF0 q0 R w := by kernel_rfl
theorem c_BSyncF0 (q0 : Nat) (R : Rt) (w : World) (h : p_BSyncF0 q0 R w) : Calls Tryz.prog 14 #[.P q0] w R :=
  calls_by ann_BSyncF0 Tryz.func14 rfl (v_BSyncF0 q0 R w) h
abbrev O_BSyncF0 := Unit
noncomputable def f_BSyncF0 (cq cr q0_n cp : Int) (cN : ByteArray) (cD : Int) (cR : Bool) (cG : Int) : Option O_BSyncF0 :=
  (some ())
def o_BSyncF0 (q0 cS : Nat) (cq cr q0_n cp : Int) (cN : ByteArray) (cD : Int) (cR : Bool) (cG : Int) (w0 : World) : O_BSyncF0 → Rt
  | _, e, w => e = .returned (.I 60) ∧ Now (Foot [B93_8 q0 cq (.slice none 0 0) (.P cS) (.pointer none) (.pointer none) cr q0_n cp, box cS [.string cN, .I cD, .bool cR, .I cG] 136]) w0 w [B93_8 q0 cq (.slice none 0 0) (.P cS) (.pointer none) (.pointer none) cr q0_n cp, box cS [.string cN, .I cD, .bool cR, .I cG] 136]
theorem t_BSyncF0 {q0 cS : Nat} {cq cr q0_n cp : Int} {cN : ByteArray} {cD : Int} {cR : Bool} {cG : Int} {w0 : World} {r : O_BSyncF0} (hf : f_BSyncF0 cq cr q0_n cp cN cD cR cG = some r) (hp : Hp w0 [B93_8 q0 cq (.slice none 0 0) (.P cS) (.pointer none) (.pointer none) cr q0_n cp, box cS [.string cN, .I cD, .bool cR, .I cG] 136]) : Calls Tryz.prog 14 #[.P q0] w0 (o_BSyncF0 q0 cS cq cr q0_n cp cN cD cR cG w0 r) := by
  apply c_BSyncF0 q0
  unfold p_BSyncF0
  unfold f_BSyncF0 at hf
  let oo := o_BSyncF0 q0 cS cq cr q0_n cp cN cD cR cG w0
  have n0 : Now (Foot [B93_8 q0 cq (.slice none 0 0) (.P cS) (.pointer none) (.pointer none) cr q0_n cp, box cS [.string cN, .I cD, .bool cR, .I cG] 136]) w0 w0 [B93_8 q0 cq (.slice none 0 0) (.P cS) (.pointer none) (.pointer none) cr q0_n cp, box cS [.string cN, .I cD, .bool cR, .I cG] 136] := Now.start hp
  exact (
  ⟨none, n0.cell 4 rfl, condT_true (have n2 := n0.front1.front1; leafX oo (.returned (.I 60)) w0 hf ⟨rfl, n2⟩)⟩)
def ann_BSyncE0 : Ann := ⟨[], [], []⟩
def p_BSyncE0 (q0 : Nat) (R : Rt) (w : World) : Prop :=
  (∃ (x9 : Pa), Cl w q0 4 (.pointer x9) ∧ cond x9.isNone (R (.returned (.I 60)) w) ((∃ (x15 : Int), Cl w q0 5 (.I x15) ∧ cond (x15 != 0)
  ((∃ (x20 : Int), Cl w q0 5 (.I x20) ∧ R (.returned (.I x20)) w)) ((∃ (x25 : Pa), Cl w q0 4 (.pointer x25) ∧ (Calls Tryz.prog 52
  #[.pointer x25] w fun e w_1 => ∃ (x26 : Int), e = .returned (.I x26) ∧ St w_1 ⟨q0, 5, none⟩ (.I x26) fun w_2 => (∃ (x32 : Int), Cl w_2 q0 5 (.I x32) ∧ cond
  (x32 == 0) ((∃ (x38 : Int), Cl w_2 q0 6 (.I x38) ∧ St w_2 ⟨q0, 7, none⟩ (.I x38) fun w_3 => (∃ (x44 : Int), Cl w_3 q0 5 (.I x44) ∧ R
  (.returned (.I x44)) w_3))) ((∃ (x44_1 : Int), Cl w_2 q0 5 (.I x44_1) ∧ R (.returned (.I x44_1)) w_2)))))))))
theorem v_BSyncE0 (q0 : Nat) (R : Rt) (w : World) :
  vc Tryz.prog ann_BSyncE0 (Tryz.f14.body.getD .skip) (retQ Tryz.prog Tryz.f14.results.toList R) (initFr [.P q0] Tryz.f14.ntmps) w = p_BSyncE0 q0 R w := by kernel_rfl
theorem c_BSyncE0 (q0 : Nat) (R : Rt) (w : World) (h : p_BSyncE0 q0 R w) : Calls Tryz.prog 14 #[.P q0] w R :=
  calls_by ann_BSyncE0 Tryz.func14 rfl (v_BSyncE0 q0 R w) h
abbrev O_BSyncE0 := Unit
noncomputable def f_BSyncE0 (cq cr q0_n cp : Int) (d0 : ByteArray) (cJ : List Int) (cK : List Int) (cX : Int) : Option O_BSyncE0 :=
  (some ())
def o_BSyncE0 (q0 d3 : Nat) (cI : Pa) (cH : Nat) (cM : Pa) (cL : Nat) (cq cr q0_n cp : Int) (d0 : ByteArray) (cJ : List Int) (cK : List Int) (cX : Int) (w0 : World) : O_BSyncE0 → Rt
  | _, e, w => e = .returned (.I 60) ∧ Now (Foot [B93_8 q0 cq (.slice none 0 0) (.pointer none) (.P d3) (.pointer none) cr q0_n cp, box d3 [.string d0, .slice cI cJ.length cH, .slice cM cK.length cL, .I cX] 138, arr (elI .u8) cI cH cJ, arr (elI .u8) cM cL cK]) w0 w [B93_8 q0 cq (.slice none 0 0) (.pointer none) (.P d3) (.pointer none) cr q0_n cp, box d3 [.string d0, .slice cI cJ.length cH, .slice cM cK.length cL, .I cX] 138, arr (elI .u8) cI cH cJ, arr (elI .u8) cM cL cK]
theorem t_BSyncE0 {q0 d3 : Nat} {cI : Option Addr} {cH : Nat} {cM : Option Addr} {cL : Nat} {cq cr q0_n cp : Int} {d0 : ByteArray} {cJ : List Int} {cK : List Int} {cX : Int} {w0 : World} {r : O_BSyncE0} (hf : f_BSyncE0 cq cr q0_n cp d0 cJ cK cX = some r) (hp : Hp w0 [B93_8 q0 cq (.slice none 0 0) (.pointer none) (.P d3) (.pointer none) cr q0_n cp, box d3 [.string d0, .slice cI cJ.length cH, .slice cM cK.length cL, .I cX] 138, arr (elI .u8) cI cH cJ, arr (elI .u8) cM cL cK]) : Calls Tryz.prog 14 #[.P q0] w0 (o_BSyncE0 q0 d3 cI cH cM cL cq cr q0_n cp d0 cJ cK cX w0 r) := by
  apply c_BSyncE0 q0
  unfold p_BSyncE0
  unfold f_BSyncE0 at hf
  let oo := o_BSyncE0 q0 d3 cI cH cM cL cq cr q0_n cp d0 cJ cK cX w0
  have n0 : Now (Foot [B93_8 q0 cq (.slice none 0 0) (.pointer none) (.P d3) (.pointer none) cr q0_n cp, box d3 [.string d0, .slice cI cJ.length cH, .slice cM cK.length cL, .I cX] 138, arr (elI .u8) cI cH cJ, arr (elI .u8) cM cL cK]) w0 w0 [B93_8 q0 cq (.slice none 0 0) (.pointer none) (.P d3) (.pointer none) cr q0_n cp, box d3 [.string d0, .slice cI cJ.length cH, .slice cM cK.length cL, .I cX] 138, arr (elI .u8) cI cH cJ, arr (elI .u8) cM cL cK] := Now.start hp
  exact (
  ⟨none, n0.cell 4 rfl, condT_true (have n4 := n0.front3.front3.front3.front3; leafX oo (.returned (.I 60)) w0 hf ⟨rfl, n4⟩)⟩)
def ann_BSyncS1 : Ann := ⟨[], [], []⟩
def p_BSyncS1 (q0 : Nat) (R : Rt) (w : World) : Prop :=
  (∃ (x9 : Pa), Cl w q0 4 (.pointer x9) ∧ cond x9.isNone (R (.returned (.I 60)) w) ((∃ (x15 : Int), Cl w q0 5 (.I x15) ∧ cond (x15 != 0)
  ((∃ (x20 : Int), Cl w q0 5 (.I x20) ∧ R (.returned (.I x20)) w)) ((∃ (x25 : Pa), Cl w q0 4 (.pointer x25) ∧ (Calls Tryz.prog 52
  #[.pointer x25] w fun e w_1 => ∃ (x26 : Int), e = .returned (.I x26) ∧ St w_1 ⟨q0, 5, none⟩ (.I x26) fun w_2 => (∃ (x32 : Int), Cl w_2 q0 5 (.I x32) ∧ cond
  (x32 == 0) ((∃ (x38 : Int), Cl w_2 q0 6 (.I x38) ∧ St w_2 ⟨q0, 7, none⟩ (.I x38) fun w_3 => (∃ (x44 : Int), Cl w_3 q0 5 (.I x44) ∧ R
  (.returned (.I x44)) w_3))) ((∃ (x44_1 : Int), Cl w_2 q0 5 (.I x44_1) ∧ R (.returned (.I x44_1)) w_2)))))))))
theorem v_BSyncS1 (q0 : Nat) (R : Rt) (w : World) :
  vc Tryz.prog ann_BSyncS1 (Tryz.f14.body.getD .skip) (retQ Tryz.prog Tryz.f14.results.toList R) (initFr [.P q0] Tryz.f14.ntmps) w = p_BSyncS1 q0 R w := by kernel_rfl
theorem c_BSyncS1 (q0 : Nat) (R : Rt) (w : World) (h : p_BSyncS1 q0 R w) : Calls Tryz.prog 14 #[.P q0] w R :=
  calls_by ann_BSyncS1 Tryz.func14 rfl (v_BSyncS1 q0 R w) h
abbrev O_BSyncS1 := (Int × Int × Int × Int × Bool × (List ByteArray) × (List E115))
noncomputable def f_BSyncS1 (cq : Int) (cT : List Int) (cr q0_n cp cZ cW cV cY cU : Int) (d1 : Bool) (ct : List ByteArray) (cu : List ByteArray) (cv : List E115) (cO : List (Int × Bool)) (cF : Int) (cE : Bool) : Option O_BSyncS1 :=
  (cond (cr != 0) (some (cr, cr, cp, cF, cE, ct, cv)) ((f_JSync cZ cW cV cY cU d1 ct cu cv cO cF cE).bind fun (o : O_JSync) => (match o with | (x26, ch, ci, bM, bO) => (cond (x26 == 0) (some (x26, x26, q0_n, ch, ci, bM, bO)) (some (x26, x26, cp, ch, ci, bM, bO))))))
def o_BSyncS1 (q0 : Nat) (cQ : Addr) (cP d4 d2 : Nat) (cx : Pa) (cw : Nat) (cz : Pa) (cy : Nat) (cC : Pa) (cB : Nat) (cA : Option Nat) (cq : Int) (cT : List Int) (cr q0_n cp cZ cW cV cY cU : Int) (d1 : Bool) (ct : List ByteArray) (cu : List ByteArray) (cv : List E115) (cO : List (Int × Bool)) (cF : Int) (cE : Bool) (w0 : World) : O_BSyncS1 → Rt
  | (r0, dB, dC, dr, ds, d5, d7), e, w => ∃ (dc : Pa), ∃ (db : Nat), e = .returned (.I r0) ∧ Now (Foot [B93_8 q0 cq (.slice (some cQ) cT.length cP) (.pointer none) (.pointer none) (.P d4) cr q0_n cp, arr (elI .u8) (some cQ) cP cT, box d4 [.P d2, .I cZ, .I cW, .U cV, .U cY, .I cU, .bool d1] 142, box d2 [.slice cx ct.length cw, .slice cz cu.length cy, .slice cC cv.length cB, .map cA, .I cF, .bool cE] 111, arr elS cx cw ct, arr elS cz cy cu, arr el115 cC cB cv, mapB .i64 cA cO]) w0 w [B93_8 q0 cq (.slice (some cQ) cT.length cP) (.pointer none) (.pointer none) (.P d4) dB q0_n dC, box d4 [.P d2, .I cZ, .I cW, .U cV, .U cY, .I cU, .bool d1] 142, box d2 [.slice cx d5.length cw, .slice cz cu.length cy, .slice dc d7.length db, .map cA, .I dr, .bool ds] 111, arr (elI .u8) (some cQ) cP cT, arr elS cx cw d5, arr elS cz cy cu, arr el115 dc db d7, mapB .i64 cA cO]
theorem t_BSyncS1 {q0 : Nat} {cQ : Addr} {cP d4 d2 : Nat} {cx : Option Addr} {cw : Nat} {cz : Option Addr} {cy : Nat} {cC : Option Addr} {cB : Nat} {cA : Option Nat} {cq : Int} {cT : List Int} {cr q0_n cp cZ cW cV cY cU : Int} {d1 : Bool} {ct : List ByteArray} {cu : List ByteArray} {cv : List E115} {cO : List (Int × Bool)} {cF : Int} {cE : Bool} {w0 : World} {r : O_BSyncS1} (hf : f_BSyncS1 cq cT cr q0_n cp cZ cW cV cY cU d1 ct cu cv cO cF cE = some r) (hp : Hp w0 [B93_8 q0 cq (.slice (some cQ) cT.length cP) (.pointer none) (.pointer none) (.P d4) cr q0_n cp, arr (elI .u8) (some cQ) cP cT, box d4 [.P d2, .I cZ, .I cW, .U cV, .U cY, .I cU, .bool d1] 142, box d2 [.slice cx ct.length cw, .slice cz cu.length cy, .slice cC cv.length cB, .map cA, .I cF, .bool cE] 111, arr elS cx cw ct, arr elS cz cy cu, arr el115 cC cB cv, mapB .i64 cA cO]) : Calls Tryz.prog 14 #[.P q0] w0 (o_BSyncS1 q0 cQ cP d4 d2 cx cw cz cy cC cB cA cq cT cr q0_n cp cZ cW cV cY cU d1 ct cu cv cO cF cE w0 r) := by
  apply c_BSyncS1 q0
  unfold p_BSyncS1
  unfold f_BSyncS1 at hf
  let oo := o_BSyncS1 q0 cQ cP d4 d2 cx cw cz cy cC cB cA cq cT cr q0_n cp cZ cW cV cY cU d1 ct cu cv cO cF cE w0
  have n0 : Now (Foot [B93_8 q0 cq (.slice (some cQ) cT.length cP) (.pointer none) (.pointer none) (.P d4) cr q0_n cp, arr (elI .u8) (some cQ) cP cT, box d4 [.P d2, .I cZ, .I cW, .U cV, .U cY, .I cU, .bool d1] 142, box d2 [.slice cx ct.length cw, .slice cz cu.length cy, .slice cC cv.length cB, .map cA, .I cF, .bool cE] 111, arr elS cx cw ct, arr elS cz cy cu, arr el115 cC cB cv, mapB .i64 cA cO]) w0 w0 [B93_8 q0 cq (.slice (some cQ) cT.length cP) (.pointer none) (.pointer none) (.P d4) cr q0_n cp, arr (elI .u8) (some cQ) cP cT, box d4 [.P d2, .I cZ, .I cW, .U cV, .U cY, .I cU, .bool d1] 142, box d2 [.slice cx ct.length cw, .slice cz cu.length cy, .slice cC cv.length cB, .map cA, .I cF, .bool cE] 111, arr elS cx cw ct, arr elS cz cy cu, arr el115 cC cB cv, mapB .i64 cA cO] := Now.start hp
  exact (
  ⟨(some ⟨d4, 0, none⟩), n0.cell 4 rfl, condT_false (⟨cr, n0.cell 5 rfl, condF hf (fun c1 h2 => ⟨cr, n0.cell 5 rfl, have n10 := n0.front7.front7.front7.front7.front5.front7.front7.front7; leafX oo (.returned (.I cr)) w0 h2 ⟨cC, cB, rfl, n10⟩⟩) (fun c1 h11 => ⟨(some ⟨d4, 0, none⟩), n0.cell 4 rfl, have n17 := n0.front7.front7.front7.front7.front7.front7; bindF h11 (fun o => match o with | (x26, ch, ci, bM, bO) => fun h18 h20 => (t_JSync h18 (n17.take [_, _, _, _, _, _])).mono fun _ w_1 ⟨dk, dj, e21, n22⟩ => ⟨x26, e21, have n19 := n17.call [_, _, _, _, _, _] n22; (n19.front6).St (by rfl) fun w_2 n23 => ⟨x26, n23.cell 5 rfl, condF h20 (fun c24 h25 => ⟨q0_n, n23.cell 6 rfl, n23.St (by rfl) fun w_3 n26 => ⟨x26, n26.cell 5 rfl, have n34 := n26.front6.front6.front6.front6.front7.front7.front7.front7; leafX oo (.returned (.I x26)) w_3 h25 ⟨dk, dj, rfl, n34⟩⟩⟩) (fun c24 h35 => ⟨x26, n23.cell 5 rfl, have n43 := n23.front6.front6.front6.front6.front7.front7.front7.front7; leafX oo (.returned (.I x26)) w_2 h35 ⟨dk, dj, rfl, n43⟩⟩)⟩⟩)⟩)⟩)⟩)
def ann_BSyncF1 : Ann := ⟨[], [], []⟩
def p_BSyncF1 (q0 : Nat) (R : Rt) (w : World) : Prop :=
  (∃ (x9 : Pa), Cl w q0 4 (.pointer x9) ∧ cond x9.isNone (R (.returned (.I 60)) w) ((∃ (x15 : Int), Cl w q0 5 (.I x15) ∧ cond (x15 != 0)
  ((∃ (x20 : Int), Cl w q0 5 (.I x20) ∧ R (.returned (.I x20)) w)) ((∃ (x25 : Pa), Cl w q0 4 (.pointer x25) ∧ (Calls Tryz.prog 52
  #[.pointer x25] w fun e w_1 => ∃ (x26 : Int), e = .returned (.I x26) ∧ St w_1 ⟨q0, 5, none⟩ (.I x26) fun w_2 => (∃ (x32 : Int), Cl w_2 q0 5 (.I x32) ∧ cond
  (x32 == 0) ((∃ (x38 : Int), Cl w_2 q0 6 (.I x38) ∧ St w_2 ⟨q0, 7, none⟩ (.I x38) fun w_3 => (∃ (x44 : Int), Cl w_3 q0 5 (.I x44) ∧ R
  (.returned (.I x44)) w_3))) ((∃ (x44_1 : Int), Cl w_2 q0 5 (.I x44_1) ∧ R (.returned (.I x44_1)) w_2)))))))))
theorem v_BSyncF1 (q0 : Nat) (R : Rt) (w : World) :
  vc Tryz.prog ann_BSyncF1 (Tryz.f14.body.getD .skip) (retQ Tryz.prog Tryz.f14.results.toList R) (initFr [.P q0] Tryz.f14.ntmps) w = p_BSyncF1 q0 R w := by kernel_rfl
theorem c_BSyncF1 (q0 : Nat) (R : Rt) (w : World) (h : p_BSyncF1 q0 R w) : Calls Tryz.prog 14 #[.P q0] w R :=
  calls_by ann_BSyncF1 Tryz.func14 rfl (v_BSyncF1 q0 R w) h
abbrev O_BSyncF1 := (Int × Int × Int × Int × Bool × (List ByteArray) × (List E115))
noncomputable def f_BSyncF1 (cq cr q0_n cp : Int) (cN : ByteArray) (cD : Int) (cR : Bool) (cG cZ cW cV cY cU : Int) (d1 : Bool) (ct : List ByteArray) (cu : List ByteArray) (cv : List E115) (cO : List (Int × Bool)) (cF : Int) (cE : Bool) : Option O_BSyncF1 :=
  (cond (cr != 0) (some (cr, cr, cp, cF, cE, ct, cv)) ((f_JSync cZ cW cV cY cU d1 ct cu cv cO cF cE).bind fun (o : O_JSync) => (match o with | (x26, ch, ci, bM, bO) => (cond (x26 == 0) (some (x26, x26, q0_n, ch, ci, bM, bO)) (some (x26, x26, cp, ch, ci, bM, bO))))))
def o_BSyncF1 (q0 cS d4 d2 : Nat) (cx : Pa) (cw : Nat) (cz : Pa) (cy : Nat) (cC : Pa) (cB : Nat) (cA : Option Nat) (cq cr q0_n cp : Int) (cN : ByteArray) (cD : Int) (cR : Bool) (cG cZ cW cV cY cU : Int) (d1 : Bool) (ct : List ByteArray) (cu : List ByteArray) (cv : List E115) (cO : List (Int × Bool)) (cF : Int) (cE : Bool) (w0 : World) : O_BSyncF1 → Rt
  | (r0, dB, dC, dr, ds, d5, d7), e, w => ∃ (dc : Pa), ∃ (db : Nat), e = .returned (.I r0) ∧ Now (Foot [B93_8 q0 cq (.slice none 0 0) (.P cS) (.pointer none) (.P d4) cr q0_n cp, box cS [.string cN, .I cD, .bool cR, .I cG] 136, box d4 [.P d2, .I cZ, .I cW, .U cV, .U cY, .I cU, .bool d1] 142, box d2 [.slice cx ct.length cw, .slice cz cu.length cy, .slice cC cv.length cB, .map cA, .I cF, .bool cE] 111, arr elS cx cw ct, arr elS cz cy cu, arr el115 cC cB cv, mapB .i64 cA cO]) w0 w [B93_8 q0 cq (.slice none 0 0) (.P cS) (.pointer none) (.P d4) dB q0_n dC, box cS [.string cN, .I cD, .bool cR, .I cG] 136, box d4 [.P d2, .I cZ, .I cW, .U cV, .U cY, .I cU, .bool d1] 142, box d2 [.slice cx d5.length cw, .slice cz cu.length cy, .slice dc d7.length db, .map cA, .I dr, .bool ds] 111, arr elS cx cw d5, arr elS cz cy cu, arr el115 dc db d7, mapB .i64 cA cO]
theorem t_BSyncF1 {q0 cS d4 d2 : Nat} {cx : Option Addr} {cw : Nat} {cz : Option Addr} {cy : Nat} {cC : Option Addr} {cB : Nat} {cA : Option Nat} {cq cr q0_n cp : Int} {cN : ByteArray} {cD : Int} {cR : Bool} {cG cZ cW cV cY cU : Int} {d1 : Bool} {ct : List ByteArray} {cu : List ByteArray} {cv : List E115} {cO : List (Int × Bool)} {cF : Int} {cE : Bool} {w0 : World} {r : O_BSyncF1} (hf : f_BSyncF1 cq cr q0_n cp cN cD cR cG cZ cW cV cY cU d1 ct cu cv cO cF cE = some r) (hp : Hp w0 [B93_8 q0 cq (.slice none 0 0) (.P cS) (.pointer none) (.P d4) cr q0_n cp, box cS [.string cN, .I cD, .bool cR, .I cG] 136, box d4 [.P d2, .I cZ, .I cW, .U cV, .U cY, .I cU, .bool d1] 142, box d2 [.slice cx ct.length cw, .slice cz cu.length cy, .slice cC cv.length cB, .map cA, .I cF, .bool cE] 111, arr elS cx cw ct, arr elS cz cy cu, arr el115 cC cB cv, mapB .i64 cA cO]) : Calls Tryz.prog 14 #[.P q0] w0 (o_BSyncF1 q0 cS d4 d2 cx cw cz cy cC cB cA cq cr q0_n cp cN cD cR cG cZ cW cV cY cU d1 ct cu cv cO cF cE w0 r) := by
  apply c_BSyncF1 q0
  unfold p_BSyncF1
  unfold f_BSyncF1 at hf
  let oo := o_BSyncF1 q0 cS d4 d2 cx cw cz cy cC cB cA cq cr q0_n cp cN cD cR cG cZ cW cV cY cU d1 ct cu cv cO cF cE w0
  have n0 : Now (Foot [B93_8 q0 cq (.slice none 0 0) (.P cS) (.pointer none) (.P d4) cr q0_n cp, box cS [.string cN, .I cD, .bool cR, .I cG] 136, box d4 [.P d2, .I cZ, .I cW, .U cV, .U cY, .I cU, .bool d1] 142, box d2 [.slice cx ct.length cw, .slice cz cu.length cy, .slice cC cv.length cB, .map cA, .I cF, .bool cE] 111, arr elS cx cw ct, arr elS cz cy cu, arr el115 cC cB cv, mapB .i64 cA cO]) w0 w0 [B93_8 q0 cq (.slice none 0 0) (.P cS) (.pointer none) (.P d4) cr q0_n cp, box cS [.string cN, .I cD, .bool cR, .I cG] 136, box d4 [.P d2, .I cZ, .I cW, .U cV, .U cY, .I cU, .bool d1] 142, box d2 [.slice cx ct.length cw, .slice cz cu.length cy, .slice cC cv.length cB, .map cA, .I cF, .bool cE] 111, arr elS cx cw ct, arr elS cz cy cu, arr el115 cC cB cv, mapB .i64 cA cO] := Now.start hp
  exact (
  ⟨(some ⟨d4, 0, none⟩), n0.cell 4 rfl, condT_false (⟨cr, n0.cell 5 rfl, condF hf (fun c1 h2 => ⟨cr, n0.cell 5 rfl, have n10 := n0.front7.front7.front7.front7.front7.front7.front7.front7; leafX oo (.returned (.I cr)) w0 h2 ⟨cC, cB, rfl, n10⟩⟩) (fun c1 h11 => ⟨(some ⟨d4, 0, none⟩), n0.cell 4 rfl, have n17 := n0.front7.front7.front7.front7.front7.front7; bindF h11 (fun o => match o with | (x26, ch, ci, bM, bO) => fun h18 h20 => (t_JSync h18 (n17.take [_, _, _, _, _, _])).mono fun _ w_1 ⟨dk, dj, e21, n22⟩ => ⟨x26, e21, have n19 := n17.call [_, _, _, _, _, _] n22; (n19.front6).St (by rfl) fun w_2 n23 => ⟨x26, n23.cell 5 rfl, condF h20 (fun c24 h25 => ⟨q0_n, n23.cell 6 rfl, n23.St (by rfl) fun w_3 n26 => ⟨x26, n26.cell 5 rfl, have n34 := n26.front6.front6.front6.front6.front6.front6.front7.front7; leafX oo (.returned (.I x26)) w_3 h25 ⟨dk, dj, rfl, n34⟩⟩⟩) (fun c24 h35 => ⟨x26, n23.cell 5 rfl, have n43 := n23.front6.front6.front6.front6.front6.front6.front7.front7; leafX oo (.returned (.I x26)) w_2 h35 ⟨dk, dj, rfl, n43⟩⟩)⟩⟩)⟩)⟩)⟩)
def ann_BSyncE1 : Ann := ⟨[], [], []⟩
def p_BSyncE1 (q0 : Nat) (R : Rt) (w : World) : Prop :=
  (∃ (x9 : Pa), Cl w q0 4 (.pointer x9) ∧ cond x9.isNone (R (.returned (.I 60)) w) ((∃ (x15 : Int), Cl w q0 5 (.I x15) ∧ cond (x15 != 0)
  ((∃ (x20 : Int), Cl w q0 5 (.I x20) ∧ R (.returned (.I x20)) w)) ((∃ (x25 : Pa), Cl w q0 4 (.pointer x25) ∧ (Calls Tryz.prog 52
  #[.pointer x25] w fun e w_1 => ∃ (x26 : Int), e = .returned (.I x26) ∧ St w_1 ⟨q0, 5, none⟩ (.I x26) fun w_2 => (∃ (x32 : Int), Cl w_2 q0 5 (.I x32) ∧ cond
  (x32 == 0) ((∃ (x38 : Int), Cl w_2 q0 6 (.I x38) ∧ St w_2 ⟨q0, 7, none⟩ (.I x38) fun w_3 => (∃ (x44 : Int), Cl w_3 q0 5 (.I x44) ∧ R
  (.returned (.I x44)) w_3))) ((∃ (x44_1 : Int), Cl w_2 q0 5 (.I x44_1) ∧ R (.returned (.I x44_1)) w_2)))))))))
theorem v_BSyncE1 (q0 : Nat) (R : Rt) (w : World) :
  vc Tryz.prog ann_BSyncE1 (Tryz.f14.body.getD .skip) (retQ Tryz.prog Tryz.f14.results.toList R) (initFr [.P q0] Tryz.f14.ntmps) w = p_BSyncE1 q0 R w := by kernel_rfl
theorem c_BSyncE1 (q0 : Nat) (R : Rt) (w : World) (h : p_BSyncE1 q0 R w) : Calls Tryz.prog 14 #[.P q0] w R :=
  calls_by ann_BSyncE1 Tryz.func14 rfl (v_BSyncE1 q0 R w) h
abbrev O_BSyncE1 := (Int × Int × Int × Int × Bool × (List ByteArray) × (List E115))
noncomputable def f_BSyncE1 (cq cr q0_n cp : Int) (d0 : ByteArray) (cJ : List Int) (cK : List Int) (cX cZ cW cV cY cU : Int) (d1 : Bool) (ct : List ByteArray) (cu : List ByteArray) (cv : List E115) (cO : List (Int × Bool)) (cF : Int) (cE : Bool) : Option O_BSyncE1 :=
  (cond (cr != 0) (some (cr, cr, cp, cF, cE, ct, cv)) ((f_JSync cZ cW cV cY cU d1 ct cu cv cO cF cE).bind fun (o : O_JSync) => (match o with | (x26, ch, ci, bM, bO) => (cond (x26 == 0) (some (x26, x26, q0_n, ch, ci, bM, bO)) (some (x26, x26, cp, ch, ci, bM, bO))))))
def o_BSyncE1 (q0 d3 : Nat) (cI : Pa) (cH : Nat) (cM : Pa) (cL d4 d2 : Nat) (cx : Pa) (cw : Nat) (cz : Pa) (cy : Nat) (cC : Pa) (cB : Nat) (cA : Option Nat) (cq cr q0_n cp : Int) (d0 : ByteArray) (cJ : List Int) (cK : List Int) (cX cZ cW cV cY cU : Int) (d1 : Bool) (ct : List ByteArray) (cu : List ByteArray) (cv : List E115) (cO : List (Int × Bool)) (cF : Int) (cE : Bool) (w0 : World) : O_BSyncE1 → Rt
  | (r0, dB, dC, dr, ds, d5, d7), e, w => ∃ (dc : Pa), ∃ (db : Nat), e = .returned (.I r0) ∧ Now (Foot [B93_8 q0 cq (.slice none 0 0) (.pointer none) (.P d3) (.P d4) cr q0_n cp, box d3 [.string d0, .slice cI cJ.length cH, .slice cM cK.length cL, .I cX] 138, arr (elI .u8) cI cH cJ, arr (elI .u8) cM cL cK, box d4 [.P d2, .I cZ, .I cW, .U cV, .U cY, .I cU, .bool d1] 142, box d2 [.slice cx ct.length cw, .slice cz cu.length cy, .slice cC cv.length cB, .map cA, .I cF, .bool cE] 111, arr elS cx cw ct, arr elS cz cy cu, arr el115 cC cB cv, mapB .i64 cA cO]) w0 w [B93_8 q0 cq (.slice none 0 0) (.pointer none) (.P d3) (.P d4) dB q0_n dC, box d3 [.string d0, .slice cI cJ.length cH, .slice cM cK.length cL, .I cX] 138, box d4 [.P d2, .I cZ, .I cW, .U cV, .U cY, .I cU, .bool d1] 142, box d2 [.slice cx d5.length cw, .slice cz cu.length cy, .slice dc d7.length db, .map cA, .I dr, .bool ds] 111, arr (elI .u8) cI cH cJ, arr (elI .u8) cM cL cK, arr elS cx cw d5, arr elS cz cy cu, arr el115 dc db d7, mapB .i64 cA cO]
theorem t_BSyncE1 {q0 d3 : Nat} {cI : Option Addr} {cH : Nat} {cM : Option Addr} {cL d4 d2 : Nat} {cx : Option Addr} {cw : Nat} {cz : Option Addr} {cy : Nat} {cC : Option Addr} {cB : Nat} {cA : Option Nat} {cq cr q0_n cp : Int} {d0 : ByteArray} {cJ : List Int} {cK : List Int} {cX cZ cW cV cY cU : Int} {d1 : Bool} {ct : List ByteArray} {cu : List ByteArray} {cv : List E115} {cO : List (Int × Bool)} {cF : Int} {cE : Bool} {w0 : World} {r : O_BSyncE1} (hf : f_BSyncE1 cq cr q0_n cp d0 cJ cK cX cZ cW cV cY cU d1 ct cu cv cO cF cE = some r) (hp : Hp w0 [B93_8 q0 cq (.slice none 0 0) (.pointer none) (.P d3) (.P d4) cr q0_n cp, box d3 [.string d0, .slice cI cJ.length cH, .slice cM cK.length cL, .I cX] 138, arr (elI .u8) cI cH cJ, arr (elI .u8) cM cL cK, box d4 [.P d2, .I cZ, .I cW, .U cV, .U cY, .I cU, .bool d1] 142, box d2 [.slice cx ct.length cw, .slice cz cu.length cy, .slice cC cv.length cB, .map cA, .I cF, .bool cE] 111, arr elS cx cw ct, arr elS cz cy cu, arr el115 cC cB cv, mapB .i64 cA cO]) : Calls Tryz.prog 14 #[.P q0] w0 (o_BSyncE1 q0 d3 cI cH cM cL d4 d2 cx cw cz cy cC cB cA cq cr q0_n cp d0 cJ cK cX cZ cW cV cY cU d1 ct cu cv cO cF cE w0 r) := by
  apply c_BSyncE1 q0
  unfold p_BSyncE1
  unfold f_BSyncE1 at hf
  let oo := o_BSyncE1 q0 d3 cI cH cM cL d4 d2 cx cw cz cy cC cB cA cq cr q0_n cp d0 cJ cK cX cZ cW cV cY cU d1 ct cu cv cO cF cE w0
  have n0 : Now (Foot [B93_8 q0 cq (.slice none 0 0) (.pointer none) (.P d3) (.P d4) cr q0_n cp, box d3 [.string d0, .slice cI cJ.length cH, .slice cM cK.length cL, .I cX] 138, arr (elI .u8) cI cH cJ, arr (elI .u8) cM cL cK, box d4 [.P d2, .I cZ, .I cW, .U cV, .U cY, .I cU, .bool d1] 142, box d2 [.slice cx ct.length cw, .slice cz cu.length cy, .slice cC cv.length cB, .map cA, .I cF, .bool cE] 111, arr elS cx cw ct, arr elS cz cy cu, arr el115 cC cB cv, mapB .i64 cA cO]) w0 w0 [B93_8 q0 cq (.slice none 0 0) (.pointer none) (.P d3) (.P d4) cr q0_n cp, box d3 [.string d0, .slice cI cJ.length cH, .slice cM cK.length cL, .I cX] 138, arr (elI .u8) cI cH cJ, arr (elI .u8) cM cL cK, box d4 [.P d2, .I cZ, .I cW, .U cV, .U cY, .I cU, .bool d1] 142, box d2 [.slice cx ct.length cw, .slice cz cu.length cy, .slice cC cv.length cB, .map cA, .I cF, .bool cE] 111, arr elS cx cw ct, arr elS cz cy cu, arr el115 cC cB cv, mapB .i64 cA cO] := Now.start hp
  exact (
  ⟨(some ⟨d4, 0, none⟩), n0.cell 4 rfl, condT_false (⟨cr, n0.cell 5 rfl, condF hf (fun c1 h2 => ⟨cr, n0.cell 5 rfl, have n12 := n0.front9.front9.front9.front9.front7.front7.front9.front9.front9.front9; leafX oo (.returned (.I cr)) w0 h2 ⟨cC, cB, rfl, n12⟩⟩) (fun c1 h13 => ⟨(some ⟨d4, 0, none⟩), n0.cell 4 rfl, have n19 := n0.front9.front9.front9.front9.front9.front9; bindF h13 (fun o => match o with | (x26, ch, ci, bM, bO) => fun h20 h22 => (t_JSync h20 (n19.take [_, _, _, _, _, _])).mono fun _ w_1 ⟨dk, dj, e23, n24⟩ => ⟨x26, e23, have n21 := n19.call [_, _, _, _, _, _] n24; (n21.front6).St (by rfl) fun w_2 n25 => ⟨x26, n25.cell 5 rfl, condF h22 (fun c26 h27 => ⟨q0_n, n25.cell 6 rfl, n25.St (by rfl) fun w_3 n28 => ⟨x26, n28.cell 5 rfl, have n38 := n28.front6.front6.front6.front6.front9.front9.front8.front8.front9.front9; leafX oo (.returned (.I x26)) w_3 h27 ⟨dk, dj, rfl, n38⟩⟩⟩) (fun c26 h39 => ⟨x26, n25.cell 5 rfl, have n49 := n25.front6.front6.front6.front6.front9.front9.front8.front8.front9.front9; leafX oo (.returned (.I x26)) w_2 h39 ⟨dk, dj, rfl, n49⟩⟩)⟩⟩)⟩)⟩)⟩)
def ann_BWriteS0 : Ann := ⟨[], [], []⟩
def p_BWriteS0 (q0 : Nat) (q1 q2 : Int) (R : Rt) (w : World) : Prop :=
  (∃ (x16 : Pa) (x16n x16c : Nat), Cl w q0 1 (.slice x16 x16n x16c) ∧ cond (!x16.isNone) (Lt ((W6 (bits .and .u32 q1 32767)) : Int) fun s6 => (∃ (x24
  : Pa) (x24n x24c : Nat), Cl w q0 1 (.slice x24 x24n x24c) ∧ NN x24 fun a27 => chk (decide (0 ≤ s6) && decide (s6 < ((x24n : Nat) : Int))) (St w (a27.add (s6.toNat
  * 1)) (.int .u8 q2) fun w_1 => Nw w_1 (.cells #[.int .u8 q2] 5) fun b w_2 => (∃ (x32 : ByteArray), ∃ w_3, (Go.convert 88 9 (.slice (some ⟨b, 0, none⟩) 1 1)).run Tryz.prog w_2 = .ok (.string x32) w_3
  ∧ (Calls Tryz.prog 65 #[.P q0, .agg #[.I 1, .I s6, .string x32]] w_3 fun e w_4 => e = .returned (.tuple #[]) ∧ R RT0 w_4))))) ((∃ (x39 :
  Option Addr), Cl w q0 2 (.pointer x39) ∧ cond (!x39.isNone) ((∃ (x45 : Pa), Cl w q0 2 (.pointer x45) ∧ (Calls Tryz.prog 66 #[.pointer x45, .U q1, .int .u8 q2] w fun e w_5 => ∃ (x48a_0 x48a_1 : Int) (x48a_2 : ByteArray) (x48b : Bool), e = .returned (.tuple #[.agg #[.I x48a_0, .I x48a_1, .string x48a_2], .bool x48b]) ∧
  Nw w_5 (.cells #[.I 0, .I 0, .string (ByteArray.mk #[])] 59) fun b_1 w_6 => St w_6 ⟨b_1, 0, none⟩ (.I x48a_0) fun w_7 => St w_7 ⟨b_1, 1, none⟩ (.I x48a_1) fun w_8 => St
  w_8 ⟨b_1, 2, none⟩ (.string x48a_2) fun w_9 => cond x48b ((∃ (x53_0 : Int), Cl w_9 b_1 0 (.I x53_0) ∧ (∃ (x53_1 : Int), Cl w_9 b_1 1 (.I x53_1) ∧
  (∃ (x53_2 : ByteArray), Cl w_9 b_1 2 (.string x53_2) ∧ (Calls Tryz.prog 65 #[.P q0, .agg #[.I x53_0, .I x53_1, .string x53_2]] w_9 fun e w_10
  => e = .returned (.tuple #[]) ∧ R RT0 w_10))))) (R RT0 w_9)))) (R RT0 w))))
theorem v_BWriteS0 (q0 : Nat) (q1 q2 : Int) (R : Rt) (w : World) :
  vc Tryz.prog ann_BWriteS0 (Tryz.f32.body.getD .skip) (retQ Tryz.prog Tryz.f32.results.toList R) (initFr [.P q0, .U q1, .int .u8 q2] Tryz.f32.ntmps) w = p_BWriteS0 q0 q1 q2 R w := by kernel_rfl
theorem c_BWriteS0 (q0 : Nat) (q1 q2 : Int) (R : Rt) (w : World) (h : p_BWriteS0 q0 q1 q2 R w) : Calls Tryz.prog 32 #[.P q0, .U q1, .int .u8 q2] w R :=
  calls_by ann_BWriteS0 Tryz.func32 rfl (v_BWriteS0 q0 q1 q2 R w) h
abbrev O_BWriteS0 := (Int × (List Int))
noncomputable def f_BWriteS0 (cq : Int) (cT : List Int) (cr q0_n cp q1 q2 : Int) : Option O_BWriteS0 :=
  (Let ((IntKind.wrap .i64 (bits .and .u32 q1 32767)) : Int) fun s6 => (cond (decide (0 ≤ s6) && decide (s6 < ((cT.length : Nat) : Int))) (cond (bytesIn [q2]) ((f_BNoteS0 cq (cT.set s6.toNat q2) cr q0_n cp 1 s6 (strOf [q2])).bind fun (hF : O_BNoteS0) => (some (hF, (cT.set s6.toNat q2)))) none) none))
def o_BWriteS0 (q0 : Nat) (cQ : Addr) (cP : Nat) (cq : Int) (cT : List Int) (cr q0_n cp q1 q2 : Int) (w0 : World) : O_BWriteS0 → Rt
  | (dA, f4), e, w => e = .returned (.tuple #[]) ∧ Now (Foot [B93_8 q0 cq (.slice (some cQ) cT.length cP) (.pointer none) (.pointer none) (.pointer none) cr q0_n cp, arr (elI .u8) (some cQ) cP cT]) w0 w [B93_8 q0 cq (.slice (some cQ) f4.length cP) (.pointer none) (.pointer none) (.pointer none) cr dA cp, arr (elI .u8) (some cQ) cP f4]
theorem t_BWriteS0 {q0 : Nat} {cQ : Addr} {cP : Nat} {cq : Int} {cT : List Int} {cr q0_n cp q1 q2 : Int} {w0 : World} {r : O_BWriteS0} (hf : f_BWriteS0 cq cT cr q0_n cp q1 q2 = some r) (hp : Hp w0 [B93_8 q0 cq (.slice (some cQ) cT.length cP) (.pointer none) (.pointer none) (.pointer none) cr q0_n cp, arr (elI .u8) (some cQ) cP cT]) : Calls Tryz.prog 32 #[.P q0, .U q1, .int .u8 q2] w0 (o_BWriteS0 q0 cQ cP cq cT cr q0_n cp q1 q2 w0 r) := by
  apply c_BWriteS0 q0 q1 q2
  unfold p_BWriteS0
  unfold f_BWriteS0 at hf
  let oo := o_BWriteS0 q0 cQ cP cq cT cr q0_n cp q1 q2 w0
  have n0 : Now (Foot [B93_8 q0 cq (.slice (some cQ) cT.length cP) (.pointer none) (.pointer none) (.pointer none) cr q0_n cp, arr (elI .u8) (some cQ) cP cT]) w0 w0 [B93_8 q0 cq (.slice (some cQ) cT.length cP) (.pointer none) (.pointer none) (.pointer none) cr q0_n cp, arr (elI .u8) (some cQ) cP cT] := Now.start hp
  exact (
  ⟨(some cQ), cT.length, cP, n0.cell 1 rfl, condT_true (LetF hf fun s6 h1 => ⟨(some cQ), cT.length, cP, n0.cell 1 rfl, NNix h1 (arr_reads (n0.front1).hp.1) rfl fun a27 a2 i3 i4 h5 => (n0.front1).arrSt0 a2 i3 i4 rfl (q2) (.int .u8 q2) rfl fun w_1 n7 => n7.Nw (cs := [.int .u8 q2]) fun b w_2 n8 => chkE h5 fun c9 h10 => ⟨strOf [q2], _, toStr (box_reads (E := elI .u8) (xs := [q2]) n8.hp.1 rfl) c9 rfl Tryz.underlying88 Tryz.underlying5 Tryz.underlying9, have n11 := (Now.same n8 (by first | rfl | (simp [len_part_eq, copyL_length]; done) | (simp [len_part_eq, copyL_length]; omega)) : Now _ _ _ [box b [.int .u8 q2] 5, arr (elI .u8) (some cQ) cP (cT.set s6.toNat q2), B93_8 q0 cq (.slice (some cQ) ((cT.set s6.toNat q2).length) cP) (.pointer none) (.pointer none) (.pointer none) cr q0_n cp]); have n13 := n11.front1.front2; bindF h10 (fun hF h14 h16 => (t_BNoteS0 h14 (n13.take [_, _])).mono fun _ w_4 ⟨e17, n18⟩ => ⟨e17, have n15 := n13.call [_, _] n18; have n21 := n15.front1.front1.takeN 2; leafX oo RT0 w_4 h16 ⟨rfl, n21⟩⟩)⟩⟩)⟩)
def ann_BWriteF0 : Ann := ⟨[], [], []⟩
def p_BWriteF0 (q0 : Nat) (q1 q2 : Int) (R : Rt) (w : World) : Prop :=
  (∃ (x16 : Pa) (x16n x16c : Nat), Cl w q0 1 (.slice x16 x16n x16c) ∧ cond (!x16.isNone) (Lt ((W6 (bits .and .u32 q1 32767)) : Int) fun s6 => (∃ (x24
  : Pa) (x24n x24c : Nat), Cl w q0 1 (.slice x24 x24n x24c) ∧ NN x24 fun a27 => chk (decide (0 ≤ s6) && decide (s6 < ((x24n : Nat) : Int))) (St w (a27.add (s6.toNat
  * 1)) (.int .u8 q2) fun w_1 => Nw w_1 (.cells #[.int .u8 q2] 5) fun b w_2 => (∃ (x32 : ByteArray), ∃ w_3, (Go.convert 88 9 (.slice (some ⟨b, 0, none⟩) 1 1)).run Tryz.prog w_2 = .ok (.string x32) w_3
  ∧ (Calls Tryz.prog 65 #[.P q0, .agg #[.I 1, .I s6, .string x32]] w_3 fun e w_4 => e = .returned (.tuple #[]) ∧ R RT0 w_4))))) ((∃ (x39 :
  Option Addr), Cl w q0 2 (.pointer x39) ∧ cond (!x39.isNone) ((∃ (x45 : Pa), Cl w q0 2 (.pointer x45) ∧ (Calls Tryz.prog 66 #[.pointer x45, .U q1, .int .u8 q2] w fun e w_5 => ∃ (x48a_0 x48a_1 : Int) (x48a_2 : ByteArray) (x48b : Bool), e = .returned (.tuple #[.agg #[.I x48a_0, .I x48a_1, .string x48a_2], .bool x48b]) ∧
  Nw w_5 (.cells #[.I 0, .I 0, .string (ByteArray.mk #[])] 59) fun b_1 w_6 => St w_6 ⟨b_1, 0, none⟩ (.I x48a_0) fun w_7 => St w_7 ⟨b_1, 1, none⟩ (.I x48a_1) fun w_8 => St
  w_8 ⟨b_1, 2, none⟩ (.string x48a_2) fun w_9 => cond x48b ((∃ (x53_0 : Int), Cl w_9 b_1 0 (.I x53_0) ∧ (∃ (x53_1 : Int), Cl w_9 b_1 1 (.I x53_1) ∧
  (∃ (x53_2 : ByteArray), Cl w_9 b_1 2 (.string x53_2) ∧ (Calls Tryz.prog 65 #[.P q0, .agg #[.I x53_0, .I x53_1, .string x53_2]] w_9 fun e w_10
  => e = .returned (.tuple #[]) ∧ R RT0 w_10))))) (R RT0 w_9)))) (R RT0 w))))
theorem v_BWriteF0 (q0 : Nat) (q1 q2 : Int) (R : Rt) (w : World) :
  vc Tryz.prog ann_BWriteF0 (Tryz.f32.body.getD .skip) (retQ Tryz.prog Tryz.f32.results.toList R) (initFr [.P q0, .U q1, .int .u8 q2] Tryz.f32.ntmps) w = p_BWriteF0 q0 q1 q2 R w := by kernel_rfl
theorem c_BWriteF0 (q0 : Nat) (q1 q2 : Int) (R : Rt) (w : World) (h : p_BWriteF0 q0 q1 q2 R w) : Calls Tryz.prog 32 #[.P q0, .U q1, .int .u8 q2] w R :=
  calls_by ann_BWriteF0 Tryz.func32 rfl (v_BWriteF0 q0 q1 q2 R w) h
abbrev O_BWriteF0 := (Int × ByteArray × Int × Bool × Int)
noncomputable def f_BWriteF0 (cq cr q0_n cp : Int) (cN : ByteArray) (cD : Int) (cR : Bool) (cG q1 q2 : Int) : Option O_BWriteF0 :=
  ((f_FWrite cN cD cR cG q1 q2).bind fun (o : O_FWrite) => (match o with | (x48a_0, x48a_1, x48a_2, x48b, dD, dE, dF, dh) => (cond x48b ((f_BNoteF0 cq cr q0_n cp dD dE dF dh x48a_0 x48a_1 x48a_2).bind fun (f3 : O_BNoteF0) => (some (f3, dD, dE, dF, dh))) (some (q0_n, dD, dE, dF, dh)))))
def o_BWriteF0 (q0 cS : Nat) (cq cr q0_n cp : Int) (cN : ByteArray) (cD : Int) (cR : Bool) (cG q1 q2 : Int) (w0 : World) : O_BWriteF0 → Rt
  | (dA, r_q0_flash_b_0, r_q0_flash_b_1, r_q0_flash_b_2, r_q0_flash_b_3), e, w => e = .returned (.tuple #[]) ∧ Now (Foot [B93_8 q0 cq (.slice none 0 0) (.P cS) (.pointer none) (.pointer none) cr q0_n cp, box cS [.string cN, .I cD, .bool cR, .I cG] 136]) w0 w [B93_8 q0 cq (.slice none 0 0) (.P cS) (.pointer none) (.pointer none) cr dA cp, box cS [.string r_q0_flash_b_0, .I r_q0_flash_b_1, .bool r_q0_flash_b_2, .I r_q0_flash_b_3] 136]
theorem t_BWriteF0 {q0 cS : Nat} {cq cr q0_n cp : Int} {cN : ByteArray} {cD : Int} {cR : Bool} {cG q1 q2 : Int} {w0 : World} {r : O_BWriteF0} (hf : f_BWriteF0 cq cr q0_n cp cN cD cR cG q1 q2 = some r) (hp : Hp w0 [B93_8 q0 cq (.slice none 0 0) (.P cS) (.pointer none) (.pointer none) cr q0_n cp, box cS [.string cN, .I cD, .bool cR, .I cG] 136]) : Calls Tryz.prog 32 #[.P q0, .U q1, .int .u8 q2] w0 (o_BWriteF0 q0 cS cq cr q0_n cp cN cD cR cG q1 q2 w0 r) := by
  apply c_BWriteF0 q0 q1 q2
  unfold p_BWriteF0
  unfold f_BWriteF0 at hf
  let oo := o_BWriteF0 q0 cS cq cr q0_n cp cN cD cR cG q1 q2 w0
  have n0 : Now (Foot [B93_8 q0 cq (.slice none 0 0) (.P cS) (.pointer none) (.pointer none) cr q0_n cp, box cS [.string cN, .I cD, .bool cR, .I cG] 136]) w0 w0 [B93_8 q0 cq (.slice none 0 0) (.P cS) (.pointer none) (.pointer none) cr q0_n cp, box cS [.string cN, .I cD, .bool cR, .I cG] 136] := Now.start hp
  exact (
  ⟨none, 0, 0, n0.cell 1 rfl, condT_false (⟨(some ⟨cS, 0, none⟩), n0.cell 2 rfl, condT_true (⟨(some ⟨cS, 0, none⟩), n0.cell 2 rfl, have n1 := n0.front1; bindF hf (fun o => match o with | (x48a_0, x48a_1, x48a_2, x48b, dD, dE, dF, dh) => fun h2 h4 => (t_FWrite h2 (n1.take [_])).mono fun _ w_5 ⟨e5, n6⟩ => ⟨x48a_0, x48a_1, x48a_2, x48b, e5, have n3 := n1.call [_] n6; n3.Nw (cs := [.I 0, .I 0, .string (ByteArray.mk #[])]) fun b_1 w_6 n7 => n7.St (by rfl) fun w_7 n8 => n8.St (by rfl) fun w_8 n9 => n9.St (by rfl) fun w_9 n10 => condF h4 (fun c11 h12 => ⟨x48a_0, n10.cell 0 rfl, ⟨x48a_1, n10.cell 1 rfl, ⟨x48a_2, n10.cell 2 rfl, have n14 := n10.front1.front2; bindF h12 (fun f3 h15 h17 => (t_BNoteF0 h15 (n14.take [_, _])).mono fun _ w_10 ⟨e18, n19⟩ => ⟨e18, have n16 := n14.call [_, _] n19; have n22 := n16.front1.front1.takeN 2; leafX oo RT0 w_10 h17 ⟨rfl, n22⟩⟩)⟩⟩⟩) (fun c11 h23 => have n26 := n10.front1.front2.takeN 2; leafX oo RT0 w_9 h23 ⟨rfl, n26⟩)⟩)⟩)⟩)⟩)
end Go.Proofs.YtcgigdfahlmfaaaGreatDoor
