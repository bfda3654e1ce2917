import Derived.Test.YtdjgicimfeocbaaGreatChecked
import Derived.Test.YtdjgicimfeocbaaGreatVc
import Derived.Test.YtdjgicimfeocbaaGreatRo
import Derived.Test.YtdjgicimfeocbaaGreatSeg
namespace Go.Proofs.YtdjgicimfeocbaaGreat
open Go.Vc
set_option linter.unusedVariables false
set_option linter.unusedSimpArgs false

structure E51 where
  At : Int
  Owner : Int
  Addr : Int
  Width : Int
  Write : Bool
  Data : Int
  Class : Int
  deriving Inhabited
def el51 : El E51 := ⟨7, by decide, fun x => [.I x.At, .I x.Owner, .U x.Addr, .I x.Width, .bool x.Write, .U x.Data, .I x.Class], fun _ => rfl, fun _ v h => by simp at h; rcases h with rfl | rfl | rfl | rfl | rfl | rfl | rfl <;> rfl⟩
theorem bod_40 : bodied Tryz.prog 40 = true := by kernel_rfl
theorem bod_41 : bodied Tryz.prog 41 = true := by kernel_rfl
theorem bod_42 : bodied Tryz.prog 42 = true := by kernel_rfl
theorem bod_43 : bodied Tryz.prog 43 = true := by kernel_rfl
theorem bod_44 : bodied Tryz.prog 44 = true := by kernel_rfl
theorem bod_45 : bodied Tryz.prog 45 = true := by kernel_rfl
theorem bod_46 : bodied Tryz.prog 46 = true := by kernel_rfl
theorem bod_47 : bodied Tryz.prog 47 = true := by kernel_rfl
theorem bod_48 : bodied Tryz.prog 48 = true := by kernel_rfl
theorem bod_49 : bodied Tryz.prog 49 = true := by kernel_rfl
theorem bod_50 : bodied Tryz.prog 50 = true := by kernel_rfl
theorem bod_51 : bodied Tryz.prog 51 = true := by kernel_rfl
theorem bod_52 : bodied Tryz.prog 52 = true := by kernel_rfl
theorem bod_53 : bodied Tryz.prog 53 = true := by kernel_rfl
theorem bod_98 : bodied Tryz.prog 98 = true := by kernel_rfl
theorem bod_100 : bodied Tryz.prog 100 = true := by kernel_rfl
theorem bod_102 : bodied Tryz.prog 102 = true := by kernel_rfl
theorem bod_103 : bodied Tryz.prog 103 = true := by kernel_rfl
theorem bod_142 : bodied Tryz.prog 142 = true := by kernel_rfl
def zl_97_4098 : List Value := zrun [(1, .string (ByteArray.mk #[])), (2, .slice none 0 0)]
def zl_97_5125 : List Value := zrun [(13, .int .u16 0), (8, .int .i16 0), (4, .int .i32 0), (1, .int .u16 0), (3, .slice none 0 0), (9, .int .u16 0), (4, .int .i32 0), (7, .I 0), (1, .F), (1, .U 0), (2, .I 0)]
def zl_97_5179 : List Value := zrun [(2, .pointer none), (1, .I 0), (1, .int .u16 0), (3, .I 0), (1, .int .u16 0), (3, .I 0), (1, .int .u16 0), (3, .I 0), (1, .int .u16 0), (3, .I 0), (2, .U 0), (1, .I 0), (1, .int .u16 0), (2, .U 0), (1, .I 0), (2, .F), (3, .U 0), (1, .I 0), (1, .int .u16 0), (2, .U 0), (1, .I 0), (2, .F), (3, .U 0), (1, .I 0), (1, .int .u16 0), (2, .U 0), (1, .I 0), (2, .F), (3, .U 0), (1, .I 0), (1, .int .u16 0), (2, .U 0), (1, .I 0), (2, .F), (1, .U 0), (2, .pointer none), (1, .U 0)]
def zl_97_5242 : List Value := zrun [(1, .I 0), (1, .F), (1, .int .u16 0), (2, .slice none 0 0)]
set_option maxRecDepth 1000000 in
theorem bld_49_0 (w : World) : (Instr.build 49 #[]).run Tryz.prog w = .ok (aggS [.r .u8 4096 (fun _ => 0), .c (.slice none 0 0)]) w := by kernel_rfl
set_option maxRecDepth 1000000 in
theorem bld_97_1 (w : World) : (Instr.build 97 #[(0, .bool true)]).run Tryz.prog w = .ok (aggS [.c (.bool true), .r .u8 4096 (fun _ => 0), .c (.slice none 0 0), .o 3 (litV zl_97_4098), .r .u8 1024 (fun _ => 0), .o 53 (litV zl_97_5125), .c (.I 0), .o 62 (litV zl_97_5179), .c (.I 0), .o 5 (litV zl_97_5242)]) w := by kernel_rfl
theorem big_46 : BigA Tryz.prog 46 .u8 4096 := ⟨⟨_, Tryz.underlying46, Tryz.underlying5, by kernel_rfl⟩, by kernel_rfl, by kernel_rfl⟩
theorem ixa_24 : IxA Tryz.prog 24 .u32 16 := ⟨⟨_, Tryz.underlying24, Tryz.underlying23, by kernel_rfl⟩⟩
theorem mid_115 : MidA Tryz.prog 115 24 := ⟨⟨_, Tryz.underlying115, rfl⟩, by kernel_rfl⟩
theorem mid_43 : MidA Tryz.prog 43 14 := ⟨⟨_, Tryz.underlying43, rfl⟩, by kernel_rfl⟩
theorem mid_24 : MidA Tryz.prog 24 16 := ⟨⟨_, Tryz.underlying24, rfl⟩, by kernel_rfl⟩
theorem mid_27 : MidA Tryz.prog 27 22 := ⟨⟨_, Tryz.underlying27, rfl⟩, by kernel_rfl⟩
/-! cameo/bank.slot -/
abbrev n_slot : FuncId := 38
def ann_slot : Ann := ⟨[], [], []⟩
set_option maxRecDepth 100000 in
def p_slot (q0 : Int) (R : Ending → World → Prop) (w : World) : Prop :=
  cond ((bits .and .u32 q0 31) == 17) (R (.returned (.I 1)) w) (cond ((bits .and .u32 q0 31) == 18) (R (.returned (.I 2)) w) (cond ((bits .and .u32 q0 31) == 19) (R (.returned (.I 3)) w) (cond ((bits .and .u32 q0 31) == 23) (R (.returned (.I 4)) w) (cond ((bits .and .u32 q0 31) == 27) (R (.returned (.I 5)) w) (R (.returned (.I 0)) w)))))
set_option maxRecDepth 100000 in
theorem v_slot (q0 : Int) (R : Ending → World → Prop) (w : World) :
  vc Tryz.prog ann_slot (Tryz.f38.body.getD .skip) (retQ Tryz.prog Tryz.f38.results.toList R) (initFr [.U q0] Tryz.f38.ntmps) w = p_slot q0 R w := by kernel_rfl
theorem c_slot (q0 : Int) (R : Ending → World → Prop) (w : World) (h : p_slot q0 R w) : Calls Tryz.prog 38 #[.U q0] w R :=
  calls_by (P := Tryz.prog) (f := 38) (fn := Tryz.f38) (c := Tryz.f38.body.getD .skip) (args := [.U q0]) (w := w) (R := R) (p := p_slot q0 R w) ann_slot Tryz.func38 rfl (v_slot q0 R w) h
abbrev O_slot := Int
set_option maxRecDepth 100000 in
noncomputable def f_slot (q0 : Int) : Option O_slot :=
  (cond ((bits .and .u32 q0 31) == 17) (some 1) (cond ((bits .and .u32 q0 31) == 18) (some 2) (cond ((bits .and .u32 q0 31) == 19) (some 3) (cond ((bits .and .u32 q0 31) == 23) (some 4) (cond ((bits .and .u32 q0 31) == 27) (some 5) (some 0))))))
def o_slot (q0 : Int) (w0 : World) : O_slot → Ending → World → Prop
  | r0, e, w => e = .returned (.I r0) ∧ Dr w0 w
set_option maxRecDepth 100000 in
set_option maxHeartbeats 4000000 in
theorem tq_slot {q0 : Int} {r : O_slot} (hf : f_slot q0 = some r) (w0 : World) : Calls Tryz.prog 38 #[.U q0] w0 (o_slot q0 w0 r) := by
  apply c_slot
  unfold p_slot
  unfold f_slot at hf
  have n0 : Dr w0 w0 := Dr.refl _
  exact (
  condF hf (fun c1 h2 => leafF (α := O_slot) (x := 1) (G := fun r => o_slot _ w0 r (.returned (.I 1)) w0) h2 ⟨rfl, n0⟩) (fun c1 h3 => condF h3 (fun c4 h5 => leafF (α := O_slot) (x := 2) (G := fun r => o_slot _ w0 r (.returned (.I 2)) w0) h5 ⟨rfl, n0⟩) (fun c4 h6 => condF h6 (fun c7 h8 => leafF (α := O_slot) (x := 3) (G := fun r => o_slot _ w0 r (.returned (.I 3)) w0) h8 ⟨rfl, n0⟩) (fun c7 h9 => condF h9 (fun c10 h11 => leafF (α := O_slot) (x := 4) (G := fun r => o_slot _ w0 r (.returned (.I 4)) w0) h11 ⟨rfl, n0⟩) (fun c10 h12 => condF h12 (fun c13 h14 => leafF (α := O_slot) (x := 5) (G := fun r => o_slot _ w0 r (.returned (.I 5)) w0) h14 ⟨rfl, n0⟩) (fun c13 h15 => leafF (α := O_slot) (x := 0) (G := fun r => o_slot _ w0 r (.returned (.I 0)) w0) h15 ⟨rfl, n0⟩))))))

/-! (*cameo/bank.Bank).Get -/
abbrev n_Get : FuncId := 13
def ann_Get : Ann := ⟨[], [], []⟩
set_option maxRecDepth 100000 in
def p_Get (q0 : Nat) (q1 : Int) (R : Ending → World → Prop) (w : World) : Prop :=
  chk (decide (0 ≤ (bits .and .i64 q1 15)) && decide ((bits .and .i64 q1 15) < ((16 : Nat) : Int))) (Lt (((⟨q0, 0, none⟩ : Addr).add ((bits .and .i64 q1 15).toNat * 1)) : Addr) fun a12 => (∃ (x13 :
  Int), w.cell? a12 = some (.U x13) ∧ R (.returned (.U x13)) w))
set_option maxRecDepth 100000 in
theorem v_Get (q0 : Nat) (q1 : Int) (R : Ending → World → Prop) (w : World) :
  vc Tryz.prog ann_Get (Tryz.f13.body.getD .skip) (retQ Tryz.prog Tryz.f13.results.toList R) (initFr [.P q0, .I q1] Tryz.f13.ntmps) w = p_Get q0 q1 R w := by kernel_rfl
theorem c_Get (q0 : Nat) (q1 : Int) (R : Ending → World → Prop) (w : World) (h : p_Get q0 q1 R w) : Calls Tryz.prog 13 #[.P q0, .I q1] w R :=
  calls_by (P := Tryz.prog) (f := 13) (fn := Tryz.f13) (c := Tryz.f13.body.getD .skip) (args := [.P q0, .I q1]) (w := w) (R := R) (p := p_Get q0 q1 R w) ann_Get Tryz.func13 rfl (v_Get q0 q1 R w) h
abbrev O_Get := Int
set_option maxRecDepth 100000 in
noncomputable def f_Get (q0_r q0_other q0_high q0_saved : Nat → Int) (q0_cpsr q1 : Int) : Option O_Get :=
  (cond ((decide (0 ≤ (bits .and .i64 q1 15)) && decide ((bits .and .i64 q1 15) < ((16 : Nat) : Int)))) (some (q0_r ((bits .and .i64 q1 15).toNat))) none)
def o_Get (q0 : Nat) (q0_r q0_other q0_high q0_saved : Nat → Int) (q0_cpsr q1 : Int) (w0 : World) : O_Get → Ending → World → Prop
  | r0, e, w => e = .returned (.U r0) ∧ Now (Foot [sbox q0 [.r .u32 16 q0_r, .r .u32 12 q0_other, .r .u32 10 q0_high, .r .u32 6 q0_saved, .c (.U q0_cpsr)] 111]) w0 w [sbox q0 [.r .u32 16 q0_r, .r .u32 12 q0_other, .r .u32 10 q0_high, .r .u32 6 q0_saved, .c (.U q0_cpsr)] 111]
set_option maxRecDepth 100000 in
set_option maxHeartbeats 4000000 in
theorem t_Get {q0 : Nat} {q0_r q0_other q0_high q0_saved : Nat → Int} {q0_cpsr q1 : Int} {w0 : World} {r : O_Get} (hf : f_Get q0_r q0_other q0_high q0_saved q0_cpsr q1 = some r) (hp : Hp w0 [sbox q0 [.r .u32 16 q0_r, .r .u32 12 q0_other, .r .u32 10 q0_high, .r .u32 6 q0_saved, .c (.U q0_cpsr)] 111]) : Calls Tryz.prog 13 #[.P q0, .I q1] w0 (o_Get q0 q0_r q0_other q0_high q0_saved q0_cpsr q1 w0 r) := by
  apply c_Get q0 q1
  unfold p_Get
  unfold f_Get at hf
  have n0 : Now (Foot [sbox q0 [.r .u32 16 q0_r, .r .u32 12 q0_other, .r .u32 10 q0_high, .r .u32 6 q0_saved, .c (.U q0_cpsr)] 111]) w0 w0 [sbox q0 [.r .u32 16 q0_r, .r .u32 12 q0_other, .r .u32 10 q0_high, .r .u32 6 q0_saved, .c (.U q0_cpsr)] 111] := Now.start hp
  exact (
  chkF hf fun c1 h2 => LtI (⟨(q0_r ((bits .and .i64 q1 15).toNat)), Now.sR n0 0 rfl rfl (o := 0) (i := (bits .and .i64 q1 15).toNat) (segB1 c1 rfl) segA1i, leafF (α := O_Get) (x := (q0_r ((bits .and .i64 q1 15).toNat))) (G := fun r => o_Get _ _ _ _ _ _ _ w0 r (.returned (.U (q0_r ((bits .and .i64 q1 15).toNat)))) w0) h2 ⟨rfl, n0⟩⟩))

/-! (*cameo/bank.Bank).Set -/
abbrev n_Set : FuncId := 25
def ann_Set : Ann := ⟨[], [], []⟩
set_option maxRecDepth 100000 in
def p_Set (q0 : Nat) (q1 q2 : Int) (R : Ending → World → Prop) (w : World) : Prop :=
  chk (decide (0 ≤ (bits .and .i64 q1 15)) && decide ((bits .and .i64 q1 15) < ((16 : Nat) : Int))) (Lt (((⟨q0, 0, none⟩ : Addr).add ((bits .and .i64 q1 15).toNat * 1)) : Addr) fun a14 => St w a14
  (.U q2) fun w_1 => R (.returned (.tuple #[])) w_1)
set_option maxRecDepth 100000 in
theorem v_Set (q0 : Nat) (q1 q2 : Int) (R : Ending → World → Prop) (w : World) :
  vc Tryz.prog ann_Set (Tryz.f25.body.getD .skip) (retQ Tryz.prog Tryz.f25.results.toList R) (initFr [.P q0, .I q1, .U q2] Tryz.f25.ntmps) w = p_Set q0 q1 q2 R w := by kernel_rfl
theorem c_Set (q0 : Nat) (q1 q2 : Int) (R : Ending → World → Prop) (w : World) (h : p_Set q0 q1 q2 R w) : Calls Tryz.prog 25 #[.P q0, .I q1, .U q2] w R :=
  calls_by (P := Tryz.prog) (f := 25) (fn := Tryz.f25) (c := Tryz.f25.body.getD .skip) (args := [.P q0, .I q1, .U q2]) (w := w) (R := R) (p := p_Set q0 q1 q2 R w) ann_Set Tryz.func25 rfl (v_Set q0 q1 q2 R w) h
abbrev O_Set := (Nat → Int)
set_option maxRecDepth 100000 in
noncomputable def f_Set (q0_r q0_other q0_high q0_saved : Nat → Int) (q0_cpsr q1 q2 : Int) : Option O_Set :=
  (cond ((decide (0 ≤ (bits .and .i64 q1 15)) && decide ((bits .and .i64 q1 15) < ((16 : Nat) : Int)))) (some (rup q0_r ((bits .and .i64 q1 15).toNat) q2)) none)
def o_Set (q0 : Nat) (q0_r q0_other q0_high q0_saved : Nat → Int) (q0_cpsr q1 q2 : Int) (w0 : World) : O_Set → Ending → World → Prop
  | r_q0_0, e, w => e = .returned (.tuple #[]) ∧ Now (Foot [sbox q0 [.r .u32 16 q0_r, .r .u32 12 q0_other, .r .u32 10 q0_high, .r .u32 6 q0_saved, .c (.U q0_cpsr)] 111]) w0 w [sbox q0 [.r .u32 16 r_q0_0, .r .u32 12 q0_other, .r .u32 10 q0_high, .r .u32 6 q0_saved, .c (.U q0_cpsr)] 111]
set_option maxRecDepth 100000 in
set_option maxHeartbeats 4000000 in
theorem t_Set {q0 : Nat} {q0_r q0_other q0_high q0_saved : Nat → Int} {q0_cpsr q1 q2 : Int} {w0 : World} {r : O_Set} (hf : f_Set q0_r q0_other q0_high q0_saved q0_cpsr q1 q2 = some r) (hp : Hp w0 [sbox q0 [.r .u32 16 q0_r, .r .u32 12 q0_other, .r .u32 10 q0_high, .r .u32 6 q0_saved, .c (.U q0_cpsr)] 111]) : Calls Tryz.prog 25 #[.P q0, .I q1, .U q2] w0 (o_Set q0 q0_r q0_other q0_high q0_saved q0_cpsr q1 q2 w0 r) := by
  apply c_Set q0 q1 q2
  unfold p_Set
  unfold f_Set at hf
  have n0 : Now (Foot [sbox q0 [.r .u32 16 q0_r, .r .u32 12 q0_other, .r .u32 10 q0_high, .r .u32 6 q0_saved, .c (.U q0_cpsr)] 111]) w0 w0 [sbox q0 [.r .u32 16 q0_r, .r .u32 12 q0_other, .r .u32 10 q0_high, .r .u32 6 q0_saved, .c (.U q0_cpsr)] 111] := Now.start hp
  exact (
  chkF hf fun c1 h2 => LtI (Now.sStR n0 0 rfl rfl (o := 0) (i := (bits .and .i64 q1 15).toNat) (segB1 c1 rfl) segA1i fun w_1 n3 => leafF (α := O_Set) (x := (rup q0_r ((bits .and .i64 q1 15).toNat) q2)) (G := fun r => o_Set _ _ _ _ _ _ _ _ w0 r (.returned (.tuple #[])) w_1) h2 ⟨rfl, n3⟩))

/-! (*cameo/bank.Bank).Status -/
abbrev n_Status : FuncId := 17
def ann_Status : Ann := ⟨[], [], []⟩
set_option maxRecDepth 100000 in
def p_Status (q0 : Nat) (R : Ending → World → Prop) (w : World) : Prop :=
  (∃ (x8 : Int), w.cell? ⟨q0, 44, none⟩ = some (.U x8) ∧ R (.returned (.U x8)) w)
set_option maxRecDepth 100000 in
theorem v_Status (q0 : Nat) (R : Ending → World → Prop) (w : World) :
  vc Tryz.prog ann_Status (Tryz.f17.body.getD .skip) (retQ Tryz.prog Tryz.f17.results.toList R) (initFr [.P q0] Tryz.f17.ntmps) w = p_Status q0 R w := by kernel_rfl
theorem c_Status (q0 : Nat) (R : Ending → World → Prop) (w : World) (h : p_Status q0 R w) : Calls Tryz.prog 17 #[.P q0] w R :=
  calls_by (P := Tryz.prog) (f := 17) (fn := Tryz.f17) (c := Tryz.f17.body.getD .skip) (args := [.P q0]) (w := w) (R := R) (p := p_Status q0 R w) ann_Status Tryz.func17 rfl (v_Status q0 R w) h
abbrev O_Status := Int
set_option maxRecDepth 100000 in
noncomputable def f_Status (q0_r q0_other q0_high q0_saved : Nat → Int) (q0_cpsr : Int) : Option O_Status :=
  (some q0_cpsr)
def o_Status (q0 : Nat) (q0_r q0_other q0_high q0_saved : Nat → Int) (q0_cpsr : Int) (w0 : World) : O_Status → Ending → World → Prop
  | r0, e, w => e = .returned (.U r0) ∧ Now (Foot [sbox q0 [.r .u32 16 q0_r, .r .u32 12 q0_other, .r .u32 10 q0_high, .r .u32 6 q0_saved, .c (.U q0_cpsr)] 111]) w0 w [sbox q0 [.r .u32 16 q0_r, .r .u32 12 q0_other, .r .u32 10 q0_high, .r .u32 6 q0_saved, .c (.U q0_cpsr)] 111]
set_option maxRecDepth 100000 in
set_option maxHeartbeats 4000000 in
theorem t_Status {q0 : Nat} {q0_r q0_other q0_high q0_saved : Nat → Int} {q0_cpsr : Int} {w0 : World} {r : O_Status} (hf : f_Status q0_r q0_other q0_high q0_saved q0_cpsr = some r) (hp : Hp w0 [sbox q0 [.r .u32 16 q0_r, .r .u32 12 q0_other, .r .u32 10 q0_high, .r .u32 6 q0_saved, .c (.U q0_cpsr)] 111]) : Calls Tryz.prog 17 #[.P q0] w0 (o_Status q0 q0_r q0_other q0_high q0_saved q0_cpsr w0 r) := by
  apply c_Status q0
  unfold p_Status
  unfold f_Status at hf
  have n0 : Now (Foot [sbox q0 [.r .u32 16 q0_r, .r .u32 12 q0_other, .r .u32 10 q0_high, .r .u32 6 q0_saved, .c (.U q0_cpsr)] 111]) w0 w0 [sbox q0 [.r .u32 16 q0_r, .r .u32 12 q0_other, .r .u32 10 q0_high, .r .u32 6 q0_saved, .c (.U q0_cpsr)] 111] := Now.start hp
  exact (
  ⟨q0_cpsr, Now.sC n0 4 rfl rfl, leafF (α := O_Status) (x := q0_cpsr) (G := fun r => o_Status _ _ _ _ _ _ w0 r (.returned (.U q0_cpsr)) w0) hf ⟨rfl, n0⟩⟩)

/-! (*cameo/bank.Bank).SetStatus -/
abbrev n_SetStatus : FuncId := 20
def ann_SetStatus : Ann := ⟨[(4, .tail 16), (5, .phased [19, 23]), (10, .tail 10), (11, .tail 10)], [], []⟩
set_option maxRecDepth 100000 in
def p_SetStatus (q0 : Nat) (q1 : Int) (R : Ending → World → Prop) (w : World) : Prop :=
  (∃ (x13 : Int), w.cell? ⟨q0, 44, none⟩ = some (.U x13) ∧ (Calls Tryz.prog 38 #[.U x13] w fun e w_1 => ∃ (x14 : Int), e = .returned (.I x14) ∧ (Calls Tryz.prog 38 #[.U q1]
  w_1 fun e w_2 => ∃ (x16 : Int), e = .returned (.I x16) ∧ St w_2 ⟨q0, 44, none⟩ (.U q1) fun w_3 => cond (x14 == x16) (R (.returned (.tuple #[])) w_3) (chk (decide (0 ≤ (13 : Int)) &&
  decide ((13 : Int) < ((16 : Nat) : Int))) ((∃ (x30 : Int), (w_3.drewN 1).cell? ⟨q0, 13, none⟩ = some (.U x30) ∧ chk (decide (0 ≤ (14 : Int)) && decide ((14 : Int) < ((16 : Nat) : Int))) ((∃
  (x35 : Int), (w_3.drewN 1).cell? ⟨q0, 14, none⟩ = some (.U x35) ∧ chk (decide (0 ≤ x14) && decide (x14 < ((6 : Nat) : Int))) (Lt (((⟨q0, 16, none⟩ : Addr).add (x14.toNat * 2)) : Addr) fun a39
  => St (w_3.drewN 1) a39 (.U x30) fun w_4 => St w_4 (a39.add 1) (.U x35) fun w_5 => (∃ S : World → Prop, S (w_5.drewN 1) ∧ chk (decide (0 ≤ x16) && decide (x16 < ((6 : Nat) : Int))) (Lt
  (((⟨q0, 16, none⟩ : Addr).add (x16.toNat * 2)) : Addr) fun a46 => chk (decide (0 ≤ (0 : Int)) && decide ((0 : Int) < ((2 : Nat) : Int))) ((∃ (x48 : Int), (∀ w, S w → w.cell? a46 = some (.U x48)) ∧ chk (decide (0 ≤ x16) && decide (x16 < ((6 : Nat) : Int))) (Lt (((⟨q0, 16, none⟩ : Addr).add (x16.toNat * 2)) : Addr) fun a53 => chk (decide (0 ≤ (1 : Int)) && decide ((1 : Int) < ((2 : Nat)
  : Int))) ((∃ (x55 : Int), (∀ w, S w → w.cell? (a53.add 1) = some (.U x55)) ∧ chk (decide (0 ≤ (13 : Int)) && decide ((13 : Int) < ((16 : Nat) : Int))) (St (w_5.drewN 1) ⟨q0, 13, none⟩ (.U x48) fun w_6 => chk (decide (0 ≤ (14 : Int)) && decide ((14 : Int) < ((16 : Nat) : Int))) (St w_6 ⟨q0, 14, none⟩ (.U x55) fun w_7 => cond (!((x14 == 1) == (x16 == 1))) (cond (x14 == 1)
  (chk (decide (0 ≤ (0 : Int)) && decide ((0 : Int) < ((2 : Nat) : Int))) (chk (decide (0 ≤ ((5 : Nat) : Int)) && decide (((5 : Nat) : Int) ≤ ((5 : Nat) : Int))) (chk (decide (0 ≤ (0 : Int)) && decide
  ((0 : Int) ≤ ((5 : Nat) : Int))) (chk (decide (0 ≤ (13 : Int)) && decide ((13 : Int) ≤ ((16 : Nat) : Int))) (chk (decide (0 ≤ (8 : Int)) && decide ((8 : Int) ≤ (13 : Int))) ((∃ (x79 : Int), ∃ w_8,
  (Builtin.copy_ #[22, 22] 3 #[.slice (some (if 5 = 0 then (⟨q0, 28, none⟩ : Addr) else (⟨q0, 28, none⟩ : Addr).add (0 * 1))) (5 - 0) (5 - 0), .slice (some (if 16 = 8 then (⟨q0, 0, none⟩ : Addr) else
  (⟨q0, 0, none⟩ : Addr).add (8 * 1))) (13 - 8) (16 - 8)]).run Tryz.prog (w_7.drewN 1) = .ok (.I x79) w_8 ∧ chk (decide (0 ≤ (13 : Int)) && decide ((13 : Int) ≤ ((16 : Nat) : Int))) (chk
  (decide (0 ≤ (8 : Int)) && decide ((8 : Int) ≤ (13 : Int))) (chk (decide (0 ≤ (1 : Int)) && decide ((1 : Int) < ((2 : Nat) : Int))) (chk (decide (0 ≤ ((5 : Nat) : Int)) && decide (((5 : Nat) : Int)
  ≤ ((5 : Nat) : Int))) (chk (decide (0 ≤ (0 : Int)) && decide ((0 : Int) ≤ ((5 : Nat) : Int))) ((∃ (x90 : Int), ∃ w_9, (Builtin.copy_ #[22, 22] 3 #[.slice (some (if 16 = 8 then (⟨q0, 0, none⟩ : Addr)
  else (⟨q0, 0, none⟩ : Addr).add (8 * 1))) (13 - 8) (16 - 8), .slice (some (if 5 = 0 then (⟨q0, 33, none⟩ : Addr) else (⟨q0, 33, none⟩ : Addr).add (0 * 1))) (5 - 0) (5 - 0)]).run Tryz.prog (w_8.drewN
  1) = .ok (.I x90) w_9 ∧ R (.returned (.tuple #[])) w_9))))))))))))) (chk (decide (0 ≤ (1 : Int)) && decide ((1 : Int) < ((2 : Nat) : Int))) (chk (decide (0 ≤ ((5 : Nat) : Int)) && decide (((5
  : Nat) : Int) ≤ ((5 : Nat) : Int))) (chk (decide (0 ≤ (0 : Int)) && decide ((0 : Int) ≤ ((5 : Nat) : Int))) (chk (decide (0 ≤ (13 : Int)) && decide ((13 : Int) ≤ ((16 : Nat) : Int))) (chk (decide (0
  ≤ (8 : Int)) && decide ((8 : Int) ≤ (13 : Int))) ((∃ (x79_1 : Int), ∃ w_10, (Builtin.copy_ #[22, 22] 3 #[.slice (some (if 5 = 0 then (⟨q0, 33, none⟩ : Addr) else (⟨q0, 33, none⟩ : Addr).add (0 *
  1))) (5 - 0) (5 - 0), .slice (some (if 16 = 8 then (⟨q0, 0, none⟩ : Addr) else (⟨q0, 0, none⟩ : Addr).add (8 * 1))) (13 - 8) (16 - 8)]).run Tryz.prog (w_7.drewN 1) = .ok (.I x79_1) w_10 ∧ chk
  (decide (0 ≤ (13 : Int)) && decide ((13 : Int) ≤ ((16 : Nat) : Int))) (chk (decide (0 ≤ (8 : Int)) && decide ((8 : Int) ≤ (13 : Int))) (chk (decide (0 ≤ (0 : Int)) && decide ((0 : Int) < ((2 : Nat)
  : Int))) (chk (decide (0 ≤ ((5 : Nat) : Int)) && decide (((5 : Nat) : Int) ≤ ((5 : Nat) : Int))) (chk (decide (0 ≤ (0 : Int)) && decide ((0 : Int) ≤ ((5 : Nat) : Int))) ((∃ (x90_1 : Int), ∃ w_11,
  (Builtin.copy_ #[22, 22] 3 #[.slice (some (if 16 = 8 then (⟨q0, 0, none⟩ : Addr) else (⟨q0, 0, none⟩ : Addr).add (8 * 1))) (13 - 8) (16 - 8), .slice (some (if 5 = 0 then (⟨q0, 28, none⟩ : Addr) else
  (⟨q0, 28, none⟩ : Addr).add (0 * 1))) (5 - 0) (5 - 0)]).run Tryz.prog (w_10.drewN 1) = .ok (.I x90_1) w_11 ∧ R (.returned (.tuple #[])) w_11)))))))))))))) (R (.returned (.tuple #[]))
  w_7)))))))))))))))))))
set_option maxRecDepth 100000 in
theorem v_SetStatus (q0 : Nat) (q1 : Int) (R : Ending → World → Prop) (w : World) :
  vc Tryz.prog ann_SetStatus (Tryz.f20.body.getD .skip) (retQ Tryz.prog Tryz.f20.results.toList R) (initFr [.P q0, .U q1] Tryz.f20.ntmps) w = p_SetStatus q0 q1 R w := by kernel_rfl
theorem c_SetStatus (q0 : Nat) (q1 : Int) (R : Ending → World → Prop) (w : World) (h : p_SetStatus q0 q1 R w) : Calls Tryz.prog 20 #[.P q0, .U q1] w R :=
  calls_by (P := Tryz.prog) (f := 20) (fn := Tryz.f20) (c := Tryz.f20.body.getD .skip) (args := [.P q0, .U q1]) (w := w) (R := R) (p := p_SetStatus q0 q1 R w) ann_SetStatus Tryz.func20 rfl (v_SetStatus q0 q1 R w) h
abbrev O_SetStatus := ((Nat → Int) × (Nat → Int) × (Nat → Int) × Int)
set_option maxRecDepth 100000 in
noncomputable def f_SetStatus (q0_r q0_other q0_high q0_saved : Nat → Int) (q0_cpsr q1 : Int) : Option O_SetStatus :=
  ((f_slot q0_cpsr).bind fun (x14 : O_slot) => ((f_slot q1).bind fun (x16 : O_slot) => (cond (x14 == x16) (some (q0_r, q0_other, q0_high, q1)) (cond ((decide (0 ≤ (13 : Int)) && decide ((13 : Int) < ((16 : Nat) : Int)))) (cond ((decide (0 ≤ (14 : Int)) && decide ((14 : Int) < ((16 : Nat) : Int)))) (cond ((decide (0 ≤ x14) && decide (x14 < ((6 : Nat) : Int)))) (cond ((decide (0 ≤ x16) && decide (x16 < ((6 : Nat) : Int)))) (cond ((decide (0 ≤ (0 : Int)) && decide ((0 : Int) < ((2 : Nat) : Int)))) (cond ((decide (0 ≤ x16) && decide (x16 < ((6 : Nat) : Int)))) (cond ((decide (0 ≤ (1 : Int)) && decide ((1 : Int) < ((2 : Nat) : Int)))) (cond ((decide (0 ≤ (13 : Int)) && decide ((13 : Int) < ((16 : Nat) : Int)))) (cond ((decide (0 ≤ (14 : Int)) && decide ((14 : Int) < ((16 : Nat) : Int)))) (cond (!((x14 == 1) == (x16 == 1))) (cond (x14 == 1) (cond ((decide (0 ≤ (0 : Int)) && decide ((0 : Int) < ((2 : Nat) : Int)))) (cond ((decide (0 ≤ ((5 : Nat) : Int)) && decide (((5 : Nat) : Int) ≤ ((5 : Nat) : Int)))) (cond ((decide (0 ≤ (0 : Int)) && decide ((0 : Int) ≤ ((5 : Nat) : Int)))) (cond ((decide (0 ≤ (13 : Int)) && decide ((13 : Int) ≤ ((16 : Nat) : Int)))) (cond ((decide (0 ≤ (8 : Int)) && decide ((8 : Int) ≤ (13 : Int)))) (cond ((decide (0 ≤ (13 : Int)) && decide ((13 : Int) ≤ ((16 : Nat) : Int)))) (cond ((decide (0 ≤ (8 : Int)) && decide ((8 : Int) ≤ (13 : Int)))) (cond ((decide (0 ≤ (1 : Int)) && decide ((1 : Int) < ((2 : Nat) : Int)))) (cond ((decide (0 ≤ ((5 : Nat) : Int)) && decide (((5 : Nat) : Int) ≤ ((5 : Nat) : Int)))) (cond ((decide (0 ≤ (0 : Int)) && decide ((0 : Int) ≤ ((5 : Nat) : Int)))) (some ((cpR (rup (rup q0_r 13 ((rup (rup q0_other ((x14).toNat * 2) (q0_r 13)) ((x14).toNat * 2 + 1) (q0_r 14)) ((x16).toNat * 2))) 14 ((rup (rup q0_other ((x14).toNat * 2) (q0_r 13)) ((x14).toNat * 2 + 1) (q0_r 14)) ((x16).toNat * 2 + 1))) (8) (cpR q0_high (0) (rup (rup q0_r 13 ((rup (rup q0_other ((x14).toNat * 2) (q0_r 13)) ((x14).toNat * 2 + 1) (q0_r 14)) ((x16).toNat * 2))) 14 ((rup (rup q0_other ((x14).toNat * 2) (q0_r 13)) ((x14).toNat * 2 + 1) (q0_r 14)) ((x16).toNat * 2 + 1))) (8) 5) (5) 5), (rup (rup q0_other ((x14).toNat * 2) (q0_r 13)) ((x14).toNat * 2 + 1) (q0_r 14)), (cpR q0_high (0) (rup (rup q0_r 13 ((rup (rup q0_other ((x14).toNat * 2) (q0_r 13)) ((x14).toNat * 2 + 1) (q0_r 14)) ((x16).toNat * 2))) 14 ((rup (rup q0_other ((x14).toNat * 2) (q0_r 13)) ((x14).toNat * 2 + 1) (q0_r 14)) ((x16).toNat * 2 + 1))) (8) 5), q1)) none) none) none) none) none) none) none) none) none) none) (cond ((decide (0 ≤ (1 : Int)) && decide ((1 : Int) < ((2 : Nat) : Int)))) (cond ((decide (0 ≤ ((5 : Nat) : Int)) && decide (((5 : Nat) : Int) ≤ ((5 : Nat) : Int)))) (cond ((decide (0 ≤ (0 : Int)) && decide ((0 : Int) ≤ ((5 : Nat) : Int)))) (cond ((decide (0 ≤ (13 : Int)) && decide ((13 : Int) ≤ ((16 : Nat) : Int)))) (cond ((decide (0 ≤ (8 : Int)) && decide ((8 : Int) ≤ (13 : Int)))) (cond ((decide (0 ≤ (13 : Int)) && decide ((13 : Int) ≤ ((16 : Nat) : Int)))) (cond ((decide (0 ≤ (8 : Int)) && decide ((8 : Int) ≤ (13 : Int)))) (cond ((decide (0 ≤ (0 : Int)) && decide ((0 : Int) < ((2 : Nat) : Int)))) (cond ((decide (0 ≤ ((5 : Nat) : Int)) && decide (((5 : Nat) : Int) ≤ ((5 : Nat) : Int)))) (cond ((decide (0 ≤ (0 : Int)) && decide ((0 : Int) ≤ ((5 : Nat) : Int)))) (some ((cpR (rup (rup q0_r 13 ((rup (rup q0_other ((x14).toNat * 2) (q0_r 13)) ((x14).toNat * 2 + 1) (q0_r 14)) ((x16).toNat * 2))) 14 ((rup (rup q0_other ((x14).toNat * 2) (q0_r 13)) ((x14).toNat * 2 + 1) (q0_r 14)) ((x16).toNat * 2 + 1))) (8) (cpR q0_high (5) (rup (rup q0_r 13 ((rup (rup q0_other ((x14).toNat * 2) (q0_r 13)) ((x14).toNat * 2 + 1) (q0_r 14)) ((x16).toNat * 2))) 14 ((rup (rup q0_other ((x14).toNat * 2) (q0_r 13)) ((x14).toNat * 2 + 1) (q0_r 14)) ((x16).toNat * 2 + 1))) (8) 5) (0) 5), (rup (rup q0_other ((x14).toNat * 2) (q0_r 13)) ((x14).toNat * 2 + 1) (q0_r 14)), (cpR q0_high (5) (rup (rup q0_r 13 ((rup (rup q0_other ((x14).toNat * 2) (q0_r 13)) ((x14).toNat * 2 + 1) (q0_r 14)) ((x16).toNat * 2))) 14 ((rup (rup q0_other ((x14).toNat * 2) (q0_r 13)) ((x14).toNat * 2 + 1) (q0_r 14)) ((x16).toNat * 2 + 1))) (8) 5), q1)) none) none) none) none) none) none) none) none) none) none)) (some ((rup (rup q0_r 13 ((rup (rup q0_other ((x14).toNat * 2) (q0_r 13)) ((x14).toNat * 2 + 1) (q0_r 14)) ((x16).toNat * 2))) 14 ((rup (rup q0_other ((x14).toNat * 2) (q0_r 13)) ((x14).toNat * 2 + 1) (q0_r 14)) ((x16).toNat * 2 + 1))), (rup (rup q0_other ((x14).toNat * 2) (q0_r 13)) ((x14).toNat * 2 + 1) (q0_r 14)), q0_high, q1))) none) none) none) none) none) none) none) none) none))))
def o_SetStatus (q0 : Nat) (q0_r q0_other q0_high q0_saved : Nat → Int) (q0_cpsr q1 : Int) (w0 : World) : O_SetStatus → Ending → World → Prop
  | (r_q0_0, r_q0_1, r_q0_2, r_q0_4), e, w => e = .returned (.tuple #[]) ∧ Now (Foot [sbox q0 [.r .u32 16 q0_r, .r .u32 12 q0_other, .r .u32 10 q0_high, .r .u32 6 q0_saved, .c (.U q0_cpsr)] 111]) w0 w [sbox q0 [.r .u32 16 r_q0_0, .r .u32 12 r_q0_1, .r .u32 10 r_q0_2, .r .u32 6 q0_saved, .c (.U r_q0_4)] 111]
set_option maxRecDepth 100000 in
set_option maxHeartbeats 4000000 in
theorem t_SetStatus {q0 : Nat} {q0_r q0_other q0_high q0_saved : Nat → Int} {q0_cpsr q1 : Int} {w0 : World} {r : O_SetStatus} (hf : f_SetStatus q0_r q0_other q0_high q0_saved q0_cpsr q1 = some r) (hp : Hp w0 [sbox q0 [.r .u32 16 q0_r, .r .u32 12 q0_other, .r .u32 10 q0_high, .r .u32 6 q0_saved, .c (.U q0_cpsr)] 111]) : Calls Tryz.prog 20 #[.P q0, .U q1] w0 (o_SetStatus q0 q0_r q0_other q0_high q0_saved q0_cpsr q1 w0 r) := by
  apply c_SetStatus q0 q1
  unfold p_SetStatus
  unfold f_SetStatus at hf
  have n0 : Now (Foot [sbox q0 [.r .u32 16 q0_r, .r .u32 12 q0_other, .r .u32 10 q0_high, .r .u32 6 q0_saved, .c (.U q0_cpsr)] 111]) w0 w0 [sbox q0 [.r .u32 16 q0_r, .r .u32 12 q0_other, .r .u32 10 q0_high, .r .u32 6 q0_saved, .c (.U q0_cpsr)] 111] := Now.start hp
  exact (
  ⟨q0_cpsr, Now.sC n0 4 rfl rfl, bindF hf (fun x14 h1 h3 => (tq_slot h1 _).mono fun _ w_1 ⟨e4, d94⟩ => ⟨x14, e4, have n2 := n0.pass d94.chg; bindF h3 (fun x16 h6 h8 => (tq_slot h6 _).mono fun _ w_2 ⟨e9, d93⟩ => ⟨x16, e9, have n7 := n2.pass d93.chg; Now.sStC n7 4 rfl rfl fun w_3 n11 => condF h8 (fun c12 h13 => leafF (α := O_SetStatus) (x := (q0_r, q0_other, q0_high, q1)) (G := fun r => o_SetStatus _ _ _ _ _ _ _ w0 r (.returned (.tuple #[])) w_3) h13 ⟨rfl, n11⟩) (fun c12 h14 => have n15 := n11.drewN 1; chkF h14 fun c16 h17 => ⟨(q0_r 13), Now.sR n15 0 rfl rfl (o := 0) (i := 13) (Nat.le_of_ble_eq_true rfl) rfl, chkF h17 fun c18 h19 => ⟨(q0_r 14), Now.sR n15 0 rfl rfl (o := 0) (i := 14) (Nat.le_of_ble_eq_true rfl) rfl, chkF h19 fun c20 h21 => LtI (Now.sStR n15 1 rfl rfl (o := 16) (i := (x14).toNat * 2) (segB0 c20 rfl rfl) segA1 fun w_4 n22 => Now.sStR n22 1 rfl rfl (o := 16) (i := (x14).toNat * 2 + 1) (segB c20 rfl rfl) segA2 fun w_5 n23 => have n24 := n23.drewN 1; ⟨fun w2 => (sbox q0 [.r .u32 16 q0_r, .r .u32 12 (rup (rup q0_other ((x14).toNat * 2) (q0_r 13)) ((x14).toNat * 2 + 1) (q0_r 14)), .r .u32 10 q0_high, .r .u32 6 q0_saved, .c (.U q1)] 111).holds w2 ∧ True, ⟨n24.hp.1, trivial⟩, chkF h21 fun c25 h26 => LtI (chkF h26 fun c27 h28 => ⟨((rup (rup q0_other ((x14).toNat * 2) (q0_r 13)) ((x14).toNat * 2 + 1) (q0_r 14)) ((x16).toNat * 2)), fun _ hS => Blk.sR (hS.1) 1 rfl rfl (o := 16) (i := (x16).toNat * 2) (segB0 c25 rfl rfl) segA1, chkF h28 fun c29 h30 => LtI (chkF h30 fun c31 h32 => ⟨((rup (rup q0_other ((x14).toNat * 2) (q0_r 13)) ((x14).toNat * 2 + 1) (q0_r 14)) ((x16).toNat * 2 + 1)), fun _ hS => Blk.sR (hS.1) 1 rfl rfl (o := 16) (i := (x16).toNat * 2 + 1) (segB c29 rfl rfl) segA2, chkF h32 fun c33 h34 => Now.sStR n24 0 rfl rfl (o := 0) (i := 13) (Nat.le_of_ble_eq_true rfl) rfl fun w_6 n35 => chkF h34 fun c36 h37 => Now.sStR n35 0 rfl rfl (o := 0) (i := 14) (Nat.le_of_ble_eq_true rfl) rfl fun w_7 n38 => condF h37 (fun c39 h40 => condF h40 (fun c41 h42 => have n43 := n38.drewN 1; chkF h42 fun c44 h45 => chkF h45 fun c46 h47 => chkF h47 fun c48 h49 => chkF h49 fun c50 h51 => chkF h51 fun c52 h53 => Now.sCopy Tryz.underlying22 rfl n43 2 rfl rfl (o1 := 28) (i1 := 0) ((if_neg (by decide)).trans segA1) 0 rfl rfl (o2 := 0) (i2 := 8) ((if_neg (by decide)).trans segA1) 5 rfl (Nat.le_of_ble_eq_true rfl) (Nat.le_of_ble_eq_true rfl) rfl rfl fun w_8 n54 => have n55 := n54.drewN 1; chkF h53 fun c56 h57 => chkF h57 fun c58 h59 => chkF h59 fun c60 h61 => chkF h61 fun c62 h63 => chkF h63 fun c64 h65 => Now.sCopy Tryz.underlying22 rfl n55 0 rfl rfl (o1 := 0) (i1 := 8) ((if_neg (by decide)).trans segA1) 2 rfl rfl (o2 := 28) (i2 := 5) ((if_neg (by decide)).trans segA1) 5 rfl (Nat.le_of_ble_eq_true rfl) (Nat.le_of_ble_eq_true rfl) rfl rfl fun w_9 n66 => leafF (α := O_SetStatus) (x := ((cpR (rup (rup q0_r 13 ((rup (rup q0_other ((x14).toNat * 2) (q0_r 13)) ((x14).toNat * 2 + 1) (q0_r 14)) ((x16).toNat * 2))) 14 ((rup (rup q0_other ((x14).toNat * 2) (q0_r 13)) ((x14).toNat * 2 + 1) (q0_r 14)) ((x16).toNat * 2 + 1))) (8) (cpR q0_high (0) (rup (rup q0_r 13 ((rup (rup q0_other ((x14).toNat * 2) (q0_r 13)) ((x14).toNat * 2 + 1) (q0_r 14)) ((x16).toNat * 2))) 14 ((rup (rup q0_other ((x14).toNat * 2) (q0_r 13)) ((x14).toNat * 2 + 1) (q0_r 14)) ((x16).toNat * 2 + 1))) (8) 5) (5) 5), (rup (rup q0_other ((x14).toNat * 2) (q0_r 13)) ((x14).toNat * 2 + 1) (q0_r 14)), (cpR q0_high (0) (rup (rup q0_r 13 ((rup (rup q0_other ((x14).toNat * 2) (q0_r 13)) ((x14).toNat * 2 + 1) (q0_r 14)) ((x16).toNat * 2))) 14 ((rup (rup q0_other ((x14).toNat * 2) (q0_r 13)) ((x14).toNat * 2 + 1) (q0_r 14)) ((x16).toNat * 2 + 1))) (8) 5), q1)) (G := fun r => o_SetStatus _ _ _ _ _ _ _ w0 r (.returned (.tuple #[])) w_9) h65 ⟨rfl, n66⟩) (fun c41 h67 => have n68 := n38.drewN 1; chkF h67 fun c69 h70 => chkF h70 fun c71 h72 => chkF h72 fun c73 h74 => chkF h74 fun c75 h76 => chkF h76 fun c77 h78 => Now.sCopy Tryz.underlying22 rfl n68 2 rfl rfl (o1 := 28) (i1 := 5) ((if_neg (by decide)).trans segA1) 0 rfl rfl (o2 := 0) (i2 := 8) ((if_neg (by decide)).trans segA1) 5 rfl (Nat.le_of_ble_eq_true rfl) (Nat.le_of_ble_eq_true rfl) rfl rfl fun w_10 n79 => have n80 := n79.drewN 1; chkF h78 fun c81 h82 => chkF h82 fun c83 h84 => chkF h84 fun c85 h86 => chkF h86 fun c87 h88 => chkF h88 fun c89 h90 => Now.sCopy Tryz.underlying22 rfl n80 0 rfl rfl (o1 := 0) (i1 := 8) ((if_neg (by decide)).trans segA1) 2 rfl rfl (o2 := 28) (i2 := 0) ((if_neg (by decide)).trans segA1) 5 rfl (Nat.le_of_ble_eq_true rfl) (Nat.le_of_ble_eq_true rfl) rfl rfl fun w_11 n91 => leafF (α := O_SetStatus) (x := ((cpR (rup (rup q0_r 13 ((rup (rup q0_other ((x14).toNat * 2) (q0_r 13)) ((x14).toNat * 2 + 1) (q0_r 14)) ((x16).toNat * 2))) 14 ((rup (rup q0_other ((x14).toNat * 2) (q0_r 13)) ((x14).toNat * 2 + 1) (q0_r 14)) ((x16).toNat * 2 + 1))) (8) (cpR q0_high (5) (rup (rup q0_r 13 ((rup (rup q0_other ((x14).toNat * 2) (q0_r 13)) ((x14).toNat * 2 + 1) (q0_r 14)) ((x16).toNat * 2))) 14 ((rup (rup q0_other ((x14).toNat * 2) (q0_r 13)) ((x14).toNat * 2 + 1) (q0_r 14)) ((x16).toNat * 2 + 1))) (8) 5) (0) 5), (rup (rup q0_other ((x14).toNat * 2) (q0_r 13)) ((x14).toNat * 2 + 1) (q0_r 14)), (cpR q0_high (5) (rup (rup q0_r 13 ((rup (rup q0_other ((x14).toNat * 2) (q0_r 13)) ((x14).toNat * 2 + 1) (q0_r 14)) ((x16).toNat * 2))) 14 ((rup (rup q0_other ((x14).toNat * 2) (q0_r 13)) ((x14).toNat * 2 + 1) (q0_r 14)) ((x16).toNat * 2 + 1))) (8) 5), q1)) (G := fun r => o_SetStatus _ _ _ _ _ _ _ w0 r (.returned (.tuple #[])) w_11) h90 ⟨rfl, n91⟩)) (fun c39 h92 => leafF (α := O_SetStatus) (x := ((rup (rup q0_r 13 ((rup (rup q0_other ((x14).toNat * 2) (q0_r 13)) ((x14).toNat * 2 + 1) (q0_r 14)) ((x16).toNat * 2))) 14 ((rup (rup q0_other ((x14).toNat * 2) (q0_r 13)) ((x14).toNat * 2 + 1) (q0_r 14)) ((x16).toNat * 2 + 1))), (rup (rup q0_other ((x14).toNat * 2) (q0_r 13)) ((x14).toNat * 2 + 1) (q0_r 14)), q0_high, q1)) (G := fun r => o_SetStatus _ _ _ _ _ _ _ w0 r (.returned (.tuple #[])) w_7) h92 ⟨rfl, n38⟩)⟩)⟩)⟩)⟩⟩)⟩)⟩)⟩)

/-! (*cameo/bank.Bank).Saved -/
abbrev n_Saved : FuncId := 21
def ann_Saved : Ann := ⟨[], [], []⟩
set_option maxRecDepth 100000 in
def p_Saved (q0 : Nat) (R : Ending → World → Prop) (w : World) : Prop :=
  (∃ (x9 : Int), w.cell? ⟨q0, 44, none⟩ = some (.U x9) ∧ (Calls Tryz.prog 38 #[.U x9] w fun e w_1 => ∃ (x10 : Int), e = .returned (.I x10) ∧ cond (decide (x10 > 0)) (chk (decide
  (0 ≤ x10) && decide (x10 < ((6 : Nat) : Int))) (Lt (((⟨q0, 38, none⟩ : Addr).add (x10.toNat * 1)) : Addr) fun a17 => (∃ (x18 : Int), w_1.cell? a17 = some (.U x18) ∧ R (.returned (.U x18)) w_1))) ((∃ (x22 : Int), w_1.cell? ⟨q0, 44, none⟩ = some (.U x22) ∧ R (.returned (.U x22)) w_1))))
set_option maxRecDepth 100000 in
theorem v_Saved (q0 : Nat) (R : Ending → World → Prop) (w : World) :
  vc Tryz.prog ann_Saved (Tryz.f21.body.getD .skip) (retQ Tryz.prog Tryz.f21.results.toList R) (initFr [.P q0] Tryz.f21.ntmps) w = p_Saved q0 R w := by kernel_rfl
theorem c_Saved (q0 : Nat) (R : Ending → World → Prop) (w : World) (h : p_Saved q0 R w) : Calls Tryz.prog 21 #[.P q0] w R :=
  calls_by (P := Tryz.prog) (f := 21) (fn := Tryz.f21) (c := Tryz.f21.body.getD .skip) (args := [.P q0]) (w := w) (R := R) (p := p_Saved q0 R w) ann_Saved Tryz.func21 rfl (v_Saved q0 R w) h
abbrev O_Saved := Int
set_option maxRecDepth 100000 in
noncomputable def f_Saved (q0_r q0_other q0_high q0_saved : Nat → Int) (q0_cpsr : Int) : Option O_Saved :=
  ((f_slot q0_cpsr).bind fun (x10 : O_slot) => (cond (decide (x10 > 0)) (cond ((decide (0 ≤ x10) && decide (x10 < ((6 : Nat) : Int)))) (some (q0_saved ((x10).toNat))) none) (some q0_cpsr)))
def o_Saved (q0 : Nat) (q0_r q0_other q0_high q0_saved : Nat → Int) (q0_cpsr : Int) (w0 : World) : O_Saved → Ending → World → Prop
  | r0, e, w => e = .returned (.U r0) ∧ Now (Foot [sbox q0 [.r .u32 16 q0_r, .r .u32 12 q0_other, .r .u32 10 q0_high, .r .u32 6 q0_saved, .c (.U q0_cpsr)] 111]) w0 w [sbox q0 [.r .u32 16 q0_r, .r .u32 12 q0_other, .r .u32 10 q0_high, .r .u32 6 q0_saved, .c (.U q0_cpsr)] 111]
set_option maxRecDepth 100000 in
set_option maxHeartbeats 4000000 in
theorem t_Saved {q0 : Nat} {q0_r q0_other q0_high q0_saved : Nat → Int} {q0_cpsr : Int} {w0 : World} {r : O_Saved} (hf : f_Saved q0_r q0_other q0_high q0_saved q0_cpsr = some r) (hp : Hp w0 [sbox q0 [.r .u32 16 q0_r, .r .u32 12 q0_other, .r .u32 10 q0_high, .r .u32 6 q0_saved, .c (.U q0_cpsr)] 111]) : Calls Tryz.prog 21 #[.P q0] w0 (o_Saved q0 q0_r q0_other q0_high q0_saved q0_cpsr w0 r) := by
  apply c_Saved q0
  unfold p_Saved
  unfold f_Saved at hf
  have n0 : Now (Foot [sbox q0 [.r .u32 16 q0_r, .r .u32 12 q0_other, .r .u32 10 q0_high, .r .u32 6 q0_saved, .c (.U q0_cpsr)] 111]) w0 w0 [sbox q0 [.r .u32 16 q0_r, .r .u32 12 q0_other, .r .u32 10 q0_high, .r .u32 6 q0_saved, .c (.U q0_cpsr)] 111] := Now.start hp
  exact (
  ⟨q0_cpsr, Now.sC n0 4 rfl rfl, bindF hf (fun x10 h1 h3 => (tq_slot h1 _).mono fun _ w_1 ⟨e4, d11⟩ => ⟨x10, e4, have n2 := n0.pass d11.chg; condF h3 (fun c6 h7 => chkF h7 fun c8 h9 => LtI (⟨(q0_saved ((x10).toNat)), Now.sR n2 3 rfl rfl (o := 38) (i := (x10).toNat) (segB1 c8 rfl) segA1i, leafF (α := O_Saved) (x := (q0_saved ((x10).toNat))) (G := fun r => o_Saved _ _ _ _ _ _ w0 r (.returned (.U (q0_saved ((x10).toNat)))) w_1) h9 ⟨rfl, n2⟩⟩)) (fun c6 h10 => ⟨q0_cpsr, Now.sC n2 4 rfl rfl, leafF (α := O_Saved) (x := q0_cpsr) (G := fun r => o_Saved _ _ _ _ _ _ w0 r (.returned (.U q0_cpsr)) w_1) h10 ⟨rfl, n2⟩⟩)⟩)⟩)

/-! cameo/bank.Flags -/
abbrev n_BFlags : FuncId := 32
def ann_BFlags : Ann := ⟨[], [], []⟩
set_option maxRecDepth 100000 in
def p_BFlags (q0 : Int) (R : Ending → World → Prop) (w : World) : Prop :=
  Nw w (.cells #[.F, .F, .F, .F] 120) fun b w_1 => St w_1 ⟨b, 0, none⟩ (.bool ((bits .and .u32 (Int.fdiv q0 2147483648) 1) == 1)) fun w_2 => St w_2 ⟨b, 1, none⟩
  (.bool ((bits .and .u32 (Int.fdiv q0 1073741824) 1) == 1)) fun w_3 => St w_3 ⟨b, 2, none⟩ (.bool ((bits .and .u32 (Int.fdiv q0 536870912) 1) == 1)) fun w_4 => St w_4 ⟨b, 3, none⟩ (.bool ((bits .and
  .u32 (Int.fdiv q0 268435456) 1) == 1)) fun w_5 => (∃ (r_0 : Bool), w_5.cell? ⟨b, 0, none⟩ = some (.bool r_0) ∧ (∃ (r_1 : Bool), w_5.cell? ⟨b, 1, none⟩ = some (.bool r_1) ∧ (∃ (r_2 : Bool), w_5.cell?
  ⟨b, 2, none⟩ = some (.bool r_2) ∧ (∃ (r_3 : Bool), w_5.cell? ⟨b, 3, none⟩ = some (.bool r_3) ∧ R (.returned (.agg #[.bool r_0, .bool r_1, .bool r_2, .bool r_3])) w_5))))
set_option maxRecDepth 100000 in
theorem v_BFlags (q0 : Int) (R : Ending → World → Prop) (w : World) :
  vc Tryz.prog ann_BFlags (Tryz.f32.body.getD .skip) (retQ Tryz.prog Tryz.f32.results.toList R) (initFr [.U q0] Tryz.f32.ntmps) w = p_BFlags q0 R w := by kernel_rfl
theorem c_BFlags (q0 : Int) (R : Ending → World → Prop) (w : World) (h : p_BFlags q0 R w) : Calls Tryz.prog 32 #[.U q0] w R :=
  calls_by (P := Tryz.prog) (f := 32) (fn := Tryz.f32) (c := Tryz.f32.body.getD .skip) (args := [.U q0]) (w := w) (R := R) (p := p_BFlags q0 R w) ann_BFlags Tryz.func32 rfl (v_BFlags q0 R w) h
abbrev O_BFlags := (Bool × Bool × Bool × Bool)
set_option maxRecDepth 100000 in
noncomputable def f_BFlags (q0 : Int) : Option O_BFlags :=
  (some (((bits .and .u32 (Int.fdiv q0 2147483648) 1) == 1), ((bits .and .u32 (Int.fdiv q0 1073741824) 1) == 1), ((bits .and .u32 (Int.fdiv q0 536870912) 1) == 1), ((bits .and .u32 (Int.fdiv q0 268435456) 1) == 1)))
def o_BFlags (q0 : Int) (w0 : World) : O_BFlags → Ending → World → Prop
  | (r0_0, r0_1, r0_2, r0_3), e, w => e = .returned (.agg #[.bool r0_0, .bool r0_1, .bool r0_2, .bool r0_3]) ∧ Now (Foot []) w0 w []
set_option maxRecDepth 100000 in
set_option maxHeartbeats 4000000 in
theorem t_BFlags {q0 : Int} {w0 : World} {r : O_BFlags} (hf : f_BFlags q0 = some r) (hp : Hp w0 []) : Calls Tryz.prog 32 #[.U q0] w0 (o_BFlags q0 w0 r) := by
  apply c_BFlags q0
  unfold p_BFlags
  unfold f_BFlags at hf
  have n0 : Now (Foot []) w0 w0 [] := Now.start hp
  exact (
  n0.Nw (cs := [.F, .F, .F, .F]) fun b w_1 n1 => n1.St (by rfl) fun w_2 n2 => n2.St (by rfl) fun w_3 n3 => n3.St (by rfl) fun w_4 n4 => n4.St (by rfl) fun w_5 n5 => ⟨(bits .and .u32 (Int.fdiv q0 2147483648) 1) == 1, n5.cell 0 rfl, ⟨(bits .and .u32 (Int.fdiv q0 1073741824) 1) == 1, n5.cell 1 rfl, ⟨(bits .and .u32 (Int.fdiv q0 536870912) 1) == 1, n5.cell 2 rfl, ⟨(bits .and .u32 (Int.fdiv q0 268435456) 1) == 1, n5.cell 3 rfl, have n6 := n5.takeN 0; leafF (α := O_BFlags) (x := (((bits .and .u32 (Int.fdiv q0 2147483648) 1) == 1), ((bits .and .u32 (Int.fdiv q0 1073741824) 1) == 1), ((bits .and .u32 (Int.fdiv q0 536870912) 1) == 1), ((bits .and .u32 (Int.fdiv q0 268435456) 1) == 1))) (G := fun r => o_BFlags _ w0 r (.returned (.agg #[.bool ((bits .and .u32 (Int.fdiv q0 2147483648) 1) == 1), .bool ((bits .and .u32 (Int.fdiv q0 1073741824) 1) == 1), .bool ((bits .and .u32 (Int.fdiv q0 536870912) 1) == 1), .bool ((bits .and .u32 (Int.fdiv q0 268435456) 1) == 1)])) w_5) hf ⟨rfl, n6⟩⟩⟩⟩⟩)

/-! cameo/bank.With -/
abbrev n_With : FuncId := 90
def ann_With : Ann := ⟨[], [(3, [(0, .one (.int .u32)), (18, .one (.int .i64))])], []⟩
set_option maxRecDepth 100000 in
def p_With (q0 : Int) (q1_0 q1_1 q1_2 q1_3 : Bool) (R : Ending → World → Prop) (w : World) : Prop :=
  Nw w (.cells #[.bool q1_0, .bool q1_1, .bool q1_2, .bool q1_3] 120) fun b w_1 => (∃ (x10 : Bool), w_1.cell? ⟨b, 3, none⟩ = some (.bool x10) ∧ (∃ (x12 : Bool), w_1.cell? ⟨b, 2, none⟩ = some (.bool
  x12) ∧ (∃ (x14 : Bool), w_1.cell? ⟨b, 1, none⟩ = some (.bool x14) ∧ (∃ (x16 : Bool), w_1.cell? ⟨b, 0, none⟩ = some (.bool x16) ∧ (∃ I : Nat → List Value → World → Prop, (∃ n, I n [.U (bits
  .and .u32 q0 268435455), .I 0] w_1) ∧ ∀ n, ∀ (s0 s18 : Int) (w_2 : World), I n [.U s0, .I s18] w_2 → cond (decide (s18 < 4)) (chk (decide (0 ≤ s18) && decide (s18 < ((4
  : Nat) : Int))) (∃ (x21 : Bool), (#[.bool x10, .bool x12, .bool x14, .bool x16] : Array Value)[s18.toNat * 1]? = some (.bool x21) ∧ cond x21 (chk (decide (0 ≤ (IntKind.wrap .i64 (28 + s18)))) (Lt
  ((bits .or .u32 s0 (IntKind.wrap .u32 ((1 : Int) * 2 ^ (min (IntKind.wrap .i64 (28 + s18)).toNat 32)))) : Int) fun s0_1 => (∃ m, m < n ∧ I m [.U s0_1, .I (IntKind.wrap .i64 (s18 + 1))]
  w_2))) ((∃ m, m < n ∧ I m [.U s0, .I (IntKind.wrap .i64 (s18 + 1))] w_2)))) (R (.returned (.U s0)) w_2))))))
set_option maxRecDepth 100000 in
theorem v_With (q0 : Int) (q1_0 q1_1 q1_2 q1_3 : Bool) (R : Ending → World → Prop) (w : World) :
  vc Tryz.prog ann_With (Tryz.f90.body.getD .skip) (retQ Tryz.prog Tryz.f90.results.toList R) (initFr [.U q0, .agg #[.bool q1_0, .bool q1_1, .bool q1_2, .bool q1_3]] Tryz.f90.ntmps) w = p_With q0 q1_0 q1_1 q1_2 q1_3 R w := by kernel_rfl
theorem c_With (q0 : Int) (q1_0 q1_1 q1_2 q1_3 : Bool) (R : Ending → World → Prop) (w : World) (h : p_With q0 q1_0 q1_1 q1_2 q1_3 R w) : Calls Tryz.prog 90 #[.U q0, .agg #[.bool q1_0, .bool q1_1, .bool q1_2, .bool q1_3]] w R :=
  calls_by (P := Tryz.prog) (f := 90) (fn := Tryz.f90) (c := Tryz.f90.body.getD .skip) (args := [.U q0, .agg #[.bool q1_0, .bool q1_1, .bool q1_2, .bool q1_3]]) (w := w) (R := R) (p := p_With q0 q1_0 q1_1 q1_2 q1_3 R w) ann_With Tryz.func90 rfl (v_With q0 q1_0 q1_1 q1_2 q1_3 R w) h
abbrev O_With := Int
set_option maxRecDepth 100000 in
noncomputable def f_With (q0 : Int) (q1_0 q1_1 q1_2 q1_3 : Bool) : Option O_With :=
  (loopO (fun (s : (Int × Int)) => match s with | (s0, s18) => ((cond (decide (s18 < 4)) (cond (decide (0 ≤ s18) && decide (s18 < ((4 : Nat) : Int))) (cond (ixL [q1_3, q1_2, q1_1, q1_0] s18) (cond ((decide (0 ≤ (IntKind.wrap .i64 (28 + s18))))) (Let ((bits .or .u32 s0 (IntKind.wrap .u32 ((1 : Int) * 2 ^ (min (IntKind.wrap .i64 (28 + s18)).toNat 32)))) : Int) fun s0_1 => (some (.inl (s0_1, (IntKind.wrap .i64 (s18 + 1)))))) none) (some (.inl (s0, (IntKind.wrap .i64 (s18 + 1)))))) none) (some (.inr s0))) : Option ((Int × Int) ⊕ O_With))) ((bits .and .u32 q0 268435455), 0))
def o_With (q0 : Int) (q1_0 q1_1 q1_2 q1_3 : Bool) (w0 : World) : O_With → Ending → World → Prop
  | r0, e, w => e = .returned (.U r0) ∧ Now (Foot []) w0 w []
set_option maxRecDepth 100000 in
set_option maxHeartbeats 4000000 in
theorem t_With {q0 : Int} {q1_0 q1_1 q1_2 q1_3 : Bool} {w0 : World} {r : O_With} (hf : f_With q0 q1_0 q1_1 q1_2 q1_3 = some r) (hp : Hp w0 []) : Calls Tryz.prog 90 #[.U q0, .agg #[.bool q1_0, .bool q1_1, .bool q1_2, .bool q1_3]] w0 (o_With q0 q1_0 q1_1 q1_2 q1_3 w0 r) := by
  apply c_With q0 q1_0 q1_1 q1_2 q1_3
  unfold p_With
  unfold f_With at hf
  have n0 : Now (Foot []) w0 w0 [] := Now.start hp
  exact (
  n0.Nw (cs := [.bool q1_0, .bool q1_1, .bool q1_2, .bool q1_3]) fun b w_1 n1 => ⟨q1_3, n1.cell 3 rfl, ⟨q1_2, n1.cell 2 rfl, ⟨q1_1, n1.cell 1 rfl, ⟨q1_0, n1.cell 0 rfl, loopF hf fun It2 t3 h4 => ⟨fun nI vsI wI => match vsI with | [.U s0, .I s18] => Now (Foot []) w0 wI [box b [.bool q1_0, .bool q1_1, .bool q1_2, .bool q1_3] 120] ∧ It2 nI (s0, s18) | _ => False, (h4.elim fun n27 i26 => ⟨n27, ⟨n1, i26⟩⟩), fun n s0 s18 w_2 ⟨n8, t9⟩ => (t3 _ _ t9).elim fun x5 ⟨h6, t7⟩ => condF h6 (fun c10 h11 => chkF h11 fun c12 h13 => ⟨(ixL [q1_3, q1_2, q1_1, q1_0] s18), ixA_bool (l := [q1_3, q1_2, q1_1, q1_0]) c12 rfl, condF h13 (fun c14 h15 => chkF h15 fun c16 h17 => LetF h17 fun s0_1 h18 => (loopCont h18 t7).elim fun m19 i20 => ⟨m19, i20.1, ⟨n8, i20.2⟩⟩) (fun c14 h21 => (loopCont h21 t7).elim fun m22 i23 => ⟨m22, i23.1, ⟨n8, i23.2⟩⟩)⟩) (fun c10 h24 => have n25 := n8.takeN 0; leafF (α := O_With) (x := s0) (G := fun r => o_With _ _ _ _ _ w0 r (.returned (.U s0)) w_2) (loopExit h24 t7) ⟨rfl, n25⟩)⟩⟩⟩⟩⟩)

/-! cameo/bank.New -/
abbrev n_BNew : FuncId := 39
def ann_BNew : Ann := ⟨[], [], []⟩
set_option maxRecDepth 100000 in
def p_BNew (R : Ending → World → Prop) (w : World) : Prop :=
  Nw w (.cells #[.U 0, .U 0, .U 0, .U 0, .U 0, .U 0, .U 0, .U 0, .U 0, .U 0, .U 0, .U 0, .U 0, .U 0,
  .U 0, .U 0, .U 0, .U 0, .U 0, .U 0, .U 0, .U 0, .U 0, .U 0, .U 0, .U 0, .U 0, .U 0, .U 0,
  .U 0, .U 0, .U 0, .U 0, .U 0, .U 0, .U 0, .U 0, .U 0, .U 0, .U 0, .U 0, .U 0, .U 0, .U 0,
  .U 31] 111) fun b w_1 => R (.returned (.P b)) w_1
set_option maxRecDepth 100000 in
theorem v_BNew (R : Ending → World → Prop) (w : World) :
  vc Tryz.prog ann_BNew (Tryz.f39.body.getD .skip) (retQ Tryz.prog Tryz.f39.results.toList R) (initFr [] Tryz.f39.ntmps) w = p_BNew R w := by kernel_rfl
theorem c_BNew (R : Ending → World → Prop) (w : World) (h : p_BNew R w) : Calls Tryz.prog 39 #[] w R :=
  calls_by (P := Tryz.prog) (f := 39) (fn := Tryz.f39) (c := Tryz.f39.body.getD .skip) (args := []) (w := w) (R := R) (p := p_BNew R w) ann_BNew Tryz.func39 rfl (v_BNew R w) h
abbrev O_BNew := ((Nat → Int) × (Nat → Int) × (Nat → Int) × (Nat → Int))
set_option maxRecDepth 100000 in
noncomputable def f_BNew : Option O_BNew :=
  (some ((fun _ => 0), (fun _ => 0), (fun _ => 0), (fun _ => 0)))
def o_BNew (w0 : World) : O_BNew → Ending → World → Prop
  | (r_r_b0_0, r_r_b0_1, r_r_b0_2, r_r_b0_3), e, w => ∃ (r_b0 : Nat), e = .returned (.P r_b0) ∧ Now (Foot []) w0 w [sbox r_b0 [.r .u32 16 r_r_b0_0, .r .u32 12 r_r_b0_1, .r .u32 10 r_r_b0_2, .r .u32 6 r_r_b0_3, .c (.U 31)] 111]
set_option maxRecDepth 100000 in
set_option maxHeartbeats 4000000 in
theorem t_BNew {w0 : World} {r : O_BNew} (hf : f_BNew = some r) (hp : Hp w0 []) : Calls Tryz.prog 39 #[] w0 (o_BNew w0 r) := by
  apply c_BNew 
  unfold p_BNew
  unfold f_BNew at hf
  have n0 : Now (Foot []) w0 w0 [] := Now.start hp
  exact (
  n0.Nw (cs := [.U 0, .U 0, .U 0, .U 0, .U 0, .U 0, .U 0, .U 0, .U 0, .U 0, .U 0, .U 0, .U 0, .U 0, .U 0, .U 0, .U 0, .U 0, .U 0, .U 0, .U 0, .U 0, .U 0, .U 0, .U 0, .U 0, .U 0, .U 0, .U 0, .U 0, .U 0, .U 0, .U 0, .U 0, .U 0, .U 0, .U 0, .U 0, .U 0, .U 0, .U 0, .U 0, .U 0, .U 0, .U 31]) fun b w_1 n1 => have n2 := n1.toS [.r .u32 16 (fun _ => 0), .r .u32 12 (fun _ => 0), .r .u32 10 (fun _ => 0), .r .u32 6 (fun _ => 0), .c (.U 31)] (by kernel_rfl); leafF (α := O_BNew) (x := ((fun _ => 0), (fun _ => 0), (fun _ => 0), (fun _ => 0))) (G := fun r => o_BNew w0 r (.returned (.P b)) w_1) hf ⟨b, rfl, n2⟩)

/-! (*cameo/cameolaw25.tape).read -/
abbrev n_tread : FuncId := 329
def ann_tread : Ann := ⟨[], [(3, [(7, .one (.int .u32)), (10, .one (.int .i64))])], []⟩
set_option maxRecDepth 100000 in
def p_tread (q0 : Nat) (q1 q2 : Int) (R : Ending → World → Prop) (w : World) : Prop :=
  (∃ I : Nat → List Value → World → Prop, (∃ n, I n [.U 0, .I 0] w) ∧ ∀ n, ∀ (s7 s10 : Int) (w_1 : World), I n [.U s7, .I s10] w_1 → cond (decide (s10 < q2)) (chk
  (decide (0 ≤ (bits .and .u32 (IntKind.wrap .u32 (q1 + (IntKind.wrap .u32 s10))) 4095)) && decide ((bits .and .u32 (IntKind.wrap .u32 (q1 + (IntKind.wrap .u32 s10))) 4095) < ((4096 : Nat) : Int)))
  (Lt (((⟨q0, 0, none⟩ : Addr).add ((bits .and .u32 (IntKind.wrap .u32 (q1 + (IntKind.wrap .u32 s10))) 4095).toNat * 1)) : Addr) fun a22 => (∃ (x23 : Int), w_1.cell? a22 = some (.int .u8 x23) ∧ chk
  (decide (0 ≤ (IntKind.wrap .i64 (8 * s10)))) (Lt ((bits .or .u32 s7 (IntKind.wrap .u32 ((IntKind.wrap .u32 x23) * 2 ^ (min (IntKind.wrap .i64 (8 * s10)).toNat 32)))) : Int) fun s7_1 => (∃ m, m < n ∧
  I m [.U s7_1, .I (IntKind.wrap .i64 (s10 + 1))] w_1))))) (R (.returned (.U s7)) w_1))
set_option maxRecDepth 100000 in
theorem v_tread (q0 : Nat) (q1 q2 : Int) (R : Ending → World → Prop) (w : World) :
  vc Tryz.prog ann_tread (Tryz.f329.body.getD .skip) (retQ Tryz.prog Tryz.f329.results.toList R) (initFr [.P q0, .U q1, .I q2] Tryz.f329.ntmps) w = p_tread q0 q1 q2 R w := by kernel_rfl
theorem c_tread (q0 : Nat) (q1 q2 : Int) (R : Ending → World → Prop) (w : World) (h : p_tread q0 q1 q2 R w) : Calls Tryz.prog 329 #[.P q0, .U q1, .I q2] w R :=
  calls_by (P := Tryz.prog) (f := 329) (fn := Tryz.f329) (c := Tryz.f329.body.getD .skip) (args := [.P q0, .U q1, .I q2]) (w := w) (R := R) (p := p_tread q0 q1 q2 R w) ann_tread Tryz.func329 rfl (v_tread q0 q1 q2 R w) h
abbrev O_tread := Int
set_option maxRecDepth 100000 in
noncomputable def f_tread (q0_bytes : Nat → Int) (q0_log : List E51) (q1 q2 : Int) : Option O_tread :=
  (loopO (fun (s : (Int × Int)) => match s with | (s7, s10) => ((cond (decide (s10 < q2)) (cond ((decide (0 ≤ (bits .and .u32 (IntKind.wrap .u32 (q1 + (IntKind.wrap .u32 s10))) 4095)) && decide ((bits .and .u32 (IntKind.wrap .u32 (q1 + (IntKind.wrap .u32 s10))) 4095) < ((4096 : Nat) : Int)))) (cond ((decide (0 ≤ (IntKind.wrap .i64 (8 * s10))))) (Let ((bits .or .u32 s7 (IntKind.wrap .u32 ((IntKind.wrap .u32 (q0_bytes ((bits .and .u32 (IntKind.wrap .u32 (q1 + (IntKind.wrap .u32 s10))) 4095).toNat))) * 2 ^ (min (IntKind.wrap .i64 (8 * s10)).toNat 32)))) : Int) fun s7_1 => (some (.inl (s7_1, (IntKind.wrap .i64 (s10 + 1)))))) none) none) (some (.inr s7))) : Option ((Int × Int) ⊕ O_tread))) (0, 0))
def o_tread (q0 : Nat) (q0_log_p : Option Addr) (q0_log_c : Nat) (q0_bytes : Nat → Int) (q0_log : List E51) (q1 q2 : Int) (w0 : World) : O_tread → Ending → World → Prop
  | r0, e, w => e = .returned (.U r0) ∧ Now (Foot [sbox q0 [.r .u8 4096 q0_bytes, .c (.slice q0_log_p q0_log.length q0_log_c)] 49, arr el51 q0_log_p q0_log_c q0_log]) w0 w [sbox q0 [.r .u8 4096 q0_bytes, .c (.slice q0_log_p q0_log.length q0_log_c)] 49, arr el51 q0_log_p q0_log_c q0_log]
set_option maxRecDepth 100000 in
set_option maxHeartbeats 4000000 in
theorem t_tread {q0 : Nat} {q0_log_p : Option Addr} {q0_log_c : Nat} {q0_bytes : Nat → Int} {q0_log : List E51} {q1 q2 : Int} {w0 : World} {r : O_tread} (hf : f_tread q0_bytes q0_log q1 q2 = some r) (hp : Hp w0 [sbox q0 [.r .u8 4096 q0_bytes, .c (.slice q0_log_p q0_log.length q0_log_c)] 49, arr el51 q0_log_p q0_log_c q0_log]) : Calls Tryz.prog 329 #[.P q0, .U q1, .I q2] w0 (o_tread q0 q0_log_p q0_log_c q0_bytes q0_log q1 q2 w0 r) := by
  apply c_tread q0 q1 q2
  unfold p_tread
  unfold f_tread at hf
  have n0 : Now (Foot [sbox q0 [.r .u8 4096 q0_bytes, .c (.slice q0_log_p q0_log.length q0_log_c)] 49, arr el51 q0_log_p q0_log_c q0_log]) w0 w0 [sbox q0 [.r .u8 4096 q0_bytes, .c (.slice q0_log_p q0_log.length q0_log_c)] 49, arr el51 q0_log_p q0_log_c q0_log] := Now.start hp
  exact (
  loopF hf fun It1 t2 h3 => ⟨fun nI vsI wI => match vsI with | [.U s7, .I s10] => Now (Foot [sbox q0 [.r .u8 4096 q0_bytes, .c (.slice q0_log_p q0_log.length q0_log_c)] 49, arr el51 q0_log_p q0_log_c q0_log]) w0 wI [sbox q0 [.r .u8 4096 q0_bytes, .c (.slice q0_log_p q0_log.length q0_log_c)] 49, arr el51 q0_log_p q0_log_c q0_log] ∧ It1 nI (s7, s10) | _ => False, (h3.elim fun n26 i25 => have n9 := n0.front1; have n10 := n9.front1; ⟨n26, ⟨n10, i25⟩⟩), fun n s7 s10 w_1 ⟨n7, t8⟩ => (t2 _ _ t8).elim fun x4 ⟨h5, t6⟩ => condF h5 (fun c11 h12 => chkF h12 fun c13 h14 => LtI (⟨(q0_bytes ((bits .and .u32 (IntKind.wrap .u32 (q1 + (IntKind.wrap .u32 s10))) 4095).toNat)), Now.sR n7 0 rfl rfl (o := 0) (i := (bits .and .u32 (IntKind.wrap .u32 (q1 + (IntKind.wrap .u32 s10))) 4095).toNat) (segB1 c13 rfl) segA1i, chkF h14 fun c15 h16 => LetF h16 fun s7_1 h17 => have n18 := n7.front1; have n19 := n18.front1; (loopCont h17 t6).elim fun m20 i21 => ⟨m20, i21.1, ⟨n19, i21.2⟩⟩⟩)) (fun c11 h22 => have n23 := n7.front1; have n24 := n23.front1; leafF (α := O_tread) (x := s7) (G := fun r => o_tread _ _ _ _ _ _ _ w0 r (.returned (.U s7)) w_1) (loopExit h22 t6) ⟨rfl, n24⟩)⟩)

/-! (*cameo/cameolaw25.tape).Fetch -/
abbrev n_tFetch : FuncId := 324
def ann_tFetch : Ann := ⟨[], [], []⟩
set_option maxRecDepth 100000 in
def p_tFetch (q0 : Nat) (q1 q2 q3 : Int) (R : Ending → World → Prop) (w : World) : Prop :=
  (Calls Tryz.prog 329 #[.P q0, .U q1, .I q2] w fun e w_1 => ∃ (x13 : Int), e = .returned (.U x13) ∧ (∃ (x18 : Option Addr) (x18n x18c : Nat),
  w_1.cell? ⟨q0, 4096, none⟩ = some (.slice x18 x18n x18c) ∧ Nw w_1 (.cells #[.I 0, .I 0, .U q1, .I q2, .F, .U x13, .I (IntKind.wrap .i64 (q3 + 10))]
  51) fun b w_2 => (∃ (x26 : Option Addr) (x26n x26c : Nat), ∃ w_3, (Builtin.append_ #[47, 47] 47 #[.slice x18 x18n x18c, .slice (some ⟨b, 0, none⟩) 1 1]).run Tryz.prog w_2 = .ok (.slice x26
  x26n x26c) w_3 ∧ St w_3 ⟨q0, 4096, none⟩ (.slice x26 x26n x26c) fun w_4 => R (.returned (.U x13)) w_4)))
set_option maxRecDepth 100000 in
theorem v_tFetch (q0 : Nat) (q1 q2 q3 : Int) (R : Ending → World → Prop) (w : World) :
  vc Tryz.prog ann_tFetch (Tryz.f324.body.getD .skip) (retQ Tryz.prog Tryz.f324.results.toList R) (initFr [.P q0, .U q1, .I q2, .I q3] Tryz.f324.ntmps) w = p_tFetch q0 q1 q2 q3 R w := by kernel_rfl
theorem c_tFetch (q0 : Nat) (q1 q2 q3 : Int) (R : Ending → World → Prop) (w : World) (h : p_tFetch q0 q1 q2 q3 R w) : Calls Tryz.prog 324 #[.P q0, .U q1, .I q2, .I q3] w R :=
  calls_by (P := Tryz.prog) (f := 324) (fn := Tryz.f324) (c := Tryz.f324.body.getD .skip) (args := [.P q0, .U q1, .I q2, .I q3]) (w := w) (R := R) (p := p_tFetch q0 q1 q2 q3 R w) ann_tFetch Tryz.func324 rfl (v_tFetch q0 q1 q2 q3 R w) h
abbrev O_tFetch := (Int × (List E51))
set_option maxRecDepth 100000 in
noncomputable def f_tFetch (q0_bytes : Nat → Int) (q0_log : List E51) (q1 q2 q3 : Int) : Option O_tFetch :=
  ((f_tread q0_bytes q0_log q1 q2).bind fun (x13 : O_tread) => (cond (decide ((q0_log ++ [(⟨0, 0, q1, q2, false, x13, (IntKind.wrap .i64 (q3 + 10))⟩ : E51)]).length ≤ 4691249611689)) (some (x13, (q0_log ++ [(⟨0, 0, q1, q2, false, x13, (IntKind.wrap .i64 (q3 + 10))⟩ : E51)]))) none))
def o_tFetch (q0 : Nat) (q0_log_p : Option Addr) (q0_log_c : Nat) (q0_bytes : Nat → Int) (q0_log : List E51) (q1 q2 q3 : Int) (w0 : World) : O_tFetch → Ending → World → Prop
  | (r0, r_xs_cell_q0_1), e, w => ∃ (r_p_cell_q0_1 : Option Addr), ∃ (r_c_cell_q0_1 : Nat), e = .returned (.U r0) ∧ Now (Foot [sbox q0 [.r .u8 4096 q0_bytes, .c (.slice q0_log_p q0_log.length q0_log_c)] 49, arr el51 q0_log_p q0_log_c q0_log]) w0 w [sbox q0 [.r .u8 4096 q0_bytes, .c (.slice r_p_cell_q0_1 r_xs_cell_q0_1.length r_c_cell_q0_1)] 49, arr el51 r_p_cell_q0_1 r_c_cell_q0_1 r_xs_cell_q0_1]
set_option maxRecDepth 100000 in
set_option maxHeartbeats 4000000 in
theorem t_tFetch {q0 : Nat} {q0_log_p : Option Addr} {q0_log_c : Nat} {q0_bytes : Nat → Int} {q0_log : List E51} {q1 q2 q3 : Int} {w0 : World} {r : O_tFetch} (hf : f_tFetch q0_bytes q0_log q1 q2 q3 = some r) (hp : Hp w0 [sbox q0 [.r .u8 4096 q0_bytes, .c (.slice q0_log_p q0_log.length q0_log_c)] 49, arr el51 q0_log_p q0_log_c q0_log]) : Calls Tryz.prog 324 #[.P q0, .U q1, .I q2, .I q3] w0 (o_tFetch q0 q0_log_p q0_log_c q0_bytes q0_log q1 q2 q3 w0 r) := by
  apply c_tFetch q0 q1 q2 q3
  unfold p_tFetch
  unfold f_tFetch at hf
  have n0 : Now (Foot [sbox q0 [.r .u8 4096 q0_bytes, .c (.slice q0_log_p q0_log.length q0_log_c)] 49, arr el51 q0_log_p q0_log_c q0_log]) w0 w0 [sbox q0 [.r .u8 4096 q0_bytes, .c (.slice q0_log_p q0_log.length q0_log_c)] 49, arr el51 q0_log_p q0_log_c q0_log] := Now.start hp
  exact (
  have n1 := n0.front1; have n2 := n1.front1; bindF hf (fun x13 h3 h5 => (t_tread h3 (n2.take [_, _])).mono fun _ w_1 ⟨e6, n7⟩ => ⟨x13, e6, have n4 := n2.call [_, _] n7; ⟨q0_log_p, q0_log.length, q0_log_c, Now.sC n4 1 rfl rfl, n4.Nw (cs := [.I 0, .I 0, .U q1, .I q2, .F, .U x13, .I (IntKind.wrap .i64 (q3 + 10))]) fun b w_2 n8 => chkE h5 fun c10 h11 => Now.appendN (⟨Tryz.underlying47, ⟨_, _, rfl, rfl, rfl, rfl, by decide, by decide⟩⟩ : ElemN Tryz.prog 47 51 (El.z el51) 4691249611689) (n8.front2) (box_reads (xs := [(⟨0, 0, q1, q2, false, x13, (IntKind.wrap .i64 (q3 + 10))⟩ : E51)]) n8.hp.1 rfl) rfl (of_decide_eq_true c10) fun x26 x26c w_3 n9 => Now.sStC (n9.front2) 1 rfl rfl fun w_4 n12 => have n13 := n12.front1; have n14 := n13.front1; have n15 := n14.takeN 2; leafF (α := O_tFetch) (x := (x13, (q0_log ++ [(⟨0, 0, q1, q2, false, x13, (IntKind.wrap .i64 (q3 + 10))⟩ : E51)]))) (G := fun r => o_tFetch _ _ _ _ _ _ _ _ w0 r (.returned (.U x13)) w_4) h11 ⟨x26, x26c, rfl, n15⟩⟩⟩))

/-! (*cameo/cameolaw25.tape).Load -/
abbrev n_tLoad : FuncId := 326
def ann_tLoad : Ann := ⟨[], [], []⟩
set_option maxRecDepth 100000 in
def p_tLoad (q0 : Nat) (q1 q2 q3 : Int) (R : Ending → World → Prop) (w : World) : Prop :=
  (Calls Tryz.prog 329 #[.P q0, .U q1, .I q2] w fun e w_1 => ∃ (x13 : Int), e = .returned (.U x13) ∧ (∃ (x18 : Option Addr) (x18n x18c : Nat),
  w_1.cell? ⟨q0, 4096, none⟩ = some (.slice x18 x18n x18c) ∧ Nw w_1 (.cells #[.I 0, .I 0, .U q1, .I q2, .F, .U x13, .I q3] 51) fun b w_2 => (∃ (x25 :
  Option Addr) (x25n x25c : Nat), ∃ w_3, (Builtin.append_ #[47, 47] 47 #[.slice x18 x18n x18c, .slice (some ⟨b, 0, none⟩) 1 1]).run Tryz.prog w_2 = .ok (.slice x25 x25n x25c) w_3 ∧ St w_3 ⟨q0,
  4096, none⟩ (.slice x25 x25n x25c) fun w_4 => R (.returned (.U x13)) w_4)))
set_option maxRecDepth 100000 in
theorem v_tLoad (q0 : Nat) (q1 q2 q3 : Int) (R : Ending → World → Prop) (w : World) :
  vc Tryz.prog ann_tLoad (Tryz.f326.body.getD .skip) (retQ Tryz.prog Tryz.f326.results.toList R) (initFr [.P q0, .U q1, .I q2, .I q3] Tryz.f326.ntmps) w = p_tLoad q0 q1 q2 q3 R w := by kernel_rfl
theorem c_tLoad (q0 : Nat) (q1 q2 q3 : Int) (R : Ending → World → Prop) (w : World) (h : p_tLoad q0 q1 q2 q3 R w) : Calls Tryz.prog 326 #[.P q0, .U q1, .I q2, .I q3] w R :=
  calls_by (P := Tryz.prog) (f := 326) (fn := Tryz.f326) (c := Tryz.f326.body.getD .skip) (args := [.P q0, .U q1, .I q2, .I q3]) (w := w) (R := R) (p := p_tLoad q0 q1 q2 q3 R w) ann_tLoad Tryz.func326 rfl (v_tLoad q0 q1 q2 q3 R w) h
abbrev O_tLoad := (Int × (List E51))
set_option maxRecDepth 100000 in
noncomputable def f_tLoad (q0_bytes : Nat → Int) (q0_log : List E51) (q1 q2 q3 : Int) : Option O_tLoad :=
  ((f_tread q0_bytes q0_log q1 q2).bind fun (x13 : O_tread) => (cond (decide ((q0_log ++ [(⟨0, 0, q1, q2, false, x13, q3⟩ : E51)]).length ≤ 4691249611689)) (some (x13, (q0_log ++ [(⟨0, 0, q1, q2, false, x13, q3⟩ : E51)]))) none))
def o_tLoad (q0 : Nat) (q0_log_p : Option Addr) (q0_log_c : Nat) (q0_bytes : Nat → Int) (q0_log : List E51) (q1 q2 q3 : Int) (w0 : World) : O_tLoad → Ending → World → Prop
  | (r0, r_xs_cell_q0_1), e, w => ∃ (r_p_cell_q0_1 : Option Addr), ∃ (r_c_cell_q0_1 : Nat), e = .returned (.U r0) ∧ Now (Foot [sbox q0 [.r .u8 4096 q0_bytes, .c (.slice q0_log_p q0_log.length q0_log_c)] 49, arr el51 q0_log_p q0_log_c q0_log]) w0 w [sbox q0 [.r .u8 4096 q0_bytes, .c (.slice r_p_cell_q0_1 r_xs_cell_q0_1.length r_c_cell_q0_1)] 49, arr el51 r_p_cell_q0_1 r_c_cell_q0_1 r_xs_cell_q0_1]
set_option maxRecDepth 100000 in
set_option maxHeartbeats 4000000 in
theorem t_tLoad {q0 : Nat} {q0_log_p : Option Addr} {q0_log_c : Nat} {q0_bytes : Nat → Int} {q0_log : List E51} {q1 q2 q3 : Int} {w0 : World} {r : O_tLoad} (hf : f_tLoad q0_bytes q0_log q1 q2 q3 = some r) (hp : Hp w0 [sbox q0 [.r .u8 4096 q0_bytes, .c (.slice q0_log_p q0_log.length q0_log_c)] 49, arr el51 q0_log_p q0_log_c q0_log]) : Calls Tryz.prog 326 #[.P q0, .U q1, .I q2, .I q3] w0 (o_tLoad q0 q0_log_p q0_log_c q0_bytes q0_log q1 q2 q3 w0 r) := by
  apply c_tLoad q0 q1 q2 q3
  unfold p_tLoad
  unfold f_tLoad at hf
  have n0 : Now (Foot [sbox q0 [.r .u8 4096 q0_bytes, .c (.slice q0_log_p q0_log.length q0_log_c)] 49, arr el51 q0_log_p q0_log_c q0_log]) w0 w0 [sbox q0 [.r .u8 4096 q0_bytes, .c (.slice q0_log_p q0_log.length q0_log_c)] 49, arr el51 q0_log_p q0_log_c q0_log] := Now.start hp
  exact (
  have n1 := n0.front1; have n2 := n1.front1; bindF hf (fun x13 h3 h5 => (t_tread h3 (n2.take [_, _])).mono fun _ w_1 ⟨e6, n7⟩ => ⟨x13, e6, have n4 := n2.call [_, _] n7; ⟨q0_log_p, q0_log.length, q0_log_c, Now.sC n4 1 rfl rfl, n4.Nw (cs := [.I 0, .I 0, .U q1, .I q2, .F, .U x13, .I q3]) fun b w_2 n8 => chkE h5 fun c10 h11 => Now.appendN (⟨Tryz.underlying47, ⟨_, _, rfl, rfl, rfl, rfl, by decide, by decide⟩⟩ : ElemN Tryz.prog 47 51 (El.z el51) 4691249611689) (n8.front2) (box_reads (xs := [(⟨0, 0, q1, q2, false, x13, q3⟩ : E51)]) n8.hp.1 rfl) rfl (of_decide_eq_true c10) fun x25 x25c w_3 n9 => Now.sStC (n9.front2) 1 rfl rfl fun w_4 n12 => have n13 := n12.front1; have n14 := n13.front1; have n15 := n14.takeN 2; leafF (α := O_tLoad) (x := (x13, (q0_log ++ [(⟨0, 0, q1, q2, false, x13, q3⟩ : E51)]))) (G := fun r => o_tLoad _ _ _ _ _ _ _ _ w0 r (.returned (.U x13)) w_4) h11 ⟨x25, x25c, rfl, n15⟩⟩⟩))

/-! (*cameo/cameolaw25.tape).Store -/
abbrev n_tStore : FuncId := 328
def ann_tStore : Ann := ⟨[(4, .tail 14)], [(2, [(26, .one (.int .i64))])], []⟩
set_option maxRecDepth 100000 in
def p_tStore (q0 : Nat) (q1 q2 q3 q4 : Int) (R : Ending → World → Prop) (w : World) : Prop :=
  (∃ (x15 : Option Addr) (x15n x15c : Nat), w.cell? ⟨q0, 4096, none⟩ = some (.slice x15 x15n x15c) ∧ Nw w (.cells #[.I 0, .I 0, .U q1, .I q2, .bool true, .U q4, .I q3] 51) fun b w_1 => (∃ (x22 : Option Addr) (x22n x22c : Nat), ∃ w_2, (Builtin.append_ #[47, 47] 47 #[.slice x15 x15n x15c, .slice (some ⟨b, 0, none⟩) 1 1]).run Tryz.prog w_1 =
  .ok (.slice x22 x22n x22c) w_2 ∧ St w_2 ⟨q0, 4096, none⟩ (.slice x22 x22n x22c) fun w_3 => (∃ I : Nat → List Value → World → Prop, (∃ n, I n [.I 0] w_3) ∧ ∀ n, ∀ (s26 : Int) (w_4 : World), I
  n [.I s26] w_4 → cond (decide (s26 < q2)) (chk (decide (0 ≤ (IntKind.wrap .i64 (8 * s26)))) (chk (decide (0 ≤ (bits .and .u32 (IntKind.wrap .u32 (q1 + (IntKind.wrap .u32 s26))) 4095)) &&
  decide ((bits .and .u32 (IntKind.wrap .u32 (q1 + (IntKind.wrap .u32 s26))) 4095) < ((4096 : Nat) : Int))) (Lt (((⟨q0, 0, none⟩ : Addr).add ((bits .and .u32 (IntKind.wrap .u32 (q1 + (IntKind.wrap
  .u32 s26))) 4095).toNat * 1)) : Addr) fun a42 => St (w_4.drewN 1) a42 (.int .u8 (IntKind.wrap .u8 (Int.fdiv q4 (2 ^ (min (IntKind.wrap .i64 (8 * s26)).toNat 32))))) fun w_5 => (∃ m, m < n ∧ I m
  [.I (IntKind.wrap .i64 (s26 + 1))] w_5)))) (R (.returned (.tuple #[])) w_4))))
set_option maxRecDepth 100000 in
theorem v_tStore (q0 : Nat) (q1 q2 q3 q4 : Int) (R : Ending → World → Prop) (w : World) :
  vc Tryz.prog ann_tStore (Tryz.f328.body.getD .skip) (retQ Tryz.prog Tryz.f328.results.toList R) (initFr [.P q0, .U q1, .I q2, .I q3, .U q4] Tryz.f328.ntmps) w = p_tStore q0 q1 q2 q3 q4 R w := by kernel_rfl
theorem c_tStore (q0 : Nat) (q1 q2 q3 q4 : Int) (R : Ending → World → Prop) (w : World) (h : p_tStore q0 q1 q2 q3 q4 R w) : Calls Tryz.prog 328 #[.P q0, .U q1, .I q2, .I q3, .U q4] w R :=
  calls_by (P := Tryz.prog) (f := 328) (fn := Tryz.f328) (c := Tryz.f328.body.getD .skip) (args := [.P q0, .U q1, .I q2, .I q3, .U q4]) (w := w) (R := R) (p := p_tStore q0 q1 q2 q3 q4 R w) ann_tStore Tryz.func328 rfl (v_tStore q0 q1 q2 q3 q4 R w) h
abbrev O_tStore := ((Nat → Int) × (List E51))
set_option maxRecDepth 100000 in
noncomputable def f_tStore (q0_bytes : Nat → Int) (q0_log : List E51) (q1 q2 q3 q4 : Int) : Option O_tStore :=
  (cond (decide ((q0_log ++ [(⟨0, 0, q1, q2, true, q4, q3⟩ : E51)]).length ≤ 4691249611689)) (loopO (fun (s : (Int × (Nat → Int))) => match s with | (s26, I_q0_0) => ((cond (decide (s26 < q2)) (cond ((decide (0 ≤ (IntKind.wrap .i64 (8 * s26))))) (cond ((decide (0 ≤ (bits .and .u32 (IntKind.wrap .u32 (q1 + (IntKind.wrap .u32 s26))) 4095)) && decide ((bits .and .u32 (IntKind.wrap .u32 (q1 + (IntKind.wrap .u32 s26))) 4095) < ((4096 : Nat) : Int)))) (some (.inl ((IntKind.wrap .i64 (s26 + 1)), (rup I_q0_0 ((bits .and .u32 (IntKind.wrap .u32 (q1 + (IntKind.wrap .u32 s26))) 4095).toNat) (IntKind.wrap .u8 (Int.fdiv q4 (2 ^ (min (IntKind.wrap .i64 (8 * s26)).toNat 32)))))))) none) none) (some (.inr (I_q0_0, (q0_log ++ [(⟨0, 0, q1, q2, true, q4, q3⟩ : E51)]))))) : Option ((Int × (Nat → Int)) ⊕ O_tStore))) (0, q0_bytes)) none)
def o_tStore (q0 : Nat) (q0_log_p : Option Addr) (q0_log_c : Nat) (q0_bytes : Nat → Int) (q0_log : List E51) (q1 q2 q3 q4 : Int) (w0 : World) : O_tStore → Ending → World → Prop
  | (r_q0_0, r_xs_cell_q0_1), e, w => ∃ (r_p_cell_q0_1 : Option Addr), ∃ (r_c_cell_q0_1 : Nat), e = .returned (.tuple #[]) ∧ Now (Foot [sbox q0 [.r .u8 4096 q0_bytes, .c (.slice q0_log_p q0_log.length q0_log_c)] 49, arr el51 q0_log_p q0_log_c q0_log]) w0 w [sbox q0 [.r .u8 4096 r_q0_0, .c (.slice r_p_cell_q0_1 r_xs_cell_q0_1.length r_c_cell_q0_1)] 49, arr el51 r_p_cell_q0_1 r_c_cell_q0_1 r_xs_cell_q0_1]
set_option maxRecDepth 100000 in
set_option maxHeartbeats 4000000 in
theorem t_tStore {q0 : Nat} {q0_log_p : Option Addr} {q0_log_c : Nat} {q0_bytes : Nat → Int} {q0_log : List E51} {q1 q2 q3 q4 : Int} {w0 : World} {r : O_tStore} (hf : f_tStore q0_bytes q0_log q1 q2 q3 q4 = some r) (hp : Hp w0 [sbox q0 [.r .u8 4096 q0_bytes, .c (.slice q0_log_p q0_log.length q0_log_c)] 49, arr el51 q0_log_p q0_log_c q0_log]) : Calls Tryz.prog 328 #[.P q0, .U q1, .I q2, .I q3, .U q4] w0 (o_tStore q0 q0_log_p q0_log_c q0_bytes q0_log q1 q2 q3 q4 w0 r) := by
  apply c_tStore q0 q1 q2 q3 q4
  unfold p_tStore
  unfold f_tStore at hf
  have n0 : Now (Foot [sbox q0 [.r .u8 4096 q0_bytes, .c (.slice q0_log_p q0_log.length q0_log_c)] 49, arr el51 q0_log_p q0_log_c q0_log]) w0 w0 [sbox q0 [.r .u8 4096 q0_bytes, .c (.slice q0_log_p q0_log.length q0_log_c)] 49, arr el51 q0_log_p q0_log_c q0_log] := Now.start hp
  exact (
  ⟨q0_log_p, q0_log.length, q0_log_c, Now.sC n0 1 rfl rfl, n0.Nw (cs := [.I 0, .I 0, .U q1, .I q2, .bool true, .U q4, .I q3]) fun b w_1 n1 => chkE hf fun c3 h4 => Now.appendN (⟨Tryz.underlying47, ⟨_, _, rfl, rfl, rfl, rfl, by decide, by decide⟩⟩ : ElemN Tryz.prog 47 51 (El.z el51) 4691249611689) (n1.front2) (box_reads (xs := [(⟨0, 0, q1, q2, true, q4, q3⟩ : E51)]) n1.hp.1 rfl) rfl (of_decide_eq_true c3) fun x22 x22c w_2 n2 => Now.sStC (n2.front2) 1 rfl rfl fun w_3 n5 => loopF h4 fun It6 t7 h8 => ⟨fun nI vsI wI => match vsI with | [.I s26] => ∃ (I_q0_0 : Nat → Int), Now (Foot [sbox q0 [.r .u8 4096 q0_bytes, .c (.slice q0_log_p q0_log.length q0_log_c)] 49, arr el51 q0_log_p q0_log_c q0_log]) w0 wI [sbox q0 [.r .u8 4096 I_q0_0, .c (.slice x22 ((q0_log ++ [(⟨0, 0, q1, q2, true, q4, q3⟩ : E51)]).length) x22c)] 49, box b [.I 0, .I 0, .U q1, .I q2, .bool true, .U q4, .I q3] 51, arr el51 x22 x22c (q0_log ++ [(⟨0, 0, q1, q2, true, q4, q3⟩ : E51)])] ∧ It6 nI (s26, I_q0_0) | _ => False, (h8.elim fun n35 i34 => have n14 := n5.front1; have n15 := n14.front2; have n16 := n15.front2; ⟨n35, ⟨q0_bytes, n16, i34⟩⟩), fun n s26 w_4 ⟨I_q0_0, n12, t13⟩ => (t7 _ _ t13).elim fun x9 ⟨h10, t11⟩ => condF h10 (fun c17 h18 => have n19 := n12.drewN 1; chkF h18 fun c20 h21 => chkF h21 fun c22 h23 => LtI (Now.sStR n19 0 rfl rfl (o := 0) (i := (bits .and .u32 (IntKind.wrap .u32 (q1 + (IntKind.wrap .u32 s26))) 4095).toNat) (segB1 c22 rfl) segA1i fun w_5 n24 => have n25 := n24.front2; have n26 := n25.front2; have n27 := n26.front2; (loopCont h23 t11).elim fun m28 i29 => ⟨m28, i29.1, ⟨(rup I_q0_0 ((bits .and .u32 (IntKind.wrap .u32 (q1 + (IntKind.wrap .u32 s26))) 4095).toNat) (IntKind.wrap .u8 (Int.fdiv q4 (2 ^ (min (IntKind.wrap .i64 (8 * s26)).toNat 32))))), n27, i29.2⟩⟩)) (fun c17 h30 => have n31 := n12.front2; have n32 := n31.front1; have n33 := n32.takeN 2; leafF (α := O_tStore) (x := (I_q0_0, (q0_log ++ [(⟨0, 0, q1, q2, true, q4, q3⟩ : E51)]))) (G := fun r => o_tStore _ _ _ _ _ _ _ _ _ w0 r (.returned (.tuple #[])) w_4) (loopExit h30 t11) ⟨x22, x22c, rfl, n33⟩)⟩⟩)

/-! (*cameo/cameolaw25.tape).Idle -/
abbrev n_tIdle : FuncId := 325
def ann_tIdle : Ann := ⟨[], [], []⟩
set_option maxRecDepth 100000 in
def p_tIdle (q0 : Nat) (q1 : Int) (R : Ending → World → Prop) (w : World) : Prop :=
  (∃ (x8 : Option Addr) (x8n x8c : Nat), w.cell? ⟨q0, 4096, none⟩ = some (.slice x8 x8n x8c) ∧ Nw w (.cells #[.I 0, .I 0, .U 0, .I q1, .F, .U 0,
  .I 2] 51) fun b w_1 => (∃ (x12 : Option Addr) (x12n x12c : Nat), ∃ w_2, (Builtin.append_ #[47, 47] 47 #[.slice x8 x8n x8c, .slice (some ⟨b, 0, none⟩) 1 1]).run Tryz.prog w_1 = .ok
  (.slice x12 x12n x12c) w_2 ∧ St w_2 ⟨q0, 4096, none⟩ (.slice x12 x12n x12c) fun w_3 => R (.returned (.tuple #[])) w_3))
set_option maxRecDepth 100000 in
theorem v_tIdle (q0 : Nat) (q1 : Int) (R : Ending → World → Prop) (w : World) :
  vc Tryz.prog ann_tIdle (Tryz.f325.body.getD .skip) (retQ Tryz.prog Tryz.f325.results.toList R) (initFr [.P q0, .I q1] Tryz.f325.ntmps) w = p_tIdle q0 q1 R w := by kernel_rfl
theorem c_tIdle (q0 : Nat) (q1 : Int) (R : Ending → World → Prop) (w : World) (h : p_tIdle q0 q1 R w) : Calls Tryz.prog 325 #[.P q0, .I q1] w R :=
  calls_by (P := Tryz.prog) (f := 325) (fn := Tryz.f325) (c := Tryz.f325.body.getD .skip) (args := [.P q0, .I q1]) (w := w) (R := R) (p := p_tIdle q0 q1 R w) ann_tIdle Tryz.func325 rfl (v_tIdle q0 q1 R w) h
abbrev O_tIdle := (List E51)
set_option maxRecDepth 100000 in
noncomputable def f_tIdle (q0_bytes : Nat → Int) (q0_log : List E51) (q1 : Int) : Option O_tIdle :=
  (cond (decide ((q0_log ++ [(⟨0, 0, 0, q1, false, 0, (2 : Int)⟩ : E51)]).length ≤ 4691249611689)) (some (q0_log ++ [(⟨0, 0, 0, q1, false, 0, (2 : Int)⟩ : E51)])) none)
def o_tIdle (q0 : Nat) (q0_log_p : Option Addr) (q0_log_c : Nat) (q0_bytes : Nat → Int) (q0_log : List E51) (q1 : Int) (w0 : World) : O_tIdle → Ending → World → Prop
  | r_xs_cell_q0_1, e, w => ∃ (r_p_cell_q0_1 : Option Addr), ∃ (r_c_cell_q0_1 : Nat), e = .returned (.tuple #[]) ∧ Now (Foot [sbox q0 [.r .u8 4096 q0_bytes, .c (.slice q0_log_p q0_log.length q0_log_c)] 49, arr el51 q0_log_p q0_log_c q0_log]) w0 w [sbox q0 [.r .u8 4096 q0_bytes, .c (.slice r_p_cell_q0_1 r_xs_cell_q0_1.length r_c_cell_q0_1)] 49, arr el51 r_p_cell_q0_1 r_c_cell_q0_1 r_xs_cell_q0_1]
set_option maxRecDepth 100000 in
set_option maxHeartbeats 4000000 in
theorem t_tIdle {q0 : Nat} {q0_log_p : Option Addr} {q0_log_c : Nat} {q0_bytes : Nat → Int} {q0_log : List E51} {q1 : Int} {w0 : World} {r : O_tIdle} (hf : f_tIdle q0_bytes q0_log q1 = some r) (hp : Hp w0 [sbox q0 [.r .u8 4096 q0_bytes, .c (.slice q0_log_p q0_log.length q0_log_c)] 49, arr el51 q0_log_p q0_log_c q0_log]) : Calls Tryz.prog 325 #[.P q0, .I q1] w0 (o_tIdle q0 q0_log_p q0_log_c q0_bytes q0_log q1 w0 r) := by
  apply c_tIdle q0 q1
  unfold p_tIdle
  unfold f_tIdle at hf
  have n0 : Now (Foot [sbox q0 [.r .u8 4096 q0_bytes, .c (.slice q0_log_p q0_log.length q0_log_c)] 49, arr el51 q0_log_p q0_log_c q0_log]) w0 w0 [sbox q0 [.r .u8 4096 q0_bytes, .c (.slice q0_log_p q0_log.length q0_log_c)] 49, arr el51 q0_log_p q0_log_c q0_log] := Now.start hp
  exact (
  ⟨q0_log_p, q0_log.length, q0_log_c, Now.sC n0 1 rfl rfl, n0.Nw (cs := [.I 0, .I 0, .U 0, .I q1, .F, .U 0, .I 2]) fun b w_1 n1 => chkE hf fun c3 h4 => Now.appendN (⟨Tryz.underlying47, ⟨_, _, rfl, rfl, rfl, rfl, by decide, by decide⟩⟩ : ElemN Tryz.prog 47 51 (El.z el51) 4691249611689) (n1.front2) (box_reads (xs := [(⟨0, 0, 0, q1, false, 0, (2 : Int)⟩ : E51)]) n1.hp.1 rfl) rfl (of_decide_eq_true c3) fun x12 x12c w_2 n2 => Now.sStC (n2.front2) 1 rfl rfl fun w_3 n5 => have n6 := n5.front1; have n7 := n6.front1; have n8 := n7.takeN 2; leafF (α := O_tIdle) (x := (q0_log ++ [(⟨0, 0, 0, q1, false, 0, (2 : Int)⟩ : E51)])) (G := fun r => o_tIdle _ _ _ _ _ _ w0 r (.returned (.tuple #[])) w_3) h4 ⟨x12, x12c, rfl, n8⟩⟩)

/-! (*cameo/cpu.CPU).thumbed -/
abbrev n_thumbed : FuncId := 59
def ann_thumbed : Ann := ⟨[], [], []⟩
set_option maxRecDepth 100000 in
def p_thumbed (q0 : Nat) (R : Ending → World → Prop) (w : World) : Prop :=
  (∃ (x6 : Option Addr), w.cell? ⟨q0, 0, none⟩ = some (.pointer x6) ∧ (Calls Tryz.prog 17 #[.pointer x6] w fun e w_1 => ∃ (x7 : Int), e = .returned (.U x7) ∧ R (.returned (.bool ((bits .and
  .u32 (Int.fdiv x7 32) 1) == 1))) w_1))
set_option maxRecDepth 100000 in
theorem v_thumbed (q0 : Nat) (R : Ending → World → Prop) (w : World) :
  vc Tryz.prog ann_thumbed (Tryz.f59.body.getD .skip) (retQ Tryz.prog Tryz.f59.results.toList R) (initFr [.P q0] Tryz.f59.ntmps) w = p_thumbed q0 R w := by kernel_rfl
theorem c_thumbed (q0 : Nat) (R : Ending → World → Prop) (w : World) (h : p_thumbed q0 R w) : Calls Tryz.prog 59 #[.P q0] w R :=
  calls_by (P := Tryz.prog) (f := 59) (fn := Tryz.f59) (c := Tryz.f59.body.getD .skip) (args := [.P q0]) (w := w) (R := R) (p := p_thumbed q0 R w) ann_thumbed Tryz.func59 rfl (v_thumbed q0 R w) h
abbrev O_thumbed := Bool
set_option maxRecDepth 100000 in
noncomputable def f_thumbed (q0_pipe_0 q0_pipe_1 : Int) (q0_after q0_moved : Bool) (q0_Bank_b_r q0_Bank_b_other q0_Bank_b_high q0_Bank_b_saved : Nat → Int) (q0_Bank_b_cpsr : Int) (q0_bus_b_bytes : Nat → Int) (q0_bus_b_log : List E51) : Option O_thumbed :=
  ((f_Status q0_Bank_b_r q0_Bank_b_other q0_Bank_b_high q0_Bank_b_saved q0_Bank_b_cpsr).bind fun (x7 : O_Status) => (some ((bits .and .u32 (Int.fdiv x7 32) 1) == 1)))
def o_thumbed (q0 q0_Bank_b q0_bus_b : Nat) (q0_bus_b_log_p : Option Addr) (q0_bus_b_log_c : Nat) (q0_pipe_0 q0_pipe_1 : Int) (q0_after q0_moved : Bool) (q0_Bank_b_r q0_Bank_b_other q0_Bank_b_high q0_Bank_b_saved : Nat → Int) (q0_Bank_b_cpsr : Int) (q0_bus_b_bytes : Nat → Int) (q0_bus_b_log : List E51) (w0 : World) : O_thumbed → Ending → World → Prop
  | r0, e, w => e = .returned (.bool r0) ∧ Now (Foot [box q0 [.P q0_Bank_b, .iface 31 (.P q0_bus_b), .U q0_pipe_0, .U q0_pipe_1, .bool q0_after, .bool q0_moved, .func (.func 40) #[] #[], .func (.func 41) #[] #[], .func (.func 42) #[] #[], .func (.func 43) #[] #[], .func (.func 44) #[] #[], .func (.func 45) #[] #[], .func (.func 46) #[] #[], .func (.func 47) #[] #[], .func (.func 48) #[] #[], .func (.func 49) #[] #[], .func (.func 50) #[] #[], .func (.func 51) #[] #[], .func (.func 52) #[] #[], .func (.func 53) #[] #[]] 45, sbox q0_Bank_b [.r .u32 16 q0_Bank_b_r, .r .u32 12 q0_Bank_b_other, .r .u32 10 q0_Bank_b_high, .r .u32 6 q0_Bank_b_saved, .c (.U q0_Bank_b_cpsr)] 111, sbox q0_bus_b [.r .u8 4096 q0_bus_b_bytes, .c (.slice q0_bus_b_log_p q0_bus_b_log.length q0_bus_b_log_c)] 49, arr el51 q0_bus_b_log_p q0_bus_b_log_c q0_bus_b_log]) w0 w [box q0 [.P q0_Bank_b, .iface 31 (.P q0_bus_b), .U q0_pipe_0, .U q0_pipe_1, .bool q0_after, .bool q0_moved, .func (.func 40) #[] #[], .func (.func 41) #[] #[], .func (.func 42) #[] #[], .func (.func 43) #[] #[], .func (.func 44) #[] #[], .func (.func 45) #[] #[], .func (.func 46) #[] #[], .func (.func 47) #[] #[], .func (.func 48) #[] #[], .func (.func 49) #[] #[], .func (.func 50) #[] #[], .func (.func 51) #[] #[], .func (.func 52) #[] #[], .func (.func 53) #[] #[]] 45, sbox q0_Bank_b [.r .u32 16 q0_Bank_b_r, .r .u32 12 q0_Bank_b_other, .r .u32 10 q0_Bank_b_high, .r .u32 6 q0_Bank_b_saved, .c (.U q0_Bank_b_cpsr)] 111, sbox q0_bus_b [.r .u8 4096 q0_bus_b_bytes, .c (.slice q0_bus_b_log_p q0_bus_b_log.length q0_bus_b_log_c)] 49, arr el51 q0_bus_b_log_p q0_bus_b_log_c q0_bus_b_log]
set_option maxRecDepth 100000 in
set_option maxHeartbeats 4000000 in
theorem t_thumbed {q0 q0_Bank_b q0_bus_b : Nat} {q0_bus_b_log_p : Option Addr} {q0_bus_b_log_c : Nat} {q0_pipe_0 q0_pipe_1 : Int} {q0_after q0_moved : Bool} {q0_Bank_b_r q0_Bank_b_other q0_Bank_b_high q0_Bank_b_saved : Nat → Int} {q0_Bank_b_cpsr : Int} {q0_bus_b_bytes : Nat → Int} {q0_bus_b_log : List E51} {w0 : World} {r : O_thumbed} (hf : f_thumbed q0_pipe_0 q0_pipe_1 q0_after q0_moved q0_Bank_b_r q0_Bank_b_other q0_Bank_b_high q0_Bank_b_saved q0_Bank_b_cpsr q0_bus_b_bytes q0_bus_b_log = some r) (hp : Hp w0 [box q0 [.P q0_Bank_b, .iface 31 (.P q0_bus_b), .U q0_pipe_0, .U q0_pipe_1, .bool q0_after, .bool q0_moved, .func (.func 40) #[] #[], .func (.func 41) #[] #[], .func (.func 42) #[] #[], .func (.func 43) #[] #[], .func (.func 44) #[] #[], .func (.func 45) #[] #[], .func (.func 46) #[] #[], .func (.func 47) #[] #[], .func (.func 48) #[] #[], .func (.func 49) #[] #[], .func (.func 50) #[] #[], .func (.func 51) #[] #[], .func (.func 52) #[] #[], .func (.func 53) #[] #[]] 45, sbox q0_Bank_b [.r .u32 16 q0_Bank_b_r, .r .u32 12 q0_Bank_b_other, .r .u32 10 q0_Bank_b_high, .r .u32 6 q0_Bank_b_saved, .c (.U q0_Bank_b_cpsr)] 111, sbox q0_bus_b [.r .u8 4096 q0_bus_b_bytes, .c (.slice q0_bus_b_log_p q0_bus_b_log.length q0_bus_b_log_c)] 49, arr el51 q0_bus_b_log_p q0_bus_b_log_c q0_bus_b_log]) : Calls Tryz.prog 59 #[.P q0] w0 (o_thumbed q0 q0_Bank_b q0_bus_b q0_bus_b_log_p q0_bus_b_log_c q0_pipe_0 q0_pipe_1 q0_after q0_moved q0_Bank_b_r q0_Bank_b_other q0_Bank_b_high q0_Bank_b_saved q0_Bank_b_cpsr q0_bus_b_bytes q0_bus_b_log w0 r) := by
  apply c_thumbed q0
  unfold p_thumbed
  unfold f_thumbed at hf
  have n0 : Now (Foot [box q0 [.P q0_Bank_b, .iface 31 (.P q0_bus_b), .U q0_pipe_0, .U q0_pipe_1, .bool q0_after, .bool q0_moved, .func (.func 40) #[] #[], .func (.func 41) #[] #[], .func (.func 42) #[] #[], .func (.func 43) #[] #[], .func (.func 44) #[] #[], .func (.func 45) #[] #[], .func (.func 46) #[] #[], .func (.func 47) #[] #[], .func (.func 48) #[] #[], .func (.func 49) #[] #[], .func (.func 50) #[] #[], .func (.func 51) #[] #[], .func (.func 52) #[] #[], .func (.func 53) #[] #[]] 45, sbox q0_Bank_b [.r .u32 16 q0_Bank_b_r, .r .u32 12 q0_Bank_b_other, .r .u32 10 q0_Bank_b_high, .r .u32 6 q0_Bank_b_saved, .c (.U q0_Bank_b_cpsr)] 111, sbox q0_bus_b [.r .u8 4096 q0_bus_b_bytes, .c (.slice q0_bus_b_log_p q0_bus_b_log.length q0_bus_b_log_c)] 49, arr el51 q0_bus_b_log_p q0_bus_b_log_c q0_bus_b_log]) w0 w0 [box q0 [.P q0_Bank_b, .iface 31 (.P q0_bus_b), .U q0_pipe_0, .U q0_pipe_1, .bool q0_after, .bool q0_moved, .func (.func 40) #[] #[], .func (.func 41) #[] #[], .func (.func 42) #[] #[], .func (.func 43) #[] #[], .func (.func 44) #[] #[], .func (.func 45) #[] #[], .func (.func 46) #[] #[], .func (.func 47) #[] #[], .func (.func 48) #[] #[], .func (.func 49) #[] #[], .func (.func 50) #[] #[], .func (.func 51) #[] #[], .func (.func 52) #[] #[], .func (.func 53) #[] #[]] 45, sbox q0_Bank_b [.r .u32 16 q0_Bank_b_r, .r .u32 12 q0_Bank_b_other, .r .u32 10 q0_Bank_b_high, .r .u32 6 q0_Bank_b_saved, .c (.U q0_Bank_b_cpsr)] 111, sbox q0_bus_b [.r .u8 4096 q0_bus_b_bytes, .c (.slice q0_bus_b_log_p q0_bus_b_log.length q0_bus_b_log_c)] 49, arr el51 q0_bus_b_log_p q0_bus_b_log_c q0_bus_b_log] := Now.start hp
  exact (
  ⟨(some ⟨q0_Bank_b, 0, none⟩), n0.cell 0 rfl, have n1 := n0.front1; bindF hf (fun x7 h2 h4 => (t_Status h2 (n1.take [_])).mono fun _ w_1 ⟨e5, n6⟩ => ⟨x7, e5, have n3 := n1.call [_] n6; have n7 := n3.front3; have n8 := n7.front3; have n9 := n8.front2; have n10 := n9.front3; leafF (α := O_thumbed) (x := ((bits .and .u32 (Int.fdiv x7 32) 1) == 1)) (G := fun r => o_thumbed _ _ _ _ _ _ _ _ _ _ _ _ _ _ _ _ w0 r (.returned (.bool ((bits .and .u32 (Int.fdiv x7 32) 1) == 1))) w_1) h4 ⟨rfl, n10⟩⟩)⟩)

/-! (*cameo/cpu.CPU).width -/
abbrev n_width : FuncId := 28
def ann_width : Ann := ⟨[], [], []⟩
set_option maxRecDepth 100000 in
def p_width (q0 : Nat) (R : Ending → World → Prop) (w : World) : Prop :=
  (Calls Tryz.prog 59 #[.P q0] w fun e w_1 => ∃ (x4 : Bool), e = .returned (.bool x4) ∧ cond x4 (R (.returned (.I 2)) w_1) (R (.returned (.I 4)) w_1))
set_option maxRecDepth 100000 in
theorem v_width (q0 : Nat) (R : Ending → World → Prop) (w : World) :
  vc Tryz.prog ann_width (Tryz.f28.body.getD .skip) (retQ Tryz.prog Tryz.f28.results.toList R) (initFr [.P q0] Tryz.f28.ntmps) w = p_width q0 R w := by kernel_rfl
theorem c_width (q0 : Nat) (R : Ending → World → Prop) (w : World) (h : p_width q0 R w) : Calls Tryz.prog 28 #[.P q0] w R :=
  calls_by (P := Tryz.prog) (f := 28) (fn := Tryz.f28) (c := Tryz.f28.body.getD .skip) (args := [.P q0]) (w := w) (R := R) (p := p_width q0 R w) ann_width Tryz.func28 rfl (v_width q0 R w) h
abbrev O_width := Int
set_option maxRecDepth 100000 in
noncomputable def f_width (q0_pipe_0 q0_pipe_1 : Int) (q0_after q0_moved : Bool) (q0_Bank_b_r q0_Bank_b_other q0_Bank_b_high q0_Bank_b_saved : Nat → Int) (q0_Bank_b_cpsr : Int) (q0_bus_b_bytes : Nat → Int) (q0_bus_b_log : List E51) : Option O_width :=
  ((f_thumbed q0_pipe_0 q0_pipe_1 q0_after q0_moved q0_Bank_b_r q0_Bank_b_other q0_Bank_b_high q0_Bank_b_saved q0_Bank_b_cpsr q0_bus_b_bytes q0_bus_b_log).bind fun (x4 : O_thumbed) => (cond x4 (some 2) (some 4)))
def o_width (q0 q0_Bank_b q0_bus_b : Nat) (q0_bus_b_log_p : Option Addr) (q0_bus_b_log_c : Nat) (q0_pipe_0 q0_pipe_1 : Int) (q0_after q0_moved : Bool) (q0_Bank_b_r q0_Bank_b_other q0_Bank_b_high q0_Bank_b_saved : Nat → Int) (q0_Bank_b_cpsr : Int) (q0_bus_b_bytes : Nat → Int) (q0_bus_b_log : List E51) (w0 : World) : O_width → Ending → World → Prop
  | r0, e, w => e = .returned (.I r0) ∧ Now (Foot [box q0 [.P q0_Bank_b, .iface 31 (.P q0_bus_b), .U q0_pipe_0, .U q0_pipe_1, .bool q0_after, .bool q0_moved, .func (.func 40) #[] #[], .func (.func 41) #[] #[], .func (.func 42) #[] #[], .func (.func 43) #[] #[], .func (.func 44) #[] #[], .func (.func 45) #[] #[], .func (.func 46) #[] #[], .func (.func 47) #[] #[], .func (.func 48) #[] #[], .func (.func 49) #[] #[], .func (.func 50) #[] #[], .func (.func 51) #[] #[], .func (.func 52) #[] #[], .func (.func 53) #[] #[]] 45, sbox q0_Bank_b [.r .u32 16 q0_Bank_b_r, .r .u32 12 q0_Bank_b_other, .r .u32 10 q0_Bank_b_high, .r .u32 6 q0_Bank_b_saved, .c (.U q0_Bank_b_cpsr)] 111, sbox q0_bus_b [.r .u8 4096 q0_bus_b_bytes, .c (.slice q0_bus_b_log_p q0_bus_b_log.length q0_bus_b_log_c)] 49, arr el51 q0_bus_b_log_p q0_bus_b_log_c q0_bus_b_log]) w0 w [box q0 [.P q0_Bank_b, .iface 31 (.P q0_bus_b), .U q0_pipe_0, .U q0_pipe_1, .bool q0_after, .bool q0_moved, .func (.func 40) #[] #[], .func (.func 41) #[] #[], .func (.func 42) #[] #[], .func (.func 43) #[] #[], .func (.func 44) #[] #[], .func (.func 45) #[] #[], .func (.func 46) #[] #[], .func (.func 47) #[] #[], .func (.func 48) #[] #[], .func (.func 49) #[] #[], .func (.func 50) #[] #[], .func (.func 51) #[] #[], .func (.func 52) #[] #[], .func (.func 53) #[] #[]] 45, sbox q0_Bank_b [.r .u32 16 q0_Bank_b_r, .r .u32 12 q0_Bank_b_other, .r .u32 10 q0_Bank_b_high, .r .u32 6 q0_Bank_b_saved, .c (.U q0_Bank_b_cpsr)] 111, sbox q0_bus_b [.r .u8 4096 q0_bus_b_bytes, .c (.slice q0_bus_b_log_p q0_bus_b_log.length q0_bus_b_log_c)] 49, arr el51 q0_bus_b_log_p q0_bus_b_log_c q0_bus_b_log]
set_option maxRecDepth 100000 in
set_option maxHeartbeats 4000000 in
theorem t_width {q0 q0_Bank_b q0_bus_b : Nat} {q0_bus_b_log_p : Option Addr} {q0_bus_b_log_c : Nat} {q0_pipe_0 q0_pipe_1 : Int} {q0_after q0_moved : Bool} {q0_Bank_b_r q0_Bank_b_other q0_Bank_b_high q0_Bank_b_saved : Nat → Int} {q0_Bank_b_cpsr : Int} {q0_bus_b_bytes : Nat → Int} {q0_bus_b_log : List E51} {w0 : World} {r : O_width} (hf : f_width q0_pipe_0 q0_pipe_1 q0_after q0_moved q0_Bank_b_r q0_Bank_b_other q0_Bank_b_high q0_Bank_b_saved q0_Bank_b_cpsr q0_bus_b_bytes q0_bus_b_log = some r) (hp : Hp w0 [box q0 [.P q0_Bank_b, .iface 31 (.P q0_bus_b), .U q0_pipe_0, .U q0_pipe_1, .bool q0_after, .bool q0_moved, .func (.func 40) #[] #[], .func (.func 41) #[] #[], .func (.func 42) #[] #[], .func (.func 43) #[] #[], .func (.func 44) #[] #[], .func (.func 45) #[] #[], .func (.func 46) #[] #[], .func (.func 47) #[] #[], .func (.func 48) #[] #[], .func (.func 49) #[] #[], .func (.func 50) #[] #[], .func (.func 51) #[] #[], .func (.func 52) #[] #[], .func (.func 53) #[] #[]] 45, sbox q0_Bank_b [.r .u32 16 q0_Bank_b_r, .r .u32 12 q0_Bank_b_other, .r .u32 10 q0_Bank_b_high, .r .u32 6 q0_Bank_b_saved, .c (.U q0_Bank_b_cpsr)] 111, sbox q0_bus_b [.r .u8 4096 q0_bus_b_bytes, .c (.slice q0_bus_b_log_p q0_bus_b_log.length q0_bus_b_log_c)] 49, arr el51 q0_bus_b_log_p q0_bus_b_log_c q0_bus_b_log]) : Calls Tryz.prog 28 #[.P q0] w0 (o_width q0 q0_Bank_b q0_bus_b q0_bus_b_log_p q0_bus_b_log_c q0_pipe_0 q0_pipe_1 q0_after q0_moved q0_Bank_b_r q0_Bank_b_other q0_Bank_b_high q0_Bank_b_saved q0_Bank_b_cpsr q0_bus_b_bytes q0_bus_b_log w0 r) := by
  apply c_width q0
  unfold p_width
  unfold f_width at hf
  have n0 : Now (Foot [box q0 [.P q0_Bank_b, .iface 31 (.P q0_bus_b), .U q0_pipe_0, .U q0_pipe_1, .bool q0_after, .bool q0_moved, .func (.func 40) #[] #[], .func (.func 41) #[] #[], .func (.func 42) #[] #[], .func (.func 43) #[] #[], .func (.func 44) #[] #[], .func (.func 45) #[] #[], .func (.func 46) #[] #[], .func (.func 47) #[] #[], .func (.func 48) #[] #[], .func (.func 49) #[] #[], .func (.func 50) #[] #[], .func (.func 51) #[] #[], .func (.func 52) #[] #[], .func (.func 53) #[] #[]] 45, sbox q0_Bank_b [.r .u32 16 q0_Bank_b_r, .r .u32 12 q0_Bank_b_other, .r .u32 10 q0_Bank_b_high, .r .u32 6 q0_Bank_b_saved, .c (.U q0_Bank_b_cpsr)] 111, sbox q0_bus_b [.r .u8 4096 q0_bus_b_bytes, .c (.slice q0_bus_b_log_p q0_bus_b_log.length q0_bus_b_log_c)] 49, arr el51 q0_bus_b_log_p q0_bus_b_log_c q0_bus_b_log]) w0 w0 [box q0 [.P q0_Bank_b, .iface 31 (.P q0_bus_b), .U q0_pipe_0, .U q0_pipe_1, .bool q0_after, .bool q0_moved, .func (.func 40) #[] #[], .func (.func 41) #[] #[], .func (.func 42) #[] #[], .func (.func 43) #[] #[], .func (.func 44) #[] #[], .func (.func 45) #[] #[], .func (.func 46) #[] #[], .func (.func 47) #[] #[], .func (.func 48) #[] #[], .func (.func 49) #[] #[], .func (.func 50) #[] #[], .func (.func 51) #[] #[], .func (.func 52) #[] #[], .func (.func 53) #[] #[]] 45, sbox q0_Bank_b [.r .u32 16 q0_Bank_b_r, .r .u32 12 q0_Bank_b_other, .r .u32 10 q0_Bank_b_high, .r .u32 6 q0_Bank_b_saved, .c (.U q0_Bank_b_cpsr)] 111, sbox q0_bus_b [.r .u8 4096 q0_bus_b_bytes, .c (.slice q0_bus_b_log_p q0_bus_b_log.length q0_bus_b_log_c)] 49, arr el51 q0_bus_b_log_p q0_bus_b_log_c q0_bus_b_log] := Now.start hp
  exact (
  have n1 := n0.front3; have n2 := n1.front3; have n3 := n2.front3; have n4 := n3.front3; bindF hf (fun x4 h5 h7 => (t_thumbed h5 (n4.take [_, _, _, _])).mono fun _ w_1 ⟨e8, n9⟩ => ⟨x4, e8, have n6 := n4.call [_, _, _, _] n9; condF h7 (fun c10 h11 => have n12 := n6.front3; have n13 := n12.front3; have n14 := n13.front3; have n15 := n14.front3; leafF (α := O_width) (x := 2) (G := fun r => o_width _ _ _ _ _ _ _ _ _ _ _ _ _ _ _ _ w0 r (.returned (.I 2)) w_1) h11 ⟨rfl, n15⟩) (fun c10 h16 => have n17 := n6.front3; have n18 := n17.front3; have n19 := n18.front3; have n20 := n19.front3; leafF (α := O_width) (x := 4) (G := fun r => o_width _ _ _ _ _ _ _ _ _ _ _ _ _ _ _ _ w0 r (.returned (.I 4)) w_1) h16 ⟨rfl, n20⟩)⟩))

/-! (*cameo/cpu.CPU).Jump -/
abbrev n_Jump : FuncId := 22
def ann_Jump : Ann := ⟨[(3, .phased [7, 11]), (4, .phased [10, 14])], [], []⟩
set_option maxRecDepth 100000 in
def p_Jump (q0 : Nat) (q1 : Int) (R : Ending → World → Prop) (w : World) : Prop :=
  (Calls Tryz.prog 28 #[.P q0] w fun e w_1 => ∃ (x8 : Int), e = .returned (.I x8) ∧ Lt ((bits .andNot .u32 q1 (IntKind.wrap .u32 (IntKind.wrap .i64 (x8 - 1)))) : Int)
  fun s1 => (∃ S : World → Prop, S (w_1.drewN 1) ∧ (∃ (x18 : Option Addr), (∀ w, S w → w.cell? ⟨q0, 1, none⟩ = some (.iface 31 (.pointer x18))) ∧ (Calls Tryz.prog 324 #[.pointer x18, .U s1,
  .I x8, .I 0] (w_1.drewN 1) fun e w_2 => ∃ (x21 : Int), e = .returned (.U x21) ∧ chk (decide (0 ≤ (0 : Int)) && decide ((0 : Int) < ((2 : Nat) : Int))) (St w_2 ⟨q0, 2, none⟩
  (.U x21) fun w_3 => (∃ S_1 : World → Prop, S_1 (w_3.drewN 1) ∧ (∃ (x29 : Option Addr), (∀ w, S_1 w → w.cell? ⟨q0, 1, none⟩ = some (.iface 31 (.pointer x29))) ∧ (Calls Tryz.prog 324 #[.pointer
  x29, .U (IntKind.wrap .u32 (s1 + (IntKind.wrap .u32 x8))), .I x8, .I 1] (w_3.drewN 1) fun e w_4 => ∃ (x35 : Int), e = .returned (.U x35) ∧ (S_1 w_4 ∧ chk (decide (0 ≤ (1
  : Int)) && decide ((1 : Int) < ((2 : Nat) : Int))) (St w_4 ⟨q0, 3, none⟩ (.U x35) fun w_5 => (∃ (x42 : Option Addr), w_5.cell? ⟨q0, 0, none⟩ = some (.pointer x42) ∧ (Calls Tryz.prog 25
  #[.pointer x42, .I 15, .U (IntKind.wrap .u32 (s1 + (IntKind.wrap .u32 (IntKind.wrap .i64 (2 * x8)))))] w_5 fun e w_6 => e = .returned (.tuple #[]) ∧ St w_6 ⟨q0, 4, none⟩ (.F)
  fun w_7 => St w_7 ⟨q0, 5, none⟩ (.F) fun w_8 => R (.returned (.tuple #[])) w_8))))))))))))
set_option maxRecDepth 100000 in
theorem v_Jump (q0 : Nat) (q1 : Int) (R : Ending → World → Prop) (w : World) :
  vc Tryz.prog ann_Jump (Tryz.f22.body.getD .skip) (retQ Tryz.prog Tryz.f22.results.toList R) (initFr [.P q0, .U q1] Tryz.f22.ntmps) w = p_Jump q0 q1 R w := by kernel_rfl
theorem c_Jump (q0 : Nat) (q1 : Int) (R : Ending → World → Prop) (w : World) (h : p_Jump q0 q1 R w) : Calls Tryz.prog 22 #[.P q0, .U q1] w R :=
  calls_by (P := Tryz.prog) (f := 22) (fn := Tryz.f22) (c := Tryz.f22.body.getD .skip) (args := [.P q0, .U q1]) (w := w) (R := R) (p := p_Jump q0 q1 R w) ann_Jump Tryz.func22 rfl (v_Jump q0 q1 R w) h
abbrev O_Jump := (Int × Int × (Nat → Int) × (List E51))
set_option maxRecDepth 100000 in
noncomputable def f_Jump (q0_pipe_0 q0_pipe_1 : Int) (q0_after q0_moved : Bool) (q0_Bank_b_r q0_Bank_b_other q0_Bank_b_high q0_Bank_b_saved : Nat → Int) (q0_Bank_b_cpsr : Int) (q0_bus_b_bytes : Nat → Int) (q0_bus_b_log : List E51) (q1 : Int) : Option O_Jump :=
  ((f_width q0_pipe_0 q0_pipe_1 q0_after q0_moved q0_Bank_b_r q0_Bank_b_other q0_Bank_b_high q0_Bank_b_saved q0_Bank_b_cpsr q0_bus_b_bytes q0_bus_b_log).bind fun (x8 : O_width) => (Let ((bits .andNot .u32 q1 (IntKind.wrap .u32 (IntKind.wrap .i64 (x8 - 1)))) : Int) fun s1 => ((f_tFetch q0_bus_b_bytes q0_bus_b_log s1 x8 0).bind fun (o : O_tFetch) => (match o with | (x21, w_2_r_xs_cell_q0_1) => (cond ((decide (0 ≤ (0 : Int)) && decide ((0 : Int) < ((2 : Nat) : Int)))) ((f_tFetch q0_bus_b_bytes w_2_r_xs_cell_q0_1 (IntKind.wrap .u32 (s1 + (IntKind.wrap .u32 x8))) x8 1).bind fun (o : O_tFetch) => (match o with | (x35, w_4_r_xs_cell_q0_1) => (cond ((decide (0 ≤ (1 : Int)) && decide ((1 : Int) < ((2 : Nat) : Int)))) ((f_Set q0_Bank_b_r q0_Bank_b_other q0_Bank_b_high q0_Bank_b_saved q0_Bank_b_cpsr 15 (IntKind.wrap .u32 (s1 + (IntKind.wrap .u32 (IntKind.wrap .i64 (2 * x8)))))).bind fun (w_6_r_q0_0 : O_Set) => (some (x21, x35, w_6_r_q0_0, w_4_r_xs_cell_q0_1))) none))) none)))))
def o_Jump (q0 q0_Bank_b q0_bus_b : Nat) (q0_bus_b_log_p : Option Addr) (q0_bus_b_log_c : Nat) (q0_pipe_0 q0_pipe_1 : Int) (q0_after q0_moved : Bool) (q0_Bank_b_r q0_Bank_b_other q0_Bank_b_high q0_Bank_b_saved : Nat → Int) (q0_Bank_b_cpsr : Int) (q0_bus_b_bytes : Nat → Int) (q0_bus_b_log : List E51) (q1 : Int) (w0 : World) : O_Jump → Ending → World → Prop
  | (r_q0_2, r_q0_3, r_q0_Bank_b_0, r_xs_cell_q0_bus_b_1), e, w => ∃ (r_p_cell_q0_bus_b_1 : Option Addr), ∃ (r_c_cell_q0_bus_b_1 : Nat), e = .returned (.tuple #[]) ∧ Now (Foot [box q0 [.P q0_Bank_b, .iface 31 (.P q0_bus_b), .U q0_pipe_0, .U q0_pipe_1, .bool q0_after, .bool q0_moved, .func (.func 40) #[] #[], .func (.func 41) #[] #[], .func (.func 42) #[] #[], .func (.func 43) #[] #[], .func (.func 44) #[] #[], .func (.func 45) #[] #[], .func (.func 46) #[] #[], .func (.func 47) #[] #[], .func (.func 48) #[] #[], .func (.func 49) #[] #[], .func (.func 50) #[] #[], .func (.func 51) #[] #[], .func (.func 52) #[] #[], .func (.func 53) #[] #[]] 45, sbox q0_Bank_b [.r .u32 16 q0_Bank_b_r, .r .u32 12 q0_Bank_b_other, .r .u32 10 q0_Bank_b_high, .r .u32 6 q0_Bank_b_saved, .c (.U q0_Bank_b_cpsr)] 111, sbox q0_bus_b [.r .u8 4096 q0_bus_b_bytes, .c (.slice q0_bus_b_log_p q0_bus_b_log.length q0_bus_b_log_c)] 49, arr el51 q0_bus_b_log_p q0_bus_b_log_c q0_bus_b_log]) w0 w [box q0 [.P q0_Bank_b, .iface 31 (.P q0_bus_b), .U r_q0_2, .U r_q0_3, .F, .F, .func (.func 40) #[] #[], .func (.func 41) #[] #[], .func (.func 42) #[] #[], .func (.func 43) #[] #[], .func (.func 44) #[] #[], .func (.func 45) #[] #[], .func (.func 46) #[] #[], .func (.func 47) #[] #[], .func (.func 48) #[] #[], .func (.func 49) #[] #[], .func (.func 50) #[] #[], .func (.func 51) #[] #[], .func (.func 52) #[] #[], .func (.func 53) #[] #[]] 45, sbox q0_Bank_b [.r .u32 16 r_q0_Bank_b_0, .r .u32 12 q0_Bank_b_other, .r .u32 10 q0_Bank_b_high, .r .u32 6 q0_Bank_b_saved, .c (.U q0_Bank_b_cpsr)] 111, sbox q0_bus_b [.r .u8 4096 q0_bus_b_bytes, .c (.slice r_p_cell_q0_bus_b_1 r_xs_cell_q0_bus_b_1.length r_c_cell_q0_bus_b_1)] 49, arr el51 r_p_cell_q0_bus_b_1 r_c_cell_q0_bus_b_1 r_xs_cell_q0_bus_b_1]
set_option maxRecDepth 100000 in
set_option maxHeartbeats 4000000 in
theorem t_Jump {q0 q0_Bank_b q0_bus_b : Nat} {q0_bus_b_log_p : Option Addr} {q0_bus_b_log_c : Nat} {q0_pipe_0 q0_pipe_1 : Int} {q0_after q0_moved : Bool} {q0_Bank_b_r q0_Bank_b_other q0_Bank_b_high q0_Bank_b_saved : Nat → Int} {q0_Bank_b_cpsr : Int} {q0_bus_b_bytes : Nat → Int} {q0_bus_b_log : List E51} {q1 : Int} {w0 : World} {r : O_Jump} (hf : f_Jump q0_pipe_0 q0_pipe_1 q0_after q0_moved q0_Bank_b_r q0_Bank_b_other q0_Bank_b_high q0_Bank_b_saved q0_Bank_b_cpsr q0_bus_b_bytes q0_bus_b_log q1 = some r) (hp : Hp w0 [box q0 [.P q0_Bank_b, .iface 31 (.P q0_bus_b), .U q0_pipe_0, .U q0_pipe_1, .bool q0_after, .bool q0_moved, .func (.func 40) #[] #[], .func (.func 41) #[] #[], .func (.func 42) #[] #[], .func (.func 43) #[] #[], .func (.func 44) #[] #[], .func (.func 45) #[] #[], .func (.func 46) #[] #[], .func (.func 47) #[] #[], .func (.func 48) #[] #[], .func (.func 49) #[] #[], .func (.func 50) #[] #[], .func (.func 51) #[] #[], .func (.func 52) #[] #[], .func (.func 53) #[] #[]] 45, sbox q0_Bank_b [.r .u32 16 q0_Bank_b_r, .r .u32 12 q0_Bank_b_other, .r .u32 10 q0_Bank_b_high, .r .u32 6 q0_Bank_b_saved, .c (.U q0_Bank_b_cpsr)] 111, sbox q0_bus_b [.r .u8 4096 q0_bus_b_bytes, .c (.slice q0_bus_b_log_p q0_bus_b_log.length q0_bus_b_log_c)] 49, arr el51 q0_bus_b_log_p q0_bus_b_log_c q0_bus_b_log]) : Calls Tryz.prog 22 #[.P q0, .U q1] w0 (o_Jump q0 q0_Bank_b q0_bus_b q0_bus_b_log_p q0_bus_b_log_c q0_pipe_0 q0_pipe_1 q0_after q0_moved q0_Bank_b_r q0_Bank_b_other q0_Bank_b_high q0_Bank_b_saved q0_Bank_b_cpsr q0_bus_b_bytes q0_bus_b_log q1 w0 r) := by
  apply c_Jump q0 q1
  unfold p_Jump
  unfold f_Jump at hf
  have n0 : Now (Foot [box q0 [.P q0_Bank_b, .iface 31 (.P q0_bus_b), .U q0_pipe_0, .U q0_pipe_1, .bool q0_after, .bool q0_moved, .func (.func 40) #[] #[], .func (.func 41) #[] #[], .func (.func 42) #[] #[], .func (.func 43) #[] #[], .func (.func 44) #[] #[], .func (.func 45) #[] #[], .func (.func 46) #[] #[], .func (.func 47) #[] #[], .func (.func 48) #[] #[], .func (.func 49) #[] #[], .func (.func 50) #[] #[], .func (.func 51) #[] #[], .func (.func 52) #[] #[], .func (.func 53) #[] #[]] 45, sbox q0_Bank_b [.r .u32 16 q0_Bank_b_r, .r .u32 12 q0_Bank_b_other, .r .u32 10 q0_Bank_b_high, .r .u32 6 q0_Bank_b_saved, .c (.U q0_Bank_b_cpsr)] 111, sbox q0_bus_b [.r .u8 4096 q0_bus_b_bytes, .c (.slice q0_bus_b_log_p q0_bus_b_log.length q0_bus_b_log_c)] 49, arr el51 q0_bus_b_log_p q0_bus_b_log_c q0_bus_b_log]) w0 w0 [box q0 [.P q0_Bank_b, .iface 31 (.P q0_bus_b), .U q0_pipe_0, .U q0_pipe_1, .bool q0_after, .bool q0_moved, .func (.func 40) #[] #[], .func (.func 41) #[] #[], .func (.func 42) #[] #[], .func (.func 43) #[] #[], .func (.func 44) #[] #[], .func (.func 45) #[] #[], .func (.func 46) #[] #[], .func (.func 47) #[] #[], .func (.func 48) #[] #[], .func (.func 49) #[] #[], .func (.func 50) #[] #[], .func (.func 51) #[] #[], .func (.func 52) #[] #[], .func (.func 53) #[] #[]] 45, sbox q0_Bank_b [.r .u32 16 q0_Bank_b_r, .r .u32 12 q0_Bank_b_other, .r .u32 10 q0_Bank_b_high, .r .u32 6 q0_Bank_b_saved, .c (.U q0_Bank_b_cpsr)] 111, sbox q0_bus_b [.r .u8 4096 q0_bus_b_bytes, .c (.slice q0_bus_b_log_p q0_bus_b_log.length q0_bus_b_log_c)] 49, arr el51 q0_bus_b_log_p q0_bus_b_log_c q0_bus_b_log] := Now.start hp
  exact (
  have n1 := n0.front3; have n2 := n1.front3; have n3 := n2.front3; have n4 := n3.front3; bindF hf (fun x8 h5 h7 => (t_width h5 (n4.take [_, _, _, _])).mono fun _ w_1 ⟨e8, n9⟩ => ⟨x8, e8, have n6 := n4.call [_, _, _, _] n9; LetF h7 fun s1 h10 => have n11 := n6.drewN 1; ⟨fun w2 => (box q0 [.P q0_Bank_b, .iface 31 (.P q0_bus_b), .U q0_pipe_0, .U q0_pipe_1, .bool q0_after, .bool q0_moved, .func (.func 40) #[] #[], .func (.func 41) #[] #[], .func (.func 42) #[] #[], .func (.func 43) #[] #[], .func (.func 44) #[] #[], .func (.func 45) #[] #[], .func (.func 46) #[] #[], .func (.func 47) #[] #[], .func (.func 48) #[] #[], .func (.func 49) #[] #[], .func (.func 50) #[] #[], .func (.func 51) #[] #[], .func (.func 52) #[] #[], .func (.func 53) #[] #[]] 45).holds w2 ∧ True, ⟨n11.hp.1, trivial⟩, ⟨(some ⟨q0_bus_b, 0, none⟩), fun _ hS => (Blk.cell hS.1 1).trans rfl, have n12 := n11.front3; have n13 := n12.front3; bindF h10 (fun o => match o with | (x21, w_2_r_xs_cell_q0_1) => fun h14 h16 => (t_tFetch h14 (n13.take [_, _])).mono fun _ w_2 ⟨w_2_r_p_cell_q0_1, w_2_r_c_cell_q0_1, e17, n18⟩ => ⟨x21, e17, have n15 := n13.call [_, _] n18; chkF h16 fun c19 h20 => (n15.front2).St (by rfl) fun w_3 n21 => have n22 := n21.drewN 1; ⟨fun w2 => (box q0 [.P q0_Bank_b, .iface 31 (.P q0_bus_b), .U x21, .U q0_pipe_1, .bool q0_after, .bool q0_moved, .func (.func 40) #[] #[], .func (.func 41) #[] #[], .func (.func 42) #[] #[], .func (.func 43) #[] #[], .func (.func 44) #[] #[], .func (.func 45) #[] #[], .func (.func 46) #[] #[], .func (.func 47) #[] #[], .func (.func 48) #[] #[], .func (.func 49) #[] #[], .func (.func 50) #[] #[], .func (.func 51) #[] #[], .func (.func 52) #[] #[], .func (.func 53) #[] #[]] 45).holds w2 ∧ True, ⟨n22.hp.1, trivial⟩, ⟨(some ⟨q0_bus_b, 0, none⟩), fun _ hS => (Blk.cell hS.1 1).trans rfl, have n23 := n22.front2; have n24 := n23.front2; bindF h20 (fun o => match o with | (x35, w_4_r_xs_cell_q0_1) => fun h25 h27 => (t_tFetch h25 (n24.take [_, _])).mono fun _ w_4 ⟨w_4_r_p_cell_q0_1, w_4_r_c_cell_q0_1, e28, n29⟩ => ⟨x35, e28, have n26 := n24.call [_, _] n29; ⟨⟨(n26.front2).hp.1, trivial⟩, chkF h27 fun c30 h31 => (n26.front2).St (by rfl) fun w_5 n32 => ⟨(some ⟨q0_Bank_b, 0, none⟩), n32.cell 0 rfl, have n33 := n32.front3; bindF h31 (fun w_6_r_q0_0 h34 h36 => (t_Set h34 (n33.take [_])).mono fun _ w_6 ⟨e37, n38⟩ => ⟨e37, have n35 := n33.call [_] n38; (n35.front1).St (by rfl) fun w_7 n39 => n39.St (by rfl) fun w_8 n40 => have n41 := n40.front3; have n42 := n41.front3; have n43 := n42.front3; have n44 := n43.front3; leafF (α := O_Jump) (x := (x21, x35, w_6_r_q0_0, w_4_r_xs_cell_q0_1)) (G := fun r => o_Jump _ _ _ _ _ _ _ _ _ _ _ _ _ _ _ _ _ w0 r (.returned (.tuple #[])) w_8) h36 ⟨w_4_r_p_cell_q0_1, w_4_r_c_cell_q0_1, rfl, n44⟩⟩)⟩⟩⟩)⟩⟩⟩)⟩⟩⟩))

/-! (*cameo/cpu.CPU).At -/
abbrev n_At : FuncId := 16
def ann_At : Ann := ⟨[], [], []⟩
set_option maxRecDepth 100000 in
def p_At (q0 : Nat) (R : Ending → World → Prop) (w : World) : Prop :=
  (∃ (x8 : Option Addr), w.cell? ⟨q0, 0, none⟩ = some (.pointer x8) ∧ (Calls Tryz.prog 13 #[.pointer x8, .I 15] w fun e w_1 => ∃ (x9 : Int), e = .returned (.U x9) ∧ (Calls Tryz.prog 28
  #[.P q0] w_1 fun e w_2 => ∃ (x11 : Int), e = .returned (.I x11) ∧ Lt ((IntKind.wrap .u32 (x9 - (IntKind.wrap .u32 (IntKind.wrap .i64 (2 * x11))))) : Int) fun s2 => R
  (.returned (.U s2)) w_2)))
set_option maxRecDepth 100000 in
theorem v_At (q0 : Nat) (R : Ending → World → Prop) (w : World) :
  vc Tryz.prog ann_At (Tryz.f16.body.getD .skip) (retQ Tryz.prog Tryz.f16.results.toList R) (initFr [.P q0] Tryz.f16.ntmps) w = p_At q0 R w := by kernel_rfl
theorem c_At (q0 : Nat) (R : Ending → World → Prop) (w : World) (h : p_At q0 R w) : Calls Tryz.prog 16 #[.P q0] w R :=
  calls_by (P := Tryz.prog) (f := 16) (fn := Tryz.f16) (c := Tryz.f16.body.getD .skip) (args := [.P q0]) (w := w) (R := R) (p := p_At q0 R w) ann_At Tryz.func16 rfl (v_At q0 R w) h
abbrev O_At := Int
set_option maxRecDepth 100000 in
noncomputable def f_At (q0_pipe_0 q0_pipe_1 : Int) (q0_after q0_moved : Bool) (q0_Bank_b_r q0_Bank_b_other q0_Bank_b_high q0_Bank_b_saved : Nat → Int) (q0_Bank_b_cpsr : Int) (q0_bus_b_bytes : Nat → Int) (q0_bus_b_log : List E51) : Option O_At :=
  ((f_Get q0_Bank_b_r q0_Bank_b_other q0_Bank_b_high q0_Bank_b_saved q0_Bank_b_cpsr 15).bind fun (x9 : O_Get) => ((f_width q0_pipe_0 q0_pipe_1 q0_after q0_moved q0_Bank_b_r q0_Bank_b_other q0_Bank_b_high q0_Bank_b_saved q0_Bank_b_cpsr q0_bus_b_bytes q0_bus_b_log).bind fun (x11 : O_width) => (Let ((IntKind.wrap .u32 (x9 - (IntKind.wrap .u32 (IntKind.wrap .i64 (2 * x11))))) : Int) fun s2 => (some s2))))
def o_At (q0 q0_Bank_b q0_bus_b : Nat) (q0_bus_b_log_p : Option Addr) (q0_bus_b_log_c : Nat) (q0_pipe_0 q0_pipe_1 : Int) (q0_after q0_moved : Bool) (q0_Bank_b_r q0_Bank_b_other q0_Bank_b_high q0_Bank_b_saved : Nat → Int) (q0_Bank_b_cpsr : Int) (q0_bus_b_bytes : Nat → Int) (q0_bus_b_log : List E51) (w0 : World) : O_At → Ending → World → Prop
  | r0, e, w => e = .returned (.U r0) ∧ Now (Foot [box q0 [.P q0_Bank_b, .iface 31 (.P q0_bus_b), .U q0_pipe_0, .U q0_pipe_1, .bool q0_after, .bool q0_moved, .func (.func 40) #[] #[], .func (.func 41) #[] #[], .func (.func 42) #[] #[], .func (.func 43) #[] #[], .func (.func 44) #[] #[], .func (.func 45) #[] #[], .func (.func 46) #[] #[], .func (.func 47) #[] #[], .func (.func 48) #[] #[], .func (.func 49) #[] #[], .func (.func 50) #[] #[], .func (.func 51) #[] #[], .func (.func 52) #[] #[], .func (.func 53) #[] #[]] 45, sbox q0_Bank_b [.r .u32 16 q0_Bank_b_r, .r .u32 12 q0_Bank_b_other, .r .u32 10 q0_Bank_b_high, .r .u32 6 q0_Bank_b_saved, .c (.U q0_Bank_b_cpsr)] 111, sbox q0_bus_b [.r .u8 4096 q0_bus_b_bytes, .c (.slice q0_bus_b_log_p q0_bus_b_log.length q0_bus_b_log_c)] 49, arr el51 q0_bus_b_log_p q0_bus_b_log_c q0_bus_b_log]) w0 w [box q0 [.P q0_Bank_b, .iface 31 (.P q0_bus_b), .U q0_pipe_0, .U q0_pipe_1, .bool q0_after, .bool q0_moved, .func (.func 40) #[] #[], .func (.func 41) #[] #[], .func (.func 42) #[] #[], .func (.func 43) #[] #[], .func (.func 44) #[] #[], .func (.func 45) #[] #[], .func (.func 46) #[] #[], .func (.func 47) #[] #[], .func (.func 48) #[] #[], .func (.func 49) #[] #[], .func (.func 50) #[] #[], .func (.func 51) #[] #[], .func (.func 52) #[] #[], .func (.func 53) #[] #[]] 45, sbox q0_Bank_b [.r .u32 16 q0_Bank_b_r, .r .u32 12 q0_Bank_b_other, .r .u32 10 q0_Bank_b_high, .r .u32 6 q0_Bank_b_saved, .c (.U q0_Bank_b_cpsr)] 111, sbox q0_bus_b [.r .u8 4096 q0_bus_b_bytes, .c (.slice q0_bus_b_log_p q0_bus_b_log.length q0_bus_b_log_c)] 49, arr el51 q0_bus_b_log_p q0_bus_b_log_c q0_bus_b_log]
set_option maxRecDepth 100000 in
set_option maxHeartbeats 4000000 in
theorem t_At {q0 q0_Bank_b q0_bus_b : Nat} {q0_bus_b_log_p : Option Addr} {q0_bus_b_log_c : Nat} {q0_pipe_0 q0_pipe_1 : Int} {q0_after q0_moved : Bool} {q0_Bank_b_r q0_Bank_b_other q0_Bank_b_high q0_Bank_b_saved : Nat → Int} {q0_Bank_b_cpsr : Int} {q0_bus_b_bytes : Nat → Int} {q0_bus_b_log : List E51} {w0 : World} {r : O_At} (hf : f_At q0_pipe_0 q0_pipe_1 q0_after q0_moved q0_Bank_b_r q0_Bank_b_other q0_Bank_b_high q0_Bank_b_saved q0_Bank_b_cpsr q0_bus_b_bytes q0_bus_b_log = some r) (hp : Hp w0 [box q0 [.P q0_Bank_b, .iface 31 (.P q0_bus_b), .U q0_pipe_0, .U q0_pipe_1, .bool q0_after, .bool q0_moved, .func (.func 40) #[] #[], .func (.func 41) #[] #[], .func (.func 42) #[] #[], .func (.func 43) #[] #[], .func (.func 44) #[] #[], .func (.func 45) #[] #[], .func (.func 46) #[] #[], .func (.func 47) #[] #[], .func (.func 48) #[] #[], .func (.func 49) #[] #[], .func (.func 50) #[] #[], .func (.func 51) #[] #[], .func (.func 52) #[] #[], .func (.func 53) #[] #[]] 45, sbox q0_Bank_b [.r .u32 16 q0_Bank_b_r, .r .u32 12 q0_Bank_b_other, .r .u32 10 q0_Bank_b_high, .r .u32 6 q0_Bank_b_saved, .c (.U q0_Bank_b_cpsr)] 111, sbox q0_bus_b [.r .u8 4096 q0_bus_b_bytes, .c (.slice q0_bus_b_log_p q0_bus_b_log.length q0_bus_b_log_c)] 49, arr el51 q0_bus_b_log_p q0_bus_b_log_c q0_bus_b_log]) : Calls Tryz.prog 16 #[.P q0] w0 (o_At q0 q0_Bank_b q0_bus_b q0_bus_b_log_p q0_bus_b_log_c q0_pipe_0 q0_pipe_1 q0_after q0_moved q0_Bank_b_r q0_Bank_b_other q0_Bank_b_high q0_Bank_b_saved q0_Bank_b_cpsr q0_bus_b_bytes q0_bus_b_log w0 r) := by
  apply c_At q0
  unfold p_At
  unfold f_At at hf
  have n0 : Now (Foot [box q0 [.P q0_Bank_b, .iface 31 (.P q0_bus_b), .U q0_pipe_0, .U q0_pipe_1, .bool q0_after, .bool q0_moved, .func (.func 40) #[] #[], .func (.func 41) #[] #[], .func (.func 42) #[] #[], .func (.func 43) #[] #[], .func (.func 44) #[] #[], .func (.func 45) #[] #[], .func (.func 46) #[] #[], .func (.func 47) #[] #[], .func (.func 48) #[] #[], .func (.func 49) #[] #[], .func (.func 50) #[] #[], .func (.func 51) #[] #[], .func (.func 52) #[] #[], .func (.func 53) #[] #[]] 45, sbox q0_Bank_b [.r .u32 16 q0_Bank_b_r, .r .u32 12 q0_Bank_b_other, .r .u32 10 q0_Bank_b_high, .r .u32 6 q0_Bank_b_saved, .c (.U q0_Bank_b_cpsr)] 111, sbox q0_bus_b [.r .u8 4096 q0_bus_b_bytes, .c (.slice q0_bus_b_log_p q0_bus_b_log.length q0_bus_b_log_c)] 49, arr el51 q0_bus_b_log_p q0_bus_b_log_c q0_bus_b_log]) w0 w0 [box q0 [.P q0_Bank_b, .iface 31 (.P q0_bus_b), .U q0_pipe_0, .U q0_pipe_1, .bool q0_after, .bool q0_moved, .func (.func 40) #[] #[], .func (.func 41) #[] #[], .func (.func 42) #[] #[], .func (.func 43) #[] #[], .func (.func 44) #[] #[], .func (.func 45) #[] #[], .func (.func 46) #[] #[], .func (.func 47) #[] #[], .func (.func 48) #[] #[], .func (.func 49) #[] #[], .func (.func 50) #[] #[], .func (.func 51) #[] #[], .func (.func 52) #[] #[], .func (.func 53) #[] #[]] 45, sbox q0_Bank_b [.r .u32 16 q0_Bank_b_r, .r .u32 12 q0_Bank_b_other, .r .u32 10 q0_Bank_b_high, .r .u32 6 q0_Bank_b_saved, .c (.U q0_Bank_b_cpsr)] 111, sbox q0_bus_b [.r .u8 4096 q0_bus_b_bytes, .c (.slice q0_bus_b_log_p q0_bus_b_log.length q0_bus_b_log_c)] 49, arr el51 q0_bus_b_log_p q0_bus_b_log_c q0_bus_b_log] := Now.start hp
  exact (
  ⟨(some ⟨q0_Bank_b, 0, none⟩), n0.cell 0 rfl, have n1 := n0.front1; bindF hf (fun x9 h2 h4 => (t_Get h2 (n1.take [_])).mono fun _ w_1 ⟨e5, n6⟩ => ⟨x9, e5, have n3 := n1.call [_] n6; have n7 := n3.front3; have n8 := n7.front3; have n9 := n8.front2; have n10 := n9.front3; bindF h4 (fun x11 h11 h13 => (t_width h11 (n10.take [_, _, _, _])).mono fun _ w_2 ⟨e14, n15⟩ => ⟨x11, e14, have n12 := n10.call [_, _, _, _] n15; LetF h13 fun s2 h16 => have n17 := n12.front3; have n18 := n17.front3; have n19 := n18.front3; have n20 := n19.front3; leafF (α := O_At) (x := s2) (G := fun r => o_At _ _ _ _ _ _ _ _ _ _ _ _ _ _ _ _ w0 r (.returned (.U s2)) w_2) h16 ⟨rfl, n20⟩⟩)⟩)⟩)

/-! math/bits.RotateLeft32 -/
abbrev n_RotL : FuncId := 146
def ann_RotL : Ann := ⟨[], [], []⟩
set_option maxRecDepth 100000 in
def p_RotL (q0 q1 : Int) (R : Ending → World → Prop) (w : World) : Prop :=
  Lt ((bits .and .u64 (IntKind.wrap .u64 q1) 31) : Int) fun s5 => chk (decide (0 ≤ s5)) (chk (decide (0 ≤ (IntKind.wrap .u64 (32 - s5)))) (Lt ((bits .or .u32 (IntKind.wrap .u32 (q0 * 2 ^ (min s5.toNat
  32))) (Int.fdiv q0 (2 ^ (min (IntKind.wrap .u64 (32 - s5)).toNat 32)))) : Int) fun s4 => R (.returned (.U s4)) w))
set_option maxRecDepth 100000 in
theorem v_RotL (q0 q1 : Int) (R : Ending → World → Prop) (w : World) :
  vc Tryz.prog ann_RotL (Tryz.f146.body.getD .skip) (retQ Tryz.prog Tryz.f146.results.toList R) (initFr [.U q0, .I q1] Tryz.f146.ntmps) w = p_RotL q0 q1 R w := by kernel_rfl
theorem c_RotL (q0 q1 : Int) (R : Ending → World → Prop) (w : World) (h : p_RotL q0 q1 R w) : Calls Tryz.prog 146 #[.U q0, .I q1] w R :=
  calls_by (P := Tryz.prog) (f := 146) (fn := Tryz.f146) (c := Tryz.f146.body.getD .skip) (args := [.U q0, .I q1]) (w := w) (R := R) (p := p_RotL q0 q1 R w) ann_RotL Tryz.func146 rfl (v_RotL q0 q1 R w) h
abbrev O_RotL := Int
set_option maxRecDepth 100000 in
noncomputable def f_RotL (q0 q1 : Int) : Option O_RotL :=
  (Let ((bits .and .u64 (IntKind.wrap .u64 q1) 31) : Int) fun s5 => (cond ((decide (0 ≤ s5))) (cond ((decide (0 ≤ (IntKind.wrap .u64 (32 - s5))))) (Let ((bits .or .u32 (IntKind.wrap .u32 (q0 * 2 ^ (min s5.toNat 32))) (Int.fdiv q0 (2 ^ (min (IntKind.wrap .u64 (32 - s5)).toNat 32)))) : Int) fun s4 => (some s4)) none) none))
def o_RotL (q0 q1 : Int) (w0 : World) : O_RotL → Ending → World → Prop
  | r0, e, w => e = .returned (.U r0) ∧ Dr w0 w
set_option maxRecDepth 100000 in
set_option maxHeartbeats 4000000 in
theorem tq_RotL {q0 q1 : Int} {r : O_RotL} (hf : f_RotL q0 q1 = some r) (w0 : World) : Calls Tryz.prog 146 #[.U q0, .I q1] w0 (o_RotL q0 q1 w0 r) := by
  apply c_RotL
  unfold p_RotL
  unfold f_RotL at hf
  have n0 : Dr w0 w0 := Dr.refl _
  exact (
  LetF hf fun s5 h1 => chkF h1 fun c2 h3 => chkF h3 fun c4 h5 => LetF h5 fun s4 h6 => leafF (α := O_RotL) (x := s4) (G := fun r => o_RotL _ _ w0 r (.returned (.U s4)) w0) h6 ⟨rfl, n0⟩)

/-! math/bits.Add32 -/
abbrev n_Add32 : FuncId := 182
def ann_Add32 : Ann := ⟨[], [], []⟩
set_option maxRecDepth 100000 in
def p_Add32 (q0 q1 q2 : Int) (R : Ending → World → Prop) (w : World) : Prop :=
  Lt ((IntKind.wrap .u64 ((IntKind.wrap .u64 ((IntKind.wrap .u64 q0) + (IntKind.wrap .u64 q1))) + (IntKind.wrap .u64 q2))) : Int) fun s8 => Lt ((IntKind.wrap .u32 (Int.fdiv s8 4294967296)) : Int) fun
  s7 => R (.returned (.tuple #[.U (IntKind.wrap .u32 s8), .U s7])) w
set_option maxRecDepth 100000 in
theorem v_Add32 (q0 q1 q2 : Int) (R : Ending → World → Prop) (w : World) :
  vc Tryz.prog ann_Add32 (Tryz.f182.body.getD .skip) (retQ Tryz.prog Tryz.f182.results.toList R) (initFr [.U q0, .U q1, .U q2] Tryz.f182.ntmps) w = p_Add32 q0 q1 q2 R w := by kernel_rfl
theorem c_Add32 (q0 q1 q2 : Int) (R : Ending → World → Prop) (w : World) (h : p_Add32 q0 q1 q2 R w) : Calls Tryz.prog 182 #[.U q0, .U q1, .U q2] w R :=
  calls_by (P := Tryz.prog) (f := 182) (fn := Tryz.f182) (c := Tryz.f182.body.getD .skip) (args := [.U q0, .U q1, .U q2]) (w := w) (R := R) (p := p_Add32 q0 q1 q2 R w) ann_Add32 Tryz.func182 rfl (v_Add32 q0 q1 q2 R w) h
abbrev O_Add32 := (Int × Int)
set_option maxRecDepth 100000 in
noncomputable def f_Add32 (q0 q1 q2 : Int) : Option O_Add32 :=
  (Let ((IntKind.wrap .u64 ((IntKind.wrap .u64 ((IntKind.wrap .u64 q0) + (IntKind.wrap .u64 q1))) + (IntKind.wrap .u64 q2))) : Int) fun s8 => (Let ((IntKind.wrap .u32 (Int.fdiv s8 4294967296)) : Int) fun s7 => (some ((IntKind.wrap .u32 s8), s7))))
def o_Add32 (q0 q1 q2 : Int) (w0 : World) : O_Add32 → Ending → World → Prop
  | (r0, r1), e, w => e = .returned (.tuple #[.U r0, .U r1]) ∧ Dr w0 w
set_option maxRecDepth 100000 in
set_option maxHeartbeats 4000000 in
theorem tq_Add32 {q0 q1 q2 : Int} {r : O_Add32} (hf : f_Add32 q0 q1 q2 = some r) (w0 : World) : Calls Tryz.prog 182 #[.U q0, .U q1, .U q2] w0 (o_Add32 q0 q1 q2 w0 r) := by
  apply c_Add32
  unfold p_Add32
  unfold f_Add32 at hf
  have n0 : Dr w0 w0 := Dr.refl _
  exact (
  LetF hf fun s8 h1 => LetF h1 fun s7 h2 => leafF (α := O_Add32) (x := ((IntKind.wrap .u32 s8), s7)) (G := fun r => o_Add32 _ _ _ w0 r (.returned (.tuple #[.U (IntKind.wrap .u32 s8), .U s7])) w0) h2 ⟨rfl, n0⟩)

/-! cameo/shift.Turned -/
abbrev n_Turned : FuncId := 105
def ann_Turned : Ann := ⟨[], [], []⟩
set_option maxRecDepth 100000 in
def p_Turned (q0 q1 : Int) (q2 : Bool) (R : Ending → World → Prop) (w : World) : Prop :=
  Lt ((IntKind.wrap .i64 ((bits .and .i64 q1 15) * 2)) : Int) fun s1 => cond (s1 == 0) (R (.returned (.tuple #[.U (bits .and .u32 q0 255), .bool q2])) w) ((Calls Tryz.prog 146 #[.U (bits
  .and .u32 q0 255), .I (IntKind.wrap .i64 (0 - s1))] w fun e w_1 => ∃ (x21 : Int), e = .returned (.U x21) ∧ R (.returned (.tuple #[.U x21, .bool ((Int.fdiv x21 2147483648) ==
  1)])) w_1))
set_option maxRecDepth 100000 in
theorem v_Turned (q0 q1 : Int) (q2 : Bool) (R : Ending → World → Prop) (w : World) :
  vc Tryz.prog ann_Turned (Tryz.f105.body.getD .skip) (retQ Tryz.prog Tryz.f105.results.toList R) (initFr [.U q0, .I q1, .bool q2] Tryz.f105.ntmps) w = p_Turned q0 q1 q2 R w := by kernel_rfl
theorem c_Turned (q0 q1 : Int) (q2 : Bool) (R : Ending → World → Prop) (w : World) (h : p_Turned q0 q1 q2 R w) : Calls Tryz.prog 105 #[.U q0, .I q1, .bool q2] w R :=
  calls_by (P := Tryz.prog) (f := 105) (fn := Tryz.f105) (c := Tryz.f105.body.getD .skip) (args := [.U q0, .I q1, .bool q2]) (w := w) (R := R) (p := p_Turned q0 q1 q2 R w) ann_Turned Tryz.func105 rfl (v_Turned q0 q1 q2 R w) h
abbrev O_Turned := (Int × Bool)
set_option maxRecDepth 100000 in
noncomputable def f_Turned (q0 q1 : Int) (q2 : Bool) : Option O_Turned :=
  (Let ((IntKind.wrap .i64 ((bits .and .i64 q1 15) * 2)) : Int) fun s1 => (cond (s1 == 0) (some ((bits .and .u32 q0 255), q2)) ((f_RotL (bits .and .u32 q0 255) (IntKind.wrap .i64 (0 - s1))).bind fun (x21 : O_RotL) => (some (x21, (Int.fdiv x21 2147483648) == 1)))))
def o_Turned (q0 q1 : Int) (q2 : Bool) (w0 : World) : O_Turned → Ending → World → Prop
  | (r0, r1), e, w => e = .returned (.tuple #[.U r0, .bool r1]) ∧ Dr w0 w
set_option maxRecDepth 100000 in
set_option maxHeartbeats 4000000 in
theorem tq_Turned {q0 q1 : Int} {q2 : Bool} {r : O_Turned} (hf : f_Turned q0 q1 q2 = some r) (w0 : World) : Calls Tryz.prog 105 #[.U q0, .I q1, .bool q2] w0 (o_Turned q0 q1 q2 w0 r) := by
  apply c_Turned
  unfold p_Turned
  unfold f_Turned at hf
  have n0 : Dr w0 w0 := Dr.refl _
  exact (
  LetF hf fun s1 h1 => condF h1 (fun c2 h3 => leafF (α := O_Turned) (x := ((bits .and .u32 q0 255), q2)) (G := fun r => o_Turned _ _ _ w0 r (.returned (.tuple #[.U (bits .and .u32 q0 255), .bool q2])) w0) h3 ⟨rfl, n0⟩) (fun c2 h4 => bindF h4 (fun x21 h5 h7 => (tq_RotL h5 _).mono fun _ w_1 ⟨e8, d10⟩ => ⟨x21, e8, have n6 := n0.trans d10; leafF (α := O_Turned) (x := (x21, (Int.fdiv x21 2147483648) == 1)) (G := fun r => o_Turned _ _ _ w0 r (.returned (.tuple #[.U x21, .bool ((Int.fdiv x21 2147483648) == 1)])) w_1) h7 ⟨rfl, n6⟩⟩)))

/-! cameo/alu.sum -/
abbrev n_asum : FuncId := 143
def ann_asum : Ann := ⟨[], [], []⟩
set_option maxRecDepth 100000 in
def p_asum (q0 q1 : Int) (q2 : Bool) (R : Ending → World → Prop) (w : World) : Prop :=
  Nw w (.cells #[.F, .F, .F, .F] 120) fun b w_1 => cond q2 ((Calls Tryz.prog 182 #[.U q0, .U q1, .U 1] w_1 fun e w_2 => ∃ (x16a : Int) (x16b :
  Int), e = .returned (.tuple #[.U x16a, .U x16b]) ∧ St w_2 ⟨b, 0, none⟩ (.bool ((Int.fdiv x16a 2147483648) == 1)) fun w_3 => St w_3 ⟨b, 1, none⟩ (.bool (x16a == 0)) fun w_4 => St w_4
  ⟨b, 2, none⟩ (.bool (x16b == 1)) fun w_5 => St w_5 ⟨b, 3, none⟩ (.bool ((Int.fdiv (bits .and .u32 (bits .xor .u32 q0 x16a) (bits .xor .u32 q1 x16a)) 2147483648) == 1)) fun w_6 => (∃ (r_0 : Bool),
  w_6.cell? ⟨b, 0, none⟩ = some (.bool r_0) ∧ (∃ (r_1 : Bool), w_6.cell? ⟨b, 1, none⟩ = some (.bool r_1) ∧ (∃ (r_2 : Bool), w_6.cell? ⟨b, 2, none⟩ = some (.bool r_2) ∧ (∃ (r_3 : Bool), w_6.cell? ⟨b,
  3, none⟩ = some (.bool r_3) ∧ R (.returned (.tuple #[.U x16a, .agg #[.bool r_0, .bool r_1, .bool r_2, .bool r_3]])) w_6)))))) ((Calls Tryz.prog 182 #[.U q0, .U q1, .U 0]
  w_1 fun e w_7 => ∃ (x16a_1 x16b_1 : Int), e = .returned (.tuple #[.U x16a_1, .U x16b_1]) ∧ St w_7 ⟨b, 0, none⟩ (.bool ((Int.fdiv x16a_1 2147483648) == 1)) fun w_8 => St w_8 ⟨b,
  1, none⟩ (.bool (x16a_1 == 0)) fun w_9 => St w_9 ⟨b, 2, none⟩ (.bool (x16b_1 == 1)) fun w_10 => St w_10 ⟨b, 3, none⟩ (.bool ((Int.fdiv (bits .and .u32 (bits .xor .u32 q0 x16a_1) (bits .xor .u32 q1
  x16a_1)) 2147483648) == 1)) fun w_11 => (∃ (r_0_1 : Bool), w_11.cell? ⟨b, 0, none⟩ = some (.bool r_0_1) ∧ (∃ (r_1_1 : Bool), w_11.cell? ⟨b, 1, none⟩ = some (.bool r_1_1) ∧ (∃ (r_2_1 : Bool),
  w_11.cell? ⟨b, 2, none⟩ = some (.bool r_2_1) ∧ (∃ (r_3_1 : Bool), w_11.cell? ⟨b, 3, none⟩ = some (.bool r_3_1) ∧ R (.returned (.tuple #[.U x16a_1, .agg #[.bool r_0_1, .bool r_1_1, .bool
  r_2_1, .bool r_3_1]])) w_11))))))
set_option maxRecDepth 100000 in
theorem v_asum (q0 q1 : Int) (q2 : Bool) (R : Ending → World → Prop) (w : World) :
  vc Tryz.prog ann_asum (Tryz.f143.body.getD .skip) (retQ Tryz.prog Tryz.f143.results.toList R) (initFr [.U q0, .U q1, .bool q2] Tryz.f143.ntmps) w = p_asum q0 q1 q2 R w := by kernel_rfl
theorem c_asum (q0 q1 : Int) (q2 : Bool) (R : Ending → World → Prop) (w : World) (h : p_asum q0 q1 q2 R w) : Calls Tryz.prog 143 #[.U q0, .U q1, .bool q2] w R :=
  calls_by (P := Tryz.prog) (f := 143) (fn := Tryz.f143) (c := Tryz.f143.body.getD .skip) (args := [.U q0, .U q1, .bool q2]) (w := w) (R := R) (p := p_asum q0 q1 q2 R w) ann_asum Tryz.func143 rfl (v_asum q0 q1 q2 R w) h
abbrev O_asum := (Int × Bool × Bool × Bool × Bool)
set_option maxRecDepth 100000 in
noncomputable def f_asum (q0 q1 : Int) (q2 : Bool) : Option O_asum :=
  (cond q2 ((f_Add32 q0 q1 1).bind fun (o : O_Add32) => (match o with | (x16a, x16b) => (some (x16a, ((Int.fdiv x16a 2147483648) == 1), (x16a == 0), (x16b == 1), ((Int.fdiv (bits .and .u32 (bits .xor .u32 q0 x16a) (bits .xor .u32 q1 x16a)) 2147483648) == 1))))) ((f_Add32 q0 q1 0).bind fun (o : O_Add32) => (match o with | (x16a_1, x16b_1) => (some (x16a_1, ((Int.fdiv x16a_1 2147483648) == 1), (x16a_1 == 0), (x16b_1 == 1), ((Int.fdiv (bits .and .u32 (bits .xor .u32 q0 x16a_1) (bits .xor .u32 q1 x16a_1)) 2147483648) == 1))))))
def o_asum (q0 q1 : Int) (q2 : Bool) (w0 : World) : O_asum → Ending → World → Prop
  | (r0, r1_0, r1_1, r1_2, r1_3), e, w => e = .returned (.tuple #[.U r0, .agg #[.bool r1_0, .bool r1_1, .bool r1_2, .bool r1_3]]) ∧ Now (Foot []) w0 w []
set_option maxRecDepth 100000 in
set_option maxHeartbeats 4000000 in
theorem t_asum {q0 q1 : Int} {q2 : Bool} {w0 : World} {r : O_asum} (hf : f_asum q0 q1 q2 = some r) (hp : Hp w0 []) : Calls Tryz.prog 143 #[.U q0, .U q1, .bool q2] w0 (o_asum q0 q1 q2 w0 r) := by
  apply c_asum q0 q1 q2
  unfold p_asum
  unfold f_asum at hf
  have n0 : Now (Foot []) w0 w0 [] := Now.start hp
  exact (
  n0.Nw (cs := [.F, .F, .F, .F]) fun b w_1 n1 => condF hf (fun c2 h3 => bindF h3 (fun o => match o with | (x16a, x16b) => fun h4 h6 => (tq_Add32 h4 _).mono fun _ w_2 ⟨e7, d14⟩ => ⟨x16a, x16b, e7, have n5 := n1.pass d14.chg; n5.St (by rfl) fun w_3 n9 => n9.St (by rfl) fun w_4 n10 => n10.St (by rfl) fun w_5 n11 => n11.St (by rfl) fun w_6 n12 => ⟨(Int.fdiv x16a 2147483648) == 1, n12.cell 0 rfl, ⟨x16a == 0, n12.cell 1 rfl, ⟨x16b == 1, n12.cell 2 rfl, ⟨(Int.fdiv (bits .and .u32 (bits .xor .u32 q0 x16a) (bits .xor .u32 q1 x16a)) 2147483648) == 1, n12.cell 3 rfl, have n13 := n12.takeN 0; leafF (α := O_asum) (x := (x16a, ((Int.fdiv x16a 2147483648) == 1), (x16a == 0), (x16b == 1), ((Int.fdiv (bits .and .u32 (bits .xor .u32 q0 x16a) (bits .xor .u32 q1 x16a)) 2147483648) == 1))) (G := fun r => o_asum _ _ _ w0 r (.returned (.tuple #[.U x16a, .agg #[.bool ((Int.fdiv x16a 2147483648) == 1), .bool (x16a == 0), .bool (x16b == 1), .bool ((Int.fdiv (bits .and .u32 (bits .xor .u32 q0 x16a) (bits .xor .u32 q1 x16a)) 2147483648) == 1)]])) w_6) h6 ⟨rfl, n13⟩⟩⟩⟩⟩⟩)) (fun c2 h15 => bindF h15 (fun o => match o with | (x16a_1, x16b_1) => fun h16 h18 => (tq_Add32 h16 _).mono fun _ w_7 ⟨e19, d26⟩ => ⟨x16a_1, x16b_1, e19, have n17 := n1.pass d26.chg; n17.St (by rfl) fun w_8 n21 => n21.St (by rfl) fun w_9 n22 => n22.St (by rfl) fun w_10 n23 => n23.St (by rfl) fun w_11 n24 => ⟨(Int.fdiv x16a_1 2147483648) == 1, n24.cell 0 rfl, ⟨x16a_1 == 0, n24.cell 1 rfl, ⟨x16b_1 == 1, n24.cell 2 rfl, ⟨(Int.fdiv (bits .and .u32 (bits .xor .u32 q0 x16a_1) (bits .xor .u32 q1 x16a_1)) 2147483648) == 1, n24.cell 3 rfl, have n25 := n24.takeN 0; leafF (α := O_asum) (x := (x16a_1, ((Int.fdiv x16a_1 2147483648) == 1), (x16a_1 == 0), (x16b_1 == 1), ((Int.fdiv (bits .and .u32 (bits .xor .u32 q0 x16a_1) (bits .xor .u32 q1 x16a_1)) 2147483648) == 1))) (G := fun r => o_asum _ _ _ w0 r (.returned (.tuple #[.U x16a_1, .agg #[.bool ((Int.fdiv x16a_1 2147483648) == 1), .bool (x16a_1 == 0), .bool (x16b_1 == 1), .bool ((Int.fdiv (bits .and .u32 (bits .xor .u32 q0 x16a_1) (bits .xor .u32 q1 x16a_1)) 2147483648) == 1)]])) w_11) h18 ⟨rfl, n25⟩⟩⟩⟩⟩⟩)))

/-! cameo/alu.Do$1 -/
abbrev n_logic : FuncId := 142
def ann_logic : Ann := ⟨[(1, .tail 11)], [], []⟩
set_option maxRecDepth 100000 in
def p_logic (q0 : Int) (q1 q2 : Nat) (R : Ending → World → Prop) (w : World) : Prop :=
  Nw w (.cells #[.F, .F, .F, .F] 120) fun b w_1 => (∃ (x12 : Bool), (w_1.drewN 1).cell? ⟨q1, 0, none⟩ = some (.bool x12) ∧ (∃ (x14 : Bool), (w_1.drewN 1).cell? ⟨q2,
  3, none⟩ = some (.bool x14) ∧ St (w_1.drewN 1) ⟨b, 0, none⟩ (.bool ((Int.fdiv q0 2147483648) == 1)) fun w_2 => St w_2 ⟨b, 1, none⟩ (.bool (q0 == 0)) fun w_3 => St w_3 ⟨b, 2, none⟩ (.bool x12) fun
  w_4 => St w_4 ⟨b, 3, none⟩ (.bool x14) fun w_5 => (∃ (r_0 : Bool), w_5.cell? ⟨b, 0, none⟩ = some (.bool r_0) ∧ (∃ (r_1 : Bool), w_5.cell? ⟨b, 1, none⟩ = some (.bool r_1) ∧ (∃ (r_2 : Bool), w_5.cell?
  ⟨b, 2, none⟩ = some (.bool r_2) ∧ (∃ (r_3 : Bool), w_5.cell? ⟨b, 3, none⟩ = some (.bool r_3) ∧ R (.returned (.tuple #[.U q0, .agg #[.bool r_0, .bool r_1, .bool r_2, .bool r_3]])) w_5))))))
set_option maxRecDepth 100000 in
theorem v_logic (q0 : Int) (q1 q2 : Nat) (R : Ending → World → Prop) (w : World) :
  vc Tryz.prog ann_logic (Tryz.f142.body.getD .skip) (retQ Tryz.prog Tryz.f142.results.toList R) (initFr [.U q0, .P q1, .P q2] Tryz.f142.ntmps) w = p_logic q0 q1 q2 R w := by kernel_rfl
theorem c_logic (q0 : Int) (q1 q2 : Nat) (R : Ending → World → Prop) (w : World) (h : p_logic q0 q1 q2 R w) : Calls Tryz.prog 142 #[.U q0, .P q1, .P q2] w R :=
  calls_by (P := Tryz.prog) (f := 142) (fn := Tryz.f142) (c := Tryz.f142.body.getD .skip) (args := [.U q0, .P q1, .P q2]) (w := w) (R := R) (p := p_logic q0 q1 q2 R w) ann_logic Tryz.func142 rfl (v_logic q0 q1 q2 R w) h
abbrev O_logic := (Int × Bool × Bool × Bool × Bool)
set_option maxRecDepth 100000 in
noncomputable def f_logic (q0 : Int) (q1_f0 q2_N q2_Z q2_C q2_V : Bool) : Option O_logic :=
  (some (q0, ((Int.fdiv q0 2147483648) == 1), (q0 == 0), q1_f0, q2_V))
def o_logic (q1 q2 : Nat) (q0 : Int) (q1_f0 q2_N q2_Z q2_C q2_V : Bool) (w0 : World) : O_logic → Ending → World → Prop
  | (r0, r1_0, r1_1, r1_2, r1_3), e, w => e = .returned (.tuple #[.U r0, .agg #[.bool r1_0, .bool r1_1, .bool r1_2, .bool r1_3]]) ∧ Now (Foot [box q1 [.bool q1_f0] 4, box q2 [.bool q2_N, .bool q2_Z, .bool q2_C, .bool q2_V] 120]) w0 w [box q1 [.bool q1_f0] 4, box q2 [.bool q2_N, .bool q2_Z, .bool q2_C, .bool q2_V] 120]
set_option maxRecDepth 100000 in
set_option maxHeartbeats 4000000 in
theorem t_logic {q1 q2 : Nat} {q0 : Int} {q1_f0 q2_N q2_Z q2_C q2_V : Bool} {w0 : World} {r : O_logic} (hf : f_logic q0 q1_f0 q2_N q2_Z q2_C q2_V = some r) (hp : Hp w0 [box q1 [.bool q1_f0] 4, box q2 [.bool q2_N, .bool q2_Z, .bool q2_C, .bool q2_V] 120]) : Calls Tryz.prog 142 #[.U q0, .P q1, .P q2] w0 (o_logic q1 q2 q0 q1_f0 q2_N q2_Z q2_C q2_V w0 r) := by
  apply c_logic q0 q1 q2
  unfold p_logic
  unfold f_logic at hf
  have n0 : Now (Foot [box q1 [.bool q1_f0] 4, box q2 [.bool q2_N, .bool q2_Z, .bool q2_C, .bool q2_V] 120]) w0 w0 [box q1 [.bool q1_f0] 4, box q2 [.bool q2_N, .bool q2_Z, .bool q2_C, .bool q2_V] 120] := Now.start hp
  exact (
  n0.Nw (cs := [.F, .F, .F, .F]) fun b w_1 n1 => have n2 := n1.drewN 1; ⟨q1_f0, (n2.front1).cell 0 rfl, ⟨q2_V, (n2.front2).cell 3 rfl, n2.St (by rfl) fun w_2 n3 => n3.St (by rfl) fun w_3 n4 => n4.St (by rfl) fun w_4 n5 => n5.St (by rfl) fun w_5 n6 => ⟨(Int.fdiv q0 2147483648) == 1, n6.cell 0 rfl, ⟨q0 == 0, n6.cell 1 rfl, ⟨q1_f0, n6.cell 2 rfl, ⟨q2_V, n6.cell 3 rfl, have n7 := n6.front2; have n8 := n7.front2; have n9 := n8.takeN 2; leafF (α := O_logic) (x := (q0, ((Int.fdiv q0 2147483648) == 1), (q0 == 0), q1_f0, q2_V)) (G := fun r => o_logic _ _ _ _ _ _ _ _ w0 r (.returned (.tuple #[.U q0, .agg #[.bool ((Int.fdiv q0 2147483648) == 1), .bool (q0 == 0), .bool q1_f0, .bool q2_V]])) w_5) hf ⟨rfl, n9⟩⟩⟩⟩⟩⟩⟩)

/-! cameo/alu.Do -/
abbrev n_Do : FuncId := 87
def ann_Do : Ann := ⟨[], [], [(16, [(53, .one (.bool))]), (11, [(36, .one (.bool))]), (8, [(26, .one (.bool))]), (5, [(16, .one (.bool))])]⟩
set_option maxRecDepth 100000 in
def p_Do (q0 q1 q2 : Int) (q3_0 q3_1 q3_2 q3_3 q4 : Bool) (R : Ending → World → Prop) (w : World) : Prop :=
  Nw w (.cells #[.bool q3_0, .bool q3_1, .bool q3_2, .bool q3_3] 120) fun b w_1 => Nw w_1 (.cells #[.bool q4] 4) fun b_1 w_2 => Nw w_2 (.cells #[.F, .F, .F, .F]
  120) fun b_2 w_3 => (∃ J : List Value → World → Prop, (cond ((bits .and .i64 q0 15) == 0) (J [.bool ((bits .and .i64 q0 15) == 0)] w_3) (J [.bool ((bits .and .i64 q0 15) == 8)] w_3)) ∧ ∀ (s16 :
  Bool) (w_4 : World), J [.bool s16] w_4 → cond s16 ((VCall Tryz.prog (.func (.func 142) #[] #[.P b_1, .P b]) #[.U (bits .and .u32 q1 q2)] w_4
  fun e w_5 => ∃ (x23a : Int) (x23b_0 x23b_1 x23b_2 x23b_3 : Bool), e = .returned (.tuple #[.U x23a, .agg #[.bool x23b_0, .bool x23b_1, .bool x23b_2, .bool x23b_3]])
  ∧ St w_5 ⟨b_2, 0, none⟩ (.bool x23b_0) fun w_6 => St w_6 ⟨b_2, 1, none⟩ (.bool x23b_1) fun w_7 => St w_7 ⟨b_2, 2, none⟩ (.bool x23b_2) fun w_8 => St w_8 ⟨b_2, 3, none⟩ (.bool x23b_3) fun w_9 => (∃
  (r_0 : Bool), w_9.cell? ⟨b_2, 0, none⟩ = some (.bool r_0) ∧ (∃ (r_1 : Bool), w_9.cell? ⟨b_2, 1, none⟩ = some (.bool r_1) ∧ (∃ (r_2 : Bool), w_9.cell? ⟨b_2, 2, none⟩ = some (.bool r_2) ∧ (∃ (r_3 :
  Bool), w_9.cell? ⟨b_2, 3, none⟩ = some (.bool r_3) ∧ R (.returned (.tuple #[.U x23a, .agg #[.bool r_0, .bool r_1, .bool r_2, .bool r_3]])) w_9)))))) ((∃ J_1 : List Value → World → Prop, (cond
  ((bits .and .i64 q0 15) == 1) (J_1 [.bool ((bits .and .i64 q0 15) == 1)] w_4) (J_1 [.bool ((bits .and .i64 q0 15) == 9)] w_4)) ∧ ∀ (s26 : Bool) (w_10 : World), J_1 [.bool s26] w_10 → cond s26
  ((VCall Tryz.prog (.func (.func 142) #[] #[.P b_1, .P b]) #[.U (bits .xor .u32 q1 q2)] w_10 fun e w_11 => ∃ (x33a : Int) (x33b_0 x33b_1 x33b_2 x33b_3 : Bool), e = .returned (.tuple #[.U x33a, .agg #[.bool x33b_0, .bool x33b_1, .bool x33b_2, .bool x33b_3]]) ∧ St w_11 ⟨b_2, 0, none⟩ (.bool x33b_0) fun
  w_12 => St w_12 ⟨b_2, 1, none⟩ (.bool x33b_1) fun w_13 => St w_13 ⟨b_2, 2, none⟩ (.bool x33b_2) fun w_14 => St w_14 ⟨b_2, 3, none⟩ (.bool x33b_3) fun w_15 => (∃ (r_0_1 : Bool), w_15.cell? ⟨b_2, 0,
  none⟩ = some (.bool r_0_1) ∧ (∃ (r_1_1 : Bool), w_15.cell? ⟨b_2, 1, none⟩ = some (.bool r_1_1) ∧ (∃ (r_2_1 : Bool), w_15.cell? ⟨b_2, 2, none⟩ = some (.bool r_2_1) ∧ (∃ (r_3_1 : Bool), w_15.cell?
  ⟨b_2, 3, none⟩ = some (.bool r_3_1) ∧ R (.returned (.tuple #[.U x33a, .agg #[.bool r_0_1, .bool r_1_1, .bool r_2_1, .bool r_3_1]])) w_15)))))) ((∃ J_2 : List Value → World → Prop, (cond
  ((bits .and .i64 q0 15) == 2) (J_2 [.bool ((bits .and .i64 q0 15) == 2)] w_10) (J_2 [.bool ((bits .and .i64 q0 15) == 10)] w_10)) ∧ ∀ (s36 : Bool) (w_16 : World), J_2 [.bool s36] w_16 → cond s36
  ((Calls Tryz.prog 143 #[.U q1, .U (bits .xor .u32 4294967295 q2), .bool true] w_16 fun e w_17 => ∃ (x42a : Int) (x42b_0 x42b_1 x42b_2 x42b_3 : Bool), e =
  .returned (.tuple #[.U x42a, .agg #[.bool x42b_0, .bool x42b_1, .bool x42b_2, .bool x42b_3]]) ∧ St w_17 ⟨b_2, 0, none⟩ (.bool x42b_0) fun w_18 => St w_18 ⟨b_2, 1, none⟩ (.bool x42b_1) fun
  w_19 => St w_19 ⟨b_2, 2, none⟩ (.bool x42b_2) fun w_20 => St w_20 ⟨b_2, 3, none⟩ (.bool x42b_3) fun w_21 => (∃ (r_0_2 : Bool), w_21.cell? ⟨b_2, 0, none⟩ = some (.bool r_0_2) ∧ (∃ (r_1_2 : Bool),
  w_21.cell? ⟨b_2, 1, none⟩ = some (.bool r_1_2) ∧ (∃ (r_2_2 : Bool), w_21.cell? ⟨b_2, 2, none⟩ = some (.bool r_2_2) ∧ (∃ (r_3_2 : Bool), w_21.cell? ⟨b_2, 3, none⟩ = some (.bool r_3_2) ∧ R (.returned
  (.tuple #[.U x42a, .agg #[.bool r_0_2, .bool r_1_2, .bool r_2_2, .bool r_3_2]])) w_21)))))) (cond ((bits .and .i64 q0 15) == 3) ((Calls Tryz.prog 143 #[.U q2, .U (bits .xor .u32
  4294967295 q1), .bool true] w_16 fun e w_22 => ∃ (x50a : Int) (x50b_0 x50b_1 x50b_2 x50b_3 : Bool), e = .returned (.tuple #[.U x50a, .agg #[.bool x50b_0, .bool
  x50b_1, .bool x50b_2, .bool x50b_3]]) ∧ St w_22 ⟨b_2, 0, none⟩ (.bool x50b_0) fun w_23 => St w_23 ⟨b_2, 1, none⟩ (.bool x50b_1) fun w_24 => St w_24 ⟨b_2, 2, none⟩ (.bool x50b_2) fun w_25 => St w_25
  ⟨b_2, 3, none⟩ (.bool x50b_3) fun w_26 => (∃ (r_0_3 : Bool), w_26.cell? ⟨b_2, 0, none⟩ = some (.bool r_0_3) ∧ (∃ (r_1_3 : Bool), w_26.cell? ⟨b_2, 1, none⟩ = some (.bool r_1_3) ∧ (∃ (r_2_3 : Bool),
  w_26.cell? ⟨b_2, 2, none⟩ = some (.bool r_2_3) ∧ (∃ (r_3_3 : Bool), w_26.cell? ⟨b_2, 3, none⟩ = some (.bool r_3_3) ∧ R (.returned (.tuple #[.U x50a, .agg #[.bool r_0_3, .bool r_1_3, .bool
  r_2_3, .bool r_3_3]])) w_26)))))) ((∃ J_3 : List Value → World → Prop, (cond ((bits .and .i64 q0 15) == 4) (J_3 [.bool ((bits .and .i64 q0 15) == 4)] w_16) (J_3 [.bool ((bits .and .i64 q0 15) ==
  11)] w_16)) ∧ ∀ (s53 : Bool) (w_27 : World), J_3 [.bool s53] w_27 → cond s53 ((Calls Tryz.prog 143 #[.U q1, .U q2, .F] w_27 fun e w_28 => ∃ (x58a : Int) (x58b_0 x58b_1 x58b_2 x58b_3 : Bool), e = .returned (.tuple #[.U x58a, .agg #[.bool x58b_0, .bool x58b_1, .bool x58b_2, .bool x58b_3]]) ∧ St w_28 ⟨b_2, 0, none⟩ (.bool x58b_0) fun
  w_29 => St w_29 ⟨b_2, 1, none⟩ (.bool x58b_1) fun w_30 => St w_30 ⟨b_2, 2, none⟩ (.bool x58b_2) fun w_31 => St w_31 ⟨b_2, 3, none⟩ (.bool x58b_3) fun w_32 => (∃ (r_0_4 : Bool), w_32.cell? ⟨b_2, 0,
  none⟩ = some (.bool r_0_4) ∧ (∃ (r_1_4 : Bool), w_32.cell? ⟨b_2, 1, none⟩ = some (.bool r_1_4) ∧ (∃ (r_2_4 : Bool), w_32.cell? ⟨b_2, 2, none⟩ = some (.bool r_2_4) ∧ (∃ (r_3_4 : Bool), w_32.cell?
  ⟨b_2, 3, none⟩ = some (.bool r_3_4) ∧ R (.returned (.tuple #[.U x58a, .agg #[.bool r_0_4, .bool r_1_4, .bool r_2_4, .bool r_3_4]])) w_32)))))) (cond ((bits .and .i64 q0 15) == 5) ((∃ (x66 :
  Bool), w_27.cell? ⟨b, 2, none⟩ = some (.bool x66) ∧ (Calls Tryz.prog 143 #[.U q1, .U q2, .bool x66] w_27 fun e w_33 => ∃ (x67a : Int) (x67b_0 x67b_1 x67b_2 x67b_3 : Bool), e = .returned (.tuple #[.U x67a, .agg #[.bool x67b_0, .bool x67b_1, .bool x67b_2, .bool x67b_3]]) ∧ St w_33 ⟨b_2, 0, none⟩ (.bool x67b_0) fun w_34 => St w_34 ⟨b_2, 1, none⟩
  (.bool x67b_1) fun w_35 => St w_35 ⟨b_2, 2, none⟩ (.bool x67b_2) fun w_36 => St w_36 ⟨b_2, 3, none⟩ (.bool x67b_3) fun w_37 => (∃ (r_0_5 : Bool), w_37.cell? ⟨b_2, 0, none⟩ = some (.bool r_0_5) ∧ (∃
  (r_1_5 : Bool), w_37.cell? ⟨b_2, 1, none⟩ = some (.bool r_1_5) ∧ (∃ (r_2_5 : Bool), w_37.cell? ⟨b_2, 2, none⟩ = some (.bool r_2_5) ∧ (∃ (r_3_5 : Bool), w_37.cell? ⟨b_2, 3, none⟩ = some (.bool r_3_5)
  ∧ R (.returned (.tuple #[.U x67a, .agg #[.bool r_0_5, .bool r_1_5, .bool r_2_5, .bool r_3_5]])) w_37))))))) (cond ((bits .and .i64 q0 15) == 6) ((∃ (x76 : Bool), w_27.cell? ⟨b, 2, none⟩ =
  some (.bool x76) ∧ (Calls Tryz.prog 143 #[.U q1, .U (bits .xor .u32 4294967295 q2), .bool x76] w_27 fun e w_38 => ∃ (x77a : Int) (x77b_0 x77b_1 x77b_2 : Bool) (x77b_3
  : Bool), e = .returned (.tuple #[.U x77a, .agg #[.bool x77b_0, .bool x77b_1, .bool x77b_2, .bool x77b_3]]) ∧ St w_38 ⟨b_2, 0, none⟩ (.bool x77b_0) fun w_39 => St w_39 ⟨b_2, 1, none⟩ (.bool
  x77b_1) fun w_40 => St w_40 ⟨b_2, 2, none⟩ (.bool x77b_2) fun w_41 => St w_41 ⟨b_2, 3, none⟩ (.bool x77b_3) fun w_42 => (∃ (r_0_6 : Bool), w_42.cell? ⟨b_2, 0, none⟩ = some (.bool r_0_6) ∧ (∃ (r_1_6
  : Bool), w_42.cell? ⟨b_2, 1, none⟩ = some (.bool r_1_6) ∧ (∃ (r_2_6 : Bool), w_42.cell? ⟨b_2, 2, none⟩ = some (.bool r_2_6) ∧ (∃ (r_3_6 : Bool), w_42.cell? ⟨b_2, 3, none⟩ = some (.bool r_3_6) ∧ R
  (.returned (.tuple #[.U x77a, .agg #[.bool r_0_6, .bool r_1_6, .bool r_2_6, .bool r_3_6]])) w_42))))))) (cond ((bits .and .i64 q0 15) == 7) ((∃ (x86 : Bool), w_27.cell? ⟨b, 2, none⟩ = some
  (.bool x86) ∧ (Calls Tryz.prog 143 #[.U q2, .U (bits .xor .u32 4294967295 q1), .bool x86] w_27 fun e w_43 => ∃ (x87a : Int) (x87b_0 x87b_1 x87b_2 : Bool) (x87b_3 :
  Bool), e = .returned (.tuple #[.U x87a, .agg #[.bool x87b_0, .bool x87b_1, .bool x87b_2, .bool x87b_3]]) ∧ St w_43 ⟨b_2, 0, none⟩ (.bool x87b_0) fun w_44 => St w_44 ⟨b_2, 1, none⟩ (.bool
  x87b_1) fun w_45 => St w_45 ⟨b_2, 2, none⟩ (.bool x87b_2) fun w_46 => St w_46 ⟨b_2, 3, none⟩ (.bool x87b_3) fun w_47 => (∃ (r_0_7 : Bool), w_47.cell? ⟨b_2, 0, none⟩ = some (.bool r_0_7) ∧ (∃ (r_1_7
  : Bool), w_47.cell? ⟨b_2, 1, none⟩ = some (.bool r_1_7) ∧ (∃ (r_2_7 : Bool), w_47.cell? ⟨b_2, 2, none⟩ = some (.bool r_2_7) ∧ (∃ (r_3_7 : Bool), w_47.cell? ⟨b_2, 3, none⟩ = some (.bool r_3_7) ∧ R
  (.returned (.tuple #[.U x87a, .agg #[.bool r_0_7, .bool r_1_7, .bool r_2_7, .bool r_3_7]])) w_47))))))) (cond ((bits .and .i64 q0 15) == 12) ((VCall Tryz.prog (.func (.func 142) #[]
  #[.P b_1, .P b]) #[.U (bits .or .u32 q1 q2)] w_27 fun e w_48 => ∃ (x96a : Int) (x96b_0 x96b_1 x96b_2 x96b_3 : Bool),
  e = .returned (.tuple #[.U x96a, .agg #[.bool x96b_0, .bool x96b_1, .bool x96b_2, .bool x96b_3]]) ∧ St w_48 ⟨b_2, 0, none⟩ (.bool x96b_0) fun w_49 => St w_49 ⟨b_2, 1, none⟩ (.bool x96b_1) fun
  w_50 => St w_50 ⟨b_2, 2, none⟩ (.bool x96b_2) fun w_51 => St w_51 ⟨b_2, 3, none⟩ (.bool x96b_3) fun w_52 => (∃ (r_0_8 : Bool), w_52.cell? ⟨b_2, 0, none⟩ = some (.bool r_0_8) ∧ (∃ (r_1_8 : Bool),
  w_52.cell? ⟨b_2, 1, none⟩ = some (.bool r_1_8) ∧ (∃ (r_2_8 : Bool), w_52.cell? ⟨b_2, 2, none⟩ = some (.bool r_2_8) ∧ (∃ (r_3_8 : Bool), w_52.cell? ⟨b_2, 3, none⟩ = some (.bool r_3_8) ∧ R (.returned
  (.tuple #[.U x96a, .agg #[.bool r_0_8, .bool r_1_8, .bool r_2_8, .bool r_3_8]])) w_52)))))) (cond ((bits .and .i64 q0 15) == 13) ((VCall Tryz.prog (.func (.func 142) #[] #[.P b_1, .P b]) #[.U q2] w_27 fun e w_53 => ∃ (x103a : Int) (x103b_0 x103b_1 x103b_2 x103b_3 : Bool), e = .returned (.tuple #[.U x103a, .agg #[.bool x103b_0, .bool x103b_1, .bool x103b_2, .bool x103b_3]]) ∧ St w_53 ⟨b_2, 0, none⟩ (.bool x103b_0) fun w_54 => St w_54 ⟨b_2, 1, none⟩ (.bool x103b_1) fun w_55 => St w_55 ⟨b_2,
  2, none⟩ (.bool x103b_2) fun w_56 => St w_56 ⟨b_2, 3, none⟩ (.bool x103b_3) fun w_57 => (∃ (r_0_9 : Bool), w_57.cell? ⟨b_2, 0, none⟩ = some (.bool r_0_9) ∧ (∃ (r_1_9 : Bool), w_57.cell? ⟨b_2, 1,
  none⟩ = some (.bool r_1_9) ∧ (∃ (r_2_9 : Bool), w_57.cell? ⟨b_2, 2, none⟩ = some (.bool r_2_9) ∧ (∃ (r_3_9 : Bool), w_57.cell? ⟨b_2, 3, none⟩ = some (.bool r_3_9) ∧ R (.returned (.tuple #[.U x103a, .agg #[.bool r_0_9, .bool r_1_9, .bool r_2_9, .bool r_3_9]])) w_57)))))) (cond ((bits .and .i64 q0 15) == 14) ((VCall Tryz.prog (.func (.func 142) #[] #[.P b_1,
  .P b]) #[.U (bits .andNot .u32 q1 q2)] w_27 fun e w_58 => ∃ (x112a : Int) (x112b_0 x112b_1 x112b_2 x112b_3 : Bool), e = .returned (.tuple
  #[.U x112a, .agg #[.bool x112b_0, .bool x112b_1, .bool x112b_2, .bool x112b_3]]) ∧ St w_58 ⟨b_2, 0, none⟩ (.bool x112b_0) fun w_59 => St w_59 ⟨b_2, 1, none⟩ (.bool x112b_1) fun w_60 => St
  w_60 ⟨b_2, 2, none⟩ (.bool x112b_2) fun w_61 => St w_61 ⟨b_2, 3, none⟩ (.bool x112b_3) fun w_62 => (∃ (r_0_10 : Bool), w_62.cell? ⟨b_2, 0, none⟩ = some (.bool r_0_10) ∧ (∃ (r_1_10 : Bool),
  w_62.cell? ⟨b_2, 1, none⟩ = some (.bool r_1_10) ∧ (∃ (r_2_10 : Bool), w_62.cell? ⟨b_2, 2, none⟩ = some (.bool r_2_10) ∧ (∃ (r_3_10 : Bool), w_62.cell? ⟨b_2, 3, none⟩ = some (.bool r_3_10) ∧ R
  (.returned (.tuple #[.U x112a, .agg #[.bool r_0_10, .bool r_1_10, .bool r_2_10, .bool r_3_10]])) w_62)))))) ((VCall Tryz.prog (.func (.func 142) #[] #[.P b_1, .P b]) #[.U (bits .xor .u32 4294967295 q2)] w_27 fun e w_63 => ∃ (x118a : Int) (x118b_0 x118b_1 x118b_2 x118b_3 : Bool), e = .returned (.tuple #[.U x118a, .agg #[.bool x118b_0, .bool x118b_1, .bool x118b_2, .bool x118b_3]]) ∧ St w_63 ⟨b_2, 0, none⟩ (.bool x118b_0) fun w_64 => St w_64 ⟨b_2, 1, none⟩ (.bool x118b_1) fun w_65 => St w_65 ⟨b_2,
  2, none⟩ (.bool x118b_2) fun w_66 => St w_66 ⟨b_2, 3, none⟩ (.bool x118b_3) fun w_67 => (∃ (r_0_11 : Bool), w_67.cell? ⟨b_2, 0, none⟩ = some (.bool r_0_11) ∧ (∃ (r_1_11 : Bool), w_67.cell? ⟨b_2, 1,
  none⟩ = some (.bool r_1_11) ∧ (∃ (r_2_11 : Bool), w_67.cell? ⟨b_2, 2, none⟩ = some (.bool r_2_11) ∧ (∃ (r_3_11 : Bool), w_67.cell? ⟨b_2, 3, none⟩ = some (.bool r_3_11) ∧ R (.returned (.tuple #[.U x118a, .agg #[.bool r_0_11, .bool r_1_11, .bool r_2_11, .bool r_3_11]])) w_67))))))))))))))))))))
set_option maxRecDepth 100000 in
theorem v_Do (q0 q1 q2 : Int) (q3_0 q3_1 q3_2 q3_3 q4 : Bool) (R : Ending → World → Prop) (w : World) :
  vc Tryz.prog ann_Do (Tryz.f87.body.getD .skip) (retQ Tryz.prog Tryz.f87.results.toList R) (initFr [.I q0, .U q1, .U q2, .agg #[.bool q3_0, .bool q3_1, .bool q3_2, .bool q3_3], .bool q4] Tryz.f87.ntmps) w = p_Do q0 q1 q2 q3_0 q3_1 q3_2 q3_3 q4 R w := by kernel_rfl
theorem c_Do (q0 q1 q2 : Int) (q3_0 q3_1 q3_2 q3_3 q4 : Bool) (R : Ending → World → Prop) (w : World) (h : p_Do q0 q1 q2 q3_0 q3_1 q3_2 q3_3 q4 R w) : Calls Tryz.prog 87 #[.I q0, .U q1, .U q2, .agg #[.bool q3_0, .bool q3_1, .bool q3_2, .bool q3_3], .bool q4] w R :=
  calls_by (P := Tryz.prog) (f := 87) (fn := Tryz.f87) (c := Tryz.f87.body.getD .skip) (args := [.I q0, .U q1, .U q2, .agg #[.bool q3_0, .bool q3_1, .bool q3_2, .bool q3_3], .bool q4]) (w := w) (R := R) (p := p_Do q0 q1 q2 q3_0 q3_1 q3_2 q3_3 q4 R w) ann_Do Tryz.func87 rfl (v_Do q0 q1 q2 q3_0 q3_1 q3_2 q3_3 q4 R w) h
abbrev O_Do := (Int × Bool × Bool × Bool × Bool)
set_option maxRecDepth 100000 in
noncomputable def f_Do (q0 q1 q2 : Int) (q3_0 q3_1 q3_2 q3_3 q4 : Bool) : Option O_Do :=
  (((cond ((bits .and .i64 q0 15) == 0) (some ((bits .and .i64 q0 15) == 0)) (some ((bits .and .i64 q0 15) == 8))) : Option Bool).bind (fun (s16 : Bool) => (cond s16 ((f_logic (bits .and .u32 q1 q2) q4 q3_0 q3_1 q3_2 q3_3).bind fun (o : O_logic) => (match o with | (x23a, x23b_0, x23b_1, x23b_2, x23b_3) => (some (x23a, x23b_0, x23b_1, x23b_2, x23b_3)))) (((cond ((bits .and .i64 q0 15) == 1) (some ((bits .and .i64 q0 15) == 1)) (some ((bits .and .i64 q0 15) == 9))) : Option Bool).bind (fun (s26 : Bool) => (cond s26 ((f_logic (bits .xor .u32 q1 q2) q4 q3_0 q3_1 q3_2 q3_3).bind fun (o : O_logic) => (match o with | (x33a, x33b_0, x33b_1, x33b_2, x33b_3) => (some (x33a, x33b_0, x33b_1, x33b_2, x33b_3)))) (((cond ((bits .and .i64 q0 15) == 2) (some ((bits .and .i64 q0 15) == 2)) (some ((bits .and .i64 q0 15) == 10))) : Option Bool).bind (fun (s36 : Bool) => (cond s36 ((f_asum q1 (bits .xor .u32 4294967295 q2) true).bind fun (o : O_asum) => (match o with | (x42a, x42b_0, x42b_1, x42b_2, x42b_3) => (some (x42a, x42b_0, x42b_1, x42b_2, x42b_3)))) (cond ((bits .and .i64 q0 15) == 3) ((f_asum q2 (bits .xor .u32 4294967295 q1) true).bind fun (o : O_asum) => (match o with | (x50a, x50b_0, x50b_1, x50b_2, x50b_3) => (some (x50a, x50b_0, x50b_1, x50b_2, x50b_3)))) (((cond ((bits .and .i64 q0 15) == 4) (some ((bits .and .i64 q0 15) == 4)) (some ((bits .and .i64 q0 15) == 11))) : Option Bool).bind (fun (s53 : Bool) => (cond s53 ((f_asum q1 q2 false).bind fun (o : O_asum) => (match o with | (x58a, x58b_0, x58b_1, x58b_2, x58b_3) => (some (x58a, x58b_0, x58b_1, x58b_2, x58b_3)))) (cond ((bits .and .i64 q0 15) == 5) ((f_asum q1 q2 q3_2).bind fun (o : O_asum) => (match o with | (x67a, x67b_0, x67b_1, x67b_2, x67b_3) => (some (x67a, x67b_0, x67b_1, x67b_2, x67b_3)))) (cond ((bits .and .i64 q0 15) == 6) ((f_asum q1 (bits .xor .u32 4294967295 q2) q3_2).bind fun (o : O_asum) => (match o with | (x77a, x77b_0, x77b_1, x77b_2, x77b_3) => (some (x77a, x77b_0, x77b_1, x77b_2, x77b_3)))) (cond ((bits .and .i64 q0 15) == 7) ((f_asum q2 (bits .xor .u32 4294967295 q1) q3_2).bind fun (o : O_asum) => (match o with | (x87a, x87b_0, x87b_1, x87b_2, x87b_3) => (some (x87a, x87b_0, x87b_1, x87b_2, x87b_3)))) (cond ((bits .and .i64 q0 15) == 12) ((f_logic (bits .or .u32 q1 q2) q4 q3_0 q3_1 q3_2 q3_3).bind fun (o : O_logic) => (match o with | (x96a, x96b_0, x96b_1, x96b_2, x96b_3) => (some (x96a, x96b_0, x96b_1, x96b_2, x96b_3)))) (cond ((bits .and .i64 q0 15) == 13) ((f_logic q2 q4 q3_0 q3_1 q3_2 q3_3).bind fun (o : O_logic) => (match o with | (x103a, x103b_0, x103b_1, x103b_2, x103b_3) => (some (x103a, x103b_0, x103b_1, x103b_2, x103b_3)))) (cond ((bits .and .i64 q0 15) == 14) ((f_logic (bits .andNot .u32 q1 q2) q4 q3_0 q3_1 q3_2 q3_3).bind fun (o : O_logic) => (match o with | (x112a, x112b_0, x112b_1, x112b_2, x112b_3) => (some (x112a, x112b_0, x112b_1, x112b_2, x112b_3)))) ((f_logic (bits .xor .u32 4294967295 q2) q4 q3_0 q3_1 q3_2 q3_3).bind fun (o : O_logic) => (match o with | (x118a, x118b_0, x118b_1, x118b_2, x118b_3) => (some (x118a, x118b_0, x118b_1, x118b_2, x118b_3)))))))))))))))))))))))
def o_Do (q0 q1 q2 : Int) (q3_0 q3_1 q3_2 q3_3 q4 : Bool) (w0 : World) : O_Do → Ending → World → Prop
  | (r0, r1_0, r1_1, r1_2, r1_3), e, w => e = .returned (.tuple #[.U r0, .agg #[.bool r1_0, .bool r1_1, .bool r1_2, .bool r1_3]]) ∧ Now (Foot []) w0 w []
set_option maxRecDepth 100000 in
set_option maxHeartbeats 4000000 in
theorem t_Do {q0 q1 q2 : Int} {q3_0 q3_1 q3_2 q3_3 q4 : Bool} {w0 : World} {r : O_Do} (hf : f_Do q0 q1 q2 q3_0 q3_1 q3_2 q3_3 q4 = some r) (hp : Hp w0 []) : Calls Tryz.prog 87 #[.I q0, .U q1, .U q2, .agg #[.bool q3_0, .bool q3_1, .bool q3_2, .bool q3_3], .bool q4] w0 (o_Do q0 q1 q2 q3_0 q3_1 q3_2 q3_3 q4 w0 r) := by
  apply c_Do q0 q1 q2 q3_0 q3_1 q3_2 q3_3 q4
  unfold p_Do
  unfold f_Do at hf
  have n0 : Now (Foot []) w0 w0 [] := Now.start hp
  exact (
  n0.Nw (cs := [.bool q3_0, .bool q3_1, .bool q3_2, .bool q3_3]) fun b w_1 n1 => n1.Nw (cs := [.bool q4]) fun b_1 w_2 n2 => n2.Nw (cs := [.F, .F, .F, .F]) fun b_2 w_3 n3 => joinF hf fun T4 t5 ⟨x8, h6, t7⟩ => ⟨fun vsI wI => match vsI with | [.bool s16] => Now (Foot []) w0 wI [box b_2 [.F, .F, .F, .F] 120, box b_1 [.bool q4] 4, box b [.bool q3_0, .bool q3_1, .bool q3_2, .bool q3_3] 120] ∧ T4 s16 | _ => False, (condF h6 (fun c9 h10 => have n11 := n3.front2; have n12 := n11.front2; have n13 := n12.front2; ⟨n13, joinTo h10 t7⟩) (fun c9 h14 => have n15 := n3.front2; have n16 := n15.front2; have n17 := n16.front2; ⟨n17, joinTo h14 t7⟩)), fun s16 w_4 ⟨n18, t19⟩ => condF (t5 _ t19) (fun c20 h21 => have n22 := n18.front2; have n23 := n22.front2; bindF h21 (fun o => match o with | (x23a, x23b_0, x23b_1, x23b_2, x23b_3) => fun h24 h26 => vcall_of rfl bod_142 rfl <| (t_logic h24 (n23.take [_, _])).mono fun _ w_5 ⟨e27, n28⟩ => ⟨x23a, x23b_0, x23b_1, x23b_2, x23b_3, e27, have n25 := n23.call [_, _] n28; (n25.front2).St (by rfl) fun w_6 n29 => n29.St (by rfl) fun w_7 n30 => n30.St (by rfl) fun w_8 n31 => n31.St (by rfl) fun w_9 n32 => ⟨x23b_0, n32.cell 0 rfl, ⟨x23b_1, n32.cell 1 rfl, ⟨x23b_2, n32.cell 2 rfl, ⟨x23b_3, n32.cell 3 rfl, have n33 := n32.takeN 0; leafF (α := O_Do) (x := (x23a, x23b_0, x23b_1, x23b_2, x23b_3)) (G := fun r => o_Do _ _ _ _ _ _ _ _ w0 r (.returned (.tuple #[.U x23a, .agg #[.bool x23b_0, .bool x23b_1, .bool x23b_2, .bool x23b_3]])) w_9) h26 ⟨rfl, n33⟩⟩⟩⟩⟩⟩)) (fun c20 h34 => joinF h34 fun T35 t36 ⟨x39, h37, t38⟩ => ⟨fun vsI wI => match vsI with | [.bool s26] => Now (Foot []) w0 wI [box b_2 [.F, .F, .F, .F] 120, box b_1 [.bool q4] 4, box b [.bool q3_0, .bool q3_1, .bool q3_2, .bool q3_3] 120] ∧ T35 s26 | _ => False, (condF h37 (fun c40 h41 => have n42 := n18.front2; have n43 := n42.front2; have n44 := n43.front2; ⟨n44, joinTo h41 t38⟩) (fun c40 h45 => have n46 := n18.front2; have n47 := n46.front2; have n48 := n47.front2; ⟨n48, joinTo h45 t38⟩)), fun s26 w_10 ⟨n49, t50⟩ => condF (t36 _ t50) (fun c51 h52 => have n53 := n49.front2; have n54 := n53.front2; bindF h52 (fun o => match o with | (x33a, x33b_0, x33b_1, x33b_2, x33b_3) => fun h55 h57 => vcall_of rfl bod_142 rfl <| (t_logic h55 (n54.take [_, _])).mono fun _ w_11 ⟨e58, n59⟩ => ⟨x33a, x33b_0, x33b_1, x33b_2, x33b_3, e58, have n56 := n54.call [_, _] n59; (n56.front2).St (by rfl) fun w_12 n60 => n60.St (by rfl) fun w_13 n61 => n61.St (by rfl) fun w_14 n62 => n62.St (by rfl) fun w_15 n63 => ⟨x33b_0, n63.cell 0 rfl, ⟨x33b_1, n63.cell 1 rfl, ⟨x33b_2, n63.cell 2 rfl, ⟨x33b_3, n63.cell 3 rfl, have n64 := n63.takeN 0; leafF (α := O_Do) (x := (x33a, x33b_0, x33b_1, x33b_2, x33b_3)) (G := fun r => o_Do _ _ _ _ _ _ _ _ w0 r (.returned (.tuple #[.U x33a, .agg #[.bool x33b_0, .bool x33b_1, .bool x33b_2, .bool x33b_3]])) w_15) h57 ⟨rfl, n64⟩⟩⟩⟩⟩⟩)) (fun c51 h65 => joinF h65 fun T66 t67 ⟨x70, h68, t69⟩ => ⟨fun vsI wI => match vsI with | [.bool s36] => Now (Foot []) w0 wI [box b_2 [.F, .F, .F, .F] 120, box b_1 [.bool q4] 4, box b [.bool q3_0, .bool q3_1, .bool q3_2, .bool q3_3] 120] ∧ T66 s36 | _ => False, (condF h68 (fun c71 h72 => have n73 := n49.front2; have n74 := n73.front2; have n75 := n74.front2; ⟨n75, joinTo h72 t69⟩) (fun c71 h76 => have n77 := n49.front2; have n78 := n77.front2; have n79 := n78.front2; ⟨n79, joinTo h76 t69⟩)), fun s36 w_16 ⟨n80, t81⟩ => condF (t67 _ t81) (fun c82 h83 => bindF h83 (fun o => match o with | (x42a, x42b_0, x42b_1, x42b_2, x42b_3) => fun h84 h86 => (t_asum h84 (n80.take [])).mono fun _ w_17 ⟨e87, n88⟩ => ⟨x42a, x42b_0, x42b_1, x42b_2, x42b_3, e87, have n85 := n80.call [] n88; n85.St (by rfl) fun w_18 n89 => n89.St (by rfl) fun w_19 n90 => n90.St (by rfl) fun w_20 n91 => n91.St (by rfl) fun w_21 n92 => ⟨x42b_0, n92.cell 0 rfl, ⟨x42b_1, n92.cell 1 rfl, ⟨x42b_2, n92.cell 2 rfl, ⟨x42b_3, n92.cell 3 rfl, have n93 := n92.takeN 0; leafF (α := O_Do) (x := (x42a, x42b_0, x42b_1, x42b_2, x42b_3)) (G := fun r => o_Do _ _ _ _ _ _ _ _ w0 r (.returned (.tuple #[.U x42a, .agg #[.bool x42b_0, .bool x42b_1, .bool x42b_2, .bool x42b_3]])) w_21) h86 ⟨rfl, n93⟩⟩⟩⟩⟩⟩)) (fun c82 h94 => condF h94 (fun c95 h96 => bindF h96 (fun o => match o with | (x50a, x50b_0, x50b_1, x50b_2, x50b_3) => fun h97 h99 => (t_asum h97 (n80.take [])).mono fun _ w_22 ⟨e100, n101⟩ => ⟨x50a, x50b_0, x50b_1, x50b_2, x50b_3, e100, have n98 := n80.call [] n101; n98.St (by rfl) fun w_23 n102 => n102.St (by rfl) fun w_24 n103 => n103.St (by rfl) fun w_25 n104 => n104.St (by rfl) fun w_26 n105 => ⟨x50b_0, n105.cell 0 rfl, ⟨x50b_1, n105.cell 1 rfl, ⟨x50b_2, n105.cell 2 rfl, ⟨x50b_3, n105.cell 3 rfl, have n106 := n105.takeN 0; leafF (α := O_Do) (x := (x50a, x50b_0, x50b_1, x50b_2, x50b_3)) (G := fun r => o_Do _ _ _ _ _ _ _ _ w0 r (.returned (.tuple #[.U x50a, .agg #[.bool x50b_0, .bool x50b_1, .bool x50b_2, .bool x50b_3]])) w_26) h99 ⟨rfl, n106⟩⟩⟩⟩⟩⟩)) (fun c95 h107 => joinF h107 fun T108 t109 ⟨x112, h110, t111⟩ => ⟨fun vsI wI => match vsI with | [.bool s53] => Now (Foot []) w0 wI [box b_2 [.F, .F, .F, .F] 120, box b_1 [.bool q4] 4, box b [.bool q3_0, .bool q3_1, .bool q3_2, .bool q3_3] 120] ∧ T108 s53 | _ => False, (condF h110 (fun c113 h114 => have n115 := n80.front2; have n116 := n115.front2; have n117 := n116.front2; ⟨n117, joinTo h114 t111⟩) (fun c113 h118 => have n119 := n80.front2; have n120 := n119.front2; have n121 := n120.front2; ⟨n121, joinTo h118 t111⟩)), fun s53 w_27 ⟨n122, t123⟩ => condF (t109 _ t123) (fun c124 h125 => bindF h125 (fun o => match o with | (x58a, x58b_0, x58b_1, x58b_2, x58b_3) => fun h126 h128 => (t_asum h126 (n122.take [])).mono fun _ w_28 ⟨e129, n130⟩ => ⟨x58a, x58b_0, x58b_1, x58b_2, x58b_3, e129, have n127 := n122.call [] n130; n127.St (by rfl) fun w_29 n131 => n131.St (by rfl) fun w_30 n132 => n132.St (by rfl) fun w_31 n133 => n133.St (by rfl) fun w_32 n134 => ⟨x58b_0, n134.cell 0 rfl, ⟨x58b_1, n134.cell 1 rfl, ⟨x58b_2, n134.cell 2 rfl, ⟨x58b_3, n134.cell 3 rfl, have n135 := n134.takeN 0; leafF (α := O_Do) (x := (x58a, x58b_0, x58b_1, x58b_2, x58b_3)) (G := fun r => o_Do _ _ _ _ _ _ _ _ w0 r (.returned (.tuple #[.U x58a, .agg #[.bool x58b_0, .bool x58b_1, .bool x58b_2, .bool x58b_3]])) w_32) h128 ⟨rfl, n135⟩⟩⟩⟩⟩⟩)) (fun c124 h136 => condF h136 (fun c137 h138 => ⟨q3_2, (n122.front2).cell 2 rfl, bindF h138 (fun o => match o with | (x67a, x67b_0, x67b_1, x67b_2, x67b_3) => fun h139 h141 => (t_asum h139 (n122.take [])).mono fun _ w_33 ⟨e142, n143⟩ => ⟨x67a, x67b_0, x67b_1, x67b_2, x67b_3, e142, have n140 := n122.call [] n143; n140.St (by rfl) fun w_34 n144 => n144.St (by rfl) fun w_35 n145 => n145.St (by rfl) fun w_36 n146 => n146.St (by rfl) fun w_37 n147 => ⟨x67b_0, n147.cell 0 rfl, ⟨x67b_1, n147.cell 1 rfl, ⟨x67b_2, n147.cell 2 rfl, ⟨x67b_3, n147.cell 3 rfl, have n148 := n147.takeN 0; leafF (α := O_Do) (x := (x67a, x67b_0, x67b_1, x67b_2, x67b_3)) (G := fun r => o_Do _ _ _ _ _ _ _ _ w0 r (.returned (.tuple #[.U x67a, .agg #[.bool x67b_0, .bool x67b_1, .bool x67b_2, .bool x67b_3]])) w_37) h141 ⟨rfl, n148⟩⟩⟩⟩⟩⟩)⟩) (fun c137 h149 => condF h149 (fun c150 h151 => ⟨q3_2, (n122.front2).cell 2 rfl, bindF h151 (fun o => match o with | (x77a, x77b_0, x77b_1, x77b_2, x77b_3) => fun h152 h154 => (t_asum h152 (n122.take [])).mono fun _ w_38 ⟨e155, n156⟩ => ⟨x77a, x77b_0, x77b_1, x77b_2, x77b_3, e155, have n153 := n122.call [] n156; n153.St (by rfl) fun w_39 n157 => n157.St (by rfl) fun w_40 n158 => n158.St (by rfl) fun w_41 n159 => n159.St (by rfl) fun w_42 n160 => ⟨x77b_0, n160.cell 0 rfl, ⟨x77b_1, n160.cell 1 rfl, ⟨x77b_2, n160.cell 2 rfl, ⟨x77b_3, n160.cell 3 rfl, have n161 := n160.takeN 0; leafF (α := O_Do) (x := (x77a, x77b_0, x77b_1, x77b_2, x77b_3)) (G := fun r => o_Do _ _ _ _ _ _ _ _ w0 r (.returned (.tuple #[.U x77a, .agg #[.bool x77b_0, .bool x77b_1, .bool x77b_2, .bool x77b_3]])) w_42) h154 ⟨rfl, n161⟩⟩⟩⟩⟩⟩)⟩) (fun c150 h162 => condF h162 (fun c163 h164 => ⟨q3_2, (n122.front2).cell 2 rfl, bindF h164 (fun o => match o with | (x87a, x87b_0, x87b_1, x87b_2, x87b_3) => fun h165 h167 => (t_asum h165 (n122.take [])).mono fun _ w_43 ⟨e168, n169⟩ => ⟨x87a, x87b_0, x87b_1, x87b_2, x87b_3, e168, have n166 := n122.call [] n169; n166.St (by rfl) fun w_44 n170 => n170.St (by rfl) fun w_45 n171 => n171.St (by rfl) fun w_46 n172 => n172.St (by rfl) fun w_47 n173 => ⟨x87b_0, n173.cell 0 rfl, ⟨x87b_1, n173.cell 1 rfl, ⟨x87b_2, n173.cell 2 rfl, ⟨x87b_3, n173.cell 3 rfl, have n174 := n173.takeN 0; leafF (α := O_Do) (x := (x87a, x87b_0, x87b_1, x87b_2, x87b_3)) (G := fun r => o_Do _ _ _ _ _ _ _ _ w0 r (.returned (.tuple #[.U x87a, .agg #[.bool x87b_0, .bool x87b_1, .bool x87b_2, .bool x87b_3]])) w_47) h167 ⟨rfl, n174⟩⟩⟩⟩⟩⟩)⟩) (fun c163 h175 => condF h175 (fun c176 h177 => have n178 := n122.front2; have n179 := n178.front2; bindF h177 (fun o => match o with | (x96a, x96b_0, x96b_1, x96b_2, x96b_3) => fun h180 h182 => vcall_of rfl bod_142 rfl <| (t_logic h180 (n179.take [_, _])).mono fun _ w_48 ⟨e183, n184⟩ => ⟨x96a, x96b_0, x96b_1, x96b_2, x96b_3, e183, have n181 := n179.call [_, _] n184; (n181.front2).St (by rfl) fun w_49 n185 => n185.St (by rfl) fun w_50 n186 => n186.St (by rfl) fun w_51 n187 => n187.St (by rfl) fun w_52 n188 => ⟨x96b_0, n188.cell 0 rfl, ⟨x96b_1, n188.cell 1 rfl, ⟨x96b_2, n188.cell 2 rfl, ⟨x96b_3, n188.cell 3 rfl, have n189 := n188.takeN 0; leafF (α := O_Do) (x := (x96a, x96b_0, x96b_1, x96b_2, x96b_3)) (G := fun r => o_Do _ _ _ _ _ _ _ _ w0 r (.returned (.tuple #[.U x96a, .agg #[.bool x96b_0, .bool x96b_1, .bool x96b_2, .bool x96b_3]])) w_52) h182 ⟨rfl, n189⟩⟩⟩⟩⟩⟩)) (fun c176 h190 => condF h190 (fun c191 h192 => have n193 := n122.front2; have n194 := n193.front2; bindF h192 (fun o => match o with | (x103a, x103b_0, x103b_1, x103b_2, x103b_3) => fun h195 h197 => vcall_of rfl bod_142 rfl <| (t_logic h195 (n194.take [_, _])).mono fun _ w_53 ⟨e198, n199⟩ => ⟨x103a, x103b_0, x103b_1, x103b_2, x103b_3, e198, have n196 := n194.call [_, _] n199; (n196.front2).St (by rfl) fun w_54 n200 => n200.St (by rfl) fun w_55 n201 => n201.St (by rfl) fun w_56 n202 => n202.St (by rfl) fun w_57 n203 => ⟨x103b_0, n203.cell 0 rfl, ⟨x103b_1, n203.cell 1 rfl, ⟨x103b_2, n203.cell 2 rfl, ⟨x103b_3, n203.cell 3 rfl, have n204 := n203.takeN 0; leafF (α := O_Do) (x := (x103a, x103b_0, x103b_1, x103b_2, x103b_3)) (G := fun r => o_Do _ _ _ _ _ _ _ _ w0 r (.returned (.tuple #[.U x103a, .agg #[.bool x103b_0, .bool x103b_1, .bool x103b_2, .bool x103b_3]])) w_57) h197 ⟨rfl, n204⟩⟩⟩⟩⟩⟩)) (fun c191 h205 => condF h205 (fun c206 h207 => have n208 := n122.front2; have n209 := n208.front2; bindF h207 (fun o => match o with | (x112a, x112b_0, x112b_1, x112b_2, x112b_3) => fun h210 h212 => vcall_of rfl bod_142 rfl <| (t_logic h210 (n209.take [_, _])).mono fun _ w_58 ⟨e213, n214⟩ => ⟨x112a, x112b_0, x112b_1, x112b_2, x112b_3, e213, have n211 := n209.call [_, _] n214; (n211.front2).St (by rfl) fun w_59 n215 => n215.St (by rfl) fun w_60 n216 => n216.St (by rfl) fun w_61 n217 => n217.St (by rfl) fun w_62 n218 => ⟨x112b_0, n218.cell 0 rfl, ⟨x112b_1, n218.cell 1 rfl, ⟨x112b_2, n218.cell 2 rfl, ⟨x112b_3, n218.cell 3 rfl, have n219 := n218.takeN 0; leafF (α := O_Do) (x := (x112a, x112b_0, x112b_1, x112b_2, x112b_3)) (G := fun r => o_Do _ _ _ _ _ _ _ _ w0 r (.returned (.tuple #[.U x112a, .agg #[.bool x112b_0, .bool x112b_1, .bool x112b_2, .bool x112b_3]])) w_62) h212 ⟨rfl, n219⟩⟩⟩⟩⟩⟩)) (fun c206 h220 => have n221 := n122.front2; have n222 := n221.front2; bindF h220 (fun o => match o with | (x118a, x118b_0, x118b_1, x118b_2, x118b_3) => fun h223 h225 => vcall_of rfl bod_142 rfl <| (t_logic h223 (n222.take [_, _])).mono fun _ w_63 ⟨e226, n227⟩ => ⟨x118a, x118b_0, x118b_1, x118b_2, x118b_3, e226, have n224 := n222.call [_, _] n227; (n224.front2).St (by rfl) fun w_64 n228 => n228.St (by rfl) fun w_65 n229 => n229.St (by rfl) fun w_66 n230 => n230.St (by rfl) fun w_67 n231 => ⟨x118b_0, n231.cell 0 rfl, ⟨x118b_1, n231.cell 1 rfl, ⟨x118b_2, n231.cell 2 rfl, ⟨x118b_3, n231.cell 3 rfl, have n232 := n231.takeN 0; leafF (α := O_Do) (x := (x118a, x118b_0, x118b_1, x118b_2, x118b_3)) (G := fun r => o_Do _ _ _ _ _ _ _ _ w0 r (.returned (.tuple #[.U x118a, .agg #[.bool x118b_0, .bool x118b_1, .bool x118b_2, .bool x118b_3]])) w_67) h225 ⟨rfl, n232⟩⟩⟩⟩⟩⟩))))))))⟩))⟩)⟩)⟩)

/-! cameo/alu.Keeps -/
abbrev n_Keeps : FuncId := 88
def ann_Keeps : Ann := ⟨[], [], []⟩
set_option maxRecDepth 100000 in
def p_Keeps (q0 : Int) (R : Ending → World → Prop) (w : World) : Prop :=
  R (.returned (.bool ((bits .and .i64 q0 12) == 8))) w
set_option maxRecDepth 100000 in
theorem v_Keeps (q0 : Int) (R : Ending → World → Prop) (w : World) :
  vc Tryz.prog ann_Keeps (Tryz.f88.body.getD .skip) (retQ Tryz.prog Tryz.f88.results.toList R) (initFr [.I q0] Tryz.f88.ntmps) w = p_Keeps q0 R w := by kernel_rfl
theorem c_Keeps (q0 : Int) (R : Ending → World → Prop) (w : World) (h : p_Keeps q0 R w) : Calls Tryz.prog 88 #[.I q0] w R :=
  calls_by (P := Tryz.prog) (f := 88) (fn := Tryz.f88) (c := Tryz.f88.body.getD .skip) (args := [.I q0]) (w := w) (R := R) (p := p_Keeps q0 R w) ann_Keeps Tryz.func88 rfl (v_Keeps q0 R w) h
abbrev O_Keeps := Bool
set_option maxRecDepth 100000 in
noncomputable def f_Keeps (q0 : Int) : Option O_Keeps :=
  (some ((bits .and .i64 q0 12) == 8))
def o_Keeps (q0 : Int) (w0 : World) : O_Keeps → Ending → World → Prop
  | r0, e, w => e = .returned (.bool r0) ∧ Dr w0 w
set_option maxRecDepth 100000 in
set_option maxHeartbeats 4000000 in
theorem tq_Keeps {q0 : Int} {r : O_Keeps} (hf : f_Keeps q0 = some r) (w0 : World) : Calls Tryz.prog 88 #[.I q0] w0 (o_Keeps q0 w0 r) := by
  apply c_Keeps
  unfold p_Keeps
  unfold f_Keeps at hf
  have n0 : Dr w0 w0 := Dr.refl _
  exact (
  leafF (α := O_Keeps) (x := ((bits .and .i64 q0 12) == 8)) (G := fun r => o_Keeps _ w0 r (.returned (.bool ((bits .and .i64 q0 12) == 8))) w0) hf ⟨rfl, n0⟩)

/-! cameo/alu.Holds -/
abbrev n_Holds : FuncId := 31
def ann_Holds : Ann := ⟨[], [], []⟩
set_option maxRecDepth 100000 in
def p_Holds (q0 : Int) (q1_0 q1_1 q1_2 q1_3 : Bool) (R : Ending → World → Prop) (w : World) : Prop :=
  Nw w (.cells #[.bool q1_0, .bool q1_1, .bool q1_2, .bool q1_3] 120) fun b w_1 => cond ((bits .and .i64 q0 14) == 0) ((∃ (x11 : Bool), w_1.cell? ⟨b, 1, none⟩ = some (.bool x11) ∧ R (.returned (.bool
  (x11 == ((bits .and .i64 q0 1) == 0)))) w_1)) (cond ((bits .and .i64 q0 14) == 2) ((∃ (x15 : Bool), w_1.cell? ⟨b, 2, none⟩ = some (.bool x15) ∧ R (.returned (.bool (x15 == ((bits .and .i64 q0 1) ==
  0)))) w_1)) (cond ((bits .and .i64 q0 14) == 4) ((∃ (x19 : Bool), w_1.cell? ⟨b, 0, none⟩ = some (.bool x19) ∧ R (.returned (.bool (x19 == ((bits .and .i64 q0 1) == 0)))) w_1)) (cond ((bits .and .i64
  q0 14) == 6) ((∃ (x23 : Bool), w_1.cell? ⟨b, 3, none⟩ = some (.bool x23) ∧ R (.returned (.bool (x23 == ((bits .and .i64 q0 1) == 0)))) w_1)) (cond ((bits .and .i64 q0 14) == 8) ((∃ (x27 : Bool),
  w_1.cell? ⟨b, 2, none⟩ = some (.bool x27) ∧ cond x27 ((∃ (x30 : Bool), w_1.cell? ⟨b, 1, none⟩ = some (.bool x30) ∧ R (.returned (.bool ((!x30) == ((bits .and .i64 q0 1) == 0)))) w_1)) (R (.returned
  (.bool (false == ((bits .and .i64 q0 1) == 0)))) w_1))) (cond ((bits .and .i64 q0 14) == 10) ((∃ (x36 : Bool), w_1.cell? ⟨b, 0, none⟩ = some (.bool x36) ∧ (∃ (x38 : Bool), w_1.cell? ⟨b, 3, none⟩ =
  some (.bool x38) ∧ Lt ((x36 == x38) == ((bits .and .i64 q0 1) == 0) : Bool) fun s4 => R (.returned (.bool s4)) w_1))) (cond ((bits .and .i64 q0 14) == 12) ((∃ (x43 : Bool), w_1.cell? ⟨b, 1, none⟩ =
  some (.bool x43) ∧ cond (!x43) ((∃ (x47 : Bool), w_1.cell? ⟨b, 0, none⟩ = some (.bool x47) ∧ (∃ (x49 : Bool), w_1.cell? ⟨b, 3, none⟩ = some (.bool x49) ∧ Lt ((x47 == x49) == ((bits .and .i64 q0 1)
  == 0) : Bool) fun s4_1 => R (.returned (.bool s4_1)) w_1))) (R (.returned (.bool (false == ((bits .and .i64 q0 1) == 0)))) w_1))) (cond ((bits .and .i64 q0 14) == 14) (R (.returned (.bool ((bits
  .and .i64 q0 1) == 0))) w_1) (R (.returned (.bool (true == ((bits .and .i64 q0 1) == 0)))) w_1))))))))
set_option maxRecDepth 100000 in
theorem v_Holds (q0 : Int) (q1_0 q1_1 q1_2 q1_3 : Bool) (R : Ending → World → Prop) (w : World) :
  vc Tryz.prog ann_Holds (Tryz.f31.body.getD .skip) (retQ Tryz.prog Tryz.f31.results.toList R) (initFr [.I q0, .agg #[.bool q1_0, .bool q1_1, .bool q1_2, .bool q1_3]] Tryz.f31.ntmps) w = p_Holds q0 q1_0 q1_1 q1_2 q1_3 R w := by kernel_rfl
theorem c_Holds (q0 : Int) (q1_0 q1_1 q1_2 q1_3 : Bool) (R : Ending → World → Prop) (w : World) (h : p_Holds q0 q1_0 q1_1 q1_2 q1_3 R w) : Calls Tryz.prog 31 #[.I q0, .agg #[.bool q1_0, .bool q1_1, .bool q1_2, .bool q1_3]] w R :=
  calls_by (P := Tryz.prog) (f := 31) (fn := Tryz.f31) (c := Tryz.f31.body.getD .skip) (args := [.I q0, .agg #[.bool q1_0, .bool q1_1, .bool q1_2, .bool q1_3]]) (w := w) (R := R) (p := p_Holds q0 q1_0 q1_1 q1_2 q1_3 R w) ann_Holds Tryz.func31 rfl (v_Holds q0 q1_0 q1_1 q1_2 q1_3 R w) h
abbrev O_Holds := Bool
set_option maxRecDepth 100000 in
noncomputable def f_Holds (q0 : Int) (q1_0 q1_1 q1_2 q1_3 : Bool) : Option O_Holds :=
  (cond ((bits .and .i64 q0 14) == 0) (some (q1_1 == ((bits .and .i64 q0 1) == 0))) (cond ((bits .and .i64 q0 14) == 2) (some (q1_2 == ((bits .and .i64 q0 1) == 0))) (cond ((bits .and .i64 q0 14) == 4) (some (q1_0 == ((bits .and .i64 q0 1) == 0))) (cond ((bits .and .i64 q0 14) == 6) (some (q1_3 == ((bits .and .i64 q0 1) == 0))) (cond ((bits .and .i64 q0 14) == 8) (cond q1_2 (some ((!q1_1) == ((bits .and .i64 q0 1) == 0))) (some (false == ((bits .and .i64 q0 1) == 0)))) (cond ((bits .and .i64 q0 14) == 10) (Let ((q1_0 == q1_3) == ((bits .and .i64 q0 1) == 0) : Bool) fun s4 => (some s4)) (cond ((bits .and .i64 q0 14) == 12) (cond (!q1_1) (Let ((q1_0 == q1_3) == ((bits .and .i64 q0 1) == 0) : Bool) fun s4_1 => (some s4_1)) (some (false == ((bits .and .i64 q0 1) == 0)))) (cond ((bits .and .i64 q0 14) == 14) (some ((bits .and .i64 q0 1) == 0)) (some (true == ((bits .and .i64 q0 1) == 0)))))))))))
def o_Holds (q0 : Int) (q1_0 q1_1 q1_2 q1_3 : Bool) (w0 : World) : O_Holds → Ending → World → Prop
  | r0, e, w => e = .returned (.bool r0) ∧ Now (Foot []) w0 w []
set_option maxRecDepth 100000 in
set_option maxHeartbeats 4000000 in
theorem t_Holds {q0 : Int} {q1_0 q1_1 q1_2 q1_3 : Bool} {w0 : World} {r : O_Holds} (hf : f_Holds q0 q1_0 q1_1 q1_2 q1_3 = some r) (hp : Hp w0 []) : Calls Tryz.prog 31 #[.I q0, .agg #[.bool q1_0, .bool q1_1, .bool q1_2, .bool q1_3]] w0 (o_Holds q0 q1_0 q1_1 q1_2 q1_3 w0 r) := by
  apply c_Holds q0 q1_0 q1_1 q1_2 q1_3
  unfold p_Holds
  unfold f_Holds at hf
  have n0 : Now (Foot []) w0 w0 [] := Now.start hp
  exact (
  n0.Nw (cs := [.bool q1_0, .bool q1_1, .bool q1_2, .bool q1_3]) fun b w_1 n1 => condF hf (fun c2 h3 => ⟨q1_1, n1.cell 1 rfl, have n4 := n1.takeN 0; leafF (α := O_Holds) (x := (q1_1 == ((bits .and .i64 q0 1) == 0))) (G := fun r => o_Holds _ _ _ _ _ w0 r (.returned (.bool (q1_1 == ((bits .and .i64 q0 1) == 0)))) w_1) h3 ⟨rfl, n4⟩⟩) (fun c2 h5 => condF h5 (fun c6 h7 => ⟨q1_2, n1.cell 2 rfl, have n8 := n1.takeN 0; leafF (α := O_Holds) (x := (q1_2 == ((bits .and .i64 q0 1) == 0))) (G := fun r => o_Holds _ _ _ _ _ w0 r (.returned (.bool (q1_2 == ((bits .and .i64 q0 1) == 0)))) w_1) h7 ⟨rfl, n8⟩⟩) (fun c6 h9 => condF h9 (fun c10 h11 => ⟨q1_0, n1.cell 0 rfl, have n12 := n1.takeN 0; leafF (α := O_Holds) (x := (q1_0 == ((bits .and .i64 q0 1) == 0))) (G := fun r => o_Holds _ _ _ _ _ w0 r (.returned (.bool (q1_0 == ((bits .and .i64 q0 1) == 0)))) w_1) h11 ⟨rfl, n12⟩⟩) (fun c10 h13 => condF h13 (fun c14 h15 => ⟨q1_3, n1.cell 3 rfl, have n16 := n1.takeN 0; leafF (α := O_Holds) (x := (q1_3 == ((bits .and .i64 q0 1) == 0))) (G := fun r => o_Holds _ _ _ _ _ w0 r (.returned (.bool (q1_3 == ((bits .and .i64 q0 1) == 0)))) w_1) h15 ⟨rfl, n16⟩⟩) (fun c14 h17 => condF h17 (fun c18 h19 => ⟨q1_2, n1.cell 2 rfl, condF h19 (fun c20 h21 => ⟨q1_1, n1.cell 1 rfl, have n22 := n1.takeN 0; leafF (α := O_Holds) (x := ((!q1_1) == ((bits .and .i64 q0 1) == 0))) (G := fun r => o_Holds _ _ _ _ _ w0 r (.returned (.bool ((!q1_1) == ((bits .and .i64 q0 1) == 0)))) w_1) h21 ⟨rfl, n22⟩⟩) (fun c20 h23 => have n24 := n1.takeN 0; leafF (α := O_Holds) (x := (false == ((bits .and .i64 q0 1) == 0))) (G := fun r => o_Holds _ _ _ _ _ w0 r (.returned (.bool (false == ((bits .and .i64 q0 1) == 0)))) w_1) h23 ⟨rfl, n24⟩)⟩) (fun c18 h25 => condF h25 (fun c26 h27 => ⟨q1_0, n1.cell 0 rfl, ⟨q1_3, n1.cell 3 rfl, LetF h27 fun s4 h28 => have n29 := n1.takeN 0; leafF (α := O_Holds) (x := s4) (G := fun r => o_Holds _ _ _ _ _ w0 r (.returned (.bool s4)) w_1) h28 ⟨rfl, n29⟩⟩⟩) (fun c26 h30 => condF h30 (fun c31 h32 => ⟨q1_1, n1.cell 1 rfl, condF h32 (fun c33 h34 => ⟨q1_0, n1.cell 0 rfl, ⟨q1_3, n1.cell 3 rfl, LetF h34 fun s4_1 h35 => have n36 := n1.takeN 0; leafF (α := O_Holds) (x := s4_1) (G := fun r => o_Holds _ _ _ _ _ w0 r (.returned (.bool s4_1)) w_1) h35 ⟨rfl, n36⟩⟩⟩) (fun c33 h37 => have n38 := n1.takeN 0; leafF (α := O_Holds) (x := (false == ((bits .and .i64 q0 1) == 0))) (G := fun r => o_Holds _ _ _ _ _ w0 r (.returned (.bool (false == ((bits .and .i64 q0 1) == 0)))) w_1) h37 ⟨rfl, n38⟩)⟩) (fun c31 h39 => condF h39 (fun c40 h41 => have n42 := n1.takeN 0; leafF (α := O_Holds) (x := ((bits .and .i64 q0 1) == 0)) (G := fun r => o_Holds _ _ _ _ _ w0 r (.returned (.bool ((bits .and .i64 q0 1) == 0))) w_1) h41 ⟨rfl, n42⟩) (fun c40 h43 => have n44 := n1.takeN 0; leafF (α := O_Holds) (x := (true == ((bits .and .i64 q0 1) == 0))) (G := fun r => o_Holds _ _ _ _ _ w0 r (.returned (.bool (true == ((bits .and .i64 q0 1) == 0)))) w_1) h43 ⟨rfl, n44⟩)))))))))

/-! cameo/arm.field -/
abbrev n_afield : FuncId := 67
def ann_afield : Ann := ⟨[], [], []⟩
set_option maxRecDepth 100000 in
def p_afield (q0 q1 q2 : Int) (R : Ending → World → Prop) (w : World) : Prop :=
  chk (decide (0 ≤ q1)) (chk (decide (0 ≤ q2)) (Lt ((IntKind.wrap .i64 (bits .and .u32 (Int.fdiv q0 (2 ^ (min q1.toNat 32))) (IntKind.wrap .u32 ((IntKind.wrap .u32 ((1 : Int) * 2 ^ (min q2.toNat 32)))
  - 1)))) : Int) fun s6 => (∀ n, R (.returned (.I s6)) (w.drewN n))))
set_option maxRecDepth 100000 in
theorem v_afield (q0 q1 q2 : Int) (R : Ending → World → Prop) (w : World) :
  vc Tryz.prog ann_afield (Tryz.f67.body.getD .skip) (retQ Tryz.prog Tryz.f67.results.toList R) (initFr [.U q0, .I q1, .I q2] Tryz.f67.ntmps) w = p_afield q0 q1 q2 R w := by kernel_rfl
theorem c_afield (q0 q1 q2 : Int) (R : Ending → World → Prop) (w : World) (h : p_afield q0 q1 q2 R w) : Calls Tryz.prog 67 #[.U q0, .I q1, .I q2] w R :=
  calls_by (P := Tryz.prog) (f := 67) (fn := Tryz.f67) (c := Tryz.f67.body.getD .skip) (args := [.U q0, .I q1, .I q2]) (w := w) (R := R) (p := p_afield q0 q1 q2 R w) ann_afield Tryz.func67 rfl (v_afield q0 q1 q2 R w) h
abbrev O_afield := Int
set_option maxRecDepth 100000 in
noncomputable def f_afield (q0 q1 q2 : Int) : Option O_afield :=
  (cond ((decide (0 ≤ q1))) (cond ((decide (0 ≤ q2))) (Let ((IntKind.wrap .i64 (bits .and .u32 (Int.fdiv q0 (2 ^ (min q1.toNat 32))) (IntKind.wrap .u32 ((IntKind.wrap .u32 ((1 : Int) * 2 ^ (min q2.toNat 32))) - 1)))) : Int) fun s6 => (some s6)) none) none)
def o_afield (q0 q1 q2 : Int) (w0 : World) : O_afield → Ending → World → Prop
  | r0, e, w => e = .returned (.I r0) ∧ Dr w0 w
set_option maxRecDepth 100000 in
set_option maxHeartbeats 4000000 in
theorem tq_afield {q0 q1 q2 : Int} {r : O_afield} (hf : f_afield q0 q1 q2 = some r) (w0 : World) : Calls Tryz.prog 67 #[.U q0, .I q1, .I q2] w0 (o_afield q0 q1 q2 w0 r) := by
  apply c_afield
  unfold p_afield
  unfold f_afield at hf
  have n0 : Dr w0 w0 := Dr.refl _
  exact (
  chkF hf fun c1 h2 => chkF h2 fun c3 h4 => LetF h4 fun s6 h5 => fun n => have n6 := n0.draw n; leafF (α := O_afield) (x := s6) (G := fun r => o_afield _ _ _ w0 r (.returned (.I s6)) (w0.drewN n)) h5 ⟨rfl, n6⟩)

/-! cameo/arm.bit -/
abbrev n_abit : FuncId := 68
def ann_abit : Ann := ⟨[], [], []⟩
set_option maxRecDepth 100000 in
def p_abit (q0 q1 : Int) (R : Ending → World → Prop) (w : World) : Prop :=
  chk (decide (0 ≤ q1)) (Lt ((bits .and .u32 (Int.fdiv q0 (2 ^ (min q1.toNat 32))) 1) == 1 : Bool) fun s4 => R (.returned (.bool s4)) w)
set_option maxRecDepth 100000 in
theorem v_abit (q0 q1 : Int) (R : Ending → World → Prop) (w : World) :
  vc Tryz.prog ann_abit (Tryz.f68.body.getD .skip) (retQ Tryz.prog Tryz.f68.results.toList R) (initFr [.U q0, .I q1] Tryz.f68.ntmps) w = p_abit q0 q1 R w := by kernel_rfl
theorem c_abit (q0 q1 : Int) (R : Ending → World → Prop) (w : World) (h : p_abit q0 q1 R w) : Calls Tryz.prog 68 #[.U q0, .I q1] w R :=
  calls_by (P := Tryz.prog) (f := 68) (fn := Tryz.f68) (c := Tryz.f68.body.getD .skip) (args := [.U q0, .I q1]) (w := w) (R := R) (p := p_abit q0 q1 R w) ann_abit Tryz.func68 rfl (v_abit q0 q1 R w) h
abbrev O_abit := Bool
set_option maxRecDepth 100000 in
noncomputable def f_abit (q0 q1 : Int) : Option O_abit :=
  (cond ((decide (0 ≤ q1))) (Let ((bits .and .u32 (Int.fdiv q0 (2 ^ (min q1.toNat 32))) 1) == 1 : Bool) fun s4 => (some s4)) none)
def o_abit (q0 q1 : Int) (w0 : World) : O_abit → Ending → World → Prop
  | r0, e, w => e = .returned (.bool r0) ∧ Dr w0 w
set_option maxRecDepth 100000 in
set_option maxHeartbeats 4000000 in
theorem tq_abit {q0 q1 : Int} {r : O_abit} (hf : f_abit q0 q1 = some r) (w0 : World) : Calls Tryz.prog 68 #[.U q0, .I q1] w0 (o_abit q0 q1 w0 r) := by
  apply c_abit
  unfold p_abit
  unfold f_abit at hf
  have n0 : Dr w0 w0 := Dr.refl _
  exact (
  chkF hf fun c1 h2 => LetF h2 fun s4 h3 => leafF (α := O_abit) (x := s4) (G := fun r => o_abit _ _ w0 r (.returned (.bool s4)) w0) h3 ⟨rfl, n0⟩)

end Go.Proofs.YtdjgicimfeocbaaGreat
