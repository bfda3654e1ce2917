import Derived.Test.YtcgigdfahlmfaaaGreatDoorChecked
import Derived.Test.YtcgigdfahlmfaaaGreatDoorVc
import Derived.Test.YtcgigdfahlmfaaaGreatDoorRo
import Derived.Test.YtcgigdfahlmfaaaGreatDoorExt2
import Derived.Test.YtcgigdfahlmfaaaGreatDoorExtPrefix
import Derived.Test.YtcgigdfahlmfaaaGreatDoorMapA
import Derived.Test.YtcgigdfahlmfaaaGreatDoorClone
import Derived.Test.YtcgigdfahlmfaaaGreatDoorBld
import Derived.Test.YtcgigdfahlmfaaaGreatDoorSomeB
import Derived.Test.YtcgigdfahlmfaaaGreatDoorItr
import Derived.Test.YtcgigdfahlmfaaaGreatDoorSeg
namespace Go.Proofs.YtcgigdfahlmfaaaGreatDoor
open Go.Vc
set_option linter.unusedVariables false
set_option linter.unusedSimpArgs false
set_option maxRecDepth 100000
set_option maxHeartbeats 4000000
abbrev B93_8 (b : Nat) (c0 : Int) (c1 : Value) (c2 : Value) (c3 : Value) (c4 : Value) (c5 : Int) (c6 : Int) (c7 : Int) : Asn := box b [.I c0, c1, c2, c3, c4, .I c5, .I c6, .I c7] 93
abbrev W6 (x : Int) : Int := IntKind.wrap .i64 x
abbrev RT0 : Ending := .returned (.tuple #[])
theorem leafX {α : Type} (R : α → Rt) (e : Ending) (w : World) {x r : α} (h : some x = some r) (H : R x e w) : R r e w := by cases h; exact H
structure E115 where
  sector : Int
  data : ByteArray
  deriving Inhabited
def el115 : El E115 := ⟨2, by decide, fun x => [.I x.sector, .string x.data], fun _ => rfl, fun _ v h => by simp at h; rcases h with rfl | rfl <;> rfl⟩
structure E113 where
  N : Int
  Bytes : Int
  deriving Inhabited
def el113 : El E113 := ⟨2, by decide, fun x => [.I x.N, .I x.Bytes], fun _ => rfl, fun _ v h => by simp at h; rcases h with rfl | rfl <;> rfl⟩
structure E59 where
  Kind : Int
  Addr : Int
  Data : ByteArray
  deriving Inhabited
def el59 : El E59 := ⟨3, by decide, fun x => [.I x.Kind, .I x.Addr, .string x.Data], fun _ => rfl, fun _ v h => by simp at h; rcases h with rfl | rfl | rfl <;> rfl⟩
structure E51 where
  f0 : Int
  f1 : Int
  deriving Inhabited
def el51 : El E51 := ⟨2, by decide, fun x => [.U x.f0, .U x.f1], fun _ => rfl, fun _ v h => by simp at h; rcases h with rfl | rfl <;> rfl⟩
structure E35 where
  Kind : Int
  Addr : Int
  Byte : Int
  N : Int
  Picks : List E113
  Picks_p : Option Go.Addr
  Picks_c : Nat
  deriving Inhabited
def el35 : El E35 := ⟨5, by decide, fun x => [.I x.Kind, .U x.Addr, .int .u8 x.Byte, .I x.N, .slice x.Picks_p x.Picks.length x.Picks_c], fun _ => rfl, fun _ v h => by simp at h; rcases h with rfl | rfl | rfl | rfl | rfl <;> rfl⟩
def ann_Mul64 : Ann := ⟨[], [], []⟩
def p_Mul64 (q0 q1 : Int) (R : Rt) (w : World) : Prop :=
  Lt ((IntKind.wrap .u64 ((bits .and .u64 q0 4294967295) * (bits .and .u64 q1 4294967295))) : Int) fun s10 => Lt ((IntKind.wrap .u64 ((IntKind.wrap .u64 ((Int.fdiv q0 4294967296) * (bits .and .u64 q1
  4294967295))) + (Int.fdiv s10 4294967296))) : Int) fun s11 => Lt ((IntKind.wrap .u64 ((bits .and .u64 s11 4294967295) + (IntKind.wrap .u64 ((bits .and .u64 q0 4294967295) * (Int.fdiv q1
  4294967296))))) : Int) fun s12 => Lt ((IntKind.wrap .u64 ((IntKind.wrap .u64 ((IntKind.wrap .u64 ((Int.fdiv q0 4294967296) * (Int.fdiv q1 4294967296))) + (Int.fdiv s11 4294967296))) + (Int.fdiv s12
  4294967296))) : Int) fun s4 => R (.returned (.tuple #[.int .u64 s4, .int .u64 (IntKind.wrap .u64 (q0 * q1))])) w
theorem v_Mul64 (q0 q1 : Int) (R : Rt) (w : World) :
  vc Tryz.prog ann_Mul64 (Tryz.f131.body.getD .skip) (retQ Tryz.prog Tryz.f131.results.toList R) (initFr [.int .u64 q0, .int .u64 q1] Tryz.f131.ntmps) w = p_Mul64 q0 q1 R w := by kernel_rfl
theorem c_Mul64 (q0 q1 : Int) (R : Rt) (w : World) (h : p_Mul64 q0 q1 R w) : Calls Tryz.prog 131 #[.int .u64 q0, .int .u64 q1] w R :=
  calls_by ann_Mul64 Tryz.func131 rfl (v_Mul64 q0 q1 R w) h
abbrev O_Mul64 := (Int × Int)
noncomputable def f_Mul64 (q0 q1 : Int) : Option O_Mul64 :=
  (Let ((IntKind.wrap .u64 ((bits .and .u64 q0 4294967295) * (bits .and .u64 q1 4294967295))) : Int) fun s10 => (Let ((IntKind.wrap .u64 ((IntKind.wrap .u64 ((Int.fdiv q0 4294967296) * (bits .and .u64 q1 4294967295))) + (Int.fdiv s10 4294967296))) : Int) fun s11 => (Let ((IntKind.wrap .u64 ((bits .and .u64 s11 4294967295) + (IntKind.wrap .u64 ((bits .and .u64 q0 4294967295) * (Int.fdiv q1 4294967296))))) : Int) fun s12 => (Let ((IntKind.wrap .u64 ((IntKind.wrap .u64 ((IntKind.wrap .u64 ((Int.fdiv q0 4294967296) * (Int.fdiv q1 4294967296))) + (Int.fdiv s11 4294967296))) + (Int.fdiv s12 4294967296))) : Int) fun s4 => (some (s4, (IntKind.wrap .u64 (q0 * q1))))))))
def o_Mul64 (q0 q1 : Int) (w0 : World) : O_Mul64 → Rt
  | (r0, r1), e, w => e = .returned (.tuple #[.int .u64 r0, .int .u64 r1]) ∧ Dr w0 w
theorem tq_Mul64 {q0 q1 : Int} {r : O_Mul64} (hf : f_Mul64 q0 q1 = some r) (w0 : World) : Calls Tryz.prog 131 #[.int .u64 q0, .int .u64 q1] w0 (o_Mul64 q0 q1 w0 r) := by
  apply c_Mul64
  unfold p_Mul64
  unfold f_Mul64 at hf
  have n0 : Dr w0 w0 := Dr.refl _
  exact (
  LetF hf fun s10 h1 => LetF h1 fun s11 h2 => LetF h2 fun s12 h3 => LetF h3 fun s4 h4 => leafX (x := (s4, (IntKind.wrap .u64 (q0 * q1)))) (o_Mul64 _ _ w0) (.returned (.tuple #[.int .u64 s4, .int .u64 (IntKind.wrap .u64 (q0 * q1))])) w0 h4 ⟨rfl, n0⟩)
def ann_Mul : Ann := ⟨[], [], []⟩
def p_Mul (q0 q1 : Int) (R : Rt) (w : World) : Prop :=
  (Calls Tryz.prog 131 #[.int .u64 q0, .int .u64 q1] w fun e w_1 => ∃ (x25a x25b : Int), e = .returned (.tuple #[.int .u64 x25a, .int .u64 x25b]) ∧ R (.returned (.tuple #[.int .u64 x25a, .int
  .u64 x25b])) w_1)
theorem v_Mul (q0 q1 : Int) (R : Rt) (w : World) :
  vc Tryz.prog ann_Mul (Tryz.f112.body.getD .skip) (retQ Tryz.prog Tryz.f112.results.toList R) (initFr [.int .u64 q0, .int .u64 q1] Tryz.f112.ntmps) w = p_Mul q0 q1 R w := by kernel_rfl
theorem c_Mul (q0 q1 : Int) (R : Rt) (w : World) (h : p_Mul q0 q1 R w) : Calls Tryz.prog 112 #[.int .u64 q0, .int .u64 q1] w R :=
  calls_by ann_Mul Tryz.func112 rfl (v_Mul q0 q1 R w) h
abbrev O_Mul := (Int × Int)
noncomputable def f_Mul (q0 q1 : Int) : Option O_Mul :=
  ((f_Mul64 q0 q1).bind fun (o : O_Mul64) => (match o with | (x25a, x25b) => (some (x25a, x25b))))
def o_Mul (q0 q1 : Int) (w0 : World) : O_Mul → Rt
  | (r0, r1), e, w => e = .returned (.tuple #[.int .u64 r0, .int .u64 r1]) ∧ Dr w0 w
theorem tq_Mul {q0 q1 : Int} {r : O_Mul} (hf : f_Mul q0 q1 = some r) (w0 : World) : Calls Tryz.prog 112 #[.int .u64 q0, .int .u64 q1] w0 (o_Mul q0 q1 w0 r) := by
  apply c_Mul
  unfold p_Mul
  unfold f_Mul at hf
  have n0 : Dr w0 w0 := Dr.refl _
  exact (
  bindF hf (fun o => match o with | (x25a, x25b) => fun h1 h3 => (tq_Mul64 h1 _).mono fun _ w_1 ⟨e4, d6⟩ => ⟨x25a, x25b, e4, have n2 := n0.trans d6; leafX (x := (x25a, x25b)) (o_Mul _ _ w0) (.returned (.tuple #[.int .u64 x25a, .int .u64 x25b])) w_1 h3 ⟨rfl, n2⟩⟩))
def ann_sRepeat : Ann := ⟨[(9, .phased [7])], [(8, [(8, .one (.int .i64))])], []⟩
def p_sRepeat (q0 : Pa) (q0n q0c : Nat) (q1 : Int) (R : Rt) (w : World) : Prop :=
  cond (decide (q1 < 0)) (False) ((Calls Tryz.prog 112 #[.int .u64 (IntKind.wrap .u64 ((q0n : Nat) : Int)), .int .u64 (IntKind.wrap .u64 q1)] w fun e w_1 => ∃ (x18a x18b : Int), e = .returned
  (.tuple #[.int .u64 x18a, .int .u64 x18b]) ∧ cond (decide (x18a > 0)) (False) (cond (decide (x18b > 9223372036854775807)) (False) ((∃ (x30 : Pa) (x30n x30c : Nat), ∃ w_2,
  (Instr.makeSlice 66 (.I (W6 x18b)) (.I (W6 x18b))).run Tryz.prog w_1 = .ok (.slice x30 x30n x30c) w_2 ∧ (∃ (x33 : Int), ∃ w_3, (Builtin.copy_ #[66, 66] 3
  #[.slice x30 x30n x30c, .slice q0 q0n q0c]).run Tryz.prog w_2 = .ok (.I x33) w_3 ∧ (∃ I : Nat → List Value → World → Prop, (∃ n, I n [.I x33] w_3) ∧ ∀ n, ∀ (s8 : Int) (w_4 : World), I
  n [.I s8] w_4 → cond (decide (s8 < ((x30n : Nat) : Int))) ((∃ S : World → Prop, S (w_4.drewN 1) ∧ chk (decide (0 ≤ ((x30n : Nat) : Int)) && decide (((x30n : Nat) : Int) ≤ ((x30c : Nat) :
  Int))) (chk (decide (0 ≤ s8) && decide (s8 ≤ ((x30n : Nat) : Int))) (chk (decide (0 ≤ s8) && decide (s8 ≤ ((x30c : Nat) : Int))) (chk (decide (0 ≤ (0 : Int)) && decide ((0 : Int) ≤ s8)) ((∃ (x45 :
  Int), ∃ w_5, (Builtin.copy_ #[66, 66] 3 #[.slice (if x30c = s8.toNat then x30 else (x30 : Pa).map (·.add (s8.toNat * 1))) (x30n - s8.toNat) (x30c - s8.toNat), .slice (if x30c = 0 then x30
  else (x30 : Pa).map (·.add (0 * 1))) (s8.toNat - 0) (x30c - 0)]).run Tryz.prog (w_4.drewN 1) = .ok (.I x45) w_5 ∧ (∃ m, m < n ∧ I m [.I (W6 (s8 + x45))]
  w_5)))))))) (R (.returned (.slice x30 x30n x30c)) w_4))))))))
theorem v_sRepeat (q0 : Pa) (q0n q0c : Nat) (q1 : Int) (R : Rt) (w : World) :
  vc Tryz.prog ann_sRepeat (Tryz.f76.body.getD .skip) (retQ Tryz.prog Tryz.f76.results.toList R) (initFr [.slice q0 q0n q0c, .I q1] Tryz.f76.ntmps) w = p_sRepeat q0 q0n q0c q1 R w := by kernel_rfl
theorem c_sRepeat (q0 : Pa) (q0n q0c : Nat) (q1 : Int) (R : Rt) (w : World) (h : p_sRepeat q0 q0n q0c q1 R w) : Calls Tryz.prog 76 #[.slice q0 q0n q0c, .I q1] w R :=
  calls_by ann_sRepeat Tryz.func76 rfl (v_sRepeat q0 q0n q0c q1 R w) h
abbrev O_sRepeat := (List ByteArray)
noncomputable def f_sRepeat (q0x : List ByteArray) (q1 : Int) : Option O_sRepeat :=
  (cond (decide (q1 < 0)) none ((f_Mul (IntKind.wrap .u64 ((q0x.length : Nat) : Int)) (IntKind.wrap .u64 q1)).bind fun (o : O_Mul) => (match o with | (x18a, x18b) => (cond (decide (x18a > 0)) none (cond (decide (x18b > 9223372036854775807)) none (cond (decide (0 ≤ (IntKind.wrap .i64 x18b)) && decide ((IntKind.wrap .i64 x18b) ≤ (IntKind.wrap .i64 x18b)) && decide ((IntKind.wrap .i64 x18b) ≤ 1099511627776)) (loopO (fun (s : (Int × (List ByteArray))) => match s with | (s8, aQ) => ((cond (decide (s8 < ((((List.replicate (IntKind.wrap .i64 x18b).toNat ((ByteArray.mk #[]) : ByteArray)).length) : Nat) : Int))) (cond (decide (0 ≤ ((((List.replicate (IntKind.wrap .i64 x18b).toNat ((ByteArray.mk #[]) : ByteArray)).length) : Nat) : Int)) && decide (((((List.replicate (IntKind.wrap .i64 x18b).toNat ((ByteArray.mk #[]) : ByteArray)).length) : Nat) : Int) ≤ ((((List.replicate (IntKind.wrap .i64 x18b).toNat ((ByteArray.mk #[]) : ByteArray)).length) : Nat) : Int))) (cond ((decide (0 ≤ s8) && decide (s8 ≤ ((((List.replicate (IntKind.wrap .i64 x18b).toNat ((ByteArray.mk #[]) : ByteArray)).length) : Nat) : Int)))) (cond (decide (0 ≤ s8) && decide (s8 ≤ ((((List.replicate (IntKind.wrap .i64 x18b).toNat ((ByteArray.mk #[]) : ByteArray)).length) : Nat) : Int))) (cond ((decide (0 ≤ (0 : Int)) && decide ((0 : Int) ≤ s8))) (some (.inl ((IntKind.wrap .i64 (s8 + (((((aQ.drop 0).take (s8.toNat - 0)).take (((List.replicate (IntKind.wrap .i64 x18b).toNat ((ByteArray.mk #[]) : ByteArray)).length) - s8.toNat)).length : Nat) : Int))), (copyL aQ s8.toNat (((List.replicate (IntKind.wrap .i64 x18b).toNat ((ByteArray.mk #[]) : ByteArray)).length) - s8.toNat) ((aQ.drop 0).take (s8.toNat - 0)))))) none) none) none) none) (some (.inr aQ))) : Option ((Int × (List ByteArray)) ⊕ O_sRepeat))) ((((q0x.take ((List.replicate (IntKind.wrap .i64 x18b).toNat ((ByteArray.mk #[]) : ByteArray)).length)).length : Nat) : Int), (copyL (List.replicate (IntKind.wrap .i64 x18b).toNat ((ByteArray.mk #[]) : ByteArray)) 0 ((List.replicate (IntKind.wrap .i64 x18b).toNat ((ByteArray.mk #[]) : ByteArray)).length) q0x))) none))))))
def o_sRepeat (q0 : Pa) (q0c : Nat) (q0x : List ByteArray) (q1 : Int) (w0 : World) : O_sRepeat → Rt
  | r_xs_slot_0, e, w => ∃ (r_p0 : Pa), ∃ (r_c0 : Nat), e = .returned (.slice r_p0 r_xs_slot_0.length r_c0) ∧ Now (Foot []) w0 w [arr elS r_p0 r_c0 r_xs_slot_0]
theorem t_sRepeat {q0 : Option Addr} {q0c q0n : Nat} {q0x : List ByteArray} {q1 : Int} {w0 : World} {r : O_sRepeat} (hf : f_sRepeat q0x q1 = some r) (hp : Hp w0 []) (roq0 : RoAt elS w0 q0 q0c q0x) (roq0B : ∀ a, q0 = some a → q0x ≠ [] → ¬ Foot [] a.block) (q0nN : q0n = q0x.length) : Calls Tryz.prog 76 #[.slice q0 q0n q0c, .I q1] w0 (o_sRepeat q0 q0c q0x q1 w0 r) := by
  subst q0nN
  apply c_sRepeat q0 q0x.length q0c q1
  unfold p_sRepeat
  unfold f_sRepeat at hf
  let FF := Foot []
  let oo := o_sRepeat q0 q0c q0x q1 w0
  have n0 : Now FF w0 w0 [] := Now.start hp
  exact (
  condF hf (fun c1 h2 => noneF h2) (fun c1 h3 => bindF h3 (fun o => match o with | (x18a, x18b) => fun h4 h6 => (tq_Mul h4 _).mono fun _ w_1 ⟨e7, d44⟩ => ⟨x18a, x18b, e7, have n5 := n0.pass d44.chg; condF h6 (fun c9 h10 => noneF h10) (fun c9 h11 => condF h11 (fun c12 h13 => noneF h13) (fun c12 h14 => chkE h14 fun c15 h16 => Now.make (⟨Tryz.underlying66, ⟨_, _, rfl, rfl, rfl, rfl, by decide⟩⟩ : Elem Tryz.prog 66 9 (El.z elS)) n5 (v := (.string (ByteArray.mk #[]))) rfl (fun _ _ h1 h2 => by cases h1; cases h2; rfl) c15 fun x30 x30c w_2 n17 => Now.copyW rfl (⟨Tryz.underlying66, ⟨_, _, rfl, rfl, rfl, rfl, by decide⟩⟩ : Elem Tryz.prog 66 9 (El.z elS)) n17 (roq0.at n17.chg roq0B) rfl fun w_3 n18 => loopF h16 fun It19 t20 h21 => ⟨fun nI vsI wI => match vsI with | [.I s8] => ∃ (aQ : List ByteArray), aQ.length = (List.replicate (W6 x18b).toNat ((ByteArray.mk #[]) : ByteArray)).length ∧ Now FF w0 wI [arr elS x30 x30c aQ] ∧ It19 nI (s8, aQ) | _ => False, (h21.elim fun n43 i42 => ⟨n43, ⟨(copyL (List.replicate (W6 x18b).toNat ((ByteArray.mk #[]) : ByteArray)) 0 ((List.replicate (W6 x18b).toNat ((ByteArray.mk #[]) : ByteArray)).length) q0x), (by first | rfl | (simp [copyL_length]; done) | (simp [copyL_length]; omega)), n18, i42⟩⟩), fun n s8 w_4 ⟨aQ, hL_I_xs_x30, n25, t26⟩ => (t20 _ _ t26).elim fun x22 ⟨h23, t24⟩ => condF h23 (fun c27 h28 => have n29 := n25.drewN 1; ⟨fun w2 => True, trivial, chkE h28 fun c30 h31 => chk_of (capB c30 (Nat.le_trans (Nat.le_of_eq (by first | rfl | (simp [copyL_length, hL_I_xs_x30]; done) | (simp [copyL_length, hL_I_xs_x30]; omega))) (arr_cap n29.hp.1))) (chkF h31 fun c32 h33 => chkE h33 fun c34 h35 => chk_of (capB c34 (Nat.le_trans (Nat.le_of_eq (by first | rfl | (simp [copyL_length, hL_I_xs_x30]; done) | (simp [copyL_length, hL_I_xs_x30]; omega))) (arr_cap n29.hp.1))) (chkF h35 fun c36 h37 => Now.copyP rfl (⟨Tryz.underlying66, ⟨_, _, rfl, rfl, rfl, rfl, by decide⟩⟩ : Elem Tryz.prog 66 9 (El.z elS)) n29 (partBL (by first | rfl | (simp [copyL_length, hL_I_xs_x30]; done) | (simp [copyL_length, hL_I_xs_x30]; omega)) c30 c32 rfl rfl) (reads_part (arr_reads n29.hp.1) (partBL (by first | rfl | (simp [copyL_length, hL_I_xs_x30]; done) | (simp [copyL_length, hL_I_xs_x30]; omega)) c34 c36 rfl rfl) (arr_cap n29.hp.1) rfl) (len_part (partBL (by first | rfl | (simp [copyL_length, hL_I_xs_x30]; done) | (simp [copyL_length, hL_I_xs_x30]; omega)) c34 c36 rfl rfl)) fun w_5 n38 => (loopCont h37 t24).elim fun m39 i40 => ⟨m39, i40.1, ⟨(copyL aQ s8.toNat (((List.replicate (W6 x18b).toNat ((ByteArray.mk #[]) : ByteArray)).length) - s8.toNat) ((aQ.drop 0).take (s8.toNat - 0))), (by first | rfl | (simp [copyL_length, hL_I_xs_x30]; done) | (simp [copyL_length, hL_I_xs_x30]; omega)), n38, i40.2⟩⟩))⟩) (fun c27 h41 => leafX oo (.returned (.slice x30 ((List.replicate (W6 x18b).toNat ((ByteArray.mk #[]) : ByteArray)).length) x30c)) w_4 (loopExit h41 t24) ⟨x30, x30c, (by first | rfl | (simp [len_part_eq, copyL_length, hL_I_xs_x30]; done) | (simp [len_part_eq, copyL_length, hL_I_xs_x30]; omega)), n25⟩)⟩))⟩)))
def ann_off : Ann := ⟨[], [], []⟩
def p_off (q0 : Nat) (R : Rt) (w : World) : Prop :=
  (∃ (x9 : Bool), Cl w q0 5 (.bool x9) ∧ R (.returned (.bool x9)) w)
theorem v_off (q0 : Nat) (R : Rt) (w : World) :
  vc Tryz.prog ann_off (Tryz.f115.body.getD .skip) (retQ Tryz.prog Tryz.f115.results.toList R) (initFr [.P q0] Tryz.f115.ntmps) w = p_off q0 R w := by kernel_rfl
theorem c_off (q0 : Nat) (R : Rt) (w : World) (h : p_off q0 R w) : Calls Tryz.prog 115 #[.P q0] w R :=
  calls_by ann_off Tryz.func115 rfl (v_off q0 R w) h
abbrev O_off := Bool
noncomputable def f_off (ac : List ByteArray) (aa : List ByteArray) (a0 : List E115) (ak : List (Int × Bool)) (ad : Int) (ae : Bool) : Option O_off :=
  (some ae)
def o_off (q0 : Nat) (a9 : Pa) (a8 : Nat) (a4 : Pa) (a3 : Nat) (a6 : Pa) (a5 : Nat) (ab : Option Nat) (ac : List ByteArray) (aa : List ByteArray) (a0 : List E115) (ak : List (Int × Bool)) (ad : Int) (ae : Bool) (w0 : World) : O_off → Rt
  | r0, e, w => e = .returned (.bool r0) ∧ Now (Foot [box q0 [.slice a9 ac.length a8, .slice a4 aa.length a3, .slice a6 a0.length a5, .map ab, .I ad, .bool ae] 111, arr elS a9 a8 ac, arr elS a4 a3 aa, arr el115 a6 a5 a0, mapB .i64 ab ak]) w0 w [box q0 [.slice a9 ac.length a8, .slice a4 aa.length a3, .slice a6 a0.length a5, .map ab, .I ad, .bool ae] 111, arr elS a9 a8 ac, arr elS a4 a3 aa, arr el115 a6 a5 a0, mapB .i64 ab ak]
theorem t_off {q0 : Nat} {a9 : Option Addr} {a8 : Nat} {a4 : Option Addr} {a3 : Nat} {a6 : Option Addr} {a5 : Nat} {ab : Option Nat} {ac : List ByteArray} {aa : List ByteArray} {a0 : List E115} {ak : List (Int × Bool)} {ad : Int} {ae : Bool} {w0 : World} {r : O_off} (hf : f_off ac aa a0 ak ad ae = some r) (hp : Hp w0 [box q0 [.slice a9 ac.length a8, .slice a4 aa.length a3, .slice a6 a0.length a5, .map ab, .I ad, .bool ae] 111, arr elS a9 a8 ac, arr elS a4 a3 aa, arr el115 a6 a5 a0, mapB .i64 ab ak]) : Calls Tryz.prog 115 #[.P q0] w0 (o_off q0 a9 a8 a4 a3 a6 a5 ab ac aa a0 ak ad ae w0 r) := by
  apply c_off q0
  unfold p_off
  unfold f_off at hf
  let oo := o_off q0 a9 a8 a4 a3 a6 a5 ab ac aa a0 ak ad ae w0
  have n0 : Now (Foot [box q0 [.slice a9 ac.length a8, .slice a4 aa.length a3, .slice a6 a0.length a5, .map ab, .I ad, .bool ae] 111, arr elS a9 a8 ac, arr elS a4 a3 aa, arr el115 a6 a5 a0, mapB .i64 ab ak]) w0 w0 [box q0 [.slice a9 ac.length a8, .slice a4 aa.length a3, .slice a6 a0.length a5, .map ab, .I ad, .bool ae] 111, arr elS a9 a8 ac, arr elS a4 a3 aa, arr el115 a6 a5 a0, mapB .i64 ab ak] := Now.start hp
  exact (
  ⟨ae, n0.cell 5 rfl, have n5 := n0.front4.front4.front4.front4.front4; leafX oo (.returned (.bool ae)) w0 hf ⟨rfl, n5⟩⟩)
def ann_burn : Ann := ⟨[], [], []⟩
def p_burn (q0 : Nat) (R : Rt) (w : World) : Prop :=
  (∃ (x6 : Int), Cl w q0 4 (.I x6) ∧ cond (x6 == 0) (St w ⟨q0, 5, none⟩ (.bool true) fun w_1 => R (.returned (.F)) w_1) ((∃ (x14 : Int), Cl w q0 4   (.I x14) ∧ cond (decide (x14 > 0)) ((∃ (x19 : Int), Cl w q0 4 (.I x19) ∧ St w ⟨q0, 4, none⟩ (.I (W6 (x19 - 1))) fun w_2 => R (.returned (.bool
  true)) w_2)) (R (.returned (.bool true)) w))))
theorem v_burn (q0 : Nat) (R : Rt) (w : World) :
  vc Tryz.prog ann_burn (Tryz.f116.body.getD .skip) (retQ Tryz.prog Tryz.f116.results.toList R) (initFr [.P q0] Tryz.f116.ntmps) w = p_burn q0 R w := by kernel_rfl
theorem c_burn (q0 : Nat) (R : Rt) (w : World) (h : p_burn q0 R w) : Calls Tryz.prog 116 #[.P q0] w R :=
  calls_by ann_burn Tryz.func116 rfl (v_burn q0 R w) h
abbrev O_burn := (Bool × Int × Bool)
noncomputable def f_burn (ac : List ByteArray) (aa : List ByteArray) (a0 : List E115) (ak : List (Int × Bool)) (ad : Int) (ae : Bool) : Option O_burn :=
  (cond (ad == 0) (some (false, ad, true)) (cond (decide (ad > 0)) (some (true, (IntKind.wrap .i64 (ad - 1)), ae)) (some (true, ad, ae))))
def o_burn (q0 : Nat) (a9 : Pa) (a8 : Nat) (a4 : Pa) (a3 : Nat) (a6 : Pa) (a5 : Nat) (ab : Option Nat) (ac : List ByteArray) (aa : List ByteArray) (a0 : List E115) (ak : List (Int × Bool)) (ad : Int) (ae : Bool) (w0 : World) : O_burn → Rt
  | (r0, r_q0_4, dB), e, w => e = .returned (.bool r0) ∧ Now (Foot [box q0 [.slice a9 ac.length a8, .slice a4 aa.length a3, .slice a6 a0.length a5, .map ab, .I ad, .bool ae] 111, arr elS a9 a8 ac, arr elS a4 a3 aa, arr el115 a6 a5 a0, mapB .i64 ab ak]) w0 w [box q0 [.slice a9 ac.length a8, .slice a4 aa.length a3, .slice a6 a0.length a5, .map ab, .I r_q0_4, .bool dB] 111, arr elS a9 a8 ac, arr elS a4 a3 aa, arr el115 a6 a5 a0, mapB .i64 ab ak]
theorem t_burn {q0 : Nat} {a9 : Option Addr} {a8 : Nat} {a4 : Option Addr} {a3 : Nat} {a6 : Option Addr} {a5 : Nat} {ab : Option Nat} {ac : List ByteArray} {aa : List ByteArray} {a0 : List E115} {ak : List (Int × Bool)} {ad : Int} {ae : Bool} {w0 : World} {r : O_burn} (hf : f_burn ac aa a0 ak ad ae = some r) (hp : Hp w0 [box q0 [.slice a9 ac.length a8, .slice a4 aa.length a3, .slice a6 a0.length a5, .map ab, .I ad, .bool ae] 111, arr elS a9 a8 ac, arr elS a4 a3 aa, arr el115 a6 a5 a0, mapB .i64 ab ak]) : Calls Tryz.prog 116 #[.P q0] w0 (o_burn q0 a9 a8 a4 a3 a6 a5 ab ac aa a0 ak ad ae w0 r) := by
  apply c_burn q0
  unfold p_burn
  unfold f_burn at hf
  let oo := o_burn q0 a9 a8 a4 a3 a6 a5 ab ac aa a0 ak ad ae w0
  have n0 : Now (Foot [box q0 [.slice a9 ac.length a8, .slice a4 aa.length a3, .slice a6 a0.length a5, .map ab, .I ad, .bool ae] 111, arr elS a9 a8 ac, arr elS a4 a3 aa, arr el115 a6 a5 a0, mapB .i64 ab ak]) w0 w0 [box q0 [.slice a9 ac.length a8, .slice a4 aa.length a3, .slice a6 a0.length a5, .map ab, .I ad, .bool ae] 111, arr elS a9 a8 ac, arr elS a4 a3 aa, arr el115 a6 a5 a0, mapB .i64 ab ak] := Now.start hp
  exact (
  ⟨ad, n0.cell 4 rfl, condF hf (fun c1 h2 => n0.St (by rfl) fun w_1 n3 => have n8 := n3.front4.front4.front4.front4.front4; leafX oo (.returned (.F)) w_1 h2 ⟨rfl, n8⟩) (fun c1 h9 => ⟨ad, n0.cell 4 rfl, condF h9 (fun c10 h11 => ⟨ad, n0.cell 4 rfl, n0.St (by rfl) fun w_2 n12 => have n17 := n12.front4.front4.front4.front4.front4; leafX oo (.returned (.bool true)) w_2 h11 ⟨rfl, n17⟩⟩) (fun c10 h18 => have n23 := n0.front4.front4.front4.front4.front4; leafX oo (.returned (.bool true)) w0 h18 ⟨rfl, n23⟩)⟩)⟩)
def ann_New : Ann := ⟨[], [], []⟩
def p_New (q0 : Int) (R : Rt) (w : World) : Prop :=
  cond (decide (q0 < 1)) (R (.returned (.tuple #[.pointer none, .I 1])) w) (cond (decide (q0 > 8192)) (R (.returned (.tuple #[.pointer none, .I 1])) w) ((∃ (x12 : Pa) (x12n :
  Nat) (x12c : Nat), ∃ w_1, (Instr.makeSlice 88 (.I 64) (.I 64)).run Tryz.prog w = .ok (.slice x12 x12n x12c) w_1 ∧ (∃ (x13 : ByteArray), ∃ w_2, (Go.convert 88 9 (.slice x12 x12n
  x12c)).run Tryz.prog w_1 = .ok (.string x13) w_2 ∧ Nw w_2 (.cells #[.string x13] 9) fun b w_3 => (Calls Tryz.prog 76 #[.slice (some ⟨b, 0, none⟩) 1 1, .I q0] w_3 fun e w_4 => ∃ (x17 : Option
  Addr) (x17n x17c : Nat), e = .returned (.slice x17 x17n x17c) ∧ (Calls Tryz.prog 56 #[.slice x17 x17n x17c] w_4 fun e w_5 => ∃ (x20 : Pa) (x20n x20c : Nat), e = .returned
  (.slice x20 x20n x20c) ∧ (∃ (x21 : Option Nat), ∃ w_6, (Instr.makeMap 109 none).run Tryz.prog w_5 = .ok (.map x21) w_6 ∧ Nw w_6 (.cells #[.slice x17 x17n x17c, .slice x20 x20n x20c, .slice none 0 0,
  .map x21, .I (-1), .F] 111) fun b_1 w_7 => R (.returned (.tuple #[.P b_1, .I 0])) w_7)))))))
theorem v_New (q0 : Int) (R : Rt) (w : World) :
  vc Tryz.prog ann_New (Tryz.f50.body.getD .skip) (retQ Tryz.prog Tryz.f50.results.toList R) (initFr [.I q0] Tryz.f50.ntmps) w = p_New q0 R w := by kernel_rfl
theorem c_New (q0 : Int) (R : Rt) (w : World) (h : p_New q0 R w) : Calls Tryz.prog 50 #[.I q0] w R :=
  calls_by ann_New Tryz.func50 rfl (v_New q0 R w) h
abbrev O_New := ((List ByteArray) × (List ByteArray) × (List (Int × Bool))) ⊕ Unit
noncomputable def f_New (q0 : Int) : Option O_New :=
  (cond (decide (q0 < 1)) (some (.inr ())) (cond (decide (q0 > 8192)) (some (.inr ())) (cond (decide (0 ≤ (64 : Int)) && decide ((64 : Int) ≤ 64) && decide ((64 : Int) ≤ 1099511627776)) (cond (bytesIn (List.replicate (64 : Int).toNat (0 : Int))) ((f_sRepeat ([(strOf (List.replicate (64 : Int).toNat 0))] : List ByteArray) q0).bind fun (aP : O_sRepeat) => ((f_Clone aP).bind fun (w_5_r_xs0 : O_Clone) => (some (.inl (aP, w_5_r_xs0, ([] : List (Int × Bool))))))) none) none)))
def o_New (q0 : Int) (w0 : World) : O_New → Rt
  | (.inl (r0_xs_cell___new_____slot___0___0, r0_xs_cell___new_____slot___0___1, r0_xs_cell___new_____slot___0___3)), e, w => ∃ (r0_b0 : Nat), ∃ (r0_p_cell___new_____slot___0___0 : Pa), ∃ (r0_c_cell___new_____slot___0___0 : Nat), ∃ (r0_p_cell___new_____slot___0___1 : Pa), ∃ (r0_c_cell___new_____slot___0___1 : Nat), ∃ (r0_p_cell___new_____slot___0___3 : Option Nat), e = .returned (.tuple #[.P r0_b0, .I 0]) ∧ Now (Foot []) w0 w [box r0_b0 [.slice r0_p_cell___new_____slot___0___0 r0_xs_cell___new_____slot___0___0.length r0_c_cell___new_____slot___0___0, .slice r0_p_cell___new_____slot___0___1 r0_xs_cell___new_____slot___0___1.length r0_c_cell___new_____slot___0___1, .slice none 0 0, .map r0_p_cell___new_____slot___0___3, .I (-1 : Int), .F] 111, arr elS r0_p_cell___new_____slot___0___0 r0_c_cell___new_____slot___0___0 r0_xs_cell___new_____slot___0___0, arr elS r0_p_cell___new_____slot___0___1 r0_c_cell___new_____slot___0___1 r0_xs_cell___new_____slot___0___1, mapB .i64 r0_p_cell___new_____slot___0___3 r0_xs_cell___new_____slot___0___3]
  | (.inr _), e, w => e = .returned (.tuple #[.pointer none, .I 1]) ∧ Now (Foot []) w0 w []
theorem t_New {q0 : Int} {w0 : World} {r : O_New} (hf : f_New q0 = some r) (hp : Hp w0 []) : Calls Tryz.prog 50 #[.I q0] w0 (o_New q0 w0 r) := by
  apply c_New q0
  unfold p_New
  unfold f_New at hf
  let oo := o_New q0 w0
  have n0 : Now (Foot []) w0 w0 [] := Now.start hp
  exact (
  condF hf (fun c1 h2 => leafX oo (.returned (.tuple #[.pointer none, .I 1])) w0 h2 ⟨rfl, n0⟩) (fun c1 h3 => condF h3 (fun c4 h5 => leafX oo (.returned (.tuple #[.pointer none, .I 1])) w0 h5 ⟨rfl, n0⟩) (fun c4 h6 => chkE h6 fun c7 h8 => Now.make (⟨Tryz.underlying88, ⟨_, _, rfl, rfl, rfl, rfl, by decide⟩⟩ : Elem Tryz.prog 88 5 (El.z (elI .u8))) n0 (v := (.int .u8 0)) rfl (fun _ _ h1 h2 => by cases h1; cases h2; rfl) c7 fun x12 x12c w_1 n9 => chkE h8 fun c10 h11 => ⟨strOf (List.replicate (64 : Int).toNat (0 : Int)), _, toStr (arr_reads n9.hp.1) c10 rfl Tryz.underlying88 Tryz.underlying5 Tryz.underlying9, n9.Nw (cs := [.string (strOf (List.replicate (64 : Int).toNat (0 : Int)))]) fun b w_3 n12 => have n13 := n12.boxArr elS ([(strOf (List.replicate (64 : Int).toNat (0 : Int)))] : List ByteArray) rfl (Nat.le_of_ble_eq_true rfl); bindF h11 (fun aP h14 h16 => (t_sRepeat h14 (n13.take []) (ro_own [] 0 n13 rfl) (ro_ownB [] 0 n13 rfl) rfl).mono fun _ w_4 ⟨w_4_r_p0, w_4_r_c0, e17, n18⟩ => ⟨w_4_r_p0, aP.length, w_4_r_c0, e17, have n15 := n13.call [] n18; bindF h16 (fun w_5_r_xs0 h19 h21 => (t_Clone h19 (n15.take []) (ro_own [] 0 n15 rfl) (ro_ownB [] 0 n15 rfl) rfl).mono fun _ w_5 ⟨gl, gk, e22, n23⟩ => ⟨gl, w_5_r_xs0.length, gk, e22, have n20 := n15.call [] n23; Now.mkB .i64 n20 fun x21 w_6 n24 => n24.Nw (cs := [.slice w_4_r_p0 aP.length w_4_r_c0, .slice gl w_5_r_xs0.length gk, .slice none 0 0, .map x21, .I (-1 : Int), .F]) fun b_1 w_7 n25 => have n30 := n25.front1.front2.front3.front3.takeN 4; leafX oo (.returned (.tuple #[.P b_1, .I 0])) w_7 h21 ⟨b_1, w_4_r_p0, w_4_r_c0, gl, gk, x21, rfl, n30⟩⟩)⟩)⟩)))
def ann_Read : Ann := ⟨[], [], []⟩
def p_Read (q0 : Nat) (q1 : Int) (R : Rt) (w : World) : Prop :=
  (Calls Tryz.prog 115 #[.P q0] w fun e w_1 => ∃ (x8 : Bool), e = .returned (.bool x8) ∧ cond x8 (R (.returned (.tuple #[.string (ByteArray.mk #[]), .I 10])) w_1) (cond
  (decide (q1 < 0)) (R (.returned (.tuple #[.string (ByteArray.mk #[]), .I 1])) w_1) ((∃ (x17 : Pa) (x17n x17c : Nat), Cl w_1 q0 1 (.slice x17 x17n x17c) ∧
  cond (decide (q1 ≥ ((x17n : Nat) : Int))) (R (.returned (.tuple #[.string (ByteArray.mk #[]), .I 1])) w_1) ((∃ (x24 : Pa) (x24n x24c : Nat), Cl w_1 q0 1   (.slice x24 x24n x24c) ∧ NN x24 fun a26 => chk (decide (0 ≤ q1) && decide (q1 < ((x24n : Nat) : Int))) ((∃ (x27 : ByteArray), w_1.cell? (a26.add (q1.toNat * 1)) = some (.string x27) ∧ R (.returned
  (.tuple #[.string x27, .I 0])) w_1))))))))
theorem v_Read (q0 : Nat) (q1 : Int) (R : Rt) (w : World) :
  vc Tryz.prog ann_Read (Tryz.f84.body.getD .skip) (retQ Tryz.prog Tryz.f84.results.toList R) (initFr [.P q0, .I q1] Tryz.f84.ntmps) w = p_Read q0 q1 R w := by kernel_rfl
theorem c_Read (q0 : Nat) (q1 : Int) (R : Rt) (w : World) (h : p_Read q0 q1 R w) : Calls Tryz.prog 84 #[.P q0, .I q1] w R :=
  calls_by ann_Read Tryz.func84 rfl (v_Read q0 q1 R w) h
abbrev O_Read := (ByteArray × Int)
noncomputable def f_Read (ac : List ByteArray) (aa : List ByteArray) (a0 : List E115) (ak : List (Int × Bool)) (ad : Int) (ae : Bool) (q1 : Int) : Option O_Read :=
  ((f_off ac aa a0 ak ad ae).bind fun (x8 : O_off) => (cond x8 (some ((ByteArray.mk #[]), 10)) (cond (decide (q1 < 0)) (some ((ByteArray.mk #[]), 1)) (cond (decide (q1 ≥ ((aa.length : Nat) : Int))) (some ((ByteArray.mk #[]), 1)) (cond (decide (0 ≤ q1) && decide (q1 < ((aa.length : Nat) : Int))) (some ((ixL aa q1), 0)) none)))))
def o_Read (q0 : Nat) (a9 : Pa) (a8 : Nat) (a4 : Pa) (a3 : Nat) (a6 : Pa) (a5 : Nat) (ab : Option Nat) (ac : List ByteArray) (aa : List ByteArray) (a0 : List E115) (ak : List (Int × Bool)) (ad : Int) (ae : Bool) (q1 : Int) (w0 : World) : O_Read → Rt
  | (r0, r1), e, w => e = .returned (.tuple #[.string r0, .I r1]) ∧ Now (Foot [box q0 [.slice a9 ac.length a8, .slice a4 aa.length a3, .slice a6 a0.length a5, .map ab, .I ad, .bool ae] 111, arr elS a9 a8 ac, arr elS a4 a3 aa, arr el115 a6 a5 a0, mapB .i64 ab ak]) w0 w [box q0 [.slice a9 ac.length a8, .slice a4 aa.length a3, .slice a6 a0.length a5, .map ab, .I ad, .bool ae] 111, arr elS a9 a8 ac, arr elS a4 a3 aa, arr el115 a6 a5 a0, mapB .i64 ab ak]
theorem t_Read {q0 : Nat} {a9 : Option Addr} {a8 : Nat} {a4 : Option Addr} {a3 : Nat} {a6 : Option Addr} {a5 : Nat} {ab : Option Nat} {ac : List ByteArray} {aa : List ByteArray} {a0 : List E115} {ak : List (Int × Bool)} {ad : Int} {ae : Bool} {q1 : Int} {w0 : World} {r : O_Read} (hf : f_Read ac aa a0 ak ad ae q1 = some r) (hp : Hp w0 [box q0 [.slice a9 ac.length a8, .slice a4 aa.length a3, .slice a6 a0.length a5, .map ab, .I ad, .bool ae] 111, arr elS a9 a8 ac, arr elS a4 a3 aa, arr el115 a6 a5 a0, mapB .i64 ab ak]) : Calls Tryz.prog 84 #[.P q0, .I q1] w0 (o_Read q0 a9 a8 a4 a3 a6 a5 ab ac aa a0 ak ad ae q1 w0 r) := by
  apply c_Read q0 q1
  unfold p_Read
  unfold f_Read at hf
  let oo := o_Read q0 a9 a8 a4 a3 a6 a5 ab ac aa a0 ak ad ae q1 w0
  have n0 : Now (Foot [box q0 [.slice a9 ac.length a8, .slice a4 aa.length a3, .slice a6 a0.length a5, .map ab, .I ad, .bool ae] 111, arr elS a9 a8 ac, arr elS a4 a3 aa, arr el115 a6 a5 a0, mapB .i64 ab ak]) w0 w0 [box q0 [.slice a9 ac.length a8, .slice a4 aa.length a3, .slice a6 a0.length a5, .map ab, .I ad, .bool ae] 111, arr elS a9 a8 ac, arr elS a4 a3 aa, arr el115 a6 a5 a0, mapB .i64 ab ak] := Now.start hp
  exact (
  have n5 := n0.front4.front4.front4.front4.front4; bindF hf (fun x8 h6 h8 => (t_off h6 (n5.take [_, _, _, _, _])).mono fun _ w_1 ⟨e9, n10⟩ => ⟨x8, e9, have n7 := n5.call [_, _, _, _, _] n10; condF h8 (fun c11 h12 => have n17 := n7.front4.front4.front4.front4.front4; leafX oo (.returned (.tuple #[.string (ByteArray.mk #[]), .I 10])) w_1 h12 ⟨rfl, n17⟩) (fun c11 h18 => condF h18 (fun c19 h20 => have n25 := n7.front4.front4.front4.front4.front4; leafX oo (.returned (.tuple #[.string (ByteArray.mk #[]), .I 1])) w_1 h20 ⟨rfl, n25⟩) (fun c19 h26 => ⟨a4, aa.length, a3, n7.cell 1 rfl, condF h26 (fun c27 h28 => have n33 := n7.front4.front4.front4.front4.front4; leafX oo (.returned (.tuple #[.string (ByteArray.mk #[]), .I 1])) w_1 h28 ⟨rfl, n33⟩) (fun c27 h34 => ⟨a4, aa.length, a3, n7.cell 1 rfl, NNix h34 (arr_reads (n7.front2).hp.1) rfl fun a26 a35 i36 i37 h38 => ⟨(ixL aa q1), read_ix0 (arr_reads (n7.front2).hp.1) a35 i36 i37 rfl rfl, have n44 := n7.front4.front4.front4.front4.front4; leafX oo (.returned (.tuple #[.string (ixL aa q1), .I 0])) w_1 h38 ⟨rfl, n44⟩⟩⟩)⟩))⟩))
def ann_Write : Ann := ⟨[], [], [(4, [(10, .one (.bool))])]⟩
def p_Write (q0 : Nat) (q1 : Int) (q2 : ByteArray) (R : Rt) (w : World) : Prop :=
  (Calls Tryz.prog 115 #[.P q0] w fun e w_1 => ∃ (x9 : Bool), e = .returned (.bool x9) ∧ cond x9 (R (.returned (.I 10)) w_1) ((∃ J : List Value → World → Prop, (cond
  (decide (q1 < 0)) (J [.bool true] w_1) ((∃ (x18 : Pa) (x18n x18c : Nat), Cl w_1 q0 1 (.slice x18 x18n x18c) ∧ cond (decide (q1 ≥ ((x18n : Nat) : Int))) (J [.bool
  true] w_1) (J [.bool ((q2.size : Int) != 64)] w_1)))) ∧ ∀ (s10 : Bool) (w_2 : World), J [.bool s10] w_2 → cond s10 (R (.returned (.I 1)) w_2) ((∃ (x31 : Option Nat), Cl w_2 q0 3 (.map x31) ∧ (∃ (x33 : Bool), ∃ w_3, (Instr.lookup 109 (.map x31) (.I q1) false).run Tryz.prog w_2 = .ok (.bool x33) w_3 ∧ cond x33 (R (.returned (.I 11)) w_3) ((Calls Tryz.prog
  116 #[.P q0] w_3 fun e w_4 => ∃ (x36 : Bool), e = .returned (.bool x36) ∧ cond (!x36) (R (.returned (.I 10)) w_4) ((∃ (x41 : Pa) (x41n x41c : Nat),
  Cl w_4 q0 1 (.slice x41 x41n x41c) ∧ NN x41 fun a44 => chk (decide (0 ≤ q1) && decide (q1 < ((x41n : Nat) : Int))) (St w_4 (a44.add (q1.toNat * 1)) (.string q2) fun w_5 => (∃ (x49
  : Pa) (x49n x49c : Nat), Cl w_5 q0 2 (.slice x49 x49n x49c) ∧ Nw w_5 (.cells #[.I q1, .string q2] 115) fun b w_6 => (∃ (x54 : Pa) (x54n x54c : Nat), ∃ w_7, (Builtin.append_ #[108, 108] 108 #[.slice x49 x49n x49c, .slice (some ⟨b, 0, none⟩) 1 1]).run Tryz.prog w_6 = .ok (.slice x54 x54n x54c) w_7 ∧ St w_7 ⟨q0, 2, none⟩ (.slice x54
  x54n x54c) fun w_8 => R (.returned (.I 0)) w_8)))))))))))))
theorem v_Write (q0 : Nat) (q1 : Int) (q2 : ByteArray) (R : Rt) (w : World) :
  vc Tryz.prog ann_Write (Tryz.f79.body.getD .skip) (retQ Tryz.prog Tryz.f79.results.toList R) (initFr [.P q0, .I q1, .string q2] Tryz.f79.ntmps) w = p_Write q0 q1 q2 R w := by kernel_rfl
theorem c_Write (q0 : Nat) (q1 : Int) (q2 : ByteArray) (R : Rt) (w : World) (h : p_Write q0 q1 q2 R w) : Calls Tryz.prog 79 #[.P q0, .I q1, .string q2] w R :=
  calls_by ann_Write Tryz.func79 rfl (v_Write q0 q1 q2 R w) h
abbrev O_Write := (Int × Int × Bool × (List ByteArray) × (List E115))
noncomputable def f_Write (ac : List ByteArray) (aa : List ByteArray) (a0 : List E115) (ak : List (Int × Bool)) (ad : Int) (ae : Bool) (q1 : Int) (q2 : ByteArray) : Option O_Write :=
  ((f_off ac aa a0 ak ad ae).bind fun (x9 : O_off) => (cond x9 (some (10, ad, ae, aa, a0)) (((cond (decide (q1 < 0)) (some true) (cond (decide (q1 ≥ ((aa.length : Nat) : Int))) (some true) (some ((q2.size : Int) != 64)))) : Option Bool).bind (fun (s10 : Bool) => (cond s10 (some (1, ad, ae, aa, a0)) (cond (getB ak q1) (some (11, ad, ae, aa, a0)) ((f_burn ac aa a0 ak ad ae).bind fun (o : O_burn) => (match o with | (x36, aH, aI) => (cond (!x36) (some (10, aH, aI, aa, a0)) (cond (decide (0 ≤ q1) && decide (q1 < ((aa.length : Nat) : Int))) (cond (decide ((a0 ++ [(⟨q1, q2⟩ : E115)]).length ≤ 9382499223533)) (some (0, aH, aI, (aa.set q1.toNat q2), (a0 ++ [(⟨q1, q2⟩ : E115)]))) none) none))))))))))
def o_Write (q0 : Nat) (a9 : Pa) (a8 : Nat) (a4 : Pa) (a3 : Nat) (a6 : Pa) (a5 : Nat) (ab : Option Nat) (ac : List ByteArray) (aa : List ByteArray) (a0 : List E115) (ak : List (Int × Bool)) (ad : Int) (ae : Bool) (q1 : Int) (q2 : ByteArray) (w0 : World) : O_Write → Rt
  | (r0, r_q0_4, dB, f4, b2), e, w => ∃ (b8 : Pa), ∃ (b7 : Nat), e = .returned (.I r0) ∧ Now (Foot [box q0 [.slice a9 ac.length a8, .slice a4 aa.length a3, .slice a6 a0.length a5, .map ab, .I ad, .bool ae] 111, arr elS a9 a8 ac, arr elS a4 a3 aa, arr el115 a6 a5 a0, mapB .i64 ab ak]) w0 w [box q0 [.slice a9 ac.length a8, .slice a4 f4.length a3, .slice b8 b2.length b7, .map ab, .I r_q0_4, .bool dB] 111, arr elS a9 a8 ac, arr elS a4 a3 f4, arr el115 b8 b7 b2, mapB .i64 ab ak]
theorem t_Write {q0 : Nat} {a9 : Option Addr} {a8 : Nat} {a4 : Option Addr} {a3 : Nat} {a6 : Option Addr} {a5 : Nat} {ab : Option Nat} {ac : List ByteArray} {aa : List ByteArray} {a0 : List E115} {ak : List (Int × Bool)} {ad : Int} {ae : Bool} {q1 : Int} {q2 : ByteArray} {w0 : World} {r : O_Write} (hf : f_Write ac aa a0 ak ad ae q1 q2 = some r) (hp : Hp w0 [box q0 [.slice a9 ac.length a8, .slice a4 aa.length a3, .slice a6 a0.length a5, .map ab, .I ad, .bool ae] 111, arr elS a9 a8 ac, arr elS a4 a3 aa, arr el115 a6 a5 a0, mapB .i64 ab ak]) : Calls Tryz.prog 79 #[.P q0, .I q1, .string q2] w0 (o_Write q0 a9 a8 a4 a3 a6 a5 ab ac aa a0 ak ad ae q1 q2 w0 r) := by
  apply c_Write q0 q1 q2
  unfold p_Write
  unfold f_Write at hf
  let FF := Foot [box q0 [.slice a9 ac.length a8, .slice a4 aa.length a3, .slice a6 a0.length a5, .map ab, .I ad, .bool ae] 111, arr elS a9 a8 ac, arr elS a4 a3 aa, arr el115 a6 a5 a0, mapB .i64 ab ak]
  let oo := o_Write q0 a9 a8 a4 a3 a6 a5 ab ac aa a0 ak ad ae q1 q2 w0
  have n0 : Now FF w0 w0 [box q0 [.slice a9 ac.length a8, .slice a4 aa.length a3, .slice a6 a0.length a5, .map ab, .I ad, .bool ae] 111, arr elS a9 a8 ac, arr elS a4 a3 aa, arr el115 a6 a5 a0, mapB .i64 ab ak] := Now.start hp
  exact (
  have n5 := n0.front4.front4.front4.front4.front4; bindF hf (fun x9 h6 h8 => (t_off h6 (n5.take [_, _, _, _, _])).mono fun _ w_1 ⟨e9, n10⟩ => ⟨x9, e9, have n7 := n5.call [_, _, _, _, _] n10; condF h8 (fun c11 h12 => have n17 := n7.front4.front4.front4.front4.front4; leafX oo (.returned (.I 10)) w_1 h12 ⟨a6, a5, rfl, n17⟩) (fun c11 h18 => joinF h18 fun T19 t20 ⟨x23, h21, t22⟩ => ⟨fun vsI wI => match vsI with | [.bool s10] => Now FF w0 wI [box q0 [.slice a9 ac.length a8, .slice a4 aa.length a3, .slice a6 a0.length a5, .map ab, .I ad, .bool ae] 111, arr elS a9 a8 ac, arr elS a4 a3 aa, arr el115 a6 a5 a0, mapB .i64 ab ak] ∧ T19 s10 | _ => False, (condF h21 (fun c24 h25 => have n30 := n7.front4.front4.front4.front4.front4; ⟨n30, joinTo h25 t22⟩) (fun c24 h31 => ⟨a4, aa.length, a3, n7.cell 1 rfl, condF h31 (fun c32 h33 => have n38 := n7.front4.front4.front4.front4.front4; ⟨n38, joinTo h33 t22⟩) (fun c32 h39 => have n44 := n7.front4.front4.front4.front4.front4; ⟨n44, joinTo h39 t22⟩)⟩)), fun s10 w_2 ⟨n45, t46⟩ => condF (t20 _ t46) (fun c47 h48 => have n53 := n45.front4.front4.front4.front4.front4; leafX oo (.returned (.I 1)) w_2 h48 ⟨a6, a5, rfl, n53⟩) (fun c47 h54 => ⟨ab, n45.cell 3 rfl, ⟨_, _, lookB Tryz.underlying109 Tryz.underlying3 (fun _ => by rfl) (n45.front4).hp.1, condF h54 (fun c55 h56 => have n61 := n45.front4.front4.front4.front4.front4; leafX oo (.returned (.I 11)) w_2 h56 ⟨a6, a5, rfl, n61⟩) (fun c55 h62 => have n67 := n45.front4.front4.front4.front4.front4; bindF h62 (fun o => match o with | (x36, aH, aI) => fun h68 h70 => (t_burn h68 (n67.take [_, _, _, _, _])).mono fun _ w_4 ⟨e71, n72⟩ => ⟨x36, e71, have n69 := n67.call [_, _, _, _, _] n72; condF h70 (fun c73 h74 => have n79 := n69.front4.front4.front4.front4.front4; leafX oo (.returned (.I 10)) w_4 h74 ⟨a6, a5, rfl, n79⟩) (fun c73 h80 => ⟨a4, aa.length, a3, n69.cell 1 rfl, NNix h80 (arr_reads (n69.front2).hp.1) rfl fun a44 a81 i82 i83 h84 => (n69.front2).arrSt0 a81 i82 i83 rfl (q2) (.string q2) rfl fun w_5 n86 => ⟨a6, a0.length, a5, (n86.front1).cell 2 rfl, n86.Nw (cs := [.I q1, .string q2]) fun b w_6 n87 => chkE h84 fun c89 h90 => Now.appendN (⟨Tryz.underlying108, ⟨_, _, rfl, rfl, rfl, rfl, by decide, by decide⟩⟩ : ElemN Tryz.prog 108 115 (El.z el115) 9382499223533) (n87.front4) (box_reads (xs := [(⟨q1, q2⟩ : E115)]) n87.hp.1 rfl) rfl (of_decide_eq_true c89) fun x54 x54c w_7 n88 => (n88.front3).St (by rfl) fun w_8 n91 => have n97 := n91.front5.front2.front4.front5.front4.takeN 5; have n98 := (Now.same n97 (by first | rfl | (simp [len_part_eq, copyL_length]; done) | (simp [len_part_eq, copyL_length]; omega)) : Now _ _ _ [box q0 [.slice a9 ac.length a8, .slice a4 ((aa.set q1.toNat q2).length) a3, .slice x54 ((a0 ++ [(⟨q1, q2⟩ : E115)]).length) x54c, .map ab, .I aH, .bool aI] 111, arr elS a9 a8 ac, arr elS a4 a3 (aa.set q1.toNat q2), arr el115 x54 x54c (a0 ++ [(⟨q1, q2⟩ : E115)]), mapB .i64 ab ak]); leafX oo (.returned (.I 0)) w_8 h90 ⟨x54, x54c, rfl, n98⟩⟩⟩)⟩))⟩⟩)⟩)⟩))
def ann_Sync : Ann := ⟨[(6, .tail 9)], [(4, [(17, .one (.int .i64))])], []⟩
def p_Sync (q0 : Nat) (R : Rt) (w : World) : Prop :=
  (Calls Tryz.prog 115 #[.P q0] w fun e w_1 => ∃ (x6 : Bool), e = .returned (.bool x6) ∧ cond x6 (R (.returned (.I 10)) w_1) ((Calls Tryz.prog 116 #[.P q0] w_1 fun e w_2 => ∃ (x9 : Bool), e = .returned (.bool x9) ∧ cond (!x9) (R (.returned (.I 10)) w_2) ((∃ (x15 : Pa) (x15n x15c : Nat), Cl w_2 q0 2   (.slice x15 x15n x15c) ∧ (∃ I : Nat → List Value → World → Prop, (∃ n, I n [.I 0] w_2) ∧ ∀ n, ∀ (s17 : Int) (w_3 : World), I n [.I s17] w_3 → cond (decide (s17 < ((x15n : Nat) : Int)))
  (NN x15 fun a19 => chk (decide (0 ≤ s17) && decide (s17 < ((x15n : Nat) : Int))) ((∃ (x20_0 : Int), w_3.cell? (a19.add (s17.toNat * 2)) = some (.I x20_0) ∧ (∃ (x20_1 : ByteArray), w_3.cell?
  ((a19.add (s17.toNat * 2)).add 1) = some (.string x20_1) ∧ Nw w_3 (.cells #[.I 0, .string (ByteArray.mk #[])] 115) fun b w_4 => St w_4 ⟨b, 0, none⟩ (.I x20_0) fun w_5 => St w_5 ⟨b, 1,
  none⟩ (.string x20_1) fun w_6 => (∃ (x24 : Pa) (x24n x24c : Nat), (w_6.drewN 1).cell? ⟨q0, 0, none⟩ = some (.slice x24 x24n x24c) ∧ (∃ (x26 : Int), (w_6.drewN 1).cell? ⟨b, 0, none⟩
  = some (.I x26) ∧ (∃ (x28 : ByteArray), (w_6.drewN 1).cell? ⟨b, 1, none⟩ = some (.string x28) ∧ NN x24 fun a29 => chk (decide (0 ≤ x26) && decide (x26 < ((x24n : Nat) : Int))) (St (w_6.drewN
  1) (a29.add (x26.toNat * 1)) (.string x28) fun w_7 => (∃ m, m < n ∧ I m [.I (W6 (s17 + 1))] w_7))))))))) (St w_3 ⟨q0, 2, none⟩ (.slice none 0 0) fun w_8 => R (.returned (.I 0)) w_8)))))))
theorem v_Sync (q0 : Nat) (R : Rt) (w : World) :
  vc Tryz.prog ann_Sync (Tryz.f80.body.getD .skip) (retQ Tryz.prog Tryz.f80.results.toList R) (initFr [.P q0] Tryz.f80.ntmps) w = p_Sync q0 R w := by kernel_rfl
theorem c_Sync (q0 : Nat) (R : Rt) (w : World) (h : p_Sync q0 R w) : Calls Tryz.prog 80 #[.P q0] w R :=
  calls_by ann_Sync Tryz.func80 rfl (v_Sync q0 R w) h
abbrev O_Sync := (Int × Int × Bool × (List ByteArray) × (List E115))
noncomputable def f_Sync (ac : List ByteArray) (aa : List ByteArray) (a0 : List E115) (ak : List (Int × Bool)) (ad : Int) (ae : Bool) : Option O_Sync :=
  ((f_off ac aa a0 ak ad ae).bind fun (x6 : O_off) => (cond x6 (some (10, ad, ae, ac, a0)) ((f_burn ac aa a0 ak ad ae).bind fun (o : O_burn) => (match o with | (x9, b0, b1) => (cond (!x9) (some (10, b0, b1, ac, a0)) (loopO (fun (s : (Int × (List ByteArray))) => match s with | (s17, aD) => ((cond (decide (s17 < ((a0.length : Nat) : Int))) (cond (decide (0 ≤ s17) && decide (s17 < ((a0.length : Nat) : Int))) (cond (decide (0 ≤ ((ixL a0 s17).sector)) && decide (((ixL a0 s17).sector) < ((aD.length : Nat) : Int))) (some (.inl ((IntKind.wrap .i64 (s17 + 1)), (aD.set ((ixL a0 s17).sector).toNat ((ixL a0 s17).data))))) none) none) (some (.inr (0, b0, b1, aD, ([] : List E115))))) : Option ((Int × (List ByteArray)) ⊕ O_Sync))) (0, ac)))))))
def o_Sync (q0 : Nat) (a9 : Pa) (a8 : Nat) (a4 : Pa) (a3 : Nat) (a6 : Pa) (a5 : Nat) (ab : Option Nat) (ac : List ByteArray) (aa : List ByteArray) (a0 : List E115) (ak : List (Int × Bool)) (ad : Int) (ae : Bool) (w0 : World) : O_Sync → Rt
  | (r0, r_q0_4, dB, r_xs_cell_q0_0, b2), e, w => ∃ (b8 : Pa), ∃ (b7 : Nat), e = .returned (.I r0) ∧ Now (Foot [box q0 [.slice a9 ac.length a8, .slice a4 aa.length a3, .slice a6 a0.length a5, .map ab, .I ad, .bool ae] 111, arr elS a9 a8 ac, arr elS a4 a3 aa, arr el115 a6 a5 a0, mapB .i64 ab ak]) w0 w [box q0 [.slice a9 r_xs_cell_q0_0.length a8, .slice a4 aa.length a3, .slice b8 b2.length b7, .map ab, .I r_q0_4, .bool dB] 111, arr elS a9 a8 r_xs_cell_q0_0, arr elS a4 a3 aa, arr el115 b8 b7 b2, mapB .i64 ab ak]
theorem t_Sync {q0 : Nat} {a9 : Option Addr} {a8 : Nat} {a4 : Option Addr} {a3 : Nat} {a6 : Option Addr} {a5 : Nat} {ab : Option Nat} {ac : List ByteArray} {aa : List ByteArray} {a0 : List E115} {ak : List (Int × Bool)} {ad : Int} {ae : Bool} {w0 : World} {r : O_Sync} (hf : f_Sync ac aa a0 ak ad ae = some r) (hp : Hp w0 [box q0 [.slice a9 ac.length a8, .slice a4 aa.length a3, .slice a6 a0.length a5, .map ab, .I ad, .bool ae] 111, arr elS a9 a8 ac, arr elS a4 a3 aa, arr el115 a6 a5 a0, mapB .i64 ab ak]) : Calls Tryz.prog 80 #[.P q0] w0 (o_Sync q0 a9 a8 a4 a3 a6 a5 ab ac aa a0 ak ad ae w0 r) := by
  apply c_Sync q0
  unfold p_Sync
  unfold f_Sync at hf
  let FF := Foot [box q0 [.slice a9 ac.length a8, .slice a4 aa.length a3, .slice a6 a0.length a5, .map ab, .I ad, .bool ae] 111, arr elS a9 a8 ac, arr elS a4 a3 aa, arr el115 a6 a5 a0, mapB .i64 ab ak]
  let oo := o_Sync q0 a9 a8 a4 a3 a6 a5 ab ac aa a0 ak ad ae w0
  have n0 : Now FF w0 w0 [box q0 [.slice a9 ac.length a8, .slice a4 aa.length a3, .slice a6 a0.length a5, .map ab, .I ad, .bool ae] 111, arr elS a9 a8 ac, arr elS a4 a3 aa, arr el115 a6 a5 a0, mapB .i64 ab ak] := Now.start hp
  exact (
  have n5 := n0.front4.front4.front4.front4.front4; bindF hf (fun x6 h6 h8 => (t_off h6 (n5.take [_, _, _, _, _])).mono fun _ w_1 ⟨e9, n10⟩ => ⟨x6, e9, have n7 := n5.call [_, _, _, _, _] n10; condF h8 (fun c11 h12 => have n17 := n7.front4.front4.front4.front4.front4; leafX oo (.returned (.I 10)) w_1 h12 ⟨a6, a5, rfl, n17⟩) (fun c11 h18 => have n23 := n7.front4.front4.front4.front4.front4; bindF h18 (fun o => match o with | (x9, b0, b1) => fun h24 h26 => (t_burn h24 (n23.take [_, _, _, _, _])).mono fun _ w_2 ⟨e27, n28⟩ => ⟨x9, e27, have n25 := n23.call [_, _, _, _, _] n28; condF h26 (fun c29 h30 => have n35 := n25.front4.front4.front4.front4.front4; leafX oo (.returned (.I 10)) w_2 h30 ⟨a6, a5, rfl, n35⟩) (fun c29 h36 => ⟨a6, a0.length, a5, n25.cell 2 rfl, loopF h36 fun It37 t38 h39 => ⟨fun nI vsI wI => match vsI with | [.I s17] => ∃ (aD : List ByteArray), Now FF w0 wI [box q0 [.slice a9 aD.length a8, .slice a4 aa.length a3, .slice a6 a0.length a5, .map ab, .I b0, .bool b1] 111, arr elS a9 a8 aD, arr elS a4 a3 aa, arr el115 a6 a5 a0, mapB .i64 ab ak] ∧ It37 nI (s17, aD) | _ => False, (h39.elim fun n88 i87 => have n49 := n25.front4.front4.front4.front4.front4; ⟨n88, ⟨ac, n49, i87⟩⟩), fun n s17 w_3 ⟨aD, n43, t44⟩ => (t38 _ _ t44).elim fun x40 ⟨h41, t42⟩ => condF h41 (fun c50 h51 => NNix h51 (arr_reads (n43.front3).hp.1) rfl fun a19 a52 i53 i54 h55 => ⟨(ixL a0 s17).sector, read_ix0 (arr_reads (n43.front3).hp.1) a52 i53 i54 rfl rfl, ⟨(ixL a0 s17).data, read_ix (arr_reads (n43.front3).hp.1) a52 i53 i54 1 rfl rfl, n43.Nw (cs := [.I 0, .string (ByteArray.mk #[])]) fun b w_4 n57 => n57.St (by rfl) fun w_5 n58 => n58.St (by rfl) fun w_6 n59 => have n60 := n59.drewN 1; ⟨a9, aD.length, a8, (n60.front1).cell 0 rfl, ⟨((ixL a0 s17).sector), n60.cell 0 rfl, ⟨((ixL a0 s17).data), n60.cell 1 rfl, NNix h55 (arr_reads (n60.front2).hp.1) rfl fun a29 a61 i62 i63 h64 => (n60.front2).arrSt0 a61 i62 i63 rfl (((ixL a0 s17).data)) (.string ((ixL a0 s17).data)) rfl fun w_7 n66 => have n72 := n66.front5.front5.front5.front3.front5.takeN 5; have n73 := (Now.same n72 (by first | rfl | (simp [len_part_eq, copyL_length]; done) | (simp [len_part_eq, copyL_length]; omega)) : Now _ _ _ [box q0 [.slice a9 ((aD.set ((ixL a0 s17).sector).toNat ((ixL a0 s17).data)).length) a8, .slice a4 aa.length a3, .slice a6 a0.length a5, .map ab, .I b0, .bool b1] 111, arr elS a9 a8 (aD.set ((ixL a0 s17).sector).toNat ((ixL a0 s17).data)), arr elS a4 a3 aa, arr el115 a6 a5 a0, mapB .i64 ab ak]); (loopCont h64 t42).elim fun m74 i75 => ⟨m74, i75.1, ⟨(aD.set ((ixL a0 s17).sector).toNat ((ixL a0 s17).data)), n73, i75.2⟩⟩⟩⟩⟩⟩⟩) (fun c50 h76 => n43.St (by rfl) fun w_8 n77 => have n79 := n77.nil el115; have n85 := n79.front5.front1.front4.front4.front4.takeN 5; have n86 := (Now.same n85 (by first | rfl | (simp [len_part_eq, copyL_length]; done) | (simp [len_part_eq, copyL_length]; omega)) : Now _ _ _ [box q0 [.slice a9 aD.length a8, .slice a4 aa.length a3, .slice none (([] : List E115).length) 0, .map ab, .I b0, .bool b1] 111, arr elS a9 a8 aD, arr elS a4 a3 aa, arr el115 none 0 ([] : List E115), mapB .i64 ab ak]); leafX oo (.returned (.I 0)) w_8 (loopExit h76 t42) ⟨none, 0, rfl, n86⟩)⟩⟩)⟩))⟩))
def ann_Crash : Ann := ⟨[(8, .phased [8, 9]), (10, .tail 16)], [(5, [(19, .one (.int .i64))])], []⟩
def p_Crash (q0 : Nat) (q1 : Pa) (q1n q1c : Nat) (R : Rt) (w : World) : Prop :=
  (∃ (x15 : Pa) (x15n x15c : Nat), Cl w q0 0 (.slice x15 x15n x15c) ∧ (Calls Tryz.prog 56 #[.slice x15 x15n x15c] w fun e w_1 => ∃ (x16 : Pa) (x16n x16c : Nat), e = .returned (.slice x16 x16n x16c) ∧ (∃ I : Nat → List Value → World → Prop, (∃ n, I n [.I 0] w_1) ∧ ∀ n, ∀ (s19 : Int) (w_2 : World), I n [.I s19] w_2 → cond (decide
  (s19 < ((q1n : Nat) : Int))) (NN q1 fun a21 => chk (decide (0 ≤ s19) && decide (s19 < ((q1n : Nat) : Int))) ((∃ (x22_0 : Int), w_2.cell? (a21.add (s19.toNat * 2)) = some (.I x22_0) ∧ (∃
  (x22_1 : Int), w_2.cell? ((a21.add (s19.toNat * 2)).add 1) = some (.I x22_1) ∧ Nw w_2 (.cells #[.I 0, .I 0] 113) fun b w_3 => St w_3 ⟨b, 0, none⟩ (.I x22_0) fun w_4 => St
  w_4 ⟨b, 1, none⟩ (.I x22_1) fun w_5 => (∃ (x24 : Int), Cl w_5 b 0 (.I x24) ∧ cond (decide (x24 < 0)) ((∀ n_1, (∃ m, m < n ∧ I m [.I (W6 (s19 +
  1))] (w_5.drewN n_1)))) ((∃ (x28 : Int), Cl w_5 b 0 (.I x28) ∧ (∃ (x32 : Pa) (x32n x32c : Nat), Cl w_5 q0 2 (.slice x32 x32n x32c) ∧ (∀
  n_2, cond (decide (x28 ≥ ((x32n : Nat) : Int))) ((∃ m, m < n ∧ I m [.I (W6 (s19 + 1))] (w_5.drewN n_2))) ((∃ S : World → Prop, S ((w_5.drewN n_2).drewN 1) ∧ (∃ (x39 : Option
  Addr) (x39n x39c : Nat), (∀ w, S w → Cl w q0 2 (.slice x39 x39n x39c)) ∧ (∃ (x41 : Int), (∀ w, S w → Cl w b 0 (.I x41)) ∧ NN x39 fun a42 => chk
  (decide (0 ≤ x41) && decide (x41 < ((x39n : Nat) : Int))) ((∃ (x43_0 : Int), (∀ w, S w → w.cell? (a42.add (x41.toNat * 2)) = some (.I x43_0)) ∧ (∃ (x43_1 : ByteArray), (∀ w, S w → w.cell?
  ((a42.add (x41.toNat * 2)).add 1) = some (.string x43_1)) ∧ Nw ((w_5.drewN n_2).drewN 1) (.cells #[.I 0, .string (ByteArray.mk #[])] 115) fun b_1 w_6 => (S w_6 ∧ St w_6 ⟨b_1, 0, none⟩ (.I x43_0) fun w_7 => St w_7 ⟨b_1, 1, none⟩ (.string x43_1) fun w_8 => (∃ (x45 : Int), Cl w_8 b 1 (.I x45) ∧ Lt ((if (if (64 : Int) < x45 then 64 else x45) > 0 then (if
  (64 : Int) < x45 then 64 else x45) else 0) : Int) fun s9 => (∃ (x50 : Int), (w_8.drewN 1).cell? ⟨b_1, 0, none⟩ = some (.I x50) ∧ (∃ (x52 : ByteArray), (w_8.drewN 1).cell? ⟨b_1, 1, none⟩ =
  some (.string x52) ∧ chk (decide (0 ≤ s9) && decide (s9 ≤ (x52.size : Int))) (chk (decide (0 ≤ (0 : Int)) && decide ((0 : Int) ≤ s9)) ((∃ (x57 : Int), (w_8.drewN 1).cell? ⟨b_1, 0, none⟩ = some (.I x57) ∧ NN x16 fun a58 => chk (decide (0 ≤ x57) && decide (x57 < ((x16n : Nat) : Int))) ((∃ (x59 : ByteArray), (w_8.drewN 1).cell? (a58.add (x57.toNat * 1)) = some (.string x59) ∧ chk (decide (0
  ≤ (x59.size : Int)) && decide ((x59.size : Int) ≤ (x59.size : Int))) (chk (decide (0 ≤ s9) && decide (s9 ≤ (x59.size : Int))) (chk (fitsS (x52.extract 0 s9.toNat) (x59.extract s9.toNat x59.size))
  (NN x16 fun a63 => chk (decide (0 ≤ x50) && decide (x50 < ((x16n : Nat) : Int))) (St (w_8.drewN 1) (a63.add (x50.toNat * 1)) (.string ((x52.extract 0 s9.toNat) ++ (x59.extract s9.toNat x59.size)))
  fun w_9 => (∃ m, m < n ∧ I m [.I (W6 (s19 + 1))] w_9)))))))))))))))))))))))))))))) (St w_2 ⟨q0, 5, none⟩ (.bool true) fun w_10 => (Calls Tryz.prog 56 #[.slice x16 x16n x16c]
  w_10 fun e w_11 => ∃ (x70 : Pa) (x70n x70c : Nat), e = .returned (.slice x70 x70n x70c) ∧ (∃ (x71 : Option Nat), ∃ w_12, (Instr.makeMap 109 none).run Tryz.prog w_11 = .ok (.map x71)
  w_12 ∧ Nw w_12 (.cells #[.slice x16 x16n x16c, .slice x70 x70n x70c, .slice none 0 0, .map x71, .I (-1), .F] 111) fun b_2 w_13 => R (.returned (.P b_2))
  w_13))))))
theorem v_Crash (q0 : Nat) (q1 : Pa) (q1n q1c : Nat) (R : Rt) (w : World) :
  vc Tryz.prog ann_Crash (Tryz.f16.body.getD .skip) (retQ Tryz.prog Tryz.f16.results.toList R) (initFr [.P q0, .slice q1 q1n q1c] Tryz.f16.ntmps) w = p_Crash q0 q1 q1n q1c R w := by kernel_rfl
theorem c_Crash (q0 : Nat) (q1 : Pa) (q1n q1c : Nat) (R : Rt) (w : World) (h : p_Crash q0 q1 q1n q1c R w) : Calls Tryz.prog 16 #[.P q0, .slice q1 q1n q1c] w R :=
  calls_by ann_Crash Tryz.func16 rfl (v_Crash q0 q1 q1n q1c R w) h
abbrev O_Crash := ((List ByteArray) × (List ByteArray) × (List (Int × Bool)))
noncomputable def f_Crash (ac : List ByteArray) (aa : List ByteArray) (a0 : List E115) (ak : List (Int × Bool)) (ad : Int) (ae : Bool) (q1x : List E113) : Option O_Crash :=
  ((f_Clone ac).bind fun (b3 : O_Clone) => (loopO (fun (s : (Int × (List ByteArray))) => match s with | (s19, ay) => ((cond (decide (s19 < ((q1x.length : Nat) : Int))) (cond (decide (0 ≤ s19) && decide (s19 < ((q1x.length : Nat) : Int))) (cond (decide (((ixL q1x s19).N) < 0)) (some (.inl ((IntKind.wrap .i64 (s19 + 1)), ay))) (cond (decide (((ixL q1x s19).N) ≥ ((a0.length : Nat) : Int))) (some (.inl ((IntKind.wrap .i64 (s19 + 1)), ay))) (cond (decide (0 ≤ ((ixL q1x s19).N)) && decide (((ixL q1x s19).N) < ((a0.length : Nat) : Int))) (Let ((if (if (64 : Int) < ((ixL q1x s19).Bytes) then 64 else ((ixL q1x s19).Bytes)) > 0 then (if (64 : Int) < ((ixL q1x s19).Bytes) then 64 else ((ixL q1x s19).Bytes)) else 0) : Int) fun s9 => (cond ((decide (0 ≤ s9) && decide (s9 ≤ (((ixL a0 ((ixL q1x s19).N)).data).size : Int)))) (cond ((decide (0 ≤ (0 : Int)) && decide ((0 : Int) ≤ s9))) (cond (decide (0 ≤ ((ixL a0 ((ixL q1x s19).N)).sector)) && decide (((ixL a0 ((ixL q1x s19).N)).sector) < ((b3.length : Nat) : Int))) (cond ((decide (0 ≤ ((ixL ay ((ixL a0 ((ixL q1x s19).N)).sector)).size : Int)) && decide (((ixL ay ((ixL a0 ((ixL q1x s19).N)).sector)).size : Int) ≤ ((ixL ay ((ixL a0 ((ixL q1x s19).N)).sector)).size : Int)))) (cond ((decide (0 ≤ s9) && decide (s9 ≤ ((ixL ay ((ixL a0 ((ixL q1x s19).N)).sector)).size : Int)))) (cond ((fitsS (((ixL a0 ((ixL q1x s19).N)).data).extract 0 s9.toNat) ((ixL ay ((ixL a0 ((ixL q1x s19).N)).sector)).extract s9.toNat (ixL ay ((ixL a0 ((ixL q1x s19).N)).sector)).size))) (cond (decide (0 ≤ ((ixL a0 ((ixL q1x s19).N)).sector)) && decide (((ixL a0 ((ixL q1x s19).N)).sector) < ((b3.length : Nat) : Int))) (some (.inl ((IntKind.wrap .i64 (s19 + 1)), (ay.set ((ixL a0 ((ixL q1x s19).N)).sector).toNat ((((ixL a0 ((ixL q1x s19).N)).data).extract 0 s9.toNat) ++ ((ixL ay ((ixL a0 ((ixL q1x s19).N)).sector)).extract s9.toNat (ixL ay ((ixL a0 ((ixL q1x s19).N)).sector)).size)))))) none) none) none) none) none) none) none)) none))) none) ((f_Clone ay).bind fun (b6 : O_Clone) => (some (.inr (ay, b6, ([] : List (Int × Bool))))))) : Option ((Int × (List ByteArray)) ⊕ O_Crash))) (0, b3)))
def o_Crash (q0 : Nat) (a9 : Pa) (a8 : Nat) (a4 : Pa) (a3 : Nat) (a6 : Pa) (a5 : Nat) (ab : Option Nat) (q1 : Pa) (q1c : Nat) (ac : List ByteArray) (aa : List ByteArray) (a0 : List E115) (ak : List (Int × Bool)) (ad : Int) (ae : Bool) (q1x : List E113) (w0 : World) : O_Crash → Rt
  | (aT, aU, bg), e, w => ∃ (r_b0 : Nat), ∃ (aX : Pa), ∃ (aV : Nat), ∃ (aY : Pa), ∃ (aW : Nat), ∃ (aZ : Option Nat), e = .returned (.P r_b0) ∧ Now (Foot [box q0 [.slice a9 ac.length a8, .slice a4 aa.length a3, .slice a6 a0.length a5, .map ab, .I ad, .bool ae] 111, arr elS a9 a8 ac, arr elS a4 a3 aa, arr el115 a6 a5 a0, mapB .i64 ab ak]) w0 w [box q0 [.slice a9 ac.length a8, .slice a4 aa.length a3, .slice a6 a0.length a5, .map ab, .I ad, .bool true] 111, box r_b0 [.slice aX aT.length aV, .slice aY aU.length aW, .slice none 0 0, .map aZ, .I (-1 : Int), .F] 111, arr elS a9 a8 ac, arr elS a4 a3 aa, arr el115 a6 a5 a0, mapB .i64 ab ak, arr elS aX aV aT, arr elS aY aW aU, mapB .i64 aZ bg]
theorem t_Crash {q0 : Nat} {a9 : Option Addr} {a8 : Nat} {a4 : Option Addr} {a3 : Nat} {a6 : Option Addr} {a5 : Nat} {ab : Option Nat} {q1 : Option Addr} {q1c q1n : Nat} {ac : List ByteArray} {aa : List ByteArray} {a0 : List E115} {ak : List (Int × Bool)} {ad : Int} {ae : Bool} {q1x : List E113} {w0 : World} {r : O_Crash} (hf : f_Crash ac aa a0 ak ad ae q1x = some r) (hp : Hp w0 [box q0 [.slice a9 ac.length a8, .slice a4 aa.length a3, .slice a6 a0.length a5, .map ab, .I ad, .bool ae] 111, arr elS a9 a8 ac, arr elS a4 a3 aa, arr el115 a6 a5 a0, mapB .i64 ab ak]) (roq1 : RoAt el113 w0 q1 q1c q1x) (roq1B : ∀ a, q1 = some a → q1x ≠ [] → ¬ Foot [box q0 [.slice a9 ac.length a8, .slice a4 aa.length a3, .slice a6 a0.length a5, .map ab, .I ad, .bool ae] 111, arr elS a9 a8 ac, arr elS a4 a3 aa, arr el115 a6 a5 a0, mapB .i64 ab ak] a.block) (q1nN : q1n = q1x.length) : Calls Tryz.prog 16 #[.P q0, .slice q1 q1n q1c] w0 (o_Crash q0 a9 a8 a4 a3 a6 a5 ab q1 q1c ac aa a0 ak ad ae q1x w0 r) := by
  subst q1nN
  apply c_Crash q0 q1 q1x.length q1c
  unfold p_Crash
  unfold f_Crash at hf
  let FF := Foot [box q0 [.slice a9 ac.length a8, .slice a4 aa.length a3, .slice a6 a0.length a5, .map ab, .I ad, .bool ae] 111, arr elS a9 a8 ac, arr elS a4 a3 aa, arr el115 a6 a5 a0, mapB .i64 ab ak]
  let oo := o_Crash q0 a9 a8 a4 a3 a6 a5 ab q1 q1c ac aa a0 ak ad ae q1x w0
  have n0 : Now FF w0 w0 [box q0 [.slice a9 ac.length a8, .slice a4 aa.length a3, .slice a6 a0.length a5, .map ab, .I ad, .bool ae] 111, arr elS a9 a8 ac, arr elS a4 a3 aa, arr el115 a6 a5 a0, mapB .i64 ab ak] := Now.start hp
  exact (
  ⟨a9, ac.length, a8, n0.cell 0 rfl, bindF hf (fun b3 h1 h3 => (t_Clone h1 (n0.take []) (ro_own [] 1 n0 rfl) (ro_ownB [] 1 n0 rfl) rfl).mono fun _ w_1 ⟨w_1_r_p0, w_1_r_c0, e4, n5⟩ => ⟨w_1_r_p0, b3.length, w_1_r_c0, e4, have n2 := n0.call [] n5; loopF h3 fun It6 t7 h8 => ⟨fun nI vsI wI => match vsI with | [.I s19] => ∃ (ay : List ByteArray), ay.length = b3.length ∧ Now FF w0 wI [box q0 [.slice a9 ac.length a8, .slice a4 aa.length a3, .slice a6 a0.length a5, .map ab, .I ad, .bool ae] 111, arr elS a9 a8 ac, arr elS a4 a3 aa, arr el115 a6 a5 a0, mapB .i64 ab ak, arr elS w_1_r_p0 w_1_r_c0 ay] ∧ It6 nI (s19, ay) | _ => False, (h8.elim fun n115 i114 => have n18 := n2.front5.front5.front5.front5.front5; ⟨n115, ⟨b3, rfl, n18, i114⟩⟩), fun n s19 w_2 ⟨ay, hL_I_xs__w_1_r0, n12, t13⟩ => (t7 _ _ t13).elim fun x9 ⟨h10, t11⟩ => condF h10 (fun c19 h20 => NNix h20 (roq1.at n12.chg roq1B) rfl fun a21 a21 i22 i23 h24 => ⟨(ixL q1x s19).N, read_ix0 (roq1.at n12.chg roq1B) a21 i22 i23 rfl rfl, ⟨(ixL q1x s19).Bytes, read_ix (roq1.at n12.chg roq1B) a21 i22 i23 1 rfl rfl, n12.Nw (cs := [.I 0, .I 0]) fun b w_3 n26 => n26.St (by rfl) fun w_4 n27 => n27.St (by rfl) fun w_5 n28 => ⟨((ixL q1x s19).N), n28.cell 0 rfl, condF h24 (fun c29 h30 => fun n_1 => have n31 := n28.drewN n_1; have n38 := n31.front6.front6.front6.front6.front6.front6.takeN 6; (loopCont h30 t11).elim fun m39 i40 => ⟨m39, i40.1, ⟨ay, (by first | rfl | (simp [copyL_length, hL_I_xs__w_1_r0]; done) | (simp [copyL_length, hL_I_xs__w_1_r0]; omega)), n38, i40.2⟩⟩) (fun c29 h41 => ⟨((ixL q1x s19).N), n28.cell 0 rfl, ⟨a6, a0.length, a5, (n28.front1).cell 2 rfl, fun n_2 => have n42 := n28.drewN n_2; condF h41 (fun c43 h44 => have n51 := n42.front6.front6.front6.front6.front6.front6.takeN 6; (loopCont h44 t11).elim fun m52 i53 => ⟨m52, i53.1, ⟨ay, (by first | rfl | (simp [copyL_length, hL_I_xs__w_1_r0]; done) | (simp [copyL_length, hL_I_xs__w_1_r0]; omega)), n51, i53.2⟩⟩) (fun c43 h54 => have n55 := n42.drewN 1; ⟨fun w2 => (box q0 [.slice a9 ac.length a8, .slice a4 aa.length a3, .slice a6 a0.length a5, .map ab, .I ad, .bool ae] 111).holds w2 ∧ (box b [.I ((ixL q1x s19).N), .I ((ixL q1x s19).Bytes)] 113).holds w2 ∧ (arr el115 a6 a5 a0).holds w2 ∧ True, ⟨(n55.front1).hp.1, n55.hp.1, (n55.front4).hp.1, trivial⟩, ⟨a6, a0.length, a5, fun _ hS => (Blk.cell hS.1 2).trans rfl, ⟨((ixL q1x s19).N), fun _ hS => (Blk.cell hS.2.1 0).trans rfl, NNix h54 (arr_reads (n55.front4).hp.1) rfl fun a42 a56 i57 i58 h59 => ⟨(ixL a0 ((ixL q1x s19).N)).sector, fun _ hS => read_ix0 (arr_reads hS.2.2.1) a56 i57 i58 rfl rfl, ⟨(ixL a0 ((ixL q1x s19).N)).data, fun _ hS => read_ix (arr_reads hS.2.2.1) a56 i57 i58 1 rfl rfl, n55.Nw (cs := [.I 0, .string (ByteArray.mk #[])]) fun b_1 w_6 n61 => ⟨⟨(n61.front2).hp.1, (n61.front1).hp.1, (n61.front5).hp.1, trivial⟩, n61.St (by rfl) fun w_7 n62 => n62.St (by rfl) fun w_8 n63 => ⟨((ixL q1x s19).Bytes), (n63.front1).cell 1 rfl, LetF h59 fun s9 h64 => have n65 := n63.drewN 1; ⟨((ixL a0 ((ixL q1x s19).N)).sector), n65.cell 0 rfl, ⟨((ixL a0 ((ixL q1x s19).N)).data), n65.cell 1 rfl, chkF h64 fun c66 h67 => chkF h67 fun c68 h69 => ⟨((ixL a0 ((ixL q1x s19).N)).sector), n65.cell 0 rfl, NNix h69 (arr_reads (n65.front7).hp.1) (by first | rfl | (simp [copyL_length, hL_I_xs__w_1_r0]; done) | (simp [copyL_length, hL_I_xs__w_1_r0]; omega)) fun a58 a70 i71 i72 h73 => ⟨(ixL ay ((ixL a0 ((ixL q1x s19).N)).sector)), read_ix0 (arr_reads (n65.front7).hp.1) a70 i71 i72 rfl rfl, chkF h73 fun c75 h76 => chkF h76 fun c77 h78 => chkF h78 fun c79 h80 => NNix h80 (arr_reads (n65.front7).hp.1) (by first | rfl | (simp [copyL_length, hL_I_xs__w_1_r0]; done) | (simp [copyL_length, hL_I_xs__w_1_r0]; omega)) fun a63 a81 i82 i83 h84 => (n65.front7).arrSt0 a81 i82 i83 rfl (((((ixL a0 ((ixL q1x s19).N)).data).extract 0 s9.toNat) ++ ((ixL ay ((ixL a0 ((ixL q1x s19).N)).sector)).extract s9.toNat (ixL ay ((ixL a0 ((ixL q1x s19).N)).sector)).size))) (.string ((((ixL a0 ((ixL q1x s19).N)).data).extract 0 s9.toNat) ++ ((ixL ay ((ixL a0 ((ixL q1x s19).N)).sector)).extract s9.toNat (ixL ay ((ixL a0 ((ixL q1x s19).N)).sector)).size))) rfl fun w_9 n86 => have n92 := n86.front7.front7.front7.front7.front7.takeN 6; (loopCont h84 t11).elim fun m93 i94 => ⟨m93, i94.1, ⟨(ay.set ((ixL a0 ((ixL q1x s19).N)).sector).toNat ((((ixL a0 ((ixL q1x s19).N)).data).extract 0 s9.toNat) ++ ((ixL ay ((ixL a0 ((ixL q1x s19).N)).sector)).extract s9.toNat (ixL ay ((ixL a0 ((ixL q1x s19).N)).sector)).size))), (by first | rfl | (simp [copyL_length, hL_I_xs__w_1_r0]; done) | (simp [copyL_length, hL_I_xs__w_1_r0]; omega)), n92, i94.2⟩⟩⟩⟩⟩⟩⟩⟩⟩⟩⟩⟩⟩)⟩⟩)⟩⟩⟩) (fun c19 h95 => n12.St (by rfl) fun w_10 n96 => bindF h95 (fun b6 h97 h99 => (t_Clone h97 (n96.take []) (ro_own [] 5 n96 rfl) (ro_ownB [] 5 n96 rfl) (by first | rfl | (simp [copyL_length, hL_I_xs__w_1_r0]; done) | (simp [copyL_length, hL_I_xs__w_1_r0]; omega))).mono fun _ w_11 ⟨w_11_r_p0, w_11_r_c0, e100, n101⟩ => ⟨w_11_r_p0, b6.length, w_11_r_c0, e100, have n98 := n96.call [] n101; Now.mkB .i64 n98 fun x71 w_12 n102 => n102.Nw (cs := [.slice w_1_r_p0 b3.length w_1_r_c0, .slice w_11_r_p0 b6.length w_11_r_c0, .slice none 0 0, .map x71, .I (-1 : Int), .F]) fun b_2 w_13 n103 => have n112 := n103.front1.front2.front8.front8.front8.front8.front8.front7.front8; have n113 := (Now.same n112 (by first | rfl | (simp [len_part_eq, copyL_length, hL_I_xs__w_1_r0]; done) | (simp [len_part_eq, copyL_length, hL_I_xs__w_1_r0]; omega)) : Now _ _ _ [box q0 [.slice a9 ac.length a8, .slice a4 aa.length a3, .slice a6 a0.length a5, .map ab, .I ad, .bool true] 111, box b_2 [.slice w_1_r_p0 ay.length w_1_r_c0, .slice w_11_r_p0 b6.length w_11_r_c0, .slice none 0 0, .map x71, .I (-1 : Int), .F] 111, arr elS a9 a8 ac, arr elS a4 a3 aa, arr el115 a6 a5 a0, mapB .i64 ab ak, arr elS w_1_r_p0 w_1_r_c0 ay, arr elS w_11_r_p0 w_11_r_c0 b6, mapB .i64 x71 ([] : List (Int × Bool))]); leafX oo (.returned (.P b_2)) w_13 (loopExit h99 t11) ⟨b_2, w_1_r_p0, w_1_r_c0, w_11_r_p0, w_11_r_c0, x71, rfl, n113⟩⟩))⟩⟩)⟩)
def ann_Fuel : Ann := ⟨[], [], []⟩
def p_Fuel (q0 : Nat) (q1 : Int) (R : Rt) (w : World) : Prop :=
  St w ⟨q0, 4, none⟩ (.I (if (-1 : Int) > q1 then (-1) else q1)) fun w_1 => R RT0 w_1
theorem v_Fuel (q0 : Nat) (q1 : Int) (R : Rt) (w : World) :
  vc Tryz.prog ann_Fuel (Tryz.f24.body.getD .skip) (retQ Tryz.prog Tryz.f24.results.toList R) (initFr [.P q0, .I q1] Tryz.f24.ntmps) w = p_Fuel q0 q1 R w := by kernel_rfl
theorem c_Fuel (q0 : Nat) (q1 : Int) (R : Rt) (w : World) (h : p_Fuel q0 q1 R w) : Calls Tryz.prog 24 #[.P q0, .I q1] w R :=
  calls_by ann_Fuel Tryz.func24 rfl (v_Fuel q0 q1 R w) h
abbrev O_Fuel := Int
noncomputable def f_Fuel (ac : List ByteArray) (aa : List ByteArray) (a0 : List E115) (ak : List (Int × Bool)) (ad : Int) (ae : Bool) (q1 : Int) : Option O_Fuel :=
  (some (if (-1 : Int) > q1 then (-1) else q1))
def o_Fuel (q0 : Nat) (a9 : Pa) (a8 : Nat) (a4 : Pa) (a3 : Nat) (a6 : Pa) (a5 : Nat) (ab : Option Nat) (ac : List ByteArray) (aa : List ByteArray) (a0 : List E115) (ak : List (Int × Bool)) (ad : Int) (ae : Bool) (q1 : Int) (w0 : World) : O_Fuel → Rt
  | r_q0_4, e, w => e = .returned (.tuple #[]) ∧ Now (Foot [box q0 [.slice a9 ac.length a8, .slice a4 aa.length a3, .slice a6 a0.length a5, .map ab, .I ad, .bool ae] 111, arr elS a9 a8 ac, arr elS a4 a3 aa, arr el115 a6 a5 a0, mapB .i64 ab ak]) w0 w [box q0 [.slice a9 ac.length a8, .slice a4 aa.length a3, .slice a6 a0.length a5, .map ab, .I r_q0_4, .bool ae] 111, arr elS a9 a8 ac, arr elS a4 a3 aa, arr el115 a6 a5 a0, mapB .i64 ab ak]
theorem t_Fuel {q0 : Nat} {a9 : Option Addr} {a8 : Nat} {a4 : Option Addr} {a3 : Nat} {a6 : Option Addr} {a5 : Nat} {ab : Option Nat} {ac : List ByteArray} {aa : List ByteArray} {a0 : List E115} {ak : List (Int × Bool)} {ad : Int} {ae : Bool} {q1 : Int} {w0 : World} {r : O_Fuel} (hf : f_Fuel ac aa a0 ak ad ae q1 = some r) (hp : Hp w0 [box q0 [.slice a9 ac.length a8, .slice a4 aa.length a3, .slice a6 a0.length a5, .map ab, .I ad, .bool ae] 111, arr elS a9 a8 ac, arr elS a4 a3 aa, arr el115 a6 a5 a0, mapB .i64 ab ak]) : Calls Tryz.prog 24 #[.P q0, .I q1] w0 (o_Fuel q0 a9 a8 a4 a3 a6 a5 ab ac aa a0 ak ad ae q1 w0 r) := by
  apply c_Fuel q0 q1
  unfold p_Fuel
  unfold f_Fuel at hf
  let oo := o_Fuel q0 a9 a8 a4 a3 a6 a5 ab ac aa a0 ak ad ae q1 w0
  have n0 : Now (Foot [box q0 [.slice a9 ac.length a8, .slice a4 aa.length a3, .slice a6 a0.length a5, .map ab, .I ad, .bool ae] 111, arr elS a9 a8 ac, arr elS a4 a3 aa, arr el115 a6 a5 a0, mapB .i64 ab ak]) w0 w0 [box q0 [.slice a9 ac.length a8, .slice a4 aa.length a3, .slice a6 a0.length a5, .map ab, .I ad, .bool ae] 111, arr elS a9 a8 ac, arr elS a4 a3 aa, arr el115 a6 a5 a0, mapB .i64 ab ak] := Now.start hp
  exact (
  n0.St (by rfl) fun w_1 n1 => have n6 := n1.front4.front4.front4.front4.front4; leafX oo RT0 w_1 hf ⟨rfl, n6⟩)
def ann_FuelN : Ann := ⟨[], [], []⟩
def p_FuelN (q1 : Int) (R : Rt) (w : World) : Prop :=
  R RT0 w
theorem v_FuelN (q1 : Int) (R : Rt) (w : World) :
  vc Tryz.prog ann_FuelN (Tryz.f24.body.getD .skip) (retQ Tryz.prog Tryz.f24.results.toList R) (initFr [.pointer none, .I q1] Tryz.f24.ntmps) w = p_FuelN q1 R w := by kernel_rfl
theorem c_FuelN (q1 : Int) (R : Rt) (w : World) (h : p_FuelN q1 R w) : Calls Tryz.prog 24 #[.pointer none, .I q1] w R :=
  calls_by ann_FuelN Tryz.func24 rfl (v_FuelN q1 R w) h
abbrev O_FuelN := Unit
noncomputable def f_FuelN (q1 : Int) : Option O_FuelN :=
  (some ())
def o_FuelN (q1 : Int) (w0 : World) : O_FuelN → Rt
  | _, e, w => e = .returned (.tuple #[]) ∧ Now (Foot []) w0 w []
theorem t_FuelN {q1 : Int} {w0 : World} {r : O_FuelN} (hf : f_FuelN q1 = some r) (hp : Hp w0 []) : Calls Tryz.prog 24 #[.pointer none, .I q1] w0 (o_FuelN q1 w0 r) := by
  apply c_FuelN q1
  unfold p_FuelN
  unfold f_FuelN at hf
  let oo := o_FuelN q1 w0
  have n0 : Now (Foot []) w0 w0 [] := Now.start hp
  exact (
  leafX oo RT0 w0 hf ⟨rfl, n0⟩)
def ann_Bad : Ann := ⟨[], [], []⟩
def p_Bad (q0 : Nat) (q1 : Int) (q2 : Bool) (R : Rt) (w : World) : Prop :=
  (∃ (x11 : Option Nat), Cl w q0 3 (.map x11) ∧ (∃ (x0 : Value), ∃ w_1, (updS 109 (.map x11) (.I q1) (.bool q2)).run Tryz.prog w = .ok (x0) w_1 ∧ R RT0
  w_1))
theorem v_Bad (q0 : Nat) (q1 : Int) (q2 : Bool) (R : Rt) (w : World) :
  vc Tryz.prog ann_Bad (Tryz.f26.body.getD .skip) (retQ Tryz.prog Tryz.f26.results.toList R) (initFr [.P q0, .I q1, .bool q2] Tryz.f26.ntmps) w = p_Bad q0 q1 q2 R w := by kernel_rfl
theorem c_Bad (q0 : Nat) (q1 : Int) (q2 : Bool) (R : Rt) (w : World) (h : p_Bad q0 q1 q2 R w) : Calls Tryz.prog 26 #[.P q0, .I q1, .bool q2] w R :=
  calls_by ann_Bad Tryz.func26 rfl (v_Bad q0 q1 q2 R w) h
abbrev O_Bad := (List (Int × Bool))
noncomputable def f_Bad (ac : List ByteArray) (aa : List ByteArray) (a0 : List E115) (ak : List (Int × Bool)) (ad : Int) (ae : Bool) (q1 : Int) (q2 : Bool) : Option O_Bad :=
  (some (putB ak q1 q2))
def o_Bad (q0 : Nat) (a9 : Pa) (a8 : Nat) (a4 : Pa) (a3 : Nat) (a6 : Pa) (a5 : Nat) (ab : Option Nat) (ac : List ByteArray) (aa : List ByteArray) (a0 : List E115) (ak : List (Int × Bool)) (ad : Int) (ae : Bool) (q1 : Int) (q2 : Bool) (w0 : World) : O_Bad → Rt
  | r_xs_cell_q0_3, e, w => e = .returned (.tuple #[]) ∧ Now (Foot [box q0 [.slice a9 ac.length a8, .slice a4 aa.length a3, .slice a6 a0.length a5, .map ab, .I ad, .bool ae] 111, arr elS a9 a8 ac, arr elS a4 a3 aa, arr el115 a6 a5 a0, mapB .i64 ab ak]) w0 w [box q0 [.slice a9 ac.length a8, .slice a4 aa.length a3, .slice a6 a0.length a5, .map ab, .I ad, .bool ae] 111, arr elS a9 a8 ac, arr elS a4 a3 aa, arr el115 a6 a5 a0, mapB .i64 ab r_xs_cell_q0_3]
theorem t_Bad {q0 : Nat} {a9 : Option Addr} {a8 : Nat} {a4 : Option Addr} {a3 : Nat} {a6 : Option Addr} {a5 : Nat} {ab : Option Nat} {ac : List ByteArray} {aa : List ByteArray} {a0 : List E115} {ak : List (Int × Bool)} {ad : Int} {ae : Bool} {q1 : Int} {q2 : Bool} {w0 : World} {r : O_Bad} (hf : f_Bad ac aa a0 ak ad ae q1 q2 = some r) (hp : Hp w0 [box q0 [.slice a9 ac.length a8, .slice a4 aa.length a3, .slice a6 a0.length a5, .map ab, .I ad, .bool ae] 111, arr elS a9 a8 ac, arr elS a4 a3 aa, arr el115 a6 a5 a0, mapB .i64 ab ak]) : Calls Tryz.prog 26 #[.P q0, .I q1, .bool q2] w0 (o_Bad q0 a9 a8 a4 a3 a6 a5 ab ac aa a0 ak ad ae q1 q2 w0 r) := by
  apply c_Bad q0 q1 q2
  unfold p_Bad
  unfold f_Bad at hf
  let oo := o_Bad q0 a9 a8 a4 a3 a6 a5 ab ac aa a0 ak ad ae q1 q2 w0
  have n0 : Now (Foot [box q0 [.slice a9 ac.length a8, .slice a4 aa.length a3, .slice a6 a0.length a5, .map ab, .I ad, .bool ae] 111, arr elS a9 a8 ac, arr elS a4 a3 aa, arr el115 a6 a5 a0, mapB .i64 ab ak]) w0 w0 [box q0 [.slice a9 ac.length a8, .slice a4 aa.length a3, .slice a6 a0.length a5, .map ab, .I ad, .bool ae] 111, arr elS a9 a8 ac, arr elS a4 a3 aa, arr el115 a6 a5 a0, mapB .i64 ab ak] := Now.start hp
  exact (
  ⟨ab, n0.cell 3 rfl, Now.putB Tryz.underlying109 Tryz.underlying3 (n0.front4) fun w_1 n1 => have n5 := n1.front4.front4.front4.front4; leafX oo RT0 w_1 hf ⟨rfl, n5⟩⟩)
def ann_BadN : Ann := ⟨[], [], []⟩
def p_BadN (q1 : Int) (q2 : Bool) (R : Rt) (w : World) : Prop :=
  R RT0 w
theorem v_BadN (q1 : Int) (q2 : Bool) (R : Rt) (w : World) :
  vc Tryz.prog ann_BadN (Tryz.f26.body.getD .skip) (retQ Tryz.prog Tryz.f26.results.toList R) (initFr [.pointer none, .I q1, .bool q2] Tryz.f26.ntmps) w = p_BadN q1 q2 R w := by kernel_rfl
theorem c_BadN (q1 : Int) (q2 : Bool) (R : Rt) (w : World) (h : p_BadN q1 q2 R w) : Calls Tryz.prog 26 #[.pointer none, .I q1, .bool q2] w R :=
  calls_by ann_BadN Tryz.func26 rfl (v_BadN q1 q2 R w) h
abbrev O_BadN := Unit
noncomputable def f_BadN (q1 : Int) (q2 : Bool) : Option O_BadN :=
  (some ())
def o_BadN (q1 : Int) (q2 : Bool) (w0 : World) : O_BadN → Rt
  | _, e, w => e = .returned (.tuple #[]) ∧ Now (Foot []) w0 w []
theorem t_BadN {q1 : Int} {q2 : Bool} {w0 : World} {r : O_BadN} (hf : f_BadN q1 q2 = some r) (hp : Hp w0 []) : Calls Tryz.prog 26 #[.pointer none, .I q1, .bool q2] w0 (o_BadN q1 q2 w0 r) := by
  apply c_BadN q1 q2
  unfold p_BadN
  unfold f_BadN at hf
  let oo := o_BadN q1 q2 w0
  have n0 : Now (Foot []) w0 w0 [] := Now.start hp
  exact (
  leafX oo RT0 w0 hf ⟨rfl, n0⟩)
def ann_CrashN : Ann := ⟨[], [], []⟩
def p_CrashN (q1 : Pa) (q1n q1c : Nat) (R : Rt) (w : World) : Prop :=
  R (.returned (.pointer none)) w
theorem v_CrashN (q1 : Pa) (q1n q1c : Nat) (R : Rt) (w : World) :
  vc Tryz.prog ann_CrashN (Tryz.f16.body.getD .skip) (retQ Tryz.prog Tryz.f16.results.toList R) (initFr [.pointer none, .slice q1 q1n q1c] Tryz.f16.ntmps) w = p_CrashN q1 q1n q1c R w := by kernel_rfl
theorem c_CrashN (q1 : Pa) (q1n q1c : Nat) (R : Rt) (w : World) (h : p_CrashN q1 q1n q1c R w) : Calls Tryz.prog 16 #[.pointer none, .slice q1 q1n q1c] w R :=
  calls_by ann_CrashN Tryz.func16 rfl (v_CrashN q1 q1n q1c R w) h
abbrev O_CrashN := Unit
noncomputable def f_CrashN (q1x : List E113) : Option O_CrashN :=
  (some ())
def o_CrashN (q1 : Pa) (q1c : Nat) (q1x : List E113) (w0 : World) : O_CrashN → Rt
  | _, e, w => e = .returned (.pointer none) ∧ Now (Foot []) w0 w []
theorem t_CrashN {q1 : Option Addr} {q1c q1n : Nat} {q1x : List E113} {w0 : World} {r : O_CrashN} (hf : f_CrashN q1x = some r) (hp : Hp w0 []) (roq1 : RoAt el113 w0 q1 q1c q1x) (roq1B : ∀ a, q1 = some a → q1x ≠ [] → ¬ Foot [] a.block) (q1nN : q1n = q1x.length) : Calls Tryz.prog 16 #[.pointer none, .slice q1 q1n q1c] w0 (o_CrashN q1 q1c q1x w0 r) := by
  subst q1nN
  apply c_CrashN q1 q1x.length q1c
  unfold p_CrashN
  unfold f_CrashN at hf
  let oo := o_CrashN q1 q1c q1x w0
  have n0 : Now (Foot []) w0 w0 [] := Now.start hp
  exact (
  leafX oo (.returned (.pointer none)) w0 hf ⟨rfl, n0⟩)
def ann_sCheck : Ann := ⟨[], [], [(2, [(3, .one (.bool))])]⟩
def p_sCheck (q0_0 q0_1 : Int) (q0_2 : ByteArray) (R : Rt) (w : World) : Prop :=
  Nw w (.cells #[.I q0_0, .I q0_1, .string q0_2] 59) fun b w_1 => (∃ J : List Value → World → Prop, ((∃ (x5 : Int), Cl w_1 b 1 (.I x5) ∧ cond (decide (x5 ≥ 0))
  ((∃ (x9 : Int), Cl w_1 b 1 (.I x9) ∧ J [.bool (decide (x9 < 131072))] w_1)) (J [.F] w_1))) ∧ ∀ (s3 : Bool) (w_2 : World), J [.bool s3] w_2 → (∃ (x13 : Int),
  Cl w_2 b 0 (.I x13) ∧ cond (x13 == 1) (cond s3 ((∃ (x19 : ByteArray), Cl w_2 b 2 (.string x19) ∧ cond (decide ((x19.size : Int) ≥ 1)) ((∃ (x25 :
  ByteArray), Cl w_2 b 2 (.string x25) ∧ cond (!(decide ((x25.size : Int) ≤ 8))) (R (.returned (.I 1)) w_2) (R (.returned (.I 0)) w_2))) (R (.returned (.I 1))
  w_2))) (R (.returned (.I 1)) w_2)) (cond (x13 == 2) (cond s3 ((∃ (x34 : ByteArray), Cl w_2 b 2 (.string x34) ∧ cond (x34.toList == (ByteArray.mk #[]).toList) ((∃ (x39 :
  Int), Cl w_2 b 1 (.I x39) ∧ cond (!((Int.tmod x39 4096) == 0)) (R (.returned (.I 1)) w_2) (R (.returned (.I 0)) w_2))) (R (.returned (.I 1)) w_2))) (R
  (.returned (.I 1)) w_2)) (cond (x13 == 3) ((∃ (x46 : ByteArray), Cl w_2 b 2 (.string x46) ∧ cond (x46.toList == (ByteArray.mk #[]).toList) ((∃ (x50 : Int), Cl w_2 b 1 (.I x50) ∧ cond (!(x50 == 0)) (R (.returned (.I 1)) w_2) (R (.returned (.I 0)) w_2))) (R (.returned (.I 1)) w_2))) (R (.returned (.I 1)) w_2)))))
theorem v_sCheck (q0_0 q0_1 : Int) (q0_2 : ByteArray) (R : Rt) (w : World) :
  vc Tryz.prog ann_sCheck (Tryz.f89.body.getD .skip) (retQ Tryz.prog Tryz.f89.results.toList R) (initFr [.agg #[.I q0_0, .I q0_1, .string q0_2]] Tryz.f89.ntmps) w = p_sCheck q0_0 q0_1 q0_2 R w := by kernel_rfl
theorem c_sCheck (q0_0 q0_1 : Int) (q0_2 : ByteArray) (R : Rt) (w : World) (h : p_sCheck q0_0 q0_1 q0_2 R w) : Calls Tryz.prog 89 #[.agg #[.I q0_0, .I q0_1, .string q0_2]] w R :=
  calls_by ann_sCheck Tryz.func89 rfl (v_sCheck q0_0 q0_1 q0_2 R w) h
abbrev O_sCheck := Int
noncomputable def f_sCheck (q0_0 q0_1 : Int) (q0_2 : ByteArray) : Option O_sCheck :=
  (((cond (decide (q0_1 ≥ 0)) (some (decide (q0_1 < 131072))) (some false)) : Option Bool).bind (fun (s3 : Bool) => (cond (q0_0 == 1) (cond s3 (cond (decide ((q0_2.size : Int) ≥ 1)) (cond (!(decide ((q0_2.size : Int) ≤ 8))) (some 1) (some 0)) (some 1)) (some 1)) (cond (q0_0 == 2) (cond s3 (cond (q0_2.toList == (ByteArray.mk #[]).toList) (cond (!((Int.tmod q0_1 4096) == 0)) (some 1) (some 0)) (some 1)) (some 1)) (cond (q0_0 == 3) (cond (q0_2.toList == (ByteArray.mk #[]).toList) (cond (!(q0_1 == 0)) (some 1) (some 0)) (some 1)) (some 1))))))
def o_sCheck (q0_0 q0_1 : Int) (q0_2 : ByteArray) (w0 : World) : O_sCheck → Rt
  | r0, e, w => e = .returned (.I r0) ∧ Now (Foot []) w0 w []
theorem t_sCheck {q0_0 q0_1 : Int} {q0_2 : ByteArray} {w0 : World} {r : O_sCheck} (hf : f_sCheck q0_0 q0_1 q0_2 = some r) (hp : Hp w0 []) : Calls Tryz.prog 89 #[.agg #[.I q0_0, .I q0_1, .string q0_2]] w0 (o_sCheck q0_0 q0_1 q0_2 w0 r) := by
  apply c_sCheck q0_0 q0_1 q0_2
  unfold p_sCheck
  unfold f_sCheck at hf
  let FF := Foot []
  let oo := o_sCheck q0_0 q0_1 q0_2 w0
  have n0 : Now FF w0 w0 [] := Now.start hp
  exact (
  n0.Nw (cs := [.I q0_0, .I q0_1, .string q0_2]) fun b w_1 n1 => joinF hf fun T2 t3 ⟨x6, h4, t5⟩ => ⟨fun vsI wI => match vsI with | [.bool s3] => Now FF w0 wI [box b [.I q0_0, .I q0_1, .string q0_2] 59] ∧ T2 s3 | _ => False, ⟨q0_1, n1.cell 1 rfl, condF h4 (fun c7 h8 => ⟨q0_1, n1.cell 1 rfl, ⟨n1, joinTo h8 t5⟩⟩) (fun c7 h9 => ⟨n1, joinTo h9 t5⟩)⟩, fun s3 w_2 ⟨n10, t11⟩ => ⟨q0_0, n10.cell 0 rfl, condF (t3 _ t11) (fun c12 h13 => condF h13 (fun c14 h15 => ⟨q0_2, n10.cell 2 rfl, condF h15 (fun c16 h17 => ⟨q0_2, n10.cell 2 rfl, condF h17 (fun c18 h19 => have n20 := n10.takeN 0; leafX oo (.returned (.I 1)) w_2 h19 ⟨rfl, n20⟩) (fun c18 h21 => have n22 := n10.takeN 0; leafX oo (.returned (.I 0)) w_2 h21 ⟨rfl, n22⟩)⟩) (fun c16 h23 => have n24 := n10.takeN 0; leafX oo (.returned (.I 1)) w_2 h23 ⟨rfl, n24⟩)⟩) (fun c14 h25 => have n26 := n10.takeN 0; leafX oo (.returned (.I 1)) w_2 h25 ⟨rfl, n26⟩)) (fun c12 h27 => condF h27 (fun c28 h29 => condF h29 (fun c30 h31 => ⟨q0_2, n10.cell 2 rfl, condF h31 (fun c32 h33 => ⟨q0_1, n10.cell 1 rfl, condF h33 (fun c34 h35 => have n36 := n10.takeN 0; leafX oo (.returned (.I 1)) w_2 h35 ⟨rfl, n36⟩) (fun c34 h37 => have n38 := n10.takeN 0; leafX oo (.returned (.I 0)) w_2 h37 ⟨rfl, n38⟩)⟩) (fun c32 h39 => have n40 := n10.takeN 0; leafX oo (.returned (.I 1)) w_2 h39 ⟨rfl, n40⟩)⟩) (fun c30 h41 => have n42 := n10.takeN 0; leafX oo (.returned (.I 1)) w_2 h41 ⟨rfl, n42⟩)) (fun c28 h43 => condF h43 (fun c44 h45 => ⟨q0_2, n10.cell 2 rfl, condF h45 (fun c46 h47 => ⟨q0_1, n10.cell 1 rfl, condF h47 (fun c48 h49 => have n50 := n10.takeN 0; leafX oo (.returned (.I 1)) w_2 h49 ⟨rfl, n50⟩) (fun c48 h51 => have n52 := n10.takeN 0; leafX oo (.returned (.I 0)) w_2 h51 ⟨rfl, n52⟩)⟩) (fun c46 h53 => have n54 := n10.takeN 0; leafX oo (.returned (.I 1)) w_2 h53 ⟨rfl, n54⟩)⟩) (fun c44 h55 => have n56 := n10.takeN 0; leafX oo (.returned (.I 1)) w_2 h55 ⟨rfl, n56⟩)))⟩⟩)
def ann_sApply : Ann := ⟨[(7, .phased [4])], [], []⟩
def p_sApply (q0 : ByteArray) (q1_0 q1_1 : Int) (q1_2 : ByteArray) (R : Rt) (w : World) : Prop :=
  Nw w (.cells #[.I q1_0, .I q1_1, .string q1_2] 59) fun b w_1 => (∃ (x6_0 : Int), Cl w_1 b 0 (.I x6_0) ∧ (∃ (x6_1 : Int), Cl w_1 b 1 (.I x6_1) ∧ (∃ (x6_2 : ByteArray), Cl w_1 b 2 (.string x6_2) ∧ (Calls Tryz.prog 89 #[.agg #[.I x6_0, .I x6_1, .string x6_2]] w_1 fun e w_2 => ∃ (x7 : Int), e =
  .returned (.I x7) ∧ cond (x7 != 0) (R (.returned (.tuple #[.string (ByteArray.mk #[]), .I 1])) w_2) ((∃ (x10 : Int), Cl w_2 b 0 (.I x10) ∧ cond (x10 == 2) ((∃
  (x14 : Int), Cl w_2 b 1 (.I x14) ∧ cond (decide ((W6 (x14 + 4096)) > (q0.size : Int))) (R (.returned (.tuple #[.string (ByteArray.mk #[]), .I 1]))
  w_2) ((∃ S : World → Prop, S (w_2.drewN 1) ∧ (∃ (x21 : Int), (∀ w, S w → Cl w b 1 (.I x21)) ∧ chk (decide (0 ≤ x21) && decide (x21 ≤ (q0.size : Int))) (chk (decide (0 ≤ (0
  : Int)) && decide ((0 : Int) ≤ x21)) ((∃ (x27 : Int), (∀ w, S w → Cl w b 1 (.I x27)) ∧ chk (decide (0 ≤ (q0.size : Int)) && decide ((q0.size : Int) ≤ (q0.size : Int))) (chk
  (decide (0 ≤ (W6 (x27 + 4096))) && decide ((W6 (x27 + 4096)) ≤ (q0.size : Int))) ((Calls Tryz.prog 75 #[.string (ByteArray.mk #[255]), .I 4096] (w_2.drewN 1) fun
  e w_3 => ∃ (x23 : ByteArray), e = .returned (.string x23) ∧ (S w_3 ∧ chk (fitsS (q0.extract 0 x21.toNat) x23) (chk (fitsS ((q0.extract 0 x21.toNat) ++ x23) (q0.extract ((W6 (x27 +
  4096)).toNat) q0.size)) (R (.returned (.tuple #[.string (((q0.extract 0 x21.toNat) ++ x23) ++ (q0.extract ((W6 (x27 + 4096)).toNat) q0.size)), .I 0])) w_3)))))))))))))) (cond
  (x10 == 3) ((Calls Tryz.prog 75 #[.string (ByteArray.mk #[255]), .I (q0.size : Int)] w_2 fun e w_4 => ∃ (x35 : ByteArray), e = .returned (.string x35) ∧ R (.returned (.tuple #[.string x35,
  .I 0])) w_4)) ((∃ (x37 : Int), Cl w_2 b 1 (.I x37) ∧ (∃ (x39 : ByteArray), Cl w_2 b 2 (.string x39) ∧ cond (decide ((W6 (x37 +
  (x39.size : Int))) > (q0.size : Int))) (R (.returned (.tuple #[.string (ByteArray.mk #[]), .I 1])) w_2) ((∃ (x47 : Int), Cl w_2 b 1 (.I x47) ∧ chk (decide (0 ≤ x47)
  && decide (x47 ≤ (q0.size : Int))) (chk (decide (0 ≤ (0 : Int)) && decide ((0 : Int) ≤ x47)) ((∃ (x50 : ByteArray), Cl w_2 b 2 (.string x50) ∧ chk (fitsS (q0.extract 0 x47.toNat)
  x50) ((∃ (x54 : Int), Cl w_2 b 1 (.I x54) ∧ (∃ (x56 : ByteArray), Cl w_2 b 2 (.string x56) ∧ chk (decide (0 ≤ (q0.size : Int)) && decide ((q0.size : Int)
  ≤ (q0.size : Int))) (chk (decide (0 ≤ (W6 (x54 + (x56.size : Int)))) && decide ((W6 (x54 + (x56.size : Int))) ≤ (q0.size : Int))) (chk (fitsS ((q0.extract 0 x47.toNat)
  ++ x50) (q0.extract ((W6 (x54 + (x56.size : Int))).toNat) q0.size)) ((∀ n, R (.returned (.tuple #[.string (((q0.extract 0 x47.toNat) ++ x50) ++ (q0.extract ((W6 (x54 +
  (x56.size : Int))).toNat) q0.size)), .I 0])) (w_2.drewN n)))))))))))))))))))))))
theorem v_sApply (q0 : ByteArray) (q1_0 q1_1 : Int) (q1_2 : ByteArray) (R : Rt) (w : World) :
  vc Tryz.prog ann_sApply (Tryz.f54.body.getD .skip) (retQ Tryz.prog Tryz.f54.results.toList R) (initFr [.string q0, .agg #[.I q1_0, .I q1_1, .string q1_2]] Tryz.f54.ntmps) w = p_sApply q0 q1_0 q1_1 q1_2 R w := by kernel_rfl
theorem c_sApply (q0 : ByteArray) (q1_0 q1_1 : Int) (q1_2 : ByteArray) (R : Rt) (w : World) (h : p_sApply q0 q1_0 q1_1 q1_2 R w) : Calls Tryz.prog 54 #[.string q0, .agg #[.I q1_0, .I q1_1, .string q1_2]] w R :=
  calls_by ann_sApply Tryz.func54 rfl (v_sApply q0 q1_0 q1_1 q1_2 R w) h
abbrev O_sApply := (ByteArray × Int)
noncomputable def f_sApply (q0 : ByteArray) (q1_0 q1_1 : Int) (q1_2 : ByteArray) : Option O_sApply :=
  ((f_sCheck q1_0 q1_1 q1_2).bind fun (x7 : O_sCheck) => (cond (x7 != 0) (some ((ByteArray.mk #[]), 1)) (cond (q1_0 == 2) (cond (decide ((IntKind.wrap .i64 (q1_1 + 4096)) > (q0.size : Int))) (some ((ByteArray.mk #[]), 1)) (cond ((decide (0 ≤ q1_1) && decide (q1_1 ≤ (q0.size : Int)))) (cond ((decide (0 ≤ (0 : Int)) && decide ((0 : Int) ≤ q1_1))) (cond ((decide (0 ≤ (q0.size : Int)) && decide ((q0.size : Int) ≤ (q0.size : Int)))) (cond ((decide (0 ≤ (IntKind.wrap .i64 (q1_1 + 4096))) && decide ((IntKind.wrap .i64 (q1_1 + 4096)) ≤ (q0.size : Int)))) ((f_Repeat (ByteArray.mk #[255]) 4096).bind fun (x23 : O_Repeat) => (cond ((fitsS (q0.extract 0 q1_1.toNat) x23)) (cond ((fitsS ((q0.extract 0 q1_1.toNat) ++ x23) (q0.extract ((IntKind.wrap .i64 (q1_1 + 4096)).toNat) q0.size))) (some ((((q0.extract 0 q1_1.toNat) ++ x23) ++ (q0.extract ((IntKind.wrap .i64 (q1_1 + 4096)).toNat) q0.size)), 0)) none) none)) none) none) none) none)) (cond (q1_0 == 3) ((f_Repeat (ByteArray.mk #[255]) (q0.size : Int)).bind fun (x35 : O_Repeat) => (some (x35, 0))) (cond (decide ((IntKind.wrap .i64 (q1_1 + (q1_2.size : Int))) > (q0.size : Int))) (some ((ByteArray.mk #[]), 1)) (cond ((decide (0 ≤ q1_1) && decide (q1_1 ≤ (q0.size : Int)))) (cond ((decide (0 ≤ (0 : Int)) && decide ((0 : Int) ≤ q1_1))) (cond ((fitsS (q0.extract 0 q1_1.toNat) q1_2)) (cond ((decide (0 ≤ (q0.size : Int)) && decide ((q0.size : Int) ≤ (q0.size : Int)))) (cond ((decide (0 ≤ (IntKind.wrap .i64 (q1_1 + (q1_2.size : Int)))) && decide ((IntKind.wrap .i64 (q1_1 + (q1_2.size : Int))) ≤ (q0.size : Int)))) (cond ((fitsS ((q0.extract 0 q1_1.toNat) ++ q1_2) (q0.extract ((IntKind.wrap .i64 (q1_1 + (q1_2.size : Int))).toNat) q0.size))) (some ((((q0.extract 0 q1_1.toNat) ++ q1_2) ++ (q0.extract ((IntKind.wrap .i64 (q1_1 + (q1_2.size : Int))).toNat) q0.size)), 0)) none) none) none) none) none) none))))))
def o_sApply (q0 : ByteArray) (q1_0 q1_1 : Int) (q1_2 : ByteArray) (w0 : World) : O_sApply → Rt
  | (r0, r1), e, w => e = .returned (.tuple #[.string r0, .I r1]) ∧ Now (Foot []) w0 w []
theorem t_sApply {q0 : ByteArray} {q1_0 q1_1 : Int} {q1_2 : ByteArray} {w0 : World} {r : O_sApply} (hf : f_sApply q0 q1_0 q1_1 q1_2 = some r) (hp : Hp w0 []) : Calls Tryz.prog 54 #[.string q0, .agg #[.I q1_0, .I q1_1, .string q1_2]] w0 (o_sApply q0 q1_0 q1_1 q1_2 w0 r) := by
  apply c_sApply q0 q1_0 q1_1 q1_2
  unfold p_sApply
  unfold f_sApply at hf
  let oo := o_sApply q0 q1_0 q1_1 q1_2 w0
  have n0 : Now (Foot []) w0 w0 [] := Now.start hp
  exact (
  n0.Nw (cs := [.I q1_0, .I q1_1, .string q1_2]) fun b w_1 n1 => ⟨q1_0, n1.cell 0 rfl, ⟨q1_1, n1.cell 1 rfl, ⟨q1_2, n1.cell 2 rfl, bindF hf (fun x7 h2 h4 => (t_sCheck h2 (n1.take [])).mono fun _ w_2 ⟨e5, n6⟩ => ⟨x7, e5, have n3 := n1.call [] n6; condF h4 (fun c7 h8 => have n9 := n3.takeN 0; leafX oo (.returned (.tuple #[.string (ByteArray.mk #[]), .I 1])) w_2 h8 ⟨rfl, n9⟩) (fun c7 h10 => ⟨q1_0, n3.cell 0 rfl, condF h10 (fun c11 h12 => ⟨q1_1, n3.cell 1 rfl, condF h12 (fun c13 h14 => have n15 := n3.takeN 0; leafX oo (.returned (.tuple #[.string (ByteArray.mk #[]), .I 1])) w_2 h14 ⟨rfl, n15⟩) (fun c13 h16 => have n17 := n3.drewN 1; ⟨fun w2 => (box b [.I q1_0, .I q1_1, .string q1_2] 59).holds w2 ∧ True, ⟨n17.hp.1, trivial⟩, ⟨q1_1, fun _ hS => (Blk.cell hS.1 1).trans rfl, chkF h16 fun c18 h19 => chkF h19 fun c20 h21 => ⟨q1_1, fun _ hS => (Blk.cell hS.1 1).trans rfl, chkF h21 fun c22 h23 => chkF h23 fun c24 h25 => bindF h25 (fun x23 h26 h28 => (t_Repeat h26 (n17.take [])).mono fun _ w_3 ⟨e29, n30⟩ => ⟨x23, e29, have n27 := n17.call [] n30; ⟨⟨n27.hp.1, trivial⟩, chkF h28 fun c31 h32 => chkF h32 fun c33 h34 => have n35 := n27.takeN 0; leafX oo (.returned (.tuple #[.string (((q0.extract 0 q1_1.toNat) ++ x23) ++ (q0.extract ((W6 (q1_1 + 4096)).toNat) q0.size)), .I 0])) w_3 h34 ⟨rfl, n35⟩⟩⟩)⟩⟩⟩)⟩) (fun c11 h36 => condF h36 (fun c37 h38 => bindF h38 (fun x35 h39 h41 => (t_Repeat h39 (n3.take [])).mono fun _ w_4 ⟨e42, n43⟩ => ⟨x35, e42, have n40 := n3.call [] n43; have n44 := n40.takeN 0; leafX oo (.returned (.tuple #[.string x35, .I 0])) w_4 h41 ⟨rfl, n44⟩⟩)) (fun c37 h45 => ⟨q1_1, n3.cell 1 rfl, ⟨q1_2, n3.cell 2 rfl, condF h45 (fun c46 h47 => have n48 := n3.takeN 0; leafX oo (.returned (.tuple #[.string (ByteArray.mk #[]), .I 1])) w_2 h47 ⟨rfl, n48⟩) (fun c46 h49 => ⟨q1_1, n3.cell 1 rfl, chkF h49 fun c50 h51 => chkF h51 fun c52 h53 => ⟨q1_2, n3.cell 2 rfl, chkF h53 fun c54 h55 => ⟨q1_1, n3.cell 1 rfl, ⟨q1_2, n3.cell 2 rfl, chkF h55 fun c56 h57 => chkF h57 fun c58 h59 => chkF h59 fun c60 h61 => fun n => have n62 := n3.drewN n; have n63 := n62.takeN 0; leafF (x := ((((q0.extract 0 q1_1.toNat) ++ q1_2) ++ (q0.extract ((W6 (q1_1 + (q1_2.size : Int))).toNat) q0.size)), 0)) (G := fun r => oo r (.returned (.tuple #[.string (((q0.extract 0 q1_1.toNat) ++ q1_2) ++ (q0.extract ((W6 (q1_1 + (q1_2.size : Int))).toNat) q0.size)), .I 0])) (w_2.drewN n)) h61 ⟨rfl, n63⟩⟩⟩⟩⟩)⟩⟩))⟩)⟩)⟩⟩⟩)
def ann_Sum : Ann := ⟨[], [(7, [(3, .one (.int .u32)), (16, .one (.int .i64))]), (3, [(3, .one (.int .u32)), (7, .one (.int .i64))])], []⟩
def p_Sum (q0 : ByteArray) (R : Rt) (w : World) : Prop :=
  (∃ I : Nat → List Value → World → Prop, (∃ n, I n [.U 4294967295, .I 0] w) ∧ ∀ n, ∀ (s3 s7 : Int) (w_1 : World), I n [.U s3, .I s7] w_1 → cond (decide (s7 <
  (q0.size : Int))) (chk (decide (0 ≤ s7) && decide (s7 < (q0.size : Int))) (Lt ((bits .xor .u32 s3 (IntKind.wrap .u32 (sbyte q0 s7))) : Int) fun s3_1 => (∃ I_1 : Nat → List Value → World → Prop, (∃
  n_1, I_1 n_1 [.U s3_1, .I 0] w_1) ∧ ∀ n_1, ∀ (s3_2 s16 : Int) (w_2 : World), I_1 n_1 [.U s3_2, .I s16] w_2 → cond (decide (s16 < 8)) (Lt ((bits .xor .u32
  (Int.fdiv s3_2 2) (bits .and .u32 3988292384 (IntKind.wrap .u32 (0 - (bits .and .u32 s3_2 1))))) : Int) fun s3_3 => (∃ m_1, m_1 < n_1 ∧ I_1 m_1 [.U s3_3, .I (W6 (s16 +
  1))] w_2)) ((∃ m, m < n ∧ I m [.U s3_2, .I (W6 (s7 + 1))] w_2))))) (R (.returned (.U (bits .xor .u32 4294967295 s3))) w_1))
theorem v_Sum (q0 : ByteArray) (R : Rt) (w : World) :
  vc Tryz.prog ann_Sum (Tryz.f135.body.getD .skip) (retQ Tryz.prog Tryz.f135.results.toList R) (initFr [.string q0] Tryz.f135.ntmps) w = p_Sum q0 R w := by kernel_rfl
theorem c_Sum (q0 : ByteArray) (R : Rt) (w : World) (h : p_Sum q0 R w) : Calls Tryz.prog 135 #[.string q0] w R :=
  calls_by ann_Sum Tryz.func135 rfl (v_Sum q0 R w) h
abbrev O_Sum := Int
noncomputable def f_Sum (q0 : ByteArray) : Option O_Sum :=
  (loopO (fun (s : (Int × Int)) => match s with | (s3, s7) => ((cond (decide (s7 < (q0.size : Int))) (cond ((decide (0 ≤ s7) && decide (s7 < (q0.size : Int)))) (Let ((bits .xor .u32 s3 (IntKind.wrap .u32 (sbyte q0 s7))) : Int) fun s3_1 => (loopO (fun (s : (Int × Int)) => match s with | (s3_2, s16) => ((cond (decide (s16 < 8)) (Let ((bits .xor .u32 (Int.fdiv s3_2 2) (bits .and .u32 3988292384 (IntKind.wrap .u32 (0 - (bits .and .u32 s3_2 1))))) : Int) fun s3_3 => (some (.inl (s3_3, (IntKind.wrap .i64 (s16 + 1)))))) (some (.inr (.inl (s3_2, (IntKind.wrap .i64 (s7 + 1))))))) : Option ((Int × Int) ⊕ ((Int × Int) ⊕ O_Sum)))) (s3_1, 0))) none) (some (.inr (bits .xor .u32 4294967295 s3)))) : Option ((Int × Int) ⊕ O_Sum))) (4294967295, 0))
def o_Sum (q0 : ByteArray) (w0 : World) : O_Sum → Rt
  | r0, e, w => e = .returned (.U r0) ∧ Dr w0 w
theorem tq_Sum {q0 : ByteArray} {r : O_Sum} (hf : f_Sum q0 = some r) (w0 : World) : Calls Tryz.prog 135 #[.string q0] w0 (o_Sum q0 w0 r) := by
  apply c_Sum
  unfold p_Sum
  unfold f_Sum at hf
  have n0 : Dr w0 w0 := Dr.refl _
  exact (
  loopF hf fun It1 t2 h3 => ⟨fun nI vsI wI => match vsI with | [.U s3, .I s7] => Dr w0 wI ∧ It1 nI (s3, s7) | _ => False, (h3.elim fun n34 i33 => ⟨n34, ⟨n0, i33⟩⟩), fun n s3 s7 w_1 ⟨n7, t8⟩ => (t2 _ _ t8).elim fun x4 ⟨h5, t6⟩ => condF h5 (fun c9 h10 => chkF h10 fun c11 h12 => LetF h12 fun s3_1 h13 => loopF h13 fun It14 t15 h16 => ⟨fun nI vsI wI => match vsI with | [.U s3_2, .I s16] => Dr w0 wI ∧ It14 nI (s3_2, s16) | _ => False, (h16.elim fun n31 i30 => ⟨n31, ⟨n7, i30⟩⟩), fun n_1 s3_2 s16 w_2 ⟨n20, t21⟩ => (t15 _ _ t21).elim fun x17 ⟨h18, t19⟩ => condF h18 (fun c22 h23 => LetF h23 fun s3_3 h24 => (loopCont h24 t19).elim fun m25 i26 => ⟨m25, i26.1, ⟨n20, i26.2⟩⟩) (fun c22 h27 => (loopCont (loopExit h27 t19) t6).elim fun m28 i29 => ⟨m28, i29.1, ⟨n20, i29.2⟩⟩)⟩) (fun c9 h32 => leafX (x := (bits .xor .u32 4294967295 s3)) (o_Sum _ w0) (.returned (.U (bits .xor .u32 4294967295 s3))) w_1 (loopExit h32 t6) ⟨rfl, n7⟩)⟩)
def ann_four : Ann := ⟨[], [], []⟩
def p_four (q0 : Int) (R : Rt) (w : World) : Prop :=
  Nw w (.cells #[.int .u8 (IntKind.wrap .u8 q0), .int .u8 (IntKind.wrap .u8 (Int.fdiv q0 256)), .int .u8 (IntKind.wrap .u8 (Int.fdiv q0 65536)), .int .u8 (IntKind.wrap .u8 (Int.fdiv q0 16777216))] 5)
  fun b w_1 => (∃ (x15 : ByteArray), ∃ w_2, (Go.convert 88 9 (.slice (some ⟨b, 0, none⟩) 4 4)).run Tryz.prog w_1 = .ok (.string x15) w_2 ∧ R (.returned (.string x15)) w_2)
theorem v_four (q0 : Int) (R : Rt) (w : World) :
  vc Tryz.prog ann_four (Tryz.f134.body.getD .skip) (retQ Tryz.prog Tryz.f134.results.toList R) (initFr [.U q0] Tryz.f134.ntmps) w = p_four q0 R w := by kernel_rfl
theorem c_four (q0 : Int) (R : Rt) (w : World) (h : p_four q0 R w) : Calls Tryz.prog 134 #[.U q0] w R :=
  calls_by ann_four Tryz.func134 rfl (v_four q0 R w) h
abbrev O_four := ByteArray
noncomputable def f_four (q0 : Int) : Option O_four :=
  (cond (bytesIn [(IntKind.wrap .u8 q0), (IntKind.wrap .u8 (Int.fdiv q0 256)), (IntKind.wrap .u8 (Int.fdiv q0 65536)), (IntKind.wrap .u8 (Int.fdiv q0 16777216))]) (some (strOf [(IntKind.wrap .u8 q0), (IntKind.wrap .u8 (Int.fdiv q0 256)), (IntKind.wrap .u8 (Int.fdiv q0 65536)), (IntKind.wrap .u8 (Int.fdiv q0 16777216))])) none)
def o_four (q0 : Int) (w0 : World) : O_four → Rt
  | r0, e, w => e = .returned (.string r0) ∧ Now (Foot []) w0 w []
theorem t_four {q0 : Int} {w0 : World} {r : O_four} (hf : f_four q0 = some r) (hp : Hp w0 []) : Calls Tryz.prog 134 #[.U q0] w0 (o_four q0 w0 r) := by
  apply c_four q0
  unfold p_four
  unfold f_four at hf
  let oo := o_four q0 w0
  have n0 : Now (Foot []) w0 w0 [] := Now.start hp
  exact (
  n0.Nw (cs := [.int .u8 (IntKind.wrap .u8 q0), .int .u8 (IntKind.wrap .u8 (Int.fdiv q0 256)), .int .u8 (IntKind.wrap .u8 (Int.fdiv q0 65536)), .int .u8 (IntKind.wrap .u8 (Int.fdiv q0 16777216))]) fun b w_1 n1 => chkE hf fun c2 h3 => ⟨strOf [(IntKind.wrap .u8 q0), (IntKind.wrap .u8 (Int.fdiv q0 256)), (IntKind.wrap .u8 (Int.fdiv q0 65536)), (IntKind.wrap .u8 (Int.fdiv q0 16777216))], _, toStr (box_reads (E := elI .u8) (xs := [(IntKind.wrap .u8 q0), (IntKind.wrap .u8 (Int.fdiv q0 256)), (IntKind.wrap .u8 (Int.fdiv q0 65536)), (IntKind.wrap .u8 (Int.fdiv q0 16777216))]) n1.hp.1 rfl) c2 rfl Tryz.underlying88 Tryz.underlying5 Tryz.underlying9, have n4 := n1.takeN 0; leafX oo (.returned (.string (strOf [(IntKind.wrap .u8 q0), (IntKind.wrap .u8 (Int.fdiv q0 256)), (IntKind.wrap .u8 (Int.fdiv q0 65536)), (IntKind.wrap .u8 (Int.fdiv q0 16777216))]))) w_1 h3 ⟨rfl, n4⟩⟩)
def ann_num : Ann := ⟨[], [], []⟩
def p_num (q0 : ByteArray) (R : Rt) (w : World) : Prop :=
  chk (decide (0 ≤ (0 : Int)) && decide ((0 : Int) < (q0.size : Int))) (chk (decide (0 ≤ (1 : Int)) && decide ((1 : Int) < (q0.size : Int))) (chk (decide (0 ≤ (2 : Int)) && decide ((2 : Int) <
  (q0.size : Int))) (chk (decide (0 ≤ (3 : Int)) && decide ((3 : Int) < (q0.size : Int))) (Lt ((bits .or .u32 (bits .or .u32 (bits .or .u32 (IntKind.wrap .u32 (sbyte q0 0)) (IntKind.wrap .u32
  ((IntKind.wrap .u32 (sbyte q0 1)) * 256))) (IntKind.wrap .u32 ((IntKind.wrap .u32 (sbyte q0 2)) * 65536))) (IntKind.wrap .u32 ((IntKind.wrap .u32 (sbyte q0 3)) * 16777216))) : Int) fun s2 => (∀ n, R
  (.returned (.U s2)) (w.drewN n))))))
theorem v_num (q0 : ByteArray) (R : Rt) (w : World) :
  vc Tryz.prog ann_num (Tryz.f136.body.getD .skip) (retQ Tryz.prog Tryz.f136.results.toList R) (initFr [.string q0] Tryz.f136.ntmps) w = p_num q0 R w := by kernel_rfl
theorem c_num (q0 : ByteArray) (R : Rt) (w : World) (h : p_num q0 R w) : Calls Tryz.prog 136 #[.string q0] w R :=
  calls_by ann_num Tryz.func136 rfl (v_num q0 R w) h
abbrev O_num := Int
noncomputable def f_num (q0 : ByteArray) : Option O_num :=
  (cond ((decide (0 ≤ (0 : Int)) && decide ((0 : Int) < (q0.size : Int)))) (cond ((decide (0 ≤ (1 : Int)) && decide ((1 : Int) < (q0.size : Int)))) (cond ((decide (0 ≤ (2 : Int)) && decide ((2 : Int) < (q0.size : Int)))) (cond ((decide (0 ≤ (3 : Int)) && decide ((3 : Int) < (q0.size : Int)))) (Let ((bits .or .u32 (bits .or .u32 (bits .or .u32 (IntKind.wrap .u32 (sbyte q0 0)) (IntKind.wrap .u32 ((IntKind.wrap .u32 (sbyte q0 1)) * 256))) (IntKind.wrap .u32 ((IntKind.wrap .u32 (sbyte q0 2)) * 65536))) (IntKind.wrap .u32 ((IntKind.wrap .u32 (sbyte q0 3)) * 16777216))) : Int) fun s2 => (some s2)) none) none) none) none)
def o_num (q0 : ByteArray) (w0 : World) : O_num → Rt
  | r0, e, w => e = .returned (.U r0) ∧ Dr w0 w
theorem tq_num {q0 : ByteArray} {r : O_num} (hf : f_num q0 = some r) (w0 : World) : Calls Tryz.prog 136 #[.string q0] w0 (o_num q0 w0 r) := by
  apply c_num
  unfold p_num
  unfold f_num at hf
  have n0 : Dr w0 w0 := Dr.refl _
  exact (
  chkF hf fun c1 h2 => chkF h2 fun c3 h4 => chkF h4 fun c5 h6 => chkF h6 fun c7 h8 => LetF h8 fun s2 h9 => fun n => have n10 := n0.draw n; leafF (α := O_num) (x := s2) (G := fun r => o_num _ w0 r (.returned (.U s2)) (w0.drewN n)) h9 ⟨rfl, n10⟩)
def ann_join : Ann := ⟨[], [], []⟩
def p_join (q0 : Pa) (q0n q0c : Nat) (R : Rt) (w : World) : Prop :=
  (Calls Tryz.prog 141 #[.slice q0 q0n q0c, .string (ByteArray.mk #[])] w fun e w_1 => ∃ (x4 : ByteArray), e = .returned (.string x4) ∧ R (.returned (.string x4)) w_1)
theorem v_join (q0 : Pa) (q0n q0c : Nat) (R : Rt) (w : World) :
  vc Tryz.prog ann_join (Tryz.f133.body.getD .skip) (retQ Tryz.prog Tryz.f133.results.toList R) (initFr [.slice q0 q0n q0c] Tryz.f133.ntmps) w = p_join q0 q0n q0c R w := by kernel_rfl
theorem c_join (q0 : Pa) (q0n q0c : Nat) (R : Rt) (w : World) (h : p_join q0 q0n q0c R w) : Calls Tryz.prog 133 #[.slice q0 q0n q0c] w R :=
  calls_by ann_join Tryz.func133 rfl (v_join q0 q0n q0c R w) h
abbrev O_join := ByteArray
noncomputable def f_join (q0x : List ByteArray) : Option O_join :=
  ((f_Join q0x (ByteArray.mk #[])).bind fun (x4 : O_Join) => (some x4))
def o_join (q0 : Pa) (q0c : Nat) (q0x : List ByteArray) (w0 : World) : O_join → Rt
  | r0, e, w => e = .returned (.string r0) ∧ Now (Foot [arr elS q0 q0c q0x]) w0 w [arr elS q0 q0c q0x]
theorem t_join {q0 : Option Addr} {q0c q0n : Nat} {q0x : List ByteArray} {w0 : World} {r : O_join} (hf : f_join q0x = some r) (hp : Hp w0 [arr elS q0 q0c q0x]) (q0nN : q0n = q0x.length) : Calls Tryz.prog 133 #[.slice q0 q0n q0c] w0 (o_join q0 q0c q0x w0 r) := by
  subst q0nN
  apply c_join q0 q0x.length q0c
  unfold p_join
  unfold f_join at hf
  let oo := o_join q0 q0c q0x w0
  have n0 : Now (Foot [arr elS q0 q0c q0x]) w0 w0 [arr elS q0 q0c q0x] := Now.start hp
  exact (
  bindF hf (fun x4 h1 h3 => (t_Join h1 (n0.take [_]) rfl).mono fun _ w_1 ⟨e4, n5⟩ => ⟨x4, e4, have n2 := n0.call [_] n5; leafX oo (.returned (.string x4)) w_1 h3 ⟨rfl, n2⟩⟩))
def ann_Wrap : Ann := ⟨[(3, .phased [1, 5, 6, 11, 12, 13])], [], []⟩
def p_Wrap (q0 : Int) (q1 : ByteArray) (R : Rt) (w : World) : Prop :=
  cond (decide ((q1.size : Int) > 51)) (R (.returned (.tuple #[.string (ByteArray.mk #[]), .I 2])) w) ((∃ S : World → Prop, S (w.drewN 1) ∧ (((Calls Tryz.prog 134 #[.U q0] (w.drewN 1)
  fun e w_1 => ∃ (x11 : ByteArray), e = .returned (.string x11) ∧ (S w_1 ∧ ((Nw w_1 (.cells #[.int .u8 (IntKind.wrap .u8 (q1.size : Int))] 5) fun b w_2 => (S w_2 ∧ (((∃ (x16 : ByteArray), ∃ w_3,
  (Go.convert 88 9 (.slice (some ⟨b, 0, none⟩) 1 1)).run Tryz.prog w_2 = .ok (.string x16) w_3 ∧ (S w_3 ∧ (Calls Tryz.prog 75 #[.string (ByteArray.mk #[0]), .I (W6 (51 - (q1.size
  : Int)))] w_3 fun e w_4 => ∃ (x21 : ByteArray), e = .returned (.string x21) ∧ (S w_4 ∧ Nw w_4 (.cells #[.string x11, .string x16, .string q1, .string x21] 9) fun b_1 w_5 => (S w_5 ∧ (Calls Tryz.prog
  133 #[.slice (some ⟨b_1, 0, none⟩) 4 4] w_5 fun e w_6 => ∃ (x23 : ByteArray), e = .returned (.string x23) ∧ (S w_6 ∧ (Calls Tryz.prog 135 #[.string x23] w_6 fun e w_7 => ∃ (x26 : Int), e = .returned
  (.U x26) ∧ (Calls Tryz.prog 134 #[.U x26] w_7 fun e w_8 => ∃ (x27 : ByteArray), e = .returned (.string x27) ∧ (Calls Tryz.prog 134 #[.U q0] w_8 fun e w_9 => ∃ (x29 : ByteArray),
  e = .returned (.string x29) ∧ Nw w_9 (.cells #[.string x23, .string x27, .string x29] 9) fun b_2 w_10 => (Calls Tryz.prog 133 #[.slice (some ⟨b_2, 0, none⟩) 3 3] w_10 fun e w_11 => ∃ (x31 :
  ByteArray), e = .returned (.string x31) ∧ R (.returned (.tuple #[.string x31, .I 0])) w_11)))))))))))) ∧ ((Calls Tryz.prog 75 #[.string (ByteArray.mk #[0]), .I (W6 (51 -
  (q1.size : Int)))] w_2 fun e w_12 => ∃ (x21_1 : ByteArray), e = .returned (.string x21_1) ∧ (S w_12 ∧ (∃ (x16_1 : ByteArray), ∃ w_13, (Go.convert 88 9 (.slice (some ⟨b, 0, none⟩) 1 1)).run Tryz.prog
  w_12 = .ok (.string x16_1) w_13 ∧ (S w_13 ∧ Nw w_13 (.cells #[.string x11, .string x16_1, .string q1, .string x21_1] 9) fun b_3 w_14 => (S w_14 ∧ (Calls Tryz.prog 133 #[.slice (some ⟨b_3, 0, none⟩)
  4 4] w_14 fun e w_15 => ∃ (x23_1 : ByteArray), e = .returned (.string x23_1) ∧ (S w_15 ∧ (Calls Tryz.prog 135 #[.string x23_1] w_15 fun e w_16 => ∃ (x26_1 : Int), e = .returned (.U x26_1) ∧
  (Calls Tryz.prog 134 #[.U x26_1] w_16 fun e w_17 => ∃ (x27_1 : ByteArray), e = .returned (.string x27_1) ∧ (Calls Tryz.prog 134 #[.U q0] w_17 fun e w_18 => ∃ (x29_1 : ByteArray), e =
  .returned (.string x29_1) ∧ Nw w_18 (.cells #[.string x23_1, .string x27_1, .string x29_1] 9) fun b_4 w_19 => (Calls Tryz.prog 133 #[.slice (some ⟨b_4, 0, none⟩) 3 3] w_19 fun e w_20 => ∃ (x31_1 :
  ByteArray), e = .returned (.string x31_1) ∧ R (.returned (.tuple #[.string x31_1, .I 0])) w_20))))))))))))))) ∧ ((Calls Tryz.prog 75 #[.string (ByteArray.mk #[0]), .I (IntKind.wrap
  .i64 (51 - (q1.size : Int)))] w_1 fun e w_21 => ∃ (x21_2 : ByteArray), e = .returned (.string x21_2) ∧ (S w_21 ∧ Nw w_21 (.cells #[.int .u8 (IntKind.wrap .u8 (q1.size : Int))] 5) fun b_5 w_22 => (S
  w_22 ∧ (∃ (x16_2 : ByteArray), ∃ w_23, (Go.convert 88 9 (.slice (some ⟨b_5, 0, none⟩) 1 1)).run Tryz.prog w_22 = .ok (.string x16_2) w_23 ∧ (S w_23 ∧ Nw w_23 (.cells #[.string x11, .string x16_2,
  .string q1, .string x21_2] 9) fun b_6 w_24 => (S w_24 ∧ (Calls Tryz.prog 133 #[.slice (some ⟨b_6, 0, none⟩) 4 4] w_24 fun e w_25 => ∃ (x23_2 : ByteArray), e = .returned (.string x23_2) ∧ (S w_25 ∧
  (Calls Tryz.prog 135 #[.string x23_2] w_25 fun e w_26 => ∃ (x26_2 : Int), e = .returned (.U x26_2) ∧ (Calls Tryz.prog 134 #[.U x26_2] w_26 fun e w_27 => ∃ (x27_2 : ByteArray), e =
  .returned (.string x27_2) ∧ (Calls Tryz.prog 134 #[.U q0] w_27 fun e w_28 => ∃ (x29_2 : ByteArray), e = .returned (.string x29_2) ∧ Nw w_28 (.cells #[.string x23_2, .string x27_2, .string
  x29_2] 9) fun b_7 w_29 => (Calls Tryz.prog 133 #[.slice (some ⟨b_7, 0, none⟩) 3 3] w_29 fun e w_30 => ∃ (x31_2 : ByteArray), e = .returned (.string x31_2) ∧ R (.returned (.tuple #[.string x31_2,
  .I 0])) w_30))))))))))))))))) ∧ (Nw (w.drewN 1) (.cells #[.int .u8 (IntKind.wrap .u8 (q1.size : Int))] 5) fun b_8 w_31 => (S w_31 ∧ (((Calls Tryz.prog 134 #[.U q0] w_31 fun e w_32 => ∃
  (x11_1 : ByteArray), e = .returned (.string x11_1) ∧ (S w_32 ∧ (((∃ (x16_3 : ByteArray), ∃ w_33, (Go.convert 88 9 (.slice (some ⟨b_8, 0, none⟩) 1 1)).run Tryz.prog w_32 = .ok (.string x16_3) w_33 ∧
  (S w_33 ∧ (Calls Tryz.prog 75 #[.string (ByteArray.mk #[0]), .I (W6 (51 - (q1.size : Int)))] w_33 fun e w_34 => ∃ (x21_3 : ByteArray), e = .returned (.string x21_3) ∧ (S w_34 ∧
  Nw w_34 (.cells #[.string x11_1, .string x16_3, .string q1, .string x21_3] 9) fun b_9 w_35 => (S w_35 ∧ (Calls Tryz.prog 133 #[.slice (some ⟨b_9, 0, none⟩) 4 4] w_35 fun e w_36 => ∃ (x23_3 :
  ByteArray), e = .returned (.string x23_3) ∧ (S w_36 ∧ (Calls Tryz.prog 135 #[.string x23_3] w_36 fun e w_37 => ∃ (x26_3 : Int), e = .returned (.U x26_3) ∧ (Calls Tryz.prog 134 #[.U x26_3] w_37 fun e w_38 => ∃ (x27_3 : ByteArray), e = .returned (.string x27_3) ∧ (Calls Tryz.prog 134 #[.U q0] w_38 fun e w_39 => ∃ (x29_3 : ByteArray), e = .returned (.string x29_3) ∧ Nw
  w_39 (.cells #[.string x23_3, .string x27_3, .string x29_3] 9) fun b_10 w_40 => (Calls Tryz.prog 133 #[.slice (some ⟨b_10, 0, none⟩) 3 3] w_40 fun e w_41 => ∃ (x31_3 : ByteArray), e = .returned
  (.string x31_3) ∧ R (.returned (.tuple #[.string x31_3, .I 0])) w_41)))))))))))) ∧ ((Calls Tryz.prog 75 #[.string (ByteArray.mk #[0]), .I (W6 (51 - (q1.size : Int)))]
  w_32 fun e w_42 => ∃ (x21_4 : ByteArray), e = .returned (.string x21_4) ∧ (S w_42 ∧ (∃ (x16_4 : ByteArray), ∃ w_43, (Go.convert 88 9 (.slice (some ⟨b_8, 0, none⟩) 1 1)).run Tryz.prog w_42 = .ok
  (.string x16_4) w_43 ∧ (S w_43 ∧ Nw w_43 (.cells #[.string x11_1, .string x16_4, .string q1, .string x21_4] 9) fun b_11 w_44 => (S w_44 ∧ (Calls Tryz.prog 133 #[.slice (some ⟨b_11, 0, none⟩) 4 4]
  w_44 fun e w_45 => ∃ (x23_4 : ByteArray), e = .returned (.string x23_4) ∧ (S w_45 ∧ (Calls Tryz.prog 135 #[.string x23_4] w_45 fun e w_46 => ∃ (x26_4 : Int), e = .returned (.U x26_4) ∧ (Calls
  Tryz.prog 134 #[.U x26_4] w_46 fun e w_47 => ∃ (x27_4 : ByteArray), e = .returned (.string x27_4) ∧ (Calls Tryz.prog 134 #[.U q0] w_47 fun e w_48 => ∃ (x29_4 : ByteArray), e =
  .returned (.string x29_4) ∧ Nw w_48 (.cells #[.string x23_4, .string x27_4, .string x29_4] 9) fun b_12 w_49 => (Calls Tryz.prog 133 #[.slice (some ⟨b_12, 0, none⟩) 3 3] w_49 fun e w_50 => ∃ (x31_4 :
  ByteArray), e = .returned (.string x31_4) ∧ R (.returned (.tuple #[.string x31_4, .I 0])) w_50)))))))))))))))) ∧ ((∃ (x16_5 : ByteArray), ∃ w_51, (Go.convert 88 9 (.slice (some ⟨b_8, 0,
  none⟩) 1 1)).run Tryz.prog w_31 = .ok (.string x16_5) w_51 ∧ (S w_51 ∧ (Calls Tryz.prog 134 #[.U q0] w_51 fun e w_52 => ∃ (x11_2 : ByteArray), e = .returned (.string x11_2) ∧ (S w_52 ∧ (Calls
  Tryz.prog 75 #[.string (ByteArray.mk #[0]), .I (W6 (51 - (q1.size : Int)))] w_52 fun e w_53 => ∃ (x21_5 : ByteArray), e = .returned (.string x21_5) ∧ (S w_53 ∧ Nw w_53 (.cells
  #[.string x11_2, .string x16_5, .string q1, .string x21_5] 9) fun b_13 w_54 => (S w_54 ∧ (Calls Tryz.prog 133 #[.slice (some ⟨b_13, 0, none⟩) 4 4] w_54 fun e w_55 => ∃ (x23_5 : ByteArray), e =
  .returned (.string x23_5) ∧ (S w_55 ∧ (Calls Tryz.prog 135 #[.string x23_5] w_55 fun e w_56 => ∃ (x26_5 : Int), e = .returned (.U x26_5) ∧ (Calls Tryz.prog 134 #[.U x26_5] w_56 fun e
  w_57 => ∃ (x27_5 : ByteArray), e = .returned (.string x27_5) ∧ (Calls Tryz.prog 134 #[.U q0] w_57 fun e w_58 => ∃ (x29_5 : ByteArray), e = .returned (.string x29_5) ∧ Nw w_58 (.cells
  #[.string x23_5, .string x27_5, .string x29_5] 9) fun b_14 w_59 => (Calls Tryz.prog 133 #[.slice (some ⟨b_14, 0, none⟩) 3 3] w_59 fun e w_60 => ∃ (x31_5 : ByteArray), e = .returned (.string x31_5) ∧
  R (.returned (.tuple #[.string x31_5, .I 0])) w_60))))))))))))))))))))
theorem v_Wrap (q0 : Int) (q1 : ByteArray) (R : Rt) (w : World) :
  vc Tryz.prog ann_Wrap (Tryz.f117.body.getD .skip) (retQ Tryz.prog Tryz.f117.results.toList R) (initFr [.U q0, .string q1] Tryz.f117.ntmps) w = p_Wrap q0 q1 R w := by kernel_rfl
theorem c_Wrap (q0 : Int) (q1 : ByteArray) (R : Rt) (w : World) (h : p_Wrap q0 q1 R w) : Calls Tryz.prog 117 #[.U q0, .string q1] w R :=
  calls_by ann_Wrap Tryz.func117 rfl (v_Wrap q0 q1 R w) h
abbrev O_Wrap := (ByteArray × Int)
noncomputable def f_Wrap (q0 : Int) (q1 : ByteArray) : Option O_Wrap :=
  (cond (decide ((q1.size : Int) > 51)) (some ((ByteArray.mk #[]), 2)) ((f_four q0).bind fun (x11 : O_four) => (cond (bytesIn [(IntKind.wrap .u8 (q1.size : Int))]) ((f_Repeat (ByteArray.mk #[0]) (IntKind.wrap .i64 (51 - (q1.size : Int)))).bind fun (x21 : O_Repeat) => ((f_join ([x11, (strOf [(IntKind.wrap .u8 (q1.size : Int))]), q1, x21] : List ByteArray)).bind fun (x23 : O_join) => ((f_Sum x23).bind fun (x26_5 : O_Sum) => ((f_four x26_5).bind fun (x27_5 : O_four) => ((f_four q0).bind fun (x29_5 : O_four) => ((f_join ([x23, x27_5, x29_5] : List ByteArray)).bind fun (x31_5 : O_join) => (some (x31_5, 0)))))))) none)))
def o_Wrap (q0 : Int) (q1 : ByteArray) (w0 : World) : O_Wrap → Rt
  | (r0, r1), e, w => e = .returned (.tuple #[.string r0, .I r1]) ∧ Now (Foot []) w0 w []
theorem t_Wrap {q0 : Int} {q1 : ByteArray} {w0 : World} {r : O_Wrap} (hf : f_Wrap q0 q1 = some r) (hp : Hp w0 []) : Calls Tryz.prog 117 #[.U q0, .string q1] w0 (o_Wrap q0 q1 w0 r) := by
  apply c_Wrap q0 q1
  unfold p_Wrap
  unfold f_Wrap at hf
  let oo := o_Wrap q0 q1 w0
  have n0 : Now (Foot []) w0 w0 [] := Now.start hp
  exact (
  condF hf (fun c1 h2 => leafX oo (.returned (.tuple #[.string (ByteArray.mk #[]), .I 2])) w0 h2 ⟨rfl, n0⟩) (fun c1 h3 => have n4 := n0.drewN 1; bindF h3 (fun x11 h5 h7 => chkE h7 fun c11 h12 => bindF h12 (fun x21 h13 h15 => bindF h15 (fun x23 h20 h22 => ⟨fun w2 => True, trivial, ⟨(t_four h5 (n4.take [])).mono fun _ w_1 ⟨e28, n29⟩ => ⟨x11, e28, have n26 := n4.call [] n29; ⟨trivial, ⟨n26.Nw (cs := [.int .u8 (IntKind.wrap .u8 (q1.size : Int))]) fun b w_2 n30 => ⟨trivial, ⟨⟨strOf [(IntKind.wrap .u8 (q1.size : Int))], _, toStr (box_reads (E := elI .u8) (xs := [(IntKind.wrap .u8 (q1.size : Int))]) n30.hp.1 rfl) c11 rfl Tryz.underlying88 Tryz.underlying5 Tryz.underlying9, ⟨trivial, (t_Repeat h13 (n30.take [])).mono fun _ w_4 ⟨e36, n37⟩ => ⟨x21, e36, have n34 := n30.call [] n37; ⟨trivial, n34.Nw (cs := [.string x11, .string (strOf [(IntKind.wrap .u8 (q1.size : Int))]), .string q1, .string x21]) fun b_1 w_5 n38 => ⟨trivial, have n39 := n38.boxArr elS ([x11, (strOf [(IntKind.wrap .u8 (q1.size : Int))]), q1, x21] : List ByteArray) rfl (Nat.le_of_ble_eq_true rfl); (t_join h20 (n39.take [_]) rfl).mono fun _ w_6 ⟨e43, n44⟩ => ⟨x23, e43, have n41 := n39.call [_] n44; ⟨trivial, bindF h22 (fun x26 h45 h47 => (tq_Sum h45 _).mono fun _ w_7 ⟨e48, d68⟩ => ⟨x26, e48, have n46 := n41.pass d68.chg; bindF h47 (fun x27 h50 h52 => (t_four h50 (n46.take [])).mono fun _ w_8 ⟨e53, n54⟩ => ⟨x27, e53, have n51 := n46.call [] n54; bindF h52 (fun x29 h55 h57 => (t_four h55 (n51.take [])).mono fun _ w_9 ⟨e58, n59⟩ => ⟨x29, e58, have n56 := n51.call [] n59; n56.Nw (cs := [.string x23, .string x27, .string x29]) fun b_2 w_10 n60 => have n61 := n60.boxArr elS ([x23, x27, x29] : List ByteArray) rfl (Nat.le_of_ble_eq_true rfl); bindF h57 (fun x31 h62 h64 => (t_join h62 (n61.take [_]) rfl).mono fun _ w_11 ⟨e65, n66⟩ => ⟨x31, e65, have n63 := n61.call [_] n66; have n67 := n63.takeN 0; leafX oo (.returned (.tuple #[.string x31, .I 0])) w_11 h64 ⟨rfl, n67⟩⟩)⟩)⟩)⟩)⟩⟩⟩⟩⟩⟩⟩, (t_Repeat h13 (n30.take [])).mono fun _ w_12 ⟨e72, n73⟩ => ⟨x21, e72, have n70 := n30.call [] n73; ⟨trivial, ⟨strOf [(IntKind.wrap .u8 (q1.size : Int))], _, toStr (box_reads (E := elI .u8) (xs := [(IntKind.wrap .u8 (q1.size : Int))]) n70.hp.1 rfl) c11 rfl Tryz.underlying88 Tryz.underlying5 Tryz.underlying9, ⟨trivial, n70.Nw (cs := [.string x11, .string (strOf [(IntKind.wrap .u8 (q1.size : Int))]), .string q1, .string x21]) fun b_3 w_14 n76 => ⟨trivial, have n77 := n76.boxArr elS ([x11, (strOf [(IntKind.wrap .u8 (q1.size : Int))]), q1, x21] : List ByteArray) rfl (Nat.le_of_ble_eq_true rfl); (t_join h20 (n77.take [_]) rfl).mono fun _ w_15 ⟨e81, n82⟩ => ⟨x23, e81, have n79 := n77.call [_] n82; ⟨trivial, bindF h22 (fun x26_1 h83 h85 => (tq_Sum h83 _).mono fun _ w_16 ⟨e86, d106⟩ => ⟨x26_1, e86, have n84 := n79.pass d106.chg; bindF h85 (fun x27_1 h88 h90 => (t_four h88 (n84.take [])).mono fun _ w_17 ⟨e91, n92⟩ => ⟨x27_1, e91, have n89 := n84.call [] n92; bindF h90 (fun x29_1 h93 h95 => (t_four h93 (n89.take [])).mono fun _ w_18 ⟨e96, n97⟩ => ⟨x29_1, e96, have n94 := n89.call [] n97; n94.Nw (cs := [.string x23, .string x27_1, .string x29_1]) fun b_4 w_19 n98 => have n99 := n98.boxArr elS ([x23, x27_1, x29_1] : List ByteArray) rfl (Nat.le_of_ble_eq_true rfl); bindF h95 (fun x31_1 h100 h102 => (t_join h100 (n99.take [_]) rfl).mono fun _ w_20 ⟨e103, n104⟩ => ⟨x31_1, e103, have n101 := n99.call [_] n104; have n105 := n101.takeN 0; leafX oo (.returned (.tuple #[.string x31_1, .I 0])) w_20 h102 ⟨rfl, n105⟩⟩)⟩)⟩)⟩)⟩⟩⟩⟩⟩⟩⟩⟩⟩, (t_Repeat h13 (n26.take [])).mono fun _ w_21 ⟨e110, n111⟩ => ⟨x21, e110, have n108 := n26.call [] n111; ⟨trivial, n108.Nw (cs := [.int .u8 (IntKind.wrap .u8 (q1.size : Int))]) fun b_5 w_22 n112 => ⟨trivial, ⟨strOf [(IntKind.wrap .u8 (q1.size : Int))], _, toStr (box_reads (E := elI .u8) (xs := [(IntKind.wrap .u8 (q1.size : Int))]) n112.hp.1 rfl) c11 rfl Tryz.underlying88 Tryz.underlying5 Tryz.underlying9, ⟨trivial, n112.Nw (cs := [.string x11, .string (strOf [(IntKind.wrap .u8 (q1.size : Int))]), .string q1, .string x21]) fun b_6 w_24 n115 => ⟨trivial, have n116 := n115.boxArr elS ([x11, (strOf [(IntKind.wrap .u8 (q1.size : Int))]), q1, x21] : List ByteArray) rfl (Nat.le_of_ble_eq_true rfl); (t_join h20 (n116.take [_]) rfl).mono fun _ w_25 ⟨e120, n121⟩ => ⟨x23, e120, have n118 := n116.call [_] n121; ⟨trivial, bindF h22 (fun x26_2 h122 h124 => (tq_Sum h122 _).mono fun _ w_26 ⟨e125, d145⟩ => ⟨x26_2, e125, have n123 := n118.pass d145.chg; bindF h124 (fun x27_2 h127 h129 => (t_four h127 (n123.take [])).mono fun _ w_27 ⟨e130, n131⟩ => ⟨x27_2, e130, have n128 := n123.call [] n131; bindF h129 (fun x29_2 h132 h134 => (t_four h132 (n128.take [])).mono fun _ w_28 ⟨e135, n136⟩ => ⟨x29_2, e135, have n133 := n128.call [] n136; n133.Nw (cs := [.string x23, .string x27_2, .string x29_2]) fun b_7 w_29 n137 => have n138 := n137.boxArr elS ([x23, x27_2, x29_2] : List ByteArray) rfl (Nat.le_of_ble_eq_true rfl); bindF h134 (fun x31_2 h139 h141 => (t_join h139 (n138.take [_]) rfl).mono fun _ w_30 ⟨e142, n143⟩ => ⟨x31_2, e142, have n140 := n138.call [_] n143; have n144 := n140.takeN 0; leafX oo (.returned (.tuple #[.string x31_2, .I 0])) w_30 h141 ⟨rfl, n144⟩⟩)⟩)⟩)⟩)⟩⟩⟩⟩⟩⟩⟩⟩⟩⟩⟩, n4.Nw (cs := [.int .u8 (IntKind.wrap .u8 (q1.size : Int))]) fun b_8 w_31 n146 => ⟨trivial, ⟨(t_four h5 (n146.take [])).mono fun _ w_32 ⟨e150, n151⟩ => ⟨x11, e150, have n148 := n146.call [] n151; ⟨trivial, ⟨⟨strOf [(IntKind.wrap .u8 (q1.size : Int))], _, toStr (box_reads (E := elI .u8) (xs := [(IntKind.wrap .u8 (q1.size : Int))]) n148.hp.1 rfl) c11 rfl Tryz.underlying88 Tryz.underlying5 Tryz.underlying9, ⟨trivial, (t_Repeat h13 (n148.take [])).mono fun _ w_34 ⟨e157, n158⟩ => ⟨x21, e157, have n155 := n148.call [] n158; ⟨trivial, n155.Nw (cs := [.string x11, .string (strOf [(IntKind.wrap .u8 (q1.size : Int))]), .string q1, .string x21]) fun b_9 w_35 n159 => ⟨trivial, have n160 := n159.boxArr elS ([x11, (strOf [(IntKind.wrap .u8 (q1.size : Int))]), q1, x21] : List ByteArray) rfl (Nat.le_of_ble_eq_true rfl); (t_join h20 (n160.take [_]) rfl).mono fun _ w_36 ⟨e164, n165⟩ => ⟨x23, e164, have n162 := n160.call [_] n165; ⟨trivial, bindF h22 (fun x26_3 h166 h168 => (tq_Sum h166 _).mono fun _ w_37 ⟨e169, d189⟩ => ⟨x26_3, e169, have n167 := n162.pass d189.chg; bindF h168 (fun x27_3 h171 h173 => (t_four h171 (n167.take [])).mono fun _ w_38 ⟨e174, n175⟩ => ⟨x27_3, e174, have n172 := n167.call [] n175; bindF h173 (fun x29_3 h176 h178 => (t_four h176 (n172.take [])).mono fun _ w_39 ⟨e179, n180⟩ => ⟨x29_3, e179, have n177 := n172.call [] n180; n177.Nw (cs := [.string x23, .string x27_3, .string x29_3]) fun b_10 w_40 n181 => have n182 := n181.boxArr elS ([x23, x27_3, x29_3] : List ByteArray) rfl (Nat.le_of_ble_eq_true rfl); bindF h178 (fun x31_3 h183 h185 => (t_join h183 (n182.take [_]) rfl).mono fun _ w_41 ⟨e186, n187⟩ => ⟨x31_3, e186, have n184 := n182.call [_] n187; have n188 := n184.takeN 0; leafX oo (.returned (.tuple #[.string x31_3, .I 0])) w_41 h185 ⟨rfl, n188⟩⟩)⟩)⟩)⟩)⟩⟩⟩⟩⟩⟩⟩, (t_Repeat h13 (n148.take [])).mono fun _ w_42 ⟨e193, n194⟩ => ⟨x21, e193, have n191 := n148.call [] n194; ⟨trivial, ⟨strOf [(IntKind.wrap .u8 (q1.size : Int))], _, toStr (box_reads (E := elI .u8) (xs := [(IntKind.wrap .u8 (q1.size : Int))]) n191.hp.1 rfl) c11 rfl Tryz.underlying88 Tryz.underlying5 Tryz.underlying9, ⟨trivial, n191.Nw (cs := [.string x11, .string (strOf [(IntKind.wrap .u8 (q1.size : Int))]), .string q1, .string x21]) fun b_11 w_44 n197 => ⟨trivial, have n198 := n197.boxArr elS ([x11, (strOf [(IntKind.wrap .u8 (q1.size : Int))]), q1, x21] : List ByteArray) rfl (Nat.le_of_ble_eq_true rfl); (t_join h20 (n198.take [_]) rfl).mono fun _ w_45 ⟨e202, n203⟩ => ⟨x23, e202, have n200 := n198.call [_] n203; ⟨trivial, bindF h22 (fun x26_4 h204 h206 => (tq_Sum h204 _).mono fun _ w_46 ⟨e207, d227⟩ => ⟨x26_4, e207, have n205 := n200.pass d227.chg; bindF h206 (fun x27_4 h209 h211 => (t_four h209 (n205.take [])).mono fun _ w_47 ⟨e212, n213⟩ => ⟨x27_4, e212, have n210 := n205.call [] n213; bindF h211 (fun x29_4 h214 h216 => (t_four h214 (n210.take [])).mono fun _ w_48 ⟨e217, n218⟩ => ⟨x29_4, e217, have n215 := n210.call [] n218; n215.Nw (cs := [.string x23, .string x27_4, .string x29_4]) fun b_12 w_49 n219 => have n220 := n219.boxArr elS ([x23, x27_4, x29_4] : List ByteArray) rfl (Nat.le_of_ble_eq_true rfl); bindF h216 (fun x31_4 h221 h223 => (t_join h221 (n220.take [_]) rfl).mono fun _ w_50 ⟨e224, n225⟩ => ⟨x31_4, e224, have n222 := n220.call [_] n225; have n226 := n222.takeN 0; leafX oo (.returned (.tuple #[.string x31_4, .I 0])) w_50 h223 ⟨rfl, n226⟩⟩)⟩)⟩)⟩)⟩⟩⟩⟩⟩⟩⟩⟩⟩⟩, ⟨strOf [(IntKind.wrap .u8 (q1.size : Int))], _, toStr (box_reads (E := elI .u8) (xs := [(IntKind.wrap .u8 (q1.size : Int))]) n146.hp.1 rfl) c11 rfl Tryz.underlying88 Tryz.underlying5 Tryz.underlying9, ⟨trivial, (t_four h5 (n146.take [])).mono fun _ w_52 ⟨e233, n234⟩ => ⟨x11, e233, have n231 := n146.call [] n234; ⟨trivial, (t_Repeat h13 (n231.take [])).mono fun _ w_53 ⟨e238, n239⟩ => ⟨x21, e238, have n236 := n231.call [] n239; ⟨trivial, n236.Nw (cs := [.string x11, .string (strOf [(IntKind.wrap .u8 (q1.size : Int))]), .string q1, .string x21]) fun b_13 w_54 n240 => ⟨trivial, have n241 := n240.boxArr elS ([x11, (strOf [(IntKind.wrap .u8 (q1.size : Int))]), q1, x21] : List ByteArray) rfl (Nat.le_of_ble_eq_true rfl); (t_join h20 (n241.take [_]) rfl).mono fun _ w_55 ⟨e245, n246⟩ => ⟨x23, e245, have n243 := n241.call [_] n246; ⟨trivial, bindF h22 (fun x26_5 h247 h249 => (tq_Sum h247 _).mono fun _ w_56 ⟨e250, d270⟩ => ⟨x26_5, e250, have n248 := n243.pass d270.chg; bindF h249 (fun x27_5 h252 h254 => (t_four h252 (n248.take [])).mono fun _ w_57 ⟨e255, n256⟩ => ⟨x27_5, e255, have n253 := n248.call [] n256; bindF h254 (fun x29_5 h257 h259 => (t_four h257 (n253.take [])).mono fun _ w_58 ⟨e260, n261⟩ => ⟨x29_5, e260, have n258 := n253.call [] n261; n258.Nw (cs := [.string x23, .string x27_5, .string x29_5]) fun b_14 w_59 n262 => have n263 := n262.boxArr elS ([x23, x27_5, x29_5] : List ByteArray) rfl (Nat.le_of_ble_eq_true rfl); bindF h259 (fun x31_5 h264 h266 => (t_join h264 (n263.take [_]) rfl).mono fun _ w_60 ⟨e267, n268⟩ => ⟨x31_5, e267, have n265 := n263.call [_] n268; have n269 := n265.takeN 0; leafX oo (.returned (.tuple #[.string x31_5, .I 0])) w_60 h266 ⟨rfl, n269⟩⟩)⟩)⟩)⟩)⟩⟩⟩⟩⟩⟩⟩⟩⟩⟩⟩⟩⟩)))))
def ann_SOpen : Ann := ⟨[], [], []⟩
def p_SOpen (q0 : ByteArray) (R : Rt) (w : World) : Prop :=
  cond ((q0.size : Int) != 64) (R (.returned (.tuple #[.U 0, .string (ByteArray.mk #[]), .I 30])) w) (chk (decide (0 ≤ (4 : Int)) && decide ((4 : Int) ≤ (q0.size : Int))) (chk (decide (0
  ≤ (0 : Int)) && decide ((0 : Int) ≤ (4 : Int))) (chk (decide (0 ≤ (q0.size : Int)) && decide ((q0.size : Int) ≤ (q0.size : Int))) (chk (decide (0 ≤ (60 : Int)) && decide ((60 : Int) ≤ (q0.size :
  Int))) (Lt (!((q0.extract 0 4).toList == (q0.extract 60 q0.size).toList) : Bool) fun s10 => (∀ n, cond s10 (R (.returned (.tuple #[.U 0, .string (ByteArray.mk #[]), .I 20])) (w.drewN
  n)) (chk (decide (0 ≤ (q0.size : Int)) && decide ((q0.size : Int) ≤ (q0.size : Int))) (chk (decide (0 ≤ (56 : Int)) && decide ((56 : Int) ≤ (q0.size : Int))) ((∃ (x19 : Int), (∀ w_1, Dr (w.drewN n)
  w_1 → Calls Tryz.prog 136 #[.string (q0.extract 56 q0.size)] w_1 fun e w_2 => e = .returned (.U x19) ∧ Dr (w.drewN n) w_2) ∧ chk (decide (0 ≤ (56 : Int)) && decide ((56 : Int) ≤ (q0.size :
  Int))) (chk (decide (0 ≤ (0 : Int)) && decide ((0 : Int) ≤ (56 : Int))) ((∃ (x22 : Int), (∀ w_3, Dr (w.drewN n) w_3 → Calls Tryz.prog 135 #[.string (q0.extract 0 56)] w_3 fun e w_4 => e = .returned
  (.U x22) ∧ Dr (w.drewN n) w_4) ∧ (∀ n_1, cond (x19 != x22) (R (.returned (.tuple #[.U 0, .string (ByteArray.mk #[]), .I 21])) ((w.drewN n).drewN n_1)) (chk (decide (0 ≤ (4 :
  Int)) && decide ((4 : Int) < (q0.size : Int))) (cond (decide ((W6 (sbyte q0 4)) > 51)) (R (.returned (.tuple #[.U 0, .string (ByteArray.mk #[]), .I 30])) ((w.drewN
  n).drewN n_1)) (chk (decide (0 ≤ (56 : Int)) && decide ((56 : Int) ≤ (q0.size : Int))) (chk (decide (0 ≤ (W6 (5 + (W6 (sbyte q0 4))))) && decide ((W6 (5
  + (W6 (sbyte q0 4)))) ≤ (56 : Int))) ((Calls Tryz.prog 137 #[.string (q0.extract ((W6 (5 + (W6 (sbyte q0 4)))).toNat) 56), .string (ByteArray.mk #[0])]
  ((w.drewN n).drewN n_1) fun e w_5 => ∃ (x34 : ByteArray), e = .returned (.string x34) ∧ cond (!(x34.toList == (ByteArray.mk #[]).toList)) (R (.returned (.tuple #[.U 0, .string (ByteArray.mk
  #[]), .I 30])) w_5) ((∃ (x38 : Int), (∀ w_6, Dr w_5 w_6 → Calls Tryz.prog 136 #[.string q0] w_6 fun e w_7 => e = .returned (.U x38) ∧ Dr w_5 w_7) ∧ chk (decide (0 ≤ (IntKind.wrap .i64
  (5 + (W6 (sbyte q0 4))))) && decide ((W6 (5 + (W6 (sbyte q0 4)))) ≤ (q0.size : Int))) (chk (decide (0 ≤ (5 : Int)) && decide ((5 : Int) ≤ (IntKind.wrap
  .i64 (5 + (W6 (sbyte q0 4)))))) ((∀ n_2, R (.returned (.tuple #[.U x38, .string (q0.extract 5 ((W6 (5 + (W6 (sbyte q0 4)))).toNat)), .I 0])) (w_5.drewN n_2))))))))))))))))))))))))))
theorem v_SOpen (q0 : ByteArray) (R : Rt) (w : World) :
  vc Tryz.prog ann_SOpen (Tryz.f118.body.getD .skip) (retQ Tryz.prog Tryz.f118.results.toList R) (initFr [.string q0] Tryz.f118.ntmps) w = p_SOpen q0 R w := by kernel_rfl
theorem c_SOpen (q0 : ByteArray) (R : Rt) (w : World) (h : p_SOpen q0 R w) : Calls Tryz.prog 118 #[.string q0] w R :=
  calls_by ann_SOpen Tryz.func118 rfl (v_SOpen q0 R w) h
abbrev O_SOpen := (Int × ByteArray × Int)
noncomputable def f_SOpen (q0 : ByteArray) : Option O_SOpen :=
  (cond ((q0.size : Int) != 64) (some (0, (ByteArray.mk #[]), 30)) (cond ((decide (0 ≤ (4 : Int)) && decide ((4 : Int) ≤ (q0.size : Int)))) (cond ((decide (0 ≤ (0 : Int)) && decide ((0 : Int) ≤ (4 : Int)))) (cond ((decide (0 ≤ (q0.size : Int)) && decide ((q0.size : Int) ≤ (q0.size : Int)))) (cond ((decide (0 ≤ (60 : Int)) && decide ((60 : Int) ≤ (q0.size : Int)))) (Let (!((q0.extract 0 4).toList == (q0.extract 60 q0.size).toList) : Bool) fun s10 => (cond s10 (some (0, (ByteArray.mk #[]), 20)) (cond ((decide (0 ≤ (q0.size : Int)) && decide ((q0.size : Int) ≤ (q0.size : Int)))) (cond ((decide (0 ≤ (56 : Int)) && decide ((56 : Int) ≤ (q0.size : Int)))) ((f_num (q0.extract 56 q0.size)).bind fun (x19 : O_num) => (cond ((decide (0 ≤ (56 : Int)) && decide ((56 : Int) ≤ (q0.size : Int)))) (cond ((decide (0 ≤ (0 : Int)) && decide ((0 : Int) ≤ (56 : Int)))) ((f_Sum (q0.extract 0 56)).bind fun (x22 : O_Sum) => (cond (x19 != x22) (some (0, (ByteArray.mk #[]), 21)) (cond ((decide (0 ≤ (4 : Int)) && decide ((4 : Int) < (q0.size : Int)))) (cond (decide ((IntKind.wrap .i64 (sbyte q0 4)) > 51)) (some (0, (ByteArray.mk #[]), 30)) (cond ((decide (0 ≤ (56 : Int)) && decide ((56 : Int) ≤ (q0.size : Int)))) (cond ((decide (0 ≤ (IntKind.wrap .i64 (5 + (IntKind.wrap .i64 (sbyte q0 4))))) && decide ((IntKind.wrap .i64 (5 + (IntKind.wrap .i64 (sbyte q0 4)))) ≤ (56 : Int)))) ((f_Trim (q0.extract ((IntKind.wrap .i64 (5 + (IntKind.wrap .i64 (sbyte q0 4)))).toNat) 56) (ByteArray.mk #[0])).bind fun (x34 : O_Trim) => (cond (!(x34.toList == (ByteArray.mk #[]).toList)) (some (0, (ByteArray.mk #[]), 30)) ((f_num q0).bind fun (x38 : O_num) => (cond ((decide (0 ≤ (IntKind.wrap .i64 (5 + (IntKind.wrap .i64 (sbyte q0 4))))) && decide ((IntKind.wrap .i64 (5 + (IntKind.wrap .i64 (sbyte q0 4)))) ≤ (q0.size : Int)))) (cond ((decide (0 ≤ (5 : Int)) && decide ((5 : Int) ≤ (IntKind.wrap .i64 (5 + (IntKind.wrap .i64 (sbyte q0 4))))))) (some (x38, (q0.extract 5 ((IntKind.wrap .i64 (5 + (IntKind.wrap .i64 (sbyte q0 4)))).toNat)), 0)) none) none)))) none) none)) none))) none) none)) none) none))) none) none) none) none))
def o_SOpen (q0 : ByteArray) (w0 : World) : O_SOpen → Rt
  | (r0, r1, r2), e, w => e = .returned (.tuple #[.U r0, .string r1, .I r2]) ∧ Now (Foot []) w0 w []
theorem t_SOpen {q0 : ByteArray} {w0 : World} {r : O_SOpen} (hf : f_SOpen q0 = some r) (hp : Hp w0 []) : Calls Tryz.prog 118 #[.string q0] w0 (o_SOpen q0 w0 r) := by
  apply c_SOpen q0
  unfold p_SOpen
  unfold f_SOpen at hf
  let oo := o_SOpen q0 w0
  have n0 : Now (Foot []) w0 w0 [] := Now.start hp
  exact (
  condF hf (fun c1 h2 => leafX oo (.returned (.tuple #[.U 0, .string (ByteArray.mk #[]), .I 30])) w0 h2 ⟨rfl, n0⟩) (fun c1 h3 => chkF h3 fun c4 h5 => chkF h5 fun c6 h7 => chkF h7 fun c8 h9 => chkF h9 fun c10 h11 => LetF h11 fun s10 h12 => fun n => have n13 := n0.drewN n; condF h12 (fun c14 h15 => leafF (x := (0, (ByteArray.mk #[]), 20)) (G := fun r => oo r (.returned (.tuple #[.U 0, .string (ByteArray.mk #[]), .I 20])) (w0.drewN n)) h15 ⟨rfl, n13⟩) (fun c14 h16 => chkF h16 fun c17 h18 => chkF h18 fun c19 h20 => bindF h20 (fun x19 h21 h23 => ⟨x19, (fun w_1 hq => (tq_num h21 w_1).mono fun _ _ ⟨e1, e2⟩ => ⟨e1, hq.trans e2⟩), chkF h23 fun c26 h27 => chkF h27 fun c28 h29 => bindF h29 (fun x22 h30 h32 => ⟨x22, (fun w_3 hq => (tq_Sum h30 w_3).mono fun _ _ ⟨e1, e2⟩ => ⟨e1, hq.trans e2⟩), fun n_1 => have n35 := n13.drewN n_1; condF h32 (fun c36 h37 => leafF (x := (0, (ByteArray.mk #[]), 21)) (G := fun r => oo r (.returned (.tuple #[.U 0, .string (ByteArray.mk #[]), .I 21])) ((w0.drewN n).drewN n_1)) h37 ⟨rfl, n35⟩) (fun c36 h38 => chkF h38 fun c39 h40 => condF h40 (fun c41 h42 => leafF (x := (0, (ByteArray.mk #[]), 30)) (G := fun r => oo r (.returned (.tuple #[.U 0, .string (ByteArray.mk #[]), .I 30])) ((w0.drewN n).drewN n_1)) h42 ⟨rfl, n35⟩) (fun c41 h43 => chkF h43 fun c44 h45 => chkF h45 fun c46 h47 => bindF h47 (fun x34 h48 h50 => (t_Trim h48 (n35.take [])).mono fun _ w_5 ⟨e51, n52⟩ => ⟨x34, e51, have n49 := n35.call [] n52; condF h50 (fun c53 h54 => leafX oo (.returned (.tuple #[.U 0, .string (ByteArray.mk #[]), .I 30])) w_5 h54 ⟨rfl, n49⟩) (fun c53 h55 => bindF h55 (fun x38 h56 h58 => ⟨x38, (fun w_6 hq => (tq_num h56 w_6).mono fun _ _ ⟨e1, e2⟩ => ⟨e1, hq.trans e2⟩), chkF h58 fun c61 h62 => chkF h62 fun c63 h64 => fun n_2 => have n65 := n49.drewN n_2; leafF (x := (x38, (q0.extract 5 ((W6 (5 + (W6 (sbyte q0 4)))).toNat)), 0)) (G := fun r => oo r (.returned (.tuple #[.U x38, .string (q0.extract 5 ((W6 (5 + (W6 (sbyte q0 4)))).toNat)), .I 0])) (w_5.drewN n_2)) h64 ⟨rfl, n65⟩⟩))⟩)))⟩)⟩))))
def ann_Command : Ann := ⟨[(3, .phased [3, 4, 8])], [], []⟩
def p_Command (q0_0 q0_1 : Int) (q0_2 : ByteArray) (R : Rt) (w : World) : Prop :=
  Nw w (.cells #[.I q0_0, .I q0_1, .string q0_2] 59) fun b w_1 => (∃ (x4_0 : Int), Cl w_1 b 0 (.I x4_0) ∧ (∃ (x4_1 : Int), Cl w_1 b 1 (.I x4_1) ∧ (∃ (x4_2 : ByteArray), Cl w_1 b 2 (.string x4_2) ∧ (Calls Tryz.prog 89 #[.agg #[.I x4_0, .I x4_1, .string x4_2]] w_1 fun e w_2 => ∃ (x5 : Int), e =
  .returned (.I x5) ∧ cond (x5 != 0) (R (.returned (.tuple #[.string (ByteArray.mk #[]), .I 1])) w_2) ((∃ S : World → Prop, S (w_2.drewN 1) ∧ (∃ (x8 : Int), (∀ w, S w → Cl w b 0 (.I x8)) ∧ (∃ (x13 : Int), (∀ w, S w → Cl w b 1 (.I x13)) ∧ (∃ (x18 : ByteArray), (∀ w, S w → Cl w b 2 (.string x18)) ∧ ((Nw
  (w_2.drewN 1) (.cells #[.int .u8 (IntKind.wrap .u8 x8)] 5) fun b_1 w_3 => (S w_3 ∧ (((∃ (x11 : ByteArray), ∃ w_4, (Go.convert 88 9 (.slice (some ⟨b_1, 0, none⟩) 1 1)).run Tryz.prog w_3 = .ok
  (.string x11) w_4 ∧ (S w_4 ∧ (Calls Tryz.prog 134 #[.U (IntKind.wrap .u32 x13)] w_4 fun e w_5 => ∃ (x15 : ByteArray), e = .returned (.string x15) ∧ (S w_5 ∧ chk (fitsS x11 x15) (chk (fitsS
  (x11 ++ x15) x18) (R (.returned (.tuple #[.string ((x11 ++ x15) ++ x18), .I 0])) w_5))))))) ∧ ((Calls Tryz.prog 134 #[.U (IntKind.wrap .u32 x13)] w_3 fun e w_6 => ∃ (x15_1 :
  ByteArray), e = .returned (.string x15_1) ∧ (S w_6 ∧ (∃ (x11_1 : ByteArray), ∃ w_7, (Go.convert 88 9 (.slice (some ⟨b_1, 0, none⟩) 1 1)).run Tryz.prog w_6 = .ok (.string x11_1) w_7 ∧ (S w_7 ∧ chk
  (fitsS x11_1 x15_1) (chk (fitsS (x11_1 ++ x15_1) x18) (R (.returned (.tuple #[.string ((x11_1 ++ x15_1) ++ x18), .I 0])) w_7)))))))))) ∧ ((Calls Tryz.prog 134 #[.U (IntKind.wrap .u32
  x13)] (w_2.drewN 1) fun e w_8 => ∃ (x15_2 : ByteArray), e = .returned (.string x15_2) ∧ (S w_8 ∧ Nw w_8 (.cells #[.int .u8 (IntKind.wrap .u8 x8)] 5) fun b_2 w_9 => (S w_9 ∧ (∃ (x11_2 : ByteArray), ∃
  w_10, (Go.convert 88 9 (.slice (some ⟨b_2, 0, none⟩) 1 1)).run Tryz.prog w_9 = .ok (.string x11_2) w_10 ∧ (S w_10 ∧ chk (fitsS x11_2 x15_2) (chk (fitsS (x11_2 ++ x15_2) x18) (R (.returned (.tuple
  #[.string ((x11_2 ++ x15_2) ++ x18), .I 0])) w_10))))))))))))))))))
theorem v_Command (q0_0 q0_1 : Int) (q0_2 : ByteArray) (R : Rt) (w : World) :
  vc Tryz.prog ann_Command (Tryz.f139.body.getD .skip) (retQ Tryz.prog Tryz.f139.results.toList R) (initFr [.agg #[.I q0_0, .I q0_1, .string q0_2]] Tryz.f139.ntmps) w = p_Command q0_0 q0_1 q0_2 R w := by kernel_rfl
theorem c_Command (q0_0 q0_1 : Int) (q0_2 : ByteArray) (R : Rt) (w : World) (h : p_Command q0_0 q0_1 q0_2 R w) : Calls Tryz.prog 139 #[.agg #[.I q0_0, .I q0_1, .string q0_2]] w R :=
  calls_by ann_Command Tryz.func139 rfl (v_Command q0_0 q0_1 q0_2 R w) h
abbrev O_Command := (ByteArray × Int)
noncomputable def f_Command (q0_0 q0_1 : Int) (q0_2 : ByteArray) : Option O_Command :=
  ((f_sCheck q0_0 q0_1 q0_2).bind fun (x5 : O_sCheck) => (cond (x5 != 0) (some ((ByteArray.mk #[]), 1)) (cond (bytesIn [(IntKind.wrap .u8 q0_0)]) ((f_four (IntKind.wrap .u32 q0_1)).bind fun (x15 : O_four) => (cond ((fitsS (strOf [(IntKind.wrap .u8 q0_0)]) x15)) (cond ((fitsS ((strOf [(IntKind.wrap .u8 q0_0)]) ++ x15) q0_2)) (some ((((strOf [(IntKind.wrap .u8 q0_0)]) ++ x15) ++ q0_2), 0)) none) none)) none)))
def o_Command (q0_0 q0_1 : Int) (q0_2 : ByteArray) (w0 : World) : O_Command → Rt
  | (r0, r1), e, w => e = .returned (.tuple #[.string r0, .I r1]) ∧ Now (Foot []) w0 w []
theorem t_Command {q0_0 q0_1 : Int} {q0_2 : ByteArray} {w0 : World} {r : O_Command} (hf : f_Command q0_0 q0_1 q0_2 = some r) (hp : Hp w0 []) : Calls Tryz.prog 139 #[.agg #[.I q0_0, .I q0_1, .string q0_2]] w0 (o_Command q0_0 q0_1 q0_2 w0 r) := by
  apply c_Command q0_0 q0_1 q0_2
  unfold p_Command
  unfold f_Command at hf
  let oo := o_Command q0_0 q0_1 q0_2 w0
  have n0 : Now (Foot []) w0 w0 [] := Now.start hp
  exact (
  n0.Nw (cs := [.I q0_0, .I q0_1, .string q0_2]) fun b w_1 n1 => ⟨q0_0, n1.cell 0 rfl, ⟨q0_1, n1.cell 1 rfl, ⟨q0_2, n1.cell 2 rfl, bindF hf (fun x5 h2 h4 => (t_sCheck h2 (n1.take [])).mono fun _ w_2 ⟨e5, n6⟩ => ⟨x5, e5, have n3 := n1.call [] n6; condF h4 (fun c7 h8 => have n9 := n3.takeN 0; leafX oo (.returned (.tuple #[.string (ByteArray.mk #[]), .I 1])) w_2 h8 ⟨rfl, n9⟩) (fun c7 h10 => have n11 := n3.drewN 1; chkE h10 fun c13 h14 => bindF h14 (fun x15 h15 h17 => chkE h17 fun c20 h21 => chkE h21 fun c22 h23 => ⟨fun w2 => (box b [.I q0_0, .I q0_1, .string q0_2] 59).holds w2 ∧ True, ⟨n11.hp.1, trivial⟩, ⟨q0_0, fun _ hS => (Blk.cell hS.1 0).trans rfl, ⟨q0_1, fun _ hS => (Blk.cell hS.1 1).trans rfl, ⟨q0_2, fun _ hS => (Blk.cell hS.1 2).trans rfl, ⟨n11.Nw (cs := [.int .u8 (IntKind.wrap .u8 q0_0)]) fun b_1 w_3 n24 => ⟨⟨(n24.front1).hp.1, trivial⟩, ⟨⟨strOf [(IntKind.wrap .u8 q0_0)], _, toStr (box_reads (E := elI .u8) (xs := [(IntKind.wrap .u8 q0_0)]) n24.hp.1 rfl) c13 rfl Tryz.underlying88 Tryz.underlying5 Tryz.underlying9, ⟨⟨(n24.front1).hp.1, trivial⟩, (t_four h15 (n24.take [])).mono fun _ w_5 ⟨e30, n31⟩ => ⟨x15, e30, have n28 := n24.call [] n31; ⟨⟨(n28.front1).hp.1, trivial⟩, chk_of c20 (chk_of c22 (have n36 := n28.takeN 0; leafX oo (.returned (.tuple #[.string (((strOf [(IntKind.wrap .u8 q0_0)]) ++ x15) ++ q0_2), .I 0])) w_5 h23 ⟨rfl, n36⟩))⟩⟩⟩⟩, (t_four h15 (n24.take [])).mono fun _ w_6 ⟨e40, n41⟩ => ⟨x15, e40, have n38 := n24.call [] n41; ⟨⟨(n38.front1).hp.1, trivial⟩, ⟨strOf [(IntKind.wrap .u8 q0_0)], _, toStr (box_reads (E := elI .u8) (xs := [(IntKind.wrap .u8 q0_0)]) n38.hp.1 rfl) c13 rfl Tryz.underlying88 Tryz.underlying5 Tryz.underlying9, ⟨⟨(n38.front1).hp.1, trivial⟩, chk_of c20 (chk_of c22 (have n48 := n38.takeN 0; leafX oo (.returned (.tuple #[.string (((strOf [(IntKind.wrap .u8 q0_0)]) ++ x15) ++ q0_2), .I 0])) w_6 h23 ⟨rfl, n48⟩))⟩⟩⟩⟩⟩⟩, (t_four h15 (n11.take [])).mono fun _ w_8 ⟨e52, n53⟩ => ⟨x15, e52, have n50 := n11.call [] n53; ⟨⟨n50.hp.1, trivial⟩, n50.Nw (cs := [.int .u8 (IntKind.wrap .u8 q0_0)]) fun b_2 w_9 n54 => ⟨⟨(n54.front1).hp.1, trivial⟩, ⟨strOf [(IntKind.wrap .u8 q0_0)], _, toStr (box_reads (E := elI .u8) (xs := [(IntKind.wrap .u8 q0_0)]) n54.hp.1 rfl) c13 rfl Tryz.underlying88 Tryz.underlying5 Tryz.underlying9, ⟨⟨(n54.front1).hp.1, trivial⟩, chk_of c20 (chk_of c22 (have n61 := n54.takeN 0; leafX oo (.returned (.tuple #[.string (((strOf [(IntKind.wrap .u8 q0_0)]) ++ x15) ++ q0_2), .I 0])) w_9 h23 ⟨rfl, n61⟩))⟩⟩⟩⟩⟩⟩⟩⟩⟩⟩))⟩)⟩⟩⟩)
def ann_Commanded : Ann := ⟨[(3, .phased [5, 10, 11])], [], []⟩
def p_Commanded (q0 : ByteArray) (R : Rt) (w : World) : Prop :=
  Nw w (.cells #[.I 0, .I 0, .string (ByteArray.mk #[])] 59) fun b w_1 => cond (decide ((q0.size : Int) < 5)) (St w_1 ⟨b, 0, none⟩ (.I 0) fun w_2 => St w_2 ⟨b, 1, none⟩ (.I 0) fun w_3 => St w_3 ⟨b, 2, none⟩ (.string (ByteArray.mk #[])) fun w_4 => (∃ (r_0 : Int), Cl w_4 b 0 (.I r_0) ∧ (∃ (r_1 : Int), Cl w_4 b 1 (.I r_1) ∧ (∃ (r_2 : ByteArray), Cl w_4 b 2 (.string r_2) ∧ R (.returned (.tuple #[.agg #[.I r_0, .I r_1, .string r_2], .I 30])) w_4)))) ((∃ S : World → Prop, S
  (w_1.drewN 1) ∧ chk (decide (0 ≤ (0 : Int)) && decide ((0 : Int) < (q0.size : Int))) (chk (decide (0 ≤ (q0.size : Int)) && decide ((q0.size : Int) ≤ (q0.size : Int))) (chk (decide (0 ≤ (1 : Int)) &&
  decide ((1 : Int) ≤ (q0.size : Int))) (chk (decide (0 ≤ (q0.size : Int)) && decide ((q0.size : Int) ≤ (q0.size : Int))) (chk (decide (0 ≤ (5 : Int)) && decide ((5 : Int) ≤ (q0.size : Int)))
  ((((Calls Tryz.prog 136 #[.string (q0.extract 1 q0.size)] (w_1.drewN 1) fun e w_5 => ∃ (x14 : Int), e = .returned (.U x14) ∧ (S w_5 ∧ Nw w_5 (.cells #[.I 0, .I 0, .string
  (ByteArray.mk #[])] 59) fun b_1 w_6 => (S w_6 ∧ St w_6 ⟨b_1, 0, none⟩ (.I (W6 (sbyte q0 0))) fun w_7 => St w_7 ⟨b_1, 1, none⟩ (.I (W6 x14)) fun w_8 => St
  w_8 ⟨b_1, 2, none⟩ (.string (q0.extract 5 q0.size)) fun w_9 => (∃ (x19_0 : Int), Cl w_9 b_1 0 (.I x19_0) ∧ (∃ (x19_1 : Int), Cl w_9 b_1 1 (.I x19_1) ∧ (∃ (x19_2 : ByteArray), Cl w_9 b_1 2 (.string x19_2) ∧ (Calls Tryz.prog 89 #[.agg #[.I x19_0, .I x19_1, .string x19_2]] w_9 fun e w_10 => ∃ (x20 : Int), e =
  .returned (.I x20) ∧ cond (x20 != 0) (St w_10 ⟨b, 0, none⟩ (.I 0) fun w_11 => St w_11 ⟨b, 1, none⟩ (.I 0) fun w_12 => St w_12 ⟨b, 2, none⟩ (.string (ByteArray.mk #[])) fun w_13
  => (∃ (r_0_1 : Int), Cl w_13 b 0 (.I r_0_1) ∧ (∃ (r_1_1 : Int), Cl w_13 b 1 (.I r_1_1) ∧ (∃ (r_2_1 : ByteArray), Cl w_13 b 2   (.string r_2_1) ∧ R (.returned (.tuple #[.agg #[.I r_0_1, .I r_1_1, .string r_2_1], .I 30])) w_13)))) ((∃ (x23_0 : Int), Cl w_10 b_1 0 (.I x23_0) ∧ (∃
  (x23_1 : Int), Cl w_10 b_1 1 (.I x23_1) ∧ (∃ (x23_2 : ByteArray), Cl w_10 b_1 2 (.string x23_2) ∧ St w_10 ⟨b, 0, none⟩ (.I x23_0) fun w_14 => St
  w_14 ⟨b, 1, none⟩ (.I x23_1) fun w_15 => St w_15 ⟨b, 2, none⟩ (.string x23_2) fun w_16 => (∃ (r_0_2 : Int), Cl w_16 b 0 (.I r_0_2) ∧ (∃ (r_1_2 : Int), Cl w_16 b 1 (.I r_1_2) ∧ (∃ (r_2_2 : ByteArray), Cl w_16 b 2 (.string r_2_2) ∧ R (.returned (.tuple #[.agg #[.I r_0_2, .I r_1_2, .string r_2_2], .I 0])) w_16))))))))))))))) ∧ (Nw (w_1.drewN 1) (.cells #[.I 0, .I 0, .string (ByteArray.mk #[])] 59) fun b_2 w_17 => (S w_17 ∧ (Calls Tryz.prog 136 #[.string (q0.extract 1 q0.size)] w_17
  fun e w_18 => ∃ (x14_1 : Int), e = .returned (.U x14_1) ∧ (S w_18 ∧ St w_18 ⟨b_2, 0, none⟩ (.I (W6 (sbyte q0 0))) fun w_19 => St w_19 ⟨b_2, 1, none⟩ (.I (W6 x14_1)) fun w_20 => St w_20 ⟨b_2, 2, none⟩ (.string (q0.extract 5 q0.size)) fun w_21 => (∃ (x19_0_1 : Int), Cl w_21 b_2 0 (.I x19_0_1) ∧ (∃ (x19_1_1 :
  Int), Cl w_21 b_2 1 (.I x19_1_1) ∧ (∃ (x19_2_1 : ByteArray), Cl w_21 b_2 2 (.string x19_2_1) ∧ (Calls Tryz.prog 89 #[.agg #[.I x19_0_1, .I x19_1_1, .string x19_2_1]] w_21 fun e w_22 => ∃ (x20_1 : Int), e = .returned (.I x20_1) ∧ cond (x20_1 != 0) (St w_22 ⟨b, 0, none⟩ (.I 0) fun w_23 => St w_23 ⟨b, 1, none⟩ (.I 0)
  fun w_24 => St w_24 ⟨b, 2, none⟩ (.string (ByteArray.mk #[])) fun w_25 => (∃ (r_0_3 : Int), Cl w_25 b 0 (.I r_0_3) ∧ (∃ (r_1_3 : Int), Cl w_25 b 1 (.I r_1_3) ∧ (∃ (r_2_3 : ByteArray), Cl w_25 b 2 (.string r_2_3) ∧ R (.returned (.tuple #[.agg #[.I r_0_3, .I r_1_3, .string r_2_3], .I 30])) w_25)))) ((∃
  (x23_0_1 : Int), Cl w_22 b_2 0 (.I x23_0_1) ∧ (∃ (x23_1_1 : Int), Cl w_22 b_2 1 (.I x23_1_1) ∧ (∃ (x23_2_1 : ByteArray), w_22.cell? ⟨b_2, 2, none⟩
  = some (.string x23_2_1) ∧ St w_22 ⟨b, 0, none⟩ (.I x23_0_1) fun w_26 => St w_26 ⟨b, 1, none⟩ (.I x23_1_1) fun w_27 => St w_27 ⟨b, 2, none⟩ (.string x23_2_1) fun w_28 => (∃ (r_0_4 :
  Int), Cl w_28 b 0 (.I r_0_4) ∧ (∃ (r_1_4 : Int), Cl w_28 b 1 (.I r_1_4) ∧ (∃ (r_2_4 : ByteArray), Cl w_28 b 2 (.string r_2_4) ∧
  R (.returned (.tuple #[.agg #[.I r_0_4, .I r_1_4, .string r_2_4], .I 0])) w_28)))))))))))))))))))))))
theorem v_Commanded (q0 : ByteArray) (R : Rt) (w : World) :
  vc Tryz.prog ann_Commanded (Tryz.f120.body.getD .skip) (retQ Tryz.prog Tryz.f120.results.toList R) (initFr [.string q0] Tryz.f120.ntmps) w = p_Commanded q0 R w := by kernel_rfl
theorem c_Commanded (q0 : ByteArray) (R : Rt) (w : World) (h : p_Commanded q0 R w) : Calls Tryz.prog 120 #[.string q0] w R :=
  calls_by ann_Commanded Tryz.func120 rfl (v_Commanded q0 R w) h
abbrev O_Commanded := (Int × Int × ByteArray × Int)
noncomputable def f_Commanded (q0 : ByteArray) : Option O_Commanded :=
  (cond (decide ((q0.size : Int) < 5)) (some ((0 : Int), 0, (ByteArray.mk #[]), 30)) (cond ((decide (0 ≤ (0 : Int)) && decide ((0 : Int) < (q0.size : Int)))) (cond ((decide (0 ≤ (q0.size : Int)) && decide ((q0.size : Int) ≤ (q0.size : Int)))) (cond ((decide (0 ≤ (1 : Int)) && decide ((1 : Int) ≤ (q0.size : Int)))) (cond ((decide (0 ≤ (q0.size : Int)) && decide ((q0.size : Int) ≤ (q0.size : Int)))) (cond ((decide (0 ≤ (5 : Int)) && decide ((5 : Int) ≤ (q0.size : Int)))) ((f_num (q0.extract 1 q0.size)).bind fun (x14 : O_num) => ((f_sCheck (IntKind.wrap .i64 (sbyte q0 0)) (IntKind.wrap .i64 x14) (q0.extract 5 q0.size)).bind fun (x20_1 : O_sCheck) => (cond (x20_1 != 0) (some ((0 : Int), 0, (ByteArray.mk #[]), 30)) (some ((IntKind.wrap .i64 (sbyte q0 0)), (IntKind.wrap .i64 x14), (q0.extract 5 q0.size), 0))))) none) none) none) none) none))
def o_Commanded (q0 : ByteArray) (w0 : World) : O_Commanded → Rt
  | (r0_0, r0_1, r0_2, r1), e, w => e = .returned (.tuple #[.agg #[.I r0_0, .I r0_1, .string r0_2], .I r1]) ∧ Now (Foot []) w0 w []
theorem t_Commanded {q0 : ByteArray} {w0 : World} {r : O_Commanded} (hf : f_Commanded q0 = some r) (hp : Hp w0 []) : Calls Tryz.prog 120 #[.string q0] w0 (o_Commanded q0 w0 r) := by
  apply c_Commanded q0
  unfold p_Commanded
  unfold f_Commanded at hf
  let oo := o_Commanded q0 w0
  have n0 : Now (Foot []) w0 w0 [] := Now.start hp
  exact (
  n0.Nw (cs := [.I 0, .I 0, .string (ByteArray.mk #[])]) fun b w_1 n1 => condF hf (fun c2 h3 => n1.St (by rfl) fun w_2 n4 => n4.St (by rfl) fun w_3 n5 => n5.St (by rfl) fun w_4 n6 => ⟨0, n6.cell 0 rfl, ⟨0, n6.cell 1 rfl, ⟨(ByteArray.mk #[]), n6.cell 2 rfl, have n7 := n6.takeN 0; leafX oo (.returned (.tuple #[.agg #[.I 0, .I 0, .string (ByteArray.mk #[])], .I 30])) w_4 h3 ⟨rfl, n7⟩⟩⟩⟩) (fun c2 h8 => have n9 := n1.drewN 1; chkE h8 fun c10 h11 => chkE h11 fun c12 h13 => chkE h13 fun c14 h15 => chkE h15 fun c16 h17 => chkE h17 fun c18 h19 => bindF h19 (fun x14 h20 h22 => ⟨fun w2 => True, trivial, chk_of c10 (chk_of c16 (chk_of c14 (chk_of c16 (chk_of c18 (⟨(tq_num h20 _).mono fun _ w_5 ⟨e42, d64⟩ => ⟨x14, e42, have n40 := n9.pass d64.chg; ⟨trivial, n40.Nw (cs := [.I 0, .I 0, .string (ByteArray.mk #[])]) fun b_1 w_6 n44 => ⟨trivial, n44.St (by rfl) fun w_7 n45 => n45.St (by rfl) fun w_8 n46 => n46.St (by rfl) fun w_9 n47 => ⟨(W6 (sbyte q0 0)), n47.cell 0 rfl, ⟨(W6 x14), n47.cell 1 rfl, ⟨(q0.extract 5 q0.size), n47.cell 2 rfl, bindF h22 (fun x20 h48 h50 => (t_sCheck h48 (n47.take [])).mono fun _ w_10 ⟨e51, n52⟩ => ⟨x20, e51, have n49 := n47.call [] n52; condF h50 (fun c53 h54 => (n49.front1).St (by rfl) fun w_11 n55 => n55.St (by rfl) fun w_12 n56 => n56.St (by rfl) fun w_13 n57 => ⟨0, n57.cell 0 rfl, ⟨0, n57.cell 1 rfl, ⟨(ByteArray.mk #[]), n57.cell 2 rfl, have n58 := n57.takeN 0; leafX oo (.returned (.tuple #[.agg #[.I 0, .I 0, .string (ByteArray.mk #[])], .I 30])) w_13 h54 ⟨rfl, n58⟩⟩⟩⟩) (fun c53 h59 => ⟨(W6 (sbyte q0 0)), n49.cell 0 rfl, ⟨(W6 x14), n49.cell 1 rfl, ⟨(q0.extract 5 q0.size), n49.cell 2 rfl, (n49.front1).St (by rfl) fun w_14 n60 => n60.St (by rfl) fun w_15 n61 => n61.St (by rfl) fun w_16 n62 => ⟨(W6 (sbyte q0 0)), n62.cell 0 rfl, ⟨(W6 x14), n62.cell 1 rfl, ⟨(q0.extract 5 q0.size), n62.cell 2 rfl, have n63 := n62.takeN 0; leafX oo (.returned (.tuple #[.agg #[.I (W6 (sbyte q0 0)), .I (W6 x14), .string (q0.extract 5 q0.size)], .I 0])) w_16 h59 ⟨rfl, n63⟩⟩⟩⟩⟩⟩⟩)⟩)⟩⟩⟩⟩⟩⟩, n9.Nw (cs := [.I 0, .I 0, .string (ByteArray.mk #[])]) fun b_2 w_17 n65 => ⟨trivial, (tq_num h20 _).mono fun _ w_18 ⟨e69, d90⟩ => ⟨x14, e69, have n67 := n65.pass d90.chg; ⟨trivial, n67.St (by rfl) fun w_19 n71 => n71.St (by rfl) fun w_20 n72 => n72.St (by rfl) fun w_21 n73 => ⟨(W6 (sbyte q0 0)), n73.cell 0 rfl, ⟨(W6 x14), n73.cell 1 rfl, ⟨(q0.extract 5 q0.size), n73.cell 2 rfl, bindF h22 (fun x20_1 h74 h76 => (t_sCheck h74 (n73.take [])).mono fun _ w_22 ⟨e77, n78⟩ => ⟨x20_1, e77, have n75 := n73.call [] n78; condF h76 (fun c79 h80 => (n75.front1).St (by rfl) fun w_23 n81 => n81.St (by rfl) fun w_24 n82 => n82.St (by rfl) fun w_25 n83 => ⟨0, n83.cell 0 rfl, ⟨0, n83.cell 1 rfl, ⟨(ByteArray.mk #[]), n83.cell 2 rfl, have n84 := n83.takeN 0; leafX oo (.returned (.tuple #[.agg #[.I 0, .I 0, .string (ByteArray.mk #[])], .I 30])) w_25 h80 ⟨rfl, n84⟩⟩⟩⟩) (fun c79 h85 => ⟨(W6 (sbyte q0 0)), n75.cell 0 rfl, ⟨(W6 x14), n75.cell 1 rfl, ⟨(q0.extract 5 q0.size), n75.cell 2 rfl, (n75.front1).St (by rfl) fun w_26 n86 => n86.St (by rfl) fun w_27 n87 => n87.St (by rfl) fun w_28 n88 => ⟨(W6 (sbyte q0 0)), n88.cell 0 rfl, ⟨(W6 x14), n88.cell 1 rfl, ⟨(q0.extract 5 q0.size), n88.cell 2 rfl, have n89 := n88.takeN 0; leafX oo (.returned (.tuple #[.agg #[.I (W6 (sbyte q0 0)), .I (W6 x14), .string (q0.extract 5 q0.size)], .I 0])) w_28 h85 ⟨rfl, n89⟩⟩⟩⟩⟩⟩⟩)⟩)⟩⟩⟩⟩⟩⟩⟩)))))⟩)))
def ann_Record : Ann := ⟨[], [], []⟩
def p_Record (q0_0 q0_1 q0_2 : Int) (q0_3 : ByteArray) (R : Rt) (w : World) : Prop :=
  Nw w (.cells #[.U q0_0, .I q0_1, .I q0_2, .string q0_3] 156) fun b w_1 => (∃ (x8_0 : Int), Cl w_1 b 1 (.I x8_0) ∧ (∃ (x8_1 : Int), Cl w_1 b 2 (.I x8_1) ∧ (∃ (x8_2 : ByteArray), Cl w_1 b 3 (.string x8_2) ∧ (Calls Tryz.prog 139 #[.agg #[.I x8_0, .I x8_1, .string x8_2]] w_1 fun e w_2 => ∃
  (x9a : ByteArray) (x9b : Int), e = .returned (.tuple #[.string x9a, .I x9b]) ∧ cond (x9b != 0) (R (.returned (.tuple #[.string (ByteArray.mk #[]), .I x9b])) w_2) ((∃ (x16 : Int),
  Cl w_2 b 0 (.U x16) ∧ (Calls Tryz.prog 117 #[.U x16, .string x9a] w_2 fun e w_3 => ∃ (x18a : ByteArray) (x18b : Int), e = .returned (.tuple #[.string x18a, .I x18b]) ∧ R (.returned (.tuple #[.string x18a, .I x18b])) w_3)))))))
theorem v_Record (q0_0 q0_1 q0_2 : Int) (q0_3 : ByteArray) (R : Rt) (w : World) :
  vc Tryz.prog ann_Record (Tryz.f124.body.getD .skip) (retQ Tryz.prog Tryz.f124.results.toList R) (initFr [.agg #[.U q0_0, .I q0_1, .I q0_2, .string q0_3]] Tryz.f124.ntmps) w = p_Record q0_0 q0_1 q0_2 q0_3 R w := by kernel_rfl
theorem c_Record (q0_0 q0_1 q0_2 : Int) (q0_3 : ByteArray) (R : Rt) (w : World) (h : p_Record q0_0 q0_1 q0_2 q0_3 R w) : Calls Tryz.prog 124 #[.agg #[.U q0_0, .I q0_1, .I q0_2, .string q0_3]] w R :=
  calls_by ann_Record Tryz.func124 rfl (v_Record q0_0 q0_1 q0_2 q0_3 R w) h
abbrev O_Record := (ByteArray × Int)
noncomputable def f_Record (q0_0 q0_1 q0_2 : Int) (q0_3 : ByteArray) : Option O_Record :=
  ((f_Command q0_1 q0_2 q0_3).bind fun (o : O_Command) => (match o with | (x9a, x9b) => (cond (x9b != 0) (some ((ByteArray.mk #[]), x9b)) ((f_Wrap q0_0 x9a).bind fun (o : O_Wrap) => (match o with | (x18a, x18b) => (some (x18a, x18b)))))))
def o_Record (q0_0 q0_1 q0_2 : Int) (q0_3 : ByteArray) (w0 : World) : O_Record → Rt
  | (r0, r1), e, w => e = .returned (.tuple #[.string r0, .I r1]) ∧ Now (Foot []) w0 w []
theorem t_Record {q0_0 q0_1 q0_2 : Int} {q0_3 : ByteArray} {w0 : World} {r : O_Record} (hf : f_Record q0_0 q0_1 q0_2 q0_3 = some r) (hp : Hp w0 []) : Calls Tryz.prog 124 #[.agg #[.U q0_0, .I q0_1, .I q0_2, .string q0_3]] w0 (o_Record q0_0 q0_1 q0_2 q0_3 w0 r) := by
  apply c_Record q0_0 q0_1 q0_2 q0_3
  unfold p_Record
  unfold f_Record at hf
  let oo := o_Record q0_0 q0_1 q0_2 q0_3 w0
  have n0 : Now (Foot []) w0 w0 [] := Now.start hp
  exact (
  n0.Nw (cs := [.U q0_0, .I q0_1, .I q0_2, .string q0_3]) fun b w_1 n1 => ⟨q0_1, n1.cell 1 rfl, ⟨q0_2, n1.cell 2 rfl, ⟨q0_3, n1.cell 3 rfl, bindF hf (fun o => match o with | (x9a, x9b) => fun h2 h4 => (t_Command h2 (n1.take [])).mono fun _ w_2 ⟨e5, n6⟩ => ⟨x9a, x9b, e5, have n3 := n1.call [] n6; condF h4 (fun c7 h8 => have n9 := n3.takeN 0; leafX oo (.returned (.tuple #[.string (ByteArray.mk #[]), .I x9b])) w_2 h8 ⟨rfl, n9⟩) (fun c7 h10 => ⟨q0_0, n3.cell 0 rfl, bindF h10 (fun o => match o with | (x18a, x18b) => fun h11 h13 => (t_Wrap h11 (n3.take [])).mono fun _ w_3 ⟨e14, n15⟩ => ⟨x18a, x18b, e14, have n12 := n3.call [] n15; have n16 := n12.takeN 0; leafX oo (.returned (.tuple #[.string x18a, .I x18b])) w_3 h13 ⟨rfl, n16⟩⟩)⟩)⟩)⟩⟩⟩)
def ann_Recorded : Ann := ⟨[], [], []⟩
def p_Recorded (q0 : ByteArray) (R : Rt) (w : World) : Prop :=
  Nw w (.cells #[.U 0, .I 0, .I 0, .string (ByteArray.mk #[])] 156) fun b w_1 => (Calls Tryz.prog 118 #[.string q0] w_1 fun e w_2 => ∃ (x10a : Int) (x10b : ByteArray) (x10c :
  Int), e = .returned (.tuple #[.U x10a, .string x10b, .I x10c]) ∧ cond (x10c != 0) (St w_2 ⟨b, 0, none⟩ (.U 0) fun w_3 => St w_3 ⟨b, 1, none⟩ (.I 0) fun w_4 => St w_4 ⟨b,
  2, none⟩ (.I 0) fun w_5 => St w_5 ⟨b, 3, none⟩ (.string (ByteArray.mk #[])) fun w_6 => (∃ (r_0 : Int), Cl w_6 b 0 (.U r_0) ∧ (∃ (r_1 : Int), Cl w_6 b 1 (.I r_1) ∧ (∃ (r_2 : Int), Cl w_6 b 2 (.I r_2) ∧ (∃ (r_3 : ByteArray), Cl w_6 b 3 (.string r_3) ∧ R (.returned (.tuple #[.agg #[.U r_0, .I r_1, .I r_2, .string r_3], .I x10c])) w_6))))) ((Calls Tryz.prog 120 #[.string x10b] w_2 fun e w_7 => ∃ (x20a_0 x20a_1 : Int) (x20a_2 : ByteArray) (x20b : Int),
  e = .returned (.tuple #[.agg #[.I x20a_0, .I x20a_1, .string x20a_2], .I x20b]) ∧ Nw w_7 (.cells #[.I 0, .I 0, .string (ByteArray.mk #[])] 59) fun b_1 w_8 => St
  w_8 ⟨b_1, 0, none⟩ (.I x20a_0) fun w_9 => St w_9 ⟨b_1, 1, none⟩ (.I x20a_1) fun w_10 => St w_10 ⟨b_1, 2, none⟩ (.string x20a_2) fun w_11 => cond (x20b != 0) (St w_11 ⟨b, 0, none⟩ (.U 0) fun w_12 => St w_12 ⟨b, 1, none⟩ (.I 0) fun w_13 => St w_13 ⟨b, 2, none⟩ (.I 0) fun w_14 => St w_14 ⟨b, 3, none⟩ (.string (ByteArray.mk #[])) fun w_15 => (∃ (r_0_1 : Int),
  Cl w_15 b 0 (.U r_0_1) ∧ (∃ (r_1_1 : Int), Cl w_15 b 1 (.I r_1_1) ∧ (∃ (r_2_1 : Int), Cl w_15 b 2 (.I r_2_1) ∧ (∃ (r_3_1
  : ByteArray), Cl w_15 b 3 (.string r_3_1) ∧ R (.returned (.tuple #[.agg #[.U r_0_1, .I r_1_1, .I r_2_1, .string r_3_1], .I x20b])) w_15))))) ((∃ (x28_0
  : Int), Cl w_11 b_1 0 (.I x28_0) ∧ (∃ (x28_1 : Int), Cl w_11 b_1 1 (.I x28_1) ∧ (∃ (x28_2 : ByteArray), Cl w_11 b_1 2 (.string
  x28_2) ∧ St w_11 ⟨b, 0, none⟩ (.U x10a) fun w_16 => St w_16 ⟨b, 1, none⟩ (.I x28_0) fun w_17 => St w_17 ⟨b, 2, none⟩ (.I x28_1) fun w_18 => St w_18 ⟨b, 3, none⟩ (.string x28_2)
  fun w_19 => (∃ (r_0_2 : Int), Cl w_19 b 0 (.U r_0_2) ∧ (∃ (r_1_2 : Int), Cl w_19 b 1 (.I r_1_2) ∧ (∃ (r_2_2 : Int), Cl w_19 b 2   (.I r_2_2) ∧ (∃ (r_3_2 : ByteArray), Cl w_19 b 3 (.string r_3_2) ∧ R (.returned (.tuple #[.agg #[.U r_0_2, .I r_1_2, .I r_2_2, .string r_3_2], .I 0])) w_19)))))))))))
theorem v_Recorded (q0 : ByteArray) (R : Rt) (w : World) :
  vc Tryz.prog ann_Recorded (Tryz.f87.body.getD .skip) (retQ Tryz.prog Tryz.f87.results.toList R) (initFr [.string q0] Tryz.f87.ntmps) w = p_Recorded q0 R w := by kernel_rfl
theorem c_Recorded (q0 : ByteArray) (R : Rt) (w : World) (h : p_Recorded q0 R w) : Calls Tryz.prog 87 #[.string q0] w R :=
  calls_by ann_Recorded Tryz.func87 rfl (v_Recorded q0 R w) h
abbrev O_Recorded := (Int × Int × Int × ByteArray × Int)
noncomputable def f_Recorded (q0 : ByteArray) : Option O_Recorded :=
  ((f_SOpen q0).bind fun (o : O_SOpen) => (match o with | (x10a, x10b, x10c) => (cond (x10c != 0) (some ((0 : Int), 0, 0, (ByteArray.mk #[]), x10c)) ((f_Commanded x10b).bind fun (o : O_Commanded) => (match o with | (x20a_0, x20a_1, x20a_2, x20b) => (cond (x20b != 0) (some ((0 : Int), 0, 0, (ByteArray.mk #[]), x20b)) (some (x10a, x20a_0, x20a_1, x20a_2, 0))))))))
def o_Recorded (q0 : ByteArray) (w0 : World) : O_Recorded → Rt
  | (r0_0, r0_1, r0_2, r0_3, r1), e, w => e = .returned (.tuple #[.agg #[.U r0_0, .I r0_1, .I r0_2, .string r0_3], .I r1]) ∧ Now (Foot []) w0 w []
theorem t_Recorded {q0 : ByteArray} {w0 : World} {r : O_Recorded} (hf : f_Recorded q0 = some r) (hp : Hp w0 []) : Calls Tryz.prog 87 #[.string q0] w0 (o_Recorded q0 w0 r) := by
  apply c_Recorded q0
  unfold p_Recorded
  unfold f_Recorded at hf
  let oo := o_Recorded q0 w0
  have n0 : Now (Foot []) w0 w0 [] := Now.start hp
  exact (
  n0.Nw (cs := [.U 0, .I 0, .I 0, .string (ByteArray.mk #[])]) fun b w_1 n1 => bindF hf (fun o => match o with | (x10a, x10b, x10c) => fun h2 h4 => (t_SOpen h2 (n1.take [])).mono fun _ w_2 ⟨e5, n6⟩ => ⟨x10a, x10b, x10c, e5, have n3 := n1.call [] n6; condF h4 (fun c7 h8 => n3.St (by rfl) fun w_3 n9 => n9.St (by rfl) fun w_4 n10 => n10.St (by rfl) fun w_5 n11 => n11.St (by rfl) fun w_6 n12 => ⟨0, n12.cell 0 rfl, ⟨0, n12.cell 1 rfl, ⟨0, n12.cell 2 rfl, ⟨(ByteArray.mk #[]), n12.cell 3 rfl, have n13 := n12.takeN 0; leafX oo (.returned (.tuple #[.agg #[.U 0, .I 0, .I 0, .string (ByteArray.mk #[])], .I x10c])) w_6 h8 ⟨rfl, n13⟩⟩⟩⟩⟩) (fun c7 h14 => bindF h14 (fun o => match o with | (x20a_0, x20a_1, x20a_2, x20b) => fun h15 h17 => (t_Commanded h15 (n3.take [])).mono fun _ w_7 ⟨e18, n19⟩ => ⟨x20a_0, x20a_1, x20a_2, x20b, e18, have n16 := n3.call [] n19; n16.Nw (cs := [.I 0, .I 0, .string (ByteArray.mk #[])]) fun b_1 w_8 n20 => n20.St (by rfl) fun w_9 n21 => n21.St (by rfl) fun w_10 n22 => n22.St (by rfl) fun w_11 n23 => condF h17 (fun c24 h25 => (n23.front1).St (by rfl) fun w_12 n26 => n26.St (by rfl) fun w_13 n27 => n27.St (by rfl) fun w_14 n28 => n28.St (by rfl) fun w_15 n29 => ⟨0, n29.cell 0 rfl, ⟨0, n29.cell 1 rfl, ⟨0, n29.cell 2 rfl, ⟨(ByteArray.mk #[]), n29.cell 3 rfl, have n30 := n29.takeN 0; leafX oo (.returned (.tuple #[.agg #[.U 0, .I 0, .I 0, .string (ByteArray.mk #[])], .I x20b])) w_15 h25 ⟨rfl, n30⟩⟩⟩⟩⟩) (fun c24 h31 => ⟨x20a_0, n23.cell 0 rfl, ⟨x20a_1, n23.cell 1 rfl, ⟨x20a_2, n23.cell 2 rfl, (n23.front1).St (by rfl) fun w_16 n32 => n32.St (by rfl) fun w_17 n33 => n33.St (by rfl) fun w_18 n34 => n34.St (by rfl) fun w_19 n35 => ⟨x10a, n35.cell 0 rfl, ⟨x20a_0, n35.cell 1 rfl, ⟨x20a_1, n35.cell 2 rfl, ⟨x20a_2, n35.cell 3 rfl, have n36 := n35.takeN 0; leafX oo (.returned (.tuple #[.agg #[.U x10a, .I x20a_0, .I x20a_1, .string x20a_2], .I 0])) w_19 h31 ⟨rfl, n36⟩⟩⟩⟩⟩⟩⟩⟩)⟩))⟩))
def ann_Sectors : Ann := ⟨[], [], []⟩
def p_Sectors (q0 q1 : Int) (R : Rt) (w : World) : Prop :=
  cond (decide (q0 < 64)) (R (.returned (.tuple #[.I 0, .I 1])) w) (cond (decide (q0 > 131072)) (R (.returned (.tuple #[.I 0, .I 1])) w) (cond ((Int.tmod q0 64) != 0) (R
  (.returned (.tuple #[.I 0, .I 1])) w) (cond (decide (q1 < 1)) (R (.returned (.tuple #[.I 0, .I 1])) w) (cond (decide (q1 > 1024)) (R (.returned (.tuple #[.I 0,
  .I 1])) w) (Lt ((W6 ((W6 (2 + (W6 (2 * (W6 (Int.tdiv q0 64)))))) + q1)) : Int) fun s4 => R (.returned (.tuple #[.I s4, .I 0])) w)))))
theorem v_Sectors (q0 q1 : Int) (R : Rt) (w : World) :
  vc Tryz.prog ann_Sectors (Tryz.f37.body.getD .skip) (retQ Tryz.prog Tryz.f37.results.toList R) (initFr [.I q0, .I q1] Tryz.f37.ntmps) w = p_Sectors q0 q1 R w := by kernel_rfl
theorem c_Sectors (q0 q1 : Int) (R : Rt) (w : World) (h : p_Sectors q0 q1 R w) : Calls Tryz.prog 37 #[.I q0, .I q1] w R :=
  calls_by ann_Sectors Tryz.func37 rfl (v_Sectors q0 q1 R w) h
abbrev O_Sectors := (Int × Int)
noncomputable def f_Sectors (q0 q1 : Int) : Option O_Sectors :=
  (cond (decide (q0 < 64)) (some (0, 1)) (cond (decide (q0 > 131072)) (some (0, 1)) (cond ((Int.tmod q0 64) != 0) (some (0, 1)) (cond (decide (q1 < 1)) (some (0, 1)) (cond (decide (q1 > 1024)) (some (0, 1)) (Let ((IntKind.wrap .i64 ((IntKind.wrap .i64 (2 + (IntKind.wrap .i64 (2 * (IntKind.wrap .i64 (Int.tdiv q0 64)))))) + q1)) : Int) fun s4 => (some (s4, 0))))))))
def o_Sectors (q0 q1 : Int) (w0 : World) : O_Sectors → Rt
  | (r0, r1), e, w => e = .returned (.tuple #[.I r0, .I r1]) ∧ Dr w0 w
theorem tq_Sectors {q0 q1 : Int} {r : O_Sectors} (hf : f_Sectors q0 q1 = some r) (w0 : World) : Calls Tryz.prog 37 #[.I q0, .I q1] w0 (o_Sectors q0 q1 w0 r) := by
  apply c_Sectors
  unfold p_Sectors
  unfold f_Sectors at hf
  have n0 : Dr w0 w0 := Dr.refl _
  exact (
  condF hf (fun c1 h2 => leafX (x := (0, 1)) (o_Sectors _ _ w0) (.returned (.tuple #[.I 0, .I 1])) w0 h2 ⟨rfl, n0⟩) (fun c1 h3 => condF h3 (fun c4 h5 => leafX (x := (0, 1)) (o_Sectors _ _ w0) (.returned (.tuple #[.I 0, .I 1])) w0 h5 ⟨rfl, n0⟩) (fun c4 h6 => condF h6 (fun c7 h8 => leafX (x := (0, 1)) (o_Sectors _ _ w0) (.returned (.tuple #[.I 0, .I 1])) w0 h8 ⟨rfl, n0⟩) (fun c7 h9 => condF h9 (fun c10 h11 => leafX (x := (0, 1)) (o_Sectors _ _ w0) (.returned (.tuple #[.I 0, .I 1])) w0 h11 ⟨rfl, n0⟩) (fun c10 h12 => condF h12 (fun c13 h14 => leafX (x := (0, 1)) (o_Sectors _ _ w0) (.returned (.tuple #[.I 0, .I 1])) w0 h14 ⟨rfl, n0⟩) (fun c13 h15 => LetF h15 fun s4 h16 => leafX (x := (s4, 0)) (o_Sectors _ _ w0) (.returned (.tuple #[.I s4, .I 0])) w0 h16 ⟨rfl, n0⟩))))))
def ann_sector : Ann := ⟨[], [], []⟩
def p_sector (q0 : Nat) (q1 q2 : Int) (R : Rt) (w : World) : Prop :=
  (∃ (x11 : Int), Cl w q0 1 (.I x11) ∧ Lt ((W6 ((W6 (2 + (W6 (q1 * (W6 (Int.tdiv x11 64)))))) + q2)) : Int) fun s6
  => R (.returned (.I s6)) w)
theorem v_sector (q0 : Nat) (q1 q2 : Int) (R : Rt) (w : World) :
  vc Tryz.prog ann_sector (Tryz.f85.body.getD .skip) (retQ Tryz.prog Tryz.f85.results.toList R) (initFr [.P q0, .I q1, .I q2] Tryz.f85.ntmps) w = p_sector q0 q1 q2 R w := by kernel_rfl
theorem c_sector (q0 : Nat) (q1 q2 : Int) (R : Rt) (w : World) (h : p_sector q0 q1 q2 R w) : Calls Tryz.prog 85 #[.P q0, .I q1, .I q2] w R :=
  calls_by ann_sector Tryz.func85 rfl (v_sector q0 q1 q2 R w) h
abbrev O_sector := Int
noncomputable def f_sector (ax aw az aB aA : Int) (aC : Bool) (af : List ByteArray) (ao : List ByteArray) (ap : List E115) (aq : List (Int × Bool)) (au : Int) (ar : Bool) (q1 q2 : Int) : Option O_sector :=
  (Let ((IntKind.wrap .i64 ((IntKind.wrap .i64 (2 + (IntKind.wrap .i64 (q1 * (IntKind.wrap .i64 (Int.tdiv ax 64)))))) + q2)) : Int) fun s6 => (some s6))
def o_sector (q0 av : Nat) (ah : Pa) (ag : Nat) (aj : Pa) (ai : Nat) (an : Pa) (am : Nat) (al : Option Nat) (ax aw az aB aA : Int) (aC : Bool) (af : List ByteArray) (ao : List ByteArray) (ap : List E115) (aq : List (Int × Bool)) (au : Int) (ar : Bool) (q1 q2 : Int) (w0 : World) : O_sector → Rt
  | r0, e, w => e = .returned (.I r0) ∧ Now (Foot [box q0 [.P av, .I ax, .I aw, .U az, .U aB, .I aA, .bool aC] 142, box av [.slice ah af.length ag, .slice aj ao.length ai, .slice an ap.length am, .map al, .I au, .bool ar] 111, arr elS ah ag af, arr elS aj ai ao, arr el115 an am ap, mapB .i64 al aq]) w0 w [box q0 [.P av, .I ax, .I aw, .U az, .U aB, .I aA, .bool aC] 142, box av [.slice ah af.length ag, .slice aj ao.length ai, .slice an ap.length am, .map al, .I au, .bool ar] 111, arr elS ah ag af, arr elS aj ai ao, arr el115 an am ap, mapB .i64 al aq]
theorem t_sector {q0 av : Nat} {ah : Option Addr} {ag : Nat} {aj : Option Addr} {ai : Nat} {an : Option Addr} {am : Nat} {al : Option Nat} {ax aw az aB aA : Int} {aC : Bool} {af : List ByteArray} {ao : List ByteArray} {ap : List E115} {aq : List (Int × Bool)} {au : Int} {ar : Bool} {q1 q2 : Int} {w0 : World} {r : O_sector} (hf : f_sector ax aw az aB aA aC af ao ap aq au ar q1 q2 = some r) (hp : Hp w0 [box q0 [.P av, .I ax, .I aw, .U az, .U aB, .I aA, .bool aC] 142, box av [.slice ah af.length ag, .slice aj ao.length ai, .slice an ap.length am, .map al, .I au, .bool ar] 111, arr elS ah ag af, arr elS aj ai ao, arr el115 an am ap, mapB .i64 al aq]) : Calls Tryz.prog 85 #[.P q0, .I q1, .I q2] w0 (o_sector q0 av ah ag aj ai an am al ax aw az aB aA aC af ao ap aq au ar q1 q2 w0 r) := by
  apply c_sector q0 q1 q2
  unfold p_sector
  unfold f_sector at hf
  let oo := o_sector q0 av ah ag aj ai an am al ax aw az aB aA aC af ao ap aq au ar q1 q2 w0
  have n0 : Now (Foot [box q0 [.P av, .I ax, .I aw, .U az, .U aB, .I aA, .bool aC] 142, box av [.slice ah af.length ag, .slice aj ao.length ai, .slice an ap.length am, .map al, .I au, .bool ar] 111, arr elS ah ag af, arr elS aj ai ao, arr el115 an am ap, mapB .i64 al aq]) w0 w0 [box q0 [.P av, .I ax, .I aw, .U az, .U aB, .I aA, .bool aC] 142, box av [.slice ah af.length ag, .slice aj ao.length ai, .slice an ap.length am, .map al, .I au, .bool ar] 111, arr elS ah ag af, arr elS aj ai ao, arr el115 an am ap, mapB .i64 al aq] := Now.start hp
  exact (
  ⟨ax, n0.cell 1 rfl, LetF hf fun s6 h1 => have n7 := n0.front5.front5.front5.front5.front5.front5; leafX oo (.returned (.I s6)) w0 h1 ⟨rfl, n7⟩⟩)
def ann_slot : Ann := ⟨[], [], []⟩
def p_slot (q0 : Nat) (q1 : Int) (R : Rt) (w : World) : Prop :=
  (∃ (x8 : Int), Cl w q0 1 (.I x8) ∧ (∃ (x16 : Int), Cl w q0 3 (.U x16) ∧ Lt ((W6 ((W6 (2 + (W6 (2 *
  (W6 (Int.tdiv x8 64)))))) + (W6 (IntKind.wrap .u32 (q1 - x16))))) : Int) fun s4 => (∀ n, R (.returned (.I s4)) (w.drewN n))))
theorem v_slot (q0 : Nat) (q1 : Int) (R : Rt) (w : World) :
  vc Tryz.prog ann_slot (Tryz.f78.body.getD .skip) (retQ Tryz.prog Tryz.f78.results.toList R) (initFr [.P q0, .U q1] Tryz.f78.ntmps) w = p_slot q0 q1 R w := by kernel_rfl
theorem c_slot (q0 : Nat) (q1 : Int) (R : Rt) (w : World) (h : p_slot q0 q1 R w) : Calls Tryz.prog 78 #[.P q0, .U q1] w R :=
  calls_by ann_slot Tryz.func78 rfl (v_slot q0 q1 R w) h
abbrev O_slot := Int
noncomputable def f_slot (ax aw az aB aA : Int) (aC : Bool) (af : List ByteArray) (ao : List ByteArray) (ap : List E115) (aq : List (Int × Bool)) (au : Int) (ar : Bool) (q1 : Int) : Option O_slot :=
  (Let ((IntKind.wrap .i64 ((IntKind.wrap .i64 (2 + (IntKind.wrap .i64 (2 * (IntKind.wrap .i64 (Int.tdiv ax 64)))))) + (IntKind.wrap .i64 (IntKind.wrap .u32 (q1 - az))))) : Int) fun s4 => (some s4))
def o_slot (q0 av : Nat) (ah : Pa) (ag : Nat) (aj : Pa) (ai : Nat) (an : Pa) (am : Nat) (al : Option Nat) (ax aw az aB aA : Int) (aC : Bool) (af : List ByteArray) (ao : List ByteArray) (ap : List E115) (aq : List (Int × Bool)) (au : Int) (ar : Bool) (q1 : Int) (w0 : World) : O_slot → Rt
  | r0, e, w => e = .returned (.I r0) ∧ Now (Foot [box q0 [.P av, .I ax, .I aw, .U az, .U aB, .I aA, .bool aC] 142, box av [.slice ah af.length ag, .slice aj ao.length ai, .slice an ap.length am, .map al, .I au, .bool ar] 111, arr elS ah ag af, arr elS aj ai ao, arr el115 an am ap, mapB .i64 al aq]) w0 w [box q0 [.P av, .I ax, .I aw, .U az, .U aB, .I aA, .bool aC] 142, box av [.slice ah af.length ag, .slice aj ao.length ai, .slice an ap.length am, .map al, .I au, .bool ar] 111, arr elS ah ag af, arr elS aj ai ao, arr el115 an am ap, mapB .i64 al aq]
theorem t_slot {q0 av : Nat} {ah : Option Addr} {ag : Nat} {aj : Option Addr} {ai : Nat} {an : Option Addr} {am : Nat} {al : Option Nat} {ax aw az aB aA : Int} {aC : Bool} {af : List ByteArray} {ao : List ByteArray} {ap : List E115} {aq : List (Int × Bool)} {au : Int} {ar : Bool} {q1 : Int} {w0 : World} {r : O_slot} (hf : f_slot ax aw az aB aA aC af ao ap aq au ar q1 = some r) (hp : Hp w0 [box q0 [.P av, .I ax, .I aw, .U az, .U aB, .I aA, .bool aC] 142, box av [.slice ah af.length ag, .slice aj ao.length ai, .slice an ap.length am, .map al, .I au, .bool ar] 111, arr elS ah ag af, arr elS aj ai ao, arr el115 an am ap, mapB .i64 al aq]) : Calls Tryz.prog 78 #[.P q0, .U q1] w0 (o_slot q0 av ah ag aj ai an am al ax aw az aB aA aC af ao ap aq au ar q1 w0 r) := by
  apply c_slot q0 q1
  unfold p_slot
  unfold f_slot at hf
  let oo := o_slot q0 av ah ag aj ai an am al ax aw az aB aA aC af ao ap aq au ar q1 w0
  have n0 : Now (Foot [box q0 [.P av, .I ax, .I aw, .U az, .U aB, .I aA, .bool aC] 142, box av [.slice ah af.length ag, .slice aj ao.length ai, .slice an ap.length am, .map al, .I au, .bool ar] 111, arr elS ah ag af, arr elS aj ai ao, arr el115 an am ap, mapB .i64 al aq]) w0 w0 [box q0 [.P av, .I ax, .I aw, .U az, .U aB, .I aA, .bool aC] 142, box av [.slice ah af.length ag, .slice aj ao.length ai, .slice an ap.length am, .map al, .I au, .bool ar] 111, arr elS ah ag af, arr elS aj ai ao, arr el115 an am ap, mapB .i64 al aq] := Now.start hp
  exact (
  ⟨ax, n0.cell 1 rfl, ⟨az, n0.cell 3 rfl, LetF hf fun s4 h1 => fun n => have n2 := n0.drewN n; have n8 := n2.front5.front5.front5.front5.front5.front5; leafF (x := s4) (G := fun r => oo r (.returned (.I s4)) (w0.drewN n)) h1 ⟨rfl, n8⟩⟩⟩)
def ann_lay : Ann := ⟨[(4, .phased [7, 15])], [(2, [(14, .one (.int .i64))])], []⟩
def p_lay (q0 : Nat) (q1 : Int) (q2 : ByteArray) (R : Rt) (w : World) : Prop :=
  (∃ (x12 : Int), Cl w q0 1 (.I x12) ∧ (∃ I : Nat → List Value → World → Prop, (∃ n, I n [.I 0] w) ∧ ∀ n, ∀ (s14 : Int) (w_1 : World), I n [.I s14] w_1 → cond
  (decide (s14 < (W6 (Int.tdiv x12 64)))) ((∃ S : World → Prop, S (w_1.drewN 1) ∧ (∃ (x20 : Pa), (∀ w, S w → Cl w q0 0 (.pointer x20)) ∧ chk (decide (0 ≤
  (W6 ((W6 (s14 + 1)) * 64))) && decide ((W6 ((W6 (s14 + 1)) * 64)) ≤ (q2.size : Int))) (chk (decide (0 ≤ (W6 (s14 * 64))) &&
  decide ((W6 (s14 * 64)) ≤ (W6 ((W6 (s14 + 1)) * 64)))) ((Calls Tryz.prog 85 #[.P q0, .I q1, .I s14] (w_1.drewN 1)
  fun e w_2 => ∃ (x24 : Int), e = .returned (.I x24) ∧ (S w_2 ∧ (Calls Tryz.prog 79 #[.pointer x20, .I x24, .string (q2.extract ((W6 (s14 * 64)).toNat) ((IntKind.wrap .i64
  ((W6 (s14 + 1)) * 64)).toNat))] w_2 fun e w_3 => ∃ (x32 : Int), e = .returned (.I x32) ∧ cond (x32 != 0) (R (.returned (.I x32)) w_3) ((∃ m, m < n ∧ I m [.I (W6 (s14 + 1))] w_3)))))))))) ((∃ (x40 : Pa), Cl w_1 q0 0 (.pointer x40) ∧ (Calls Tryz.prog 80 #[.pointer x40] w_1 fun e w_4 => ∃ (x41 : Int), e =
  .returned (.I x41) ∧ R (.returned (.I x41)) w_4)))))
theorem v_lay (q0 : Nat) (q1 : Int) (q2 : ByteArray) (R : Rt) (w : World) :
  vc Tryz.prog ann_lay (Tryz.f81.body.getD .skip) (retQ Tryz.prog Tryz.f81.results.toList R) (initFr [.P q0, .I q1, .string q2] Tryz.f81.ntmps) w = p_lay q0 q1 q2 R w := by kernel_rfl
theorem c_lay (q0 : Nat) (q1 : Int) (q2 : ByteArray) (R : Rt) (w : World) (h : p_lay q0 q1 q2 R w) : Calls Tryz.prog 81 #[.P q0, .I q1, .string q2] w R :=
  calls_by ann_lay Tryz.func81 rfl (v_lay q0 q1 q2 R w) h
abbrev O_lay := (Int × Int × Bool × (List ByteArray) × (List ByteArray) × (List E115))
noncomputable def f_lay (ax aw az aB aA : Int) (aC : Bool) (af : List ByteArray) (ao : List ByteArray) (ap : List E115) (aq : List (Int × Bool)) (au : Int) (ar : Bool) (q1 : Int) (q2 : ByteArray) : Option O_lay :=
  (loopO (fun (s : (Int × Int × Bool × (List ByteArray) × (List E115))) => match s with | (s14, b4, b5, aE, aF) => ((cond (decide (s14 < (IntKind.wrap .i64 (Int.tdiv ax 64)))) (cond ((decide (0 ≤ (IntKind.wrap .i64 ((IntKind.wrap .i64 (s14 + 1)) * 64))) && decide ((IntKind.wrap .i64 ((IntKind.wrap .i64 (s14 + 1)) * 64)) ≤ (q2.size : Int)))) (cond ((decide (0 ≤ (IntKind.wrap .i64 (s14 * 64))) && decide ((IntKind.wrap .i64 (s14 * 64)) ≤ (IntKind.wrap .i64 ((IntKind.wrap .i64 (s14 + 1)) * 64))))) ((f_sector ax aw az aB aA aC af aE aF aq b4 b5 q1 s14).bind fun (x24 : O_sector) => ((f_Write af aE aF aq b4 b5 x24 (q2.extract ((IntKind.wrap .i64 (s14 * 64)).toNat) ((IntKind.wrap .i64 ((IntKind.wrap .i64 (s14 + 1)) * 64)).toNat))).bind fun (o : O_Write) => (match o with | (x32, w_3_r_q0_4, bE, aN, aO) => (cond (x32 != 0) (some (.inr (x32, w_3_r_q0_4, bE, af, aN, aO))) (some (.inl ((IntKind.wrap .i64 (s14 + 1)), w_3_r_q0_4, bE, aN, aO))))))) none) none) ((f_Sync af aE aF aq b4 b5).bind fun (o : O_Sync) => (match o with | (x41, aH, aI, b9, aG) => (some (.inr (x41, aH, aI, b9, aE, aG)))))) : Option ((Int × Int × Bool × (List ByteArray) × (List E115)) ⊕ O_lay))) (0, au, ar, ao, ap))
def o_lay (q0 av : Nat) (ah : Pa) (ag : Nat) (aj : Pa) (ai : Nat) (an : Pa) (am : Nat) (al : Option Nat) (ax aw az aB aA : Int) (aC : Bool) (af : List ByteArray) (ao : List ByteArray) (ap : List E115) (aq : List (Int × Bool)) (au : Int) (ar : Bool) (q1 : Int) (q2 : ByteArray) (w0 : World) : O_lay → Rt
  | (r0, r_q0_d_b_4, r_q0_d_b_5, aK, aL, aM), e, w => ∃ (aS : Pa), ∃ (aR : Nat), e = .returned (.I r0) ∧ Now (Foot [box q0 [.P av, .I ax, .I aw, .U az, .U aB, .I aA, .bool aC] 142, box av [.slice ah af.length ag, .slice aj ao.length ai, .slice an ap.length am, .map al, .I au, .bool ar] 111, arr elS ah ag af, arr elS aj ai ao, arr el115 an am ap, mapB .i64 al aq]) w0 w [box q0 [.P av, .I ax, .I aw, .U az, .U aB, .I aA, .bool aC] 142, box av [.slice ah aK.length ag, .slice aj aL.length ai, .slice aS aM.length aR, .map al, .I r_q0_d_b_4, .bool r_q0_d_b_5] 111, arr elS ah ag aK, arr elS aj ai aL, arr el115 aS aR aM, mapB .i64 al aq]
theorem t_lay {q0 av : Nat} {ah : Option Addr} {ag : Nat} {aj : Option Addr} {ai : Nat} {an : Option Addr} {am : Nat} {al : Option Nat} {ax aw az aB aA : Int} {aC : Bool} {af : List ByteArray} {ao : List ByteArray} {ap : List E115} {aq : List (Int × Bool)} {au : Int} {ar : Bool} {q1 : Int} {q2 : ByteArray} {w0 : World} {r : O_lay} (hf : f_lay ax aw az aB aA aC af ao ap aq au ar q1 q2 = some r) (hp : Hp w0 [box q0 [.P av, .I ax, .I aw, .U az, .U aB, .I aA, .bool aC] 142, box av [.slice ah af.length ag, .slice aj ao.length ai, .slice an ap.length am, .map al, .I au, .bool ar] 111, arr elS ah ag af, arr elS aj ai ao, arr el115 an am ap, mapB .i64 al aq]) : Calls Tryz.prog 81 #[.P q0, .I q1, .string q2] w0 (o_lay q0 av ah ag aj ai an am al ax aw az aB aA aC af ao ap aq au ar q1 q2 w0 r) := by
  apply c_lay q0 q1 q2
  unfold p_lay
  unfold f_lay at hf
  let FF := Foot [box q0 [.P av, .I ax, .I aw, .U az, .U aB, .I aA, .bool aC] 142, box av [.slice ah af.length ag, .slice aj ao.length ai, .slice an ap.length am, .map al, .I au, .bool ar] 111, arr elS ah ag af, arr elS aj ai ao, arr el115 an am ap, mapB .i64 al aq]
  let oo := o_lay q0 av ah ag aj ai an am al ax aw az aB aA aC af ao ap aq au ar q1 q2 w0
  have n0 : Now FF w0 w0 [box q0 [.P av, .I ax, .I aw, .U az, .U aB, .I aA, .bool aC] 142, box av [.slice ah af.length ag, .slice aj ao.length ai, .slice an ap.length am, .map al, .I au, .bool ar] 111, arr elS ah ag af, arr elS aj ai ao, arr el115 an am ap, mapB .i64 al aq] := Now.start hp
  exact (
  ⟨ax, n0.cell 1 rfl, loopF hf fun It1 t2 h3 => ⟨fun nI vsI wI => match vsI with | [.I s14] => ∃ (b4 : Int), ∃ (b5 : Bool), ∃ (aE : List ByteArray), ∃ (bd : Pa), ∃ (bc : Nat), ∃ (aF : List E115), Now FF w0 wI [box q0 [.P av, .I ax, .I aw, .U az, .U aB, .I aA, .bool aC] 142, box av [.slice ah af.length ag, .slice aj aE.length ai, .slice bd aF.length bc, .map al, .I b4, .bool b5] 111, arr elS ah ag af, arr elS aj ai aE, arr el115 bd bc aF, mapB .i64 al aq] ∧ It1 nI (s14, b4, b5, aE, aF) | _ => False, (h3.elim fun n78 i77 => have n14 := n0.front5.front5.front5.front5.front5.front5; ⟨n78, ⟨au, ar, ao, an, am, ap, n14, i77⟩⟩), fun n s14 w_1 ⟨b4, b5, aE, bd, bc, aF, n7, t8⟩ => (t2 _ _ t8).elim fun x4 ⟨h5, t6⟩ => condF h5 (fun c15 h16 => have n17 := n7.drewN 1; ⟨fun w2 => (box q0 [.P av, .I ax, .I aw, .U az, .U aB, .I aA, .bool aC] 142).holds w2 ∧ True, ⟨n17.hp.1, trivial⟩, ⟨(some ⟨av, 0, none⟩), fun _ hS => (Blk.cell hS.1 0).trans rfl, chkF h16 fun c18 h19 => chkF h19 fun c20 h21 => have n27 := n17.front5.front5.front5.front5.front5.front5; bindF h21 (fun x24 h28 h30 => (t_sector h28 (n27.take [_, _, _, _, _, _])).mono fun _ w_2 ⟨e31, n32⟩ => ⟨x24, e31, have n29 := n27.call [_, _, _, _, _, _] n32; ⟨⟨n29.hp.1, trivial⟩, have n37 := n29.front5.front5.front5.front5.front5; bindF h30 (fun o => match o with | (x32, w_3_r_q0_4, bE, aN, aO) => fun h38 h40 => (t_Write h38 (n37.take [_, _, _, _, _])).mono fun _ w_3 ⟨w_3_r_p_cell_q0_2, w_3_r_c_cell_q0_2, e41, n42⟩ => ⟨x32, e41, have n39 := n37.call [_, _, _, _, _] n42; condF h40 (fun c43 h44 => have n50 := n39.front4.front4.front4.front4.front4.front5; leafX oo (.returned (.I x32)) w_3 (loopExit h44 t6) ⟨w_3_r_p_cell_q0_2, w_3_r_c_cell_q0_2, rfl, n50⟩) (fun c43 h51 => have n57 := n39.front4.front4.front4.front4.front4.front5; (loopCont h51 t6).elim fun m58 i59 => ⟨m58, i59.1, ⟨w_3_r_q0_4, bE, aN, w_3_r_p_cell_q0_2, w_3_r_c_cell_q0_2, aO, n57, i59.2⟩⟩)⟩)⟩⟩)⟩⟩) (fun c15 h60 => ⟨(some ⟨av, 0, none⟩), n7.cell 0 rfl, have n65 := n7.front5.front5.front5.front5.front5; bindF h60 (fun o => match o with | (x41, aH, aI, b9, aG) => fun h66 h68 => (t_Sync h66 (n65.take [_, _, _, _, _])).mono fun _ w_4 ⟨bf, be, e69, n70⟩ => ⟨x41, e69, have n67 := n65.call [_, _, _, _, _] n70; have n76 := n67.front4.front4.front4.front4.front4.front5; leafX oo (.returned (.I x41)) w_4 (loopExit h68 t6) ⟨bf, be, rfl, n76⟩⟩)⟩)⟩⟩)
def ann_master : Ann := ⟨[], [], []⟩
def p_master (q0 : Nat) (q1 q2 : Int) (R : Rt) (w : World) : Prop :=
  Nw w (.cells #[.int .u8 77, .int .u8 (IntKind.wrap .u8 q1)] 5) fun b w_1 => (∃ (x15 : ByteArray), ∃ w_2, (Go.convert 88 9 (.slice (some ⟨b, 0, none⟩) 2 2)).run Tryz.prog w_1 = .ok (.string x15) w_2
  ∧ (Calls Tryz.prog 117 #[.U q2, .string x15] w_2 fun e w_3 => ∃ (x16a : ByteArray) (x16b : Int), e = .returned (.tuple #[.string x16a, .I x16b]) ∧ (∃ (x22 : Pa), w_3.cell?
  ⟨q0, 0, none⟩ = some (.pointer x22) ∧ (Calls Tryz.prog 79 #[.pointer x22, .I q1, .string x16a] w_3 fun e w_4 => ∃ (x25 : Int), e = .returned (.I x25) ∧ cond (x25 != 0) (R (.returned
  (.I x25)) w_4) ((∃ (x32 : Pa), Cl w_4 q0 0 (.pointer x32) ∧ (Calls Tryz.prog 80 #[.pointer x32] w_4 fun e w_5 => ∃ (x33 : Int), e = .returned (.I x33) ∧ R
  (.returned (.I x33)) w_5)))))))
theorem v_master (q0 : Nat) (q1 q2 : Int) (R : Rt) (w : World) :
  vc Tryz.prog ann_master (Tryz.f82.body.getD .skip) (retQ Tryz.prog Tryz.f82.results.toList R) (initFr [.P q0, .I q1, .U q2] Tryz.f82.ntmps) w = p_master q0 q1 q2 R w := by kernel_rfl
theorem c_master (q0 : Nat) (q1 q2 : Int) (R : Rt) (w : World) (h : p_master q0 q1 q2 R w) : Calls Tryz.prog 82 #[.P q0, .I q1, .U q2] w R :=
  calls_by ann_master Tryz.func82 rfl (v_master q0 q1 q2 R w) h
abbrev O_master := (Int × Int × Bool × (List ByteArray) × (List ByteArray) × (List E115))
noncomputable def f_master (ax aw az aB aA : Int) (aC : Bool) (af : List ByteArray) (ao : List ByteArray) (ap : List E115) (aq : List (Int × Bool)) (au : Int) (ar : Bool) (q1 q2 : Int) : Option O_master :=
  (cond (bytesIn [(77 : Int), (IntKind.wrap .u8 q1)]) ((f_Wrap q2 (strOf [(77 : Int), (IntKind.wrap .u8 q1)])).bind fun (o : O_Wrap) => (match o with | (x16a, x16b) => ((f_Write af ao ap aq au ar q1 x16a).bind fun (o : O_Write) => (match o with | (x25, aH, aI, aJ, aG) => (cond (x25 != 0) (some (x25, aH, aI, af, aJ, aG)) ((f_Sync af aJ aG aq aH aI).bind fun (o : O_Sync) => (match o with | (x33, dn, dp, ba, bb) => (some (x33, dn, dp, ba, aJ, bb))))))))) none)
def o_master (q0 av : Nat) (ah : Pa) (ag : Nat) (aj : Pa) (ai : Nat) (an : Pa) (am : Nat) (al : Option Nat) (ax aw az aB aA : Int) (aC : Bool) (af : List ByteArray) (ao : List ByteArray) (ap : List E115) (aq : List (Int × Bool)) (au : Int) (ar : Bool) (q1 q2 : Int) (w0 : World) : O_master → Rt
  | (r0, r_q0_d_b_4, r_q0_d_b_5, aK, aL, aM), e, w => ∃ (aS : Pa), ∃ (aR : Nat), e = .returned (.I r0) ∧ Now (Foot [box q0 [.P av, .I ax, .I aw, .U az, .U aB, .I aA, .bool aC] 142, box av [.slice ah af.length ag, .slice aj ao.length ai, .slice an ap.length am, .map al, .I au, .bool ar] 111, arr elS ah ag af, arr elS aj ai ao, arr el115 an am ap, mapB .i64 al aq]) w0 w [box q0 [.P av, .I ax, .I aw, .U az, .U aB, .I aA, .bool aC] 142, box av [.slice ah aK.length ag, .slice aj aL.length ai, .slice aS aM.length aR, .map al, .I r_q0_d_b_4, .bool r_q0_d_b_5] 111, arr elS ah ag aK, arr elS aj ai aL, arr el115 aS aR aM, mapB .i64 al aq]
theorem t_master {q0 av : Nat} {ah : Option Addr} {ag : Nat} {aj : Option Addr} {ai : Nat} {an : Option Addr} {am : Nat} {al : Option Nat} {ax aw az aB aA : Int} {aC : Bool} {af : List ByteArray} {ao : List ByteArray} {ap : List E115} {aq : List (Int × Bool)} {au : Int} {ar : Bool} {q1 q2 : Int} {w0 : World} {r : O_master} (hf : f_master ax aw az aB aA aC af ao ap aq au ar q1 q2 = some r) (hp : Hp w0 [box q0 [.P av, .I ax, .I aw, .U az, .U aB, .I aA, .bool aC] 142, box av [.slice ah af.length ag, .slice aj ao.length ai, .slice an ap.length am, .map al, .I au, .bool ar] 111, arr elS ah ag af, arr elS aj ai ao, arr el115 an am ap, mapB .i64 al aq]) : Calls Tryz.prog 82 #[.P q0, .I q1, .U q2] w0 (o_master q0 av ah ag aj ai an am al ax aw az aB aA aC af ao ap aq au ar q1 q2 w0 r) := by
  apply c_master q0 q1 q2
  unfold p_master
  unfold f_master at hf
  let oo := o_master q0 av ah ag aj ai an am al ax aw az aB aA aC af ao ap aq au ar q1 q2 w0
  have n0 : Now (Foot [box q0 [.P av, .I ax, .I aw, .U az, .U aB, .I aA, .bool aC] 142, box av [.slice ah af.length ag, .slice aj ao.length ai, .slice an ap.length am, .map al, .I au, .bool ar] 111, arr elS ah ag af, arr elS aj ai ao, arr el115 an am ap, mapB .i64 al aq]) w0 w0 [box q0 [.P av, .I ax, .I aw, .U az, .U aB, .I aA, .bool aC] 142, box av [.slice ah af.length ag, .slice aj ao.length ai, .slice an ap.length am, .map al, .I au, .bool ar] 111, arr elS ah ag af, arr elS aj ai ao, arr el115 an am ap, mapB .i64 al aq] := Now.start hp
  exact (
  n0.Nw (cs := [.int .u8 77, .int .u8 (IntKind.wrap .u8 q1)]) fun b w_1 n1 => chkE hf fun c2 h3 => ⟨strOf [(77 : Int), (IntKind.wrap .u8 q1)], _, toStr (box_reads (E := elI .u8) (xs := [(77 : Int), (IntKind.wrap .u8 q1)]) n1.hp.1 rfl) c2 rfl Tryz.underlying88 Tryz.underlying5 Tryz.underlying9, bindF h3 (fun o => match o with | (x16a, x16b) => fun h4 h6 => (t_Wrap h4 (n1.take [])).mono fun _ w_3 ⟨e7, n8⟩ => ⟨x16a, x16b, e7, have n5 := n1.call [] n8; ⟨(some ⟨av, 0, none⟩), (n5.front1).cell 0 rfl, have n13 := n5.front6.front6.front6.front6.front6; bindF h6 (fun o => match o with | (x25, aH, aI, aJ, aG) => fun h14 h16 => (t_Write h14 (n13.take [_, _, _, _, _])).mono fun _ w_4 ⟨bf, be, e17, n18⟩ => ⟨x25, e17, have n15 := n13.call [_, _, _, _, _] n18; condF h16 (fun c19 h20 => have n27 := n15.front4.front4.front4.front4.front4.front6.takeN 6; leafX oo (.returned (.I x25)) w_4 h20 ⟨bf, be, rfl, n27⟩) (fun c19 h28 => ⟨(some ⟨av, 0, none⟩), (n15.front6).cell 0 rfl, have n33 := n15.front4.front4.front4.front4.front4; bindF h28 (fun o => match o with | (x33, dn, dp, ba, bb) => fun h34 h36 => (t_Sync h34 (n33.take [_, _, _, _, _])).mono fun _ w_5 ⟨w_5_r_p_cell_q0_2, w_5_r_c_cell_q0_2, e37, n38⟩ => ⟨x33, e37, have n35 := n33.call [_, _, _, _, _] n38; have n45 := n35.front4.front4.front4.front4.front4.front6.takeN 6; leafX oo (.returned (.I x33)) w_5 h36 ⟨w_5_r_p_cell_q0_2, w_5_r_c_cell_q0_2, rfl, n45⟩⟩)⟩)⟩)⟩⟩)⟩)
def ann_fits : Ann := ⟨[], [], []⟩
def p_fits (q0 : Nat) (q1 q2 : Int) (R : Rt) (w : World) : Prop :=
  (Calls Tryz.prog 37 #[.I q1, .I q2] w fun e w_1 => ∃ (x14a x14b : Int), e = .returned (.tuple #[.I x14a, .I x14b]) ∧ cond (x14b != 0) (R (.returned (.I x14b)) w_1) ((Calls Tryz.prog 84 #[.P q0, .I (W6 (x14a - 1))] w_1 fun e w_2 => ∃ (x26a : ByteArray) (x26b : Int), e = .returned (.tuple #[.string x26a,
  .I x26b]) ∧ cond (x26b != 0) (R (.returned (.I x26b)) w_2) (R (.returned (.I 0)) w_2))))
theorem v_fits (q0 : Nat) (q1 q2 : Int) (R : Rt) (w : World) :
  vc Tryz.prog ann_fits (Tryz.f77.body.getD .skip) (retQ Tryz.prog Tryz.f77.results.toList R) (initFr [.P q0, .I q1, .I q2] Tryz.f77.ntmps) w = p_fits q0 q1 q2 R w := by kernel_rfl
theorem c_fits (q0 : Nat) (q1 q2 : Int) (R : Rt) (w : World) (h : p_fits q0 q1 q2 R w) : Calls Tryz.prog 77 #[.P q0, .I q1, .I q2] w R :=
  calls_by ann_fits Tryz.func77 rfl (v_fits q0 q1 q2 R w) h
abbrev O_fits := Int
noncomputable def f_fits (ac : List ByteArray) (aa : List ByteArray) (a0 : List E115) (ak : List (Int × Bool)) (ad : Int) (ae : Bool) (q1 q2 : Int) : Option O_fits :=
  ((f_Sectors q1 q2).bind fun (o : O_Sectors) => (match o with | (x14a, x14b) => (cond (x14b != 0) (some x14b) ((f_Read ac aa a0 ak ad ae (IntKind.wrap .i64 (x14a - 1))).bind fun (o : O_Read) => (match o with | (x26a, x26b) => (cond (x26b != 0) (some x26b) (some 0)))))))
def o_fits (q0 : Nat) (a9 : Pa) (a8 : Nat) (a4 : Pa) (a3 : Nat) (a6 : Pa) (a5 : Nat) (ab : Option Nat) (ac : List ByteArray) (aa : List ByteArray) (a0 : List E115) (ak : List (Int × Bool)) (ad : Int) (ae : Bool) (q1 q2 : Int) (w0 : World) : O_fits → Rt
  | r0, e, w => e = .returned (.I r0) ∧ Now (Foot [box q0 [.slice a9 ac.length a8, .slice a4 aa.length a3, .slice a6 a0.length a5, .map ab, .I ad, .bool ae] 111, arr elS a9 a8 ac, arr elS a4 a3 aa, arr el115 a6 a5 a0, mapB .i64 ab ak]) w0 w [box q0 [.slice a9 ac.length a8, .slice a4 aa.length a3, .slice a6 a0.length a5, .map ab, .I ad, .bool ae] 111, arr elS a9 a8 ac, arr elS a4 a3 aa, arr el115 a6 a5 a0, mapB .i64 ab ak]
theorem t_fits {q0 : Nat} {a9 : Option Addr} {a8 : Nat} {a4 : Option Addr} {a3 : Nat} {a6 : Option Addr} {a5 : Nat} {ab : Option Nat} {ac : List ByteArray} {aa : List ByteArray} {a0 : List E115} {ak : List (Int × Bool)} {ad : Int} {ae : Bool} {q1 q2 : Int} {w0 : World} {r : O_fits} (hf : f_fits ac aa a0 ak ad ae q1 q2 = some r) (hp : Hp w0 [box q0 [.slice a9 ac.length a8, .slice a4 aa.length a3, .slice a6 a0.length a5, .map ab, .I ad, .bool ae] 111, arr elS a9 a8 ac, arr elS a4 a3 aa, arr el115 a6 a5 a0, mapB .i64 ab ak]) : Calls Tryz.prog 77 #[.P q0, .I q1, .I q2] w0 (o_fits q0 a9 a8 a4 a3 a6 a5 ab ac aa a0 ak ad ae q1 q2 w0 r) := by
  apply c_fits q0 q1 q2
  unfold p_fits
  unfold f_fits at hf
  let oo := o_fits q0 a9 a8 a4 a3 a6 a5 ab ac aa a0 ak ad ae q1 q2 w0
  have n0 : Now (Foot [box q0 [.slice a9 ac.length a8, .slice a4 aa.length a3, .slice a6 a0.length a5, .map ab, .I ad, .bool ae] 111, arr elS a9 a8 ac, arr elS a4 a3 aa, arr el115 a6 a5 a0, mapB .i64 ab ak]) w0 w0 [box q0 [.slice a9 ac.length a8, .slice a4 aa.length a3, .slice a6 a0.length a5, .map ab, .I ad, .bool ae] 111, arr elS a9 a8 ac, arr elS a4 a3 aa, arr el115 a6 a5 a0, mapB .i64 ab ak] := Now.start hp
  exact (
  bindF hf (fun o => match o with | (x14a, x14b) => fun h1 h3 => (tq_Sectors h1 _).mono fun _ w_1 ⟨e4, d37⟩ => ⟨x14a, x14b, e4, have n2 := n0.pass d37.chg; condF h3 (fun c6 h7 => have n12 := n2.front4.front4.front4.front4.front4; leafX oo (.returned (.I x14b)) w_1 h7 ⟨rfl, n12⟩) (fun c6 h13 => have n18 := n2.front4.front4.front4.front4.front4; bindF h13 (fun o => match o with | (x26a, x26b) => fun h19 h21 => (t_Read h19 (n18.take [_, _, _, _, _])).mono fun _ w_2 ⟨e22, n23⟩ => ⟨x26a, x26b, e22, have n20 := n18.call [_, _, _, _, _] n23; condF h21 (fun c24 h25 => have n30 := n20.front4.front4.front4.front4.front4; leafX oo (.returned (.I x26b)) w_2 h25 ⟨rfl, n30⟩) (fun c24 h31 => have n36 := n20.front4.front4.front4.front4.front4; leafX oo (.returned (.I 0)) w_2 h31 ⟨rfl, n36⟩)⟩))⟩))
end Go.Proofs.YtcgigdfahlmfaaaGreatDoor
