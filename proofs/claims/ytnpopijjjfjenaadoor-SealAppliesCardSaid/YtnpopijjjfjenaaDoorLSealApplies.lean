/-
  SealApplies
-/
import Derived.Test.YtnpopijjjfjenaaDoorRows
import Derived.Test.YtnpopijjjfjenaaDoorLawA
import Derived.Test.YtnpopijjjfjenaaDoorRead
import Derived.WalkKit
import Derived.ProofKit
import Derived.OpenShut
import Derived.ShutString
import Derived.ChangeOld
import Derived.Below
import Derived.SizedLaws
import Derived.Test.YtnpopijjjfjenaaDoorLaid
import Derived.Test.YtnpopijjjfjenaaDoorTie
import Derived.Test.YtnpopijjjfjenaaDoorCards
import Derived.SevenTiedAt
namespace Go.Proofs.YtnpopijjjfjenaaDoor.lSealApplies
open Go.ChangeShapes Go.WideShapes Go.ChangeAt Go.RowKit Go.Vc
open Go.ChangeMaps (open_string shut_string)
set_option linter.unusedVariables false

theorem own : ownKnob Tryd.prog.godebug = none := by kernel_rfl
theorem laidOut : laidOutB Tryd.prog = true := by kernel_rfl

theorem witness_row (os : Os) {H : Type} (enc : TypeId × Value → H) :
    (OpenSpec.ofChange Rows.sealAppliesSpec).preRow enc Tryd.prog Tryd.f4 Rows.sealAppliesRow.domain false Rows.sealAppliesRow.laid ((laidp.laidWorld os).forCall (fun _ _ => 0) ⟨#[], #[.string ⟨#[]⟩, (.agg #[.int .i64 0, .int .i64 0, .string (ByteArray.mk #[])])], []⟩).memory #[.string ⟨#[]⟩, (.agg #[.int .i64 0, .int .i64 0, .string (ByteArray.mk #[])])] := by
  have hw : (DataW.whole enc Tryd.prog ((laidp.laidWorld os).forCall (fun _ _ => 0) ⟨#[], #[.string ⟨#[]⟩, (.agg #[.int .i64 0, .int .i64 0, .string (ByteArray.mk #[])])], []⟩).memory Tryd.f4.params.toList (OpenSpec.ofChange Rows.sealAppliesSpec).vars false (#[.string ⟨#[]⟩, (.agg #[.int .i64 0, .int .i64 0, .string (ByteArray.mk #[])])] : Array Value).toList 8).isSome = true := by kernel_rfl
  obtain ⟨x, hx⟩ := Option.isSome_iff_exists.1 hw
  exact OpenSpec.preRow_of_cond 8 hx rfl (fun k hk => by cases hk) (by kernel_rfl) (laidp.laid_met os _)

set_option maxRecDepth 100000 in
theorem lifted (os : Os) (started : os.Started) (H : Type) (enc : TypeId × Value → H) :
    ReturnsInHanded {} Tryd.checked os 4 .any ((OpenSpec.ofChange Rows.sealAppliesSpec).preRow enc Tryd.prog Tryd.f4 Rows.sealAppliesRow.domain false Rows.sealAppliesRow.laid) (Rows.sealAppliesSpec.post enc Tryd.prog Tryd.f4 false true false false) := by
  refine returnsInHanded_of_row (C := Tryd.checked) (s := OpenSpec.ofChange Rows.sealAppliesSpec) (F := fun _ _ _ => 0) own started (by kernel_rfl) Tryd.func4
    (witness_row_atRef (enc := enc) (C := Tryd.checked) false (laidp.laidWorld os) #[.string ⟨#[]⟩, (.agg #[.int .i64 0, .int .i64 0, .string (ByteArray.mk #[])])] rfl (by kernel_rfl) (by kernel_rfl) (by kernel_rfl) (witness_row os enc)) ?_
  intro W base args ds gs before hval0 hW hcnd _ hsz0 hL _ _
  show Calls Tryd.prog 4 args W fun e W' => ∃ v, e = .returned v ∧ Rows.sealAppliesSpec.post enc Tryd.prog Tryd.f4 false true false false W args v W'
  have hsz : (DataW.weightsEach Tryd.prog (Tryd.f4.params.toList ++ Rows.sealAppliesSpec.plain.varTypes Tryd.prog) (ds ++ gs)).all (· ≤ reachBytes) = true := hsz0
  have hval : ∀ (j : Nat) t v, Tryd.f4.params[j]? = some t → args[j]? = some v → Value.okWide Tryd.prog W .any base t v := hval0
  have hW' := hW
  obtain ⟨p, q, hA0, hV, rfl, hfz, hnd⟩ := hW
  have hA : DataW.TrodAll enc Tryd.prog W 0 (fun _ => true) true Tryd.f4.params.toList args.toList ds p := hA0
  rw [Tryd.params4] at hA hval hsz
  obtain ⟨v0, vs0, d0, ds0, p0, q0, hargs, rfl, rfl, h0, r0⟩ := trodAll_cons hA
  obtain ⟨v1, vs1, d1, ds1, p1, q1, rfl, rfl, rfl, h1, r1⟩ := trodAll_cons r0
  obtain ⟨rfl, rfl, rfl⟩ := trodAll_nil r1
  obtain rfl : args = #[v0, v1] := by cases args; simp_all
  obtain ⟨rfl, rfl⟩ := trodVars_none hV
  have k0 := h0
  have lt0 : ∀ x ∈ p0, x.block < W.heap.size := by obtain ⟨m, hm⟩ := k0; exact DataW.trod_lt m _ _ _ hm
  have k1 := h1
  have lt1 : ∀ x ∈ p1, x.block < W.heap.size := by obtain ⟨m, hm⟩ := k1; exact DataW.trod_lt m _ _ _ hm
  obtain ⟨a0, rfl, rfl, rfl, y0⟩ := open_string Tryd.underlying9 (hval 0 9 v0 rfl rfl) h0
  have w0 : a0.size ≤ 140737488351232 := by
    have z := sized_string hsz (j := 0) (t := 9) rfl rfl
    rw [Array.length_toList] at z
    exact z
  obtain ⟨l1, m1, rfl, u1⟩ := rd_struct Tryd.underlying36 (hval 1 36 v1 rfl rfl) h1
  have w1 : ∃ n, Rd Tryd.prog W n 36 l1 := ⟨m1, u1⟩
  clear hA0 hval0 hsz0 hsz
  refine (law_SealApplies W a0 w0 l1 w1).mono fun e W' ⟨he, chg⟩ => ?_
  subst he
  have bel := chg.below
  exact ⟨_, rfl, _, _, _, [], _, [], hW', trodAll_mk1 (shut_bool Tryd.underlying4 _), (trodAll_cons_mk (Below.trod laidOut (by kernel_rfl) (of_decide_eq_true (by kernel_rfl)) k0 bel lt0) (trodAll_cons_mk (Below.trod laidOut (by kernel_rfl) (of_decide_eq_true (by kernel_rfl)) k1 bel lt1) trodAll_mk0)), rfl, bel.frame _, fun h => by cases h⟩

theorem over : Rows.sealAppliesRow.holds Tryd.pinned (OpenSpec.ofChange Rows.sealAppliesSpec) :=
  OpenClaim.holds_of_wide 4 Tryd.f4 rfl rfl rfl rfl rfl rfl rfl ⟨rfl, rfl, rfl, rfl, rfl⟩ rfl rfl rfl rfl rfl (by kernel_rfl) Tryd.func4 (by kernel_rfl)
    (of_decide_eq_true (by kernel_rfl)) (by unfold Func.isWrapper; first | (rw [if_pos (by decide +kernel)]; kernel_rfl) | (rw [if_neg (by decide +kernel)]; exact ⟨rfl, rfl⟩))
    (fun os started H enc _ => by rw [OpenClaim.pre_eq_preRow]; exact lifted os started H enc)

theorem proved : Rows.SealAppliesCardSaid :=
  Claim7.holds_tied_plain_at .later [] [.data, .pinned] true (true, "77fbb6897bb1b25e195765dd42877963a905785d8c5126e87e56324716246165") false over (fun _ h => by cases h) (by kernel_rfl) (fun _ h => by cases h) sealApplies_row_tie rfl ⟨rfl, rfl⟩ (by kernel_rfl) rfl
    (fun f fn hf hfn => by
      obtain rfl : f = 4 := Option.some.inj ((show Tryd.prog.funcNamed "cameo/cameolaw02.SealApplies" = some 4 by kernel_rfl).symm.trans hf) |>.symm
      obtain rfl : fn = Tryd.f4 := (Option.some.inj (Tryd.func4.symm.trans hfn)).symm
      exact ⟨by kernel_rfl, fun j t ht => by
        rw [Tryd.params4] at ht
        have hm : t ∈ [9, 36] := by simpa using Array.mem_of_getElem? ht
        have hall : ([9, 36].all fun u => !Tryd.prog.wantsStandIn u) = true := by kernel_rfl
        exact (show Tryd.prog.wantsStandIn t = false by simpa using List.all_eq_true.1 hall t hm)⟩)
    (by kernel_rfl)
#print axioms proved
end Go.Proofs.YtnpopijjjfjenaaDoor.lSealApplies
