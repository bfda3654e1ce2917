/-
  awake: a byte that sounds.
-/
import Derived.Test.YtccmpceifheejaaLw
namespace Go.Proofs.Ytccmpceifheejaa
open Go.Vc
set_option linter.unusedVariables false
set_option linter.unusedSimpArgs false
set_option maxHeartbeats 4000000
def off4 (S : PS) : Prop := S.c0.on = false ∧ S.c1.on = false ∧ S.c2.on = false ∧ S.c3.on = false
theorem chL_off {e : Bool} {c : Ch} (h : c.on = false) : (chL e c).on = false := by
  cases e
  · exact h
  · show lenOn c = false; unfold lenOn; rw [h]; rfl
theorem chS_off {e : Bool} {c : Ch} (h : c.on = false) : (chS e c).on = false := by
  cases e
  · exact h
  · show (swv c.on _ _ _ _ _).1 = false; rw [h]; rfl
theorem chE_off {e : Bool} {c : Ch} (h : c.on = false) : (chE e c).on = false := by
  cases e <;> exact h
theorem tickc_off {y m : Int} {c : Ch} (h : c.on = false) : (tickc y m c).on = false := by
  unfold tickc; rw [if_neg (by rw [h]; decide)]; exact h
theorem one_off {S : PS} (h : off4 S) : off4 (one S) := by
  obtain ⟨h0, h1, h2, h3⟩ := h
  have t : off4 ({ tick S with now := S.now + 1 } : PS) := by
    refine ⟨tickc_off h0, tickc_off h1, tickc_off h2, ?_⟩
    show (if S.c3.on = true then _ else _ : Ch).on = false
    rw [if_neg (by rw [h3]; decide)]; exact h3
  unfold one
  simp only
  split
  · exact ⟨chE_off (chS_off (chL_off t.1)), chE_off (chL_off t.2.1), chL_off t.2.2.1, chE_off (chL_off t.2.2.2)⟩
  · exact t
theorem runN_off {S : PS} (h : off4 S) : ∀ n, off4 (runN n S)
  | 0 => h
  | n + 1 => one_off (runN_off h n)
theorem oSq_off {c : Ch} (h : c.on = false) : oSq c = 0 := by unfold oSq; rw [h]; rfl
theorem oNz_off {S : PS} (h : S.c3.on = false) : oNz S = 0 := by unfold oNz; rw [h]; rfl
def C0 : Ch := ⟨false, 0, 0, false, 0, 0, false, 0, 0, 0, 0, 0, 0, 0, false, 0⟩
def S0 : PS := ⟨C0, C0, C0, C0, false, 0, 0, false, 0, false, 0, 0, 0, 0⟩
def V0 : US := ⟨[], 0, [], 0, 0, 0, false, 512, [], 512, 0, [], [], S0⟩
def V1 : US := ⟨[], 0, [], 0, 0, 0, true, 512, [], 512, 0, [], [], S0⟩
def V2 : US := ⟨[], 0, [], 0, 0, 772, true, 512, [], 512, 0, [], [], S0⟩
def V3 : US := ⟨[16, 0, 0, 0], 0, [], 0, 0, 772, true, 512, [], 512, 0, [16, 0, 0, 0], [], S0⟩
def V4 : US := ⟨[0, 0, 0], 16, [], 0, 0, 772, true, 512, [], 512, 0, [0, 0, 0], [], S0⟩
theorem run0 {U : US} (h : U.nx = 512) (h2 : U.ps.now = 0) (h3 : U.cy = 0) : runU U 0 = U := by
  rw [runU_end (by omega), h2]
  show ({ U with cy := 0 } : US) = U
  rw [← h3]
theorem c0ok {m : Int} (hm : 0 < m) : COk m C0 := ⟨(fun k => by cases k), ⟨Int.le_refl 0, hm⟩, (by decide), (by decide), (by decide), (by decide), (by decide), (by decide)⟩
theorem s0ok : GOk S0 := ⟨c0ok (by decide), c0ok (by decide), c0ok (by decide), c0ok (by decide), by decide, by decide, by decide⟩
theorem p0ok : POk S0 := ⟨by decide, by decide⟩
theorem g0 : Good V0 := ⟨⟨s0ok, p0ok, by decide, by decide, by decide, by decide, by decide⟩, by decide, by decide, by decide, by decide, by decide⟩
theorem g1 : Good V1 := ⟨⟨s0ok, p0ok, by decide, by decide, by decide, by decide, by decide⟩, by decide, by decide, by decide, by decide, by decide⟩
theorem g2 : Good V2 := ⟨⟨s0ok, p0ok, by decide, by decide, by decide, by decide, by decide⟩, by decide, by decide, by decide, by decide, by decide⟩
theorem g3 : Good V3 := ⟨⟨s0ok, p0ok, by decide, by decide, by decide, by decide, by decide⟩, by decide, by decide, by decide, by decide, by decide⟩
theorem g4 : Good V4 := ⟨⟨s0ok, p0ok, by decide, by decide, by decide, by decide, by decide⟩, by decide, by decide, by decide, by decide, by decide⟩
theorem w1 : wU V0 2 128 = V1 := by
  unfold wU
  rw [if_neg (by decide), if_neg (by decide), if_pos rfl]
  rfl
theorem w2 : wU V1 1 772 = V2 := by
  unfold wU
  rw [if_neg (by decide), if_pos rfl, show bits .and .u16 772 30479 = 772 by decide, show btm 772 11 = false from rfl, show btm 772 15 = false from rfl]
  rfl
theorem f3 : fU V2 0 16 = V3 := by
  unfold fU
  rw [if_pos rfl]
  rfl
theorem o4 : oU V3 0 = V4 ∧ oH V3 0 = 3 := ⟨rfl, rfl⟩
theorem out4 : (runU V4 512).out = [⟨2048, 2048⟩] := by
  have e : ((512 - V4.nx) / 512 + 1).toNat = 1 := rfl
  unfold runU
  rw [e]
  have hs : off4 (runN (V4.nx - V4.ps.now).toNat V4.ps) := runN_off ⟨rfl, rfl, rfl, rfl⟩ _
  show ([⟨side1 { V4 with ps := runN (V4.nx - V4.ps.now).toNat V4.ps }, side0 { V4 with ps := runN (V4.nx - V4.ps.now).toNat V4.ps }⟩] : List E38) = _
  generalize runN (V4.nx - V4.ps.now).toNat V4.ps = T at hs ⊢
  obtain ⟨h0, h1, h2, h3⟩ := hs
  have e1 : side1 { V4 with ps := T } = 2048 := by
    unfold side1
    show cond (!V4.ma) 0 (clA (fA _ _ (fA _ _ (shA (gA (ad _ (ad _ (ad _ (ad _ 0 (oSq T.c0)) (oSq T.c1)) 0) (oNz T)) _ _) _) _) _) _) = 2048
    rw [oSq_off h0, oSq_off h1, oNz_off h3]
    rfl
  have e0 : side0 { V4 with ps := T } = 2048 := by
    unfold side0
    show cond (!V4.ma) 0 (clA (fA _ _ (fA _ _ (shA (gA (ad _ (ad _ (ad _ (ad _ 0 (oSq T.c0)) (oSq T.c1)) 0) (oNz T)) _ _) _) _) _) _) = 2048
    rw [oSq_off h0, oSq_off h1, oNz_off h3]
    rfl
  rw [e1, e0]
theorem awake_eq : f_awake = some true := by
  unfold f_awake
  refine (bind_of () rfl).trans ?_
  have a1 := Write_eq g0 (q := 0) (by decide) (by decide) (r := 2) (x := 128) (by decide)
  rw [run0 rfl rfl rfl, w1] at a1
  have a2 := Write_eq g1 (q := 0) (by decide) (by decide) (r := 1) (x := 772) (by decide)
  rw [run0 rfl rfl rfl, w2] at a2
  have a3 := Feed_eq (U := V2) (by decide) (by decide) (i := 0) (x := 16) (by decide)
  rw [f3] at a3
  have a4 := Over_eq g3 (by decide) (by decide) (q := 0) (by decide) (by decide) (t := 0)
  rw [run0 rfl rfl rfl, o4.1, o4.2] at a4
  have a5 := Take_eq g4 (q := 512) (by decide) (by decide)
  rw [out4] at a5
  refine (bind_of _ a1).trans ?_
  refine (bind_of _ a2).trans ?_
  refine (bind_of _ a3).trans ?_
  refine (bind_of _ a4).trans ?_
  refine (bind_of _ a5).trans ?_
  rfl
theorem SoundRuns_true (xs : List E42) (hl : xs.length ≤ 140737488355328) (hx : ∀ c ∈ xs, 0 ≤ c.X ∧ c.X < 4294967296) : f_SoundRuns xs = some true := SoundRuns_eq xs hl hx awake_eq
end Go.Proofs.Ytccmpceifheejaa
