/-
  A step in ARM code.
-/
import Derived.Test.YtdjgicimfeocbaaGreatPair2
namespace Go.Proofs.YtdjgicimfeocbaaGreat
open Go.Vc
set_option linter.unusedVariables false
set_option linter.unusedSimpArgs false

def cls (af : Bool) : Int := if af = true then 0 else 1
def flN (c : Int) : Bool := decide (c / 2147483648 % 2 = 1)
def flZ (c : Int) : Bool := decide (c / 1073741824 % 2 = 1)
def flC (c : Int) : Bool := decide (c / 536870912 % 2 = 1)
def flV (c : Int) : Bool := decide (c / 268435456 % 2 = 1)
theorem BFlags_eq {c : Int} (c0 : 0 ≤ c) (c1 : c < 4294967296) : f_BFlags c = some (flN c, flZ c, flC c, flV c) := by
  unfold f_BFlags
  rw [fdiv_pos (by decide), fdiv_pos (by decide), fdiv_pos (by decide), fdiv_pos (by decide), and32 1 (by decide) (by decide) (by omega) (by omega), and32 1 (by decide) (by decide) (by omega) (by omega), and32 1 (by decide) (by decide) (by omega) (by omega), and32 1 (by decide) (by decide) (by omega) (by omega)]
  rfl
section
variable {p0 p1 : Int} {af mv : Bool} {r o h s : Nat → Int} {c : Int} {m : Nat → Int} {log : List E51}
theorem SS_data (hm : Byt m) (hl : log.length ≤ 800000) (c0 : 0 ≤ c) (c1 : c < 4294967296) (hW : W c = 4) (g0 : 0 ≤ r 15) (g1 : r 15 < 4294967296) {cd co rd rn im : Int} (hd : f_aDecode p0 = some (1, cd, co, false, rd, rn, 0, 0, im, true, 0, 0, false, false, false, false, false, false, false, false, false)) (hh : f_Holds cd (flN c) (flZ c) (flC c) (flV c) = some true) {r' : Nat → Int}
    (hx : ∀ log, f_data p1 (lo m (r 15) 4) false false r o h s c m log 1 cd co false rd rn 0 0 im true 0 0 false false false false false false false false 0 false false false = some (false, r', o, h, c, log)) (hr : r' 15 = r 15) :
    f_Step p0 p1 af mv r o h s c m log = some (p1, lo m (r 15) 4, false, false, rup r' 15 ((r 15 + 4) % 4294967296), o, h, c, m, log ++ [acc (r 15) 4 (lo m (r 15) 4) (cls af + 10)]) := by
  have hk : (cond af (some 0) (some 1) : Option Int) = some (cls af) := by cases af <;> rfl
  have hc2 : 0 ≤ cls af ∧ cls af < 100 := by unfold cls; split <;> decide
  unfold f_Step
  rw [thumbed_eq c0 c1, bind_some', hk, bind_some', cand (by decide) (by decide), cand (by decide) (by decide), cand (by decide) (by decide), show (15 : Int) = ((15 : Nat) : Int) from rfl, Get_eq 15 (by decide), bind_some', hW, tFetch_eq hm (by omega) g0 g1 4 (by decide) hc2.1 hc2.2, bind_some']
  dsimp only
  rw [cand (by decide) (by decide), cne (by decide), hd, bind_some']
  dsimp only
  rw [bind_some']
  dsimp only
  unfold f_Status
  rw [bind_some', BFlags_eq c0 c1, bind_some']
  dsimp only
  rw [hh, bind_some', ctrue rfl, cand (by decide) (by decide), cne (by decide), ceq rfl, hx, bind_some']
  dsimp only
  rw [cfalse rfl, thumbed_eq c0 c1, bind_some', hW, ceq rfl, Get_eq 15 (by decide), bind_some', wrap_u32 (x := ((4 : Nat) : Int)) (by decide) (by decide), wr_u32, Set_eq 15 (by decide), bind_some', hr]
  rfl
theorem SS_word (hm : Byt m) (hl : log.length ≤ 800000) (c0 : 0 ≤ c) (c1 : c < 4294967296) (hW : W c = 4) (g0 : 0 ≤ r 15) (g1 : r 15 < 4294967296) {cd co rd rn rm im : Int} {hi ld by_ sg pr up bk : Bool} (hd : f_aDecode p0 = some (7, cd, co, false, rd, rn, 0, rm, im, hi, 0, 0, false, ld, by_, sg, pr, up, bk, false, false)) (hh : f_Holds cd (flN c) (flZ c) (flC c) (flV c) = some true) {r' : Nat → Int} {m' : Nat → Int} {T : List E51}
    (hx : ∀ log' : List E51, log'.length ≤ log.length + 1 → f_word p1 (lo m (r 15) 4) false false r o h s c m log' 7 cd co false rd rn 0 rm im hi 0 0 false ld by_ sg pr up bk false 0 false false false = some (false, r', m', log' ++ T)) (hr : r' 15 = r 15) :
    f_Step p0 p1 af mv r o h s c m log = some (p1, lo m (r 15) 4, true, false, rup r' 15 ((r 15 + 4) % 4294967296), o, h, c, m', log ++ [acc (r 15) 4 (lo m (r 15) 4) (cls af + 10)] ++ T) := by
  have hk : (cond af (some 0) (some 1) : Option Int) = some (cls af) := by cases af <;> rfl
  have hc2 : 0 ≤ cls af ∧ cls af < 100 := by unfold cls; split <;> decide
  unfold f_Step
  rw [thumbed_eq c0 c1, bind_some', hk, bind_some', cand (by decide) (by decide), cand (by decide) (by decide), cand (by decide) (by decide), show (15 : Int) = ((15 : Nat) : Int) from rfl, Get_eq 15 (by decide), bind_some', hW, tFetch_eq hm (by omega) g0 g1 4 (by decide) hc2.1 hc2.2, bind_some']
  dsimp only
  rw [cand (by decide) (by decide), cne (by decide), hd, bind_some']
  dsimp only
  rw [bind_some']
  dsimp only
  unfold f_Status
  rw [bind_some', BFlags_eq c0 c1, bind_some']
  dsimp only
  rw [hh, bind_some', ctrue rfl, cand (by decide) (by decide), cne (by decide), cne (by decide), cne (by decide), cne (by decide), cne (by decide), cne (by decide), cne (by decide), ceq rfl, hx (log ++ [acc (r 15) ((4 : Nat) : Int) (lo m (r 15) 4) (cls af + 10)]) (by rw [List.length_append]; exact Nat.le_refl _), bind_some']
  dsimp only
  rw [cfalse rfl, thumbed_eq c0 c1, bind_some', hW, ceq rfl, Get_eq 15 (by decide), bind_some', wrap_u32 (x := ((4 : Nat) : Int)) (by decide) (by decide), wr_u32, Set_eq 15 (by decide), bind_some', hr]
  rfl
theorem SS_half (hm : Byt m) (hl : log.length ≤ 800000) (c0 : 0 ≤ c) (c1 : c < 4294967296) (hW : W c = 4) (g0 : 0 ≤ r 15) (g1 : r 15 < 4294967296) {cd co rd rn rm im : Int} {hi ld by_ sg pr up bk : Bool} (hd : f_aDecode p0 = some (6, cd, co, false, rd, rn, 0, rm, im, hi, 0, 0, false, ld, by_, sg, pr, up, bk, false, false)) (hh : f_Holds cd (flN c) (flZ c) (flC c) (flV c) = some true) {r' : Nat → Int} {m' : Nat → Int} {T : List E51}
    (hx : ∀ log' : List E51, log'.length ≤ log.length + 1 → f_half p1 (lo m (r 15) 4) false false r o h s c m log' 6 cd co false rd rn 0 rm im hi 0 0 false ld by_ sg pr up bk false 0 false false false = some (false, r', m', log' ++ T)) (hr : r' 15 = r 15) :
    f_Step p0 p1 af mv r o h s c m log = some (p1, lo m (r 15) 4, true, false, rup r' 15 ((r 15 + 4) % 4294967296), o, h, c, m', log ++ [acc (r 15) 4 (lo m (r 15) 4) (cls af + 10)] ++ T) := by
  have hk : (cond af (some 0) (some 1) : Option Int) = some (cls af) := by cases af <;> rfl
  have hc2 : 0 ≤ cls af ∧ cls af < 100 := by unfold cls; split <;> decide
  unfold f_Step
  rw [thumbed_eq c0 c1, bind_some', hk, bind_some', cand (by decide) (by decide), cand (by decide) (by decide), cand (by decide) (by decide), show (15 : Int) = ((15 : Nat) : Int) from rfl, Get_eq 15 (by decide), bind_some', hW, tFetch_eq hm (by omega) g0 g1 4 (by decide) hc2.1 hc2.2, bind_some']
  dsimp only
  rw [cand (by decide) (by decide), cne (by decide), hd, bind_some']
  dsimp only
  rw [bind_some']
  dsimp only
  unfold f_Status
  rw [bind_some', BFlags_eq c0 c1, bind_some']
  dsimp only
  rw [hh, bind_some', ctrue rfl, cand (by decide) (by decide), cne (by decide), cne (by decide), cne (by decide), cne (by decide), cne (by decide), cne (by decide), ceq rfl, hx (log ++ [acc (r 15) ((4 : Nat) : Int) (lo m (r 15) 4) (cls af + 10)]) (by rw [List.length_append]; exact Nat.le_refl _), bind_some']
  dsimp only
  rw [cfalse rfl, thumbed_eq c0 c1, bind_some', hW, ceq rfl, Get_eq 15 (by decide), bind_some', wrap_u32 (x := ((4 : Nat) : Int)) (by decide) (by decide), wr_u32, Set_eq 15 (by decide), bind_some', hr]
  rfl
theorem SS_swap (hm : Byt m) (hl : log.length ≤ 800000) (c0 : 0 ≤ c) (c1 : c < 4294967296) (hW : W c = 4) (g0 : 0 ≤ r 15) (g1 : r 15 < 4294967296) {cd co rd rn rm im : Int} {hi ld by_ sg pr up bk : Bool} (hd : f_aDecode p0 = some (4, cd, co, false, rd, rn, 0, rm, im, hi, 0, 0, false, ld, by_, sg, pr, up, bk, false, false)) (hh : f_Holds cd (flN c) (flZ c) (flC c) (flV c) = some true) {r' : Nat → Int} {m' : Nat → Int} {T : List E51}
    (hx : ∀ log' : List E51, log'.length ≤ log.length + 1 → f_swap p1 (lo m (r 15) 4) false false r o h s c m log' 4 cd co false rd rn 0 rm im hi 0 0 false ld by_ sg pr up bk false 0 false false false = some (false, r', m', log' ++ T)) (hr : r' 15 = r 15) :
    f_Step p0 p1 af mv r o h s c m log = some (p1, lo m (r 15) 4, true, false, rup r' 15 ((r 15 + 4) % 4294967296), o, h, c, m', log ++ [acc (r 15) 4 (lo m (r 15) 4) (cls af + 10)] ++ T) := by
  have hk : (cond af (some 0) (some 1) : Option Int) = some (cls af) := by cases af <;> rfl
  have hc2 : 0 ≤ cls af ∧ cls af < 100 := by unfold cls; split <;> decide
  unfold f_Step
  rw [thumbed_eq c0 c1, bind_some', hk, bind_some', cand (by decide) (by decide), cand (by decide) (by decide), cand (by decide) (by decide), show (15 : Int) = ((15 : Nat) : Int) from rfl, Get_eq 15 (by decide), bind_some', hW, tFetch_eq hm (by omega) g0 g1 4 (by decide) hc2.1 hc2.2, bind_some']
  dsimp only
  rw [cand (by decide) (by decide), cne (by decide), hd, bind_some']
  dsimp only
  rw [bind_some']
  dsimp only
  unfold f_Status
  rw [bind_some', BFlags_eq c0 c1, bind_some']
  dsimp only
  rw [hh, bind_some', ctrue rfl, cand (by decide) (by decide), cne (by decide), cne (by decide), cne (by decide), cne (by decide), ceq rfl, hx (log ++ [acc (r 15) ((4 : Nat) : Int) (lo m (r 15) 4) (cls af + 10)]) (by rw [List.length_append]; exact Nat.le_refl _), bind_some']
  dsimp only
  rw [cfalse rfl, thumbed_eq c0 c1, bind_some', hW, ceq rfl, Get_eq 15 (by decide), bind_some', wrap_u32 (x := ((4 : Nat) : Int)) (by decide) (by decide), wr_u32, Set_eq 15 (by decide), bind_some', hr]
  rfl
theorem Turned0 {imm : Int} (i0 : 0 ≤ imm) (i1 : imm < 256) {b : Bool} : f_Turned imm 0 b = some (imm, b) := by
  unfold f_Turned
  rw [Let_eq, ceq (by decide), and32 8 (by decide) (by decide) (by omega) (by omega)]
  show some (imm % 256, b) = _
  rw [show imm % 256 = imm by omega]
theorem asum_add {a b : Int} (a0 : 0 ≤ a) (a1 : a < 4294967296) (b0 : 0 ≤ b) (b1 : b < 4294967296) : ∃ f1 f2 f3 f4, f_asum a b false = some ((a + b) % 4294967296, f1, f2, f3, f4) := by
  unfold f_asum
  rw [cfalse rfl]
  have e : f_Add32 a b 0 = some ((a + b) % 4294967296, (a + b) / 4294967296) := by
    unfold f_Add32
    rw [Let_eq, Let_eq, wr_u64 a, wr_u64 b, wr_u64 0, wr_u64 (a % _ + b % _), wr_u64 (_ + 0 % _), fdiv_pos (by decide), wr_u32, wr_u32]
    congr 2 <;> omega
  rw [e, bind_some']
  exact ⟨_, _, _, _, rfl⟩
theorem Do_add {a b : Int} (a0 : 0 ≤ a) (a1 : a < 4294967296) (b0 : 0 ≤ b) (b1 : b < 4294967296) {n z c v sh : Bool} : ∃ f1 f2 f3 f4, f_Do 4 a b n z c v sh = some ((a + b) % 4294967296, f1, f2, f3, f4) := by
  obtain ⟨f1, f2, f3, f4, e⟩ := asum_add a0 a1 b0 b1
  refine ⟨f1, f2, f3, f4, ?_⟩
  unfold f_Do
  rw [show bits .and .i64 (4 : Int) 15 = 4 from by decide, cne (by decide), bind_some', cfalse (by decide), cne (by decide), bind_some', cfalse (by decide), cne (by decide), bind_some', cfalse (by decide), cne (by decide), ceq rfl, bind_some', ctrue (by decide), e, bind_some']
theorem Do_mov {a b : Int} {n z c v sh : Bool} : ∃ f1 f2 f3 f4, f_Do 13 a b n z c v sh = some (b, f1, f2, f3, f4) := by
  unfold f_Do
  rw [show bits .and .i64 (13 : Int) 15 = 13 from by decide, cne (by decide), bind_some', cfalse (by decide), cne (by decide), bind_some', cfalse (by decide), cne (by decide), bind_some', cfalse (by decide), cne (by decide), cne (by decide), bind_some', cfalse (by decide), cne (by decide), cne (by decide), cne (by decide), cne (by decide), ceq rfl]
  unfold f_logic
  rw [bind_some']
  exact ⟨_, _, _, _, rfl⟩
/-- An immediate. -/
theorem data_imm {code rn rd : Nat} {imm y cd : Int} (hrn : rn < 16) (hrd : rd < 15) (i0 : 0 ≤ imm) (i1 : imm < 256) (c0 : 0 ≤ c) (c1 : c < 4294967296) (hk : f_Keeps (code : Int) = some false) (hy : ∀ {n z c v sh : Bool}, ∃ f1 f2 f3 f4, f_Do (code : Int) (r rn) imm n z c v sh = some (y, f1, f2, f3, f4)) :
    f_data p0 p1 false false r o h s c m log 1 cd (code : Int) false (rd : Int) (rn : Int) 0 0 imm true 0 0 false false false false false false false false 0 false false false = some (false, rup r rd y, o, h, c, log) := by
  unfold f_data f_Status
  rw [bind_some', BFlags_eq c0 c1, bind_some']
  dsimp only
  rw [cfalse rfl, bind_some']
  have ho : ∀ fl, f_operand p0 p1 false false r o h s c m log 1 cd (code : Int) false (rd : Int) (rn : Int) 0 0 imm true 0 0 false false false false false false false false 0 false false false fl = some (imm, fl) := by
    intro fl
    unfold f_operand
    rw [ctrue rfl, Turned0 i0 i1, bind_some']
  obtain ⟨f1, f2, f3, f4, e⟩ := hy (n := flN c) (z := flZ c) (c := flC c) (v := flV c) (sh := flC c)
  rw [ho, bind_some']
  dsimp only
  rw [Get_eq rn hrn, bind_some', cfalse rfl, bind_some', cfalse rfl, bind_some', e, bind_some']
  dsimp only
  rw [hk, bind_some', cnot, cfalse rfl, cnot, cfalse rfl]
  unfold f_put
  rw [Set_eq rd (by omega), bind_some', cne (by omega), bind_some']
end
end Go.Proofs.YtdjgicimfeocbaaGreat
