/-
  CpuStacks: the block's handler.
-/
import Derived.Test.YtdjgicimfeocbaaGreatStk
namespace Go.Proofs.YtdjgicimfeocbaaGreat
open Go.Vc
set_option linter.unusedVariables false
set_option linter.unusedSimpArgs false

theorem pc_pos {l : Nat} (l0 : 0 < l) (l1 : l < 8192) : 0 < pc l 13 := by
  have f := bits_fact (l / 128) (by omega) (l % 128) (by omega) (by omega)
  rw [show 128 * (l / 128) + l % 128 = l by omega] at f
  omega
theorem high_off {l : Nat} (l1 : l < 8192) : ∀ i, 13 ≤ i → i < 16 → l / 2 ^ i % 2 ≠ 1 := by
  intro i h0 h1
  rcases (show i = 13 ∨ i = 14 ∨ i = 15 by omega) with e | e | e <;> subst e <;> simp only [Nat.reducePow] <;> omega
theorem pc_16 {l : Nat} (l1 : l < 8192) : pc l 16 = pc l 13 := by
  have h13 : l / 2 ^ 13 % 2 = 0 := by simp only [Nat.reducePow]; omega
  have h14 : l / 2 ^ 14 % 2 = 0 := by simp only [Nat.reducePow]; omega
  have h15 : l / 2 ^ 15 % 2 = 0 := by simp only [Nat.reducePow]; omega
  show pc l 13 + l / 2 ^ 13 % 2 + l / 2 ^ 14 % 2 + l / 2 ^ 15 % 2 = _
  rw [h13, h14, h15]
  rfl
section
variable {p0 p1 : Int} {r o h s : Nat → Int} {c : Int} {m : Nat → Int} {log : List E51}
theorem Get_nat (i : Nat) (hi : i < 16) : f_Get r o h s c (i : Int) = some (r i) := Get_eq i hi
set_option maxRecDepth 10000 in
theorem block_push {l : Nat} (l0 : 0 < l) (l1 : l < 8192) (hm : Byt m) (hlog : log.length ≤ 800000) (hr : ∀ i, i < 13 → 0 ≤ r i ∧ r i < 4294967296) (r13 : r 13 = 3840) {b : Int} (hb : b = 3840 - 4 * (pc l 13 : Int)) :
    f_block p0 p1 false false r o h s c m log 8 14 0 false 0 13 0 0 0 false 0 0 false false false false true false true false (l : Int) false false false = some (false, rup r 13 b, o, h, c, pushM l b r m 16, log ++ pushT l b r 16) := by
  have hp := pc_pos l0 l1
  have hq := pc_le l 13
  have h16 := pc_16 l1
  unfold f_block
  refine loopO_for (fun i => (((pc l i : Nat) : Int), ((i : Nat) : Int))) 16 (fun i hi => ?_) ?_
  · show cond (decide ((i : Int) < 16)) _ _ = _
    have p := pc_le l i
    rw [cpos (by omega), cpos (by omega), bit_i l (by omega) hi, wrap_u32 (x := ((l / 2 ^ i % 2 : Nat) : Int)) (by omega) (by omega), wrap_u32 (by omega) (by omega), Let_eq, wrap_i64 (by omega) (by omega)]
    rfl
  · show cond (decide (((16 : Nat) : Int) < 16)) _ _ = _
    rw [cneg (by decide), cne (by omega), bind_some']
    dsimp only
    rw [show (13 : Int) = ((13 : Nat) : Int) from rfl, Get_eq 13 (by decide), bind_some', cnot, cfalse rfl, bind_some']
    dsimp only
    rw [cfalse (b := (true == false)) rfl, bind_some', cfalse rfl, bind_some', cfalse rfl, r13, h16, wrap_u32 (x := 4 * ((pc l 13 : Nat) : Int)) (by omega) (by omega), wrap_u32 (x := 3840 - 4 * ((pc l 13 : Nat) : Int)) (by omega) (by omega), ← hb]
    have S0 : (b, (0 : Int), (0 : Int), false, r, m, log) = (b + 4 * ((pc l 0 : Nat) : Int), (if pc l 0 = 0 then (0 : Int) else 1), ((0 : Nat) : Int), false, (if pc l 0 = 0 then r else rup r 13 b), pushM l b r m 0, log ++ pushT l b r 0) := by
      show _ = (b + 4 * ((0 : Nat) : Int), (0 : Int), (0 : Int), false, r, m, log ++ [])
      rw [List.append_nil, show b + 4 * ((0 : Nat) : Int) = b by omega]
    rw [S0]
    refine loopO_for (fun i => (b + 4 * ((pc l i : Nat) : Int), (if pc l i = 0 then (0 : Int) else 1), ((i : Nat) : Int), false, (if pc l i = 0 then r else rup r 13 b), pushM l b r m i, log ++ pushT l b r i)) 16 (fun i hi => ?_) ?_
    · show cond (decide ((i : Int) < 16)) _ _ = _
      have p := pc_le l i
      have pm := pc_mono l (show i + 1 ≤ 16 by omega)
      rw [h16] at pm
      dsimp only
      rw [cpos (by omega), cpos (by omega), bit_i l (by omega) hi]
      by_cases hbit : l / 2 ^ i % 2 = 1
      · have i13 : i < 13 := by
          by_cases h13 : i < 13
          · exact h13
          · exact absurd hbit (high_off l1 i (by omega) (by omega))
        have ps := pc_succ hbit
        rw [ps] at pm
        have hg : (if pc l i = 0 then r else rup r 13 b) i = r i := by split; rfl; exact rup_ne _ _ (by omega)
        have hgiven : f_given p0 p1 true false (if pc l i = 0 then r else rup r 13 b) o h s c (pushM l b r m i) (log ++ pushT l b r i) ((i : Nat) : Int) = some (r i) := by
          unfold f_given
          rw [cne (by omega), Get_nat i hi, bind_some', hg]
        have hal : bits .andNot .u32 (b + 4 * ((pc l i : Nat) : Int)) 3 = b + 4 * ((pc l i : Nat) : Int) := by rw [andNot3 (by omega) (by omega)]; omega
        rw [cne (by omega), hgiven, bind_some', cfalse rfl, bind_some', hal, tStore_eq (by rw [List.length_append, pushT_len]; omega) (by omega) (by omega) (hr i i13).1 (hr i i13).2, bind_some']
        dsimp only
        have e1 : pushM l b r m (i + 1) = st4 (pushM l b r m i) (b + 4 * (pc l i : Int)) (r i) := by show (if _ then _ else _) = _; rw [if_pos hbit]
        have e2 : pushT l b r (i + 1) = pushT l b r i ++ [⟨0, 0, b + 4 * (pc l i : Int), 4, true, r i, if pc l i = 0 then 0 else 1⟩] := by show (if _ then _ else _) = _; rw [if_pos hbit]
        have fin : (b + 4 * ((pc l (i + 1) : Nat) : Int), (if pc l (i + 1) = 0 then (0 : Int) else 1), ((i + 1 : Nat) : Int), false, (if pc l (i + 1) = 0 then r else rup r 13 b), pushM l b r m (i + 1), log ++ pushT l b r (i + 1)) = (b + 4 * ((pc l i : Nat) : Int) + 4, (1 : Int), (i : Int) + 1, false, rup r 13 b, st4 (pushM l b r m i) (b + 4 * (pc l i : Int)) (r i), log ++ pushT l b r i ++ [⟨0, 0, b + 4 * (pc l i : Int), 4, true, r i, if pc l i = 0 then 0 else 1⟩]) := by
          rw [e1, e2, ps, if_neg (by omega), if_neg (by omega), List.append_assoc, show b + 4 * ((pc l i + 1 : Nat) : Int) = b + 4 * ((pc l i : Nat) : Int) + 4 by omega]; rfl
        rw [fin]
        by_cases hz : pc l i = 0
        · rw [if_pos hz, if_pos hz, ceq rfl, ctrue rfl]
          unfold f_put
          rw [Set_eq 13 (by decide), bind_some', cne (by decide), bind_some']
          dsimp only
          rw [wrap_u32 (by omega) (by omega), wrap_i64 (by omega) (by omega)]
        · rw [if_neg hz, if_neg hz, cne (by decide), wrap_u32 (by omega) (by omega), wrap_i64 (by omega) (by omega)]
      · have z : l / 2 ^ i % 2 = 0 := by omega
        have ps : pc l (i + 1) = pc l i := by show pc l i + _ = _; omega
        have e1 : pushM l b r m (i + 1) = pushM l b r m i := by show (if _ then _ else _) = _; rw [if_neg hbit]
        have e2 : pushT l b r (i + 1) = pushT l b r i := by show (if _ then _ else _) = _; rw [if_neg hbit]
        rw [z, ceq (a := ((0 : Nat) : Int)) (b := 0) rfl, wrap_i64 (by omega) (by omega), ps, e1, e2]
        rfl
    · show cond (decide (((16 : Nat) : Int) < 16)) _ _ = _
      rw [cneg (by decide)]
      dsimp only
      rw [if_neg (by omega)]
set_option maxRecDepth 10000 in
theorem block_pop {l : Nat} (l0 : 0 < l) (l1 : l < 8192) (hm : Byt m) (hlog : log.length ≤ 800000) {b : Int} (hb : b = 3840 - 4 * (pc l 13 : Int)) (r13 : r 13 = b) :
    f_block p0 p1 false false r o h s c m log 8 14 0 false 0 13 0 0 0 false 0 0 false true false false false true true false (l : Int) false false false = some (false, popR l b m (rup r 13 3840) 16, o, h, c, m, log ++ (popT l b m 16 ++ [⟨0, 0, 0, 1, false, 0, 2⟩])) := by
  have hp := pc_pos l0 l1
  have hq := pc_le l 13
  have h16 := pc_16 l1
  unfold f_block
  refine loopO_for (fun i => (((pc l i : Nat) : Int), ((i : Nat) : Int))) 16 (fun i hi => ?_) ?_
  · show cond (decide ((i : Int) < 16)) _ _ = _
    have p := pc_le l i
    rw [cpos (by omega), cpos (by omega), bit_i l (by omega) hi, wrap_u32 (x := ((l / 2 ^ i % 2 : Nat) : Int)) (by omega) (by omega), wrap_u32 (by omega) (by omega), Let_eq, wrap_i64 (by omega) (by omega)]
    rfl
  · show cond (decide (((16 : Nat) : Int) < 16)) _ _ = _
    rw [cneg (by decide), cne (by omega), bind_some']
    dsimp only
    rw [show (13 : Int) = ((13 : Nat) : Int) from rfl, Get_eq 13 (by decide), bind_some', cnot, ctrue rfl, bind_some']
    dsimp only
    rw [cfalse (b := (false == true)) rfl, bind_some', cfalse rfl, bind_some', ctrue rfl, r13, h16, wrap_u32 (x := 4 * ((pc l 13 : Nat) : Int)) (by omega) (by omega), wrap_u32 (x := b + 4 * ((pc l 13 : Nat) : Int)) (by omega) (by omega), show b + 4 * ((pc l 13 : Nat) : Int) = 3840 by omega]
    have hload : f_loads p0 p1 true false r o h s c m log 8 14 0 false 0 ((13 : Nat) : Int) 0 0 0 false 0 0 false true false false false true true false (l : Int) false false false (l : Int) b 3840 false = some (false, popR l b m (rup r 13 3840) 16, o, h, c, log ++ (popT l b m 16 ++ [⟨0, 0, 0, 1, false, 0, 2⟩])) := by
      unfold f_loads
      have hput : f_put p0 p1 true false r o h s c m log ((13 : Nat) : Int) 3840 = some (false, rup r 13 3840) := by
        unfold f_put
        rw [Set_eq 13 (by decide), bind_some', cne (by decide)]
      rw [ctrue rfl, hput, bind_some', bind_some']
      dsimp only
      have S0 : (b, (0 : Int), (0 : Int), false, rup r 13 3840, o, h, c, log) = (b + 4 * ((pc l 0 : Nat) : Int), (if pc l 0 = 0 then (0 : Int) else 1), ((0 : Nat) : Int), false, popR l b m (rup r 13 3840) 0, o, h, c, log ++ popT l b m 0) := by
        show _ = (b + 4 * ((0 : Nat) : Int), (0 : Int), (0 : Int), false, rup r 13 3840, o, h, c, log ++ [])
        rw [List.append_nil, show b + 4 * ((0 : Nat) : Int) = b by omega]
      rw [S0]
      refine loopO_for (fun i => (b + 4 * ((pc l i : Nat) : Int), (if pc l i = 0 then (0 : Int) else 1), ((i : Nat) : Int), false, popR l b m (rup r 13 3840) i, o, h, c, log ++ popT l b m i)) 16 (fun i hi => ?_) ?_
      · show cond (decide ((i : Int) < 16)) _ _ = _
        have p := pc_le l i
        have pm := pc_mono l (show i + 1 ≤ 16 by omega)
        rw [h16] at pm
        dsimp only
        rw [cpos (by omega), cpos (by omega), bit_i l (by omega) hi]
        by_cases hbit : l / 2 ^ i % 2 = 1
        · have i13 : i < 13 := by
            by_cases h13 : i < 13
            · exact h13
            · exact absurd hbit (high_off l1 i (by omega) (by omega))
          have ps := pc_succ hbit
          rw [ps] at pm
          have hal : bits .andNot .u32 (b + 4 * ((pc l i : Nat) : Int)) 3 = b + 4 * ((pc l i : Nat) : Int) := by rw [andNot3 (by omega) (by omega)]; omega
          have hld : ∀ cl, f_tLoad m (log ++ popT l b m i) (b + 4 * ((pc l i : Nat) : Int)) 4 cl = some (wd m (b + 4 * (pc l i : Int)), (log ++ popT l b m i) ++ [⟨0, 0, b + 4 * (pc l i : Int), 4, false, wd m (b + 4 * (pc l i : Int)), cl⟩]) := by
            intro cl
            unfold f_tLoad
            rw [show (4 : Int) = ((4 : Nat) : Int) from rfl, tread_eq _ hm (by omega) (by omega) 4 (by decide), bind_some', lo4, cpos (by rw [List.length_append, List.length_append, popT_len]; simp; omega)]
          rw [cne (by omega), hal, hld, bind_some']
          dsimp only
          have e1 : popR l b m (rup r 13 3840) (i + 1) = rup (popR l b m (rup r 13 3840) i) i (wd m (b + 4 * (pc l i : Int))) := by show (if _ then _ else _) = _; rw [if_pos hbit]
          have e2 : popT l b m (i + 1) = popT l b m i ++ [⟨0, 0, b + 4 * (pc l i : Int), 4, false, wd m (b + 4 * (pc l i : Int)), if pc l i = 0 then 0 else 1⟩] := by show (if _ then _ else _) = _; rw [if_pos hbit]
          rw [cfalse rfl, cne (by omega)]
          unfold f_put
          rw [Set_eq i hi, bind_some', cne (by omega), bind_some']
          dsimp only
          rw [wrap_u32 (by omega) (by omega), wrap_i64 (by omega) (by omega), e1, e2, ps, if_neg (show ¬ pc l i + 1 = 0 by omega), List.append_assoc, show b + 4 * ((pc l i + 1 : Nat) : Int) = b + 4 * ((pc l i : Nat) : Int) + 4 by omega]
          rfl
        · have z : l / 2 ^ i % 2 = 0 := by omega
          have ps : pc l (i + 1) = pc l i := by show pc l i + _ = _; omega
          have e1 : popR l b m (rup r 13 3840) (i + 1) = popR l b m (rup r 13 3840) i := by show (if _ then _ else _) = _; rw [if_neg hbit]
          have e2 : popT l b m (i + 1) = popT l b m i := by show (if _ then _ else _) = _; rw [if_neg hbit]
          rw [z, ceq (a := ((0 : Nat) : Int)) (b := 0) rfl, wrap_i64 (by omega) (by omega), ps, e1, e2]
          rfl
      · show cond (decide (((16 : Nat) : Int) < 16)) _ _ = _
        rw [cneg (by decide)]
        dsimp only
        unfold f_tIdle
        have hpl := pc_le l 16
        rw [cpos (by rw [List.length_append, List.length_append, popT_len]; simp; omega), bind_some', List.append_assoc]
    rw [hload, bind_some']
end
end Go.Proofs.YtdjgicimfeocbaaGreat
