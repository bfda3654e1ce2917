/-
  CpuStacks: the law.
-/
import Derived.Test.YtdjgicimfeocbaaGreatStk2
namespace Go.Proofs.YtdjgicimfeocbaaGreat
open Go.Vc
set_option linter.unusedVariables false
set_option linter.unusedSimpArgs false

theorem obind {α β : Type} {a : Option α} {v : α} {k : α → Option β} {z : Option β} (h : a = some v) (h2 : k v = z) : a.bind k = z := by rw [h]; exact h2
def pre (r : Nat → Int) (i k : Nat) : Int := if k < i then r k else 0
def wc (l : List E51) : Nat := l.countP (fun e => e.Write)
theorem wc_app (a b : List E51) : wc (a ++ b) = wc a + wc b := List.countP_append
theorem wc_none {l : List E51} (h : ∀ e ∈ l, e.Write = false) : wc l = 0 := List.countP_eq_zero.2 fun e he => by rw [h e he]; decide
theorem wc_all {l : List E51} (h : ∀ e ∈ l, e.Write = true) : wc l = l.length := List.countP_eq_length.2 fun e he => h e he
theorem wc_take (l : List E51) {i : Nat} (hi : i < l.length) : wc (l.take (i + 1)) = wc (l.take i) + if (ixL l (i : Int)).Write = true then 1 else 0 := by
  rw [List.take_succ_eq_append_getElem hi, wc_app]
  have e : ixL l (i : Int) = l[i] := by
    unfold ixL
    rw [show ((i : Nat) : Int).toNat = i by omega]
    simp [List.getD_eq_getElem?_getD, List.getElem?_eq_getElem hi]
  rw [e]
  unfold wc
  by_cases h : l[i].Write = true
  · rw [if_pos h]; simp [List.countP_cons, h]
  · rw [if_neg h]; simp [List.countP_cons, h]
theorem bit_16 (l : Nat) (hl : l < 8192) {i : Nat} (hi : i < 13) : bits .and .u16 (Int.fdiv (l : Int) (2 ^ (min ((i : Nat) : Int).toNat 16))) 1 = ((l / 2 ^ i % 2 : Nat) : Int) := by
  rw [show min ((i : Nat) : Int).toNat 16 = i by omega]
  have e : ((2 ^ i : Nat) : Int) = (2 : Int) ^ i := Int.natCast_pow 2 i
  have hp : (0 : Nat) < 2 ^ i := Nat.pow_pos (by decide)
  have hle : l / 2 ^ i ≤ l := Nat.div_le_self _ _
  rw [← e, fdiv_pos (by omega)]
  have e2 : (l : Int) / ((2 ^ i : Nat) : Int) = ((l / 2 ^ i : Nat) : Int) := rfl
  rw [e2]
  generalize l / 2 ^ i = z at *
  rw [and16 1 (by decide) (by decide) (by omega) (by omega)]
  rfl
set_option maxRecDepth 20000 in
theorem CpuStacks_eq (cd : List Int) (At St : Int) (g0 g1 g2 g3 g4 g5 g6 g7 g8 g9 g10 g11 g12 g13 g14 g15 seed steps : Int) (brk : List Int) (q1 : Int) (a0 : 0 ≤ At) (a1 : At < 4294967296) (x0 : 0 ≤ q1) (x1 : q1 < 65536)
    (hG : ∀ i, i < 13 → 0 ≤ [g0, g1, g2, g3, g4, g5, g6, g7, g8, g9, g10, g11, g12, 3840, g14, g15].getD i 0 ∧ [g0, g1, g2, g3, g4, g5, g6, g7, g8, g9, g10, g11, g12, 3840, g14, g15].getD i 0 < 4294967296) :
    f_CpuStacks cd At St g0 g1 g2 g3 g4 g5 g6 g7 g8 g9 g10 g11 g12 g13 g14 g15 seed steps brk q1 = some true := by
  unfold f_CpuStacks
  rw [awake_eq, bind_some', cnot, ctrue rfl]
  obtain ⟨l, hl, l1⟩ : ∃ l : Nat, bits .and .u16 q1 8191 = (l : Int) ∧ l < 8192 := ⟨(q1 % 8192).toNat, by rw [and16 13 (by decide) (by decide) x0 x1]; show q1 % 8192 = _; omega, by omega⟩
  rw [hl]
  by_cases l0 : l = 0
  · rw [l0, ceq (a := ((0 : Nat) : Int)) (b := 0) rfl]
  rw [cne (by omega), cand (by decide) (by decide), wrap_u32 (x := (l : Int)) (by omega) (by omega), or_hi (B := 3912040448) (by decide) (by decide) (by decide) (by omega) (by omega), or_hi (B := 3904700416) (by decide) (by decide) (by decide) (by omega) (by omega)]
  obtain ⟨a, ea, b0, b1, b2⟩ : ∃ a, bits .and .u32 At 2044 = a ∧ 0 ≤ a ∧ a < 2048 ∧ a % 4 = 0 := ⟨_, andHigh32 2 9 (by decide) (by decide) a0 a1, by omega, by omega, by omega⟩
  rw [ea]
  obtain ⟨q, eq, ⟨m, r, o, h, log, y, z, R, Sv, L, hm, hp, hr, hll, hlw, hoh, rfl⟩⟩ := pair_ok [3912040448 + (l : Int), 3818913792, 3785363456, 3785408512, 3904700416 + (l : Int)] (show (5 : Nat) ≤ 100 by decide) a 31 b0 (by omega) (by decide) (by decide) g0 g1 g2 g3 g4 g5 g6 g7 g8 g9 g10 g11 g12 3840 g14 g15 seed steps brk
  rw [eq, bind_some']
  dsimp only
  have ha : al 31 a = a := by unfold al; rw [W31]; omega
  have P : ∀ k : Nat, k < 5 → ∀ v, [3912040448 + (l : Int), 3818913792, 3785363456, 3785408512, 3904700416 + (l : Int)].getD k 0 = v → 0 ≤ v → v < 4294967296 → wd m (a + 4 * (k : Int)) = v := fun k hk v hv v0 v1 => by
    have := wd_placed hp k (show 4 * k + 4 ≤ 20 by omega) (by rw [hv]; exact v0) (by rw [hv]; exact v1)
    rw [this, hv]
  have w0 : lo m a 4 = 3912040448 + (l : Int) := by have := P 0 (by decide) (3912040448 + (l : Int)) rfl (by omega) (by omega); rw [show a + 4 * ((0 : Nat) : Int) = a by omega] at this; rw [lo4]; exact this
  have w1 : lo m (a + 4) 4 = 3818913792 := by rw [lo4]; exact P 1 (by decide) _ rfl (by decide) (by decide)
  have w2 : lo m (a + 8) 4 = 3785363456 := by rw [lo4]; exact P 2 (by decide) _ rfl (by decide) (by decide)
  have w3 : wd m (a + 12) = 3785408512 := P 3 (by decide) _ rfl (by decide) (by decide)
  have w4 : wd m (a + 16) = 3904700416 + (l : Int) := P 4 (by decide) (3904700416 + (l : Int)) rfl (by omega) (by omega)
  rw [ha, W31, w0, show (a + ((4 : Nat) : Int)) % 4294967296 = a + 4 by omega, w1, show (a + 2 * ((4 : Nat) : Int)) % 4294967296 = a + 8 by omega]
  obtain ⟨g, hg⟩ : ∃ g, g = rup r 15 (a + 8) := ⟨_, rfl⟩
  rw [← hg]
  have g15v : g 15 = a + 8 := by rw [hg, rup_at]
  have gi : ∀ i, i < 15 → g i = [g0, g1, g2, g3, g4, g5, g6, g7, g8, g9, g10, g11, g12, 3840, g14, g15].getD i 0 := fun i hi => by rw [hg, rup_ne _ _ (by omega)]; exact hr i hi
  have g13v : g 13 = 3840 := gi 13 (by decide)
  have gb : ∀ i, i < 13 → 0 ≤ g i ∧ g i < 4294967296 := fun i hi => by rw [gi i (by omega)]; exact hG i hi
  obtain ⟨b, hb⟩ : ∃ b, b = 3840 - 4 * (pc l 13 : Int) := ⟨_, rfl⟩
  have hpc := pc_le l 13
  have h16 := pc_16 l1
  have hpp := pc_pos (by omega) l1
  obtain ⟨M, hM⟩ : ∃ M, M = pushM l b g m 16 := ⟨_, rfl⟩
  have hMb : Byt M := by rw [hM]; exact pushM_byt hm 16
  have low : ∀ c, 0 ≤ c → c + 4 ≤ 3000 → wd M c = wd m c := fun c c0 c1 => by rw [hM]; exact pushM_low (by omega) (by omega) c0 c1 16 (by decide)
  -- push
  have e1 := SS_block (p0 := 3912040448 + (l : Int)) (p1 := 3818913792) (af := false) (mv := false) (r := g) (o := o) (h := h) (s := fun _ => 0) (c := 31) (m := m) (log := log) hm (by omega) (by decide) (by decide) W31 (by omega) (by omega) (dec_push (by omega) (by omega)) holds14 (r' := rup g 13 b) (m' := M) (T := pushT l b g 16) (hx := fun log' hlog' => by
    rw [hM]
    exact block_push (by omega) l1 hm (by omega) gb g13v hb) (hr := rup_ne _ _ (by decide))
  rw [g15v, w2, show (a + 8 + 4) % 4294967296 = a + 12 by omega] at e1
  obtain ⟨L1, hL1⟩ : ∃ L1, L1 = log ++ [acc (a + 8) 4 3785363456 (cls false + 10)] ++ pushT l b g 16 := ⟨_, rfl⟩
  rw [← hL1] at e1
  have n1 : L1.length ≤ 100 := by rw [hL1, List.length_append, List.length_append, pushT_len, hll, h16]; show 4 + 1 + _ ≤ 100; omega
  have c1 : wc L1 = pc l 13 := by rw [hL1, wc_app, wc_app, wc_none hlw, wc_all (pushT_write l b g 16), pushT_len, h16]; show 0 + 0 + _ = _; omega
  obtain ⟨t1, ht1⟩ : ∃ t1, t1 = rup (rup g 13 b) 15 (a + 12) := ⟨_, rfl⟩
  rw [← ht1] at e1
  have t115 : t1 15 = a + 12 := by rw [ht1, rup_at]
  have t113 : t1 13 = b := by rw [ht1, rup_ne _ _ (by decide), rup_at]
  -- three moves
  have e2 := SS_data (p0 := 3818913792) (p1 := 3785363456) (af := true) (mv := false) (r := t1) (o := o) (h := h) (s := fun _ => 0) (c := 31) (m := M) (log := L1) hMb (by omega) (by decide) (by decide) W31 (by omega) (by omega) dec_m0 holds14 (hr := rup_ne _ _ (by decide)) (hx := fun log => data_imm (rn := 0) (rd := 0) (code := 13) (by decide) (by decide) (by decide) (by decide) (by decide) (by decide) keeps13 Do_mov)
  rw [t115, lo4, low (a + 12) (by omega) (by omega), w3, show (a + 12 + 4) % 4294967296 = a + 16 by omega] at e2
  obtain ⟨t2, ht2⟩ : ∃ t2, t2 = rup (rup t1 0 0) 15 (a + 16) := ⟨_, rfl⟩
  rw [← ht2] at e2
  have t215 : t2 15 = a + 16 := by rw [ht2, rup_at]
  have t213 : t2 13 = b := by rw [ht2, rup_ne _ _ (by decide), rup_ne _ _ (by decide), t113]
  obtain ⟨L2, hL2⟩ : ∃ L2, L2 = L1 ++ [acc (a + 12) 4 3785408512 (cls true + 10)] := ⟨_, rfl⟩
  rw [← hL2] at e2
  have n2 : L2.length ≤ 101 := by rw [hL2, List.length_append]; show _ + 1 ≤ _; omega
  have c2 : wc L2 = pc l 13 := by rw [hL2, wc_app, c1]; rfl
  have e3 := SS_move (p0 := 3785363456) (p1 := 3785408512) (af := false) (mv := false) (r := t2) (o := o) (h := h) (s := fun _ => 0) (c := 31) (m := M) (log := L2) hMb (by omega) (by decide) (by decide) W31 (by omega) (by omega) dec_m1 holds14 (hr := rup_ne _ _ (by decide)) (hx := fun log => data_move (rd := 1) (by decide) (by decide) (by decide))
  rw [t215, lo4, low (a + 16) (by omega) (by omega), w4, show (a + 16 + 4) % 4294967296 = a + 20 by omega] at e3
  obtain ⟨t3, ht3⟩ : ∃ t3, t3 = rup (rup t2 1 (t2 0)) 15 (a + 20) := ⟨_, rfl⟩
  rw [← ht3] at e3
  have t315 : t3 15 = a + 20 := by rw [ht3, rup_at]
  have t313 : t3 13 = b := by rw [ht3, rup_ne _ _ (by decide), rup_ne _ _ (by decide), t213]
  obtain ⟨L3, hL3⟩ : ∃ L3, L3 = L2 ++ [acc (a + 16) 4 (3904700416 + (l : Int)) (cls false + 10)] := ⟨_, rfl⟩
  rw [← hL3] at e3
  have n3 : L3.length ≤ 102 := by rw [hL3, List.length_append]; show _ + 1 ≤ _; omega
  have c3 : wc L3 = pc l 13 := by rw [hL3, wc_app, c2]; rfl
  have e4 := SS_move (p0 := 3785408512) (p1 := 3904700416 + (l : Int)) (af := false) (mv := false) (r := t3) (o := o) (h := h) (s := fun _ => 0) (c := 31) (m := M) (log := L3) hMb (by omega) (by decide) (by decide) W31 (by omega) (by omega) dec_m12 holds14 (hr := rup_ne _ _ (by decide)) (hx := fun log => data_move (rd := 12) (by decide) (by decide) (by decide))
  rw [t315, show (a + 20 + 4) % 4294967296 = a + 24 by omega] at e4
  obtain ⟨t4, ht4⟩ : ∃ t4, t4 = rup (rup t3 12 (t3 0)) 15 (a + 24) := ⟨_, rfl⟩
  rw [← ht4] at e4
  have t415 : t4 15 = a + 24 := by rw [ht4, rup_at]
  have t413 : t4 13 = b := by rw [ht4, rup_ne _ _ (by decide), rup_ne _ _ (by decide), t313]
  obtain ⟨x4, hx4⟩ : ∃ x4, x4 = lo M (a + 20) 4 := ⟨_, rfl⟩
  rw [← hx4] at e4
  obtain ⟨L4, hL4⟩ : ∃ L4, L4 = L3 ++ [acc (a + 20) 4 x4 (cls false + 10)] := ⟨_, rfl⟩
  rw [← hL4] at e4
  have n4 : L4.length ≤ 103 := by rw [hL4, List.length_append]; show _ + 1 ≤ _; omega
  have c4 : wc L4 = pc l 13 := by rw [hL4, wc_app, c3]; rfl
  -- pop
  have e5 := SS_block (p0 := 3904700416 + (l : Int)) (p1 := x4) (af := false) (mv := false) (r := t4) (o := o) (h := h) (s := fun _ => 0) (c := 31) (m := M) (log := L4) hMb (by omega) (by decide) (by decide) W31 (by omega) (by omega) (dec_pop (by omega) (by omega)) holds14 (r' := popR l b M (rup t4 13 3840) 16) (m' := M) (T := popT l b M 16 ++ [⟨0, 0, 0, 1, false, 0, 2⟩]) (hx := fun log' hlog' => block_pop (by omega) l1 hMb (by omega) hb t413) (hr := by rw [popR_unset (high_off l1 15 (by decide) (by decide))]; exact rup_ne _ _ (by decide))
  rw [t415, show (a + 24 + 4) % 4294967296 = a + 28 by omega] at e5
  obtain ⟨t5, ht5⟩ : ∃ t5, t5 = rup (popR l b M (rup t4 13 3840) 16) 15 (a + 28) := ⟨_, rfl⟩
  rw [← ht5] at e5
  have t513 : t5 13 = 3840 := by rw [ht5, rup_ne _ _ (by decide), popR_unset (high_off l1 13 (by decide) (by decide)), rup_at]
  have t5i : ∀ i, i < 13 → l / 2 ^ i % 2 = 1 → t5 i = g i := fun i hi hbit => by
    rw [ht5, rup_ne _ _ (by omega), popR_at hbit 16 (by omega), hM]
    exact pushM_at (by omega) (by omega) gb (high_off l1) hbit 16 (by decide) (by omega)
  obtain ⟨x5, hx5⟩ : ∃ x5, x5 = lo M (a + 24) 4 := ⟨_, rfl⟩
  rw [← hx5] at e5
  obtain ⟨L5, hL5⟩ : ∃ L5, L5 = L4 ++ [acc (a + 24) 4 x5 (cls false + 10)] ++ (popT l b M 16 ++ [⟨0, 0, 0, 1, false, 0, 2⟩]) := ⟨_, rfl⟩
  rw [← hL5] at e5
  have n5 : L5.length ≤ 200 := by rw [hL5, List.length_append, List.length_append, List.length_append, popT_len, h16]; show _ + 1 + (_ + 1) ≤ _; omega
  have c5 : wc L5 = pc l 13 := by rw [hL5, wc_app, wc_app, wc_app, c4, wc_none (popT_read l b M 16)]; rfl
  clear hL5 hL4 hL3 hL2 hL1 ht1 ht2 ht3 ht4 ht5 hx4 hx5
  have z : (fun _ => (0 : Int)) = pre g 0 := by funext k; unfold pre; rw [if_neg (by omega)]
  rw [z]
  refine loopO_for (fun i => (((i : Nat) : Int), pre g i)) 13 (fun i hi => ?_) ?_
  · show cond (decide ((i : Int) < 13)) _ _ = _
    rw [cpos (by omega), Get_eq i (by omega), bind_some', cand (by omega) (by omega), wrap_i64 (by omega) (by omega)]
    congr 3
    funext k
    show rup (pre g i) _ _ k = pre g (i + 1) k
    by_cases e : k = i
    · subst e
      rw [show ((k : Int)).toNat = k by omega, rup_at]; unfold pre; rw [if_pos (by omega)]
    · rw [show ((i : Int)).toNat = i by omega, rup_ne _ _ e]; unfold pre
      by_cases e2 : k < i
      · rw [if_pos e2, if_pos (by omega)]
      · rw [if_neg e2, if_neg (by omega)]
  · show cond (decide (((13 : Nat) : Int) < 13)) _ _ = _
    rw [cneg (by decide), ← z]
    rw [loopO_eq]
    show Option.bind (cond (decide ((0 : Int) < 5)) _ _) _ = _
    rw [cpos (by decide), e1, bind_some']
    dsimp only
    rw [bind_some', wrap_i64 (by decide) (by decide)]
    dsimp only
    rw [loopO_eq]
    show Option.bind (cond (decide ((0 + 1 : Int) < 5)) _ _) _ = _
    rw [cpos (by decide), e2, bind_some']
    dsimp only
    rw [bind_some', wrap_i64 (by decide) (by decide)]
    dsimp only
    rw [loopO_eq]
    show Option.bind (cond (decide ((0 + 1 + 1 : Int) < 5)) _ _) _ = _
    rw [cpos (by decide), e3, bind_some']
    dsimp only
    rw [bind_some', wrap_i64 (by decide) (by decide)]
    dsimp only
    rw [loopO_eq]
    show Option.bind (cond (decide ((0 + 1 + 1 + 1 : Int) < 5)) _ _) _ = _
    rw [cpos (by decide), e4, bind_some']
    dsimp only
    rw [bind_some', wrap_i64 (by decide) (by decide)]
    dsimp only
    rw [loopO_eq]
    show Option.bind (cond (decide ((0 + 1 + 1 + 1 + 1 : Int) < 5)) _ _) _ = _
    rw [cpos (by decide), e5, bind_some']
    dsimp only
    rw [bind_some', wrap_i64 (by decide) (by decide)]
    dsimp only
    rw [loopO_eq]
    show Option.bind (cond (decide ((0 + 1 + 1 + 1 + 1 + 1 : Int) < 5)) _ _) _ = _
    rw [cneg (by decide)]
    dsimp only
    refine obind (v := .inr (.inr true)) (loopO_for (fun i => ((i : Nat) : Int)) 13 (fun i hi => ?_) ?_) rfl
    · show cond (decide ((i : Int) < 13)) _ _ = _
      rw [cpos (by omega), cpos (by omega), bit_16 l l1 hi]
      by_cases hbit : l / 2 ^ i % 2 = 1
      · rw [hbit, ceq (a := ((1 : Nat) : Int)) (b := 1) rfl, cand (by omega) (by omega), Get_eq i (by omega), bind_some', t5i i hi hbit, show ((i : Nat) : Int).toNat = i by omega]
        have : pre g 13 i = g i := by unfold pre; rw [if_pos hi]
        rw [this, show (g i != g i) = false by simp, cfalse rfl, wrap_i64 (by omega) (by omega)]
        rfl
      · rw [show l / 2 ^ i % 2 = 0 by omega, cne (a := ((0 : Nat) : Int)) (b := 1) (by decide), wrap_i64 (by omega) (by omega)]
        rfl
    · show cond (decide (((13 : Nat) : Int) < 13)) _ _ = _
      rw [cneg (by decide)]
      refine loopO_for (fun i => (((wc (L5.take i) : Nat) : Int), ((i : Nat) : Int))) L5.length (fun i hi => ?_) ?_
      · show cond (decide ((i : Int) < ((L5.length : Nat) : Int))) _ _ = _
        have ht := wc_take L5 hi
        have hle : wc (L5.take i) ≤ i := by
          have h1 : wc (L5.take i) ≤ (L5.take i).length := List.countP_le_length
          rw [List.length_take] at h1
          omega
        rw [cpos (by omega), cand (by omega) (by omega)]
        by_cases hw : (ixL L5 (i : Int)).Write = true
        · rw [if_pos hw] at ht
          rw [ctrue hw, ht, wrap_i64 (by omega) (by omega), wrap_i64 (by omega) (by omega)]
          rfl
        · rw [if_neg hw] at ht
          rw [cfalse (by simpa using hw), ht, wrap_i64 (by omega) (by omega)]
          rfl
      · show cond (decide (((L5.length : Nat) : Int) < ((L5.length : Nat) : Int))) _ _ = _
        have G13 : ∀ (r o h s : Nat → Int) (c : Int), f_Get r o h s c 13 = some (r 13) := fun r o h s c => Get_eq 13 (by decide)
        rw [cneg (by omega), G13, bind_some', t513, ceq rfl, lbits_eq l l1, bind_some', List.take_length, c5]
        simp
theorem law_CpuStacks (w : World) (l0 : List Value) (w0 : ∃ n, Rd Tryz.prog w n 27 l0) (a1 : Int) (w1 : (Lit.int .u16 a1).wf = true) :
    Calls Tryz.prog n_CpuStacks #[.agg l0.toArray, .int .u16 a1] w fun e w' => e = .returned (.bool true) ∧ Chg (fun _ => False) w w' := by
  obtain ⟨p0, c0, x0, At, St, g, seed, steps, p1, c1, x1, s⟩ := start_of w0
  rw [s.cells]
  have hG : ∀ i, i < 13 → 0 ≤ [g 0, g 1, g 2, g 3, g 4, g 5, g 6, g 7, g 8, g 9, g 10, g 11, g 12, 3840, g 14, g 15].getD i 0 ∧ [g 0, g 1, g 2, g 3, g 4, g 5, g 6, g 7, g 8, g 9, g 10, g 11, g 12, 3840, g 14, g 15].getD i 0 < 4294967296 := by
    intro i hi
    match i, hi with
    | 0, _ => exact s.hg 0 (by decide)
    | 1, _ => exact s.hg 1 (by decide)
    | 2, _ => exact s.hg 2 (by decide)
    | 3, _ => exact s.hg 3 (by decide)
    | 4, _ => exact s.hg 4 (by decide)
    | 5, _ => exact s.hg 5 (by decide)
    | 6, _ => exact s.hg 6 (by decide)
    | 7, _ => exact s.hg 7 (by decide)
    | 8, _ => exact s.hg 8 (by decide)
    | 9, _ => exact s.hg 9 (by decide)
    | 10, _ => exact s.hg 10 (by decide)
    | 11, _ => exact s.hg 11 (by decide)
    | 12, _ => exact s.hg 12 (by decide)
  have hu : 0 ≤ a1 ∧ a1 < 65536 := by
    have := w1
    simp [Lit.wf, IntKind.min, IntKind.max, IntKind.signed, IntKind.bits] at this
    omega
  exact (t_CpuStacks (CpuStacks_eq x0 At St (g 0) (g 1) (g 2) (g 3) (g 4) (g 5) (g 6) (g 7) (g 8) (g 9) (g 10) (g 11) (g 12) (g 13) (g 14) (g 15) seed steps x1 a1 s.hAt.1 s.hAt.2 hu.1 hu.2 hG) trivial s.ro0 not_foot_nil0 s.ro1 not_foot_nil0 rfl rfl).mono fun e w' h => ⟨h.1, h.2.quiet⟩
end Go.Proofs.YtdjgicimfeocbaaGreat
