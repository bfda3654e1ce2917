/-
  Streams of kinds 24 and 28, and of differences; BiosUnpacks.
-/
import Derived.Test.YtnobglfjinehfaaBioX
namespace Go.Proofs.Ytnobglfjinehfaa
open Go.Vc
set_option linter.unusedVariables false
set_option linter.unusedSimpArgs false

def rnd (u : Int) : Int := (u + 3) % 4294967296 - (u + 3) % 4294967296 % 4
theorem round_up {ρ : Type} {F : Int → Option (Int ⊕ ρ)} (h : ∀ s : Int, 0 ≤ s → s < 4294967296 → s % 4 ≠ 0 → F s = some (.inl ((s + 1) % 4294967296))) {u : Int} (h0 : 0 ≤ u) (h1 : u < 4294967296) : loopO F u = loopO F (rnd u) := by
  have step : ∀ s : Int, 0 ≤ s → s < 4294967296 → s % 4 ≠ 0 → loopO F s = loopO F ((s + 1) % 4294967296) := fun s a b c => by rw [loopO_eq, h s a b c, bind_some']
  by_cases c0 : u % 4 = 0
  · rw [show rnd u = u by unfold rnd; omega]
  rw [step u h0 h1 c0]
  by_cases c1 : (u + 1) % 4294967296 % 4 = 0
  · rw [show rnd u = (u + 1) % 4294967296 by unfold rnd; omega]
  rw [step _ (by omega) (by omega) c1]
  by_cases c2 : ((u + 1) % 4294967296 + 1) % 4294967296 % 4 = 0
  · rw [show rnd u = ((u + 1) % 4294967296 + 1) % 4294967296 by unfold rnd; omega]
  rw [step _ (by omega) (by omega) c2, show rnd u = (((u + 1) % 4294967296 + 1) % 4294967296 + 1) % 4294967296 by unfold rnd; omega]
theorem codes_both {B to size a n wide : Int} {eight : Bool} {m : M3} (hw8 : (wide == 8) = eight) (ha : 0 ≤ a ∧ a < 4294967296) (hi : Inv size m) (hf : ¬ full size m) : ∃ (a1 n1 a2 : Int) (m' : M3), f_codes a n B m.1 m.2.1 to m.2.2 size wide = some (a1, n1, m'.1, m'.2.1, m'.2.2) ∧ f_rcodes a B m.1 m.2.1 to size m.2.2 eight = some (a2, m'.1, m'.2.1, m'.2.2) ∧ Inv size m' := by
  unfold f_codes f_rcodes
  have hx := nb_bd (B := B) hi a
  rw [next_m hi, bind_some', snext_m hi, bind_some']
  generalize nb B m a = x at hx
  obtain ⟨root, hroot⟩ : ∃ r : Int, r = (a + 1) % 4294967296 := ⟨_, rfl⟩
  have hrb : 0 ≤ root ∧ root < 4294967296 := by omega
  have e7 : IntKind.wrap .u32 ((IntKind.wrap .u32 ((IntKind.wrap .u32 x) + 1)) * 2) = 2 * x + 2 := by simp only [wr_u32]; omega
  have e9 : bits .andNot .u32 (IntKind.wrap .u32 ((IntKind.wrap .u32 (a + (2 * x + 2))) + 3)) 3 = rnd ((a + 2 * x + 2) % 4294967296) := by
    have hb := u32_bd ((IntKind.wrap .u32 (a + (2 * x + 2))) + 3)
    rw [andNot3 hb.1 hb.2]; unfold rnd; simp only [wr_u32]; omega
  have e9' : IntKind.wrap .u32 (a + (IntKind.wrap .u32 (IntKind.wrap .i64 ((IntKind.wrap .i64 (2 * x)) + 2)))) = (a + 2 * x + 2) % 4294967296 := by
    rw [wrap_i64 (x := 2 * x) (by omega) (by omega), wrap_i64 (x := 2 * x + 2) (by omega) (by omega)]; simp only [wr_u32]; omega
  have hru : IntKind.wrap .u32 (a + 1) = root := by rw [wr_u32, hroot]
  show ∃ (a1 n1 a2 : Int) (m' : M3), Let _ _ = _ ∧ Let _ _ = _ ∧ _
  rw [Let_eq, Let_eq, Let_eq, e7, e9, e9', ← hroot, hru]
  have hst : ∀ u : Int, 0 ≤ rnd u ∧ rnd u < 4294967296 ∧ rnd u % 4 = 0 := fun u => by unfold rnd; omega
  obtain ⟨u, hu⟩ : ∃ u : Int, u = (a + 2 * x + 2) % 4294967296 := ⟨_, rfl⟩
  have hub : 0 ≤ u ∧ u < 4294967296 := by omega
  rw [← hu]
  obtain ⟨h3, h4, h5⟩ := hst u
  have hres : ∀ (LP : Option (Int × Int × List Int × List E59 × List Int)) (LR : Option (Int × List Int × List E59 × List Int)), (∃ m' : M3, LP = some (root, IntKind.wrap .i64 (n + 1), m'.1, m'.2.1, m'.2.2) ∧ LR = some (root, m'.1, m'.2.1, m'.2.2) ∧ Inv size m') → ∃ (a1 n1 a2 : Int) (m' : M3), LP = some (a1, n1, m'.1, m'.2.1, m'.2.2) ∧ LR = some (a2, m'.1, m'.2.1, m'.2.2) ∧ Inv size m' :=
    fun LP LR ⟨m', h1, h2, h3⟩ => ⟨_, _, _, m', h1, h2, h3⟩
  refine hres _ _ ?_
  have hround := fun (F : Int → Option (Int ⊕ (Int × List Int × List E59 × List Int))) (h : ∀ s : Int, 0 ≤ s → s < 4294967296 → s % 4 ≠ 0 → F s = some (.inl ((s + 1) % 4294967296))) => round_up (F := F) h hub.1 hub.2
  rw [hround _ (fun s s0 s1 s2 => by
    show cond (Int.tmod s 4 != 0) _ _ = _
    rw [tmod_nn s0, cbne s2, wr_u32]), loopO_eq (s := rnd u)]
  have key : ∀ (LP : Option (Int × Int × List Int × List E59 × List Int)) (G : Option (Int ⊕ (Int × List Int × List E59 × List Int))) (K : Int ⊕ (Int × List Int × List E59 × List Int) → Option (Int × List Int × List E59 × List Int)), (∀ r, K (.inr r) = some r) → (∃ m' : M3, LP = some (root, IntKind.wrap .i64 (n + 1), m'.1, m'.2.1, m'.2.2) ∧ G = some (.inr (root, m'.1, m'.2.1, m'.2.2)) ∧ Inv size m') → ∃ m' : M3, LP = some (root, IntKind.wrap .i64 (n + 1), m'.1, m'.2.1, m'.2.2) ∧ G.bind K = some (root, m'.1, m'.2.1, m'.2.2) ∧ Inv size m' :=
    fun LP G K hK ⟨m', h1, h2, h3⟩ => ⟨m', h1, by rw [h2, bind_some', hK], h3⟩
  refine key _ _ _ (fun r => rfl) ?_
  show ∃ m' : M3, _ ∧ cond (Int.tmod (rnd u) 4 != 0) _ (loopO _ _) = _ ∧ _
  rw [tmod_nn h3, cbeq h5]
  refine words_both (B := B) (to := to) (size := size) (root := root) (eight := eight) root (IntKind.wrap .i64 (n + 1)) (fun m' => (.inr (root, m'.1, m'.2.1, m'.2.2) : Int ⊕ (Int × List Int × List E59 × List Int))) hrb ?_ ?_ ?_ ?_ ?_ 65536 0 (rnd u) root 0 false (-1) none m (by decide) hrb hi hf (.inl ⟨rfl, rfl⟩) (.inl ⟨rfl, rfl⟩)
  · intro st a y z m; rfl
  · intro st a y z h j m hj ha hi hf hp
    have hwb := rd_bd B m.1 st 4
    obtain ⟨w, hw⟩ : ∃ w, w = rd B m.1 st 4 := ⟨_, rfl⟩
    rw [← hw] at hwb ⊢
    have goal := nd_prog (B := B) (to := to) (size := size) (root := root) (w := w) (eight := eight) (ρ := (Int × Int × Int × Bool × Int × List Int × List E59 × List Int) ⊕ (Int × Int × List Int × List E59 × List Int))
      (F := fun (s : (Int × Int × Bool × Int × (List Int) × (List E59) × (List Int))) => match s with | (s10_1, s11_1, s12_1, s15, I_1_xs_cell_q0_m_b_1, I_1_xs_cell_q0_m_b_2, I_1_xs_cell_q1_2) => ((cond (decide (s15 ≥ 0)) ((f_MRead B I_1_xs_cell_q0_m_b_1 I_1_xs_cell_q0_m_b_2 s10_1 1).bind fun (x58 : O_MRead) => (cond ((decide (0 ≤ s15))) (Let ((bits .and .u32 (Int.fdiv w (2 ^ (min s15.toNat 32))) 1) : Int) fun s17 => (cond ((decide (0 ≤ (IntKind.wrap .u32 (7 - s17))))) (Let ((bits .and .u8 (Int.fdiv (IntKind.wrap .u8 x58) (2 ^ (min (IntKind.wrap .u32 (7 - s17)).toNat 8))) 1) == 1 : Bool) fun s18 => (Let ((IntKind.wrap .u32 ((IntKind.wrap .u32 ((IntKind.wrap .u32 ((bits .andNot .u32 s10_1 1) + (IntKind.wrap .u32 ((IntKind.wrap .u32 (bits .and .u8 (IntKind.wrap .u8 x58) 63)) * 2)))) + 2)) + s17)) : Int) fun s10_2 => (cond (!s18) (some (.inl (s10_2, s11_1, s12_1, (IntKind.wrap .i64 (s15 - 1)), I_1_xs_cell_q0_m_b_1, I_1_xs_cell_q0_m_b_2, I_1_xs_cell_q1_2))) ((f_MRead B I_1_xs_cell_q0_m_b_1 I_1_xs_cell_q0_m_b_2 s10_2 1).bind fun (x87 : O_MRead) => (cond (wide == 8) ((f_put to I_1_xs_cell_q1_2 size B I_1_xs_cell_q0_m_b_1 I_1_xs_cell_q0_m_b_2 (IntKind.wrap .u8 x87)).bind fun (o : O_put) => (match o with | (x94, w_7_r_xs_cell_q0_2, w_7_r_xs_cell_q0_m_b_1, w_7_r_xs_cell_q0_m_b_2) => (cond (!x94) (some (.inr (.inr (root, IntKind.wrap .i64 (n + 1), w_7_r_xs_cell_q0_m_b_1, w_7_r_xs_cell_q0_m_b_2, w_7_r_xs_cell_q0_2)))) (some (.inl (root, s11_1, s12_1, (IntKind.wrap .i64 (s15 - 1)), w_7_r_xs_cell_q0_m_b_1, w_7_r_xs_cell_q0_m_b_2, w_7_r_xs_cell_q0_2)))))) (cond (!s12_1) (Let ((bits .and .u8 (IntKind.wrap .u8 x87) 15) : Int) fun s11_2 => (some (.inl (root, s11_2, !s12_1, (IntKind.wrap .i64 (s15 - 1)), I_1_xs_cell_q0_m_b_1, I_1_xs_cell_q0_m_b_2, I_1_xs_cell_q1_2)))) ((f_put to I_1_xs_cell_q1_2 size B I_1_xs_cell_q0_m_b_1 I_1_xs_cell_q0_m_b_2 (bits .or .u8 s11_1 (IntKind.wrap .u8 ((IntKind.wrap .u8 x87) * 16)))).bind fun (o : O_put) => (match o with | (x106, w_8_r_xs_cell_q0_2, w_8_r_xs_cell_q0_m_b_1, w_8_r_xs_cell_q0_m_b_2) => (cond (!x106) (some (.inr (.inr (root, IntKind.wrap .i64 (n + 1), w_8_r_xs_cell_q0_m_b_1, w_8_r_xs_cell_q0_m_b_2, w_8_r_xs_cell_q0_2)))) (some (.inl (root, s11_1, !s12_1, (IntKind.wrap .i64 (s15 - 1)), w_8_r_xs_cell_q0_m_b_1, w_8_r_xs_cell_q0_m_b_2, w_8_r_xs_cell_q0_2)))))))))))) none)) none)) (some (.inr (.inl ((IntKind.wrap .u32 (st + 4)), s10_1, s11_1, s12_1, (IntKind.wrap .i64 ((j : Int) + 1)), I_1_xs_cell_q0_m_b_1, I_1_xs_cell_q0_m_b_2, I_1_xs_cell_q1_2))))) : Option ((Int × Int × Bool × Int × (List Int) × (List E59) × (List Int)) ⊕ ((Int × Int × Int × Bool × Int × (List Int) × (List E59) × (List Int)) ⊕ (Int × Int × List Int × List E59 × List Int)))))
      (fun a y z m => .inl (IntKind.wrap .u32 (st + 4), a, y, z, IntKind.wrap .i64 ((j : Int) + 1), m.1, m.2.1, m.2.2)) (fun m => .inr (root, IntKind.wrap .i64 (n + 1), m.1, m.2.1, m.2.2)) hrb (fun a y z m => rfl) ?_ 32 a y z h m (by decide) ha hi hf hp
    · obtain ⟨y', z', hp', he⟩ := goal
      refine ⟨y', z', hp', ?_⟩
      show cond (decide ((j : Int) < 65536)) ((f_MRead B m.1 m.2.1 st 4).bind _) _ = _
      rw [cpos (by omega), MRead_eq (by decide) (by decide), bind_some', ← hw]
      refine Eq.trans he ?_
      rw [wr_u32 (st + 4), wrap_i64 (x := (j : Int) + 1) (by omega) (by omega)]; rfl
    · clear hp hf hi ha h z y a hw m
      intro k a y z h m hk ha hi hf hp
      have hv := nb_bd (B := B) hi a
      have hb := bit32 hk hwb
      have hr01 : w / ((2 ^ k : Nat) : Int) % 2 = 0 ∨ w / ((2 ^ k : Nat) : Int) % 2 = 1 := by omega
      obtain ⟨r, hrr⟩ : ∃ r, r = w / ((2 ^ k : Nat) : Int) % 2 := ⟨_, rfl⟩
      rw [← hrr] at hb hr01
      have h7 : 0 ≤ IntKind.wrap .u32 (7 - r) := by rw [wr_u32]; omega
      have e0 : ∀ (K : Int → Option ((Int × Int × Bool × Int × (List Int) × (List E59) × (List Int)) ⊕ ((Int × Int × Int × Bool × Int × (List Int) × (List E59) × (List Int)) ⊕ (Int × Int × List Int × List E59 × List Int)))) E, (cond (decide ((k : Int) ≥ 0)) ((f_MRead B m.1 m.2.1 a 1).bind K) E) = K (nb B m a) := fun K E => by rw [cpos (by omega), MRead_eq (by decide) (by decide), bind_some']
      obtain ⟨a', ha'⟩ : ∃ a', a' = (a - a % 2 + nb B m a % 64 * 2 + 2 + r) % 4294967296 := ⟨_, rfl⟩
      have hx := nb_bd (B := B) hi a'
      have end0 : ∀ (y' : Int) (z' : Bool) (T : TT) V W, T = nd B to size root w eight k (a, h, m) → prel y' z' T.2.1 → V = W → (W = (some (if full size T.2.2 then .inr (.inr (root, IntKind.wrap .i64 (n + 1), T.2.2.1, T.2.2.2.1, T.2.2.2.2)) else .inl (T.1, y', z', (k : Int) - 1, T.2.2.1, T.2.2.2.1, T.2.2.2.2)) : Option ((Int × Int × Bool × Int × (List Int) × (List E59) × (List Int)) ⊕ ((Int × Int × Int × Bool × Int × (List Int) × (List E59) × (List Int)) ⊕ (Int × Int × List Int × List E59 × List Int))))) → ∃ y' z', prel y' z' (nd B to size root w eight k (a, h, m)).2.1 ∧ V = some (if full size (nd B to size root w eight k (a, h, m)).2.2 then .inr (.inr (root, IntKind.wrap .i64 (n + 1), (nd B to size root w eight k (a, h, m)).2.2.1, (nd B to size root w eight k (a, h, m)).2.2.2.1, (nd B to size root w eight k (a, h, m)).2.2.2.2)) else .inl ((nd B to size root w eight k (a, h, m)).1, y', z', (k : Int) - 1, (nd B to size root w eight k (a, h, m)).2.2.1, (nd B to size root w eight k (a, h, m)).2.2.2.1, (nd B to size root w eight k (a, h, m)).2.2.2.2)) :=
        fun y' z' T V W hT hp hV hW => ⟨y', z', by rw [← hT]; exact hp, by rw [← hT, hV, hW]⟩
      have e1 : ∀ (K1 : Int → Option ((Int × Int × Bool × Int × (List Int) × (List E59) × (List Int)) ⊕ ((Int × Int × Int × Bool × Int × (List Int) × (List E59) × (List Int)) ⊕ (Int × Int × List Int × List E59 × List Int)))), (cond (decide (0 ≤ (k : Int))) (Let ((bits .and .u32 (Int.fdiv w (2 ^ (min ((k : Nat) : Int).toNat 32))) 1) : Int) K1) none) = K1 r := fun K1 => by rw [cpos (by omega), Let_eq, hb]
      by_cases hl : nb B m a / (128 - 64 * r) % 2 = 0
      · have ef : (a', h, m) = nd B to size root w eight k (a, h, m) := by
          unfold nd; dsimp only; rw [← hrr, if_pos hl, ← ha']
        refine end0 y z (a', h, m) _ _ ef hp ((e0 _ _).trans (e1 _)) ?_
        show cond (decide (0 ≤ IntKind.wrap .u32 (7 - r))) (Let _ fun s18 => Let _ _) none = _
        rw [cpos h7, Let_eq, Let_eq, leaf_p hv hr01, addr_p ha hv hr01, ← ha', decide_eq_true hl, if_neg hf, wrap_i64 (x := (k : Int) - 1) (by omega) (by omega)]; rfl
      · cases eight with
        | true =>
          have ef : (root, h, pt B to size (nb B m a') m) = nd B to size root w true k (a, h, m) := by
            unfold nd; dsimp only; rw [← hrr, if_neg hl, if_pos rfl, ← ha']
          refine end0 y z (root, h, pt B to size (nb B m a') m) _ _ ef hp ((e0 _ _).trans (e1 _)) ?_
          show cond (decide (0 ≤ IntKind.wrap .u32 (7 - r))) (Let _ fun s18 => Let _ _) none = _
          rw [cpos h7, Let_eq, Let_eq, leaf_p hv hr01, addr_p ha hv hr01, ← ha', decide_eq_false hl]
          show ((f_MRead B m.1 m.2.1 a' 1).bind _) = _
          rw [MRead_eq (by decide) (by decide), bind_some', ctrue hw8, wrap_u8 hx.1 hx.2, put_eq hi hx, bind_some']
          show cond (!(decide (¬ full size (pt B to size (nb B m a') m)))) _ _ = _
          by_cases hh : full size (pt B to size (nb B m a') m)
          · rw [ctrue (by simpa using hh), if_pos hh]
          · rw [cfalse (by simpa using hh), if_neg hh, wrap_i64 (x := (k : Int) - 1) (by omega) (by omega)]
        | false =>
          rcases hp with ⟨rfl, rfl⟩ | ⟨rfl, rfl, hy0, hy1⟩
          · have ef : (root, some (nb B m a' % 16), m) = nd B to size root w false k (a, none, m) := by
              unfold nd; dsimp only; rw [← hrr, if_neg hl, if_neg (by decide), ← ha']
            refine end0 (nb B m a' % 16) true (root, some (nb B m a' % 16), m) _ _ ef (.inr ⟨rfl, rfl, by omega, by omega⟩) ((e0 _ _).trans (e1 _)) ?_
            show cond (decide (0 ≤ IntKind.wrap .u32 (7 - r))) (Let _ fun s18 => Let _ _) none = _
            rw [cpos h7, Let_eq, Let_eq, leaf_p hv hr01, addr_p ha hv hr01, ← ha', decide_eq_false hl]
            show ((f_MRead B m.1 m.2.1 a' 1).bind _) = _
            rw [MRead_eq (by decide) (by decide), bind_some', cfalse hw8, wrap_u8 hx.1 hx.2, and8 4 (by decide) (by decide) hx.1 hx.2, if_neg hf, wrap_i64 (x := (k : Int) - 1) (by omega) (by omega)]; rfl
          · have ev : bits .or .u8 y (IntKind.wrap .u8 (nb B m a' * 16)) = (y + 16 * nb B m a') % 256 := by
              rw [wr_u8, or8 4 (by decide) hy0 (by simpa using hy1) (by omega) (by omega) (by simp)]; omega
            have hvb : 0 ≤ (y + 16 * nb B m a') % 256 ∧ (y + 16 * nb B m a') % 256 < 256 := by omega
            have ef : (root, none, pt B to size ((y + 16 * nb B m a') % 256) m) = nd B to size root w false k (a, some y, m) := by
              unfold nd; dsimp only; rw [← hrr, if_neg hl, if_neg (by decide), ← ha']
            refine end0 y false (root, none, pt B to size ((y + 16 * nb B m a') % 256) m) _ _ ef (.inl ⟨rfl, rfl⟩) ((e0 _ _).trans (e1 _)) ?_
            show cond (decide (0 ≤ IntKind.wrap .u32 (7 - r))) (Let _ fun s18 => Let _ _) none = _
            rw [cpos h7, Let_eq, Let_eq, leaf_p hv hr01, addr_p ha hv hr01, ← ha', decide_eq_false hl]
            show ((f_MRead B m.1 m.2.1 a' 1).bind _) = _
            rw [MRead_eq (by decide) (by decide), bind_some', cfalse hw8, wrap_u8 hx.1 hx.2]
            show ((f_put to m.2.2 size B m.1 m.2.1 (bits .or .u8 y (IntKind.wrap .u8 (nb B m a' * 16)))).bind _) = _
            rw [ev, put_eq hi hvb, bind_some']
            show cond (!(decide (¬ full size (pt B to size ((y + 16 * nb B m a') % 256) m)))) _ _ = _
            by_cases hh : full size (pt B to size ((y + 16 * nb B m a') % 256) m)
            · rw [ctrue (by simpa using hh), if_pos hh]
            · rw [cfalse (by simpa using hh), if_neg hh, wrap_i64 (x := (k : Int) - 1) (by omega) (by omega)]; rfl
  · intro st a y m; rfl
  · intro st a y j m hfull
    show cond (decide ((j : Int) < 65536)) ((f_full to size m.2.2 B m.1 m.2.1).bind _) _ = _
    rw [full_eq, bind_some', decide_eq_true (show ((m.2.2.length : Nat) : Int) ≥ size from hfull)]
    exact csame
  · intro st a y h j m hj ha hi hf hp
    have hwb := rd_bd B m.1 st 4
    obtain ⟨w, hw⟩ : ∃ w, w = rd B m.1 st 4 := ⟨_, rfl⟩
    rw [← hw] at hwb ⊢
    have goal := nd_ref (B := B) (to := to) (size := size) (root := root) (w := w) (eight := eight) (ρ := (Int × Int × Int × Int × List Int × List E59 × List Int) ⊕ (Int ⊕ (Int × List Int × List E59 × List Int)))
      (F := fun (s : (Int × Int × Int × (List Int) × (List E59) × (List Int))) => match s with | (s10_1, s11_1, s14, I_2_xs_cell_q0_M_b_1, I_2_xs_cell_q0_M_b_2, I_2_xs_cell_q1_3) => ((cond (decide (s14 < 32)) ((f_full to size I_2_xs_cell_q1_3 B I_2_xs_cell_q0_M_b_1 I_2_xs_cell_q0_M_b_2).bind fun (x59 : O_full) => (cond (!x59) (cond ((decide (0 ≤ (IntKind.wrap .i64 (31 - s14))))) (Let ((Int.tmod (Int.fdiv w (2 ^ (min (IntKind.wrap .i64 (31 - s14)).toNat 32))) 2) : Int) fun s15 => ((f_MRead B I_2_xs_cell_q0_M_b_1 I_2_xs_cell_q0_M_b_2 s10_1 1).bind fun (x74 : O_MRead) => (Let ((IntKind.wrap .u32 ((IntKind.wrap .u32 ((IntKind.wrap .u32 ((IntKind.wrap .u32 (s10_1 - (Int.tmod s10_1 2))) + (IntKind.wrap .u32 (2 * (Int.tmod x74 64))))) + 2)) + s15)) : Int) fun s10_2 => (cond ((decide (0 ≤ (IntKind.wrap .u32 (7 - s15))))) (cond ((Int.tmod (Int.fdiv x74 (2 ^ (min (IntKind.wrap .u32 (7 - s15)).toNat 32))) 2) == 0) (some (.inl (s10_2, s11_1, (IntKind.wrap .i64 (s14 + 1)), I_2_xs_cell_q0_M_b_1, I_2_xs_cell_q0_M_b_2, I_2_xs_cell_q1_3))) ((f_MRead B I_2_xs_cell_q0_M_b_1 I_2_xs_cell_q0_M_b_2 s10_2 1).bind fun (x97 : O_MRead) => (cond eight ((f_rput to size I_2_xs_cell_q1_3 B I_2_xs_cell_q0_M_b_1 I_2_xs_cell_q0_M_b_2 (IntKind.wrap .i64 x97)).bind fun (o : O_rput) => (match o with | (w_10_r_xs_cell_q0_3, w_10_r_xs_cell_q0_M_b_1, w_10_r_xs_cell_q0_M_b_2) => (some (.inl (root, s11_1, (IntKind.wrap .i64 (s14 + 1)), w_10_r_xs_cell_q0_M_b_1, w_10_r_xs_cell_q0_M_b_2, w_10_r_xs_cell_q0_3))))) (cond (decide (s11_1 < 0)) (some (.inl (root, (Int.tmod (IntKind.wrap .i64 x97) 16), (IntKind.wrap .i64 (s14 + 1)), I_2_xs_cell_q0_M_b_1, I_2_xs_cell_q0_M_b_2, I_2_xs_cell_q1_3))) ((f_rput to size I_2_xs_cell_q1_3 B I_2_xs_cell_q0_M_b_1 I_2_xs_cell_q0_M_b_2 (Int.tmod (IntKind.wrap .i64 (s11_1 + (IntKind.wrap .i64 (16 * (IntKind.wrap .i64 x97))))) 256)).bind fun (o : O_rput) => (match o with | (w_11_r_xs_cell_q0_3, w_11_r_xs_cell_q0_M_b_1, w_11_r_xs_cell_q0_M_b_2) => (some (.inl (root, (-1), (IntKind.wrap .i64 (s14 + 1)), w_11_r_xs_cell_q0_M_b_1, w_11_r_xs_cell_q0_M_b_2, w_11_r_xs_cell_q0_3))))))))) none)))) none) (some (.inr (.inl ((IntKind.wrap .u32 (st + 4)), s10_1, s11_1, (IntKind.wrap .i64 ((j : Int) + 1)), I_2_xs_cell_q0_M_b_1, I_2_xs_cell_q0_M_b_2, I_2_xs_cell_q1_3)))))) (some (.inr (.inl ((IntKind.wrap .u32 (st + 4)), s10_1, s11_1, (IntKind.wrap .i64 ((j : Int) + 1)), I_2_xs_cell_q0_M_b_1, I_2_xs_cell_q0_M_b_2, I_2_xs_cell_q1_3))))) : Option ((Int × Int × Int × (List Int) × (List E59) × (List Int)) ⊕ ((Int × Int × Int × Int × (List Int) × (List E59) × (List Int)) ⊕ (Int ⊕ (Int × List Int × List E59 × List Int))))))
      (fun a y m => .inl (IntKind.wrap .u32 (st + 4), a, y, IntKind.wrap .i64 ((j : Int) + 1), m.1, m.2.1, m.2.2)) hrb (fun a y m => rfl) ?_ ?_ 32 a y h m (by decide) ha hi hp
    · obtain ⟨y', hp', he⟩ := goal
      refine ⟨y', hp', ?_⟩
      show cond (decide ((j : Int) < 65536)) ((f_full to size m.2.2 B m.1 m.2.1).bind _) _ = _
      rw [cpos (by omega), full_eq, bind_some', decide_eq_false (show ¬ ((m.2.2.length : Nat) : Int) ≥ size from hf)]
      show ((f_MRead B m.1 m.2.1 st 4).bind _) = _
      rw [MRead_eq (by decide) (by decide), bind_some', ← hw]
      refine Eq.trans he ?_
      rw [wr_u32 (st + 4), wrap_i64 (x := (j : Int) + 1) (by omega) (by omega)]; rfl
    · intro k a y m hk hfull
      show cond (decide (((31 - k : Nat) : Int) < 32)) ((f_full to size m.2.2 B m.1 m.2.1).bind _) _ = _
      rw [cpos (by omega), full_eq, bind_some', decide_eq_true (show ((m.2.2.length : Nat) : Int) ≥ size from hfull)]; rfl
    · clear hp hf hi ha h y a hw m
      intro k a y h m hk ha hi hf hp
      have hv := nb_bd (B := B) hi a
      have hb : Int.tmod (Int.fdiv w (2 ^ (min (IntKind.wrap .i64 (31 - ((31 - k : Nat) : Int))).toNat 32))) 2 = w / ((2 ^ k : Nat) : Int) % 2 := by
        rw [wrap_i64 (x := 31 - ((31 - k : Nat) : Int)) (by omega) (by omega), show min (31 - ((31 - k : Nat) : Int)).toNat 32 = k by omega]
        have e : (2 : Int) ^ k = ((2 ^ k : Nat) : Int) := by simp
        rw [e, fdiv_pos (by have := Nat.pow_pos (n := k) (show 0 < 2 by decide); omega), tmod_nn (Int.ediv_nonneg hwb.1 (Int.natCast_nonneg _))]
      have hr01 : w / ((2 ^ k : Nat) : Int) % 2 = 0 ∨ w / ((2 ^ k : Nat) : Int) % 2 = 1 := by omega
      obtain ⟨r, hrr⟩ : ∃ r, r = w / ((2 ^ k : Nat) : Int) % 2 := ⟨_, rfl⟩
      rw [← hrr] at hb hr01
      have h7 : 0 ≤ IntKind.wrap .u32 (7 - r) := by rw [wr_u32]; omega
      have hk1 : IntKind.wrap .i64 (((31 - k : Nat) : Int) + 1) = ((32 - k : Nat) : Int) := by rw [wrap_i64 (by omega) (by omega)]; omega
      obtain ⟨a', ha'⟩ : ∃ a', a' = (a - a % 2 + nb B m a % 64 * 2 + 2 + r) % 4294967296 := ⟨_, rfl⟩
      have hx := nb_bd (B := B) hi a'
      have e0 : ∀ (K : Bool → Option ((Int × Int × Int × (List Int) × (List E59) × (List Int)) ⊕ ((Int × Int × Int × Int × (List Int) × (List E59) × (List Int)) ⊕ (Int ⊕ (Int × List Int × List E59 × List Int))))) E, (cond (decide (((31 - k : Nat) : Int) < 32)) ((f_full to size m.2.2 B m.1 m.2.1).bind K) E) = K false := fun K E => by
        rw [cpos (by omega), full_eq, bind_some', decide_eq_false (show ¬ ((m.2.2.length : Nat) : Int) ≥ size from hf)]
      have e1 : ∀ (K1 : Int → Option ((Int × Int × Int × (List Int) × (List E59) × (List Int)) ⊕ ((Int × Int × Int × Int × (List Int) × (List E59) × (List Int)) ⊕ (Int ⊕ (Int × List Int × List E59 × List Int))))), (cond (decide (0 ≤ IntKind.wrap .i64 (31 - ((31 - k : Nat) : Int)))) (Let (Int.tmod (Int.fdiv w (2 ^ (min (IntKind.wrap .i64 (31 - ((31 - k : Nat) : Int))).toNat 32))) 2) K1) none) = K1 r := fun K1 => by
        rw [cpos (by rw [wrap_i64 (by omega) (by omega)]; omega), Let_eq, hb]
      have end0 : ∀ (y' : Int) (T : TT) V W, T = nd B to size root w eight k (a, h, m) → rrel y' T.2.1 → V = W → (W = (some (.inl (T.1, y', ((32 - k : Nat) : Int), T.2.2.1, T.2.2.2.1, T.2.2.2.2)) : Option ((Int × Int × Int × (List Int) × (List E59) × (List Int)) ⊕ ((Int × Int × Int × Int × (List Int) × (List E59) × (List Int)) ⊕ (Int ⊕ (Int × List Int × List E59 × List Int)))))) → ∃ y', rrel y' (nd B to size root w eight k (a, h, m)).2.1 ∧ V = some (.inl ((nd B to size root w eight k (a, h, m)).1, y', ((32 - k : Nat) : Int), (nd B to size root w eight k (a, h, m)).2.2.1, (nd B to size root w eight k (a, h, m)).2.2.2.1, (nd B to size root w eight k (a, h, m)).2.2.2.2)) :=
        fun y' T V W hT hp hV hW => ⟨y', by rw [← hT]; exact hp, by rw [← hT, hV, hW]⟩
      by_cases hl : nb B m a / (128 - 64 * r) % 2 = 0
      · have ef : (a', h, m) = nd B to size root w eight k (a, h, m) := by
          unfold nd; dsimp only; rw [← hrr, if_pos hl, ← ha']
        refine end0 y (a', h, m) _ _ ef hp ((e0 _ _).trans (e1 _)) ?_
        show ((f_MRead B m.1 m.2.1 a 1).bind _) = _
        rw [MRead_eq (by decide) (by decide), bind_some', Let_eq, cpos h7, leaf_r hv hr01, addr_r ha hv hr01, ← ha', ceq hl, hk1]
      · cases eight with
        | true =>
          have ef : (root, h, pt B to size (nb B m a') m) = nd B to size root w true k (a, h, m) := by
            unfold nd; dsimp only; rw [← hrr, if_neg hl, if_pos rfl, ← ha']
          refine end0 y (root, h, pt B to size (nb B m a') m) _ _ ef hp ((e0 _ _).trans (e1 _)) ?_
          show ((f_MRead B m.1 m.2.1 a 1).bind _) = _
          rw [MRead_eq (by decide) (by decide), bind_some', Let_eq, cpos h7, leaf_r hv hr01, addr_r ha hv hr01, ← ha', cne hl, MRead_eq (by decide) (by decide), bind_some', ctrue rfl, wrap_i64 (x := nb B m a') (by omega) (by omega), rput_eq hi hx, bind_some', hk1]
        | false =>
          rcases hp with ⟨rfl, rfl⟩ | ⟨rfl, hy0, hy1⟩
          · have ef : (root, some (nb B m a' % 16), m) = nd B to size root w false k (a, none, m) := by
              unfold nd; dsimp only; rw [← hrr, if_neg hl, if_neg (by decide), ← ha']
            refine end0 (nb B m a' % 16) (root, some (nb B m a' % 16), m) _ _ ef (.inr ⟨rfl, by omega, by omega⟩) ((e0 _ _).trans (e1 _)) ?_
            show ((f_MRead B m.1 m.2.1 a 1).bind _) = _
            rw [MRead_eq (by decide) (by decide), bind_some', Let_eq, cpos h7, leaf_r hv hr01, addr_r ha hv hr01, ← ha', cne hl, MRead_eq (by decide) (by decide), bind_some', cfalse rfl, cpos (by decide), wrap_i64 (x := nb B m a') (by omega) (by omega), tmod_nn hx.1, hk1]
          · have hvb : 0 ≤ (y + 16 * nb B m a') % 256 ∧ (y + 16 * nb B m a') % 256 < 256 := by omega
            have ef : (root, none, pt B to size ((y + 16 * nb B m a') % 256) m) = nd B to size root w false k (a, some y, m) := by
              unfold nd; dsimp only; rw [← hrr, if_neg hl, if_neg (by decide), ← ha']
            refine end0 (-1) (root, none, pt B to size ((y + 16 * nb B m a') % 256) m) _ _ ef (.inl ⟨rfl, rfl⟩) ((e0 _ _).trans (e1 _)) ?_
            show ((f_MRead B m.1 m.2.1 a 1).bind _) = _
            rw [MRead_eq (by decide) (by decide), bind_some', Let_eq, cpos h7, leaf_r hv hr01, addr_r ha hv hr01, ← ha', cne hl, MRead_eq (by decide) (by decide), bind_some', cfalse rfl, cneg (by omega), wrap_i64 (x := nb B m a') (by omega) (by omega), wrap_i64 (x := 16 * nb B m a') (by omega) (by omega), wrap_i64 (x := y + 16 * nb B m a') (by omega) (by omega), tmod_nn (by omega), rput_eq hi hvb, bind_some', hk1]
end Go.Proofs.Ytnobglfjinehfaa
