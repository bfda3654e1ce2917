/-
  The buffers: to feed them, and to go on by a timer, in both units.
-/
import Derived.Test.YtccmpceifheejaaRk
namespace Go.Proofs.Ytccmpceifheejaa
open Go.Vc
set_option linter.unusedVariables false
set_option linter.unusedSimpArgs false
set_option maxHeartbeats 4000000
def sg (b : Int) : Int := if b > 127 then b - 256 else b
def go (V : US) (j : Nat) (t : Int) : Bool := V.ma && (V.dir / 2 ^ j % 2 == t)
def popL (g : Bool) (l : List Int) : List Int := cond g ((l.drop 1).take (l.length - 1)) l
def popN (g : Bool) (l : List Int) (n : Int) : Int := cond g (cond (decide (((l.length : Nat) : Int) > 0)) (ixL l 0) n) n
def popS (g : Bool) (l : List Int) (n : Int) : Int := cond g (cond (decide (((l.length : Nat) : Int) > 0)) (IntKind.wrap .i64 (IntKind.wrap .i8 (ixL l 0))) n) n
def hun (g : Bool) (l : List Int) (w : Int) : Int := cond g (cond (decide (((l.length - 1 : Nat) : Int) ≤ 16)) w 0) 0
theorem popL_nil {g : Bool} : popL g [] = [] := by cases g <;> rfl
theorem bits_v {m : Int} (h : 0 ≤ m ∧ m < 65536) (j : Nat) (hj : j ≤ 15) : IntKind.wrap .i64 (bits .and .u16 (Int.fdiv m (2 ^ j)) 1) = m / 2 ^ j % 2 ∧ IntKind.wrap .i64 (Int.tmod (Int.fdiv m (2 ^ j)) 2) = m / 2 ^ j % 2 := by
  have h2 := pw hj
  have h3 := div_u16 h h2
  rw [fdiv_pos (by omega), and16 1 (by decide) (by decide) h3.1 h3.2, tmod_nn h3.1, show ((2 ^ 1 : Nat) : Int) = 2 by decide]
  exact ⟨wrap_i64 (by omega) (by omega), wrap_i64 (by omega) (by omega)⟩
def oU (V : US) (t : Int) : US :=
  { V with n0 := popS (go V 10 t) V.w0 V.n0, n1 := popS (go V 14 t) V.w1 V.n1, w0 := popL (go V 10 t) V.w0, w1 := popL (go V 14 t) V.w1, s0 := popL (go V 10 t) V.s0, s1 := popL (go V 14 t) V.s1 }
def oH (V : US) (t : Int) : Int := hun (go V 10 t) V.w0 1 + hun (go V 14 t) V.w1 2
theorem ov_p {α : Type} {v t : Int} {ma : Bool} {l : List Int} {n h0 h1 : Int} {w : Int} (hl : l.length ≤ 40) (hw : ∀ g, h0 + hun g l w = cond g (cond (decide (((l.length - 1 : Nat) : Int) ≤ 16)) h1 h0) h0) (F : Int → Int → List Int → α) :
    cond (v != t) (some (F h0 n l)) (cond (!ma) (some (F h0 n l)) (cond (decide (((l.length : Nat) : Int) > 0)) (cond (decide (0 ≤ (0 : Int)) && decide ((0 : Int) < ((l.length : Nat) : Int))) (cond (decide (0 ≤ ((l.length : Nat) : Int)) && decide (((l.length : Nat) : Int) ≤ ((l.length : Nat) : Int))) (cond (decide (0 ≤ (1 : Int)) && decide ((1 : Int) ≤ ((l.length : Nat) : Int))) (cond (decide (((l.length - 1 : Nat) : Int) ≤ 16)) (some (F h1 (IntKind.wrap .i64 (IntKind.wrap .i8 (ixL l 0))) ((l.drop 1).take (l.length - 1)))) (some (F h0 (IntKind.wrap .i64 (IntKind.wrap .i8 (ixL l 0))) ((l.drop 1).take (l.length - 1))))) none) none) none) (cond (decide (((l.length : Nat) : Int) ≤ 16)) (some (F h1 n l)) (some (F h0 n l))))) =
      some (F (h0 + hun (ma && (v == t)) l w) (popS (ma && (v == t)) l n) (popL (ma && (v == t)) l)) := by
  rw [hw]
  show cond (!(v == t)) _ _ = _
  unfold popS popL
  cases ma
  · cases (v == t) <;> rfl
  cases (v == t)
  · rfl
  simp only [Bool.true_and, cond_true, Bool.not_true, cond_false]
  by_cases hp : ((l.length : Nat) : Int) > 0
  · rw [cpos hp, cpos hp, cand (by decide) (by omega), cand (by omega) (by omega), cand (by decide) (by omega)]
    cases (decide (((l.length - 1 : Nat) : Int) ≤ 16)) <;> rfl
  · obtain rfl : l = [] := List.length_eq_zero_iff.1 (by omega)
    rfl
theorem ov_r {α : Type} {v t : Int} {ma : Bool} {l : List Int} {n h0 h1 : Int} {w : Int} (hl : l.length ≤ 40) (hw : ∀ g, h0 + hun g l w = cond g (cond (decide (((l.length - 1 : Nat) : Int) ≤ 16)) h1 h0) h0) (F : Int → Int → List Int → α) :
    cond (!ma) (some (F h0 n l)) (cond (v != t) (some (F h0 n l)) (cond (decide (((l.length : Nat) : Int) > 0)) (cond (decide (0 ≤ (0 : Int)) && decide ((0 : Int) < ((l.length : Nat) : Int))) (cond (decide (0 ≤ ((l.length : Nat) : Int)) && decide (((l.length : Nat) : Int) ≤ ((l.length : Nat) : Int))) (cond (decide (0 ≤ (1 : Int)) && decide ((1 : Int) ≤ ((l.length : Nat) : Int))) (cond (decide (((l.length - 1 : Nat) : Int) < 17)) (some (F h1 (ixL l 0) ((l.drop 1).take (l.length - 1)))) (some (F h0 (ixL l 0) ((l.drop 1).take (l.length - 1))))) none) none) none) (cond (decide (((l.length : Nat) : Int) < 17)) (some (F h1 n l)) (some (F h0 n l))))) =
      some (F (h0 + hun (ma && (v == t)) l w) (popN (ma && (v == t)) l n) (popL (ma && (v == t)) l)) := by
  rw [hw]
  show cond (!ma) _ (cond (!(v == t)) _ _) = _
  unfold popN popL
  cases ma
  · cases (v == t) <;> rfl
  cases (v == t)
  · rfl
  simp only [Bool.true_and, cond_true, Bool.not_true, cond_false]
  by_cases hp : ((l.length : Nat) : Int) > 0
  · rw [cpos hp, cpos hp, cand (by decide) (by omega), cand (by omega) (by omega), cand (by decide) (by omega)]
    by_cases k : ((l.length - 1 : Nat) : Int) ≤ 16
    · rw [cpos k, cpos (by omega)]
    · rw [cneg k, cneg (by omega)]
  · obtain rfl : l = [] := List.length_eq_zero_iff.1 (by omega)
    rfl
theorem hun_eq {g : Bool} {l : List Int} {h0 w h1 : Int} (e : h0 + w = h1) : h0 + hun g l w = cond g (cond (decide (((l.length - 1 : Nat) : Int) ≤ 16)) h1 h0) h0 := by
  unfold hun
  cases g
  · show h0 + 0 = h0; omega
  cases (decide (((l.length - 1 : Nat) : Int) ≤ 16))
  · show h0 + 0 = h0; omega
  · exact e
theorem hun1 {g : Bool} {l : List Int} : hun g l 1 = 0 ∨ hun g l 1 = 1 := by
  unfold hun
  cases g
  · exact .inl rfl
  cases (decide (((l.length - 1 : Nat) : Int) ≤ 16))
  · exact .inl rfl
  · exact .inr rfl
theorem Over_eq {U : US} (h : Good U) (l0 : U.w0.length ≤ 40) (l1 : U.w1.length ≤ 40) {q : Int} (h0 : U.ps.now ≤ q) (h1 : q ≤ 1900000000) {t : Int} : k_Over U q t = some (r_Over (oH (runU U q) t) (oU (runU U q) t)) := by
  unfold k_Over uA f_Over
  refine (bind_of _ (Run_eq h h0 h1)).trans ?_
  rw [← keeps_runU U q]
  generalize runU U q = W
  have hd := h.u.d
  refine loopO_for (fun i => match i with
    | 0 => ((0 : Int), (0 : Int), U.n0, U.n1, U.w0, U.w1)
    | 1 => (0 + hun (go U 10 t) U.w0 1, (1 : Int), popS (go U 10 t) U.w0 U.n0, U.n1, popL (go U 10 t) U.w0, U.w1)
    | _ => (0 + hun (go U 10 t) U.w0 1 + hun (go U 14 t) U.w1 2, (2 : Int), popS (go U 10 t) U.w0 U.n0, popS (go U 14 t) U.w1 U.n1, popL (go U 10 t) U.w0, popL (go U 14 t) U.w1)) 2 ?_ ?_
  · intro i hi
    obtain rfl | rfl : i = 0 ∨ i = 1 := by omega
    · show cond (IntKind.wrap .i64 (bits .and .u16 (Int.fdiv U.dir (2 ^ 10)) 1) != t) _ _ = _
      rw [(bits_v hd 10 (by decide)).1]
      exact ov_p (v := U.dir / 2 ^ 10 % 2) (t := t) (ma := U.ma) (l := U.w0) (n := U.n0) (h0 := 0) (h1 := 1) (w := 1) l0 (fun g => hun_eq rfl) (fun a b c => (Sum.inl (a, (1 : Int), b, U.n1, c, U.w1) : (Int × Int × Int × Int × List Int × List Int) ⊕ O_Over))
    · show cond (IntKind.wrap .i64 (bits .and .u16 (Int.fdiv U.dir (2 ^ 14)) 1) != t) _ _ = _
      rw [(bits_v hd 14 (by decide)).1]
      rcases hun1 (g := go U 10 t) (l := U.w0) with z | z
      · rw [z]
        exact ov_p (v := U.dir / 2 ^ 14 % 2) (t := t) (ma := U.ma) (l := U.w1) (n := U.n1) (h0 := 0) (h1 := 2) (w := 2) l1 (fun g => hun_eq rfl) (fun a b c => (Sum.inl (a, (2 : Int), popS (go U 10 t) U.w0 U.n0, b, popL (go U 10 t) U.w0, c) : (Int × Int × Int × Int × List Int × List Int) ⊕ O_Over))
      · rw [z]
        exact ov_p (v := U.dir / 2 ^ 14 % 2) (t := t) (ma := U.ma) (l := U.w1) (n := U.n1) (h0 := 1) (h1 := 3) (w := 2) l1 (fun g => hun_eq rfl) (fun a b c => (Sum.inl (a, (2 : Int), popS (go U 10 t) U.w0 U.n0, b, popL (go U 10 t) U.w0, c) : (Int × Int × Int × Int × List Int × List Int) ⊕ O_Over))
  · show some (Sum.inr _) = _
    rw [Int.zero_add]
    rfl
theorem rOver_eq {U : US} (h : Good U) (l0 : U.s0.length ≤ 40) (l1 : U.s1.length ≤ 40) (e0 : U.s0 = U.w0.map sg) (e1 : U.s1 = U.w1.map sg) (b0 : ∀ b ∈ U.w0, 0 ≤ b ∧ b < 256) (b1 : ∀ b ∈ U.w1, 0 ≤ b ∧ b < 256) {q : Int} (h0 : U.ps.now ≤ q) (h1 : q ≤ 1900000000) {t : Int} : k_rOver U q t = some (r_rOver (oH (runU U q) t) (oU (runU U q) t)) := by
  have hh : ∀ g w, hun g U.w0 w = hun g U.s0 w ∧ hun g U.w1 w = hun g U.s1 w := fun g w => by unfold hun; rw [e0, e1, List.length_map, List.length_map]; exact ⟨rfl, rfl⟩
  have hpp : ∀ (g : Bool) (l : List Int) (n : Int), (∀ b ∈ l, 0 ≤ b ∧ b < 256) → popS g l n = popN g (l.map sg) n := by
    intro g l n hb
    unfold popS popN
    cases g
    · rfl
    rw [List.length_map]
    cases l with
    | nil => rfl
    | cons b r =>
      have hb' := hb b (List.mem_cons_self ..)
      have hpos : (((b :: r).length : Nat) : Int) > 0 := by simp only [List.length_cons]; omega
      show cond (decide ((((b :: r).length : Nat) : Int) > 0)) _ n = cond (decide ((((b :: r).length : Nat) : Int) > 0)) _ n
      rw [cpos hpos, cpos hpos]
      show IntKind.wrap .i64 (IntKind.wrap .i8 b) = sg b
      have : IntKind.wrap .i8 b = sg b := by
        have e1 : (2 : Int) ^ 8 = 256 := by decide
        have e2 : (2 : Int) ^ (8 - 1) = 128 := by decide
        unfold sg
        simp only [IntKind.wrap, IntKind.bits, IntKind.signed, e1, e2, Bool.true_and, decide_eq_true_eq]
        split <;> split <;> omega
      rw [this]
      refine wrap_i64 ?_ ?_ <;> unfold sg <;> split <;> omega
  have hp0 : ∀ g, popS g U.w0 U.n0 = popN g U.s0 U.n0 := fun g => by rw [e0]; exact hpp g U.w0 U.n0 b0
  have hp1 : ∀ g, popS g U.w1 U.n1 = popN g U.s1 U.n1 := fun g => by rw [e1]; exact hpp g U.w1 U.n1 b1
  unfold k_rOver rA f_rOver
  refine (bind_of _ (rRun_eq h h0 h1)).trans ?_
  rw [← keeps_runU U q]
  generalize runU U q = W
  have hd := h.u.d
  refine loopO_for (fun i => match i with
    | 0 => ((0 : Int), (0 : Int), U.n0, U.n1, U.s0, U.s1)
    | 1 => (0 + hun (go U 10 t) U.s0 1, (1 : Int), popN (go U 10 t) U.s0 U.n0, U.n1, popL (go U 10 t) U.s0, U.s1)
    | _ => (0 + hun (go U 10 t) U.s0 1 + hun (go U 14 t) U.s1 2, (2 : Int), popN (go U 10 t) U.s0 U.n0, popN (go U 14 t) U.s1 U.n1, popL (go U 10 t) U.s0, popL (go U 14 t) U.s1)) 2 ?_ ?_
  · intro i hi
    obtain rfl | rfl : i = 0 ∨ i = 1 := by omega
    · refine ceval (by rfl) ?_
      show cond (!U.ma) _ (cond (decide (0 ≤ (IntKind.wrap .i64 (10 + (IntKind.wrap .i64 (4 * (0 : Int))))))) (cond (IntKind.wrap .i64 (Int.tmod (Int.fdiv U.dir (2 ^ 10)) 2) != t) _ _) none) = _
      rw [cpos (by decide), (bits_v hd 10 (by decide)).2]
      exact ov_r (v := U.dir / 2 ^ 10 % 2) (t := t) (ma := U.ma) (l := U.s0) (n := U.n0) (h0 := 0) (h1 := 1) (w := 1) l0 (fun g => hun_eq rfl) (fun a b c => (Sum.inl (a, (1 : Int), b, U.n1, c, U.s1) : (Int × Int × Int × Int × List Int × List Int) ⊕ O_rOver))
    · refine ceval (by rfl) ?_
      show cond (!U.ma) _ (cond (decide (0 ≤ (IntKind.wrap .i64 (10 + (IntKind.wrap .i64 (4 * (1 : Int))))))) (cond (IntKind.wrap .i64 (Int.tmod (Int.fdiv U.dir (2 ^ 14)) 2) != t) _ _) none) = _
      rw [cpos (by decide), (bits_v hd 14 (by decide)).2]
      rcases hun1 (g := go U 10 t) (l := U.s0) with z | z
      · rw [z]
        exact ov_r (v := U.dir / 2 ^ 14 % 2) (t := t) (ma := U.ma) (l := U.s1) (n := U.n1) (h0 := 0) (h1 := 2) (w := 2) l1 (fun g => hun_eq rfl) (fun a b c => (Sum.inl (a, (2 : Int), popN (go U 10 t) U.s0 U.n0, b, popL (go U 10 t) U.s0, c) : (Int × Int × Int × Int × List Int × List Int) ⊕ O_rOver))
      · rw [z]
        exact ov_r (v := U.dir / 2 ^ 14 % 2) (t := t) (ma := U.ma) (l := U.s1) (n := U.n1) (h0 := 1) (h1 := 3) (w := 2) l1 (fun g => hun_eq rfl) (fun a b c => (Sum.inl (a, (2 : Int), popN (go U 10 t) U.s0 U.n0, b, popL (go U 10 t) U.s0, c) : (Int × Int × Int × Int × List Int × List Int) ⊕ O_rOver))
  · show some (Sum.inr _) = some (Sum.inr (r_rOver (hun (go U 10 t) U.w0 1 + hun (go U 14 t) U.w1 2) { keeps U W with n0 := popS (go U 10 t) U.w0 U.n0, n1 := popS (go U 14 t) U.w1 U.n1, w0 := popL (go U 10 t) U.w0, w1 := popL (go U 14 t) U.w1, s0 := popL (go U 10 t) U.s0, s1 := popL (go U 14 t) U.s1 }))
    rw [Int.zero_add, (hh _ _).1, (hh _ _).2, hp0, hp1]
def feed1 (l : List Int) (b : Int) : List Int := if l.length < 32 then l ++ [b] else l
def by4 (x : Int) (k : Nat) : Int := x / 256 ^ k % 256
def feedN (f : Int → Int) (x : Int) (l : List Int) : Nat → List Int
  | 0 => l
  | k + 1 => feed1 (feedN f x l k) (f (by4 x k))
theorem feed1_len {l : List Int} {b : Int} (h : l.length ≤ 32) : (feed1 l b).length ≤ 32 := by
  unfold feed1; split
  · rw [List.length_append]; simp only [List.length_singleton]; omega
  · exact h
theorem feedN_len {f : Int → Int} {x : Int} {l : List Int} (h : l.length ≤ 32) : ∀ k, (feedN f x l k).length ≤ 32
  | 0 => h
  | k + 1 => feed1_len (feedN_len h k)
theorem feedN_map {x : Int} {l : List Int} : ∀ k, feedN sg x (l.map sg) k = (feedN id x l k).map sg
  | 0 => rfl
  | k + 1 => by
    show feed1 (feedN sg x (l.map sg) k) _ = List.map sg (feed1 (feedN id x l k) _)
    rw [feedN_map k]
    unfold feed1
    rw [List.length_map]
    split
    · rw [List.map_append]; rfl
    · rfl
theorem feedN_mem {x : Int} {l : List Int} (h : ∀ b ∈ l, 0 ≤ b ∧ b < 256) : ∀ k, ∀ b ∈ feedN id x l k, 0 ≤ b ∧ b < 256
  | 0 => h
  | k + 1 => by
    intro b hb
    have ih := feedN_mem h (x := x) k
    have hb : b ∈ feed1 (feedN id x l k) (by4 x k) := hb
    unfold feed1 at hb
    split at hb
    · rcases List.mem_append.1 hb with hb | hb
      · exact ih b hb
      · have : b = by4 x k := by simpa using hb
        rw [this]
        unfold by4
        omega
    · exact ih b hb
def fU (U : US) (i x : Int) : US :=
  if i = 0 then { U with w0 := feedN id x U.w0 4, s0 := feedN sg x U.s0 4 } else if i = 1 then { U with w1 := feedN id x U.w1 4, s1 := feedN sg x U.s1 4 } else U
theorem byte_p {x : Int} (hx : 0 ≤ x ∧ x < 4294967296) : IntKind.wrap .u8 (Int.fdiv x (2 ^ 0)) = by4 x 0 ∧ IntKind.wrap .u8 (Int.fdiv x (2 ^ 8)) = by4 x 1 ∧ IntKind.wrap .u8 (Int.fdiv x (2 ^ 16)) = by4 x 2 ∧ IntKind.wrap .u8 (Int.fdiv x (2 ^ 24)) = by4 x 3 := by
  have w : ∀ z : Int, IntKind.wrap .u8 z = z % 256 := fun z => by
    have e1 : (2 : Int) ^ 8 = 256 := by decide
    simp only [IntKind.wrap, IntKind.bits, IntKind.signed, e1, Bool.false_and]
    simp
  rw [w, w, w, w, fdiv_pos (by decide), fdiv_pos (by decide), fdiv_pos (by decide), fdiv_pos (by decide)]
  exact ⟨rfl, rfl, rfl, rfl⟩
theorem fd_p {α : Type} {l : List Int} {b : Int} (h : l.length ≤ 32) (F : List Int → α) : cond (decide (((l.length : Nat) : Int) < 32)) (cond (decide ((l ++ [b]).length ≤ 225179981368370)) (some (F (l ++ [b]))) none) (some (F l)) = some (F (feed1 l b)) := by
  unfold feed1
  by_cases k : l.length < 32
  · rw [cpos (by omega), cpos (by rw [List.length_append]; simp only [List.length_singleton]; omega), if_pos k]
  · rw [cneg (by omega), if_neg k]
theorem Feed_eq {U : US} (l0 : U.w0.length ≤ 32) (l1 : U.w1.length ≤ 32) {i x : Int} (hx : 0 ≤ x ∧ x < 4294967296) : k_Feed U i x = some (r_Feed (fU U i x)) := by
  obtain ⟨p0, p1, p2, p3⟩ := byte_p hx
  unfold k_Feed uA f_Feed fU
  by_cases i0 : i = 0
  · subst i0
    rw [cneg (by decide), cneg (by decide), if_pos rfl]
    refine loopO_for (fun k => ((k : Int), feedN id x U.w0 k, U.w1)) 4 ?_ rfl
    intro k hk
    obtain rfl | rfl | rfl | rfl : k = 0 ∨ k = 1 ∨ k = 2 ∨ k = 3 := by omega
    · exact (fd_p (l := feedN id x U.w0 0) (b := IntKind.wrap .u8 (Int.fdiv x (2 ^ 0))) (feedN_len l0 _) (fun l => (Sum.inl ((1 : Int), l, U.w1) : (Int × List Int × List Int) ⊕ O_Feed))).trans (by rw [p0]; rfl)
    · exact (fd_p (l := feedN id x U.w0 1) (b := IntKind.wrap .u8 (Int.fdiv x (2 ^ 8))) (feedN_len l0 _) (fun l => (Sum.inl ((2 : Int), l, U.w1) : (Int × List Int × List Int) ⊕ O_Feed))).trans (by rw [p1]; rfl)
    · exact (fd_p (l := feedN id x U.w0 2) (b := IntKind.wrap .u8 (Int.fdiv x (2 ^ 16))) (feedN_len l0 _) (fun l => (Sum.inl ((3 : Int), l, U.w1) : (Int × List Int × List Int) ⊕ O_Feed))).trans (by rw [p2]; rfl)
    · exact (fd_p (l := feedN id x U.w0 3) (b := IntKind.wrap .u8 (Int.fdiv x (2 ^ 24))) (feedN_len l0 _) (fun l => (Sum.inl ((4 : Int), l, U.w1) : (Int × List Int × List Int) ⊕ O_Feed))).trans (by rw [p3]; rfl)
  rw [if_neg i0]
  by_cases i1 : i = 1
  · subst i1
    rw [cneg (by decide), cneg (by decide), if_pos rfl]
    refine loopO_for (fun k => ((k : Int), U.w0, feedN id x U.w1 k)) 4 ?_ rfl
    intro k hk
    obtain rfl | rfl | rfl | rfl : k = 0 ∨ k = 1 ∨ k = 2 ∨ k = 3 := by omega
    · exact (fd_p (l := feedN id x U.w1 0) (b := IntKind.wrap .u8 (Int.fdiv x (2 ^ 0))) (feedN_len l1 _) (fun l => (Sum.inl ((1 : Int), U.w0, l) : (Int × List Int × List Int) ⊕ O_Feed))).trans (by rw [p0]; rfl)
    · exact (fd_p (l := feedN id x U.w1 1) (b := IntKind.wrap .u8 (Int.fdiv x (2 ^ 8))) (feedN_len l1 _) (fun l => (Sum.inl ((2 : Int), U.w0, l) : (Int × List Int × List Int) ⊕ O_Feed))).trans (by rw [p1]; rfl)
    · exact (fd_p (l := feedN id x U.w1 2) (b := IntKind.wrap .u8 (Int.fdiv x (2 ^ 16))) (feedN_len l1 _) (fun l => (Sum.inl ((3 : Int), U.w0, l) : (Int × List Int × List Int) ⊕ O_Feed))).trans (by rw [p2]; rfl)
    · exact (fd_p (l := feedN id x U.w1 3) (b := IntKind.wrap .u8 (Int.fdiv x (2 ^ 24))) (feedN_len l1 _) (fun l => (Sum.inl ((4 : Int), U.w0, l) : (Int × List Int × List Int) ⊕ O_Feed))).trans (by rw [p3]; rfl)
  rw [if_neg i1]
  by_cases i2 : i < 0
  · rw [cpos i2]
  · rw [cneg i2, cpos (by omega)]
theorem fd_r {α : Type} {l : List Int} {s : Int} (hs : 0 ≤ s ∧ s < 4294967296) (h : l.length ≤ 32) (F : List Int → α) : cond (decide (((l.length : Nat) : Int) < 32)) (cond (decide ((IntKind.wrap .i64 (Int.tmod s 256)) > 127)) (Let ((IntKind.wrap .i64 ((IntKind.wrap .i64 (Int.tmod s 256)) - 256)) : Int) fun s7 => (cond (decide ((([] : List Int) ++ l).length ≤ 28147497670911)) (cond (decide (((([] : List Int) ++ l) ++ [s7]).length ≤ 28147497670911)) (some (F ((([] : List Int) ++ l) ++ [s7]))) none) none)) (cond (decide ((([] : List Int) ++ l).length ≤ 28147497670911)) (cond (decide (((([] : List Int) ++ l) ++ [(IntKind.wrap .i64 (Int.tmod s 256))]).length ≤ 28147497670911)) (some (F ((([] : List Int) ++ l) ++ [(IntKind.wrap .i64 (Int.tmod s 256))]))) none) none)) (some (F l)) = some (F (feed1 l (sg (s % 256)))) := by
  rw [Let_eq, tmod_nn hs.1, wrap_i64 (x := s % 256) (by omega) (by omega), wrap_i64 (x := s % 256 - 256) (by omega) (by omega)]
  unfold feed1 sg
  simp only [List.nil_append]
  by_cases k : l.length < 32
  · rw [cpos (by omega), if_pos k]
    by_cases c : s % 256 > 127
    · rw [cpos c, if_pos c, cpos (by omega), cpos (by rw [List.length_append]; simp only [List.length_singleton]; omega)]
    · rw [cneg c, if_neg c, cpos (by omega), cpos (by rw [List.length_append]; simp only [List.length_singleton]; omega)]
  · rw [cneg (by omega), if_neg k]
theorem u32_div {s : Int} (hs : 0 ≤ s ∧ s < 4294967296) : IntKind.wrap .u32 (Int.tdiv s 256) = s / 256 := by
  have e1 : (2 : Int) ^ 32 = 4294967296 := by decide
  rw [tdiv_nn hs.1]
  simp only [IntKind.wrap, IntKind.bits, IntKind.signed, e1, Bool.false_and]
  simp
  omega
end Go.Proofs.Ytccmpceifheejaa
