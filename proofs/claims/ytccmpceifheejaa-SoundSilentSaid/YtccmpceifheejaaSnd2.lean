/-
  SoundBytes and SoundSilent, and the laws. (Printed by wip/s23/mk3.py.)
-/
import Derived.Test.YtccmpceifheejaaSnd
namespace Go.Proofs.Ytccmpceifheejaa
open Go.Vc
set_option linter.unusedVariables false
set_option linter.unusedSimpArgs false

theorem wrap_i8_bd (x : Int) : -128 ≤ IntKind.wrap .i8 x ∧ IntKind.wrap .i8 x ≤ 127 := by
  have e1 : (2 : Int) ^ 8 = 256 := by decide
  have e2 : (2 : Int) ^ (8 - 1) = 128 := by decide
  simp only [IntKind.wrap, IntKind.bits, IntKind.signed, e1, e2, Bool.true_and, decide_eq_true_eq]
  split <;> omega
theorem i8u8 (x : Int) : IntKind.wrap .i8 (IntKind.wrap .u8 x) = IntKind.wrap .i8 x := by
  have e1 : (2 : Int) ^ 8 = 256 := by decide
  have e2 : (2 : Int) ^ (8 - 1) = 128 := by decide
  simp only [IntKind.wrap, IntKind.bits, IntKind.signed, e1, e2, Bool.true_and, Bool.false_and, decide_eq_true_eq, Bool.false_eq_true, if_false]
  have : x % 256 % 256 = x % 256 := by omega
  rw [this]
theorem fd_map (x : Int) (w : List Int) (k : Nat) : (fd (IntKind.wrap .u8) x w k).map (IntKind.wrap .i8) = fd (IntKind.wrap .i8) x (w.map (IntKind.wrap .i8)) k := by
  unfold fd
  rw [List.length_map]
  split
  · rw [List.map_append]
    show _ ++ [IntKind.wrap .i8 (IntKind.wrap .u8 _)] = _
    rw [i8u8]
  · rfl
theorem fdL_map (x : Int) (w : List Int) : ∀ k, (fdL (IntKind.wrap .u8) x w k).map (IntKind.wrap .i8) = fdL (IntKind.wrap .i8) x (w.map (IntKind.wrap .i8)) k
  | 0 => rfl
  | k + 1 => by show (fd _ x (fdL _ x w k) k).map _ = fd _ x (fdL _ x _ k) k; rw [fd_map, fdL_map x w k]
abbrev B1 := Int × List Int × List Int × List Int
abbrev B2 := Int × Int × Int × Int × Bool × Int × Int × Int × Int × Int × Int × Int × Bool × Int × Int × Int × Int × Int × Bool × Int × Int × Int × Int × Int × Bool × Int × Int × Int × Int × Int × Int × Int × Int × List Int × List Int × List E38
abbrev b2 (i n0 n1 next now b : Int) (w0 w1 : List Int) (out : List E38) : B2 := (i, n0, n1, next, false, 0, 0, 0, 0, 0, 0, 0, false, 0, 0, 0, 0, 0, false, 0, 0, 0, 0, 0, false, 0, 0, 0, 0, 0, 0, now, b, w0, w1, out)
set_option maxHeartbeats 4000000 in
theorem SoundBytes_eq (words : List Int) : f_SoundBytes words = some true := by
  unfold f_SoundBytes
  rw [awake_eq, bind_some']
  show cond (decide (((words.length : Nat) : Int) > 20)) _ _ = _
  by_cases hlen : ((words.length : Nat) : Int) > 20
  · rw [cpos hlen]
  rw [cneg hlen]
  show ((f_New).bind _) = _
  rw [show f_New = some () from rfl, bind_some']
  show ((cWrite [] 0 [] 0 0 0 false 512 [] 512 0 0 0 2 128).bind _) = _
  rw [Write_on new0, bind_some']
  obtain ⟨c1, r1⟩ := ex_run (w0 := []) (n0 := 0) (w1 := []) (n1 := 0) (mix := 0) (dir := 0) (ma := true) (bias := 512) (next := 512) (now := 0) (b := 0) (q := 0) [] (by decide) (by decide) (by decide) (by decide) (by decide)
  show ((cWrite [] 0 [] 0 0 0 true 512 [] 512 0 0 0 1 772).bind _) = _
  rw [Write_772 r1, bind_some']
  refine loopO_inv (fun (n : Nat) (s : B1) => ∃ (k : Nat) (L : List Int), s = ((k : Int), L, [], L.map (IntKind.wrap .i8)) ∧ n = words.length - k ∧ k ≤ words.length ∧ L.length ≤ 32) ?_ words.length _ ⟨0, [], rfl, rfl, by omega, by simp⟩
  rintro n s ⟨k, L, rfl, rfl, hk, hL⟩
  by_cases hd : k < words.length
  · left
    refine ⟨(((k + 1 : Nat) : Int), fdL (IntKind.wrap .u8) (ixL words (k : Int)) L 4, [], (fdL (IntKind.wrap .u8) (ixL words (k : Int)) L 4).map (IntKind.wrap .i8)), words.length - (k + 1), ?_, by omega, k + 1, _, rfl, rfl, by omega, fdL_len hL 4⟩
    show cond (decide ((k : Int) < ((words.length : Nat) : Int))) (cond _ ((cFeed L 0 [] 0 0 772 true 512 [] 512 0 c1 0 (ixL words (k : Int))).bind _) _) _ = _
    rw [cpos (by omega), cand (by omega) (by omega), Feed_0 _ hL, bind_some']
    refine loopO_for (fun i => ((i : Int), fdL (IntKind.wrap .i8) (ixL words (k : Int)) (L.map (IntKind.wrap .i8)) i)) 4 (fun i hi => ?_) ?_
    · have hl := fdL_len (g := IntKind.wrap .i8) (x := ixL words (k : Int)) (w := L.map (IntKind.wrap .i8)) (by simpa using hL) i
      show cond (decide ((i : Int) < 4)) _ _ = some (Sum.inl (((i + 1 : Nat) : Int), fd (IntKind.wrap .i8) (ixL words (k : Int)) (fdL (IntKind.wrap .i8) (ixL words (k : Int)) (L.map (IntKind.wrap .i8)) i) i))
      rw [cpos (by omega), wrap_i64 (x := (i : Int) + 1) (by omega) (by omega)]
      unfold fd
      by_cases hc : (fdL (IntKind.wrap .i8) (ixL words (k : Int)) (L.map (IntKind.wrap .i8)) i).length < 32
      · rw [cpos (by omega), ctrue (wrap8 i hi), cpos (by simp; omega), if_pos hc]; rfl
      · rw [cneg (by omega), if_neg hc]; rfl
    · rw [fdL_map]
      show cond (decide (((4 : Nat) : Int) < 4)) _ (some (Sum.inr (Sum.inl (IntKind.wrap .i64 ((k : Int) + 1), _)))) = _
      rw [cneg (by decide), wrap_i64 (by omega) (by omega)]; rfl
  right
  show cond (decide ((k : Int) < ((words.length : Nat) : Int))) _ ((cWait L 0 [] 0 0 772 true 512 [] 512 0 c1 0).bind _) = _
  rw [cneg (by omega), show cWait L 0 [] 0 0 772 true 512 [] 512 0 c1 0 = some ((L.length : Nat) : Int) from rfl, bind_some', cbeq (by simp)]
  show ((cWait L 0 [] 0 0 772 true 512 [] 512 0 c1 1).bind _) = _
  rw [show cWait L 0 [] 0 0 772 true 512 [] 512 0 c1 1 = some 0 from rfl, bind_some', cbeq rfl]
  refine loopO_inv (fun (n : Nat) (s : B2) => ∃ (i : Nat) (n0 b : Int), s = b2 i n0 0 (512 * ((i : Int) + 1)) (512 * (i : Int)) b (L.drop i) [] [] ∧ n = L.length - i ∧ i ≤ L.length) ?_ L.length _ ⟨0, 0, c1, rfl, rfl, by omega⟩
  rintro n s ⟨i, n0, b, rfl, rfl, hi⟩
  by_cases hd2 : i < L.length
  · left
    have hdrop : L.drop i = L[i] :: L.drop (i + 1) := List.drop_eq_getElem_cons hd2
    have hbd := wrap_i8_bd L[i]
    have hN : IntKind.wrap .i64 (IntKind.wrap .i8 L[i]) = IntKind.wrap .i8 L[i] := wrap_i64 (by omega) (by omega)
    obtain ⟨c2, r2⟩ := ex_run (w0 := L[i] :: L.drop (i + 1)) (n0 := n0) (w1 := []) (n1 := 0) (mix := 0) (dir := 772) (ma := true) (bias := 512) (next := 512 * ((i : Int) + 1)) (now := 512 * (i : Int)) (b := b) (q := 512 * (i : Int)) [] (by omega) (by omega) (by omega) (by omega) (by decide)
    rw [if_neg (show ¬ (512 * (i : Int) < 512 * (i : Int)) by omega)] at r2
    obtain ⟨c3, r3⟩ := Run_eq (L.drop (i + 1)) (IntKind.wrap .i8 L[i]) [] 0 0 772 true 512 [] (512 * ((i : Int) + 1)) (512 * (i : Int)) c2 (v := 128 * IntKind.wrap .i8 L[i]) (q := 512 * ((i : Int) + 1)) (fun out next now b k hk => side_loud _ (IntKind.wrap .i8 L[i]) _ _ _ _ _ _ hbd.1 hbd.2 k hk) (by omega) (by omega) (by omega) (by omega) (by decide)
    rw [if_pos (Int.le_refl _), if_pos (show 512 * (i : Int) < 512 * ((i : Int) + 1) by omega), if_pos (Int.le_refl _), show (512 * ((i : Int) + 1) - 512 * ((i : Int) + 1)) / 512 + 1 = 1 by omega] at r3
    refine ⟨b2 ((i + 1 : Nat) : Int) (IntKind.wrap .i8 L[i]) 0 (512 * (((i + 1 : Nat) : Int) + 1)) (512 * ((i + 1 : Nat) : Int)) c3 (L.drop (i + 1)) [] [], L.length - (i + 1), ?_, by omega, i + 1, _, c3, rfl, rfl, by omega⟩
    show cond (decide ((i : Int) < (((L.map (IntKind.wrap .i8)).length : Nat) : Int))) (cond _ ((cOver (L.drop i) n0 [] 0 0 772 true 512 [] (512 * ((i : Int) + 1)) (512 * (i : Int)) b (IntKind.wrap .i64 (512 * (i : Int))) 0).bind _) _) _ = _
    have hls : (L.drop (i + 1)).length = L.length - (i + 1) := List.length_drop
    rw [List.length_map, cpos (by omega), cand (by omega) (by omega), hdrop, wrap_i64 (x := 512 * (i : Int)) (by omega) (by omega), Over_772 r2 (by omega), bind_some', hN]
    have hchk : (((bits .and .i64 (if (L.drop (i + 1)).length ≤ 16 then (3 : Int) else 2) 1) == 1) == (decide ((IntKind.wrap .i64 ((IntKind.wrap .i64 (((L.length : Nat) : Int) - (i : Int))) - 1)) ≤ 16))) = true := by
      have e1 : IntKind.wrap .i64 ((IntKind.wrap .i64 (((L.length : Nat) : Int) - (i : Int))) - 1) = (L.length : Int) - i - 1 := by
        rw [wrap_i64 (x := ((L.length : Nat) : Int) - (i : Int)) (by omega) (by omega), wrap_i64 (by omega) (by omega)]
      rw [e1]
      by_cases h16 : (L.drop (i + 1)).length ≤ 16
      · rw [if_pos h16, decide_eq_true (by omega)]; rfl
      · rw [if_neg h16, decide_eq_false (by omega)]; rfl
    show cond (!(((bits .and .i64 (if (L.drop (i + 1)).length ≤ 16 then (3 : Int) else 2) 1) == 1) == (decide ((IntKind.wrap .i64 ((IntKind.wrap .i64 (((L.length : Nat) : Int) - (i : Int))) - 1)) ≤ 16)))) _ _ = _
    rw [hchk]
    have eq2 : IntKind.wrap .i64 (512 * (IntKind.wrap .i64 ((i : Int) + 1))) = 512 * ((i : Int) + 1) := by
      rw [wrap_i64 (x := (i : Int) + 1) (by omega) (by omega), wrap_i64 (by omega) (by omega)]
    show ((cTake (L.drop (i + 1)) (IntKind.wrap .i8 L[i]) [] 0 0 772 true 512 [] (512 * ((i : Int) + 1)) (512 * (i : Int)) c2 (IntKind.wrap .i64 (512 * (IntKind.wrap .i64 ((i : Int) + 1))))).bind _) = _
    rw [show ([] ++ List.replicate (Int.toNat 1) (⟨128 * IntKind.wrap .i8 L[i], 128 * IntKind.wrap .i8 L[i]⟩ : E38)) = [⟨128 * IntKind.wrap .i8 L[i], 128 * IntKind.wrap .i8 L[i]⟩] from rfl] at r3
    rw [eq2, Take_eq r3, bind_some']
    show cond (((1 : Nat) : Int) != 1) _ (cond _ (cond (128 * IntKind.wrap .i8 L[i] != _) _ _) _) = _
    have hw : ixL (L.map (IntKind.wrap .i8)) (i : Int) = IntKind.wrap .i8 L[i] := by rw [ixL_nat (by simpa using hd2)]; simp
    rw [cbeq (show ((1 : Nat) : Int) = 1 from rfl), cand (by decide) (show (0 : Int) < (([(⟨128 * IntKind.wrap .i8 L[i], 128 * IntKind.wrap .i8 L[i]⟩ : E38)].length : Nat) : Int) from Int.zero_lt_one), hw, hN]
    generalize IntKind.wrap .i8 L[i] = y at hbd
    have e2 : (if (if y < 127 then y else 127) > -128 then (if y < 127 then y else 127) else -128) = y := by
      split <;> split <;> omega
    rw [e2, wrap_i64 (x := 128 * y) (by omega) (by omega), wrap_i16 (by omega) (by omega), cbeq rfl]
    show cond (128 * y != 128 * y) _ (some (Sum.inl (b2 (IntKind.wrap .i64 ((i : Int) + 1)) y 0 (512 * ((i : Int) + 1) + 512 * 1) (512 * ((i : Int) + 1)) c3 (L.drop (i + 1)) [] []))) = _
    rw [cbeq rfl, wrap_i64 (x := (i : Int) + 1) (by omega) (by omega)]
    have e3 : 512 * ((i : Int) + 1) + 512 * 1 = 512 * (((i + 1 : Nat) : Int) + 1) := by omega
    rw [e3]; rfl
  · right
    show cond (decide ((i : Int) < (((L.map (IntKind.wrap .i8)).length : Nat) : Int))) _ _ = _
    rw [List.length_map, cneg (by omega)]

/-! ### SoundSilent -/
abbrev S1 := Int × Int × Int × Int × Int × Bool × Int × Int × Int × Int × Int × Int × Int × Bool × Int × Int × Int × Int × Int × Bool × Int × Int × Int × Int × Int × Bool × Int × Int × Int × Int × Int × Int × Int × Int × Int × Int × Int × Int × Bool × Int × Int × Bool × Int × Int × Int × Int × Int × Int × Int × Bool × Int × Int × Int × Int × Int × Bool × Int × Int × Int × Int × Int × Bool × Int × Int × Int × Int × Int × Int × Int × Int × List Int × List Int × List E38 × List Int × List Int × List E38
abbrev s1 (now k m0 m1 mx pm bm n0 n1 mix dir bias nx pn bn : Int) (v0 v1 : List Int) (ov : List E38) (w0 w1 : List Int) (ou : List E38) : S1 :=
  (now, k, m0, m1, mx, false, 0, 0, 0, 0, 0, 0, 0, false, 0, 0, 0, 0, 0, false, 0, 0, 0, 0, 0, false, 0, 0, 0, 0, 0, 0, pm, bm, n0, n1, mix, dir, false, bias, nx, false, 0, 0, 0, 0, 0, 0, 0, false, 0, 0, 0, 0, 0, false, 0, 0, 0, 0, 0, false, 0, 0, 0, 0, 0, 0, pn, bn, v0, v1, ov, w0, w1, ou)
/-- A run of nothing. -/
structure Zs (now : Int) (k : Nat) (next pn : Int) (out : List E38) : Prop where
  p0 : 0 ≤ pn
  p1 : pn ≤ now
  n0 : pn ≤ next
  n1 : next ≤ now + 512
  zero : ∀ x ∈ out, x = (⟨0, 0⟩ : E38)
  len : out.length ≤ 10000 * k
theorem zs_run {w0 : List Int} {n0 : Int} {w1 : List Int} {n1 mix dir : Int} {ma : Bool} {bias : Int} {out : List E38} {next pn b now q : Int} {k : Nat} (hz : Zs now k next pn out) (hk : k ≤ 61) (hq : now ≤ q) (hq2 : q ≤ 4000000)
    (hv : ∀ (out : List E38) (next now b k : Int), k = 0 ∨ k = 1 → cSide w0 n0 w1 n1 mix dir ma bias out next now b k = some 0) :
    ∃ nx pn' b' o, cRun w0 n0 w1 n1 mix dir ma bias out next pn b q = some (rRun nx pn' b' o) ∧ Zs q (k + 1) nx pn' o := by
  have h1 := hz.p0
  have h2 := hz.p1
  have h3 := hz.n0
  have h4 := hz.n1
  have h5 := hz.len
  have z5 : ∀ j : Nat, j ≤ 10000 → (out ++ List.replicate j (⟨0, 0⟩ : E38)).length ≤ 10000 * (k + 1) := fun j hj => by
    rw [List.length_append, List.length_replicate]; omega
  have z6 : ∀ j : Nat, ∀ x ∈ out ++ List.replicate j (⟨0, 0⟩ : E38), x = (⟨0, 0⟩ : E38) := fun j x hx =>
    (List.mem_append.1 hx).elim (hz.zero x) (fun h => List.eq_of_mem_replicate h)
  obtain ⟨b', hr⟩ := Run_eq w0 n0 w1 n1 mix dir ma bias out next pn b (v := 0) (q := q) hv h1 (by omega) ⟨h3, by omega⟩ (by omega) (by omega)
  by_cases c2 : pn < q
  · rw [if_pos c2] at hr
    by_cases c1 : next ≤ q
    · rw [if_pos c1, if_pos c1] at hr
      exact ⟨_, _, b', _, hr, ⟨by omega, by omega, by omega, by omega, z6 _, z5 _ (by omega)⟩⟩
    · rw [if_neg c1, if_neg c1] at hr
      exact ⟨_, _, b', _, hr, ⟨by omega, by omega, by omega, by omega, z6 _, z5 _ (by omega)⟩⟩
  · rw [if_neg c2] at hr
    by_cases c1 : next ≤ q
    · rw [if_pos c1, if_pos c1] at hr
      exact ⟨_, _, b', _, hr, ⟨by omega, by omega, by omega, by omega, z6 _, z5 _ (by omega)⟩⟩
    · rw [if_neg c1, if_neg c1] at hr
      exact ⟨_, _, b', _, hr, ⟨by omega, by omega, by omega, by omega, z6 _, z5 _ (by omega)⟩⟩
theorem and16_le {a m : Int} (h : 0 ≤ m ∧ m < 65536) (ha : 0 ≤ a ∧ a < 65536) : 0 ≤ bits .and .u16 a m ∧ bits .and .u16 a m ≤ m := by
  obtain ⟨A, rfl⟩ := Int.eq_ofNat_of_zero_le ha.1
  obtain ⟨M, rfl⟩ := Int.eq_ofNat_of_zero_le h.1
  rw [u16_and_nat A M (by omega) (by omega)]
  have := Nat.and_le_right (n := A) (m := M)
  omega
set_option maxHeartbeats 4000000 in
theorem SoundSilent_eq (calls : List E42) (q : Int) (hq : 0 ≤ q ∧ q < 65536) : f_SoundSilent calls q = some true := by
  unfold f_SoundSilent
  rw [awake_eq, bind_some']
  show cond (decide (((calls.length : Nat) : Int) > 60)) _ _ = _
  by_cases hlen : ((calls.length : Nat) : Int) > 60
  · rw [cpos hlen]
  rw [cneg hlen]
  show ((f_New).bind _) = _
  rw [show f_New = some () from rfl, bind_some']
  show ((f_New).bind _) = _
  rw [show f_New = some () from rfl, bind_some']
  show ((cWrite [] 0 [] 0 0 0 false 512 [] 512 0 0 0 2 128).bind _) = _
  rw [Write_on new0, bind_some']
  show ((cWrite [] 0 [] 0 0 0 false 512 [] 512 0 0 0 3 q).bind _) = _
  rw [Write_bias new0, bind_some']
  obtain ⟨c1, r1⟩ := ex_run (w0 := []) (n0 := 0) (w1 := []) (n1 := 0) (mix := 0) (dir := 0) (ma := true) (bias := 512) (next := 512) (now := 0) (b := 0) (q := 0) [] (by decide) (by decide) (by decide) (by decide) (by decide)
  show ((cWrite [] 0 [] 0 0 0 true 512 [] 512 0 0 0 3 q).bind _) = _
  rw [Write_bias r1, bind_some']
  have hb := and16_le (m := 1022) ⟨by decide, by decide⟩ hq
  generalize bits .and .u16 q 1022 = bi at hb
  have hvV : ∀ (v0 : List Int) (m0 : Int) (v1 : List Int) (m1 : Int) (out : List E38) (next now b k : Int), k = 0 ∨ k = 1 → cSide v0 m0 v1 m1 0 0 true bi out next now b k = some 0 := fun v0 m0 v1 m1 out next now b k hk => side_bias v0 m0 v1 m1 bi out next now b hb.1 hb.2 k hk
  have hvU : ∀ (v0 : List Int) (m0 : Int) (v1 : List Int) (m1 mix dir bias : Int) (out : List E38) (next now b k : Int), k = 0 ∨ k = 1 → cSide v0 m0 v1 m1 mix dir false bias out next now b k = some 0 := fun v0 m0 v1 m1 mix dir bias out next now b k hk => rfl
  refine loopO_inv (fun (n : Nat) (s : S1) => ∃ (now : Int) (k : Nat) (m0 m1 mx pm bm n0 n1 mix dir bias nx pn bn : Int) (v0 v1 : List Int) (ov : List E38) (w0 w1 : List Int) (ou : List E38), s = s1 now k m0 m1 mx pm bm n0 n1 mix dir bias nx pn bn v0 v1 ov w0 w1 ou ∧ n = calls.length - k ∧ k ≤ calls.length ∧
      0 ≤ now ∧ now ≤ 50000 * k ∧ Zs now (k + 1) mx pm ov ∧ Zs now (k + 1) nx pn ou ∧ v0.length ≤ 32 ∧ v1.length ≤ 32 ∧ w0.length ≤ 32 ∧ w1.length ≤ 32) ?_ calls.length _
    ⟨0, 0, 0, 0, 512, 0, c1, 0, 0, 0, 0, bi, 512, 0, 0, [], [], [], [], [], [], rfl, rfl, by omega, by omega, by omega, ⟨by decide, by decide, by decide, by decide, by simp, by simp⟩, ⟨by decide, by decide, by decide, by decide, by simp, by simp⟩, by simp, by simp, by simp, by simp⟩
  rintro n s ⟨now, k, m0, m1, mx, pm, bm, n0, n1, mix, dir, bias, nx, pn, bn, v0, v1, ov, w0, w1, ou, rfl, rfl, hk, hn0, hn1, zV, zU, lv0, lv1, lw0, lw1⟩
  have zmono : ∀ {now' : Int} {next p : Int} {o : List E38} {j j' : Nat}, Zs now j next p o → now ≤ now' → j ≤ j' → Zs now' j' next p o := fun z h hj => ⟨z.p0, Int.le_trans z.p1 h, z.n0, by have := z.n1; omega, z.zero, by have := z.len; omega⟩
  by_cases hd : k < calls.length
  · left
    have hc : ixL calls (k : Int) = calls[k] := ixL_nat hd
    generalize calls[k] = c at hc
    have hk60 : k ≤ 60 := by omega
    -- the unchanged step
    by_cases g1 : c.Wait < 0
    · refine ⟨s1 now ((k + 1 : Nat) : Int) m0 m1 mx pm bm n0 n1 mix dir bias nx pn bn v0 v1 ov w0 w1 ou, calls.length - (k + 1), ?_, by omega, now, k + 1, m0, m1, mx, pm, bm, n0, n1, mix, dir, bias, nx, pn, bn, v0, v1, ov, w0, w1, ou, rfl, rfl, by omega, hn0, by omega, zmono zV (Int.le_refl _) (by omega), zmono zU (Int.le_refl _) (by omega), lv0, lv1, lw0, lw1⟩
      show cond (decide ((k : Int) < ((calls.length : Nat) : Int))) _ _ = _
      rw [cpos (by omega), cand (by omega) (by omega), hc, cpos g1, wrap_i64 (by omega) (by omega)]; rfl
    by_cases g2 : c.Wait > 50000
    · refine ⟨s1 now ((k + 1 : Nat) : Int) m0 m1 mx pm bm n0 n1 mix dir bias nx pn bn v0 v1 ov w0 w1 ou, calls.length - (k + 1), ?_, by omega, now, k + 1, m0, m1, mx, pm, bm, n0, n1, mix, dir, bias, nx, pn, bn, v0, v1, ov, w0, w1, ou, rfl, rfl, by omega, hn0, by omega, zmono zV (Int.le_refl _) (by omega), zmono zU (Int.le_refl _) (by omega), lv0, lv1, lw0, lw1⟩
      show cond (decide ((k : Int) < ((calls.length : Nat) : Int))) _ _ = _
      rw [cpos (by omega), cand (by omega) (by omega), hc, cneg g1, cpos g2, wrap_i64 (by omega) (by omega)]; rfl
    have hw : IntKind.wrap .i64 (now + c.Wait) = now + c.Wait := wrap_i64 (by omega) (by omega)
    have hnn : now ≤ now + c.Wait := by omega
    have stay : ∃ s' m', some (Sum.inl (s1 (now + c.Wait) ((k + 1 : Nat) : Int) m0 m1 mx pm bm n0 n1 mix dir bias nx pn bn v0 v1 ov w0 w1 ou) : S1 ⊕ O_SoundSilent) = some (Sum.inl s') ∧ m' < calls.length - k ∧ ∃ (now : Int) (k : Nat) (m0 m1 mx pm bm n0 n1 mix dir bias nx pn bn : Int) (v0 v1 : List Int) (ov : List E38) (w0 w1 : List Int) (ou : List E38), s' = s1 now k m0 m1 mx pm bm n0 n1 mix dir bias nx pn bn v0 v1 ov w0 w1 ou ∧ m' = calls.length - k ∧ k ≤ calls.length ∧
      0 ≤ now ∧ now ≤ 50000 * k ∧ Zs now (k + 1) mx pm ov ∧ Zs now (k + 1) nx pn ou ∧ v0.length ≤ 32 ∧ v1.length ≤ 32 ∧ w0.length ≤ 32 ∧ w1.length ≤ 32 :=
      ⟨_, calls.length - (k + 1), rfl, by omega, now + c.Wait, k + 1, m0, m1, mx, pm, bm, n0, n1, mix, dir, bias, nx, pn, bn, v0, v1, ov, w0, w1, ou, rfl, rfl, by omega, by omega, by omega, zmono zV hnn (by omega), zmono zU hnn (by omega), lv0, lv1, lw0, lw1⟩
    by_cases k0 : c.Kind = 0
    · by_cases i2 : c.I = 2
      · obtain ⟨s', m', e, h⟩ := stay
        refine ⟨s', m', ?_, h⟩
        rw [← e]
        show cond (decide ((k : Int) < ((calls.length : Nat) : Int))) _ _ = _
        rw [cpos (by omega), cand (by omega) (by omega), hc, cneg g1, cneg g2, ceq k0, cbeq i2, hw, wrap_i64 (by omega) (by omega)]; rfl
      · obtain ⟨nx', pn', bn', ou', hr, zU'⟩ := zs_run (w0 := w0) (n0 := n0) (w1 := w1) (n1 := n1) (mix := mix) (dir := dir) (ma := false) (bias := bias) (b := bn) (q := now + c.Wait) zU (by omega) hnn (by omega) (hvU w0 n0 w1 n1 mix dir bias)
        have hW : ∃ n0' n1' mix' dir' bias' w0' w1', cWrite w0 n0 w1 n1 mix dir false bias ou nx pn bn (now + c.Wait) c.I (IntKind.wrap .u16 c.X) = some (rWrite n0' n1' mix' dir' false bias' nx' pn' bn' w0' w1' ou') ∧ w0'.length ≤ 32 ∧ w1'.length ≤ 32 := Write_any2 hr _ _ i2 lw0 lw1
        obtain ⟨n0', n1', mix', dir', bias', w0', w1', hW, lw0', lw1'⟩ := hW
        refine ⟨s1 (now + c.Wait) ((k + 1 : Nat) : Int) m0 m1 mx pm bm n0' n1' mix' dir' bias' nx' pn' bn' v0 v1 ov w0' w1' ou', calls.length - (k + 1), ?_, by omega, now + c.Wait, k + 1, m0, m1, mx, pm, bm, n0', n1', mix', dir', bias', nx', pn', bn', v0, v1, ov, w0', w1', ou', rfl, rfl, by omega, by omega, by omega, zmono zV hnn (by omega), zU', lv0, lv1, lw0', lw1'⟩
        show cond (decide ((k : Int) < ((calls.length : Nat) : Int))) _ _ = _
        rw [cpos (by omega), cand (by omega) (by omega), hc, cneg g1, cneg g2, ceq k0, cbne i2, hw]
        show ((cWrite w0 n0 w1 n1 mix dir false bias ou nx pn bn (now + c.Wait) c.I (IntKind.wrap .u16 c.X)).bind _) = _
        rw [hW, bind_some', wrap_i64 (x := (k : Int) + 1) (by omega) (by omega)]; rfl
    by_cases k2 : c.Kind = 2
    · obtain ⟨w0', w1', hU, lw0', lw1'⟩ := Feed_any (w0 := w0) (n0 := n0) (w1 := w1) (n1 := n1) (mix := mix) (dir := dir) (ma := false) (bias := bias) (out := ou) (next := nx) (now := pn) (b := bn) c.I c.X lw0 lw1
      obtain ⟨v0', v1', hV, lv0', lv1'⟩ := Feed_any (w0 := v0) (n0 := m0) (w1 := v1) (n1 := m1) (mix := 0) (dir := 0) (ma := true) (bias := bi) (out := ov) (next := mx) (now := pm) (b := bm) c.I c.X lv0 lv1
      refine ⟨s1 (now + c.Wait) ((k + 1 : Nat) : Int) m0 m1 mx pm bm n0 n1 mix dir bias nx pn bn v0' v1' ov w0' w1' ou, calls.length - (k + 1), ?_, by omega, now + c.Wait, k + 1, m0, m1, mx, pm, bm, n0, n1, mix, dir, bias, nx, pn, bn, v0', v1', ov, w0', w1', ou, rfl, rfl, by omega, by omega, by omega, zmono zV hnn (by omega), zmono zU hnn (by omega), lv0', lv1', lw0', lw1'⟩
      show cond (decide ((k : Int) < ((calls.length : Nat) : Int))) _ _ = _
      rw [cpos (by omega), cand (by omega) (by omega), hc, cneg g1, cneg g2, cne k0, ceq k2]
      show ((cFeed w0 n0 w1 n1 mix dir false bias ou nx pn bn c.I c.X).bind _) = _
      rw [hU, bind_some']
      show ((cFeed v0 m0 v1 m1 0 0 true bi ov mx pm bm c.I c.X).bind _) = _
      rw [hV, bind_some', hw, wrap_i64 (x := (k : Int) + 1) (by omega) (by omega)]; rfl
    by_cases k3 : c.Kind = 3
    · obtain ⟨nx', pn', bn', ou', hr, zU'⟩ := zs_run (w0 := w0) (n0 := n0) (w1 := w1) (n1 := n1) (mix := mix) (dir := dir) (ma := false) (bias := bias) (b := bn) (q := now + c.Wait) zU (by omega) hnn (by omega) (hvU w0 n0 w1 n1 mix dir bias)
      obtain ⟨mx', pm', bm', ov', hr2, zV'⟩ := zs_run (w0 := v0) (n0 := m0) (w1 := v1) (n1 := m1) (mix := 0) (dir := 0) (ma := true) (bias := bi) (b := bm) (q := now + c.Wait) zV (by omega) hnn (by omega) (hvV v0 m0 v1 m1)
      obtain ⟨hu, m0', m1', v0', v1', hO, lv0', lv1'⟩ := Over_any hr2 c.I lv0 lv1
      refine ⟨s1 (now + c.Wait) ((k + 1 : Nat) : Int) m0' m1' mx' pm' bm' n0 n1 mix dir bias nx' pn' bn' v0' v1' ov' w0 w1 ou', calls.length - (k + 1), ?_, by omega, now + c.Wait, k + 1, m0', m1', mx', pm', bm', n0, n1, mix, dir, bias, nx', pn', bn', v0', v1', ov', w0, w1, ou', rfl, rfl, by omega, by omega, by omega, zV', zU', lv0', lv1', lw0, lw1⟩
      show cond (decide ((k : Int) < ((calls.length : Nat) : Int))) _ _ = _
      rw [cpos (by omega), cand (by omega) (by omega), hc, cneg g1, cneg g2, cne k0, cne k2, ceq k3, hw]
      show ((cOver w0 n0 w1 n1 mix dir false bias ou nx pn bn (now + c.Wait) c.I).bind _) = _
      rw [Over_off hr, bind_some']
      show cond ((0 : Int) != 0) _ ((cOver v0 m0 v1 m1 0 0 true bi ov mx pm bm (now + c.Wait) c.I).bind _) = _
      rw [cbeq rfl, hO, bind_some', wrap_i64 (x := (k : Int) + 1) (by omega) (by omega)]; rfl
    · obtain ⟨s', m', e, h⟩ := stay
      refine ⟨s', m', ?_, h⟩
      rw [← e]
      show cond (decide ((k : Int) < ((calls.length : Nat) : Int))) _ _ = _
      rw [cpos (by omega), cand (by omega) (by omega), hc, cneg g1, cneg g2, cne k0, cne k2, cne k3, hw, wrap_i64 (by omega) (by omega)]; rfl
  right
  have hk60 : k ≤ 60 := by omega
  have hw : IntKind.wrap .i64 (now + 2000) = now + 2000 := wrap_i64 (by omega) (by omega)
  obtain ⟨nx', pn', bn', ou', hr, zU'⟩ := zs_run (w0 := w0) (n0 := n0) (w1 := w1) (n1 := n1) (mix := mix) (dir := dir) (ma := false) (bias := bias) (b := bn) (q := now + 2000) zU (by omega) (by omega) (by omega) (hvU w0 n0 w1 n1 mix dir bias)
  obtain ⟨mx', pm', bm', ov', hr2, zV'⟩ := zs_run (w0 := v0) (n0 := m0) (w1 := v1) (n1 := m1) (mix := 0) (dir := 0) (ma := true) (bias := bi) (b := bm) (q := now + 2000) zV (by omega) (by omega) (by omega) (hvV v0 m0 v1 m1)
  have l1 := zU'.len
  have l2 := zV'.len
  show cond (decide ((k : Int) < ((calls.length : Nat) : Int))) _ _ = _
  rw [cneg (by omega), hw]
  show ((cTake w0 n0 w1 n1 mix dir false bias ou nx pn bn (now + 2000)).bind _) = _
  rw [Take_eq hr, bind_some']
  show ((cTake v0 m0 v1 m1 0 0 true bi ov mx pm bm (now + 2000)).bind _) = _
  rw [Take_eq hr2, bind_some']
  show cond (decide ((ou' ++ ov').length ≤ _)) _ _ = _
  rw [cpos (by rw [List.length_append]; omega)]
  have hall : ∀ x ∈ ou' ++ ov', x = (⟨0, 0⟩ : E38) := fun x hx => (List.mem_append.1 hx).elim (zU'.zero x) (zV'.zero x)
  have hll : (ou' ++ ov').length ≤ 2000000 := by rw [List.length_append]; omega
  generalize ou' ++ ov' = l at hall hll
  refine loopO_for (fun i => (i : Int)) l.length (fun i hi => ?_) ?_
  · show cond (decide ((i : Int) < ((l.length : Nat) : Int))) _ _ = _
    rw [cpos (by omega), cand (by omega) (by omega), ixL_nat hi, hall _ (List.getElem_mem hi), wrap_i64 (by omega) (by omega)]; rfl
  · show cond (decide ((l.length : Int) < ((l.length : Nat) : Int))) _ _ = _
    rw [cneg (by omega)]
end Go.Proofs.Ytccmpceifheejaa
