/-
  JournalFull, JournalAgain: what the laws compute.
-/
import Derived.Test.YtpbiilgehbiacaaDoorJLaw
namespace Go.Proofs.YtpbiilgehbiacaaDoor
open Go.Vc
set_option linter.unusedVariables false
set_option linter.unusedSimpArgs false

theorem new_format {n slots : Nat} (hn0 : 1 ≤ n) (hn1 : n ≤ 2) (hs0 : 1 ≤ slots) (hs1 : slots ≤ 1024) {m : List UInt8} (hm : m.length = 64 * n) :
    f_Format (List.replicate (2 + 2 * n + slots) Z) (List.replicate (2 + 2 * n + slots) Z) [] [] (-1) false (bs m) (slots : Int) = some (.inl (-1, false, ((64 * n : Nat) : Int), (slots : Int), fmt (List.replicate (2 + 2 * n + slots) Z) n slots m, fmt (List.replicate (2 + 2 * n + slots) Z) n slots m, [])) ∧
    JS (fmt (List.replicate (2 + 2 * n + slots) Z) n slots m) n slots 1 0 m [] := by
  have hl : (List.replicate (2 + 2 * n + slots) Z).length = 2 + 2 * n + slots := by simp
  exact ⟨Format_h (Good.self (zeros_full _)) (by simp) hl hn0 (by omega) hs0 hs1 hm, fmt_JS (zeros_full _) hl hn0 (by omega) hs0 hs1 hm⟩
theorem inl_of {σ ρ τ : Type} {f : τ → Option (τ ⊕ (σ ⊕ ρ))} {s0 : τ} {n : Nat} {I : Nat → σ → Prop} (Q : σ → Prop) (h : ∃ r, loopO f s0 = some r ∧ ∃ x, r = Sum.inl x ∧ Q x) (h2 : ∀ x, Q x → ∃ m, m < n ∧ I m x) : ∃ s' m, loopO f s0 = some (Sum.inl s') ∧ m < n ∧ I m s' := by
  obtain ⟨r, e, x, rfl, q⟩ := h
  obtain ⟨m, h1, h2⟩ := h2 x q
  exact ⟨x, m, e, h1, h2⟩
theorem JournalFull_eq (q0 q1 : Int) : f_JournalFull q0 q1 = some true := by
  unfold f_JournalFull
  rw [awake_eq, bind_some', cfalse (show (!true) = false from rfl)]
  by_cases h1 : q0 < 1
  · rw [cpos h1]
  rw [cneg h1]
  by_cases h2 : q0 > 100
  · rw [cpos h2]
  rw [cneg h2]
  obtain ⟨s, rfl⟩ := Int.eq_ofNat_of_zero_le (show 0 ≤ q0 by omega)
  obtain ⟨hF, hJ⟩ := new_format (n := 1) (slots := s) (m := imgL 1 []) (by decide) (by decide) (by omega) (by omega) (imgL_len 1 [])
  rw [show f_Sectors 64 (s : Int) = _ from Sectors_h (n := 1) (slots := s) (by decide) (by decide) (by omega) (by omega), bind_some']
  dsimp only
  rw [New_h (L := 2 + 2 * 1 + s) (by omega) (by omega), bind_some']
  dsimp only
  rw [show f_image 1 (ByteArray.mk #[]) = some (bs (imgL 1 [])) from image_eq 1 (by decide) [] (by simp), bind_some', hF, bind_some']
  dsimp only
  generalize fmt (List.replicate (2 + 2 * 1 + s) Z) 1 s (imgL 1 []) = S0 at hJ
  have hr : 0 ≤ Int.tmod (IntKind.wrap .i64 (Int.tmod q1 3 + 3)) 3 ∧ Int.tmod (IntKind.wrap .i64 (Int.tmod q1 3 + 3)) 3 ≤ 2 := by
    have a1 := Int.natAbs_tmod q1 3
    have a2 : q1.natAbs % (3 : Int).natAbs < 3 := Nat.mod_lt _ (by decide)
    rw [wrap_i64 (x := Int.tmod q1 3 + 3) (by omega) (by omega), tmod_nn (by omega)]
    omega
  have hR : IntKind.wrap .i64 (Int.tmod (IntKind.wrap .i64 (Int.tmod q1 3 + 3)) 3 + 1) = Int.tmod (IntKind.wrap .i64 (Int.tmod q1 3 + 3)) 3 + 1 := wrap_i64 (by omega) (by omega)
  obtain ⟨R, hRn⟩ := Int.eq_ofNat_of_zero_le (show 0 ≤ Int.tmod (IntKind.wrap .i64 (Int.tmod q1 3 + 3)) 3 + 1 by omega)
  have hximg : f_image 1 (ByteArray.mk #[120]) = some (bs (imgL 1 [120])) := image_eq 1 (by decide) [120] (by simp)
  refine loopO_inv (fun (d : Nat) (st : Int × Int × Bool × Int × Int × Int × Bool × List ByteArray × List ByteArray × List E91) => ∃ (r base area : Nat) (S : List ByteArray) (img : List UInt8), st = ((r : Int), -1, false, (base : Int), (base : Int), (area : Int), false, S, S, []) ∧ d = R - r ∧ r ≤ R ∧ base ≤ 1 + 1000 * r ∧ JS S 1 s base area img [] ∧ (1 ≤ r → img = imgL 1 [120])) ?_ R _ ⟨0, 1, 0, S0, _, rfl, rfl, by omega, by omega, hJ, by omega⟩
  rintro d st ⟨r, base, area, S, img, rfl, rfl, hr1, hbase, hj, himg⟩
  have hb0 := hj.b0
  by_cases hc : r < R
  · left
    show ∃ s' m, cond (decide ((r : Int) < IntKind.wrap .i64 (Int.tmod (IntKind.wrap .i64 (Int.tmod q1 3 + 3)) 3 + 1))) (loopO _ _) _ = _ ∧ _ ∧ _
    rw [hR, hRn, cpos (by omega)]
    refine inl_of (fun x => ∃ (area' : Nat) (S' : List ByteArray), x = (((r + 1 : Nat) : Int), -1, false, ((base + s + s : Nat) : Int), ((base + s + s : Nat) : Int), (area' : Int), false, S', S', []) ∧ JS S' 1 s (base + s + s) area' (imgL 1 [120]) [])
      (loopO_ex _ (fun (d : Nat) (st : Int × Int × Bool × Int × List ByteArray × List E91) => ∃ (k : Nat) (S' : List ByteArray) (W' : List E91), st = ((k : Int), -1, false, ((base + k : Nat) : Int), S', W') ∧ d = s - k ∧ k ≤ s ∧ JS S' 1 s base area img (List.replicate k cmdB) ∧ Good S S' W' ∧ W'.length = k) ?_ s _ ⟨0, S, [], rfl, rfl, by omega, hj, Good.self hj.full, rfl⟩) ?_
    · rintro d st ⟨k, S', W', rfl, rfl, hk, hj', hg', hwl⟩
      have hlen : (List.replicate k cmdB).length = k := by simp
      have hs1 := hj'.s1; have hb1 := hj'.b1
      by_cases hkc : k < s
      · left
        obtain ⟨S2, W2, a1, a2, a3, a4⟩ := Append_h hj' hg' (by omega) cmdB cmdB_ok (by omega)
        rw [hlen] at a1
        refine ⟨(((k + 1 : Nat) : Int), -1, false, ((base + (k + 1) : Nat) : Int), S2, W2), s - (k + 1), ?_, by omega, k + 1, S2, W2, rfl, rfl, by omega, ?_, a3, by omega⟩
        · show cond (decide ((k : Int) < (s : Int))) (Option.bind (f_Left _ _ _ _ _ _ _ _ _ _ _ _) _) _ = _
          rw [cpos (by omega), Left_h hs1 (by omega) (by omega), bind_some', wrap_i64 (x := (s : Int) - (k : Int)) (by omega) (by omega), cbeq (by omega)]
          rw [show f_Append ((64 * 1 : Nat) : Int) (s : Int) (base : Int) ((base + k : Nat) : Int) (area : Int) false S S' W' [] (-1) false 3 0 (ByteArray.mk #[]) = _ from a1, bind_some']
          show cond ((0 : Int) != 0) _ _ = _
          rw [cbeq rfl, wrap_i64 (by omega) (by omega)]; rfl
        · rw [List.replicate_succ']; exact a2
      · right
        have hke : k = s := by omega
        subst hke
        have hl0 : f_Left ((64 * 1 : Nat) : Int) (k : Int) (base : Int) ((base + k : Nat) : Int) (area : Int) false S S' W' [] (-1) false = some 0 := by
          have := Left_h (slots := k) (b := base) (k := k) (size := ((64 * 1 : Nat) : Int)) (area := (area : Int)) (F := S) (S := S') (W := W') (B := []) (fu := -1) (dn := false) hs1 (Nat.le_refl _) (by omega)
          rw [Nat.sub_self] at this; exact this
        have hx := Check_h (old := false) (nx := base + k) hj' hg' (by omega) (imgL_len 1 [120]) (by omega) (by omega)
        have hj2 := chk2_JS hj' (imgL_len 1 [120]) (nb := base + k + k) (by omega) (by omega) (by omega)
        refine ⟨_, ?_, _, rfl, 1 - area, chk2 S' 1 (base + k + k) area (imgL 1 [120]), rfl, hj2⟩
        show cond (decide ((k : Int) < (k : Int))) _ (Option.bind (f_Append _ _ _ _ _ _ _ _ _ _ _ _ _ _ _) _) = _
        rw [cneg (by omega), show f_Append ((64 * 1 : Nat) : Int) (k : Int) (base : Int) ((base + k : Nat) : Int) (area : Int) false S S' W' [] (-1) false 3 0 (ByteArray.mk #[]) = _ from Append_full cmdB (by omega) cmdB_ok hl0, bind_some']
        show cond ((31 : Int) != 31) _ _ = _
        rw [cbeq rfl, hximg, bind_some', hx, bind_some']
        show cond ((0 : Int) != 0) _ (Option.bind (f_Left _ _ _ _ _ _ _ _ _ _ _ _) _) = _
        rw [cbeq rfl, show f_Left ((64 * 1 : Nat) : Int) (k : Int) ((base + k + k : Nat) : Int) ((base + k + k : Nat) : Int) ((1 - area : Nat) : Int) false (chk2 S' 1 (base + k + k) area (imgL 1 [120])) (chk2 S' 1 (base + k + k) area (imgL 1 [120])) [] [] (-1) false = some ((k - 0 : Nat) : Int) from Left_h (slots := k) (b := base + k + k) (k := 0) hs1 (by omega) (by omega), bind_some', cbeq (by omega), cneg (by omega), wrap_i64 (by omega) (by omega)]
        rfl
    · rintro x ⟨area', S', rfl, hj'⟩
      exact ⟨R - (r + 1), by omega, r + 1, base + s + s, area', S', _, rfl, rfl, by omega, by omega, hj', fun _ => rfl⟩
  · right
    have hre : r = R := by omega
    subst hre
    have hi := himg (by omega)
    subst hi
    show cond (decide ((r : Int) < IntKind.wrap .i64 (Int.tmod (IntKind.wrap .i64 (Int.tmod q1 3 + 3)) 3 + 1))) _ (Option.bind (f_JOpen _ _ _ _ _ _ _ _) _) = _
    rw [hR, hRn, cneg (by omega), show f_JOpen S S [] [] (-1) false 64 (s : Int) = _ from JOpen_h hj, bind_some']
    dsimp only
    rw [hximg, bind_some', beq_bs, cpos rfl, ceq (show ((([] : List E34).length : Nat) : Int) = 0 from rfl), Left_old, bind_some', ceq rfl]
    rw [show f_Append ((64 * 1 : Nat) : Int) (s : Int) (base : Int) ((base + ([] : List E34).length : Nat) : Int) (area : Int) true S S [] [] (-1) false 3 0 (ByteArray.mk #[]) = _ from Append_full cmdB (by have := hj.b1; simp; omega) cmdB_ok Left_old, bind_some']
    rfl
theorem Same_refl (l : List E34) (h : l.length ≤ 9223372036854775806) : f_Same l l = some true := by
  have hbb : ∀ x : ByteArray, (x == x) = true := fun x => by rw [← bs_list x, bs_beq]; simp
  unfold f_Same
  rw [cbeq rfl]
  refine loopO_for (fun i : Nat => (i : Int)) l.length (fun i hi => ?_) ?_
  · show cond (decide ((i : Int) < ((l.length : Nat) : Int))) _ _ = some (Sum.inl ((i + 1 : Nat) : Int))
    rw [cpos (by omega), cand (by omega) (by omega), cand (by omega) (by omega), cfalse (by simp [hbb]), wrap_i64 (by omega) (by omega)]; rfl
  · show cond (decide ((l.length : Int) < ((l.length : Nat) : Int))) _ _ = _
    rw [cneg (by omega)]
theorem JournalAgain_eq (xs : List E34) (q1 : Int) (t : ByteArray) (ht : t.size ≤ 140737488351232) : f_JournalAgain xs q1 t = some true := by
  unfold f_JournalAgain
  rw [awake_eq, bind_some', cfalse (show (!true) = false from rfl)]
  by_cases h1 : q1 < 1
  · rw [cpos h1]
  rw [cneg h1]
  by_cases h2 : q1 > 40
  · rw [cpos h2]
  rw [cneg h2]
  by_cases h3 : ((xs.length : Nat) : Int) > 60
  · rw [cpos h3]
  rw [cneg h3]
  obtain ⟨s, rfl⟩ := Int.eq_ofNat_of_zero_le (show 0 ≤ q1 by omega)
  obtain ⟨hF, hJ⟩ := new_format (n := 2) (slots := s) (m := imgL 2 [120]) (by decide) (by decide) (by omega) (by omega) (imgL_len 2 [120])
  rw [show f_Sectors 128 (s : Int) = _ from Sectors_h (n := 2) (slots := s) (by decide) (by decide) (by omega) (by omega), bind_some']
  dsimp only
  rw [New_h (L := 2 + 2 * 2 + s) (by omega) (by omega), bind_some']
  dsimp only
  have hximg : f_image 2 (ByteArray.mk #[120]) = some (bs (imgL 2 [120])) := image_eq 2 (by decide) [120] (by simp)
  have htimg : f_image 2 t = some (bs (imgL 2 t.data.toList)) := by
    have := image_eq 2 (by decide) t.data.toList (by rw [← size_list]; omega)
    rw [bs_list] at this
    exact this
  rw [hximg, bind_some', hF, bind_some']
  dsimp only
  generalize fmt (List.replicate (2 + 2 * 2 + s) Z) 2 s (imgL 2 [120]) = S0 at hJ
  refine loopO_inv (fun (d : Nat) (st : Int × Int × Bool × Int × List ByteArray × List E91 × List E34) => ∃ (i : Nat) (S : List ByteArray) (W : List E91) (cs : List E34), st = ((i : Int), -1, false, ((1 + cs.length : Nat) : Int), S, W, cs) ∧ d = xs.length - i ∧ i ≤ xs.length ∧ JS S 2 s 1 0 (imgL 2 [120]) cs ∧ Good S0 S W ∧ W.length ≤ i ∧ cs.length ≤ i) ?_ xs.length _ ⟨0, S0, [], [], rfl, rfl, by omega, hJ, Good.self hJ.full, by simp, by simp⟩
  rintro d st ⟨i, S, W, cs, rfl, rfl, hi, hj, hg, hwl, hcl⟩
  have hs1 := hj.s1; have hcs := hj.csl
  by_cases hc : i < xs.length
  · left
    show ∃ s' m, cond (decide ((i : Int) < ((xs.length : Nat) : Int))) (cond _ (Option.bind (f_Append _ _ _ _ _ _ _ _ _ _ _ _ _ _ _) _) none) _ = _ ∧ _ ∧ _
    rw [cpos (by omega), cand (by omega) (by omega)]
    generalize ixL xs (i : Int) = c
    have hnx : IntKind.wrap .i64 ((i : Int) + 1) = ((i + 1 : Nat) : Int) := by rw [wrap_i64 (by omega) (by omega)]; rfl
    have same : ∀ (code : Int), code ≠ 0 → f_Append ((64 * 2 : Nat) : Int) (s : Int) 1 ((1 + cs.length : Nat) : Int) 0 false S0 S W [] (-1) false c.Kind c.Addr c.Data = some (code, ((1 + cs.length : Nat) : Int), -1, false, S, W) →
        ∃ s' m, ((f_Append ((64 * 2 : Nat) : Int) (s : Int) 1 ((1 + cs.length : Nat) : Int) 0 false S0 S W [] (-1) false c.Kind c.Addr c.Data).bind fun (o : O_Append) => (match o with | (x64, w_11_r_q0_4, w_11_r_q0_d_b_4, w_11_r_q0_d_b_5, w_11_r_xs_cell_q0_d_b_1, w_11_r_xs_cell_q0_d_b_2) => (cond (x64 == 0) (cond (decide ((cs ++ [(⟨c.Kind, c.Addr, c.Data⟩ : E34)]).length ≤ 7036874417611)) (some (.inl ((IntKind.wrap .i64 ((i : Int) + 1)), w_11_r_q0_d_b_4, w_11_r_q0_d_b_5, w_11_r_q0_4, w_11_r_xs_cell_q0_d_b_1, w_11_r_xs_cell_q0_d_b_2, (cs ++ [(⟨c.Kind, c.Addr, c.Data⟩ : E34)])))) none) (some (.inl ((IntKind.wrap .i64 ((i : Int) + 1)), w_11_r_q0_d_b_4, w_11_r_q0_d_b_5, w_11_r_q0_4, w_11_r_xs_cell_q0_d_b_1, w_11_r_xs_cell_q0_d_b_2, cs)))) : Option ((Int × Int × Bool × Int × List ByteArray × List E91 × List E34) ⊕ O_JournalAgain))) = some (.inl s') ∧ m < xs.length - i ∧
        ∃ (i : Nat) (S : List ByteArray) (W : List E91) (cs : List E34), s' = ((i : Int), -1, false, ((1 + cs.length : Nat) : Int), S, W, cs) ∧ m = xs.length - i ∧ i ≤ xs.length ∧ JS S 2 s 1 0 (imgL 2 [120]) cs ∧ Good S0 S W ∧ W.length ≤ i ∧ cs.length ≤ i := by
      intro code hcode e
      refine ⟨(((i + 1 : Nat) : Int), -1, false, ((1 + cs.length : Nat) : Int), S, W, cs), xs.length - (i + 1), ?_, by omega, i + 1, S, W, cs, rfl, rfl, by omega, hj, hg, by omega, by omega⟩
      rw [e, bind_some']
      show cond (code == 0) _ _ = _
      rw [cne hcode, hnx]
    cases hok : okE c with
    | false => exact same 1 (by decide) (Append_bad (b := 1) c (by omega) hok)
    | true =>
      by_cases hfull : cs.length < s
      · obtain ⟨S2, W2, a1, a2, a3, a4⟩ := Append_h hj hg (by omega) c hok hfull
        refine ⟨(((i + 1 : Nat) : Int), -1, false, ((1 + (cs ++ [c]).length : Nat) : Int), S2, W2, cs ++ [c]), xs.length - (i + 1), ?_, by omega, i + 1, S2, W2, cs ++ [c], rfl, rfl, by omega, a2, a3, by omega, by simp; omega⟩
        rw [show f_Append ((64 * 2 : Nat) : Int) (s : Int) 1 ((1 + cs.length : Nat) : Int) 0 false S0 S W [] (-1) false c.Kind c.Addr c.Data = _ from a1, bind_some']
        show cond ((0 : Int) == 0) (cond (decide ((cs ++ [c]).length ≤ 7036874417611)) _ none) _ = _
        rw [ceq rfl, cpos (by simp; omega), hnx, List.length_append, List.length_singleton]
        rfl
      · have hl0 : f_Left ((64 * 2 : Nat) : Int) (s : Int) 1 ((1 + cs.length : Nat) : Int) 0 false S0 S W [] (-1) false = some 0 := by
          have := Left_h (slots := s) (b := 1) (k := cs.length) (size := ((64 * 2 : Nat) : Int)) (area := 0) (F := S0) (S := S) (W := W) (B := []) (fu := -1) (dn := false) hs1 hcs (by omega)
          rw [show s - cs.length = 0 by omega] at this
          exact this
        exact same 31 (by decide) (Append_full (b := 1) c (by omega) hok hl0)
  · right
    have hie : i = xs.length := by omega
    subst hie
    show cond (decide (((xs.length : Nat) : Int) < ((xs.length : Nat) : Int))) _ (Option.bind (f_Pending _ _ _ _ _ _) _) = _
    have hP : f_Pending S0 S W [] (-1) false = some ((W.length : Nat) : Int) := rfl
    have hO : f_JOpen S0 S W [] (-1) false 128 (s : Int) = some (.inl (bs (imgL 2 [120]), ((64 * 2 : Nat) : Int), (s : Int), ((1 : Nat) : Int), ((1 + cs.length : Nat) : Int), ((0 : Nat) : Int), cs)) := JOpen_h hj
    rw [cneg (by omega), hP, bind_some', hO, bind_some']
    dsimp only
    rw [bind_some']
    dsimp only
    rw [bind_some', beq_bs, cfalse (by simp), cfalse (by simp), Same_refl _ (by omega), bind_some', cfalse (by rfl), bind_some', cfalse (by rfl), bind_some', cbeq rfl, htimg, bind_some']
    have hx := Check_h (old := true) (nx := 1 + cs.length) hj hg (by omega) (imgL_len 2 t.data.toList) (Nat.le_refl _) (by omega)
    have hj2 := chk2_JS hj (imgL_len 2 t.data.toList) (nb := 1 + cs.length + s) (by omega) (by omega) (by omega)
    rw [hx, bind_some']
    dsimp only
    rw [cbeq rfl, show f_Left ((64 * 2 : Nat) : Int) (s : Int) ((1 + cs.length + s : Nat) : Int) ((1 + cs.length + s : Nat) : Int) ((1 - 0 : Nat) : Int) false (chk2 S 2 (1 + cs.length + s) 0 (imgL 2 t.data.toList)) (chk2 S 2 (1 + cs.length + s) 0 (imgL 2 t.data.toList)) [] [] (-1) false = some ((s - 0 : Nat) : Int) from Left_h (slots := s) (b := 1 + cs.length + s) (k := 0) hs1 (by omega) (by omega), bind_some', cbeq (by omega), Crash_h hj2.full (by rw [hj2.len]; omega), bind_some']
    dsimp only
    rw [show f_JOpen (chk2 S 2 (1 + cs.length + s) 0 (imgL 2 t.data.toList)) (chk2 S 2 (1 + cs.length + s) 0 (imgL 2 t.data.toList)) [] [] (-1) false 128 (s : Int) = _ from JOpen_h hj2, bind_some']
    dsimp only
    rw [bind_some', beq_bs, cpos rfl]
    rfl
end Go.Proofs.YtpbiilgehbiacaaDoor
