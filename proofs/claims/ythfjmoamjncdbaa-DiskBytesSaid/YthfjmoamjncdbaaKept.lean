/-
  DiskKept: the plain law.
-/
import Derived.Test.YthfjmoamjncdbaaBytes
namespace Go.Proofs.Ythfjmoamjncdbaa
open Go.Vc
set_option linter.unusedVariables false
set_option linter.unusedSimpArgs false

theorem wrap_u8_bd (x : Int) : 0 ≤ IntKind.wrap .u8 x ∧ IntKind.wrap .u8 x < 256 := by
  simp only [IntKind.wrap, IntKind.bits, IntKind.signed, Bool.false_and, Bool.false_eq_true, if_false]
  omega
abbrev Em : ByteArray := ByteArray.mk #[]
/-- Whole picks in their order. -/
def whole (n : Nat) : List E44 := (List.range n).map fun (j : Nat) => (⟨(j : Int), 64⟩ : E44)
theorem whole_succ (n : Nat) : whole (n + 1) = whole n ++ [⟨(n : Int), 64⟩] := by unfold whole; rw [List.range_succ, List.map_append]; rfl
theorem mix_all {a b : ByteArray} (ha : a.size = 64) (hb : b.size = 64) : mix 64 a b = a := by
  obtain ⟨A, rfl⟩ : ∃ A, a = bs A := ⟨_, (bs_list a).symm⟩
  obtain ⟨B, rfl⟩ : ∃ B, b = bs B := ⟨_, (bs_list b).symm⟩
  rw [bs_size] at ha hb
  rw [mix_bs 64 A B (by omega) ha hb, List.take_of_length_le (by omega), List.drop_of_length_le (by omega), List.append_nil]
theorem crash1_whole {soft : List E71} {l : List ByteArray} {j : Nat} (hj : j < soft.length) (hf : Full l) (hs : Soft l.length soft) : crash1 soft l ⟨(j : Int), 64⟩ = l.set soft[j].sector.toNat soft[j].data := by
  obtain ⟨s1, s2, s3⟩ := hs _ (List.getElem_mem hj)
  unfold crash1
  rw [if_neg (by show ¬ ((j : Int) < 0 ∨ (j : Int) ≥ soft.length); omega)]
  show l.set (ixL soft (j : Int)).sector.toNat (mix (clp 64).toNat (ixL soft (j : Int)).data (ixL l (ixL soft (j : Int)).sector)) = _
  rw [ixL_nat hj, show (clp 64).toNat = 64 from rfl, mix_all s3 (hf.ix s1 (by omega))]
/-- The picks of these writes. -/
def pk (js : List Nat) : List E44 := js.map fun (j : Nat) => (⟨(j : Int), 64⟩ : E44)
theorem crashL_pk (soft : List E71) : ∀ (js : List Nat) (l : List ByteArray), (∀ j ∈ js, j < soft.length) → Full l → Soft l.length soft → crashL l soft (pk js) = setAll l (js.map fun j => soft.getD j default)
  | [], _, _, _, _ => rfl
  | j :: js, l, hj, hf, hs => by
    have h0 := hj j (List.mem_cons_self ..)
    have e : soft.getD j default = soft[j] := by simp [List.getD_eq_getElem?_getD, List.getElem?_eq_getElem h0]
    show crashL (crash1 soft l ⟨(j : Int), 64⟩) soft (pk js) = setAll (l.set (soft.getD j default).sector.toNat (soft.getD j default).data) (js.map _)
    rw [crash1_whole h0 hf hs, e]
    exact crashL_pk soft js _ (fun x hx => hj x (List.mem_cons_of_mem _ hx)) (hf.set (hs _ (List.getElem_mem h0)).2.2) (by rw [List.length_set]; exact hs)
theorem map_range (soft : List E71) : (List.range soft.length).map (fun j => soft.getD j default) = soft := by
  apply List.ext_getElem
  · simp
  · intro i h1 h2; simp [List.getD_eq_getElem?_getD, List.getElem?_eq_getElem h2]
theorem seenF_cases (j : Int) : ∀ (L : List E71), (∀ w ∈ L, w.data.size = 64) → (∀ x, seenF j x L = x) ∨ ∃ v : ByteArray, v.size = 64 ∧ ∀ x, seenF j x L = v
  | [], _ => .inl fun _ => rfl
  | w :: L, h => by
    have hL := seenF_cases j L fun x hx => h x (List.mem_cons_of_mem _ hx)
    rcases hL with hL | ⟨v, h1, h2⟩
    · by_cases e : w.sector = j
      · exact .inr ⟨w.data, h w (List.mem_cons_self ..), fun x => by show seenF j (if w.sector = j then w.data else x) L = _; rw [if_pos e, hL]⟩
      · exact .inl fun x => by show seenF j (if w.sector = j then w.data else x) L = _; rw [if_neg e, hL]
    · exact .inr ⟨v, h1, fun x => by show seenF j (if w.sector = j then w.data else x) L = _; exact h2 _⟩
theorem seenF_snoc (j : Int) (x : ByteArray) (L : List E71) (w : E71) : seenF j x (L ++ [w]) = if w.sector = j then w.data else seenF j x L := by unfold seenF; rw [List.foldl_append]; rfl
theorem seenF_cons (j : Int) (x : ByteArray) (L : List E71) (w : E71) : seenF j x (w :: L) = seenF j (if w.sector = j then w.data else x) L := rfl
theorem Em_ne {v : ByteArray} (h : v.size = 64) : v ≠ Em := fun e => by rw [e] at h; exact absurd h (by decide)
theorem pad_Em : pad Em = Z := by
  unfold pad; rw [if_neg (by decide)]
  exact ByteArray_ext rfl
theorem seen_none1 (j : Int) (L : List E71) : (∀ w ∈ L, w.data.size = 64) → (∀ x, seenF j x L = x) → ∀ w ∈ L, w.sector ≠ j := by
  induction L with
  | nil => intro _ _ w hw; cases hw
  | cons a L ih =>
    intro h h1 w hw e
    have ha : a.sector ≠ j := fun ea => by
      rcases seenF_cases j L (fun x hx => h x (List.mem_cons_of_mem _ hx)) with hn | ⟨v, hv, hn⟩
      · have := h1 Em
        rw [seenF_cons, if_pos ea, hn] at this
        exact Em_ne (h a (List.mem_cons_self ..)) this
      · have := h1 Em
        rw [seenF_cons, hn] at this
        exact Em_ne hv this
    rcases List.mem_cons.1 hw with rfl | hw
    · exact ha e
    · exact ih (fun x hx => h x (List.mem_cons_of_mem _ hx)) (fun x => by have := h1 x; rwa [seenF_cons, if_neg ha] at this) w hw e
theorem seen_none2 (j : Int) (L : List E71) : (∀ w ∈ L, w.sector ≠ j) → ∀ x, seenF j x L = x := by
  induction L with
  | nil => intro _ x; rfl
  | cons a L ih => intro h x; rw [seenF_cons, if_neg (h a (List.mem_cons_self ..))]; exact ih (fun y hy => h y (List.mem_cons_of_mem _ hy)) x
abbrev Kt := Int × Int × Int × Bool × Int × Bool × (List ByteArray) × (List E71) × (List ByteArray) × (List E71) × (List E44) × (List E44) × (List ByteArray) × (List ByteArray)
theorem DiskKept_eq (ats : List Int) (seed : Int) : f_DiskKept ats seed = some true := by
  unfold f_DiskKept
  rw [awake_eq, bind_some']
  show cond (decide (((ats.length : Nat) : Int) > 60)) _ _ = _
  by_cases hlen : ats.length > 60
  · rw [cpos (by omega)]
  rw [cneg (by omega)]
  show ((f_New 4).bind _) = _
  rw [New_eq (by decide) (by decide), bind_some']
  have e4 : List.replicate (4 : Int).toNat Z = [Z, Z, Z, Z] := rfl
  rw [e4]
  have f0 : Full [Z, Z, Z, Z] := full_Z 4
  have hZ : ∀ i : Int, 0 ≤ i → i < 4 → ixL [Z, Z, Z, Z] i = Z := fun i h0 h1 => by
    obtain rfl | rfl | rfl | rfl : i = 0 ∨ i = 1 ∨ i = 2 ∨ i = 3 := by omega
    all_goals rfl
  show ((Option.bind (some (Sum.inl ([Z, Z, Z, Z], [Z, Z, Z, Z], ([] : List (Int × Bool)))) : Option O_New) _)) = _
  rw [bind_some']
  generalize hF : [Z, Z, Z, Z] = firm at f0 hZ
  have hl0 : firm.length = 4 := by rw [← hF]; rfl
  refine loopO_inv (fun (m : Nat) (s : Kt) => ∃ (k : Nat) (sd : Int) (S : List E71) (A B : List ByteArray), s = (sd, (k : Int), -1, false, -1, false, setAll firm S, S, setAll firm S, S, pk (List.range k), pk (List.range k).reverse, A, B) ∧ m = ats.length - k ∧ k ≤ ats.length ∧ S.length = k ∧ Soft 4 S ∧ A.length = 4 ∧ B.length = 4 ∧
      ∀ j : Int, 0 ≤ j → j < 4 → ixL A j = seenF j Em S.reverse ∧ ixL B j = seenF j Em S) ?_ ats.length _ ?_
  rotate_left
  · refine ⟨0, seed, [], [Em, Em, Em, Em], [Em, Em, Em, Em], rfl, by omega, by omega, rfl, soft_nil 4, rfl, rfl, fun j h0 h1 => ?_⟩
    obtain rfl | rfl | rfl | rfl : j = 0 ∨ j = 1 ∨ j = 2 ∨ j = 3 := by omega
    all_goals exact ⟨rfl, rfl⟩
  rintro m s ⟨k, sd, S, A, B, rfl, rfl, hk, hS, hso, hA, hB, hAB⟩
  by_cases hd : k < ats.length
  · left
    obtain ⟨i, hi0, hi1, hi⟩ : ∃ i : Int, 0 ≤ i ∧ i < 4 ∧ Int.tmod (IntKind.wrap .i64 (Int.tmod ats[k] 4 + 4)) 4 = i := by
      have h1 := Int.tmod_lt_of_pos ats[k] (b := 4) (by decide)
      have h2 := Int.lt_tmod_of_pos ats[k] (b := 4) (by decide)
      rw [wrap_i64 (by omega) (by omega), tmod_nn (by omega)]
      exact ⟨_, by omega, by omega, rfl⟩
    obtain ⟨c1, hc1, b1⟩ : ∃ c, IntKind.wrap .u8 (Int.fdiv (IntKind.wrap .u32 (IntKind.wrap .u32 (sd * 1664525) + 1013904223)) 16777216) = c ∧ 0 ≤ c ∧ c < 256 := ⟨_, rfl, wrap_u8_bd _⟩
    obtain ⟨c2, hc2, b2⟩ : ∃ c, IntKind.wrap .u8 (k : Int) = c ∧ 0 ≤ c ∧ c < 256 := ⟨_, rfl, wrap_u8_bd _⟩
    have hin : bytesIn [c1, c2] = true := by simp [bytesIn]; omega
    obtain ⟨s, hs, hsz⟩ : ∃ s, f_Repeat (strOf [c1, c2]) 32 = some s ∧ s.size = 64 := by
      have e : (strOf [c1, c2]).size = 2 := by unfold strOf; rw [bs_size]; rfl
      refine ⟨bs (Lib.repeatL (strOf [c1, c2]).data.toList 32), ?_, ?_⟩
      · unfold f_Repeat; rw [cand3 (by decide) (by rw [e]; decide) (by decide)]; rfl
      · rw [bs_size, Lib.repeatL_length, ← size_list, e]
    have hw : writeF (setAll firm S) S [] (-1) false i s = (0, -1, false, setAll firm (S ++ [⟨i, s⟩]), S ++ [⟨i, s⟩]) := by
      unfold writeF
      rw [setAll_length, if_neg (by decide), if_neg (by omega), if_neg (by simp [getB]), if_neg (by decide), setAll_app]; rfl
    obtain ⟨hA1, hB1⟩ := hAB i hi0 hi1
    have hpk : pk (List.range (k + 1)) = pk (List.range k) ++ [⟨(k : Int), 64⟩] := by unfold pk; rw [List.range_succ, List.map_append]; rfl
    have hpk2 : pk (List.range (k + 1)).reverse = [⟨(k : Int), 64⟩] ++ pk (List.range k).reverse := by unfold pk; rw [List.range_succ, List.reverse_append, List.map_append]; rfl
    have hso' : Soft 4 (S ++ [⟨i, s⟩]) := by
      intro w hw
      rcases List.mem_append.1 hw with hw | hw
      · exact hso w hw
      · simp at hw; subst hw; exact ⟨hi0, hi1, hsz⟩
    have hl1 : (pk (List.range k)).length = k := by unfold pk; simp
    have hl2 : (pk (List.range k).reverse).length = k := by unfold pk; simp
    refine ⟨(IntKind.wrap .u32 (IntKind.wrap .u32 (sd * 1664525) + 1013904223), ((k + 1 : Nat) : Int), -1, false, -1, false, setAll firm (S ++ [⟨i, s⟩]), S ++ [⟨i, s⟩], setAll firm (S ++ [⟨i, s⟩]), S ++ [⟨i, s⟩], pk (List.range (k + 1)), pk (List.range (k + 1)).reverse, if ixL A i = Em then A.set i.toNat s else A, B.set i.toNat s), ats.length - (k + 1), ?_, by omega, k + 1, IntKind.wrap .u32 (IntKind.wrap .u32 (sd * 1664525) + 1013904223), S ++ [⟨i, s⟩], _, _, rfl, rfl, by omega, by simp; omega, hso', ?_, by simpa using hB, ?_⟩
    · show cond (decide ((k : Int) < ((ats.length : Nat) : Int))) _ _ = _
      rw [cpos (by omega), cand (by omega) (by omega), ixL_nat hd, hi, Let_eq, Let_eq, hc1, hc2, ctrue hin, hs, bind_some', Write_eq _ _ _ _ _ _ (by decide) (by omega), bind_some', hw]
      show cond ((0 : Int) != 0) _ _ = _
      rw [cbeq rfl]
      show ((Option.bind (some (0, -1, false, setAll firm (S ++ [⟨i, s⟩]), S ++ [⟨i, s⟩]) : Option O_Write) _)) = _
      rw [bind_some']
      show cond ((0 : Int) != 0) _ _ = _
      rw [cbeq rfl, cand (by omega) (by omega), beqL, hpk, hpk2, wrap_i64 (by omega) (by omega)]
      by_cases he : ixL A i = Em
      · rw [cpos he, cand (by omega) (by omega), cand (by omega) (by omega), cpos (by simp; omega), cpos (by simp; omega), if_pos he]; rfl
      · rw [cneg he, cand (by omega) (by omega), cpos (by simp; omega), cpos (by simp; omega), if_neg he]; rfl
    · split <;> simp [hA]
    · intro j h0 h1
      obtain ⟨a, b⟩ := hAB j h0 h1
      refine ⟨?_, ?_⟩
      · rw [List.reverse_append]
        show _ = seenF j Em (⟨i, s⟩ :: S.reverse)
        rw [seenF_cons]
        show _ = seenF j (if i = j then s else Em) S.reverse
        have hd64 : ∀ w ∈ S.reverse, w.data.size = 64 := fun w hw => (hso w (by simpa using hw)).2.2
        rcases seenF_cases j S.reverse hd64 with hn | ⟨v, hv, hn⟩
        · rw [hn]
          rw [hn] at a
          split
          · rw [ixL_set hi0 h0 (by omega)]
            split
            · rfl
            · exact a
          · rename_i hne
            by_cases e : i = j
            · subst e; exact absurd a hne
            · rw [if_neg e]; exact a
        · rw [hn]
          rw [hn] at a
          split
          · rename_i he
            rw [ixL_set hi0 h0 (by omega)]
            split
            · rename_i e; subst e; rw [a] at he; exact absurd he (Em_ne hv)
            · exact a
          · exact a
      · rw [seenF_snoc, ixL_set hi0 h0 (by omega), b]
  right
  show cond (decide ((k : Int) < ((ats.length : Nat) : Int))) _ _ = _
  have hkl : k = ats.length := by omega
  have hso' : Soft firm.length S := by rw [hl0]; exact hso
  have hmap : (List.range k).map (fun j => S.getD j default) = S := by rw [← hS]; exact map_range S
  have c1 : crashL firm S (pk (List.range k)) = setAll firm S := by
    rw [crashL_pk S _ firm (fun j hj => by rw [hS]; simpa using hj) f0 hso', hmap]
  have c2 : crashL firm S (pk (List.range k).reverse) = setAll firm S.reverse := by
    rw [crashL_pk S _ firm (fun j hj => by rw [hS]; simpa using hj) f0 hso', List.map_reverse, hmap]
  rw [cneg (by omega), Crash_eq _ _ _ _ _ _ _ (by unfold pk; simp; omega) f0 hso' (by omega), bind_some', c1]
  show ((f_Crash _ _ _ _ _ _ _).bind _) = _
  rw [Crash_eq _ _ _ _ _ _ _ (by unfold pk; simp; omega) f0 hso' (by omega), bind_some', c2]
  have hx1 : ∀ i : Int, 0 ≤ i → i < 4 → ixL (setAll firm S) i = seenF i Z S := fun i h0 h1 => by
    rw [ixL_setAll h0 S firm (by omega) fun w hw => (hso w hw).1, hZ i h0 h1]
  have hx2 : ∀ i : Int, 0 ≤ i → i < 4 → ixL (setAll firm S.reverse) i = seenF i Z S.reverse := fun i h0 h1 => by
    rw [ixL_setAll h0 S.reverse firm (by omega) fun w hw => (hso w (by simpa using hw)).1, hZ i h0 h1]
  have hX : (setAll firm S).length = 4 := by rw [setAll_length, hl0]
  have hY : (setAll firm S.reverse).length = 4 := by rw [setAll_length, hl0]
  generalize setAll firm S = X at hx1 hX
  generalize setAll firm S.reverse = Y at hx2 hY
  clear c1 c2 hmap
  have hd64 : ∀ w ∈ S, w.data.size = 64 := fun w hw => (hso w hw).2.2
  have hd64' : ∀ w ∈ S.reverse, w.data.size = 64 := fun w hw => (hso w (by simpa using hw)).2.2
  have hnone : ∀ j : Int, (∀ x, seenF j x S = x) → ∀ x, seenF j x S.reverse = x := fun j h => seen_none2 j _ fun w hw => seen_none1 j S hd64 h w (by simpa using hw)
  have hnone' : ∀ j : Int, (∀ x, seenF j x S.reverse = x) → ∀ x, seenF j x S = x := fun j h => seen_none2 j _ fun w hw => seen_none1 j S.reverse hd64' h w (by simpa using hw)
  refine loopO_inv (fun (m : Nat) (s : Int × List E71 × List E71 × List ByteArray × List ByteArray) => ∃ (i : Nat) (A B : List ByteArray), s = ((i : Int), [], [], A, B) ∧ m = 4 - i ∧ i ≤ 4 ∧ A.length = 4 ∧ B.length = 4 ∧ ∀ j : Int, (i : Int) ≤ j → j < 4 → ixL A j = seenF j Em S.reverse ∧ ixL B j = seenF j Em S) ?_ 4 _ ⟨0, A, B, rfl, rfl, by omega, hA, hB, fun j h0 h1 => hAB j (by omega) h1⟩
  rintro m s ⟨i, A', B', rfl, rfl, hi, hA', hB', hAB'⟩
  by_cases hd2 : i < 4
  · left
    have hr1 : f_Read X X [] [] (-1) false (i : Int) = some (ixL X i, 0) := by rw [Read_eq]; unfold readF; rw [if_neg (by decide), if_neg (by omega)]
    have hr2 : f_Read Y Y [] [] (-1) false (i : Int) = some (ixL Y i, 0) := by rw [Read_eq]; unfold readF; rw [if_neg (by decide), if_neg (by omega)]
    obtain ⟨a, b⟩ := hAB' i (by omega) (by omega)
    obtain ⟨A2, B2, h1, h2, h3, h4, h5, h6⟩ : ∃ (A2 B2 : List ByteArray), ixL A2 i = ixL Y i ∧ ixL B2 i = ixL X i ∧ A2.length = 4 ∧ B2.length = 4 ∧ (∀ j : Int, ((i + 1 : Nat) : Int) ≤ j → j < 4 → ixL A2 j = ixL A' j ∧ ixL B2 j = ixL B' j) ∧
        (cond (decide (0 ≤ (i : Int)) && decide ((i : Int) < ((4 : Nat) : Int))) (cond ((ixL B' (i : Int)).toList == (ByteArray.mk #[]).toList) ((f_padded (ByteArray.mk #[])).bind fun (x112 : O_padded) => (cond ((decide (0 ≤ (i : Int)) && decide ((i : Int) < ((4 : Nat) : Int)))) ((f_padded (ByteArray.mk #[])).bind fun (x113 : O_padded) => (cond ((decide (0 ≤ (i : Int)) && decide ((i : Int) < ((4 : Nat) : Int)))) (some ((A'.set (i : Int).toNat x112), (B'.set (i : Int).toNat x113))) none)) none)) (some (A', B'))) none : Option ((List ByteArray) × (List ByteArray))) = some (A2, B2) := by
      rcases seenF_cases i S hd64 with hn | ⟨v, hv, hn⟩
      · have hn' := hnone i hn
        refine ⟨A'.set i Z, B'.set i Z, ?_, ?_, by simpa using hA', by simpa using hB', fun j q0 q1 => ?_, ?_⟩
        · have := ixL_set (l := A') (a := (i : Int)) (i := (i : Int)) (x := Z) (by omega) (by omega) (by omega)
          rw [if_pos rfl, Int.toNat_natCast] at this
          rw [this, hx2 i (by omega) (by omega), hn']
        · have := ixL_set (l := B') (a := (i : Int)) (i := (i : Int)) (x := Z) (by omega) (by omega) (by omega)
          rw [if_pos rfl, Int.toNat_natCast] at this
          rw [this, hx1 i (by omega) (by omega), hn]
        · have u := ixL_set (l := A') (a := (i : Int)) (i := j) (x := Z) (by omega) (by omega) (by omega)
          have v := ixL_set (l := B') (a := (i : Int)) (i := j) (x := Z) (by omega) (by omega) (by omega)
          rw [if_neg (by omega), Int.toNat_natCast] at u v
          exact ⟨u, v⟩
        · rw [cand (by omega) (by omega), beqL, b, hn, cpos rfl, padded_eq, pad_Em, bind_some', cand (by omega) (by omega), bind_some', cand (by omega) (by omega), Int.toNat_natCast]
      · have hrev : ixL Y i = seenF i Em S.reverse := by
          rw [hx2 i (by omega) (by omega)]
          rcases seenF_cases i S.reverse hd64' with h | ⟨v', _, h⟩
          · exact absurd ((hn Em).symm.trans (hnone' i h Em)) (Em_ne hv)
          · rw [h, h]
        refine ⟨A', B', a.trans hrev.symm, ?_, hA', hB', fun j _ _ => ⟨rfl, rfl⟩, ?_⟩
        · rw [b, hx1 i (by omega) (by omega), hn, hn]
        · rw [cand (by omega) (by omega), beqL, b, hn, cneg (Em_ne hv)]
    refine ⟨(((i + 1 : Nat) : Int), [], [], A2, B2), 4 - (i + 1), ?_, by omega, i + 1, A2, B2, rfl, rfl, by omega, h3, h4, fun j q0 q1 => ?_⟩
    rotate_left
    · obtain ⟨u, v⟩ := h5 j q0 q1
      obtain ⟨u', v'⟩ := hAB' j (by omega) q1
      exact ⟨u.trans u', v.trans v'⟩
    · show cond (decide ((i : Int) < 4)) (Option.bind _ _) _ = _
      rw [cpos (by omega), h6, bind_some']
      show ((f_Read X X [] [] (-1) false (i : Int)).bind _) = _
      rw [hr1, bind_some']
      show ((f_Read Y Y [] [] (-1) false (i : Int)).bind _) = _
      rw [hr2, bind_some']
      show cond ((0 : Int) != 0) _ _ = _
      rw [cbeq rfl, cbeq rfl, cand (by omega) (by omega), h2, cfalse (by simp), cand (by omega) (by omega), h1, cfalse (by simp), Pending_eq, bind_some', cfalse (by simp), wrap_i64 (by omega) (by omega)]
      rfl
  · right
    show cond (decide ((i : Int) < 4)) _ _ = _
    rw [cneg (by omega)]
end Go.Proofs.Ythfjmoamjncdbaa
