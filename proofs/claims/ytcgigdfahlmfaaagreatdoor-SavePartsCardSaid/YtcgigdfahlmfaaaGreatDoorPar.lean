/-
  SaveParts, for each kind of chip.
-/
import Derived.Test.YtcgigdfahlmfaaaGreatDoorPop
import Derived.Test.YtcgigdfahlmfaaaGreatDoorSyn1
namespace Go.Proofs.YtcgigdfahlmfaaaGreatDoor
open Go.Vc
set_option linter.unusedVariables false
set_option linter.unusedSimpArgs false
theorem JOpen_fu (F S : List ByteArray) (W : List E115) (B : List (Int × Bool)) (fu a b : Int) : f_JOpen F S W B fu false a b = f_JOpen F S W B (-1) false a b := rfl
theorem In_true {xs : List ByteArray} {s : List UInt8} (h : bs s ∈ xs) (hl : xs.length ≤ 1000000) : f_In xs (bs s) = some true := by
  unfold f_In
  refine loopO_inv (fun d (st : Int) => ∃ i : Nat, st = (i : Int) ∧ d = xs.length - i ∧ i ≤ xs.length ∧ bs s ∈ xs.drop i) ?_ (xs.length - 0) _ ⟨0, rfl, rfl, Nat.zero_le _, h⟩
  rintro d st ⟨i, rfl, rfl, hi, hm⟩
  have hlt : i < xs.length := by
    rcases Nat.lt_or_ge i xs.length with h' | h'
    · exact h'
    · rw [List.drop_eq_nil_of_le h'] at hm; cases hm
  rw [cpos (by omega), cand (by omega) (by omega), ixL_at hlt, beqL]
  by_cases he : xs[i] = bs s
  · right; rw [cpos he]
  · left
    rw [cneg he, up_wrap hlt hl]
    refine ⟨_, _, rfl, (by omega : xs.length - (i + 1) < xs.length - i), i + 1, rfl, rfl, by omega, ?_⟩
    rw [List.drop_eq_getElem_cons hlt] at hm
    rcases List.mem_cons.1 hm with h' | h'
    · exact absurd h'.symm he
    · exact h'
theorem mays_last (e : E59) : ∀ (L : List E59) (m x : List UInt8), runE m (L ++ [e]) = some x → mays m (L ++ [e]) = mays m L ++ [bs x]
  | [], m, x, h => by
    simp only [List.nil_append] at h ⊢
    unfold runE at h
    split at h
    · have : (stepE m e).1 = x := by simpa [runE] using h
      subst this; rfl
    · cases h
  | c :: cs, m, x, h => by
    rw [List.cons_append] at h
    unfold runE at h
    split at h
    · show bs m :: mays (stepE m c).1 (cs ++ [e]) = _
      rw [mays_last e cs _ x h]; rfl
    · cases h
theorem loop_thenE {C I J σ ρ : Type} (op : C → I → C × List E59) (l : List I) (d : Nat) (P : C → J → List E59 → Nat → Prop) (T : Nat → C → J → List E59 → σ) {r : ρ} {f : σ → Option (σ ⊕ ρ)} {c : C} {j : J} {L : List E59} {t : Nat} (h : P c j L t) (ht : t + l.length * d ≤ 10000)
    (hs : ∀ i (hi : i < l.length) c j L t, P c j L t → t ≤ 10000 → t + d ≤ 10000 → ∃ j', P (op c l[i]).1 j' (L ++ (op c l[i]).2) (t + d) ∧ (f (T i c j L) = some (.inl (T (i + 1) (op c l[i]).1 j' (L ++ (op c l[i]).2))) ∨ f (T i c j L) = some (.inr r)))
    (he : ∀ j', P (fold op c l).1 j' (L ++ (fold op c l).2) (t + l.length * d) → f (T l.length (fold op c l).1 j' (L ++ (fold op c l).2)) = some (.inr r)) : loopO f (T 0 c j L) = some r := by
  have key : ∀ k, k ≤ l.length → loopO f (T 0 c j L) = some r ∨ ∃ j', P (fold op c (l.take k)).1 j' (L ++ (fold op c (l.take k)).2) (t + k * d) ∧ loopO f (T 0 c j L) = loopO f (T k (fold op c (l.take k)).1 j' (L ++ (fold op c (l.take k)).2)) := by
    intro k
    induction k with
    | zero => intro _; exact .inr ⟨j, by simpa [fold] using h, by simp [fold]⟩
    | succ k ih =>
      intro hk
      rcases ih (by omega) with e0 | ⟨j1, p1, e1⟩
      · exact .inl e0
      have hb : t + (k + 1) * d ≤ 10000 := Nat.le_trans (Nat.add_le_add_left (Nat.mul_le_mul_right d hk) t) ht
      rw [Nat.succ_mul] at hb
      obtain ⟨j2, p2, e2 | e2⟩ := hs k (by omega) _ _ _ _ p1 (by omega) (by omega)
      · refine .inr ⟨j2, ?_, ?_⟩
        · rw [fold_take op c l k (by omega), Nat.succ_mul, ← Nat.add_assoc, ← List.append_assoc]; exact p2
        · rw [e1, loop_next e2, fold_take op c l k (by omega), ← List.append_assoc]
      · exact .inl (e1.trans (loop_last e2))
  rcases key l.length (Nat.le_refl _) with e0 | ⟨j', p, e⟩
  · exact e0
  rw [List.take_length] at p e
  rw [e]
  exact loop_last (he j' p)
theorem imgS (k a b c : Int) (m : List UInt8) : f_BImageS k (ints m) a b c = some (bs m) := by
  unfold f_BImageS ints
  rw [ctrue (bytesIn_map _), strOf_map]
theorem imgF (k a b c : Int) (m : ByteArray) (s : Int) (i : Bool) (bk : Int) : f_BImageF k a b c m s i bk = some m := rfl
theorem imgE (k a b c : Int) (m : ByteArray) (i o : List Int) (w : Int) : f_BImageE k a b c m i o w = some m := rfl
theorem ParB {k slots : Int} {xs : List E35} {fu : Int} {pk : List E113} {mo : Int} {ag : List E113} (h : xs.length > 40 ∨ slots < 1 ∨ slots > 40 ∨ k < 1 ∨ k > 5) : f_SaveParts k slots xs fu pk mo ag = some true := by
  unfold f_SaveParts
  rw [awake_eq, bind_some', cfalse (show (!true) = false from rfl)]
  by_cases h0 : ((xs.length : Nat) : Int) > 40
  · rw [cpos h0]
  by_cases h1 : slots < 1
  · rw [cneg h0, cpos h1]
  by_cases h2 : slots > 40
  · rw [cneg h0, cneg h1, cpos h2]
  by_cases h3 : k < 1
  · rw [cneg h0, cneg h1, cneg h2, cpos h3]
  · rw [cneg h0, cneg h1, cneg h2, cneg h3, cpos (by omega)]
theorem D0_JF {n slots : Nat} (hn0 : 1 ≤ n) (hn1 : n ≤ 2048) (hs0 : 1 ≤ slots) (hs1 : slots ≤ 1024) : JF (D0 n slots) n slots 1 0 (ffs (64 * n)) [] :=
  fmt_JF (zeros_full _) (by unfold zs; simp) hn0 hn1 hs0 hs1 (ffs_length _)
def P0 (n slots : Nat) (fu : Int) : Jf := ⟨0, 0, 0, 1, 1, 0, false, fu, false, D0 n slots, D0 n slots, []⟩
theorem P0_ok {n slots : Nat} (hn0 : 1 ≤ n) (hn1 : n ≤ 2048) (hs0 : 1 ≤ slots) (hs1 : slots ≤ 1024) {fu : Int} (hf : FU fu) : Pj n slots (P0 n slots fu) (ffs (64 * n)) (mays (ffs (64 * n)) []) 0 :=
  ⟨rfl, ffs_length _, Nat.le_refl _, 0, rfl, .inl ⟨rfl, rfl, rfl, hf, 1, 0, 0, _, [], rfl, rfl, rfl, by unfold bdt; omega, Lv.init (D0_JF hn0 hn1 hs0 hs1)⟩⟩
theorem Pj.ex {n slots : Nat} {j : Jf} {now : List UInt8} {may : List ByteArray} {t : Nat} (h : Pj n slots j now may t) : ∃ sure : Nat, j.su = (sure : Int) ∧ Ex n slots (bdt t slots) j.F j.W may sure := by
  obtain ⟨_, _, _, sure, h4, ⟨e1, e2, e3, e4, base, area, m0, img, cs, e5, e6, e7, e8, hv⟩ | ⟨e1, hx⟩⟩ := h
  · exact ⟨sure, h4, hv.exit e8⟩
  · exact ⟨sure, h4, hx⟩
theorem precS {L : List ByteArray} {n slots base area : Nat} {img s : List UInt8} {cs : List E59} {kind : Int} (hj : JO L n slots base area img cs) (hr : runE img cs = some s) {bd : Nat} {fu : Int} (hf : FU fu) (hb : base + cs.length + slots ≤ bd) (hbd : bd ≤ 3999990000) (hz : f_Size kind = some (((64 * n : Nat) : Int), 0)) (hnew : f_BNew kind (bs s) = some (.inr (.inr (.inr (.inr (kind, ints s)))))) :
    Ends (f_Recover L L [] [] fu false kind (slots : Int)) fun r => (∃ (fu2 : Int) (dn2 : Bool) (a1 a2 a3 a4 a5 : Int) (o2 : Bool) (F2 S2 : List ByteArray) (W2 : List E115), r = .inr (.inr (.inr (.inr (fu2, dn2, kind, a1, a2, a3, a4, a5, o2, F2, S2, W2, ints s))))) ∨ ∃ (e fu2 : Int) (dn2 : Bool) (F2 S2 : List ByteArray) (W2 : List E115), e ≠ 0 ∧ r = .inl (e, fu2, dn2, F2, S2, W2) ∧ Ex n slots bd F2 W2 [bs s] 0 := by
  have hn0 := hj.n0; have hn1 := hj.n1; have hil := hj.imgl; have hml : s.length = 64 * n := (runE_len cs hr).trans hj.imgl
  have hcl := hj.csl; have hs1 := hj.s1
  unfold f_Recover
  rw [hz, bind_some']
  show Ends (cond ((0 : Int) != 0) _ _) _
  rw [cbeq rfl, cne (by omega), JOpen_fu, JOpen_x hj, bind_some']
  show Ends (loopO _ (bs img, 0)) _
  refine ends_apply hr (fun i hi m hm h0 => ?_) ?_
  · show cond (decide ((i : Int) < ((cs.length : Nat) : Int))) _ _ = _
    rw [cpos (by omega), cand (by omega) (by omega), ixL_at hi, sApply_E (by omega), bind_some', h0]
    show cond ((0 : Int) != 0) _ _ = _
    rw [cbeq rfl, up_wrap hi (by omega)]
  · show Ends (cond (decide (((cs.length : Nat) : Int) < ((cs.length : Nat) : Int))) _ (Option.bind (f_Check _ _ _ _ _ _ _ _ _ _ _ _ _) _)) _
    rw [cneg (by omega)]
    refine ends_bind _ (old_check hj hr hf hb hbd) ?_
    rintro r ⟨e3, b3, n3, a3, o3, fu3, dn3, F3, S3, W3, rfl, hex3⟩
    show Ends (cond (e3 != 0) _ _) _
    by_cases he : e3 = 0
    · rw [cbeq he, hnew, bind_some']
      exact ⟨_, rfl, _, rfl, .inl ⟨_, _, _, _, _, _, _, _, _, _, _, rfl⟩⟩
    · rw [cbne he]
      exact ⟨_, rfl, _, rfl, .inr ⟨_, _, _, _, _, _, he, rfl, hex3⟩⟩
theorem precNS {L : List ByteArray} {n slots base area : Nat} {img s : List UInt8} {cs : List E59} {kind : Int} (hj : JO L n slots base area img cs) (hr : runE img cs = some s) (hbd : base + cs.length + slots ≤ 3999990000) (hz : f_Size kind = some (((64 * n : Nat) : Int), 0)) (hnew : f_BNew kind (bs s) = some (.inr (.inr (.inr (.inr (kind, ints s)))))) :
    Ends (f_Recover L L [] [] (-1) false kind (slots : Int)) fun r => ∃ (fu2 : Int) (dn2 : Bool) (a1 a2 a3 a4 a5 : Int) (o2 : Bool) (F2 S2 : List ByteArray) (W2 : List E115), r = .inr (.inr (.inr (.inr (fu2, dn2, kind, a1, a2, a3, a4, a5, o2, F2, S2, W2, ints s)))) := by
  have hn0 := hj.n0; have hn1 := hj.n1; have hil := hj.imgl; have hml : s.length = 64 * n := (runE_len cs hr).trans hj.imgl
  have hcl := hj.csl; have hs1 := hj.s1
  unfold f_Recover
  rw [hz, bind_some']
  show Ends (cond ((0 : Int) != 0) _ _) _
  rw [cbeq rfl, cne (by omega), JOpen_fu, JOpen_x hj, bind_some']
  show Ends (loopO _ (bs img, 0)) _
  refine ends_apply hr (fun i hi m hm h0 => ?_) ?_
  · show cond (decide ((i : Int) < ((cs.length : Nat) : Int))) _ _ = _
    rw [cpos (by omega), cand (by omega) (by omega), ixL_at hi, sApply_E (by omega), bind_some', h0]
    show cond ((0 : Int) != 0) _ _ = _
    rw [cbeq rfl, up_wrap hi (by omega)]
  · show Ends (cond (decide (((cs.length : Nat) : Int) < ((cs.length : Nat) : Int))) _ (Option.bind (f_Check _ _ _ _ _ _ _ _ _ _ _ _ _) _)) _
    rw [cneg (by omega)]
    rw [Check_x hj hml (by omega), bind_some']
    show Ends (cond ((0 : Int) != 0) _ _) _
    rw [cbeq rfl, hnew, bind_some']
    exact ⟨_, rfl, _, rfl, _, _, _, _, _, _, _, _, _, _, _, rfl⟩
theorem precF {L : List ByteArray} {n slots base area : Nat} {img s : List UInt8} {cs : List E59} {kind : Int} (hj : JO L n slots base area img cs) (hr : runE img cs = some s) {bd : Nat} {fu : Int} (hf : FU fu) (hb : base + cs.length + slots ≤ bd) (hbd : bd ≤ 3999990000) (hz : f_Size kind = some (((64 * n : Nat) : Int), 0)) (hnew : f_BNew kind (bs s) = some (.inr (.inr (.inr (.inl (kind, bs s)))))) :
    Ends (f_Recover L L [] [] fu false kind (slots : Int)) fun r => (∃ (fu2 : Int) (dn2 : Bool) (a1 a2 a3 a4 a5 : Int) (o2 : Bool) (F2 S2 : List ByteArray) (W2 : List E115), r = .inr (.inr (.inr (.inl (fu2, dn2, kind, bs s, a1, a2, a3, a4, a5, o2, F2, S2, W2))))) ∨ ∃ (e fu2 : Int) (dn2 : Bool) (F2 S2 : List ByteArray) (W2 : List E115), e ≠ 0 ∧ r = .inl (e, fu2, dn2, F2, S2, W2) ∧ Ex n slots bd F2 W2 [bs s] 0 := by
  have hn0 := hj.n0; have hn1 := hj.n1; have hil := hj.imgl; have hml : s.length = 64 * n := (runE_len cs hr).trans hj.imgl
  have hcl := hj.csl; have hs1 := hj.s1
  unfold f_Recover
  rw [hz, bind_some']
  show Ends (cond ((0 : Int) != 0) _ _) _
  rw [cbeq rfl, cne (by omega), JOpen_fu, JOpen_x hj, bind_some']
  show Ends (loopO _ (bs img, 0)) _
  refine ends_apply hr (fun i hi m hm h0 => ?_) ?_
  · show cond (decide ((i : Int) < ((cs.length : Nat) : Int))) _ _ = _
    rw [cpos (by omega), cand (by omega) (by omega), ixL_at hi, sApply_E (by omega), bind_some', h0]
    show cond ((0 : Int) != 0) _ _ = _
    rw [cbeq rfl, up_wrap hi (by omega)]
  · show Ends (cond (decide (((cs.length : Nat) : Int) < ((cs.length : Nat) : Int))) _ (Option.bind (f_Check _ _ _ _ _ _ _ _ _ _ _ _ _) _)) _
    rw [cneg (by omega)]
    refine ends_bind _ (old_check hj hr hf hb hbd) ?_
    rintro r ⟨e3, b3, n3, a3, o3, fu3, dn3, F3, S3, W3, rfl, hex3⟩
    show Ends (cond (e3 != 0) _ _) _
    by_cases he : e3 = 0
    · rw [cbeq he, hnew, bind_some']
      exact ⟨_, rfl, _, rfl, .inl ⟨_, _, _, _, _, _, _, _, _, _, _, rfl⟩⟩
    · rw [cbne he]
      exact ⟨_, rfl, _, rfl, .inr ⟨_, _, _, _, _, _, he, rfl, hex3⟩⟩
theorem precNF {L : List ByteArray} {n slots base area : Nat} {img s : List UInt8} {cs : List E59} {kind : Int} (hj : JO L n slots base area img cs) (hr : runE img cs = some s) (hbd : base + cs.length + slots ≤ 3999990000) (hz : f_Size kind = some (((64 * n : Nat) : Int), 0)) (hnew : f_BNew kind (bs s) = some (.inr (.inr (.inr (.inl (kind, bs s)))))) :
    Ends (f_Recover L L [] [] (-1) false kind (slots : Int)) fun r => ∃ (fu2 : Int) (dn2 : Bool) (a1 a2 a3 a4 a5 : Int) (o2 : Bool) (F2 S2 : List ByteArray) (W2 : List E115), r = .inr (.inr (.inr (.inl (fu2, dn2, kind, bs s, a1, a2, a3, a4, a5, o2, F2, S2, W2)))) := by
  have hn0 := hj.n0; have hn1 := hj.n1; have hil := hj.imgl; have hml : s.length = 64 * n := (runE_len cs hr).trans hj.imgl
  have hcl := hj.csl; have hs1 := hj.s1
  unfold f_Recover
  rw [hz, bind_some']
  show Ends (cond ((0 : Int) != 0) _ _) _
  rw [cbeq rfl, cne (by omega), JOpen_fu, JOpen_x hj, bind_some']
  show Ends (loopO _ (bs img, 0)) _
  refine ends_apply hr (fun i hi m hm h0 => ?_) ?_
  · show cond (decide ((i : Int) < ((cs.length : Nat) : Int))) _ _ = _
    rw [cpos (by omega), cand (by omega) (by omega), ixL_at hi, sApply_E (by omega), bind_some', h0]
    show cond ((0 : Int) != 0) _ _ = _
    rw [cbeq rfl, up_wrap hi (by omega)]
  · show Ends (cond (decide (((cs.length : Nat) : Int) < ((cs.length : Nat) : Int))) _ (Option.bind (f_Check _ _ _ _ _ _ _ _ _ _ _ _ _) _)) _
    rw [cneg (by omega)]
    rw [Check_x hj hml (by omega), bind_some']
    show Ends (cond ((0 : Int) != 0) _ _) _
    rw [cbeq rfl, hnew, bind_some']
    exact ⟨_, rfl, _, rfl, _, _, _, _, _, _, _, _, _, _, _, rfl⟩
theorem precE {L : List ByteArray} {n slots base area : Nat} {img s : List UInt8} {cs : List E59} {kind w : Int} (hj : JO L n slots base area img cs) (hr : runE img cs = some s) {bd : Nat} {fu : Int} (hf : FU fu) (hb : base + cs.length + slots ≤ bd) (hbd : bd ≤ 3999990000) (hz : f_Size kind = some (((64 * n : Nat) : Int), 0)) (hnew : f_BNew kind (bs s) = some (.inr (.inr (.inl (kind, bs s, w))))) :
    Ends (f_Recover L L [] [] fu false kind (slots : Int)) fun r => (∃ (fu2 : Int) (dn2 : Bool) (a1 a2 a3 a4 a5 : Int) (o2 : Bool) (F2 S2 : List ByteArray) (W2 : List E115), r = .inr (.inr (.inl (fu2, dn2, kind, bs s, w, a1, a2, a3, a4, a5, o2, F2, S2, W2)))) ∨ ∃ (e fu2 : Int) (dn2 : Bool) (F2 S2 : List ByteArray) (W2 : List E115), e ≠ 0 ∧ r = .inl (e, fu2, dn2, F2, S2, W2) ∧ Ex n slots bd F2 W2 [bs s] 0 := by
  have hn0 := hj.n0; have hn1 := hj.n1; have hil := hj.imgl; have hml : s.length = 64 * n := (runE_len cs hr).trans hj.imgl
  have hcl := hj.csl; have hs1 := hj.s1
  unfold f_Recover
  rw [hz, bind_some']
  show Ends (cond ((0 : Int) != 0) _ _) _
  rw [cbeq rfl, cne (by omega), JOpen_fu, JOpen_x hj, bind_some']
  show Ends (loopO _ (bs img, 0)) _
  refine ends_apply hr (fun i hi m hm h0 => ?_) ?_
  · show cond (decide ((i : Int) < ((cs.length : Nat) : Int))) _ _ = _
    rw [cpos (by omega), cand (by omega) (by omega), ixL_at hi, sApply_E (by omega), bind_some', h0]
    show cond ((0 : Int) != 0) _ _ = _
    rw [cbeq rfl, up_wrap hi (by omega)]
  · show Ends (cond (decide (((cs.length : Nat) : Int) < ((cs.length : Nat) : Int))) _ (Option.bind (f_Check _ _ _ _ _ _ _ _ _ _ _ _ _) _)) _
    rw [cneg (by omega)]
    refine ends_bind _ (old_check hj hr hf hb hbd) ?_
    rintro r ⟨e3, b3, n3, a3, o3, fu3, dn3, F3, S3, W3, rfl, hex3⟩
    show Ends (cond (e3 != 0) _ _) _
    by_cases he : e3 = 0
    · rw [cbeq he, hnew, bind_some']
      exact ⟨_, rfl, _, rfl, .inl ⟨_, _, _, _, _, _, _, _, _, _, _, rfl⟩⟩
    · rw [cbne he]
      exact ⟨_, rfl, _, rfl, .inr ⟨_, _, _, _, _, _, he, rfl, hex3⟩⟩
theorem precNE {L : List ByteArray} {n slots base area : Nat} {img s : List UInt8} {cs : List E59} {kind w : Int} (hj : JO L n slots base area img cs) (hr : runE img cs = some s) (hbd : base + cs.length + slots ≤ 3999990000) (hz : f_Size kind = some (((64 * n : Nat) : Int), 0)) (hnew : f_BNew kind (bs s) = some (.inr (.inr (.inl (kind, bs s, w))))) :
    Ends (f_Recover L L [] [] (-1) false kind (slots : Int)) fun r => ∃ (fu2 : Int) (dn2 : Bool) (a1 a2 a3 a4 a5 : Int) (o2 : Bool) (F2 S2 : List ByteArray) (W2 : List E115), r = .inr (.inr (.inl (fu2, dn2, kind, bs s, w, a1, a2, a3, a4, a5, o2, F2, S2, W2))) := by
  have hn0 := hj.n0; have hn1 := hj.n1; have hil := hj.imgl; have hml : s.length = 64 * n := (runE_len cs hr).trans hj.imgl
  have hcl := hj.csl; have hs1 := hj.s1
  unfold f_Recover
  rw [hz, bind_some']
  show Ends (cond ((0 : Int) != 0) _ _) _
  rw [cbeq rfl, cne (by omega), JOpen_fu, JOpen_x hj, bind_some']
  show Ends (loopO _ (bs img, 0)) _
  refine ends_apply hr (fun i hi m hm h0 => ?_) ?_
  · show cond (decide ((i : Int) < ((cs.length : Nat) : Int))) _ _ = _
    rw [cpos (by omega), cand (by omega) (by omega), ixL_at hi, sApply_E (by omega), bind_some', h0]
    show cond ((0 : Int) != 0) _ _ = _
    rw [cbeq rfl, up_wrap hi (by omega)]
  · show Ends (cond (decide (((cs.length : Nat) : Int) < ((cs.length : Nat) : Int))) _ (Option.bind (f_Check _ _ _ _ _ _ _ _ _ _ _ _ _) _)) _
    rw [cneg (by omega)]
    rw [Check_x hj hml (by omega), bind_some']
    show Ends (cond ((0 : Int) != 0) _ _) _
    rw [cbeq rfl, hnew, bind_some']
    exact ⟨_, rfl, _, rfl, _, _, _, _, _, _, _, _, _, _, _, rfl⟩
theorem ParS {kind : Int} {n slots : Nat} (hkn : kind = 1 ∧ 64 * n = 32768) (hs0 : 1 ≤ slots) (hs1 : slots ≤ 40) (xs : List E35) (hl : xs.length ≤ 40) (hx : ∀ x ∈ xs, okC x) {fu mo : Int} {pk ag : List E113} (hfu0 : fu ≤ 9223372036854775807) (hmo0 : mo ≤ 9223372036854775807) (hpk : pk.length ≤ 9223372036854775807) (hag : ag.length ≤ 9223372036854775807) : f_SaveParts kind (slots : Int) xs fu pk mo ag = some true := by
  have hz : f_Size kind = some (((64 * n : Nat) : Int), 0) := by
    obtain ⟨rfl, h⟩ := hkn; rw [h]; rfl
  have hnew : ∀ s : List UInt8, s.length = 64 * n → f_BNew kind (bs s) = some (.inr (.inr (.inr (.inr (kind, ints s))))) := fun s h => by
    obtain ⟨rfl, h2⟩ := hkn; exact BNewS (h.trans h2)
  have hk1 : 1 ≤ kind ∧ kind ≤ 5 := by omega
  have hn0 : 1 ≤ n := by omega
  have hn1 : n ≤ 2048 := by omega
  have hini : okS (ffs (64 * n)) := (ffs_length _).trans hkn.2
  unfold f_SaveParts
  rw [awake_eq, bind_some', cfalse (show (!true) = false from rfl), cneg (by omega), cneg (by omega), cneg (by omega), cneg (by omega), cneg (by omega), BNew_nil hz (by omega) (by omega), hnew _ (ffs_length _), bind_some']
  show Option.bind (f_disked kind (slots : Int)) _ = _
  rw [disked_gen hz hn0 hn1 hs0 (by omega), bind_some']
  show cond (!true) _ _ = _
  rw [cfalse (show (!true) = false from rfl), AttS hn0 hn1 hs0 (by omega) (k := kind) (by omega), bind_some']
  show Option.bind (f_Fuel _ _ _ _ _ _ _) _ = _
  obtain ⟨fu0, hfu, efu⟩ := Fuel_f fu hfu0
  rw [efu, bind_some', imgS, bind_some']
  show loopO _ _ = _
  refine loop_thenE callS xs 16 (PkS n slots (ffs (64 * n))) (fun i c j L => ((i : Int), j.er, j.ct, j.su, j.fu, j.dn, j.ba, j.nx, j.ar, j.od, ints c, j.F, j.S, j.W, mays (ffs (64 * n)) L)) (c := (ffs (64 * n))) (j := P0 n slots fu0) (L := []) (t := 0) ⟨hini, rfl, P0_ok hn0 hn1 hs0 (by omega) hfu⟩ (by omega) (fun i hi c j L t h ht ht2 => ?_) (fun j hP => ?_)
  · have hxi := hx _ (List.getElem_mem hi)
    have hct := h.pj.ct
    rw [mays_len] at hct
    have hmt := h.pj.mt
    rw [mays_len] at hmt
    show ∃ j', _ ∧ (cond (decide ((i : Int) < ((xs.length : Nat) : Int))) _ _ = _ ∨ cond (decide ((i : Int) < ((xs.length : Nat) : Int))) _ _ = _)
    rw [cpos (by omega), cand (by omega) (by omega), ixL_at hi]
    by_cases k2 : xs[i].Kind = 2
    · obtain ⟨j', e, b1, b2, b3, b4, b5, b6, b7, b8⟩ := psyncS h.pj (by omega) kind (ints c)
      have hcall : callS c xs[i] = (c, []) := by unfold callS; rw [if_neg (by omega), if_neg (by omega), if_neg (by omega)]
      rw [hcall, List.append_nil]
      refine ⟨j', ⟨h.ok, h.run, b1.mono (by omega)⟩, .inl ?_⟩
      rw [ceq k2, b8, bind_some', bind_some']
      show Option.bind (cond (xs[i].Kind != 0) _ _) _ = _
      rw [cbne (by omega), cbne (by omega), cbne (by omega)]
      show some (Sum.inl (IntKind.wrap .i64 ((i : Int) + 1), _)) = _
      rw [up_wrap hi (by omega), ← b2, ← b3, ← b4, ← b5, ← b6, ← b7]
    rw [cne k2, bind_some']
    by_cases k017 : xs[i].Kind = 0 ∨ xs[i].Kind = 1 ∨ xs[i].Kind = 7
    · obtain ⟨j', a1, a2⟩ := pdoS_eq h (by omega) (by omega) kind hxi
      have hct' := a1.pj.ct
      rw [mays_len] at hct'
      have hmt' := a1.pj.mt
      rw [mays_len] at hmt'
      have hrun' := a1.run
      refine ⟨j', a1, ?_⟩
      have hbr : ∀ (Y : Type) (A B : Y), cond (xs[i].Kind != 0) (cond (xs[i].Kind != 1) (cond (xs[i].Kind != 7) A B) B) B = B := fun Y A B => by
        rcases k017 with e | e | e
        · rw [cbeq e]
        · rw [cbne (by omega), cbeq e]
        · rw [cbne (by omega), cbne (by omega), cbeq e]
      show Option.bind (cond (xs[i].Kind != 0) _ _) _ = _ ∨ Option.bind (cond (xs[i].Kind != 0) _ _) _ = _
      rw [hbr, bind_some']
      show Option.bind (f_doS1 kind (ints c) j.er j.ct j.su ((64 * n : Nat) : Int) (slots : Int) j.ba j.nx j.ar j.od j.F j.S j.W [] j.fu j.dn xs[i].Kind xs[i].Addr xs[i].Byte xs[i].N xs[i].Picks) _ = _ ∨ Option.bind (f_doS1 kind (ints c) j.er j.ct j.su ((64 * n : Nat) : Int) (slots : Int) j.ba j.nx j.ar j.od j.F j.S j.W [] j.fu j.dn xs[i].Kind xs[i].Addr xs[i].Byte xs[i].N xs[i].Picks) _ = _
      rw [a2, bind_some']
      show cond (IntKind.wrap .i64 (j'.ct - j.ct) == 0) _ _ = _ ∨ cond (IntKind.wrap .i64 (j'.ct - j.ct) == 0) _ _ = _
      have hwr : IntKind.wrap .i64 (j'.ct - j.ct) = ((callS c xs[i]).2.length : Int) := by
        rw [List.length_append] at hct' hmt'
        rw [wrap_i64 (by omega) (by omega)]; omega
      rw [hwr]
      generalize hq : (callS c xs[i]).2 = q at hct' hmt' hrun' ⊢
      match q, hq with
      | [], _ =>
        left
        rw [List.append_nil, ceq (show ((([] : List E59).length : Nat) : Int) = 0 from rfl), up_wrap hi (by omega)]
      | [e], _ =>
        left
        rw [cne (show ((([e] : List E59).length : Nat) : Int) ≠ 0 by simp), ceq (show ((([e] : List E59).length : Nat) : Int) = 1 from rfl)]
        show Option.bind (f_BImageS _ _ _ _ _) _ = _
        rw [show (mays (ffs (64 * n)) (L ++ [e])) = mays (ffs (64 * n)) L ++ [bs (callS c xs[i]).1] from mays_last e L _ _ hrun']
        rw [imgS, bind_some', cpos (by rw [List.length_append, mays_len]; simp only [List.length_singleton]; omega), up_wrap hi (by omega)]
      | e1 :: e2 :: q', _ =>
        right
        rw [cne (by simp; omega), cne (by simp; omega)]
    · have hcall : callS c xs[i] = (c, []) := by unfold callS; rw [if_neg (by omega), if_neg (by omega), if_neg (by omega)]
      rw [hcall, List.append_nil]
      refine ⟨j, h.mono (by omega), .inl ?_⟩
      show Option.bind (cond (xs[i].Kind != 0) _ _) _ = _
      rw [cbne (by omega), cbne (by omega), cbne (by omega)]
      show some (Sum.inl (IntKind.wrap .i64 ((i : Int) + 1), _)) = _
      rw [up_wrap hi (by omega)]
  · generalize hc : (fold callS (ffs (64 * n)) xs).1 = c at hP
    have hml := hP.pj.nl
    have hmt := hP.pj.mt
    have hbt := bdt_bound (t := 0 + xs.length * 16) (slots := slots) (by omega) (by omega)
    obtain ⟨sure, hsu, hex⟩ := hP.pj.ex
    have hle := hex.le
    generalize hmay : mays (ffs (64 * n)) ([] ++ (fold callS (ffs (64 * n)) xs).2) = may at hex hle hmt ⊢
    show cond (decide (((xs.length : Nat) : Int) < ((xs.length : Nat) : Int))) _ _ = _
    rw [cneg (by omega)]
    show Option.bind (f_Crash j.F j.S j.W [] j.fu j.dn pk) _ = _
    rw [Crash_eq j.F j.S j.W [] j.fu j.dn pk hpk hex.full hex.soft (by rw [hex.len]; omega), bind_some']
    obtain ⟨base, area, img, cs, s, hjo, hb, hrun, hmem⟩ := hex.safe pk
    generalize crashL j.F j.W pk = L at hjo ⊢
    obtain ⟨fu2, hf2, efu2⟩ := Fuel_f mo hmo0
    show Option.bind (f_Fuel L L [] [] (-1) false (if (0 : Int) > mo then 0 else mo)) _ = _
    rw [efu2, bind_some']
    have hcsl := hjo.csl
    have hsl : s.length = 64 * n := (runE_len cs hrun).trans hjo.imgl
    have hfin : ∀ x : List UInt8, x = s → cond (decide (0 ≤ ((may.length : Nat) : Int)) && decide (((may.length : Nat) : Int) ≤ ((may.length : Nat) : Int))) (cond (decide (0 ≤ j.su) && decide (j.su ≤ ((may.length : Nat) : Int))) ((f_In ((may.drop j.su.toNat).take (may.length - j.su.toNat)) (bs x)).bind fun (x154 : O_In) => (some (Sum.inr x154 : (Int × Int × Int × Int × Int × Bool × Int × Int × Int × Bool × (List Int) × (List ByteArray) × (List ByteArray) × (List E115) × (List ByteArray)) ⊕ O_SaveParts))) none) none = some (.inr true) := fun x e => by
      subst e
      rw [cand (by omega) (by omega), hsu, cand (by omega) (by omega), Int.toNat_natCast, List.take_of_length_le (by rw [List.length_drop]; exact Nat.le_refl _), In_true hmem (by rw [List.length_drop]; omega), bind_some']
    show Option.bind (f_Recover L L [] [] fu2 false kind (slots : Int)) _ = _
    obtain ⟨r, er, hr⟩ := precS hjo hrun hf2 (bd := bdt (0 + xs.length * 16) slots + 1000) (by omega) (by omega) hz (hnew _ hsl)
    rw [er, bind_some']
    rcases hr with ⟨f1, f2, f3, f4, f5, f6, f7, f8, f9, f10, f11, rfl⟩ | ⟨e3, fu3, dn3, F3, S3, W3, he3, rfl, hex3⟩
    · have := hfin s rfl
      simpa [imgS] using this
    · show cond (e3 == 0) _ (Option.bind (f_Crash F3 S3 W3 [] fu3 dn3 ag) _) = _
      rw [cne he3, Crash_eq F3 S3 W3 [] fu3 dn3 ag hag hex3.full hex3.soft (by rw [hex3.len]; omega), bind_some']
      obtain ⟨base3, area3, img3, cs3, s3, hjo3, hb3, hrun3, hmem3⟩ := hex3.safe ag
      have hs3 : s3 = s := bs_inj2 (by simpa using hmem3)
      subst hs3
      have hcsl3 := hjo3.csl
      generalize crashL F3 W3 ag = L3 at hjo3 ⊢
      show Option.bind (f_Recover L3 L3 [] [] (-1) false kind (slots : Int)) _ = _
      obtain ⟨r, er, f1, f2, f3, f4, f5, f6, f7, f8, f9, f10, f11, rfl⟩ := precNS hjo3 hrun3 (by omega) hz (hnew _ hsl)
      rw [er, bind_some']
      have := hfin _ rfl
      simpa [imgS] using this
theorem ParF {kind : Int} {n slots : Nat} (hkn : kind = 2 ∧ 64 * n = 65536 ∨ kind = 3 ∧ 64 * n = 131072) (hs0 : 1 ≤ slots) (hs1 : slots ≤ 40) (xs : List E35) (hl : xs.length ≤ 40) (hx : ∀ x ∈ xs, okC x) {fu mo : Int} {pk ag : List E113} (hfu0 : fu ≤ 9223372036854775807) (hmo0 : mo ≤ 9223372036854775807) (hpk : pk.length ≤ 9223372036854775807) (hag : ag.length ≤ 9223372036854775807) : f_SaveParts kind (slots : Int) xs fu pk mo ag = some true := by
  have hz : f_Size kind = some (((64 * n : Nat) : Int), 0) := by
    rcases hkn with ⟨rfl, h⟩ | ⟨rfl, h⟩ <;> rw [h] <;> rfl
  have hnew : ∀ s : List UInt8, s.length = 64 * n → f_BNew kind (bs s) = some (.inr (.inr (.inr (.inl (kind, bs s))))) := fun s h => by
    exact BNewF (by omega)
  have hk1 : 1 ≤ kind ∧ kind ≤ 5 := by omega
  have hn0 : 1 ≤ n := by omega
  have hn1 : n ≤ 2048 := by omega
  have hini : Fl.Ok (⟨ffs (64 * n), 0, false, 0⟩ : Fl.Chip) := ⟨by show (ffs _).length = _ ∨ _; rw [ffs_length]; omega, .inl rfl, ⟨Int.le_refl 0, show (0 : Int) ≤ 7 by decide⟩⟩
  unfold f_SaveParts
  rw [awake_eq, bind_some', cfalse (show (!true) = false from rfl), cneg (by omega), cneg (by omega), cneg (by omega), cneg (by omega), cneg (by omega), BNew_nil hz (by omega) (by omega), hnew _ (ffs_length _), bind_some']
  show Option.bind (f_disked kind (slots : Int)) _ = _
  rw [disked_gen hz hn0 hn1 hs0 (by omega), bind_some']
  show cond (!true) _ _ = _
  rw [cfalse (show (!true) = false from rfl), AttF hn0 hn1 hs0 (by omega) (k := kind) (by omega), bind_some']
  show Option.bind (f_Fuel _ _ _ _ _ _ _) _ = _
  obtain ⟨fu0, hfu, efu⟩ := Fuel_f fu hfu0
  rw [efu, bind_some', imgF, bind_some']
  show loopO _ _ = _
  refine loop_thenE callF xs 16 (PkF n slots (ffs (64 * n))) (fun i c j L => ((i : Int), j.er, j.ct, j.su, bs c.mem, c.state, c.id, c.bank, j.fu, j.dn, j.ba, j.nx, j.ar, j.od, j.F, j.S, j.W, mays (ffs (64 * n)) L)) (c := (⟨ffs (64 * n), 0, false, 0⟩ : Fl.Chip)) (j := P0 n slots fu0) (L := []) (t := 0) ⟨hini, rfl, P0_ok hn0 hn1 hs0 (by omega) hfu⟩ (by omega) (fun i hi c j L t h ht ht2 => ?_) (fun j hP => ?_)
  · have hxi := hx _ (List.getElem_mem hi)
    have hct := h.pj.ct
    rw [mays_len] at hct
    have hmt := h.pj.mt
    rw [mays_len] at hmt
    show ∃ j', _ ∧ (cond (decide ((i : Int) < ((xs.length : Nat) : Int))) _ _ = _ ∨ cond (decide ((i : Int) < ((xs.length : Nat) : Int))) _ _ = _)
    rw [cpos (by omega), cand (by omega) (by omega), ixL_at hi]
    by_cases k2 : xs[i].Kind = 2
    · obtain ⟨j', e, b1, b2, b3, b4, b5, b6, b7, b8⟩ := psyncF h.pj (by omega) kind (bs c.mem) c.state c.id c.bank
      have hcall : callF c xs[i] = (c, []) := by unfold callF; rw [if_neg (by omega), if_neg (by omega), if_neg (by omega)]
      rw [hcall, List.append_nil]
      refine ⟨j', ⟨h.ok, h.run, b1.mono (by omega)⟩, .inl ?_⟩
      rw [ceq k2, b8, bind_some', bind_some']
      show Option.bind (cond (xs[i].Kind != 0) _ _) _ = _
      rw [cbne (by omega), cbne (by omega), cbne (by omega)]
      show some (Sum.inl (IntKind.wrap .i64 ((i : Int) + 1), _)) = _
      rw [up_wrap hi (by omega), ← b2, ← b3, ← b4, ← b5, ← b6, ← b7]
    rw [cne k2, bind_some']
    by_cases k017 : xs[i].Kind = 0 ∨ xs[i].Kind = 1 ∨ xs[i].Kind = 7
    · obtain ⟨j', a1, a2⟩ := pdoF_eq h (by omega) (by omega) kind hxi
      have hct' := a1.pj.ct
      rw [mays_len] at hct'
      have hmt' := a1.pj.mt
      rw [mays_len] at hmt'
      have hrun' := a1.run
      refine ⟨j', a1, ?_⟩
      have hbr : ∀ (Y : Type) (A B : Y), cond (xs[i].Kind != 0) (cond (xs[i].Kind != 1) (cond (xs[i].Kind != 7) A B) B) B = B := fun Y A B => by
        rcases k017 with e | e | e
        · rw [cbeq e]
        · rw [cbne (by omega), cbeq e]
        · rw [cbne (by omega), cbne (by omega), cbeq e]
      show Option.bind (cond (xs[i].Kind != 0) _ _) _ = _ ∨ Option.bind (cond (xs[i].Kind != 0) _ _) _ = _
      rw [hbr, bind_some']
      show Option.bind (f_doF1 kind j.er j.ct j.su (bs c.mem) c.state c.id c.bank ((64 * n : Nat) : Int) (slots : Int) j.ba j.nx j.ar j.od j.F j.S j.W [] j.fu j.dn xs[i].Kind xs[i].Addr xs[i].Byte xs[i].N xs[i].Picks) _ = _ ∨ Option.bind (f_doF1 kind j.er j.ct j.su (bs c.mem) c.state c.id c.bank ((64 * n : Nat) : Int) (slots : Int) j.ba j.nx j.ar j.od j.F j.S j.W [] j.fu j.dn xs[i].Kind xs[i].Addr xs[i].Byte xs[i].N xs[i].Picks) _ = _
      rw [a2, bind_some']
      show cond (IntKind.wrap .i64 (j'.ct - j.ct) == 0) _ _ = _ ∨ cond (IntKind.wrap .i64 (j'.ct - j.ct) == 0) _ _ = _
      have hwr : IntKind.wrap .i64 (j'.ct - j.ct) = ((callF c xs[i]).2.length : Int) := by
        rw [List.length_append] at hct' hmt'
        rw [wrap_i64 (by omega) (by omega)]; omega
      rw [hwr]
      generalize hq : (callF c xs[i]).2 = q at hct' hmt' hrun' ⊢
      match q, hq with
      | [], _ =>
        left
        rw [List.append_nil, ceq (show ((([] : List E59).length : Nat) : Int) = 0 from rfl), up_wrap hi (by omega)]
      | [e], _ =>
        left
        rw [cne (show ((([e] : List E59).length : Nat) : Int) ≠ 0 by simp), ceq (show ((([e] : List E59).length : Nat) : Int) = 1 from rfl)]
        show Option.bind (f_BImageF _ _ _ _ _ _ _ _) _ = _
        rw [show (mays (ffs (64 * n)) (L ++ [e])) = mays (ffs (64 * n)) L ++ [bs (callF c xs[i]).1.mem] from mays_last e L _ _ hrun']
        rw [imgF, bind_some', cpos (by rw [List.length_append, mays_len]; simp only [List.length_singleton]; omega), up_wrap hi (by omega)]
      | e1 :: e2 :: q', _ =>
        right
        rw [cne (by simp; omega), cne (by simp; omega)]
    · have hcall : callF c xs[i] = (c, []) := by unfold callF; rw [if_neg (by omega), if_neg (by omega), if_neg (by omega)]
      rw [hcall, List.append_nil]
      refine ⟨j, h.mono (by omega), .inl ?_⟩
      show Option.bind (cond (xs[i].Kind != 0) _ _) _ = _
      rw [cbne (by omega), cbne (by omega), cbne (by omega)]
      show some (Sum.inl (IntKind.wrap .i64 ((i : Int) + 1), _)) = _
      rw [up_wrap hi (by omega)]
  · generalize hc : (fold callF (⟨ffs (64 * n), 0, false, 0⟩ : Fl.Chip) xs).1 = c at hP
    have hml := hP.pj.nl
    have hmt := hP.pj.mt
    have hbt := bdt_bound (t := 0 + xs.length * 16) (slots := slots) (by omega) (by omega)
    obtain ⟨sure, hsu, hex⟩ := hP.pj.ex
    have hle := hex.le
    generalize hmay : mays (ffs (64 * n)) ([] ++ (fold callF (⟨ffs (64 * n), 0, false, 0⟩ : Fl.Chip) xs).2) = may at hex hle hmt ⊢
    show cond (decide (((xs.length : Nat) : Int) < ((xs.length : Nat) : Int))) _ _ = _
    rw [cneg (by omega)]
    show Option.bind (f_Crash j.F j.S j.W [] j.fu j.dn pk) _ = _
    rw [Crash_eq j.F j.S j.W [] j.fu j.dn pk hpk hex.full hex.soft (by rw [hex.len]; omega), bind_some']
    obtain ⟨base, area, img, cs, s, hjo, hb, hrun, hmem⟩ := hex.safe pk
    generalize crashL j.F j.W pk = L at hjo ⊢
    obtain ⟨fu2, hf2, efu2⟩ := Fuel_f mo hmo0
    show Option.bind (f_Fuel L L [] [] (-1) false (if (0 : Int) > mo then 0 else mo)) _ = _
    rw [efu2, bind_some']
    have hcsl := hjo.csl
    have hsl : s.length = 64 * n := (runE_len cs hrun).trans hjo.imgl
    have hfin : ∀ x : List UInt8, x = s → cond (decide (0 ≤ ((may.length : Nat) : Int)) && decide (((may.length : Nat) : Int) ≤ ((may.length : Nat) : Int))) (cond (decide (0 ≤ j.su) && decide (j.su ≤ ((may.length : Nat) : Int))) ((f_In ((may.drop j.su.toNat).take (may.length - j.su.toNat)) (bs x)).bind fun (x154 : O_In) => (some (Sum.inr x154 : (Int × Int × Int × Int × ByteArray × Int × Bool × Int × Int × Bool × Int × Int × Int × Bool × (List ByteArray) × (List ByteArray) × (List E115) × (List ByteArray)) ⊕ O_SaveParts))) none) none = some (.inr true) := fun x e => by
      subst e
      rw [cand (by omega) (by omega), hsu, cand (by omega) (by omega), Int.toNat_natCast, List.take_of_length_le (by rw [List.length_drop]; exact Nat.le_refl _), In_true hmem (by rw [List.length_drop]; omega), bind_some']
    show Option.bind (f_Recover L L [] [] fu2 false kind (slots : Int)) _ = _
    obtain ⟨r, er, hr⟩ := precF hjo hrun hf2 (bd := bdt (0 + xs.length * 16) slots + 1000) (by omega) (by omega) hz (hnew _ hsl)
    rw [er, bind_some']
    rcases hr with ⟨f1, f2, f3, f4, f5, f6, f7, f8, f9, f10, f11, rfl⟩ | ⟨e3, fu3, dn3, F3, S3, W3, he3, rfl, hex3⟩
    · have := hfin s rfl
      exact this
    · show cond (e3 == 0) _ (Option.bind (f_Crash F3 S3 W3 [] fu3 dn3 ag) _) = _
      rw [cne he3, Crash_eq F3 S3 W3 [] fu3 dn3 ag hag hex3.full hex3.soft (by rw [hex3.len]; omega), bind_some']
      obtain ⟨base3, area3, img3, cs3, s3, hjo3, hb3, hrun3, hmem3⟩ := hex3.safe ag
      have hs3 : s3 = s := bs_inj2 (by simpa using hmem3)
      subst hs3
      have hcsl3 := hjo3.csl
      generalize crashL F3 W3 ag = L3 at hjo3 ⊢
      show Option.bind (f_Recover L3 L3 [] [] (-1) false kind (slots : Int)) _ = _
      obtain ⟨r, er, f1, f2, f3, f4, f5, f6, f7, f8, f9, f10, f11, rfl⟩ := precNF hjo3 hrun3 (by omega) hz (hnew _ hsl)
      rw [er, bind_some']
      have := hfin _ rfl
      exact this
theorem ParE {kind w : Int} {n slots : Nat} (hkn : kind = 4 ∧ 64 * n = 512 ∧ w = 6 ∨ kind = 5 ∧ 64 * n = 8192 ∧ w = 14) (hs0 : 1 ≤ slots) (hs1 : slots ≤ 40) (xs : List E35) (hl : xs.length ≤ 40) (hx : ∀ x ∈ xs, okC x) {fu mo : Int} {pk ag : List E113} (hfu0 : fu ≤ 9223372036854775807) (hmo0 : mo ≤ 9223372036854775807) (hpk : pk.length ≤ 9223372036854775807) (hag : ag.length ≤ 9223372036854775807) : f_SaveParts kind (slots : Int) xs fu pk mo ag = some true := by
  have hz : f_Size kind = some (((64 * n : Nat) : Int), 0) := by
    rcases hkn with ⟨rfl, h, _⟩ | ⟨rfl, h, _⟩ <;> rw [h] <;> rfl
  have hnew : ∀ s : List UInt8, s.length = 64 * n → f_BNew kind (bs s) = some (.inr (.inr (.inl (kind, bs s, w)))) := fun s h => by
    exact BNewE (by omega)
  have hk1 : 1 ≤ kind ∧ kind ≤ 5 := by omega
  have hn0 : 1 ≤ n := by omega
  have hn1 : n ≤ 2048 := by omega
  have hini : Inv (⟨ffs (64 * n), [], [], w⟩ : Chip) := ⟨⟨by show (ffs (64 * n)).length = 512 ∧ w = 6 ∨ (ffs (64 * n)).length = 8192 ∧ w = 14; rw [ffs_length]; omega⟩, bits_nil, by show ((0 : Nat) : Int) < 67 + w; omega, .inl rfl, by intro h; exfalso; have h : 3 + w ≤ ((0 : Nat) : Int) := h; omega⟩
  unfold f_SaveParts
  rw [awake_eq, bind_some', cfalse (show (!true) = false from rfl), cneg (by omega), cneg (by omega), cneg (by omega), cneg (by omega), cneg (by omega), BNew_nil hz (by omega) (by omega), hnew _ (ffs_length _), bind_some']
  show Option.bind (f_disked kind (slots : Int)) _ = _
  rw [disked_gen hz hn0 hn1 hs0 (by omega), bind_some']
  show cond (!true) _ _ = _
  rw [cfalse (show (!true) = false from rfl), AttE hn0 hn1 hs0 (by omega) (k := kind) (by omega) w, bind_some']
  show Option.bind (f_Fuel _ _ _ _ _ _ _) _ = _
  obtain ⟨fu0, hfu, efu⟩ := Fuel_f fu hfu0
  rw [efu, bind_some', imgE, bind_some']
  show loopO _ _ = _
  refine loop_thenE callE xs 16 (fun c j L t => PkE n slots (ffs (64 * n)) c j L t ∧ c.wide = w) (fun i c j L => ((i : Int), j.er, j.ct, j.su, bs c.mem, j.fu, j.dn, j.ba, j.nx, j.ar, j.od, c.inn, c.out, j.F, j.S, j.W, mays (ffs (64 * n)) L)) (c := (⟨ffs (64 * n), [], [], w⟩ : Chip)) (j := P0 n slots fu0) (L := []) (t := 0) ⟨⟨hini, rfl, P0_ok hn0 hn1 hs0 (by omega) hfu⟩, rfl⟩ (by omega) (fun i hi c j L t h ht ht2 => ?_) (fun j hP => ?_)
  · have hxi := hx _ (List.getElem_mem hi)
    have hct := h.1.pj.ct
    rw [mays_len] at hct
    have hmt := h.1.pj.mt
    rw [mays_len] at hmt
    show ∃ j', _ ∧ (cond (decide ((i : Int) < ((xs.length : Nat) : Int))) _ _ = _ ∨ cond (decide ((i : Int) < ((xs.length : Nat) : Int))) _ _ = _)
    rw [cpos (by omega), cand (by omega) (by omega), ixL_at hi]
    by_cases k2 : xs[i].Kind = 2
    · obtain ⟨j', e, b1, b2, b3, b4, b5, b6, b7, b8⟩ := psyncE h.1.pj (by omega) kind (bs c.mem) c.inn c.out w
      have hcall : callE c xs[i] = (c, []) := by unfold callE; rw [if_neg (by omega)]
      rw [hcall, List.append_nil]
      refine ⟨j', ⟨⟨h.1.ok, h.1.run, b1.mono (by omega)⟩, h.2⟩, .inl ?_⟩
      rw [ceq k2, b8, bind_some', bind_some']
      show Option.bind (cond (xs[i].Kind != 0) _ _) _ = _
      rw [cbne (by omega), cbne (by omega), cbne (by omega)]
      show some (Sum.inl (IntKind.wrap .i64 ((i : Int) + 1), _)) = _
      rw [up_wrap hi (by omega), ← b2, ← b3, ← b4, ← b5, ← b6, ← b7]
    rw [cne k2, bind_some']
    by_cases k017 : xs[i].Kind = 0 ∨ xs[i].Kind = 1 ∨ xs[i].Kind = 7
    · obtain ⟨j', a1, a2⟩ := pdoE_eq h.1 (by omega) (by omega) kind h.2 xs[i]
      have hct' := a1.1.pj.ct
      rw [mays_len] at hct'
      have hmt' := a1.1.pj.mt
      rw [mays_len] at hmt'
      have hrun' := a1.1.run
      refine ⟨j', a1, ?_⟩
      have hbr : ∀ (Y : Type) (A B : Y), cond (xs[i].Kind != 0) (cond (xs[i].Kind != 1) (cond (xs[i].Kind != 7) A B) B) B = B := fun Y A B => by
        rcases k017 with e | e | e
        · rw [cbeq e]
        · rw [cbne (by omega), cbeq e]
        · rw [cbne (by omega), cbne (by omega), cbeq e]
      show Option.bind (cond (xs[i].Kind != 0) _ _) _ = _ ∨ Option.bind (cond (xs[i].Kind != 0) _ _) _ = _
      rw [hbr, bind_some']
      show Option.bind (f_doE1 kind j.er j.ct j.su (bs c.mem) c.inn c.out w ((64 * n : Nat) : Int) (slots : Int) j.ba j.nx j.ar j.od j.F j.S j.W [] j.fu j.dn xs[i].Kind xs[i].Addr xs[i].Byte xs[i].N xs[i].Picks) _ = _ ∨ Option.bind (f_doE1 kind j.er j.ct j.su (bs c.mem) c.inn c.out w ((64 * n : Nat) : Int) (slots : Int) j.ba j.nx j.ar j.od j.F j.S j.W [] j.fu j.dn xs[i].Kind xs[i].Addr xs[i].Byte xs[i].N xs[i].Picks) _ = _
      rw [a2, bind_some']
      show cond (IntKind.wrap .i64 (j'.ct - j.ct) == 0) _ _ = _ ∨ cond (IntKind.wrap .i64 (j'.ct - j.ct) == 0) _ _ = _
      have hwr : IntKind.wrap .i64 (j'.ct - j.ct) = ((callE c xs[i]).2.length : Int) := by
        rw [List.length_append] at hct' hmt'
        rw [wrap_i64 (by omega) (by omega)]; omega
      rw [hwr]
      generalize hq : (callE c xs[i]).2 = q at hct' hmt' hrun' ⊢
      match q, hq with
      | [], _ =>
        left
        rw [List.append_nil, ceq (show ((([] : List E59).length : Nat) : Int) = 0 from rfl), up_wrap hi (by omega)]
      | [e], _ =>
        left
        rw [cne (show ((([e] : List E59).length : Nat) : Int) ≠ 0 by simp), ceq (show ((([e] : List E59).length : Nat) : Int) = 1 from rfl)]
        show Option.bind (f_BImageE _ _ _ _ _ _ _ _) _ = _
        rw [show (mays (ffs (64 * n)) (L ++ [e])) = mays (ffs (64 * n)) L ++ [bs (callE c xs[i]).1.mem] from mays_last e L _ _ hrun']
        rw [imgE, bind_some', cpos (by rw [List.length_append, mays_len]; simp only [List.length_singleton]; omega), up_wrap hi (by omega)]
      | e1 :: e2 :: q', _ =>
        right
        rw [cne (by simp; omega), cne (by simp; omega)]
    · have hcall : callE c xs[i] = (c, []) := by unfold callE; rw [if_neg (by omega)]
      rw [hcall, List.append_nil]
      refine ⟨j, ⟨h.1.mono (by omega), h.2⟩, .inl ?_⟩
      show Option.bind (cond (xs[i].Kind != 0) _ _) _ = _
      rw [cbne (by omega), cbne (by omega), cbne (by omega)]
      show some (Sum.inl (IntKind.wrap .i64 ((i : Int) + 1), _)) = _
      rw [up_wrap hi (by omega)]
  · generalize hc : (fold callE (⟨ffs (64 * n), [], [], w⟩ : Chip) xs).1 = c at hP
    have hml := hP.1.pj.nl
    have hmt := hP.1.pj.mt
    have hbt := bdt_bound (t := 0 + xs.length * 16) (slots := slots) (by omega) (by omega)
    obtain ⟨sure, hsu, hex⟩ := hP.1.pj.ex
    have hle := hex.le
    generalize hmay : mays (ffs (64 * n)) ([] ++ (fold callE (⟨ffs (64 * n), [], [], w⟩ : Chip) xs).2) = may at hex hle hmt ⊢
    show cond (decide (((xs.length : Nat) : Int) < ((xs.length : Nat) : Int))) _ _ = _
    rw [cneg (by omega)]
    show Option.bind (f_Crash j.F j.S j.W [] j.fu j.dn pk) _ = _
    rw [Crash_eq j.F j.S j.W [] j.fu j.dn pk hpk hex.full hex.soft (by rw [hex.len]; omega), bind_some']
    obtain ⟨base, area, img, cs, s, hjo, hb, hrun, hmem⟩ := hex.safe pk
    generalize crashL j.F j.W pk = L at hjo ⊢
    obtain ⟨fu2, hf2, efu2⟩ := Fuel_f mo hmo0
    show Option.bind (f_Fuel L L [] [] (-1) false (if (0 : Int) > mo then 0 else mo)) _ = _
    rw [efu2, bind_some']
    have hcsl := hjo.csl
    have hsl : s.length = 64 * n := (runE_len cs hrun).trans hjo.imgl
    have hfin : ∀ x : List UInt8, x = s → cond (decide (0 ≤ ((may.length : Nat) : Int)) && decide (((may.length : Nat) : Int) ≤ ((may.length : Nat) : Int))) (cond (decide (0 ≤ j.su) && decide (j.su ≤ ((may.length : Nat) : Int))) ((f_In ((may.drop j.su.toNat).take (may.length - j.su.toNat)) (bs x)).bind fun (x154 : O_In) => (some (Sum.inr x154 : (Int × Int × Int × Int × ByteArray × Int × Bool × Int × Int × Int × Bool × (List Int) × (List Int) × (List ByteArray) × (List ByteArray) × (List E115) × (List ByteArray)) ⊕ O_SaveParts))) none) none = some (.inr true) := fun x e => by
      subst e
      rw [cand (by omega) (by omega), hsu, cand (by omega) (by omega), Int.toNat_natCast, List.take_of_length_le (by rw [List.length_drop]; exact Nat.le_refl _), In_true hmem (by rw [List.length_drop]; omega), bind_some']
    show Option.bind (f_Recover L L [] [] fu2 false kind (slots : Int)) _ = _
    obtain ⟨r, er, hr⟩ := precE hjo hrun hf2 (bd := bdt (0 + xs.length * 16) slots + 1000) (by omega) (by omega) hz (hnew _ hsl)
    rw [er, bind_some']
    rcases hr with ⟨f1, f2, f3, f4, f5, f6, f7, f8, f9, f10, f11, rfl⟩ | ⟨e3, fu3, dn3, F3, S3, W3, he3, rfl, hex3⟩
    · have := hfin s rfl
      exact this
    · show cond (e3 == 0) _ (Option.bind (f_Crash F3 S3 W3 [] fu3 dn3 ag) _) = _
      rw [cne he3, Crash_eq F3 S3 W3 [] fu3 dn3 ag hag hex3.full hex3.soft (by rw [hex3.len]; omega), bind_some']
      obtain ⟨base3, area3, img3, cs3, s3, hjo3, hb3, hrun3, hmem3⟩ := hex3.safe ag
      have hs3 : s3 = s := bs_inj2 (by simpa using hmem3)
      subst hs3
      have hcsl3 := hjo3.csl
      generalize crashL F3 W3 ag = L3 at hjo3 ⊢
      show Option.bind (f_Recover L3 L3 [] [] (-1) false kind (slots : Int)) _ = _
      obtain ⟨r, er, f1, f2, f3, f4, f5, f6, f7, f8, f9, f10, f11, rfl⟩ := precNE hjo3 hrun3 (by omega) hz (hnew _ hsl)
      rw [er, bind_some']
      have := hfin _ rfl
      exact this
theorem SaveParts_eq (k slots : Int) (xs : List E35) (fu : Int) (pk : List E113) (mo : Int) (ag : List E113) (hx : ∀ x ∈ xs, okC x) (hfu0 : fu ≤ 9223372036854775807) (hmo0 : mo ≤ 9223372036854775807) (hpk : pk.length ≤ 9223372036854775807) (hag : ag.length ≤ 9223372036854775807) : f_SaveParts k slots xs fu pk mo ag = some true := by
  by_cases h : xs.length > 40 ∨ slots < 1 ∨ slots > 40 ∨ k < 1 ∨ k > 5
  · exact ParB h
  · obtain ⟨s, rfl⟩ := Int.eq_ofNat_of_zero_le (show 0 ≤ slots by omega)
    rcases (show k = 1 ∨ k = 2 ∨ k = 3 ∨ k = 4 ∨ k = 5 by omega) with rfl | rfl | rfl | rfl | rfl
    · exact ParS (n := 512) ⟨rfl, rfl⟩ (by omega) (by omega) xs (by omega) hx hfu0 hmo0 hpk hag
    · exact ParF (n := 1024) (.inl ⟨rfl, rfl⟩) (by omega) (by omega) xs (by omega) hx hfu0 hmo0 hpk hag
    · exact ParF (n := 2048) (.inr ⟨rfl, rfl⟩) (by omega) (by omega) xs (by omega) hx hfu0 hmo0 hpk hag
    · exact ParE (n := 8) (.inl ⟨rfl, rfl, rfl⟩) (by omega) (by omega) xs (by omega) hx hfu0 hmo0 hpk hag
    · exact ParE (n := 128) (.inr ⟨rfl, rfl, rfl⟩) (by omega) (by omega) xs (by omega) hx hfu0 hmo0 hpk hag
end Go.Proofs.YtcgigdfahlmfaaaGreatDoor
