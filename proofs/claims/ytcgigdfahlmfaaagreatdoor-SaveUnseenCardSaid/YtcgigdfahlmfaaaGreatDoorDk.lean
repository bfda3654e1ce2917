/-
  A disk as a plain value, and what its calls make of it, whatever its fuel and its bad sectors; a journal over it.
-/
import Derived.Test.YtcgigdfahlmfaaaGreatDoorJrn
namespace Go.Proofs.YtcgigdfahlmfaaaGreatDoor
open Go.Vc
set_option linter.unusedVariables false
set_option linter.unusedSimpArgs false
structure Dk where
  F : List ByteArray
  W : List E115
  B : List (Int × Bool)
  fu : Int
  dn : Bool
def Dk.S (D : Dk) : List ByteArray := setAll D.F D.W
structure Dok (N k : Nat) (D : Dk) : Prop where
  full : Full D.F
  len : D.F.length = N
  soft : Soft N D.W
  wl : D.W.length ≤ k
  fu : -1 ≤ D.fu ∧ D.fu ≤ 9223372036854775807
theorem Dok.mono {N k k' : Nat} {D : Dk} (h : Dok N k D) (hk : k ≤ k') : Dok N k' D := ⟨h.full, h.len, h.soft, Nat.le_trans h.wl hk, h.fu⟩
theorem decBd {fu : Int} (h : -1 ≤ fu ∧ fu ≤ 9223372036854775807) (h0 : fu ≠ 0) : -1 ≤ dec fu ∧ dec fu ≤ 9223372036854775807 := by unfold dec; split <;> omega
def wr (D : Dk) (i : Int) (s : ByteArray) : Int × Dk :=
  if D.dn = true then (10, D) else if i < 0 ∨ i ≥ D.F.length ∨ s.size ≠ 64 then (1, D) else if getB D.B i = true then (11, D) else
  if D.fu = 0 then (10, { D with dn := true }) else (0, { D with fu := dec D.fu, W := D.W ++ [⟨i, s⟩] })
def sy (D : Dk) : Int × Dk :=
  if D.dn = true then (10, D) else if D.fu = 0 then (10, { D with dn := true }) else (0, { D with fu := dec D.fu, F := D.S, W := [] })
theorem setAll_app (F : List ByteArray) (W : List E115) (w : E115) : setAll F (W ++ [w]) = (setAll F W).set w.sector.toNat w.data := by unfold setAll; rw [List.foldl_append]; rfl
theorem setAll_full : ∀ (W : List E115) (F : List ByteArray), Full F → Soft F.length W → Full (setAll F W)
  | [], _, h, _ => h
  | w :: l, F, h, hs => setAll_full l _ (h.set (hs w (List.mem_cons_self ..)).2.2) (by rw [List.length_set]; exact fun x hx => hs x (List.mem_cons_of_mem _ hx))
theorem Dk.S_len (D : Dk) : D.S.length = D.F.length := setAll_length _ _
theorem wr_B (D : Dk) (i : Int) (s : ByteArray) : (wr D i s).2.B = D.B := by unfold wr; repeat' first | rfl | split
theorem wr_F (D : Dk) (i : Int) (s : ByteArray) : (wr D i s).2.F = D.F := by unfold wr; repeat' first | rfl | split
theorem sy_B (D : Dk) : (sy D).2.B = D.B := by unfold sy; repeat' first | rfl | split
theorem sy_S (D : Dk) : (sy D).2.S = D.S := by unfold sy; repeat' first | rfl | split
theorem wr_ok {N k : Nat} {D : Dk} (h : Dok N k D) (i : Int) (s : ByteArray) : Dok N (k + 1) (wr D i s).2 := by
  have hl := h.len
  have hw := h.wl
  unfold wr
  split
  · exact h.mono (Nat.le_succ _)
  split
  · exact h.mono (Nat.le_succ _)
  split
  · exact h.mono (Nat.le_succ _)
  split
  · exact ⟨h.full, h.len, h.soft, Nat.le_succ_of_le h.wl, h.fu⟩
  · rename_i h1 _ h3
    refine ⟨h.full, h.len, ?_, by simp; omega, decBd h.fu h3⟩
    intro w hw
    rcases List.mem_append.1 hw with hw | hw
    · exact h.soft w hw
    · simp at hw; subst hw; exact ⟨by show 0 ≤ i; omega, by show i < N; omega, by show s.size = 64; omega⟩
theorem sy_ok {N k : Nat} {D : Dk} (h : Dok N k D) : Dok N k (sy D).2 := by
  unfold sy
  split
  · exact h
  split
  · exact ⟨h.full, h.len, h.soft, h.wl, h.fu⟩
  · rename_i h3
    exact ⟨setAll_full _ _ h.full (by rw [h.len]; exact h.soft), by rw [Dk.S_len]; exact h.len, fun w hw => by simp at hw, Nat.zero_le _, decBd h.fu h3⟩
theorem wr_eq {N k : Nat} {D : Dk} (h : Dok N k D) (hk : k < 9000000000000) (i : Int) (s : ByteArray) : f_Write D.F D.S D.W D.B D.fu D.dn i s = some ((wr D i s).1, (wr D i s).2.fu, (wr D i s).2.dn, (wr D i s).2.S, (wr D i s).2.W) := by
  have hw := h.wl
  rw [Write_eq _ _ _ _ _ _ h.fu (by omega)]
  unfold writeF wr
  rw [Dk.S_len]
  by_cases h1 : D.dn = true
  · rw [if_pos h1, if_pos h1]
  rw [if_neg h1, if_neg h1]
  by_cases h2 : i < 0 ∨ i ≥ D.F.length ∨ s.size ≠ 64
  · rw [if_pos h2, if_pos h2]
  rw [if_neg h2, if_neg h2]
  by_cases h3 : getB D.B i = true
  · rw [if_pos h3, if_pos h3]
  rw [if_neg h3, if_neg h3]
  by_cases h4 : D.fu = 0
  · rw [if_pos h4, if_pos h4]; rfl
  · rw [if_neg h4, if_neg h4]
    show _ = some ((0 : Int), dec D.fu, D.dn, setAll D.F (D.W ++ [⟨i, s⟩]), _)
    rw [setAll_app]; rfl
theorem sy_eq {N k : Nat} {D : Dk} (h : Dok N k D) (hk : k < 9000000000000) : f_Sync D.F D.S D.W D.B D.fu D.dn = some ((sy D).1, (sy D).2.fu, (sy D).2.dn, (sy D).2.F, (sy D).2.W) := by
  have hw := h.wl
  rw [Sync_eq _ _ _ _ _ _ h.fu (by omega) fun w hw => ⟨(h.soft w hw).1, by have := (h.soft w hw).2.1; have := h.len; omega⟩]
  unfold syncF sy
  by_cases h1 : D.dn = true
  · rw [if_pos h1, if_pos h1]
  rw [if_neg h1, if_neg h1]
  by_cases h4 : D.fu = 0
  · rw [if_pos h4, if_pos h4]
  · rw [if_neg h4, if_neg h4]; rfl
def seqW (g : Nat → Int × ByteArray) : Nat → Nat → Dk → Int × Dk
  | _, 0, D => (0, D)
  | i, m + 1, D => if (wr D (g i).1 (g i).2).1 = 0 then seqW g (i + 1) m (wr D (g i).1 (g i).2).2 else wr D (g i).1 (g i).2
structure Din (N : Nat) (D0 D : Dk) (k : Nat) : Prop where
  ok : Dok N k D
  B : D.B = D0.B
theorem Din.wr {N k : Nat} {D0 D : Dk} (h : Din N D0 D k) (i : Int) (s : ByteArray) : Din N D0 (wr D i s).2 (k + 1) := ⟨wr_ok h.ok i s, (wr_B D i s).trans h.B⟩
theorem Din.sy {N k : Nat} {D0 D : Dk} (h : Din N D0 D k) : Din N D0 (sy D).2 k := ⟨sy_ok h.ok, (sy_B D).trans h.B⟩
theorem Din.mono {N k k' : Nat} {D0 D : Dk} (h : Din N D0 D k) (hk : k ≤ k') : Din N D0 D k' := ⟨h.ok.mono hk, h.B⟩
theorem seqW_in {N : Nat} {D0 : Dk} (g : Nat → Int × ByteArray) : ∀ (m i : Nat) (D : Dk) (k : Nat), Din N D0 D k → Din N D0 (seqW g i m D).2 (k + m)
  | 0, _, _, _, h => h
  | m + 1, i, D, k, h => by
    unfold seqW
    split
    · exact (seqW_in g m (i + 1) _ (k + 1) (h.wr _ _)).mono (by omega)
    · exact (h.wr _ _).mono (by omega)
theorem loop_seq {σ ρ : Type} {f : σ → Option (σ ⊕ ρ)} (T : Nat → Dk → σ) (g : Nat → Int × ByteArray) (R : Int × Dk → ρ) (R' : Dk → ρ) {N n : Nat} {D0 : Dk} {k0 : Nat}
    (hs : ∀ i D k, i < n → Din N D0 D k → k ≤ k0 + i → D.F = D0.F → f (T i D) = some (if (wr D (g i).1 (g i).2).1 = 0 then .inl (T (i + 1) (wr D (g i).1 (g i).2).2) else .inr (R (wr D (g i).1 (g i).2))))
    (he : ∀ D k, Din N D0 D k → k ≤ k0 + n → D.F = D0.F → f (T n D) = some (.inr (R' D))) :
    ∀ (m i : Nat) (D : Dk) (k : Nat), i + m = n → Din N D0 D k → k ≤ k0 + i → D.F = D0.F → loopO f (T i D) = some (if (seqW g i m D).1 = 0 then R' (seqW g i m D).2 else R (seqW g i m D))
  | 0, i, D, k, hi, h, hk, hF => by
    have : i = n := by omega
    subst this
    rw [loopO_eq, he D k h hk hF]; rfl
  | m + 1, i, D, k, hi, h, hk, hF => by
    have hb := hs i D k (by omega) h hk hF
    unfold seqW
    by_cases h0 : (wr D (g i).1 (g i).2).1 = 0
    · rw [if_pos h0] at hb
      rw [loopO_eq, hb, if_pos h0]
      exact loop_seq T g R R' hs he m (i + 1) _ (k + 1) (by omega) (h.wr _ _) (by omega) ((wr_F _ _ _).trans hF)
    · rw [if_neg h0] at hb
      rw [loopO_eq, hb, if_neg h0, if_neg h0]; rfl
end Go.Proofs.YtcgigdfahlmfaaaGreatDoor
