/-
  Commands on an image; loops that end; a journal that is written on while its disk may give out.
-/
import Derived.Test.YtcgigdfahlmfaaaGreatDoorJrn2
namespace Go.Proofs.YtcgigdfahlmfaaaGreatDoor
open Go.Vc
set_option linter.unusedVariables false
set_option linter.unusedSimpArgs false
def stepE (m : List UInt8) (c : E59) : List UInt8 × Int := applyF m c.Kind c.Addr c.Data.data.toList
def runE : List UInt8 → List E59 → Option (List UInt8)
  | m, [] => some m
  | m, c :: cs => if (stepE m c).2 = 0 then runE (stepE m c).1 cs else none
theorem runE_snoc (c : E59) : ∀ (cs : List E59) (m x : List UInt8), runE m cs = some x → (stepE x c).2 = 0 → runE m (cs ++ [c]) = some (stepE x c).1
  | [], m, x, h, h0 => by
    have : m = x := by simpa [runE] using h
    subst this
    show (if (stepE m c).2 = 0 then some (stepE m c).1 else none) = _
    rw [if_pos h0]
  | d :: cs, m, x, h, h0 => by
    unfold runE at h
    split at h
    · rename_i hd
      show (if (stepE m d).2 = 0 then runE (stepE m d).1 (cs ++ [c]) else none) = _
      rw [if_pos hd]
      exact runE_snoc c cs _ x h h0
    · cases h
theorem stepE_ok {m : List UInt8} {c : E59} (h : (stepE m c).2 = 0) : okE c = true := by
  unfold stepE applyF at h
  unfold okE
  split at h
  · assumption
  · cases h
theorem stepE_len {m : List UInt8} {c : E59} (h : (stepE m c).2 = 0) : (stepE m c).1.length = m.length := by
  have hok := stepE_ok h
  have ha := okF_addr hok
  unfold stepE applyF at h ⊢
  unfold okE at hok
  rw [if_pos hok] at h ⊢
  unfold applyT at h ⊢
  split
  · rename_i hk
    rw [if_pos hk] at h
    split at h
    · cases h
    · rename_i h1
      rw [if_neg h1]
      simp [ffs_length]; omega
  · rename_i hk
    rw [if_neg hk] at h
    split
    · simp [ffs_length]
    · rename_i hk3
      rw [if_neg hk3] at h
      split at h
      · cases h
      · rename_i h1
        rw [if_neg h1]
        simp only [List.length_append, List.length_take, List.length_drop]; omega
theorem runE_len : ∀ (cs : List E59) {m x : List UInt8}, runE m cs = some x → x.length = m.length
  | [], m, x, h => by
    have : m = x := by simpa [runE] using h
    rw [this]
  | d :: cs, m, x, h => by
    unfold runE at h
    split at h
    · rename_i hd
      rw [runE_len cs h, stepE_len hd]
    · cases h
def Ends {α : Type} (o : Option α) (Q : α → Prop) : Prop := ∃ r, o = some r ∧ Q r
theorem ends_bind {α β : Type} {o : Option α} {K : α → Option β} {Q : β → Prop} (P : α → Prop) (h : Ends o P) (h2 : ∀ r, P r → Ends (K r) Q) : Ends (o.bind K) Q := by
  obtain ⟨r, e, p⟩ := h
  rw [e]; exact h2 r p
theorem ends_last {σ ρ : Type} {f : σ → Option (σ ⊕ ρ)} {s : σ} {Q : ρ → Prop} (h : Ends (f s) fun t => ∃ y, t = .inr y ∧ Q y) : Ends (loopO f s) Q := by
  obtain ⟨t, e, y, rfl, q⟩ := h
  rw [loopO_eq, e]; exact ⟨y, rfl, q⟩
theorem ends_apply {ρ : Type} {f : ByteArray × Int → Option ((ByteArray × Int) ⊕ ρ)} {cs : List E59} {img s : List UInt8} (h : runE img cs = some s) {Q : ρ → Prop}
    (step : ∀ (i : Nat) (hi : i < cs.length) (m : List UInt8), m.length = img.length → (stepE m cs[i]).2 = 0 → f (bs m, (i : Int)) = some (.inl (bs (stepE m cs[i]).1, ((i + 1 : Nat) : Int))))
    (fin : Ends (f (bs s, ((cs.length : Nat) : Int))) fun t => ∃ y, t = .inr y ∧ Q y) : Ends (loopO f (bs img, 0)) Q := by
  have key : ∀ k, k ≤ cs.length → ∀ m : List UInt8, m.length = img.length → runE m (cs.drop (cs.length - k)) = some s → Ends (loopO f (bs m, ((cs.length - k : Nat) : Int))) Q := by
    intro k
    induction k with
    | zero =>
      intro _ m _ hr
      rw [Nat.sub_zero, List.drop_length] at hr
      have : m = s := by simpa [runE] using hr
      subst this
      exact ends_last fin
    | succ k ih =>
      intro hk m hm hr
      have hi : cs.length - (k + 1) < cs.length := by omega
      rw [List.drop_eq_getElem_cons hi] at hr
      unfold runE at hr
      split at hr
      · rename_i h0
        rw [show cs.length - (k + 1) + 1 = cs.length - k by omega] at hr
        have := ih (by omega) _ ((stepE_len h0).trans hm) hr
        rw [loopO_eq, step _ hi m hm h0]
        show Ends (loopO f (bs (stepE m cs[cs.length - (k + 1)]).1, ((cs.length - (k + 1) + 1 : Nat) : Int))) Q
        rw [show cs.length - (k + 1) + 1 = cs.length - k by omega]
        exact this
      · cases hr
  have := key cs.length (Nat.le_refl _) img rfl (by rw [Nat.sub_self]; exact h)
  rw [Nat.sub_self] at this
  exact this
end Go.Proofs.YtcgigdfahlmfaaaGreatDoor
