/-
  Plain laws for what the walk prints: conditions, loops, bytes.
-/
import Derived.Test.YtccmpceifheejaaArr
import Derived.Test.YtccmpceifheejaaBits
namespace Go.Vc
open Go
set_option linter.unusedVariables false
theorem ctrueF {α : Type} {b : Bool} {x y : α} (h : b = false) : cond b x y = y := by subst h; rfl
theorem cpos {α : Type} {p : Prop} [Decidable p] {x y : α} (h : p) : cond (decide p) x y = x := by rw [decide_eq_true h]; rfl
theorem cneg {α : Type} {p : Prop} [Decidable p] {x y : α} (h : ¬ p) : cond (decide p) x y = y := by rw [decide_eq_false h]; rfl
theorem cand {α : Type} {p q : Prop} [Decidable p] [Decidable q] {x y : α} (h : p) (h' : q) : cond (decide p && decide q) x y = x := by rw [decide_eq_true h, decide_eq_true h']; rfl
theorem ceq {α : Type} {a b : Int} {x y : α} (h : a = b) : cond (a == b) x y = x := by subst h; simp
theorem cne {α : Type} {a b : Int} {x y : α} (h : a ≠ b) : cond (a == b) x y = y := ctrueF (beq_eq_false_iff_ne.2 h)
theorem cbeq {α : Type} {a b : Int} {x y : α} (h : a = b) : cond (a != b) x y = y := ctrueF (by simpa using h)
theorem cnot {α : Type} {b : Bool} {x y : α} : cond (!b) x y = cond b y x := by cases b <;> rfl
theorem ctrue {α : Type} {b : Bool} {x y : α} (h : b = true) : cond b x y = x := by subst h; rfl
theorem cfalse {α : Type} {b : Bool} {x y : α} (h : b = false) : cond b x y = y := by subst h; rfl
theorem Let_eq {α β : Type} (v : α) (f : α → β) : Let v f = f v := rfl
theorem bind_some' {α β : Type} (x : α) (f : α → Option β) : (some x).bind f = f x := rfl
theorem loopO_for {σ ρ : Type} {f : σ → Option (σ ⊕ ρ)} (S : Nat → σ) (n : Nat) {r : ρ} (h : ∀ i, i < n → f (S i) = some (.inl (S (i + 1)))) (he : f (S n) = some (.inr r)) : loopO f (S 0) = some r := by
  have key : ∀ k, k ≤ n → loopO f (S (n - k)) = some r := by
    intro k
    induction k with
    | zero => intro _; rw [loopO_eq, Nat.sub_zero, he]; rfl
    | succ k ih =>
      intro hk
      rw [loopO_eq, h (n - (k + 1)) (by omega), show n - (k + 1) + 1 = n - k by omega]
      exact ih (by omega)
  have := key n (Nat.le_refl _)
  rwa [Nat.sub_self] at this
theorem loopO_inv {σ ρ : Type} {f : σ → Option (σ ⊕ ρ)} {r : ρ} (I : Nat → σ → Prop) (h : ∀ n s, I n s → (∃ s' m, f s = some (.inl s') ∧ m < n ∧ I m s') ∨ f s = some (.inr r)) : ∀ (n : Nat) (s : σ), I n s → loopO f s = some r := by
  intro n
  induction n using Nat.strongRecOn with
  | _ n ih =>
    intro s hs
    rw [loopO_eq]
    rcases h n s hs with ⟨s', m, e, hm, hi⟩ | e
    · rw [e]; exact ih m hm s' hi
    · rw [e]; rfl
theorem ixL_nat {α : Type} [Inhabited α] {l : List α} {i : Nat} (h : i < l.length) : ixL l (i : Int) = l[i] := by
  rw [ixL_eq (by simpa using h)]; simp
end Go.Vc
