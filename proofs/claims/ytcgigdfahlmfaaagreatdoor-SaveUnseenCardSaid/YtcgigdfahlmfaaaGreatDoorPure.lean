/-
  Plain laws for what the walk prints: conditions, loops, bytes.
-/
import Derived.Test.YtcgigdfahlmfaaaGreatDoorArr
import Derived.Test.YtcgigdfahlmfaaaGreatDoorBits
namespace Go.Vc
open Go
set_option linter.unusedVariables false
theorem ctrueT {α : Type} {b : Bool} {x y : α} (h : b = true) : cond b x y = x := by subst h; rfl
theorem ctrueF {α : Type} {b : Bool} {x y : α} (h : b = false) : cond b x y = y := by subst h; rfl
theorem cpos {α : Type} {p : Prop} [Decidable p] {x y : α} (h : p) : cond (decide p) x y = x := by rw [decide_eq_true h]; rfl
theorem cneg {α : Type} {p : Prop} [Decidable p] {x y : α} (h : ¬ p) : cond (decide p) x y = y := by rw [decide_eq_false h]; rfl
theorem cand {α : Type} {p q : Prop} [Decidable p] [Decidable q] {x y : α} (h : p) (h' : q) : cond (decide p && decide q) x y = x := by rw [decide_eq_true h, decide_eq_true h']; rfl
theorem cand3 {α : Type} {p q r : Prop} [Decidable p] [Decidable q] [Decidable r] {x y : α} (h : p) (h' : q) (h'' : r) : cond (decide p && decide q && decide r) x y = x := by rw [decide_eq_true h, decide_eq_true h', decide_eq_true h'']; rfl
theorem ceq {α : Type} {a b : Int} {x y : α} (h : a = b) : cond (a == b) x y = x := by subst h; simp
theorem cne {α : Type} {a b : Int} {x y : α} (h : a ≠ b) : cond (a == b) x y = y := ctrueF (beq_eq_false_iff_ne.2 h)
theorem cbne {α : Type} {a b : Int} {x y : α} (h : a ≠ b) : cond (a != b) x y = x := ctrueT (bne_iff_ne.2 h)
theorem cbeq {α : Type} {a b : Int} {x y : α} (h : a = b) : cond (a != b) x y = y := ctrueF (by simpa using h)
theorem cnot {α : Type} {b : Bool} {x y : α} : cond (!b) x y = cond b y x := by cases b <;> rfl
theorem ctrue {α : Type} {b : Bool} {x y : α} (h : b = true) : cond b x y = x := by subst h; rfl
theorem cfalse {α : Type} {b : Bool} {x y : α} (h : b = false) : cond b x y = y := by subst h; rfl
theorem cfits {α : Type} {a b : ByteArray} {x y : α} (h : a.size + b.size ≤ 9223372036854775807) : cond (fitsS a b) x y = x := ctrue (fitsS_of h)
theorem Let_eq {α β : Type} (v : α) (f : α → β) : Let v f = f v := rfl
theorem bind_some' {α β : Type} (x : α) (f : α → Option β) : (some x).bind f = f x := rfl
theorem loopO_for {σ ρ : Type} {f : σ → Option (σ ⊕ ρ)} (S : Nat → σ) (n : Nat) {r : ρ} (h : ∀ i, i < n → f (S i) = some (.inl (S (i + 1)))) (he : f (S n) = some (.inr r)) : loopO f (S 0) = some r := by
  have key : ∀ k, k ≤ n → loopO f (S (n - k)) = some r := by
    intro k
    induction k with
    | zero => intro _; rw [loopO_eq, Nat.sub_zero, he]; rfl
    | succ k ih =>
      intro hk
      rw [loopO_eq, h (n - (k + 1)) (by omega), show n - (k + 1) + 1 = n - k by omega]
      exact ih (by omega)
  have := key n (Nat.le_refl _)
  rwa [Nat.sub_self] at this
theorem loopO_inv {σ ρ : Type} {f : σ → Option (σ ⊕ ρ)} {r : ρ} (I : Nat → σ → Prop) (h : ∀ n s, I n s → (∃ s' m, f s = some (.inl s') ∧ m < n ∧ I m s') ∨ f s = some (.inr r)) : ∀ (n : Nat) (s : σ), I n s → loopO f s = some r := by
  intro n
  induction n using Nat.strongRecOn with
  | _ n ih =>
    intro s hs
    rw [loopO_eq]
    rcases h n s hs with ⟨s', m, e, hm, hi⟩ | e
    · rw [e]; exact ih m hm s' hi
    · rw [e]; rfl
theorem bytesOf_bs (l : List UInt8) : bytesOf (bs l) = l.map fun b => (b.toNat : Int) := by unfold bytesOf; rw [bs_data]
theorem ofNat_toNat8 (b : UInt8) : UInt8.ofNat ((b.toNat : Int)).toNat = b := by simp
theorem strOf_map (l : List UInt8) : strOf (l.map fun b => (b.toNat : Int)) = bs l := by
  unfold strOf; rw [List.map_map]; congr 1
  exact (List.map_congr_left fun b _ => ofNat_toNat8 b).trans (List.map_id' l)
theorem bytesIn_map (l : List UInt8) : bytesIn (l.map fun b => (b.toNat : Int)) = true := by
  unfold bytesIn; rw [List.all_eq_true]; intro x hx
  obtain ⟨b, _, rfl⟩ := List.mem_map.1 hx
  have := b.toNat_lt
  simp only [Bool.and_eq_true, decide_eq_true_eq]; omega
theorem cbytes {α : Type} {l : List UInt8} {x y : α} : cond (bytesIn (l.map fun b => (b.toNat : Int))) x y = x := ctrue (bytesIn_map l)
theorem beq_bs (a b : List UInt8) : ((bs a).toList == (bs b).toList) = decide (a = b) := by
  rw [bs_toList, bs_toList]
  by_cases h : a = b <;> simp [h]
theorem sbyte_get {l : List UInt8} {i : Int} (h0 : 0 ≤ i) (h : i < l.length) : sbyte (bs l) i = ((l[i.toNat]'(by omega)).toNat : Int) := by
  rw [sbyte_bs]; simp [List.getD_eq_getElem?_getD, List.getElem?_eq_getElem (show i.toNat < l.length by omega)]
theorem ixL_nat {α : Type} [Inhabited α] {l : List α} {i : Nat} (h : i < l.length) : ixL l (i : Int) = l[i] := by
  rw [ixL_eq (by simpa using h)]; simp
end Go.Vc
