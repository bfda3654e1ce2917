/-
  Slices that may only be read: a law's arguments.
-/
import Derived.Test.YtigpcfocaipicaaArr
import Derived.Test.YtigpcfocaipicaaRead
namespace Go.Vc
open Go
set_option linter.unusedVariables false

structure RoAt {α : Type} (E : El α) (w : World) (p : Option Addr) (c : Nat) (xs : List α) : Prop where
  reads : Reads E w p xs
  cap : xs.length ≤ c
theorem RoAt.at {α : Type} {E : El α} {w0 w : World} {p : Option Addr} {c : Nat} {xs : List α} {B : Nat → Prop} (h : RoAt E w0 p c xs) (hc : Chg B w0 w) (hB : ∀ a, p = some a → ¬ B a.block) : Reads E w p xs := by
  cases p with
  | none => exact h.reads
  | some a => exact fun j v hv => hc.cell (h.reads j v hv) (by rw [show (a.add j).block = a.block by unfold Addr.add; split <;> rfl]; exact hB a rfl)
theorem not_foot_nil {p : Option Addr} : ∀ a, p = some a → ¬ Foot [] a.block := fun _ _ h => h

theorem ro_of {α : Type} {E : El α} {P : Program} {w : World} {e : TypeId} {p : Option Addr} {n c : Nat} (h : Rds P w e p n c) (hz : P.cellsOf e = E.z) (G : α → Prop)
    (hg : ∀ cs m, Rd P w m e cs → ∃ x, cs = E.enc x ∧ G x) : ∃ xs : List α, n = xs.length ∧ RoAt E w p c xs ∧ ∀ x ∈ xs, G x := by
  rcases h with ⟨rfl, rfl, rfl⟩ | ⟨a, m, rfl, hn, hc, he⟩
  · exact ⟨[], rfl, ⟨rfl, Nat.le_refl _⟩, fun x hx => by cases hx⟩
  · have key : ∀ k, k ≤ n → ∃ xs : List α, xs.length = k ∧ (∀ j v, (E.row xs)[j]? = some v → w.cell? (a.add j) = some v) ∧ ∀ x ∈ xs, G x := by
      intro k
      induction k with
      | zero => exact fun _ => ⟨[], rfl, fun j v hv => by simp [El.row] at hv, fun x hx => by cases hx⟩
      | succ k ih =>
        intro hk
        obtain ⟨xs, hl, hx, hG⟩ := ih (by omega)
        obtain ⟨cs, h1, h2, h3⟩ := he k (by omega)
        obtain ⟨x, rfl, gx⟩ := hg cs m h3
        refine ⟨xs ++ [x], by simp [hl], fun j v hv => ?_, fun y hy => ?_⟩
        · rw [E.row_append] at hv
          have hlen : (E.row xs).length = k * E.z := by rw [E.row_length, hl]
          by_cases hj : j < (E.row xs).length
          · rw [List.getElem?_append_left hj] at hv; exact hx j v hv
          · rw [List.getElem?_append_right (by omega)] at hv
            have hv' : (E.enc x)[j - (E.row xs).length]? = some v := by
              have e : E.row [x] = E.enc x := by simp [El.row]
              rw [e] at hv; exact hv
            have hj2 : j - (E.row xs).length < E.z := by have := (List.getElem?_eq_some_iff.1 hv').1; rw [E.len] at this; exact this
            have := h2 (j - (E.row xs).length) (by rw [hz]; exact hj2)
            rw [hz, add_add, hv', show k * E.z + (j - (E.row xs).length) = j by omega] at this
            exact this
        · rcases List.mem_append.1 hy with h | h
          · exact hG y h
          · simp at h; subst h; exact gx
    obtain ⟨xs, hl, hx, hG⟩ := key n (Nat.le_refl _)
    exact ⟨xs, hl.symm, ⟨hx, by omega⟩, hG⟩
theorem ro_int {P : Program} {w : World} {e : TypeId} {k : IntKind} {p : Option Addr} {n c : Nat} (h : Rds P w e p n c) (hu : P.underlying e = some (.int k)) (hz : P.cellsOf e = 1) :
    ∃ xs : List Int, n = xs.length ∧ RoAt (elI k) w p c xs ∧ ∀ x ∈ xs, (Lit.int k x).wf = true :=
  ro_of h hz _ fun cs m hc => by obtain ⟨x, rfl, hx⟩ := Rd.int hu hc; exact ⟨x, rfl, hx⟩
theorem ro_str {P : Program} {w : World} {e : TypeId} {p : Option Addr} {n c : Nat} (h : Rds P w e p n c) (hu : P.underlying e = some .string) (hz : P.cellsOf e = 1) :
    ∃ xs : List ByteArray, n = xs.length ∧ RoAt elS w p c xs ∧ ∀ x ∈ xs, x.size ≤ maxLen :=
  ro_of h hz _ fun cs m hc => by obtain ⟨x, rfl, hx⟩ := Rd.str hu hc; exact ⟨x, rfl, hx⟩
theorem one_at {cs : List Value} {o z : Nat} {v : Value} (hz : z = 1) (h : (cs.drop o).take z = [v]) : cs[o]? = some v := by
  subst hz
  have : ((cs.drop o).take 1)[0]? = some v := by rw [h]; rfl
  simpa using this
theorem list1 {cs : List Value} {a : Value} (h : cs.length = 1) (h0 : cs[0]? = some a) : cs = [a] := by
  match cs, h with
  | [x], _ => simp at h0; rw [h0]
theorem list2 {cs : List Value} {a b : Value} (h : cs.length = 2) (h0 : cs[0]? = some a) (h1 : cs[1]? = some b) : cs = [a, b] := by
  match cs, h with
  | [x, y], _ => simp at h0 h1; rw [h0, h1]
theorem list3 {cs : List Value} {a b c : Value} (h : cs.length = 3) (h0 : cs[0]? = some a) (h1 : cs[1]? = some b) (h2 : cs[2]? = some c) : cs = [a, b, c] := by
  match cs, h with
  | [x, y, z], _ => simp at h0 h1 h2; rw [h0, h1, h2]
theorem list4 {cs : List Value} {a b c d : Value} (h : cs.length = 4) (h0 : cs[0]? = some a) (h1 : cs[1]? = some b) (h2 : cs[2]? = some c) (h3 : cs[3]? = some d) : cs = [a, b, c, d] := by
  match cs, h with
  | [x, y, z, w], _ => simp at h0 h1 h2 h3; rw [h0, h1, h2, h3]
theorem Now.quiet {w0 w : World} {L : List Asn} (h : Now (Foot []) w0 w L) : Chg (fun _ => False) w0 w := h.chg.mono fun _ _ h => h
end Go.Vc
