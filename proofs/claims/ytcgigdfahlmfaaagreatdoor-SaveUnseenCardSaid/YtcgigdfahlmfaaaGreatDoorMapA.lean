/-
  Maps that are owned: whole numbers to bools.
-/
import Derived.Test.YtcgigdfahlmfaaaGreatDoorArr
import Derived.Test.YtcgigdfahlmfaaaGreatDoorMap
namespace Go.Vc
open Go
set_option linter.unusedVariables false
theorem get_lt {w : World} {r : Nat} {o : Obj} (h : w.heap[r]? = some o) : r < w.heap.size := by
  rcases Nat.lt_or_ge r w.heap.size with h' | h'
  · exact h'
  · simp [Array.getElem?_eq_none h'] at h
def entB (xs : List (Int × Bool)) : List (Int × Value) := xs.map fun x => (x.1, Value.bool x.2)
def mapB (k : IntKind) (p : Option Nat) (xs : List (Int × Bool)) : Asn where
  holds w := match p with | none => False | some r => Mp w r k (entB xs)
  foot j := match p with | none => False | some r => j = r
  keep := by
    intro w w' hk h
    cases p with
    | none => exact h
    | some r => obtain ⟨es, clk, h1, h2⟩ := h; exact ⟨es, clk, (hk r rfl).trans h1, h2⟩
  lt := by
    intro w h j hj
    cases p with
    | none => exact h.elim
    | some r => subst hj; obtain ⟨es, clk, h1, _⟩ := h; exact get_lt h1
def getB : List (Int × Bool) → Int → Bool
  | [], _ => false
  | (a, b) :: m, n => if n = a then b else getB m n
def putB : List (Int × Bool) → Int → Bool → List (Int × Bool)
  | [], n, x => [(n, x)]
  | (a, v) :: m, n, x => if n = a then (a, x) :: m else (a, v) :: putB m n x
theorem mget_B (xs : List (Int × Bool)) (n : Int) : (mget (entB xs) n).getD (.bool false) = .bool (getB xs n) := by
  induction xs with
  | nil => rfl
  | cons x xs ih =>
    obtain ⟨a, b⟩ := x
    show (mget ((a, Value.bool b) :: entB xs) n).getD _ = _
    unfold mget getB
    split
    · rfl
    · exact ih
theorem mput_B (xs : List (Int × Bool)) (n : Int) (x : Bool) : mput (entB xs) n (.bool x) = entB (putB xs n x) := by
  induction xs with
  | nil => rfl
  | cons y xs ih =>
    obtain ⟨a, b⟩ := y
    show mput ((a, Value.bool b) :: entB xs) n _ = _
    unfold mput putB
    split
    · rfl
    · show (a, Value.bool b) :: mput (entB xs) n (.bool x) = (a, Value.bool b) :: entB (putB xs n x)
      rw [ih]
theorem lookB {P : Program} {t kt et : TypeId} {kd k : IntKind} {n : Int} {w : World} {p : Option Nat} {xs : List (Int × Bool)} (ht : P.underlying t = some (.map kt et)) (hk : P.underlying kt = some (.int kd))
    (hz : ∀ w, (zeroValue et).run P w = .ok (.bool false) w) (h : (mapB k p xs).holds w) : (Instr.lookup t (.map p) (.int k n) false).run P w = .ok (.bool (getB xs n)) w := by
  cases p with
  | none => exact h.elim
  | some r =>
    have := get_run (n := n) ht hk hz (h : Mp w r k (entB xs))
    rw [mget_B] at this
    exact this
theorem Now.putB {P : Program} {t kt et : TypeId} {kd k : IntKind} {n : Int} {x : Bool} {B : Nat → Prop} {w0 w : World} {p : Option Nat} {xs : List (Int × Bool)} {L : List Asn} {K : Value → World → Prop} (ht : P.underlying t = some (.map kt et)) (hk : P.underlying kt = some (.int kd))
    (h : Now B w0 w (mapB k p xs :: L)) (c : ∀ w', Now B w0 w' (mapB k p (Vc.putB xs n x) :: L) → K undef w') : ∃ v, ∃ w', (updS t (.map p) (.int k n) (.bool x)).run P w = .ok v w' ∧ K v w' := by
  cases p with
  | none => exact h.hp.1.elim
  | some r =>
    refine upd_ex ht hk (h.hp.1 : Mp w r k (entB xs)) fun w' h1 h2 => c w' ?_
    rw [mput_B] at h1
    exact h.upd h1 (h2.mono fun _ _ h => h) fun _ hf => .inl hf
theorem Now.mkB {P : Program} {t : TypeId} (k : IntKind) {B : Nat → Prop} {w0 w : World} {L : List Asn} {K : Option Nat → World → Prop} (h : Now B w0 w L) (c : ∀ p w', Now B w0 w' (mapB k p [] :: L) → K p w') :
    ∃ v, ∃ w', (Instr.makeMap t none).run P w = .ok (.map v) w' ∧ K v w' :=
  mk_ex k fun w' h1 h2 h3 => c _ w' (h.add (show (mapB k (some w.heap.size) []).holds w' from h1) h2 fun j hj => Nat.le_of_eq hj.symm)
end Go.Vc
