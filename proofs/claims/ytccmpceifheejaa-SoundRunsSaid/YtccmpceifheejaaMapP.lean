/-
  Maps that are owned: whole numbers to known values, the keys known.
-/
import Derived.Test.YtccmpceifheejaaArr
import Derived.Test.YtccmpceifheejaaMap
namespace Go.Vc
open Go
set_option linter.unusedVariables false
theorem get_ltP {w : World} {r : Nat} {o : Obj} (h : w.heap[r]? = some o) : r < w.heap.size := by
  rcases Nat.lt_or_ge r w.heap.size with h' | h'
  · exact h'
  · simp [Array.getElem?_eq_none h'] at h
def mapP (k : IntKind) (p : Option Nat) (xs : List (Int × Value)) : Asn where
  holds w := match p with | none => False | some r => Mp w r k xs
  foot j := match p with | none => False | some r => j = r
  keep := by
    intro w w' hk h
    cases p with
    | none => exact h
    | some r => obtain ⟨es, clk, h1, h2⟩ := h; exact ⟨es, clk, (hk r rfl).trans h1, h2⟩
  lt := by
    intro w h j hj
    cases p with
    | none => exact h.elim
    | some r => subst hj; obtain ⟨es, clk, h1, _⟩ := h; exact get_ltP h1
theorem mget_t {a n : Int} {v : Value} {m : List (Int × Value)} (c : (n == a) = true) : mget ((a, v) :: m) n = some v := by
  unfold mget
  rw [if_pos (by simpa using c)]
theorem mget_f {a n : Int} {v : Value} {m : List (Int × Value)} {r : Option Value} (c : (n == a) = false) (h : mget m n = r) : mget ((a, v) :: m) n = r := by
  unfold mget
  rw [if_neg (by simpa using c)]
  exact h
theorem mget_o {a b n : Int} {v : Value} {m : List (Int × Value)} {r : Option Value} (c : (n == a) = true) (hne : (a == b) = false) (h : mget m n = r) : mget ((b, v) :: m) n = r := by
  obtain rfl : n = a := by simpa using c
  exact mget_f hne h
theorem lookP {P : Program} {t kt et : TypeId} {kd k : IntKind} {n : Int} {w : World} {p : Option Nat} {xs : List (Int × Value)} {v : Value} (ht : P.underlying t = some (.map kt et)) (hk : P.underlying kt = some (.int kd))
    (h : (mapP k p xs).holds w) (hm : mget xs n = some v) : (Instr.lookup t (.map p) (.int k n) false).run P w = .ok v w := by
  cases p with
  | none => exact h.elim
  | some r => exact get_some ht hk (h : Mp w r k xs) hm
theorem Now.putP {P : Program} {t kt et : TypeId} {kd k : IntKind} {n : Int} {x : Value} {B : Nat → Prop} {w0 w : World} {p : Option Nat} {xs ys : List (Int × Value)} {L : List Asn} {K : Value → World → Prop} (ht : P.underlying t = some (.map kt et)) (hk : P.underlying kt = some (.int kd))
    (h : Now B w0 w (mapP k p xs :: L)) (e : mput xs n x = ys) (c : ∀ w', Now B w0 w' (mapP k p ys :: L) → K undef w') : ∃ v, ∃ w', (updS t (.map p) (.int k n) x).run P w = .ok v w' ∧ K v w' := by
  cases p with
  | none => exact h.hp.1.elim
  | some r =>
    refine upd_ex ht hk (h.hp.1 : Mp w r k xs) fun w' h1 h2 => c w' ?_
    rw [e] at h1
    exact h.upd h1 (h2.mono fun _ _ h => h) fun _ hf => .inl hf
theorem Now.mkP {P : Program} {t : TypeId} (k : IntKind) {B : Nat → Prop} {w0 w : World} {L : List Asn} {K : Option Nat → World → Prop} (h : Now B w0 w L) (c : ∀ p w', Now B w0 w' (mapP k p [] :: L) → K p w') :
    ∃ v, ∃ w', (Instr.makeMap t none).run P w = .ok (.map v) w' ∧ K v w' :=
  mk_ex k fun w' h1 h2 h3 => c _ w' (h.add (show (mapP k (some w.heap.size) []).holds w' from h1) h2 fun j hj => Nat.le_of_eq hj.symm)
end Go.Vc
