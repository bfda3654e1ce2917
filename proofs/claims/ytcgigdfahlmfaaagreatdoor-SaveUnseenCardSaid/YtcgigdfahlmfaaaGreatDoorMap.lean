/-
  Maps whose keys are whole numbers, known whole.
-/
import Derived.Test.YtcgigdfahlmfaaaGreatDoorLib
namespace Go.Vc
open Go
set_option linter.unusedVariables false
def ents (es : List MapEntry) : List (Value × Value) := es.map fun e => (e.key, e.val)
def keyed (k : IntKind) (m : List (Int × Value)) : List (Value × Value) := m.map fun x => (.int k x.1, x.2)
def Mp (w : World) (r : Nat) (k : IntKind) (m : List (Int × Value)) : Prop := ∃ es clk, w.heap[r]? = some (.map es clk) ∧ ents es.toList = keyed k m
def mfind : List (Int × Value) → Int → Nat → Option (Nat × Value)
  | [], _, _ => none
  | (a, v) :: m, n, i => if n = a then some (i, v) else mfind m n (i + 1)
def mget : List (Int × Value) → Int → Option Value
  | [], _ => none
  | (a, v) :: m, n => if n = a then some v else mget m n
def mput : List (Int × Value) → Int → Value → List (Int × Value)
  | [], n, x => [(n, x)]
  | (a, v) :: m, n, x => if n = a then (a, x) :: m else (a, v) :: mput m n x
theorem mfind_get : ∀ (m : List (Int × Value)) (n : Int) (i : Nat), (mfind m n i).map (·.2) = mget m n
  | [], _, _ => rfl
  | (a, v) :: m, n, i => by
    unfold mfind mget
    by_cases h : n = a
    · simp [h]
    · simp [h, mfind_get m n (i + 1)]
theorem findNow_int {kd k : IntKind} {n : Int} : ∀ (es : List MapEntry) (m : List (Int × Value)) (i : Nat), ents es = keyed k m → Instr.findNow (.int kd) (.int k n) es i = some (mfind m n i)
  | [], [], _, _ => rfl
  | [], _ :: _, _, h => by simp [ents, keyed] at h
  | _ :: _, [], _, h => by simp [ents, keyed] at h
  | e :: es, (a, v) :: m, i, h => by
    simp only [ents, keyed, List.map_cons, List.cons.injEq, Prod.mk.injEq] at h
    obtain ⟨⟨h1, h2⟩, h3⟩ := h
    have ih := findNow_int (kd := kd) (k := k) (n := n) es m (i + 1) h3
    unfold Instr.findNow mfind
    by_cases hn : n = a
    · subst hn
      simp [h1, h2, Instr.sameNow]
    · have hb : (n == a) = false := by simp [hn]
      simp only [h1, h2, Instr.sameNow, if_true, hb, ih, if_neg hn]
theorem checkKey_int {P : Program} {kt : TypeId} {kd k : IntKind} {n : Int} {e : Bool} (hk : P.underlying kt = some (.int kd)) (w : World) : (Instr.checkKey e 10000 kt (.int k n)).run P w = .ok () w := by
  have : Instr.checkKey e (9999 + 1) kt (.int k n) = Instr.checkKey e 10000 kt (.int k n) := rfl
  rw [← this]
  unfold Instr.checkKey
  simp [run_underlying hk]
theorem findKey_int {P : Program} {kt : TypeId} {kd k : IntKind} {n : Int} {es : List MapEntry} {m : List (Int × Value)} (hk : P.underlying kt = some (.int kd)) (h : ents es = keyed k m) (w : World) :
    (Instr.findKey kt (.int k n) es).run P w = .ok (mfind m n 0) w := by
  simp [Instr.findKey, run_underlying hk, findNow_int es m 0 h]
theorem getObj_map {P : Program} {w : World} {r : Nat} {es : Array MapEntry} {clk : Nat} (h : w.heap[r]? = some (.map es clk)) : (getObj r).run P w = .ok (.map es clk) w := by
  simp [getObj, Sem.run, h]
theorem get_run {P : Program} {t kt et : TypeId} {kd k : IntKind} {n : Int} {w : World} {r : Nat} {m : List (Int × Value)} {z : Value} (ht : P.underlying t = some (.map kt et)) (hk : P.underlying kt = some (.int kd))
    (hz : ∀ w, (zeroValue et).run P w = .ok z w) (h : Mp w r k m) : (Instr.lookup t (.map (some r)) (.int k n) false).run P w = .ok ((mget m n).getD z) w := by
  obtain ⟨es, clk, h1, h2⟩ := h
  rw [← mfind_get m n 0]
  unfold Instr.lookup
  cases hf : mfind m n 0 with
  | none => simp [run_underlying ht, getObj_map h1, checkKey_int hk, findKey_int hk h2, hf, hz]
  | some x => simp [run_underlying ht, getObj_map h1, checkKey_int hk, findKey_int hk h2, hf]
theorem mk_run {P : Program} {t : TypeId} (k : IntKind) (w : World) : (Instr.makeMap t none).run P w = .ok (.map (some w.heap.size)) (w.alloc (.map #[] 0)) ∧ Mp (w.alloc (.map #[] 0)) w.heap.size k [] ∧ Chg (fun _ => False) w (w.alloc (.map #[] 0)) ∧ (w.alloc (.map #[] 0)).heap.size = w.heap.size + 1 := by
  refine ⟨?_, ⟨#[], 0, ?_, rfl⟩, Chg.alloc _ _ _, by simp⟩
  · simp [Instr.makeMap, newObj, Sem.run]
  · show (w.heap.push _)[w.heap.size]? = _
    simp
theorem sameBits_int (k : IntKind) (n : Int) : Instr.sameBits 10000 (.int k n) (.int k n) = true := by
  have : Instr.sameBits (9999 + 1) (.int k n) (.int k n) = true := by unfold Instr.sameBits; simp
  exact this
theorem mfind_put : ∀ (es : List MapEntry) (m : List (Int × Value)) (k : IntKind) (n : Int) (x : Value) (i j : Nat) (v : Value), ents es = keyed k m → mfind m n i = some (j, v) →
    i ≤ j ∧ ((es[j - i]?).map (·.key)) = some (.int k n) ∧ ents (es.modify (j - i) fun e => { e with key := .int k n, val := x }) = keyed k (mput m n x)
  | [], [], _, _, _, _, _, _, _, h => by simp [mfind] at h
  | [], _ :: _, _, _, _, _, _, _, h, _ => by simp [ents, keyed] at h
  | _ :: _, [], _, _, _, _, _, _, h, _ => by simp [ents, keyed] at h
  | e :: es, (a, u) :: m, k, n, x, i, j, v, h, hf => by
    simp only [ents, keyed, List.map_cons, List.cons.injEq, Prod.mk.injEq] at h
    obtain ⟨⟨h1, h2⟩, h3⟩ := h
    unfold mfind at hf
    by_cases hn : n = a
    · subst hn
      simp only [if_pos, Option.some.injEq, Prod.mk.injEq] at hf
      obtain ⟨rfl, rfl⟩ := hf
      refine ⟨Nat.le_refl _, by simp [h1], ?_⟩
      simp [ents, keyed, mput]
      simpa [ents, keyed] using h3
    · rw [if_neg hn] at hf
      obtain ⟨h4, h5, h6⟩ := mfind_put es m k n x (i + 1) j v h3 hf
      have e1 : j - i = (j - (i + 1)) + 1 := by omega
      refine ⟨by omega, by rw [e1]; simpa using h5, ?_⟩
      rw [e1]
      simp only [List.modify_succ_cons, mput, if_neg hn]
      simp only [ents, keyed, List.map_cons, h1, h2, List.cons.injEq, true_and]
      exact h6
theorem mfind_push : ∀ (m : List (Int × Value)) (n : Int) (x : Value) (i : Nat), mfind m n i = none → mput m n x = m ++ [(n, x)]
  | [], _, _, _, _ => rfl
  | (a, v) :: m, n, x, i, h => by
    unfold mfind at h
    by_cases hn : n = a
    · simp [hn] at h
    · rw [if_neg hn] at h
      simp [mput, hn, mfind_push m n x (i + 1) h]
theorem setObj_map {P : Program} {w : World} {r : Nat} {es : Array MapEntry} {clk : Nat} {o : Obj} (h : w.heap[r]? = some (.map es clk)) : (setObj r o).run P w = .ok () { w with heap := w.heap.setIfInBounds r o } := by
  simp [setObj, Sem.run, h]
theorem upd_run {P : Program} {t kt et : TypeId} {kd k : IntKind} {n : Int} {x : Value} {w : World} {r : Nat} {m : List (Int × Value)} (ht : P.underlying t = some (.map kt et)) (hk : P.underlying kt = some (.int kd)) (h : Mp w r k m) :
    ∃ w', (updS t (.map (some r)) (.int k n) x).run P w = .ok undef w' ∧ Mp w' r k (mput m n x) ∧ Chg (· = r) w w' ∧ w'.heap.size = w.heap.size := by
  obtain ⟨es, clk, h1, h2⟩ := h
  have hr : r < w.heap.size := by
    rcases Nat.lt_or_ge r w.heap.size with h' | h'
    · exact h'
    · simp [Array.getElem?_eq_none h'] at h1
  have hchg : ∀ o, Chg (· = r) w { w with heap := w.heap.setIfInBounds r o } := fun o =>
    ⟨rfl, rfl, rfl, by simp, fun j _ hn => by simp [Array.getElem?_setIfInBounds, Ne.symm hn]⟩
  cases hf : mfind m n 0 with
  | none =>
    refine ⟨{ w with heap := w.heap.setIfInBounds r (.map (es.push { key := .int k n, val := x, born := clk }) (clk + 1)) }, ?_, ⟨es.push { key := .int k n, val := x, born := clk }, clk + 1, ?_, ?_⟩, hchg _, by simp⟩
    · simp [updS, Instr.mapUpdate, run_underlying ht, getObj_map h1, checkKey_int hk, findKey_int hk h2, hf, setObj_map h1]
    · simp [Array.getElem?_setIfInBounds, hr]
    · rw [mfind_push m n x 0 hf]
      simp [ents, keyed]
      simpa [ents, keyed] using h2
  | some jv =>
    obtain ⟨j, v⟩ := jv
    obtain ⟨h3, h4, h5⟩ := mfind_put es.toList m k n x 0 j v h2 hf
    simp only [Nat.sub_zero, Array.getElem?_toList] at h4 h5
    refine ⟨{ w with heap := w.heap.setIfInBounds r (.map (es.modify j fun e => { e with key := .int k n, val := x }) clk) }, ?_, ⟨es.modify j fun e => { e with key := .int k n, val := x }, clk, ?_, ?_⟩, hchg _, by simp⟩
    · simp [updS, Instr.mapUpdate, run_underlying ht, getObj_map h1, checkKey_int hk, findKey_int hk h2, hf, setObj_map h1, h4, Instr.keyThatStays, sameBits_int]
    · simp [Array.getElem?_setIfInBounds, hr]
    · simpa using h5
theorem upd_ex {P : Program} {t kt et : TypeId} {kd k : IntKind} {n : Int} {x : Value} {w : World} {r : Nat} {m : List (Int × Value)} {K : Value → World → Prop} (ht : P.underlying t = some (.map kt et)) (hk : P.underlying kt = some (.int kd)) (h : Mp w r k m)
    (c : ∀ w', Mp w' r k (mput m n x) → Chg (· = r) w w' → K undef w') : ∃ v, ∃ w', (updS t (.map (some r)) (.int k n) x).run P w = .ok v w' ∧ K v w' := by
  obtain ⟨w', h1, h2, h3, _⟩ := upd_run (n := n) (x := x) ht hk h
  exact ⟨_, w', h1, c w' h2 h3⟩
theorem mk_ex {P : Program} {t : TypeId} (k : IntKind) {w : World} {K : Option Nat → World → Prop} (c : ∀ w', Mp w' w.heap.size k [] → Chg (fun _ => False) w w' → w'.heap.size = w.heap.size + 1 → K (some w.heap.size) w') :
    ∃ v, ∃ w', (Instr.makeMap t none).run P w = .ok (.map v) w' ∧ K v w' :=
  ⟨_, _, (mk_run k w).1, c _ (mk_run (P := P) (t := t) k w).2.1 (mk_run (P := P) (t := t) k w).2.2.1 (mk_run (P := P) (t := t) k w).2.2.2⟩
theorem Mp.keep {w w' : World} {r : Nat} {k : IntKind} {m : List (Int × Value)} {B : Nat → Prop} (h : Mp w r k m) (hc : Chg B w w') (hb : ¬ B r) : Mp w' r k m := by
  obtain ⟨es, clk, h1, h2⟩ := h
  have hr : r < w.heap.size := by
    rcases Nat.lt_or_ge r w.heap.size with h' | h'
    · exact h'
    · simp [Array.getElem?_eq_none h'] at h1
  exact ⟨es, clk, (hc.block r hr hb).trans h1, h2⟩
end Go.Vc
