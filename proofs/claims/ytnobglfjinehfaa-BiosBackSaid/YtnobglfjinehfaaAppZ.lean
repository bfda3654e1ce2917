/-
  append of so many zeros.
-/
import Derived.Test.YtnobglfjinehfaaRo
import Derived.ArgAppend
namespace Go.Vc
open Go
set_option linter.unusedVariables false
set_option linter.unusedSimpArgs false
theorem zeroCells_one (v : Value) (n : Nat) : Builtin.zeroCells #[v] n = (List.replicate n v).toArray := by
  apply Array.ext
  · simp [Builtin.zeroCells]
  · intro i h1 h2
    simp [Builtin.zeroCells, Nat.mod_one]
theorem arr_appendZ {P : Program} {α : Type} {E : El α} {t tn ty e : TypeId} {N : Nat} (he : ElemN P t e E.z N) {kn : IntKind} (htn : P.underlying tn = some (.int kn)) {w : World} {p : Option Addr} {c : Nat} {xs : List α} (h : (arr E p c xs).holds w) {z : α} {v : Value} (hv : E.enc z = [v]) (hz : ∀ i zv, P.info? e = some i → i.zero = some zv → zv.cells = #[v]) {n : Nat} (hn0 : 0 < n) (hb : (xs ++ List.replicate n z).length ≤ N) :
    ∃ p' c' w', (Builtin.append_ #[t, tn] ty #[.slice p xs.length c, .int .i64 (n : Int)]).run P w = .ok (.slice p' (xs ++ List.replicate n z).length c') w' ∧ (arr E p' c' (xs ++ List.replicate n z)).holds w' ∧ Chg (arr E p c xs).foot w w' ∧
      ∀ k, (arr E p' c' (xs ++ List.replicate n z)).foot k → (arr E p c xs).foot k ∨ w.heap.size ≤ k := by
  obtain ⟨hu, i, zv, hi, hzz, hs, hzs, hby, hN⟩ := he
  have hcell := hz i zv hi hzz
  have hz1 : E.z = 1 := by rw [← E.len z, hv]; rfl
  have hlen : (xs ++ List.replicate n z).length = xs.length + n := by simp
  have hrow : E.row (List.replicate n z) = List.replicate n v := row_replicate E z v hv n
  have h63 : xs.length + n ≤ maxLen := by rw [← hlen]; unfold maxLen; omega
  have hw : IntKind.i64.wrap (n : Int) = n := wrap_i64 (by omega) (by unfold maxLen at h63; omega)
  have hneg : ¬ ((n : Int) < 0) := by omega
  have hns : ¬ (n * i.size = 0) := Nat.mul_ne_zero (by omega) (by rw [hs, hz1]; decide)
  have hone : ∀ u ∈ List.replicate n v, u.oneCell' = true := fun u hu => E.row_one (List.replicate n z) u (by rw [hrow]; exact hu)
  have h48n : n * i.bytes ≤ 281474976710656 := Nat.le_trans (Nat.mul_le_mul_right _ (by omega)) hby
  have h48i : ¬ (281474976710656 < (n : Int) * (i.bytes : Int)) := by
    rw [← Int.natCast_mul]; omega
  have hxl := E.row_length xs
  have key : ∀ (b : Option Addr), (b = none → xs = [] ∧ c = 0) → (∀ b0, b = some b0 → ∀ j u, (E.row xs)[j]? = some u → w.cell? (b0.add j) = some u) → c < xs.length + n →
      ∃ v' w', (Builtin.append_ #[t, tn] ty #[.slice b xs.length c, .int .i64 (n : Int)]).run P w = .ok v' w' ∧ w'.ownsRow w.heap.size e E.z v' (xs.length + n) (E.row xs ++ E.row (List.replicate n z)) ∧ w.grownBy w' none := by
    intro b hnone holds hg
    have hge := grownCap_ge w (xs.length + n) c e
    have hcm : grownCap w (xs.length + n) c e ≤ maxLen := grownCap_le_maxLen w (xs.length + n) c e h63
    have hrl := E.row_length (List.replicate n z)
    rw [List.length_replicate] at hrl
    have hl2 : (E.row xs ++ E.row (List.replicate n z)).length = (xs.length + n) * E.z := by rw [List.length_append, E.row_length, hrl, Nat.add_mul]
    have h63' : ¬ (9223372036854775807 < ((xs.length : Int) + (n : Int))) := by unfold maxLen at h63; omega
    have hfit := fitsN (old := c) (need := xs.length + n) hg (by omega) hby
    have h48' : ¬ (281474976710656 < Builtin.nextslicecap (xs.length + n) c * i.bytes) := by omega
    have hn' : ¬ (xs.length + n ≤ c) := by omega
    have hcap : ∀ (R : Array Value), R = (E.row xs).toArray ++ (E.row (List.replicate n z)).toArray ++ Builtin.zeroCells zv.cells (grownCap w (xs.length + n) c e - (xs.length + n)) →
        (w.drew.alloc (.cells R e)).ownsRow w.heap.size e E.z (.slice (some ⟨w.heap.size, 0, none⟩) (xs.length + n) (grownCap w (xs.length + n) c e)) (xs.length + n) (E.row xs ++ E.row (List.replicate n z)) ∧ w.grownBy (w.drew.alloc (.cells R e)) none := by
      rintro R rfl
      refine ⟨⟨hl2, .inr ⟨w.heap.size, _, _, rfl, Nat.le_refl _, heap_alloc_new w.drew _, hge, hcm, ?_, ?_⟩⟩, ⟨rfl, rfl, rfl, by simp, fun k hk _ => RowKit.Below.heap_alloc w.drew _ k hk⟩⟩
      · simp only [Array.size_append, List.size_toArray, size_zeroCells, hzs, hxl, hrl, ← Nat.add_mul]
        congr 1
        omega
      · simp only [Array.toList_append, List.append_assoc]
        rw [← List.append_assoc, ← hl2]
        exact List.take_left
    have hzc : Builtin.zeroCells zv.cells n = (E.row (List.replicate n z)).toArray := by rw [hcell, hrow, zeroCells_one]
    cases b with
    | none =>
      obtain ⟨hx, hc⟩ := hnone rfl
      subst hx; subst hc
      refine ⟨_, _, ?_, hcap _ rfl⟩
      have hn2 : n ≠ 0 := by omega
      simp only [List.length_nil, Nat.zero_add, Int.natCast_zero, Int.zero_add] at h63' h48' hn'
      simp [Builtin.append_, run_underlying hu, run_underlying htn, sizeOf, typeInfo, zeroValue, hi, hzz, asInt, asIntOf, hw, hneg, hns, hn2, h63', h48', h48i, Question.forced, run_firstCells_none, newRow, grownCap, hzc, El.row]
    | some b0 =>
      have hfo := run_firstCells_some (P := P) w.drew i.size xs.length b0 xs.length c (E.row xs) (by rw [hs]; exact hxl) (by simpa using holds b0 rfl)
      refine ⟨_, _, ?_, hcap _ rfl⟩
      simp [Builtin.append_, run_underlying hu, run_underlying htn, sizeOf, typeInfo, zeroValue, hi, hzz, asInt, asIntOf, hw, hneg, hns, hn', h63', h48', h48i, Question.forced, hfo, newRow, grownCap, hzc]
      congr 2
      apply Array.ext'
      simp [List.append_assoc]
  cases p with
  | none =>
    obtain ⟨h1, h2, h3⟩ := h
    subst h3
    have hx : xs = [] := List.eq_nil_of_length_eq_zero (by omega)
    subst hx
    obtain ⟨v', w', hr, ho, hg⟩ := key none (fun _ => ⟨rfl, rfl⟩) (fun _ h => by cases h) (by simpa using hn0)
    rw [← E.row_append, ← hlen] at ho
    obtain ⟨p', c', rfl, ha, hf⟩ := of_ownsRow ho
    exact ⟨p', c', w', hr, ha, (Chg.grown hg).mono fun _ _ h => h.elim, fun k hk => .inr (hf k hk)⟩
  | some b =>
    obtain ⟨h1, h2, h3⟩ := h
    by_cases hroom : xs.length + n ≤ c
    · obtain ⟨bb, bo, bs⟩ := b
      obtain rfl : bs = none := h3.spot
      have hm : (E.row xs).length + (List.replicate n v).length ≤ c * E.z := by rw [hxl, List.length_replicate, hz1]; omega
      have hst := run_storeCells_cells (P := P) bb (bo + xs.length * i.size) (List.replicate n v) 0 w (fun j hj => by
          rw [hs, Nat.add_zero, Nat.add_assoc]; exact h3.full _ (by rw [List.length_replicate] at hj; rw [hz1]; omega))
        (fun j hj => by rw [hs, Nat.add_zero, Nat.add_assoc]; exact h3.free _ (by rw [List.length_replicate] at hj; rw [hz1]; omega)) hone
      simp only [Nat.add_zero] at hst
      have hset := h3.sets (List.replicate n v) hm
      refine ⟨some ⟨bb, bo, none⟩, c, w.setCells bb (bo + xs.length * i.size) (List.replicate n v), ?_, ⟨by rw [hlen]; exact hroom, h2, ?_⟩, (Chg.setCells bb _ _ w).mono fun _ _ h => h, fun k hk => .inl hk⟩
      · have hzc : Builtin.zeroCells zv.cells n = (List.replicate n v).toArray := by rw [hcell, zeroCells_one]
        rw [hlen]
        simp [Builtin.append_, run_underlying hu, run_underlying htn, sizeOf, typeInfo, zeroValue, hi, hzz, asInt, asIntOf, hw, hneg, hns, h48i, hroom, hzc, Addr.add_lit, hst]
      · show RowAt _ _ _ (E.row (xs ++ List.replicate n z))
        rw [E.row_append, hrow, hs, ← hxl]
        exact hset
    · obtain ⟨v', w', hr, ho, hg⟩ := key (some b) (fun h => by cases h) (fun b0 e0 j u hu => by cases e0; rw [at_add h3.spot]; exact h3.cell j u hu) (by omega)
      rw [← E.row_append, ← hlen] at ho
      obtain ⟨p', c', rfl, ha, hf⟩ := of_ownsRow ho
      exact ⟨p', c', w', hr, ha, (Chg.grown hg).mono fun _ _ h => h.elim, fun k hk => .inr (hf k hk)⟩
theorem Now.appendZ {P : Program} {α : Type} {E : El α} {t tn ty e : TypeId} {N : Nat} (he : ElemN P t e E.z N) {kn : IntKind} (htn : P.underlying tn = some (.int kn)) {B : Nat → Prop} {w0 w : World} {p : Option Addr} {c : Nat} {xs : List α} {L : List Asn} (h : Now B w0 w (arr E p c xs :: L)) {z : α} {v : Value} (hv : E.enc z = [v]) (hz : ∀ i zv, P.info? e = some i → i.zero = some zv → zv.cells = #[v]) (n : Nat) (hn0 : 0 < n) (hb : (xs ++ List.replicate n z).length ≤ N)
    {K : Option Addr → Nat → Nat → World → Prop} (k : ∀ p' c' w', Now B w0 w' (arr E p' c' (xs ++ List.replicate n z) :: L) → K p' (xs ++ List.replicate n z).length c' w') :
    ∃ x l c' w', (Builtin.append_ #[t, tn] ty #[.slice p xs.length c, .int .i64 (n : Int)]).run P w = .ok (.slice x l c') w' ∧ K x l c' w' := by
  obtain ⟨p', c', w', hr, ha, hc, hf⟩ := arr_appendZ (ty := ty) he htn h.hp.1 hv hz hn0 hb
  exact ⟨p', _, c', w', hr, k p' c' w' (h.upd ha hc hf)⟩
end Go.Vc
