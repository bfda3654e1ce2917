/-
  Slices that may only be read: a law's arguments.
-/
import Derived.Test.YtccmpceifheejaaArr
import Derived.Test.YtccmpceifheejaaRead
import Derived.Deep.DeepAppendWide
import Derived.Deep.MidRow
import Derived.Laws.CopyRow
namespace Go.Vc
open Go
set_option linter.unusedVariables false
structure RoAt {α : Type} (E : El α) (w : World) (p : Option Addr) (c : Nat) (xs : List α) : Prop where
  reads : Reads E w p xs
  cap : xs.length ≤ c
theorem RoAt.at {α : Type} {E : El α} {w0 w : World} {p : Option Addr} {c : Nat} {xs : List α} {B : Nat → Prop} (h : RoAt E w0 p c xs) (hc : Chg B w0 w) (hB : ∀ a, p = some a → xs ≠ [] → ¬ B a.block) : Reads E w p xs := by
  cases p with
  | none => exact h.reads
  | some a =>
    by_cases hx : xs = []
    · subst hx; exact fun j v hv => by simp [El.row] at hv
    · exact fun j v hv => hc.cell (h.reads j v hv) (by rw [show (a.add j).block = a.block by unfold Addr.add; split <;> rfl]; exact hB a rfl hx)
theorem not_foot_nil {α : Type} {p : Option Addr} {xs : List α} : ∀ a, p = some a → xs ≠ [] → ¬ Foot [] a.block := fun _ _ _ h => h
theorem cell_lt {w : World} {a : Addr} {v : Value} (hv : w.cell? a = some v) : a.block < w.heap.size := by
  rcases Nat.lt_or_ge a.block w.heap.size with h' | h'
  · exact h'
  · simp [World.cell?, Array.getElem?_eq_none h'] at hv
theorem RoAt.lt {α : Type} {E : El α} {w : World} {a : Addr} {c : Nat} {xs : List α} (h : RoAt E w (some a) c xs) (hx : xs ≠ []) : a.block < w.heap.size := by
  cases xs with
  | nil => exact absurd rfl hx
  | cons x l =>
    have hz : 0 < (E.row (x :: l)).length := by rw [E.row_length, List.length_cons, Nat.add_mul]; have := E.pos; omega
    have := cell_lt (h.reads 0 _ (List.getElem?_eq_getElem hz))
    rwa [show (a.add 0).block = a.block by unfold Addr.add; split <;> rfl] at this
theorem RoAt.nil {α : Type} (E : El α) (w : World) (c : Nat) : RoAt E w none c ([] : List α) := ⟨rfl, Nat.zero_le _⟩
theorem RoAt.to {α : Type} {E : El α} {w0 w : World} {p : Option Addr} {c : Nat} {xs : List α} {B : Nat → Prop} {M : List Asn} (h : RoAt E w0 p c xs) (hn : Now B w0 w M) (hB : ∀ a, p = some a → xs ≠ [] → ¬ B a.block) : RoAt E w p c xs := ⟨h.at hn.chg hB, h.cap⟩
theorem RoAt.off {α : Type} {E : El α} {w0 w : World} {p : Option Addr} {c : Nat} {xs : List α} {B : Nat → Prop} (L : List Asn) {M : List Asn} (h : RoAt E w0 p c xs) (hn : Now B w0 w (L ++ M)) (hB : ∀ a, p = some a → xs ≠ [] → ¬ B a.block) : ∀ a, p = some a → xs ≠ [] → ¬ Foot L a.block := by
  rintro a rfl hx hf
  rcases hn.sub a.block (Foot_append.2 (.inl hf)) with h1 | h1
  · exact hB a rfl hx h1
  · exact absurd (h.lt hx) (Nat.not_lt.2 h1)
theorem Foot_mem {A : Asn} {k : Nat} (hk : A.foot k) : ∀ {L : List Asn} {n : Nat}, L[n]? = some A → Foot L k
  | [], _, h => by simp at h
  | C :: L, 0, h => by simp at h; subst h; exact .inl hk
  | C :: L, n + 1, h => .inr (Foot_mem hk (L := L) (n := n) (by simpa using h))
theorem Hp_mem {A : Asn} {w : World} : ∀ {L : List Asn} {n : Nat}, Hp w L → L[n]? = some A → A.holds w
  | [], _, _, h => by simp at h
  | C :: L, 0, hp, h => by simp at h; subst h; exact hp.1
  | C :: L, n + 1, hp, h => Hp_mem (L := L) (n := n) hp.2.2 (by simpa using h)
theorem ro_own {α : Type} {E : El α} {w0 w : World} {p : Option Addr} {c : Nat} {xs : List α} {B : Nat → Prop} (L : List Asn) {M : List Asn} (n : Nat) (hn : Now B w0 w (L ++ M)) (hM : M[n]? = some (arr E p c xs)) : RoAt E w p c xs := by
  have h := Hp_mem (Hp_append.1 hn.hp).2.1 hM
  exact ⟨arr_reads h, h.1⟩
theorem ro_ownB {α : Type} {E : El α} {w0 w : World} {p : Option Addr} {c : Nat} {xs : List α} {B : Nat → Prop} (L : List Asn) {M : List Asn} (n : Nat) (hn : Now B w0 w (L ++ M)) (hM : M[n]? = some (arr E p c xs)) : ∀ a, p = some a → xs ≠ [] → ¬ Foot L a.block := by
  rintro a rfl hx hf
  exact (Hp_append.1 hn.hp).2.2 _ hf (Foot_mem (A := arr E (some a) c xs) rfl hM)
theorem ro_of {α : Type} {E : El α} {P : Program} {w : World} {e : TypeId} {p : Option Addr} {n c : Nat} (h : Rds P w e p n c) (hz : P.cellsOf e = E.z) (G : α → Prop)
    (hg : ∀ cs m, Rd P w m e cs → ∃ x, cs = E.enc x ∧ G x) : ∃ xs : List α, n = xs.length ∧ RoAt E w p c xs ∧ ∀ x ∈ xs, G x := by
  rcases h with ⟨rfl, rfl, rfl⟩ | ⟨a, m, rfl, hn, hc, he⟩
  · exact ⟨[], rfl, ⟨rfl, Nat.le_refl _⟩, fun x hx => by cases hx⟩
  · have key : ∀ k, k ≤ n → ∃ xs : List α, xs.length = k ∧ (∀ j v, (E.row xs)[j]? = some v → w.cell? (a.add j) = some v) ∧ ∀ x ∈ xs, G x := by
      intro k
      induction k with
      | zero => exact fun _ => ⟨[], rfl, fun j v hv => by simp [El.row] at hv, fun x hx => by cases hx⟩
      | succ k ih =>
        intro hk
        obtain ⟨xs, hl, hx, hG⟩ := ih (by omega)
        obtain ⟨cs, h1, h2, h3⟩ := he k (by omega)
        obtain ⟨x, rfl, gx⟩ := hg cs m h3
        refine ⟨xs ++ [x], by simp [hl], fun j v hv => ?_, fun y hy => ?_⟩
        · rw [E.row_append] at hv
          have hlen : (E.row xs).length = k * E.z := by rw [E.row_length, hl]
          by_cases hj : j < (E.row xs).length
          · rw [List.getElem?_append_left hj] at hv; exact hx j v hv
          · rw [List.getElem?_append_right (by omega)] at hv
            have hv' : (E.enc x)[j - (E.row xs).length]? = some v := by
              have e : E.row [x] = E.enc x := by simp [El.row]
              rw [e] at hv; exact hv
            have hj2 : j - (E.row xs).length < E.z := by have := (List.getElem?_eq_some_iff.1 hv').1; rw [E.len] at this; exact this
            have := h2 (j - (E.row xs).length) (by rw [hz]; exact hj2)
            rw [hz, add_add, hv', show k * E.z + (j - (E.row xs).length) = j by omega] at this
            exact this
        · rcases List.mem_append.1 hy with h | h
          · exact hG y h
          · simp at h; subst h; exact gx
    obtain ⟨xs, hl, hx, hG⟩ := key n (Nat.le_refl _)
    exact ⟨xs, hl.symm, ⟨hx, by omega⟩, hG⟩
theorem one_at {cs : List Value} {o z : Nat} {v : Value} (hz : z = 1) (h : (cs.drop o).take z = [v]) : cs[o]? = some v := by
  subst hz
  have : ((cs.drop o).take 1)[0]? = some v := by rw [h]; rfl
  simpa using this
theorem Now.quiet {w0 w : World} {L : List Asn} (h : Now (Foot []) w0 w L) : Chg (fun _ => False) w0 w := h.chg.mono fun _ _ h => h
section
variable {P : Program}
def copyL {α : Type} (xs : List α) (lo n : Nat) (ys : List α) : List α := xs.mapIdx fun i x => if lo ≤ i ∧ i < lo + n then ys.getD (i - lo) x else x
@[simp] theorem copyL_length {α : Type} {xs ys : List α} {lo n : Nat} : (copyL xs lo n ys).length = xs.length := by unfold copyL; simp
theorem copyL_eq {α : Type} {xs ys : List α} {lo n : Nat} (h : lo + n ≤ xs.length) : copyL xs lo n ys = xs.take lo ++ ys.take n ++ xs.drop (lo + (ys.take n).length) := by
  apply List.ext_getElem
  · rw [copyL_length]; simp only [List.length_append, List.length_take, List.length_drop]; omega
  · intro i h1 h2
    rw [copyL_length] at h1
    simp only [copyL, List.getElem_mapIdx]
    have hlo : (xs.take lo).length = lo := by rw [List.length_take]; omega
    by_cases c1 : i < lo
    · rw [if_neg (by omega)]
      simp only [List.append_assoc]
      rw [List.getElem_append_left (by omega), List.getElem_take]
    · simp only [List.append_assoc]
      rw [List.getElem_append_right (by omega)]
      have hm := List.length_take (i := n) (l := ys)
      by_cases c2 : i - lo < (ys.take n).length
      · rw [List.getElem_append_left (by omega), List.getElem_take, if_pos (by omega), List.getD_eq_getElem?_getD, List.getElem?_eq_getElem (by omega)]
        simp [hlo]
      · rw [List.getElem_append_right (by omega), List.getElem_drop]
        have e : lo + (ys.take n).length + (i - (xs.take lo).length - (ys.take n).length) = i := by omega
        simp only [e]
        by_cases c3 : i < lo + n
        · rw [if_pos (by omega), List.getD_eq_getElem?_getD, List.getElem?_eq_none (by omega)]; rfl
        · rw [if_neg (by omega)]
theorem Reads.take {α : Type} {E : El α} {w : World} {a : Addr} {ys : List α} (h : Reads E w (some a) ys) (n : Nat) : Reads E w (some a) (ys.take n) := fun j v hv => h j v (by
  rw [E.row_take] at hv
  have hl := (List.getElem?_eq_some_iff.1 hv).1
  rwa [List.getElem?_take_of_lt (by simp at hl; omega)] at hv)
end
theorem ixa {b off z : Nat} (j o : Nat) {i jI : Int} (e : (i == jI) = true) (hj : jI = ((j : Nat) : Int)) (ho : off + j * z = o) : (⟨b, off, none⟩ : Addr).add (i.toNat * z) = ⟨b, o, none⟩ := by
  have : i = ((j : Nat) : Int) := (eq_of_beq e).trans hj
  subst this
  rw [at_add rfl, Int.toNat_natCast, ho]
theorem IxE {a a' : Addr} {K : Addr → Prop} (e : a = a') (h : K a') : Lt a K := by subst e; exact h
theorem ixge0 {i n : Int} (hb : (decide (0 ≤ i) && decide (i < n)) = true) : ((0 : Nat) : Int) ≤ i := by
  simp only [Bool.and_eq_true, decide_eq_true_eq] at hb; simpa using hb.1
theorem ixge {i jI : Int} {j : Nat} (h : ((j : Nat) : Int) ≤ i) (e : (i == jI) = false) (hj : jI = ((j : Nat) : Int)) : ((j + 1 : Nat) : Int) ≤ i := by
  have := ne_of_beq_false e; omega
theorem ixlast {i jI : Int} {j n : Nat} (hb : (decide (0 ≤ i) && decide (i < ((n : Nat) : Int))) = true) (h : ((j : Nat) : Int) ≤ i) (hj : jI = ((n - 1 : Nat) : Int)) (hn : j + 1 = n := by rfl) : (i == jI) = true := by
  simp only [Bool.and_eq_true, decide_eq_true_eq] at hb
  exact beq_iff_eq.2 (by omega)
theorem ltL {i : Int} {n n' : Nat} (hn : n = n') (h : i < ((n : Nat) : Int)) : i < ((n' : Nat) : Int) := hn ▸ h
structure ElemN (P : Program) (t e : TypeId) (z N : Nat) : Prop where
  und : P.underlying t = some (.slice e)
  info : ∃ i zv, P.info? e = some i ∧ i.zero = some zv ∧ i.size = z ∧ zv.cells.size = z ∧ (N + N / 4 + 192) * i.bytes ≤ 281474976710656 ∧ N ≤ 9223372036854775807
theorem fitsN {N need old bytes : Nat} (h : old < need) (hn : need ≤ N) (hb : (N + N / 4 + 192) * bytes ≤ 281474976710656) : Builtin.nextslicecap need old * bytes ≤ 281474976710656 :=
  growslice_fits_wide h (Nat.le_trans (Nat.mul_le_mul_right _ (by omega)) hb)
theorem arr_appendN {P : Program} {α : Type} {E : El α} {t ty e : TypeId} {N : Nat} (he : ElemN P t e E.z N) {w : World} {p : Option Addr} {c : Nat} {xs : List α} (h : (arr E p c xs).holds w) {a : Addr} {c2 : Nat} {ys : List α} (hy : Reads E w (some a) ys) (hb : (xs ++ ys).length ≤ N) :
    ∃ p' c' w', (Builtin.append_ #[t, t] ty #[.slice p xs.length c, .slice (some a) ys.length c2]).run P w = .ok (.slice p' (xs ++ ys).length c') w' ∧ (arr E p' c' (xs ++ ys)).holds w' ∧ Chg (arr E p c xs).foot w w' ∧
      ∀ k, (arr E p' c' (xs ++ ys)).foot k → (arr E p c xs).foot k ∨ w.heap.size ≤ k := by
  obtain ⟨hu, i, zv, hi, hz, hs, hzs, hby, hN⟩ := he
  have hlen := List.length_append (as := xs) (bs := ys)
  have hrl := E.row_length ys
  have hcell : ∀ j u, (E.row ys)[j]? = some u → w.cell? (a.add j) = some u := fun j u hu => hy j u hu
  have h63 : xs.length + ys.length ≤ maxLen := by rw [← hlen]; unfold maxLen; omega
  have key : ∀ (b : Option Addr), (b = none → xs = [] ∧ c = 0) → (∀ b0, b = some b0 → ∀ j u, (E.row xs)[j]? = some u → w.cell? (b0.add j) = some u) → c < xs.length + ys.length →
      ∃ v' w', (Builtin.append_ #[t, t] ty #[.slice b xs.length c, .slice (some a) ys.length c2]).run P w = .ok v' w' ∧ w'.ownsRow w.heap.size e E.z v' (xs.length + ys.length) (E.row xs ++ E.row ys) ∧ w.grownBy w' none := by
    intro b hnone holds hg
    have hge := grownCap_ge w (xs.length + ys.length) c e
    have hcm : grownCap w (xs.length + ys.length) c e ≤ maxLen := grownCap_le_maxLen w (xs.length + ys.length) c e h63
    have hl2 : (E.row xs ++ E.row ys).length = (xs.length + ys.length) * E.z := by rw [List.length_append, E.row_length, hrl, Nat.add_mul]
    have hxl := E.row_length xs
    have hcap : ∀ (R : Array Value), R = (E.row xs).toArray ++ (E.row ys).toArray ++ Builtin.zeroCells zv.cells (grownCap w (xs.length + ys.length) c e - (xs.length + ys.length)) →
        (w.drew.alloc (.cells R e)).ownsRow w.heap.size e E.z (.slice (some ⟨w.heap.size, 0, none⟩) (xs.length + ys.length) (grownCap w (xs.length + ys.length) c e)) (xs.length + ys.length) (E.row xs ++ E.row ys) ∧ w.grownBy (w.drew.alloc (.cells R e)) none := by
      rintro R rfl
      refine ⟨⟨hl2, .inr ⟨w.heap.size, _, _, rfl, Nat.le_refl _, heap_alloc_new w.drew _, hge, hcm, ?_, ?_⟩⟩, ⟨rfl, rfl, rfl, by simp, fun k hk _ => RowKit.Below.heap_alloc w.drew _ k hk⟩⟩
      · simp only [Array.size_append, List.size_toArray, size_zeroCells, hzs, hxl, hrl, ← Nat.add_mul]
        congr 1
        omega
      · simp only [Array.toList_append, List.append_assoc]
        rw [← List.append_assoc, ← hl2]
        exact List.take_left
    cases b with
    | none =>
      obtain ⟨hx, hc⟩ := hnone rfl
      subst hx; subst hc
      have hr := run_append_nil (P := P) w t ty e i zv hu hi hz a ys.length c2 (E.row ys) (by rw [hs]; exact hrl) hcell (by simpa using hg) (by simp at hb; omega)
        (by have := fitsN (old := 0) (need := ys.length) (by simpa using hg) (by simpa using hb) hby; rwa [nextslicecap_zero (by simpa using hg)] at this)
      have := hcap _ rfl
      simp only [List.length_nil, Nat.zero_add] at this
      refine ⟨_, _, hr, ?_, ?_⟩
      · simpa [El.row] using this.1
      · simpa [El.row] using this.2
    | some b0 =>
      have hr := run_append_grow (P := P) w t ty e i zv hu hi hz b0 xs.length c (E.row xs) (by rw [hs]; exact hxl) (holds b0 rfl) a ys.length c2 (E.row ys) (by rw [hs]; exact hrl) hcell hg (by omega) (fitsN hg (by omega) hby)
      exact ⟨_, _, hr, hcap _ rfl⟩
  cases p with
  | none =>
    obtain ⟨h1, h2, h3⟩ := h
    subst h3
    have hx : xs = [] := List.eq_nil_of_length_eq_zero (by omega)
    subst hx
    by_cases hy0 : ys = []
    · subst hy0
      refine ⟨none, 0, w, ?_, ⟨Nat.le_refl _, h2, rfl⟩, Chg.refl _ _, fun k hk => hk.elim⟩
      have hl0 : (loadCells a 0).run P w = .ok #[] w := by simpa using run_loadCells_list (P := P) w a [] (by simp)
      simp [Builtin.append_, run_underlying hu, sizeOf, typeInfo, hi, Builtin.lenOf, Builtin.firstCells, hl0, Result.andThen]
    · have hpos : 0 < ys.length := List.length_pos_iff.2 hy0
      obtain ⟨v', w', hr, ho, hg⟩ := key none (fun _ => ⟨rfl, rfl⟩) (fun _ h => by cases h) (by simpa using hpos)
      rw [← E.row_append, ← hlen] at ho
      obtain ⟨p', c', rfl, ha, hf⟩ := of_ownsRow ho
      exact ⟨p', c', w', hr, ha, (Chg.grown hg).mono fun _ _ h => h.elim, fun k hk => .inr (hf k hk)⟩
  | some b =>
    obtain ⟨h1, h2, h3⟩ := h
    by_cases hroom : xs.length + ys.length ≤ c
    · obtain ⟨bb, bo, bs⟩ := b
      obtain rfl : bs = none := h3.spot
      have hx := E.row_length xs
      have hm : xs.length * E.z + ys.length * E.z ≤ c * E.z := by rw [← Nat.add_mul]; exact Nat.mul_le_mul_right _ hroom
      have hr := run_append_room_cells (P := P) w t ty e i hu hi bb bo xs.length c a ys.length c2 (E.row ys) (by rw [hs]; exact hrl) hcell (E.row_one ys) hroom
        (fun j hj => by rw [hs, Nat.add_assoc]; exact h3.full _ (by omega)) (fun j hj => by rw [hs, Nat.add_assoc]; exact h3.free _ (by omega))
      have hset := h3.sets (E.row ys) (by omega)
      refine ⟨some ⟨bb, bo, none⟩, c, _, by rw [hlen]; exact hr, ⟨by rw [hlen]; exact hroom, h2, ?_⟩, (Chg.setCells bb _ _ w).mono fun _ _ h => h, fun k hk => .inl hk⟩
      show RowAt _ _ _ (E.row (xs ++ ys))
      rw [E.row_append, hs, ← hx]
      exact hset
    · obtain ⟨v', w', hr, ho, hg⟩ := key (some b) (fun h => by cases h) (fun b0 e0 j u hu => by cases e0; rw [at_add h3.spot]; exact h3.cell j u hu) (by omega)
      rw [← E.row_append, ← hlen] at ho
      obtain ⟨p', c', rfl, ha, hf⟩ := of_ownsRow ho
      exact ⟨p', c', w', hr, ha, (Chg.grown hg).mono fun _ _ h => h.elim, fun k hk => .inr (hf k hk)⟩
theorem Now.appendN {P : Program} {α : Type} {E : El α} {t ty e : TypeId} {N : Nat} (he : ElemN P t e E.z N) {B : Nat → Prop} {w0 w : World} {p : Option Addr} {c : Nat} {xs : List α} {L : List Asn} (h : Now B w0 w (arr E p c xs :: L)) {q : Option Addr} {n2 c2 : Nat} {ys : List α} (hy : Reads E w q ys) (hl : n2 = ys.length) (hb : (xs ++ ys).length ≤ N)
    {K : Option Addr → Nat → Nat → World → Prop} (k : ∀ p' c' w', Now B w0 w' (arr E p' c' (xs ++ ys) :: L) → K p' (xs ++ ys).length c' w') :
    ∃ x n c' w', (Builtin.append_ #[t, t] ty #[.slice p xs.length c, .slice q n2 c2]).run P w = .ok (.slice x n c') w' ∧ K x n c' w' := by
  subst hl
  cases q with
  | some a =>
    obtain ⟨p', c', w', hr, ha, hc, hf⟩ := arr_appendN (ty := ty) (c2 := c2) he h.hp.1 hy hb
    exact ⟨p', _, c', w', hr, k p' c' w' (h.upd ha hc hf)⟩
  | none =>
    have hy' : ys = [] := hy
    subst hy'
    obtain ⟨hu, i, zv, hi, hz, hs, hzs, hby, hN⟩ := he
    have h1 := h.hp.1.1
    have hk := k p c w (by simpa using h)
    refine ⟨p, xs.length, c, w, ?_, by simpa using hk⟩
    cases p with
    | none => simp [Builtin.append_, run_underlying hu, sizeOf, typeInfo, hi, Builtin.lenOf, Builtin.firstCells, h1]
    | some a => simp [Builtin.append_, run_underlying hu, sizeOf, typeInfo, hi, Builtin.lenOf, Builtin.firstCells, h1, storeCells]
theorem Blk.bx_int {w : World} {b : Nat} {cs : List Value} {t : TypeId} (h : Blk w b cs t) {off n : Nat} {k : IntKind} (l : List Int) (hl : (cs.drop off).take n = l.map (Value.int k)) (hn : l.length = n) {i : Int} (hb : (decide (0 ≤ i) && decide (i < ((n : Nat) : Int))) = true) :
    w.cell? ((⟨b, off, none⟩ : Addr).add (i.toNat * 1)) = some (.int k (ixL l i)) := by
  simp only [Bool.and_eq_true, decide_eq_true_eq] at hb
  have hi : i.toNat < l.length := by omega
  rw [at_add rfl]
  show w.cell? ⟨b, off + i.toNat * 1, none⟩ = _
  rw [Nat.mul_one, Blk.cell h, ixL_eq hi]
  have e : ((cs.drop off).take n)[i.toNat]? = some (.int k l[i.toNat]) := by rw [hl]; simp [hi]
  rw [List.getElem?_take_of_lt (by omega), List.getElem?_drop] at e
  exact e
structure MidA (P : Program) (t : TypeId) (n : Nat) : Prop where
  und : ∃ d, P.underlying t = some d ∧ d.isRow = true
  size : (P.info? t).map (·.size) = some n
theorem Blk.ldA {P : Program} {t0 : TypeId} {n : Nat} (hb : MidA P t0 n) {w : World} {b : Nat} {cs : List Value} {t : TypeId} (h : Blk w b cs t) (o : Nat) {vs : List Value} (hv : (cs.drop o).take n = vs) (hl : vs.length = n) :
    (Instr.loadAt t0 (.pointer (some ⟨b, o, none⟩))).run P w = .ok (.agg vs.toArray) w := by
  obtain ⟨⟨d, hu, hd⟩, hs⟩ := hb
  refine run_loadAt_mid w b o t0 vs d (fun j v hj => ?_) hu hd (by rw [hs, hl])
  have hlt := (List.getElem?_eq_some_iff.1 hj).1
  rw [← hv, List.getElem?_take_of_lt (by omega), List.getElem?_drop] at hj
  rw [h.cell]; exact hj
theorem Chg.setRow (w : World) (b : Nat) (cs : Array Value) : Chg (· = b) w (w.setRow b cs) := ⟨rfl, rfl, rfl, by simp, fun k _ hn => setRow_other w b k cs hn⟩
theorem Now.stA {P : Program} {t0 : TypeId} {n : Nat} (hb : MidA P t0 n) {B : Nat → Prop} {w0 w : World} {b : Nat} {cs : List Value} {t : TypeId} {L : List Asn} {K : World → Prop} (h : Now B w0 w (box b cs t :: L)) (o : Nat) {vs : List Value} (cs' : List Value) (hl : vs.length = n) (ho : Nat.ble (o + n) cs.length = true) (h1 : vs.all (·.oneCell') = true) (e : cs.take o ++ vs ++ cs.drop (o + vs.length) = cs')
    (k : ∀ w', Now B w0 w' (box b cs' t :: L) → K w') : ∃ v w', (stS t0 (.pointer (some ⟨b, o, none⟩)) (.agg vs.toArray)).run P w = .ok v w' ∧ K w' := by
  subst e
  subst hl
  have h' : Blk w b cs t := h.hp.1
  have hg : w.heap[b]? = some (.cells cs.toArray t (0, 0)) := h'
  have ho' := Nat.le_of_ble_eq_true ho
  have hst := run_storeCells_at (P := P) b o t vs 0 cs.toArray w hg (by simp; omega) (fun v hv => List.all_eq_true.1 h1 v hv)
  obtain ⟨i, hi, his⟩ : ∃ i, P.info? t0 = some i ∧ i.size = vs.length := by
    have := hb.size
    cases hi : P.info? t0 with
    | none => rw [hi] at this; cases this
    | some i => rw [hi] at this; exact ⟨i, rfl, by simpa using this⟩
  simp only [Nat.add_zero] at hst
  refine ⟨undef, w.setRow b (cs.take o ++ vs ++ cs.drop (o + vs.length)).toArray, ?_, k _ (h.upd (setRow_heap w b _ _ t _ hg) (Chg.setRow w b _) fun _ h => .inl h)⟩
  have hsv : (storeVar t0 ⟨b, o, none⟩ (.agg vs.toArray)).run P w = .ok () (w.setRow b (cs.take o ++ vs ++ cs.drop (o + vs.length)).toArray) := by
    have hc : (Value.agg vs.toArray).cells = vs.toArray := rfl
    simp [storeVar, sizeOf, typeInfo, hi, hc, his, hst]
  simp [stS, Instr.storeAt, Instr.sureAddr, hsv]
structure IxA (P : Program) (t : TypeId) (k : IntKind) (n : Nat) : Prop where
  und : ∃ e, P.underlying t = some (.array n e) ∧ P.underlying e = some (.int k) ∧ sz? P e = some 1
end Go.Vc
