/-
  Slices that may only be read: a law's arguments.
-/
import Derived.Test.YtcgigdfahlmfaaaGreatDoorArr
import Derived.Test.YtcgigdfahlmfaaaGreatDoorRead
import Derived.Deep.DeepAppendWide
import Derived.Deep.MidRow
import Derived.Laws.CopyRow
namespace Go.Vc
open Go
set_option linter.unusedVariables false
structure RoAt {α : Type} (E : El α) (w : World) (p : Option Addr) (c : Nat) (xs : List α) : Prop where
  reads : Reads E w p xs
  cap : xs.length ≤ c
theorem RoAt.at {α : Type} {E : El α} {w0 w : World} {p : Option Addr} {c : Nat} {xs : List α} {B : Nat → Prop} (h : RoAt E w0 p c xs) (hc : Chg B w0 w) (hB : ∀ a, p = some a → xs ≠ [] → ¬ B a.block) : Reads E w p xs := by
  cases p with
  | none => exact h.reads
  | some a =>
    by_cases hx : xs = []
    · subst hx; exact fun j v hv => by simp [El.row] at hv
    · exact fun j v hv => hc.cell (h.reads j v hv) (by rw [show (a.add j).block = a.block by unfold Addr.add; split <;> rfl]; exact hB a rfl hx)
theorem not_foot_nil {α : Type} {p : Option Addr} {xs : List α} : ∀ a, p = some a → xs ≠ [] → ¬ Foot [] a.block := fun _ _ _ h => h
theorem cell_lt {w : World} {a : Addr} {v : Value} (hv : w.cell? a = some v) : a.block < w.heap.size := by
  rcases Nat.lt_or_ge a.block w.heap.size with h' | h'
  · exact h'
  · simp [World.cell?, Array.getElem?_eq_none h'] at hv
theorem RoAt.lt {α : Type} {E : El α} {w : World} {a : Addr} {c : Nat} {xs : List α} (h : RoAt E w (some a) c xs) (hx : xs ≠ []) : a.block < w.heap.size := by
  cases xs with
  | nil => exact absurd rfl hx
  | cons x l =>
    have hz : 0 < (E.row (x :: l)).length := by rw [E.row_length, List.length_cons, Nat.add_mul]; have := E.pos; omega
    have := cell_lt (h.reads 0 _ (List.getElem?_eq_getElem hz))
    rwa [show (a.add 0).block = a.block by unfold Addr.add; split <;> rfl] at this
theorem RoAt.nil {α : Type} (E : El α) (w : World) (c : Nat) : RoAt E w none c ([] : List α) := ⟨rfl, Nat.zero_le _⟩
theorem none_off {α : Type} {xs : List α} {L : List Asn} : ∀ a, (none : Option Addr) = some a → xs ≠ [] → ¬ Foot L a.block := fun _ h => by cases h
theorem RoAt.to {α : Type} {E : El α} {w0 w : World} {p : Option Addr} {c : Nat} {xs : List α} {B : Nat → Prop} {M : List Asn} (h : RoAt E w0 p c xs) (hn : Now B w0 w M) (hB : ∀ a, p = some a → xs ≠ [] → ¬ B a.block) : RoAt E w p c xs := ⟨h.at hn.chg hB, h.cap⟩
theorem RoAt.off {α : Type} {E : El α} {w0 w : World} {p : Option Addr} {c : Nat} {xs : List α} {B : Nat → Prop} (L : List Asn) {M : List Asn} (h : RoAt E w0 p c xs) (hn : Now B w0 w (L ++ M)) (hB : ∀ a, p = some a → xs ≠ [] → ¬ B a.block) : ∀ a, p = some a → xs ≠ [] → ¬ Foot L a.block := by
  rintro a rfl hx hf
  rcases hn.sub a.block (Foot_append.2 (.inl hf)) with h1 | h1
  · exact hB a rfl hx h1
  · exact absurd (h.lt hx) (Nat.not_lt.2 h1)
theorem Foot_mem {A : Asn} {k : Nat} (hk : A.foot k) : ∀ {L : List Asn} {n : Nat}, L[n]? = some A → Foot L k
  | [], _, h => by simp at h
  | C :: L, 0, h => by simp at h; subst h; exact .inl hk
  | C :: L, n + 1, h => .inr (Foot_mem hk (L := L) (n := n) (by simpa using h))
theorem Hp_mem {A : Asn} {w : World} : ∀ {L : List Asn} {n : Nat}, Hp w L → L[n]? = some A → A.holds w
  | [], _, _, h => by simp at h
  | C :: L, 0, hp, h => by simp at h; subst h; exact hp.1
  | C :: L, n + 1, hp, h => Hp_mem (L := L) (n := n) hp.2.2 (by simpa using h)
theorem ro_own {α : Type} {E : El α} {w0 w : World} {p : Option Addr} {c : Nat} {xs : List α} {B : Nat → Prop} (L : List Asn) {M : List Asn} (n : Nat) (hn : Now B w0 w (L ++ M)) (hM : M[n]? = some (arr E p c xs)) : RoAt E w p c xs := by
  have h := Hp_mem (Hp_append.1 hn.hp).2.1 hM
  exact ⟨arr_reads h, h.1⟩
theorem ro_ownB {α : Type} {E : El α} {w0 w : World} {p : Option Addr} {c : Nat} {xs : List α} {B : Nat → Prop} (L : List Asn) {M : List Asn} (n : Nat) (hn : Now B w0 w (L ++ M)) (hM : M[n]? = some (arr E p c xs)) : ∀ a, p = some a → xs ≠ [] → ¬ Foot L a.block := by
  rintro a rfl hx hf
  exact (Hp_append.1 hn.hp).2.2 _ hf (Foot_mem (A := arr E (some a) c xs) rfl hM)
theorem ixL_mem {α : Type} [Inhabited α] {l : List α} {i : Int} (h0 : 0 ≤ i) (h1 : i < ((l.length : Nat) : Int)) : ixL l i ∈ l := by
  have : i.toNat < l.length := by omega
  rw [ixL_eq this]; exact List.getElem_mem this
theorem ro_of {α : Type} {E : El α} {P : Program} {w : World} {e : TypeId} {p : Option Addr} {n c : Nat} (h : Rds P w e p n c) (hz : P.cellsOf e = E.z) (G : α → Prop)
    (hg : ∀ cs m, Rd P w m e cs → ∃ x, cs = E.enc x ∧ G x) : ∃ xs : List α, n = xs.length ∧ RoAt E w p c xs ∧ ∀ x ∈ xs, G x := by
  rcases h with ⟨rfl, rfl, rfl⟩ | ⟨a, m, rfl, hn, hc, he⟩
  · exact ⟨[], rfl, ⟨rfl, Nat.le_refl _⟩, fun x hx => by cases hx⟩
  · have key : ∀ k, k ≤ n → ∃ xs : List α, xs.length = k ∧ (∀ j v, (E.row xs)[j]? = some v → w.cell? (a.add j) = some v) ∧ ∀ x ∈ xs, G x := by
      intro k
      induction k with
      | zero => exact fun _ => ⟨[], rfl, fun j v hv => by simp [El.row] at hv, fun x hx => by cases hx⟩
      | succ k ih =>
        intro hk
        obtain ⟨xs, hl, hx, hG⟩ := ih (by omega)
        obtain ⟨cs, h1, h2, h3⟩ := he k (by omega)
        obtain ⟨x, rfl, gx⟩ := hg cs m h3
        refine ⟨xs ++ [x], by simp [hl], fun j v hv => ?_, fun y hy => ?_⟩
        · rw [E.row_append] at hv
          have hlen : (E.row xs).length = k * E.z := by rw [E.row_length, hl]
          by_cases hj : j < (E.row xs).length
          · rw [List.getElem?_append_left hj] at hv; exact hx j v hv
          · rw [List.getElem?_append_right (by omega)] at hv
            have hv' : (E.enc x)[j - (E.row xs).length]? = some v := by
              have e : E.row [x] = E.enc x := by simp [El.row]
              rw [e] at hv; exact hv
            have hj2 : j - (E.row xs).length < E.z := by have := (List.getElem?_eq_some_iff.1 hv').1; rw [E.len] at this; exact this
            have := h2 (j - (E.row xs).length) (by rw [hz]; exact hj2)
            rw [hz, add_add, hv', show k * E.z + (j - (E.row xs).length) = j by omega] at this
            exact this
        · rcases List.mem_append.1 hy with h | h
          · exact hG y h
          · simp at h; subst h; exact gx
    obtain ⟨xs, hl, hx, hG⟩ := key n (Nat.le_refl _)
    exact ⟨xs, hl.symm, ⟨hx, by omega⟩, hG⟩
theorem one_at {cs : List Value} {o z : Nat} {v : Value} (hz : z = 1) (h : (cs.drop o).take z = [v]) : cs[o]? = some v := by
  subst hz
  have : ((cs.drop o).take 1)[0]? = some v := by rw [h]; rfl
  simpa using this
theorem list2 {cs : List Value} {a b : Value} (h : cs.length = 2) (h0 : cs[0]? = some a) (h1 : cs[1]? = some b) : cs = [a, b] := by
  match cs, h with
  | [x, y], _ => simp at h0 h1; rw [h0, h1]
theorem Now.quiet {w0 w : World} {L : List Asn} (h : Now (Foot []) w0 w L) : Chg (fun _ => False) w0 w := h.chg.mono fun _ _ h => h
section
variable {P : Program}
theorem Now.appendO {α : Type} {E : El α} {t ty e : TypeId} (he : Elem P t e E.z) {B : Nat → Prop} {w0 w : World} {p : Option Addr} {c : Nat} {xs : List α} {L : List Asn} (h : Now B w0 w (arr E p c xs :: L)) {q : Option Addr} {n2 c2 : Nat} {ys : List α} (hy : Reads E w q ys) (hl : n2 = ys.length) (hb : (xs ++ ys).length ≤ 1099511627776)
    {K : Option Addr → Nat → Nat → World → Prop} (k : ∀ p' c' w', Now B w0 w' (arr E p' c' (xs ++ ys) :: L) → K p' (xs ++ ys).length c' w') :
    ∃ x n c' w', (Builtin.append_ #[t, t] ty #[.slice p xs.length c, .slice q n2 c2]).run P w = .ok (.slice x n c') w' ∧ K x n c' w' := by
  subst hl
  cases q with
  | some a => exact h.append he hy hb k
  | none =>
    have hy' : ys = [] := hy
    subst hy'
    obtain ⟨hu, i, zv, hi, hz, hs, hzs, hby⟩ := he
    have h1 := h.hp.1.1
    have hk := k p c w (by simpa using h)
    refine ⟨p, xs.length, c, w, ?_, by simpa using hk⟩
    cases p with
    | none => simp [Builtin.append_, run_underlying hu, sizeOf, typeInfo, hi, Builtin.lenOf, Builtin.firstCells, h1]
    | some a => simp [Builtin.append_, run_underlying hu, sizeOf, typeInfo, hi, Builtin.lenOf, Builtin.firstCells, h1, storeCells]
def copyL {α : Type} (xs : List α) (lo n : Nat) (ys : List α) : List α := xs.mapIdx fun i x => if lo ≤ i ∧ i < lo + n then ys.getD (i - lo) x else x
@[simp] theorem copyL_length {α : Type} {xs ys : List α} {lo n : Nat} : (copyL xs lo n ys).length = xs.length := by unfold copyL; simp
theorem copyL_eq {α : Type} {xs ys : List α} {lo n : Nat} (h : lo + n ≤ xs.length) : copyL xs lo n ys = xs.take lo ++ ys.take n ++ xs.drop (lo + (ys.take n).length) := by
  apply List.ext_getElem
  · rw [copyL_length]; simp only [List.length_append, List.length_take, List.length_drop]; omega
  · intro i h1 h2
    rw [copyL_length] at h1
    simp only [copyL, List.getElem_mapIdx]
    have hlo : (xs.take lo).length = lo := by rw [List.length_take]; omega
    by_cases c1 : i < lo
    · rw [if_neg (by omega)]
      simp only [List.append_assoc]
      rw [List.getElem_append_left (by omega), List.getElem_take]
    · simp only [List.append_assoc]
      rw [List.getElem_append_right (by omega)]
      have hm := List.length_take (i := n) (l := ys)
      by_cases c2 : i - lo < (ys.take n).length
      · rw [List.getElem_append_left (by omega), List.getElem_take, if_pos (by omega), List.getD_eq_getElem?_getD, List.getElem?_eq_getElem (by omega)]
        simp [hlo]
      · rw [List.getElem_append_right (by omega), List.getElem_drop]
        have e : lo + (ys.take n).length + (i - (xs.take lo).length - (ys.take n).length) = i := by omega
        simp only [e]
        by_cases c3 : i < lo + n
        · rw [if_pos (by omega), List.getD_eq_getElem?_getD, List.getElem?_eq_none (by omega)]; rfl
        · rw [if_neg (by omega)]
theorem Reads.take {α : Type} {E : El α} {w : World} {a : Addr} {ys : List α} (h : Reads E w (some a) ys) (n : Nat) : Reads E w (some a) (ys.take n) := fun j v hv => h j v (by
  rw [E.row_take] at hv
  have hl := (List.getElem?_eq_some_iff.1 hv).1
  rwa [List.getElem?_take_of_lt (by simp at hl; omega)] at hv)
theorem RowAt.splice {w : World} {a : Addr} {m : Nat} {vs : List Value} (h : RowAt w a m vs) (lo : Nat) (us : List Value) (hl : lo + us.length ≤ vs.length) (hm : vs.length ≤ m) : RowAt (w.setCells a.block (a.off + lo) us) a m (vs.take lo ++ us ++ vs.drop (lo + us.length)) := by
  have hin := World.cell?_setCells_in a.block us (a.off + lo) w (by intro j hj; rw [Nat.add_assoc]; exact h.full _ (by omega))
  have hout : ∀ j, (j < lo ∨ lo + us.length ≤ j) → (w.setCells a.block (a.off + lo) us).cell? ⟨a.block, a.off + j, none⟩ = w.cell? ⟨a.block, a.off + j, none⟩ := fun j hj =>
    World.cell?_setCells_out a.block us (a.off + lo) w ⟨a.block, a.off + j, none⟩ (by intro _ _; simp; omega)
  have hfr : ∀ x, (w.setCells a.block (a.off + lo) us).frozen? x = w.frozen? x := World.frozen?_setCells a.block us (a.off + lo) w
  have hlt : (vs.take lo).length = lo := by rw [List.length_take]; omega
  refine ⟨h.spot, ?_, fun j u hu => ?_, fun j hj => ?_, fun j hj => by rw [hfr]; exact h.free j hj⟩
  · have := (Chg.setCells a.block us (a.off + lo) w).size; exact Nat.lt_of_lt_of_le h.lt this
  · by_cases h1 : j < lo
    · rw [List.append_assoc, List.getElem?_append_left (by omega), List.getElem?_take_of_lt h1] at hu
      rw [hout j (.inl h1)]; exact h.cell j u hu
    · rw [List.append_assoc, List.getElem?_append_right (by omega), hlt] at hu
      by_cases h2 : j < lo + us.length
      · rw [List.getElem?_append_left (by omega)] at hu
        have := hin (j - lo) (by omega)
        rw [show a.off + lo + (j - lo) = a.off + j by omega] at this
        rw [this]; rw [List.getElem?_eq_getElem (by omega)] at hu; exact hu
      · rw [List.getElem?_append_right (by omega), List.getElem?_drop, show lo + us.length + (j - lo - us.length) = j by omega] at hu
        rw [hout j (.inr (by omega))]; exact h.cell j u hu
  · by_cases h1 : lo ≤ j ∧ j < lo + us.length
    · have := hin (j - lo) (by omega)
      rw [show a.off + lo + (j - lo) = a.off + j by omega] at this
      rw [this]; rfl
    · rw [hout j (by omega)]; exact h.full j hj
theorem copy_core {α : Type} {E : El α} (hz : E.z = 1) {dT sT ty e : TypeId} (he : Elem P dT e E.z) {w : World} {p : Option Addr} {c : Nat} {xs : List α} (h : (arr E p c xs).holds w) {d q : Option Addr} {lo n dc m sc : Nat} {ys : List α} (hlo : lo + n ≤ xs.length)
    (hd : n = 0 ∨ ∃ a : Addr, p = some a ∧ d = some ⟨a.block, a.off + lo, none⟩) (hy : Reads E w q ys) (hm : m = ys.length) :
    ∃ w', (Builtin.copy_ #[dT, sT] ty #[.slice d n dc, .slice q m sc]).run P w = .ok (goInt (ys.take n).length) w' ∧ (arr E p c (copyL xs lo n ys)).holds w' ∧ Chg (arr E p c xs).foot w w' := by
  subst hm
  obtain ⟨hu, i, zv, hi, hzz, hs, hzs, hby⟩ := he
  have hs1 : (P.info? e).map (·.size) = some 1 := by rw [hi]; simp [hs, hz]
  have trivial_ : Nat.min ys.length n = 0 → ∃ w', (Builtin.copy_ #[dT, sT] ty #[.slice d n dc, .slice q ys.length sc]).run P w = .ok (goInt (ys.take n).length) w' ∧ (arr E p c (copyL xs lo n ys)).holds w' ∧ Chg (arr E p c xs).foot w w' := by
    intro h0
    have h0' : min ys.length n = 0 := h0
    have e1 : ys.take n = [] := List.eq_nil_of_length_eq_zero (by rw [List.length_take]; omega)
    have e2 : copyL xs lo n ys = xs := by rw [copyL_eq hlo, e1]; simp
    rw [e2, e1]
    exact ⟨w, run_copy_none (P := P) w dT sT ty e d q n dc ys.length sc hu hs1 h0, h, Chg.refl _ _⟩
  rcases hd with rfl | ⟨a, rfl, rfl⟩
  · exact trivial_ (by show min ys.length 0 = 0; omega)
  cases q with
  | none => exact trivial_ (by have hy' : ys = [] := hy; subst hy'; show min 0 n = 0; omega)
  | some s =>
    obtain ⟨h1, h2, h3⟩ := h
    have hrow : ∀ l : List α, (E.row l).length = l.length := fun l => by rw [E.row_length, hz, Nat.mul_one]
    have hlen : (E.row (ys.take n)).length = Nat.min ys.length n := by rw [hrow, List.length_take]; show min n ys.length = min ys.length n; omega
    have hle : (E.row (ys.take n)).length ≤ n := by rw [hlen]; show min ys.length n ≤ n; omega
    have hr := run_copy_cells (P := P) w dT sT ty e a.block (a.off + lo) n dc s ys.length sc (E.row (ys.take n)) hu hs1 hlen (fun j v hv => hy.take n j v hv)
      (fun j hj => by rw [Nat.add_assoc]; exact h3.full _ (by rw [hz]; omega)) (fun j hj => by rw [Nat.add_assoc]; exact h3.free _ (by rw [hz]; omega)) (E.row_one _)
    refine ⟨_, by rw [hr, hrow], ⟨by rw [copyL_length]; exact h1, h2, ?_⟩, (Chg.setCells a.block _ (a.off + lo) w).mono fun _ _ h => h⟩
    show RowAt _ a (c * E.z) (E.row (copyL xs lo n ys))
    have := h3.splice lo (E.row (ys.take n)) (by rw [hrow xs]; omega) (by rw [hrow, hz]; omega)
    have e1 : E.row (copyL xs lo n ys) = (E.row xs).take lo ++ E.row (ys.take n) ++ (E.row xs).drop (lo + (E.row (ys.take n)).length) := by
      rw [copyL_eq hlo, E.row_append, E.row_append, E.row_take xs, E.row_drop, hz, Nat.mul_one, Nat.mul_one, hrow (ys.take n)]
    rw [e1]; exact this
theorem Now.copyW {α : Type} {E : El α} (hz : E.z = 1) {dT sT ty e : TypeId} (he : Elem P dT e E.z) {B : Nat → Prop} {w0 w : World} {p : Option Addr} {c : Nat} {xs : List α} {L : List Asn} (h : Now B w0 w (arr E p c xs :: L)) {q : Option Addr} {m sc : Nat} {ys : List α} (hy : Reads E w q ys) (hm : m = ys.length)
    {K : Int → World → Prop} (k : ∀ w', Now B w0 w' (arr E p c (copyL xs 0 xs.length ys) :: L) → K ((ys.take xs.length).length : Nat) w') :
    ∃ x w', (Builtin.copy_ #[dT, sT] ty #[.slice p xs.length c, .slice q m sc]).run P w = .ok (.int .i64 x) w' ∧ K x w' := by
  have hsp : xs.length = 0 ∨ ∃ a : Addr, p = some a ∧ p = some ⟨a.block, a.off + 0, none⟩ := by
    obtain ⟨h1, h2, h3⟩ : (arr E p c xs).holds w := h.hp.1
    cases p with
    | none => subst h3; exact .inl (by omega)
    | some a => have := h3.spot; obtain ⟨b, o, s⟩ := a; simp at this; subst this; exact .inr ⟨_, rfl, rfl⟩
  obtain ⟨w', hr, ha, hc⟩ := copy_core (P := P) (ty := ty) (dc := c) (sc := sc) (sT := sT) hz he h.hp.1 (lo := 0) (n := xs.length) (by omega) hsp hy hm
  exact ⟨_, w', hr, k w' (h.upd ha hc fun _ h => .inl h)⟩
theorem Now.copyP {α : Type} {E : El α} (hz : E.z = 1) {dT sT ty e : TypeId} (he : Elem P dT e E.z) {B : Nat → Prop} {w0 w : World} {p : Option Addr} {c : Nat} {xs : List α} {L : List Asn} (h : Now B w0 w (arr E p c xs :: L)) {lo hi : Nat} (hh : lo ≤ hi ∧ hi ≤ xs.length) {q : Option Addr} {m sc : Nat} {ys : List α} (hy : Reads E w q ys) (hm : m = ys.length)
    {K : Int → World → Prop} (k : ∀ w', Now B w0 w' (arr E p c (copyL xs lo (hi - lo) ys) :: L) → K ((ys.take (hi - lo)).length : Nat) w') :
    ∃ x w', (Builtin.copy_ #[dT, sT] ty #[.slice (if c = lo then p else p.map (·.add (lo * 1))) (hi - lo) (c - lo), .slice q m sc]).run P w = .ok (.int .i64 x) w' ∧ K x w' := by
  have hsp : hi - lo = 0 ∨ ∃ a : Addr, p = some a ∧ (if c = lo then p else p.map (·.add (lo * 1))) = some ⟨a.block, a.off + lo, none⟩ := by
    obtain ⟨h1, h2, h3⟩ : (arr E p c xs).holds w := h.hp.1
    by_cases e : c = lo
    · exact .inl (by omega)
    · rw [if_neg e]
      cases p with
      | none => subst h3; exact .inl (by omega)
      | some a => exact .inr ⟨a, rfl, by simp only [Option.map_some, Nat.mul_one]; rw [at_add h3.spot]⟩
  obtain ⟨w', hr, ha, hc⟩ := copy_core (P := P) (ty := ty) (dc := c - lo) (sc := sc) (sT := sT) hz he h.hp.1 (lo := lo) (n := hi - lo) (by omega) hsp hy hm
  exact ⟨_, w', hr, k w' (h.upd ha hc fun _ h => .inl h)⟩
end
theorem Now.boxNil {α : Type} (E : El α) {B : Nat → Prop} {w0 w : World} {b : Nat} {cs : List Value} {t : TypeId} {L : List Asn} (h : Now B w0 w (box b cs t :: L)) : Now B w0 w (arr E (some ⟨b, 0, none⟩) 0 ([] : List α) :: L) :=
  h.upd (A' := arr E (some ⟨b, 0, none⟩) 0 ([] : List α)) ⟨Nat.le_refl _, Nat.zero_le _, rfl, (h.hp.1 : Blk w b cs t).lt, fun j v hv => by simp [El.row] at hv, fun j hj => by simp at hj, fun j hj => by simp at hj⟩ (Chg.refl _ _) fun _ hk => .inl hk
theorem partBL {loT hiT : Int} {lo hi n n' : Nat} (hn : n = n') (h1 : (decide (0 ≤ hiT) && decide (hiT ≤ ((n : Nat) : Int))) = true) (h2 : (decide (0 ≤ loT) && decide (loT ≤ hiT)) = true) (hlo : lo = loT.toNat) (hhi : hi = hiT.toNat) : lo ≤ hi ∧ hi ≤ n' := by
  subst hn; exact partB h1 h2 hlo hhi
theorem Now.front18 {B : Nat → Prop} {w0 w : World} {A0 A1 A2 A3 A4 A5 A6 A7 A8 A9 A10 A11 A12 A13 A14 A15 A16 A17 A18 : Asn} {L : List Asn} (h : Now B w0 w (A0 :: A1 :: A2 :: A3 :: A4 :: A5 :: A6 :: A7 :: A8 :: A9 :: A10 :: A11 :: A12 :: A13 :: A14 :: A15 :: A16 :: A17 :: A18 :: L)) : Now B w0 w (A18 :: A0 :: A1 :: A2 :: A3 :: A4 :: A5 :: A6 :: A7 :: A8 :: A9 :: A10 :: A11 :: A12 :: A13 :: A14 :: A15 :: A16 :: A17 :: L) := h.front 18
structure ElemN (P : Program) (t e : TypeId) (z N : Nat) : Prop where
  und : P.underlying t = some (.slice e)
  info : ∃ i zv, P.info? e = some i ∧ i.zero = some zv ∧ i.size = z ∧ zv.cells.size = z ∧ (N + N / 4 + 192) * i.bytes ≤ 281474976710656 ∧ N ≤ 9223372036854775807
theorem fitsN {N need old bytes : Nat} (h : old < need) (hn : need ≤ N) (hb : (N + N / 4 + 192) * bytes ≤ 281474976710656) : Builtin.nextslicecap need old * bytes ≤ 281474976710656 :=
  growslice_fits_wide h (Nat.le_trans (Nat.mul_le_mul_right _ (by omega)) hb)
theorem arr_appendN {P : Program} {α : Type} {E : El α} {t ty e : TypeId} {N : Nat} (he : ElemN P t e E.z N) {w : World} {p : Option Addr} {c : Nat} {xs : List α} (h : (arr E p c xs).holds w) {a : Addr} {c2 : Nat} {ys : List α} (hy : Reads E w (some a) ys) (hb : (xs ++ ys).length ≤ N) :
    ∃ p' c' w', (Builtin.append_ #[t, t] ty #[.slice p xs.length c, .slice (some a) ys.length c2]).run P w = .ok (.slice p' (xs ++ ys).length c') w' ∧ (arr E p' c' (xs ++ ys)).holds w' ∧ Chg (arr E p c xs).foot w w' ∧
      ∀ k, (arr E p' c' (xs ++ ys)).foot k → (arr E p c xs).foot k ∨ w.heap.size ≤ k := by
  obtain ⟨hu, i, zv, hi, hz, hs, hzs, hby, hN⟩ := he
  have hlen := List.length_append (as := xs) (bs := ys)
  have hrl := E.row_length ys
  have hcell : ∀ j u, (E.row ys)[j]? = some u → w.cell? (a.add j) = some u := fun j u hu => hy j u hu
  have h63 : xs.length + ys.length ≤ maxLen := by rw [← hlen]; unfold maxLen; omega
  have key : ∀ (b : Option Addr), (b = none → xs = [] ∧ c = 0) → (∀ b0, b = some b0 → ∀ j u, (E.row xs)[j]? = some u → w.cell? (b0.add j) = some u) → c < xs.length + ys.length →
      ∃ v' w', (Builtin.append_ #[t, t] ty #[.slice b xs.length c, .slice (some a) ys.length c2]).run P w = .ok v' w' ∧ w'.ownsRow w.heap.size e E.z v' (xs.length + ys.length) (E.row xs ++ E.row ys) ∧ w.grownBy w' none := by
    intro b hnone holds hg
    have hge := grownCap_ge w (xs.length + ys.length) c e
    have hcm : grownCap w (xs.length + ys.length) c e ≤ maxLen := grownCap_le_maxLen w (xs.length + ys.length) c e h63
    have hl2 : (E.row xs ++ E.row ys).length = (xs.length + ys.length) * E.z := by rw [List.length_append, E.row_length, hrl, Nat.add_mul]
    have hxl := E.row_length xs
    have hcap : ∀ (R : Array Value), R = (E.row xs).toArray ++ (E.row ys).toArray ++ Builtin.zeroCells zv.cells (grownCap w (xs.length + ys.length) c e - (xs.length + ys.length)) →
        (w.drew.alloc (.cells R e)).ownsRow w.heap.size e E.z (.slice (some ⟨w.heap.size, 0, none⟩) (xs.length + ys.length) (grownCap w (xs.length + ys.length) c e)) (xs.length + ys.length) (E.row xs ++ E.row ys) ∧ w.grownBy (w.drew.alloc (.cells R e)) none := by
      rintro R rfl
      refine ⟨⟨hl2, .inr ⟨w.heap.size, _, _, rfl, Nat.le_refl _, heap_alloc_new w.drew _, hge, hcm, ?_, ?_⟩⟩, ⟨rfl, rfl, rfl, by simp, fun k hk _ => RowKit.Below.heap_alloc w.drew _ k hk⟩⟩
      · simp only [Array.size_append, List.size_toArray, size_zeroCells, hzs, hxl, hrl, ← Nat.add_mul]
        congr 1
        omega
      · simp only [Array.toList_append, List.append_assoc]
        rw [← List.append_assoc, ← hl2]
        exact List.take_left
    cases b with
    | none =>
      obtain ⟨hx, hc⟩ := hnone rfl
      subst hx; subst hc
      have hr := run_append_nil (P := P) w t ty e i zv hu hi hz a ys.length c2 (E.row ys) (by rw [hs]; exact hrl) hcell (by simpa using hg) (by simp at hb; omega)
        (by have := fitsN (old := 0) (need := ys.length) (by simpa using hg) (by simpa using hb) hby; rwa [nextslicecap_zero (by simpa using hg)] at this)
      have := hcap _ rfl
      simp only [List.length_nil, Nat.zero_add] at this
      refine ⟨_, _, hr, ?_, ?_⟩
      · simpa [El.row] using this.1
      · simpa [El.row] using this.2
    | some b0 =>
      have hr := run_append_grow (P := P) w t ty e i zv hu hi hz b0 xs.length c (E.row xs) (by rw [hs]; exact hxl) (holds b0 rfl) a ys.length c2 (E.row ys) (by rw [hs]; exact hrl) hcell hg (by omega) (fitsN hg (by omega) hby)
      exact ⟨_, _, hr, hcap _ rfl⟩
  cases p with
  | none =>
    obtain ⟨h1, h2, h3⟩ := h
    subst h3
    have hx : xs = [] := List.eq_nil_of_length_eq_zero (by omega)
    subst hx
    by_cases hy0 : ys = []
    · subst hy0
      refine ⟨none, 0, w, ?_, ⟨Nat.le_refl _, h2, rfl⟩, Chg.refl _ _, fun k hk => hk.elim⟩
      have hl0 : (loadCells a 0).run P w = .ok #[] w := by simpa using run_loadCells_list (P := P) w a [] (by simp)
      simp [Builtin.append_, run_underlying hu, sizeOf, typeInfo, hi, Builtin.lenOf, Builtin.firstCells, hl0, Result.andThen]
    · have hpos : 0 < ys.length := List.length_pos_iff.2 hy0
      obtain ⟨v', w', hr, ho, hg⟩ := key none (fun _ => ⟨rfl, rfl⟩) (fun _ h => by cases h) (by simpa using hpos)
      rw [← E.row_append, ← hlen] at ho
      obtain ⟨p', c', rfl, ha, hf⟩ := of_ownsRow ho
      exact ⟨p', c', w', hr, ha, (Chg.grown hg).mono fun _ _ h => h.elim, fun k hk => .inr (hf k hk)⟩
  | some b =>
    obtain ⟨h1, h2, h3⟩ := h
    by_cases hroom : xs.length + ys.length ≤ c
    · obtain ⟨bb, bo, bs⟩ := b
      obtain rfl : bs = none := h3.spot
      have hx := E.row_length xs
      have hm : xs.length * E.z + ys.length * E.z ≤ c * E.z := by rw [← Nat.add_mul]; exact Nat.mul_le_mul_right _ hroom
      have hr := run_append_room_cells (P := P) w t ty e i hu hi bb bo xs.length c a ys.length c2 (E.row ys) (by rw [hs]; exact hrl) hcell (E.row_one ys) hroom
        (fun j hj => by rw [hs, Nat.add_assoc]; exact h3.full _ (by omega)) (fun j hj => by rw [hs, Nat.add_assoc]; exact h3.free _ (by omega))
      have hset := h3.sets (E.row ys) (by omega)
      refine ⟨some ⟨bb, bo, none⟩, c, _, by rw [hlen]; exact hr, ⟨by rw [hlen]; exact hroom, h2, ?_⟩, (Chg.setCells bb _ _ w).mono fun _ _ h => h, fun k hk => .inl hk⟩
      show RowAt _ _ _ (E.row (xs ++ ys))
      rw [E.row_append, hs, ← hx]
      exact hset
    · obtain ⟨v', w', hr, ho, hg⟩ := key (some b) (fun h => by cases h) (fun b0 e0 j u hu => by cases e0; rw [at_add h3.spot]; exact h3.cell j u hu) (by omega)
      rw [← E.row_append, ← hlen] at ho
      obtain ⟨p', c', rfl, ha, hf⟩ := of_ownsRow ho
      exact ⟨p', c', w', hr, ha, (Chg.grown hg).mono fun _ _ h => h.elim, fun k hk => .inr (hf k hk)⟩
theorem Now.appendN {P : Program} {α : Type} {E : El α} {t ty e : TypeId} {N : Nat} (he : ElemN P t e E.z N) {B : Nat → Prop} {w0 w : World} {p : Option Addr} {c : Nat} {xs : List α} {L : List Asn} (h : Now B w0 w (arr E p c xs :: L)) {q : Option Addr} {n2 c2 : Nat} {ys : List α} (hy : Reads E w q ys) (hl : n2 = ys.length) (hb : (xs ++ ys).length ≤ N)
    {K : Option Addr → Nat → Nat → World → Prop} (k : ∀ p' c' w', Now B w0 w' (arr E p' c' (xs ++ ys) :: L) → K p' (xs ++ ys).length c' w') :
    ∃ x n c' w', (Builtin.append_ #[t, t] ty #[.slice p xs.length c, .slice q n2 c2]).run P w = .ok (.slice x n c') w' ∧ K x n c' w' := by
  subst hl
  cases q with
  | some a =>
    obtain ⟨p', c', w', hr, ha, hc, hf⟩ := arr_appendN (ty := ty) (c2 := c2) he h.hp.1 hy hb
    exact ⟨p', _, c', w', hr, k p' c' w' (h.upd ha hc hf)⟩
  | none =>
    have hy' : ys = [] := hy
    subst hy'
    obtain ⟨hu, i, zv, hi, hz, hs, hzs, hby, hN⟩ := he
    have h1 := h.hp.1.1
    have hk := k p c w (by simpa using h)
    refine ⟨p, xs.length, c, w, ?_, by simpa using hk⟩
    cases p with
    | none => simp [Builtin.append_, run_underlying hu, sizeOf, typeInfo, hi, Builtin.lenOf, Builtin.firstCells, h1]
    | some a => simp [Builtin.append_, run_underlying hu, sizeOf, typeInfo, hi, Builtin.lenOf, Builtin.firstCells, h1, storeCells]
theorem Now.appendX {P : Program} {α : Type} {E : El α} {t ty e : TypeId} {N : Nat} (he : ElemN P t e E.z N) {B : Nat → Prop} {w0 w : World} {L : List Asn} (h : Now B w0 w L) {p q : Option Addr} {n1 c1 n2 c2 : Nat} {xs ys : List α} (hx : Reads E w p xs) (hn : n1 = xs.length) (hc : c1 = xs.length) (hp : 0 < xs.length) (hy : Reads E w q ys) (hl : n2 = ys.length) (hne : 0 < ys.length) (hb : (xs ++ ys).length ≤ N)
    {K : Option Addr → Nat → Nat → World → Prop} (k : ∀ p' c' w', Now B w0 w' (arr E p' c' (xs ++ ys) :: L) → K p' (xs ++ ys).length c' w') :
    ∃ x n c' w', (Builtin.append_ #[t, t] ty #[.slice p n1 c1, .slice q n2 c2]).run P w = .ok (.slice x n c') w' ∧ K x n c' w' := by
  subst hn; subst hl; subst hc
  obtain ⟨hu, i, zv, hi, hz, hs, hzs, hby, hN⟩ := he
  have hlen := List.length_append (as := xs) (bs := ys)
  cases q with
  | none => have hy' : ys = [] := hy; subst hy'; simp at hne
  | some a =>
  cases p with
  | none => have hx' : xs = [] := hx; subst hx'; simp at hp
  | some b0 =>
    have hrl := E.row_length ys
    have hxl := E.row_length xs
    have hge := grownCap_ge w (xs.length + ys.length) xs.length e
    have h63 : xs.length + ys.length ≤ maxLen := by rw [← hlen]; unfold maxLen; omega
    have hcm : grownCap w (xs.length + ys.length) xs.length e ≤ maxLen := grownCap_le_maxLen w (xs.length + ys.length) xs.length e h63
    have hl2 : (E.row xs ++ E.row ys).length = (xs.length + ys.length) * E.z := by rw [List.length_append, hxl, hrl, Nat.add_mul]
    have hr := run_append_grow (P := P) w t ty e i zv hu hi hz b0 xs.length xs.length (E.row xs) (by rw [hs]; exact hxl) (fun j v hv => hx j v hv) a ys.length c2 (E.row ys) (by rw [hs]; exact hrl) (fun j v hv => hy j v hv) (by omega) (by omega) (fitsN (by omega) (by omega) hby)
    have ho : (w.drew.alloc (.cells ((E.row xs).toArray ++ (E.row ys).toArray ++ Builtin.zeroCells zv.cells (grownCap w (xs.length + ys.length) xs.length e - (xs.length + ys.length))) e)).ownsRow w.heap.size e E.z (.slice (some ⟨w.heap.size, 0, none⟩) (xs.length + ys.length) (grownCap w (xs.length + ys.length) xs.length e)) (xs.length + ys.length) (E.row xs ++ E.row ys) := by
      refine ⟨hl2, .inr ⟨w.heap.size, _, _, rfl, Nat.le_refl _, heap_alloc_new w.drew _, hge, hcm, ?_, ?_⟩⟩
      · simp only [Array.size_append, List.size_toArray, size_zeroCells, hzs, hxl, hrl, ← Nat.add_mul]
        congr 1
        omega
      · simp only [Array.toList_append, List.append_assoc]
        rw [← List.append_assoc, ← hl2]
        exact List.take_left
    rw [← E.row_append, ← hlen] at ho
    rw [← hlen] at hr
    obtain ⟨p', c', hv, ha, hf⟩ := of_ownsRow ho
    rw [hlen] at hv
    rw [hlen] at hr
    rw [hv] at hr
    refine ⟨_, _, _, _, hr, ?_⟩
    have hk := k p' c' _ (h.add ha (Chg.mono (Chg.trans (B := fun _ => False) (Chg.drewN _ w 1) (Chg.alloc _ w.drew _)) fun _ _ h => h) fun j hj => hf j hj)
    rw [hlen] at hk
    exact hk
structure MidA (P : Program) (t : TypeId) (n : Nat) : Prop where
  und : ∃ d, P.underlying t = some d ∧ d.isRow = true
  size : (P.info? t).map (·.size) = some n
structure IxA (P : Program) (t : TypeId) (k : IntKind) (n : Nat) : Prop where
  und : ∃ e, P.underlying t = some (.array n e) ∧ P.underlying e = some (.int k) ∧ sz? P e = some 1
end Go.Vc
