/-
  Slices that are owned: a row of typed elements.
-/
import Derived.Test.YtcgigdfahlmfaaaGreatDoorHp
import Derived.Test.YtcgigdfahlmfaaaGreatDoorStr
namespace Go.Vc
open Go
set_option linter.unusedVariables false
structure El (α : Type) where
  z : Nat
  pos : 0 < z
  enc : α → List Value
  len : ∀ x, (enc x).length = z
  one : ∀ x, ∀ v ∈ enc x, v.oneCell' = true
def elI (k : IntKind) : El Int := ⟨1, by decide, fun n => [.int k n], fun _ => rfl, fun _ v h => by simp at h; subst h; rfl⟩
def elS : El ByteArray := ⟨1, by decide, fun n => [.string n], fun _ => rfl, fun _ v h => by simp at h; subst h; rfl⟩
instance : Inhabited ByteArray := ⟨⟨#[]⟩⟩
def El.row {α : Type} (E : El α) : List α → List Value
  | [] => []
  | x :: l => E.enc x ++ E.row l
theorem El.row_length {α : Type} (E : El α) : ∀ l : List α, (E.row l).length = l.length * E.z
  | [] => by simp [El.row]
  | x :: l => by simp [El.row, E.len, E.row_length l, Nat.add_mul, Nat.add_comm]
theorem El.row_append {α : Type} (E : El α) : ∀ l m : List α, E.row (l ++ m) = E.row l ++ E.row m
  | [], m => rfl
  | x :: l, m => by simp [El.row, E.row_append l m, List.append_assoc]
theorem El.row_one {α : Type} (E : El α) : ∀ (l : List α), ∀ v ∈ E.row l, v.oneCell' = true
  | [], v, h => by cases h
  | x :: l, v, h => (List.mem_append.1 h).elim (E.one x v) (E.row_one l v)
theorem El.row_get {α : Type} (E : El α) : ∀ (l : List α) (i j : Nat) (h : i < l.length), j < E.z → (E.row l)[i * E.z + j]? = (E.enc l[i])[j]?
  | x :: l, 0, j, h, hj => by simp [El.row, List.getElem?_append_left (show j < (E.enc x).length by rw [E.len]; exact hj)]
  | x :: l, i + 1, j, h, hj => by
    have h' : i < l.length := by simpa using h
    rw [show (i + 1) * E.z + j = (E.enc x).length + (i * E.z + j) by rw [E.len, Nat.add_mul]; omega]
    simp only [El.row, List.getElem?_append_right (Nat.le_add_right _ _), Nat.add_sub_cancel_left]
    exact E.row_get l i j h' hj
theorem El.row_set {α : Type} (E : El α) : ∀ (l : List α) (i j : Nat) (h : i < l.length) (hj : j < E.z) (x : α) (v : Value), E.enc x = (E.enc l[i]).set j v → E.row (l.set i x) = (E.row l).set (i * E.z + j) v
  | y :: l, 0, j, h, hj, x, v, e => by
    simp at e
    simp [El.row, e, E.len, hj]
  | y :: l, i + 1, j, h, hj, x, v, e => by
    have h' : i < l.length := by simpa using h
    have := E.row_set l i j h' hj x v (by simpa using e)
    simp only [List.set_cons_succ, El.row, this]
    rw [List.set_append_right _ _ (by rw [E.len, Nat.add_mul]; omega)]
    congr 2
    rw [E.len, Nat.add_mul]; omega
theorem El.row_drop {α : Type} (E : El α) : ∀ (l : List α) (i : Nat), E.row (l.drop i) = (E.row l).drop (i * E.z)
  | [], i => by simp [El.row]
  | x :: l, 0 => by simp
  | x :: l, i + 1 => by
    rw [List.drop_succ_cons, E.row_drop l i, show (i + 1) * E.z = (E.enc x).length + i * E.z by rw [E.len, Nat.add_mul]; omega]
    simp [El.row]
theorem El.row_take {α : Type} (E : El α) : ∀ (l : List α) (i : Nat), E.row (l.take i) = (E.row l).take (i * E.z)
  | [], i => by simp [El.row]
  | x :: l, 0 => by simp [El.row]
  | x :: l, i + 1 => by
    rw [List.take_succ_cons, show (i + 1) * E.z = (E.enc x).length + i * E.z by rw [E.len, Nat.add_mul]; omega]
    simp [El.row, E.row_take l i, List.take_length_add_append]
def ixL {α : Type} [Inhabited α] (l : List α) (i : Int) : α := l.getD i.toNat default
theorem ixL_eq {α : Type} [Inhabited α] {l : List α} {i : Int} (h : i.toNat < l.length) : ixL l i = l[i.toNat] := by
  unfold ixL; simp [List.getD_eq_getElem?_getD, List.getElem?_eq_getElem h]
structure RowAt (w : World) (a : Addr) (m : Nat) (vs : List Value) : Prop where
  spot : a.spot = none
  lt : a.block < w.heap.size
  cell : ∀ j v, vs[j]? = some v → w.cell? ⟨a.block, a.off + j, none⟩ = some v
  full : ∀ j, j < m → (w.cell? ⟨a.block, a.off + j, none⟩).isSome = true
  free : ∀ j, j < m → w.frozen? ⟨a.block, a.off + j, none⟩ = false
theorem RowAt.keep {w w' : World} {a : Addr} {m : Nat} {vs : List Value} (h : RowAt w a m vs) (hk : w'.heap[a.block]? = w.heap[a.block]?) : RowAt w' a m vs := by
  have e1 : ∀ j, w'.cell? ⟨a.block, j, none⟩ = w.cell? ⟨a.block, j, none⟩ := fun j => by unfold World.cell?; rw [hk]
  have e2 : ∀ j, w'.frozen? ⟨a.block, j, none⟩ = w.frozen? ⟨a.block, j, none⟩ := fun j => by unfold World.frozen?; rw [hk]
  exact ⟨h.spot, heap_lt hk h.lt, fun j v hv => by rw [e1]; exact h.cell j v hv, fun j hj => by rw [e1]; exact h.full j hj, fun j hj => by rw [e2]; exact h.free j hj⟩
theorem at_add {a : Addr} (h : a.spot = none) (j : Nat) : a.add j = ⟨a.block, a.off + j, none⟩ := by
  unfold Addr.add; split
  · subst_vars; cases a; simp at h; subst h; rfl
  · rfl
def arr {α : Type} (E : El α) (p : Option Addr) (c : Nat) (xs : List α) : Asn where
  holds w := xs.length ≤ c ∧ c ≤ maxLen ∧ match p with | none => c = 0 | some a => RowAt w a (c * E.z) (E.row xs)
  foot k := match p with | none => False | some a => k = a.block
  keep := by
    intro w w' hk ⟨h1, h2, h3⟩
    refine ⟨h1, h2, ?_⟩
    cases p with
    | none => exact h3
    | some a => exact h3.keep (hk _ rfl)
  lt := by
    intro w ⟨h1, h2, h3⟩ k hk
    cases p with
    | none => exact hk.elim
    | some a => subst hk; exact h3.lt
theorem RowAt.set {w : World} {a : Addr} {m : Nat} {vs : List Value} (h : RowAt w a m vs) {o : Nat} (ho : o < vs.length) (hm : o < m) (v : Value) : RowAt (w.setCell ⟨a.block, a.off + o, none⟩ v) a m (vs.set o v) := by
  have hin := World.cell?_setCells_in a.block [v] (a.off + o) w (by intro j hj; simp at hj; subst hj; exact h.full o hm) 0 (by simp)
  have hout : ∀ j, j ≠ o → (w.setCell ⟨a.block, a.off + o, none⟩ v).cell? ⟨a.block, a.off + j, none⟩ = w.cell? ⟨a.block, a.off + j, none⟩ := fun j hj =>
    World.cell?_setCells_out a.block [v] (a.off + o) w ⟨a.block, a.off + j, none⟩ (by intro _ _; simp; omega)
  have hfr : ∀ x, (w.setCell ⟨a.block, a.off + o, none⟩ v).frozen? x = w.frozen? x := World.frozen?_setCells a.block [v] (a.off + o) w
  refine ⟨h.spot, ?_, fun j u hu => ?_, fun j hj => ?_, fun j hj => by rw [hfr]; exact h.free j hj⟩
  · have := (Chg.setCell w a.block (a.off + o) v).size; exact Nat.lt_of_lt_of_le h.lt this
  · by_cases hjo : j = o
    · subst hjo
      rw [List.getElem?_set_self ho] at hu; cases hu
      exact hin
    · rw [List.getElem?_set_ne (Ne.symm hjo)] at hu
      rw [hout j hjo]; exact h.cell j u hu
  · by_cases hjo : j = o
    · subst hjo; have e : (w.setCell ⟨a.block, a.off + j, none⟩ v).cell? ⟨a.block, a.off + j, none⟩ = some v := hin
      rw [e]; rfl
    · rw [hout j hjo]; exact h.full j hj
theorem Now.arrSt {α : Type} [Inhabited α] {E : El α} {B : Nat → Prop} {w0 w : World} {p : Option Addr} {c : Nat} {xs : List α} {L : List Asn} {K : World → Prop} (h : Now B w0 w (arr E p c xs :: L)) {a : Addr} (ha : p = some a) {i : Int} (h0 : 0 ≤ i) (h1 : i < ((xs.length : Nat) : Int))
    (j : Nat) (hj : decide (j < E.z) = true) (x : α) (v : Value) (e : E.enc x = (E.enc (ixL xs i)).set j v) (k : ∀ w', Now B w0 w' (arr E p c (xs.set i.toNat x) :: L) → K w') : Go.Vc.St w ((a.add (i.toNat * E.z)).add j) v K := by
  subst ha
  obtain ⟨h2, h3, h4⟩ : (arr E (some a) c xs).holds w := h.hp.1
  have hi : i.toNat < xs.length := by omega
  have hj' : j < E.z := of_decide_eq_true hj
  rw [ixL_eq hi] at e
  have hrow : i.toNat * E.z + j < (E.row xs).length := by
    rw [E.row_length]
    have : (i.toNat + 1) * E.z ≤ xs.length * E.z := Nat.mul_le_mul_right _ hi
    rw [Nat.add_mul] at this; omega
  have hrow' : i.toNat * E.z + j < c * E.z := by
    have : xs.length * E.z ≤ c * E.z := Nat.mul_le_mul_right _ h2
    rw [E.row_length] at hrow; omega
  rw [at_add h4.spot, at_add rfl]
  show Go.Vc.St w ⟨a.block, a.off + i.toNat * E.z + j, none⟩ v K
  rw [Nat.add_assoc]
  refine ⟨Option.isSome_iff_exists.1 (h4.full _ hrow'), h4.free _ hrow', k _ (h.upd ?_ (Chg.setCell w a.block _ v) fun _ h => .inl h)⟩
  refine ⟨by simpa using h2, h3, ?_⟩
  show RowAt _ a (c * E.z) (E.row (xs.set i.toNat x))
  rw [E.row_set xs i.toNat j hi hj' x v e]
  exact h4.set hrow hrow' v
theorem arr_part {α : Type} {E : El α} {p : Option Addr} {c : Nat} {xs : List α} {w : World} (h : (arr E p c xs).holds w) {lo hi : Nat} (h1 : lo ≤ hi) (h2 : hi ≤ xs.length) :
    (arr E (if c = lo then p else p.map (·.add (lo * E.z))) (c - lo) ((xs.drop lo).take (hi - lo))).holds w := by
  obtain ⟨h3, h4, h5⟩ := h
  refine ⟨by simp; omega, by omega, ?_⟩
  cases p with
  | none => subst h5; simp
  | some a =>
    by_cases hc : c = lo
    · rw [if_pos hc]
      have e : (xs.drop lo).take (hi - lo) = [] := by
        have : xs.drop lo = [] := List.drop_eq_nil_of_le (by omega)
        rw [this]; simp
      rw [e, show (c - lo) * E.z = 0 by rw [hc]; simp]
      exact ⟨h5.spot, h5.lt, fun j v hv => by simp [El.row] at hv, fun j hj => absurd hj (Nat.not_lt_zero _), fun j hj => absurd hj (Nat.not_lt_zero _)⟩
    · rw [if_neg hc]
      show RowAt w (a.add (lo * E.z)) _ _
      rw [at_add h5.spot]
      have hm : lo * E.z + (c - lo) * E.z = c * E.z := by rw [← Nat.add_mul]; congr 1; omega
      refine ⟨rfl, h5.lt, fun j v hv => ?_, fun j hj => ?_, fun j hj => ?_⟩
      · show w.cell? ⟨a.block, a.off + lo * E.z + j, none⟩ = some v
        rw [Nat.add_assoc]
        refine h5.cell _ _ ?_
        rw [E.row_take, E.row_drop] at hv
        have hl := (List.getElem?_eq_some_iff.1 hv).1
        rw [List.getElem?_take_of_lt (by simp at hl; omega), List.getElem?_drop] at hv
        exact hv
      · show (w.cell? ⟨a.block, a.off + lo * E.z + j, none⟩).isSome = true
        rw [Nat.add_assoc]; exact h5.full _ (by omega)
      · show w.frozen? ⟨a.block, a.off + lo * E.z + j, none⟩ = false
        rw [Nat.add_assoc]; exact h5.free _ (by omega)
theorem arr_part_foot {α : Type} {E : El α} {p : Option Addr} {c : Nat} {xs ys : List α} {lo : Nat} {k : Nat} (h : (arr E (if c = lo then p else p.map (·.add (lo * E.z))) (c - lo) ys).foot k) : (arr E p c xs).foot k := by
  cases p with
  | none => revert h; split <;> exact fun h => h
  | some a =>
    revert h; split
    · exact fun h => h
    · intro h
      have h' : k = (a.add (lo * E.z)).block := h
      rw [h']; unfold Addr.add; split <;> rfl
theorem Now.part {α : Type} {E : El α} {B : Nat → Prop} {w0 w : World} {p : Option Addr} {c : Nat} {xs : List α} {L : List Asn} (h : Now B w0 w (arr E p c xs :: L)) {z : Nat} (hz : E.z = z) (lo hi : Nat) (h1 : lo ≤ hi) (h2 : hi ≤ xs.length) :
    Now B w0 w (arr E (if c = lo then p else p.map (·.add (lo * z))) (c - lo) ((xs.drop lo).take (hi - lo)) :: L) := by
  subst hz
  exact h.upd (arr_part h.hp.1 h1 h2) (Chg.refl _ _) fun _ hk => .inl (arr_part_foot hk)
theorem arr_nil {α : Type} (E : El α) (w : World) : (arr E none 0 ([] : List α)).holds w := ⟨Nat.le_refl _, Nat.zero_le _, rfl⟩
theorem Now.nil {α : Type} {B : Nat → Prop} {w0 w : World} {L : List Asn} (h : Now B w0 w L) (E : El α) : Now B w0 w (arr E none 0 ([] : List α) :: L) :=
  h.add (arr_nil E w) (Chg.refl _ _) fun _ hk => hk.elim
theorem box_arr {α : Type} {E : El α} {b : Nat} {cs : List Value} {t : TypeId} {xs : List α} {w : World} (h : Blk w b cs t) (e : cs = E.row xs) (hl : xs.length ≤ maxLen) : (arr E (some ⟨b, 0, none⟩) xs.length xs).holds w := by
  subst e
  refine ⟨Nat.le_refl _, hl, rfl, h.lt, fun j v hv => ?_, fun j hj => ?_, fun j _ => ?_⟩
  · show w.cell? ⟨b, 0 + j, none⟩ = _
    rw [h.cell, Nat.zero_add]; exact hv
  · show (w.cell? ⟨b, 0 + j, none⟩).isSome = true
    rw [h.cell, Nat.zero_add, List.getElem?_eq_getElem (by rw [E.row_length]; exact hj)]; rfl
  · exact h.free _
theorem Now.boxArr {α : Type} (E : El α) {B : Nat → Prop} {w0 w : World} {b : Nat} {cs : List Value} {t : TypeId} {L : List Asn} (h : Now B w0 w (box b cs t :: L)) (xs : List α) (e : cs = E.row xs) (hl : xs.length ≤ maxLen) : Now B w0 w (arr E (some ⟨b, 0, none⟩) xs.length xs :: L) :=
  h.upd (box_arr h.hp.1 e hl) (Chg.refl _ _) fun _ hk => .inl hk
structure Elem (P : Program) (t e : TypeId) (z : Nat) : Prop where
  und : P.underlying t = some (.slice e)
  info : ∃ i zv, P.info? e = some i ∧ i.zero = some zv ∧ i.size = z ∧ zv.cells.size = z ∧ i.bytes ≤ 128
def Reads {α : Type} (E : El α) (w : World) (p : Option Addr) (ys : List α) : Prop := match p with | none => ys = [] | some a => ∀ j v, (E.row ys)[j]? = some v → w.cell? (a.add j) = some v
theorem add_add (a : Addr) (x y : Nat) : (a.add x).add y = a.add (x + y) := by
  unfold Addr.add
  by_cases hx : x = 0
  · subst hx; simp
  · by_cases hy : y = 0
    · subst hy; simp
    · simp [hx, hy, Nat.add_assoc]
theorem arr_reads {α : Type} {E : El α} {p : Option Addr} {c : Nat} {xs : List α} {w : World} (h : (arr E p c xs).holds w) : Reads E w p xs := by
  obtain ⟨h1, h2, h3⟩ := h
  cases p with
  | none => subst h3; exact List.eq_nil_of_length_eq_zero (by omega)
  | some a => exact fun j v hv => by rw [at_add h3.spot]; exact h3.cell j v hv
theorem box_reads {α : Type} {E : El α} {b : Nat} {cs : List Value} {t : TypeId} {xs : List α} {w : World} (h : Blk w b cs t) (e : cs = E.row xs) : Reads E w (some ⟨b, 0, none⟩) xs := by
  subst e
  exact fun j v hv => by rw [at_add rfl, Nat.zero_add]; exact (h.cell j).trans hv
theorem RowAt.sets {w : World} {a : Addr} {m : Nat} {vs : List Value} (h : RowAt w a m vs) (us : List Value) (hm : vs.length + us.length ≤ m) : RowAt (w.setCells a.block (a.off + vs.length) us) a m (vs ++ us) := by
  have hin := World.cell?_setCells_in a.block us (a.off + vs.length) w (by intro j hj; rw [Nat.add_assoc]; exact h.full _ (by omega))
  have hout : ∀ j, (j < vs.length ∨ vs.length + us.length ≤ j) → (w.setCells a.block (a.off + vs.length) us).cell? ⟨a.block, a.off + j, none⟩ = w.cell? ⟨a.block, a.off + j, none⟩ := fun j hj =>
    World.cell?_setCells_out a.block us (a.off + vs.length) w ⟨a.block, a.off + j, none⟩ (by intro _ _; show a.off + j < _ ∨ _ ≤ a.off + j; omega)
  have hfr : ∀ x, (w.setCells a.block (a.off + vs.length) us).frozen? x = w.frozen? x := World.frozen?_setCells a.block us (a.off + vs.length) w
  have hsz : w.heap.size ≤ (w.setCells a.block (a.off + vs.length) us).heap.size := by
    have : ∀ (us : List Value) (o : Nat) (w : World), (w.setCells a.block o us).heap.size = w.heap.size := by
      intro us; induction us with
      | nil => intro o w; rfl
      | cons v r ih => intro o w; show ((w.setCell _ v).setCells a.block (o + 1) r).heap.size = _; rw [ih]; simp [World.setCell]
    rw [this]; exact Nat.le_refl _
  refine ⟨h.spot, Nat.lt_of_lt_of_le h.lt hsz, fun j u hu => ?_, fun j hj => ?_, fun j hj => by rw [hfr]; exact h.free j hj⟩
  · by_cases hj : j < vs.length
    · rw [List.getElem?_append_left hj] at hu; rw [hout j (.inl hj)]; exact h.cell j u hu
    · rw [List.getElem?_append_right (by omega)] at hu
      obtain ⟨hl, e⟩ := List.getElem?_eq_some_iff.1 hu
      have := hin (j - vs.length) hl
      rw [show a.off + vs.length + (j - vs.length) = a.off + j by omega] at this
      rw [this, ← e]
  · by_cases hj2 : j < vs.length ∨ vs.length + us.length ≤ j
    · rw [hout j hj2]; exact h.full j hj
    · have := hin (j - vs.length) (by omega)
      rw [show a.off + vs.length + (j - vs.length) = a.off + j by omega] at this
      rw [this]; rfl
theorem Chg.setCells (b : Nat) : ∀ (us : List Value) (o : Nat) (w : World), Chg (· = b) w (w.setCells b o us)
  | [], _, w => Chg.refl _ w
  | v :: r, o, w => (Chg.setCell w b o v).trans (Chg.setCells b r (o + 1) _)
theorem of_ownsRow {α : Type} {E : El α} {w : World} {base : Nat} {e : TypeId} {v : Value} {xs : List α} (h : w.ownsRow base e E.z v xs.length (E.row xs)) :
    ∃ p c, v = .slice p xs.length c ∧ (arr E p c xs).holds w ∧ ∀ k, (arr E p c xs).foot k → base ≤ k := by
  rcases h.2 with ⟨rfl, h0⟩ | ⟨g, cap, cur, rfl, hb, hg, h1, h2, h3, h4⟩
  · have : xs = [] := List.eq_nil_of_length_eq_zero h0
    subst this
    exact ⟨none, 0, rfl, arr_nil E w, fun _ hk => hk.elim⟩
  · have hlt : g < w.heap.size := by
      rcases Nat.lt_or_ge g w.heap.size with h' | h'
      · exact h'
      · rw [Array.getElem?_eq_none h'] at hg; cases hg
    have hc : ∀ o, w.cell? ⟨g, o, none⟩ = cur[o]? := fun o => by simp [World.cell?, hg]
    have hf : ∀ o, w.frozen? ⟨g, o, none⟩ = false := fun o => by simp [World.frozen?, hg]
    refine ⟨some ⟨g, 0, none⟩, cap, rfl, ⟨h1, h2, rfl, hlt, fun j v hv => ?_, fun j hj => ?_, fun j hj => ?_⟩, fun k hk => by cases hk; exact hb⟩
    · show w.cell? ⟨g, 0 + j, none⟩ = _
      rw [hc, Nat.zero_add]
      rw [← h4] at hv
      have hl := (List.getElem?_eq_some_iff.1 hv).1
      rw [List.getElem?_take_of_lt (by simp at hl; omega)] at hv
      simpa using hv
    · show (w.cell? ⟨g, 0 + j, none⟩).isSome = true
      rw [hc, Nat.zero_add, Array.getElem?_eq_getElem (by omega)]; rfl
    · show w.frozen? ⟨g, 0 + j, none⟩ = false
      exact hf _
theorem Chg.grown {w w' : World} (h : w.grownBy w' none) : Chg (fun _ => False) w w' := ⟨h.1, h.2, h.3, h.4, fun k hk _ => h.5 k hk (by simp)⟩
section
variable {P : Program}
theorem arr_append {α : Type} {E : El α} {t ty e : TypeId} (he : Elem P t e E.z) {w : World} {p : Option Addr} {c : Nat} {xs : List α} (h : (arr E p c xs).holds w) {a : Addr} {c2 : Nat} {ys : List α} (hy : Reads E w (some a) ys) (hb : (xs ++ ys).length ≤ 1099511627776) :
    ∃ p' c' w', (Builtin.append_ #[t, t] ty #[.slice p xs.length c, .slice (some a) ys.length c2]).run P w = .ok (.slice p' (xs ++ ys).length c') w' ∧ (arr E p' c' (xs ++ ys)).holds w' ∧ Chg (arr E p c xs).foot w w' ∧
      ∀ k, (arr E p' c' (xs ++ ys)).foot k → (arr E p c xs).foot k ∨ w.heap.size ≤ k := by
  obtain ⟨hu, i, zv, hi, hz, hs, hzs, hby⟩ := he
  have hlen := List.length_append (as := xs) (bs := ys)
  have h63 : xs.length + ys.length ≤ maxLen := by rw [← hlen]; unfold maxLen; omega
  have hbytes : (xs.length + ys.length) * i.bytes ≤ 140737488355328 := by
    have : (xs.length + ys.length) * i.bytes ≤ 1099511627776 * 128 := Nat.mul_le_mul (by omega) hby
    omega
  have hrl := E.row_length ys
  have hcell : ∀ j u, (E.row ys)[j]? = some u → w.cell? (a.add j) = some u := fun j u hu => hy j u hu
  cases p with
  | none =>
    obtain ⟨h1, h2, h3⟩ := h
    subst h3
    have hx : xs = [] := List.eq_nil_of_length_eq_zero (by omega)
    subst hx
    obtain ⟨v', w', hr, ho, hg, _⟩ := run_append_own (P := P) w w.heap.size t ty e i zv E.z i.bytes hu hi hz hs rfl hzs E.pos (.slice none 0 0) 0 [] (World.ownsRow_nil w _ _ _) a ys.length c2 (E.row ys) hrl hcell (E.row_one ys) (by simpa using h63) (by simpa using hbytes) (Nat.le_refl _)
    rw [List.nil_append, Nat.zero_add] at ho
    obtain ⟨p', c', rfl, ha, hf⟩ := of_ownsRow ho
    exact ⟨p', c', w', by simpa using hr, ha, (Chg.grown hg).mono fun _ _ h => h.elim, fun k hk => .inr (hf k hk)⟩
  | some b =>
    obtain ⟨h1, h2, h3⟩ := h
    by_cases hroom : xs.length + ys.length ≤ c
    · obtain ⟨bb, bo, bs⟩ := b
      obtain rfl : bs = none := h3.spot
      have hx := E.row_length xs
      have hm : xs.length * E.z + ys.length * E.z ≤ c * E.z := by rw [← Nat.add_mul]; exact Nat.mul_le_mul_right _ hroom
      have hr := run_append_room_cells (P := P) w t ty e i hu hi bb bo xs.length c a ys.length c2 (E.row ys) (by rw [hs]; exact hrl) hcell (E.row_one ys) hroom
        (fun j hj => by rw [hs, Nat.add_assoc]; exact h3.full _ (by omega)) (fun j hj => by rw [hs, Nat.add_assoc]; exact h3.free _ (by omega))
      have hset := h3.sets (E.row ys) (by omega)
      refine ⟨some ⟨bb, bo, none⟩, c, _, by rw [hlen]; exact hr, ⟨by rw [hlen]; exact hroom, h2, ?_⟩, (Chg.setCells bb _ _ w).mono fun _ _ h => h, fun k hk => .inl hk⟩
      show RowAt _ _ _ (E.row (xs ++ ys))
      rw [E.row_append, hs, ← hx]
      exact hset
    · obtain ⟨v', w', hr, ho, hg⟩ := run_append_arg_grows (P := P) w t ty e i zv E.z i.bytes hu hi hz hs rfl hzs E.pos b xs.length c (E.row xs) (E.row_length xs) (fun j u hu => by rw [at_add h3.spot]; exact h3.cell j u hu) a ys.length c2 (E.row ys) hrl hcell (by omega) h63 hbytes
      rw [← E.row_append, ← hlen] at ho
      obtain ⟨p', c', rfl, ha, hf⟩ := of_ownsRow ho
      exact ⟨p', c', w', hr, ha, (Chg.grown hg).mono fun _ _ h => h.elim, fun k hk => .inr (hf k hk)⟩
theorem Now.append {α : Type} {E : El α} {t ty e : TypeId} (he : Elem P t e E.z) {B : Nat → Prop} {w0 w : World} {p : Option Addr} {c : Nat} {xs : List α} {L : List Asn} (h : Now B w0 w (arr E p c xs :: L)) {a : Addr} {c2 : Nat} {ys : List α} (hy : Reads E w (some a) ys) (hb : (xs ++ ys).length ≤ 1099511627776)
    {K : Option Addr → Nat → Nat → World → Prop} (k : ∀ p' c' w', Now B w0 w' (arr E p' c' (xs ++ ys) :: L) → K p' (xs ++ ys).length c' w') :
    ∃ x n c' w', (Builtin.append_ #[t, t] ty #[.slice p xs.length c, .slice (some a) ys.length c2]).run P w = .ok (.slice x n c') w' ∧ K x n c' w' := by
  obtain ⟨p', c', w', hr, ha, hc, hf⟩ := arr_append (ty := ty) (c2 := c2) he h.hp.1 hy hb
  exact ⟨p', _, c', w', hr, k p' c' w' (h.upd ha hc hf)⟩
end
theorem arr_cap {α : Type} {E : El α} {p : Option Addr} {c : Nat} {xs : List α} {w : World} (h : (arr E p c xs).holds w) : xs.length ≤ c := h.1
theorem capB {x : Int} {n c : Nat} (h : (decide (0 ≤ x) && decide (x ≤ ((n : Nat) : Int))) = true) (hc : n ≤ c) : (decide (0 ≤ x) && decide (x ≤ ((c : Nat) : Int))) = true := by
  simp only [Bool.and_eq_true, decide_eq_true_eq] at *; omega
theorem Reads.cells {α : Type} {E : El α} {w : World} {a : Addr} {ys : List α} (h : Reads E w (some a) ys) {j : Nat} {v : Value} (hv : (E.row ys)[j]? = some v) : w.cell? (a.add j) = some v := h j v hv
theorem reads_ix {α : Type} [Inhabited α] {E : El α} {w : World} {p : Option Addr} {ys : List α} (h : Reads E w p ys) {a : Addr} (ha : p = some a) {i : Int} (h0 : 0 ≤ i) (h1 : i < ((ys.length : Nat) : Int)) {j : Nat} {v : Value} (e : (E.enc (ixL ys i))[j]? = some v) :
    w.cell? (a.add (i.toNat * E.z + j)) = some v := by
  subst ha
  have hi : i.toNat < ys.length := by omega
  have hj : j < E.z := by have := (List.getElem?_eq_some_iff.1 e).1; rw [E.len] at this; exact this
  refine h _ _ ?_
  rw [E.row_get ys i.toNat j hi hj, ← ixL_eq hi]; exact e
theorem read_ix {α : Type} [Inhabited α] {E : El α} {w : World} {p : Option Addr} {ys : List α} (h : Reads E w p ys) {a : Addr} (ha : p = some a) {i : Int} (h0 : 0 ≤ i) (h1 : i < ((ys.length : Nat) : Int)) (j : Nat) {z : Nat} (hz : E.z = z) {v : Value} (e : (E.enc (ixL ys i))[j]? = some v) :
    w.cell? ((a.add (i.toNat * z)).add j) = some v := by
  subst hz
  rw [add_add]; exact reads_ix h ha h0 h1 e
theorem read_ix0 {α : Type} [Inhabited α] {E : El α} {w : World} {p : Option Addr} {ys : List α} (h : Reads E w p ys) {a : Addr} (ha : p = some a) {i : Int} (h0 : 0 ≤ i) (h1 : i < ((ys.length : Nat) : Int)) {z : Nat} (hz : E.z = z) {v : Value} (e : (E.enc (ixL ys i))[0]? = some v) :
    w.cell? (a.add (i.toNat * z)) = some v := by
  subst hz
  exact reads_ix h ha h0 h1 e
theorem read_lit {α : Type} [Inhabited α] {E : El α} {w : World} {p : Option Addr} {ys : List α} (h : Reads E w p ys) {a : Addr} (ha : p = some a) {i : Int} (h0 : 0 ≤ i) (h1 : i < ((ys.length : Nat) : Int)) (j k : Nat) (hk : i.toNat * E.z + j = k) {v : Value} (e : (E.enc (ixL ys i))[j]? = some v) :
    w.cell? (a.add k) = some v := by
  subst hk
  exact reads_ix h ha h0 h1 e
theorem read_lit0 {α : Type} [Inhabited α] {E : El α} {w : World} {p : Option Addr} {ys : List α} (h : Reads E w p ys) {a : Addr} (ha : p = some a) {i : Int} (h0 : 0 ≤ i) (h1 : i < ((ys.length : Nat) : Int)) (hi : i = 0) {v : Value} (e : (E.enc (ixL ys i))[0]? = some v) :
    w.cell? a = some v := by
  have := read_lit h ha h0 h1 0 0 (by subst hi; simp) e
  exact this
theorem NNix {α β : Type} [Inhabited α] {E : El α} {w : World} {p : Option Addr} {ys : List α} {i : Int} {n : Nat} {F : Option β} {r : β} {K : Addr → Prop} (h : cond (decide (0 ≤ i) && decide (i < ((n : Nat) : Int))) F none = some r) (hr : Reads E w p ys) (hn : n = ys.length)
    (k : ∀ a, p = some a → 0 ≤ i → i < ((ys.length : Nat) : Int) → F = some r → K a) : NN p (fun a => chk (decide (0 ≤ i) && decide (i < ((n : Nat) : Int))) (K a)) := by
  subst hn
  refine chkE h fun hb hf => ?_
  simp only [Bool.and_eq_true, decide_eq_true_eq] at hb
  cases p with
  | none => have : ys = [] := hr; subst this; simp at hb; omega
  | some a => exact chk_of (by simp only [Bool.and_eq_true, decide_eq_true_eq]; exact hb) (k a rfl hb.1 hb.2 hf)
theorem len_part {α : Type} {xs : List α} {lo hi : Nat} (h : lo ≤ hi ∧ hi ≤ xs.length) : hi - lo = ((xs.drop lo).take (hi - lo)).length := by simp; omega
theorem len_part_eq {α : Type} {xs : List α} {lo hi : Nat} : ((xs.drop lo).take (hi - lo)).length = min (hi - lo) (xs.length - lo) := by simp
theorem reads_part {α : Type} {E : El α} {w : World} {p : Option Addr} {c : Nat} {xs : List α} {lo hi z : Nat} (h : Reads E w p xs) (hl : lo ≤ hi ∧ hi ≤ xs.length) (hc : xs.length ≤ c) (hz : E.z = z) : Reads E w (if c = lo then p else p.map (·.add (lo * z))) ((xs.drop lo).take (hi - lo)) := by
  subst hz
  by_cases e : c = lo
  · rw [if_pos e]
    have : xs.drop lo = [] := List.drop_eq_nil_of_le (by omega)
    rw [this, List.take_nil]
    cases p with
    | none => rfl
    | some a => exact fun j v hv => by simp [El.row] at hv
  · rw [if_neg e]
    cases p with
    | none => have h' : xs = [] := h; subst h'; simp [Reads]
    | some a =>
      show Reads E w (some (a.add (lo * E.z))) _
      refine fun j v hv => ?_
      rw [add_add]
      refine h _ _ ?_
      rw [E.row_take, E.row_drop] at hv
      have hl := (List.getElem?_eq_some_iff.1 hv).1
      rw [List.getElem?_take_of_lt (by simp at hl; omega), List.getElem?_drop] at hv
      exact hv
def bytesIn (l : List Int) : Bool := l.all fun x => decide (0 ≤ x) && decide (x < 256)
def strOf (l : List Int) : ByteArray := bs (l.map fun x => UInt8.ofNat x.toNat)
def bytesOf (s : ByteArray) : List Int := s.data.toList.map fun b => (b.toNat : Int)
theorem toStr {P : Program} {w : World} {p : Option Addr} {ys : List Int} {n c : Nat} {src dst e : TypeId} (h : Reads (elI .u8) w p ys) (hb : bytesIn ys = true) (hn : n = ys.length)
    (hs : P.underlying src = some (.slice e)) (he : P.underlying e = some (.int .u8)) (hd : P.underlying dst = some .string) :
    (Go.convert src dst (.slice p n c)).run P w = .ok (.string (strOf ys)) w := by
  subst hn
  have hrow : ∀ l : List Int, (elI .u8).row l = l.map (Value.int .u8) := by intro l; induction l with
    | nil => rfl
    | cons x l ih => show [Value.int .u8 x] ++ (elI .u8).row l = _; rw [ih]; rfl
  cases p with
  | none =>
    have h' : ys = [] := h; subst h'
    have := run_convert_bytes_string (P := P) w src dst e none 0 c hs he hd
    refine Eq.trans this ?_
    simp [Conv.bytesToString, strOf, bs]
    rfl
  | some a =>
    have := run_convert_bytes_back (P := P) w src dst e a c (ys.map fun x => UInt8.ofNat x.toNat) hs he hd (fun j hj => by
      have hj' : j < ys.length := by simpa using hj
      refine h.cells ?_
      rw [hrow, List.getElem?_map, List.getElem?_eq_getElem hj']
      have hin : 0 ≤ ys[j] ∧ ys[j] < 256 := by
        have := List.all_eq_true.1 hb ys[j] (List.getElem_mem hj')
        simpa using this
      simp; omega)
    rw [List.length_map] at this
    exact this
theorem row_replicate {α : Type} (E : El α) (z : α) (v : Value) (h : E.enc z = [v]) : ∀ n, E.row (List.replicate n z) = List.replicate n v
  | 0 => rfl
  | n + 1 => by rw [List.replicate_succ, List.replicate_succ]; show E.enc z ++ _ = _; rw [h, row_replicate E z v h n]; rfl
theorem Now.make {α : Type} {P : Program} {E : El α} {t e : TypeId} (he : Elem P t e E.z) {B : Nat → Prop} {w0 w : World} {L : List Asn} (h : Now B w0 w L) {z : α} {v : Value} (hv : E.enc z = [v]) (hz : ∀ i zv, P.info? e = some i → i.zero = some zv → zv.cells = #[v]) {l c : Int} (hb : (decide (0 ≤ l) && decide (l ≤ c) && decide (c ≤ 1099511627776)) = true)
    {K : Option Addr → Nat → Nat → World → Prop} (k : ∀ p' c' w', Now B w0 w' (arr E p' c' (List.replicate l.toNat z) :: L) → K p' (List.replicate l.toNat z).length c' w') :
    ∃ x n c' w', (Instr.makeSlice t (.int .i64 l) (.int .i64 c)).run P w = .ok (.slice x n c') w' ∧ K x n c' w' := by
  simp only [Bool.and_eq_true, decide_eq_true_eq] at hb
  obtain ⟨hu, i, zv, hi, hzz, hs, hzs, hby⟩ := he
  have hz1 : E.z = 1 := by rw [← E.len z, hv]; rfl
  have hcell := hz i zv hi hzz
  have hbb : (i.bytes : Int) * c ≤ 128 * 1099511627776 := Int.mul_le_mul (by omega) (by omega) (by omega) (by omega)
  have hr := run_make (P := P) w t e i zv hu hi hzz .i64 .i64 l c hb.1.1 hb.1.2 (by omega) (by omega)
  rw [hs, hz1, hcell, Nat.mul_one] at hr
  refine ⟨_, _, _, _, hr, ?_⟩
  have hlen : l.toNat = (List.replicate l.toNat z).length := by simp
  have hblk : Blk (w.alloc (.cells (madeCells #[v] c.toNat) e)) w.heap.size (List.replicate c.toNat v) e := by
    have e1 : madeCells #[v] c.toNat = (List.replicate c.toNat v).toArray := by rw [← toList_madeCells_one, Array.toArray_toList]
    rw [e1]; exact Blk.new w _ e
  have hn : Now B w0 (w.alloc (.cells (madeCells #[v] c.toNat) e)) (arr E (some ⟨w.heap.size, 0, none⟩) c.toNat (List.replicate l.toNat z) :: L) := by
    refine h.add ⟨by simp; omega, by unfold maxLen; omega, rfl, hblk.lt, fun j u hu => ?_, fun j hj => ?_, fun j _ => ?_⟩ (Chg.alloc _ w _) (fun k hk => Nat.le_of_eq hk.symm)
    · show World.cell? _ ⟨w.heap.size, 0 + j, none⟩ = _
      rw [row_replicate E z v hv] at hu
      obtain ⟨hl, e2⟩ := List.getElem?_eq_some_iff.1 hu
      rw [List.length_replicate] at hl
      rw [hblk.cell, Nat.zero_add, List.getElem?_replicate, if_pos (by omega), ← e2]; simp
    · show (World.cell? _ ⟨w.heap.size, 0 + j, none⟩).isSome = true
      rw [hblk.cell, Nat.zero_add, List.getElem?_replicate, if_pos (by rw [hz1] at hj; omega)]; rfl
    · exact hblk.free _
  have := k _ _ _ hn
  rw [← hlen] at this
  exact this
theorem ixA_int {k : IntKind} {l : List Int} {i : Int} {n : Nat} (h : (decide (0 ≤ i) && decide (i < ((n : Nat) : Int))) = true) (hn : l.length = n) : ((l.map (Value.int k)).toArray)[i.toNat * 1]? = some (.int k (ixL l i)) := by
  subst hn
  simp only [Bool.and_eq_true, decide_eq_true_eq] at h
  have hi : i.toNat < l.length := by omega
  rw [ixL_eq hi, Nat.mul_one]
  simp [hi]
theorem Now.arrSt0 {α : Type} [Inhabited α] {E : El α} {B : Nat → Prop} {w0 w : World} {p : Option Addr} {c : Nat} {xs : List α} {L : List Asn} {K : World → Prop} (h : Now B w0 w (arr E p c xs :: L)) {a : Addr} (ha : p = some a) {i : Int} (h0 : 0 ≤ i) (h1 : i < ((xs.length : Nat) : Int))
    {z : Nat} (hz : E.z = z) (x : α) (v : Value) (e : E.enc x = (E.enc (ixL xs i)).set 0 v) (k : ∀ w', Now B w0 w' (arr E p c (xs.set i.toNat x) :: L) → K w') : Go.Vc.St w (a.add (i.toNat * z)) v K := by
  subst hz
  exact Now.arrSt h ha h0 h1 0 (decide_eq_true E.pos) x v e k
theorem row_map (k : IntKind) : ∀ l : List Int, (elI k).row l = l.map (Value.int k)
  | [] => rfl
  | x :: l => by show [Value.int k x] ++ (elI k).row l = _; rw [row_map k l]; rfl
theorem Now.toBytes {P : Program} {src d e : TypeId} (hs : P.underlying src = some .string) (hd : P.underlying d = some (.slice e)) (he : P.underlying e = some (.int .u8)) {B : Nat → Prop} {w0 w : World} {L : List Asn} (h : Now B w0 w L) {s : ByteArray} (hb : s.size ≤ 140737488355328)
    {K : Option Addr → Nat → Nat → World → Prop} (k : ∀ p' c' w', Now B w0 w' (arr (elI .u8) p' c' (bytesOf s) :: L) → K p' (bytesOf s).length c' w') :
    ∃ x n c' w', (Go.convert src d (.string s)).run P w = .ok (.slice x n c') w' ∧ K x n c' w' := by
  have hr := Lib.run_convert_string_bytes (P := P) w src d e s hs hd he
  refine ⟨_, _, _, _, hr, ?_⟩
  have hlen : s.size = (bytesOf s).length := by unfold bytesOf; rw [List.length_map]; exact Array.length_toList.symm
  have hold := Lib.bytesWorld_at_old w e s
  have hge := grownCap_ge w s.size 0 e
  have hle := grownCap_le_maxLen w s.size 0 e (by unfold maxLen; omega)
  have hnew := Lib.bytesWorld_at_new w e s
  have hsz := Lib.bytesWorld_size w e s
  have hcs : (Lib.bytesCells w e s).size = grownCap w s.size 0 e := by simp [Lib.bytesCells]; have : s.data.size = s.size := rfl; omega
  have hn : Now B w0 (Lib.bytesWorld w e s) (arr (elI .u8) (some ⟨w.heap.size, 0, none⟩) (grownCap w s.size 0 e) (bytesOf s) :: L) := by
    refine h.add ⟨by omega, hle, rfl, by show w.heap.size < _; omega, fun j u hu => ?_, fun j hj => ?_, fun j hj => ?_⟩ ⟨rfl, rfl, rfl, by omega, fun k hk _ => hold k hk⟩ (fun k hk => Nat.le_of_eq hk.symm)
    · show World.cell? _ ⟨w.heap.size, 0 + j, none⟩ = _
      rw [row_map] at hu
      obtain ⟨hl, e2⟩ := List.getElem?_eq_some_iff.1 hu
      have hl' : j < s.size := by simpa [bytesOf] using hl
      rw [Nat.zero_add, Lib.bytesWorld_cell w e s j hl', ← e2]
      have hd' : j < s.data.toList.length := by simpa using hl'
      have hd2 : j < s.data.size := by simpa using hd'
      simp [bytesOf, List.getD_eq_getElem?_getD, Array.getElem?_eq_getElem hd2]
    · show (World.cell? _ ⟨w.heap.size, 0 + j, none⟩).isSome = true
      have hj' : j < grownCap w s.size 0 e := by simpa [elI] using hj
      simp only [World.cell?, hnew, Nat.zero_add]
      rw [Array.getElem?_eq_getElem (by omega)]; rfl
    · show World.frozen? _ ⟨w.heap.size, 0 + j, none⟩ = false
      have hj' : j < grownCap w s.size 0 e := by simpa [elI] using hj
      simp only [World.frozen?, hnew, Nat.zero_add]
      simp; omega
  have := k _ _ _ hn
  rw [← hlen] at this
  exact this
theorem partB {loT hiT : Int} {lo hi n : Nat} (h1 : (decide (0 ≤ hiT) && decide (hiT ≤ ((n : Nat) : Int))) = true) (h2 : (decide (0 ≤ loT) && decide (loT ≤ hiT)) = true) (hlo : lo = loT.toNat) (hhi : hi = hiT.toNat) : lo ≤ hi ∧ hi ≤ n := by
  simp only [Bool.and_eq_true, decide_eq_true_eq] at h1 h2
  omega
end Go.Vc
