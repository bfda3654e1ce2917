/-
  Boxes of many cells: rows of whole numbers within a struct, as functions of their place.
-/
import Derived.Test.YtdjgicimfeocbaaGreatRo
import Derived.Deep.MidRow
import Derived.Laws.CopyRow
@[match_pattern] abbrev Go.Value.I (x : Int) : Go.Value := .int .i64 x
@[match_pattern] abbrev Go.Value.U (x : Int) : Go.Value := .int .u32 x
@[match_pattern] abbrev Go.Value.P (b : Nat) : Go.Value := .pointer (some ⟨b, 0, none⟩)
@[match_pattern] abbrev Go.Value.F : Go.Value := .bool false
namespace Go.Vc
open Go
set_option linter.unusedVariables false

/-- A part of a box: one cell; a row of whole numbers; a row of cells that nobody looks at. -/
inductive Seg where
  | c (v : Value)
  | r (k : IntKind) (n : Nat) (f : Nat → Int)
  | o (n : Nat) (f : Nat → Value)
def Seg.cells : Seg → List Value
  | .c v => [v]
  | .r k n f => (List.range n).map fun i => .int k (f i)
  | .o n f => (List.range n).map f
def Seg.len : Seg → Nat
  | .c _ => 1
  | .r _ n _ => n
  | .o n _ => n
theorem Seg.cells_len (s : Seg) : s.cells.length = s.len := by cases s <;> simp [Seg.cells, Seg.len]
def segV : List Seg → List Value
  | [] => []
  | s :: l => s.cells ++ segV l
def segO : Nat → List Seg → Nat
  | 0, _ => 0
  | _ + 1, [] => 0
  | n + 1, s :: l => s.len + segO n l
theorem seg_get : ∀ (l : List Seg) (j : Nat) {s : Seg}, l[j]? = some s → ∀ i, i < s.len → (segV l)[segO j l + i]? = s.cells[i]?
  | [], j, s, h, _, _ => by simp at h
  | s' :: l, 0, s, h, i, hi => by
    simp at h; subst h
    show (s'.cells ++ segV l)[0 + i]? = _
    rw [Nat.zero_add, List.getElem?_append_left (by rw [Seg.cells_len]; exact hi)]
  | s' :: l, j + 1, s, h, i, hi => by
    have h' : l[j]? = some s := by simpa using h
    show (s'.cells ++ segV l)[s'.len + segO j l + i]? = _
    rw [List.getElem?_append_right (by rw [Seg.cells_len]; omega), Seg.cells_len, show s'.len + segO j l + i - s'.len = segO j l + i by omega]
    exact seg_get l j h' i hi
theorem seg_lt : ∀ (l : List Seg) (j : Nat) {s : Seg}, l[j]? = some s → ∀ i, i < s.len → segO j l + i < (segV l).length
  | l, j, s, h, i, hi => by
    have := seg_get l j h i hi
    rw [List.getElem?_eq_getElem (show i < s.cells.length by rw [Seg.cells_len]; exact hi)] at this
    exact (List.getElem?_eq_some_iff.1 this).1
theorem seg_set : ∀ (l : List Seg) (j : Nat) {s s' : Seg} {v : Value}, l[j]? = some s → ∀ i, i < s.len → s'.cells = s.cells.set i v → segV (l.set j s') = (segV l).set (segO j l + i) v
  | [], j, s, s', v, h, _, _, _ => by simp at h
  | t :: l, 0, s, s', v, h, i, hi, e => by
    simp at h; subst h
    show s'.cells ++ segV l = (t.cells ++ segV l).set (0 + i) v
    rw [Nat.zero_add, List.set_append_left _ _ (by rw [Seg.cells_len]; exact hi), e]
  | t :: l, j + 1, s, s', v, h, i, hi, e => by
    have h' : l[j]? = some s := by simpa using h
    show t.cells ++ segV (l.set j s') = (t.cells ++ segV l).set (t.len + segO j l + i) v
    rw [List.set_append_right _ _ (by rw [Seg.cells_len]; omega), Seg.cells_len, show t.len + segO j l + i - t.len = segO j l + i by omega, seg_set l j h' i hi e]
def sbox (b : Nat) (l : List Seg) (t : TypeId) : Asn := box b (segV l) t
def rup (f : Nat → Int) (i : Nat) (x : Int) : Nat → Int := fun j => if j = i then x else f j
theorem rup_at (f : Nat → Int) (i : Nat) (x : Int) : rup f i x i = x := if_pos rfl
theorem rup_ne (f : Nat → Int) {i j : Nat} (x : Int) (h : j ≠ i) : rup f i x j = f j := if_neg h
theorem rup_cells (k : IntKind) (n : Nat) (f : Nat → Int) (i : Nat) (x : Int) (hi : i < n) : (Seg.r k n (rup f i x)).cells = (Seg.r k n f).cells.set i (.int k x) := by
  apply List.ext_getElem
  · simp [Seg.cells]
  · intro j h1 h2
    simp only [Seg.cells, List.length_map, List.length_range] at h1
    simp only [Seg.cells, List.getElem_map, List.getElem_range, List.getElem_set]
    by_cases h : i = j
    · subst h; simp [rup_at]
    · rw [rup_ne f x (Ne.symm h), if_neg h]
theorem Blk.sC {w : World} {b : Nat} {l : List Seg} {t : TypeId} (h : (sbox b l t).holds w) (j : Nat) {v : Value} (hj : l[j]? = some (.c v)) {o : Nat} (ho : segO j l = o) : w.cell? ⟨b, o, none⟩ = some v := by
  subst ho
  have h' : Blk w b (segV l) t := h
  rw [h'.cell]
  have := seg_get l j hj 0 (by show 0 < 1; decide)
  rw [Nat.add_zero] at this
  rw [this]; rfl
theorem Blk.sR {w : World} {b : Nat} {l : List Seg} {t : TypeId} (h : (sbox b l t).holds w) (j : Nat) {k : IntKind} {n : Nat} {f : Nat → Int} (hj : l[j]? = some (.r k n f)) {o : Nat} (ho : segO j l = o) {i : Nat} (hi : i < n) {a : Addr} (ha : a = ⟨b, o + i, none⟩) : w.cell? a = some (.int k (f i)) := by
  subst ho; subst ha
  have h' : Blk w b (segV l) t := h
  rw [h'.cell, seg_get l j hj i hi]
  simp [Seg.cells, hi]
section
variable {B : Nat → Prop} {w0 w : World} {b : Nat} {l : List Seg} {t : TypeId} {L : List Asn}
theorem Now.sC (h : Now B w0 w (sbox b l t :: L)) (j : Nat) {v : Value} (hj : l[j]? = some (.c v)) {o : Nat} (ho : segO j l = o) : w.cell? ⟨b, o, none⟩ = some v := Blk.sC h.hp.1 j hj ho
theorem Now.sR (h : Now B w0 w (sbox b l t :: L)) (j : Nat) {k : IntKind} {n : Nat} {f : Nat → Int} (hj : l[j]? = some (.r k n f)) {o : Nat} (ho : segO j l = o) {i : Nat} (hi : i < n) {a : Addr} (ha : a = ⟨b, o + i, none⟩) : w.cell? a = some (.int k (f i)) := Blk.sR h.hp.1 j hj ho hi ha
theorem Now.sStC {v : Value} {K : World → Prop} (h : Now B w0 w (sbox b l t :: L)) (j : Nat) {u : Value} (hj : l[j]? = some (.c u)) {o : Nat} (ho : segO j l = o) (k : ∀ w', Now B w0 w' (sbox b (l.set j (.c v)) t :: L) → K w') : Go.Vc.St w ⟨b, o, none⟩ v K := by
  subst ho
  have hlt := seg_lt l j hj 0 (by show 0 < 1; decide)
  have e := seg_set (s' := .c v) (v := v) l j hj 0 (by show 0 < 1; decide) rfl
  rw [Nat.add_zero] at hlt e
  refine St_blk (h.hp.1 : Blk w b (segV l) t) (decide_eq_true hlt) fun w' h' hc _ => k w' (h.upd ?_ (hc.mono fun _ _ h => h) fun _ h => .inl h)
  show Blk w' b (segV (l.set j (.c v))) t
  rw [e]; exact h'
theorem Now.sStR {x : Int} {K : World → Prop} (h : Now B w0 w (sbox b l t :: L)) (j : Nat) {kd : IntKind} {n : Nat} {f : Nat → Int} (hj : l[j]? = some (.r kd n f)) {o : Nat} (ho : segO j l = o) {i : Nat} (hi : i < n) {a : Addr} (ha : a = ⟨b, o + i, none⟩)
    (k : ∀ w', Now B w0 w' (sbox b (l.set j (.r kd n (rup f i x))) t :: L) → K w') : Go.Vc.St w a (.int kd x) K := by
  subst ho; subst ha
  have hlt := seg_lt l j hj i hi
  have e := seg_set (s' := .r kd n (rup f i x)) (v := .int kd x) l j hj i hi (rup_cells kd n f i x hi)
  refine St_blk (h.hp.1 : Blk w b (segV l) t) (decide_eq_true hlt) fun w' h' hc _ => k w' (h.upd ?_ (hc.mono fun _ _ h => h) fun _ h => .inl h)
  show Blk w' b (segV (l.set j (.r kd n (rup f i x)))) t
  rw [e]; exact h'
end
theorem segA1 {b o n : Nat} : (⟨b, o, none⟩ : Addr).add n = ⟨b, o + n, none⟩ := add_at b o n
theorem segA2 {b o n m : Nat} : ((⟨b, o, none⟩ : Addr).add n).add m = ⟨b, o + (n + m), none⟩ := by rw [add_at, add_at, Nat.add_assoc]
theorem segA3 {b o n m q : Nat} : (((⟨b, o, none⟩ : Addr).add n).add m).add q = ⟨b, o + (n + m + q), none⟩ := by rw [add_at, add_at, add_at]; congr 1; omega
theorem segB {i : Int} {n : Nat} (hb : (decide (0 ≤ i) && decide (i < ((n : Nat) : Int))) = true) {z j m : Nat} (hz : Nat.ble (n * z) m = true) (hj : Nat.blt j z = true) : i.toNat * z + j < m := by
  simp only [Bool.and_eq_true, decide_eq_true_eq] at hb
  have h1 : i.toNat < n := by omega
  have h2 : (i.toNat + 1) * z ≤ n * z := Nat.mul_le_mul_right _ h1
  have h3 := Nat.le_of_ble_eq_true hz
  have h4 : j < z := of_decide_eq_true (by simpa [Nat.blt_eq] using hj)
  rw [Nat.add_mul] at h2; omega
theorem segB1 {i : Int} {n m : Nat} (hb : (decide (0 ≤ i) && decide (i < ((n : Nat) : Int))) = true) (hm : Nat.ble n m = true) : i.toNat < m := by
  have := Nat.le_of_ble_eq_true hm
  simp only [Bool.and_eq_true, decide_eq_true_eq] at hb; omega
theorem segB0 {i : Int} {n z m : Nat} (hb : (decide (0 ≤ i) && decide (i < ((n : Nat) : Int))) = true) (hz : Nat.ble (n * z) m = true) (hj : Nat.blt 0 z = true) : i.toNat * z < m := by
  have := segB (j := 0) hb hz hj; omega
theorem segB2 {i k : Int} {n z m : Nat} (h1 : (decide (0 ≤ i) && decide (i < ((n : Nat) : Int))) = true) (h2 : (decide (0 ≤ k) && decide (k < ((z : Nat) : Int))) = true) (hz : Nat.ble (n * z) m = true) : i.toNat * z + k.toNat < m := by
  simp only [Bool.and_eq_true, decide_eq_true_eq] at h1 h2
  have a1 : (i.toNat + 1) * z ≤ n * z := Nat.mul_le_mul_right _ (by omega)
  have a2 := Nat.le_of_ble_eq_true hz
  rw [Nat.add_mul] at a1; omega
theorem segA1i {b o n : Nat} : (⟨b, o, none⟩ : Addr).add (n * 1) = ⟨b, o + n, none⟩ := by rw [Nat.mul_one]; exact add_at b o n
theorem segA2i {b o n m : Nat} : ((⟨b, o, none⟩ : Addr).add n).add (m * 1) = ⟨b, o + (n + m), none⟩ := by rw [Nat.mul_one]; exact segA2
def litF (l : List Int) : Nat → Int := fun i => l.getD i 0
theorem Now.toS {B : Nat → Prop} {w0 w : World} {b : Nat} {cs : List Value} {t : TypeId} {L : List Asn} (h : Now B w0 w (box b cs t :: L)) (l : List Seg) (e : cs = segV l) : Now B w0 w (sbox b l t :: L) := by subst e; exact h
/-! ### many cells at once -/
structure BigA (P : Program) (t : TypeId) (k : IntKind) (n : Nat) : Prop where
  und : ∃ e, P.underlying t = some (.array n e) ∧ P.underlying e = some (.int k) ∧ sz? P e = some 1
  size : (P.info? t).map (·.size) = some n
  guard : P.eqGuardType P.depth t = false
def aggR (k : IntKind) (n : Nat) (f : Nat → Int) : Value := .agg (Seg.r k n f).cells.toArray
theorem seg_range {l : List Seg} {j : Nat} {s : Seg} (hj : l[j]? = some s) (i : Nat) (v : Value) (hv : s.cells[i]? = some v) : (segV l)[segO j l + i]? = some v := by
  have hi := (List.getElem?_eq_some_iff.1 hv).1
  rw [Seg.cells_len] at hi
  rw [seg_get l j hj i hi]; exact hv
theorem Blk.sBig {P : Program} {t0 : TypeId} {k : IntKind} {n : Nat} (hb : BigA P t0 k n) {w : World} {b : Nat} {l : List Seg} {t : TypeId} (h : (sbox b l t).holds w) (j : Nat) {f : Nat → Int} (hj : l[j]? = some (.r k n f)) {o : Nat} (ho : segO j l = o) :
    (Instr.loadAt t0 (.pointer (some ⟨b, o, none⟩))).run P w = .ok (aggR k n f) w := by
  subst ho
  obtain ⟨e, hu, _, _⟩ := hb.und
  have h' : Blk w b (segV l) t := h
  exact run_loadAt_mid w b _ t0 (Seg.r k n f).cells _ (fun i v hv => by rw [h'.cell]; exact seg_range hj i v hv) hu rfl (by rw [hb.size, Seg.cells_len]; rfl)
theorem seg_splice : ∀ (l : List Seg) (j : Nat) {s s' : Seg}, l[j]? = some s → s'.len = s.len → segV (l.set j s') = (segV l).take (segO j l) ++ s'.cells ++ (segV l).drop (segO j l + s'.cells.length)
  | [], j, s, s', h, _ => by simp at h
  | t :: l, 0, s, s', h, e => by
    simp at h; subst h
    show s'.cells ++ segV l = (t.cells ++ segV l).take 0 ++ s'.cells ++ (t.cells ++ segV l).drop (0 + s'.cells.length)
    rw [Nat.zero_add, Seg.cells_len, e, ← Seg.cells_len t, List.drop_left]; simp
  | t :: l, j + 1, s, s', h, e => by
    have h' : l[j]? = some s := by simpa using h
    show t.cells ++ segV (l.set j s') = (t.cells ++ segV l).take (t.len + segO j l) ++ s'.cells ++ (t.cells ++ segV l).drop (t.len + segO j l + s'.cells.length)
    rw [seg_splice l j h' e, ← Seg.cells_len t, List.take_length_add_append, Nat.add_assoc, List.drop_length_add_append]
    simp only [List.append_assoc]
theorem Now.sBigSt {P : Program} {t0 : TypeId} {kd : IntKind} {n : Nat} (hb : BigA P t0 kd n) {B : Nat → Prop} {w0 w : World} {b : Nat} {l : List Seg} {t : TypeId} {L : List Asn} {K : World → Prop} (h : Now B w0 w (sbox b l t :: L)) (j : Nat) {f g : Nat → Int} (hj : l[j]? = some (.r kd n f)) {o : Nat} (ho : segO j l = o)
    (k : ∀ w', Now B w0 w' (sbox b (l.set j (.r kd n g)) t :: L) → K w') : ∃ v w', (stS t0 (.pointer (some ⟨b, o, none⟩)) (aggR kd n g)).run P w = .ok v w' ∧ K w' := by
  subst ho
  have h' : Blk w b (segV l) t := h.hp.1
  have hg : w.heap[b]? = some (.cells (segV l).toArray t (0, 0)) := h'
  have hlen : (Seg.r kd n g).cells.length = n := by rw [Seg.cells_len]; rfl
  have hle : segO j l + n ≤ (segV l).length := by
    cases n with
    | zero =>
      have : segO j l ≤ (segV l).length := by
        clear hg h' hlen k h hb
        induction l generalizing j with
        | nil => simp at hj
        | cons s l ih =>
          cases j with
          | zero => exact Nat.zero_le _
          | succ j =>
            show s.len + segO j l ≤ (s.cells ++ segV l).length
            rw [List.length_append, Seg.cells_len]
            have := ih j (by simpa using hj); omega
      omega
    | succ m => have := seg_lt l j hj m (by show m < m + 1; omega); omega
  have h1 : ∀ v ∈ (Seg.r kd n g).cells, v.oneCell' = true := fun v hv => by
    simp only [Seg.cells, List.mem_map] at hv
    obtain ⟨i, _, rfl⟩ := hv; rfl
  have hst := run_storeCells_at (P := P) b (segO j l) t (Seg.r kd n g).cells 0 (segV l).toArray w hg (by simp; omega) h1
  have hsp : ((segV l).toArray.toList.take (segO j l + 0) ++ (Seg.r kd n g).cells ++ (segV l).toArray.toList.drop (segO j l + 0 + (Seg.r kd n g).cells.length)).toArray = (segV (l.set j (.r kd n g))).toArray := by
    rw [seg_splice l j hj (s' := .r kd n g) rfl]; simp
  rw [hsp] at hst
  have hsz : ∃ i, P.info? t0 = some i ∧ i.size = n := by
    have := hb.size
    cases hi : P.info? t0 with
    | none => rw [hi] at this; cases this
    | some i => rw [hi] at this; exact ⟨i, rfl, by simpa using this⟩
  obtain ⟨i, hi, his⟩ := hsz
  refine ⟨undef, w.setRow b (segV (l.set j (.r kd n g))).toArray, ?_, k _ (h.upd ?_ ?_ fun _ h => .inl h)⟩
  · have hsv : (storeVar t0 ⟨b, segO j l, none⟩ (aggR kd n g)).run P w = .ok () (w.setRow b (segV (l.set j (.r kd n g))).toArray) := by
      have hc : (aggR kd n g).cells = (Seg.r kd n g).cells.toArray := rfl
      simp [storeVar, sizeOf, typeInfo, hi, hc, his, hlen, hst]
    simp [stS, Instr.storeAt, Instr.sureAddr, hsv]
  · exact setRow_heap w b _ _ t _ hg
  · exact Chg.setRow w b _
/-- Are two rows the same? -/
def eqR : Nat → (Nat → Int) → (Nat → Int) → Bool
  | 0, _, _ => true
  | n + 1, f, g => (f 0 == g 0) && eqR n (fun i => f (i + 1)) (fun i => g (i + 1))
theorem eqR_iff : ∀ (n : Nat) (f g : Nat → Int), eqR n f g = true ↔ ∀ i, i < n → f i = g i
  | 0, f, g => by simp [eqR]
  | n + 1, f, g => by
    simp only [eqR, Bool.and_eq_true, beq_iff_eq, eqR_iff n]
    constructor
    · rintro ⟨h0, h⟩ i hi
      cases i with
      | zero => exact h0
      | succ i => exact h i (by omega)
    · exact fun h => ⟨h 0 (by omega), fun i hi => h (i + 1) (by omega)⟩
def litV (l : List Value) : Nat → Value := fun i => l.getD i .nilIface
def zrun (l : List (Nat × Value)) : List Value := l.flatMap fun p => List.replicate p.1 p.2
def aggS (l : List Seg) : Value := .agg (segV l).toArray
theorem Now.sBox {P : Program} {t : TypeId} {l : List Seg} {B : Nat → Prop} {w0 w : World} {L : List Asn} {K : Nat → World → Prop} (h : Now B w0 w L)
    (k : ∀ b w', Now B w0 w' (sbox b l t :: L) → K b w') : ∃ b w', (Instr.box t (aggS l)).run P w = .ok (.pointer (some ⟨b, 0, none⟩)) w' ∧ K b w' := by
  refine ⟨w.heap.size, w.alloc (.cells (segV l).toArray t), ?_, k _ _ (h.add (Blk.new w (segV l) t) (Chg.alloc _ w _) fun _ h => Nat.le_of_eq h.symm)⟩
  have hc : (aggS l).cells = (segV l).toArray := rfl
  simp [Instr.box, newVar, newRow, newObj, hc]
  rfl
theorem Now.sNew {P : Program} {t : TypeId} {l : List Seg} (hz : ∃ i zv, P.info? t = some i ∧ i.zero = some zv ∧ zv.cells.toList = segV l) {B : Nat → Prop} {w0 w : World} {L : List Asn} {K : Nat → World → Prop} (h : Now B w0 w L)
    (k : ∀ b w', Now B w0 w' (sbox b l t :: L) → K b w') : ∃ b w', (Instr.alloc t true (.tuple #[])).run P w = .ok (.pointer (some ⟨b, 0, none⟩)) w' ∧ K b w' := by
  obtain ⟨i, zv, hi, hzv, e⟩ := hz
  have e' : zv.cells = (segV l).toArray := by rw [← e]
  refine ⟨w.heap.size, w.alloc (.cells (segV l).toArray t), ?_, k _ _ (h.add (Blk.new w (segV l) t) (Chg.alloc _ w _) fun _ h => Nat.le_of_eq h.symm)⟩
  simp [Instr.alloc, zeroValue, typeInfo, hi, hzv, newVar, newRow, newObj, e']
  rfl
theorem vcall_of {P : Program} {f : Value} {k : FuncId} {caps args al : Array Value} {w : World} {R : Ending → World → Prop} (hf : f = .func (.func k) #[] caps) (hb : bodied P k = true) (ha : args ++ caps = al) (h : Calls P k al w R) : VCall P f args w R := by
  subst ha; exact ⟨k, caps, hf, hb, h⟩
theorem segA1q {b o q n : Nat} : (⟨b, o + q, none⟩ : Addr).add (n * 1) = ⟨b, o + (q + n), none⟩ := by rw [Nat.mul_one, add_at, Nat.add_assoc]
theorem segB1q {i : Int} {n q m : Nat} (hb : (decide (0 ≤ i) && decide (i < ((n : Nat) : Int))) = true) (hm : Nat.ble (q + n) m = true) : q + i.toNat < m := by
  have := Nat.le_of_ble_eq_true hm
  simp only [Bool.and_eq_true, decide_eq_true_eq] at hb; omega
theorem segB3 {i : Int} {n : Nat} (hb : (decide (0 ≤ i) && decide (i < ((n : Nat) : Int))) = true) {z m : Nat} (hz : Nat.ble (n * z) m = true) : i.toNat * z + z ≤ m := by
  simp only [Bool.and_eq_true, decide_eq_true_eq] at hb
  have h2 : (i.toNat + 1) * z ≤ n * z := Nat.mul_le_mul_right _ (by omega)
  have h3 := Nat.le_of_ble_eq_true hz
  rw [Nat.add_mul] at h2; omega
/-- A row, a part of it copied. -/
def cpR (f : Nat → Int) (i : Nat) (g : Nat → Int) (j m : Nat) : Nat → Int := fun k => if i ≤ k ∧ k < i + m then g (j + (k - i)) else f k
theorem cpR_cells (kd : IntKind) (n1 : Nat) (f : Nat → Int) (n2 : Nat) (g : Nat → Int) {i1 i2 m : Nat} (h1 : i1 + m ≤ n1) (h2 : i2 + m ≤ n2) :
    (Seg.r kd n1 (cpR f i1 g i2 m)).cells = (Seg.r kd n1 f).cells.take i1 ++ ((Seg.r kd n2 g).cells.drop i2).take m ++ (Seg.r kd n1 f).cells.drop (i1 + m) := by
  have e1 : ((Seg.r kd n1 f).cells.take i1).length = i1 := by simp [Seg.cells]; omega
  have e2 : (((Seg.r kd n2 g).cells.drop i2).take m).length = m := by simp [Seg.cells]; omega
  have at' : ∀ (n : Nat) (f : Nat → Int) (j : Nat), j < n → (Seg.r kd n f).cells[j]? = some (.int kd (f j)) := fun n f j hj => by simp [Seg.cells, hj]
  have no : ∀ (n : Nat) (f : Nat → Int) (j : Nat), n ≤ j → (Seg.r kd n f).cells[j]? = none := fun n f j hj => List.getElem?_eq_none (by rw [Seg.cells_len]; exact hj)
  apply List.ext_getElem?
  intro j
  rw [List.append_assoc]
  by_cases c1 : j < i1
  · rw [List.getElem?_append_left (by omega), List.getElem?_take_of_lt c1, at' _ _ _ (by omega), at' _ _ _ (by omega)]
    simp only [cpR]; rw [if_neg (by omega)]
  · rw [List.getElem?_append_right (by omega), e1]
    by_cases c2 : j < i1 + m
    · rw [List.getElem?_append_left (by omega), List.getElem?_take_of_lt (by omega), List.getElem?_drop, at' _ _ _ (by omega), at' _ _ _ (by omega)]
      simp only [cpR]; rw [if_pos (by omega)]
    · rw [List.getElem?_append_right (by omega), e2, List.getElem?_drop, show i1 + m + (j - i1 - m) = j by omega]
      by_cases c3 : j < n1
      · rw [at' _ _ _ c3, at' _ _ _ c3]
        simp only [cpR]; rw [if_neg (by omega)]
      · rw [no _ _ _ (by omega), no _ _ _ (by omega)]
theorem seg_part : ∀ (l : List Seg) (j : Nat) {s s' : Seg} {i : Nat} {us : List Value}, l[j]? = some s → i + us.length ≤ s.len → s'.cells = s.cells.take i ++ us ++ s.cells.drop (i + us.length) →
    segV (l.set j s') = (segV l).take (segO j l + i) ++ us ++ (segV l).drop (segO j l + i + us.length)
  | [], j, s, s', i, us, h, _, _ => by simp at h
  | t :: l, 0, s, s', i, us, h, hl, e => by
    simp at h; subst h
    rw [← Seg.cells_len] at hl
    show s'.cells ++ segV l = (t.cells ++ segV l).take (0 + i) ++ us ++ (t.cells ++ segV l).drop (0 + i + us.length)
    rw [Nat.zero_add, List.take_append_of_le_length (by omega), List.drop_append_of_le_length hl, e]
    simp only [List.append_assoc]
  | t :: l, j + 1, s, s', i, us, h, hl, e => by
    have h' : l[j]? = some s := by simpa using h
    show t.cells ++ segV (l.set j s') = (t.cells ++ segV l).take (t.len + segO j l + i) ++ us ++ (t.cells ++ segV l).drop (t.len + segO j l + i + us.length)
    rw [seg_part l j h' hl e, ← Seg.cells_len t, Nat.add_assoc t.cells.length, Nat.add_assoc t.cells.length, List.take_length_add_append, List.drop_length_add_append]
    simp only [List.append_assoc, Nat.add_assoc]
theorem Now.sCopy {P : Program} {dT sT ty e : TypeId} (hu : P.underlying dT = some (.slice e)) (hs : (P.info? e).map (·.size) = some 1) {B : Nat → Prop} {w0 w : World} {b : Nat} {l : List Seg} {t : TypeId} {L : List Asn} {K : Int → World → Prop} (h : Now B w0 w (sbox b l t :: L))
    (j1 : Nat) {kd : IntKind} {n1 : Nat} {f : Nat → Int} (h1 : l[j1]? = some (.r kd n1 f)) {o1 : Nat} (ho1 : segO j1 l = o1) {i1 : Nat} {A1 : Addr} (ha1 : A1 = ⟨b, o1 + i1, none⟩)
    (j2 : Nat) {n2 : Nat} {g : Nat → Int} (h2 : l[j2]? = some (.r kd n2 g)) {o2 : Nat} (ho2 : segO j2 l = o2) {i2 : Nat} {A2 : Addr} (ha2 : A2 = ⟨b, o2 + i2, none⟩) (m : Nat) (hm : Nat.blt 0 m = true) (hb1 : i1 + m ≤ n1) (hb2 : i2 + m ≤ n2) {ln1 ln2 c1 c2 : Nat} (hl1 : ln1 = m) (hl2 : ln2 = m)
    (k : ∀ w', Now B w0 w' (sbox b (l.set j1 (.r kd n1 (cpR f i1 g i2 m))) t :: L) → K ((m : Nat) : Int) w') :
    ∃ x w', (Builtin.copy_ #[dT, sT] ty #[.slice (some A1) ln1 c1, .slice (some A2) ln2 c2]).run P w = .ok (.int .i64 x) w' ∧ K x w' := by
  subst ho1; subst ho2; subst ha1; subst ha2; subst hl1; subst hl2
  have h' : Blk w b (segV l) t := h.hp.1
  have hg : w.heap[b]? = some (.cells (segV l).toArray t (0, 0)) := h'
  have hlen : (((Seg.r kd n2 g).cells.drop i2).take ln2).length = ln2 := by simp [Seg.cells]; omega
  have hone : ∀ v ∈ ((Seg.r kd n2 g).cells.drop i2).take ln2, v.oneCell' = true := fun v hv => by
    have := List.mem_of_mem_drop (List.mem_of_mem_take hv)
    simp only [Seg.cells, List.mem_map] at this
    obtain ⟨i, _, rfl⟩ := this; rfl
  have hsrc : ∀ j v, (((Seg.r kd n2 g).cells.drop i2).take ln2)[j]? = some v → w.cell? ((⟨b, segO j2 l + i2, none⟩ : Addr).add j) = some v := fun j v hv => by
    have hj := (List.getElem?_eq_some_iff.1 hv).1
    rw [hlen] at hj
    rw [List.getElem?_take_of_lt hj, List.getElem?_drop] at hv
    rw [add_at, h'.cell, Nat.add_assoc]
    exact seg_range h2 _ _ hv
  have hfit : segO j1 l + i1 + ln2 ≤ (segV l).toArray.size := by
    cases ln2 with
    | zero => cases hm
    | succ m => have := seg_lt l j1 h1 (i1 + m) (by show i1 + m < n1; omega); simp; omega
  have hr := run_copy_row (P := P) w dT sT ty e b (segO j1 l + i1) ln2 c1 ⟨b, segO j2 l + i2, none⟩ ln2 c2 (segV l).toArray t (((Seg.r kd n2 g).cells.drop i2).take ln2) hu hs hg (by rw [hlen]; exact (Nat.min_self ln2).symm) hsrc (by rw [hlen]; exact hfit) hone
  have hsp := seg_part l j1 (s' := .r kd n1 (cpR f i1 g i2 ln2)) (i := i1) (us := ((Seg.r kd n2 g).cells.drop i2).take ln2) h1 (by rw [hlen]; exact hb1) (by rw [hlen]; exact cpR_cells kd n1 f n2 g hb1 hb2)
  rw [List.toList_toArray, ← hsp, hlen] at hr
  exact ⟨_, _, hr, k _ (h.upd (setRow_heap w b _ _ t _ hg) (Chg.setRow w b _) fun _ h => .inl h)⟩
theorem eqEs_R {P : Program} {e : TypeId} {k : IntKind} {d : Nat} (he : P.underlying e = some (.int k)) : ∀ (n i m : Nat) (f g : Nat → Int), i + n = m → eqEs P (eqv P (d + 1)) e 1 (Seg.r k m f).cells.toArray (Seg.r k m g).cells.toArray i n = some (eqR n (fun j => f (i + j)) (fun j => g (i + j)))
  | 0, i, m, f, g, _ => rfl
  | n + 1, i, m, f, g, h => by
    have hi : i < m := by omega
    have hp : ∀ f : Nat → Int, partV P e (Seg.r k m f).cells.toArray (i * 1) = some (.int k (f i)) := by
      intro f
      unfold partV
      rw [he]
      simp [Seg.cells, hi]
    have hv : ∀ a b : Int, eqv P (d + 1) e (.int k a) (.int k b) = some (a == b) := by
      intro a b
      unfold eqv
      rw [he]; simp
    unfold eqEs
    rw [hp f, hp g]
    have ih := eqEs_R (P := P) (d := d) he n (i + 1) m f g (by omega)
    have e1 : eqR (n + 1) (fun j => f (i + j)) (fun j => g (i + j)) = ((f i == g i) && eqR n (fun j => f (i + 1 + j)) (fun j => g (i + 1 + j))) := by
      have : ∀ f : Nat → Int, (fun j => f (i + (j + 1))) = fun j => f (i + 1 + j) := fun f => funext fun j => congrArg f (by omega)
      show ((f (i + 0) == g (i + 0)) && eqR n (fun j => f (i + (j + 1))) (fun j => g (i + (j + 1)))) = _
      rw [this f, this g]; rfl
    rw [e1]
    cases n with
    | zero => show eqv P (d + 1) e (.int k (f i)) (.int k (g i)) = _; rw [hv]; simp [eqR]
    | succ n =>
      show andO (eqv P (d + 1) e (.int k (f i)) (.int k (g i))) _ = _
      rw [hv, ih]; rfl
theorem eqS_R {P : Program} {t : TypeId} {k : IntKind} {n : Nat} (hb : BigA P t k n) (op : BinOp) (ho : op = .eql ∨ op = .neq) (x y : Operand) (f g : Nat → Int) (w : World) :
    (eqS op t x y (aggR k n f) (aggR k n g)).run P w = .ok (.bool (if op = .eql then eqR n f g else !(eqR n f g))) w := by
  obtain ⟨e, hu, he, hz⟩ := hb.und
  have hv : eqv P 12 t (aggR k n f) (aggR k n g) = some (eqR n f g) := by
    have := eqEs_R (P := P) (d := 10) he n 0 n f g (by omega)
    simp only [Nat.zero_add] at this
    have key : ∀ d, eqv P (d + 1) t (.agg (Seg.r k n f).cells.toArray) (.agg (Seg.r k n g).cells.toArray) = eqEs P (eqv P d) e 1 (Seg.r k n f).cells.toArray (Seg.r k n g).cells.toArray 0 n := by
      intro d
      unfold eqv
      rw [hu]
      dsimp only
      rw [hz]
    exact (key 11).trans this
  have hr : (Op.equalIn 10000 t (aggR k n f) (aggR k n g)).run P w = .ok (eqR n f g) w := eqv_run 12 t _ _ _ hv 10000 (by decide) w
  have hp : ∀ w, (program).run P w = .ok P w := fun _ => rfl
  have hg := hb.guard
  rcases ho with rfl | rfl
  · unfold aggR at *
    simp [eqS, eqGuard, hp, hg, binOp, Op.equal, Op.maxDepth, hr]
  · unfold aggR at *
    simp [eqS, eqGuard, hp, hg, binOp, Op.equal, Op.maxDepth, hr]
theorem bigEq {P : Program} {t : TypeId} {k : IntKind} {n : Nat} (hb : BigA P t k n) {x y : Operand} {f g : Nat → Int} {w : World} : (eqS .eql t x y (aggR k n f) (aggR k n g)).run P w = .ok (.bool (eqR n f g)) w := eqS_R hb .eql (.inl rfl) x y f g w
theorem bigNe {P : Program} {t : TypeId} {k : IntKind} {n : Nat} (hb : BigA P t k n) {x y : Operand} {f g : Nat → Int} {w : World} : (eqS .neq t x y (aggR k n f) (aggR k n g)).run P w = .ok (.bool (!(eqR n f g))) w := eqS_R hb .neq (.inr rfl) x y f g w
end Go.Vc
