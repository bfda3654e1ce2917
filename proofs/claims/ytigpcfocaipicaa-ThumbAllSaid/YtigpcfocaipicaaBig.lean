/-
  Great literals of slices: a row of typed elements at once.
-/
import Derived.Test.YtigpcfocaipicaaRo
namespace Go.Vc
open Go
set_option linter.unusedVariables false

theorem fold_set (off : Nat) : ∀ (r mid pre post : List Value) (j : Nat), pre.length = off + j → mid.length = r.length →
    (r.zipIdx j).foldl (fun (cs : Array Value) (x : Value × Nat) => cs.setIfInBounds (off + x.2) x.1) (pre ++ (mid ++ post)).toArray = (pre ++ (r ++ post)).toArray
  | [], [], _, _, _, _, _ => rfl
  | [], _ :: _, _, _, _, _, h => by simp at h
  | _ :: _, [], _, _, _, _, h => by simp at h
  | c :: r, m :: mid, pre, post, j, hp, hm => by
    rw [List.zipIdx_cons, List.foldl_cons]
    have e : ((pre ++ (m :: mid ++ post)).toArray).setIfInBounds (off + j) c = ((pre ++ [c]) ++ (mid ++ post)).toArray := by
      rw [List.setIfInBounds_toArray, List.set_append_right _ _ (by omega), show off + j - pre.length = 0 by omega]
      simp
    show List.foldl _ (((pre ++ (m :: mid ++ post)).toArray).setIfInBounds (off + j) c) _ = _
    rw [e, fold_set off r mid (pre ++ [c]) post (j + 1) (by simp; omega) (by simpa using hm)]
    simp
theorem fill_row {α : Type} (E : El α) : ∀ (vs : List Value) (xs : List α) (k : Nat) (pre base : List Value), vs.map (fun v => v.cells.toList) = xs.map E.enc → pre.length = k * E.z → base.length = xs.length * E.z →
    Instr.fill (fun i => some (i * E.z, E.z)) (pre ++ base).toArray ((vs.zipIdx k).map fun x => (x.2, x.1)) = some (pre ++ E.row xs).toArray
  | [], [], k, pre, base, _, _, hb => by
    have : base = [] := by simpa using hb
    subst this; rfl
  | [], x :: xs, _, _, _, h, _, _ => by simp at h
  | v :: vs, [], _, _, _, h, _, _ => by simp at h
  | v :: vs, x :: xs, k, pre, base, h, hp, hb => by
    simp only [List.map_cons, List.cons.injEq] at h
    obtain ⟨h1, h2⟩ := h
    have hv : v.cells.toList.length = E.z := by rw [h1, E.len]
    have hvs : v.cells.size = E.z := by rw [← hv, Array.length_toList]
    have hb' : base.length = E.z + xs.length * E.z := by rw [hb]; simp [Nat.add_mul, Nat.add_comm]
    obtain ⟨mid, post, rfl, hm⟩ : ∃ mid post, base = mid ++ post ∧ mid.length = E.z := ⟨base.take E.z, base.drop E.z, (List.take_append_drop _ _).symm, by rw [List.length_take]; omega⟩
    rw [List.zipIdx_cons, List.map_cons]
    unfold Instr.fill
    simp only
    rw [if_neg (by simp [hvs]; omega)]
    have e : v.cells.zipIdx.foldl (fun (cs : Array Value) (x : Value × Nat) => cs.setIfInBounds (k * E.z + x.2) x.1) (pre ++ (mid ++ post)).toArray = ((pre ++ E.enc x) ++ post).toArray := by
      rw [← Array.foldl_toList, Array.toList_zipIdx, fold_set (k * E.z) v.cells.toList mid pre post 0 (by omega) (by omega), h1]
      simp
    show Instr.fill _ (v.cells.zipIdx.foldl (fun (cs : Array Value) (x : Value × Nat) => cs.setIfInBounds (k * E.z + x.2) x.1) (pre ++ (mid ++ post)).toArray) _ = _
    rw [e, fill_row E vs xs (k + 1) (pre ++ E.enc x) post h2 (by rw [List.length_append, E.len, Nat.add_mul]; omega) (by rw [List.length_append] at hb'; omega)]
    simp [El.row]
theorem bigSlice_run {P : Program} {α : Type} (E : El α) {t e : TypeId} {i : TypeInfo} {zv : Value} (hu : P.underlying t = some (.slice e)) (hi : P.info? e = some i) (hz : i.zero = some zv) (hs : i.size = E.z)
    (vs : List Value) (xs : List α) (len : Nat) (parts : Array (Nat × Value)) (hx : xs.length = len) (hl : 0 < len) (hm : len * E.z ≤ 16777216) (hp : parts.toList = (vs.zipIdx 0).map fun x => (x.2, x.1)) (hv : vs.map (fun v => v.cells.toList) = xs.map E.enc) (w : World) :
    (Instr.buildSlice t len parts).run P w = .ok (.slice (some ⟨w.heap.size, 0, none⟩) len len) (w.alloc (.cells (E.row xs).toArray e)) := by
  have n0 : ¬ len * E.z = 0 := Nat.ne_of_gt (Nat.mul_pos hl E.pos)
  have n1 : ¬ len * E.z > 16777216 := by omega
  have key : ∀ base : Array Value, base.size = len * E.z → Instr.fill (fun i => some (i * E.z, E.z)) base parts.toList = some (E.row xs).toArray := by
    intro base hb
    have := fill_row E vs xs 0 [] base.toList hv (by simp) (by rw [Array.length_toList, hb, hx])
    rw [List.nil_append, List.nil_append, Array.toArray_toList] at this
    rw [hp]; exact this
  have hl0 : ¬ len = 0 := by omega
  simp [Instr.buildSlice, run_underlying hu, sizeOf, zeroValue, typeInfo, hi, hz, hs, n1, hl0, key, newRow]
theorem Now.bigSlice {P : Program} {α : Type} (E : El α) {t e : TypeId} {i : TypeInfo} {zv : Value} (hu : P.underlying t = some (.slice e)) (hi : P.info? e = some i) (hz : i.zero = some zv) (hs : i.size = E.z)
    (vs : List Value) (xs : List α) (len : Nat) (parts : Array (Nat × Value)) (hx : xs.length = len) (hl : 0 < len) (hm : len * E.z ≤ 16777216) (hp : parts.toList = (vs.zipIdx 0).map fun x => (x.2, x.1)) (hv : vs.map (fun v => v.cells.toList) = xs.map E.enc)
    {B : Nat → Prop} {w0 w : World} {L : List Asn} (h : Now B w0 w L) {K : Option Addr → Nat → Nat → World → Prop} (k : ∀ p w', Now B w0 w' (arr E p len xs :: L) → K p len len w') :
    ∃ x n c w', (Instr.buildSlice t len parts).run P w = .ok (.slice x n c) w' ∧ K x n c w' := by
  refine ⟨_, _, _, _, bigSlice_run E hu hi hz hs vs xs len parts hx hl hm hp hv w, k _ _ ?_⟩
  have hblk : Blk (w.alloc (.cells (E.row xs).toArray e)) w.heap.size (E.row xs) e := Blk.new w _ e
  have := (h.add (A' := box w.heap.size (E.row xs) e) hblk (Chg.alloc _ w _) (fun k (hk : k = w.heap.size) => Nat.le_of_eq hk.symm)).boxArr E xs rfl (by rw [hx]; unfold maxLen; have := Nat.le_mul_of_pos_right len E.pos; omega)
  rw [hx] at this
  exact this
end Go.Vc
