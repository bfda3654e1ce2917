/-
  How arguments read: plain facts out of the rows' readings.
-/
import Derived.SizedLaws
import Derived.Test.YtcgigdfahlmfaaaGreatDoorLib
import Derived.Deep.Slices
import Derived.Deep.Fields
import Derived.ChangeSame
import Derived.ChangeArms
import Derived.OpenShut
namespace Go.Vc
open Go Go.ChangeShapes Go.WideShapes Go.Deep
def Rd (P : Program) (w : World) : Nat → TypeId → List Value → Prop
  | 0, _, _ => False
  | n + 1, t, cs => match P.underlying t with
    | some (.int k) => ∃ x, cs = [.int k x] ∧ (Lit.int k x).wf = true
    | some .bool => ∃ b, cs = [.bool b]
    | some .string => ∃ s : ByteArray, cs = [.string s] ∧ s.size ≤ maxLen
    | some (.struct fs) => cs.length = P.cellsOf t ∧ ∀ (i : Nat) (f : Field), fs[i]? = some f → Rd P w n f.type ((cs.drop f.offset).take (P.cellsOf f.type))
    | some (.slice e) => cs = [.slice none 0 0] ∨ ∃ (a : Addr) (len cap : Nat), cs = [.slice (some a) len cap] ∧ len ≤ cap ∧ cap ≤ maxLen ∧
        ∀ i, i < cap → ∃ cs', cs'.length = P.cellsOf e ∧ (∀ j, j < P.cellsOf e → w.cell? ((a.add (i * P.cellsOf e)).add j) = cs'[j]?) ∧ Rd P w n e cs'
    | some (.array k e) => cs.length = P.cellsOf t ∧ ∀ i, i < k → Rd P w n e ((cs.drop (i * P.cellsOf e)).take (P.cellsOf e))
    | _ => True
def Rds (P : Program) (w : World) (e : TypeId) (p : Option Addr) (len cap : Nat) : Prop :=
  (p = none ∧ len = 0 ∧ cap = 0) ∨ ∃ (a : Addr) (n : Nat), p = some a ∧ len ≤ cap ∧ cap ≤ maxLen ∧
    ∀ i, i < cap → ∃ cs', cs'.length = P.cellsOf e ∧ (∀ j, j < P.cellsOf e → w.cell? ((a.add (i * P.cellsOf e)).add j) = cs'[j]?) ∧ Rd P w n e cs'
section
variable {H : Type} {enc : TypeId × Value → H} {P : Program} {w : World}
theorem rd_of : ∀ (n : Nat) (t : TypeId) (cs : List Value) (x : DataW H × List MemPlace), DataW.trod enc P w 0 (fun _ => true) true n t cs = some x → Rd P w n t cs := by
  intro n
  induction n with
  | zero => intro t cs x h; simp [DataW.trod] at h
  | succ n ih =>
    intro t cs x h
    unfold Rd
    cases hu : P.underlying t with
    | none => trivial
    | some d =>
      cases d with
      | int k => obtain ⟨y, h1, _, h3⟩ := DataW.trod_int hu h; exact ⟨y, h1, h3⟩
      | bool => obtain ⟨y, h1, _⟩ := DataW.trod_bool hu h; exact ⟨y, h1⟩
      | string => obtain ⟨y, h1, _, h3⟩ := DataW.trod_string hu h; exact ⟨y, h1, h3⟩
      | struct fs =>
        obtain ⟨xs, m, hm, _, hl, hlen, hf⟩ := DataW.trod_struct hu h
        have : m = n := by omega
        subst this
        refine ⟨hl, fun i f hi => ?_⟩
        have hi' : i < fs.size := (Array.getElem?_eq_some_iff.1 hi).1
        have := hf i f hi
        rw [List.getElem?_eq_getElem (by omega)] at this
        exact ih _ _ _ this
      | slice e =>
        rcases DataW.trod_slice hu h with h0 | ⟨a, len, cap, elems, rest, m, hm, rfl, _, _, hl, hmx, hlen, hel, hsp, _⟩
        · exact .inl h0.1
        · have : m = n := by omega
          subst this
          refine .inr ⟨a, len, cap, rfl, hl, hmx, fun i hi => ?_⟩
          have key : ∃ y, (w.cells? 0 (a.add (i * P.cellsOf e)) (P.cellsOf e)).bind (DataW.trod enc P w 0 (fun _ => true) true m e) = some y := by
            by_cases hil : i < len
            · exact ⟨_, (hel i hil).trans (List.getElem?_eq_getElem (by omega))⟩
            · have h2 := (hsp rfl).2 (i - len) (by omega)
              rw [show len + (i - len) = i by omega] at h2
              exact ⟨_, h2.trans (List.getElem?_eq_getElem (by have := (hsp rfl).1; omega))⟩
          obtain ⟨y, hy⟩ := key
          obtain ⟨cs', h1, h2⟩ := Option.bind_eq_some_iff.1 hy
          obtain ⟨_, h3, h4⟩ := World.cells?_some h1
          exact ⟨cs', h3, h4, ih _ _ _ h2⟩
      | array k e =>
        obtain ⟨xs, m, hm, _, hl, hlen, hf⟩ := DataW.trod_array hu h
        have : m = n := by omega
        subst this
        refine ⟨hl, fun i hi => ?_⟩
        have := hf i hi
        rw [List.getElem?_eq_getElem (by omega)] at this
        exact ih _ _ _ this
      | _ => trivial
theorem rds_of {t e : TypeId} {p : Option Addr} {len cap : Nat} {d : DataW H} {ps : List MemPlace} (hu : P.underlying t = some (.slice e)) (h : DataW.Trod enc P w 0 (fun _ => true) true t (.slice p len cap) d ps) : Rds P w e p len cap := by
  obtain ⟨n, hn⟩ := h
  cases n with
  | zero => simp [DataW.trod] at hn
  | succ n =>
    have := rd_of _ _ _ _ hn
    unfold Rd at this
    rw [hu] at this
    rcases this with h0 | ⟨a, l, c, h1, h2, h3, h4⟩
    · simp [Value.cells] at h0
      obtain ⟨rfl, rfl, rfl⟩ := h0
      exact .inl ⟨rfl, rfl, rfl⟩
    · simp [Value.cells] at h1
      obtain ⟨rfl, rfl, rfl⟩ := h1
      exact .inr ⟨a, n, rfl, h2, h3, h4⟩
end
theorem Rd.int {P : Program} {w : World} {n : Nat} {t : TypeId} {k : IntKind} {cs : List Value} (hu : P.underlying t = some (.int k)) (h : Rd P w n t cs) : ∃ x, cs = [.int k x] ∧ (Lit.int k x).wf = true := by
  cases n with
  | zero => exact h.elim
  | succ n => unfold Rd at h; rw [hu] at h; exact h
theorem Rd.str {P : Program} {w : World} {n : Nat} {t : TypeId} {cs : List Value} (hu : P.underlying t = some .string) (h : Rd P w n t cs) : ∃ s : ByteArray, cs = [.string s] ∧ s.size ≤ maxLen := by
  cases n with
  | zero => exact h.elim
  | succ n => unfold Rd at h; rw [hu] at h; exact h
theorem Rd.bool {P : Program} {w : World} {n : Nat} {t : TypeId} {cs : List Value} (hu : P.underlying t = some .bool) (h : Rd P w n t cs) : ∃ x, cs = [.bool x] := by
  cases n with
  | zero => exact h.elim
  | succ n => unfold Rd at h; rw [hu] at h; exact h
theorem Rd.slice {P : Program} {w : World} {n : Nat} {t e : TypeId} {cs : List Value} (hu : P.underlying t = some (.slice e)) (h : Rd P w n t cs) : ∃ p l c, cs = [.slice p l c] ∧ Rds P w e p l c := by
  cases n with
  | zero => exact h.elim
  | succ n =>
    unfold Rd at h
    rw [hu] at h
    rcases h with h0 | ⟨a, l, c, h1, h2, h3, h4⟩
    · exact ⟨_, _, _, h0, .inl ⟨rfl, rfl, rfl⟩⟩
    · exact ⟨_, _, _, h1, .inr ⟨a, n, rfl, h2, h3, h4⟩⟩
theorem Rd.struct {P : Program} {w : World} {n : Nat} {t : TypeId} {fs : Array Field} {cs : List Value} (hu : P.underlying t = some (.struct fs)) (h : Rd P w n t cs) :
    cs.length = P.cellsOf t ∧ ∃ m, ∀ (i : Nat) (f : Field), fs[i]? = some f → Rd P w m f.type ((cs.drop f.offset).take (P.cellsOf f.type)) := by
  cases n with
  | zero => exact h.elim
  | succ n => unfold Rd at h; rw [hu] at h; exact ⟨h.1, n, h.2⟩
theorem Rds.int {P : Program} {w : World} {e : TypeId} {k : IntKind} {p : Option Addr} {len cap : Nat} (hu : P.underlying e = some (.int k)) (hc : P.cellsOf e = 1) (h : Rds P w e p len cap) :
    (p = none ∧ len = 0 ∧ cap = 0) ∨ ∃ a, p = some a ∧ len ≤ cap ∧ cap ≤ maxLen ∧ ∀ i, i < cap → ∃ x, w.cell? (a.add (i * 1)) = some (.int k x) ∧ (Lit.int k x).wf = true := by
  rcases h with h | ⟨a, n, h1, h2, h3, h4⟩
  · exact .inl h
  · refine .inr ⟨a, h1, h2, h3, fun i hi => ?_⟩
    obtain ⟨cs, h5, h6, h7⟩ := h4 i hi
    obtain ⟨x, rfl, hx⟩ := Rd.int hu h7
    rw [hc] at h6
    have := h6 0 (by omega)
    exact ⟨x, by simpa [Addr.add] using this, hx⟩
theorem wf_i64 {x : Int} (h : (Lit.int .i64 x).wf = true) : -9223372036854775808 ≤ x ∧ x ≤ 9223372036854775807 := by
  simp [Lit.wf, IntKind.min, IntKind.max, IntKind.signed, IntKind.bits] at h
  omega
theorem wf_u32 {x : Int} (h : (Lit.int .u32 x).wf = true) : 0 ≤ x ∧ x < 4294967296 := by
  simp [Lit.wf, IntKind.min, IntKind.max, IntKind.signed, IntKind.bits] at h
  omega
theorem wf_u8 {x : Int} (h : (Lit.int .u8 x).wf = true) : 0 ≤ x ∧ x < 256 := by
  simp [Lit.wf, IntKind.min, IntKind.max, IntKind.signed, IntKind.bits] at h
  omega
end Go.Vc
