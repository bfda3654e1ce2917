/-
  Ranging over a string: the iterator, as owned memory.
-/
import Derived.Test.YtcgigdfahlmfaaaGreatDoorRo
import Derived.Laws.RangeString
import Derived.Laws.RangeAny
namespace Go.Vc
open Go
set_option linter.unusedVariables false
set_option linter.unusedSimpArgs false
def itr (b : Nat) (s : ByteArray) (pos : Nat) : Asn where
  holds w := w.heap[b]? = some (.stringIter s pos)
  foot k := k = b
  keep h hb := (h _ rfl).trans hb
  lt h k hk := by
    subst hk
    rcases Nat.lt_or_ge k (World.heap _).size with h' | h'
    · exact h'
    · rw [Array.getElem?_eq_none h'] at h; cases h
theorem run_next_at {P : Program} (w : World) (b : Nat) (s : ByteArray) (pos : Nat) (ty : TypeId) (hb : w.heap[b]? = some (.stringIter s pos)) (h : pos < s.size) :
    (Instr.next (.pointer (some ⟨b, 0, none⟩)) true ty).run P w = .ok (.tuple #[.bool true, .int .i64 pos, .int .i32 (Utf8.decode s pos).1]) { w with heap := w.heap.setIfInBounds b (.stringIter s (pos + (Utf8.decode s pos).2)) } := by
  simp only [Instr.next, getObj, setObj, Sem.run_bind, Sem.run, hb, Result.andThen, h, if_true]
  simp [goInt]
theorem run_next_done {P : Program} (w : World) (b : Nat) (s : ByteArray) (pos : Nat) (ty : TypeId) (hb : w.heap[b]? = some (.stringIter s pos)) (h : ¬ pos < s.size) :
    (Instr.next (.pointer (some ⟨b, 0, none⟩)) true ty).run P w = .ok (.tuple #[.bool false]) w := by
  simp [Instr.next, getObj, Sem.run, hb, h]
theorem Chg.setObj (w : World) (b : Nat) (o : Obj) : Chg (· = b) w { w with heap := w.heap.setIfInBounds b o } :=
  ⟨rfl, rfl, rfl, by simp, fun k hk hb => by simp [Array.getElem?_setIfInBounds, Ne.symm hb]⟩
theorem Now.mkItr {P : Program} {t : TypeId} (ht : P.underlying t = some .string) {B : Nat → Prop} {w0 w : World} {L : List Asn} {s : ByteArray} {K : Option Addr → World → Prop} (h : Now B w0 w L) (c : ∀ b w', Now B w0 w' (itr b s 0 :: L) → K (some ⟨b, 0, none⟩) w') :
    ∃ p, ∃ w', (Instr.range t (.string s)).run P w = .ok (.pointer p) w' ∧ K p w' :=
  ⟨_, _, run_range_string w t s ht, c _ _ (h.add (show (itr w.heap.size s 0).holds _ from World.iter_heap w s 0) (Chg.alloc _ _ _) fun j hj => Nat.le_of_eq hj.symm)⟩
theorem Now.nextOn {P : Program} {ty : TypeId} {B : Nat → Prop} {w0 w : World} {b : Nat} {s : ByteArray} {pos : Nat} {L : List Asn} {A : Int → Int → World → Prop} (h : Now B w0 w (itr b s pos :: L)) (hlt : pos < s.size)
    (c : ∀ w', Now B w0 w' (itr b s (pos + (Utf8.decode s pos).2) :: L) → A (pos : Int) ((Utf8.decode s pos).1 : Int) w') :
    ∃ k r, ∃ w', (Instr.next (.pointer (some ⟨b, 0, none⟩)) true ty).run P w = .ok (.tuple #[.bool true, .int .i64 k, .int .i32 r]) w' ∧ A k r w' := by
  have hb : w.heap[b]? = some (.stringIter s pos) := h.hp.1
  refine ⟨_, _, _, run_next_at w b s pos ty hb hlt, c _ (h.upd ?_ (Chg.setObj w b _) fun _ hf => .inl hf)⟩
  show (w.heap.setIfInBounds b _)[b]? = _
  have hl : b < w.heap.size := (itr b s pos).lt hb b rfl
  simp [hl]
theorem Now.nextEnd {P : Program} {ty : TypeId} {B : Nat → Prop} {w0 w : World} {b : Nat} {s : ByteArray} {pos : Nat} {L : List Asn} {A : World → Prop} (h : Now B w0 w (itr b s pos :: L)) (hge : ¬ pos < s.size)
    (c : Now B w0 w (itr b s pos :: L) → A w) : ∃ w', (Instr.next (.pointer (some ⟨b, 0, none⟩)) true ty).run P w = .ok (.tuple #[.bool false]) w' ∧ A w' :=
  ⟨_, run_next_done w b s pos ty h.hp.1 hge, c h⟩
end Go.Vc
