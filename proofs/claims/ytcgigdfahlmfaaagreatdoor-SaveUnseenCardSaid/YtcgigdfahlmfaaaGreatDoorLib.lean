/-
  Plain lemmas over 'vc': blocks known whole, what a call has changed.
-/
import Derived.Test.YtcgigdfahlmfaaaGreatDoorVc
import Derived.Below
namespace Go.Vc
open Go
def Blk (w : World) (b : Nat) (cs : List Value) (t : TypeId) : Prop := w.heap[b]? = some (.cells cs.toArray t (0, 0))
structure Chg (B : Nat → Prop) (w w' : World) : Prop where
  os : w'.os = w.os
  tape : w'.tape = w.tape
  output : w'.output = w.output
  size : w.heap.size ≤ w'.heap.size
  block : ∀ k, k < w.heap.size → ¬ B k → w'.heap[k]? = w.heap[k]?
theorem Chg.refl (B : Nat → Prop) (w : World) : Chg B w w := ⟨rfl, rfl, rfl, Nat.le_refl _, fun _ _ _ => rfl⟩
theorem Chg.mono {B C : Nat → Prop} {w w' : World} (h : Chg B w w') (hB : ∀ k, k < w.heap.size → B k → C k) : Chg C w w' :=
  ⟨h.os, h.tape, h.output, h.size, fun k hk hn => h.block k hk fun hb => hn (hB k hk hb)⟩
theorem Chg.trans {B : Nat → Prop} {w w' w'' : World} (h : Chg B w w') (h' : Chg B w' w'') : Chg B w w'' :=
  ⟨h'.os.trans h.os, h'.tape.trans h.tape, h'.output.trans h.output, Nat.le_trans h.size h'.size, fun k hk hn => (h'.block k (Nat.lt_of_lt_of_le hk h.size) hn).trans (h.block k hk hn)⟩
theorem Chg.then {B C : Nat → Prop} {w w' w'' : World} (h : Chg B w w') (h' : Chg C w' w'') (hC : ∀ k, k < w.heap.size → C k → B k) : Chg B w w'' :=
  ⟨h'.os.trans h.os, h'.tape.trans h.tape, h'.output.trans h.output, Nat.le_trans h.size h'.size, fun k hk hn => (h'.block k (Nat.lt_of_lt_of_le hk h.size) fun hc => hn (hC k hk hc)).trans (h.block k hk hn)⟩
theorem Chg.drewN (B : Nat → Prop) (w : World) (n : Nat) : Chg B w (w.drewN n) := ⟨rfl, rfl, rfl, Nat.le_refl _, fun _ _ _ => rfl⟩
theorem Chg.below {w w' : World} (h : Chg (fun _ => False) w w') : RowKit.Below w.heap.size w w' := ⟨h.os, h.tape, h.output, h.size, fun k hk => h.block k hk id⟩
theorem Blk.lt {w : World} {b : Nat} {cs : List Value} {t : TypeId} (h : Blk w b cs t) : b < w.heap.size := by
  rcases Nat.lt_or_ge b w.heap.size with h' | h'
  · exact h'
  · unfold Blk at h; simp [Array.getElem?_eq_none h'] at h
theorem Blk.cell {w : World} {b : Nat} {cs : List Value} {t : TypeId} (h : Blk w b cs t) (o : Nat) : w.cell? ⟨b, o, none⟩ = cs[o]? := by
  unfold Blk at h
  simp [World.cell?, h]
theorem Blk.free {w : World} {b : Nat} {cs : List Value} {t : TypeId} (h : Blk w b cs t) (o : Nat) : w.frozen? ⟨b, o, none⟩ = false := by
  unfold Blk at h
  simp [World.frozen?, h]
theorem Blk.drewN {w : World} {b : Nat} {cs : List Value} {t : TypeId} (h : Blk w b cs t) (n : Nat) : Blk (w.drewN n) b cs t := h
theorem Blk.keep {w w' : World} {b : Nat} {cs : List Value} {t : TypeId} {B : Nat → Prop} (h : Blk w b cs t) (hc : Chg B w w') (hb : ¬ B b) : Blk w' b cs t := (hc.block b h.lt hb).trans h
theorem Blk.new (w : World) (cs : List Value) (t : TypeId) : Blk (w.alloc (.cells cs.toArray t)) w.heap.size cs t := by
  show (w.heap.push _)[w.heap.size]? = _
  simp
theorem Chg.alloc (B : Nat → Prop) (w : World) (o : Obj) : Chg B w (w.alloc o) :=
  ⟨rfl, rfl, rfl, by simp, fun k hk _ => RowKit.Below.heap_alloc w o k hk⟩
theorem Blk.set {w : World} {b : Nat} {cs : List Value} {t : TypeId} (h : Blk w b cs t) (o : Nat) (v : Value) : Blk (w.setCell ⟨b, o, none⟩ v) b (cs.set o v) t := by
  unfold Blk at *
  simp only [World.setCell, Array.getElem?_modify, h]
  simp
theorem Chg.setCell (w : World) (b o : Nat) (v : Value) : Chg (· = b) w (w.setCell ⟨b, o, none⟩ v) :=
  ⟨rfl, rfl, rfl, by simp, fun k _ hn => RowKit.Below.heap_setCell w ⟨b, o, none⟩ v k hn⟩
theorem St_blk {w : World} {b o : Nat} {cs : List Value} {t : TypeId} {v : Value} {K : World → Prop} (h : Blk w b cs t) (ho : decide (o < cs.length) = true)
    (k : ∀ w', Blk w' b (cs.set o v) t → Chg (· = b) w w' → w'.heap.size = w.heap.size → K w') : St w ⟨b, o, none⟩ v K :=
  ⟨⟨cs[o]'(of_decide_eq_true ho), by rw [h.cell]; exact List.getElem?_eq_getElem _⟩, h.free o, k _ (h.set o v) (Chg.setCell w b o v) (by simp)⟩
theorem Nw_blk {w : World} {cs : List Value} {t : TypeId} {K : Nat → World → Prop}
    (k : ∀ w', Blk w' w.heap.size cs t → Chg (fun _ => False) w w' → w'.heap.size = w.heap.size + 1 → K w.heap.size w') : Nw w (.cells cs.toArray t) K :=
  k _ (Blk.new w cs t) (Chg.alloc _ w _) (by simp)
theorem Chg.cell {B : Nat → Prop} {w w' : World} (h : Chg B w w') {a : Addr} {v : Value} (hv : w.cell? a = some v) (hb : ¬ B a.block) : w'.cell? a = some v := by
  have hlt : a.block < w.heap.size := by
    rcases Nat.lt_or_ge a.block w.heap.size with h' | h'
    · exact h'
    · simp [World.cell?, Array.getElem?_eq_none h'] at hv
  rw [← hv]
  unfold World.cell?
  rw [h.block _ hlt hb]
theorem wrap_i64 {x : Int} (h1 : -9223372036854775808 ≤ x) (h2 : x ≤ 9223372036854775807) : IntKind.wrap .i64 x = x := by
  have e1 : (2 : Int) ^ 64 = 18446744073709551616 := by decide
  have e2 : (2 : Int) ^ (64 - 1) = 9223372036854775808 := by decide
  simp only [IntKind.wrap, IntKind.bits, IntKind.signed, e1, e2, Bool.true_and, decide_eq_true_eq]
  split <;> omega
theorem wrap_u32 {x : Int} (h1 : 0 ≤ x) (h2 : x < 4294967296) : IntKind.wrap .u32 x = x := by
  have e1 : (2 : Int) ^ 32 = 4294967296 := by decide
  simp only [IntKind.wrap, IntKind.bits, IntKind.signed, e1, Bool.false_and, Bool.false_eq_true, if_false]
  omega
theorem wrap_u8 {x : Int} (h1 : 0 ≤ x) (h2 : x < 256) : IntKind.wrap .u8 x = x := by
  have e1 : (2 : Int) ^ 8 = 256 := by decide
  simp only [IntKind.wrap, IntKind.bits, IntKind.signed, e1, Bool.false_and, Bool.false_eq_true, if_false]
  omega
theorem chk_of {b : Bool} {K : Prop} (h : b = true) (k : K) : chk b K := chk_iff.2 ⟨h, k⟩
theorem chk_in {i n : Int} {K : Prop} (h0 : 0 ≤ i) (h1 : i < n) (k : K) : chk (decide (0 ≤ i) && decide (i < n)) K := chk_iff.2 ⟨by simp [h0, h1], k⟩
def PureCalls (P : Program) (f : FuncId) (args : Array Value) (v : Value) : Prop := ∀ w, Calls P f args w fun e w' => e = .returned v ∧ Chg (fun _ => False) w w'
def QuietCalls (P : Program) (f : FuncId) (args : Array Value) (v : Value) : Prop := ∀ w, Calls P f args w fun e w' => e = .returned v ∧ Dr w w'
theorem Dr.refl (w : World) : Dr w w := ⟨0, rfl⟩
theorem Dr.draw {w w' : World} (h : Dr w w') (n : Nat) : Dr w (w'.drewN n) := by
  obtain ⟨m, rfl⟩ := h
  exact ⟨m + n, by simp [World.drewN, Nat.add_assoc]⟩
theorem Dr.trans {w w' w'' : World} (h : Dr w w') (h' : Dr w' w'') : Dr w w'' := by
  obtain ⟨n, rfl⟩ := h'
  exact h.draw n
theorem Dr.chg {w w' : World} {B : Nat → Prop} (h : Dr w w') : Chg B w w' := by
  obtain ⟨n, rfl⟩ := h
  exact Chg.drewN _ _ _
theorem QuietCalls.pure {P : Program} {f : FuncId} {args : Array Value} {v : Value} (h : QuietCalls P f args v) : PureCalls P f args v := fun w => (h w).mono fun _ _ ⟨h1, h2⟩ => ⟨h1, h2.chg⟩
theorem Chg.drewBy {B : Nat → Prop} {w w' : World} (h : Chg B w w') (n : Nat) : Chg B w (w'.drewN n) := h.trans (Chg.drewN _ _ n)
end Go.Vc
