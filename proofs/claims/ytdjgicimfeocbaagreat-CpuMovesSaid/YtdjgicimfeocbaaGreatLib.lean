/-
  Plain lemmas over 'vc': blocks known whole, what a call has changed.
-/
import Derived.Test.YtdjgicimfeocbaaGreatVc
import Derived.Below
namespace Go.Vc
open Go

/-- Block b is a row of cells, known whole. -/
def Blk (w : World) (b : Nat) (cs : List Value) (t : TypeId) : Prop := w.heap[b]? = some (.cells cs.toArray t (0, 0))

/-- Of what was there only the blocks in B may have changed. -/
structure Chg (B : Nat → Prop) (w w' : World) : Prop where
  os : w'.os = w.os
  tape : w'.tape = w.tape
  output : w'.output = w.output
  size : w.heap.size ≤ w'.heap.size
  block : ∀ k, k < w.heap.size → ¬ B k → w'.heap[k]? = w.heap[k]?

theorem Chg.refl (B : Nat → Prop) (w : World) : Chg B w w := ⟨rfl, rfl, rfl, Nat.le_refl _, fun _ _ _ => rfl⟩
theorem Chg.mono {B C : Nat → Prop} {w w' : World} (h : Chg B w w') (hB : ∀ k, k < w.heap.size → B k → C k) : Chg C w w' :=
  ⟨h.os, h.tape, h.output, h.size, fun k hk hn => h.block k hk fun hb => hn (hB k hk hb)⟩
theorem Chg.trans {B : Nat → Prop} {w w' w'' : World} (h : Chg B w w') (h' : Chg B w' w'') : Chg B w w'' :=
  ⟨h'.os.trans h.os, h'.tape.trans h.tape, h'.output.trans h.output, Nat.le_trans h.size h'.size, fun k hk hn => (h'.block k (Nat.lt_of_lt_of_le hk h.size) hn).trans (h.block k hk hn)⟩
/-- What the second changes may be new to the first. -/
theorem Chg.then {B C : Nat → Prop} {w w' w'' : World} (h : Chg B w w') (h' : Chg C w' w'') (hC : ∀ k, k < w.heap.size → C k → B k) : Chg B w w'' :=
  ⟨h'.os.trans h.os, h'.tape.trans h.tape, h'.output.trans h.output, Nat.le_trans h.size h'.size, fun k hk hn => (h'.block k (Nat.lt_of_lt_of_le hk h.size) fun hc => hn (hC k hk hc)).trans (h.block k hk hn)⟩
theorem Chg.drewN (B : Nat → Prop) (w : World) (n : Nat) : Chg B w (w.drewN n) := ⟨rfl, rfl, rfl, Nat.le_refl _, fun _ _ _ => rfl⟩
theorem Chg.below {w w' : World} (h : Chg (fun _ => False) w w') : RowKit.Below w.heap.size w w' := ⟨h.os, h.tape, h.output, h.size, fun k hk => h.block k hk id⟩

theorem Blk.lt {w : World} {b : Nat} {cs : List Value} {t : TypeId} (h : Blk w b cs t) : b < w.heap.size := by
  rcases Nat.lt_or_ge b w.heap.size with h' | h'
  · exact h'
  · unfold Blk at h; simp [Array.getElem?_eq_none h'] at h
theorem Blk.cell {w : World} {b : Nat} {cs : List Value} {t : TypeId} (h : Blk w b cs t) (o : Nat) : w.cell? ⟨b, o, none⟩ = cs[o]? := by
  unfold Blk at h
  simp [World.cell?, h]
theorem Blk.free {w : World} {b : Nat} {cs : List Value} {t : TypeId} (h : Blk w b cs t) (o : Nat) : w.frozen? ⟨b, o, none⟩ = false := by
  unfold Blk at h
  simp [World.frozen?, h]
theorem Blk.drewN {w : World} {b : Nat} {cs : List Value} {t : TypeId} (h : Blk w b cs t) (n : Nat) : Blk (w.drewN n) b cs t := h
theorem Blk.keep {w w' : World} {b : Nat} {cs : List Value} {t : TypeId} {B : Nat → Prop} (h : Blk w b cs t) (hc : Chg B w w') (hb : ¬ B b) : Blk w' b cs t := (hc.block b h.lt hb).trans h
theorem Blk.new (w : World) (cs : List Value) (t : TypeId) : Blk (w.alloc (.cells cs.toArray t)) w.heap.size cs t := by
  show (w.heap.push _)[w.heap.size]? = _
  simp
theorem Chg.alloc (B : Nat → Prop) (w : World) (o : Obj) : Chg B w (w.alloc o) :=
  ⟨rfl, rfl, rfl, by simp, fun k hk _ => RowKit.Below.heap_alloc w o k hk⟩
theorem Blk.set {w : World} {b : Nat} {cs : List Value} {t : TypeId} (h : Blk w b cs t) (o : Nat) (v : Value) : Blk (w.setCell ⟨b, o, none⟩ v) b (cs.set o v) t := by
  unfold Blk at *
  simp only [World.setCell, Array.getElem?_modify, h]
  simp
theorem Chg.setCell (w : World) (b o : Nat) (v : Value) : Chg (· = b) w (w.setCell ⟨b, o, none⟩ v) :=
  ⟨rfl, rfl, rfl, by simp, fun k _ hn => RowKit.Below.heap_setCell w ⟨b, o, none⟩ v k hn⟩

/-- A store into a block that is known. -/
theorem St_blk {w : World} {b o : Nat} {cs : List Value} {t : TypeId} {v : Value} {K : World → Prop} (h : Blk w b cs t) (ho : decide (o < cs.length) = true)
    (k : ∀ w', Blk w' b (cs.set o v) t → Chg (· = b) w w' → w'.heap.size = w.heap.size → K w') : St w ⟨b, o, none⟩ v K :=
  ⟨⟨cs[o]'(of_decide_eq_true ho), by rw [h.cell]; exact List.getElem?_eq_getElem _⟩, h.free o, k _ (h.set o v) (Chg.setCell w b o v) (by simp)⟩
/-- New memory. -/
theorem Nw_blk {w : World} {cs : List Value} {t : TypeId} {K : Nat → World → Prop}
    (k : ∀ w', Blk w' w.heap.size cs t → Chg (fun _ => False) w w' → w'.heap.size = w.heap.size + 1 → K w.heap.size w') : Nw w (.cells cs.toArray t) K :=
  k _ (Blk.new w cs t) (Chg.alloc _ w _) (by simp)

theorem Chg.cell {B : Nat → Prop} {w w' : World} (h : Chg B w w') {a : Addr} {v : Value} (hv : w.cell? a = some v) (hb : ¬ B a.block) : w'.cell? a = some v := by
  have hlt : a.block < w.heap.size := by
    rcases Nat.lt_or_ge a.block w.heap.size with h' | h'
    · exact h'
    · simp [World.cell?, Array.getElem?_eq_none h'] at hv
  rw [← hv]
  unfold World.cell?
  rw [h.block _ hlt hb]
theorem NN_some {a : Addr} {K : Addr → Prop} : NN (some a) K = K a := rfl
theorem NN_none {K : Addr → Prop} : NN none K = False := rfl
theorem Lt_intro {α : Type} {v : α} {K : α → Prop} (h : ∀ x, x = v → K x) : Lt v K := h v rfl
theorem add_at (b o n : Nat) : (⟨b, o, none⟩ : Addr).add n = ⟨b, o + n, none⟩ := by
  unfold Addr.add
  split
  · subst_vars; rfl
  · rfl
theorem wrap_i64 {x : Int} (h1 : -9223372036854775808 ≤ x) (h2 : x ≤ 9223372036854775807) : IntKind.wrap .i64 x = x := by
  have e1 : (2 : Int) ^ 64 = 18446744073709551616 := by decide
  have e2 : (2 : Int) ^ (64 - 1) = 9223372036854775808 := by decide
  simp only [IntKind.wrap, IntKind.bits, IntKind.signed, e1, e2, Bool.true_and, decide_eq_true_eq]
  split <;> omega
theorem wrap_u32 {x : Int} (h1 : 0 ≤ x) (h2 : x < 4294967296) : IntKind.wrap .u32 x = x := by
  have e1 : (2 : Int) ^ 32 = 4294967296 := by decide
  simp only [IntKind.wrap, IntKind.bits, IntKind.signed, e1, Bool.false_and, Bool.false_eq_true, if_false]
  omega
theorem wrap_u8 {x : Int} (h1 : 0 ≤ x) (h2 : x < 256) : IntKind.wrap .u8 x = x := by
  have e1 : (2 : Int) ^ 8 = 256 := by decide
  simp only [IntKind.wrap, IntKind.bits, IntKind.signed, e1, Bool.false_and, Bool.false_eq_true, if_false]
  omega

theorem cnd {b : Bool} {X Y : Prop} (h1 : b = true → X) (h2 : b = false → Y) : cond b X Y := by
  cases b
  · exact h2 rfl
  · exact h1 rfl
theorem cnd_dec {p : Prop} [Decidable p] {X Y : Prop} (h1 : p → X) (h2 : ¬ p → Y) : cond (decide p) X Y := cnd (fun h => h1 (of_decide_eq_true h)) (fun h => h2 (of_decide_eq_false h))
theorem cnd_beq {a b : Int} {X Y : Prop} (h1 : a = b → X) (h2 : a ≠ b → Y) : cond (a == b) X Y := cnd (fun h => h1 (eq_of_beq h)) (fun h => h2 (ne_of_beq_false h))
theorem cnd_bne {a b : Int} {X Y : Prop} (h1 : a ≠ b → X) (h2 : a = b → Y) : cond (a != b) X Y := cnd (fun h => h1 (by simpa using h)) (fun h => h2 (by simpa using h))
theorem cnd_not {b : Bool} {X Y : Prop} (h : cond b Y X) : cond (!b) X Y := by cases b <;> exact h
theorem chk_nz {a : Int} {K : Prop} (h : a ≠ 0) (k : K) : chk (!(a == 0)) K := chk_iff.2 ⟨by simpa using h, k⟩
theorem chk_of {b : Bool} {K : Prop} (h : b = true) (k : K) : chk b K := chk_iff.2 ⟨h, k⟩
theorem chk_dec {p : Prop} [Decidable p] {K : Prop} (h : p) (k : K) : chk (decide p) K := chk_iff.2 ⟨decide_eq_true h, k⟩
theorem chk_in {i n : Int} {K : Prop} (h0 : 0 ≤ i) (h1 : i < n) (k : K) : chk (decide (0 ≤ i) && decide (i < n)) K := chk_iff.2 ⟨by simp [h0, h1], k⟩
theorem chk_le {i n : Int} {K : Prop} (h0 : 0 ≤ i) (h1 : i ≤ n) (k : K) : chk (decide (0 ≤ i) && decide (i ≤ n)) K := chk_iff.2 ⟨by simp [h0, h1], k⟩
theorem calls_ok {P : Program} {f : FuncId} {args : Array Value} {w : World} {R R' : Ending → World → Prop} (h : Calls P f args w R) (hr : ∀ e w', R e w' → R' e w') : Calls P f args w R' := h.mono hr

/-! ### pure functions -/
def PureCalls (P : Program) (f : FuncId) (args : Array Value) (v : Value) : Prop := ∀ w, Calls P f args w fun e w' => e = .returned v ∧ Chg (fun _ => False) w w'
def QuietCalls (P : Program) (f : FuncId) (args : Array Value) (v : Value) : Prop := ∀ w, Calls P f args w fun e w' => e = .returned v ∧ Dr w w'
theorem Dr.refl (w : World) : Dr w w := ⟨0, rfl⟩
theorem Dr.draw {w w' : World} (h : Dr w w') (n : Nat) : Dr w (w'.drewN n) := by
  obtain ⟨m, rfl⟩ := h
  exact ⟨m + n, by simp [World.drewN, Nat.add_assoc]⟩
theorem Dr.trans {w w' w'' : World} (h : Dr w w') (h' : Dr w' w'') : Dr w w'' := by
  obtain ⟨n, rfl⟩ := h'
  exact h.draw n
theorem Dr.chg {w w' : World} {B : Nat → Prop} (h : Dr w w') : Chg B w w' := by
  obtain ⟨n, rfl⟩ := h
  exact Chg.drewN _ _ _
theorem QuietCalls.pure {P : Program} {f : FuncId} {args : Array Value} {v : Value} (h : QuietCalls P f args v) : PureCalls P f args v := fun w => (h w).mono fun _ _ ⟨h1, h2⟩ => ⟨h1, h2.chg⟩
theorem QuietCalls.inDr {P : Program} {f : FuncId} {args : Array Value} {v : Value} (h : QuietCalls P f args v) (w : World) : ∀ w', Dr w w' → Calls P f args w' fun e w'' => e = .returned v ∧ Dr w w'' :=
  fun w' hw => (h w').mono fun _ _ ⟨h1, h2⟩ => ⟨h1, hw.trans h2⟩
theorem Chg.drewBy {B : Nat → Prop} {w w' : World} (h : Chg B w w') (n : Nat) : Chg B w (w'.drewN n) := h.trans (Chg.drewN _ _ n)
theorem chk_mono {b : Bool} {K K' : Prop} (h : K → K') (k : chk b K) : chk b K' := chk_iff.2 ⟨(chk_iff.1 k).1, h (chk_iff.1 k).2⟩
theorem condM {b : Bool} {A B A' B' : Prop} (h : cond b A B) (h1 : A → A') (h2 : B → B') : cond b A' B' := cond_mono h1 h2 h
theorem chkM {b : Bool} {K K' : Prop} (k : chk b K) (h : K → K') : chk b K' := chk_mono h k
theorem LtM {α : Type} {v : α} {K K' : α → Prop} (k : Lt v K) (h : ∀ x, K x → K' x) : Lt v K' := h v k
theorem Lt_mono {α : Type} {v : α} {K K' : α → Prop} (h : ∀ x, K x → K' x) (k : Lt v K) : Lt v K' := h v k

end Go.Vc
