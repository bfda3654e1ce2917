/-
  Owned memory: assertions with a footprint, and what the walk knows at a place.
-/
import Derived.Test.YtcgigdfahlmfaaaGreatDoorLib
import Derived.Laws.IdiomCopy
import Derived.Laws.OwnMore
import Derived.Laws.AppendOwn
import Derived.Laws.IdiomStrings
import Derived.Lib.ConvBytes
import Derived.ArgAppend
namespace Go.Vc
open Go
set_option linter.unusedVariables false
structure Asn where
  holds : World → Prop
  foot : Nat → Prop
  keep : ∀ {w w' : World}, (∀ k, foot k → w'.heap[k]? = w.heap[k]?) → holds w → holds w'
  lt : ∀ {w : World}, holds w → ∀ k, foot k → k < w.heap.size
theorem heap_lt {w w' : World} {k : Nat} (h : w'.heap[k]? = w.heap[k]?) (hk : k < w.heap.size) : k < w'.heap.size := by
  rcases Nat.lt_or_ge k w'.heap.size with h' | h'
  · exact h'
  · rw [Array.getElem?_eq_none h', Array.getElem?_eq_getElem hk] at h; cases h
def box (b : Nat) (cs : List Value) (t : TypeId) : Asn where
  holds w := Blk w b cs t
  foot k := k = b
  keep h hb := by unfold Blk at *; rw [h b rfl]; exact hb
  lt h k hk := by subst hk; exact h.lt
def Foot : List Asn → Nat → Prop
  | [], _ => False
  | A :: L, k => A.foot k ∨ Foot L k
def Hp (w : World) : List Asn → Prop
  | [] => True
  | A :: L => A.holds w ∧ (∀ k, A.foot k → ¬ Foot L k) ∧ Hp w L
theorem Hp.lt {w : World} : ∀ {L : List Asn}, Hp w L → ∀ k, Foot L k → k < w.heap.size
  | [], _, k, hk => hk.elim
  | A :: L, h, k, hk => hk.elim (A.lt h.1 k) (Hp.lt h.2.2 k)
theorem Hp.keep {w w' : World} : ∀ {L : List Asn}, (∀ k, Foot L k → w'.heap[k]? = w.heap[k]?) → Hp w L → Hp w' L
  | [], _, _ => trivial
  | A :: L, hk, h => ⟨A.keep (fun k hf => hk k (.inl hf)) h.1, h.2.1, Hp.keep (fun k hf => hk k (.inr hf)) h.2.2⟩
structure Now (B : Nat → Prop) (w0 w : World) (L : List Asn) : Prop where
  hp : Hp w L
  chg : Chg B w0 w
  sub : ∀ k, Foot L k → B k ∨ w0.heap.size ≤ k
theorem Now.start {w : World} {L : List Asn} (h : Hp w L) : Now (Foot L) w w L := ⟨h, Chg.refl _ _, fun k hk => .inl hk⟩
theorem Now.drewN {B : Nat → Prop} {w0 w : World} {L : List Asn} (h : Now B w0 w L) (n : Nat) : Now B w0 (w.drewN n) L :=
  ⟨Hp.keep (w := w) (fun _ _ => rfl) h.hp, h.chg.drewBy n, h.sub⟩
theorem Now.upd {B : Nat → Prop} {w0 w w' : World} {A A' : Asn} {L : List Asn} (h : Now B w0 w (A :: L)) (ha : A'.holds w') (hc : Chg A.foot w w') (hs : ∀ k, A'.foot k → A.foot k ∨ w.heap.size ≤ k) : Now B w0 w' (A' :: L) := by
  refine ⟨⟨ha, fun k hk hl => ?_, h.hp.2.2.keep fun k hk => hc.block k (h.hp.2.2.lt k hk) fun hf => h.hp.2.1 k hf hk⟩, h.chg.then hc fun k hk hf => ?_, fun k hk => ?_⟩
  · rcases hs k hk with h1 | h1
    · exact h.hp.2.1 k h1 hl
    · exact Nat.not_lt.2 h1 (h.hp.2.2.lt k hl)
  · rcases h.sub k (.inl hf) with h1 | h1
    · exact h1
    · exact absurd hk (Nat.not_lt.2 h1)
  · rcases hk with hk | hk
    · rcases hs k hk with h1 | h1
      · exact h.sub k (.inl h1)
      · exact .inr (Nat.le_trans h.chg.size h1)
    · exact h.sub k (.inr hk)
theorem Now.add {B : Nat → Prop} {w0 w w' : World} {A' : Asn} {L : List Asn} (h : Now B w0 w L) (ha : A'.holds w') (hc : Chg (fun _ => False) w w') (hs : ∀ k, A'.foot k → w.heap.size ≤ k) : Now B w0 w' (A' :: L) := by
  refine ⟨⟨ha, fun k hk hl => Nat.not_lt.2 (hs k hk) (h.hp.lt k hl), h.hp.keep fun k hk => hc.block k (h.hp.lt k hk) id⟩, h.chg.then hc fun k hk hf => hf.elim, fun k hk => ?_⟩
  rcases hk with hk | hk
  · exact .inr (Nat.le_trans h.chg.size (hs k hk))
  · exact h.sub k hk
theorem Now.pass {B : Nat → Prop} {w0 w w' : World} {L : List Asn} (h : Now B w0 w L) (hc : Chg (fun _ => False) w w') : Now B w0 w' L :=
  ⟨h.hp.keep fun k hk => hc.block k (h.hp.lt k hk) id, h.chg.then hc fun k hk hf => hf.elim, h.sub⟩
theorem Foot_append {L M : List Asn} {k : Nat} : Foot (L ++ M) k ↔ Foot L k ∨ Foot M k := by
  induction L with
  | nil => simp [Foot]
  | cons A L ih => simp [Foot, ih, or_assoc]
theorem Hp_append {w : World} {L M : List Asn} : Hp w (L ++ M) ↔ Hp w L ∧ Hp w M ∧ ∀ k, Foot L k → ¬ Foot M k := by
  induction L with
  | nil => simp [Hp, Foot]
  | cons A L ih =>
    simp only [List.cons_append, Hp, ih, Foot_append, Foot]
    constructor
    · rintro ⟨h1, h2, h3, h4, h5⟩
      exact ⟨⟨h1, fun k hk hl => h2 k hk (.inl hl), h3⟩, h4, fun k hk hm => hk.elim (fun hk => h2 k hk (.inr hm)) fun hk => h5 k hk hm⟩
    · rintro ⟨⟨h1, h2, h3⟩, h4, h5⟩
      exact ⟨h1, fun k hk hl => hl.elim (h2 k hk) (h5 k (.inl hk)), h3, h4, fun k hk => h5 k (.inr hk)⟩
theorem Now.call {B : Nat → Prop} {w0 w w' : World} (L : List Asn) {L' M : List Asn} (h : Now B w0 w (L ++ M)) (hc : Now (Foot L) w w' L') : Now B w0 w' (L' ++ M) := by
  obtain ⟨h1, h2, h3⟩ := Hp_append.1 h.hp
  refine ⟨Hp_append.2 ⟨hc.hp, h2.keep fun k hk => hc.chg.block k (h2.lt k hk) fun hf => h3 k hf hk, fun k hk hm => ?_⟩, h.chg.then hc.chg fun k hk hf => ?_, fun k hk => ?_⟩
  · rcases hc.sub k hk with h4 | h4
    · exact h3 k h4 hm
    · exact Nat.not_lt.2 h4 (h2.lt k hm)
  · rcases h.sub k (Foot_append.2 (.inl hf)) with h1 | h1
    · exact h1
    · exact absurd hk (Nat.not_lt.2 h1)
  · rcases Foot_append.1 hk with hk | hk
    · rcases hc.sub k hk with h4 | h4
      · exact h.sub k (Foot_append.2 (.inl h4))
      · exact .inr (Nat.le_trans h.chg.size h4)
    · exact h.sub k (Foot_append.2 (.inr hk))
theorem Now.take {B : Nat → Prop} {w0 w : World} (L : List Asn) {M : List Asn} (h : Now B w0 w (L ++ M)) : Hp w L := (Hp_append.1 h.hp).1
theorem Now.drop {B : Nat → Prop} {w0 w : World} {A : Asn} {L : List Asn} (h : Now B w0 w (A :: L)) : Now B w0 w L := ⟨h.hp.2.2, h.chg, fun k hk => h.sub k (.inr hk)⟩
theorem Hp.swap {w : World} {A C : Asn} {L : List Asn} (h : Hp w (A :: C :: L)) : Hp w (C :: A :: L) :=
  ⟨h.2.2.1, fun k hk hl => hl.elim (fun ha => h.2.1 k ha (.inl hk)) (h.2.2.2.1 k hk), h.1, fun k hk hl => h.2.1 k hk (.inr hl), h.2.2.2.2⟩
theorem Hp.cons {w : World} {A : Asn} {L M : List Asn} (h : Hp w (A :: L)) (hm : Hp w M) (hf : ∀ k, Foot M k → Foot L k) : Hp w (A :: M) := ⟨h.1, fun k hk hl => h.2.1 k hk (hf k hl), hm⟩
def front (n : Nat) (L : List Asn) : List Asn := match L[n]? with | some A => A :: L.eraseIdx n | none => L
theorem Foot_front : ∀ (n : Nat) (L : List Asn) (k : Nat), Foot (front n L) k ↔ Foot L k := by
  intro n L k
  unfold front
  split
  · rename_i A hA
    induction L generalizing n with
    | nil => simp at hA
    | cons C L ih =>
      cases n with
      | zero => simp at hA; subst hA; simp [Foot]
      | succ n =>
        simp at hA
        have := ih n hA
        simp only [List.eraseIdx_cons_succ, Foot] at *
        rw [← this]
        exact ⟨fun h => h.elim (fun h => .inr (.inl h)) fun h => h.elim .inl fun h => .inr (.inr h), fun h => h.elim (fun h => .inr (.inl h)) fun h => h.elim .inl fun h => .inr (.inr h)⟩
  · rfl
theorem Hp_front {w : World} : ∀ (n : Nat) (L : List Asn), Hp w L → Hp w (front n L) := by
  intro n L h
  unfold front
  split
  · rename_i A hA
    induction L generalizing n with
    | nil => simp at hA
    | cons C L ih =>
      cases n with
      | zero => simp at hA; subst hA; simpa using h
      | succ n =>
        simp at hA
        have h1 := ih n h.2.2 hA
        have h2 : Hp w (C :: A :: L.eraseIdx n) := h.cons h1 fun k hk => by
          have := Foot_front n L k
          unfold front at this; rw [hA] at this; exact this.1 hk
        exact h2.swap
  · exact h
theorem Now.front {B : Nat → Prop} {w0 w : World} {L : List Asn} (h : Now B w0 w L) (n : Nat) : Now B w0 w (Vc.front n L) := ⟨Hp_front n L h.hp, h.chg, fun k hk => h.sub k ((Foot_front n L k).1 hk)⟩
theorem Now.cell {B : Nat → Prop} {w0 w : World} {b : Nat} {cs : List Value} {t : TypeId} {L : List Asn} (h : Now B w0 w (box b cs t :: L)) (o : Nat) {v : Value} (hv : cs[o]? = some v) : w.cell? ⟨b, o, none⟩ = some v :=
  (Blk.cell h.hp.1 o).trans hv
theorem Now.St {B : Nat → Prop} {w0 w : World} {b o : Nat} {cs : List Value} {t : TypeId} {v : Value} {L : List Asn} {K : World → Prop} (h : Now B w0 w (box b cs t :: L)) (ho : decide (o < cs.length) = true)
    (k : ∀ w', Now B w0 w' (box b (cs.set o v) t :: L) → K w') : St w ⟨b, o, none⟩ v K :=
  St_blk (h.hp.1 : Blk w b cs t) ho fun w' h' hc _ => k w' (h.upd h' (hc.mono fun _ _ h => h) fun _ h => .inl h)
theorem Now.Nw {B : Nat → Prop} {w0 w : World} {cs : List Value} {t : TypeId} {L : List Asn} {K : Nat → World → Prop} (h : Now B w0 w L)
    (k : ∀ b w', Now B w0 w' (box b cs t :: L) → K b w') : Nw w (.cells cs.toArray t) K :=
  Nw_blk fun w' h' hc _ => k _ w' (h.add h' hc fun _ h => Nat.le_of_eq h.symm)
def Let {α : Type} {β : Sort _} (v : α) (f : α → β) : β := f v
theorem LetF {α β : Type} {v : α} {f : α → Option β} {r : β} {K : α → Prop} (h : Let v f = some r) (k : ∀ x, f x = some r → K x) : Lt v K := k v h
theorem condF {α : Type} {b : Bool} {x y : Option α} {r : α} {X Y : Prop} (h : cond b x y = some r) (h1 : b = true → x = some r → X) (h2 : b = false → y = some r → Y) : cond b X Y := by
  cases b
  · exact h2 rfl h
  · exact h1 rfl h
theorem chkF {α : Type} {b : Bool} {x : Option α} {r : α} {X : Prop} (h : cond b x none = some r) (h1 : b = true → x = some r → X) : chk b X := by
  cases b
  · cases h
  · exact h1 rfl h
theorem chkE {α : Type} {b : Bool} {x : Option α} {r : α} {X : Prop} (h : cond b x none = some r) (h1 : b = true → x = some r → X) : X := by
  cases b
  · cases h
  · exact h1 rfl h
theorem leafF {α : Type} {x r : α} {G : α → Prop} (h : some x = some r) (g : G x) : G r := by cases h; exact g
theorem noneF {α : Type} {r : α} {G : Prop} (h : (none : Option α) = some r) : G := by cases h
theorem bindF {α β : Type} {x : Option α} {f : α → Option β} {r : β} {G : Prop} (h : x.bind f = some r) (k : ∀ (o : α), x = some o → f o = some r → G) : G := by
  cases x with
  | none => cases h
  | some o => exact k o rfl h
theorem joinF {α β : Type} {x : Option α} {f : α → Option β} {r : β} {G : Prop} (h : x.bind f = some r)
    (k : ∀ (T : α → Prop), (∀ s, T s → f s = some r) → (∃ s, x = some s ∧ T s) → G) : G := by
  cases x with
  | none => cases h
  | some o => exact k (fun s => f s = some r) (fun _ h => h) ⟨o, rfl, h⟩
def iterO {σ ρ : Type} (f : σ → Option (σ ⊕ ρ)) : Nat → σ → Option ρ
  | 0, _ => none
  | n + 1, s => (f s).bind fun x => match x with | .inl s' => iterO f n s' | .inr y => some y
theorem iterO_mono {σ ρ : Type} {f : σ → Option (σ ⊕ ρ)} : ∀ {n m : Nat} {s : σ} {r : ρ}, iterO f n s = some r → n ≤ m → iterO f m s = some r
  | 0, _, _, _, h, _ => by cases h
  | n + 1, 0, _, _, _, hm => by omega
  | n + 1, m + 1, s, r, h, hm => by
    unfold iterO at *
    cases hf : f s with
    | none => rw [hf] at h; cases h
    | some x =>
      rw [hf] at h
      cases x with
      | inl s' => exact iterO_mono (n := n) (m := m) h (by omega)
      | inr y => exact h
open Classical in
noncomputable def loopO {σ ρ : Type} (f : σ → Option (σ ⊕ ρ)) (s : σ) : Option ρ := if h : ∃ r, ∃ n, iterO f n s = some r then some h.choose else none
theorem loopO_of {σ ρ : Type} {f : σ → Option (σ ⊕ ρ)} (n : Nat) {s : σ} {r : ρ} (h : iterO f n s = some r) : loopO f s = some r := by
  unfold loopO
  have hx : ∃ r, ∃ n, iterO f n s = some r := ⟨r, n, h⟩
  rw [dif_pos hx]
  obtain ⟨m, hm⟩ := hx.choose_spec
  have h1 := iterO_mono hm (Nat.le_max_left m n)
  have h2 := iterO_mono h (Nat.le_max_right m n)
  rw [h1] at h2; exact h2
theorem loopO_some {σ ρ : Type} {f : σ → Option (σ ⊕ ρ)} {s : σ} {r : ρ} (h : loopO f s = some r) : ∃ n, iterO f n s = some r := by
  unfold loopO at h
  split at h
  · rename_i hx; cases h; exact hx.choose_spec
  · cases h
theorem loopO_eq {σ ρ : Type} (f : σ → Option (σ ⊕ ρ)) (s : σ) : loopO f s = (f s).bind fun x => match x with | .inl s' => loopO f s' | .inr y => some y := by
  cases hf : f s with
  | none =>
    cases hl : loopO f s with
    | none => rfl
    | some r =>
      obtain ⟨n, hn⟩ := loopO_some hl
      cases n with
      | zero => cases hn
      | succ n => unfold iterO at hn; rw [hf] at hn; cases hn
  | some x =>
    cases x with
    | inr y => exact loopO_of 1 (by unfold iterO; rw [hf]; rfl)
    | inl s' =>
      show loopO f s = loopO f s'
      cases hl : loopO f s' with
      | some r => obtain ⟨n, hn⟩ := loopO_some hl; exact loopO_of (n + 1) (by unfold iterO; rw [hf]; exact hn)
      | none =>
        cases hr : loopO f s with
        | none => rfl
        | some r =>
          obtain ⟨n, hn⟩ := loopO_some hr
          cases n with
          | zero => cases hn
          | succ n => unfold iterO at hn; rw [hf] at hn; rw [loopO_of n hn] at hl; cases hl
def LoopAfter {σ ρ : Type} (It : Nat → σ → Prop) (n : Nat) (r : ρ) : σ ⊕ ρ → Prop
  | .inl s' => ∃ m, m < n ∧ It m s'
  | .inr y => y = r
theorem loopCont {σ ρ : Type} {It : Nat → σ → Prop} {n : Nat} {r : ρ} {s' : σ} {x : σ ⊕ ρ} (h : some (Sum.inl s') = some x) (a : LoopAfter It n r x) : ∃ m, m < n ∧ It m s' := by cases h; exact a
theorem loopExit {σ ρ : Type} {It : Nat → σ → Prop} {n : Nat} {r : ρ} {y : ρ} {x : σ ⊕ ρ} (h : some (Sum.inr y) = some x) (a : LoopAfter It n r x) : some y = some r := by cases h; exact congrArg some a
theorem joinTo {α : Type} {T : α → Prop} {v s : α} (h : some v = some s) (t : T s) : T v := by cases h; exact t
theorem loopF {σ ρ : Type} {f : σ → Option (σ ⊕ ρ)} {s : σ} {r : ρ} {G : Prop} (h : loopO f s = some r)
    (k : ∀ (It : Nat → σ → Prop), (∀ n s, It n s → ∃ x, f s = some x ∧ LoopAfter It n r x) → (∃ n, It n s) → G) : G := by
  refine k (fun n s => iterO f n s = some r) (fun n s hn => ?_) (loopO_some h)
  cases n with
  | zero => cases hn
  | succ n =>
    unfold iterO at hn
    cases hf : f s with
    | none => rw [hf] at hn; cases hn
    | some x =>
      rw [hf] at hn
      refine ⟨x, rfl, ?_⟩
      cases x with
      | inl s' => exact ⟨n, Nat.lt_succ_self n, hn⟩
      | inr y => exact Option.some.inj hn
theorem Now.front1 {B : Nat → Prop} {w0 w : World} {A0 A1 : Asn} {L : List Asn} (h : Now B w0 w (A0 :: A1 :: L)) : Now B w0 w (A1 :: A0 :: L) := h.front 1
theorem Now.front2 {B : Nat → Prop} {w0 w : World} {A0 A1 A2 : Asn} {L : List Asn} (h : Now B w0 w (A0 :: A1 :: A2 :: L)) : Now B w0 w (A2 :: A0 :: A1 :: L) := h.front 2
theorem Now.front3 {B : Nat → Prop} {w0 w : World} {A0 A1 A2 A3 : Asn} {L : List Asn} (h : Now B w0 w (A0 :: A1 :: A2 :: A3 :: L)) : Now B w0 w (A3 :: A0 :: A1 :: A2 :: L) := h.front 3
theorem Now.front4 {B : Nat → Prop} {w0 w : World} {A0 A1 A2 A3 A4 : Asn} {L : List Asn} (h : Now B w0 w (A0 :: A1 :: A2 :: A3 :: A4 :: L)) : Now B w0 w (A4 :: A0 :: A1 :: A2 :: A3 :: L) := h.front 4
theorem Now.front5 {B : Nat → Prop} {w0 w : World} {A0 A1 A2 A3 A4 A5 : Asn} {L : List Asn} (h : Now B w0 w (A0 :: A1 :: A2 :: A3 :: A4 :: A5 :: L)) : Now B w0 w (A5 :: A0 :: A1 :: A2 :: A3 :: A4 :: L) := h.front 5
theorem Now.front6 {B : Nat → Prop} {w0 w : World} {A0 A1 A2 A3 A4 A5 A6 : Asn} {L : List Asn} (h : Now B w0 w (A0 :: A1 :: A2 :: A3 :: A4 :: A5 :: A6 :: L)) : Now B w0 w (A6 :: A0 :: A1 :: A2 :: A3 :: A4 :: A5 :: L) := h.front 6
theorem Now.front7 {B : Nat → Prop} {w0 w : World} {A0 A1 A2 A3 A4 A5 A6 A7 : Asn} {L : List Asn} (h : Now B w0 w (A0 :: A1 :: A2 :: A3 :: A4 :: A5 :: A6 :: A7 :: L)) : Now B w0 w (A7 :: A0 :: A1 :: A2 :: A3 :: A4 :: A5 :: A6 :: L) := h.front 7
theorem Now.front8 {B : Nat → Prop} {w0 w : World} {A0 A1 A2 A3 A4 A5 A6 A7 A8 : Asn} {L : List Asn} (h : Now B w0 w (A0 :: A1 :: A2 :: A3 :: A4 :: A5 :: A6 :: A7 :: A8 :: L)) : Now B w0 w (A8 :: A0 :: A1 :: A2 :: A3 :: A4 :: A5 :: A6 :: A7 :: L) := h.front 8
theorem Now.front9 {B : Nat → Prop} {w0 w : World} {A0 A1 A2 A3 A4 A5 A6 A7 A8 A9 : Asn} {L : List Asn} (h : Now B w0 w (A0 :: A1 :: A2 :: A3 :: A4 :: A5 :: A6 :: A7 :: A8 :: A9 :: L)) : Now B w0 w (A9 :: A0 :: A1 :: A2 :: A3 :: A4 :: A5 :: A6 :: A7 :: A8 :: L) := h.front 9
theorem Now.front10 {B : Nat → Prop} {w0 w : World} {A0 A1 A2 A3 A4 A5 A6 A7 A8 A9 A10 : Asn} {L : List Asn} (h : Now B w0 w (A0 :: A1 :: A2 :: A3 :: A4 :: A5 :: A6 :: A7 :: A8 :: A9 :: A10 :: L)) : Now B w0 w (A10 :: A0 :: A1 :: A2 :: A3 :: A4 :: A5 :: A6 :: A7 :: A8 :: A9 :: L) := h.front 10
theorem Now.front11 {B : Nat → Prop} {w0 w : World} {A0 A1 A2 A3 A4 A5 A6 A7 A8 A9 A10 A11 : Asn} {L : List Asn} (h : Now B w0 w (A0 :: A1 :: A2 :: A3 :: A4 :: A5 :: A6 :: A7 :: A8 :: A9 :: A10 :: A11 :: L)) : Now B w0 w (A11 :: A0 :: A1 :: A2 :: A3 :: A4 :: A5 :: A6 :: A7 :: A8 :: A9 :: A10 :: L) := h.front 11
theorem Now.front12 {B : Nat → Prop} {w0 w : World} {A0 A1 A2 A3 A4 A5 A6 A7 A8 A9 A10 A11 A12 : Asn} {L : List Asn} (h : Now B w0 w (A0 :: A1 :: A2 :: A3 :: A4 :: A5 :: A6 :: A7 :: A8 :: A9 :: A10 :: A11 :: A12 :: L)) : Now B w0 w (A12 :: A0 :: A1 :: A2 :: A3 :: A4 :: A5 :: A6 :: A7 :: A8 :: A9 :: A10 :: A11 :: L) := h.front 12
theorem Now.front13 {B : Nat → Prop} {w0 w : World} {A0 A1 A2 A3 A4 A5 A6 A7 A8 A9 A10 A11 A12 A13 : Asn} {L : List Asn} (h : Now B w0 w (A0 :: A1 :: A2 :: A3 :: A4 :: A5 :: A6 :: A7 :: A8 :: A9 :: A10 :: A11 :: A12 :: A13 :: L)) : Now B w0 w (A13 :: A0 :: A1 :: A2 :: A3 :: A4 :: A5 :: A6 :: A7 :: A8 :: A9 :: A10 :: A11 :: A12 :: L) := h.front 13
theorem Now.front14 {B : Nat → Prop} {w0 w : World} {A0 A1 A2 A3 A4 A5 A6 A7 A8 A9 A10 A11 A12 A13 A14 : Asn} {L : List Asn} (h : Now B w0 w (A0 :: A1 :: A2 :: A3 :: A4 :: A5 :: A6 :: A7 :: A8 :: A9 :: A10 :: A11 :: A12 :: A13 :: A14 :: L)) : Now B w0 w (A14 :: A0 :: A1 :: A2 :: A3 :: A4 :: A5 :: A6 :: A7 :: A8 :: A9 :: A10 :: A11 :: A12 :: A13 :: L) := h.front 14
theorem Foot_take : ∀ (n : Nat) (L : List Asn) (k : Nat), Foot (L.take n) k → Foot L k
  | 0, _, _, h => by simp [Foot] at h
  | n + 1, [], _, h => by simp [Foot] at h
  | n + 1, A :: L, k, h => h.elim .inl fun h => .inr (Foot_take n L k h)
theorem Hp_take {w : World} : ∀ (n : Nat) (L : List Asn), Hp w L → Hp w (L.take n)
  | 0, _, _ => trivial
  | n + 1, [], _ => trivial
  | n + 1, A :: L, h => ⟨h.1, fun k hk hl => h.2.1 k hk (Foot_take n L k hl), Hp_take n L h.2.2⟩
theorem Now.takeN {B : Nat → Prop} {w0 w : World} {L : List Asn} (h : Now B w0 w L) (n : Nat) : Now B w0 w (L.take n) := ⟨Hp_take n L h.hp, h.chg, fun k hk => h.sub k (Foot_take n L k hk)⟩
theorem Now.same {B : Nat → Prop} {w0 w : World} {L L' : List Asn} (h : Now B w0 w L) (e : L = L') : Now B w0 w L' := e ▸ h
theorem condT_true {X Y : Prop} (h : X) : cond true X Y := h
theorem condT_false {X Y : Prop} (h : Y) : cond false X Y := h
theorem NNs {a : Addr} {K : Addr → Prop} (h : K a) : NN (some a) K := h
theorem condE {α : Type} {b : Bool} {x y : Option α} {r : α} {X : Prop} (h : cond b x y = some r) (h1 : b = true → x = some r → X) (h2 : b = false → y = some r → X) : X := by
  cases b
  · exact h2 rfl h
  · exact h1 rfl h
theorem condP_true {b : Bool} {X Y : Prop} (h : b = true) (x : X) : cond b X Y := by subst h; exact x
theorem condP_false {b : Bool} {X Y : Prop} (h : b = false) (y : Y) : cond b X Y := by subst h; exact y
end Go.Vc
