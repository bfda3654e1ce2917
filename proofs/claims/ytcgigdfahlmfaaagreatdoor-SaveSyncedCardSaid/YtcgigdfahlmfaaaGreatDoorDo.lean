/-
  Calls: what a chip with a journal makes of them, and the document's.
-/
import Derived.Test.YtcgigdfahlmfaaaGreatDoorOps
namespace Go.Proofs.YtcgigdfahlmfaaaGreatDoor
open Go.Vc
set_option linter.unusedVariables false
set_option linter.unusedSimpArgs false
theorem loop_next {σ ρ : Type} {f : σ → Option (σ ⊕ ρ)} {s s' : σ} (h : f s = some (.inl s')) : loopO f s = loopO f s' := by rw [loopO_eq f s, h, bind_some']
theorem loop_last {σ ρ : Type} {f : σ → Option (σ ⊕ ρ)} {s : σ} {r : ρ} (h : f s = some (.inr r)) : loopO f s = some r := by rw [loopO_eq f s, h, bind_some']
theorem loop_gen {C I J σ ρ : Type} (op : C → I → C × List E59) (l : List I) (d : Nat) (P : C → J → List E59 → Nat → Prop) (T : Nat → C → J → List E59 → σ) {f : σ → Option (σ ⊕ ρ)}
    (hs : ∀ i (hi : i < l.length) c j L t, P c j L t → t ≤ 10000 → ∃ j', P (op c l[i]).1 j' (L ++ (op c l[i]).2) (t + d) ∧ f (T i c j L) = some (.inl (T (i + 1) (op c l[i]).1 j' (L ++ (op c l[i]).2))))
    {c : C} {j : J} {L : List E59} {t : Nat} (h : P c j L t) (ht : t + l.length * d ≤ 10000) :
    ∃ j', P (fold op c l).1 j' (L ++ (fold op c l).2) (t + l.length * d) ∧ loopO f (T 0 c j L) = loopO f (T l.length (fold op c l).1 j' (L ++ (fold op c l).2)) := by
  have key : ∀ k, k ≤ l.length → ∃ j', P (fold op c (l.take k)).1 j' (L ++ (fold op c (l.take k)).2) (t + k * d) ∧ loopO f (T 0 c j L) = loopO f (T k (fold op c (l.take k)).1 j' (L ++ (fold op c (l.take k)).2)) := by
    intro k
    induction k with
    | zero => intro _; exact ⟨j, by simpa [fold] using h, by simp [fold]⟩
    | succ k ih =>
      intro hk
      obtain ⟨j1, p1, e1⟩ := ih (by omega)
      have hb : t + k * d ≤ 10000 := Nat.le_trans (Nat.add_le_add_left (Nat.mul_le_mul_right d (show k ≤ l.length by omega)) t) ht
      obtain ⟨j2, p2, e2⟩ := hs k (by omega) _ _ _ _ p1 hb
      refine ⟨j2, ?_, ?_⟩
      · rw [fold_take op c l k (by omega), Nat.succ_mul, ← Nat.add_assoc, ← List.append_assoc]; exact p2
      · rw [e1, loop_next e2, fold_take op c l k (by omega), ← List.append_assoc]
  have := key l.length (Nat.le_refl _)
  rwa [List.take_length] at this
theorem loop_fin {C I J σ ρ : Type} (op : C → I → C × List E59) (l : List I) (d : Nat) (P : C → J → List E59 → Nat → Prop) (T : Nat → C → J → List E59 → σ) (R : C → J → List E59 → ρ) {f : σ → Option (σ ⊕ ρ)}
    (hs : ∀ i (hi : i < l.length) c j L t, P c j L t → t ≤ 10000 → ∃ j', P (op c l[i]).1 j' (L ++ (op c l[i]).2) (t + d) ∧ f (T i c j L) = some (.inl (T (i + 1) (op c l[i]).1 j' (L ++ (op c l[i]).2))))
    (he : ∀ c j L, f (T l.length c j L) = some (.inr (R c j L)))
    {c : C} {j : J} {L : List E59} {t : Nat} (h : P c j L t) (ht : t + l.length * d ≤ 10000) :
    ∃ j', P (fold op c l).1 j' (L ++ (fold op c l).2) (t + l.length * d) ∧ loopO f (T 0 c j L) = some (R (fold op c l).1 j' (L ++ (fold op c l).2)) :=
  (loop_gen op l d P T hs h ht).imp fun j' a => ⟨a.1, a.2.trans (loop_last (he _ _ _))⟩
theorem loop_ref {C I σ ρ : Type} (op : C → I → C × List E59) (l : List I) (d : Nat) (P : C → List E59 → Nat → Prop) (T : Nat → C → List E59 → σ) (R : C → List E59 → ρ) {f : σ → Option (σ ⊕ ρ)}
    (hs : ∀ i (hi : i < l.length) c L t, P c L t → t ≤ 10000 → P (op c l[i]).1 (L ++ (op c l[i]).2) (t + d) ∧ f (T i c L) = some (.inl (T (i + 1) (op c l[i]).1 (L ++ (op c l[i]).2))))
    (he : ∀ c L, f (T l.length c L) = some (.inr (R c L)))
    {c : C} {L : List E59} {t : Nat} (h : P c L t) (ht : t + l.length * d ≤ 10000) :
    P (fold op c l).1 (L ++ (fold op c l).2) (t + l.length * d) ∧ loopO f (T 0 c L) = some (R (fold op c l).1 (L ++ (fold op c l).2)) := by
  obtain ⟨_, a⟩ := loop_fin op l d (fun c (_ : Unit) L t => P c L t) (fun i c _ L => T i c L) (fun c _ L => R c L) (fun i hi c _ L t h ht => ⟨(), hs i hi c L t h ht⟩) (fun c _ L => he c L) (j := ()) h ht
  exact a
theorem ixL_at {α : Type} [Inhabited α] {l : List α} {i : Nat} (h : i < l.length) : ixL l (i : Int) = l[i] := ixL_nat h
def putsL (c : E35) : List E51 :=
  if Int.tmod c.N 5 = 0 then [⟨21845, 170⟩, ⟨10922, 85⟩, ⟨21845, 128⟩, ⟨21845, 170⟩, ⟨10922, 85⟩, ⟨c.Addr, 48⟩] else [⟨21845, 170⟩, ⟨10922, 85⟩, ⟨21845, 160⟩, ⟨c.Addr, IntKind.wrap .u32 c.Byte⟩]
theorem puts_eq (c : E35) : f_puts c.Kind c.Addr c.Byte c.N c.Picks = some (putsL c) := by
  unfold f_puts putsL
  by_cases h : Int.tmod c.N 5 = 0
  · rw [ceq h, if_pos h]; rfl
  · rw [cne h, if_neg h]; rfl
theorem putsL_len (c : E35) : (putsL c).length ≤ 6 := by unfold putsL; split <;> simp
def okC (c : E35) : Prop := (0 ≤ c.Addr ∧ c.Addr < 4294967296) ∧ 0 ≤ c.Byte ∧ c.Byte < 256
theorem putsL_ok {c : E35} (h : okC c) : ∀ p ∈ putsL c, 0 ≤ p.f0 ∧ p.f0 < 4294967296 := by
  unfold putsL
  have := h.1
  split <;> intro p hp <;> simp at hp <;> rcases hp with rfl | rfl | rfl | rfl | rfl | rfl <;> simp <;> omega
def bitN (n s : Int) : Int := IntKind.wrap .u8 (bits .and .i64 (Int.fdiv n (2 ^ (min s.toNat 64))) 1)
def bitsN (n : Int) : List Int := (List.range 16).map fun (i : Nat) => bitN n (15 - (i : Int))
theorem bitsN_len (n : Int) : (bitsN n).length = 16 := by unfold bitsN; simp
theorem bitsN_at (n : Int) (i : Nat) (h : i < (bitsN n).length) : (bitsN n)[i] = bitN n (15 - (i : Int)) := by simp [bitsN]
theorem wrap8_bd (x : Int) : 0 ≤ IntKind.wrap .u8 x ∧ IntKind.wrap .u8 x < 256 := by
  have e : IntKind.wrap .u8 x = x % 256 := rfl
  rw [e]; omega
theorem bitN_bd (n s : Int) : 0 ≤ bitN n s ∧ bitN n s < 256 := wrap8_bd _
def putS (m : List UInt8) (p : E51) : List UInt8 × List E59 := opS m (p.f0, IntKind.wrap .u8 p.f1)
def putF (c : Fl.Chip) (p : E51) : Fl.Chip × List E59 := opF c (p.f0, IntKind.wrap .u8 p.f1)
def callS (m : List UInt8) (c : E35) : List UInt8 × List E59 := if c.Kind = 0 then opS m (c.Addr, c.Byte) else if c.Kind = 1 then (m, []) else if c.Kind = 7 then fold putS m (putsL c) else (m, [])
def callF (m : Fl.Chip) (c : E35) : Fl.Chip × List E59 := if c.Kind = 0 then opF m (c.Addr, c.Byte) else if c.Kind = 1 then (m, []) else if c.Kind = 7 then fold putF m (putsL c) else (m, [])
def callE (m : Chip) (c : E35) : Chip × List E59 := if c.Kind = 1 then fold opE m (bitsN c.N) else (m, [])
theorem down_wrap {i : Nat} (h : i < 16) : IntKind.wrap .i64 ((15 - (i : Int)) - 1) = 15 - ((i + 1 : Nat) : Int) := by rw [wrap_i64 (by omega) (by omega)]; omega
theorem up_wrap {i n : Nat} (h : i < n) (hn : n ≤ 1000000) : IntKind.wrap .i64 ((i : Int) + 1) = ((i + 1 : Nat) : Int) := by rw [wrap_i64 (by omega) (by omega)]; omega
theorem EWriteN_eq (b : Int) : f_EWriteN b = some (ByteArray.mk #[]) := rfl
theorem doS_eq {n slots : Nat} {blank : List UInt8} {c : List UInt8} {j : Jr} {L : List E59} {t : Nat} (h : LkS n slots blank c j L t) (ht : t ≤ 9984) (hs : slots ≤ 1024) (kind : Int) {x : E35} (hx : okC x) :
    ∃ j', LkS n slots blank (callS c x).1 j' (L ++ (callS c x).2) (t + 16) ∧
      f_doS1 kind (ints c) j.er j.ct j.su ((64 * n : Nat) : Int) (slots : Int) j.ba j.nx j.ar j.od j.F j.S j.W [] (-1) false x.Kind x.Addr x.Byte x.N x.Picks = some (outS (callS c x).1 j') := by
  unfold callS f_doS1
  by_cases h0 : x.Kind = 0
  · obtain ⟨j', a1, a2⟩ := wS h (by omega) hs kind hx.1.1 hx.1.2 hx.2.1 hx.2.2
    rw [if_pos h0, ceq h0, a2, bind_some']
    exact ⟨j', a1.mono (by omega), rfl⟩
  by_cases h1 : x.Kind = 1
  · rw [if_neg h0, if_pos h1, cne h0, ceq h1]
    refine ⟨j, by rw [List.append_nil]; exact h.mono (by omega), ?_⟩
    refine loopO_for (fun i => 15 - (i : Int)) 16 (fun i hi => ?_) ?_
    · show cond (decide ((15 - (i : Int)) ≥ 0)) _ _ = _
      rw [cpos (by omega), cpos (by omega)]
      unfold f_BTakeS1
      rw [EWriteN_eq, bind_some', bind_some', down_wrap hi]
    · show cond (decide ((15 - ((16 : Nat) : Int)) ≥ 0)) _ _ = _
      rw [cneg (by omega)]
      rfl
  by_cases h7 : x.Kind = 7
  · rw [if_neg h0, if_neg h1, if_pos h7, cne h0, cne h1, ceq h7, puts_eq, bind_some']
    have hl := putsL_len x
    refine (loop_fin putS (putsL x) 1 (LkS n slots blank) (fun i c j L => ((i : Int), j.er, j.ct, j.su, j.ba, j.nx, j.ar, j.od, -1, false, ints c, j.F, j.S, j.W)) (fun c j L => outS c j) (fun i hi c j L t h ht => ?_) (fun c j L => ?_) h (show t + (putsL x).length * 1 ≤ 10000 by omega)).imp fun j' a => ⟨a.1.mono (by omega), a.2⟩
    · have hp := putsL_ok hx _ (List.getElem_mem hi)
      obtain ⟨j', b1, b2⟩ := wS h ht hs kind hp.1 hp.2 (wrap8_bd _).1 (wrap8_bd ((putsL x)[i]).f1).2
      refine ⟨j', b1, ?_⟩
      show cond (decide ((i : Int) < (((putsL x).length : Nat) : Int))) _ _ = _
      rw [cpos (by omega), cand (by omega) (by omega), ctrue (by decide), ctrue (by decide), ixL_at hi, b2, bind_some', up_wrap hi (by omega)]
      rfl
    · show cond (decide ((((putsL x).length : Nat) : Int) < (((putsL x).length : Nat) : Int))) _ _ = _
      rw [cneg (by omega)]
      rfl
  · rw [if_neg h0, if_neg h1, if_neg h7, cne h0, cne h1, cne h7]
    refine ⟨j, by rw [List.append_nil]; exact h.mono (by omega), ?_⟩
    rfl
theorem doF_eq {n slots : Nat} {blank : List UInt8} {c : Fl.Chip} {j : Jr} {L : List E59} {t : Nat} (h : LkF n slots blank c j L t) (ht : t ≤ 9984) (hs : slots ≤ 1024) (kind : Int) {x : E35} (hx : okC x) :
    ∃ j', LkF n slots blank (callF c x).1 j' (L ++ (callF c x).2) (t + 16) ∧
      f_doF1 kind j.er j.ct j.su (bs c.mem) c.state c.id c.bank ((64 * n : Nat) : Int) (slots : Int) j.ba j.nx j.ar j.od j.F j.S j.W [] (-1) false x.Kind x.Addr x.Byte x.N x.Picks = some (outF (callF c x).1 j') := by
  unfold callF f_doF1
  by_cases h0 : x.Kind = 0
  · obtain ⟨j', a1, a2⟩ := wF h (by omega) hs kind hx.1.1 hx.1.2 hx.2.1 hx.2.2
    rw [if_pos h0, ceq h0, a2, bind_some']
    exact ⟨j', a1.mono (by omega), rfl⟩
  by_cases h1 : x.Kind = 1
  · rw [if_neg h0, if_pos h1, cne h0, ceq h1]
    refine ⟨j, by rw [List.append_nil]; exact h.mono (by omega), ?_⟩
    refine loopO_for (fun i => 15 - (i : Int)) 16 (fun i hi => ?_) ?_
    · show cond (decide ((15 - (i : Int)) ≥ 0)) _ _ = _
      rw [cpos (by omega), cpos (by omega)]
      unfold f_BTakeF1
      rw [EWriteN_eq, bind_some', bind_some', down_wrap hi]
    · show cond (decide ((15 - ((16 : Nat) : Int)) ≥ 0)) _ _ = _
      rw [cneg (by omega)]
      rfl
  by_cases h7 : x.Kind = 7
  · rw [if_neg h0, if_neg h1, if_pos h7, cne h0, cne h1, ceq h7, puts_eq, bind_some']
    have hl := putsL_len x
    refine (loop_fin putF (putsL x) 1 (LkF n slots blank) (fun i c j L => ((i : Int), j.er, j.ct, j.su, bs c.mem, c.state, c.id, c.bank, j.ba, j.nx, j.ar, j.od, -1, false, j.F, j.S, j.W)) (fun c j L => outF c j) (fun i hi c j L t h ht => ?_) (fun c j L => ?_) h (show t + (putsL x).length * 1 ≤ 10000 by omega)).imp fun j' a => ⟨a.1.mono (by omega), a.2⟩
    · have hp := putsL_ok hx _ (List.getElem_mem hi)
      obtain ⟨j', b1, b2⟩ := wF h ht hs kind hp.1 hp.2 (wrap8_bd _).1 (wrap8_bd ((putsL x)[i]).f1).2
      refine ⟨j', b1, ?_⟩
      show cond (decide ((i : Int) < (((putsL x).length : Nat) : Int))) _ _ = _
      rw [cpos (by omega), cand (by omega) (by omega), ctrue (by decide), ctrue (by decide), ixL_at hi, b2, bind_some', up_wrap hi (by omega)]
      rfl
    · show cond (decide ((((putsL x).length : Nat) : Int) < (((putsL x).length : Nat) : Int))) _ _ = _
      rw [cneg (by omega)]
      rfl
  · rw [if_neg h0, if_neg h1, if_neg h7, cne h0, cne h1, cne h7]
    refine ⟨j, by rw [List.append_nil]; exact h.mono (by omega), ?_⟩
    rfl
theorem doE_eq {n slots : Nat} {blank : List UInt8} {c : Chip} {j : Jr} {L : List E59} {t : Nat} (h : LkE n slots blank c j L t) (ht : t ≤ 9984) (hs : slots ≤ 1024) (kind : Int) {w : Int} (hw : c.wide = w) (x : E35) :
    ∃ j', (LkE n slots blank (callE c x).1 j' (L ++ (callE c x).2) (t + 16) ∧ (callE c x).1.wide = w) ∧
      f_doE1 kind j.er j.ct j.su (bs c.mem) c.inn c.out w ((64 * n : Nat) : Int) (slots : Int) j.ba j.nx j.ar j.od j.F j.S j.W [] (-1) false x.Kind x.Addr x.Byte x.N x.Picks = some (outE (callE c x).1 j') := by
  unfold callE f_doE1
  by_cases h0 : x.Kind = 0
  · rw [if_neg (by omega), ceq h0]
    exact ⟨j, ⟨by rw [List.append_nil]; exact h.mono (by omega), hw⟩, rfl⟩
  by_cases h1 : x.Kind = 1
  · rw [if_pos h1, cne h0, ceq h1]
    have hl := bitsN_len x.N
    refine (loop_fin opE (bitsN x.N) 1 (fun c j L t => LkE n slots blank c j L t ∧ c.wide = w) (fun i c j L => (15 - (i : Int), j.er, j.ct, j.su, bs c.mem, j.ba, j.nx, j.ar, j.od, -1, false, c.inn, c.out, j.F, j.S, j.W)) (fun c j L => outE c j) (fun i hi c j L t h ht => ?_) (fun c j L => ?_) ⟨h, hw⟩ (show t + (bitsN x.N).length * 1 ≤ 10000 by omega)).imp fun j' a => ⟨⟨a.1.1.mono (by omega), a.1.2⟩, a.2⟩
    · rw [bitsN_at]
      obtain ⟨b1, b2⟩ := bitN_bd x.N (15 - (i : Int))
      obtain ⟨j', c1, c2⟩ := wE h.1 ht hs kind b1 b2
      refine ⟨j', ⟨c1, (ewriteF_Inv h.1.ok _).2.1.trans h.2⟩, ?_⟩
      show cond (decide ((15 - (i : Int)) ≥ 0)) _ _ = _
      rw [cpos (by omega), cpos (by omega)]
      rw [← h.2]
      show Option.bind (f_BTakeE1 kind j.er j.ct j.su (bs c.mem) c.inn c.out c.wide ((64 * n : Nat) : Int) (slots : Int) j.ba j.nx j.ar j.od j.F j.S j.W [] (-1) false (bitN x.N (15 - (i : Int)))) _ = _
      rw [c2, bind_some']
      show some (Sum.inl (IntKind.wrap .i64 ((15 - (i : Int)) - 1), _)) = _
      rw [down_wrap (by omega)]
    · rw [hl]
      show cond (decide ((15 - ((16 : Nat) : Int)) ≥ 0)) _ _ = _
      rw [cneg (by omega)]
      rfl
  by_cases h7 : x.Kind = 7
  · rw [if_neg h1, cne h0, cne h1, ceq h7, puts_eq, bind_some']
    have hl := putsL_len x
    refine ⟨j, ⟨by rw [List.append_nil]; exact h.mono (by omega), hw⟩, ?_⟩
    refine loopO_for (fun i => (i : Int)) (putsL x).length (fun i hi => ?_) ?_
    · show cond (decide ((i : Int) < (((putsL x).length : Nat) : Int))) _ _ = _
      rw [cpos (by omega), cand (by omega) (by omega), ctrue (by decide), ctrue (by decide)]
      unfold f_BWriteE1
      rw [bind_some', up_wrap hi (by omega)]
    · show cond (decide ((((putsL x).length : Nat) : Int) < (((putsL x).length : Nat) : Int))) _ _ = _
      rw [cneg (by omega)]
      rfl
  · rw [if_neg h1, cne h0, cne h1, cne h7]
    exact ⟨j, ⟨by rw [List.append_nil]; exact h.mono (by omega), hw⟩, rfl⟩
theorem note_len {L : List E59} {e : E59} (h : L.length ≤ 10000) : (L ++ [e]).length ≤ 7036874417611 := by rw [List.length_append]; simp only [List.length_singleton]; omega
theorem rwS {m : List UInt8} (hm : okS m) {kind : Int} (hk : kind = 1) {L : List E59} (hL : L.length ≤ 10000) {x b : Int} (x0 : 0 ≤ x) (x1 : x < 4294967296) (b0 : 0 ≤ b) (b1 : b < 256) : f_rWriteS kind (bs m) 0 L 0 x b = some (bs (opS m (x, b)).1, L ++ (opS m (x, b)).2) := by
  subst hk
  unfold f_rWriteS
  have hg := opS_good hm (x, b)
  have ha := rApply_E (m := m) (by have := hm; unfold okS at this; omega) ⟨1, x % 32768, bs [UInt8.ofNat b.toNat]⟩
  rw [ceq rfl, ctrue (byteS b0 b1).1, (byteS b0 b1).2, idxR x0 x1, show f_rApply (bs m) 1 (x % 32768) (bs [UInt8.ofNat b.toNat]) = _ from ha, bind_some']
  show Option.bind (f_rNoteS 1 (bs (stepE m ⟨1, x % 32768, bs [UInt8.ofNat b.toNat]⟩).1) 0 L 0 1 (x % 32768) (bs [UInt8.ofNat b.toNat])) _ = _
  unfold f_rNoteS
  rw [cpos (note_len hL), bind_some']
  show some (bs (stepE m ⟨1, x % 32768, bs [UInt8.ofNat b.toNat]⟩).1, _) = _
  rw [show stepE m ⟨1, x % 32768, bs [UInt8.ofNat b.toNat]⟩ = _ from hg]
  rfl
theorem rwF {c : Fl.Chip} (hc : Fl.Ok c) {kind : Int} (hk : kind = 2 ∨ kind = 3) {L : List E59} (hL : L.length ≤ 10000) {x b : Int} (x0 : 0 ≤ x) (x1 : x < 4294967296) (b0 : 0 ≤ b) (b1 : b < 256) :
    f_rWriteF kind (ByteArray.mk #[]) 0 L 0 (bs c.mem) (bs (Fl.keysOf c.state)) c.id c.bank x b = some (ByteArray.mk #[], bs (opF c (x, b)).1.mem, bs (Fl.keysOf (opF c (x, b)).1.state), (opF c (x, b)).1.id, (opF c (x, b)).1.bank, L ++ (opF c (x, b)).2) := by
  have hr := Fl.rWrite_eq c hc x b x0 x1 b0 b1
  have key : ∀ K : Int, ((f_rFWrite (bs c.mem) (bs (Fl.keysOf c.state)) c.id c.bank x b).bind fun (o : O_rFWrite) => (match o with | (x47a_0, x47a_1, x47a_2, x47b, w_10_r_0, w_10_r_1, w_10_r_2, w_10_r_3) => (cond x47b ((f_rNoteF K (ByteArray.mk #[]) 0 L 0 w_10_r_0 w_10_r_1 w_10_r_2 w_10_r_3 x47a_0 x47a_1 x47a_2).bind fun (w_15_r_xs_cell_6 : O_rNoteF) => (some (ByteArray.mk #[], w_10_r_0, w_10_r_1, w_10_r_2, w_10_r_3, w_15_r_xs_cell_6))) (some (ByteArray.mk #[], w_10_r_0, w_10_r_1, w_10_r_2, w_10_r_3, L)))) : Option O_rWriteF) = some (ByteArray.mk #[], bs (opF c (x, b)).1.mem, bs (Fl.keysOf (opF c (x, b)).1.state), (opF c (x, b)).1.id, (opF c (x, b)).1.bank, L ++ (opF c (x, b)).2) := by
    intro K
    rw [hr, bind_some']
    show cond (Fl.writeF c x b).1.ok _ _ = _
    by_cases hok : (Fl.writeF c x b).1.ok = true
    · rw [ctrue hok, show (opF c (x, b)).2 = [⟨(Fl.writeF c x b).1.k, (Fl.writeF c x b).1.a, bs (Fl.writeF c x b).1.d⟩] from if_pos hok]
      unfold f_rNoteF
      rw [cpos (note_len hL), bind_some']
      rfl
    · rw [cfalse (by simpa using hok), show (opF c (x, b)).2 = [] from if_neg hok, List.append_nil]
      rfl
  unfold f_rWriteF
  rcases hk with rfl | rfl
  · rw [cne (by decide), ceq rfl, ceq rfl]; exact key 2
  · rw [cne (by decide), cne (by decide), ceq rfl]; exact key 3
theorem rtE {c : Chip} (hc : Inv c) {kind : Int} (hk : kind = 4 ∨ kind = 5) {L : List E59} (hL : L.length ≤ 10000) {b : Int} (b0 : 0 ≤ b) (b1 : b < 256) :
    f_rTakeE kind (ByteArray.mk #[]) 0 L 0 (bs c.mem) (bs (chr c.inn)) (bs (chr c.out)) b = some (bs (opE c b).1.mem, bs (chr (opE c b).1.inn), bs (chr (opE c b).1.out), L ++ (opE c b).2) := by
  unfold f_rTakeE f_rSerialE1
  rw [bind_some', cnot, cpos (by omega), erWrite_eq c hc b b0 b1, bind_some']
  show cond (ewriteF c b).1.ok _ _ = _
  by_cases hok : (ewriteF c b).1.ok = true
  · rw [ctrue hok, show (opE c b).2 = [⟨(ewriteF c b).1.k, (ewriteF c b).1.a, bs (ewriteF c b).1.d⟩] from if_pos hok]
    unfold f_rNoteE
    rw [cpos (note_len hL), bind_some']
    rfl
  · rw [cfalse (by simpa using hok), show (opE c b).2 = [] from if_neg hok, List.append_nil]
    rfl
theorem rwE {kind : Int} (hk : kind = 4 ∨ kind = 5) (L : List E59) (m i o : ByteArray) (x b : Int) : f_rWriteE kind (ByteArray.mk #[]) 0 L 0 m i o x b = some (ByteArray.mk #[], L) := by
  unfold f_rWriteE
  rw [cne (by omega), cne (by omega), cne (by omega)]
theorem rtS {kind : Int} (hk : kind = 1) (m : ByteArray) (L : List E59) (b : Int) : f_rTakeS kind m 0 L 0 b = some () := by subst hk; rfl
theorem rtF {kind : Int} (hk : kind = 2 ∨ kind = 3) (s m k : ByteArray) (i : Bool) (bk : Int) (L : List E59) (b : Int) : f_rTakeF kind s 0 L 0 m k i bk b = some () := by
  unfold f_rTakeF f_rSerialF1
  rw [bind_some', cnot, cneg (by omega)]
end Go.Proofs.YtcgigdfahlmfaaaGreatDoor
