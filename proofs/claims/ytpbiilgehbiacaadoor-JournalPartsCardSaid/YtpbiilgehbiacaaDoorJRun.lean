/-
  Commands on an image; loops that end; a journal that is written on while its disk may give out.
-/
import Derived.Test.YtpbiilgehbiacaaDoorJFuel
namespace Go.Proofs.YtpbiilgehbiacaaDoor
open Go.Vc
set_option linter.unusedVariables false
set_option linter.unusedSimpArgs false

def stepE (m : List UInt8) (c : E34) : List UInt8 × Int := applyF m c.Kind c.Addr c.Data.data.toList
def runE : List UInt8 → List E34 → Option (List UInt8)
  | m, [] => some m
  | m, c :: cs => if (stepE m c).2 = 0 then runE (stepE m c).1 cs else none
theorem runE_snoc (c : E34) : ∀ (cs : List E34) (m x : List UInt8), runE m cs = some x → (stepE x c).2 = 0 → runE m (cs ++ [c]) = some (stepE x c).1
  | [], m, x, h, h0 => by
    have : m = x := by simpa [runE] using h
    subst this
    show (if (stepE m c).2 = 0 then some (stepE m c).1 else none) = _
    rw [if_pos h0]
  | d :: cs, m, x, h, h0 => by
    unfold runE at h
    split at h
    · rename_i hd
      show (if (stepE m d).2 = 0 then runE (stepE m d).1 (cs ++ [c]) else none) = _
      rw [if_pos hd]
      exact runE_snoc c cs _ x h h0
    · cases h
theorem stepE_ok {m : List UInt8} {c : E34} (h : (stepE m c).2 = 0) : okE c = true := by
  unfold stepE applyF at h
  unfold okE
  split at h
  · assumption
  · cases h
theorem stepE_len {m : List UInt8} {c : E34} (h : (stepE m c).2 = 0) : (stepE m c).1.length = m.length := by
  have hok := stepE_ok h
  have ha := okF_addr hok
  unfold stepE applyF at h ⊢
  unfold okE at hok
  rw [if_pos hok] at h ⊢
  unfold applyT at h ⊢
  split
  · rename_i hk
    rw [if_pos hk] at h
    split at h
    · cases h
    · rename_i h1
      rw [if_neg h1]
      simp [ffs_length]; omega
  · rename_i hk
    rw [if_neg hk] at h
    split
    · simp [ffs_length]
    · rename_i hk3
      rw [if_neg hk3] at h
      split at h
      · cases h
      · rename_i h1
        rw [if_neg h1]
        simp only [List.length_append, List.length_take, List.length_drop]; omega
theorem runE_len : ∀ (cs : List E34) {m x : List UInt8}, runE m cs = some x → x.length = m.length
  | [], m, x, h => by
    have : m = x := by simpa [runE] using h
    rw [this]
  | d :: cs, m, x, h => by
    unfold runE at h
    split at h
    · rename_i hd
      rw [runE_len cs h, stepE_len hd]
    · cases h
theorem rApply_E {m : List UInt8} (hm : m.length ≤ 140737488355328) (c : E34) : f_rApply (bs m) c.Kind c.Addr c.Data = some (bs (stepE m c).1, (stepE m c).2) := by
  have := rApply_eq m hm c.Kind c.Addr c.Data.data.toList
  rw [bs_list] at this
  exact this
/-! ### loops that end -/
def Ends {α : Type} (o : Option α) (Q : α → Prop) : Prop := ∃ r, o = some r ∧ Q r
theorem ends_bind {α β : Type} {o : Option α} {K : α → Option β} {Q : β → Prop} (P : α → Prop) (h : Ends o P) (h2 : ∀ r, P r → Ends (K r) Q) : Ends (o.bind K) Q := by
  obtain ⟨r, e, p⟩ := h
  rw [e]; exact h2 r p
theorem ends_last {σ ρ : Type} {f : σ → Option (σ ⊕ ρ)} {s : σ} {Q : ρ → Prop} (h : Ends (f s) fun t => ∃ y, t = .inr y ∧ Q y) : Ends (loopO f s) Q := by
  obtain ⟨t, e, y, rfl, q⟩ := h
  rw [loopO_eq, e]; exact ⟨y, rfl, q⟩
theorem ends_apply {ρ : Type} {f : ByteArray × Int → Option ((ByteArray × Int) ⊕ ρ)} {cs : List E34} {img s : List UInt8} (h : runE img cs = some s) {Q : ρ → Prop}
    (step : ∀ (i : Nat) (hi : i < cs.length) (m : List UInt8), m.length = img.length → (stepE m cs[i]).2 = 0 → f (bs m, (i : Int)) = some (.inl (bs (stepE m cs[i]).1, ((i + 1 : Nat) : Int))))
    (fin : Ends (f (bs s, ((cs.length : Nat) : Int))) fun t => ∃ y, t = .inr y ∧ Q y) : Ends (loopO f (bs img, 0)) Q := by
  have key : ∀ k, k ≤ cs.length → ∀ m : List UInt8, m.length = img.length → runE m (cs.drop (cs.length - k)) = some s → Ends (loopO f (bs m, ((cs.length - k : Nat) : Int))) Q := by
    intro k
    induction k with
    | zero =>
      intro _ m _ hr
      rw [Nat.sub_zero, List.drop_length] at hr
      have : m = s := by simpa [runE] using hr
      subst this
      exact ends_last fin
    | succ k ih =>
      intro hk m hm hr
      have hi : cs.length - (k + 1) < cs.length := by omega
      rw [List.drop_eq_getElem_cons hi] at hr
      unfold runE at hr
      split at hr
      · rename_i h0
        rw [show cs.length - (k + 1) + 1 = cs.length - k by omega] at hr
        have := ih (by omega) _ ((stepE_len h0).trans hm) hr
        rw [loopO_eq, step _ hi m hm h0]
        show Ends (loopO f (bs (stepE m cs[cs.length - (k + 1)]).1, ((cs.length - (k + 1) + 1 : Nat) : Int))) Q
        rw [show cs.length - (k + 1) + 1 = cs.length - k by omega]
        exact this
      · cases hr
  have := key cs.length (Nat.le_refl _) img rfl (by rw [Nat.sub_self]; exact h)
  rw [Nat.sub_self] at this
  exact this
theorem ends_found {ρ : Type} {f : Bool × Int → Option ((Bool × Int) ⊕ ρ)} {xs : List ByteArray} {s : ByteArray} (hx : s ∈ xs) {Q : ρ → Prop}
    (step : ∀ (i : Nat) (hi : i < xs.length) (b : Bool), f (b, (i : Int)) = some (.inl (b || decide (xs[i] = s), ((i + 1 : Nat) : Int))))
    (fin : Ends (f (true, ((xs.length : Nat) : Int))) fun t => ∃ y, t = .inr y ∧ Q y) : Ends (loopO f (false, 0)) Q := by
  have key : ∀ k, k ≤ xs.length → ∀ b : Bool, (b = true ∨ s ∈ xs.drop (xs.length - k)) → Ends (loopO f (b, ((xs.length - k : Nat) : Int))) Q := by
    intro k
    induction k with
    | zero =>
      intro _ b hb
      rw [Nat.sub_zero, List.drop_length] at hb
      have : b = true := hb.resolve_right (by simp)
      subst this
      exact ends_last fin
    | succ k ih =>
      intro hk b hb
      have hi : xs.length - (k + 1) < xs.length := by omega
      rw [List.drop_eq_getElem_cons hi] at hb
      rw [loopO_eq, step _ hi b]
      show Ends (loopO f (b || decide (xs[xs.length - (k + 1)] = s), ((xs.length - (k + 1) + 1 : Nat) : Int))) Q
      rw [show xs.length - (k + 1) + 1 = xs.length - k by omega]
      refine ih (by omega) _ ?_
      rcases hb with hb | hb
      · left; rw [hb]; rfl
      · rcases List.mem_cons.1 hb with hb | hb
        · left; rw [decide_eq_true hb.symm, Bool.or_true]
        · right
          rw [show xs.length - k = xs.length - (k + 1) + 1 by omega]; exact hb
  have := key xs.length (Nat.le_refl _) false (.inr (by rw [Nat.sub_self]; exact hx))
  rw [Nat.sub_self] at this
  exact this
/-! ### a journal in use -/
theorem JX.app {S : List ByteArray} {n slots base area : Nat} {img : List UInt8} {cs : List E34} (hj : JF S n slots base area img cs) (c : E34) (h : okE c = true) (hroom : cs.length < slots) :
    JF (S.set (2 + 2 * n + cs.length) (bs (wrapL (base + cs.length) (comE c)))) n slots base area img (cs ++ [c]) := by
  have h1 := hj.n1; have h2 := hj.s1; have h3 := hj.b1; have h4 := hj.len; have h5 := hj.ar; have h6 := hj.n0
  have hA : area * n ≤ n := by rcases (show area = 0 ∨ area = 1 by omega) with e | e <;> rw [e] <;> omega
  have hsz : (bs (wrapL (base + cs.length) (comE c))).size = 64 := by rw [bs_size, wrapL_len _ _ (okE_len h)]
  have ne : ∀ i, i ≠ 2 + 2 * n + cs.length → (S.set (2 + 2 * n + cs.length) (bs (wrapL (base + cs.length) (comE c))))[i]? = S[i]? := fun i hi => List.getElem?_set_ne (by omega)
  have hlow : ∀ k, (cs ++ [c]).length ≤ k → k < slots → ∃ s, s.length = 64 ∧ (S.set (2 + 2 * n + cs.length) (bs (wrapL (base + cs.length) (comE c))))[2 + 2 * n + k]? = some (bs s) ∧ lastN s < base := by
    intro k hk1 hk2
    rw [List.length_append, List.length_singleton] at hk1
    rw [ne _ (by omega)]
    exact hj.low k (by omega) hk2
  obtain ⟨s, e0, e1, e2, e3⟩ := hj.other
  refine ⟨hj.full.set hsz, by rw [List.length_set]; exact h4, hj.n0, hj.n1, hj.s0, hj.s1, hj.b0, hj.b1, hj.ar, (ne _ (by omega)).trans hj.mast, ⟨s, e0, (ne _ (by omega)).trans e1, e2, e3⟩, hj.imgl, fun i hi => (ne _ (by omega)).trans (hj.imgat i hi), by simp; omega, fun k hk => ?_, hlow, fun hk => ?_⟩
  · rw [List.length_append, List.length_singleton] at hk
    by_cases hk' : k < cs.length
    · rw [List.getElem_append_left hk', ne _ (by omega)]
      exact hj.rcs k hk'
    · have : k = cs.length := by omega
      subst this
      rw [List.getElem_append_right (Nat.le_refl _)]
      simp only [Nat.sub_self, List.getElem_cons_zero]
      exact ⟨h, List.getElem?_set_self (by omega)⟩
  · obtain ⟨s, a1, a2, a3⟩ := hlow _ (Nat.le_refl _) hk
    refine ⟨s, a1, a2, ?_⟩
    by_cases hr : (recordedL s).2.2.2.2 = 0
    · right; rw [recorded_last hr]; omega
    · exact .inl hr
/-- Behind whatever crash a journal is there whose image is one of these. -/
structure Ex (slots bd : Nat) (F : List ByteArray) (W : List E91) (may : List ByteArray) (sure : Nat) : Prop where
  full : Full F
  len : F.length = 6 + slots
  soft : Soft F.length W
  le : sure ≤ may.length
  safe : ∀ picks, ∃ base area img cs s, JO (crashL F W picks) 2 slots base area img cs ∧ base ≤ bd ∧ runE img cs = some s ∧ bs s ∈ may.drop sure
theorem Ex.more {slots bd bd' : Nat} {F : List ByteArray} {W : List E91} {may : List ByteArray} {sure : Nat} (h : Ex slots bd F W may sure) (hb : bd ≤ bd') (x : ByteArray) : Ex slots bd' F W (may ++ [x]) sure := by
  refine ⟨h.full, h.len, h.soft, by have := h.le; simp; omega, fun picks => ?_⟩
  obtain ⟨b, a, i, c, s, e1, e2, e3, e4⟩ := h.safe picks
  exact ⟨b, a, i, c, s, e1, by omega, e3, by rw [List.drop_append_of_le_length h.le]; exact List.mem_append_left _ e4⟩
/-- A journal in use: F is firm, S is seen, W is pending. -/
structure Lv (slots : Nat) (F S : List ByteArray) (W : List E91) (base area : Nat) (img : List UInt8) (cs : List E34) (m0 : Nat) (now : List UInt8) (may : List ByteArray) (sure : Nat) : Prop where
  jf : JF F 2 slots base area img (cs.take m0)
  js : JF S 2 slots base area img cs
  good : Good F S W
  m0l : m0 ≤ cs.length
  wr : ∀ w ∈ W, Wr 2 base area cs m0 w
  wl : W.length ≤ cs.length
  run : runE img cs = some now
  pre : ∃ pre, may = pre ++ [bs now] ∧ sure ≤ pre.length
  mem : ∀ m, m0 ≤ m → m ≤ cs.length → ∃ x, runE img (cs.take m) = some x ∧ bs x ∈ may.drop sure
section
variable {slots : Nat} {F S : List ByteArray} {W : List E91} {base area : Nat} {img : List UInt8} {cs : List E34} {m0 : Nat} {now : List UInt8} {may : List ByteArray} {sure : Nat}
theorem Lv.le (h : Lv slots F S W base area img cs m0 now may sure) : sure ≤ may.length := by
  obtain ⟨pre, e, hp⟩ := h.pre
  rw [e]; simp; omega
theorem Lv.okc (h : Lv slots F S W base area img cs m0 now may sure) : ∀ k (hk : k < cs.length), okE cs[k] = true := fun k hk => (h.js.rcs k hk).1
theorem ArW.soft {n a L : Nat} (hl : 2 + a * n + n ≤ L) {w : E91} (h : ArW n a w) : 0 ≤ w.sector ∧ w.sector < L ∧ w.data.size = 64 := by
  obtain ⟨i, x, hi, hx, rfl⟩ := h
  exact ⟨by show (0 : Int) ≤ ((2 + a * n + i : Nat) : Int); omega, by show ((2 + a * n + i : Nat) : Int) < _; omega, hx⟩
theorem Lv.exitX (h : Lv slots F S W base area img cs m0 now may sure) {X : List E91} (hX : ∀ w ∈ X, ArW 2 (1 - area) w) {bd : Nat} (hb : base ≤ bd) : Ex slots bd F (W ++ X) may sure := by
  have hl := h.jf.len; have ha := h.jf.ar
  have hA : (1 - area) * 2 ≤ 2 := by omega
  refine ⟨h.jf.full, by rw [hl], fun w hw => ?_, h.le, fun picks => ?_⟩
  · rcases List.mem_append.1 hw with hw | hw
    · exact h.good.soft w hw
    · exact (hX w hw).soft (by omega)
  · obtain ⟨m, a1, a2, a3⟩ := safe_new (W := W ++ X) h.jf h.m0l h.js.csl h.okc (fun w hw => by
      rcases List.mem_append.1 hw with hw | hw
      · exact h.wr w hw
      · exact .inr (hX w hw)) picks
    obtain ⟨x, b1, b2⟩ := h.mem m a1 a2
    exact ⟨base, area, img, _, x, a3, hb, b1, b2⟩
theorem Lv.exit (h : Lv slots F S W base area img cs m0 now may sure) {bd : Nat} (hb : base ≤ bd) : Ex slots bd F W may sure := by
  have := h.exitX (X := []) (fun w hw => by cases hw) hb
  rw [List.append_nil] at this; exact this
theorem drop_last {may pre : List ByteArray} {x : ByteArray} (h : may = pre ++ [x]) : may.drop pre.length = [x] := by rw [h]; simp
/-- The new image is laid, its master pending. -/
theorem Lv.exitM (h : Lv slots F S W base area img cs m0 now may sure) {m : List UInt8} (hm : m.length = 128) {X : List E91} (hX : ∀ w ∈ X, w = ⟨((1 - area : Nat) : Int), mst (base + cs.length + slots) (1 - area)⟩) {bd : Nat} (hb : base + cs.length + slots ≤ bd) (hb4 : bd ≤ 4000000000) : Ex slots bd (putN S (2 + (1 - area) * 2) (chunk' m 2) 2) X (may ++ [bs m]) sure := by
  have hl := h.js.len; have ha := h.js.ar; have hs0 := h.js.s0
  have hA : (1 - area) * 2 ≤ 2 := by omega
  have hj := h.js.putN (f := chunk' m 2) (chunk'_size (n := 2) hm) 2 (Nat.le_refl _)
  have hmem : ∀ x, x ∈ may.drop sure → x ∈ (may ++ [bs m]).drop sure := fun x hx => by rw [List.drop_append_of_le_length h.le]; exact List.mem_append_left _ hx
  refine ⟨hj.full, by rw [hj.len], fun w hw => ?_, by have := h.le; simp; omega, fun picks => ?_⟩
  · rw [hX w hw]
    exact ⟨by show (0 : Int) ≤ ((1 - area : Nat) : Int); omega, by show ((1 - area : Nat) : Int) < _; rw [hj.len]; omega, mst_size _ _⟩
  · rcases safe_master hj (by omega) (fun s hs => .inl hs) hX picks with e | e
    · have hc := (h.js.chk2 (nb := base + cs.length + slots) hm (by omega) (by omega) (by omega) (by omega)).old
      rw [e]
      refine ⟨_, _, m, [], m, hc, hb, rfl, ?_⟩
      rw [List.drop_append_of_le_length h.le]; simp
    · obtain ⟨x, b1, b2⟩ := h.mem cs.length h.m0l (Nat.le_refl _)
      rw [List.take_length] at b1
      exact ⟨base, area, img, cs, x, e, by omega, b1, hmem _ b2⟩
/-- It is checked. -/
theorem Lv.check (h : Lv slots F S W base area img cs m0 now may sure) {m : List UInt8} (hm : m.length = 128) (hb4 : base + cs.length + slots ≤ 4000000000) :
    Lv slots (chk2 S 2 (base + cs.length + slots) area m) (chk2 S 2 (base + cs.length + slots) area m) [] (base + cs.length + slots) (1 - area) m [] 0 m (may ++ [bs m]) may.length := by
  have hs0 := h.js.s0
  have hc := h.js.chk2 (nb := base + cs.length + slots) (m := m) hm (by omega) (by omega) (by omega) hb4
  exact ⟨hc, hc, Good.self hc.full, Nat.le_refl _, (fun w hw => by cases hw), Nat.le_refl _, rfl, ⟨may, rfl, Nat.le_refl _⟩, fun k h1 h2 => ⟨m, by simp [runE], by simp⟩⟩
/-- A command more. -/
theorem Lv.app (h : Lv slots F S W base area img cs m0 now may sure) {c : E34} (h0 : (stepE now c).2 = 0) (hroom : cs.length < slots) :
    Lv slots F (S.set (2 + 2 * 2 + cs.length) (bs (wrapL (base + cs.length) (comE c)))) (W ++ [⟨((2 + 2 * 2 + cs.length : Nat) : Int), bs (wrapL (base + cs.length) (comE c))⟩]) base area img (cs ++ [c]) m0 (stepE now c).1 (may ++ [bs (stepE now c).1]) sure := by
  have hok := stepE_ok h0
  have hl := h.js.len; have hm0 := h.m0l
  have hrun := runE_snoc c cs img now h.run h0
  refine ⟨by rw [List.take_append_of_le_length hm0]; exact h.jf, h.js.app c hok hroom, h.good.add (by omega) (by rw [bs_size, wrapL_len _ _ (okE_len hok)]), by simp; omega, fun w hw => ?_, by have := h.wl; simp; omega, hrun, ⟨may, rfl, h.le⟩, fun m h1 h2 => ?_⟩
  · rcases List.mem_append.1 hw with hw | hw
    · rcases h.wr w hw with ⟨k, hk, a1, a2⟩ | a
      · exact .inl ⟨k, by simp; omega, a1, by rw [List.getElem_append_left hk]; exact a2⟩
      · exact .inr a
    · rw [List.mem_singleton.1 hw]
      exact .inl ⟨cs.length, by simp, hm0, by rw [List.getElem_append_right (Nat.le_refl _)]; simp⟩
  · rw [List.drop_append_of_le_length h.le]
    rw [List.length_append, List.length_singleton] at h2
    by_cases hm : m ≤ cs.length
    · obtain ⟨x, e1, e2⟩ := h.mem m h1 hm
      exact ⟨x, by rw [List.take_append_of_le_length hm]; exact e1, List.mem_append_left _ e2⟩
    · refine ⟨_, ?_, List.mem_append_right _ (List.mem_singleton.2 rfl)⟩
      rw [List.take_of_length_le (by simp; omega)]; exact hrun
/-- All is synced. -/
theorem Lv.sync (h : Lv slots F S W base area img cs m0 now may sure) : Lv slots S S [] base area img cs cs.length now may (may.length - 1) := by
  obtain ⟨pre, e, hp⟩ := h.pre
  have hl : may.length - 1 = pre.length := by rw [e]; simp
  refine ⟨by rw [List.take_length]; exact h.js, h.js, Good.self h.js.full, Nat.le_refl _, (fun w hw => by cases hw), by simp, h.run, ⟨pre, e, by omega⟩, fun m h1 h2 => ⟨now, ?_, ?_⟩⟩
  · rw [List.take_of_length_le h1]; exact h.run
  · rw [hl, drop_last e]; simp
end
end Go.Proofs.YtpbiilgehbiacaaDoor
