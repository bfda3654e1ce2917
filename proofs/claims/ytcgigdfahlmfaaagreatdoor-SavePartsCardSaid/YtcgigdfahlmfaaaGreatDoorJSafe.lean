/-
  What a crash leaves of a journal.
-/
import Derived.Test.YtcgigdfahlmfaaaGreatDoorJx
namespace Go.Proofs.YtcgigdfahlmfaaaGreatDoor
open Go.Vc
set_option linter.unusedVariables false
set_option linter.unusedSimpArgs false
theorem crash_keep {W : List E115} {I : List ByteArray → Prop} (step : ∀ L, I L → ∀ w ∈ W, ∀ n, n ≤ 64 → I (L.set w.sector.toNat (mix n w.data (ixL L w.sector)))) : ∀ (picks : List E113) (F : List ByteArray), I F → I (crashL F W picks)
  | [], F, h => h
  | p :: ps, F, h => by
    show I (crashL (crash1 W F p) W ps)
    refine crash_keep step ps _ ?_
    unfold crash1
    split
    · exact h
    · rename_i hc
      have := clp_bd p.Bytes
      exact step F h _ (ixL_mem (by omega) (by omega)) _ (by omega)
def HalfR (lo b : Nat) (body s : List UInt8) : Prop := lastN s < lo ∨ (s.take 60 = (wrapL b body).take 60 ∧ lastN s < b)
theorem half_step {lo b : Nat} {body s : List UInt8} (hb : b < 4294967296) (hl : body.length ≤ 51) (hlo : lo ≤ b) (hs : s.length = 64) (h : s = wrapL b body ∨ HalfR lo b body s) {n : Nat} (hn : n ≤ 64) :
    (wrapL b body).take n ++ s.drop n = wrapL b body ∨ HalfR lo b body ((wrapL b body).take n ++ s.drop n) := by
  rcases h with h | h | h
  · subst h
    exact .inl (List.take_append_drop _ _)
  · rcases tear hb hl hs (show lastN s < b by omega) hn with h1 | ⟨h1, ⟨h2, h3⟩ | h2⟩
    · exact .inl h1
    · exact .inr (.inl (by omega))
    · exact .inr (.inr ⟨h2, h1⟩)
  · by_cases h60 : n ≤ 60
    · have e : (wrapL b body).take n ++ s.drop n = s := by
        rw [show (wrapL b body).take n = ((wrapL b body).take 60).take n by rw [List.take_take]; congr 1; omega, ← h.1, List.take_take, show min n 60 = n by omega, List.take_append_drop]
      rw [e]
      exact .inr (.inr h)
    · rcases tear hb hl hs h.2 hn with h1 | ⟨h1, ⟨h2, h3⟩ | h2⟩
      · exact .inl h1
      · exact absurd h2 h60
      · exact .inr (.inr ⟨h2, h1⟩)
theorem recorded_half {b : Nat} {s body : List UInt8} (hb : b < 4294967296) (hl : body.length ≤ 51) (hs : s.take 60 = (wrapL b body).take 60) (h : lastN s < b) : (recordedL s).2.2.2.2 ≠ 0 := by
  intro h0
  unfold recordedL at h0
  split at h0
  · rename_i h1; exact h1 h0
  split at h0
  · rename_i h1 h2; exact h2 h0
  rename_i h1 h2
  obtain ⟨e1, e2, e3⟩ := open_last (show (openL s).2.2 = 0 by simpa using h1)
  have e4 : s.take 4 = fourL b := by
    rw [show s.take 4 = (s.take 60).take 4 by rw [List.take_take]; congr 1, hs, List.take_take]
    exact wrapL_take b body
  have : lastN s = b := by
    unfold lastN
    rw [← e3, e4, ← List.append_nil (fourL b)]; exact numL_four b hb []
  omega
structure Sv (L : List ByteArray) (n slots base area : Nat) (img : List UInt8) (cs : List E59) (m0 : Nat) : Prop where
  full : Full L
  len : L.length = 2 + 2 * n + slots
  mast : L[area]? = some (mst base area)
  other : ∃ s, s.length = 64 ∧ L[1 - area]? = some (bs s) ∧ lastN s < base
  imgat : ∀ i, i < n → L[2 + area * n + i]? = some (chunk img i)
  slot : ∀ k, k < slots → ∃ s, s.length = 64 ∧ L[2 + 2 * n + k]? = some (bs s) ∧ ((∃ h : k < cs.length, s = wrapL (base + k) (comE cs[k])) ∨ (m0 ≤ k ∧ (lastN s < base ∨ ∃ h : k < cs.length, s.take 60 = (wrapL (base + k) (comE cs[k])).take 60 ∧ lastN s < base + k)))
def Wr (n base area : Nat) (cs : List E59) (m0 : Nat) (w : E115) : Prop :=
  (∃ k, ∃ h : k < cs.length, m0 ≤ k ∧ w = ⟨((2 + 2 * n + k : Nat) : Int), bs (wrapL (base + k) (comE cs[k]))⟩) ∨ (∃ i x, i < n ∧ x.size = 64 ∧ w = ⟨((2 + (1 - area) * n + i : Nat) : Int), x⟩)
theorem ixL_some {L : List ByteArray} {i : Nat} {s : ByteArray} (h : L[i]? = some s) : ixL L (i : Int) = s := by
  obtain ⟨h1, h2⟩ := List.getElem?_eq_some_iff.1 h
  rw [ixL_nat h1, h2]
theorem Sv.step {L : List ByteArray} {n slots base area : Nat} {img : List UInt8} {cs : List E59} {m0 : Nat} (h : Sv L n slots base area img cs m0) (hn0 : 1 ≤ n) (hs1 : slots ≤ 1024) (hb1 : base ≤ 4000000000) (ha : area < 2) (hcs : cs.length ≤ slots) (hok : ∀ k (h : k < cs.length), okE cs[k] = true)
    {w : E115} (hw : Wr n base area cs m0 w) {q : Nat} (hq : q ≤ 64) : Sv (L.set w.sector.toNat (mix q w.data (ixL L w.sector))) n slots base area img cs m0 := by
  have hl := h.len
  have hA : (1 - area) * n ≤ n := by rcases (show area = 0 ∨ area = 1 by omega) with e | e <;> rw [e] <;> simp
  have hA2 : area * n ≤ n := by rcases (show area = 0 ∨ area = 1 by omega) with e | e <;> rw [e] <;> simp
  rcases hw with ⟨k, hk, hm, rfl⟩ | ⟨i, x, hi, hx, rfl⟩
  · obtain ⟨s, e0, e1, e2⟩ := h.slot k (by omega)
    have hwl := wrapL_len (base + k) (comE cs[k]) (okE_len (hok k hk))
    have hmix : mix q (bs (wrapL (base + k) (comE cs[k]))) (ixL L ((2 + 2 * n + k : Nat) : Int)) = bs ((wrapL (base + k) (comE cs[k])).take q ++ s.drop q) := by
      rw [ixL_some e1, mix_bs q _ _ hq hwl e0]
    show Sv (L.set (2 + 2 * n + k) _) n slots base area img cs m0
    dsimp only
    rw [hmix]
    have hsz : (bs ((wrapL (base + k) (comE cs[k])).take q ++ s.drop q)).size = 64 := by rw [bs_size]; exact mixL_drop hwl e0 hq
    have ne : ∀ j, j ≠ 2 + 2 * n + k → (L.set (2 + 2 * n + k) (bs ((wrapL (base + k) (comE cs[k])).take q ++ s.drop q)))[j]? = L[j]? := fun j hj => List.getElem?_set_ne (by omega)
    obtain ⟨so, o1, o2, o3⟩ := h.other
    refine ⟨h.full.set hsz, by rw [List.length_set]; exact hl, (ne _ (by omega)).trans h.mast, ⟨so, o1, (ne _ (by omega)).trans o2, o3⟩, fun i hi => (ne _ (by omega)).trans (h.imgat i hi), fun j hj => ?_⟩
    by_cases hjk : j = k
    · subst hjk
      refine ⟨_, mixL_drop hwl e0 hq, List.getElem?_set_self (by omega), ?_⟩
      have hin : s = wrapL (base + j) (comE cs[j]) ∨ HalfR base (base + j) (comE cs[j]) s := by
        rcases e2 with ⟨_, e2⟩ | ⟨_, e2 | ⟨_, e2⟩⟩
        · exact .inl e2
        · exact .inr (.inl e2)
        · exact .inr (.inr e2)
      rcases half_step (by omega) (okE_len (hok j hk)) (by omega) e0 hin hq with h1 | h1 | h1
      · exact .inl ⟨hk, h1⟩
      · exact .inr ⟨hm, .inl h1⟩
      · exact .inr ⟨hm, .inr ⟨hk, h1⟩⟩
    · obtain ⟨t, t0, t1, t2⟩ := h.slot j hj
      exact ⟨t, t0, (ne _ (by omega)).trans t1, t2⟩
  · have hB : ∀ j, j < n → 2 + (1 - area) * n + i ≠ 2 + area * n + j := by
      intro j hj
      rcases (show area = 0 ∨ area = 1 by omega) with e | e <;> rw [e] <;> simp <;> omega
    show Sv (L.set (2 + (1 - area) * n + i) _) n slots base area img cs m0
    dsimp only
    have hlx : (ixL L ((2 + (1 - area) * n + i : Nat) : Int)).size = 64 := h.full.ix (by omega) (by omega)
    generalize hy : mix q x (ixL L ((2 + (1 - area) * n + i : Nat) : Int)) = y
    have hsz : y.size = 64 := by rw [← hy]; exact mix_size hq hx hlx
    have ne : ∀ j, j ≠ 2 + (1 - area) * n + i → (L.set (2 + (1 - area) * n + i) y)[j]? = L[j]? := fun j hj => List.getElem?_set_ne (by omega)
    obtain ⟨so, o1, o2, o3⟩ := h.other
    refine ⟨h.full.set hsz, by rw [List.length_set]; exact hl, (ne _ (by omega)).trans h.mast, ⟨so, o1, (ne _ (by omega)).trans o2, o3⟩, fun j hj => (ne _ (Ne.symm (hB j hj))).trans (h.imgat j hj), fun j hj => ?_⟩
    obtain ⟨t, t0, t1, t2⟩ := h.slot j hj
    exact ⟨t, t0, (ne _ (by omega)).trans t1, t2⟩
theorem first_gap (R : Nat → Prop) (n : Nat) : ∀ d m, m + d = n → (∀ k, k < m → R k) → ∃ m', m ≤ m' ∧ m' ≤ n ∧ (∀ k, k < m' → R k) ∧ (m' < n → ¬ R m')
  | 0, m, h, h1 => ⟨m, Nat.le_refl _, by omega, h1, fun h => by omega⟩
  | d + 1, m, h, h1 => by
    by_cases hr : R m
    · obtain ⟨m', a1, a2, a3, a4⟩ := first_gap R n d (m + 1) (by omega) fun k hk => by
        by_cases hkm : k = m
        · rw [hkm]; exact hr
        · exact h1 k (by omega)
      exact ⟨m', by omega, a2, a3, a4⟩
    · exact ⟨m, Nat.le_refl _, by omega, h1, fun _ => hr⟩
theorem Sv.open {L : List ByteArray} {n slots base area : Nat} {img : List UInt8} {cs : List E59} {m0 : Nat} (h : Sv L n slots base area img cs m0) (hn0 : 1 ≤ n) (hn1 : n ≤ 2048) (hs0 : 1 ≤ slots) (hs1 : slots ≤ 1024) (hb0 : 1 ≤ base) (hb1 : base ≤ 4000000000) (ha : area < 2) (himg : img.length = 64 * n) (hcs : cs.length ≤ slots) (hok : ∀ k (h : k < cs.length), okE cs[k] = true) (hm0 : m0 ≤ cs.length) :
    ∃ m, m0 ≤ m ∧ m ≤ cs.length ∧ JO L n slots base area img (cs.take m) := by
  obtain ⟨m, a1, a2, a3, a4⟩ := first_gap (fun k => ∃ h : k < cs.length, L[2 + 2 * n + k]? = some (bs (wrapL (base + k) (comE cs[k])))) cs.length (cs.length - m0) m0 (by omega) fun k hk => by
    obtain ⟨s, e0, e1, e2⟩ := h.slot k (by omega)
    rcases e2 with ⟨hk', e2⟩ | ⟨e2, _⟩
    · exact ⟨hk', by rw [e1, e2]⟩
    · omega
  have hlen : (cs.take m).length = m := by simp; omega
  obtain ⟨so, o1, o2, o3⟩ := h.other
  refine ⟨m, a1, a2, h.full, h.len, hn0, hn1, hs0, hs1, hb0, hb1, ha, h.mast, ⟨so, o1, o2, mval_last hb0 o3, .inl o3⟩, himg, h.imgat, by omega, fun k hk => ?_, fun k h1 h2 => ?_, fun h1 => ?_⟩
  · obtain ⟨hk', e⟩ := a3 k (by omega)
    rw [List.getElem_take]
    exact ⟨hok k hk', e⟩
  · obtain ⟨s, e0, e1, e2⟩ := h.slot k h2
    refine ⟨s, e0, e1, ?_⟩
    rcases e2 with ⟨hk', e2⟩ | ⟨_, e2 | ⟨hk', e2⟩⟩
    · rw [e2, last_wrap (by omega) (okE_len (hok k hk'))]; omega
    · omega
    · omega
  · rw [hlen] at h1 ⊢
    obtain ⟨s, e0, e1, e2⟩ := h.slot m h1
    refine ⟨s, e0, e1, ?_⟩
    rcases e2 with ⟨hk', e2⟩ | ⟨_, e2 | ⟨hk', e2, e3⟩⟩
    · exact absurd ⟨hk', by rw [e1, e2]⟩ (a4 hk')
    · by_cases hr : (recordedL s).2.2.2.2 = 0
      · right
        rw [recorded_last hr]; omega
      · exact .inl hr
    · exact .inl (recorded_half (by omega) (okE_len (hok m hk')) e2 e3)
theorem safe_new {F : List ByteArray} {n slots base area : Nat} {img : List UInt8} {cs : List E59} {m0 : Nat} (hj : JF F n slots base area img (cs.take m0)) (hm0 : m0 ≤ cs.length) (hcs : cs.length ≤ slots) (hok : ∀ k (h : k < cs.length), okE cs[k] = true) {W : List E115} (hw : ∀ w ∈ W, Wr n base area cs m0 w) (picks : List E113) :
    ∃ m, m0 ≤ m ∧ m ≤ cs.length ∧ JO (crashL F W picks) n slots base area img (cs.take m) := by
  have hlen : (cs.take m0).length = m0 := by simp; omega
  have h0 : Sv F n slots base area img cs m0 := by
    obtain ⟨s, e0, e1, e2, e3⟩ := hj.other
    refine ⟨hj.full, hj.len, hj.mast, ⟨s, e0, e1, e3⟩, hj.imgat, fun k hk => ?_⟩
    by_cases hkm : k < m0
    · obtain ⟨a1, a2⟩ := hj.rcs k (by omega)
      rw [List.getElem_take] at a1 a2
      exact ⟨_, wrapL_len _ _ (okE_len a1), a2, .inl ⟨by omega, rfl⟩⟩
    · obtain ⟨s, b0, b1, b2⟩ := hj.low k (by omega) hk
      exact ⟨s, b0, b1, .inr ⟨by omega, .inl b2⟩⟩
  have h1 := crash_keep (I := fun L => Sv L n slots base area img cs m0) (fun L hL w hw' q hq => hL.step hj.n0 hj.s1 hj.b1 hj.ar hcs hok (hw w hw') hq) picks F h0
  exact h1.open hj.n0 hj.n1 hj.s0 hj.s1 hj.b0 hj.b1 hj.ar hj.imgl hcs hok hm0
theorem safe_lay {F : List ByteArray} {n slots base area : Nat} {img : List UInt8} {cs : List E59} {P : List UInt8 → Prop} {sb : Nat} (hj : JX F n slots base area img cs P sb) {W : List E115} (hw : ∀ w ∈ W, ∃ i x, i < n ∧ x.size = 64 ∧ w = ⟨((2 + (1 - area) * n + i : Nat) : Int), x⟩) (picks : List E113) : JX (crashL F W picks) n slots base area img cs P sb := by
  refine crash_keep (I := fun L => JX L n slots base area img cs P sb) (fun L hL w hw' q hq => ?_) picks F hj
  obtain ⟨i, x, hi, hx, rfl⟩ := hw w hw'
  have ha := hL.ar; have hl := hL.len
  have hA : (1 - area) * n ≤ n := by rcases (show area = 0 ∨ area = 1 by omega) with e | e <;> rw [e] <;> simp
  have hlx : (ixL L ((2 + (1 - area) * n + i : Nat) : Int)).size = 64 := hL.full.ix (by omega) (by omega)
  exact hL.put hi (mix_size hq hx hlx)
theorem JX.half {S : List ByteArray} {n slots base area : Nat} {img : List UInt8} {cs : List E59} {P : List UInt8 → Prop} {sb : Nat} (h : JX S n slots base area img cs P sb) (hsb : sb ≤ base + slots) {s : List UInt8} (hs : s.length = 64) (hh : Half base (base + cs.length + slots) (1 - area) s) : JO (S.set (1 - area) (bs s)) n slots base area img cs := by
  have ha := h.ar; have hl := h.len; have hb1 := h.b1; have hs1 := h.s1; have hcs := h.csl
  have ne : ∀ j, j ≠ 1 - area → (S.set (1 - area) (bs s))[j]? = S[j]? := fun j hj => List.getElem?_set_ne (by omega)
  have hmv : mval (1 - area) s < base := by
    rcases hh with h1 | ⟨h1, h2⟩
    · exact mval_last h.b0 h1
    · exact mval_half h.b0 (by omega) (by simp) h1 h2
  refine ⟨h.full.set (by rw [bs_size]; exact hs), by rw [List.length_set]; exact hl, h.n0, h.n1, h.s0, h.s1, h.b0, h.b1, ha, (ne _ (by omega)).trans h.mast, ⟨s, hs, List.getElem?_set_self (by omega), hmv, hh⟩, h.imgl, fun i hi => (ne _ (by omega)).trans (h.imgat i hi), h.csl, fun k hk => ?_, fun k h1 h2 => ?_, fun h1 => ?_⟩
  · obtain ⟨a1, a2⟩ := h.rcs k hk
    exact ⟨a1, (ne _ (by omega)).trans a2⟩
  · obtain ⟨s, a1, a2, a3⟩ := h.low k h1 h2
    exact ⟨s, a1, (ne _ (by omega)).trans a2, by omega⟩
  · obtain ⟨s, a1, a2, a3⟩ := h.fst h1
    exact ⟨s, a1, (ne _ (by omega)).trans a2, a3⟩
theorem safe_master {F : List ByteArray} {n slots base area : Nat} {img : List UInt8} {cs : List E59} {P : List UInt8 → Prop} {sb : Nat} (hj : JX F n slots base area img cs P sb) (hsb : sb ≤ base + slots) (hP : ∀ s, P s → Half base (base + cs.length + slots) (1 - area) s) {W : List E115} (hw : ∀ w ∈ W, w = ⟨((1 - area : Nat) : Int), mst (base + cs.length + slots) (1 - area)⟩) (picks : List E113) :
    crashL F W picks = F.set (1 - area) (mst (base + cs.length + slots) (1 - area)) ∨ JO (crashL F W picks) n slots base area img cs := by
  have ha := hj.ar; have hl := hj.len; have hb1 := hj.b1; have hs1 := hj.s1; have hcs := hj.csl
  have h1 : ∃ s, s.length = 64 ∧ crashL F W picks = F.set (1 - area) (bs s) ∧ (s = wrapL (base + cs.length + slots) [77, UInt8.ofNat (1 - area)] ∨ HalfR base (base + cs.length + slots) [77, UInt8.ofNat (1 - area)] s) := by
    refine crash_keep (I := fun L => ∃ s, s.length = 64 ∧ L = F.set (1 - area) (bs s) ∧ (s = wrapL (base + cs.length + slots) [77, UInt8.ofNat (1 - area)] ∨ HalfR base (base + cs.length + slots) [77, UInt8.ofNat (1 - area)] s)) ?_ picks F ?_
    · rintro L ⟨s, e0, rfl, e2⟩ w hw' q hq
      rw [hw w hw']
      have hwl := wrapL_len (base + cs.length + slots) [77, UInt8.ofNat (1 - area)] (by simp)
      refine ⟨_, mixL_drop hwl e0 hq, ?_, half_step (by omega) (by simp) (by omega) e0 e2 hq⟩
      show (F.set (1 - area) (bs s)).set (1 - area) (mix q (bs _) (ixL (F.set (1 - area) (bs s)) ((1 - area : Nat) : Int))) = _
      rw [ixL_some (List.getElem?_set_self (by omega)), mix_bs q _ _ hq hwl e0, List.set_set]
    · obtain ⟨s, e0, e1, e2, e3⟩ := hj.other
      refine ⟨s, e0, ?_, .inr (hP s e3)⟩
      obtain ⟨g1, g2⟩ := List.getElem?_eq_some_iff.1 e1
      rw [← g2, List.set_getElem_self]
  obtain ⟨s, e0, e1, e2⟩ := h1
  rcases e2 with e2 | e2
  · left; rw [e1, e2]; rfl
  · right; rw [e1]; exact hj.half hsb e0 e2
end Go.Proofs.YtcgigdfahlmfaaaGreatDoor
