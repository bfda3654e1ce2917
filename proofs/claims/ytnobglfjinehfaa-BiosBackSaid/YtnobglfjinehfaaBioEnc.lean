/-
  BiosBack: the streams that the statement makes tell just the bytes; what was told comes out.
-/
import Derived.Test.YtnobglfjinehfaaBioBk
namespace Go.Proofs.Ytnobglfjinehfaa
open Go.Vc
set_option linter.unusedVariables false
set_option linter.unusedSimpArgs false

theorem or8c (a b : Int) : bits .or .u8 a b = bits .or .u8 b a := by
  show IntKind.wrap .u8 ((BitVec.ofInt 8 a ||| BitVec.ofInt 8 b).toNat : Int) = IntKind.wrap .u8 ((BitVec.ofInt 8 b ||| BitVec.ofInt 8 a).toNat : Int)
  rw [BitVec.or_comm]
theorem fd128 {n : Nat} (h : n < 8) : Int.fdiv 128 (2 ^ (min ((n : Nat) : Int).toNat 8)) = ((2 ^ (7 - n) : Nat) : Int) := by
  have : n = 0 ∨ n = 1 ∨ n = 2 ∨ n = 3 ∨ n = 4 ∨ n = 5 ∨ n = 6 ∨ n = 7 := by omega
  rcases this with rfl | rfl | rfl | rfl | rfl | rfl | rfl | rfl <;> decide
theorem bit_old {x f : Int} {n i : Nat} (hn : n < 8) (hi : i < n) (h0 : 0 ≤ x) (hx : x % ((2 ^ (8 - n) : Nat) : Int) = 0) (hf : f = 0 ∨ f = 1) : (x + f * ((2 ^ (7 - n) : Nat) : Int)) / ((2 ^ (7 - i) : Nat) : Int) % 2 = x / ((2 ^ (7 - i) : Nat) : Int) % 2 := by
  have h1 : n = 0 ∨ n = 1 ∨ n = 2 ∨ n = 3 ∨ n = 4 ∨ n = 5 ∨ n = 6 ∨ n = 7 := by omega
  have h2 : i = 0 ∨ i = 1 ∨ i = 2 ∨ i = 3 ∨ i = 4 ∨ i = 5 ∨ i = 6 := by omega
  rcases hf with rfl | rfl
  · rw [Int.zero_mul, Int.add_zero]
  · rcases h1 with rfl | rfl | rfl | rfl | rfl | rfl | rfl | rfl <;> rcases h2 with rfl | rfl | rfl | rfl | rfl | rfl | rfl <;> first | (exfalso; omega) | (simp only [Nat.reduceSub, Nat.reducePow] at hx ⊢; omega)
theorem bit_new {x f : Int} {n : Nat} (hn : n < 8) (h0 : 0 ≤ x) (hx : x % ((2 ^ (8 - n) : Nat) : Int) = 0) (hf : f = 0 ∨ f = 1) : (x + f * ((2 ^ (7 - n) : Nat) : Int)) / ((2 ^ (7 - n) : Nat) : Int) % 2 = f ∧ (x + f * ((2 ^ (7 - n) : Nat) : Int)) % ((2 ^ (8 - (n + 1)) : Nat) : Int) = 0 ∧ x + f * ((2 ^ (7 - n) : Nat) : Int) < (if x < 256 then 256 else x + 256) ∧ f * ((2 ^ (7 - n) : Nat) : Int) < ((2 ^ (8 - n) : Nat) : Int) ∧ 0 ≤ f * ((2 ^ (7 - n) : Nat) : Int) := by
  have h1 : n = 0 ∨ n = 1 ∨ n = 2 ∨ n = 3 ∨ n = 4 ∨ n = 5 ∨ n = 6 ∨ n = 7 := by omega
  rcases hf with rfl | rfl <;> rcases h1 with rfl | rfl | rfl | rfl | rfl | rfl | rfl | rfl <;> simp only [Nat.reduceSub, Nat.reducePow, Nat.reduceAdd] at hx ⊢ <;> refine ⟨by omega, by omega, by split <;> omega, by decide, by decide⟩
/-- A stream of kind 10 as far as it is made: its last byte of flags lies at a place, and tells n things so far. -/
def Opn (s l : List Int) (pl n : Nat) (o : List Int) : Prop := ∃ (L o0 : List Int) (its : List It) (x : Int), l = headed 16 s (L ++ x :: pays its) ∧ pl = 4 + L.length ∧ its.length = n ∧ n ≤ 8 ∧ (0 ≤ x ∧ x < 256) ∧ x % ((2 ^ (8 - n) : Nat) : Int) = 0 ∧
  (∀ i (h : i < its.length), x / ((2 ^ (7 - i) : Nat) : Int) % 2 = its[i].fl) ∧ oks o0 its ∧ outs o0 its = o ∧ ∀ tail, B10 s tail o0 → B10 s (L ++ tail) []
theorem fl01 (i : It) : i.fl = 0 ∨ i.fl = 1 := by cases i <;> simp [It.fl]
theorem headed_at {s L r : List Int} {k x : Int} : (headed k s (L ++ x :: r))[4 + L.length]? = some x := by
  unfold headed
  rw [List.getElem?_append_right (by simp)]
  simp
theorem headed_set {s L r : List Int} {k x y : Int} : (headed k s (L ++ x :: r)).set (4 + L.length) y = headed k s (L ++ y :: r) := by
  unfold headed
  rw [List.set_append_right _ _ (by simp)]
  simp
theorem headed_app {s L r : List Int} {k : Int} : headed k s L ++ r = headed k s (L ++ r) := by unfold headed; rw [List.append_assoc]
theorem Opn.byte {s l o : List Int} {pl n : Nat} (h : Opn s l pl n o) : ∃ x, l[pl]? = some x ∧ (0 ≤ x ∧ x < 256) ∧ x % ((2 ^ (8 - n) : Nat) : Int) = 0 := by
  obtain ⟨L, o0, its, x, rfl, rfl, _, _, hx, hm, _⟩ := h
  exact ⟨x, headed_at, hx, hm⟩
theorem Opn.add {s l o : List Int} {pl n : Nat} {x : Int} (h : Opn s l pl n o) (hn : n < 8) (i : It) (hi : i.ok o) (hx : l[pl]? = some x) : Opn s (l.set pl (x + i.fl * ((2 ^ (7 - n) : Nat) : Int)) ++ i.pay) pl (n + 1) (i.out o) := by
  obtain ⟨L, o0, its, x', rfl, rfl, rfl, h8, hb, hm, hbit, hok, rfl, hK⟩ := h
  rw [headed_at] at hx
  have hx := Option.some.inj hx
  subst hx
  obtain ⟨b1, b2, b3, b4, b5⟩ := bit_new hn hb.1 hm (fl01 i)
  rw [if_pos hb.2] at b3
  refine ⟨L, o0, its ++ [i], x' + i.fl * ((2 ^ (7 - its.length) : Nat) : Int), ?_, rfl, by simp, hn, ⟨by omega, b3⟩, b2, ?_, oks_snoc _ _ _ hok hi, outs_snoc _ _ _, hK⟩
  · rw [headed_set, headed_app, pays_snoc]; simp
  · intro j hj
    rw [List.length_append, List.length_singleton] at hj
    by_cases hjl : j < its.length
    · rw [List.getElem_append_left hjl, bit_old hn hjl hb.1 hm (fl01 i)]
      exact hbit j hjl
    · have hje : j = its.length := by omega
      subst hje
      rw [List.getElem_append_right (Nat.le_refl _)]
      simp only [Nat.sub_self, List.getElem_cons_zero]
      exact b1
theorem Opn.lit {s l o : List Int} {pl n : Nat} (h : Opn s l pl n o) (hn : n < 8) {b : Int} (hb : 0 ≤ b ∧ b < 256) : Opn s (l ++ [b]) pl (n + 1) (o ++ [b]) := by
  obtain ⟨x, hx, _⟩ := h.byte
  have := h.add hn (.lit b) hb hx
  rw [show (It.lit b).fl = 0 from rfl, Int.zero_mul, Int.add_zero] at this
  obtain ⟨h1, h2⟩ := List.getElem?_eq_some_iff.1 hx
  rw [← h2, List.set_getElem_self] at this
  exact this
theorem Opn.close {s l o : List Int} {pl n : Nat} (h : Opn s l pl n o) (hn : n = 8 ∨ (1 ≤ n ∧ o = s)) : ∃ L, l = headed 16 s L ∧ ∀ tail, B10 s tail o → B10 s (L ++ tail) [] := by
  obtain ⟨L, o0, its, x, rfl, rfl, rfl, h8, hb, hm, hbit, hok, rfl, hK⟩ := h
  refine ⟨_, rfl, fun tail ht => ?_⟩
  rw [List.append_assoc]
  refine hK _ ?_
  exact B10.step h8 (by intro h0; subst h0; simp at hn) hb hbit hok (fun h => hn.elim (fun hn => absurd h (by omega)) (fun hn => hn.2)) ht
theorem Opn.fresh {s L o : List Int} (hK : ∀ tail, B10 s tail o → B10 s (L ++ tail) []) : Opn s (headed 16 s L ++ [0]) (headed 16 s L).length 0 o :=
  ⟨L, o, [], 0, by rw [headed_app]; rfl, by simp [headed]; omega, rfl, by decide, by decide, by decide, fun i h => absurd h (by simp), trivial, rfl, hK⟩
theorem bind_ex {α β : Type} {X : Option α} {K : α → Option β} {y : Option β} (P : α → Prop) (h : ∃ a, X = some a ∧ P a) (h2 : ∀ a, P a → K a = y) : X.bind K = y := by
  obtain ⟨a, e, p⟩ := h
  rw [e, bind_some']; exact h2 a p
theorem take_snoc {s : List Int} {i : Nat} (h : i < s.length) : s.take (i + 1) = s.take i ++ [s[i]] := by rw [List.take_add_one, List.getElem?_eq_getElem h]; rfl
theorem take_run {s : List Int} {b : Int} : ∀ (n i : Nat), i + n ≤ s.length → (∀ j, j < n → s[i + j]? = some b) → s.take (i + n) = s.take i ++ List.replicate n b
  | 0, i, _, _ => by simp
  | n + 1, i, h, hj => by
    have h0 := hj 0 (by omega)
    rw [Nat.add_zero] at h0
    obtain ⟨h1, h2⟩ := List.getElem?_eq_some_iff.1 h0
    have := take_run (s := s) (b := b) n (i + 1) (by omega) (fun j hj' => by rw [show i + 1 + j = i + (j + 1) by omega]; exact hj (j + 1) (by omega))
    rw [show i + (n + 1) = i + 1 + n by omega, this, take_snoc h1, h2, List.replicate_succ, List.append_assoc]; rfl
theorem lastI_take {s : List Int} {i : Nat} (h0 : 0 < i) (h : i ≤ s.length) : s[i - 1]? = some (lastI (s.take i)) := by
  have hl : (s.take i).length = i := by rw [List.length_take]; omega
  unfold lastI
  rw [hl, show (i : Int) - 1 = ((i - 1 : Nat) : Int) by omega, ixL_nat (by omega), List.getElem_take, List.getElem?_eq_getElem (by omega)]
theorem kinds (k : Int) : bits .and .i64 k 3 = 0 ∨ bits .and .i64 k 3 = 1 ∨ bits .and .i64 k 3 = 2 ∨ bits .and .i64 k 3 = 3 := by
  rw [and64 2 (by decide) (by decide)]
  simp only [show ((2 ^ 2 : Nat) : Int) = 4 by decide]
  omega
theorem hd_len {s : List Int} (hs : s.length ≤ 3000) (k : Int) : (([] : List Int) ++ [k, (IntKind.wrap .u8 ((s.length : Nat) : Int)), (IntKind.wrap .u8 (Int.fdiv ((s.length : Nat) : Int) 256)), (0 : Int)]) = headed k s [] := by
  rw [fdiv_pos (by decide), wr_u8, wr_u8, show ((s.length : Nat) : Int) / 256 % 256 = ((s.length : Nat) : Int) / 256 by omega]; rfl
theorem hl_nil {s : List Int} (k : Int) : (headed k s []).length = 4 := rfl
abbrev TO (s l : List Int) : Prop := l.length ≤ 20000 ∧ ∃ k r, l = headed k s r ∧ Told s k r
theorem enc0 {s : List Int} (h1 : 1 ≤ s.length) (hs : s.length ≤ 3000) (hb : okB s) {F : Int × List Int → Option ((Int × List Int) ⊕ List Int)}
    (hA : ∀ (i : Nat) (l : List Int), i < s.length → l.length ≤ 20000 → F ((i : Int), l) = if i % 8 = 0 then some (.inl (((i + 1 : Nat) : Int), l ++ [0] ++ [ixL s (i : Int)])) else some (.inl (((i + 1 : Nat) : Int), l ++ [ixL s (i : Int)])))
    (hZ : ∀ (l : List Int), F (((s.length : Nat) : Int), l) = some (.inr l)) : ∃ l, loopO F (0, headed 16 s []) = some l ∧ TO s l := by
  refine loopO_ex (TO s) (fun (n : Nat) (st : Int × List Int) => ∃ i : Nat, st.1 = (i : Int) ∧ n = s.length - i ∧ i ≤ s.length ∧ st.2.length ≤ 4 + 2 * i ∧ ((i = 0 ∧ st.2 = headed 16 s []) ∨ (1 ≤ i ∧ ∃ pl, Opn s st.2 pl ((i - 1) % 8 + 1) (s.take i)))) ?_ s.length _ ⟨0, rfl, rfl, by omega, by rw [hl_nil]; omega, .inl ⟨rfl, rfl⟩⟩
  rintro n ⟨x, l⟩ ⟨i, hi, rfl, hle, hll, hO⟩
  dsimp only at hi hll hO
  subst hi
  by_cases hc : i < s.length
  · left
    have hx := hb _ (List.getElem_mem hc)
    rw [hA i l hc (by omega), ixL_nat hc]
    by_cases h8 : i % 8 = 0
    · rw [if_pos h8]
      refine ⟨_, s.length - (i + 1), rfl, by omega, i + 1, rfl, rfl, by omega, by simp; omega, .inr ⟨by omega, ?_⟩⟩
      obtain ⟨L, hL, hK⟩ : ∃ L, l = headed 16 s L ∧ ∀ tail, B10 s tail (s.take i) → B10 s (L ++ tail) [] := by
        rcases hO with ⟨rfl, hl⟩ | ⟨hi1, pl, ho⟩
        · exact ⟨[], hl, fun tail h => h⟩
        · exact ho.close (.inl (by omega))
      refine ⟨(headed 16 s L).length, ?_⟩
      have := (Opn.fresh hK).lit (by decide) hx
      rw [take_snoc hc, show (i + 1 - 1) % 8 + 1 = 0 + 1 by omega, hL]
      exact this
    · rw [if_neg h8]
      refine ⟨_, s.length - (i + 1), rfl, by omega, i + 1, rfl, rfl, by omega, by simp; omega, .inr ⟨by omega, ?_⟩⟩
      rcases hO with ⟨rfl, hl⟩ | ⟨hi1, pl, ho⟩
      · exact absurd rfl h8
      · refine ⟨pl, ?_⟩
        have := ho.lit (by omega) hx
        rw [take_snoc hc, show (i + 1 - 1) % 8 + 1 = (i - 1) % 8 + 1 + 1 by omega]
        exact this
  · right
    have he : i = s.length := by omega
    subst he
    refine ⟨l, hZ l, by omega, ?_⟩
    rcases hO with ⟨h0, _⟩ | ⟨hi1, pl, ho⟩
    · omega
    · obtain ⟨L, hL, hK⟩ := ho.close (.inr ⟨by omega, List.take_length⟩)
      refine ⟨16, L, hL, .k10 ?_⟩
      have := hK [] (by rw [List.take_length]; exact .done)
      rwa [List.append_nil] at this
theorem enc1 {s : List Int} (h1 : 1 ≤ s.length) (hs : s.length ≤ 3000) (hb : okB s) {F : Int × List Int → Option ((Int × List Int) ⊕ List Int)}
    (hA : ∀ (i : Nat) (l : List Int), i < s.length → l.length ≤ 20000 → ∃ n : Nat, 1 ≤ n ∧ n ≤ 130 ∧ i + n ≤ s.length ∧ (∀ j, j < n → s[i + j]? = s[i]?) ∧ F ((i : Int), l) = if 3 ≤ n then some (.inl (((i + n : Nat) : Int), l ++ [((125 + n : Nat) : Int), ixL s (i : Int)])) else some (.inl (((i + 1 : Nat) : Int), l ++ [0, ixL s (i : Int)])))
    (hZ : ∀ (l : List Int), F (((s.length : Nat) : Int), l) = some (.inr l)) : ∃ l, loopO F (0, headed 48 s []) = some l ∧ TO s l := by
  refine loopO_ex (TO s) (fun (n : Nat) (st : Int × List Int) => ∃ i : Nat, st.1 = (i : Int) ∧ n = s.length - i ∧ i ≤ s.length ∧ st.2.length ≤ 4 + 2 * i ∧ ∃ L, st.2 = headed 48 s L ∧ ∀ tail, B30 s tail (s.take i) → B30 s (L ++ tail) []) ?_ s.length _ ⟨0, rfl, rfl, by omega, by rw [hl_nil]; omega, [], rfl, fun _ h => h⟩
  rintro n ⟨x, l⟩ ⟨i, hi, rfl, hle, hll, L, hL, hK⟩
  dsimp only at hi hll hL
  subst hi
  by_cases hc : i < s.length
  · left
    have hx := hb _ (List.getElem_mem hc)
    obtain ⟨n, hn1, hn2, hn3, hn4, e⟩ := hA i l hc (by omega)
    rw [e, ixL_nat hc]
    by_cases h3 : 3 ≤ n
    · rw [if_pos h3]
      refine ⟨_, s.length - (i + n), rfl, by omega, i + n, rfl, rfl, by omega, by simp; omega, L ++ [((125 + n : Nat) : Int), s[i]], by dsimp only; rw [hL, headed_app], fun tail h => ?_⟩
      rw [List.append_assoc]
      refine hK _ (.run h3 hn2 hx ?_)
      rw [← take_run n i hn3 (fun j hj => by rw [hn4 j hj, List.getElem?_eq_getElem hc])]
      exact h
    · rw [if_neg h3]
      refine ⟨_, s.length - (i + 1), rfl, by omega, i + 1, rfl, rfl, by omega, by simp; omega, L ++ [0, s[i]], by dsimp only; rw [hL, headed_app], fun tail h => ?_⟩
      rw [List.append_assoc]
      refine hK _ (.one hx ?_)
      rw [← take_snoc hc]
      exact h
  · right
    have he : i = s.length := by omega
    subst he
    refine ⟨l, hZ l, by omega, 48, L, hL, .k30 ?_⟩
    have := hK [] (by rw [List.take_length]; exact .done)
    rwa [List.append_nil] at this
theorem enc2 {s : List Int} (h1 : 1 ≤ s.length) (hs : s.length ≤ 3000) (hb : okB s) {F : Int × Int × List Int → Option ((Int × Int × List Int) ⊕ List Int)}
    (hA : ∀ (v : Int) (i : Nat) (l : List Int), i < s.length → l.length ≤ 20000 → F (v, (i : Int), l) = some (.inl (ixL s (i : Int), ((i + 1 : Nat) : Int), l ++ [(ixL s (i : Int) - v) % 256])))
    (hZ : ∀ (v : Int) (l : List Int), F (v, ((s.length : Nat) : Int), l) = some (.inr l)) : ∃ l, loopO F (0, 0, headed 129 s []) = some l ∧ TO s l := by
  refine loopO_ex (TO s) (fun (n : Nat) (st : Int × Int × List Int) => ∃ i : Nat, st.2.1 = (i : Int) ∧ n = s.length - i ∧ i ≤ s.length ∧ st.2.2.length ≤ 4 + 2 * i ∧ (0 ≤ st.1 ∧ st.1 < 256) ∧ ∃ L, st.2.2 = headed 129 s L ∧ ∀ tail, B81 s st.1 tail (s.take i) → B81 s 0 (L ++ tail) []) ?_ s.length _ ⟨0, rfl, rfl, by omega, by show (headed 129 s []).length ≤ _; rw [hl_nil]; omega, (show (0 : Int) ≤ 0 ∧ (0 : Int) < 256 by decide), [], rfl, fun _ h => h⟩
  rintro n ⟨v, x, l⟩ ⟨i, hi, rfl, hle, hll, hv, L, hL, hK⟩
  dsimp only at hi hll hL hv hK
  subst hi
  by_cases hc : i < s.length
  · left
    have hx := hb _ (List.getElem_mem hc)
    rw [hA v i l hc (by omega), ixL_nat hc]
    refine ⟨_, s.length - (i + 1), rfl, by omega, i + 1, rfl, rfl, by omega, by simp; omega, hx, L ++ [(s[i] - v) % 256], by dsimp only; rw [hL, headed_app], fun tail h => ?_⟩
    rw [List.append_assoc]
    refine hK _ (.step (by omega) ?_)
    rw [show (v + (s[i] - v) % 256) % 256 = s[i] by omega, ← take_snoc hc]
    exact h
  · right
    have he : i = s.length := by omega
    subst he
    refine ⟨l, hZ v l, by omega, 129, L, hL, .k81 ?_⟩
    have := hK [] (by rw [List.take_length]; exact .done)
    rwa [List.append_nil] at this
theorem enc3 {s : List Int} (h1 : 1 ≤ s.length) (hs : s.length ≤ 3000) (hb : okB s) {F : Int × Int × Int × List Int → Option ((Int × Int × Int × List Int) ⊕ List Int)}
    (hA : ∀ (p k i : Nat) (l : List Int), i < s.length → l.length ≤ 20000 → k ≤ 8 → (k < 8 → p < l.length) → ∃ (p' k' : Nat) (l' : List Int), (p', k', l') = (if k = 8 then (l.length, 0, l ++ [0]) else (p, k, l)) ∧ ∃ n : Nat, n ≤ 18 ∧ i + n ≤ s.length ∧ (0 < n → 0 < i) ∧ (∀ j, j < n → s[i + j]? = s[i - 1]?) ∧
      F ((p : Int), (k : Int), (i : Int), l) = if 3 ≤ n then some (.inl ((p' : Int), ((k' + 1 : Nat) : Int), ((i + n : Nat) : Int), l'.set p' (bits .or .u8 (ixL l' (p' : Int)) ((2 ^ (7 - k') : Nat) : Int)) ++ [((n : Int) - 3) * 16, 0])) else some (.inl ((p' : Int), ((k' + 1 : Nat) : Int), ((i + 1 : Nat) : Int), l' ++ [ixL s (i : Int)])))
    (hZ : ∀ (p k : Int) (l : List Int), F (p, k, ((s.length : Nat) : Int), l) = some (.inr l)) : ∃ l, loopO F (0, 8, 0, headed 16 s []) = some l ∧ TO s l := by
  refine loopO_ex (TO s) (fun (n : Nat) (st : Int × Int × Int × List Int) => ∃ p k i : Nat, st.1 = (p : Int) ∧ st.2.1 = (k : Int) ∧ st.2.2.1 = (i : Int) ∧ n = s.length - i ∧ i ≤ s.length ∧ st.2.2.2.length ≤ 4 + 2 * i ∧ ((i = 0 ∧ k = 8 ∧ st.2.2.2 = headed 16 s []) ∨ (1 ≤ i ∧ 1 ≤ k ∧ k ≤ 8 ∧ Opn s st.2.2.2 p k (s.take i)))) ?_ s.length _ ⟨0, 8, 0, rfl, rfl, rfl, rfl, by omega, by show (headed 16 s []).length ≤ _; rw [hl_nil]; omega, .inl ⟨rfl, rfl, rfl⟩⟩
  rintro n ⟨p0, k0, x, l⟩ ⟨p, k, i, hp, hk, hi, rfl, hle, hll, hO⟩
  dsimp only at hp hk hi hll hO
  subst hp hk hi
  by_cases hc : i < s.length
  · left
    have hx := hb _ (List.getElem_mem hc)
    have hk8 : k ≤ 8 := by rcases hO with h | h <;> omega
    have hpl : k < 8 → p < l.length := fun h => by
      rcases hO with h' | h'
      · omega
      · obtain ⟨y, hy, _⟩ := h'.2.2.2.byte
        exact (List.getElem?_eq_some_iff.1 hy).1
    obtain ⟨p', k', l', hJ, n, hn1, hn2, hn3, hn4, e⟩ := hA p k i l hc (by omega) hk8 hpl
    rw [e]
    have hO' : Opn s l' p' k' (s.take i) ∧ k' < 8 ∧ l'.length ≤ l.length + 1 := by
      by_cases h8 : k = 8
      · rw [if_pos h8] at hJ
        obtain ⟨L, hL, hK⟩ : ∃ L, l = headed 16 s L ∧ ∀ tail, B10 s tail (s.take i) → B10 s (L ++ tail) [] := by
          rcases hO with ⟨rfl, _, hl⟩ | ⟨hi1, _, _, ho⟩
          · exact ⟨[], hl, fun tail h => h⟩
          · exact ho.close (.inl h8)
        have hF := Opn.fresh hK
        rw [← hL] at hF
        injection hJ with j1 j2
        injection j2 with j2 j3
        subst j1 j2 j3
        exact ⟨hF, by decide, by simp⟩
      · rw [if_neg h8] at hJ
        injection hJ with j1 j2
        injection j2 with j2 j3
        subst j1 j2 j3
        rcases hO with h' | h'
        · omega
        · exact ⟨h'.2.2.2, by omega, by omega⟩
    obtain ⟨hop, hk7, hl1⟩ := hO'
    rw [ixL_nat hc]
    by_cases h3 : 3 ≤ n
    · rw [if_pos h3]
      obtain ⟨y, hy, hyb, hym⟩ := hop.byte
      obtain ⟨hy1, hy2⟩ := List.getElem?_eq_some_iff.1 hy
      have hi0 := hn3 (by omega)
      have htl : (s.take i).length = i := by rw [List.length_take]; omega
      have hadd := hop.add hk7 (.pc n) ⟨h3, hn1, by omega⟩ hy
      have hlast := lastI_take hi0 hle
      have hor : bits .or .u8 (ixL l' (p' : Int)) ((2 ^ (7 - k') : Nat) : Int) = y + (It.pc n).fl * ((2 ^ (7 - k') : Nat) : Int) := by
        obtain ⟨b1, b2, b3, b4, b5⟩ := bit_new (f := 1) hk7 hyb.1 hym (.inr rfl)
        rw [Int.one_mul] at b4 b5
        rw [ixL_nat hy1, hy2, or8c, or8 (8 - k') (by omega) b5 b4 hyb.1 hyb.2 hym]
        show _ = y + 1 * _
        omega
      rw [hor]
      have hto : (It.pc n).out (s.take i) = s.take (i + n) := by
        rw [take_run n i hn2 (fun j hj => by rw [hn4 j hj]; exact hlast)]; rfl
      rw [hto] at hadd
      refine ⟨_, s.length - (i + n), rfl, by omega, p', k' + 1, i + n, rfl, rfl, rfl, rfl, hn2, ?_, .inr ⟨by omega, by omega, by omega, hadd⟩⟩
      simp; omega
    · rw [if_neg h3]
      have hadd := hop.lit hk7 hx
      rw [← take_snoc hc] at hadd
      refine ⟨_, s.length - (i + 1), rfl, by omega, p', k' + 1, i + 1, rfl, rfl, rfl, rfl, by omega, ?_, .inr ⟨by omega, by omega, by omega, hadd⟩⟩
      simp; omega
  · right
    have he : i = s.length := by omega
    subst he
    refine ⟨l, hZ _ _ l, by omega, ?_⟩
    rcases hO with ⟨h0, _⟩ | ⟨hi1, hk1, _, ho⟩
    · omega
    · obtain ⟨L, hL, hK⟩ := ho.close (.inr ⟨hk1, List.take_length⟩)
      refine ⟨16, L, hL, .k10 ?_⟩
      have := hK [] (by rw [List.take_length]; exact .done)
      rwa [List.append_nil] at this
end Go.Proofs.Ytnobglfjinehfaa
