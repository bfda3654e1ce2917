/-
  Towards BiosBack: streams as what they tell; both kinds of pieces come out.
-/
import Derived.Test.YtnobglfjinehfaaBioQ
namespace Go.Proofs.Ytnobglfjinehfaa
open Go.Vc
set_option linter.unusedVariables false
set_option linter.unusedSimpArgs false

theorem nb_of {l : List Int} {to : Nat} {m : M3} (hg : Gd l to m) (hok : okB m.1) {a : Nat} {x : Int} (h : l[a]? = some x) : nb 0 m (a : Int) = x := by
  obtain ⟨ha, hx⟩ := List.getElem?_eq_some_iff.1 h
  have hm := hg.head a ha
  have hl : a < m.1.length := by have := hg.fit; have := hg.apart; omega
  rw [nb_at hok hl hg.big]
  rw [h, List.getElem?_eq_getElem hl] at hm
  exact Option.some.inj hm
noncomputable def lastI (o : List Int) : Int := ixL o ((o.length : Int) - 1)
theorem lastI_snoc (o : List Int) (x : Int) : lastI (o ++ [x]) = x := by
  unfold lastI
  rw [List.length_append, List.length_singleton, show ((o.length + 1 : Nat) : Int) - 1 = ((o.length : Nat) : Int) by omega, ixL_nat (by simp)]
  simp
theorem cp_good {l : List Int} {to : Nat} {size : Int} (hs : size ≤ 3000) : ∀ (n : Nat) {m : M3}, Gd l to m → Inv size m → 0 < m.2.2.length → (m.2.2.length : Int) + (n : Int) ≤ size →
    Gd l to (cp 0 (to : Int) size 1 n m) ∧ Inv size (cp 0 (to : Int) size 1 n m) ∧ (cp 0 (to : Int) size 1 n m).2.2 = m.2.2 ++ List.replicate n (lastI m.2.2)
  | 0, m, hg, hi, _, _ => ⟨hg, hi, by simp [cp]⟩
  | n + 1, m, hg, hi, hp, hn => by
    have hsel : sel 1 m = lastI m.2.2 := by unfold sel; rw [if_pos (by omega)]; rfl
    have hb := sel_bd (back := 1) hi (by decide)
    have hf : ¬ full size m := by intro h; have h' : size ≤ (m.2.2.length : Int) := h; omega
    obtain ⟨g1, g2⟩ := pt_good hg hi hs hb hf
    have hi' := pt_inv (B := 0) (to := (to : Int)) hi hb
    have hl : (pt 0 (to : Int) size (sel 1 m) m).2.2.length = m.2.2.length + 1 := by rw [g2]; simp
    obtain ⟨e1, e2, e3⟩ := cp_good hs n g1 hi' (by omega) (by omega)
    refine ⟨e1, e2, ?_⟩
    show (cp 0 (to : Int) size 1 n (pt 0 (to : Int) size (sel 1 m) m)).2.2 = _
    rw [e3, g2, lastI_snoc, hsel, List.replicate_succ, List.append_assoc]; rfl
theorem rp_good {l : List Int} {to : Nat} {size x : Int} (hs : size ≤ 3000) (hx : 0 ≤ x ∧ x < 256) : ∀ (n : Nat) {m : M3}, Gd l to m → Inv size m → (m.2.2.length : Int) + (n : Int) ≤ size →
    Gd l to (rp 0 (to : Int) size x n m) ∧ Inv size (rp 0 (to : Int) size x n m) ∧ (rp 0 (to : Int) size x n m).2.2 = m.2.2 ++ List.replicate n x
  | 0, m, hg, hi, _ => ⟨hg, hi, by simp [rp]⟩
  | n + 1, m, hg, hi, hn => by
    have hf : ¬ full size m := by intro h; have h' : size ≤ (m.2.2.length : Int) := h; omega
    obtain ⟨g1, g2⟩ := pt_good hg hi hs hx hf
    have hi' := pt_inv (B := 0) (to := (to : Int)) hi hx
    have hl : (pt 0 (to : Int) size x m).2.2.length = m.2.2.length + 1 := by rw [g2]; simp
    obtain ⟨e1, e2, e3⟩ := rp_good hs hx n g1 hi' (by omega)
    refine ⟨e1, e2, ?_⟩
    show (rp 0 (to : Int) size x n (pt 0 (to : Int) size x m)).2.2 = _
    rw [e3, g2, List.replicate_succ, List.append_assoc]; rfl
/-- What a stream of kind 10 tells: a byte, or the last one so many times more. -/
inductive It where
  | lit (b : Int)
  | pc (n : Nat)
noncomputable def It.out (o : List Int) : It → List Int
  | .lit b => o ++ [b]
  | .pc n => o ++ List.replicate n (lastI o)
def It.pay : It → List Int
  | .lit b => [b]
  | .pc n => [((n : Int) - 3) * 16, 0]
def It.fl : It → Int
  | .lit _ => 0
  | .pc _ => 1
def It.ok (o : List Int) : It → Prop
  | .lit b => 0 ≤ b ∧ b < 256
  | .pc n => 3 ≤ n ∧ n ≤ 18 ∧ 0 < o.length
noncomputable def outs (o : List Int) : List It → List Int
  | [] => o
  | i :: r => outs (i.out o) r
def oks (o : List Int) : List It → Prop
  | [] => True
  | i :: r => i.ok o ∧ oks (i.out o) r
def pays : List It → List Int
  | [] => []
  | i :: r => i.pay ++ pays r
theorem out_pre (o : List Int) (i : It) : o <+: i.out o := by
  cases i with
  | lit b => exact ⟨_, rfl⟩
  | pc n => exact ⟨_, rfl⟩
theorem out_len {o : List Int} {i : It} (h : i.ok o) : o.length < (i.out o).length := by
  cases i with
  | lit b => simp [It.out]
  | pc n => have := h.1; simp [It.out]; omega
theorem outs_pre : ∀ (its : List It) (o : List Int), o <+: outs o its
  | [], o => List.prefix_refl _
  | i :: r, o => (out_pre o i).trans (outs_pre r _)
theorem outs_snoc : ∀ (its : List It) (o : List Int) (i : It), outs o (its ++ [i]) = i.out (outs o its)
  | [], _, _ => rfl
  | j :: r, o, i => outs_snoc r (j.out o) i
theorem oks_snoc : ∀ (its : List It) (o : List Int) (i : It), oks o its → i.ok (outs o its) → oks o (its ++ [i])
  | [], _, _, _, h => ⟨h, trivial⟩
  | j :: r, o, i, h, h' => ⟨h.1, oks_snoc r (j.out o) i h.2 h'⟩
theorem pays_snoc : ∀ (its : List It) (i : It), pays (its ++ [i]) = pays its ++ i.pay
  | [], i => by simp [pays]
  | j :: r, i => by simp [pays, pays_snoc r i]
inductive B10 (s : List Int) : List Int → List Int → Prop
  | done : B10 s [] s
  | step {o : List Int} {x : Int} {its : List It} {rest : List Int} : its.length ≤ 8 → its ≠ [] → (0 ≤ x ∧ x < 256) → (∀ i (h : i < its.length), x / ((2 ^ (7 - i) : Nat) : Int) % 2 = its[i].fl) → oks o its → (its.length < 8 → outs o its = s) → B10 s rest (outs o its) → B10 s (x :: (pays its ++ rest)) o
theorem B10.pre {s r o : List Int} (h : B10 s r o) : o <+: s := by
  induction h with
  | done => exact List.prefix_refl _
  | step _ _ _ _ _ _ _ ih => exact (outs_pre _ _).trans ih
theorem drop_cons {l r : List Int} {a : Nat} {x : Int} (h : l.drop a = x :: r) : l[a]? = some x ∧ l.drop (a + 1) = r ∧ a < l.length := by
  have h1 : (l.drop a)[0]? = some x := by rw [h]; rfl
  rw [List.getElem?_drop] at h1
  have h2 : (l.drop a).drop 1 = r := by rw [h]; rfl
  rw [List.drop_drop] at h2
  exact ⟨h1, h2, (List.getElem?_eq_some_iff.1 h1).1⟩
theorem not_full {s : List Int} {m : M3} {o : List Int} (hp : o <+: s) (hl : m.2.2.length < o.length) : ¬ full ((s.length : Nat) : Int) m := by
  intro h
  have h' : ((s.length : Nat) : Int) ≤ (m.2.2.length : Int) := h
  have := hp.length_le
  omega
theorem fgo_items {l s : List Int} {to : Nat} (hs : s.length ≤ 3000) {x : Int} : ∀ (its : List It) (k a : Nat) (m : M3) (rest : List Int), its.length ≤ k → k ≤ 8 → Gd l to m → Inv ((s.length : Nat) : Int) m → oks m.2.2 its → outs m.2.2 its <+: s → (its.length < k → outs m.2.2 its = s) →
    (∀ i (h : i < its.length), x / ((2 ^ (k - 1 - i) : Nat) : Int) % 2 = its[i].fl) → l.drop a = pays its ++ rest →
    Gd l to (fgo 0 (to : Int) ((s.length : Nat) : Int) x k ((a : Int), m)).2 ∧ Inv ((s.length : Nat) : Int) (fgo 0 (to : Int) ((s.length : Nat) : Int) x k ((a : Int), m)).2 ∧ (fgo 0 (to : Int) ((s.length : Nat) : Int) x k ((a : Int), m)).2.2.2 = outs m.2.2 its ∧
      (fgo 0 (to : Int) ((s.length : Nat) : Int) x k ((a : Int), m)).1 = ((a + (pays its).length : Nat) : Int) ∧ l.drop (a + (pays its).length) = rest
  | [], 0, a, m, rest, _, _, hg, hi, _, _, _, _, hd => ⟨hg, hi, rfl, rfl, hd⟩
  | [], k + 1, a, m, rest, _, _, hg, hi, _, _, hfl, _, hd => by
    have hf : full ((s.length : Nat) : Int) m := by
      have h : m.2.2 = s := hfl (by simp)
      show ((s.length : Nat) : Int) ≤ (m.2.2.length : Int)
      rw [h]; omega
    rw [fgo_full (s := ((a : Int), m)) hf]
    exact ⟨hg, hi, rfl, rfl, hd⟩
  | it :: its, 0, a, m, rest, h, _, _, _, _, _, _, _, _ => absurd h (by simp)
  | it :: its, k + 1, a, m, rest, hk, hk8, hg, hi, hok, hp, hfl, hbit, hd => by
    have hlen := out_len hok.1
    have hpre : it.out m.2.2 <+: s := (outs_pre its _).trans hp
    have hnf : ¬ full ((s.length : Nat) : Int) m := not_full hpre hlen
    have hle := hpre.length_le
    have e : fgo 0 (to : Int) ((s.length : Nat) : Int) x (k + 1) ((a : Int), m) = fgo 0 (to : Int) ((s.length : Nat) : Int) x k (fstep 0 (to : Int) ((s.length : Nat) : Int) x k ((a : Int), m)) := by
      show (if full _ m then _ else _) = _
      rw [if_neg hnf]
    have hb0 : x / ((2 ^ k : Nat) : Int) % 2 = it.fl := by have h0 := hbit 0 (by simp); simpa using h0
    have hrest : ∀ i (h : i < its.length), x / ((2 ^ (k - 1 - i) : Nat) : Int) % 2 = its[i].fl := fun i h => by
      have h0 := hbit (i + 1) (by simp; omega)
      rw [show k + 1 - 1 - (i + 1) = k - 1 - i by omega] at h0
      simpa using h0
    have hbig := hg.big; have hfit := hg.fit; have hap := hg.apart
    have hkl : its.length ≤ k := by simp at hk; omega
    have go : ∀ (m' : M3), fstep 0 (to : Int) ((s.length : Nat) : Int) x k ((a : Int), m) = (((a + it.pay.length : Nat) : Int), m') → Gd l to m' → Inv ((s.length : Nat) : Int) m' → m'.2.2 = it.out m.2.2 → 
        Gd l to (fgo 0 (to : Int) ((s.length : Nat) : Int) x (k + 1) ((a : Int), m)).2 ∧ Inv ((s.length : Nat) : Int) (fgo 0 (to : Int) ((s.length : Nat) : Int) x (k + 1) ((a : Int), m)).2 ∧ (fgo 0 (to : Int) ((s.length : Nat) : Int) x (k + 1) ((a : Int), m)).2.2.2 = outs m.2.2 (it :: its) ∧
        (fgo 0 (to : Int) ((s.length : Nat) : Int) x (k + 1) ((a : Int), m)).1 = ((a + (pays (it :: its)).length : Nat) : Int) ∧ l.drop (a + (pays (it :: its)).length) = rest := by
      intro m' hst hg' hi' ho
      rw [e, hst]
      have hd' : l.drop (a + it.pay.length) = pays its ++ rest := by
        rw [← List.drop_drop, hd]; simp [pays]
      have := fgo_items hs its k (a + it.pay.length) m' rest hkl (by omega) hg' hi' (by rw [ho]; exact hok.2) (by rw [ho]; exact hp) (fun h => by rw [ho]; exact hfl (by simp; omega)) hrest hd'
      rw [ho] at this
      obtain ⟨r1, r2, r3, r4, r5⟩ := this
      have hpl : a + (pays (it :: its)).length = a + it.pay.length + (pays its).length := by simp [pays]; omega
      rw [hpl]
      exact ⟨r1, r2, r3, r4, r5⟩
    cases it with
    | lit b =>
      obtain ⟨ha, _, hal⟩ := drop_cons (show l.drop a = b :: (pays its ++ rest) from hd)
      have hnb := nb_of hg hi.bytes ha
      have hb : 0 ≤ b ∧ b < 256 := hok.1
      obtain ⟨g1, g2⟩ := pt_good hg hi (by omega) hb hnf
      refine go (pt 0 (to : Int) ((s.length : Nat) : Int) b m) ?_ g1 (pt_inv hi hb) g2
      unfold fstep
      rw [if_pos (show x / ((2 ^ k : Nat) : Int) % 2 = 0 from hb0)]
      show (((a : Int) + 1) % 4294967296, pt 0 (to : Int) ((s.length : Nat) : Int) (nb 0 m (a : Int)) m) = _
      rw [hnb, show ((a : Int) + 1) % 4294967296 = ((a + (It.lit b).pay.length : Nat) : Int) by simp [It.pay]; omega]
    | pc n =>
      obtain ⟨ha, hd1, hal⟩ := drop_cons (show l.drop a = (((n : Int) - 3) * 16) :: (0 :: (pays its ++ rest)) from hd)
      obtain ⟨ha1, _, hal1⟩ := drop_cons hd1
      have hnb := nb_of hg hi.bytes ha
      have hnb1 := nb_of hg hi.bytes ha1
      obtain ⟨hn3, hn18, hpos⟩ : 3 ≤ n ∧ n ≤ 18 ∧ 0 < m.2.2.length := hok.1
      have hol : ((It.pc n).out m.2.2).length = m.2.2.length + n := by simp [It.out]
      obtain ⟨g1, g2, g3⟩ := cp_good (l := l) (to := to) (size := ((s.length : Nat) : Int)) (by omega) n hg hi hpos (by omega)
      refine go (cp 0 (to : Int) ((s.length : Nat) : Int) 1 n m) ?_ g1 g2 g3
      have hne : ¬ x / ((2 ^ k : Nat) : Int) % 2 = 0 := by rw [hb0]; exact (by decide : ¬ (1 : Int) = 0)
      unfold fstep
      rw [if_neg hne]
      have ea : ((a : Int) + 1) % 4294967296 = ((a + 1 : Nat) : Int) := by omega
      show (((((a : Int) + 1) % 4294967296) + 1) % 4294967296, cp 0 (to : Int) ((s.length : Nat) : Int) (nb 0 m (a : Int) % 16 * 256 + nb 0 m (((a : Int) + 1) % 4294967296) + 1) (nb 0 m (a : Int) / 16 + 3).toNat m) = _
      rw [ea, hnb, hnb1, show ((n : Int) - 3) * 16 % 16 * 256 + 0 + 1 = 1 by omega, show (((n : Int) - 3) * 16 / 16 + 3).toNat = n by omega, show (((a + 1 : Nat) : Int) + 1) % 4294967296 = ((a + (It.pc n).pay.length : Nat) : Int) by simp [It.pay]; omega]
/-- How far a stream is read: a state of the reading. -/
def J10 (l s : List Int) (to : Nat) (st : S4) : Prop := ∃ a : Nat, st.1 = (a : Int) ∧ Gd l to st.2 ∧ Inv ((s.length : Nat) : Int) st.2 ∧ B10 s (l.drop a) st.2.2.2
theorem J10_step {l s : List Int} {to : Nat} (hs : s.length ≤ 3000) (st : S4) (h : J10 l s to st) (hf : ¬ full ((s.length : Nat) : Int) st.2) : J10 l s to (agstep 0 (to : Int) ((s.length : Nat) : Int) st) := by
  obtain ⟨a, ha, hg, hi, hb⟩ := h
  obtain ⟨a0, m⟩ := st
  dsimp only at ha hg hi hb hf
  subst ha
  generalize hr : l.drop a = r at hb
  cases hb with
  | done => exact absurd (Int.le_refl _) hf
  | @step _ x its rest h8 hne hx hbit hok hfl hB =>
    obtain ⟨ha, hd, hal⟩ := drop_cons hr
    have hnb := nb_of hg hi.bytes ha
    have hbig := hg.big; have hfit := hg.fit; have hap := hg.apart
    have ea : ((a : Int) + 1) % 4294967296 = ((a + 1 : Nat) : Int) := by omega
    show J10 l s to (fgo 0 (to : Int) ((s.length : Nat) : Int) (nb 0 m (a : Int)) 8 (((a : Int) + 1) % 4294967296, m))
    rw [hnb, ea]
    obtain ⟨r1, r2, r3, r4, r5⟩ := fgo_items hs (x := x) its 8 (a + 1) m rest h8 (by decide) hg hi hok hB.pre hfl hbit hd
    exact ⟨_, r4, r1, r2, by rw [r5, r3]; exact hB⟩
end Go.Proofs.Ytnobglfjinehfaa
