/-
  Towards BiosBack: a stream that tells so many bytes is unpacked to just these.
-/
import Derived.Test.YtnobglfjinehfaaBioVal
namespace Go.Proofs.Ytnobglfjinehfaa
open Go.Vc
set_option linter.unusedVariables false
set_option linter.unusedSimpArgs false

inductive B30 (s : List Int) : List Int → List Int → Prop
  | done : B30 s [] s
  | run {o : List Int} {n : Nat} {b : Int} {rest : List Int} : 3 ≤ n → n ≤ 130 → (0 ≤ b ∧ b < 256) → B30 s rest (o ++ List.replicate n b) → B30 s (((125 + n : Nat) : Int) :: b :: rest) o
  | one {o : List Int} {b : Int} {rest : List Int} : (0 ≤ b ∧ b < 256) → B30 s rest (o ++ [b]) → B30 s (0 :: b :: rest) o
inductive B81 (s : List Int) : Int → List Int → List Int → Prop
  | done {v : Int} : B81 s v [] s
  | step {v d : Int} {o rest : List Int} : (0 ≤ d ∧ d < 256) → B81 s ((v + d) % 256) rest (o ++ [(v + d) % 256]) → B81 s v (d :: rest) o
theorem B30.pre {s r o : List Int} (h : B30 s r o) : o <+: s := by
  induction h with
  | done => exact List.prefix_refl _
  | run _ _ _ _ ih => exact (List.prefix_append _ _).trans ih
  | one _ _ ih => exact (List.prefix_append _ _).trans ih
theorem B81.pre {s r o : List Int} {v : Int} (h : B81 s v r o) : o <+: s := by
  induction h with
  | done => exact List.prefix_refl _
  | step _ _ ih => exact (List.prefix_append _ _).trans ih
/-- A stream is of bytes, and no longer than twice what it tells. -/
def Fine (s r o : List Int) : Prop := okB r ∧ r.length + 2 * o.length ≤ 2 * s.length
theorem okB_cons {x : Int} {r : List Int} (h : 0 ≤ x ∧ x < 256) (hr : okB r) : okB (x :: r) := fun y hy => by
  rcases List.mem_cons.1 hy with rfl | hy
  · exact h
  · exact hr y hy
theorem okB_app {l r : List Int} (h : okB l) (hr : okB r) : okB (l ++ r) := fun y hy => by
  rcases List.mem_append.1 hy with hy | hy
  · exact h y hy
  · exact hr y hy
theorem okB_nil : okB [] := fun x h => by cases h
theorem pays_fine : ∀ (its : List It) (o : List Int), oks o its → okB (pays its) ∧ (pays its).length + 2 * o.length + its.length ≤ 2 * (outs o its).length
  | [], o, _ => ⟨okB_nil, by simp [pays, outs]⟩
  | .lit b :: r, o, h => by
    obtain ⟨h1, h2⟩ := pays_fine r _ h.2
    refine ⟨okB_cons h.1 h1, ?_⟩
    have : ((It.lit b).out o).length = o.length + 1 := by simp [It.out]
    show (b :: pays r).length + _ + (r.length + 1) ≤ 2 * (outs ((It.lit b).out o) r).length
    rw [List.length_cons]; omega
  | .pc n :: r, o, h => by
    obtain ⟨h1, h2⟩ := pays_fine r _ h.2
    have hn : 3 ≤ n ∧ n ≤ 18 ∧ 0 < o.length := h.1
    refine ⟨okB_cons (by omega) (okB_cons (by decide) h1), ?_⟩
    have : ((It.pc n).out o).length = o.length + n := by simp [It.out]
    show ((((n : Int) - 3) * 16) :: 0 :: pays r).length + _ + (r.length + 1) ≤ 2 * (outs ((It.pc n).out o) r).length
    rw [List.length_cons, List.length_cons]; omega
theorem B10.fine {s r o : List Int} (h : B10 s r o) : Fine s r o := by
  induction h with
  | done => exact ⟨okB_nil, by simp⟩
  | @step o x its rest h8 hne hx hbit hok hfl hB ih =>
    obtain ⟨h1, h2⟩ := pays_fine its o hok
    have : 0 < its.length := List.length_pos_iff.2 hne
    refine ⟨okB_cons hx (okB_app h1 ih.1), ?_⟩
    have := ih.2
    rw [List.length_cons, List.length_append]; omega
theorem B30.fine {s r o : List Int} (h : B30 s r o) : Fine s r o := by
  induction h with
  | done => exact ⟨okB_nil, by simp⟩
  | run h3 hn hb _ ih =>
    refine ⟨okB_cons (by omega) (okB_cons hb ih.1), ?_⟩
    have := ih.2
    rw [List.length_append, List.length_replicate] at this
    rw [List.length_cons, List.length_cons]; omega
  | one hb _ ih =>
    refine ⟨okB_cons (by decide) (okB_cons hb ih.1), ?_⟩
    have := ih.2
    rw [List.length_append, List.length_singleton] at this
    rw [List.length_cons, List.length_cons]; omega
theorem B81.fine {s r o : List Int} {v : Int} (h : B81 s v r o) : Fine s r o := by
  induction h with
  | done => exact ⟨okB_nil, by simp⟩
  | step hb _ ih =>
    refine ⟨okB_cons hb ih.1, ?_⟩
    have := ih.2
    rw [List.length_append, List.length_singleton] at this
    rw [List.length_cons]; omega
def J30 (l s : List Int) (to : Nat) (st : S4) : Prop := ∃ a : Nat, st.1 = (a : Int) ∧ Gd l to st.2 ∧ Inv ((s.length : Nat) : Int) st.2 ∧ B30 s (l.drop a) st.2.2.2
def J81 (l s : List Int) (to : Nat) (v : Int) (st : S4) : Prop := ∃ a : Nat, st.1 = (a : Int) ∧ Gd l to st.2 ∧ Inv ((s.length : Nat) : Int) st.2 ∧ B81 s v (l.drop a) st.2.2.2
theorem J30_step {l s : List Int} {to : Nat} (hs : s.length ≤ 3000) (st : S4) (h : J30 l s to st) (hf : ¬ full ((s.length : Nat) : Int) st.2) : J30 l s to (rstep 0 (to : Int) ((s.length : Nat) : Int) st) := by
  obtain ⟨a, ha, hg, hi, hb⟩ := h
  obtain ⟨a0, m⟩ := st
  dsimp only at ha hg hi hb hf
  subst ha
  have hbig := hg.big; have hfit := hg.fit; have hap := hg.apart
  generalize hr : l.drop a = r at hb
  cases hb with
  | done => exact absurd (Int.le_refl _) hf
  | @run _ n b rest h3 hn hx hB =>
    obtain ⟨ha, hd, hal⟩ := drop_cons hr
    obtain ⟨ha1, hd1, hal1⟩ := drop_cons hd
    have hnb := nb_of hg hi.bytes ha
    have hnb1 := nb_of hg hi.bytes ha1
    have ea : ((a : Int) + 1) % 4294967296 = ((a + 1 : Nat) : Int) := by omega
    have ea1 : (((a + 1 : Nat) : Int) + 1) % 4294967296 = ((a + 1 + 1 : Nat) : Int) := by omega
    have hle := hB.pre.length_le
    rw [List.length_append, List.length_replicate] at hle
    obtain ⟨g1, g2, g3⟩ := rp_good (l := l) (to := to) (size := ((s.length : Nat) : Int)) (x := b) (by omega) hx n hg hi (by omega)
    have e : rstep 0 (to : Int) ((s.length : Nat) : Int) ((a : Int), m) = (((a + 1 + 1 : Nat) : Int), rp 0 (to : Int) ((s.length : Nat) : Int) b n m) := by
      unfold rstep
      show (if nb 0 m (a : Int) ≥ 128 then ((((a : Int) + 1) % 4294967296 + 1) % 4294967296, rp 0 (to : Int) ((s.length : Nat) : Int) (nb 0 m (((a : Int) + 1) % 4294967296)) (nb 0 m (a : Int) % 128 + 3).toNat m) else _) = _
      rw [hnb, if_pos (by omega), ea, ea1, hnb1, show (((125 + n : Nat) : Int) % 128 + 3).toNat = n by omega]
    rw [e]
    exact ⟨_, rfl, g1, g2, by rw [hd1, g3]; exact hB⟩
  | @one _ b rest hx hB =>
    obtain ⟨ha, hd, hal⟩ := drop_cons hr
    obtain ⟨ha1, hd1, hal1⟩ := drop_cons hd
    have hnb := nb_of hg hi.bytes ha
    have hnb1 := nb_of hg hi.bytes ha1
    have ea : ((a : Int) + 1) % 4294967296 = ((a + 1 : Nat) : Int) := by omega
    have ea1 : (((a + 1 : Nat) : Int) + 1) % 4294967296 = ((a + 1 + 1 : Nat) : Int) := by omega
    obtain ⟨g1, g2⟩ := pt_good (l := l) (to := to) hg hi (by omega) hx hf
    have e : rstep 0 (to : Int) ((s.length : Nat) : Int) ((a : Int), m) = (((a + 1 + 1 : Nat) : Int), pt 0 (to : Int) ((s.length : Nat) : Int) b m) := by
      unfold rstep
      show (if nb 0 m (a : Int) ≥ 128 then _ else lg 0 (to : Int) ((s.length : Nat) : Int) (nb 0 m (a : Int) + 1).toNat (((a : Int) + 1) % 4294967296, m)) = _
      rw [hnb, if_neg (by decide), ea]
      show lg 0 (to : Int) ((s.length : Nat) : Int) 1 (((a + 1 : Nat) : Int), m) = _
      show (if full ((s.length : Nat) : Int) m then _ else ((((a + 1 : Nat) : Int) + 1) % 4294967296, pt 0 (to : Int) ((s.length : Nat) : Int) (nb 0 m ((a + 1 : Nat) : Int)) m)) = _
      rw [if_neg hf, ea1, hnb1]
    rw [e]
    exact ⟨_, rfl, g1, pt_inv hi hx, by rw [hd1]; dsimp only; rw [g2]; exact hB⟩
theorem J81_step {l s : List Int} {to : Nat} (hs : s.length ≤ 3000) (v : Int) (st : S4) (hv : 0 ≤ v ∧ v < 256) (h : J81 l s to v st) (hf : ¬ full ((s.length : Nat) : Int) st.2) :
    J81 l s to ((v + nb 0 st.2 st.1) % 256) ((st.1 + 1) % 4294967296, pt 0 (to : Int) ((s.length : Nat) : Int) ((v + nb 0 st.2 st.1) % 256) st.2) := by
  obtain ⟨a, ha, hg, hi, hb⟩ := h
  obtain ⟨a0, m⟩ := st
  dsimp only at ha hg hi hb hf ⊢
  subst ha
  have hbig := hg.big; have hfit := hg.fit; have hap := hg.apart
  generalize hr : l.drop a = r at hb
  cases hb with
  | done => exact absurd (Int.le_refl _) hf
  | @step _ d _ rest hx hB =>
    obtain ⟨ha, hd, hal⟩ := drop_cons hr
    have hnb := nb_of hg hi.bytes ha
    have ea : ((a : Int) + 1) % 4294967296 = ((a + 1 : Nat) : Int) := by omega
    have hx' : 0 ≤ (v + d) % 256 ∧ (v + d) % 256 < 256 := by omega
    obtain ⟨g1, g2⟩ := pt_good (l := l) (to := to) hg hi (by omega) hx' hf
    rw [hnb, ea]
    exact ⟨_, rfl, g1, pt_inv hi hx', by rw [hd]; dsimp only; rw [g2]; exact hB⟩
theorem endm_good {l : List Int} {to : Nat} {size : Int} {m : M3} (hg : Gd l to m) (hi : Inv size m) (hs : size ≤ 3000) : okB (endm 0 (to : Int) m).1 ∧ (endm 0 (to : Int) m).1.length = m.1.length ∧ ∀ k, k < m.2.2.length → (endm 0 (to : Int) m).1[to + k]? = m.2.2[k]? := by
  have h1 := hg.fit
  have h2 := hg.big
  have h3 := hg.apart
  have hl := hi.len
  unfold endm
  by_cases hp : m.2.2.length % 2 = 1
  · rw [if_pos hp]
    have hpos : 0 < m.2.2.length := by omega
    have hlast := hi.done _ (ixL_mem (l := m.2.2) (i := (m.2.2.length : Int) - 1) (by omega) (by omega))
    have ha : ((to : Int) + ((m.2.2.length : Int) - 1)) % 4294967296 = ((to + (m.2.2.length - 1) : Nat) : Int) := by omega
    have hp1 : ixL m.2.2 ((m.2.2.length : Int) - 1) = m.2.2[m.2.2.length - 1] := by rw [show (m.2.2.length : Int) - 1 = ((m.2.2.length - 1 : Nat) : Int) by omega, ixL_nat (by omega)]
    rw [hp1] at hlast ⊢
    generalize hpp : m.2.2[m.2.2.length - 1] = p at hlast
    rw [ha]
    refine ⟨wr_ok hi.bytes, wr_len hi.bytes, fun k hk => ?_⟩
    dsimp only
    rw [wr2 (by omega) h2 (by omega), show p % 256 = p by omega, show p / 256 = 0 by omega]
    by_cases hk2 : k = m.2.2.length - 1
    · subst hk2
      rw [List.getElem?_set_ne (by omega), List.getElem?_set_self (by omega), List.getElem?_eq_getElem (by omega), hpp]
    · rw [List.getElem?_set_ne (by omega), List.getElem?_set_ne (by omega)]
      exact hg.out k (by omega)
  · rw [if_neg hp]
    exact ⟨hi.bytes, rfl, fun k hk => hg.out k (by omega)⟩
/-- What a stream tells, by its kind. -/
inductive Told (s : List Int) : Int → List Int → Prop
  | k10 {r : List Int} : B10 s r [] → Told s 16 r
  | k30 {r : List Int} : B30 s r [] → Told s 48 r
  | k81 {r : List Int} : B81 s 0 r [] → Told s 129 r
theorem Told.fine {s r : List Int} {k : Int} (h : Told s k r) : okB r ∧ r.length ≤ 2 * s.length := by
  have go : Fine s r [] → okB r ∧ r.length ≤ 2 * s.length := fun h => ⟨h.1, by have := h.2; simp at this; omega⟩
  cases h with
  | k10 h => exact go h.fine
  | k30 h => exact go h.fine
  | k81 h => exact go h.fine
def headed (k : Int) (s r : List Int) : List Int := [k, ((s.length : Nat) : Int) % 256, ((s.length : Nat) : Int) / 256, 0] ++ r
theorem rdB_nat {bs : List Int} {i : Nat} (hl : bs.length ≤ 100000) {x : Int} (h : bs[i]? = some x) : rdB 0 bs 0 (i : Int) = x := by
  obtain ⟨h1, h2⟩ := List.getElem?_eq_some_iff.1 h
  have e0 : at_ 0 0 (i : Int) = (i : Int) := by unfold at_; omega
  unfold rdB
  rw [e0, if_pos (by omega), ixL_nat h1, h2]
theorem rd_head {k : Int} {s r z : List Int} (hk : 0 ≤ k ∧ k < 256) (hs : s.length ≤ 3000) (hl : (headed k s r ++ z).length ≤ 100000) : rd 0 (headed k s r ++ z) 0 4 = k + 256 * ((s.length : Nat) : Int) := by
  have e0 : rdB 0 (headed k s r ++ z) 0 ((0 : Nat) : Int) = k := rdB_nat hl rfl
  have e1 : rdB 0 (headed k s r ++ z) 0 ((1 : Nat) : Int) = ((s.length : Nat) : Int) % 256 := rdB_nat hl rfl
  have e2 : rdB 0 (headed k s r ++ z) 0 ((2 : Nat) : Int) = ((s.length : Nat) : Int) / 256 := rdB_nat hl rfl
  have e3 : rdB 0 (headed k s r ++ z) 0 ((3 : Nat) : Int) = 0 := rdB_nat hl rfl
  show rdS 0 (headed k s r ++ z) 0 4 4 = _
  rw [rdS_succ, rdS_succ, rdS_succ, rdS_succ]
  rw [show (4 : Int) - 1 - ((3 : Nat) : Int) = ((0 : Nat) : Int) by decide, show (4 : Int) - 1 - ((2 : Nat) : Int) = ((1 : Nat) : Int) by decide, show (4 : Int) - 1 - ((1 : Nat) : Int) = ((2 : Nat) : Int) by decide, show (4 : Int) - 1 - ((0 : Nat) : Int) = ((3 : Nat) : Int) by decide, e0, e1, e2, e3]
  show IntKind.wrap .u32 (IntKind.wrap .u32 (IntKind.wrap .u32 (IntKind.wrap .u32 (IntKind.wrap .u32 (IntKind.wrap .u32 (IntKind.wrap .u32 (IntKind.wrap .u32 (0 * 256) + IntKind.wrap .u32 0) * 256) + IntKind.wrap .u32 (((s.length : Nat) : Int) / 256)) * 256) + IntKind.wrap .u32 (((s.length : Nat) : Int) % 256)) * 256) + IntKind.wrap .u32 k) = _
  simp only [wr_u32]
  omega
theorem Unpack_val {s r : List Int} {k : Int} {to : Nat} (h1 : 1 ≤ s.length) (hs : s.length ≤ 3000) (ht : Told s k r) (hto : (headed k s r).length ≤ to) (hto2 : to ≤ (headed k s r).length + 63) (hev : to % 2 = 0) :
    ∃ (bs : List Int) (ns : List E59), f_Unpack 0 (headed k s r ++ List.replicate 8000 0) [] 0 (to : Int) = some (((s.length : Nat) : Int), bs, ns) ∧ okB bs ∧ to + 3002 ≤ bs.length ∧ bs.length ≤ 100000 ∧ ∀ i, i < s.length → bs[to + i]? = s[i]? := by
  obtain ⟨hrb, hrl⟩ := ht.fine
  have hk : 0 ≤ k ∧ k < 256 := by cases ht <;> decide
  have hhl : (headed k s r).length = r.length + 4 := by simp [headed]
  have hll : (headed k s r ++ List.replicate 8000 (0 : Int)).length = r.length + 4 + 8000 := by rw [List.length_append, hhl, List.length_replicate]
  have hhb : okB (headed k s r) := okB_app (okB_cons hk (okB_cons (by omega) (okB_cons (by omega) (okB_cons (by decide) okB_nil)))) hrb
  have hok : okB (headed k s r ++ List.replicate 8000 (0 : Int)) := okB_app hhb (fun x hx => by rw [(List.mem_replicate.1 hx).2]; decide)
  have hw := rd_head (r := r) (z := List.replicate 8000 (0 : Int)) hk hs (by omega)
  have hdrop : (headed k s r).drop 4 = r := rfl
  have hi : Inv ((s.length : Nat) : Int) ((headed k s r ++ List.replicate 8000 (0 : Int), [], []) : M3) := ⟨by omega, by omega, hok, okB_nil, by simp, Nat.le_refl _⟩
  have hg : Gd (headed k s r) to ((headed k s r ++ List.replicate 8000 (0 : Int), [], []) : M3) := ⟨by dsimp only; omega, by dsimp only; omega, hto, fun i hi => by dsimp only; rw [List.getElem?_append_left hi], fun i hi => by simp at hi⟩
  have hnf : ¬ full ((s.length : Nat) : Int) ((headed k s r ++ List.replicate 8000 (0 : Int), [], []) : M3) := by
    intro h
    have h' : ((s.length : Nat) : Int) ≤ ((([] : List Int).length : Nat) : Int) := h
    simp only [List.length_nil] at h'; omega
  have fin : ∀ m' : M3, Gd (headed k s r) to m' → Inv ((s.length : Nat) : Int) m' → full ((s.length : Nat) : Int) m' → m'.2.2 <+: s → ∀ X : Option O_Unpack, X = ((f_end_ (to : Int) m'.2.2 ((s.length : Nat) : Int) 0 m'.1 m'.2.1).bind fun (o : O_end_) => (match o with | (a, b) => (some (((m'.2.2.length : Nat) : Int), a, b) : Option O_Unpack))) →
      ∃ (bs : List Int) (ns : List E59), X = some (((s.length : Nat) : Int), bs, ns) ∧ okB bs ∧ to + 3002 ≤ bs.length ∧ bs.length ≤ 100000 ∧ ∀ i, i < s.length → bs[to + i]? = s[i]? := by
    intro m' g i f p X hX
    have f' : ((s.length : Nat) : Int) ≤ (m'.2.2.length : Int) := f
    have hp : m'.2.2 = s := p.eq_of_length (by have := p.length_le; omega)
    obtain ⟨e1, e2, e3⟩ := endm_good g i (by omega)
    refine ⟨(endm 0 (to : Int) m').1, (endm 0 (to : Int) m').2, ?_, e1, by rw [e2]; exact g.fit, by rw [e2]; exact g.big, fun j hj => by rw [e3 j (by rw [hp]; exact hj), hp]⟩
    rw [hX, end_eq i, bind_some', hp]
  unfold f_Unpack f_head
  rw [andNot3 (by decide) (by decide), andNot1 (by omega) (by omega), show (0 : Int) - 0 % 4 = 0 by decide, show (to : Int) - (to : Int) % 2 = (to : Int) by omega, MRead_eq (by decide) (by decide), bind_some', Let_eq, Let_eq, hw]
  have k1 : IntKind.wrap .i64 (bits .and .u32 (k + 256 * ((s.length : Nat) : Int)) 255) = k := by
    rw [and32 8 (by decide) (by decide) (by omega) (by omega)]
    simp only [show ((2 ^ 8 : Nat) : Int) = 256 by decide]
    rw [wrap_i64 (by omega) (by omega)]; omega
  have k2 : bits .and .i64 (IntKind.wrap .i64 (Int.fdiv (k + 256 * ((s.length : Nat) : Int)) 256)) 65535 = ((s.length : Nat) : Int) := by
    rw [fdiv_pos (by decide), wrap_i64 (x := (k + 256 * ((s.length : Nat) : Int)) / 256) (by omega) (by omega), and64 16 (by decide) (by decide)]
    simp only [show ((2 ^ 16 : Nat) : Int) = 65536 by decide]; omega
  rw [k1, k2, bind_some']
  show ∃ bs ns, cond (((s.length : Nat) : Int) == 0) _ _ = _ ∧ _
  rw [cne (by omega), show IntKind.wrap .u32 ((0 : Int) + 4) = ((4 : Nat) : Int) by decide]
  cases ht with
  | k10 hb =>
    rw [ceq rfl]
    obtain ⟨a1, n1, m', e1, ⟨a', _, g', i', b'⟩, e3⟩ := again_val (B := 0) (to := (to : Int)) (size := ((s.length : Nat) : Int)) (a := ((4 : Nat) : Int)) (n := 0) (J10 (headed 16 s r) s to) (fun _ h => h.choose_spec.2.2.1) (fun st h hf => J10_step hs st h hf) (⟨4, rfl, hg, hi, by rw [hdrop]; exact hb⟩) hnf
    refine fin m' g' i' e3 b'.pre _ ?_
    show ((f_again ((4 : Nat) : Int) 0 0 (headed 16 s r ++ List.replicate 8000 0) [] (to : Int) [] ((s.length : Nat) : Int)).bind _) = _
    rw [show f_again ((4 : Nat) : Int) 0 0 (headed 16 s r ++ List.replicate 8000 0) [] (to : Int) [] ((s.length : Nat) : Int) = _ from e1, bind_some']
  | k30 hb =>
    rw [cne (by decide), ceq rfl]
    obtain ⟨a1, n1, m', e1, ⟨a', _, g', i', b'⟩, e3⟩ := runs_val (B := 0) (to := (to : Int)) (size := ((s.length : Nat) : Int)) (a := ((4 : Nat) : Int)) (n := 0) (J30 (headed 48 s r) s to) (fun _ h => h.choose_spec.2.2.1) (fun st h hf => J30_step hs st h hf) (⟨4, rfl, hg, hi, by rw [hdrop]; exact hb⟩) hnf
    refine fin m' g' i' e3 b'.pre _ ?_
    show ((f_runs ((4 : Nat) : Int) 0 0 (headed 48 s r ++ List.replicate 8000 0) [] (to : Int) [] ((s.length : Nat) : Int)).bind _) = _
    rw [show f_runs ((4 : Nat) : Int) 0 0 (headed 48 s r ++ List.replicate 8000 0) [] (to : Int) [] ((s.length : Nat) : Int) = _ from e1, bind_some']
  | k81 hb =>
    rw [cne (by decide), cne (by decide), cne (by decide), cne (by decide), ceq rfl]
    have wrap2 : ∀ X : Option O_Unpack, (∃ (v2 a2 : Int) (m' : M3), X = some (((m'.2.2.length : Nat) : Int), (endm 0 (to : Int) m').1, (endm 0 (to : Int) m').2) ∧ J81 (headed 129 s r) s to v2 (a2, m') ∧ full ((s.length : Nat) : Int) m') → ∃ (bs : List Int) (ns : List E59), X = some (((s.length : Nat) : Int), bs, ns) ∧ okB bs ∧ to + 3002 ≤ bs.length ∧ bs.length ≤ 100000 ∧ ∀ i, i < s.length → bs[to + i]? = s[i]? := by
      rintro X ⟨v2, a2, m', e1, ⟨a', _, g', i', b'⟩, e3⟩
      refine fin m' g' i' e3 b'.pre X ?_
      rw [e1, end_eq i', bind_some']
    refine wrap2 _ (diff_val (B := 0) (to := (to : Int)) (size := ((s.length : Nat) : Int)) (fun m' => (((m'.2.2.length : Nat) : Int), (endm 0 (to : Int) m').1, (endm 0 (to : Int) m').2)) (J81 (headed 129 s r) s to) (fun _ _ h => h.choose_spec.2.2.1) (fun v st hv h hf => J81_step hs v st hv h hf) ?_ ?_ (s.length) 0 ((4 : Nat) : Int) 0 (headed 129 s r ++ List.replicate 8000 0, [], []) (by simp) (by decide) ⟨4, rfl, hg, hi, by rw [hdrop]; exact hb⟩ hnf)
    · intro v a n m hi
      show ((f_end_ (to : Int) m.2.2 ((s.length : Nat) : Int) 0 m.1 m.2.1).bind _) = _
      rw [end_eq hi, bind_some']
    · intro v a n m hv hi hf
      have hb := nb_bd (B := 0) hi a
      show ((f_next a n 0 m.1 m.2.1).bind _) = _
      rw [next_m hi, bind_some']
      show ((f_put (to : Int) m.2.2 ((s.length : Nat) : Int) 0 m.1 m.2.1 (IntKind.wrap .u8 (v + nb 0 m a))).bind _) = _
      rw [wr_u8 (v + nb 0 m a), put_eq hi (by omega), bind_some']
end Go.Proofs.Ytnobglfjinehfaa
