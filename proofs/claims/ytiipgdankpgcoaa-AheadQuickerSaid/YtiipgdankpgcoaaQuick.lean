/-
  Code that follows takes no more cycles with a buffer than without one.
-/
import Derived.Test.YtiipgdankpgcoaaBuf
import Derived.Test.YtiipgdankpgcoaaRead
import Derived.Laws.BitsAllLaws
namespace Go.Proofs.Ytiipgdankpgcoaa
open Go.Vc
set_option linter.unusedVariables false

theorem nat_even (n : Nat) (h : n < 4294967296) (he : n % 2 = 0) : n &&& 4294967294 = n := by
  obtain ⟨m, rfl⟩ : ∃ m, n = 2 * m := ⟨n / 2, by omega⟩
  have e : (2 * m) &&& (2 * 2147483647) = 2 * (m &&& 2147483647) := by
    have := Nat.shiftLeft_and_distrib (a := m) (b := 2147483647) (i := 1)
    simp only [Nat.shiftLeft_eq, Nat.pow_one] at this
    rw [Nat.mul_comm 2 m, Nat.mul_comm 2 2147483647, ← this, Nat.mul_comm]
  rw [show (4294967294 : Nat) = 2 * 2147483647 from rfl, e, show (2147483647 : Nat) = 2 ^ 31 - 1 from rfl, Nat.and_two_pow_sub_one_eq_mod]
  omega

theorem even_u32 {a : Int} (h0 : 0 ≤ a) (h1 : a < 4294967296) (h2 : a % 2 = 0) : bits .andNot .u32 a 1 = a := by
  rw [u32_andNot a 1 h0 h1 (by decide) (by decide)]
  have e : (4294967295 - (1 : Int).toNat : Nat) = 4294967294 := rfl
  rw [e, nat_even a.toNat (by omega) (by omega)]
  omega

/-- What holds of the buffer between the calls. -/
structure Good (st : Buf) (s : Int) : Prop where
  n0 : 0 ≤ st.n
  n8 : st.n ≤ 8
  s0 : 0 ≤ st.spent
  s1 : st.spent < s

theorem rest_good {st : Buf} {s : Int} (h : Good st s) (h0 : 0 < s) (h8 : s ≤ 8) (c : Int) (hc : -9223372036854775808 ≤ c ∧ c ≤ 9223372036854775807) : Good (restF st c s) s ∧ (restF st c s).head = st.head := by
  obtain ⟨a, b, d, e⟩ := h
  unfold restF
  split
  · exact ⟨⟨a, b, d, e⟩, rfl⟩
  split
  · omega
  split
  · exact ⟨⟨a, b, d, e⟩, rfl⟩
  rename_i k1 k2 k3
  have e1 : IntKind.wrap .i64 (8 - st.n) = 8 - st.n := wrap_i64 (by omega) (by omega)
  have q1 : Int.tdiv c s = c / s := Int.tdiv_eq_ediv_of_nonneg (by omega)
  have q2 : Int.tdiv st.spent s = 0 := by rw [Int.tdiv_eq_ediv_of_nonneg d]; exact Int.ediv_eq_zero_of_lt d e
  have q3 : Int.tmod st.spent s = st.spent := by rw [Int.tmod_eq_emod_of_nonneg d]; exact Int.emod_eq_of_lt d e
  have q4 : Int.tmod c s = c % s := Int.tmod_eq_emod_of_nonneg (by omega)
  have m0 : 0 ≤ c % s := Int.emod_nonneg _ (by omega)
  have m1 : c % s < s := Int.emod_lt_of_pos _ h0
  have d0 : 0 ≤ c / s := Int.ediv_nonneg (by omega) (by omega)
  have d1 : c / s ≤ c := Int.ediv_le_self _ (by omega)
  have e2 : IntKind.wrap .i64 (c / s) = c / s := wrap_i64 (by omega) (by omega)
  have e3 : IntKind.wrap .i64 (0 : Int) = 0 := rfl
  have e4 : IntKind.wrap .i64 (s - st.spent) = s - st.spent := wrap_i64 (by omega) (by omega)
  simp only [e1, q1, q2, q3, q4, e2, e3, e4]
  generalize c / s = x at *
  generalize c % s = y at *
  have f1 : (if 8 - st.n < (0 : Int) then 8 - st.n else 0) = 0 := if_neg (by omega)
  rw [f1]
  have f2 : ∃ k, (if 8 - st.n < x then 8 - st.n else x) = k ∧ 0 ≤ k ∧ k ≤ 8 - st.n := by
    by_cases hx : 8 - st.n < x
    · exact ⟨_, if_pos hx, by omega, by omega⟩
    · exact ⟨_, if_neg hx, by omega, by omega⟩
  obtain ⟨k, hk, g0, g1⟩ := f2
  rw [hk]
  have e5 : IntKind.wrap .i64 (k + 0) = k := by rw [Int.add_zero]; exact wrap_i64 (by omega) (by omega)
  have e6 : IntKind.wrap .i64 (k + 1) = k + 1 := wrap_i64 (by omega) (by omega)
  simp only [e5, e6]
  split
  · split
    · exact ⟨⟨by simp, by simp, by simp, h0⟩, rfl⟩
    · have e7 : IntKind.wrap .i64 (st.n + (k + 1)) = st.n + (k + 1) := wrap_i64 (by omega) (by omega)
      have e8 : IntKind.wrap .i64 (y - (s - st.spent)) = y - (s - st.spent) := wrap_i64 (by omega) (by omega)
      simp only [e7, e8]
      exact ⟨⟨by simp only; omega, by simp only; omega, by simp only; omega, by simp only; omega⟩, trivial⟩
  · split
    · exact ⟨⟨by simp, by simp, by simp, h0⟩, rfl⟩
    · have e7 : IntKind.wrap .i64 (st.n + k) = st.n + k := wrap_i64 (by omega) (by omega)
      have e8 : IntKind.wrap .i64 (y + st.spent) = y + st.spent := wrap_i64 (by omega) (by omega)
      simp only [e7, e8]
      exact ⟨⟨by simp only; omega, by simp only; omega, by simp only; omega, by simp only; omega⟩, trivial⟩

theorem next_head {a k : Int} (he : a % 2 = 0) (hk : 1 ≤ k ∧ k ≤ 2) : 0 ≤ nextHead a k ∧ nextHead a k < 4294967296 ∧ nextHead a k % 2 = 0 := by
  unfold nextHead
  rw [wrap_i64 (x := 2 * k) (by omega) (by omega), IntKind.wrap_u32', IntKind.wrap_u32']
  omega

theorem fetch_good {st : Buf} {s more k : Int} (h : Good st s) (h0 : 0 < s) (h8 : s ≤ 8) (hm : 0 ≤ more ∧ more ≤ 7) (hk : 1 ≤ k ∧ k ≤ 2) (ha : 0 ≤ st.head ∧ st.head < 4294967296) (he : st.head % 2 = 0) :
    Good (fetchF st st.head k (s + more) s).2 s ∧ (fetchF st st.head k (s + more) s).2.head = nextHead st.head k ∧ 1 ≤ (fetchF st st.head k (s + more) s).1 ∧ (fetchF st st.head k (s + more) s).1 ≤ k * s := by
  obtain ⟨a, b, d, e⟩ := h
  unfold fetchF
  rw [if_neg (by omega), if_neg (by omega), if_neg (by omega), if_neg (by omega), even_u32 ha.1 ha.2 he, if_neg (by simp)]
  have p1 : 1 ≤ k * s := by rcases (show k = 1 ∨ k = 2 by omega) with rfl | rfl <;> omega
  split
  · have e7 : IntKind.wrap .i64 (st.n - k) = st.n - k := wrap_i64 (by omega) (by omega)
    simp only [e7]
    exact ⟨⟨by simp only; omega, by simp only; omega, d, e⟩, trivial, by omega, p1⟩
  · have e1 : IntKind.wrap .i64 (k - st.n) = k - st.n := wrap_i64 (by omega) (by omega)
    have bd : 0 ≤ (k - st.n) * s ∧ (k - st.n) * s ≤ k * s ∧ k * s ≤ 16 := by
      rcases (show k = 1 ∨ k = 2 by omega) with rfl | rfl
      · have : st.n = 0 := by omega
        rw [this]; omega
      · rcases (show st.n = 0 ∨ st.n = 1 by omega) with h | h <;> rw [h] <;> omega
    rw [e1]
    have e2 : IntKind.wrap .i64 ((k - st.n) * s) = (k - st.n) * s := wrap_i64 (by omega) (by omega)
    rw [e2]
    have e3 : IntKind.wrap .i64 ((k - st.n) * s - st.spent) = (k - st.n) * s - st.spent := wrap_i64 (by omega) (by omega)
    rw [e3]
    refine ⟨⟨by simp, by simp, by simp, h0⟩, rfl, ?_, ?_⟩
    · split <;> simp only <;> omega
    · split <;> simp only <;> omega

theorem cells3 : Try.prog.cellsOf 3 = 1 := by kernel_rfl

theorem tmod_in {x m : Int} (hm : 0 < m) : -m < Int.tmod x m ∧ Int.tmod x m < m := by
  rcases Int.le_total 0 x with h | h
  · rw [Int.tmod_eq_emod_of_nonneg h]
    have := Int.emod_nonneg x (show m ≠ 0 by omega)
    have := Int.emod_lt_of_pos x hm
    omega
  · have e : Int.tmod x m = - Int.tmod (-x) m := by rw [Int.neg_tmod]; omega
    rw [e, Int.tmod_eq_emod_of_nonneg (by omega)]
    have := Int.emod_nonneg (-x) (show m ≠ 0 by omega)
    have := Int.emod_lt_of_pos (-x) hm
    omega

theorem mod_pos {x m : Int} (hm : 0 < m) (h9 : m ≤ 9) : 0 ≤ Int.tmod (IntKind.wrap .i64 (Int.tmod x m + m)) m ∧ Int.tmod (IntKind.wrap .i64 (Int.tmod x m + m)) m < m := by
  have := tmod_in (x := x) hm
  rw [wrap_i64 (by omega) (by omega), Int.tmod_eq_emod_of_nonneg (by omega)]
  exact ⟨Int.emod_nonneg _ (by omega), Int.emod_lt_of_pos _ hm⟩

theorem law_AheadQuicker (w : World) (a0 : Option Addr) (n0 c0 : Nat) (w0 : Rds Try.prog w 3 a0 n0 c0) (a1 : Int) (w1 : (Lit.int .i64 a1).wf = true) (a2 : Int) (w2 : (Lit.int .i64 a2).wf = true) :
    Calls Try.prog n_AheadQuicker #[.slice a0 n0 c0, .int .i64 a1, .int .i64 a2] w fun e w' => e = .returned (.bool true) ∧ Chg (fun _ => False) w w' := by
  apply c_AheadQuicker
  unfold p_AheadQuicker
  refine (awake_ok w).mono fun e wa ⟨he, ca⟩ => ⟨_, he, cnd (fun h => by cases h) (fun _ => cnd_dec (fun _ => ⟨rfl, ca⟩) (fun k200 => Lt_intro fun s hs => Lt_intro fun more hmore => ?_))⟩
  have hm8 := mod_pos (x := a1) (m := 8) (by decide) (by decide)
  have hm9 := mod_pos (x := a2) (m := 8) (by decide) (by decide)
  rw [wrap_i64 (by omega) (by omega)] at hs
  have b1 : 1 ≤ s ∧ s ≤ 8 := by omega
  have b2 : 0 ≤ more ∧ more ≤ 7 := by omega
  clear hs hmore hm8 hm9
  refine (new_ok wa).mono fun e wb ⟨he, ⟨t, hb⟩, cb, sb⟩ => ⟨_, he, ?_⟩
  have sa := ca.size
  generalize wa.heap.size = b at *
  have e1 : IntKind.wrap .i64 (s + more) = s + more := wrap_i64 (by omega) (by omega)
  rw [e1]
  refine (fetch_ok hb _ _ _ _).mono fun e wc ⟨he, hc, cc⟩ => ⟨_, he, Lt_intro fun at0 hat => ?_⟩
  have f0 : (fetchF ⟨0, 0, 0⟩ 134217728 1 (s + more) s).2 = ⟨134217730, 0, 0⟩ := by
    unfold fetchF
    rw [if_neg (by omega), if_neg (by omega), if_neg (by omega), if_neg (by omega), if_pos (by decide)]
    rfl
  rw [f0] at hc
  have f1 : at0 = 134217730 := hat
  clear hat f0 e1
  subst f1
  have chg0 : Chg (fun _ => False) w wc := (ca.then cb fun _ _ h => h).then cc fun k hk e => by omega
  refine ⟨fun n vs w' => ∃ (st : Buf) (k : Nat), vs = [.int .u32 st.head, .int .i64 k] ∧ n = n0 - k ∧ k ≤ n0 ∧ Good st s ∧ (0 ≤ st.head ∧ st.head < 4294967296) ∧ st.head % 2 = 0 ∧ Blk w' b st.enc t ∧ Chg (fun _ => False) w w',
    ⟨n0, ⟨134217730, 0, 0⟩, 0, rfl, rfl, Nat.zero_le _, ⟨by simp, by simp, by simp, by simp only; omega⟩, by decide, by decide, hc, chg0⟩, ?_⟩
  rintro n _ _ wr ⟨st, k, hvs, rfl, hk, hg, hh, hev, hbr, cr⟩
  simp only [List.cons.injEq, Value.int.injEq, true_and, and_true] at hvs
  obtain ⟨rfl, rfl⟩ := hvs
  refine cnd_dec (fun hlt => ?_) (fun _ => ⟨rfl, cr⟩)
  rcases Rds.int Try.underlying3 cells3 w0 with ⟨_, h0, _⟩ | ⟨a, rfl, hl, hmx, hel⟩
  · omega
  obtain ⟨x, hx, hwf⟩ := hel k (by omega)
  have bx := wf_i64 hwf
  refine chk_in (by omega) (by omega) ⟨x, cr.cell (by simpa using hx) (fun h => h), ?_⟩
  refine (rest_ok hbr x s).mono fun e ws ⟨he, hbs, cs⟩ => ⟨he, Lt_intro fun kk hkk => ?_⟩
  obtain ⟨hg2, hh2⟩ := rest_good hg (by omega) b1.2 x bx
  have hm2 := mod_pos (x := x) (m := 2) (by decide) (by decide)
  rw [wrap_i64 (by omega) (by omega)] at hkk
  have bk : 1 ≤ kk ∧ kk ≤ 2 := by omega
  clear hkk hm2
  rw [← hh2] at hh hev
  have hf := fetch_good (more := more) (k := kk) hg2 (by omega) b1.2 b2 bk hh hev
  have hn := next_head (a := (restF st x s).head) (k := kk) hev bk
  rw [← hh2]
  refine (fetch_ok hbs _ _ _ _).mono fun e wt ⟨he, hbt, ct⟩ => ⟨_, he, ?_⟩
  generalize fetchF (restF st x s) (restF st x s).head kk (s + more) s = r at *
  obtain ⟨g1, g2, g3, g4⟩ := hf
  have e4 : IntKind.wrap .i64 (kk * s) = kk * s := by
    rcases (show kk = 1 ∨ kk = 2 by omega) with rfl | rfl <;> exact wrap_i64 (by omega) (by omega)
  refine cnd_dec (fun h => by omega) (fun _ => cnd_dec (fun h => by omega) (fun _ => Lt_intro fun at2 hat2 => ?_))
  have e5 : at2 = nextHead (restF st x s).head kk := hat2
  have e6 : IntKind.wrap .i64 ((k : Int) + 1) = ((k + 1 : Nat) : Int) := by rw [wrap_i64 (by omega) (by omega)]; omega
  refine ⟨n0 - (k + 1), by omega, r.2, k + 1, ?_, rfl, by omega, g1, by rw [g2]; exact ⟨hn.1, hn.2.1⟩, by rw [g2]; exact hn.2.2, hbt, ?_⟩
  · rw [e6, e5, g2]
  · exact (cr.then cs fun k hk e => by omega).then ct fun k hk e => by omega

end Go.Proofs.Ytiipgdankpgcoaa
