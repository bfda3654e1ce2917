/-
  The four channels as plain values: a wave that goes on cycle by cycle, and at once.
-/
import Derived.Test.YtccmpceifheejaaPure
namespace Go.Proofs.Ytccmpceifheejaa
open Go.Vc
set_option linter.unusedVariables false
@[ext] structure Ch where
  on : Bool
  duty : Int
  length : Int
  ul : Bool
  start : Int
  step : Int
  up : Bool
  volume : Int
  left : Int
  freq : Int
  wait : Int
  at' : Int
  sweepBy : Int
  sweepIn : Int
  sweepDown : Bool
  sweepLeft : Int
@[ext] structure PS where
  c0 : Ch
  c1 : Ch
  c2 : Ch
  c3 : Ch
  two : Bool
  page : Int
  level : Int
  dac : Bool
  lfsr : Int
  narrow : Bool
  shift : Int
  div : Int
  now : Int
  beats : Int
def tickc (y m : Int) (c : Ch) : Ch :=
  if c.on = true then (if c.wait = 1 then { c with wait := y, at' := (c.at' + 1) % m } else { c with wait := c.wait - 1 }) else c
def runc (y m : Int) (n : Int) (c : Ch) : Ch :=
  if c.on = true then (if n < c.wait then { c with wait := c.wait - n } else { c with wait := y - (n - c.wait) % y, at' := (c.at' + (1 + (n - c.wait) / y)) % m }) else c
theorem div_succ {d y : Int} (hd : 0 ≤ d) (hy : 0 < y) : ((d + 1) % y = 0 ∧ d % y = y - 1 ∧ (d + 1) / y = d / y + 1) ∨ ((d + 1) % y = d % y + 1 ∧ d % y < y - 1 ∧ (d + 1) / y = d / y) := by
  have h1 := Int.emod_add_mul_ediv d y
  have h2 := Int.emod_nonneg d (Int.ne_of_gt hy)
  have h3 := Int.emod_lt_of_pos d hy
  rcases Int.lt_or_le (d % y) (y - 1) with h | h
  · right
    have e : d + 1 = (d % y + 1) + y * (d / y) := by omega
    refine ⟨?_, h, ?_⟩
    · rw [e, Int.add_mul_emod_self_left]; exact Int.emod_eq_of_lt (by omega) (by omega)
    · rw [e, Int.add_mul_ediv_left _ _ (Int.ne_of_gt hy), Int.ediv_eq_zero_of_lt (by omega) (by omega)]; omega
  · left
    have e' : d % y = y - 1 := by omega
    have e : d + 1 = 0 + y * (d / y + 1) := by rw [Int.mul_add]; omega
    refine ⟨?_, e', ?_⟩
    · rw [e, Int.add_mul_emod_self_left]; rfl
    · rw [e, Int.add_mul_ediv_left _ _ (Int.ne_of_gt hy)]; simp
theorem runc_zero {y m : Int} {c : Ch} (hw : c.on = true → 0 < c.wait) : runc y m 0 c = c := by
  unfold runc
  split
  · rename_i h
    rw [if_pos (hw h)]; simp
  · rfl
theorem runc_succ {y m : Int} {c : Ch} (n : Int) (hn : 0 ≤ n) (hy : 0 < y) (hm : 0 < m) (hw : c.on = true → 0 < c.wait) : runc y m (n + 1) c = tickc y m (runc y m n c) := by
  unfold runc
  by_cases h : c.on = true
  · have hw := hw h
    rw [if_pos h, if_pos h]
    by_cases h1 : n + 1 < c.wait
    · rw [if_pos h1, if_pos (by omega)]
      unfold tickc
      rw [if_pos (by simpa using h), if_neg (by show ¬ (c.wait - n = 1); omega)]
      show ({ c with wait := c.wait - (n + 1) } : Ch) = { c with wait := c.wait - n - 1 }
      congr 1; omega
    · rw [if_neg h1]
      by_cases h2 : n < c.wait
      · rw [if_pos h2]
        unfold tickc
        rw [if_pos (by simpa using h), if_pos (by show c.wait - n = 1; omega)]
        have e : n + 1 - c.wait = 0 := by omega
        rw [e]
        simp
      · rw [if_neg h2]
        unfold tickc
        have e : n + 1 - c.wait = (n - c.wait) + 1 := by omega
        rw [if_pos (by simpa using h), e]
        rcases div_succ (d := n - c.wait) (by omega) hy with ⟨q1, q2, q3⟩ | ⟨q1, q2, q3⟩
        · rw [if_pos (by show y - (n - c.wait) % y = 1; omega), q1, q3]
          show ({ c with wait := y - 0, at' := _ } : Ch) = { c with wait := y, at' := ((c.at' + (1 + (n - c.wait) / y)) % m + 1) % m }
          rw [Int.emod_add_emod, Int.sub_zero]
          congr 1
          congr 1; omega
        · rw [if_neg (by show ¬ (y - (n - c.wait) % y = 1); omega), q1, q3]
          show ({ c with wait := y - ((n - c.wait) % y + 1), at' := _ } : Ch) = { c with wait := y - (n - c.wait) % y - 1, at' := _ }
          congr 1; omega
  · rw [if_neg h, if_neg h]
    unfold tickc
    rw [if_neg h]
theorem runc_wait {y m n : Int} {c : Ch} (hy : 0 < y) : (runc y m n c).on = true → 0 < (runc y m n c).wait := by
  unfold runc
  by_cases h : c.on = true
  · rw [if_pos h]
    split
    · intro _; show 0 < c.wait - n; omega
    · intro _; show 0 < y - _
      have := Int.emod_lt_of_pos (n - c.wait) hy
      omega
  · rw [if_neg h]; intro k; exact absurd k h
theorem runc_on {y m n : Int} {c : Ch} : (runc y m n c).on = c.on := by
  unfold runc
  split
  · split <;> rfl
  · rfl
def fb (l : Int) : Int := (l + l / 2) % 2
def clk (nr : Bool) (l : Int) : Int :=
  let a := l / 2 + fb l * 16384
  if nr = true then a - a / 64 % 2 * 64 + fb l * 64 else a
def clks (nr : Bool) : Nat → Int → Int
  | 0, l => l
  | n + 1, l => clk nr (clks nr n l)
theorem clk_range {nr : Bool} {l : Int} (h0 : 0 ≤ l) (h1 : l < 32768) : 0 ≤ clk nr l ∧ clk nr l < 32768 := by
  have q : 0 ≤ l / 2 ∧ l / 2 < 16384 := by omega
  have f : fb l = 0 ∨ fb l = 1 := by unfold fb; omega
  unfold clk
  generalize l / 2 = z at q
  rcases f with f | f <;> rw [f] <;> simp only <;> split <;> omega
theorem clks_range {nr : Bool} {l : Int} (h0 : 0 ≤ l) (h1 : l < 32768) : ∀ n, 0 ≤ clks nr n l ∧ clks nr n l < 32768
  | 0 => ⟨h0, h1⟩
  | n + 1 => clk_range (clks_range h0 h1 n).1 (clks_range h0 h1 n).2
def nwait (y n : Int) (c : Ch) : Int := if c.on = true then (if n < c.wait then c.wait - n else y - (n - c.wait) % y) else c.wait
def nsteps (y n : Int) (c : Ch) : Nat := if c.on = true then (if n < c.wait then 0 else (1 + (n - c.wait) / y).toNat) else 0
theorem n_zero {y : Int} {c : Ch} (hw : c.on = true → 0 < c.wait) : nwait y 0 c = c.wait ∧ nsteps y 0 c = 0 := by
  unfold nwait nsteps
  split
  · rename_i h
    rw [if_pos (hw h), if_pos (hw h)]; simp
  · exact ⟨rfl, rfl⟩
theorem n_succ {y : Int} {c : Ch} (n : Int) (hn : 0 ≤ n) (hy : 0 < y) (hon : c.on = true) (hw : 0 < c.wait) :
    (nwait y n c = 1 ∧ nwait y (n + 1) c = y ∧ nsteps y (n + 1) c = nsteps y n c + 1) ∨ (nwait y n c ≠ 1 ∧ nwait y (n + 1) c = nwait y n c - 1 ∧ nsteps y (n + 1) c = nsteps y n c) := by
  unfold nwait nsteps
  simp only [if_pos hon]
  by_cases h1 : n + 1 < c.wait
  · right
    rw [if_pos h1, if_pos (by omega), if_pos h1, if_pos (by omega)]
    exact ⟨by omega, by omega, rfl⟩
  · rw [if_neg h1, if_neg h1]
    by_cases h2 : n < c.wait
    · left
      rw [if_pos h2, if_pos h2]
      have e : n + 1 - c.wait = 0 := by omega
      rw [e]
      exact ⟨by omega, by simp, by simp⟩
    · rw [if_neg h2, if_neg h2]
      have e : n + 1 - c.wait = (n - c.wait) + 1 := by omega
      rw [e]
      have hq : 0 ≤ (n - c.wait) / y := Int.ediv_nonneg (by omega) (by omega)
      rcases div_succ (d := n - c.wait) (by omega) hy with ⟨q1, q2, q3⟩ | ⟨q1, q2, q3⟩
      · left
        rw [q1, q3]
        exact ⟨by omega, by omega, by omega⟩
      · right
        rw [q1, q3]
        exact ⟨by omega, by omega, rfl⟩
theorem nwait_pos {y n : Int} {c : Ch} (hy : 0 < y) (hon : c.on = true) : 0 < nwait y n c := by
  unfold nwait
  rw [if_pos hon]
  split
  · omega
  · have := Int.emod_lt_of_pos (n - c.wait) hy
    omega
def cyc0 (c : Ch) : Int := 16 * (2048 - c.freq)
def cyc2 (c : Ch) : Int := 8 * (2048 - c.freq)
def cyc3 (sh dv : Int) : Int := (if dv = 0 then 32 else 64 * dv) * 2 ^ sh.toNat
def play (S : PS) (n : Int) : PS :=
  { S with c0 := runc (cyc0 S.c0) 8 n S.c0, c1 := runc (cyc0 S.c1) 8 n S.c1, c2 := runc (cyc2 S.c2) 64 n S.c2, c3 := { S.c3 with wait := nwait (cyc3 S.shift S.div) n S.c3 },
           lfsr := clks S.narrow (nsteps (cyc3 S.shift S.div) n S.c3) S.lfsr }
def tick (S : PS) : PS :=
  { S with c0 := tickc (cyc0 S.c0) 8 S.c0, c1 := tickc (cyc0 S.c1) 8 S.c1, c2 := tickc (cyc2 S.c2) 64 S.c2,
           c3 := if S.c3.on = true then { S.c3 with wait := if S.c3.wait = 1 then cyc3 S.shift S.div else S.c3.wait - 1 } else S.c3,
           lfsr := if S.c3.on = true then (if S.c3.wait = 1 then clk S.narrow S.lfsr else S.lfsr) else S.lfsr }
structure WOk (S : PS) : Prop where
  w0 : S.c0.on = true → 0 < S.c0.wait
  w1 : S.c1.on = true → 0 < S.c1.wait
  w2 : S.c2.on = true → 0 < S.c2.wait
  w3 : S.c3.on = true → 0 < S.c3.wait
  f0 : 0 ≤ S.c0.freq ∧ S.c0.freq < 2048
  f1 : 0 ≤ S.c1.freq ∧ S.c1.freq < 2048
  f2 : 0 ≤ S.c2.freq ∧ S.c2.freq < 2048
  dv : 0 ≤ S.div ∧ S.div < 8
  sh : 0 ≤ S.shift ∧ S.shift < 16
theorem cyc3_pos {sh dv : Int} (hd : 0 ≤ dv) : 0 < cyc3 sh dv := by
  unfold cyc3
  have h2 : (0 : Int) < 2 ^ sh.toNat := Int.pow_pos (by decide)
  split
  · exact Int.mul_pos (by decide) h2
  · exact Int.mul_pos (by omega) h2
theorem runc_freq {y m n : Int} {c : Ch} : (runc y m n c).freq = c.freq := by
  unfold runc
  split
  · split <;> rfl
  · rfl
theorem tickc_freq {y m : Int} {c : Ch} : (tickc y m c).freq = c.freq := by
  unfold tickc
  split
  · split <;> rfl
  · rfl
theorem play_ok {S : PS} (h : WOk S) (n : Int) : WOk (play S n) where
  w0 := runc_wait (by unfold cyc0; have := h.f0; omega)
  w1 := runc_wait (by unfold cyc0; have := h.f1; omega)
  w2 := runc_wait (by unfold cyc2; have := h.f2; omega)
  w3 := fun k => nwait_pos (cyc3_pos h.dv.1) k
  f0 := by show _ ∧ (runc _ _ _ _).freq < _; rw [show (play S n).c0.freq = S.c0.freq from runc_freq, runc_freq]; exact h.f0
  f1 := by show _ ∧ (runc _ _ _ _).freq < _; rw [show (play S n).c1.freq = S.c1.freq from runc_freq, runc_freq]; exact h.f1
  f2 := by show _ ∧ (runc _ _ _ _).freq < _; rw [show (play S n).c2.freq = S.c2.freq from runc_freq, runc_freq]; exact h.f2
  dv := h.dv
  sh := h.sh
theorem play_zero {S : PS} (h : WOk S) : play S 0 = S := by
  unfold play
  rw [runc_zero h.w0, runc_zero h.w1, runc_zero h.w2, (n_zero h.w3).1, (n_zero h.w3).2]
  rfl
theorem play_succ {S : PS} (h : WOk S) (n : Int) (hn : 0 ≤ n) : play S (n + 1) = tick (play S n) := by
  have a0 := runc_succ (y := cyc0 S.c0) (m := 8) (c := S.c0) n hn (by unfold cyc0; have := h.f0; omega) (by decide) h.w0
  have a1 := runc_succ (y := cyc0 S.c1) (m := 8) (c := S.c1) n hn (by unfold cyc0; have := h.f1; omega) (by decide) h.w1
  have a2 := runc_succ (y := cyc2 S.c2) (m := 64) (c := S.c2) n hn (by unfold cyc2; have := h.f2; omega) (by decide) h.w2
  unfold tick
  have e0 : cyc0 (play S n).c0 = cyc0 S.c0 := by unfold cyc0; rw [show (play S n).c0.freq = S.c0.freq from runc_freq]
  have e1 : cyc0 (play S n).c1 = cyc0 S.c1 := by unfold cyc0; rw [show (play S n).c1.freq = S.c1.freq from runc_freq]
  have e2 : cyc2 (play S n).c2 = cyc2 S.c2 := by unfold cyc2; rw [show (play S n).c2.freq = S.c2.freq from runc_freq]
  rw [e0, e1, e2]
  show ({ S with c0 := runc _ _ (n + 1) _, c1 := runc _ _ (n + 1) _, c2 := runc _ _ (n + 1) _, c3 := { S.c3 with wait := nwait _ (n + 1) _ }, lfsr := clks S.narrow (nsteps _ (n + 1) _) S.lfsr } : PS) = _
  rw [a0, a1, a2]
  by_cases hon : S.c3.on = true
  · have hon' : (play S n).c3.on = true := hon
    rw [if_pos hon', if_pos hon']
    rcases n_succ (y := cyc3 S.shift S.div) (c := S.c3) n hn (cyc3_pos h.dv.1) hon (h.w3 hon) with ⟨q1, q2, q3⟩ | ⟨q1, q2, q3⟩
    · rw [q2, q3, if_pos (show (play S n).c3.wait = 1 from q1), if_pos (show (play S n).c3.wait = 1 from q1)]
      rfl
    · rw [q2, q3, if_neg (show ¬ (play S n).c3.wait = 1 from q1), if_neg (show ¬ (play S n).c3.wait = 1 from q1)]
      rfl
  · have hon' : ¬ (play S n).c3.on = true := hon
    rw [if_neg hon', if_neg hon']
    have z1 : ∀ k, nwait (cyc3 S.shift S.div) k S.c3 = S.c3.wait := fun k => by unfold nwait; rw [if_neg hon]
    have z2 : ∀ k, nsteps (cyc3 S.shift S.div) k S.c3 = 0 := fun k => by unfold nsteps; rw [if_neg hon]
    rw [z1, z2]
    show _ = ({ play S n with c0 := _, c1 := _, c2 := _, c3 := { S.c3 with wait := nwait _ n _ }, lfsr := clks S.narrow (nsteps _ n _) S.lfsr } : PS)
    rw [z1, z2]
    rfl
end Go.Proofs.Ytccmpceifheejaa
