/-
  CpuCalls: the nine steps, and the law.
-/
import Derived.Test.YtdjgicimfeocbaaGreatCall2
namespace Go.Proofs.YtdjgicimfeocbaaGreat
open Go.Vc
set_option linter.unusedVariables false
set_option linter.unusedSimpArgs false

theorem W63 : W 63 = 2 := by decide
theorem W_mod {c d : Int} (h : c % 268435456 = d % 268435456) : W c = W d := by
  unfold W
  rw [show c / 32 % 2 = d / 32 % 2 by omega]
section
variable {p1 : Int} {mv : Bool} {r o h s : Nat → Int} {c : Int} {m : Nat → Int} {log : List E51} {e b : Int}
theorem s_bl (hm : Byt m) (hl : log.length ≤ 800000) (he : r 15 = e) (e0 : 8 ≤ e) (e1 : e < 100000) (e4 : e % 4 = 0) :
    ∃ r' l2, f_Step 3942645761 p1 false mv r o h s 31 m log = some (lo m (e + 4) 4, lo m (e + 8) 4, false, r', o, h, s, 31, l2) ∧ l2.length ≤ log.length + 3 ∧ r' 15 = e + 12 ∧ r' 14 = e - 4 ∧ ∀ i, i < 14 → r' i = r i := by
  obtain ⟨r1, hr1⟩ : ∃ r1, r1 = rup (rup r 14 ((r 15 - 4) % 4294967296)) 15 ((r 15 + 4) % 4294967296) := ⟨_, rfl⟩
  have f15 : r1 15 = e + 4 := by rw [hr1, rup_at]; omega
  have f14 : r1 14 = e - 4 := by rw [hr1, rup_ne _ _ (by decide), rup_at]; omega
  have fi : ∀ i, i < 14 → r1 i = r i := fun i hi => by rw [hr1, rup_ne _ _ (by omega), rup_ne _ _ (by omega)]
  obtain ⟨l2, h1, h2⟩ := SA_branch (p0 := 3942645761) (p1 := p1) (af := false) (mv := mv) (r := r) (o := o) (h := h) (s := s) (c := 31) (m := m) (log := log) hm hl (by decide) (by decide) W31 (by omega) (by omega) dec_bl holds14 (r' := r1) (fun log => by rw [hr1]; exact branch_link) (by omega) (by omega)
  rw [f15, al_even W31 (by omega), W31, show (e + 4 + ((4 : Nat) : Int)) % 4294967296 = e + 8 by omega] at h1
  exact ⟨_, l2, h1, h2, by rw [rup_at]; omega, by rw [rup_ne _ _ (by decide), f14], fun i hi => by rw [rup_ne _ _ (by omega), fi i hi]⟩
theorem s_add {w : Int} {k : Nat} (hd : f_aDecode w = some (1, 14, 4, false, (k : Int), (k : Int), 0, 0, 1, true, 0, 0, false, false, 0, false)) (hk : k < 14) (hm : Byt m) (hl : log.length ≤ 800000) (he : r 15 = e) (e0 : 8 ≤ e) (e1 : e < 100000) (k0 : 0 ≤ r k) (k1 : r k < 4294967296) :
    ∃ r' l2, f_Step w p1 false mv r o h s 31 m log = some (p1, lo m e 4, false, r', o, h, s, 31, l2) ∧ l2.length ≤ log.length + 3 ∧ r' 15 = e + 4 ∧ r' k = (r k + 1) % 4294967296 ∧ ∀ i, i < 15 → i ≠ k → r' i = r i := by
  have h1 := SA_data (p0 := w) (p1 := p1) (af := false) (mv := mv) (r := r) (o := o) (h := h) (s := s) (c := 31) (m := m) (log := log) hm hl (by decide) (by decide) W31 (by omega) (by omega) hd holds14 (hr := rup_ne _ _ (by omega)) (hx := fun log => data_imm (rn := k) (rd := k) (code := 4) (by omega) (by omega) (by decide) (by decide) (by decide) (by decide) keeps4 (Do_add k0 k1 (by decide) (by decide)))
  rw [he] at h1
  exact ⟨_, _, h1, by simp only [List.length_append, List.length_cons, List.length_nil]; omega, by rw [rup_at]; omega, by rw [rup_ne _ _ (by omega), rup_at], fun i hi hn => by rw [rup_ne _ _ (by omega), rup_ne _ _ hn]⟩
theorem s_bx (hm : Byt m) (hl : log.length ≤ 800000) (he : r 15 = e) (e0 : 8 ≤ e) (e1 : e < 100000) (hb : r 14 = b) (b0 : 0 ≤ b) (b1 : b < 100000) (b4 : b % 4 = 0) :
    ∃ r' l2, f_Step 3778019102 p1 false mv r o h s 31 m log = some (lo m b 4, lo m (b + 4) 4, false, r', o, h, s, 31, l2) ∧ l2.length ≤ log.length + 3 ∧ r' 15 = b + 8 ∧ ∀ i, i < 15 → r' i = r i := by
  obtain ⟨l2, h1, h2⟩ := SA_bx (p0 := 3778019102) (p1 := p1) (af := false) (mv := mv) (r := r) (o := o) (h := h) (s := s) (c := 31) (m := m) (log := log) hm hl (by decide) (by decide) W31 (by omega) (by omega) dec_bx holds14 (r' := rup r 15 b) (d0 := by decide) (d1 := by decide) (hx := fun log => bx_arm hb b0 (by omega) b4) (e0 := by rw [rup_at]; omega) (e1 := by rw [rup_at]; omega)
  rw [rup_at, al_even W31 (by omega), W31, show (b + ((4 : Nat) : Int)) % 4294967296 = b + 4 by omega] at h1
  exact ⟨_, l2, h1, h2, by rw [rup_at]; omega, fun i hi => by rw [rup_ne _ _ (by omega), rup_ne _ _ (by omega)]⟩
theorem s_near (c0 : 0 ≤ c) (c1 : c < 4294967296) (hW : W c = 2) (hm : Byt m) (hl : log.length ≤ 800000) (he : r 15 = e) (e0 : 4 ≤ e) (e1 : e < 100000) :
    ∃ r' l2, f_Step 61440 p1 false mv r o h s c m log = some (p1, lo m e 2, false, r', o, h, s, c, l2) ∧ l2.length ≤ log.length + 3 ∧ r' 15 = e + 2 ∧ r' 14 = e ∧ ∀ i, i < 14 → r' i = r i := by
  have h1 := ST_link (p0 := 61440) (p1 := p1) (af := false) (mv := mv) (r := r) (o := o) (h := h) (s := s) (c := c) (m := m) (log := log) hm hl c0 c1 hW (by omega) (by omega) dec_t0 holds14 (r' := rup r 14 ((r 15 + 0) % 4294967296)) (hr := rup_ne _ _ (by decide)) (hx := fun log => link_near)
  rw [he] at h1
  exact ⟨_, _, h1, by simp only [List.length_append, List.length_cons, List.length_nil]; omega, by rw [rup_at]; omega, by rw [rup_ne _ _ (by decide), rup_at]; omega, fun i hi => by rw [rup_ne _ _ (by omega), rup_ne _ _ (by omega)]⟩
theorem s_far (c0 : 0 ≤ c) (c1 : c < 4294967296) (hW : W c = 2) (hm : Byt m) (hl : log.length ≤ 800000) (he : r 15 = e) (e0 : 4 ≤ e) (e1 : e < 100000) (e2 : e % 2 = 0) (hb : r 14 = b) (b0 : 0 ≤ b) (b1 : b < 100000) (b2 : b % 2 = 0) :
    ∃ r' l2, f_Step 63492 p1 false mv r o h s c m log = some (lo m (b + 8) 2, lo m (b + 10) 2, false, r', o, h, s, c, l2) ∧ l2.length ≤ log.length + 3 ∧ r' 15 = b + 12 ∧ r' 14 = e - 1 ∧ ∀ i, i < 14 → r' i = r i := by
  obtain ⟨l2, h1, h2⟩ := ST_far (p0 := 63492) (p1 := p1) (af := false) (mv := mv) (r := r) (o := o) (h := h) (s := s) (c := c) (m := m) (log := log) hm hl c0 c1 hW (by omega) (by omega) dec_t1 holds14 (r' := rup (rup r 14 (e - 1)) 15 (b + 8)) (fun log => link_far hb he b0 (by omega) (by decide) (by decide) (by omega) (by omega) (by omega) e2) (by rw [rup_at]; omega) (by rw [rup_at]; omega)
  rw [rup_at, al_even hW (by omega), hW, show (b + 8 + ((2 : Nat) : Int)) % 4294967296 = b + 10 by omega] at h1
  exact ⟨_, l2, h1, h2, by rw [rup_at]; omega, by rw [rup_ne _ _ (by decide), rup_ne _ _ (by decide), rup_at], fun i hi => by rw [rup_ne _ _ (by omega), rup_ne _ _ (by omega), rup_ne _ _ (by omega)]⟩
theorem s_tbx (c0 : 0 ≤ c) (c1 : c < 4294967296) (hW : W c = 2) (hm : Byt m) (hl : log.length ≤ 800000) (he : r 15 = e) (e0 : 4 ≤ e) (e1 : e < 100000) (hb : r 14 = b) (b0 : 1 ≤ b) (b1 : b < 100000) (b2 : b % 2 = 1) :
    ∃ r' l2, f_Step 18288 p1 false mv r o h s c m log = some (lo m (b - 1) 2, lo m (b + 1) 2, false, r', o, h, s, c, l2) ∧ l2.length ≤ log.length + 3 ∧ r' 15 = b + 3 ∧ ∀ i, i < 15 → r' i = r i := by
  obtain ⟨l2, h1, h2⟩ := ST_bx (p0 := 18288) (p1 := p1) (af := false) (mv := mv) (r := r) (o := o) (h := h) (s := s) (c := c) (m := m) (log := log) hm hl c0 c1 hW (by omega) (by omega) dec_tbx holds14 (r' := rup r 15 (b - 1)) (d0 := c0) (d1 := c1) (hx := fun log => bx_thumb c0 c1 hW hb (by omega) (by omega) b2) (e0 := by rw [rup_at]; omega) (e1 := by rw [rup_at]; omega)
  rw [rup_at, al_even hW (by omega), hW, show (b - 1 + ((2 : Nat) : Int)) % 4294967296 = b + 1 by omega] at h1
  exact ⟨_, l2, h1, h2, by rw [rup_at]; omega, fun i hi => by rw [rup_ne _ _ (by omega), rup_ne _ _ (by omega)]⟩
theorem s_tadd {w : Int} {k : Nat} (hd : f_tDecode (IntKind.wrap .u16 w) = some (1, 14, 4, true, (k : Int), (k : Int), 0, 0, 1, true, 0, 0, false, false, false, false, false, 0, false)) (hk : k < 14) (c0 : 0 ≤ c) (c1 : c < 4294967296) (hW : W c = 2) (hm : Byt m) (hl : log.length ≤ 800000) (he : r 15 = e) (e0 : 4 ≤ e) (e1 : e < 100000) (k0 : 0 ≤ r k) (k1 : r k < 4294967296) :
    ∃ (r' : Nat → Int) (l2 : List E51) (c2 : Int), f_Step w p1 false mv r o h s c m log = some (p1, lo m e 2, false, r', o, h, s, c2, l2) ∧ l2.length ≤ log.length + 3 ∧ r' 15 = e + 2 ∧ r' k = (r k + 1) % 4294967296 ∧ (∀ i, i < 15 → i ≠ k → r' i = r i) ∧ 0 ≤ c2 ∧ c2 < 4294967296 ∧ W c2 = 2 := by
  obtain ⟨c2, hx, d0, d1, d2⟩ := data_flags (p0 := p1) (p1 := lo m (r 15) 2) (r := r) (o := o) (h := h) (s := s) (c := c) (m := m) (k := k) (by omega) c0 c1 k0 k1
  have dW : W c2 = 2 := (W_mod d2).trans hW
  have h1 := ST_data (p0 := w) (p1 := p1) (af := false) (mv := mv) (r := r) (o := o) (h := h) (s := s) (c := c) (m := m) (log := log) hm hl c0 c1 hW (by omega) (by omega) hd holds14 (r' := rup r k ((r k + 1) % 4294967296)) (d0 := d0) (d1 := d1) (dW := dW) (hr := rup_ne _ _ (by omega)) (hx := hx)
  rw [he] at h1
  exact ⟨_, _, c2, h1, by simp only [List.length_append, List.length_cons, List.length_nil]; omega, by rw [rup_at]; omega, by rw [rup_ne _ _ (by omega), rup_at], fun i hi hn => by rw [rup_ne _ _ (by omega), rup_ne _ _ hn], d0, d1, dW⟩
end
end Go.Proofs.YtdjgicimfeocbaaGreat
