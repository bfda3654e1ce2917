/-
  Each channel gives 0 to 15, and nothing, if it is off.
-/
import Derived.Test.YtieamlpjdilcoaaAwake
namespace Go.Proofs.Ytieamlpjdilcoaa
open Go.Vc
set_option linter.unusedVariables false
set_option maxRecDepth 20000

def pl (a b c d : Bool) : Int :=
  let x1 := if a = true then bits .or .i64 0 (IntKind.wrap .i64 ((1 : Int) * 2 ^ (min 0 64))) else 0
  let x2 := if b = true then bits .or .i64 x1 (IntKind.wrap .i64 ((1 : Int) * 2 ^ (min 1 64))) else x1
  let x3 := if c = true then bits .or .i64 x2 (IntKind.wrap .i64 ((1 : Int) * 2 ^ (min 2 64))) else x2
  if d = true then bits .or .i64 x3 (IntKind.wrap .i64 ((1 : Int) * 2 ^ (min 3 64))) else x3
theorem playing_pl (u : PU) : playing u = pl u.s0.on u.s1.on u.wave.on u.noise.on := rfl
theorem pl_bits : ∀ a b c d : Bool, pl a b c d < 16 ∧ (bits .and .i64 (Int.fdiv (pl a b c d) (2 ^ (min 0 64))) 1 == 0) = !a ∧ (bits .and .i64 (Int.fdiv (pl a b c d) (2 ^ (min 1 64))) 1 == 0) = !b ∧
    (bits .and .i64 (Int.fdiv (pl a b c d) (2 ^ (min 2 64))) 1 == 0) = !c ∧ (bits .and .i64 (Int.fdiv (pl a b c d) (2 ^ (min 3 64))) 1 == 0) = !d := by decide +kernel

def outAt (u : PU) : Nat → Int
  | 0 => sqOut u.s0
  | 1 => sqOut u.s1
  | 2 => waveOut u
  | _ => noiseOut u
theorem sqOut_bound {c : Sq} (h : SqOk c) : 0 ≤ sqOut c ∧ sqOut c ≤ 15 ∧ (sqOut c > 0 → c.on = true) := by
  have := h.volume
  unfold sqOut
  split
  · rename_i h1
    split
    · exact ⟨by omega, by omega, fun _ => h1⟩
    · exact ⟨by decide, by decide, fun h => by omega⟩
  · exact ⟨by decide, by decide, fun h => by omega⟩
theorem out_bound {u : PU} (h : WF u) (hbank : ∀ k, 0 ≤ u.bank k ∧ u.bank k < 256) (i : Nat) (hi : i < 4) : 0 ≤ outAt u i ∧ outAt u i ≤ 15 ∧ (outAt u i > 0 → (u.get i).on = true) := by
  obtain rfl | rfl | rfl | rfl : i = 0 ∨ i = 1 ∨ i = 2 ∨ i = 3 := by omega
  · exact sqOut_bound h.s0
  · exact sqOut_bound h.s1
  · show 0 ≤ waveOut u ∧ waveOut u ≤ 15 ∧ (waveOut u > 0 → u.wave.on = true)
    have hx : 0 ≤ waveX u ∧ waveX u ≤ 15 := by
      unfold waveX
      have hp : (0 : Int) < 2 ^ (min (IntKind.wrap .i64 (4 - (IntKind.wrap .i64 (4 * (bits .and .i64 (waveAt u) 1))))).toNat 8) := Int.pow_pos (by decide)
      have hb := hbank (waveIx u).toNat
      have h1 := Int.ediv_nonneg hb.1 (Int.le_of_lt hp)
      have h2 := Int.ediv_le_self (2 ^ (min (IntKind.wrap .i64 (4 - (IntKind.wrap .i64 (4 * (bits .and .i64 (waveAt u) 1))))).toNat 8)) hb.1
      rw [and8 4 (by decide) (by decide) (by rw [fdiv_pos hp]; exact h1) (by rw [fdiv_pos hp]; omega), wrap_i64 (by omega) (by omega)]
      omega
    unfold waveOut
    split
    · rename_i h1
      have hq : 0 ≤ quarterT u.level (waveX u) ∧ quarterT u.level (waveX u) ≤ 60 := by
        unfold quarterT
        rw [wrap_i64 (x := 4 * _) (by omega) (by omega), wrap_i64 (x := 2 * _) (by omega) (by omega), wrap_i64 (x := 3 * _) (by omega) (by omega)]
        repeat' split
        all_goals omega
      rw [tdiv_nn hq.1, wrap_i64 (by omega) (by omega)]
      exact ⟨by omega, by omega, fun _ => h1⟩
    · exact ⟨by decide, by decide, fun h => by omega⟩
  · show 0 ≤ noiseOut u ∧ noiseOut u ≤ 15 ∧ (noiseOut u > 0 → u.noise.on = true)
    have := h.noise.volume
    unfold noiseOut
    split
    · rename_i h1
      split
      · exact ⟨by omega, by omega, fun _ => h1⟩
      · exact ⟨by decide, by decide, fun h => by omega⟩
    · exact ⟨by decide, by decide, fun h => by omega⟩

/-- The bank: as it was, or a byte that was written. -/
def BankOk (u : PU) : Prop := ∀ k, 0 ≤ u.bank k ∧ u.bank k < 256
theorem put_bank {u : PU} {c : Sq} {i : Nat} : (u.put c i).bank = u.bank := by
  match i with
  | 0 | 1 | 2 | 3 => rfl
  | n + 4 => rfl
theorem clockN_bank {u : PU} : ∀ n, (clockN n u).bank = u.bank
  | 0 => rfl
  | n + 1 => by
    have ih := clockN_bank (u := u) n
    unfold clockN clockF; dsimp only; split <;> exact ih
theorem playCh_bank {u : PU} {i : Nat} {n : Int} : (playCh u i n).bank = u.bank := by
  unfold playCh
  split
  · rfl
  split
  · exact put_bank
  match i with
  | 0 | 1 | 2 => rfl
  | n + 3 => exact clockN_bank _
theorem playTo_bank {u : PU} {n : Int} : ∀ i, (playTo u n i).bank = u.bank
  | 0 => rfl
  | i + 1 => playCh_bank.trans (playTo_bank i)
theorem lenTo_bank {u : PU} : ∀ i, (lenTo u i).bank = u.bank
  | 0 => rfl
  | i + 1 => put_bank.trans (lenTo_bank i)
theorem envTo_bank {u : PU} : ∀ i, (envTo u i).bank = u.bank
  | 0 => rfl
  | i + 1 => put_bank.trans (envTo_bank i)
theorem beatF_bank {u : PU} : (beatF u).bank = u.bank := by
  have h2 : (beat2 u).bank = u.bank := by
    unfold beat2; split
    · exact lenTo_bank 4
    · rfl
  have h3 : (beat3 u).bank = u.bank := by
    unfold beat3; split
    · exact h2
    · exact h2
  unfold beatF; split
  · exact (envTo_bank 4).trans h3
  · exact h3
theorem runStep_bank {u : PU} {now : Int} : (runStep u now).bank = u.bank := by
  have h1 : (run1 u now).bank = u.bank := playTo_bank 4
  unfold runStep; split
  · exact beatF_bank.trans h1
  · exact h1
theorem beginF_bank {u : PU} {i : Nat} {full : Int} : (beginF u i full).bank = u.bank := put_bank.trans put_bank
theorem writeR_bank {u : PU} {r x : Int} : (writeR u r x).bank = u.bank := by
  have hreg : ∀ i, (regF u x i).bank = u.bank := by
    intro i; unfold regF; split
    · exact beginF_bank.trans put_bank
    · exact put_bank
  unfold writeR
  split
  · rfl
  split
  · rfl
  split
  · rfl
  split
  · rfl
  split
  · exact hreg 0
  split
  · exact hreg 1
  split
  · unfold reg5; dsimp only; split <;> rfl
  split
  · rfl
  split
  · unfold reg8; dsimp only; split
    · exact beginF_bank
    · rfl
  split
  · unfold reg9; dsimp only; split
    · exact beginF_bank
    · rfl
  · rfl

theorem put_now' {u : PU} {c : Sq} {i : Nat} : (u.put c i).now = u.now := put_now.1
theorem beginF_now {u : PU} {i : Nat} {full : Int} : (beginF u i full).now = u.now := put_now'.trans put_now'
theorem writeR_now {u : PU} {r x : Int} : (writeR u r x).now = u.now := by
  have hreg : ∀ i, (regF u x i).now = u.now := by
    intro i; unfold regF; split
    · exact beginF_now.trans put_now'
    · exact put_now'
  unfold writeR
  split
  · rfl
  split
  · rfl
  split
  · rfl
  split
  · rfl
  split
  · exact hreg 0
  split
  · exact hreg 1
  split
  · unfold reg5; dsimp only; split <;> rfl
  split
  · rfl
  split
  · unfold reg8; dsimp only; split
    · exact beginF_now
    · rfl
  split
  · unfold reg9; dsimp only; split
    · exact beginF_now
    · rfl
  · rfl

structure Good (u : PU) : Prop where
  wf : WF u
  bank : BankOk u
  now : 0 ≤ u.now
theorem Good.runs {u : PU} (h : Good u) {now : Int} (hn : now ≤ big) : ∃ n v, RunTo now n u v ∧ Good v := by
  obtain ⟨n, v, h1, h2, _⟩ := Proofs.Ytieamlpjdilcoaa.runs hn Good (fun u h => ⟨h.wf, h.now⟩) (fun u h hlt => ⟨h.wf.runStep h.now hlt hn, by unfold BankOk; rw [runStep_bank]; exact h.bank, by
    rw [runStep_now]; have := runTo_bound h.now hlt hn; have := h.now; omega⟩) u h
  exact ⟨n, v, h1, h2⟩
theorem Good.write {u : PU} (h : Good u) (r : Int) {x : Int} (h0 : 0 ≤ x) (h1 : x < 65536) : Good (writeR u r x) :=
  ⟨h.wf.write r h0 h1, by unfold BankOk; rw [writeR_bank]; exact h.bank, by rw [writeR_now]; exact h.now⟩
theorem Good.setbank {u : PU} (h : Good u) (i : Int) {x : Int} (h0 : 0 ≤ x) (h1 : x < 256) : Good (bankF u i x) := by
  refine ⟨h.wf.bank i x, ?_, ?_⟩
  · have hb := h.bank
    unfold bankF
    split
    · split
      · intro k
        show 0 ≤ (if k = _ then x else u.bank k) ∧ (if k = _ then x else u.bank k) < 256
        split
        · exact ⟨h0, h1⟩
        · exact hb k
      · exact hb
    · exact hb
  · have := h.now
    unfold bankF
    repeat' split
    all_goals exact this

theorem take_one' {cs : List Value} {o n : Nat} {v : Value} (hn : n = 1) (h : (cs.drop o).take n = [v]) : cs[o]? = some v := by
  subst hn
  have : ((cs.drop o).take 1)[0]? = some v := by rw [h]; rfl
  simpa using this
theorem take_one {cs : List Value} {o : Nat} {v : Value} (h : (cs.drop o).take 1 = [v]) : cs[o]? = some v := by
  have : ((cs.drop o).take 1)[0]? = some v := by rw [h]; rfl
  simpa using this
theorem cells34 : Try.prog.cellsOf 34 = 4 := by kernel_rfl
theorem call_at {w : World} {a : Option Addr} {n c : Nat} (h : Rds Try.prog w 34 a n c) {k : Nat} (hk : k < n) : n ≤ maxLen ∧ ∃ p, a = some p ∧ ∃ x0 x1 x2 x3, w.cell? (p.add (k * 4)) = some (.int .i64 x0) ∧ w.cell? ((p.add (k * 4)).add 1) = some (.int .i64 x1) ∧
    w.cell? ((p.add (k * 4)).add 2) = some (.int .i64 x2) ∧ w.cell? ((p.add (k * 4)).add 3) = some (.int .u16 x3) ∧ (0 ≤ x3 ∧ x3 < 65536) := by
  rcases h with ⟨_, h0, _⟩ | ⟨p, m, rfl, h1, h2, h3⟩
  · omega
  obtain ⟨cs, h4, h5, h6⟩ := h3 k (by omega)
  rw [cells34] at h4 h5
  obtain ⟨_, m', hf⟩ := Rd.struct Try.underlying34 h6
  have c0 : Try.prog.cellsOf 3 = 1 := by kernel_rfl
  have c1 : Try.prog.cellsOf 22 = 1 := by kernel_rfl
  have f0 := hf 0 _ rfl
  have f1 := hf 1 _ rfl
  have f2 := hf 2 _ rfl
  have f3 := hf 3 _ rfl
  obtain ⟨x0, e0, _⟩ := Rd.int Try.underlying3 f0
  obtain ⟨x1, e1, _⟩ := Rd.int Try.underlying3 f1
  obtain ⟨x2, e2, _⟩ := Rd.int Try.underlying3 f2
  obtain ⟨x3, e3, w3⟩ := Rd.int Try.underlying22 f3
  refine ⟨by omega, p, rfl, x0, x1, x2, x3, ?_, ?_, ?_, ?_, wf_u16 w3⟩
  · have := (h5 0 (by omega)).trans (take_one' (o := 0) c0 e0); simpa [Addr.add] using this
  · have := (h5 1 (by omega)).trans (take_one' (o := 1) c0 e1); exact this
  · have := (h5 2 (by omega)).trans (take_one' (o := 2) c0 e2); exact this
  · have := (h5 3 (by omega)).trans (take_one' (o := 3) c1 e3); exact this

theorem law_PsgBounds (w : World) (a0 : Option Addr) (n0 c0 : Nat) (w0 : Rds Try.prog w 34 a0 n0 c0) :
    Calls Try.prog n_PsgBounds #[.slice a0 n0 c0] w fun e w' => e = .returned (.bool true) ∧ Chg (fun _ => False) w w' := by
  apply c_PsgBounds
  unfold p_PsgBounds
  refine (awake_ok w).mono fun e wa ⟨he, ca⟩ => ⟨_, he, cnd (fun h => by cases h) (fun _ => cnd_dec (fun _ => ⟨rfl, ca⟩) (fun k200 => ?_))⟩
  refine (new_ok wa).mono fun e wb ⟨he, hb, cb, sb⟩ => ⟨_, he, ?_⟩
  have sa := ca.size
  generalize wa.heap.size = b at *
  have keep : ∀ {w' w'' : World}, Chg (fun _ => False) w w' → Chg (· = b) w' w'' → Chg (fun _ => False) w w'' := fun h h' => h.then h' fun k hk e => by omega
  refine ⟨fun m vs w' => ∃ (k : Nat) (now : Int) (u : PU), m = n0 - k ∧ k ≤ n0 ∧ vs = [.int .i64 now, .int .i64 k] ∧ 0 ≤ now ∧ now ≤ 1000000 * k ∧ Good u ∧ Blk w' b u.enc 44 ∧ Chg (fun _ => False) w w',
    ⟨n0, 0, 0, PU.zero, rfl, Nat.zero_le _, rfl, by decide, by decide, ⟨WF.zero, fun _ => (by decide : (0 : Int) ≤ 0 ∧ (0 : Int) < 256), by decide⟩, hb, ca.trans cb⟩, ?_⟩
  rintro m s4 s17 w2 ⟨k, now, u, rfl, hk, hv, hn0, hn1, hu, h2, c2⟩
  obtain ⟨rfl, rfl⟩ : s4 = now ∧ s17 = (k : Int) := by simpa using hv
  refine cnd_dec (fun hlt => ?_) (fun _ => ?_)
  rotate_left
  · refine (playing_ok h2).mono fun e w3 ⟨he, h3, c3⟩ => ⟨_, he, ?_, c2.trans c3⟩
    rw [playing_pl]
    simp [(pl_bits u.s0.on u.s1.on u.wave.on u.noise.on).1]
  obtain ⟨hmx, p, rfl, x0, x1, x2, x3, g0, g1, g2, g3, hx3⟩ := call_at w0 (k := k) (by omega)
  have e6 : IntKind.wrap .i64 ((k : Int) + 1) = ((k + 1 : Nat) : Int) := by rw [wrap_i64 (by omega) (by omega)]; omega
  rw [NN_some]
  refine chk_in (by omega) (by omega) ⟨x0, c2.cell (by simpa using g0) id, x1, c2.cell (by simpa using g1) id, x2, c2.cell (by simpa using g2) id, x3, c2.cell (by simpa using g3) id, ?_⟩
  refine Nw_blk (cs := [.int .i64 0, .int .i64 0, .int .i64 0, .int .u16 0]) fun w3 h3 c3 s3 => St_blk h3 (by rfl) fun w4 h4 c4 _ => St_blk h4 (by rfl) fun w5 h5 c5 _ => St_blk h5 (by rfl) fun w6 h6 c6 _ => St_blk h6 (by rfl) fun w7 h7 c7 _ => ?_
  have cx : Chg (· = w2.heap.size) w3 w7 := ((c4.trans c5).trans c6).trans c7
  have hne : b ≠ w2.heap.size := Nat.ne_of_lt h2.lt
  have s2 := c2.size
  have hc7 : Chg (fun _ => False) w w7 := (c2.trans c3).then cx fun k hk e => by omega
  have hb7 : Blk w7 b u.enc 44 := (h2.keep c3 id).keep cx hne
  have skip : (∃ m, m < n0 - k ∧ ∃ (j : Nat) (now' : Int) (v : PU), m = n0 - j ∧ j ≤ n0 ∧ [Value.int .i64 s4, .int .i64 (IntKind.wrap .i64 ((k : Int) + 1))] = [.int .i64 now', .int .i64 j] ∧ 0 ≤ now' ∧ now' ≤ 1000000 * j ∧ Good v ∧ Blk w7 b v.enc 44 ∧ Chg (fun _ => False) w w7) :=
    ⟨n0 - (k + 1), by omega, k + 1, s4, u, rfl, by omega, by rw [e6], hn0, by omega, hu, hb7, hc7⟩
  refine ⟨_, ld h7 (by rfl), cnd_dec (fun _ => skip) (fun k0 => ⟨_, ld h7 (by rfl), cnd_dec (fun _ => skip) (fun k1 => ⟨_, ld h7 (by rfl), ?_⟩)⟩)⟩
  have e7 : IntKind.wrap .i64 (s4 + x0) = s4 + x0 := wrap_i64 (by omega) (by omega)
  rw [e7]
  obtain ⟨nr, v, hrun, hv'⟩ := hu.runs (now := s4 + x0) (by unfold big; omega)
  refine ⟨fun _ w' => ∃ v, Good v ∧ Blk w' b v.enc 44 ∧ Chg (fun _ => False) w w', ?_, ?_⟩
  · refine ⟨_, ld h7 (by rfl), cnd_beq (fun _ => ?_) (fun _ => ?_)⟩
    · exact ⟨_, ld h7 (by rfl), _, ld h7 (by rfl), (write_ok hb7 hrun hv'.wf.shift.1 x2 x3 hx3.1 hx3.2).mono fun e w8 ⟨he, h8, c8⟩ => ⟨he, _, hv'.write x2 hx3.1 hx3.2, h8, keep hc7 c8⟩⟩
    · refine ⟨_, ld h7 (by rfl), _, ld h7 (by rfl), (bank_ok hb7 hrun hv'.wf.page x2 (IntKind.wrap .u8 x3)).mono fun e w8 ⟨he, h8, c8⟩ => ⟨he, _, hv'.setbank x2 ?_ ?_, h8, keep hc7 c8⟩⟩
      · rw [IntKind.wrap_u8']; omega
      · rw [IntKind.wrap_u8']; omega
  rintro w8 ⟨v, hv, h8, c8⟩
  refine (out_ok h8 hv.wf.out).mono fun e w9 ⟨he, h9, c9⟩ => ⟨_, _, _, _, he, ?_⟩
  refine ⟨fun m vs w' => ∃ i : Nat, i ≤ 4 ∧ m = 4 - i ∧ vs = [.int .i64 i] ∧ Blk w' b v.enc 44 ∧ Chg (fun _ => False) w w', ⟨4, 0, by omega, rfl, rfl, h9, c8.trans c9⟩, ?_⟩
  rintro m s53 w10 ⟨i, hi, rfl, hvs, h10, c10⟩
  obtain rfl : s53 = (i : Int) := by simpa using hvs
  refine cnd_dec (fun hi4 => ?_) (fun _ => ⟨n0 - (k + 1), by omega, k + 1, s4 + x0, v, rfl, by omega, by rw [e6], by omega, by omega, hv, h10, c10⟩)
  have hx : IntKind.wrap .i64 ((i : Int) + 1) = ((i + 1 : Nat) : Int) := by rw [wrap_i64 (by omega) (by omega)]; rfl
  have hob := out_bound hv.wf hv.bank i (by omega)
  refine chk_in (by omega) (by omega) ⟨outAt v i, ?_, cnd_dec (fun h => by omega) (fun _ => cnd_dec (fun h => by omega) (fun _ => cnd_dec (fun hp => ?_) (fun _ => ⟨4 - (i + 1), by omega, i + 1, by omega, rfl, by rw [hx], h10, c10⟩)))⟩
  · obtain rfl | rfl | rfl | rfl : i = 0 ∨ i = 1 ∨ i = 2 ∨ i = 3 := by omega
    all_goals rfl
  refine (playing_ok h10).mono fun e w11 ⟨he, h11, c11⟩ => ⟨_, he, chk_dec (by omega) (cnd (fun hz => ?_) (fun _ => ⟨4 - (i + 1), by omega, i + 1, by omega, rfl, by rw [hx], h11, c10.trans c11⟩))⟩
  exfalso
  have hon := hob.2.2 hp
  have hb := pl_bits v.s0.on v.s1.on v.wave.on v.noise.on
  rw [playing_pl] at hz
  obtain rfl | rfl | rfl | rfl : i = 0 ∨ i = 1 ∨ i = 2 ∨ i = 3 := by omega
  · have := hb.2.1.symm.trans hz; rw [show v.s0.on = true from hon] at this; cases this
  · have := hb.2.2.1.symm.trans hz; rw [show v.s1.on = true from hon] at this; cases this
  · have := hb.2.2.2.1.symm.trans hz; rw [show v.wave.on = true from hon] at this; cases this
  · have := hb.2.2.2.2.symm.trans hz; rw [show v.noise.on = true from hon] at this; cases this

end Go.Proofs.Ytieamlpjdilcoaa
