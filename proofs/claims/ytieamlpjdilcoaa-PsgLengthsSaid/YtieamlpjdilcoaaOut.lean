/-
  Bank, Out, Playing.
-/
import Derived.Test.YtieamlpjdilcoaaWrite
namespace Go.Proofs.Ytieamlpjdilcoaa
open Go.Vc
set_option linter.unusedVariables false
set_option maxRecDepth 20000

def setBank (u : PU) (k : Nat) (v : Int) : PU := { u with bank := fun j => if j = k then v else u.bank j }
theorem bank_get {u : PU} {k : Nat} (hk : k < 32) : u.enc[48 + k]? = some (.int .u8 (u.bank k)) := by
  obtain rfl | rfl | rfl | rfl | rfl | rfl | rfl | rfl | rfl | rfl | rfl | rfl | rfl | rfl | rfl | rfl | rfl | rfl | rfl | rfl | rfl | rfl | rfl | rfl | rfl | rfl | rfl | rfl | rfl | rfl | rfl | rfl : k = 0 ∨ k = 1 ∨ k = 2 ∨ k = 3 ∨ k = 4 ∨ k = 5 ∨ k = 6 ∨ k = 7 ∨ k = 8 ∨ k = 9 ∨ k = 10 ∨ k = 11 ∨ k = 12 ∨ k = 13 ∨ k = 14 ∨ k = 15 ∨ k = 16 ∨ k = 17 ∨ k = 18 ∨ k = 19 ∨ k = 20 ∨ k = 21 ∨ k = 22 ∨ k = 23 ∨ k = 24 ∨ k = 25 ∨ k = 26 ∨ k = 27 ∨ k = 28 ∨ k = 29 ∨ k = 30 ∨ k = 31 := by omega
  all_goals rfl
theorem bank_set {u : PU} {k : Nat} {v : Int} (hk : k < 32) : u.enc.set (48 + k) (.int .u8 v) = (setBank u k v).enc := by
  obtain rfl | rfl | rfl | rfl | rfl | rfl | rfl | rfl | rfl | rfl | rfl | rfl | rfl | rfl | rfl | rfl | rfl | rfl | rfl | rfl | rfl | rfl | rfl | rfl | rfl | rfl | rfl | rfl | rfl | rfl | rfl | rfl : k = 0 ∨ k = 1 ∨ k = 2 ∨ k = 3 ∨ k = 4 ∨ k = 5 ∨ k = 6 ∨ k = 7 ∨ k = 8 ∨ k = 9 ∨ k = 10 ∨ k = 11 ∨ k = 12 ∨ k = 13 ∨ k = 14 ∨ k = 15 ∨ k = 16 ∨ k = 17 ∨ k = 18 ∨ k = 19 ∨ k = 20 ∨ k = 21 ∨ k = 22 ∨ k = 23 ∨ k = 24 ∨ k = 25 ∨ k = 26 ∨ k = 27 ∨ k = 28 ∨ k = 29 ∨ k = 30 ∨ k = 31 := by omega
  all_goals rfl
theorem enc_length (u : PU) : u.enc.length = 106 := rfl

/-- Bank's place. -/
def bankAt (u : PU) (i : Int) : Nat := (IntKind.wrap .i64 ((IntKind.wrap .i64 (16 * (IntKind.wrap .i64 (1 - u.page)))) + i)).toNat
def bankF (u : PU) (i x : Int) : PU := if i ≥ 0 then if i < 16 then setBank u (bankAt u i) x else u else u
theorem bank_ok {w : World} {b : Nat} {u v : PU} {t : TypeId} (hb : Blk w b u.enc t) {now : Int} {n : Nat} (hr : RunTo now n u v) (hp : v.page = 0 ∨ v.page = 1) (i x : Int) :
    Calls Try.prog n_Bank #[.pointer (some ⟨b, 0, none⟩), .int .i64 now, .int .i64 i, .int .u8 x] w fun e w' => e = .returned (.tuple #[]) ∧ Blk w' b (bankF v i x).enc t ∧ Chg (· = b) w w' := by
  apply c_Bank
  unfold p_Bank
  refine (run_ok hb hr).mono fun e w1 ⟨he, h1, c1⟩ => ⟨he, ?_⟩
  unfold bankF
  refine cnd_dec (fun k1 => cnd_dec (fun k2 => ?_) (fun k2 => ⟨rfl, ?_, c1⟩)) (fun k1 => ⟨rfl, ?_, c1⟩)
  · rw [if_pos k1, if_pos k2]
    refine ⟨_, ld (h1.drewN 1) (by rfl), ?_⟩
    have e1 : IntKind.wrap .i64 ((IntKind.wrap .i64 (16 * (IntKind.wrap .i64 (1 - v.page)))) + i) = 16 * (1 - v.page) + i := by
      obtain h | h := hp <;> rw [h] <;> simp only [wrap_i64 (show -9223372036854775808 ≤ (1 : Int) - 0 by decide) (by decide), wrap_i64 (show -9223372036854775808 ≤ (1 : Int) - 1 by decide) (by decide), wrap_i64 (show -9223372036854775808 ≤ (16 : Int) * (1 - 0) by decide) (by decide), wrap_i64 (show -9223372036854775808 ≤ (16 : Int) * (1 - 1) by decide) (by decide)] <;> exact wrap_i64 (by omega) (by omega)
    have hlt : bankAt v i < 32 := by unfold bankAt; rw [e1]; omega
    refine chk_in (by rw [e1]; omega) (by rw [e1]; omega) ?_
    rw [Nat.mul_one, add_at]
    refine St_blk (h1.drewN 1) ?_ fun w2 h2 c2 _ => ⟨rfl, ?_, by (repeat first | exact Chg.refl _ _ | assumption | exact Chg.no (by assumption) | refine Chg.trans ?_ (by assumption) | refine Chg.trans ?_ (Chg.no (by assumption)) | refine Chg.drewBy ?_ _)⟩
    · rw [enc_length]; exact decide_eq_true (show 48 + bankAt v i < 106 by omega)
    · have := bank_set (u := v) (v := x) hlt
      rw [← this]; exact h2
  · rw [if_pos k1, if_neg k2]; exact h1
  · rw [if_neg k1]; exact h1

/-! ### Playing -/
def plTo (u : PU) : Nat → Int
  | 0 => 0
  | i + 1 => if (u.get i).on = true then bits .or .i64 (plTo u i) (IntKind.wrap .i64 ((1 : Int) * 2 ^ (min i 64))) else plTo u i
def playing (u : PU) : Int := plTo u 4
theorem playing_ok {w : World} {b : Nat} {u : PU} {t : TypeId} (hb : Blk w b u.enc t) :
    Calls Try.prog n_Playing #[.pointer (some ⟨b, 0, none⟩)] w fun e w' => e = .returned (.int .i64 (playing u)) ∧ Blk w' b u.enc t ∧ Chg (fun _ => False) w w' := by
  apply c_Playing
  unfold p_Playing
  refine chk_of (by decide) ⟨_, ld hb (by rfl), chk_of (by decide) ⟨_, ld hb (by rfl), _, ld hb (by rfl), _, ld hb (by rfl), fun n => ?_⟩⟩
  refine ⟨fun m vs w' => ∃ i : Nat, i ≤ 4 ∧ m = 4 - i ∧ vs = [.int .i64 (plTo u i), .int .i64 i] ∧ w' = w.drewN n, ⟨4, 0, by omega, rfl, rfl, rfl⟩, ?_⟩
  rintro m s3 s31 w1 ⟨i, hi, rfl, hv, rfl⟩
  obtain ⟨rfl, rfl⟩ : s3 = plTo u i ∧ s31 = (i : Int) := by simpa using hv
  refine cnd_dec (fun k => ?_) (fun k => ?_)
  rotate_left
  · obtain rfl : i = 4 := by omega
    exact ⟨rfl, hb.drewN n, Chg.drewN _ _ n⟩
  refine chk_in (by omega) k ?_
  have hx : IntKind.wrap .i64 ((i : Int) + 1) = ((i + 1 : Nat) : Int) := by rw [wrap_i64 (by omega) (by omega)]; rfl
  refine ⟨(u.get i).on, ?_, cnd (fun k1 => chk_dec (by omega) (Lt_intro fun y hy => ⟨4 - (i + 1), by omega, i + 1, by omega, rfl, ?_, rfl⟩)) (fun k1 => ⟨4 - (i + 1), by omega, i + 1, by omega, rfl, ?_, rfl⟩)⟩
  · obtain rfl | rfl | rfl | rfl : i = 0 ∨ i = 1 ∨ i = 2 ∨ i = 3 := by omega
    all_goals rfl
  · rw [hx, hy]; simp only [plTo]; rw [if_pos k1]; rfl
  · rw [hx]; simp only [plTo]; rw [if_neg (by rw [k1]; decide)]

/-! ### Out -/
def dutyT (k : Int) : Int := if k = 0 then 1 else if k = 1 then 2 else if k = 2 then 4 else 6
theorem dutyT_ok {k : Int} (h0 : 0 ≤ k) (h1 : k < 4) : (#[.int .i64 1, .int .i64 2, .int .i64 4, .int .i64 6] : Array Value)[k.toNat * 1]? = some (.int .i64 (dutyT k)) := by
  obtain rfl | rfl | rfl | rfl : k = 0 ∨ k = 1 ∨ k = 2 ∨ k = 3 := by omega
  all_goals rfl
def sqOut (c : Sq) : Int := if c.on = true then if c.at_ < dutyT c.duty then c.volume else 0 else 0
def waveAt (u : PU) : Int := if (!u.two) = true then Int.tmod u.wave.at_ 32 else u.wave.at_
def waveIx (u : PU) : Int := Int.tmod (IntKind.wrap .i64 ((IntKind.wrap .i64 (16 * u.page)) + (IntKind.wrap .i64 (Int.tdiv (waveAt u) 2)))) 32
def waveX (u : PU) : Int := IntKind.wrap .i64 (bits .and .u8 (Int.fdiv (u.bank (waveIx u).toNat) (2 ^ (min (IntKind.wrap .i64 (4 - (IntKind.wrap .i64 (4 * (bits .and .i64 (waveAt u) 1))))).toNat 8))) 15)
def quarterT (l x : Int) : Int := if l = 0 then 0 else if l = 1 then IntKind.wrap .i64 (4 * x) else if l = 2 then IntKind.wrap .i64 (2 * x) else if l = 3 then x else IntKind.wrap .i64 (3 * x)
theorem quarterT_ok {l x : Int} (h0 : 0 ≤ l) (h1 : l < 5) : (#[.int .i64 0, .int .i64 (IntKind.wrap .i64 (4 * x)), .int .i64 (IntKind.wrap .i64 (2 * x)), .int .i64 x, .int .i64 (IntKind.wrap .i64 (3 * x))] : Array Value)[l.toNat * 1]? = some (.int .i64 (quarterT l x)) := by
  obtain rfl | rfl | rfl | rfl | rfl : l = 0 ∨ l = 1 ∨ l = 2 ∨ l = 3 ∨ l = 4 := by omega
  all_goals rfl
def waveOut (u : PU) : Int := if u.wave.on = true then IntKind.wrap .i64 (Int.tdiv (quarterT u.level (waveX u)) 4) else 0
def noiseOut (u : PU) : Int := if u.noise.on = true then if bits .and .i64 u.lfsr 1 = 0 then u.noise.volume else 0 else 0
structure OutOk (u : PU) : Prop where
  d0 : 0 ≤ u.s0.duty ∧ u.s0.duty < 4
  d1 : 0 ≤ u.s1.duty ∧ u.s1.duty < 4
  at_ : 0 ≤ u.wave.at_ ∧ u.wave.at_ < 64
  page : u.page = 0 ∨ u.page = 1
  level : 0 ≤ u.level ∧ u.level < 5

set_option maxHeartbeats 4000000 in
theorem out_ok {w : World} {b : Nat} {u : PU} {t : TypeId} (hb : Blk w b u.enc t) (ok : OutOk u) :
    Calls Try.prog n_Out #[.pointer (some ⟨b, 0, none⟩)] w fun e w' => e = .returned (.agg #[.int .i64 (sqOut u.s0), .int .i64 (sqOut u.s1), .int .i64 (waveOut u), .int .i64 (noiseOut u)]) ∧ Blk w' b u.enc t ∧ Chg (fun _ => False) w w' := by
  apply c_Out
  unfold p_Out
  refine Nw_blk (cs := [.int .i64 0, .int .i64 0, .int .i64 0, .int .i64 0]) fun w1 r1 c1 s1 => Nw_blk (cs := [.int .i64 0, .int .i64 0, .int .i64 0, .int .i64 0]) fun w2 o2 c2 s2 => ?_
  have n1 : b ≠ w.heap.size := Nat.ne_of_lt hb.lt
  have n2 : b ≠ w1.heap.size := by have := hb.lt; omega
  have n3 : w.heap.size ≠ w1.heap.size := by omega
  have n4 : w.heap.size ≤ w1.heap.size := by omega
  have h2 : Blk w2 b u.enc t := (hb.keep c1 id).keep c2 id
  have r2 : Blk w2 w.heap.size [.int .i64 0, .int .i64 0, .int .i64 0, .int .i64 0] 29 := r1.keep c2 id
  have hc2 : Chg (fun _ => False) w w2 := c1.trans c2
  generalize w1.heap.size = o at *
  have keepc : ∀ {w' w'' : World}, Chg (fun _ => False) w w' → Chg (· = o) w' w'' → Chg (fun _ => False) w w'' := fun h h' => h.then h' fun k hk e => by omega
  have keepr : ∀ {w' w'' : World}, Chg (fun _ => False) w w' → Chg (· = w.heap.size) w' w'' → Chg (fun _ => False) w w'' := fun h h' => h.then h' fun k hk e => by omega
  refine ⟨fun m vs w' => ∃ i : Nat, i ≤ 2 ∧ m = 2 - i ∧ vs = [.int .i64 i] ∧ Blk w' b u.enc t ∧ Blk w' w.heap.size [.int .i64 0, .int .i64 0, .int .i64 0, .int .i64 0] 29 ∧
      Blk w' o [.int .i64 (if 0 < i then sqOut u.s0 else 0), .int .i64 (if 1 < i then sqOut u.s1 else 0), .int .i64 0, .int .i64 0] 29 ∧ Chg (fun _ => False) w w', ⟨2, 0, by omega, rfl, rfl, h2, r2, o2, hc2⟩, ?_⟩
  rintro m s12 w3 ⟨i, hi, rfl, hv, h3, r3, o3, c3⟩
  obtain rfl : s12 = (i : Int) := by simpa using hv
  refine cnd_dec (fun k => ?_) (fun k => ?_)
  · refine chk_in (by omega) (by omega) ?_
    have hx : IntKind.wrap .i64 ((i : Int) + 1) = ((i + 1 : Nat) : Int) := by rw [wrap_i64 (by omega) (by omega)]; rfl
    rw [hx]
    simp only [add_at]
    obtain rfl | rfl : i = 0 ∨ i = 1 := by omega
    · refine ⟨_, ld h3 (by rfl), cnd (fun k1 => ?_) (fun k1 n => ⟨1, by omega, 1, by omega, rfl, rfl, h3.drewN n, r3.drewN n, ?_, c3.drewBy n⟩)⟩
      · refine ⟨_, ld h3 (by rfl), _, ld h3 (by rfl), chk_in ok.d0.1 (by have := ok.d0.2; omega) ⟨_, dutyT_ok ok.d0.1 ok.d0.2, fun n => cnd_dec (fun k2 => ?_) (fun k2 => ⟨1, by omega, 1, by omega, rfl, rfl, h3.drewN n, r3.drewN n, ?_, c3.drewBy n⟩)⟩⟩
        · refine ⟨_, ld (h3.drewN n) (by rfl), chk_in (by omega) (by omega) (St_blk (o3.drewN n) (by rfl) fun w4 h4 c4 _ => ⟨1, by omega, 1, by omega, rfl, rfl, (h3.drewN n).keep c4 n2, (r3.drewN n).keep c4 n3, ?_, keepc (c3.drewBy n) c4⟩)⟩
          have e : (if 0 < 1 then sqOut u.s0 else 0) = u.s0.volume := by rw [if_pos (by decide)]; unfold sqOut; rw [if_pos k1, if_pos k2]
          rw [e]; exact h4
        · have e : (if 0 < 1 then sqOut u.s0 else 0) = 0 := by rw [if_pos (by decide)]; unfold sqOut; rw [if_pos k1, if_neg k2]
          rw [e]; exact o3.drewN n
      · have e : (if 0 < 1 then sqOut u.s0 else 0) = 0 := by rw [if_pos (by decide)]; unfold sqOut; rw [if_neg (by rw [k1]; decide)]
        rw [e]; exact o3.drewN n
    · refine ⟨_, ld h3 (by rfl), cnd (fun k1 => ?_) (fun k1 n => ⟨0, by omega, 2, by omega, rfl, rfl, h3.drewN n, r3.drewN n, ?_, c3.drewBy n⟩)⟩
      · refine ⟨_, ld h3 (by rfl), _, ld h3 (by rfl), chk_in ok.d1.1 (by have := ok.d1.2; omega) ⟨_, dutyT_ok ok.d1.1 ok.d1.2, fun n => cnd_dec (fun k2 => ?_) (fun k2 => ⟨0, by omega, 2, by omega, rfl, rfl, h3.drewN n, r3.drewN n, ?_, c3.drewBy n⟩)⟩⟩
        · refine ⟨_, ld (h3.drewN n) (by rfl), chk_in (by omega) (by omega) (St_blk (o3.drewN n) (by rfl) fun w4 h4 c4 _ => ⟨0, by omega, 2, by omega, rfl, rfl, (h3.drewN n).keep c4 n2, (r3.drewN n).keep c4 n3, ?_, keepc (c3.drewBy n) c4⟩)⟩
          have e : (if 1 < 2 then sqOut u.s1 else 0) = u.s1.volume := by rw [if_pos (by decide)]; unfold sqOut; rw [if_pos k1, if_pos k2]
          rw [e]; exact h4
        · have e : (if 1 < 2 then sqOut u.s1 else 0) = 0 := by rw [if_pos (by decide)]; unfold sqOut; rw [if_pos k1, if_neg k2]
          rw [e]; exact o3.drewN n
      · have e : (if 1 < 2 then sqOut u.s1 else 0) = 0 := by rw [if_pos (by decide)]; unfold sqOut; rw [if_neg (by rw [k1]; decide)]
        rw [e]; exact o3.drewN n
  obtain rfl : i = 2 := by omega
  have o3' : Blk w3 o [.int .i64 (sqOut u.s0), .int .i64 (sqOut u.s1), .int .i64 0, .int .i64 0] 29 := o3
  clear o3
  generalize sqOut u.s0 = y0 at o3' ⊢
  generalize sqOut u.s1 = y1 at o3' ⊢
  refine ⟨fun _ w' => Blk w' b u.enc t ∧ Blk w' w.heap.size [.int .i64 0, .int .i64 0, .int .i64 0, .int .i64 0] 29 ∧ Blk w' o [.int .i64 y0, .int .i64 y1, .int .i64 (waveOut u), .int .i64 0] 29 ∧ Chg (fun _ => False) w w', ?_, ?_⟩
  · refine ⟨_, ld h3 (by rfl), cnd (fun k1 => ?_) (fun k1 => ⟨h3, r3, ?_, c3⟩)⟩
    rotate_left
    · have e : waveOut u = 0 := by unfold waveOut; rw [if_neg (by rw [k1]; decide)]
      rw [e]; exact o3'
    have hwo : waveOut u = IntKind.wrap .i64 (Int.tdiv (quarterT u.level (waveX u)) 4) := by unfold waveOut; rw [if_pos k1]
    have fin : ∀ n, ∃ (x94 : Int), (w3.drewN n).cell? ⟨b, 82, none⟩ = some (.int .i64 x94) ∧ chk (decide (0 ≤ x94) && decide (x94 < ((5 : Nat) : Int))) (∃ (x95 : Int), (#[.int .i64 0, .int .i64
  (IntKind.wrap .i64 (4 * waveX u)), .int .i64 (IntKind.wrap .i64 (2 * waveX u)), .int .i64 (waveX u), .int .i64 (IntKind.wrap .i64 (3 * waveX u))] : Array Value)[x94.toNat * 1]? = some (.int .i64 x95) ∧ chk
  (decide (0 ≤ (2 : Int)) && decide ((2 : Int) < ((4 : Nat) : Int))) (St (w3.drewN n) ⟨o, 2, none⟩ (.int .i64 (IntKind.wrap .i64 (Int.tdiv x95 4))) fun w' => Blk w' b u.enc t ∧ Blk w' w.heap.size [.int .i64 0, .int .i64 0, .int .i64 0, .int .i64 0] 29 ∧ Blk w' o [.int .i64 y0, .int .i64 y1, .int .i64 (waveOut u), .int .i64 0] 29 ∧ Chg (fun _ => False) w w')) := by
      intro n
      refine ⟨_, ld (h3.drewN n) (by rfl), chk_in ok.level.1 (by have := ok.level.2; omega) ⟨_, quarterT_ok ok.level.1 ok.level.2, chk_of (by decide) (St_blk (o3'.drewN n) (by rfl) fun w4 h4 c4 _ => ⟨(h3.drewN n).keep c4 n2, (r3.drewN n).keep c4 n3, ?_, keepc (c3.drewBy n) c4⟩)⟩⟩
      rw [hwo]; exact h4
    have hat : 0 ≤ waveAt u ∧ waveAt u < 64 := by
      have := ok.at_
      unfold waveAt; split
      · rw [tmod_nn this.1]; omega
      · exact this
    have hix : 0 ≤ waveIx u ∧ waveIx u < 32 := by
      unfold waveIx
      rw [tdiv_nn hat.1, wrap_i64 (x := waveAt u / 2) (by omega) (by omega)]
      obtain h | h := ok.page <;> rw [h] <;> rw [wrap_i64 (x := 16 * _) (by omega) (by omega), wrap_i64 (x := _ + waveAt u / 2) (by omega) (by omega), tmod_nn (by omega)] <;> omega
    have hbit : 0 ≤ bits .and .i64 (waveAt u) 1 ∧ bits .and .i64 (waveAt u) 1 < 2 := by
      rw [and64 1 (by decide) (by decide)]; omega
    have hsh : 0 ≤ (IntKind.wrap .i64 (4 - (IntKind.wrap .i64 (4 * (bits .and .i64 (waveAt u) 1))))) := by
      rw [wrap_i64 (x := 4 * _) (by omega) (by omega), wrap_i64 (by omega) (by omega)]; omega
    refine ⟨_, ld h3 (by rfl), _, ld h3 (by rfl), cnd (fun k2 => ?_) (fun k2 => ?_)⟩
    · have ea : Int.tmod u.wave.at_ 32 = waveAt u := by unfold waveAt; rw [if_pos k2]
      simp only [ea]
      refine ⟨_, ld h3 (by rfl), chk_in hix.1 hix.2 ?_⟩
      refine ⟨u.bank (waveIx u).toNat, ?_, chk_dec hsh (Lt_intro fun s8 h8 n => ?_)⟩
      · rw [Nat.mul_one, add_at]; exact ld h3 (bank_get (k := (waveIx u).toNat) (by omega))
      · have : s8 = waveX u := h8
        subst this
        exact fin n
    · have ea : u.wave.at_ = waveAt u := by unfold waveAt; rw [if_neg (by rw [k2]; decide)]
      simp only [ea]
      refine ⟨_, ld h3 (by rfl), chk_in hix.1 hix.2 ?_⟩
      refine ⟨u.bank (waveIx u).toNat, ?_, chk_dec hsh (Lt_intro fun s8 h8 n => ?_)⟩
      · rw [Nat.mul_one, add_at]; exact ld h3 (bank_get (k := (waveIx u).toNat) (by omega))
      · have : s8 = waveX u := h8
        subst this
        exact fin n
  rintro w4 ⟨h4, r4, o4, c4⟩
  generalize waveOut u = y2 at o4 ⊢
  have fin : ∀ w5 y3, y3 = noiseOut u → Blk w5 b u.enc t → Blk w5 w.heap.size [.int .i64 0, .int .i64 0, .int .i64 0, .int .i64 0] 29 → Chg (fun _ => False) w w5 →
      St w5 ⟨w.heap.size, 0, none⟩ (.int .i64 y0) fun w_8 => St w_8 ⟨w.heap.size, 1, none⟩ (.int .i64 y1) fun w_9 => St w_9 ⟨w.heap.size, 2, none⟩ (.int .i64 y2) fun w_10 => St w_10 ⟨w.heap.size, 3, none⟩ (.int .i64 y3) fun w_11 =>
      (∃ (r_0 : Int), w_11.cell? ⟨w.heap.size, 0, none⟩ = some (.int .i64 r_0) ∧ (∃ (r_1 : Int), w_11.cell? ⟨w.heap.size, 1, none⟩ = some (.int .i64 r_1) ∧ (∃ (r_2 : Int), w_11.cell? ⟨w.heap.size, 2, none⟩ = some (.int .i64 r_2) ∧ (∃ (r_3 : Int), w_11.cell? ⟨w.heap.size, 3, none⟩ = some (.int .i64 r_3) ∧
        (Ending.returned (Value.agg #[.int .i64 r_0, .int .i64 r_1, .int .i64 r_2, .int .i64 r_3]) = .returned (.agg #[.int .i64 y0, .int .i64 y1, .int .i64 y2, .int .i64 (noiseOut u)]) ∧ Blk w_11 b u.enc t ∧ Chg (fun _ => False) w w_11))))) := by
    intro w5 y3 hy h5 r5 c5
    subst hy
    refine St_blk r5 (by rfl) fun w6 h6 c6 _ => St_blk h6 (by rfl) fun w7 h7 c7 _ => St_blk h7 (by rfl) fun w8 h8 c8 _ => St_blk h8 (by rfl) fun w9 h9 c9 _ => ?_
    have cc : Chg (· = w.heap.size) w5 w9 := ((c6.trans c7).trans c8).trans c9
    exact ⟨_, ld h9 (by rfl), _, ld h9 (by rfl), _, ld h9 (by rfl), _, ld h9 (by rfl), rfl, h5.keep cc n1, keepr c5 cc⟩
  refine ⟨_, ld h4 (by rfl), cnd (fun k1 => ⟨_, ld h4 (by rfl), cnd_beq (fun k2 => ?_) (fun k2 => ?_)⟩) (fun k1 => ?_)⟩
  · refine ⟨_, ld h4 (by rfl), chk_of (by decide) (St_blk o4 (by rfl) fun w5 o5 c5 _ => ⟨_, ld o5 (by rfl), _, ld o5 (by rfl), _, ld o5 (by rfl), _, ld o5 (by rfl), fin _ _ ?_ (h4.keep c5 n2) (r4.keep c5 n3) (keepc c4 c5)⟩)⟩
    unfold noiseOut; rw [if_pos k1, if_pos k2]
  · refine ⟨_, ld o4 (by rfl), _, ld o4 (by rfl), _, ld o4 (by rfl), _, ld o4 (by rfl), fin _ _ ?_ h4 r4 c4⟩
    unfold noiseOut; rw [if_pos k1, if_neg k2]
  · refine ⟨_, ld o4 (by rfl), _, ld o4 (by rfl), _, ld o4 (by rfl), _, ld o4 (by rfl), fin _ _ ?_ h4 r4 c4⟩
    unfold noiseOut; rw [if_neg (by rw [k1]; decide)]

end Go.Proofs.Ytieamlpjdilcoaa
