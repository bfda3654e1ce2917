/-
  Contracts of the psg unit's methods.
-/
import Derived.Test.YtieamlpjdilcoaaG
import Derived.Test.YtieamlpjdilcoaaMap
namespace Go.Proofs.Ytieamlpjdilcoaa
open Go.Vc
set_option linter.unusedVariables false
set_option maxRecDepth 20000

structure Sq where
  on : Bool
  duty : Int
  length : Int
  useLength : Bool
  start : Int
  step : Int
  up : Bool
  volume : Int
  left : Int
  freq : Int
  wait : Int
  at_ : Int
  sweepBy : Int
  sweepIn : Int
  sweepDown : Bool
  sweepLeft : Int
structure PU where
  s0 : Sq
  s1 : Sq
  wave : Sq
  bank : Nat → Int
  two : Bool
  page : Int
  level : Int
  dac : Bool
  noise : Sq
  lfsr : Int
  narrow : Bool
  shift : Int
  div : Int
  now : Int
  beats : Int
/-- The cells of a unit. -/
def PU.enc (u : PU) : List Value :=
  [.bool u.s0.on, .int .i64 u.s0.duty, .int .i64 u.s0.length, .bool u.s0.useLength, .int .i64 u.s0.start, .int .i64 u.s0.step,
   .bool u.s0.up, .int .i64 u.s0.volume, .int .i64 u.s0.left, .int .i64 u.s0.freq, .int .i64 u.s0.wait, .int .i64 u.s0.at_,
   .int .i64 u.s0.sweepBy, .int .i64 u.s0.sweepIn, .bool u.s0.sweepDown, .int .i64 u.s0.sweepLeft, .bool u.s1.on, .int .i64 u.s1.duty,
   .int .i64 u.s1.length, .bool u.s1.useLength, .int .i64 u.s1.start, .int .i64 u.s1.step, .bool u.s1.up, .int .i64 u.s1.volume,
   .int .i64 u.s1.left, .int .i64 u.s1.freq, .int .i64 u.s1.wait, .int .i64 u.s1.at_, .int .i64 u.s1.sweepBy, .int .i64 u.s1.sweepIn,
   .bool u.s1.sweepDown, .int .i64 u.s1.sweepLeft, .bool u.wave.on, .int .i64 u.wave.duty, .int .i64 u.wave.length, .bool u.wave.useLength,
   .int .i64 u.wave.start, .int .i64 u.wave.step, .bool u.wave.up, .int .i64 u.wave.volume, .int .i64 u.wave.left, .int .i64 u.wave.freq,
   .int .i64 u.wave.wait, .int .i64 u.wave.at_, .int .i64 u.wave.sweepBy, .int .i64 u.wave.sweepIn, .bool u.wave.sweepDown, .int .i64 u.wave.sweepLeft,
   .int .u8 (u.bank 0), .int .u8 (u.bank 1), .int .u8 (u.bank 2), .int .u8 (u.bank 3), .int .u8 (u.bank 4), .int .u8 (u.bank 5),
   .int .u8 (u.bank 6), .int .u8 (u.bank 7), .int .u8 (u.bank 8), .int .u8 (u.bank 9), .int .u8 (u.bank 10), .int .u8 (u.bank 11),
   .int .u8 (u.bank 12), .int .u8 (u.bank 13), .int .u8 (u.bank 14), .int .u8 (u.bank 15), .int .u8 (u.bank 16), .int .u8 (u.bank 17),
   .int .u8 (u.bank 18), .int .u8 (u.bank 19), .int .u8 (u.bank 20), .int .u8 (u.bank 21), .int .u8 (u.bank 22), .int .u8 (u.bank 23),
   .int .u8 (u.bank 24), .int .u8 (u.bank 25), .int .u8 (u.bank 26), .int .u8 (u.bank 27), .int .u8 (u.bank 28), .int .u8 (u.bank 29),
   .int .u8 (u.bank 30), .int .u8 (u.bank 31), .bool u.two, .int .i64 u.page, .int .i64 u.level, .bool u.dac,
   .bool u.noise.on, .int .i64 u.noise.duty, .int .i64 u.noise.length, .bool u.noise.useLength, .int .i64 u.noise.start, .int .i64 u.noise.step,
   .bool u.noise.up, .int .i64 u.noise.volume, .int .i64 u.noise.left, .int .i64 u.noise.freq, .int .i64 u.noise.wait, .int .i64 u.noise.at_,
   .int .i64 u.noise.sweepBy, .int .i64 u.noise.sweepIn, .bool u.noise.sweepDown, .int .i64 u.noise.sweepLeft, .int .i64 u.lfsr, .bool u.narrow,
   .int .i64 u.shift, .int .i64 u.div, .int .i64 u.now, .int .i64 u.beats]


def PU.get (u : PU) : Nat → Sq
  | 0 => u.s0
  | 1 => u.s1
  | 2 => u.wave
  | _ => u.noise
def PU.put (u : PU) (c : Sq) : Nat → PU
  | 0 => { u with s0 := c }
  | 1 => { u with s1 := c }
  | 2 => { u with wave := c }
  | _ => { u with noise := c }
def off : Nat → Nat
  | 0 => 0
  | 1 => 16
  | 2 => 32
  | _ => 84
def ptrs (b : Nat) : List Value := [.pointer (some ⟨b, 0, none⟩), .pointer (some ⟨b, 16, none⟩), .pointer (some ⟨b, 32, none⟩), .pointer (some ⟨b, 84, none⟩)]

theorem ld {w : World} {b o : Nat} {cs : List Value} {t : TypeId} {v : Value} (h : Blk w b cs t) (e : cs[o]? = some v) : w.cell? ⟨b, o, none⟩ = some v := (h.cell o).trans e
theorem Chg.no {B : Nat → Prop} {w w' : World} (h : Chg (fun _ => False) w w') : Chg B w w' := h.mono fun _ _ h => h.elim

/-! ### cycles -/
def cyclesF (u : PU) : Nat → Int
  | 0 => IntKind.wrap .i64 (16 * (IntKind.wrap .i64 (2048 - u.s0.freq)))
  | 1 => IntKind.wrap .i64 (16 * (IntKind.wrap .i64 (2048 - u.s1.freq)))
  | 2 => IntKind.wrap .i64 (8 * (IntKind.wrap .i64 (2048 - u.wave.freq)))
  | _ => IntKind.wrap .i64 ((if u.div = 0 then IntKind.wrap .i64 ((4 : Int) * 8) else IntKind.wrap .i64 (4 * (IntKind.wrap .i64 (16 * u.div)))) * 2 ^ (min u.shift.toNat 64))

theorem cycles_ok {w : World} {b : Nat} {u : PU} {t : TypeId} (hb : Blk w b u.enc t) (hs : 0 ≤ u.shift) (i : Nat) (hi : i < 4) :
    Calls Try.prog n_cycles #[.pointer (some ⟨b, 0, none⟩), .int .i64 i] w fun e w' => e = .returned (.int .i64 (cyclesF u i)) ∧ Blk w' b u.enc t ∧ Chg (· = b) w w' := by
  apply c_cycles
  unfold p_cycles
  obtain rfl | rfl | rfl | rfl : i = 0 ∨ i = 1 ∨ i = 2 ∨ i = 3 := by omega
  · exact ⟨_, ld hb (by rfl), rfl, hb, Chg.refl _ _⟩
  · exact ⟨_, ld hb (by rfl), rfl, hb, Chg.refl _ _⟩
  · exact ⟨_, ld hb (by rfl), rfl, hb, Chg.refl _ _⟩
  · refine ⟨_, ld hb (by rfl), _, ld hb (by rfl), cnd_beq (fun k => ?_) (fun k => ?_)⟩
    · refine ⟨_, ld hb (by rfl), chk_dec hs ⟨?_, hb, Chg.refl _ _⟩⟩
      simp only [cyclesF]; rw [if_pos k]
    · refine ⟨_, ld hb (by rfl), chk_dec hs ⟨?_, hb, Chg.refl _ _⟩⟩
      simp only [cyclesF]; rw [if_neg k]

/-! ### clock -/
def clockF (u : PU) : PU :=
  let x := bits .and .i64 (bits .xor .i64 u.lfsr (Int.fdiv u.lfsr 2)) 1
  let l := bits .or .i64 (Int.fdiv u.lfsr 2) (IntKind.wrap .i64 (x * 16384))
  if u.narrow then { u with lfsr := bits .or .i64 (bits .andNot .i64 l 64) (IntKind.wrap .i64 (x * 64)) } else { u with lfsr := l }
theorem clock_ok {w : World} {b : Nat} {u : PU} {t : TypeId} (hb : Blk w b u.enc t) :
    Calls Try.prog n_clock #[.pointer (some ⟨b, 0, none⟩)] w fun e w' => e = .returned (.tuple #[]) ∧ Blk w' b (clockF u).enc t ∧ Chg (· = b) w w' := by
  apply c_clock
  unfold p_clock
  refine ⟨_, ld hb (by rfl), _, ld hb (by rfl), Lt_intro fun x hx n => ⟨_, ld (hb.drewN n) (by rfl), St_blk (hb.drewN n) (by rfl) fun w1 h1 c1 _ => ⟨_, ld h1 (by rfl), cnd (fun k => ?_) (fun k => ?_)⟩⟩⟩
  · refine ⟨_, ld h1 (by rfl), St_blk h1 (by rfl) fun w2 h2 c2 _ => ⟨rfl, ?_, by (repeat first | exact Chg.refl _ _ | assumption | exact Chg.no (by assumption) | refine Chg.trans ?_ (by assumption) | refine Chg.trans ?_ (Chg.no (by assumption)) | refine Chg.drewBy ?_ _)⟩⟩
    subst hx
    simp only [clockF]; rw [if_pos k]; exact h2
  · refine ⟨rfl, ?_, by (repeat first | exact Chg.refl _ _ | assumption | exact Chg.no (by assumption) | refine Chg.trans ?_ (by assumption) | refine Chg.trans ?_ (Chg.no (by assumption)) | refine Chg.drewBy ?_ _)⟩
    subst hx
    simp only [clockF]; rw [if_neg (by simp [k])]; exact h1
def clockN : Nat → PU → PU
  | 0, u => u
  | n + 1, u => clockF (clockN n u)

end Go.Proofs.Ytieamlpjdilcoaa
