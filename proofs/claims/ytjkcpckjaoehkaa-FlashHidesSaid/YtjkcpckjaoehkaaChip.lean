/-
  Contracts of the flash chip's methods.
-/
import Derived.Test.YtjkcpckjaoehkaaSeal
namespace Go.Proofs.Ytjkcpckjaoehkaa
open Go.Vc
set_option linter.unusedVariables false

theorem ld {w : World} {b o : Nat} {cs : List Value} {t : TypeId} {v : Value} (h : Blk w b cs t) (e : cs[o]? = some v) : w.cell? ⟨b, o, none⟩ = some v := (h.cell o).trans e
theorem Chg.no {B : Nat → Prop} {w w' : World} (h : Chg (fun _ => False) w w') : Chg B w w' := h.mono fun _ _ h => h.elim

structure Chip where
  mem : List UInt8
  state : Int
  id : Bool
  bank : Int
def Chip.enc (c : Chip) : List Value := [.string (bs c.mem), .int .i64 c.state, .bool c.id, .int .i64 c.bank]
structure Ok (c : Chip) : Prop where
  len : c.mem.length = 65536 ∨ c.mem.length = 131072
  bank : c.bank = 0 ∨ (c.bank = 1 ∧ c.mem.length = 131072)
def at16 (x : Int) : Int := x % 65536
theorem at16_ok {x : Int} (h0 : 0 ≤ x) (h1 : x < 4294967296) : IntKind.wrap .i64 (bits .and .u32 x 65535) = at16 x := by
  rw [and32 16 (by decide) (by decide) h0 h1, wrap_i64 (by omega) (by omega)]; rfl
theorem put_ok {c : Chip} (h : Ok c) {x : Int} : bits .or .i64 (IntKind.wrap .i64 (c.bank * 65536)) (at16 x) = c.bank * 65536 + at16 x ∧ 0 ≤ c.bank * 65536 + at16 x ∧ c.bank * 65536 + at16 x < c.mem.length := by
  have hl := h.len
  have hx : 0 ≤ at16 x ∧ at16 x < 65536 := by unfold at16; omega
  rcases h.bank with hb | ⟨hb, hb'⟩ <;> rw [hb]
  · rw [wrap_i64 (by omega) (by omega), or64 16 hx.1 (by omega) (by omega) (by omega) (by omega)]; omega
  · rw [wrap_i64 (by omega) (by omega), or64 16 hx.1 (by omega) (by omega) (by omega) (by omega)]; omega

/-! ### New, Image -/
def newF (m : List UInt8) : Bool := decide (m.length = 65536 ∨ m.length = 131072)
theorem new_ok (m : List UInt8) (w : World) :
    Calls Try.prog n_New #[.string (bs m)] w fun e w' => Chg (fun _ => False) w w' ∧ ((newF m = false ∧ e = .returned (.tuple #[.pointer none, .int .i64 1])) ∨
      (newF m = true ∧ e = .returned (.tuple #[.pointer (some ⟨w.heap.size, 0, none⟩), .int .i64 0]) ∧ Blk w' w.heap.size (Chip.enc ⟨m, 0, false, 0⟩) 53)) := by
  apply c_New
  unfold p_New
  rw [bs_size]
  refine cnd_bne (fun h1 => cnd_bne (fun h2 => ⟨Chg.refl _ _, .inl ⟨?_, rfl⟩⟩) (fun h2 => Nw_blk (cs := Chip.enc ⟨m, 0, false, 0⟩) fun w1 hb c1 s1 => ⟨c1, .inr ⟨?_, rfl, hb⟩⟩)) (fun h1 => Nw_blk (cs := Chip.enc ⟨m, 0, false, 0⟩) fun w1 hb c1 s1 => ⟨c1, .inr ⟨?_, rfl, hb⟩⟩)
  · exact decide_eq_false (by omega)
  · exact decide_eq_true (by omega)
  · exact decide_eq_true (by omega)
theorem image_ok {w : World} {b : Nat} {c : Chip} {t : TypeId} (hb : Blk w b c.enc t) :
    Calls Try.prog n_Image #[.pointer (some ⟨b, 0, none⟩)] w fun e w' => e = .returned (.string (bs c.mem)) ∧ Blk w' b c.enc t ∧ Chg (fun _ => False) w w' := by
  apply c_Image
  exact ⟨_, ld hb (by rfl), rfl, hb, Chg.refl _ _⟩

/-! ### Read -/
def makerF (c : Chip) (i : Int) : Int := if c.mem.length = 131072 then (if i = 0 then 98 else 19) else (if i = 0 then 50 else 27)
theorem maker_ok {w : World} {b : Nat} {c : Chip} {t : TypeId} (hb : Blk w b c.enc t) (i : Int) (h0 : 0 ≤ i) (h1 : i < 2) :
    Calls Try.prog n_maker #[.pointer (some ⟨b, 0, none⟩), .int .i64 i] w fun e w' => e = .returned (.int .u8 (makerF c i)) ∧ Blk w' b c.enc t ∧ Chg (fun _ => False) w w' := by
  apply c_maker
  unfold p_maker
  refine ⟨_, ld hb (by rfl), ?_⟩
  rw [bs_size]
  unfold makerF
  refine cnd_beq (fun h => chk_in h0 (by omega) ⟨if i = 0 then 98 else 19, ?_, ?_, hb, Chg.refl _ _⟩) (fun h => chk_in h0 (by omega) ⟨if i = 0 then 50 else 27, ?_, ?_, hb, Chg.refl _ _⟩)
  · obtain rfl | rfl : i = 0 ∨ i = 1 := by omega
    all_goals rfl
  · rw [if_pos (show c.mem.length = 131072 by omega)]
  · obtain rfl | rfl : i = 0 ∨ i = 1 := by omega
    all_goals rfl
  · rw [if_neg (show ¬ c.mem.length = 131072 by omega)]
def byteAt (m : List UInt8) (i : Int) : Int := ((m.getD i.toNat 0).toNat : Int)
def readF (c : Chip) (x : Int) : Int := if c.id = true ∧ at16 x < 2 then makerF c (at16 x) else byteAt c.mem (c.bank * 65536 + at16 x)
theorem read_ok {w : World} {b : Nat} {c : Chip} {t : TypeId} (hb : Blk w b c.enc t) (ok : Ok c) (x : Int) (h0 : 0 ≤ x) (h1 : x < 4294967296) :
    Calls Try.prog n_Read #[.pointer (some ⟨b, 0, none⟩), .int .u32 x] w fun e w' => e = .returned (.int .u8 (readF c x)) ∧ Blk w' b c.enc t ∧ Chg (fun _ => False) w w' := by
  apply c_Read
  unfold p_Read
  rw [at16_ok h0 h1]
  have hx : 0 ≤ at16 x ∧ at16 x < 65536 := by unfold at16; omega
  obtain ⟨p1, p2, p3⟩ := put_ok ok (x := x)
  have fin : ∀ n, ¬ (c.id = true ∧ at16 x < 2) → (Ending.returned (Value.int .u8 (byteAt c.mem (c.bank * 65536 + at16 x))) = .returned (.int .u8 (readF c x)) ∧ Blk (w.drewN n) b c.enc t ∧ Chg (fun _ => False) w (w.drewN n)) := by
    intro n h
    unfold readF; rw [if_neg h]
    exact ⟨rfl, hb.drewN n, Chg.drewN _ _ n⟩
  refine Lt_intro fun s5 hs => ?_
  subst hs
  refine ⟨_, ld hb (by rfl), cnd (fun k1 => cnd_dec (fun k2 => ?_) (fun k2 => ?_)) (fun k1 => ?_)⟩
  · refine (maker_ok hb _ hx.1 k2).mono fun e w1 ⟨he, h1, c1⟩ => ⟨_, he, ?_, h1, c1⟩
    unfold readF; rw [if_pos ⟨k1, k2⟩]
  · refine ⟨_, ld hb (by rfl), _, ld hb (by rfl), ?_⟩
    rw [p1, bs_size, sbyte_bs]
    exact chk_in p2 p3 (Lt_intro fun s hs n => by subst hs; exact fin n (fun h => k2 h.2))
  · refine ⟨_, ld hb (by rfl), _, ld hb (by rfl), ?_⟩
    rw [p1, bs_size, sbyte_bs]
    exact chk_in p2 p3 (Lt_intro fun s hs n => by subst hs; exact fin n (fun h => by rw [k1] at h; cases h.1))

/-! ### Write -/
theorem done_ok {w : World} {b : Nat} {c : Chip} {t : TypeId} (hb : Blk w b c.enc t) (hm : c.mem.length ≤ 140737488355328) (k a : Int) (d : List UInt8) :
    Calls Try.prog n_done #[.pointer (some ⟨b, 0, none⟩), cmdV k a d] w fun e w' => e = .returned (.tuple #[cmdV k a d, .bool true]) ∧ Blk w' b (Chip.enc { c with mem := (applyF c.mem k a d).1 }) t ∧ Chg (· = b) w w' := by
  apply c_done
  unfold p_done
  refine Nw_blk (cs := [.int .i64 k, .int .i64 a, .string (bs d)]) fun w1 hx c1 s1 => Nw_blk (cs := [.int .i64 0, .int .i64 0, .string (ByteArray.mk #[])]) fun w2 hy c2 s2 => ?_
  have hlt := hb.lt
  have n1 : b ≠ w.heap.size := Nat.ne_of_lt hlt
  have n2 : b ≠ w1.heap.size := by omega
  have n3 : w.heap.size ≠ w1.heap.size := by omega
  have n4 : w.heap.size ≤ w1.heap.size := by omega
  have hb2 : Blk w2 b c.enc t := (hb.keep c1 id).keep c2 id
  have hx2 := hx.keep c2 id
  have hc2 : Chg (fun _ => False) w w2 := c1.trans c2
  generalize w1.heap.size = y at *
  generalize hx0 : w.heap.size = x at *
  refine ⟨fun w' => Blk w' x [.int .i64 k, .int .i64 a, .string (bs d)] 35 ∧ Blk w' b c.enc t, ⟨hx2.drewN 1, hb2.drewN 1⟩, _, fun _ h => ld h.2 (by rfl), _, fun _ h => ld h.1 (by rfl), _, fun _ h => ld h.1 (by rfl), _, fun _ h => ld h.1 (by rfl), ?_⟩
  refine (apply_ok c.mem hm k a d (w2.drewN 1)).mono fun e w3 ⟨he, c3⟩ => ⟨_, _, he, ?_⟩
  have hb3 := (hb2.drewN 1).keep c3 id
  have hx3 := (hx2.drewN 1).keep c3 id
  have hy3 := (hy.drewN 1).keep c3 id
  refine St_blk hb3 (by rfl) fun w4 hb4 c4 _ => ?_
  have hx4 := hx3.keep c4 (Ne.symm n1)
  have hy4 := hy3.keep c4 (Ne.symm n2)
  refine ⟨_, ld hx4 (by rfl), _, ld hx4 (by rfl), _, ld hx4 (by rfl), St_blk hy4 (by rfl) fun w5 h5 c5 _ => St_blk h5 (by rfl) fun w6 h6 c6 _ => St_blk h6 (by rfl) fun w7 h7 c7 _ => ⟨_, ld h7 (by rfl), _, ld h7 (by rfl), _, ld h7 (by rfl), rfl, ?_, ?_⟩⟩
  · exact hb4.keep ((c5.trans c6).trans c7) n2
  · have ca : Chg (· = b) w w4 := ((Chg.no hc2).drewBy 1 |>.trans (Chg.no c3)).trans c4
    exact ca.then ((c5.trans c6).trans c7) fun j hj e => by omega

end Go.Proofs.Ytjkcpckjaoehkaa
