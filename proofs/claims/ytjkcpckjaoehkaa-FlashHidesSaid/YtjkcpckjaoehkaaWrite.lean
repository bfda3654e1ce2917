/-
  The flash chip's Write.
-/
import Derived.Test.YtjkcpckjaoehkaaChip
namespace Go.Proofs.Ytjkcpckjaoehkaa
open Go.Vc
set_option linter.unusedVariables false

theorem conv1 {w : World} {b : Nat} {v : Int} {t : TypeId} (h : Blk w b [.int .u8 v] t) (h0 : 0 ≤ v) (h1 : v < 256) :
    (Go.convert 55 9 (.slice (some ⟨b, 0, none⟩) 1 1)).run Try.prog w = .ok (.string (bs [UInt8.ofNat v.toNat])) w := by
  have := run_convert_bytes_back (P := Try.prog) w 55 9 5 ⟨b, 0, none⟩ 1 [UInt8.ofNat v.toNat] Try.underlying55 Try.underlying5 Try.underlying9 (fun j hj => by
    obtain rfl : j = 0 := by simpa using hj
    rw [add_at]
    refine ld h ?_
    have e : ((UInt8.ofNat v.toNat).toNat : Int) = v := by
      rw [UInt8.toNat_ofNat']; omega
    show some (Value.int .u8 v) = some (Value.int .u8 ((UInt8.ofNat v.toNat).toNat : Int))
    rw [e])
  exact this

def commandF (c : Chip) (b : Int) : Int × Chip :=
  if b = 144 then (0, { c with id := true }) else if b = 240 then (0, { c with id := false }) else if b = 128 then (5, c) else if b = 160 then (3, c) else if b = 176 then (4, c) else (0, c)
theorem command_ok {w : World} {bl : Nat} {c : Chip} {t : TypeId} (hb : Blk w bl c.enc t) (b : Int) :
    Calls Try.prog n_command #[.pointer (some ⟨bl, 0, none⟩), .int .u8 b] w fun e w' => e = .returned (.int .i64 (commandF c b).1) ∧ Blk w' bl (commandF c b).2.enc t ∧ Chg (· = bl) w w' := by
  apply c_command
  unfold p_command commandF
  refine cnd_beq (fun h => ?_) (fun h => cnd_beq (fun h2 => ?_) (fun h2 => cnd_beq (fun h3 => ?_) (fun h3 => cnd_beq (fun h4 => ?_) (fun h4 => cnd_beq (fun h5 => ?_) (fun h5 => ?_)))))
  · rw [if_pos h]; exact St_blk hb (by rfl) fun w1 h1 c1 _ => ⟨rfl, h1, c1⟩
  · rw [if_neg h, if_pos h2]; exact St_blk hb (by rfl) fun w1 h1 c1 _ => ⟨rfl, h1, c1⟩
  · rw [if_neg h, if_neg h2, if_pos h3]; exact ⟨rfl, hb, Chg.refl _ _⟩
  · rw [if_neg h, if_neg h2, if_neg h3, if_pos h4]; exact ⟨rfl, hb, Chg.refl _ _⟩
  · rw [if_neg h, if_neg h2, if_neg h3, if_neg h4, if_pos h5]; exact ⟨rfl, hb, Chg.refl _ _⟩
  · rw [if_neg h, if_neg h2, if_neg h3, if_neg h4, if_neg h5]; exact ⟨rfl, hb, Chg.refl _ _⟩

def s1F (c : Chip) (a b : Int) : Bool := (c.state == 0 || c.state == 5) && (a == 21845 && b == 170)
def s2F (c : Chip) (a b : Int) : Bool := (c.state == 1 || c.state == 6) && (a == 10922 && b == 85)
def stepF (c : Chip) (a b : Int) : Int × Chip :=
  if s1F c a b = true then (IntKind.wrap .i64 (c.state + 1), c) else if s2F c a b = true then (IntKind.wrap .i64 (c.state + 1), c) else
  if c.state = 2 ∧ a = 21845 then commandF c b else if c.state = 0 ∧ b = 240 then (0, { c with id := false }) else (0, c)
theorem step_ok {w : World} {bl : Nat} {c : Chip} {t : TypeId} (hb : Blk w bl c.enc t) (a b : Int) :
    Calls Try.prog n_step #[.pointer (some ⟨bl, 0, none⟩), .int .i64 a, .int .u8 b] w fun e w' => e = .returned (.int .i64 (stepF c a b).1) ∧ Blk w' bl (stepF c a b).2.enc t ∧ Chg (· = bl) w w' := by
  apply c_step
  unfold p_step
  refine ⟨fun vs w' => vs = [.bool (s1F c a b)] ∧ w' = w, ?_, ?_⟩
  · refine ⟨_, ld hb (by rfl), cnd (fun h => cnd (fun h2 => ⟨?_, rfl⟩) (fun h2 => ⟨?_, rfl⟩)) (fun h => ⟨_, ld hb (by rfl), cnd (fun h2 => cnd (fun h3 => ⟨?_, rfl⟩) (fun h3 => ⟨?_, rfl⟩)) (fun h2 => ⟨?_, rfl⟩)⟩)⟩
    all_goals simp [s1F, *]
  rintro s w1 ⟨e, rfl⟩
  obtain rfl : s = s1F c a b := by simpa using e
  unfold stepF
  refine cnd (fun k1 => ⟨_, ld hb (by rfl), ?_⟩) (fun k1 => ?_)
  · rw [if_pos k1]; exact ⟨rfl, hb, Chg.refl _ _⟩
  rw [if_neg (by rw [k1]; decide)]
  refine ⟨fun vs w' => vs = [.bool (s2F c a b)] ∧ w' = w1, ?_, ?_⟩
  · refine ⟨_, ld hb (by rfl), cnd (fun h => cnd (fun h2 => ⟨?_, rfl⟩) (fun h2 => ⟨?_, rfl⟩)) (fun h => ⟨_, ld hb (by rfl), cnd (fun h2 => cnd (fun h3 => ⟨?_, rfl⟩) (fun h3 => ⟨?_, rfl⟩)) (fun h2 => ⟨?_, rfl⟩)⟩)⟩
    all_goals simp [s2F, *]
  rintro s w2 ⟨e, rfl⟩
  obtain rfl : s = s2F c a b := by simpa using e
  refine cnd (fun k2 => ⟨_, ld hb (by rfl), ?_⟩) (fun k2 => ?_)
  · rw [if_pos k2]; exact ⟨rfl, hb, Chg.refl _ _⟩
  rw [if_neg (by rw [k2]; decide)]
  refine ⟨_, ld hb (by rfl), cnd_beq (fun h => cnd_beq (fun h2 => ?_) (fun h2 => ?_)) (fun h => ?_)⟩
  · rw [if_pos (show c.state = 2 ∧ a = 21845 from ⟨h, h2⟩)]
    exact (command_ok hb b).mono fun e w3 ⟨he, h3, c3⟩ => ⟨_, he, rfl, h3, c3⟩
  · rw [if_neg (show ¬ (c.state = 2 ∧ a = 21845) from fun x => h2 x.2)]
    refine ⟨_, ld hb (by rfl), cnd_beq (fun h3 => cnd_beq (fun h4 => St_blk hb (by rfl) fun w3 h3' c3 _ => ?_) (fun h4 => ?_)) (fun h3 => ?_)⟩
    · rw [if_pos (show c.state = 0 ∧ b = 240 from ⟨h3, h4⟩)]; exact ⟨rfl, h3', c3⟩
    · rw [if_neg (show ¬ (c.state = 0 ∧ b = 240) from fun x => h4 x.2)]; exact ⟨rfl, hb, Chg.refl _ _⟩
    · rw [if_neg (show ¬ (c.state = 0 ∧ b = 240) from fun x => h3 x.1)]; exact ⟨rfl, hb, Chg.refl _ _⟩
  · rw [if_neg (show ¬ (c.state = 2 ∧ a = 21845) from fun x => h x.1)]
    refine ⟨_, ld hb (by rfl), cnd_beq (fun h3 => cnd_beq (fun h4 => St_blk hb (by rfl) fun w3 h3' c3 _ => ?_) (fun h4 => ?_)) (fun h3 => ?_)⟩
    · rw [if_pos (show c.state = 0 ∧ b = 240 from ⟨h3, h4⟩)]; exact ⟨rfl, h3', c3⟩
    · rw [if_neg (show ¬ (c.state = 0 ∧ b = 240) from fun x => h4 x.2)]; exact ⟨rfl, hb, Chg.refl _ _⟩
    · rw [if_neg (show ¬ (c.state = 0 ∧ b = 240) from fun x => h3 x.1)]; exact ⟨rfl, hb, Chg.refl _ _⟩

/-! ### Write -/
structure Res where
  k : Int
  a : Int
  d : List UInt8
  ok : Bool
def Res.val (r : Res) : Value := .tuple #[cmdV r.k r.a r.d, .bool r.ok]
def noneR : Res := ⟨0, 0, [], false⟩
def doneF (c : Chip) (k a : Int) (d : List UInt8) : Res × Chip := (⟨k, a, d, true⟩, { c with mem := (applyF c.mem k a d).1 })
def putByte (c : Chip) (x b : Int) : List UInt8 := [UInt8.ofNat (bits .and .u8 b (byteAt c.mem (c.bank * 65536 + at16 x))).toNat]
def eraseAt (c : Chip) (x : Int) : Int := bits .or .i64 (IntKind.wrap .i64 (c.bank * 65536)) (bits .and .i64 (at16 x) 61440)
def writeF (c : Chip) (x b : Int) : Res × Chip :=
  if c.state = 3 then doneF { c with state := 0 } 1 (c.bank * 65536 + at16 x) (putByte c x b) else
  if c.state = 4 then (noneR, if at16 x = 0 ∧ c.mem.length = 131072 then { c with state := 0, bank := IntKind.wrap .i64 (bits .and .u8 b 1) } else { c with state := 0 }) else
  if c.state = 7 then (if at16 x = 21845 ∧ b = 16 then doneF { c with state := 0 } 3 0 [] else if b = 48 then doneF { c with state := 0 } 2 (eraseAt c x) [] else (noneR, { c with state := 0 })) else
  (noneR, { (stepF c (at16 x) b).2 with state := (stepF c (at16 x) b).1 })

theorem ret_ok {w1 : World} {x : Nat} {k0 a0 : Int} {s0 : ByteArray} (hx : Blk w1 x [.int .i64 k0, .int .i64 a0, .string s0] 35) (k a : Int) (d : ByteArray) (ok : Bool) {R : Ending → World → Prop}
    (K : ∀ w', Chg (· = x) w1 w' → R (.returned (.tuple #[.agg #[.int .i64 k, .int .i64 a, .string d], .bool ok])) w') :
    St w1 ⟨x, 0, none⟩ (.int .i64 k) fun w_5 => St w_5 ⟨x, 1, none⟩ (.int .i64 a) fun w_6 => St w_6 ⟨x, 2, none⟩ (.string d) fun w_7 => (∃
  (r_0 : Int), w_7.cell? ⟨x, 0, none⟩ = some (.int .i64 r_0) ∧ (∃ (r_1 : Int), w_7.cell? ⟨x, 1, none⟩ = some (.int .i64 r_1) ∧ (∃ (r_2 : ByteArray), w_7.cell? ⟨x, 2, none⟩ = some (.string r_2) ∧ R
  (.returned (.tuple #[.agg #[.int .i64 r_0, .int .i64 r_1, .string r_2], .bool ok])) w_7))) :=
  St_blk hx (by rfl) fun w2 h2 c2 _ => St_blk h2 (by rfl) fun w3 h3 c3 _ => St_blk h3 (by rfl) fun w4 h4 c4 _ => ⟨_, ld h4 (by rfl), _, ld h4 (by rfl), _, ld h4 (by rfl), K w4 ((c2.trans c3).trans c4)⟩

theorem byteAt_bound (m : List UInt8) (i : Int) : 0 ≤ byteAt m i ∧ byteAt m i < 256 := by
  unfold byteAt
  have := (m.getD i.toNat 0).toNat_lt
  omega
theorem and8_bound {a b : Int} (h0 : 0 ≤ a) (h1 : a < 256) (h2 : 0 ≤ b) (h3 : b < 256) : 0 ≤ bits .and .u8 a b ∧ bits .and .u8 a b < 256 := by
  rw [u8_and a b h0 h1 h2 h3]
  have : a.toNat &&& b.toNat ≤ a.toNat := Nat.and_le_left
  omega

set_option maxHeartbeats 2000000 in
theorem write_ok {w : World} {bl : Nat} {c : Chip} {t : TypeId} (hb : Blk w bl c.enc t) (ok : Ok c) (x b : Int) (h0 : 0 ≤ x) (h1 : x < 4294967296) (b0 : 0 ≤ b) (b1 : b < 256) :
    Calls Try.prog n_Write #[.pointer (some ⟨bl, 0, none⟩), .int .u32 x, .int .u8 b] w fun e w' => e = .returned (writeF c x b).1.val ∧ Blk w' bl (writeF c x b).2.enc t ∧ Chg (· = bl) w w' := by
  apply c_Write
  suffices h : ∀ R : Ending → World → Prop, (∀ w', Blk w' bl (writeF c x b).2.enc t → Chg (· = bl) w w' → R (.returned (writeF c x b).1.val) w') → p_Write bl x b R w from h _ (fun w' h c => ⟨rfl, h, c⟩)
  intro R hR
  unfold p_Write
  rw [at16_ok h0 h1]
  have hlen : c.mem.length ≤ 140737488355328 := by rcases ok.len with h | h <;> omega
  refine Nw_blk (cs := [.int .i64 0, .int .i64 0, .string (ByteArray.mk #[])]) fun w1 hx cx _ => Lt_intro fun s8 hs8 => ?_
  subst hs8
  have n1 : bl ≠ w.heap.size := Nat.ne_of_lt hb.lt
  have hb1 : Blk w1 bl c.enc t := hb.keep cx id
  have hcx : Chg (· = bl) w w1 := Chg.no cx
  have hsz : w.heap.size ≤ w.heap.size := Nat.le_refl _
  generalize hz : w.heap.size = z at hx n1 hsz
  have tail : ∀ {w' w'' : World}, Chg (· = bl) w w' → Chg (· = z) w' w'' → Chg (· = bl) w w'' := fun h h' => h.then h' fun k hk e => by omega
  refine ⟨_, ld hb1 (by rfl), cnd_beq (fun k3 => ?_) (fun k3 => cnd_beq (fun k4 => ?_) (fun k4 => cnd_beq (fun k7 => ?_) (fun k7 => ?_)))⟩
  · have e : writeF c x b = doneF { c with state := 0 } 1 (c.bank * 65536 + at16 x) (putByte c x b) := by unfold writeF; rw [if_pos k3]
    rw [e] at hR
    obtain ⟨p1, p2, p3⟩ := put_ok ok (x := x)
    refine St_blk hb1 (by rfl) fun w2 h2 c2 _ => ⟨_, ld h2 (by rfl), Lt_intro fun s9 hs9 => ⟨_, ld h2 (by rfl), ?_⟩⟩
    rw [p1] at hs9
    subst hs9
    rw [bs_size, sbyte_bs]
    have hbb := and8_bound b0 b1 (byteAt_bound c.mem (c.bank * 65536 + at16 x)).1 (byteAt_bound c.mem (c.bank * 65536 + at16 x)).2
    refine chk_in p2 p3 (Nw_blk (cs := [.int .u8 (bits .and .u8 b (byteAt c.mem (c.bank * 65536 + at16 x)))]) fun w3 h3 c3 _ => ⟨_, _, conv1 h3 hbb.1 hbb.2, ?_⟩)
    have h2' : Blk w3 bl (Chip.enc { c with state := 0 }) t := h2.keep c3 id
    have hx3 := (hx.keep c2 (Ne.symm n1)).keep c3 id
    refine (done_ok h2' hlen 1 (c.bank * 65536 + at16 x) (putByte c x b)).mono fun e w4 ⟨he, h4, c4⟩ => ⟨_, _, _, _, he, ?_⟩
    exact ret_ok (hx3.keep c4 (Ne.symm n1)) _ _ _ _ fun w5 c5 => hR w5 (h4.keep c5 n1) (tail (((hcx.trans c2).trans (Chg.no c3)).trans c4) c5)
  · have e : writeF c x b = (noneR, if at16 x = 0 ∧ c.mem.length = 131072 then { c with state := 0, bank := IntKind.wrap .i64 (bits .and .u8 b 1) } else { c with state := 0 }) := by unfold writeF; rw [if_neg k3, if_pos k4]
    rw [e] at hR
    refine St_blk hb1 (by rfl) fun w2 h2 c2 _ => cnd_beq (fun k5 => ⟨_, ld h2 (by rfl), ?_⟩) (fun k5 => ?_)
    · rw [bs_size]
      refine cnd_beq (fun k6 => St_blk h2 (by rfl) fun w3 h3 c3 _ => ?_) (fun k6 => ?_)
      · rw [if_pos (show at16 x = 0 ∧ c.mem.length = 131072 from ⟨k5, by omega⟩)] at hR
        exact ret_ok ((hx.keep c2 (Ne.symm n1)).keep c3 (Ne.symm n1)) _ _ _ _ fun w5 c5 => hR w5 (h3.keep c5 n1) (tail ((hcx.trans c2).trans c3) c5)
      · rw [if_neg (show ¬ (at16 x = 0 ∧ c.mem.length = 131072) from fun h => k6 (by omega))] at hR
        exact ret_ok (hx.keep c2 (Ne.symm n1)) _ _ _ _ fun w5 c5 => hR w5 (h2.keep c5 n1) (tail (hcx.trans c2) c5)
    · rw [if_neg (show ¬ (at16 x = 0 ∧ c.mem.length = 131072) from fun h => k5 h.1)] at hR
      exact ret_ok (hx.keep c2 (Ne.symm n1)) _ _ _ _ fun w5 c5 => hR w5 (h2.keep c5 n1) (tail (hcx.trans c2) c5)
  · have e : writeF c x b = (if at16 x = 21845 ∧ b = 16 then doneF { c with state := 0 } 3 0 [] else if b = 48 then doneF { c with state := 0 } 2 (eraseAt c x) [] else (noneR, { c with state := 0 })) := by unfold writeF; rw [if_neg k3, if_neg k4, if_pos k7]
    rw [e] at hR
    refine St_blk hb1 (by rfl) fun w2 h2 c2 _ => ?_
    have h2' : Blk w2 bl (Chip.enc { c with state := 0 }) t := h2
    have hx2 := hx.keep c2 (Ne.symm n1)
    refine cnd_beq (fun k5 => cnd_beq (fun k6 => ?_) (fun k6 => ?_)) (fun k5 => ?_)
    · rw [if_pos (show at16 x = 21845 ∧ b = 16 from ⟨k5, k6⟩)] at hR
      refine (done_ok h2' hlen 3 0 []).mono fun e w4 ⟨he, h4, c4⟩ => ⟨_, _, _, _, he, ?_⟩
      exact ret_ok (hx2.keep c4 (Ne.symm n1)) _ _ _ _ fun w5 c5 => hR w5 (h4.keep c5 n1) (tail ((hcx.trans c2).trans c4) c5)
    · rw [if_neg (show ¬ (at16 x = 21845 ∧ b = 16) from fun h => k6 h.2)] at hR
      refine cnd_beq (fun k9 => ⟨_, ld h2 (by rfl), (done_ok h2' hlen 2 (eraseAt c x) []).mono fun e w4 ⟨he, h4, c4⟩ => ⟨_, _, _, _, he, ?_⟩⟩) (fun k9 => ?_)
      · rw [if_pos k9] at hR
        exact ret_ok (hx2.keep c4 (Ne.symm n1)) _ _ _ _ fun w5 c5 => hR w5 (h4.keep c5 n1) (tail ((hcx.trans c2).trans c4) c5)
      · rw [if_neg k9] at hR
        exact ret_ok hx2 _ _ _ _ fun w5 c5 => hR w5 (h2.keep c5 n1) (tail (hcx.trans c2) c5)
    · rw [if_neg (show ¬ (at16 x = 21845 ∧ b = 16) from fun h => k5 h.1)] at hR
      refine cnd_beq (fun k9 => ⟨_, ld h2 (by rfl), (done_ok h2' hlen 2 (eraseAt c x) []).mono fun e w4 ⟨he, h4, c4⟩ => ⟨_, _, _, _, he, ?_⟩⟩) (fun k9 => ?_)
      · rw [if_pos k9] at hR
        exact ret_ok (hx2.keep c4 (Ne.symm n1)) _ _ _ _ fun w5 c5 => hR w5 (h4.keep c5 n1) (tail ((hcx.trans c2).trans c4) c5)
      · rw [if_neg k9] at hR
        exact ret_ok hx2 _ _ _ _ fun w5 c5 => hR w5 (h2.keep c5 n1) (tail (hcx.trans c2) c5)
  · have e : writeF c x b = (noneR, { (stepF c (at16 x) b).2 with state := (stepF c (at16 x) b).1 }) := by unfold writeF; rw [if_neg k3, if_neg k4, if_neg k7]
    rw [e] at hR
    refine (step_ok hb1 (at16 x) b).mono fun e w2 ⟨he, h2, c2⟩ => ⟨_, he, St_blk h2 (by rfl) fun w3 h3 c3 _ => ?_⟩
    exact ret_ok ((hx.keep c2 (Ne.symm n1)).keep c3 (Ne.symm n1)) _ _ _ _ fun w5 c5 => hR w5 (h3.keep c5 n1) (tail ((hcx.trans c2).trans c3) c5)

end Go.Proofs.Ytjkcpckjaoehkaa
