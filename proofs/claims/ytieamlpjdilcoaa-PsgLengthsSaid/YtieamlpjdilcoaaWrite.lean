/-
  Write, Bank, Out, Playing.
-/
import Derived.Test.YtieamlpjdilcoaaReg
import Derived.Test.YtieamlpjdilcoaaBits
namespace Go.Proofs.Ytieamlpjdilcoaa
open Go.Vc
set_option linter.unusedVariables false
set_option maxRecDepth 20000

/-! ### a map of channels -/
def dutyC (c : Sq) (x : Int) : Sq :=
  let d : Sq := { c with length := IntKind.wrap .i64 (64 - (IntKind.wrap .i64 (bits .and .u16 x 63))), duty := IntKind.wrap .i64 (bits .and .u16 (Int.fdiv x 64) 3),
                         step := IntKind.wrap .i64 (bits .and .u16 (Int.fdiv x 256) 7), up := (bits .and .u16 (Int.fdiv x 2048) 1) == 1, start := IntKind.wrap .i64 (Int.fdiv x 4096) }
  if d.start = 0 then if (!d.up) = true then { d with on := false } else d else d
def freqC (c : Sq) (x : Int) : Sq := { c with freq := IntKind.wrap .i64 (bits .and .u16 x 2047), useLength := (bits .and .u16 (Int.fdiv x 16384) 1) == 1 }
def levelT (k : Int) : Int := if k = 0 then 0 else if k = 1 then 1 else if k = 2 then 2 else if k = 3 then 3 else 4
theorem levelT_ok {k : Int} (h0 : 0 ≤ k) (h1 : k < 8) : (#[.int .i64 0, .int .i64 1, .int .i64 2, .int .i64 3, .int .i64 4, .int .i64 4, .int .i64 4, .int .i64 4] : Array Value)[k.toNat * 1]? = some (.int .i64 (levelT k)) := by
  obtain rfl | rfl | rfl | rfl | rfl | rfl | rfl | rfl : k = 0 ∨ k = 1 ∨ k = 2 ∨ k = 3 ∨ k = 4 ∨ k = 5 ∨ k = 6 ∨ k = 7 := by omega
  all_goals rfl
def reg5 (u : PU) (x : Int) : PU :=
  let v := { u with two := (bits .and .u16 (Int.fdiv x 32) 1) == 1, page := IntKind.wrap .i64 (bits .and .u16 (Int.fdiv x 64) 1), dac := (bits .and .u16 (Int.fdiv x 128) 1) == 1,
                    wave := { u.wave with length := IntKind.wrap .i64 (256 - (IntKind.wrap .i64 (Int.fdiv x 256))) } }
  if (!v.dac) = true then { v with wave := { v.wave with on := false } } else v
def reg8 (u : PU) (x : Int) : PU :=
  let v := { u with div := IntKind.wrap .i64 (bits .and .u16 x 7), narrow := (bits .and .u16 (Int.fdiv x 8) 1) == 1, shift := IntKind.wrap .i64 (bits .and .u16 (Int.fdiv x 16) 15),
                    noise := { u.noise with useLength := (bits .and .u16 (Int.fdiv x 16384) 1) == 1 } }
  if Int.fdiv x 32768 = 1 then { beginF v 3 64 with lfsr := 32767 } else v
def reg9 (u : PU) (x : Int) : PU :=
  let v := { u with wave := freqC u.wave x }
  if Int.fdiv x 32768 = 1 then { beginF v 2 256 with wave := { (beginF v 2 256).wave with on := (beginF v 2 256).dac } } else v
def regF (u : PU) (x : Int) (i : Nat) : PU := if Int.fdiv x 32768 = 1 then beginF (u.put (freqC (u.get i) x) i) i 64 else u.put (freqC (u.get i) x) i
def writeR (u : PU) (r x : Int) : PU :=
  if r = 0 then { u with s0 := { u.s0 with sweepBy := IntKind.wrap .i64 (bits .and .u16 x 7), sweepDown := (bits .and .u16 (Int.fdiv x 8) 1) == 1, sweepIn := IntKind.wrap .i64 (bits .and .u16 (Int.fdiv x 16) 7) } } else
  if r = 1 then { u with s0 := dutyC u.s0 x } else if r = 3 then { u with s1 := dutyC u.s1 x } else if r = 7 then { u with noise := dutyC u.noise x } else
  if r = 2 then regF u x 0 else if r = 4 then regF u x 1 else
  if r = 5 then reg5 u x else if r = 6 then { u with level := levelT (Int.fdiv x 8192) } else if r = 8 then reg8 u x else if r = 9 then reg9 u x else u

theorem shift_nn {x : Int} (h0 : 0 ≤ x) (h1 : x < 65536) : 0 ≤ IntKind.wrap .i64 (bits .and .u16 (Int.fdiv x 16) 15) := by
  rw [and16 4 (by decide) (by decide) (by rw [fdiv_pos (by decide)]; omega) (by rw [fdiv_pos (by decide)]; omega), fdiv_pos (by decide), wrap_i64 (by omega) (by omega)]
  omega
theorem map47 : ∃ kt et kd, Try.prog.underlying 47 = some (.map kt et) ∧ Try.prog.underlying kt = some (.int kd) := ⟨_, _, _, Try.underlying47, by first | rfl | decide⟩

theorem dutyC_set {w : World} {b : Nat} {v : PU} {x : Int} {R : World → Prop} (i : Nat) (hi : i < 4) {t : TypeId} (h : Blk w b v.enc t) (K : ∀ w', Blk w' b (v.put (dutyC (v.get i) x) i).enc t → Chg (· = b) w w' → R w') :
    NN (some ⟨b, off i, none⟩) fun a74 => St w (a74.add 2) (.int .i64 (IntKind.wrap .i64 (64 - (IntKind.wrap .i64 (bits .and .u16 x 63))))) fun w_28 => NN (some ⟨b, off i, none⟩) fun a76 => St w_28 (a76.add 1) (.int .i64
  (IntKind.wrap .i64 (bits .and .u16 (Int.fdiv x 64) 3))) fun w_29 => NN (some ⟨b, off i, none⟩) fun a92 => St w_29 (a92.add 5) (.int .i64 (IntKind.wrap .i64 (bits .and .u16 (Int.fdiv x 256) 7))) fun w_30 => NN (some ⟨b, off i, none⟩) fun
  a94 => St w_30 (a94.add 6) (.bool ((bits .and .u16 (Int.fdiv x 2048) 1) == 1)) fun w_31 => NN (some ⟨b, off i, none⟩) fun a96 => St w_31 (a96.add 4) (.int .i64 (IntKind.wrap .i64 (Int.fdiv x 4096))) fun w_32 => NN (some ⟨b, off i, none⟩)
  fun a99 => (∃ (x101 : Int), w_32.cell? (a99.add 4) = some (.int .i64 x101) ∧ cond (x101 == 0) (NN (some ⟨b, off i, none⟩) fun a105 => (∃ (x107 : Bool), w_32.cell? (a105.add 6) = some (.bool x107) ∧ cond (!x107) (NN (some ⟨b, off i, none⟩)
  fun a111 => St w_32 a111 (.bool false) fun w_33 => R w_33) (R w_32))) (R w_32)) := by
  simp only [NN_some, add_at]
  obtain rfl | rfl | rfl | rfl : i = 0 ∨ i = 1 ∨ i = 2 ∨ i = 3 := by omega
  all_goals
    refine St_blk h (by rfl) fun w1 h1 c1 _ => St_blk h1 (by rfl) fun w2 h2 c2 _ => St_blk h2 (by rfl) fun w3 h3 c3 _ => St_blk h3 (by rfl) fun w4 h4 c4 _ => St_blk h4 (by rfl) fun w5 h5 c5 _ => ?_
    refine ⟨_, ld h5 (by rfl), cnd_beq (fun k => ⟨_, ld h5 (by rfl), cnd (fun k2 => St_blk h5 (by rfl) fun w6 h6 c6 _ => K _ ?_ (by (repeat first | exact Chg.refl _ _ | assumption | exact Chg.no (by assumption) | refine Chg.trans ?_ (by assumption) | refine Chg.trans ?_ (Chg.no (by assumption)) | refine Chg.drewBy ?_ _))) (fun k2 => K _ ?_ (by (repeat first | exact Chg.refl _ _ | assumption | exact Chg.no (by assumption) | refine Chg.trans ?_ (by assumption) | refine Chg.trans ?_ (Chg.no (by assumption)) | refine Chg.drewBy ?_ _)))⟩) (fun k => K _ ?_ (by (repeat first | exact Chg.refl _ _ | assumption | exact Chg.no (by assumption) | refine Chg.trans ?_ (by assumption) | refine Chg.trans ?_ (Chg.no (by assumption)) | refine Chg.drewBy ?_ _)))⟩
    · unfold dutyC; rw [if_pos k, if_pos k2]; exact h6
    · unfold dutyC; rw [if_pos k, if_neg (by rw [k2]; decide)]; exact h5
    · unfold dutyC; rw [if_neg k]; exact h5

set_option maxHeartbeats 4000000 in
theorem write_ok {w : World} {b : Nat} {u v : PU} {t : TypeId} (hb : Blk w b u.enc t) {now : Int} {n : Nat} (hr : RunTo now n u v) (hs : 0 ≤ v.shift) (r x : Int) (hx0 : 0 ≤ x) (hx1 : x < 65536) :
    Calls Try.prog n_Write #[.pointer (some ⟨b, 0, none⟩), .int .i64 now, .int .i64 r, .int .u16 x] w fun e w' => e = .returned (.tuple #[]) ∧ Blk w' b (writeR v r x).enc t ∧ Chg (· = b) w w' := by
  obtain ⟨kt, et, kd, ht, hk⟩ := map47
  apply c_Write
  unfold p_Write
  refine (run_ok hb hr).mono fun e w1 ⟨he, h1, c1⟩ => ⟨he, ?_⟩
  unfold writeR
  refine cnd_beq (fun k0 => chk_of (by decide) ?_) (fun k0 => ?_)
  · rw [if_pos k0]
    exact St_blk h1 (by rfl) fun w2 h2 c2 _ => St_blk h2 (by rfl) fun w3 h3 c3 _ => St_blk h3 (by rfl) fun w4 h4 c4 _ => ⟨rfl, h4, by (repeat first | exact Chg.refl _ _ | assumption | exact Chg.no (by assumption) | refine Chg.trans ?_ (by assumption) | refine Chg.trans ?_ (Chg.no (by assumption)) | refine Chg.drewBy ?_ _)⟩
  rw [if_neg k0]
  refine ⟨fun vs w' => vs = [.bool (r == 1 || (r == 3 || r == 7))] ∧ w' = w1, ?_, ?_⟩
  · refine cnd (fun k => ⟨by simp [k], rfl⟩) (fun k => cnd (fun k' => ⟨by simp [k, k'], rfl⟩) (fun k' => ⟨by simp [k, k'], rfl⟩))
  rintro s45 w4 ⟨e4, rfl⟩
  obtain rfl : s45 = (r == 1 || (r == 3 || r == 7)) := by simpa using e4
  refine cnd (fun k1 => ?_) (fun k1 => ?_)
  · have hne : b ≠ (w4.drewN 1).heap.size := Nat.ne_of_lt (h1.drewN 1).lt
    have hsz : w.heap.size ≤ (w4.drewN 1).heap.size := c1.size
    have hr3 : r = 1 ∨ r = 3 ∨ r = 7 := by simpa using k1
    have mapped : ∀ i, i < 4 → ∀ w', Blk w' b (v.put (dutyC (v.get i) x) i).enc t → ((i = 0 ∧ r = 1) ∨ (i = 1 ∧ r = 3) ∨ (i = 3 ∧ r = 7)) → Blk w' b (if r = 1 then { v with s0 := dutyC v.s0 x } else if r = 3 then { v with s1 := dutyC v.s1 x } else if r = 7 then { v with noise := dutyC v.noise x } else
  if r = 2 then regF v x 0 else if r = 4 then regF v x 1 else
  if r = 5 then reg5 v x else if r = 6 then { v with level := levelT (Int.fdiv x 8192) } else if r = 8 then reg8 v x else if r = 9 then reg9 v x else v).enc t := by
      intro i hi w' h' hh
      obtain ⟨rfl, rfl⟩ | ⟨rfl, rfl⟩ | ⟨rfl, rfl⟩ := hh
      all_goals exact h'
    refine ⟨fun vs w' => ∃ i, i < 4 ∧ ((i = 0 ∧ r = 1) ∨ (i = 1 ∧ r = 3) ∨ (i = 3 ∧ r = 7)) ∧ vs = [.pointer (some ⟨b, off i, none⟩)] ∧ Blk w' b v.enc t ∧ Chg (· = b) w w', ?_, ?_⟩
    · refine ⟨fun _ => True, trivial, chk_of (by decide) (chk_of (by decide) (mk_ex .i64 fun w5 m5 c5 s5 => ⟨trivial, ?_⟩))⟩
      have h5 : Blk w5 b v.enc t := (h1.drewN 1).keep c5 id
      have hc5 : Chg (· = b) w w5 := by (repeat first | exact Chg.refl _ _ | assumption | exact Chg.no (by assumption) | refine Chg.trans ?_ (by assumption) | refine Chg.trans ?_ (Chg.no (by assumption)) | refine Chg.drewBy ?_ _)
      generalize (w4.drewN 1).heap.size = s at m5 hne hsz ⊢
      have fin : ∀ w8 (m : List (Int × Value)), Mp w8 s .i64 m → Chg (· = s) w5 w8 → mget m 1 = some (.pointer (some ⟨b, 0, none⟩)) → mget m 3 = some (.pointer (some ⟨b, 16, none⟩)) → mget m 7 = some (.pointer (some ⟨b, 84, none⟩)) →
          ∃ (x63 : Option Addr), ∃ w_9, (Instr.lookup 47 (.map (some s)) (.int .i64 r) false).run Try.prog w8 = .ok (.pointer x63) w_9 ∧ (True ∧ ∃ i, i < 4 ∧ ((i = 0 ∧ r = 1) ∨ (i = 1 ∧ r = 3) ∨ (i = 3 ∧ r = 7)) ∧ [Value.pointer x63] = [.pointer (some ⟨b, off i, none⟩)] ∧ Blk w_9 b v.enc t ∧ Chg (· = b) w w_9) := by
        intro w8 m m8 c8 g1 g3 g7
        have hcc : Chg (· = b) w w8 := by
          refine ⟨c8.os.trans hc5.os, c8.tape.trans hc5.tape, c8.output.trans hc5.output, Nat.le_trans hc5.size c8.size, fun j hj hn => ?_⟩
          rw [c8.block j (Nat.lt_of_lt_of_le hj hc5.size) (by omega), hc5.block j hj hn]
        have h8 : Blk w8 b v.enc t := h5.keep c8 hne
        obtain rfl | rfl | rfl := hr3
        · exact ⟨_, _, get_some ht hk m8 g1, trivial, 0, by decide, .inl ⟨rfl, rfl⟩, rfl, h8, hcc⟩
        · exact ⟨_, _, get_some ht hk m8 g3, trivial, 1, by decide, .inr (.inl ⟨rfl, rfl⟩), rfl, h8, hcc⟩
        · exact ⟨_, _, get_some ht hk m8 g7, trivial, 3, by decide, .inr (.inr ⟨rfl, rfl⟩), rfl, h8, hcc⟩
      refine ⟨upd_ex ht hk m5 fun w6 m6 c6 => ⟨trivial, upd_ex ht hk m6 fun w7 m7 c7 => ⟨trivial, upd_ex ht hk m7 fun w8 m8 c8 => ⟨trivial, fin _ _ m8 ((c6.trans c7).trans c8) (by rfl) (by rfl) (by rfl)⟩⟩,
          upd_ex ht hk m6 fun w7 m7 c7 => ⟨trivial, upd_ex ht hk m7 fun w8 m8 c8 => ⟨trivial, fin _ _ m8 ((c6.trans c7).trans c8) (by rfl) (by rfl) (by rfl)⟩⟩⟩, ?_, ?_⟩
      · exact upd_ex ht hk m5 fun w6 m6 c6 => ⟨trivial, upd_ex ht hk m6 fun w7 m7 c7 => ⟨trivial, upd_ex ht hk m7 fun w8 m8 c8 => ⟨trivial, fin _ _ m8 ((c6.trans c7).trans c8) (by rfl) (by rfl) (by rfl)⟩⟩,
          upd_ex ht hk m6 fun w7 m7 c7 => ⟨trivial, upd_ex ht hk m7 fun w8 m8 c8 => ⟨trivial, fin _ _ m8 ((c6.trans c7).trans c8) (by rfl) (by rfl) (by rfl)⟩⟩⟩
      · exact upd_ex ht hk m5 fun w6 m6 c6 => ⟨trivial, upd_ex ht hk m6 fun w7 m7 c7 => ⟨trivial, upd_ex ht hk m7 fun w8 m8 c8 => ⟨trivial, fin _ _ m8 ((c6.trans c7).trans c8) (by rfl) (by rfl) (by rfl)⟩⟩,
          upd_ex ht hk m6 fun w7 m7 c7 => ⟨trivial, upd_ex ht hk m7 fun w8 m8 c8 => ⟨trivial, fin _ _ m8 ((c6.trans c7).trans c8) (by rfl) (by rfl) (by rfl)⟩⟩⟩
    · rintro s9 w27 ⟨i, hi, hir, e9, h27, c27⟩
      obtain rfl : s9 = some ⟨b, off i, none⟩ := by simpa using e9
      refine dutyC_set i hi h27 (R := fun w' => _ ∧ _ ∧ _) fun w' h' c' => ⟨rfl, mapped i hi w' h' hir, c27.trans c'⟩
  have hr1 : r ≠ 1 := fun e => by simp [e] at k1
  have hr3 : r ≠ 3 := fun e => by simp [e] at k1
  have hr7 : r ≠ 7 := fun e => by simp [e] at k1
  rw [if_neg hr1, if_neg hr3, if_neg hr7]
  refine ⟨fun vs w' => vs = [.bool (r == 2 || r == 4)] ∧ w' = w4, ?_, ?_⟩
  · exact cnd (fun k => ⟨by simp [k], rfl⟩) (fun k => ⟨by simp [k], rfl⟩)
  rintro s113 w5 ⟨e5, rfl⟩
  obtain rfl : s113 = (r == 2 || r == 4) := by simpa using e5
  refine cnd (fun k2 => ?_) (fun k2 => ?_)
  · have hr2 : r = 2 ∨ r = 4 := by simpa using k2
    obtain rfl | rfl := hr2
    · have e0 : IntKind.wrap .i64 ((IntKind.wrap .i64 (Int.tdiv 2 2)) - 1) = 0 := by decide
      simp only [e0, add_at]
      refine chk_of (by decide) (St_blk h1 (by rfl) fun w2 h2 c2 _ => St_blk h2 (by rfl) fun w3 h3 c3 _ => ?_)
      have h3' : Blk w3 b (v.put (freqC (v.get 0) x) 0).enc t := h3
      refine cnd_beq (fun k => ?_) (fun k => ⟨trivial, ?_, by (repeat first | exact Chg.refl _ _ | assumption | exact Chg.no (by assumption) | refine Chg.trans ?_ (by assumption) | refine Chg.trans ?_ (Chg.no (by assumption)) | refine Chg.drewBy ?_ _)⟩)
      · refine (begin_ok h3' hs 0 (by decide) 64).mono fun e w4 ⟨he, h4, c4⟩ => ⟨he, trivial, ?_, by (repeat first | exact Chg.refl _ _ | assumption | exact Chg.no (by assumption) | refine Chg.trans ?_ (by assumption) | refine Chg.trans ?_ (Chg.no (by assumption)) | refine Chg.drewBy ?_ _)⟩
        show Blk w4 b (regF v x 0).enc t
        unfold regF; rw [if_pos k]; exact h4
      · show Blk w3 b (regF v x 0).enc t
        unfold regF; rw [if_neg k]; exact h3'
    · have e0 : IntKind.wrap .i64 ((IntKind.wrap .i64 (Int.tdiv 4 2)) - 1) = 1 := by decide
      simp only [e0, add_at]
      refine chk_of (by decide) (St_blk h1 (by rfl) fun w2 h2 c2 _ => St_blk h2 (by rfl) fun w3 h3 c3 _ => ?_)
      have h3' : Blk w3 b (v.put (freqC (v.get 1) x) 1).enc t := h3
      refine cnd_beq (fun k => ?_) (fun k => ⟨trivial, ?_, by (repeat first | exact Chg.refl _ _ | assumption | exact Chg.no (by assumption) | refine Chg.trans ?_ (by assumption) | refine Chg.trans ?_ (Chg.no (by assumption)) | refine Chg.drewBy ?_ _)⟩)
      · refine (begin_ok h3' hs 1 (by decide) 64).mono fun e w4 ⟨he, h4, c4⟩ => ⟨he, trivial, ?_, by (repeat first | exact Chg.refl _ _ | assumption | exact Chg.no (by assumption) | refine Chg.trans ?_ (by assumption) | refine Chg.trans ?_ (Chg.no (by assumption)) | refine Chg.drewBy ?_ _)⟩
        show Blk w4 b (regF v x 1).enc t
        unfold regF; rw [if_pos k]; exact h4
      · show Blk w3 b (regF v x 1).enc t
        unfold regF; rw [if_neg k]; exact h3'
  have hr2 : r ≠ 2 := fun e => by simp [e] at k2
  have hr4 : r ≠ 4 := fun e => by simp [e] at k2
  rw [if_neg hr2, if_neg hr4]
  refine cnd_beq (fun k5 => ?_) (fun k5 => cnd_beq (fun k6 => ?_) (fun k6 => cnd_beq (fun k8 => ?_) (fun k8 => cnd_beq (fun k9 => ?_) (fun k9 => ?_))))
  · rw [if_pos k5]
    refine St_blk h1 (by rfl) fun w2 h2 c2 _ => St_blk h2 (by rfl) fun w3 h3 c3 _ => St_blk h3 (by rfl) fun w4 h4 c4 _ => St_blk h4 (by rfl) fun w6 h6 c6 _ => ?_
    refine ⟨_, ld h6 (by rfl), cnd (fun k => St_blk h6 (by rfl) fun w7 h7 c7 _ => ⟨rfl, ?_, by (repeat first | exact Chg.refl _ _ | assumption | exact Chg.no (by assumption) | refine Chg.trans ?_ (by assumption) | refine Chg.trans ?_ (Chg.no (by assumption)) | refine Chg.drewBy ?_ _)⟩) (fun k => ⟨rfl, ?_, by (repeat first | exact Chg.refl _ _ | assumption | exact Chg.no (by assumption) | refine Chg.trans ?_ (by assumption) | refine Chg.trans ?_ (Chg.no (by assumption)) | refine Chg.drewBy ?_ _)⟩)⟩
    · unfold reg5; rw [if_pos k]; exact h7
    · unfold reg5; rw [if_neg (by rw [k]; decide)]; exact h6
  · rw [if_neg k5, if_pos k6]
    have hf : 0 ≤ Int.fdiv x 8192 ∧ Int.fdiv x 8192 < 8 := by
      rw [Int.fdiv_eq_ediv_of_nonneg _ (by decide)]; omega
    exact chk_in hf.1 hf.2 ⟨_, levelT_ok hf.1 hf.2, St_blk h1 (by rfl) fun w2 h2 c2 _ => ⟨rfl, h2, by (repeat first | exact Chg.refl _ _ | assumption | exact Chg.no (by assumption) | refine Chg.trans ?_ (by assumption) | refine Chg.trans ?_ (Chg.no (by assumption)) | refine Chg.drewBy ?_ _)⟩⟩
  · rw [if_neg k5, if_neg k6, if_pos k8]
    refine St_blk h1 (by rfl) fun w2 h2 c2 _ => St_blk h2 (by rfl) fun w3 h3 c3 _ => St_blk h3 (by rfl) fun w4 h4 c4 _ => St_blk h4 (by rfl) fun w6 h6 c6 _ => ?_
    have h6' : Blk w6 b (PU.enc { v with div := IntKind.wrap .i64 (bits .and .u16 x 7), narrow := (bits .and .u16 (Int.fdiv x 8) 1) == 1, shift := IntKind.wrap .i64 (bits .and .u16 (Int.fdiv x 16) 15), noise := { v.noise with useLength := (bits .and .u16 (Int.fdiv x 16384) 1) == 1 } }) t := h6
    refine cnd_beq (fun k => ?_) (fun k => ⟨rfl, ?_, by (repeat first | exact Chg.refl _ _ | assumption | exact Chg.no (by assumption) | refine Chg.trans ?_ (by assumption) | refine Chg.trans ?_ (Chg.no (by assumption)) | refine Chg.drewBy ?_ _)⟩)
    · refine (begin_ok h6' (shift_nn hx0 hx1) 3 (by decide) 64).mono fun e w7 ⟨he, h7, c7⟩ => ⟨he, St_blk h7 (by rfl) fun w8 h8 c8 _ => ⟨rfl, ?_, by (repeat first | exact Chg.refl _ _ | assumption | exact Chg.no (by assumption) | refine Chg.trans ?_ (by assumption) | refine Chg.trans ?_ (Chg.no (by assumption)) | refine Chg.drewBy ?_ _)⟩⟩
      unfold reg8; rw [if_pos k]; exact h8
    · unfold reg8; rw [if_neg k]; exact h6'
  · rw [if_neg k5, if_neg k6, if_neg k8, if_pos k9]
    refine St_blk h1 (by rfl) fun w2 h2 c2 _ => St_blk h2 (by rfl) fun w3 h3 c3 _ => ?_
    have h3' : Blk w3 b (PU.enc { v with wave := freqC v.wave x }) t := h3
    refine cnd_beq (fun k => ?_) (fun k => ⟨rfl, ?_, by (repeat first | exact Chg.refl _ _ | assumption | exact Chg.no (by assumption) | refine Chg.trans ?_ (by assumption) | refine Chg.trans ?_ (Chg.no (by assumption)) | refine Chg.drewBy ?_ _)⟩)
    · refine (begin_ok h3' hs 2 (by decide) 256).mono fun e w7 ⟨he, h7, c7⟩ => ⟨he, ⟨_, ld h7 (by rfl), St_blk h7 (by rfl) fun w8 h8 c8 _ => ⟨rfl, ?_, by (repeat first | exact Chg.refl _ _ | assumption | exact Chg.no (by assumption) | refine Chg.trans ?_ (by assumption) | refine Chg.trans ?_ (Chg.no (by assumption)) | refine Chg.drewBy ?_ _)⟩⟩⟩
      unfold reg9; rw [if_pos k]; exact h8
    · unfold reg9; rw [if_neg k]; exact h3'
  · rw [if_neg k5, if_neg k6, if_neg k8, if_neg k9]
    exact ⟨rfl, h1, c1⟩

end Go.Proofs.Ytieamlpjdilcoaa
