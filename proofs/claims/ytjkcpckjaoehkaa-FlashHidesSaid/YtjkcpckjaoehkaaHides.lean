/-
  FlashHides.
-/
import Derived.Test.YtjkcpckjaoehkaaKeep
namespace Go.Proofs.Ytjkcpckjaoehkaa
open Go.Vc
set_option linter.unusedVariables false

theorem chip_ok (two : Bool) (w : World) : Calls Try.prog n_chip #[.bool two] w fun e w' => ∃ b : Nat, e = .returned (.pointer (some ⟨b, 0, none⟩)) ∧ w.heap.size ≤ b ∧ Chg (fun _ => False) w w' ∧
    Blk w' b (Chip.enc ⟨ffs (if two = true then 131072 else 65536), 0, false, 0⟩) 53 := by
  apply c_chip
  suffices h : ∀ R : Ending → World → Prop, (∀ (b : Nat) (w' : World), w.heap.size ≤ b → Chg (fun _ => False) w w' → Blk w' b (Chip.enc ⟨ffs (if two = true then 131072 else 65536), 0, false, 0⟩) 53 → R (.returned (.pointer (some ⟨b, 0, none⟩))) w') → p_chip two R w from h _ (fun b w' h1 h2 h3 => ⟨b, rfl, h1, h2, h3⟩)
  intro R hR
  unfold p_chip
  have h1 : PureCalls Try.prog n_Blank #[.int .i64 131072] (.string (bs (ffs 131072))) := blank_ok 131072
  have h2 : PureCalls Try.prog n_Blank #[.int .i64 65536] (.string (bs (ffs 65536))) := blank_ok 65536
  have go : ∀ (k : Nat) (n : Int), PureCalls Try.prog n_Blank #[.int .i64 n] (.string (bs (ffs k))) → (k = 65536 ∨ k = 131072) → ∀ (R : Ending → World → Prop), (∀ (b : Nat) (w' : World), w.heap.size ≤ b → Chg (fun _ => False) w w' → Blk w' b (Chip.enc ⟨ffs k, 0, false, 0⟩) 53 → R (.returned (.pointer (some ⟨b, 0, none⟩))) w') →
      (Calls Try.prog 17 #[.int .i64 n] w fun e w => ∃ (x9 : ByteArray), e = .returned (.string x9) ∧ (Calls Try.prog 18 #[.string x9] w fun e w_1 => ∃ (x10a : Option Addr) (x10b : Int), e = .returned (.tuple #[.pointer x10a, .int .i64 x10b]) ∧ R (.returned (.pointer x10a)) w_1)) := by
    intro k n hb hk R hR
    refine (hb w).mono fun e wa ⟨he, ca⟩ => ⟨_, he, ?_⟩
    have hl := ffs_length k
    generalize ffs k = m at *
    refine (new_ok m wa).mono fun e wb ⟨cb, hn⟩ => ?_
    have hnew : newF m = true := decide_eq_true (by omega)
    rcases hn with ⟨h, _⟩ | ⟨_, he, hb⟩
    · rw [hnew] at h; cases h
    exact ⟨_, _, he, hR _ _ ca.size (ca.trans cb) hb⟩
  cases two
  · exact go 65536 _ h2 (.inl rfl) R fun b w' hs hc hb => hR b w' hs hc hb
  · exact go 131072 _ h1 (.inr rfl) R fun b w' hs hc hb => hR b w' hs hc hb

theorem cells33 : Try.prog.cellsOf 33 = 2 := by kernel_rfl
theorem take_one' {cs : List Value} {o n : Nat} {v : Value} (hn : n = 1) (h : (cs.drop o).take n = [v]) : cs[o]? = some v := by
  subst hn
  have : ((cs.drop o).take 1)[0]? = some v := by rw [h]; rfl
  simpa using this
theorem put_at {w : World} {a : Option Addr} {n c : Nat} (h : Rds Try.prog w 33 a n c) {k : Nat} (hk : k < n) : n ≤ maxLen ∧ ∃ p, a = some p ∧ ∃ x0 x1, w.cell? (p.add (k * 2)) = some (.int .u32 x0) ∧ w.cell? ((p.add (k * 2)).add 1) = some (.int .u8 x1) ∧
    (0 ≤ x0 ∧ x0 < 4294967296) ∧ (0 ≤ x1 ∧ x1 < 256) := by
  rcases h with ⟨_, h0, _⟩ | ⟨p, m, rfl, h1, h2, h3⟩
  · omega
  obtain ⟨cs, h4, h5, h6⟩ := h3 k (by omega)
  rw [cells33] at h4 h5
  obtain ⟨_, m', hf⟩ := Rd.struct Try.underlying33 h6
  have f0 := hf 0 _ rfl
  have f1 := hf 1 _ rfl
  obtain ⟨x0, e0, w0⟩ := Rd.int (k := .u32) (by first | rfl | kernel_rfl) f0
  obtain ⟨x1, e1, w1⟩ := Rd.int (k := .u8) (by first | rfl | kernel_rfl) f1
  refine ⟨by omega, p, rfl, x0, x1, ?_, ?_, wf_u32 w0, wf_u8 w1⟩
  · have := (h5 0 (by omega)).trans (take_one' (o := 0) (by first | rfl | kernel_rfl) e0); simpa [Addr.add] using this
  · exact (h5 1 (by omega)).trans (take_one' (o := 1) (by first | rfl | kernel_rfl) e1)

theorem write0_state (c : Chip) : (writeF c 0 240).2.state = 0 := by
  unfold writeF
  split
  · rfl
  split
  · split <;> rfl
  split
  · split
    · rfl
    split
    · rfl
    · rfl
  · show (stepF c (at16 0) 240).1 = 0
    have h1 : s1F c (at16 0) 240 = false := by unfold s1F; simp [at16]
    have h2 : s2F c (at16 0) 240 = false := by unfold s2F; simp [at16]
    unfold stepF
    rw [if_neg (by rw [h1]; decide), if_neg (by rw [h2]; decide), if_neg (by intro h; exact absurd h.2 (by decide))]
    split <;> rfl
theorem write0_id (c : Chip) (h : c.state = 0) : (writeF c 0 240).2 = { c with id := false, state := 0 } := by
  obtain ⟨m, s, i, bk⟩ := c
  obtain rfl : s = 0 := h
  rfl

end Go.Proofs.Ytjkcpckjaoehkaa
