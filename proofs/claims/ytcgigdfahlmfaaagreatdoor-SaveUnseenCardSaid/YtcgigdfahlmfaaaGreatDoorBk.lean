/-
  A backup on whatever disk: what it notes, and what it syncs.
-/
import Derived.Test.YtcgigdfahlmfaaaGreatDoorDo
import Derived.Test.YtcgigdfahlmfaaaGreatDoorJp
namespace Go.Proofs.YtcgigdfahlmfaaaGreatDoor
open Go.Vc
set_option linter.unusedVariables false
set_option linter.unusedSimpArgs false
structure Bw where
  er : Int
  ct : Int
  su : Int
  J : Jn
  D : Dk
def note2 (b : Bw) (r : Int × Jn × Dk) : Bw := ⟨r.1, b.ct + 1, if r.1 = 0 then b.ct + 1 else b.su, r.2.1, r.2.2⟩
def note3 (b : Bw) (r : Int × Jn × Dk) : Bw := ⟨r.1, b.ct + 1, b.su, r.2.1, r.2.2⟩
def noteD (b : Bw) (c : E59) (img : List UInt8) : Bw :=
  if b.er ≠ 0 then ⟨b.er, b.ct + 1, b.su, b.J, b.D⟩ else if leftD b.J = 0 then note2 b (chkD b.J img b.D) else note3 b (appD b.J c b.D)
def syncD (b : Bw) : Bw := if b.er ≠ 0 then b else ⟨(sy b.D).1, b.ct, if (sy b.D).1 = 0 then b.ct else b.su, b.J, (sy b.D).2⟩
structure Bin (N n sl : Nat) (B : List (Int × Bool)) (b : Bw) (k : Nat) : Prop where
  D : Dok N k b.D
  B : b.D.B = B
  J : Jin b.J
  n : b.J.n = n
  sl : b.J.sl = sl
  ct : 0 ≤ b.ct ∧ b.ct ≤ k
theorem Bin.mono {N n sl : Nat} {B : List (Int × Bool)} {b : Bw} {k k' : Nat} (h : Bin N n sl B b k) (hk : k ≤ k') : Bin N n sl B b k' := ⟨h.D.mono hk, h.B, h.J, h.n, h.sl, by have := h.ct; omega⟩
theorem noteD_ct (b : Bw) (c : E59) (img : List UInt8) : (noteD b c img).ct = b.ct + 1 := by unfold noteD note2 note3; repeat' first | rfl | split
theorem note_in {N n sl : Nat} {B : List (Int × Bool)} {b : Bw} {k : Nat} (h : Bin N n sl B b k) (c : E59) (img : List UInt8) : Bin N n sl B (noteD b c img) (k + 2049) := by
  have hc := h.ct
  have h0 : Din N b.D b.D k := ⟨h.D, rfl⟩
  have h1 := chk_in h0 b.J h.J img
  have h2 := app_in h0 b.J h.J c
  have e := noteD_ct b c img
  unfold noteD note2 note3 at *
  split
  · exact ⟨h.D.mono (by omega), h.B, h.J, h.n, h.sl, by show 0 ≤ b.ct + 1 ∧ b.ct + 1 ≤ _; omega⟩
  split
  · exact ⟨h1.1.ok, h1.1.B.trans h.B, h1.2.1, h1.2.2.1.trans h.n, h1.2.2.2.trans h.sl, by show 0 ≤ b.ct + 1 ∧ b.ct + 1 ≤ _; omega⟩
  · exact ⟨h2.1.ok.mono (by omega), h2.1.B.trans h.B, h2.2.1, h2.2.2.1.trans h.n, h2.2.2.2.trans h.sl, by show 0 ≤ b.ct + 1 ∧ b.ct + 1 ≤ _; omega⟩
theorem sync_in {N n sl : Nat} {B : List (Int × Bool)} {b : Bw} {k : Nat} (h : Bin N n sl B b k) : Bin N n sl B (syncD b) k := by
  unfold syncD
  split
  · exact h
  · exact ⟨sy_ok h.D, (sy_B _).trans h.B, h.J, h.n, h.sl, h.ct⟩
theorem app_keep (J : Jn) (c : E59) (D : Dk) : (appD J c D).2.1.ba = J.ba ∧ (appD J c D).2.1.ar = J.ar ∧ (appD J c D).2.1.od = J.od ∧ (appD J c D).2.2.F = D.F := by
  have h := wr_F D ((2 + 2 * J.n + J.ct : Nat) : Int) (bs (wrapL J.nx (comE c)))
  unfold appD app1D
  repeat' first | exact ⟨rfl, rfl, rfl, rfl⟩ | exact ⟨rfl, rfl, rfl, h⟩ | split
theorem noteSw {N n sl : Nat} {B : List (Int × Bool)} {b : Bw} {k : Nat} (h : Bin N n sl B b k) (hk : k ≤ 1000000000000) (kind : Int) (sram : List Int) {img : List UInt8} (himg : ∀ e n s, f_BImageS kind sram e n s = some (bs img)) (c : E59) :
    f_BNoteS1 kind sram b.er b.ct b.su  ((64 * b.J.n : Nat) : Int) (b.J.sl : Int) (b.J.ba : Int) (b.J.nx : Int) (b.J.ar : Int) b.J.od b.D.F b.D.S b.D.W b.D.B b.D.fu b.D.dn c.Kind c.Addr c.Data = some ((noteD b c img).er, (noteD b c img).ct, (noteD b c img).su, ((noteD b c img).J.ba : Int), ((noteD b c img).J.nx : Int), ((noteD b c img).J.ar : Int), (noteD b c img).J.od, (noteD b c img).D.fu, (noteD b c img).D.dn, (noteD b c img).D.F, (noteD b c img).D.S, (noteD b c img).D.W) := by
  have hc := h.ct
  unfold f_BNoteS1 noteD
  rw [wrap_i64 (x := b.ct + 1) (by omega) (by omega)]
  by_cases h1 : b.er = 0
  · rw [if_neg (by omega), cbeq h1, Left_eq h.J, bind_some']
    by_cases h2 : leftD b.J = 0
    · rw [if_pos h2, ceq (by omega), himg, bind_some', Check_eq h.D (by omega) h.J, bind_some']
      show cond ((chkD b.J img b.D).1 == 0) _ _ = _
      unfold note2
      by_cases h3 : (chkD b.J img b.D).1 = 0
      · rw [ceq h3, if_pos h3]
      · rw [cne h3, if_neg h3]
    · obtain ⟨a1, a2, a3, a4⟩ := app_keep b.J c b.D
      rw [if_neg h2, cne (by omega), Append_eq h.D (by omega) h.J, bind_some']
      show some ((appD b.J c b.D).1, b.ct + 1, b.su, (b.J.ba : Int), _, (b.J.ar : Int), b.J.od, _, _, b.D.F, _, _) = some ((appD b.J c b.D).1, b.ct + 1, b.su, ((appD b.J c b.D).2.1.ba : Int), _, ((appD b.J c b.D).2.1.ar : Int), (appD b.J c b.D).2.1.od, _, _, (appD b.J c b.D).2.2.F, _, _)
      rw [a1, a2, a3, a4]; rfl
  · rw [if_pos (by omega), cbne (by omega)]
theorem syncSw {N n sl : Nat} {B : List (Int × Bool)} {b : Bw} {k : Nat} (h : Bin N n sl B b k) (hk : k ≤ 1000000000000) (kind : Int) (sram : List Int) :
    f_BSyncS1 kind sram b.er b.ct b.su  ((64 * b.J.n : Nat) : Int) (b.J.sl : Int) (b.J.ba : Int) (b.J.nx : Int) (b.J.ar : Int) b.J.od b.D.F b.D.S b.D.W b.D.B b.D.fu b.D.dn = some ((syncD b).er, (syncD b).er, (syncD b).su, (syncD b).D.fu, (syncD b).D.dn, (syncD b).D.F, (syncD b).D.W) := by
  unfold f_BSyncS1 f_JSync syncD
  by_cases h1 : b.er = 0
  · rw [if_neg (by omega), cbeq h1, sy_eq h.D (by omega), bind_some', bind_some']
    show cond ((sy b.D).1 == 0) _ _ = _
    by_cases h3 : (sy b.D).1 = 0
    · rw [ceq h3, if_pos h3]
    · rw [cne h3, if_neg h3]
  · rw [if_pos (by omega), cbne (by omega)]
theorem noteFw {N n sl : Nat} {B : List (Int × Bool)} {b : Bw} {k : Nat} (h : Bin N n sl B b k) (hk : k ≤ 1000000000000) (kind : Int) (fm : ByteArray) (fs : Int) (fi : Bool) (fb : Int) {img : List UInt8} (himg : ∀ e n s, f_BImageF kind e n s fm fs fi fb = some (bs img)) (c : E59) :
    f_BNoteF1 kind  b.er b.ct b.su fm fs fi fb ((64 * b.J.n : Nat) : Int) (b.J.sl : Int) (b.J.ba : Int) (b.J.nx : Int) (b.J.ar : Int) b.J.od b.D.F b.D.S b.D.W b.D.B b.D.fu b.D.dn c.Kind c.Addr c.Data = some ((noteD b c img).er, (noteD b c img).ct, (noteD b c img).su, ((noteD b c img).J.ba : Int), ((noteD b c img).J.nx : Int), ((noteD b c img).J.ar : Int), (noteD b c img).J.od, (noteD b c img).D.fu, (noteD b c img).D.dn, (noteD b c img).D.F, (noteD b c img).D.S, (noteD b c img).D.W) := by
  have hc := h.ct
  unfold f_BNoteF1 noteD
  rw [wrap_i64 (x := b.ct + 1) (by omega) (by omega)]
  by_cases h1 : b.er = 0
  · rw [if_neg (by omega), cbeq h1, Left_eq h.J, bind_some']
    by_cases h2 : leftD b.J = 0
    · rw [if_pos h2, ceq (by omega), himg, bind_some', Check_eq h.D (by omega) h.J, bind_some']
      show cond ((chkD b.J img b.D).1 == 0) _ _ = _
      unfold note2
      by_cases h3 : (chkD b.J img b.D).1 = 0
      · rw [ceq h3, if_pos h3]
      · rw [cne h3, if_neg h3]
    · obtain ⟨a1, a2, a3, a4⟩ := app_keep b.J c b.D
      rw [if_neg h2, cne (by omega), Append_eq h.D (by omega) h.J, bind_some']
      show some ((appD b.J c b.D).1, b.ct + 1, b.su, (b.J.ba : Int), _, (b.J.ar : Int), b.J.od, _, _, b.D.F, _, _) = some ((appD b.J c b.D).1, b.ct + 1, b.su, ((appD b.J c b.D).2.1.ba : Int), _, ((appD b.J c b.D).2.1.ar : Int), (appD b.J c b.D).2.1.od, _, _, (appD b.J c b.D).2.2.F, _, _)
      rw [a1, a2, a3, a4]; rfl
  · rw [if_pos (by omega), cbne (by omega)]
theorem syncFw {N n sl : Nat} {B : List (Int × Bool)} {b : Bw} {k : Nat} (h : Bin N n sl B b k) (hk : k ≤ 1000000000000) (kind : Int) (fm : ByteArray) (fs : Int) (fi : Bool) (fb : Int) :
    f_BSyncF1 kind  b.er b.ct b.su fm fs fi fb ((64 * b.J.n : Nat) : Int) (b.J.sl : Int) (b.J.ba : Int) (b.J.nx : Int) (b.J.ar : Int) b.J.od b.D.F b.D.S b.D.W b.D.B b.D.fu b.D.dn = some ((syncD b).er, (syncD b).er, (syncD b).su, (syncD b).D.fu, (syncD b).D.dn, (syncD b).D.F, (syncD b).D.W) := by
  unfold f_BSyncF1 f_JSync syncD
  by_cases h1 : b.er = 0
  · rw [if_neg (by omega), cbeq h1, sy_eq h.D (by omega), bind_some', bind_some']
    show cond ((sy b.D).1 == 0) _ _ = _
    by_cases h3 : (sy b.D).1 = 0
    · rw [ceq h3, if_pos h3]
    · rw [cne h3, if_neg h3]
  · rw [if_pos (by omega), cbne (by omega)]
theorem noteEw {N n sl : Nat} {B : List (Int × Bool)} {b : Bw} {k : Nat} (h : Bin N n sl B b k) (hk : k ≤ 1000000000000) (kind : Int) (em : ByteArray) (ei eo : List Int) (ew : Int) {img : List UInt8} (himg : ∀ e n s, f_BImageE kind e n s em ei eo ew = some (bs img)) (c : E59) :
    f_BNoteE1 kind  b.er b.ct b.su em ei eo ew ((64 * b.J.n : Nat) : Int) (b.J.sl : Int) (b.J.ba : Int) (b.J.nx : Int) (b.J.ar : Int) b.J.od b.D.F b.D.S b.D.W b.D.B b.D.fu b.D.dn c.Kind c.Addr c.Data = some ((noteD b c img).er, (noteD b c img).ct, (noteD b c img).su, ((noteD b c img).J.ba : Int), ((noteD b c img).J.nx : Int), ((noteD b c img).J.ar : Int), (noteD b c img).J.od, (noteD b c img).D.fu, (noteD b c img).D.dn, (noteD b c img).D.F, (noteD b c img).D.S, (noteD b c img).D.W) := by
  have hc := h.ct
  unfold f_BNoteE1 noteD
  rw [wrap_i64 (x := b.ct + 1) (by omega) (by omega)]
  by_cases h1 : b.er = 0
  · rw [if_neg (by omega), cbeq h1, Left_eq h.J, bind_some']
    by_cases h2 : leftD b.J = 0
    · rw [if_pos h2, ceq (by omega), himg, bind_some', Check_eq h.D (by omega) h.J, bind_some']
      show cond ((chkD b.J img b.D).1 == 0) _ _ = _
      unfold note2
      by_cases h3 : (chkD b.J img b.D).1 = 0
      · rw [ceq h3, if_pos h3]
      · rw [cne h3, if_neg h3]
    · obtain ⟨a1, a2, a3, a4⟩ := app_keep b.J c b.D
      rw [if_neg h2, cne (by omega), Append_eq h.D (by omega) h.J, bind_some']
      show some ((appD b.J c b.D).1, b.ct + 1, b.su, (b.J.ba : Int), _, (b.J.ar : Int), b.J.od, _, _, b.D.F, _, _) = some ((appD b.J c b.D).1, b.ct + 1, b.su, ((appD b.J c b.D).2.1.ba : Int), _, ((appD b.J c b.D).2.1.ar : Int), (appD b.J c b.D).2.1.od, _, _, (appD b.J c b.D).2.2.F, _, _)
      rw [a1, a2, a3, a4]; rfl
  · rw [if_pos (by omega), cbne (by omega)]
theorem syncEw {N n sl : Nat} {B : List (Int × Bool)} {b : Bw} {k : Nat} (h : Bin N n sl B b k) (hk : k ≤ 1000000000000) (kind : Int) (em : ByteArray) (ei eo : List Int) (ew : Int) :
    f_BSyncE1 kind  b.er b.ct b.su em ei eo ew ((64 * b.J.n : Nat) : Int) (b.J.sl : Int) (b.J.ba : Int) (b.J.nx : Int) (b.J.ar : Int) b.J.od b.D.F b.D.S b.D.W b.D.B b.D.fu b.D.dn = some ((syncD b).er, (syncD b).er, (syncD b).su, (syncD b).D.fu, (syncD b).D.dn, (syncD b).D.F, (syncD b).D.W) := by
  unfold f_BSyncE1 f_JSync syncD
  by_cases h1 : b.er = 0
  · rw [if_neg (by omega), cbeq h1, sy_eq h.D (by omega), bind_some', bind_some']
    show cond ((sy b.D).1 == 0) _ _ = _
    by_cases h3 : (sy b.D).1 = 0
    · rw [ceq h3, if_pos h3]
    · rw [cne h3, if_neg h3]
  · rw [if_pos (by omega), cbne (by omega)]
end Go.Proofs.YtcgigdfahlmfaaaGreatDoor
