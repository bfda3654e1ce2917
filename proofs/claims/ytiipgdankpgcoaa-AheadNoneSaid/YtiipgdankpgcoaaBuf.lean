/-
  Contracts of the buffer's methods.
-/
import Derived.Test.YtiipgdankpgcoaaG
import Derived.Test.YtiipgdankpgcoaaLib
namespace Go.Proofs.Ytiipgdankpgcoaa
open Go.Vc
set_option linter.unusedVariables false

structure Buf where
  head : Int
  n : Int
  spent : Int
def Buf.enc (s : Buf) : List Value := [.int .u32 s.head, .int .i64 s.n, .int .i64 s.spent]

def nextHead (a halves : Int) : Int := IntKind.wrap .u32 (a + IntKind.wrap .u32 (IntKind.wrap .i64 (2 * halves)))
def fetchF (st : Buf) (addr halves first s : Int) : Int × Buf :=
  if halves < 1 then (0, st) else if halves > 2 then (0, st) else if first < 1 then (0, st) else if s < 1 then (0, st) else
  if bits .andNot .u32 addr 1 ≠ st.head then
    (IntKind.wrap .i64 (first + IntKind.wrap .i64 (IntKind.wrap .i64 (halves - 1) * s)), ⟨nextHead (bits .andNot .u32 addr 1) halves, 0, 0⟩)
  else if st.n ≥ halves then (1, ⟨nextHead st.head halves, IntKind.wrap .i64 (st.n - halves), st.spent⟩)
  else
    (if IntKind.wrap .i64 (IntKind.wrap .i64 (IntKind.wrap .i64 (halves - st.n) * s) - st.spent) > 1 then IntKind.wrap .i64 (IntKind.wrap .i64 (IntKind.wrap .i64 (halves - st.n) * s) - st.spent) else 1, ⟨nextHead st.head halves, 0, 0⟩)

def restF (st : Buf) (c s : Int) : Buf :=
  if c ≤ 0 then st else if s ≤ 0 then st else if st.n = 8 then st else
  let need := IntKind.wrap .i64 (8 - st.n)
  let k := IntKind.wrap .i64 ((if need < IntKind.wrap .i64 (Int.tdiv c s) then need else IntKind.wrap .i64 (Int.tdiv c s)) + (if need < IntKind.wrap .i64 (Int.tdiv st.spent s) then need else IntKind.wrap .i64 (Int.tdiv st.spent s)))
  let left := IntKind.wrap .i64 (s - Int.tmod st.spent s)
  if Int.tmod c s ≥ left then
    (if IntKind.wrap .i64 (k + 1) ≥ need then ⟨st.head, 8, 0⟩ else ⟨st.head, IntKind.wrap .i64 (st.n + IntKind.wrap .i64 (k + 1)), IntKind.wrap .i64 (Int.tmod c s - left)⟩)
  else
    (if k ≥ need then ⟨st.head, 8, 0⟩ else ⟨st.head, IntKind.wrap .i64 (st.n + k), IntKind.wrap .i64 (Int.tmod c s + Int.tmod st.spent s)⟩)

theorem fetch_ok {w : World} {b : Nat} {st : Buf} {t : TypeId} (hb : Blk w b st.enc t) (addr halves first s : Int) :
    Calls Try.prog n_Fetch #[.pointer (some ⟨b, 0, none⟩), .int .u32 addr, .int .i64 halves, .int .i64 first, .int .i64 s] w
      fun e w' => e = .returned (.int .i64 (fetchF st addr halves first s).1) ∧ Blk w' b (fetchF st addr halves first s).2.enc t ∧ Chg (· = b) w w' := by
  apply c_Fetch
  unfold p_Fetch
  refine cnd_dec (fun k1 => ?_) (fun k1 => cnd_dec (fun k2 => ?_) (fun k2 => cnd_dec (fun k3 => ?_) (fun k3 => cnd_dec (fun k4 => ?_) (fun k4 => ?_))))
  · unfold fetchF; rw [if_pos k1]
    exact ⟨rfl, hb, Chg.refl _ _⟩
  · unfold fetchF; rw [if_neg k1, if_pos k2]
    exact ⟨rfl, hb, Chg.refl _ _⟩
  · unfold fetchF; rw [if_neg k1, if_neg k2, if_pos k3]
    exact ⟨rfl, hb, Chg.refl _ _⟩
  · unfold fetchF; rw [if_neg k1, if_neg k2, if_neg k3, if_pos k4]
    exact ⟨rfl, hb, Chg.refl _ _⟩
  unfold fetchF; rw [if_neg k1, if_neg k2, if_neg k3, if_neg k4]
  refine ⟨st.head, hb.cell 0, cnd_bne (fun k5 => ?_) (fun k5 => ?_)⟩
  · rw [if_pos k5]
    refine St_blk hb rfl fun w1 h1 c1 _ => St_blk h1 rfl fun w2 h2 c2 _ => St_blk h2 rfl fun w3 h3 c3 _ => ?_
    exact ⟨rfl, h3, (c1.trans c2).trans c3⟩
  rw [if_neg (by simpa using k5)]
  refine ⟨st.head, hb.cell 0, St_blk hb rfl fun w1 h1 c1 _ => ⟨st.n, h1.cell 1, cnd_dec (fun k6 => ?_) (fun k6 => ?_)⟩⟩
  · rw [if_pos k6]
    refine ⟨st.n, h1.cell 1, St_blk h1 rfl fun w2 h2 c2 _ => ?_⟩
    exact ⟨rfl, h2, c1.trans c2⟩
  rw [if_neg k6]
  refine ⟨st.n, h1.cell 1, st.spent, h1.cell 2, fun n => St_blk (h1.drewN n) rfl fun w2 h2 c2 _ => St_blk h2 rfl fun w3 h3 c3 _ => ?_⟩
  exact ⟨rfl, h3, ((c1.trans (Chg.drewN _ _ n)).trans c2).trans c3⟩

theorem rest_ok {w : World} {b : Nat} {st : Buf} {t : TypeId} (hb : Blk w b st.enc t) (c s : Int) :
    Calls Try.prog n_Rest #[.pointer (some ⟨b, 0, none⟩), .int .i64 c, .int .i64 s] w
      fun e w' => e = .returned (.tuple #[]) ∧ Blk w' b (restF st c s).enc t ∧ Chg (· = b) w w' := by
  apply c_Rest
  unfold p_Rest
  refine cnd_dec (fun k1 => ?_) (fun k1 => cnd_dec (fun k2 => ?_) (fun k2 => ⟨st.n, hb.cell 1, cnd_beq (fun k3 => ?_) (fun k3 => ?_)⟩))
  · unfold restF; rw [if_pos k1]
    exact ⟨rfl, hb, Chg.refl _ _⟩
  · unfold restF; rw [if_neg k1, if_pos k2]
    exact ⟨rfl, hb, Chg.refl _ _⟩
  · unfold restF; rw [if_neg k1, if_neg k2, if_pos k3]
    exact ⟨rfl, hb, Chg.refl _ _⟩
  have hs : s ≠ 0 := by omega
  unfold restF; rw [if_neg k1, if_neg k2, if_neg k3]
  refine ⟨st.n, hb.cell 1, chk_nz hs ⟨st.spent, hb.cell 2, chk_nz hs (Lt_intro fun k hk n1 => chk_nz hs ⟨st.spent, (hb.drewN n1).cell 2, chk_nz hs (Lt_intro fun l hl n2 => cnd_dec (fun k4 => ?_) (fun k4 => ?_))⟩)⟩⟩
  all_goals rw [hl] at k4
  · rw [if_pos k4]
    refine Lt_intro fun c' hc' => ⟨st.n, (hb.drewN n1).cell 1, St_blk ((hb.drewN n1).drewN n2) rfl fun w1 h1 c1 _ => St_blk h1 rfl fun w2 h2 c2 _ => cnd_dec (fun k5 => ?_) (fun k5 => ?_)⟩
    all_goals rw [hk] at k5
    · rw [if_pos k5]
      exact St_blk h2 rfl fun w3 h3 c3 _ => St_blk h3 rfl fun w4 h4 c4 _ => ⟨rfl, h4, (((((Chg.drewN _ w n1).trans (Chg.drewN _ _ n2)).trans c1).trans c2).trans c3).trans c4⟩
    · rw [if_neg k5]
      subst hk hl hc'
      exact ⟨rfl, h2, ((((Chg.drewN _ w n1).trans (Chg.drewN _ _ n2)).trans c1).trans c2)⟩
  · rw [if_neg k4]
    refine ⟨st.spent, (hb.drewN n1).cell 2, chk_nz hs (Lt_intro fun c' hc' => ⟨st.n, (hb.drewN n1).cell 1, St_blk ((hb.drewN n1).drewN n2) rfl fun w1 h1 c1 _ => St_blk h1 rfl fun w2 h2 c2 _ => cnd_dec (fun k5 => ?_) (fun k5 => ?_)⟩)⟩
    all_goals rw [hk] at k5
    · rw [if_pos k5]
      exact St_blk h2 rfl fun w3 h3 c3 _ => St_blk h3 rfl fun w4 h4 c4 _ => ⟨rfl, h4, (((((Chg.drewN _ w n1).trans (Chg.drewN _ _ n2)).trans c1).trans c2).trans c3).trans c4⟩
    · rw [if_neg k5]
      subst hk hl hc'
      exact ⟨rfl, h2, ((((Chg.drewN _ w n1).trans (Chg.drewN _ _ n2)).trans c1).trans c2)⟩

theorem kept_ok {w : World} {b : Nat} {st : Buf} {t : TypeId} (hb : Blk w b st.enc t) :
    Calls Try.prog n_Kept #[.pointer (some ⟨b, 0, none⟩)] w fun e w' => e = .returned (.tuple #[.int .u32 st.head, .int .i64 st.n]) ∧ Blk w' b st.enc t ∧ Chg (· = b) w w' := by
  apply c_Kept
  exact ⟨st.head, hb.cell 0, st.n, hb.cell 1, fun n => ⟨rfl, hb.drewN n, Chg.drewN _ _ n⟩⟩

theorem new_ok (w : World) :
    Calls Try.prog n_New #[] w fun e w' => e = .returned (.pointer (some ⟨w.heap.size, 0, none⟩)) ∧ (∃ t, Blk w' w.heap.size (Buf.enc ⟨0, 0, 0⟩) t) ∧ Chg (fun _ => False) w w' ∧ w'.heap.size = w.heap.size + 1 := by
  apply c_New
  exact Nw_blk fun w1 h1 c1 s1 => ⟨rfl, ⟨_, h1⟩, c1, s1⟩

theorem awake_ok (w : World) : Calls Try.prog n_awake #[] w fun e w' => e = .returned (.bool true) ∧ Chg (fun _ => False) w w' := by
  apply c_awake
  unfold p_awake
  refine (new_ok w).mono fun e w1 ⟨he, ⟨t, h1⟩, c1, s1⟩ => ⟨_, he, ?_⟩
  refine (fetch_ok h1 _ _ _ _).mono fun e w2 ⟨he, h2, c2⟩ => ⟨_, he, ?_⟩
  refine (rest_ok h2 _ _).mono fun e w3 ⟨he, h3, c3⟩ => ⟨he, ?_⟩
  refine (kept_ok h3).mono fun e w4 ⟨he, h4, c4⟩ => ⟨_, _, he, ?_⟩
  refine cnd_beq (fun _ => cnd_beq (fun _ => ?_) (fun h => absurd (by decide) h)) (fun h => absurd (by decide) h)
  refine (fetch_ok h4 _ _ _ _).mono fun e w5 ⟨he, h5, c5⟩ => ⟨_, he, cnd_beq (fun _ => ?_) (fun h => absurd (by decide) h)⟩
  refine (fetch_ok h5 _ _ _ _).mono fun e w6 ⟨he, h6, c6⟩ => ⟨_, he, rfl, ?_⟩
  have c26 := ((((c2.trans c3).trans c4).trans c5).trans c6)
  exact c1.then c26 fun k hk e => by omega

end Go.Proofs.Ytiipgdankpgcoaa
