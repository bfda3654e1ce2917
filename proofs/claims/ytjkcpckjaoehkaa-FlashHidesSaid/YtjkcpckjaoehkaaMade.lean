/-
  awake; FlashMade.
-/
import Derived.Test.YtjkcpckjaoehkaaWrite
import Derived.Test.YtjkcpckjaoehkaaRead
namespace Go.Proofs.Ytjkcpckjaoehkaa
open Go.Vc
set_option linter.unusedVariables false

def clampN (n : Int) : Nat := (if (if (131072 : Int) < n then 131072 else n) > 0 then (if (131072 : Int) < n then 131072 else n) else 0).toNat
theorem clampN_eq (n : Int) : (if (if (131072 : Int) < n then 131072 else n) > 0 then (if (131072 : Int) < n then 131072 else n) else 0) = (clampN n : Int) ∧ clampN n ≤ 131072 := by
  unfold clampN
  split <;> split <;> (constructor <;> omega)
theorem blank_ok (n : Int) : PureCalls Try.prog n_Blank #[.int .i64 n] (.string (bs (ffs (clampN n)))) := by
  apply pure_Blank
  unfold q_Blank
  rw [(clampN_eq n).1]
  exact ⟨_, repeat_ok (clampN n) (by have := (clampN_eq n).2; omega), rfl⟩

theorem ffs_getD (n i : Nat) (h : i < n) : (ffs n).getD i 0 = 255 := by
  unfold ffs; simp [List.getD_eq_getElem?_getD, h]
theorem put_getD (m d : List UInt8) (a i : Nat) (h : a + d.length ≤ m.length) : (m.take a ++ d ++ m.drop (a + d.length)).getD i 0 = if i < a then m.getD i 0 else if i < a + d.length then d.getD (i - a) 0 else m.getD i 0 := by
  simp only [List.getD_eq_getElem?_getD]
  have ht : (m.take a).length = a := by simp; omega
  by_cases h1 : i < a
  · rw [if_pos h1, List.append_assoc, List.getElem?_append_left (by omega), List.getElem?_take_of_lt h1]
  · rw [if_neg h1]
    by_cases h2 : i < a + d.length
    · rw [if_pos h2, List.append_assoc, List.getElem?_append_right (by omega), List.getElem?_append_left (by omega), ht]
    · rw [if_neg h2, List.getElem?_append_right (by simp; omega), List.getElem?_drop]
      congr 2
      simp; omega

def aw0 : Chip := ⟨ffs 65536, 0, false, 0⟩
theorem step1 (m : List UInt8) (i : Bool) (bk : Int) : writeF ⟨m, 0, i, bk⟩ 21845 170 = (noneR, ⟨m, 1, i, bk⟩) := rfl
theorem step2 (m : List UInt8) (i : Bool) (bk : Int) : writeF ⟨m, 1, i, bk⟩ 10922 85 = (noneR, ⟨m, 2, i, bk⟩) := rfl
theorem step3 (m : List UInt8) (i : Bool) (bk : Int) : writeF ⟨m, 2, i, bk⟩ 21845 160 = (noneR, ⟨m, 3, i, bk⟩) := rfl
theorem Ok.of {c : Chip} {m : List UInt8} {s b : Int} {i : Bool} (h : m.length = 65536 ∨ m.length = 131072) (hb : b = 0) : Ok ⟨m, s, i, b⟩ := ⟨h, .inl hb⟩

theorem awake_ok (w : World) : Calls Try.prog n_awake #[] w fun e w' => e = .returned (.bool true) ∧ Chg (fun _ => False) w w' := by
  apply c_awake
  unfold p_awake
  have hbl : PureCalls Try.prog n_Blank #[.int .i64 65536] (.string (bs (ffs 65536))) := blank_ok 65536
  have hl := ffs_length 65536
  have hg : ∀ i, i < 65536 → (ffs 65536).getD i 0 = 255 := fun i h => ffs_getD 65536 i h
  generalize ffs 65536 = m at *
  refine (hbl w).mono fun e wa ⟨he, ca⟩ => ⟨_, he, ?_⟩
  refine (new_ok m wa).mono fun e wb ⟨cb, hn⟩ => ?_
  have hnew : newF m = true := decide_eq_true (.inl hl)
  rcases hn with ⟨h, _⟩ | ⟨_, he, hb⟩
  · rw [hnew] at h; cases h
  have sa := ca.size
  generalize wa.heap.size = b at *
  have ok : ∀ (s : Int), Ok ⟨m, s, false, 0⟩ := fun s => ⟨.inl hl, .inl rfl⟩
  refine ⟨_, _, he, ?_⟩
  refine (write_ok hb (ok 0) 21845 170 (by decide) (by decide) (by decide) (by decide)).mono fun e wc ⟨he, hc, cc⟩ => ⟨_, _, _, _, he, ?_⟩
  rw [step1] at hc
  refine (write_ok hc (ok 1) 10922 85 (by decide) (by decide) (by decide) (by decide)).mono fun e wd ⟨he, hd, cd⟩ => ⟨_, _, _, _, he, ?_⟩
  rw [step2] at hd
  refine (write_ok hd (ok 2) 21845 160 (by decide) (by decide) (by decide) (by decide)).mono fun e we ⟨he, hee, ce⟩ => ⟨_, _, _, _, he, ?_⟩
  rw [step3] at hee
  have hput : putByte ⟨m, 3, false, 0⟩ 291 90 = [90] := by
    have e1 : byteAt m 291 = 255 := by
      show ((m.getD 291 0).toNat : Int) = 255
      rw [hg 291 (by decide)]; rfl
    show [UInt8.ofNat (bits .and .u8 90 (byteAt m 291)).toNat] = [90]
    rw [e1]; decide
  have happ : applyF m 1 291 [90] = (m.take 291 ++ [90] ++ m.drop (291 + 1), 0) := by
    unfold applyF
    rw [if_pos (by decide), if_neg (by decide), if_neg (by decide), if_neg (by simp; omega)]
    rfl
  have hw : writeF ⟨m, 3, false, 0⟩ 291 90 = (⟨1, 291, [90], true⟩, ⟨m.take 291 ++ [90] ++ m.drop (291 + 1), 0, false, 0⟩) := by
    have : writeF ⟨m, 3, false, 0⟩ 291 90 = doneF ⟨m, 0, false, 0⟩ 1 291 (putByte ⟨m, 3, false, 0⟩ 291 90) := rfl
    rw [this, hput]
    unfold doneF
    rw [happ]
  refine (write_ok hee (ok 3) 291 90 (by decide) (by decide) (by decide) (by decide)).mono fun e wf ⟨he, hf, cf⟩ => ?_
  rw [hw] at he hf
  refine ⟨_, _, _, _, he, ?_⟩
  have c1 : Chg (· = b) wb wf := ((cc.trans cd).trans ce).trans cf
  have c2 : Chg (fun _ => False) w wf := (ca.trans cb).then c1 fun k hk e => by omega
  have nb : b ≠ wf.heap.size := Nat.ne_of_lt hf.lt
  have s2 := c2.size
  refine Nw_blk (cs := [.int .i64 0, .int .i64 0, .string (ByteArray.mk #[])]) fun wg hx cx _ => St_blk hx (by rfl) fun wh h2 d2 _ => St_blk h2 (by rfl) fun wi h3 d3 _ => St_blk h3 (by rfl) fun wj h4 d4 _ => ?_
  have c3 : Chg (fun _ => False) w wj := (c2.trans cx).then ((d2.trans d3).trans d4) fun k hk e => by omega
  have hj := (hf.keep cx id).keep ((d2.trans d3).trans d4) nb
  refine cnd_beq (fun _ => cnd (fun _ => ⟨_, ld h4 (by rfl), _, ld h4 (by rfl), _, ld h4 (by rfl), cnd (fun _ => ?_) (fun h => ?_)⟩) (fun h => by cases h)) (fun h => absurd rfl h)
  · have hlen : (m.take 291 ++ [90] ++ m.drop (291 + 1)).length = 65536 := by simp; omega
    have okf : Ok ⟨m.take 291 ++ [90] ++ m.drop (291 + 1), 0, false, 0⟩ := ⟨.inl hlen, .inl rfl⟩
    have gd := fun i => put_getD m [90] 291 i (by simp; omega)
    have r1 : readF ⟨m.take 291 ++ [90] ++ m.drop (291 + 1), 0, false, 0⟩ 291 = 90 := by
      show (((m.take 291 ++ [90] ++ m.drop (291 + 1)).getD 291 0).toNat : Int) = 90
      have := gd 291
      simp only [List.length_cons, List.length_nil] at this
      rw [this]; rfl
    have r2 : readF ⟨m.take 291 ++ [90] ++ m.drop (291 + 1), 0, false, 0⟩ 292 = 255 := by
      show (((m.take 291 ++ [90] ++ m.drop (291 + 1)).getD 292 0).toNat : Int) = 255
      have := gd 292
      simp only [List.length_cons, List.length_nil] at this
      rw [this, if_neg (by decide), if_neg (by decide), hg 292 (by decide)]; rfl
    refine (read_ok hj okf 291 (by decide) (by decide)).mono fun e wk ⟨he, hk, ck⟩ => ⟨_, he, ?_⟩
    rw [r1]
    refine cnd_beq (fun _ => ?_) (fun h => absurd rfl h)
    refine (read_ok hk okf 292 (by decide) (by decide)).mono fun e wl ⟨he, hl', cl⟩ => ⟨_, he, ?_, (c3.trans ck).trans cl⟩
    rw [r2]; rfl
  · exact absurd h (by show ¬ ((((1 : Int) == 1) && (((291 : Int) == 291) && (bs [90] == ByteArray.mk #[90]))) = false); decide)

theorem law_FlashMade (w : World) (a0 : Int) (w0 : (Lit.int .i64 a0).wf = true) (a1 : Int) (w1 : (Lit.int .u32 a1).wf = true) (a2 : Int) (w2 : (Lit.int .u8 a2).wf = true) :
    Calls Try.prog n_FlashMade #[.int .i64 a0, .int .u32 a1, .int .u8 a2] w fun e w' => e = .returned (.bool true) ∧ Chg (fun _ => False) w w' := by
  apply c_FlashMade
  unfold p_FlashMade
  refine (awake_ok w).mono fun e wa ⟨he, ca⟩ => ⟨_, he, cnd (fun h => by cases h) (fun _ => ?_)⟩
  refine (blank_ok a0 wa).mono fun e wb ⟨he, cb⟩ => ⟨_, he, ?_⟩
  have hcl := (clampN_eq a0).2
  rw [(clampN_eq a0).1, bs_size, ffs_length]
  refine cnd_bne (fun h => absurd rfl h) (fun _ => ?_)
  have hl := ffs_length (clampN a0)
  generalize ffs (clampN a0) = m at *
  generalize clampN a0 = n at *
  refine (new_ok m wb).mono fun e wc ⟨cc, hn⟩ => ?_
  have hc : Chg (fun _ => False) w wc := (ca.trans cb).trans cc
  have key : ∃ (x25a : Option Addr) (x25b : Int), e = .returned (.tuple #[.pointer x25a, .int .i64 x25b]) ∧ (x25b = 0 ∧ (n = 65536 ∨ n = 131072) ∨ x25b = 1 ∧ x25a = none ∧ n ≠ 65536 ∧ n ≠ 131072) := by
    rcases hn with ⟨h, he⟩ | ⟨h, he, _⟩
    · have h' := of_decide_eq_false h
      exact ⟨_, _, he, .inr ⟨rfl, rfl, by omega, by omega⟩⟩
    · have h' := of_decide_eq_true h
      exact ⟨_, _, he, .inl ⟨rfl, by omega⟩⟩
  obtain ⟨xa, xb, he, hk⟩ := key
  refine ⟨xa, xb, he, fun _ w' => Chg (fun _ => False) w w', ?_, ?_⟩
  · rcases hk with ⟨rfl, rfl | rfl⟩ | ⟨rfl, rfl, h1, h2⟩
    · exact hc
    · exact hc
    · have e1 : ((n : Int) == 65536) = false := by simp; omega
      have e2 : ((n : Int) == 131072) = false := by simp; omega
      rw [e1, e2]
      exact hc
  · intro wd cd
    refine (pure_WriteN a1 a2 (.tuple #[.agg #[.int .i64 0, .int .i64 0, .string (ByteArray.mk #[])], .bool false]) (by rfl) wd).mono fun e we ⟨he, ce⟩ => ⟨_, _, _, _, he, ?_⟩
    refine Nw_blk (cs := [.int .i64 0, .int .i64 0, .string (ByteArray.mk #[])]) fun wg hx cx _ => St_blk hx (by rfl) fun wh h2 d2 _ => St_blk h2 (by rfl) fun wi h3 d3 _ => St_blk h3 (by rfl) fun wj h4 d4 _ => ?_
    have c2 := cd.trans ce
    have s2 := c2.size
    have c3 : Chg (fun _ => False) w wj := (c2.trans cx).then ((d2.trans d3).trans d4) fun k hk e => by omega
    refine (pure_ReadN a1 (.int .u8 255) (by rfl) wj).mono fun e wk ⟨he, ck⟩ => ⟨_, he, cnd_beq (fun _ => cnd (fun _ => ?_) (fun h => by cases h)) (fun h => absurd rfl h)⟩
    refine (pure_ImageN (.string (ByteArray.mk #[])) (by rfl) wk).mono fun e wl ⟨he, cl⟩ => ⟨_, he, by rw [bs_nil, bs_toList]; rfl, (c3.trans ck).trans cl⟩

end Go.Proofs.Ytjkcpckjaoehkaa
