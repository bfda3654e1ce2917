/-
  Writes keep a unit well; awake; a unit that is none.
-/
import Derived.Test.YtieamlpjdilcoaaWf
import Derived.Test.YtieamlpjdilcoaaRead
namespace Go.Proofs.Ytieamlpjdilcoaa
open Go.Vc
set_option linter.unusedVariables false
set_option maxRecDepth 20000

theorem SqOk.duty_ {c : Sq} (h : SqOk c) {x : Int} (h0 : 0 ≤ x) (h1 : x < 65536) : SqOk (dutyC c x) ∧ (dutyC c x).at_ = c.at_ := by
  have e1 : 0 ≤ IntKind.wrap .i64 (bits .and .u16 (Int.fdiv x 64) 3) ∧ IntKind.wrap .i64 (bits .and .u16 (Int.fdiv x 64) 3) < 4 := by
    rw [and16 2 (by decide) (by decide) (by rw [fdiv_pos (by decide)]; omega) (by rw [fdiv_pos (by decide)]; omega), fdiv_pos (by decide), wrap_i64 (by omega) (by omega)]; omega
  have e2 : 0 ≤ IntKind.wrap .i64 (Int.fdiv x 4096) ∧ IntKind.wrap .i64 (Int.fdiv x 4096) < 16 := by
    rw [fdiv_pos (by decide), wrap_i64 (by omega) (by omega)]; omega
  unfold dutyC; dsimp only
  repeat' split
  all_goals exact ⟨{ h with duty := e1, start := e2 }, rfl⟩
theorem SqOk.freq_ {c : Sq} (h : SqOk c) {x : Int} (h0 : 0 ≤ x) (h1 : x < 65536) : SqOk (freqC c x) := by
  have e1 : 0 ≤ IntKind.wrap .i64 (bits .and .u16 x 2047) ∧ IntKind.wrap .i64 (bits .and .u16 x 2047) < 2048 := by
    rw [and16 11 (by decide) (by decide) h0 h1, wrap_i64 (by omega) (by omega)]; omega
  exact { h with freq := e1 }
theorem SqOk.begin2 {c : Sq} (h : SqOk c) (i : Nat) (full : Int) : SqOk (begin2 (begin1 c full) i) := by
  unfold Proofs.Ytieamlpjdilcoaa.begin2 begin1
  repeat' split
  all_goals exact { h with }
theorem begin2_at {c : Sq} {i : Nat} {full : Int} : (begin2 (begin1 c full) i).at_ = c.at_ := by
  unfold Proofs.Ytieamlpjdilcoaa.begin2 begin1
  repeat' split
  all_goals rfl
theorem WF.begin {u : PU} (h : WF u) (i : Nat) (full : Int) : WF (beginF u i full) := by
  have h2 := (h.get i).begin2 i full
  have h3 : SqOk (beginC (u.get i) i full) := { h2 with volume := h2.start }
  have h4 : WF (u.put (beginC (u.get i) i full) i) := h.put h3 i (by
    rintro rfl
    show 0 ≤ (Proofs.Ytieamlpjdilcoaa.begin2 (begin1 u.wave full) 2).at_ ∧ _
    rw [begin2_at]; exact ⟨h.at_.1, by show (Proofs.Ytieamlpjdilcoaa.begin2 (begin1 u.wave full) 2).at_ < 64; rw [begin2_at]; exact h.at_.2⟩)
  have hc := cycles_bound h4 i
  have hw : 0 ≤ cyclesF (u.put (beginC (u.get i) i full) i) i ∧ cyclesF (u.put (beginC (u.get i) i full) i) i < 2147483648 := ⟨by omega, by omega⟩
  exact h4.put (c := { (u.put (beginC (u.get i) i full) i).get i with wait := cyclesF (u.put (beginC (u.get i) i full) i) i, at_ := 0, sweepLeft := _ }) { h4.get i with wait := hw } i (fun _ => (by decide : (0 : Int) ≤ 0 ∧ (0 : Int) < 64))
theorem WF.reg {u : PU} (h : WF u) {x : Int} (h0 : 0 ≤ x) (h1 : x < 65536) (i : Nat) (hi : i < 2) : WF (regF u x i) := by
  have h2 : WF (u.put (freqC (u.get i) x) i) := h.put ((h.get i).freq_ h0 h1) i (by omega)
  unfold regF
  split
  · exact h2.begin _ _
  · exact h2
theorem WF.write {u : PU} (h : WF u) (r : Int) {x : Int} (h0 : 0 ≤ x) (h1 : x < 65536) : WF (writeR u r x) := by
  unfold writeR
  split
  · refine { h with s0 := { h.s0 with by_ := ?_ } }
    show 0 ≤ IntKind.wrap .i64 (bits .and .u16 x 7) ∧ IntKind.wrap .i64 (bits .and .u16 x 7) < 8
    rw [and16 3 (by decide) (by decide) h0 h1, wrap_i64 (by omega) (by omega)]; omega
  split
  · exact { h with s0 := (h.s0.duty_ h0 h1).1 }
  split
  · exact { h with s1 := (h.s1.duty_ h0 h1).1 }
  split
  · exact { h with noise := (h.noise.duty_ h0 h1).1 }
  split
  · exact h.reg h0 h1 0 (by decide)
  split
  · exact h.reg h0 h1 1 (by decide)
  split
  · have e1 : IntKind.wrap .i64 (bits .and .u16 (Int.fdiv x 64) 1) = 0 ∨ IntKind.wrap .i64 (bits .and .u16 (Int.fdiv x 64) 1) = 1 := by
      rw [and16 1 (by decide) (by decide) (by rw [fdiv_pos (by decide)]; omega) (by rw [fdiv_pos (by decide)]; omega), fdiv_pos (by decide), wrap_i64 (by omega) (by omega)]; omega
    have hw : SqOk { u.wave with length := IntKind.wrap .i64 (256 - (IntKind.wrap .i64 (Int.fdiv x 256))) } := { h.wave with }
    unfold reg5; dsimp only
    split
    · exact { h with wave := { hw with }, page := e1, wv := rfl }
    · exact { h with wave := hw, page := e1, wv := rfl }
  split
  · refine { h with level := ?_ }
    show 0 ≤ levelT _ ∧ levelT _ < 5
    unfold levelT; repeat' split
    all_goals decide
  split
  · have e1 : 0 ≤ IntKind.wrap .i64 (bits .and .u16 x 7) ∧ IntKind.wrap .i64 (bits .and .u16 x 7) < 8 := by
      rw [and16 3 (by decide) (by decide) h0 h1, wrap_i64 (by omega) (by omega)]; omega
    have e2 : 0 ≤ IntKind.wrap .i64 (bits .and .u16 (Int.fdiv x 16) 15) ∧ IntKind.wrap .i64 (bits .and .u16 (Int.fdiv x 16) 15) < 16 := by
      rw [and16 4 (by decide) (by decide) (by rw [fdiv_pos (by decide)]; omega) (by rw [fdiv_pos (by decide)]; omega), fdiv_pos (by decide), wrap_i64 (by omega) (by omega)]; omega
    have h2 : WF { u with div := IntKind.wrap .i64 (bits .and .u16 x 7), narrow := (bits .and .u16 (Int.fdiv x 8) 1) == 1, shift := IntKind.wrap .i64 (bits .and .u16 (Int.fdiv x 16) 15), noise := { u.noise with useLength := (bits .and .u16 (Int.fdiv x 16384) 1) == 1 } } :=
      { h with div := e1, shift := e2, noise := { h.noise with } }
    unfold reg8; dsimp only
    split
    · exact { h2.begin 3 64 with }
    · exact h2
  split
  · have h2 : WF { u with wave := freqC u.wave x } := { h with wave := h.wave.freq_ h0 h1, wv := rfl }
    unfold reg9; dsimp only
    split
    · have h3 := h2.begin 2 256
      exact { h3 with wave := { h3.wave with }, wv := rfl }
    · exact h2
  · exact h
theorem WF.bank {u : PU} (h : WF u) (i x : Int) : WF (bankF u i x) := by
  unfold bankF
  repeat' split
  all_goals first | exact h | exact { h with }

def aw1 : PU := writeR PU.zero 1 61568
def aw2 : PU := writeR aw1 2 34560
theorem aw_facts : aw1.now = 0 ∧ aw2.now = 0 ∧ sqOut aw2.s0 = 15 ∧ playing aw2 = 1 ∧ sqOut (runStep aw2 16384).s0 = 0 ∧ (runStep aw2 16384).now = 16384 := by decide +kernel

theorem awake_ok (w : World) : Calls Try.prog n_awake #[] w fun e w' => e = .returned (.bool true) ∧ Chg (fun _ => False) w w' := by
  obtain ⟨f1, f2, f3, f4, f5, f6⟩ := aw_facts
  have w1 : WF aw1 := WF.zero.write 1 (by decide) (by decide)
  have w2 : WF aw2 := w1.write 2 (by decide) (by decide)
  have w3 : WF (runStep aw2 16384) := w2.runStep (by omega) (by omega) (by decide)
  apply c_awake
  unfold p_awake
  refine (new_ok w).mono fun e wa ⟨he, ha, ca, sa⟩ => ⟨_, he, ?_⟩
  have hw : w.heap.size ≤ w.heap.size := Nat.le_refl _
  generalize hb : w.heap.size = b at ha sa hw ⊢
  refine (write_ok ha (v := PU.zero) (n := 0) (.stop (by decide)) (by decide) 1 61568 (by decide) (by decide)).mono fun e wb ⟨he, hb1, cb⟩ => ⟨he, ?_⟩
  refine (write_ok (u := aw1) hb1 (v := aw1) (n := 0) (.stop (by omega)) w1.shift.1 2 34560 (by decide) (by decide)).mono fun e wc ⟨he, hc1, cc⟩ => ⟨he, ?_⟩
  refine (out_ok (u := aw2) hc1 w2.out).mono fun e wd ⟨he, hd1, cd⟩ => ⟨_, _, _, _, he, ?_⟩
  refine (playing_ok hd1).mono fun e we ⟨he, he1, ce⟩ => ⟨_, he, ?_⟩
  have c1 : Chg (fun _ => False) w we := by
    have c2 : Chg (· = b) wa we := ((cb.trans cc).trans (Chg.no cd)).trans (Chg.no ce)
    exact ca.then c2 fun k hk e => by omega
  have nb : b ≠ we.heap.size := Nat.ne_of_lt he1.lt
  refine Nw_blk (cs := [.int .i64 0, .int .i64 0, .int .i64 0, .int .i64 0]) fun wf hf cf sf => St_blk hf (by rfl) fun wg hg cg _ => St_blk hg (by rfl) fun wh hh ch _ => St_blk hh (by rfl) fun wi hi ci _ => St_blk hi (by rfl) fun wj hj cj _ => ?_
  have hs := c1.size
  generalize we.heap.size = x at *
  have cx : Chg (· = x) wf wj := ((cg.trans ch).trans ci).trans cj
  have hjb : Blk wj b aw2.enc 44 := (he1.keep cf id).keep cx nb
  have c2 : Chg (fun _ => False) w wj := (c1.trans cf).then cx fun k hk e => by omega
  have run : RunTo 16384 1 aw2 (runStep aw2 16384) := by
    have hb := runTo_bound (u := aw2) (now := 16384) (by omega) (by omega) (by decide)
    have hn : 0 ≤ IntKind.wrap .i64 (runTo aw2 16384 - aw2.now) ∧ IntKind.wrap .i64 (runTo aw2 16384 - aw2.now) ≤ 32768 := by
      rw [wrap_i64 (by omega) (by omega)]; omega
    have w4 : WF (run1 aw2 16384) := { w2.playTo hn 4 with }
    exact .go (by omega) (w2.playOk hn) w4.beat2.s0.by_.1 (.stop (by omega))
  refine (run_ok hjb run).mono fun e wk ⟨he, hk1, ck⟩ => ⟨he, chk_of (by decide) ⟨_, ld (hj.keep ck (Ne.symm nb)) (by rfl), ?_⟩⟩
  have c3 : Chg (fun _ => False) w wk := c2.then ck fun k hk e => by omega
  refine cnd_beq (fun _ => cnd_beq (fun _ => ?_) (fun h => absurd f4 h)) (fun h => absurd f3 h)
  refine (out_ok hk1 w3.out).mono fun e wl ⟨he, hl, cl⟩ => ⟨_, _, _, _, he, chk_of (by decide) ⟨_, rfl, ?_, c3.trans cl⟩⟩
  rw [f5]; rfl

theorem law_PsgNone (w : World) (a0 : Int) (w0 : (Lit.int .i64 a0).wf = true) (a1 : Int) (w1 : (Lit.int .i64 a1).wf = true) (a2 : Int) (w2 : (Lit.int .u16 a2).wf = true) :
    Calls Try.prog n_PsgNone #[.int .i64 a0, .int .i64 a1, .int .u16 a2] w fun e w' => e = .returned (.bool true) ∧ Chg (fun _ => False) w w' := by
  apply c_PsgNone
  unfold p_PsgNone
  refine (awake_ok w).mono fun e wa ⟨he, ca⟩ => ⟨_, he, cnd (fun h => by cases h) (fun _ => ?_)⟩
  refine (pure_WriteN _ _ _ (.tuple #[]) (by rfl) wa).mono fun e wb ⟨he, cb⟩ => ⟨he, ?_⟩
  refine (pure_BankN _ _ _ (.tuple #[]) (by rfl) wb).mono fun e wc ⟨he, cc⟩ => ⟨he, ?_⟩
  refine (pure_RunN _ (.tuple #[]) (by rfl) wc).mono fun e wd ⟨he, cd⟩ => ⟨he, ?_⟩
  refine (pure_OutN (.agg #[.int .i64 0, .int .i64 0, .int .i64 0, .int .i64 0]) (by rfl) wd).mono fun e we ⟨he, ce⟩ => ⟨_, _, _, _, he, cnd (fun _ => ?_) (fun h => by cases h)⟩
  refine (pure_PlayingN (.int .i64 0) (by rfl) we).mono fun e wf ⟨he, cf⟩ => ⟨_, he, cnd (fun _ => ?_) (fun h => by cases h)⟩
  refine (pure_PeekN _ (.int .u8 0) (by rfl) wf).mono fun e wg ⟨he, cg⟩ => ⟨_, he, rfl, ?_⟩
  exact (((((ca.trans cb).trans cc).trans cd).trans ce).trans cf).trans cg

end Go.Proofs.Ytieamlpjdilcoaa
