/-
  A journal of whatever size in use, while its disk may give out.
-/
import Derived.Test.YtcgigdfahlmfaaaGreatDoorJFuel
import Derived.Test.YtcgigdfahlmfaaaGreatDoorRunA
namespace Go.Proofs.YtcgigdfahlmfaaaGreatDoor
open Go.Vc
set_option linter.unusedVariables false
set_option linter.unusedSimpArgs false
theorem JX.app {S : List ByteArray} {n slots base area : Nat} {img : List UInt8} {cs : List E59} (hj : JF S n slots base area img cs) (c : E59) (h : okE c = true) (hroom : cs.length < slots) :
    JF (S.set (2 + 2 * n + cs.length) (bs (wrapL (base + cs.length) (comE c)))) n slots base area img (cs ++ [c]) := by
  have h1 := hj.n1; have h2 := hj.s1; have h3 := hj.b1; have h4 := hj.len; have h5 := hj.ar; have h6 := hj.n0
  have hA : area * n ≤ n := by rcases (show area = 0 ∨ area = 1 by omega) with e | e <;> rw [e] <;> omega
  have hsz : (bs (wrapL (base + cs.length) (comE c))).size = 64 := by rw [bs_size, wrapL_len _ _ (okE_len h)]
  have ne : ∀ i, i ≠ 2 + 2 * n + cs.length → (S.set (2 + 2 * n + cs.length) (bs (wrapL (base + cs.length) (comE c))))[i]? = S[i]? := fun i hi => List.getElem?_set_ne (by omega)
  have hlow : ∀ k, (cs ++ [c]).length ≤ k → k < slots → ∃ s, s.length = 64 ∧ (S.set (2 + 2 * n + cs.length) (bs (wrapL (base + cs.length) (comE c))))[2 + 2 * n + k]? = some (bs s) ∧ lastN s < base := by
    intro k hk1 hk2
    rw [List.length_append, List.length_singleton] at hk1
    rw [ne _ (by omega)]
    exact hj.low k (by omega) hk2
  obtain ⟨s, e0, e1, e2, e3⟩ := hj.other
  refine ⟨hj.full.set hsz, by rw [List.length_set]; exact h4, hj.n0, hj.n1, hj.s0, hj.s1, hj.b0, hj.b1, hj.ar, (ne _ (by omega)).trans hj.mast, ⟨s, e0, (ne _ (by omega)).trans e1, e2, e3⟩, hj.imgl, fun i hi => (ne _ (by omega)).trans (hj.imgat i hi), by simp; omega, fun k hk => ?_, hlow, fun hk => ?_⟩
  · rw [List.length_append, List.length_singleton] at hk
    by_cases hk' : k < cs.length
    · rw [List.getElem_append_left hk', ne _ (by omega)]
      exact hj.rcs k hk'
    · have : k = cs.length := by omega
      subst this
      rw [List.getElem_append_right (Nat.le_refl _)]
      simp only [Nat.sub_self, List.getElem_cons_zero]
      exact ⟨h, List.getElem?_set_self (by omega)⟩
  · obtain ⟨s, a1, a2, a3⟩ := hlow _ (Nat.le_refl _) hk
    refine ⟨s, a1, a2, ?_⟩
    by_cases hr : (recordedL s).2.2.2.2 = 0
    · right; rw [recorded_last hr]; omega
    · exact .inl hr
structure Ex (n slots bd : Nat) (F : List ByteArray) (W : List E115) (may : List ByteArray) (sure : Nat) : Prop where
  full : Full F
  len : F.length = 2 + 2 * n + slots
  soft : Soft F.length W
  le : sure ≤ may.length
  safe : ∀ picks, ∃ base area img cs s, JO (crashL F W picks) n slots base area img cs ∧ base ≤ bd ∧ runE img cs = some s ∧ bs s ∈ may.drop sure
theorem Ex.more {n slots bd bd' : Nat} {F : List ByteArray} {W : List E115} {may : List ByteArray} {sure : Nat} (h : Ex n slots bd F W may sure) (hb : bd ≤ bd') (x : ByteArray) : Ex n slots bd' F W (may ++ [x]) sure := by
  refine ⟨h.full, h.len, h.soft, by have := h.le; simp; omega, fun picks => ?_⟩
  obtain ⟨b, a, i, c, s, e1, e2, e3, e4⟩ := h.safe picks
  exact ⟨b, a, i, c, s, e1, by omega, e3, by rw [List.drop_append_of_le_length h.le]; exact List.mem_append_left _ e4⟩
structure Lv (n slots : Nat) (F S : List ByteArray) (W : List E115) (base area : Nat) (img : List UInt8) (cs : List E59) (m0 : Nat) (now : List UInt8) (may : List ByteArray) (sure : Nat) : Prop where
  jf : JF F n slots base area img (cs.take m0)
  js : JF S n slots base area img cs
  good : Good F S W
  m0l : m0 ≤ cs.length
  wr : ∀ w ∈ W, Wr n base area cs m0 w
  wl : W.length ≤ cs.length
  run : runE img cs = some now
  pre : ∃ pre, may = pre ++ [bs now] ∧ sure ≤ pre.length
  mem : ∀ m, m0 ≤ m → m ≤ cs.length → ∃ x, runE img (cs.take m) = some x ∧ bs x ∈ may.drop sure
section
variable {n slots : Nat} {F S : List ByteArray} {W : List E115} {base area : Nat} {img : List UInt8} {cs : List E59} {m0 : Nat} {now : List UInt8} {may : List ByteArray} {sure : Nat}
theorem Lv.le (h : Lv n slots F S W base area img cs m0 now may sure) : sure ≤ may.length := by
  obtain ⟨pre, e, hp⟩ := h.pre
  rw [e]; simp; omega
theorem Lv.okc (h : Lv n slots F S W base area img cs m0 now may sure) : ∀ k (hk : k < cs.length), okE cs[k] = true := fun k hk => (h.js.rcs k hk).1
theorem ArW.soft {n a L : Nat} (hl : 2 + a * n + n ≤ L) {w : E115} (h : ArW n a w) : 0 ≤ w.sector ∧ w.sector < L ∧ w.data.size = 64 := by
  obtain ⟨i, x, hi, hx, rfl⟩ := h
  exact ⟨by show (0 : Int) ≤ ((2 + a * n + i : Nat) : Int); omega, by show ((2 + a * n + i : Nat) : Int) < _; omega, hx⟩
theorem Lv.exitX (h : Lv n slots F S W base area img cs m0 now may sure) {X : List E115} (hX : ∀ w ∈ X, ArW n (1 - area) w) {bd : Nat} (hb : base ≤ bd) : Ex n slots bd F (W ++ X) may sure := by
  have hl := h.jf.len; have ha := h.jf.ar
  have hA : (1 - area) * n ≤ n := by rcases (show area = 0 ∨ area = 1 by omega) with e | e <;> rw [e] <;> simp
  refine ⟨h.jf.full, by rw [hl], fun w hw => ?_, h.le, fun picks => ?_⟩
  · rcases List.mem_append.1 hw with hw | hw
    · exact h.good.soft w hw
    · exact (hX w hw).soft (by omega)
  · obtain ⟨m, a1, a2, a3⟩ := safe_new (W := W ++ X) h.jf h.m0l h.js.csl h.okc (fun w hw => by
      rcases List.mem_append.1 hw with hw | hw
      · exact h.wr w hw
      · exact .inr (hX w hw)) picks
    obtain ⟨x, b1, b2⟩ := h.mem m a1 a2
    exact ⟨base, area, img, _, x, a3, hb, b1, b2⟩
theorem Lv.exit (h : Lv n slots F S W base area img cs m0 now may sure) {bd : Nat} (hb : base ≤ bd) : Ex n slots bd F W may sure := by
  have := h.exitX (X := []) (fun w hw => by cases hw) hb
  rw [List.append_nil] at this; exact this
theorem drop_last {may pre : List ByteArray} {x : ByteArray} (h : may = pre ++ [x]) : may.drop pre.length = [x] := by rw [h]; simp
theorem Lv.exitM (h : Lv n slots F S W base area img cs m0 now may sure) {m : List UInt8} (hm : m.length = 64 * n) {X : List E115} (hX : ∀ w ∈ X, w = ⟨((1 - area : Nat) : Int), mst (base + cs.length + slots) (1 - area)⟩) {bd : Nat} (hb : base + cs.length + slots ≤ bd) (hb4 : bd ≤ 4000000000) : Ex n slots bd (putN S (2 + (1 - area) * n) (chunk' m n) n) X (may ++ [bs m]) sure := by
  have hl := h.js.len; have ha := h.js.ar; have hs0 := h.js.s0
  have hA : (1 - area) * n ≤ n := by rcases (show area = 0 ∨ area = 1 by omega) with e | e <;> rw [e] <;> simp
  have hj := h.js.putN (f := chunk' m n) (chunk'_size (n := n) hm) n (Nat.le_refl _)
  have hmem : ∀ x, x ∈ may.drop sure → x ∈ (may ++ [bs m]).drop sure := fun x hx => by rw [List.drop_append_of_le_length h.le]; exact List.mem_append_left _ hx
  refine ⟨hj.full, by rw [hj.len], fun w hw => ?_, by have := h.le; simp; omega, fun picks => ?_⟩
  · rw [hX w hw]
    exact ⟨by show (0 : Int) ≤ ((1 - area : Nat) : Int); omega, by show ((1 - area : Nat) : Int) < _; rw [hj.len]; omega, mst_size _ _⟩
  · rcases safe_master hj (by omega) (fun s hs => .inl hs) hX picks with e | e
    · have hc := (h.js.chk2 (nb := base + cs.length + slots) hm (by omega) (by omega) (by omega) (by omega)).old
      rw [e]
      refine ⟨_, _, m, [], m, hc, hb, rfl, ?_⟩
      rw [List.drop_append_of_le_length h.le]; simp
    · obtain ⟨x, b1, b2⟩ := h.mem cs.length h.m0l (Nat.le_refl _)
      rw [List.take_length] at b1
      exact ⟨base, area, img, cs, x, e, by omega, b1, hmem _ b2⟩
theorem Lv.check (h : Lv n slots F S W base area img cs m0 now may sure) {m : List UInt8} (hm : m.length = 64 * n) (hb4 : base + cs.length + slots ≤ 4000000000) :
    Lv n slots (chk2 S n (base + cs.length + slots) area m) (chk2 S n (base + cs.length + slots) area m) [] (base + cs.length + slots) (1 - area) m [] 0 m (may ++ [bs m]) may.length := by
  have hs0 := h.js.s0
  have hc := h.js.chk2 (nb := base + cs.length + slots) (m := m) hm (by omega) (by omega) (by omega) hb4
  exact ⟨hc, hc, Good.self hc.full, Nat.le_refl _, (fun w hw => by cases hw), Nat.le_refl _, rfl, ⟨may, rfl, Nat.le_refl _⟩, fun k h1 h2 => ⟨m, by simp [runE], by simp⟩⟩
theorem Lv.app (h : Lv n slots F S W base area img cs m0 now may sure) {c : E59} (h0 : (stepE now c).2 = 0) (hroom : cs.length < slots) :
    Lv n slots F (S.set (2 + 2 * n + cs.length) (bs (wrapL (base + cs.length) (comE c)))) (W ++ [⟨((2 + 2 * n + cs.length : Nat) : Int), bs (wrapL (base + cs.length) (comE c))⟩]) base area img (cs ++ [c]) m0 (stepE now c).1 (may ++ [bs (stepE now c).1]) sure := by
  have hok := stepE_ok h0
  have hl := h.js.len; have hm0 := h.m0l
  have hrun := runE_snoc c cs img now h.run h0
  refine ⟨by rw [List.take_append_of_le_length hm0]; exact h.jf, h.js.app c hok hroom, h.good.add (by omega) (by rw [bs_size, wrapL_len _ _ (okE_len hok)]), by simp; omega, fun w hw => ?_, by have := h.wl; simp; omega, hrun, ⟨may, rfl, h.le⟩, fun m h1 h2 => ?_⟩
  · rcases List.mem_append.1 hw with hw | hw
    · rcases h.wr w hw with ⟨k, hk, a1, a2⟩ | a
      · exact .inl ⟨k, by simp; omega, a1, by rw [List.getElem_append_left hk]; exact a2⟩
      · exact .inr a
    · rw [List.mem_singleton.1 hw]
      exact .inl ⟨cs.length, by simp, hm0, by rw [List.getElem_append_right (Nat.le_refl _)]; simp⟩
  · rw [List.drop_append_of_le_length h.le]
    rw [List.length_append, List.length_singleton] at h2
    by_cases hm : m ≤ cs.length
    · obtain ⟨x, e1, e2⟩ := h.mem m h1 hm
      exact ⟨x, by rw [List.take_append_of_le_length hm]; exact e1, List.mem_append_left _ e2⟩
    · refine ⟨_, ?_, List.mem_append_right _ (List.mem_singleton.2 rfl)⟩
      rw [List.take_of_length_le (by simp; omega)]; exact hrun
theorem Lv.sync (h : Lv n slots F S W base area img cs m0 now may sure) : Lv n slots S S [] base area img cs cs.length now may (may.length - 1) := by
  obtain ⟨pre, e, hp⟩ := h.pre
  have hl : may.length - 1 = pre.length := by rw [e]; simp
  refine ⟨by rw [List.take_length]; exact h.js, h.js, Good.self h.js.full, Nat.le_refl _, (fun w hw => by cases hw), by simp, h.run, ⟨pre, e, by omega⟩, fun m h1 h2 => ⟨now, ?_, ?_⟩⟩
  · rw [List.take_of_length_le h1]; exact h.run
  · rw [hl, drop_last e]; simp
end
theorem zero_last : lastN (List.replicate 64 0) = 0 := by decide
theorem fmt_JF {S : List ByteArray} {n slots : Nat} {m : List UInt8} (hf : Full S) (hl : S.length = 2 + 2 * n + slots) (hn0 : 1 ≤ n) (hn1 : n ≤ 2048) (hs0 : 1 ≤ slots) (hs1 : slots ≤ 1024) (hm : m.length = 64 * n) : JF (fmt S n slots m) n slots 1 0 m [] := by
  have hzl := zN_len S n (slots + 2)
  have hpl : (putN (zN S n (slots + 2)) (2 + 0 * n) (chunk' m n) n).length = S.length := (putN_len _ _ _ _).trans hzl
  have hz : ∀ k, k < slots → (fmt S n slots m)[2 + 2 * n + k]? = some (bs (List.replicate 64 0)) := by
    intro k hk
    unfold fmt
    rw [List.getElem?_set_ne (by omega), putN_out n _ (by omega)]
    have := zN_hi (S := S) hn0 (slots + 2) (by omega) (2 + k) (by omega) (by omega)
    rw [show 2 * n + (2 + k) = 2 + 2 * n + k by omega] at this
    exact this
  refine ⟨?_, ?_, hn0, hn1, hs0, hs1, by omega, by omega, by omega, ?_, ?_, hm, fun i hi => ?_, by simp, fun k hk => absurd hk (by simp), fun k hk1 hk2 => ⟨_, by simp, hz k hk2, by rw [zero_last]; decide⟩, fun hk => ⟨_, by simp, hz 0 (by omega), .inl zero_rec⟩⟩
  · unfold fmt; exact (putN_full (zN_full hf n _) (chunk'_size hm) n).set (mst_size _ _)
  · unfold fmt; rw [List.length_set, hpl]; exact hl
  · unfold fmt; exact List.getElem?_set_self (by rw [hpl]; omega)
  · refine ⟨List.replicate 64 0, by simp, ?_, ?_, by rw [zero_last]; decide⟩
    · unfold fmt; rw [List.getElem?_set_ne (by omega), putN_out n _ (by omega), zN_lo (slots + 2) (by omega) 1 (by omega) (by omega)]; rfl
    · unfold mval; rw [if_neg (by rw [zero_open]; simp)]; decide
  · unfold fmt; rw [List.getElem?_set_ne (by omega), putN_in n (by omega) i hi, chunk'_eq hi]
theorem Check_x {S : List ByteArray} {n slots base area nx : Nat} {old : Bool} {img m : List UInt8} {cs : List E59} {P : List UInt8 → Prop} {sb : Nat} (hj : JX S n slots base area img cs P sb) (hm : m.length = 64 * n) (hx : nx ≤ 3999990000) :
    f_Check ((64 * n : Nat) : Int) (slots : Int) (base : Int) (nx : Int) (area : Int) old S S [] [] (-1) false (bs m) = some (0, ((nx + slots : Nat) : Int), ((nx + slots : Nat) : Int), ((1 - area : Nat) : Int), false, -1, false, chk2 S n (nx + slots) area m, chk2 S n (nx + slots) area m, []) := by
  have ha := hj.ar; have hl := hj.len; have hn0 := hj.n0; have hn1 := hj.n1; have hs1 := hj.s1
  have hA : (1 - area) * n ≤ n := by rcases (show area = 0 ∨ area = 1 by omega) with e | e <;> rw [e] <;> simp
  unfold f_Check
  rw [bs_size, cbeq (by omega), cneg (by omega), wrap_u32 (x := (slots : Int)) (by omega) (by omega), wrap_u32 (x := (nx : Int) + (slots : Int)) (by omega) (by omega), Let_eq, wrap_i64 (x := 1 - (area : Int)) (by omega) (by omega), show 1 - (area : Int) = ((1 - area : Nat) : Int) by omega, lay_h (Good.self hj.full) hm hn1 (by omega) (by omega) (by simp), bind_some']
  show cond ((0 : Int) != 0) _ (Option.bind (f_master _ _ _ _ _ _ _ _ _ _ _ _ _ _) _) = _
  have hg2 : Good (putN S (2 + (1 - area) * n) (chunk' m n) n) (putN S (2 + (1 - area) * n) (chunk' m n) n) [] := Good.self (putN_full hj.full (chunk'_size hm) n)
  rw [cbeq rfl, show (nx : Int) + (slots : Int) = ((nx + slots : Nat) : Int) by omega, master_h hg2 (by omega) (by rw [putN_len]; omega) (by simp), bind_some']
  show cond ((0 : Int) != 0) _ _ = _
  rw [cbeq rfl]; rfl
theorem Fuel_f (x : Int) (hx : x ≤ 9223372036854775807) : ∃ fu, FU fu ∧ ∀ F S W B f d, f_Fuel F S W B f d (if (0 : Int) > x then 0 else x) = some fu := by
  refine ⟨if (-1 : Int) > (if (0 : Int) > x then 0 else x) then -1 else (if (0 : Int) > x then 0 else x), ?_, fun F S W B f d => rfl⟩
  unfold FU
  split <;> split <;> omega
theorem old_check {L : List ByteArray} {n slots base area bd : Nat} {img s : List UInt8} {cs : List E59} (hj : JO L n slots base area img cs) (hr : runE img cs = some s) {fu : Int} (hf : FU fu) (hb : base + cs.length + slots ≤ bd) (hbd : bd ≤ 3999990000) :
    Ends (f_Check ((64 * n : Nat) : Int) (slots : Int) (base : Int) ((base + cs.length : Nat) : Int) (area : Int) true L L [] [] fu false (bs s)) fun r => ∃ e b2 n2 a2 o2 fu2 dn2 F2 S2 W2, r = (e, b2, n2, a2, o2, fu2, dn2, F2, S2, W2) ∧ Ex n slots bd F2 W2 [bs s] 0 := by
  have hl := hj.len; have ha := hj.ar; have hs0 := hj.s0; have hn0 := hj.n0; have hn1 := hj.n1; have hcl := hj.csl
  have hA : (1 - area) * n ≤ n := by rcases (show area = 0 ∨ area = 1 by omega) with e | e <;> rw [e] <;> simp
  have hm : s.length = 64 * n := by rw [runE_len cs hr]; exact hj.imgl
  obtain ⟨r, e, h⟩ := Check_f (base := (base : Int)) (nx := base + cs.length) (old := true) hf hj.full hl (by omega) (by omega) hj.s1 ha (Good.self hj.full) (by simp) hm (by omega)
  refine ⟨r, e, ?_⟩
  rcases h with ⟨fu', hf', rfl⟩ | ⟨fu', S', X, rfl, hxl, hX⟩ | ⟨fu', S', X, rfl, hX⟩
  · have hc := hj.chk2 (nb := base + cs.length + slots) (m := s) hm (by omega) (by omega) (by omega) (by omega)
    refine ⟨_, _, _, _, _, _, _, _, _, _, rfl, hc.full, hc.len, (fun w hw => by cases hw), by simp, fun picks => ?_⟩
    have : crashL (chk2 L n (base + cs.length + slots) area s) [] picks = chk2 L n (base + cs.length + slots) area s := crash_keep (W := []) (I := fun L' => L' = chk2 L n (base + cs.length + slots) area s) (fun L' _ w hw => by cases hw) picks _ rfl
    rw [this]
    exact ⟨_, _, s, [], s, hc.old, hb, rfl, by simp⟩
  · refine ⟨_, _, _, _, _, _, _, _, _, _, rfl, hj.full, hl, fun w hw => (hX w (by simpa using hw)).soft (by omega), by simp, fun picks => ?_⟩
    have := safe_lay (W := [] ++ X) hj (fun w hw => hX w (by simpa using hw)) picks
    exact ⟨base, area, img, cs, s, this, by omega, hr, by simp⟩
  · have hP := hj.putN (f := chunk' s n) (chunk'_size (n := n) hm) n (Nat.le_refl _)
    refine ⟨_, _, _, _, _, _, _, _, _, _, rfl, hP.full, hP.len, fun w hw => ?_, by simp, fun picks => ?_⟩
    · rw [hX w hw]
      exact ⟨by show (0 : Int) ≤ ((1 - area : Nat) : Int); omega, by show ((1 - area : Nat) : Int) < _; rw [hP.len]; omega, mst_size _ _⟩
    · rcases safe_master hP (Nat.le_refl _) (fun s hs => hs) hX picks with e | e
      · rw [e]
        exact ⟨_, _, s, [], s, (hj.chk2 (nb := base + cs.length + slots) hm (by omega) (by omega) (by omega) (by omega)).old, hb, rfl, by simp⟩
      · exact ⟨base, area, img, cs, s, e, by omega, hr, by simp⟩
theorem bs_inj2 {a b : List UInt8} (h : bs a = bs b) : a = b := by
  have : (bs a == bs b) = true := by rw [h, bs_beq]; simp
  rw [bs_beq] at this
  exact of_decide_eq_true this
theorem Lv.init {S : List ByteArray} {n slots base area : Nat} {now : List UInt8} (h : JF S n slots base area now []) : Lv n slots S S [] base area now [] 0 now [bs now] 0 :=
  ⟨h, h, Good.self h.full, Nat.le_refl _, (fun w hw => by cases hw), Nat.le_refl _, rfl, ⟨[], rfl, Nat.le_refl _⟩, fun m h1 h2 => ⟨now, by simp [runE], by simp⟩⟩
end Go.Proofs.YtcgigdfahlmfaaaGreatDoor
