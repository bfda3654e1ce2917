/-
  A journal's calls as plain functions of the journal and the disk.
-/
import Derived.Test.YtcgigdfahlmfaaaGreatDoorDk
namespace Go.Proofs.YtcgigdfahlmfaaaGreatDoor
open Go.Vc
set_option linter.unusedVariables false
set_option linter.unusedSimpArgs false
structure Jn where
  n : Nat
  sl : Nat
  ba : Nat
  ct : Nat
  ar : Nat
  od : Bool
def Jn.nx (J : Jn) : Nat := (J.ba + J.ct) % 4294967296
structure Jin (J : Jn) : Prop where
  n0 : 1 ≤ J.n
  n1 : J.n ≤ 2048
  s0 : 1 ≤ J.sl
  s1 : J.sl ≤ 1024
  b : J.ba < 4294967296
  c : J.ct ≤ J.sl
  a : J.ar < 2
def seqS (x : Int × Dk) : Int × Dk := if x.1 = 0 then sy x.2 else x
def layG (n a : Nat) (m : List UInt8) (i : Nat) : Int × ByteArray := (((2 + a * n + i : Nat) : Int), chunk' m n i)
def layD (n a : Nat) (m : List UInt8) (D : Dk) : Int × Dk := seqS (seqW (layG n a m) 0 n D)
def masD (a b : Nat) (D : Dk) : Int × Dk := seqS (wr D (a : Int) (mst b a))
def chk2D (J : Jn) (r : Int × Dk) : Int × Jn × Dk := if r.1 ≠ 0 then (r.1, J, r.2) else (0, ⟨J.n, J.sl, J.nx + J.sl, 0, 1 - J.ar, false⟩, r.2)
def chk1D (J : Jn) (r : Int × Dk) : Int × Jn × Dk := if r.1 ≠ 0 then (r.1, J, r.2) else chk2D J (masD (1 - J.ar) (J.nx + J.sl) r.2)
def chkD (J : Jn) (m : List UInt8) (D : Dk) : Int × Jn × Dk :=
  if m.length ≠ 64 * J.n then (1, J, D) else if J.nx > 4294965247 then (2, J, D) else chk1D J (layD J.n (1 - J.ar) m D)
def leftD (J : Jn) : Nat := if J.od = true then 0 else J.sl - J.ct
def app1D (J : Jn) (r : Int × Dk) : Int × Jn × Dk := if r.1 ≠ 0 then (r.1, J, r.2) else (0, ⟨J.n, J.sl, J.ba, J.ct + 1, J.ar, J.od⟩, r.2)
def appD (J : Jn) (c : E59) (D : Dk) : Int × Jn × Dk :=
  if okE c = false then (1, J, D) else if leftD J = 0 then (31, J, D) else app1D J (wr D ((2 + 2 * J.n + J.ct : Nat) : Int) (bs (wrapL J.nx (comE c))))
theorem Din.seqS {N k : Nat} {D0 : Dk} {x : Int × Dk} (h : Din N D0 x.2 k) : Din N D0 (seqS x).2 k := by
  unfold Proofs.YtcgigdfahlmfaaaGreatDoor.seqS; split
  · exact h.sy
  · exact h
theorem lay_in {N k : Nat} {D0 D : Dk} (h : Din N D0 D k) (n a : Nat) (m : List UInt8) : Din N D0 (layD n a m D).2 (k + n) := by
  unfold layD
  exact Din.seqS (seqW_in _ n 0 D k h)
theorem mas_in {N k : Nat} {D0 D : Dk} (h : Din N D0 D k) (a b : Nat) : Din N D0 (masD a b D).2 (k + 1) := Din.seqS (h.wr _ _)
theorem chk_in {N k : Nat} {D0 D : Dk} (h : Din N D0 D k) (J : Jn) (hj : Jin J) (m : List UInt8) : Din N D0 (chkD J m D).2.2 (k + 2049) ∧ Jin (chkD J m D).2.1 ∧ (chkD J m D).2.1.n = J.n ∧ (chkD J m D).2.1.sl = J.sl := by
  have hn := hj.n1
  have h1 := lay_in h J.n (1 - J.ar) m
  have h2 := mas_in h1 (1 - J.ar) (J.nx + J.sl)
  unfold chkD chk1D chk2D
  split
  · exact ⟨h.mono (by omega), hj, rfl, rfl⟩
  split
  · exact ⟨h.mono (by omega), hj, rfl, rfl⟩
  split
  · exact ⟨h1.mono (by omega), hj, rfl, rfl⟩
  split
  · exact ⟨h2.mono (by omega), hj, rfl, rfl⟩
  · refine ⟨h2.mono (by omega), ⟨hj.n0, hj.n1, hj.s0, hj.s1, ?_, Nat.zero_le _, ?_⟩, rfl, rfl⟩
    · have := hj.s1
      show J.nx + J.sl < 4294967296; omega
    · show 1 - J.ar < 2; omega
theorem app_in {N k : Nat} {D0 D : Dk} (h : Din N D0 D k) (J : Jn) (hj : Jin J) (c : E59) : Din N D0 (appD J c D).2.2 (k + 1) ∧ Jin (appD J c D).2.1 ∧ (appD J c D).2.1.n = J.n ∧ (appD J c D).2.1.sl = J.sl := by
  have h1 := h.wr ((2 + 2 * J.n + J.ct : Nat) : Int) (bs (wrapL J.nx (comE c)))
  have hc := hj.c
  unfold appD app1D
  split
  · exact ⟨h.mono (by omega), hj, rfl, rfl⟩
  split
  · exact ⟨h.mono (by omega), hj, rfl, rfl⟩
  rename_i hl
  split
  · exact ⟨h1, hj, rfl, rfl⟩
  · refine ⟨h1, ⟨hj.n0, hj.n1, hj.s0, hj.s1, hj.b, ?_, hj.a⟩, rfl, rfl⟩
    show J.ct + 1 ≤ J.sl
    unfold leftD at hl
    split at hl
    · exact absurd rfl hl
    · omega
theorem lay_eq {N k : Nat} {D : Dk} (h : Dok N k D) (hk : k ≤ 8000000000000) {n a : Nat} {slots base next area : Int} {old : Bool} {m : List UInt8} (hm : m.length = 64 * n) (hn : n ≤ 2048) (ha : a < 2) :
    f_lay ((64 * n : Nat) : Int) slots base next area old D.F D.S D.W D.B D.fu D.dn (a : Int) (bs m) = some ((layD n a m D).1, (layD n a m D).2.fu, (layD n a m D).2.dn, (layD n a m D).2.F, (layD n a m D).2.S, (layD n a m D).2.W) := by
  unfold f_lay
  have han : a * n ≤ 2048 := by rcases (show a = 0 ∨ a = 1 by omega) with rfl | rfl <;> omega
  have h0 : Int.tdiv ((64 * n : Nat) : Int) 64 = (n : Int) := by rw [tdiv_nn (by omega)]; omega
  refine (loop_seq (fun i D' => ((i : Int), D'.fu, D'.dn, D'.S, D'.W)) (layG n a m) (fun r => (r.1, r.2.fu, r.2.dn, r.2.F, r.2.S, r.2.W)) (fun D' => ((sy D').1, (sy D').2.fu, (sy D').2.dn, (sy D').2.F, (sy D').2.S, (sy D').2.W)) (N := N) (n := n) (D0 := D) (k0 := k) (fun i D' k' hi hd hk' hF => ?_) (fun D' k' hd hk' hF => ?_) n 0 D k (by omega) ⟨h, rfl⟩ (by omega) rfl).trans ?_
  · show cond (decide ((i : Int) < IntKind.wrap .i64 (Int.tdiv ((64 * n : Nat) : Int) 64))) _ _ = _
    rw [h0, wrap_i64 (x := (n : Int)) (by omega) (by omega), cpos (by omega), bs_size, wrap_i64 (x := (i : Int) * 64) (by omega) (by omega), wrap_i64 (x := (i : Int) + 1) (by omega) (by omega), wrap_i64 (x := ((i : Int) + 1) * 64) (by omega) (by omega), cand (by omega) (by omega), cand (by omega) (by omega)]
    unfold f_sector
    have e1 : IntKind.wrap .i64 ((a : Int) * (n : Int)) = ((a * n : Nat) : Int) := by
      rw [show (a : Int) * (n : Int) = ((a * n : Nat) : Int) by simp, wrap_i64 (by omega) (by omega)]
    rw [h0, wrap_i64 (x := (n : Int)) (by omega) (by omega), e1, wrap_i64 (x := 2 + ((a * n : Nat) : Int)) (by omega) (by omega), wrap_i64 (x := 2 + ((a * n : Nat) : Int) + (i : Int)) (by omega) (by omega), Let_eq, bind_some']
    have e2 : (bs m).extract ((i : Int) * 64).toNat (((i : Int) + 1) * 64).toNat = chunk' m n i := by
      unfold chunk'; rw [if_pos hi]; unfold chunk
      rw [bs_extract, show ((i : Int) * 64).toNat = 64 * i by omega, show (((i : Int) + 1) * 64).toNat - 64 * i = 64 by omega]
    rw [e2, show 2 + ((a * n : Nat) : Int) + (i : Int) = ((2 + a * n + i : Nat) : Int) by omega, ← hF, ← hd.B, wr_eq hd.ok (by omega), bind_some']
    show cond ((wr D' (layG n a m i).1 (layG n a m i).2).1 != 0) _ _ = _
    by_cases hz : (wr D' (layG n a m i).1 (layG n a m i).2).1 = 0
    · rw [if_pos hz, cbeq hz]
      show some (Sum.inl _) = _
      rfl
    · rw [if_neg hz, cbne hz, wr_F]; rfl
  · show cond (decide ((n : Int) < IntKind.wrap .i64 (Int.tdiv ((64 * n : Nat) : Int) 64))) _ (Option.bind (f_Sync _ _ _ _ _ _) _) = _
    rw [h0, wrap_i64 (x := (n : Int)) (by omega) (by omega), cneg (by omega), ← hF, ← hd.B, sy_eq hd.ok (by omega), bind_some', sy_S]
  · unfold layD seqS
    split <;> rfl
theorem master_eq {N k : Nat} {D : Dk} (h : Dok N k D) (hk : k ≤ 8000000000000) {a b : Nat} {size slots base next area : Int} {old : Bool} (hb : b < 4294967296) :
    f_master size slots base next area old D.F D.S D.W D.B D.fu D.dn (a : Int) (b : Int) = some ((masD a b D).1, (masD a b D).2.fu, (masD a b D).2.dn, (masD a b D).2.F, (masD a b D).2.S, (masD a b D).2.W) := by
  unfold f_master
  rw [ctrue (two_bytes a).1, (two_bytes a).2, Wrap_eq b hb, if_neg (by simp), bind_some']
  show Option.bind (f_Write D.F D.S D.W D.B D.fu D.dn (a : Int) (mst b a)) _ = _
  rw [wr_eq h (by omega), bind_some']
  show cond ((wr D (a : Int) (mst b a)).1 != 0) _ _ = _
  unfold masD seqS
  by_cases hz : (wr D (a : Int) (mst b a)).1 = 0
  · rw [if_pos hz, cbeq hz, ← wr_F D (a : Int) (mst b a), ← wr_B D (a : Int) (mst b a), sy_eq (wr_ok h _ _) (by omega), bind_some', sy_S]
  · rw [if_neg hz, cbne hz, wr_F]
theorem nx_lt (J : Jn) : J.nx < 4294967296 := Nat.mod_lt _ (by decide)
theorem nx_sub {J : Jn} (hj : Jin J) : IntKind.wrap .u32 ((J.nx : Int) - (J.ba : Int)) = (J.ct : Int) := by
  have e : ∀ x : Int, IntKind.wrap .u32 x = x % 4294967296 := fun _ => rfl
  have := hj.c; have := hj.s1; have := hj.b
  rw [e]; unfold Jn.nx; omega
theorem Left_eq {J : Jn} (hj : Jin J) {size area : Int} {F S : List ByteArray} {W : List E115} {B : List (Int × Bool)} {fu : Int} {dn : Bool} :
    f_Left size (J.sl : Int) (J.ba : Int) (J.nx : Int) area J.od F S W B fu dn = some ((leftD J : Nat) : Int) := by
  have := hj.c; have := hj.s1
  unfold f_Left leftD
  by_cases ho : J.od = true
  · rw [ctrue ho, if_pos ho]; rfl
  · rw [cfalse (by simpa using ho), if_neg ho, nx_sub hj, wrap_i64 (x := (J.ct : Int)) (by omega) (by omega), wrap_i64 (by omega) (by omega), Let_eq]
    exact congrArg some (show (J.sl : Int) - (J.ct : Int) = ((J.sl - J.ct : Nat) : Int) by omega)
theorem slot_eq {J : Jn} (hj : Jin J) {slots area : Int} {old : Bool} {F S : List ByteArray} {W : List E115} {B : List (Int × Bool)} {fu : Int} {dn : Bool} :
    f_slot ((64 * J.n : Nat) : Int) slots (J.ba : Int) (J.nx : Int) area old F S W B fu dn (J.nx : Int) = some ((2 + 2 * J.n + J.ct : Nat) : Int) := by
  have := hj.c; have := hj.s1; have := hj.n1
  unfold f_slot
  have h0 : Int.tdiv ((64 * J.n : Nat) : Int) 64 = (J.n : Int) := by rw [tdiv_nn (by omega)]; omega
  rw [h0, nx_sub hj, wrap_i64 (x := (J.n : Int)) (by omega) (by omega), wrap_i64 (x := 2 * (J.n : Int)) (by omega) (by omega), wrap_i64 (x := 2 + 2 * (J.n : Int)) (by omega) (by omega), wrap_i64 (x := (J.ct : Int)) (by omega) (by omega), wrap_i64 (by omega) (by omega), Let_eq]
  exact congrArg some (show 2 + 2 * (J.n : Int) + (J.ct : Int) = ((2 + 2 * J.n + J.ct : Nat) : Int) by omega)
theorem Append_eq {N k : Nat} {D : Dk} (h : Dok N k D) (hk : k ≤ 8000000000000) {J : Jn} (hj : Jin J) (c : E59) :
    f_Append ((64 * J.n : Nat) : Int) (J.sl : Int) (J.ba : Int) (J.nx : Int) (J.ar : Int) J.od D.F D.S D.W D.B D.fu D.dn c.Kind c.Addr c.Data = some ((appD J c D).1, ((appD J c D).2.1.nx : Int), (appD J c D).2.2.fu, (appD J c D).2.2.dn, (appD J c D).2.2.S, (appD J c D).2.2.W) := by
  unfold f_Append appD
  rw [Record_h c (nx_lt J), bind_some']
  by_cases hc : okE c = true
  · rw [if_pos hc, if_neg (by rw [hc]; decide)]
    show cond ((0 : Int) != 0) _ (Option.bind (f_Left _ _ _ _ _ _ _ _ _ _ _ _) _) = _
    rw [cbeq rfl, Left_eq hj, bind_some']
    by_cases hl : leftD J = 0
    · rw [if_pos hl, ceq (by omega)]
    · rw [if_neg hl, cne (by omega), slot_eq hj, bind_some', wr_eq h (by omega), bind_some']
      show cond ((wr D ((2 + 2 * J.n + J.ct : Nat) : Int) (bs (wrapL J.nx (comE c)))).1 != 0) _ _ = _
      unfold app1D
      by_cases hz : (wr D ((2 + 2 * J.n + J.ct : Nat) : Int) (bs (wrapL J.nx (comE c)))).1 = 0
      · rw [if_neg (by rw [hz]; decide), cbeq hz]
        have e : ∀ x : Int, IntKind.wrap .u32 x = x % 4294967296 := fun _ => rfl
        have e2 : IntKind.wrap .u32 ((J.nx : Int) + 1) = (((J.ba + (J.ct + 1)) % 4294967296 : Nat) : Int) := by rw [e]; unfold Jn.nx; omega
        rw [e2]; rfl
      · rw [if_pos hz, cbne hz]
  · rw [if_neg hc, if_pos (by simpa using hc)]
    show cond ((1 : Int) != 0) _ _ = _
    rw [cbne (by decide)]
theorem Check_eq {N k : Nat} {D : Dk} (h : Dok N k D) (hk : k ≤ 7000000000000) {J : Jn} (hj : Jin J) (m : List UInt8) :
    f_Check ((64 * J.n : Nat) : Int) (J.sl : Int) (J.ba : Int) (J.nx : Int) (J.ar : Int) J.od D.F D.S D.W D.B D.fu D.dn (bs m) = some ((chkD J m D).1, ((chkD J m D).2.1.ba : Int), ((chkD J m D).2.1.nx : Int), ((chkD J m D).2.1.ar : Int), (chkD J m D).2.1.od, (chkD J m D).2.2.fu, (chkD J m D).2.2.dn, (chkD J m D).2.2.F, (chkD J m D).2.2.S, (chkD J m D).2.2.W) := by
  have hn := hj.n1; have hs := hj.s1; have ha := hj.a
  have hx := nx_lt J
  unfold f_Check chkD
  rw [bs_size]
  by_cases h1 : m.length = 64 * J.n
  · rw [if_neg (by omega), cbeq (by omega)]
    by_cases h2 : J.nx > 4294965247
    · rw [if_pos h2, cpos (by omega)]
    · have hl := lay_in (⟨h, rfl⟩ : Din N D D k) J.n (1 - J.ar) m
      rw [if_neg h2, cneg (by omega), wrap_u32 (x := (J.sl : Int)) (by omega) (by omega), wrap_u32 (x := (J.nx : Int) + (J.sl : Int)) (by omega) (by omega), Let_eq, wrap_i64 (x := 1 - (J.ar : Int)) (by omega) (by omega), show 1 - (J.ar : Int) = ((1 - J.ar : Nat) : Int) by omega, lay_eq h (by omega) h1 hn (by omega), bind_some']
      show cond ((layD J.n (1 - J.ar) m D).1 != 0) _ (Option.bind (f_master _ _ _ _ _ _ _ _ _ _ _ _ _ _) _) = _
      unfold chk1D
      generalize layD J.n (1 - J.ar) m D = r at hl ⊢
      by_cases hz : r.1 = 0
      · rw [if_neg (by rw [hz]; decide), cbeq hz, ← hl.B, show (J.nx : Int) + (J.sl : Int) = ((J.nx + J.sl : Nat) : Int) by omega, master_eq hl.ok (by omega) (by omega), bind_some']
        show cond ((masD (1 - J.ar) (J.nx + J.sl) r.2).1 != 0) _ _ = _
        unfold chk2D
        by_cases hy : (masD (1 - J.ar) (J.nx + J.sl) r.2).1 = 0
        · rw [if_neg (by rw [hy]; decide), cbeq hy]
          have e : Jn.nx ⟨J.n, J.sl, J.nx + J.sl, 0, 1 - J.ar, false⟩ = J.nx + J.sl := Nat.mod_eq_of_lt (by show J.nx + J.sl + 0 < 4294967296; omega)
          rw [e]
        · rw [if_pos hy, cbne hy]
      · rw [if_pos hz, cbne hz]
  · rw [if_pos h1, cbne (by omega)]
end Go.Proofs.YtcgigdfahlmfaaaGreatDoor
