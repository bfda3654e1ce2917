/-
  A journal on a disk that doesn't fail: Check, Format, Open.
-/
import Derived.Test.YtcgigdfahlmfaaaGreatDoorJrn
namespace Go.Proofs.YtcgigdfahlmfaaaGreatDoor
open Go.Vc
set_option linter.unusedVariables false
set_option linter.unusedSimpArgs false
theorem chunk'_eq {m : List UInt8} {n k : Nat} (h : k < n) : chunk' m n k = chunk m k := if_pos h
def chk2 (S : List ByteArray) (n nb area : Nat) (m : List UInt8) : List ByteArray := (putN S (2 + (1 - area) * n) (chunk' m n) n).set (1 - area) (mst nb (1 - area))
theorem Check_h {F S : List ByteArray} {W : List E115} {n slots base area nx : Nat} {old : Bool} {img m : List UInt8} {cs : List E59} (hj : JS S n slots base area img cs) (hg : Good F S W) (hw : W.length ≤ 900000) (hm : m.length = 64 * n) (hn : base + cs.length ≤ nx) (hx : nx ≤ 3999990000) :
    f_Check ((64 * n : Nat) : Int) (slots : Int) (base : Int) (nx : Int) (area : Int) old F S W [] (-1) false (bs m) = some (0, ((nx + slots : Nat) : Int), ((nx + slots : Nat) : Int), ((1 - area : Nat) : Int), false, -1, false, chk2 S n (nx + slots) area m, chk2 S n (nx + slots) area m, []) := by
  have ha := hj.ar; have hl := hj.len; have hn0 := hj.n0; have hn1 := hj.n1; have hs1 := hj.s1
  have hA : (1 - area) * n ≤ n := by rcases (show area = 0 ∨ area = 1 by omega) with e | e <;> rw [e] <;> simp
  unfold f_Check
  rw [bs_size, cbeq (by omega), cneg (by omega), wrap_u32 (x := (slots : Int)) (by omega) (by omega), wrap_u32 (x := (nx : Int) + (slots : Int)) (by omega) (by omega), Let_eq, wrap_i64 (x := 1 - (area : Int)) (by omega) (by omega), show 1 - (area : Int) = ((1 - area : Nat) : Int) by omega, lay_h hg hm hn1 (by omega) (by omega) hw, bind_some']
  show cond ((0 : Int) != 0) _ (Option.bind (f_master _ _ _ _ _ _ _ _ _ _ _ _ _ _) _) = _
  have hg2 : Good (putN S (2 + (1 - area) * n) (chunk' m n) n) (putN S (2 + (1 - area) * n) (chunk' m n) n) [] := Good.self (putN_full hj.full (chunk'_size hm) n)
  rw [cbeq rfl, show (nx : Int) + (slots : Int) = ((nx + slots : Nat) : Int) by omega, master_h hg2 (by omega) (by rw [putN_len]; omega) (by simp), bind_some']
  show cond ((0 : Int) != 0) _ _ = _
  rw [cbeq rfl]; rfl
def zN (S : List ByteArray) (n : Nat) : Nat → List ByteArray
  | 0 => S
  | k + 1 => (zN S n k).set (if k < 2 then k else 2 * n + k) Z
theorem zN_succ (S : List ByteArray) (n k : Nat) : zN S n (k + 1) = (zN S n k).set (if k < 2 then k else 2 * n + k) Z := rfl
theorem zN_len (S : List ByteArray) (n : Nat) : ∀ k, (zN S n k).length = S.length
  | 0 => rfl
  | k + 1 => by unfold zN; rw [List.length_set, zN_len S n k]
theorem zN_full {S : List ByteArray} (h : Full S) (n : Nat) : ∀ k, Full (zN S n k)
  | 0 => h
  | k + 1 => by unfold zN; exact (zN_full h n k).set Z_size
theorem zN_lo {S : List ByteArray} {n : Nat} : ∀ k, 2 * n + k ≤ S.length → ∀ j, j < 2 → j < k → (zN S n k)[j]? = some Z
  | 0, _, j, _, h => by omega
  | k + 1, hl, j, h2, h => by
    unfold zN
    by_cases hj : j = k
    · subst hj
      rw [if_pos h2, List.getElem?_set_self (by rw [zN_len]; omega)]
    · rw [List.getElem?_set_ne (by split <;> omega)]
      exact zN_lo k (by omega) j h2 (by omega)
theorem zN_hi {S : List ByteArray} {n : Nat} (hn : 1 ≤ n) : ∀ k, 2 * n + k ≤ S.length → ∀ j, 2 ≤ j → j < k → (zN S n k)[2 * n + j]? = some Z
  | 0, _, j, _, h => by omega
  | k + 1, hl, j, h2, h => by
    unfold zN
    by_cases hj : j = k
    · subst hj
      rw [if_neg (by omega), List.getElem?_set_self (by rw [zN_len]; omega)]
    · rw [List.getElem?_set_ne (by split <;> omega)]
      exact zN_hi hn k (by omega) j h2 (by omega)
theorem zero_open : (openL (List.replicate 64 0)).2.2 = 21 := by decide +kernel
theorem zero_rec : (recordedL (List.replicate 64 0)).2.2.2.2 ≠ 0 := by
  unfold recordedL
  rw [if_pos (by rw [zero_open]; decide)]
  dsimp only
  rw [zero_open]; decide
def fmt (S : List ByteArray) (n slots : Nat) (m : List UInt8) : List ByteArray := (putN (zN S n (slots + 2)) (2 + 0 * n) (chunk' m n) n).set 0 (mst 1 0)
theorem fmt_JS {S : List ByteArray} {n slots : Nat} {m : List UInt8} (hf : Full S) (hl : S.length = 2 + 2 * n + slots) (hn0 : 1 ≤ n) (hn1 : n ≤ 2048) (hs0 : 1 ≤ slots) (hs1 : slots ≤ 1024) (hm : m.length = 64 * n) : JS (fmt S n slots m) n slots 1 0 m [] := by
  have hzl := zN_len S n (slots + 2)
  have hpl : (putN (zN S n (slots + 2)) (2 + 0 * n) (chunk' m n) n).length = S.length := (putN_len _ _ _ _).trans hzl
  unfold fmt
  refine ⟨(putN_full (zN_full hf n _) (chunk'_size hm) n).set (mst_size _ _), by rw [List.length_set, hpl]; exact hl, hn0, hn1, hs0, hs1, by omega, by omega, by omega, List.getElem?_set_self (by rw [hpl]; omega), ?_, hm, fun i hi => ?_, by simp, fun k hk => absurd hk (by simp), fun k hk1 hk2 => ?_⟩
  · refine ⟨List.replicate 64 0, ?_, ?_⟩
    · rw [List.getElem?_set_ne (by omega), putN_out n _ (by omega), zN_lo (slots + 2) (by omega) 1 (by omega) (by omega)]; rfl
    · unfold mval; rw [if_neg (by rw [zero_open]; simp)]; decide
  · rw [List.getElem?_set_ne (by omega), putN_in n (by omega) i hi, chunk'_eq hi]
  · rw [List.getElem?_set_ne (by omega), putN_out n _ (by omega)]
    refine ⟨List.replicate 64 0, by simp, ?_, .inl zero_rec⟩
    have := zN_hi (S := S) hn0 (slots + 2) (by omega) (2 + k) (by omega) (by omega)
    rw [show 2 * n + (2 + k) = 2 + 2 * n + k by omega] at this
    exact this
theorem Sectors_h {n slots : Nat} (hn0 : 1 ≤ n) (hn1 : n ≤ 2048) (hs0 : 1 ≤ slots) (hs1 : slots ≤ 1024) : f_Sectors ((64 * n : Nat) : Int) (slots : Int) = some (((2 + 2 * n + slots : Nat) : Int), 0) := by
  unfold f_Sectors
  have h0 : Int.tdiv ((64 * n : Nat) : Int) 64 = (n : Int) := by rw [tdiv_nn (by omega)]; omega
  have h2 : Int.tmod ((64 * n : Nat) : Int) 64 = 0 := by rw [tmod_nn (by omega)]; omega
  rw [cneg (by omega), cneg (by omega), h2, cbeq rfl, cneg (by omega), cneg (by omega), h0, wrap_i64 (x := (n : Int)) (by omega) (by omega), wrap_i64 (x := 2 * (n : Int)) (by omega) (by omega), wrap_i64 (x := 2 + 2 * (n : Int)) (by omega) (by omega), wrap_i64 (x := 2 + 2 * (n : Int) + (slots : Int)) (by omega) (by omega), Let_eq, show 2 + 2 * (n : Int) + (slots : Int) = ((2 + 2 * n + slots : Nat) : Int) by omega]
theorem fits_h {F S : List ByteArray} {W : List E115} {n slots : Nat} (hl : S.length = 2 + 2 * n + slots) (hn0 : 1 ≤ n) (hn1 : n ≤ 2048) (hs0 : 1 ≤ slots) (hs1 : slots ≤ 1024) : f_fits F S W [] (-1) false ((64 * n : Nat) : Int) (slots : Int) = some 0 := by
  unfold f_fits
  rw [Sectors_h hn0 hn1 hs0 hs1, bind_some']
  show cond ((0 : Int) != 0) _ (Option.bind (f_Read F S W [] (-1) false (IntKind.wrap .i64 (((2 + 2 * n + slots : Nat) : Int) - 1))) _) = _
  rw [cbeq rfl, wrap_i64 (by omega) (by omega), show ((2 + 2 * n + slots : Nat) : Int) - 1 = ((2 + 2 * n + slots - 1 : Nat) : Int) by omega, Read_h (List.getElem?_eq_getElem (by omega)), bind_some']
  show cond ((0 : Int) != 0) _ _ = _
  rw [cbeq rfl]
theorem Format_h {F S : List ByteArray} {W : List E115} {n slots : Nat} {m : List UInt8} (hg : Good F S W) (hw : W.length ≤ 1000) (hl : S.length = 2 + 2 * n + slots) (hn0 : 1 ≤ n) (hn1 : n ≤ 2048) (hs0 : 1 ≤ slots) (hs1 : slots ≤ 1024) (hm : m.length = 64 * n) :
    f_Format F S W [] (-1) false (bs m) (slots : Int) = some (.inl (-1, false, ((64 * n : Nat) : Int), (slots : Int), fmt S n slots m, fmt S n slots m, [])) := by
  unfold f_Format
  rw [bs_size, hm, fits_h hl hn0 hn1 hs0 hs1, bind_some', cbeq rfl, Repeat0 (by decide) (by decide), bind_some']
  show loopO _ _ = _
  refine loopO_inv (fun (d : Nat) (st : Int × Int × Bool × List ByteArray × List E115) => ∃ (k : Nat) (W' : List E115), st = ((k : Int), -1, false, zN S n k, W') ∧ d = slots + 2 - k ∧ k ≤ slots + 2 ∧ Good F (zN S n k) W' ∧ W'.length = W.length + k) ?_ (slots + 2) _ ⟨0, W, rfl, rfl, by omega, hg, rfl⟩
  rintro d st ⟨k, W', rfl, rfl, hk, hg', hwl⟩
  by_cases hc : k < slots + 2
  · left
    have hzl := zN_len S n k
    refine ⟨(((k + 1 : Nat) : Int), -1, false, zN S n (k + 1), W' ++ [⟨(((if k < 2 then k else 2 * n + k) : Nat) : Int), Z⟩]), slots + 2 - (k + 1), ?_, by omega, k + 1, _, rfl, rfl, by omega, by unfold zN; exact hg'.add (by split <;> omega) Z_size, by simp; omega⟩
    show cond (decide ((k : Int) < IntKind.wrap .i64 ((slots : Int) + 2))) (cond (decide ((k : Int) ≥ 2)) _ _) _ = _
    rw [wrap_i64 (x := (slots : Int) + 2) (by omega) (by omega), cpos (by omega)]
    by_cases h2 : k < 2
    · rw [cneg (by omega)]
      show Option.bind (f_Write F (zN S n k) W' [] (-1) false (k : Int) Z) _ = _
      rw [Write_h (by omega) Z_size (by omega), bind_some']
      show cond ((0 : Int) != 0) _ _ = _
      rw [cbeq rfl, wrap_i64 (by omega) (by omega)]
      rw [zN_succ, if_pos h2]; rfl
    · rw [cpos (by omega), wrap_i64 (x := (k : Int) - 2) (by omega) (by omega), wrap_u32 (x := (k : Int) - 2) (by omega) (by omega), wrap_u32 (x := 1 + ((k : Int) - 2)) (by omega) (by omega), show 1 + ((k : Int) - 2) = ((1 + (k - 2) : Nat) : Int) by omega, slot_h (b := 1) (k := k - 2) hn1 (by omega) (by omega) (show (1 : Int) = ((1 : Nat) : Int) from rfl), bind_some']
      show Option.bind (f_Write F (zN S n k) W' [] (-1) false ((2 + 2 * n + (k - 2) : Nat) : Int) Z) _ = _
      rw [show 2 + 2 * n + (k - 2) = 2 * n + k by omega, Write_h (by omega) Z_size (by omega), bind_some']
      show cond ((0 : Int) != 0) _ _ = _
      rw [cbeq rfl, wrap_i64 (by omega) (by omega)]
      rw [zN_succ, if_neg h2]; rfl
  · right
    have he : k = slots + 2 := by omega
    subst he
    have hzl := zN_len S n (slots + 2)
    show cond (decide (((slots + 2 : Nat) : Int) < IntKind.wrap .i64 ((slots : Int) + 2))) _ (Option.bind (f_Sync F (zN S n (slots + 2)) W' [] (-1) false) _) = _
    rw [wrap_i64 (x := (slots : Int) + 2) (by omega) (by omega), cneg (by omega), Sync_h hg' (by omega), bind_some']
    show cond ((0 : Int) != 0) _ (Option.bind (f_lay _ _ _ _ _ _ _ _ _ _ _ _ _ _) _) = _
    have hg1 : Good (zN S n (slots + 2)) (zN S n (slots + 2)) [] := Good.self hg'.fullS
    rw [cbeq rfl, show f_lay ((64 * n : Nat) : Int) (slots : Int) 1 1 0 false (zN S n (slots + 2)) (zN S n (slots + 2)) [] [] (-1) false 0 (bs m) = _ from lay_h (a := 0) hg1 hm hn1 (by omega) (by omega) (by simp), bind_some']
    show cond ((0 : Int) != 0) _ (Option.bind (f_master _ _ _ _ _ _ _ _ _ _ _ _ _ _) _) = _
    have hg2 : Good (putN (zN S n (slots + 2)) (2 + 0 * n) (chunk' m n) n) (putN (zN S n (slots + 2)) (2 + 0 * n) (chunk' m n) n) [] := Good.self (putN_full hg'.fullS (chunk'_size hm) n)
    rw [cbeq rfl, show f_master ((64 * n : Nat) : Int) (slots : Int) 1 1 0 false (putN (zN S n (slots + 2)) (2 + 0 * n) (chunk' m n) n) (putN (zN S n (slots + 2)) (2 + 0 * n) (chunk' m n) n) [] [] (-1) false 0 1 = _ from master_h (a := 0) (b := 1) hg2 (by decide) (by rw [putN_len]; omega) (by simp), bind_some']
    show cond ((0 : Int) != 0) _ _ = _
    rw [cbeq rfl]; rfl
theorem masters_h {F S : List ByteArray} {W : List E115} {n slots base area : Nat} {img : List UInt8} {cs : List E59} (hj : JS S n slots base area img cs) {size sl nx : Int} {old : Bool} :
    f_masters size sl 0 nx 0 old F S W [] (-1) false = some (true, (base : Int), (area : Int)) := by
  have hl := hj.len; have ha := hj.ar; have hb0 := hj.b0; have hb1 := hj.b1
  have two : ∃ s0 s1 : List UInt8, S[0]? = some (bs s0) ∧ S[1]? = some (bs s1) ∧ ((area = 0 ∧ mval 0 s0 = base ∧ mval 1 s1 < base) ∨ (area = 1 ∧ mval 0 s0 < base ∧ mval 1 s1 = base)) := by
    obtain ⟨s, e1, e2⟩ := hj.other
    rcases (show area = 0 ∨ area = 1 by omega) with h | h
    · subst h
      exact ⟨_, s, hj.mast, e1, .inl ⟨rfl, mval_mst (by omega), e2⟩⟩
    · subst h
      exact ⟨s, _, e1, hj.mast, .inr ⟨rfl, e2, mval_mst (by omega)⟩⟩
  obtain ⟨s0, s1, e0, e1, hv⟩ := two
  have step : ∀ (F1 : Bool × Int × Int × Int → Option ((Bool × Int × Int × Int) ⊕ O_masters)) (i : Nat) (s : List UInt8) (fnd : Bool) (b a : Int), i < 2 → S[i]? = some (bs s) →
      ((Option.bind (f_Read F S W [] (-1) false (i : Int)) fun (o : O_Read) => (match o with | (x18a, x18b) => (cond (x18b != 0) (some (.inl (fnd, (IntKind.wrap .i64 ((i : Int) + 1)), b, a))) ((f_SOpen x18a).bind fun (o : O_SOpen) => (match o with | (x25a, x25b, x25c) => (cond (x25c != 0) (some (.inl (fnd, (IntKind.wrap .i64 ((i : Int) + 1)), b, a))) (cond (bytesIn [(77 : Int), (IntKind.wrap .u8 (i : Int))]) (cond (!(x25b.toList == (strOf [(77 : Int), (IntKind.wrap .u8 (i : Int))]).toList)) (some (.inl (fnd, (IntKind.wrap .i64 ((i : Int) + 1)), b, a))) (cond (x25a == 0) (some (.inl (fnd, (IntKind.wrap .i64 ((i : Int) + 1)), b, a))) (cond fnd (cond (decide (x25a ≤ b)) (some (.inl (fnd, (IntKind.wrap .i64 ((i : Int) + 1)), b, a))) (some (.inl (true, (IntKind.wrap .i64 ((i : Int) + 1)), x25a, (i : Int))))) (some (.inl (true, (IntKind.wrap .i64 ((i : Int) + 1)), x25a, (i : Int))))))) none))))))) : Option ((Bool × Int × Int × Int) ⊕ O_masters)) =
      some (.inl (if mval i s = 0 ∨ (fnd = true ∧ ((mval i s : Nat) : Int) ≤ b) then (fnd, ((i + 1 : Nat) : Int), b, a) else (true, ((i + 1 : Nat) : Int), ((mval i s : Nat) : Int), (i : Int)))) := by
    intro F1 i s fnd b a hi hs
    have hi1 : IntKind.wrap .i64 ((i : Int) + 1) = ((i + 1 : Nat) : Int) := by rw [wrap_i64 (by omega) (by omega)]; rfl
    rw [Read_h hs, bind_some', hi1]
    show cond ((0 : Int) != 0) _ (Option.bind (f_SOpen (bs s)) _) = _
    rw [cbeq rfl, Open_eq s, bind_some']
    show cond ((openL s).2.2 != 0) _ (cond _ (cond (!((bs (openL s).2.1).toList == _)) _ _) none) = _
    by_cases hc : (openL s).2.2 = 0
    · rw [cbeq hc, ctrue (two_bytes i).1, (two_bytes i).2, beq_bs]
      by_cases hb : (openL s).2.1 = [77, UInt8.ofNat i]
      · have hmv : mval i s = (openL s).1 := by unfold mval; exact if_pos ⟨hc, hb⟩
        rw [cfalse (by rw [decide_eq_true hb]; rfl), hmv]
        by_cases hz : (openL s).1 = 0
        · rw [ceq (by omega), if_pos (.inl hz)]
        · rw [cne (by omega)]
          cases fnd with
          | false => rw [if_neg (by simp [hz])]; rfl
          | true =>
            show cond (decide (((openL s).1 : Int) ≤ b)) _ _ = _
            by_cases hle : ((openL s).1 : Int) ≤ b
            · rw [cpos hle, if_pos (.inr ⟨rfl, hle⟩)]
            · rw [cneg hle, if_neg (by simp [hz]; omega)]
      · have hmv : mval i s = 0 := by unfold mval; exact if_neg (fun h => hb h.2)
        rw [ctrue (by rw [decide_eq_false hb]; rfl), hmv, if_pos (.inl rfl)]
    · have hmv : mval i s = 0 := by unfold mval; exact if_neg (fun h => hc h.1)
      rw [cbne hc, hmv, if_pos (.inl rfl)]
  unfold f_masters
  have run : ∀ (f : Bool × Int × Int × Int → Option ((Bool × Int × Int × Int) ⊕ O_masters)) (fnd : Bool) (b a : Int),
      f (fnd, ((1 : Nat) : Int), b, a) = some (.inl (if mval 1 s1 = 0 ∨ (fnd = true ∧ ((mval 1 s1 : Nat) : Int) ≤ b) then (fnd, ((1 + 1 : Nat) : Int), b, a) else (true, ((1 + 1 : Nat) : Int), ((mval 1 s1 : Nat) : Int), ((1 : Nat) : Int)))) →
      (∀ fnd b a, f (fnd, ((1 + 1 : Nat) : Int), b, a) = some (.inr (fnd, b, a))) →
      loopO f (fnd, ((1 : Nat) : Int), b, a) = some (if mval 1 s1 = 0 ∨ (fnd = true ∧ ((mval 1 s1 : Nat) : Int) ≤ b) then (fnd, b, a) else (true, ((mval 1 s1 : Nat) : Int), ((1 : Nat) : Int))) := by
    intro f fnd b a h1 h2
    rw [loopO_eq, h1, bind_some']
    by_cases hq : mval 1 s1 = 0 ∨ (fnd = true ∧ ((mval 1 s1 : Nat) : Int) ≤ b)
    · rw [if_pos hq, if_pos hq]
      show loopO f (fnd, ((1 + 1 : Nat) : Int), b, a) = _
      rw [loopO_eq, h2, bind_some']
    · rw [if_neg hq, if_neg hq]
      show loopO f (true, ((1 + 1 : Nat) : Int), _, _) = _
      rw [loopO_eq, h2, bind_some']
  have close : ∀ (f : Bool × Int × Int × Int → Option ((Bool × Int × Int × Int) ⊕ O_masters)),
      f (false, 0, 0, 0) = some (.inl (if mval 0 s0 = 0 ∨ (false = true ∧ ((mval 0 s0 : Nat) : Int) ≤ 0) then (false, ((0 + 1 : Nat) : Int), 0, 0) else (true, ((0 + 1 : Nat) : Int), ((mval 0 s0 : Nat) : Int), ((0 : Nat) : Int)))) →
      (∀ fnd b a, f (fnd, ((1 : Nat) : Int), b, a) = some (.inl (if mval 1 s1 = 0 ∨ (fnd = true ∧ ((mval 1 s1 : Nat) : Int) ≤ b) then (fnd, ((1 + 1 : Nat) : Int), b, a) else (true, ((1 + 1 : Nat) : Int), ((mval 1 s1 : Nat) : Int), ((1 : Nat) : Int))))) →
      (∀ fnd b a, f (fnd, ((1 + 1 : Nat) : Int), b, a) = some (.inr (fnd, b, a))) →
      loopO f (false, 0, 0, 0) = some (true, (base : Int), (area : Int)) := by
    intro f hz0 h1 h2
    rw [loopO_eq, hz0, bind_some']
    show loopO f _ = _
    rcases hv with ⟨rfl, v0, v1⟩ | ⟨rfl, v0, v1⟩
    · rw [if_neg (by simp; omega)]
      show loopO f (true, ((1 : Nat) : Int), _, _) = _
      rw [run f _ _ _ (h1 _ _ _) h2, if_pos (.inr ⟨rfl, by omega⟩), v0]
    · by_cases hz : mval 0 s0 = 0
      · rw [if_pos (.inl hz)]
        show loopO f (false, ((1 : Nat) : Int), _, _) = _
        rw [run f _ _ _ (h1 _ _ _) h2, if_neg (by simp; omega), v1]
      · rw [if_neg (by simp; omega)]
        show loopO f (true, ((1 : Nat) : Int), _, _) = _
        rw [run f _ _ _ (h1 _ _ _) h2, if_neg (by simp; omega), v1]
  refine close _ ?_ (fun fnd b a => ?_) (fun fnd b a => ?_)
  · show cond (decide ((0 : Int) < 2)) _ _ = _
    rw [cpos (by decide)]
    exact step (fun _ => none) 0 s0 false 0 0 (by decide) e0
  · show cond (decide (((1 : Nat) : Int) < 2)) _ _ = _
    rw [cpos (by decide)]
    exact step (fun _ => none) 1 s1 fnd b a (by decide) e1
  · show cond (decide (((1 + 1 : Nat) : Int) < 2)) _ _ = _
    rw [cneg (by decide)]
theorem take_chunks (m : List UInt8) (n k : Nat) (h : m.length = 64 * n) (hk : k < n) : bs (m.take (64 * k)) ++ chunk m k = bs (m.take (64 * (k + 1))) := by
  unfold chunk
  rw [bs_append, show 64 * (k + 1) = 64 * k + 64 by omega, List.take_add]
theorem JOpen_h {F S : List ByteArray} {W : List E115} {n slots base area : Nat} {img : List UInt8} {cs : List E59} (hj : JS S n slots base area img cs) :
    f_JOpen F S W [] (-1) false ((64 * n : Nat) : Int) (slots : Int) = some (.inl (bs img, ((64 * n : Nat) : Int), (slots : Int), (base : Int), ((base + cs.length : Nat) : Int), (area : Int), cs)) := by
  have hl := hj.len; have ha := hj.ar; have hb0 := hj.b0; have hb1 := hj.b1; have hn0 := hj.n0; have hn1 := hj.n1; have hs0 := hj.s0; have hs1 := hj.s1; have hcs := hj.csl
  have hA : area * n ≤ n := by rcases (show area = 0 ∨ area = 1 by omega) with e | e <;> rw [e] <;> omega
  have h0 : Int.tdiv ((64 * n : Nat) : Int) 64 = (n : Int) := by rw [tdiv_nn (by omega)]; omega
  have himg : 0 < (bs img).size := by rw [bs_size, hj.imgl]; omega
  unfold f_JOpen
  rw [fits_h hl hn0 hn1 hs0 hs1, bind_some', cbeq rfl, masters_h hj, bind_some']
  show cond (!true) _ (loopO _ _) = _
  rw [cfalse (show (!true) = false from rfl)]
  refine loopO_inv (fun (d : Nat) (st : Int × ByteArray) => ∃ k : Nat, st = ((k : Int), bs (img.take (64 * k))) ∧ d = n - k ∧ k ≤ n) ?_ n _ ⟨0, rfl, rfl, by omega⟩
  rintro d st ⟨k, rfl, rfl, hk⟩
  by_cases hc : k < n
  · left
    refine ⟨(((k + 1 : Nat) : Int), bs (img.take (64 * (k + 1)))), n - (k + 1), ?_, by omega, k + 1, rfl, rfl, by omega⟩
    show cond (decide ((k : Int) < IntKind.wrap .i64 (Int.tdiv ((64 * n : Nat) : Int) 64))) _ _ = _
    rw [h0, wrap_i64 (x := (n : Int)) (by omega) (by omega), cpos (by omega)]
    unfold f_sector
    have e1 : IntKind.wrap .i64 ((area : Int) * (n : Int)) = ((area * n : Nat) : Int) := by
      rw [show (area : Int) * (n : Int) = ((area * n : Nat) : Int) by simp, wrap_i64 (by omega) (by omega)]
    rw [h0, wrap_i64 (x := (n : Int)) (by omega) (by omega), e1, wrap_i64 (x := 2 + ((area * n : Nat) : Int)) (by omega) (by omega), wrap_i64 (x := 2 + ((area * n : Nat) : Int) + (k : Int)) (by omega) (by omega), Let_eq, bind_some', show 2 + ((area * n : Nat) : Int) + (k : Int) = ((2 + area * n + k : Nat) : Int) by omega, Read_h (hj.imgat k hc), bind_some']
    show cond ((0 : Int) != 0) _ (cond (decide ((bs (img.take (64 * k))).size + (chunk img k).size ≤ 140737488355328)) _ none) = _
    rw [cbeq rfl, cpos (by rw [bs_size, chunk_size hj.imgl hc, List.length_take]; omega), take_chunks img n k hj.imgl hc, wrap_i64 (by omega) (by omega)]; rfl
  · right
    have he : k = n := by omega
    subst he
    show cond (decide ((k : Int) < IntKind.wrap .i64 (Int.tdiv ((64 * k : Nat) : Int) 64))) _ (loopO _ _) = _
    rw [h0, wrap_i64 (x := (k : Int)) (by omega) (by omega), cneg (by omega), List.take_of_length_le (by rw [hj.imgl]; omega)]
    refine loopO_inv (fun (d : Nat) (st : Int × List E59 × ByteArray) => ∃ q : Nat, st = (((base + q : Nat) : Int), cs.take q, bs img) ∧ d = cs.length - q ∧ q ≤ cs.length) ?_ cs.length _ ⟨0, rfl, rfl, by omega⟩
    rintro d st ⟨q, rfl, rfl, hq⟩
    show (∃ s' m, cond (decide (IntKind.wrap .i64 (IntKind.wrap .u32 (((base + q : Nat) : Int) - (base : Int))) < (slots : Int))) _ _ = _ ∧ _) ∨ cond (decide (IntKind.wrap .i64 (IntKind.wrap .u32 (((base + q : Nat) : Int) - (base : Int))) < (slots : Int))) _ _ = _
    rw [wrap_u32 (x := ((base + q : Nat) : Int) - (base : Int)) (by omega) (by omega), wrap_i64 (x := ((base + q : Nat) : Int) - (base : Int)) (by omega) (by omega)]
    by_cases hqc : q < cs.length
    · left
      obtain ⟨r1, r2⟩ := hj.rcs q hqc
      refine ⟨(((base + (q + 1) : Nat) : Int), cs.take (q + 1), bs img), cs.length - (q + 1), ?_, by omega, q + 1, rfl, rfl, by omega⟩
      rw [cpos (by omega), slot_h hn1 (by omega) (by omega) rfl, bind_some', Read_h r2, bind_some']
      show cond ((0 : Int) != 0) _ (Option.bind (f_Recorded (bs (wrapL (base + q) (comE cs[q])))) _) = _
      rw [cbeq rfl, Recorded_eq _ (by rw [wrapL_len _ _ (okE_len r1)]; decide), recorded_rec (by omega) r1, bind_some']
      show cond ((0 : Int) != 0) _ (cond (((base + q : Nat) : Int) != ((base + q : Nat) : Int)) _ (cond (decide ((cs.take q ++ [(⟨cs[q].Kind, cs[q].Addr, bs cs[q].Data.data.toList⟩ : E59)]).length ≤ 7036874417611)) _ none)) = _
      rw [cbeq rfl, cbeq rfl, cpos (by simp; omega), E34_bs, wrap_u32 (by omega) (by omega)]
      rw [List.take_add_one, List.getElem?_eq_getElem hqc]; rfl
    · right
      have hqe : q = cs.length := by omega
      subst hqe
      have hfin : ∀ (X : Option ((Int × List E59 × ByteArray) ⊕ ((Int × ByteArray) ⊕ O_JOpen))), X = cond (decide (0 < (bs img).size)) (some (.inr (.inr (.inl (bs img, ((64 * k : Nat) : Int), (slots : Int), (base : Int), ((base + cs.length : Nat) : Int), (area : Int), cs.take cs.length))))) none → X = some (.inr (.inr (.inl (bs img, ((64 * k : Nat) : Int), (slots : Int), (base : Int), ((base + cs.length : Nat) : Int), (area : Int), cs)))) := by
        intro X hX
        rw [hX, cpos himg, List.take_length]
      by_cases hsl : cs.length < slots
      · obtain ⟨s, l1, l2, l3⟩ := hj.low cs.length (Nat.le_refl _) hsl
        rw [cpos (by omega), slot_h hn1 (by omega) (by omega) rfl, bind_some', Read_h l2, bind_some']
        show cond ((0 : Int) != 0) _ (Option.bind (f_Recorded (bs s)) _) = _
        rw [cbeq rfl, Recorded_eq _ (by rw [l1]; decide), bind_some']
        show cond ((recordedL s).2.2.2.2 != 0) _ (cond ((recordedL s).1 != ((base + cs.length : Nat) : Int)) _ _) = _
        by_cases hz : (recordedL s).2.2.2.2 = 0
        · have hlt : (recordedL s).1 < (base : Int) := l3.resolve_left (fun h => h hz)
          rw [cbeq hz, cbne (by omega)]
          exact hfin _ rfl
        · rw [cbne hz]
          exact hfin _ rfl
      · rw [cneg (by omega)]
        exact hfin _ rfl
end Go.Proofs.YtcgigdfahlmfaaaGreatDoor
