/-
  The disk: the program's side.
-/
import Derived.Test.YtcgigdfahlmfaaaGreatDoorG
import Derived.Test.YtcgigdfahlmfaaaGreatDoorPure
namespace Go.Proofs.YtcgigdfahlmfaaaGreatDoor
open Go.Vc
set_option linter.unusedVariables false
set_option linter.unusedSimpArgs false
theorem wrap_u64 {x : Int} (h0 : 0 ≤ x) (h1 : x < 18446744073709551616) : IntKind.wrap .u64 x = x := by
  have e1 : (IntKind.u64.bits) = 64 := rfl
  simp only [IntKind.wrap, IntKind.bits, IntKind.signed, Bool.false_and, Bool.false_eq_true, if_false]
  omega
theorem andu64 {a m : Int} (k : Nat) (hm : m = ((2 ^ k - 1 : Nat) : Int)) (hk : k ≤ 64) (h0 : 0 ≤ a) (h1 : a < 18446744073709551616) : bits .and .u64 a m = a % ((2 ^ k : Nat) : Int) := by
  have hp : 2 ^ k ≤ 2 ^ 64 := Nat.pow_le_pow_right (by decide) hk
  have hp0 : 0 < 2 ^ k := Nat.pow_pos (by decide)
  obtain ⟨A, rfl⟩ := Int.eq_ofNat_of_zero_le h0
  subst hm
  rw [u64_and_nat A _ (by omega) (by omega), Nat.and_two_pow_sub_one_eq_mod]
  omega
theorem Mul_one {n : Int} (h0 : 0 ≤ n) (h1 : n ≤ 8192) : f_Mul 1 n = some (0, n) := by
  have e1 : bits .and .u64 1 4294967295 = 1 := by rw [andu64 32 (by decide) (by decide) (by decide) (by decide)]; rfl
  have e2 : bits .and .u64 n 4294967295 = n := by rw [andu64 32 (by decide) (by decide) h0 (by omega)]; omega
  have e3 : Int.fdiv n 4294967296 = 0 := by rw [fdiv_pos (by decide)]; omega
  have e4 : Int.fdiv 1 4294967296 = 0 := by decide
  have e5 : IntKind.wrap .u64 n = n := wrap_u64 h0 (by omega)
  have e6 : bits .and .u64 0 4294967295 = 0 := by rw [andu64 32 (by decide) (by decide) (by decide) (by decide)]; rfl
  have e7 : IntKind.wrap .u64 0 = 0 := by decide
  have e8 : Int.fdiv 0 4294967296 = 0 := by decide
  unfold f_Mul f_Mul64
  simp only [Let_eq, e1, e2, e3, e4, Int.one_mul, Int.zero_mul, Int.mul_zero, e5, e6, e7, e8, Int.zero_add, Int.add_zero, Option.bind_some]
theorem sRepeat_eq (z : ByteArray) {n : Int} (h1 : 1 ≤ n) (h2 : n ≤ 8192) : f_sRepeat [z] n = some (List.replicate n.toNat z) := by
  unfold f_sRepeat
  have e1 : IntKind.wrap .u64 (([z].length : Nat) : Int) = 1 := (show IntKind.wrap .u64 1 = 1 by decide)
  have e2 : IntKind.wrap .u64 n = n := wrap_u64 (by omega) (by omega)
  have e3 : IntKind.wrap .i64 n = n := wrap_i64 (by omega) (by omega)
  rw [cneg (by omega), e1, e2, Mul_one (by omega) h2, bind_some']
  show cond (decide ((0 : Int) > 0)) _ _ = _
  rw [cneg (by omega)]
  show cond (decide (n > 9223372036854775807)) _ _ = _
  rw [cneg (by omega)]
  show cond (decide (0 ≤ IntKind.wrap .i64 n) && decide (IntKind.wrap .i64 n ≤ IntKind.wrap .i64 n) && decide (IntKind.wrap .i64 n ≤ 1099511627776)) _ _ = _
  rw [e3, cand3 (by omega) (by omega) (by omega)]
  obtain ⟨m, rfl⟩ := Int.eq_ofNat_of_zero_le (show 0 ≤ n by omega)
  have hlen : (List.replicate ((m : Int)).toNat ((ByteArray.mk #[]) : ByteArray)).length = m := by simp
  refine loopO_inv (fun k (s : Int × List ByteArray) => ∃ (a : Nat) (I : List ByteArray), s = ((a : Int), I) ∧ k = m - a ∧ 1 ≤ a ∧ a ≤ m ∧ I.length = m ∧ I.take a = List.replicate a z) ?_ (m - 1) _ ?_
  · rintro k s ⟨a, I, rfl, rfl, ha1, ham, hI, ht⟩
    by_cases hd : a < m
    · left
      have hl : ((I.drop 0).take ((a : Int).toNat - 0)) = List.replicate a z := by
        rw [List.drop_zero, Nat.sub_zero, Int.toNat_natCast]; exact ht
      have hl2 : (((List.replicate a z).take (m - a)).length : Nat) = min (m - a) a := by simp
      refine ⟨(((a + min (m - a) a : Nat) : Int), copyL I a (m - a) (List.replicate a z)), m - (a + min (m - a) a), ?_, by omega, a + min (m - a) a, _, rfl, rfl, by omega, by omega, by rw [copyL_length]; exact hI, ?_⟩
      · show cond (decide ((a : Int) < _)) _ _ = _
        rw [hlen, cpos (by omega), cand (by omega) (by omega), cand (by omega) (by omega), cand (by omega) (by omega), cand (by omega) (by omega), hl]
        rw [Int.toNat_natCast, hl2, wrap_i64 (by omega) (by omega)]
        simp
      · rw [copyL_eq (by omega), ht]
        have e : (List.replicate a z ++ (List.replicate a z).take (m - a)) = List.replicate (a + min (m - a) a) z := by
          rw [List.take_replicate, List.replicate_append_replicate]
        rw [e, List.take_append_of_le_length (by simp), List.take_of_length_le (by simp)]
    · right
      have : a = m := by omega
      subst this
      show cond (decide ((a : Int) < _)) _ _ = _
      rw [hlen, cneg (by omega)]
      rw [List.take_of_length_le (by omega)] at ht
      rw [ht]; simp
  · refine ⟨1, copyL (List.replicate m ((ByteArray.mk #[]) : ByteArray)) 0 m [z], ?_, rfl, by omega, by omega, by simp, ?_⟩
    · rw [hlen]
      simp
      omega
    · rw [copyL_eq (by simp)]
      simp
      cases m with
      | zero => omega
      | succ m => simp
theorem loopO_fold {α β ρ : Type} {f : (Int × β) → Option ((Int × β) ⊕ ρ)} (xs : List α) (g : β → α → β) (b : β) {r : ρ}
    (hs : ∀ (i : Nat) (h : i < xs.length), f ((i : Int), (xs.take i).foldl g b) = some (.inl (((i + 1 : Nat) : Int), g ((xs.take i).foldl g b) xs[i])))
    (he : f ((xs.length : Int), xs.foldl g b) = some (.inr r)) : loopO f (0, b) = some r := by
  refine loopO_for (fun i => ((i : Int), (xs.take i).foldl g b)) xs.length (fun i hi => ?_) (by simpa using he)
  rw [hs i hi, List.take_succ_eq_append_getElem hi, List.foldl_append]; rfl
theorem cor {α : Type} {p q : Prop} [Decidable p] [Decidable q] {x y : α} (h : p ∨ q) : cond (decide p) x (cond (decide q) x y) = x := by
  by_cases hp : p
  · rw [cpos hp]
  · rw [cneg hp, cpos (h.resolve_left hp)]
def Z : ByteArray := bs (List.replicate 64 0)
theorem Z_size : Z.size = 64 := by unfold Z; rw [bs_size]; rfl
theorem Z_str : strOf (List.replicate (64 : Int).toNat (0 : Int)) = Z := by unfold strOf Z; rfl
theorem Z_in : bytesIn (List.replicate (64 : Int).toNat (0 : Int)) = true := by decide
theorem Clone_eq {xs : List ByteArray} (h : xs.length ≤ 1099511627776) : f_Clone xs = some xs := by unfold f_Clone; rw [cpos h]
theorem New_eq {n : Int} (h1 : 1 ≤ n) (h2 : n ≤ 8192) : f_New n = some (.inl (List.replicate n.toNat Z, List.replicate n.toNat Z, [])) := by
  unfold f_New
  rw [cneg (by omega), cneg (by omega), cand3 (by decide) (by decide) (by decide), ctrue Z_in, Z_str, sRepeat_eq Z h1 h2, bind_some', Clone_eq (by simp; omega), bind_some']
theorem New_none {n : Int} (h : ¬ (1 ≤ n ∧ n ≤ 8192)) : f_New n = some (.inr ()) := by
  unfold f_New
  rw [cor (by omega)]
theorem Repeat0 {k : Int} (h0 : 0 ≤ k) (h1 : k ≤ 64) : f_Repeat (ByteArray.mk #[0]) k = some (bs (List.replicate k.toNat 0)) := by
  unfold f_Repeat
  have e : (ByteArray.mk #[0]).size = 1 := rfl
  rw [cand3 h0 (by rw [e]; omega) (by omega)]
  have e2 : (ByteArray.mk #[0]).data.toList = List.replicate 1 (0 : UInt8) := rfl
  rw [e2, Lib.repeatL_replicate]
  simp
def dec (fuel : Int) : Int := if fuel > 0 then fuel - 1 else fuel
section
variable (firm seen : List ByteArray) (soft : List E115) (bad : List (Int × Bool)) (fuel : Int) (down : Bool)
theorem burn_eq (hf : -1 ≤ fuel ∧ fuel ≤ 9223372036854775807) : f_burn firm seen soft bad fuel down = some (if fuel = 0 then (false, fuel, true) else (true, dec fuel, down)) := by
  unfold f_burn dec
  by_cases h : fuel = 0
  · rw [ceq h, if_pos h]
  · rw [cne h, if_neg h]
    by_cases h2 : fuel > 0
    · rw [cpos h2, if_pos h2, wrap_i64 (by omega) (by omega)]
    · rw [cneg h2, if_neg h2]
def readF (i : Int) : ByteArray × Int := if down = true then (ByteArray.mk #[], 10) else if i < 0 ∨ i ≥ seen.length then (ByteArray.mk #[], 1) else (ixL seen i, 0)
theorem Read_eq (i : Int) : f_Read firm seen soft bad fuel down i = some (readF seen down i) := by
  unfold f_Read f_off readF
  rw [bind_some']
  cases down
  · show cond (decide (i < 0)) _ _ = _
    rw [if_neg (by decide)]
    by_cases h : i < 0 ∨ i ≥ seen.length
    · rw [if_pos h, cor h]
    · rw [if_neg h, cneg (by omega), cneg (by omega), cand (by omega) (by omega)]
  · rfl
def writeF (i : Int) (data : ByteArray) : Int × Int × Bool × List ByteArray × List E115 :=
  if down = true then (10, fuel, down, seen, soft) else if i < 0 ∨ i ≥ seen.length ∨ data.size ≠ 64 then (1, fuel, down, seen, soft) else if getB bad i = true then (11, fuel, down, seen, soft) else
  if fuel = 0 then (10, fuel, true, seen, soft) else (0, dec fuel, down, seen.set i.toNat data, soft ++ [⟨i, data⟩])
theorem Write_eq (hf : -1 ≤ fuel ∧ fuel ≤ 9223372036854775807) (hl : soft.length < 9000000000000) (i : Int) (data : ByteArray) : f_Write firm seen soft bad fuel down i data = some (writeF seen soft bad fuel down i data) := by
  unfold f_Write f_off writeF
  rw [bind_some']
  cases down
  · show ((cond (decide (i < 0)) _ _ : Option Bool).bind _) = _
    rw [if_neg (by decide)]
    have hj : (cond (decide (i < 0)) (some true) (cond (decide (i ≥ ((seen.length : Nat) : Int))) (some true) (some ((data.size : Int) != 64))) : Option Bool) = some (decide (i < 0 ∨ i ≥ seen.length ∨ data.size ≠ 64)) := by
      by_cases h1 : i < 0
      · rw [cpos h1, decide_eq_true (by omega)]
      · rw [cneg h1]
        by_cases h2 : i ≥ seen.length
        · rw [cpos (by omega), decide_eq_true (by omega)]
        · rw [cneg (by omega)]
          by_cases h3 : data.size = 64
          · rw [decide_eq_false (by omega), h3]; rfl
          · rw [decide_eq_true (by omega)]; simp; omega
    rw [hj, bind_some']
    by_cases h : i < 0 ∨ i ≥ seen.length ∨ data.size ≠ 64
    · rw [if_pos h, cpos h]
    · rw [if_neg h, cneg h]
      by_cases hb : getB bad i = true
      · rw [if_pos hb, ctrue hb]
      · rw [if_neg hb, cfalse (by simpa using hb), burn_eq _ _ _ _ _ _ hf, bind_some']
        by_cases h0 : fuel = 0
        · rw [if_pos h0, if_pos h0]; rfl
        · rw [if_neg h0, if_neg h0]
          show cond (decide (0 ≤ i) && decide (i < ((seen.length : Nat) : Int))) _ _ = _
          rw [cand (by omega) (by omega), cpos (by simp; omega)]
  · rfl
def setAll (firm : List ByteArray) (soft : List E115) : List ByteArray := soft.foldl (fun l w => l.set w.sector.toNat w.data) firm
theorem setAll_length : ∀ (soft : List E115) (firm : List ByteArray), (setAll firm soft).length = firm.length
  | [], _ => rfl
  | w :: l, firm => by
    show (setAll (firm.set w.sector.toNat w.data) l).length = _
    rw [setAll_length l]; simp
def syncF : Int × Int × Bool × List ByteArray × List E115 :=
  if down = true then (10, fuel, down, firm, soft) else if fuel = 0 then (10, fuel, true, firm, soft) else (0, dec fuel, down, setAll firm soft, [])
theorem Sync_eq (hf : -1 ≤ fuel ∧ fuel ≤ 9223372036854775807) (hl : soft.length < 9000000000000) (hw : ∀ w ∈ soft, 0 ≤ w.sector ∧ w.sector < firm.length) : f_Sync firm seen soft bad fuel down = some (syncF firm soft fuel down) := by
  unfold f_Sync f_off syncF
  rw [bind_some']
  cases down
  · show ((f_burn firm seen soft bad fuel false).bind _) = _
    rw [if_neg (by decide), burn_eq _ _ _ _ _ _ hf, bind_some']
    by_cases h0 : fuel = 0
    · rw [if_pos h0, if_pos h0]; rfl
    · rw [if_neg h0, if_neg h0]
      refine loopO_fold soft (fun l w => l.set w.sector.toNat w.data) firm (fun i hi => ?_) ?_
      · show cond (decide ((i : Int) < ((soft.length : Nat) : Int))) _ _ = _
        have hlen : ((soft.take i).foldl (fun l w => l.set w.sector.toNat w.data) firm).length = firm.length := setAll_length _ _
        have := hw soft[i] (List.getElem_mem hi)
        rw [cpos (by omega), cand (by omega) (by omega), ixL_nat hi, hlen, cand (by omega) (by omega), wrap_i64 (by omega) (by omega)]
        rfl
      · show cond (decide ((soft.length : Int) < ((soft.length : Nat) : Int))) _ _ = _
        rw [cneg (by omega)]; rfl
  · rfl
end
def clp (n : Int) : Int := if (if (64 : Int) < n then 64 else n) > 0 then (if (64 : Int) < n then 64 else n) else 0
theorem clp_bd (n : Int) : 0 ≤ clp n ∧ clp n ≤ 64 := by unfold clp; split <;> split <;> omega
def mix (n : Nat) (a b : ByteArray) : ByteArray := a.extract 0 n ++ b.extract n b.size
theorem mix_size {n : Nat} {a b : ByteArray} (hn : n ≤ 64) (ha : a.size = 64) (hb : b.size = 64) : (mix n a b).size = 64 := by
  unfold mix; rw [ByteArray.size_append, ByteArray.size_extract, ByteArray.size_extract]; omega
def crash1 (soft : List E115) (l : List ByteArray) (p : E113) : List ByteArray :=
  if p.N < 0 ∨ p.N ≥ soft.length then l else l.set (ixL soft p.N).sector.toNat (mix (clp p.Bytes).toNat (ixL soft p.N).data (ixL l (ixL soft p.N).sector))
def crashL (firm : List ByteArray) (soft : List E115) (picks : List E113) : List ByteArray := picks.foldl (crash1 soft) firm
def Full (l : List ByteArray) : Prop := ∀ s ∈ l, s.size = 64
def Soft (n : Nat) (soft : List E115) : Prop := ∀ w ∈ soft, 0 ≤ w.sector ∧ w.sector < n ∧ w.data.size = 64
theorem Full.ix {l : List ByteArray} (h : Full l) {i : Int} (h0 : 0 ≤ i) (h1 : i < l.length) : (ixL l i).size = 64 := h _ (ixL_mem h0 h1)
theorem Soft.ix {n : Nat} {l : List E115} (h : Soft n l) {i : Int} (h0 : 0 ≤ i) (h1 : i < l.length) : 0 ≤ (ixL l i).sector ∧ (ixL l i).sector < n ∧ (ixL l i).data.size = 64 := h _ (ixL_mem h0 h1)
theorem Full.set {l : List ByteArray} (h : Full l) {i : Nat} {s : ByteArray} (hs : s.size = 64) : Full (l.set i s) := fun x hx => by
  rcases List.mem_or_eq_of_mem_set hx with h1 | h1
  · exact h x h1
  · subst h1; exact hs
theorem crash1_length (soft : List E115) (l : List ByteArray) (p : E113) : (crash1 soft l p).length = l.length := by unfold crash1; split <;> simp
theorem crash1_full {soft : List E115} {l : List ByteArray} (p : E113) (h : Full l) (hs : Soft l.length soft) : Full (crash1 soft l p) := by
  unfold crash1
  split
  · exact h
  · have := hs.ix (i := p.N) (by omega) (by omega)
    have := clp_bd p.Bytes
    exact h.set (mix_size (by omega) (by omega) (h.ix (by omega) (by omega)))
theorem crashL_ok (soft : List E115) : ∀ (picks : List E113) (l : List ByteArray), Full l → Soft l.length soft → Full (crashL l soft picks) ∧ (crashL l soft picks).length = l.length
  | [], l, h, _ => ⟨h, rfl⟩
  | p :: ps, l, h, hs => by
    have h1 := crashL_ok soft ps (crash1 soft l p) (crash1_full p h hs) (by rw [crash1_length]; exact hs)
    rw [crash1_length] at h1
    exact h1
theorem Crash_eq (firm seen : List ByteArray) (soft : List E115) (bad : List (Int × Bool)) (fuel : Int) (down : Bool) (picks : List E113) (hp : picks.length ≤ 9223372036854775807) (h : Full firm) (hs : Soft firm.length soft) (hl : firm.length ≤ 8192) :
    f_Crash firm seen soft bad fuel down picks = some (crashL firm soft picks, crashL firm soft picks, []) := by
  unfold f_Crash
  rw [Clone_eq (by omega), bind_some']
  refine loopO_fold picks (crash1 soft) firm (fun i hi => ?_) ?_
  · obtain ⟨hf, hlen⟩ := crashL_ok soft (picks.take i) firm h hs
    show cond (decide ((i : Int) < ((picks.length : Nat) : Int))) _ _ = _
    rw [cpos (by omega), cand (by omega) (by omega), ixL_nat hi, wrap_i64 (by omega) (by omega)]
    have hg : List.foldl (crash1 soft) firm (picks.take i) = crashL firm soft (picks.take i) := rfl
    rw [hg]
    generalize crashL firm soft (picks.take i) = l at hf hlen
    unfold crash1
    generalize picks[i] = p
    by_cases hc : p.N < 0 ∨ p.N ≥ soft.length
    · rw [if_pos hc, cor hc]; rfl
    · obtain ⟨h1, h2, h3⟩ := hs.ix (i := p.N) (by omega) (by omega)
      have h4 := hf.ix h1 (by omega)
      have hb := clp_bd p.Bytes
      rw [if_neg hc, cneg (by omega), cneg (by omega), cand (by omega) (by omega), Let_eq]
      have hcl : (if (if (64 : Int) < p.Bytes then 64 else p.Bytes) > 0 then (if (64 : Int) < p.Bytes then 64 else p.Bytes) else 0) = clp p.Bytes := rfl
      rw [hcl, cand hb.1 (by omega), cand (by decide) hb.1, cand (by omega) (by omega), cand (by omega) (by omega), cand hb.1 (by omega), cfits (by simp only [ByteArray.size_extract]; omega), cand (by omega) (by omega)]
      rfl
  · show cond (decide ((picks.length : Int) < ((picks.length : Nat) : Int))) _ _ = _
    have := (crashL_ok soft picks firm h hs).2
    rw [cneg (by omega)]
    show ((f_Clone (crashL firm soft picks)).bind _) = _
    rw [Clone_eq (by omega), bind_some']; rfl
end Go.Proofs.YtcgigdfahlmfaaaGreatDoor
