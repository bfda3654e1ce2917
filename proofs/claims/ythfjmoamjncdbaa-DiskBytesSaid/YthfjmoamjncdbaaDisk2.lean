/-
  The disk and the document's disk, as plain functions: each call.
-/
import Derived.Test.YthfjmoamjncdbaaDisk
namespace Go.Proofs.Ythfjmoamjncdbaa
open Go.Vc
set_option linter.unusedVariables false
set_option linter.unusedSimpArgs false

/-- A loop over a list. -/
theorem loopO_fold {α β ρ : Type} {f : (Int × β) → Option ((Int × β) ⊕ ρ)} (xs : List α) (g : β → α → β) (b : β) {r : ρ}
    (hs : ∀ (i : Nat) (h : i < xs.length), f ((i : Int), (xs.take i).foldl g b) = some (.inl (((i + 1 : Nat) : Int), g ((xs.take i).foldl g b) xs[i])))
    (he : f ((xs.length : Int), xs.foldl g b) = some (.inr r)) : loopO f (0, b) = some r := by
  refine loopO_for (fun i => ((i : Int), (xs.take i).foldl g b)) xs.length (fun i hi => ?_) (by simpa using he)
  rw [hs i hi, List.take_succ_eq_append_getElem hi, List.foldl_append]; rfl
theorem cor {α : Type} {p q : Prop} [Decidable p] [Decidable q] {x y : α} (h : p ∨ q) : cond (decide p) x (cond (decide q) x y) = x := by
  by_cases hp : p
  · rw [cpos hp]
  · rw [cneg hp, cpos (h.resolve_left hp)]
theorem ByteArray_ext {a b : ByteArray} (h : a.data.toList = b.data.toList) : a = b := by rw [← bs_list a, h, bs_list]
theorem beqL (a b : ByteArray) : (a.toList == b.toList) = decide (a = b) := by
  rw [ByteArray.toList_eq, ByteArray.toList_eq]
  by_cases h : a = b
  · subst h; simp
  · have : ¬ a.data.toList = b.data.toList := fun e => h (ByteArray_ext e)
    rw [decide_eq_false h]; exact beq_eq_false_iff_ne.2 this
theorem size_list (a : ByteArray) : a.size = a.data.toList.length := by rw [Array.length_toList]; rfl

def Z : ByteArray := bs (List.replicate 64 0)
theorem Z_size : Z.size = 64 := by unfold Z; rw [bs_size]; rfl
theorem Z_str : strOf (List.replicate (64 : Int).toNat (0 : Int)) = Z := by unfold strOf Z; rfl
theorem Z_in : bytesIn (List.replicate (64 : Int).toNat (0 : Int)) = true := by decide
theorem Clone_eq {xs : List ByteArray} (h : xs.length ≤ 1099511627776) : f_Clone xs = some xs := by unfold f_Clone; rw [cpos h]
theorem New_eq {n : Int} (h1 : 1 ≤ n) (h2 : n ≤ 8192) : f_New n = some (.inl (List.replicate n.toNat Z, List.replicate n.toNat Z, [])) := by
  unfold f_New
  rw [cneg (by omega), cneg (by omega), cand3 (by decide) (by decide) (by decide), ctrue Z_in, Z_str, sRepeat_eq Z h1 h2, bind_some', Clone_eq (by simp; omega), bind_some']
theorem New_none {n : Int} (h : ¬ (1 ≤ n ∧ n ≤ 8192)) : f_New n = some (.inr ()) := by
  unfold f_New
  rw [cor (by omega)]
theorem rZero_eq : f_rZero = some Z := by
  unfold f_rZero
  rw [cand3 (by decide) (by decide) (by decide), ctrue Z_in, Z_str]
theorem rNew_eq {n : Int} (h1 : 1 ≤ n) (h2 : n ≤ 8192) : f_rNew n = some (.inl (List.replicate n.toNat Z)) := by
  unfold f_rNew
  rw [cneg (by omega), cneg (by omega)]
  obtain ⟨m, rfl⟩ := Int.eq_ofNat_of_zero_le (show 0 ≤ n by omega)
  refine loopO_for (fun i => ((i : Int), List.replicate i Z)) m (fun i hi => ?_) ?_
  · show cond (decide ((i : Int) < (m : Int))) _ _ = _
    rw [cpos (by omega), rZero_eq, bind_some', cpos (by simp; omega), wrap_i64 (by omega) (by omega)]
    simp [List.replicate_succ']
  · show cond (decide ((m : Int) < (m : Int))) _ _ = _
    rw [cneg (by omega)]; simp
theorem rNew_none {n : Int} (h : ¬ (1 ≤ n ∧ n ≤ 8192)) : f_rNew n = some (.inr ()) := by
  unfold f_rNew
  rw [cor (by omega)]

def pad (s : ByteArray) : ByteArray := if s.size > 64 then s.extract 0 64 else s ++ bs (List.replicate (64 - s.size) 0)
theorem pad_size (s : ByteArray) : (pad s).size = 64 := by
  unfold pad
  split
  · rw [ByteArray.size_extract]; omega
  · rw [ByteArray.size_append, bs_size, List.length_replicate]; omega
theorem Repeat0 {k : Int} (h0 : 0 ≤ k) (h1 : k ≤ 64) : f_Repeat (ByteArray.mk #[0]) k = some (bs (List.replicate k.toNat 0)) := by
  unfold f_Repeat
  have e : (ByteArray.mk #[0]).size = 1 := rfl
  rw [cand3 h0 (by rw [e]; omega) (by omega)]
  have e2 : (ByteArray.mk #[0]).data.toList = List.replicate 1 (0 : UInt8) := rfl
  rw [e2, Lib.repeatL_replicate]
  simp
theorem padded_eq (s : ByteArray) : f_padded s = some (pad s) := by
  unfold f_padded pad
  by_cases h : s.size > 64
  · rw [cpos (by omega), cand (by decide) (by omega), cand (by decide) (by decide), if_pos h]
  · have e := wrap_i64 (x := 64 - (s.size : Int)) (by omega) (by omega)
    rw [cneg (by omega), e, Repeat0 (by omega) (by omega), bind_some', if_neg h, cfits (by rw [bs_size, List.length_replicate]; omega)]
    congr 3
    rw [show (64 - (s.size : Int)).toNat = 64 - s.size by omega]

/-! ### the calls -/
def dec (fuel : Int) : Int := if fuel > 0 then fuel - 1 else fuel
section
variable (firm seen : List ByteArray) (soft : List E71) (bad : List (Int × Bool)) (fuel : Int) (down : Bool)
theorem burn_eq (hf : -1 ≤ fuel ∧ fuel ≤ 9223372036854775807) : f_burn firm seen soft bad fuel down = some (if fuel = 0 then (false, fuel, true) else (true, dec fuel, down)) := by
  unfold f_burn dec
  by_cases h : fuel = 0
  · rw [ceq h, if_pos h]
  · rw [cne h, if_neg h]
    by_cases h2 : fuel > 0
    · rw [cpos h2, if_pos h2, wrap_i64 (by omega) (by omega)]
    · rw [cneg h2, if_neg h2]
def readF (i : Int) : ByteArray × Int := if down = true then (ByteArray.mk #[], 10) else if i < 0 ∨ i ≥ seen.length then (ByteArray.mk #[], 1) else (ixL seen i, 0)
theorem Read_eq (i : Int) : f_Read firm seen soft bad fuel down i = some (readF seen down i) := by
  unfold f_Read f_off readF
  rw [bind_some']
  cases down
  · show cond (decide (i < 0)) _ _ = _
    rw [if_neg (by decide)]
    by_cases h : i < 0 ∨ i ≥ seen.length
    · rw [if_pos h, cor h]
    · rw [if_neg h, cneg (by omega), cneg (by omega), cand (by omega) (by omega)]
  · rfl
def writeF (i : Int) (data : ByteArray) : Int × Int × Bool × List ByteArray × List E71 :=
  if down = true then (10, fuel, down, seen, soft) else if i < 0 ∨ i ≥ seen.length ∨ data.size ≠ 64 then (1, fuel, down, seen, soft) else if getB bad i = true then (11, fuel, down, seen, soft) else
  if fuel = 0 then (10, fuel, true, seen, soft) else (0, dec fuel, down, seen.set i.toNat data, soft ++ [⟨i, data⟩])
theorem Write_eq (hf : -1 ≤ fuel ∧ fuel ≤ 9223372036854775807) (hl : soft.length < 9000000000000) (i : Int) (data : ByteArray) : f_Write firm seen soft bad fuel down i data = some (writeF seen soft bad fuel down i data) := by
  unfold f_Write f_off writeF
  rw [bind_some']
  cases down
  · show ((cond (decide (i < 0)) _ _ : Option Bool).bind _) = _
    rw [if_neg (by decide)]
    have hj : (cond (decide (i < 0)) (some true) (cond (decide (i ≥ ((seen.length : Nat) : Int))) (some true) (some ((data.size : Int) != 64))) : Option Bool) = some (decide (i < 0 ∨ i ≥ seen.length ∨ data.size ≠ 64)) := by
      by_cases h1 : i < 0
      · rw [cpos h1, decide_eq_true (by omega)]
      · rw [cneg h1]
        by_cases h2 : i ≥ seen.length
        · rw [cpos (by omega), decide_eq_true (by omega)]
        · rw [cneg (by omega)]
          by_cases h3 : data.size = 64
          · rw [decide_eq_false (by omega), h3]; rfl
          · rw [decide_eq_true (by omega)]; simp; omega
    rw [hj, bind_some']
    by_cases h : i < 0 ∨ i ≥ seen.length ∨ data.size ≠ 64
    · rw [if_pos h, cpos h]
    · rw [if_neg h, cneg h]
      by_cases hb : getB bad i = true
      · rw [if_pos hb, ctrue hb]
      · rw [if_neg hb, cfalse (by simpa using hb), burn_eq _ _ _ _ _ _ hf, bind_some']
        by_cases h0 : fuel = 0
        · rw [if_pos h0, if_pos h0]; rfl
        · rw [if_neg h0, if_neg h0]
          show cond (decide (0 ≤ i) && decide (i < ((seen.length : Nat) : Int))) _ _ = _
          rw [cand (by omega) (by omega), cpos (by simp; omega)]
  · rfl
def setAll (firm : List ByteArray) (soft : List E71) : List ByteArray := soft.foldl (fun l w => l.set w.sector.toNat w.data) firm
theorem setAll_length : ∀ (soft : List E71) (firm : List ByteArray), (setAll firm soft).length = firm.length
  | [], _ => rfl
  | w :: l, firm => by
    show (setAll (firm.set w.sector.toNat w.data) l).length = _
    rw [setAll_length l]; simp
def syncF : Int × Int × Bool × List ByteArray × List E71 :=
  if down = true then (10, fuel, down, firm, soft) else if fuel = 0 then (10, fuel, true, firm, soft) else (0, dec fuel, down, setAll firm soft, [])
theorem Sync_eq (hf : -1 ≤ fuel ∧ fuel ≤ 9223372036854775807) (hl : soft.length < 9000000000000) (hw : ∀ w ∈ soft, 0 ≤ w.sector ∧ w.sector < firm.length) : f_Sync firm seen soft bad fuel down = some (syncF firm soft fuel down) := by
  unfold f_Sync f_off syncF
  rw [bind_some']
  cases down
  · show ((f_burn firm seen soft bad fuel false).bind _) = _
    rw [if_neg (by decide), burn_eq _ _ _ _ _ _ hf, bind_some']
    by_cases h0 : fuel = 0
    · rw [if_pos h0, if_pos h0]; rfl
    · rw [if_neg h0, if_neg h0]
      refine loopO_fold soft (fun l w => l.set w.sector.toNat w.data) firm (fun i hi => ?_) ?_
      · show cond (decide ((i : Int) < ((soft.length : Nat) : Int))) _ _ = _
        have hlen : ((soft.take i).foldl (fun l w => l.set w.sector.toNat w.data) firm).length = firm.length := setAll_length _ _
        have := hw soft[i] (List.getElem_mem hi)
        rw [cpos (by omega), cand (by omega) (by omega), ixL_nat hi, hlen, cand (by omega) (by omega), wrap_i64 (by omega) (by omega)]
        rfl
      · show cond (decide ((soft.length : Int) < ((soft.length : Nat) : Int))) _ _ = _
        rw [cneg (by omega)]; rfl
  · rfl
end
theorem Bad_eq (firm seen : List ByteArray) (soft : List E71) (bad : List (Int × Bool)) (fuel : Int) (down : Bool) (i : Int) (b : Bool) : f_Bad firm seen soft bad fuel down i b = some (putB bad i b) := rfl
theorem Pending_eq (firm seen : List ByteArray) (soft : List E71) (bad : List (Int × Bool)) (fuel : Int) (down : Bool) : f_Pending firm seen soft bad fuel down = some (soft.length : Int) := rfl
end Go.Proofs.Ythfjmoamjncdbaa
