/-
  Crashes, and the document's calls.
-/
import Derived.Test.YthfjmoamjncdbaaDisk2
namespace Go.Proofs.Ythfjmoamjncdbaa
open Go.Vc
set_option linter.unusedVariables false
set_option linter.unusedSimpArgs false

def clp (n : Int) : Int := if (if (64 : Int) < n then 64 else n) > 0 then (if (64 : Int) < n then 64 else n) else 0
theorem clp_bd (n : Int) : 0 ≤ clp n ∧ clp n ≤ 64 := by unfold clp; split <;> split <;> omega
theorem clp_lt (n k : Int) (h0 : 0 ≤ k) (h1 : k < 64) : k < n ↔ k < clp n := by unfold clp; split <;> split <;> omega
/-- The first bytes of one sector, the others of another one. -/
def mix (n : Nat) (a b : ByteArray) : ByteArray := a.extract 0 n ++ b.extract n b.size
theorem mix_bs (n : Nat) (A B : List UInt8) (hn : n ≤ 64) (hA : A.length = 64) (hB : B.length = 64) : mix n (bs A) (bs B) = bs (A.take n ++ B.drop n) := by
  unfold mix
  rw [bs_extract, bs_extract, bs_append, bs_size]
  simp [List.take_of_length_le]
theorem mix_size {n : Nat} {a b : ByteArray} (hn : n ≤ 64) (ha : a.size = 64) (hb : b.size = 64) : (mix n a b).size = 64 := by
  unfold mix; rw [ByteArray.size_append, ByteArray.size_extract, ByteArray.size_extract]; omega
def crash1 (soft : List E71) (l : List ByteArray) (p : E44) : List ByteArray :=
  if p.N < 0 ∨ p.N ≥ soft.length then l else l.set (ixL soft p.N).sector.toNat (mix (clp p.Bytes).toNat (ixL soft p.N).data (ixL l (ixL soft p.N).sector))
def crashL (firm : List ByteArray) (soft : List E71) (picks : List E44) : List ByteArray := picks.foldl (crash1 soft) firm
/-- All sectors are sectors. -/
def Full (l : List ByteArray) : Prop := ∀ s ∈ l, s.size = 64
def Soft (n : Nat) (soft : List E71) : Prop := ∀ w ∈ soft, 0 ≤ w.sector ∧ w.sector < n ∧ w.data.size = 64
theorem Full.ix {l : List ByteArray} (h : Full l) {i : Int} (h0 : 0 ≤ i) (h1 : i < l.length) : (ixL l i).size = 64 := h _ (ixL_mem h0 h1)
theorem Soft.ix {n : Nat} {l : List E71} (h : Soft n l) {i : Int} (h0 : 0 ≤ i) (h1 : i < l.length) : 0 ≤ (ixL l i).sector ∧ (ixL l i).sector < n ∧ (ixL l i).data.size = 64 := h _ (ixL_mem h0 h1)
theorem Full.set {l : List ByteArray} (h : Full l) {i : Nat} {s : ByteArray} (hs : s.size = 64) : Full (l.set i s) := fun x hx => by
  rcases List.mem_or_eq_of_mem_set hx with h1 | h1
  · exact h x h1
  · subst h1; exact hs
theorem crash1_length (soft : List E71) (l : List ByteArray) (p : E44) : (crash1 soft l p).length = l.length := by unfold crash1; split <;> simp
theorem crash1_full {soft : List E71} {l : List ByteArray} (p : E44) (h : Full l) (hs : Soft l.length soft) : Full (crash1 soft l p) := by
  unfold crash1
  split
  · exact h
  · have := hs.ix (i := p.N) (by omega) (by omega)
    have := clp_bd p.Bytes
    exact h.set (mix_size (by omega) (by omega) (h.ix (by omega) (by omega)))
theorem crashL_ok (soft : List E71) : ∀ (picks : List E44) (l : List ByteArray), Full l → Soft l.length soft → Full (crashL l soft picks) ∧ (crashL l soft picks).length = l.length
  | [], l, h, _ => ⟨h, rfl⟩
  | p :: ps, l, h, hs => by
    have h1 := crashL_ok soft ps (crash1 soft l p) (crash1_full p h hs) (by rw [crash1_length]; exact hs)
    rw [crash1_length] at h1
    exact h1
theorem Crash_eq (firm seen : List ByteArray) (soft : List E71) (bad : List (Int × Bool)) (fuel : Int) (down : Bool) (picks : List E44) (hp : picks.length ≤ 9223372036854775807) (h : Full firm) (hs : Soft firm.length soft) (hl : firm.length ≤ 8192) :
    f_Crash firm seen soft bad fuel down picks = some (crashL firm soft picks, crashL firm soft picks, []) := by
  unfold f_Crash
  rw [Clone_eq (by omega), bind_some']
  refine loopO_fold picks (crash1 soft) firm (fun i hi => ?_) ?_
  · obtain ⟨hf, hlen⟩ := crashL_ok soft (picks.take i) firm h hs
    show cond (decide ((i : Int) < ((picks.length : Nat) : Int))) _ _ = _
    rw [cpos (by omega), cand (by omega) (by omega), ixL_nat hi, wrap_i64 (by omega) (by omega)]
    have hg : List.foldl (crash1 soft) firm (picks.take i) = crashL firm soft (picks.take i) := rfl
    rw [hg]
    generalize crashL firm soft (picks.take i) = l at hf hlen
    unfold crash1
    generalize picks[i] = p
    by_cases hc : p.N < 0 ∨ p.N ≥ soft.length
    · rw [if_pos hc, cor hc]; rfl
    · obtain ⟨h1, h2, h3⟩ := hs.ix (i := p.N) (by omega) (by omega)
      have h4 := hf.ix h1 (by omega)
      have hb := clp_bd p.Bytes
      rw [if_neg hc, cneg (by omega), cneg (by omega), cand (by omega) (by omega), Let_eq]
      have hcl : (if (if (64 : Int) < p.Bytes then 64 else p.Bytes) > 0 then (if (64 : Int) < p.Bytes then 64 else p.Bytes) else 0) = clp p.Bytes := rfl
      rw [hcl, cand hb.1 (by omega), cand (by decide) hb.1, cand (by omega) (by omega), cand (by omega) (by omega), cand hb.1 (by omega), cfits (by simp only [ByteArray.size_extract]; omega), cand (by omega) (by omega)]
      rfl
  · show cond (decide ((picks.length : Int) < ((picks.length : Nat) : Int))) _ _ = _
    have := (crashL_ok soft picks firm h hs).2
    rw [cneg (by omega)]
    show ((f_Clone (crashL firm soft picks)).bind _) = _
    rw [Clone_eq (by omega), bind_some']; rfl

/-! ### the document's disk -/
def up (w : E71) : E84 := ⟨w.sector, w.data⟩
theorem ixL_up {soft : List E71} {i : Int} (h0 : 0 ≤ i) (h : i < soft.length) : ixL (soft.map up) i = up (ixL soft i) := by
  have h1 : i.toNat < soft.length := by omega
  rw [ixL_eq (by simpa using h1), ixL_eq h1]; simp
theorem rCrash_eq (Firm : List ByteArray) (soft : List E71) (Not : List Int) (fuel : Int) (down : Bool) (picks : List E44) (hp : picks.length ≤ 9223372036854775807) (h : Full Firm) (hs : Soft Firm.length soft) (hl : Firm.length ≤ 8192) (hsl : soft.length < 9000000000000) :
    f_rCrash Firm (soft.map up) Not fuel down picks = some (crashL Firm soft picks) := by
  unfold f_rCrash
  rw [List.nil_append, cpos (by omega)]
  refine loopO_fold picks (crash1 soft) Firm (fun i hi => ?_) ?_
  · obtain ⟨hf, hlen⟩ := crashL_ok soft (picks.take i) Firm h hs
    show cond (decide ((i : Int) < ((picks.length : Nat) : Int))) _ _ = _
    rw [cpos (by omega), cand (by omega) (by omega), ixL_nat hi, wrap_i64 (by omega) (by omega)]
    have hg : List.foldl (crash1 soft) Firm (picks.take i) = crashL Firm soft (picks.take i) := rfl
    rw [hg]
    generalize crashL Firm soft (picks.take i) = l at hf hlen
    unfold crash1
    generalize picks[i] = p
    rw [List.length_map]
    by_cases hc : p.N < 0 ∨ p.N ≥ soft.length
    · rw [if_pos hc, cor hc]; rfl
    · obtain ⟨h1, h2, h3⟩ := hs.ix (i := p.N) (by omega) (by omega)
      have h4 := hf.ix h1 (by omega)
      have hb := clp_bd p.Bytes
      rw [if_neg hc, cneg (by omega), cneg (by omega), cand (by omega) (by omega), ixL_up (by omega) (by omega)]
      obtain ⟨A, hA⟩ : ∃ A, (ixL soft p.N).data = bs A := ⟨_, (bs_list _).symm⟩
      obtain ⟨B, hB⟩ : ∃ B, ixL l (ixL soft p.N).sector = bs B := ⟨_, (bs_list _).symm⟩
      rw [hA, bs_size] at h3
      rw [hB, bs_size] at h4
      obtain ⟨n, hn⟩ := Int.eq_ofNat_of_zero_le hb.1
      have hM : (A.take n ++ B.drop n).length = 64 := by simp; omega
      rw [hA, hB, show (clp p.Bytes).toNat = n by omega, mix_bs n A B (by omega) h3 h4]
      have hup : (up (ixL soft p.N)).Data = bs A := hA
      have hup2 : (up (ixL soft p.N)).Sector = (ixL soft p.N).sector := rfl
      simp only [hup, hup2, hB]
      generalize hMM : A.take n ++ B.drop n = M at hM
      refine loopO_for (fun k => ((k : Int), (M.take k).map fun b => (b.toNat : Int))) 64 (fun k hk => ?_) ?_
      · show cond (decide ((k : Int) < 64)) _ _ = _
        rw [cpos (by omega)]
        have hnext : (M.take (k + 1)).map (fun b : UInt8 => (b.toNat : Int)) = (M.take k).map (fun b => (b.toNat : Int)) ++ [(M[k].toNat : Int)] := by
          rw [List.take_succ_eq_append_getElem (by omega), List.map_append]; rfl
        by_cases hkb : (k : Int) < p.Bytes
        · have hkn : k < n := by have := (clp_lt p.Bytes k (by omega) (by omega)).1 hkb; omega
          have hv : sbyte (bs A) k = (M[k].toNat : Int) := by
            rw [sbyte_get (by omega) (by omega)]
            simp only [Int.toNat_natCast, ← hMM]
            rw [List.getElem_append_left (by simp; omega)]; simp
          rw [cpos hkb, cand (by omega) (by rw [bs_size]; omega), hv, cpos (by simp; omega), wrap_i64 (by omega) (by omega)]
          show _ = some (Sum.inl (((k + 1 : Nat) : Int), (M.take (k + 1)).map fun b => (b.toNat : Int)))
          rw [hnext]; rfl
        · have hkn : n ≤ k := by have hh : ¬ (k : Int) < clp p.Bytes := fun hh => hkb ((clp_lt p.Bytes k (by omega) (by omega)).2 hh); omega
          have hv : sbyte (bs B) k = (M[k].toNat : Int) := by
            rw [sbyte_get (by omega) (by omega)]
            simp only [Int.toNat_natCast, ← hMM]
            rw [List.getElem_append_right (by simp; omega)]
            simp only [List.length_take, List.getElem_drop]
            have e : n + (k - min n A.length) = k := by omega
            simp only [e, Int.toNat_natCast]
          rw [cneg hkb, cand (by omega) (by omega), cand (by omega) (by rw [bs_size]; omega), hv, cpos (by simp; omega), wrap_i64 (by omega) (by omega)]
          show _ = some (Sum.inl (((k + 1 : Nat) : Int), (M.take (k + 1)).map fun b => (b.toNat : Int)))
          rw [hnext]; rfl
      · show cond (decide (((64 : Nat) : Int) < 64)) _ _ = _
        rw [cneg (by decide), List.take_of_length_le (by omega)]
        rw [cbytes, cand (by omega) (by omega), strOf_map]; rfl
  · show cond (decide ((picks.length : Int) < ((picks.length : Nat) : Int))) _ _ = _
    rw [cneg (by omega)]; rfl
end Go.Proofs.Ythfjmoamjncdbaa
