/-
  DiskBytes: the plain law.
-/
import Derived.Test.YthfjmoamjncdbaaDiskRuns
namespace Go.Proofs.Ythfjmoamjncdbaa
open Go.Vc
set_option linter.unusedVariables false
set_option linter.unusedSimpArgs false

def byt (s : ByteArray) (k : Nat) : UInt8 := s.data.toList.getD k 0
theorem sbyte_byt (s : ByteArray) (k : Nat) : sbyte s (k : Int) = ((byt s k).toNat : Int) := by unfold sbyte byt; simp
theorem byt_bs (l : List UInt8) (k : Nat) : byt (bs l) k = l.getD k 0 := by unfold byt; rw [bs_data]
theorem byt_mix {n k : Nat} {a b : ByteArray} (hn : n ≤ 64) (ha : a.size = 64) (hb : b.size = 64) (hk : k < 64) : byt (mix n a b) k = if k < n then byt a k else byt b k := by
  obtain ⟨A, rfl⟩ : ∃ A, a = bs A := ⟨_, (bs_list a).symm⟩
  obtain ⟨B, rfl⟩ : ∃ B, b = bs B := ⟨_, (bs_list b).symm⟩
  rw [bs_size] at ha hb
  rw [mix_bs n A B hn ha hb, byt_bs, byt_bs, byt_bs]
  simp only [List.getD_eq_getElem?_getD]
  split
  · rw [List.getElem?_append_left (by simp; omega), List.getElem?_take_of_lt (by omega)]
  · rw [List.getElem?_append_right (by simp; omega), List.getElem?_drop, List.length_take, show n + (k - min n A.length) = k by omega]
/-- Each byte is one of a list's strings'. -/
def Covers (m : List ByteArray) (s : ByteArray) : Prop := ∀ k, k < 64 → ∃ t ∈ m, byt t k = byt s k
theorem Covers.of {m : List ByteArray} {s : ByteArray} (h : s ∈ m) : Covers m s := fun k _ => ⟨s, h, rfl⟩
theorem Covers.mix {m : List ByteArray} {a b : ByteArray} {n : Nat} (hn : n ≤ 64) (ha : a.size = 64) (hb : b.size = 64) (h1 : Covers m a) (h2 : Covers m b) : Covers m (mix n a b) := fun k hk => by
  rw [byt_mix hn ha hb hk]
  split
  · exact h1 k hk
  · exact h2 k hk
theorem crashL_covers (M : Int → List ByteArray) (soft : List E71) (hw : ∀ w ∈ soft, w.data ∈ M w.sector) : ∀ (picks : List E44) (l : List ByteArray), Full l → Soft l.length soft → (∀ i : Int, 0 ≤ i → i < l.length → Covers (M i) (ixL l i)) → ∀ i : Int, 0 ≤ i → i < l.length → Covers (M i) (ixL (crashL l soft picks) i)
  | [], l, _, _, h, i, h0, h1 => h i h0 h1
  | p :: ps, l, hf, hs, h, i, h0, h1 => by
    have hl := crash1_length soft l p
    refine crashL_covers M soft hw ps (crash1 soft l p) (crash1_full p hf hs) (by rw [hl]; exact hs) (fun j hj0 hj1 => ?_) i h0 (by rw [hl]; exact h1)
    rw [hl] at hj1
    unfold crash1
    split
    · exact h j hj0 hj1
    · obtain ⟨s1, s2, s3⟩ := hs.ix (i := p.N) (by omega) (by omega)
      have hb := clp_bd p.Bytes
      rw [ixL_set s1 hj0 hj1]
      split
      · rename_i e
        subst e
        exact Covers.mix (by omega) s3 (hf.ix s1 (by omega)) (Covers.of (hw _ (ixL_mem (by omega) (by omega)))) (h _ s1 (by omega))
      · exact h j hj0 hj1

/-! ### the loops -/
def innerF {A : Type} (m : List ByteArray) (s : ByteArray) (k : Int) (bad : A) : Bool × Int → Option ((Bool × Int) ⊕ (Int ⊕ A)) := fun x => match x with
  | (s22, s112) => cond (decide (s112 < ((m.length : Nat) : Int))) (cond (decide (0 ≤ s112) && decide (s112 < ((m.length : Nat) : Int))) (cond s22 (some (.inl (true, (IntKind.wrap .i64 (s112 + 1))))) (cond ((decide (0 ≤ k) && decide (k < ((ixL m s112).size : Int)))) (cond ((decide (0 ≤ k) && decide (k < (s.size : Int)))) (some (.inl ((sbyte (ixL m s112) k) == (sbyte s k), (IntKind.wrap .i64 (s112 + 1))))) none) none)) none) (cond (!s22) (some (.inr (.inr bad))) (some (.inr (.inl (IntKind.wrap .i64 (k + 1))))))
theorem inner_eq {A : Type} {m : List ByteArray} {s : ByteArray} {k : Nat} (bad : A) (hm : ∀ t ∈ m, t.size = 64) (hs : s.size = 64) (hk : k < 64) (hl : m.length ≤ 9000000000000) (hc : Covers m s) : loopO (innerF m s (k : Int) bad) (false, 0) = some (.inl ((k + 1 : Nat) : Int)) := by
  refine loopO_for (fun j => ((m.take j).any (fun t => byt t k == byt s k), (j : Int))) m.length (fun j hj => ?_) ?_
  · show cond (decide ((j : Int) < ((m.length : Nat) : Int))) _ _ = _
    have ht := hm m[j] (List.getElem_mem hj)
    have hn : (m.take (j + 1)).any (fun t => byt t k == byt s k) = ((m.take j).any (fun t => byt t k == byt s k) || (byt m[j] k == byt s k)) := by
      rw [List.take_succ_eq_append_getElem hj, List.any_append]; simp
    rw [cpos (by omega), cand (by omega) (by omega), ixL_nat hj, wrap_i64 (by omega) (by omega)]
    show _ = some (Sum.inl ((m.take (j + 1)).any (fun t => byt t k == byt s k), ((j + 1 : Nat) : Int)))
    rw [hn]
    cases hf : (m.take j).any (fun t => byt t k == byt s k)
    · rw [cfalse rfl, cand (by omega) (by omega), cand (by omega) (by omega), sbyte_byt, sbyte_byt]
      have e2 : (((byt m[j] k).toNat : Int) == ((byt s k).toNat : Int)) = (byt m[j] k == byt s k) := by
        by_cases h : byt m[j] k = byt s k
        · rw [h]; simp
        · rw [beq_eq_false_iff_ne.2 h]
          refine beq_eq_false_iff_ne.2 fun h2 => h ?_
          exact UInt8.toNat_inj.1 (by omega)
      rw [e2]; rfl
    · rw [ctrue rfl]; rfl
  · show cond (decide ((m.length : Int) < ((m.length : Nat) : Int))) _ _ = _
    obtain ⟨t, h1, h2⟩ := hc k hk
    have : m.any (fun t => byt t k == byt s k) = true := List.any_eq_true.2 ⟨t, h1, by simp [h2]⟩
    rw [cneg (by omega), List.take_of_length_le (by omega), this, wrap_i64 (by omega) (by omega)]; rfl
structure May (m : List ByteArray) (k : Nat) : Prop where
  size : ∀ t ∈ m, t.size = 64
  len : m.length ≤ k
theorem tmod3 (k : Nat) : Int.tmod (k : Int) 3 = ((k % 3 : Nat) : Int) := by rw [tmod_nn (by omega)]; omega
theorem DiskBytes_eq (first thn : List ByteArray) (picks : List E44) (h1 : first.length ≤ 8796093022000) (h2 : thn.length ≤ 8796093022000) (hp : picks.length ≤ 9223372036854775807) : f_DiskBytes first thn picks = some true := by
  unfold f_DiskBytes
  rw [awake_eq, bind_some']
  show ((f_New 3).bind _) = _
  rw [New_eq (by decide) (by decide), bind_some']
  have e3 : List.replicate (3 : Int).toNat Z = [Z, Z, Z] := rfl
  rw [e3]
  have f0 : Full [Z, Z, Z] := full_Z 3
  generalize hF : [Z, Z, Z] = firm at f0
  have hl0 : firm.length = 3 := by rw [← hF]; rfl
  refine loopO_inv (fun (m : Nat) (s : Int × Int × Bool × List ByteArray × List E71) => ∃ (k : Nat) (soft : List E71), s = ((k : Int), -1, false, setAll firm soft, soft) ∧ m = first.length - k ∧ k ≤ first.length ∧ soft.length ≤ k ∧ Soft 3 soft) ?_ first.length _ ⟨0, [], rfl, by omega, by omega, by simp, soft_nil 3⟩
  rintro m s ⟨k, soft, rfl, rfl, hk, hsl, hso⟩
  by_cases hd : k < first.length
  · left
    refine ⟨(((k + 1 : Nat) : Int), -1, false, setAll firm (soft ++ [⟨((k % 3 : Nat) : Int), pad first[k]⟩]), soft ++ [⟨((k % 3 : Nat) : Int), pad first[k]⟩]), first.length - (k + 1), ?_, by omega, k + 1, _, rfl, rfl, by omega, by simp; omega, ?_⟩
    · show cond (decide ((k : Int) < ((first.length : Nat) : Int))) _ _ = _
      rw [cpos (by omega), cand (by omega) (by omega), ixL_nat hd, padded_eq, bind_some', tmod3, wrap_i64 (by omega) (by omega)]
      show ((f_Write _ _ _ _ _ _ _ _).bind _) = _
      rw [Write_eq _ _ _ _ _ _ (by decide) (by omega), bind_some']
      have hsz := pad_size first[k]
      have : writeF (setAll firm soft) soft [] (-1) false ((k % 3 : Nat) : Int) (pad first[k]) = (0, -1, false, setAll firm (soft ++ [⟨((k % 3 : Nat) : Int), pad first[k]⟩]), soft ++ [⟨((k % 3 : Nat) : Int), pad first[k]⟩]) := by
        unfold writeF
        rw [setAll_length, if_neg (by decide), if_neg (by omega), if_neg (by simp [getB]), if_neg (by decide), setAll_app]; rfl
      rw [this]; rfl
    · intro w hw
      rcases List.mem_append.1 hw with hw | hw
      · exact hso w hw
      · simp at hw; subst hw; exact ⟨by show 0 ≤ (k : Int) % 3; omega, by show (k : Int) % 3 < 3; omega, pad_size _⟩
  right
  show cond (decide ((k : Int) < ((first.length : Nat) : Int))) _ _ = _
  rw [cneg (by omega), Sync_eq _ _ _ _ _ _ (by decide) (by omega) (fun w hw => ⟨(hso w hw).1, by rw [hl0]; exact (hso w hw).2.1⟩), bind_some']
  have hs1 : syncF firm soft (-1) false = (0, -1, false, setAll firm soft, []) := by unfold syncF; rfl
  rw [hs1]
  have f1 : Full (setAll firm soft) := setAll_full _ _ f0 (by rw [hl0]; exact hso)
  have hl1 : (setAll firm soft).length = 3 := by rw [setAll_length, hl0]
  clear hs1 hsl hso hd hk
  generalize setAll firm soft = g at f1 hl1
  have hrd : ∀ i : Nat, i < 3 → ∀ (a c : List ByteArray) (b : List E71) (d : List (Int × Bool)), f_Read a g b d (-1) false (i : Int) = some (ixL g i, 0) := by
    intro i hi a c b d
    rw [Read_eq]; unfold readF; rw [if_neg (by decide), if_neg (by omega)]
  -- what may lie there
  refine loopO_for (fun i => ((i : Int), if 0 < i then [ixL g 0] else [], if 1 < i then [ixL g 1] else [], if 2 < i then [ixL g 2] else [])) 3 (fun i hi => ?_) ?_
  · show cond (decide ((i : Int) < 3)) _ _ = _
    rw [cpos (by omega), hrd i hi _ [] _ _, bind_some']
    show cond (decide (0 ≤ (i : Int)) && decide ((i : Int) < ((3 : Nat) : Int))) _ _ = _
    rw [cand (by omega) (by omega), wrap_i64 (by omega) (by omega)]
    obtain rfl | rfl | rfl : i = 0 ∨ i = 1 ∨ i = 2 := by omega
    · rfl
    · rfl
    · rfl
  show cond (decide (((3 : Nat) : Int) < 3)) _ _ = _
  rw [cneg (by decide)]
  show loopO _ ((0 : Int), (-1 : Int), false, [ixL g 0], [ixL g 1], [ixL g 2], g, ([] : List E71)) = _
  refine loopO_inv (fun (m : Nat) (s : Int × Int × Bool × List ByteArray × List ByteArray × List ByteArray × List ByteArray × List E71) => ∃ (k : Nat) (M : Int → List ByteArray) (soft : List E71), s = ((k : Int), -1, false, M 0, M 1, M 2, setAll g soft, soft) ∧ m = thn.length - k ∧ k ≤ thn.length ∧ soft.length ≤ k ∧ Soft 3 soft ∧
      (∀ w ∈ soft, w.data ∈ M w.sector) ∧ ∀ i : Int, 0 ≤ i → i < 3 → ixL g i ∈ M i ∧ May (M i) (k + 1)) ?_ thn.length _ ?_
  rotate_left
  · refine ⟨0, fun i => [ixL g i], [], rfl, by omega, by omega, by simp, soft_nil 3, fun w hw => (by cases hw), fun i h0 h1 => ⟨by simp, ⟨fun t ht => ?_, by simp⟩⟩⟩
    simp at ht; subst ht; exact f1.ix h0 (by omega)
  rintro m s ⟨k, M, soft, rfl, rfl, hk, hsl, hso, hM, hi⟩
  by_cases hd : k < thn.length
  · left
    have hsz := pad_size thn[k]
    have hw : writeF (setAll g soft) soft [] (-1) false ((k % 3 : Nat) : Int) (pad thn[k]) = (0, -1, false, setAll g (soft ++ [⟨((k % 3 : Nat) : Int), pad thn[k]⟩]), soft ++ [⟨((k % 3 : Nat) : Int), pad thn[k]⟩]) := by
      unfold writeF
      rw [setAll_length, if_neg (by decide), if_neg (by omega), if_neg (by simp [getB]), if_neg (by decide), setAll_app]; rfl
    refine ⟨(((k + 1 : Nat) : Int), -1, false, (fun i : Int => if i = ((k % 3 : Nat) : Int) then M i ++ [pad thn[k]] else M i) 0, (fun i : Int => if i = ((k % 3 : Nat) : Int) then M i ++ [pad thn[k]] else M i) 1, (fun i : Int => if i = ((k % 3 : Nat) : Int) then M i ++ [pad thn[k]] else M i) 2, setAll g (soft ++ [⟨((k % 3 : Nat) : Int), pad thn[k]⟩]), soft ++ [⟨((k % 3 : Nat) : Int), pad thn[k]⟩]), thn.length - (k + 1), ?_, by omega, k + 1,
      (fun i : Int => if i = ((k % 3 : Nat) : Int) then M i ++ [pad thn[k]] else M i), _, rfl, rfl, by omega, by simp; omega, ?_, ?_, ?_⟩
    · show cond (decide ((k : Int) < ((thn.length : Nat) : Int))) _ _ = _
      have hm0 := (hi 0 (by decide) (by decide)).2.len
      have hm1 := (hi 1 (by decide) (by decide)).2.len
      have hm2 := (hi 2 (by decide) (by decide)).2.len
      rw [cpos (by omega), cand (by omega) (by omega), ixL_nat hd, padded_eq, bind_some', tmod3, wrap_i64 (by omega) (by omega)]
      show ((f_Write _ _ _ _ _ _ _ _).bind _) = _
      rw [Write_eq _ _ _ _ _ _ (by decide) (by omega), bind_some', hw]
      show cond ((0 : Int) != 0) _ _ = _
      rw [cbeq rfl, cand (by omega) (by omega)]
      obtain h3 | h3 | h3 : k % 3 = 0 ∨ k % 3 = 1 ∨ k % 3 = 2 := by omega
      · rw [h3, ctrue (show (((0 : Nat) : Int) == 0) = true from rfl), bind_some', cpos (by simp; omega)]; rfl
      · rw [h3, cfalse (show (((1 : Nat) : Int) == 0) = false from rfl), ctrue (show (((1 : Nat) : Int) == 1) = true from rfl), bind_some', cpos (by simp; omega)]; rfl
      · rw [h3, cfalse (show (((2 : Nat) : Int) == 0) = false from rfl), cfalse (show (((2 : Nat) : Int) == 1) = false from rfl), bind_some', cpos (by simp; omega)]; rfl
    · intro w hw
      rcases List.mem_append.1 hw with hw | hw
      · exact hso w hw
      · simp at hw; subst hw; exact ⟨by show 0 ≤ (k : Int) % 3; omega, by show (k : Int) % 3 < 3; omega, pad_size _⟩
    · intro w hw
      rcases List.mem_append.1 hw with hw | hw
      · have := hM w hw
        show w.data ∈ if w.sector = _ then _ else _
        split
        · exact List.mem_append_left _ this
        · exact this
      · simp at hw; subst hw
        show pad thn[k] ∈ if ((k % 3 : Nat) : Int) = ((k % 3 : Nat) : Int) then _ else _
        rw [if_pos rfl]; simp
    · intro i h0 h1
      obtain ⟨a, b⟩ := hi i h0 h1
      show ixL g i ∈ (if i = _ then _ else _) ∧ May (if i = _ then _ else _) _
      split
      · refine ⟨List.mem_append_left _ a, fun t ht => ?_, by have := b.len; simp; omega⟩
        rcases List.mem_append.1 ht with ht | ht
        · exact b.size t ht
        · simp at ht; subst ht; exact pad_size _
      · exact ⟨a, b.size, by have := b.len; omega⟩
  right
  show cond (decide ((k : Int) < ((thn.length : Nat) : Int))) _ _ = _
  have hso' : Soft g.length soft := by rw [hl1]; exact hso
  rw [cneg (by omega), Crash_eq _ _ _ _ _ _ _ hp f1 hso' (by omega), bind_some']
  have hcov := crashL_covers M soft hM picks g f1 hso' (fun i h0 h1 => Covers.of (hi i h0 (by omega)).1)
  obtain ⟨f2, hl2⟩ := crashL_ok soft picks g f1 hso'
  rw [hl1] at hl2 hcov
  generalize crashL g soft picks = c at hcov f2 hl2
  refine loopO_for (fun i => ((i : Int), ([] : List E71))) 3 (fun i hi3 => ?_) ?_
  · show cond (decide ((i : Int) < 3)) _ _ = _
    have hr : readF c false (i : Int) = (ixL c i, 0) := by unfold readF; rw [if_neg (by decide), if_neg (by omega)]
    rw [cpos (by omega), Read_eq, bind_some', hr]
    show cond ((0 : Int) != 0) _ _ = _
    rw [cbeq rfl]
    have hz : (ixL c (i : Int)).size = 64 := f2.ix (by omega) (by omega)
    have hcv := hcov i (by omega) (by omega)
    have hmay := (hi i (by omega) (by omega)).2
    have hml := hmay.len
    refine loopO_for (fun k => (k : Int)) 64 (fun q hq => ?_) ?_
    · show cond (decide ((q : Int) < ((ixL c (i : Int)).size : Int))) _ _ = _
      rw [cpos (by omega), cand (by omega) (by omega)]
      have hin := inner_eq (A := (Int × List E71) ⊕ ((Int × Int × Bool × List ByteArray × List ByteArray × List ByteArray × List ByteArray × List E71) ⊕ ((Int × List ByteArray × List ByteArray × List ByteArray) ⊕ ((Int × Int × Bool × List ByteArray × List E71) ⊕ O_DiskBytes)))) (.inr (.inr (.inr (.inr false)))) hmay.size hz hq (by omega) hcv
      obtain rfl | rfl | rfl : i = 0 ∨ i = 1 ∨ i = 2 := by omega
      · rw [ctrue (show (((0 : Nat) : Int) == 0) = true from rfl)]; exact hin
      · rw [cfalse (show (((1 : Nat) : Int) == 0) = false from rfl), ctrue (show (((1 : Nat) : Int) == 1) = true from rfl)]; exact hin
      · rw [cfalse (show (((2 : Nat) : Int) == 0) = false from rfl), cfalse (show (((2 : Nat) : Int) == 1) = false from rfl)]; exact hin
    · show cond (decide (((64 : Nat) : Int) < ((ixL c (i : Int)).size : Int))) _ _ = _
      rw [cneg (by omega), wrap_i64 (by omega) (by omega)]; rfl
  · rfl
end Go.Proofs.Ythfjmoamjncdbaa
