/-
  The document's calls; both disks go together.
-/
import Derived.Test.YthfjmoamjncdbaaDisk3
namespace Go.Proofs.Ythfjmoamjncdbaa
open Go.Vc
set_option linter.unusedVariables false
set_option linter.unusedSimpArgs false

theorem ixL_set {α : Type} [Inhabited α] {l : List α} {a i : Int} {x : α} (ha : 0 ≤ a) (hi : 0 ≤ i) (hl : i < l.length) : ixL (l.set a.toNat x) i = if a = i then x else ixL l i := by
  have h1 : i.toNat < l.length := by omega
  rw [ixL_eq (by simpa using h1), ixL_eq h1, List.getElem_set]
  by_cases e : a = i
  · subst e; simp
  · rw [if_neg (by omega), if_neg e]
def seenF (i : Int) (s : ByteArray) (soft : List E71) : ByteArray := soft.foldl (fun s w => if w.sector = i then w.data else s) s
theorem ixL_setAll {i : Int} (hi : 0 ≤ i) : ∀ (soft : List E71) (firm : List ByteArray), i < firm.length → (∀ w ∈ soft, 0 ≤ w.sector) → ixL (setAll firm soft) i = seenF i (ixL firm i) soft
  | [], _, _, _ => rfl
  | w :: l, firm, h, hw => by
    show ixL (setAll (firm.set w.sector.toNat w.data) l) i = seenF i (if w.sector = i then w.data else ixL firm i) l
    rw [ixL_setAll hi l _ (by simpa using h) fun x hx => hw x (List.mem_cons_of_mem _ hx), ixL_set (hw w (List.mem_cons_self ..)) hi h]
section
variable (Firm : List ByteArray) (soft : List E71) (Not : List Int) (fuel : Int) (down : Bool)
theorem rRead_eq (hs : Soft Firm.length soft) (hl : soft.length < 9000000000000) (i : Int) : f_rRead Firm (soft.map up) Not fuel down i = some (readF (setAll Firm soft) down i) := by
  unfold f_rRead readF
  cases down
  · show cond (decide (i < 0)) _ _ = _
    rw [if_neg (by decide), setAll_length]
    by_cases h : i < 0 ∨ i ≥ Firm.length
    · rw [if_pos h, cor h]
    · rw [if_neg h, cneg (by omega), cneg (by omega), cand (by omega) (by omega)]
      rw [ixL_setAll (by omega) soft Firm (by omega) fun w hw => (hs w hw).1]
      refine loopO_for (fun k => (seenF i (ixL Firm i) (soft.take k), (k : Int))) soft.length (fun k hk => ?_) ?_
      · show cond (decide ((k : Int) < (((soft.map up).length : Nat) : Int))) _ _ = _
        have e : seenF i (ixL Firm i) (soft.take (k + 1)) = if soft[k].sector = i then soft[k].data else seenF i (ixL Firm i) (soft.take k) := by
          unfold seenF; rw [List.take_succ_eq_append_getElem hk, List.foldl_append]; rfl
        rw [List.length_map, cpos (by omega), cand (by omega) (by omega), ixL_up (by omega) (by omega), ixL_nat hk, wrap_i64 (by omega) (by omega)]
        show cond (soft[k].sector == i) _ _ = some (Sum.inl (seenF i (ixL Firm i) (soft.take (k + 1)), ((k + 1 : Nat) : Int)))
        rw [e]
        by_cases hq : soft[k].sector = i
        · rw [ceq hq, cand (by omega) (by omega), if_pos hq]; rfl
        · rw [cne hq, if_neg hq]; rfl
      · show cond (decide ((soft.length : Int) < (((soft.map up).length : Nat) : Int))) _ _ = _
        rw [List.length_map, cneg (by omega), List.take_of_length_le (by omega)]
  · rfl
theorem rburn_eq (Soft : List E84) (hf : -1 ≤ fuel ∧ fuel ≤ 9223372036854775807) : f_rburn Firm Soft Not fuel down = some (if fuel = 0 then (false, fuel, true) else (true, dec fuel, down)) := by
  unfold f_rburn dec
  by_cases h : fuel = 0
  · rw [ceq h, if_pos h]
  · rw [cne h, if_neg h]
    by_cases h2 : fuel > 0
    · rw [cpos h2, if_pos h2, wrap_i64 (by omega) (by omega)]
    · rw [cneg h2, if_neg h2]
def rwriteF (n : Nat) (i : Int) (data : ByteArray) : Int × Int × Bool × List E84 :=
  if down = true then (10, fuel, down, soft.map up) else if i < 0 ∨ i ≥ n ∨ data.size ≠ 64 then (1, fuel, down, soft.map up) else if i ∈ Not then (11, fuel, down, soft.map up) else
  if fuel = 0 then (10, fuel, true, soft.map up) else (0, dec fuel, down, (soft ++ [(⟨i, data⟩ : E71)]).map up)
theorem rWrite_eq (hf : -1 ≤ fuel ∧ fuel ≤ 9223372036854775807) (hl : soft.length < 9000000000000) (hn : Not.length < 9000000000000) (i : Int) (data : ByteArray) :
    f_rWrite Firm (soft.map up) Not fuel down i data = some (rwriteF soft Not fuel down Firm.length i data) := by
  unfold f_rWrite rwriteF
  cases down
  · show cond (decide (i < 0)) _ _ = _
    rw [if_neg (by decide)]
    by_cases h1 : i < 0
    · rw [cpos h1, if_pos (by omega)]
    rw [cneg h1]
    by_cases h2 : i ≥ Firm.length
    · rw [cpos (by omega), if_pos (by omega)]
    rw [cneg (by omega)]
    by_cases h3 : data.size = 64
    · rw [cbeq (by omega), if_neg (by omega)]
      refine loopO_inv (fun (n : Nat) (s : Int) => ∃ k : Nat, s = (k : Int) ∧ n = Not.length - k ∧ k ≤ Not.length ∧ i ∉ Not.take k) ?_ Not.length 0 (⟨0, rfl, by omega, by omega, by simp⟩ : ∃ k : Nat, (0 : Int) = (k : Int) ∧ Not.length = Not.length - k ∧ k ≤ Not.length ∧ i ∉ Not.take k)
      rintro n s ⟨k, rfl, rfl, hk, hm⟩
      by_cases hd : k < Not.length
      · by_cases hq : Not[k] = i
        · right
          show cond (decide ((k : Int) < ((Not.length : Nat) : Int))) _ _ = _
          rw [cpos (by omega), cand (by omega) (by omega), ixL_nat hd, ceq hq, if_pos (hq ▸ List.getElem_mem hd)]
        · left
          refine ⟨((k + 1 : Nat) : Int), Not.length - (k + 1), ?_, by omega, k + 1, rfl, rfl, by omega, ?_⟩
          · show cond (decide ((k : Int) < ((Not.length : Nat) : Int))) _ _ = _
            rw [cpos (by omega), cand (by omega) (by omega), ixL_nat hd, cne hq, wrap_i64 (by omega) (by omega)]; rfl
          · rw [List.take_succ_eq_append_getElem hd, List.mem_append]
            rintro (h | h)
            · exact hm h
            · simp at h; exact hq h.symm
      · right
        have hm' : i ∉ Not := by rwa [List.take_of_length_le (by omega)] at hm
        show cond (decide ((k : Int) < ((Not.length : Nat) : Int))) _ _ = _
        rw [cneg (by omega), rburn_eq _ _ _ _ _ hf, bind_some', if_neg hm']
        by_cases h0 : fuel = 0
        · rw [if_pos h0, if_pos h0]; rfl
        · rw [if_neg h0, if_neg h0]
          show cond (decide (((soft.map up) ++ [(⟨i, data⟩ : E84)]).length ≤ _)) _ _ = _
          rw [cpos (by simp; omega), List.map_append]; rfl
    · rw [cbne (by omega), if_pos (by omega)]
  · rfl
theorem rSync_eq (hf : -1 ≤ fuel ∧ fuel ≤ 9223372036854775807) (hl : soft.length < 9000000000000) (hw : Soft Firm.length soft) : f_rSync Firm (soft.map up) Not fuel down = some (let r := syncF Firm soft fuel down; (r.1, r.2.1, r.2.2.1, r.2.2.2.1, r.2.2.2.2.map up)) := by
  unfold f_rSync syncF
  cases down
  · show ((f_rburn Firm (soft.map up) Not fuel false).bind _) = _
    rw [if_neg (by decide), rburn_eq _ _ _ _ _ hf, bind_some']
    by_cases h0 : fuel = 0
    · rw [if_pos h0, if_pos h0]; rfl
    · rw [if_neg h0, if_neg h0]
      refine loopO_for (fun k => ((k : Int), setAll Firm (soft.take k))) soft.length (fun i hi => ?_) ?_
      · show cond (decide ((i : Int) < (((soft.map up).length : Nat) : Int))) _ _ = _
        have hlen := setAll_length (soft.take i) Firm
        have := hw soft[i] (List.getElem_mem hi)
        have hn : setAll Firm (soft.take (i + 1)) = (setAll Firm (soft.take i)).set soft[i].sector.toNat soft[i].data := by
          unfold setAll; rw [List.take_succ_eq_append_getElem hi, List.foldl_append]; rfl
        have hu : (up soft[i]).Sector = soft[i].sector := rfl
        have hu2 : (up soft[i]).Data = soft[i].data := rfl
        rw [List.length_map, cpos (by omega), cand (by omega) (by omega), cand (by omega) (by omega), ixL_up (by omega) (by omega), ixL_nat hi, hu, hu2, hlen, cand (by omega) (by omega), wrap_i64 (by omega) (by omega), hn]
        rfl
      · show cond (decide ((soft.length : Int) < (((soft.map up).length : Nat) : Int))) _ _ = _
        rw [List.length_map, cneg (by omega), List.take_of_length_le (by omega)]; rfl
  · rfl
end
def notF (Not : List Int) (i : Int) (b : Bool) : List Int := Not.filter (fun x => x != i) ++ (if b = true then [i] else [])
theorem notF_mem {Not : List Int} {i j : Int} {b : Bool} : j ∈ notF Not i b ↔ if j = i then b = true else j ∈ Not := by
  unfold notF
  by_cases h : j = i
  · subst h; cases b <;> simp
  · cases b <;> simp [h]
theorem notF_length {Not : List Int} {i : Int} {b : Bool} : (notF Not i b).length ≤ Not.length + 1 := by
  unfold notF
  have := List.length_filter_le (fun x => x != i) Not
  rw [List.length_append]; split <;> simp <;> omega
theorem rBad_eq (Firm : List ByteArray) (Soft : List E84) (Not : List Int) (fuel : Int) (down : Bool) (hn : Not.length < 9000000000000) (i : Int) (b : Bool) : f_rBad Firm Soft Not fuel down i b = some (notF Not i b) := by
  unfold f_rBad notF
  refine loopO_for (fun k => ((k : Int), (Not.take k).filter (fun x => x != i))) Not.length (fun k hk => ?_) ?_
  · show cond (decide ((k : Int) < ((Not.length : Nat) : Int))) _ _ = _
    have hlen : ((Not.take k).filter (fun x => x != i)).length ≤ k := Nat.le_trans (List.length_filter_le _ _) (by rw [List.length_take]; omega)
    rw [cpos (by omega), cand (by omega) (by omega), ixL_nat hk, wrap_i64 (by omega) (by omega)]
    show _ = some (Sum.inl (((k + 1 : Nat) : Int), (Not.take (k + 1)).filter (fun x => x != i)))
    rw [List.take_succ_eq_append_getElem hk, List.filter_append]
    by_cases hq : Not[k] = i
    · rw [cbeq hq]; simp [hq]
    · rw [cbne hq, cand (by omega) (by omega), cpos (by simp; omega)]; simp [hq]
  · show cond (decide ((Not.length : Int) < ((Not.length : Nat) : Int))) _ _ = _
    have hlen := List.length_filter_le (fun x => x != i) Not
    rw [cneg (by omega), List.take_of_length_le (by omega)]
    cases b
    · show some _ = _; simp
    · show cond (decide _) _ _ = _
      rw [cpos (by simp; omega)]; rfl
theorem getB_putB (l : List (Int × Bool)) (i j : Int) (b : Bool) : getB (putB l i b) j = if j = i then b else getB l j := by
  induction l with
  | nil => unfold putB getB; split <;> rfl
  | cons x l ih =>
    obtain ⟨a, v⟩ := x
    unfold putB
    by_cases h : i = a
    · subst h
      rw [if_pos rfl]
      unfold getB
      by_cases h2 : j = i
      · rw [if_pos h2, if_pos h2]
      · rw [if_neg h2, if_neg h2, if_neg h2]
    · rw [if_neg h]
      unfold getB
      by_cases h2 : j = a
      · rw [if_pos h2, if_pos h2, if_neg (by omega)]
      · rw [if_neg h2, if_neg h2, ih]
end Go.Proofs.Ythfjmoamjncdbaa
