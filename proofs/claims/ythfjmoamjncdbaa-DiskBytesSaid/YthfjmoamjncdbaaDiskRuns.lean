/-
  DiskNone, DiskRuns: the laws.
-/
import Derived.Test.YthfjmoamjncdbaaDisk4
namespace Go.Proofs.Ythfjmoamjncdbaa
open Go.Vc
set_option linter.unusedVariables false
set_option linter.unusedSimpArgs false

theorem full_Z (n : Nat) : Full (List.replicate n Z) := fun s hs => by rw [List.eq_of_mem_replicate hs]; exact Z_size
theorem soft_nil (n : Nat) : Soft n [] := fun _ h => by cases h
def A1 : ByteArray := pad (ByteArray.mk #[97])
def B1 : ByteArray := pad (ByteArray.mk #[98])
theorem awake_eq : f_awake = some true := by
  have hA : A1.size = 64 := pad_size _
  have hB : B1.size = 64 := pad_size _
  have hp : pad (ByteArray.mk #[]) = Z := by
    unfold pad; rw [if_neg (by decide)]
    exact ByteArray_ext rfl
  have hZ := Z_size
  unfold f_awake
  rw [New_eq (by decide) (by decide), bind_some']
  have e2 : List.replicate (2 : Int).toNat Z = [Z, Z] := rfl
  rw [e2]
  show ((f_padded _).bind _) = _
  rw [padded_eq, bind_some']
  show ((f_Write _ _ _ _ _ _ _ A1).bind _) = _
  rw [Write_eq _ _ _ _ _ _ (by decide) (by decide), bind_some']
  have w1 : writeF [Z, Z] [] [] (-1) false 0 A1 = (0, -1, false, [A1, Z], [⟨0, A1⟩]) := by
    unfold writeF; rw [if_neg (by decide), if_neg (by rw [hA]; decide), if_neg (by decide), if_neg (by decide)]; rfl
  rw [w1]
  show ((f_Sync _ _ _ _ _ _).bind _) = _
  rw [Sync_eq _ _ _ _ _ _ (by decide) (by decide) (by intro w hw; simp at hw; subst hw; decide), bind_some']
  have s1 : syncF [Z, Z] [⟨0, A1⟩] (-1) false = (0, -1, false, [A1, Z], []) := by unfold syncF; rfl
  rw [s1]
  show ((f_padded _).bind _) = _
  rw [padded_eq, bind_some']
  show ((f_Write _ _ _ _ _ _ _ B1).bind _) = _
  rw [Write_eq _ _ _ _ _ _ (by decide) (by decide), bind_some']
  have w2 : writeF [A1, Z] [] [] (-1) false 1 B1 = (0, -1, false, [A1, B1], [⟨1, B1⟩]) := by
    unfold writeF; rw [if_neg (by decide), if_neg (by rw [hB]; decide), if_neg (by decide), if_neg (by decide)]; rfl
  rw [w2]
  show ((f_Crash _ _ _ _ _ _ _).bind _) = _
  rw [Crash_eq _ _ _ _ _ _ _ (by decide) (by intro s hs; simp at hs; rcases hs with rfl | rfl <;> assumption) (by intro w hw; simp at hw; subst hw; exact ⟨by decide, by decide, hB⟩) (by decide), bind_some']
  show ((f_Read _ _ _ _ _ _ _).bind _) = _
  rw [Read_eq, bind_some']
  have r1 : readF (crashL [A1, Z] [⟨1, B1⟩] []) false 0 = (A1, 0) := rfl
  rw [r1]
  show ((f_Read _ _ _ _ _ _ _).bind _) = _
  rw [Read_eq, bind_some']
  have r2 : readF (crashL [A1, Z] [⟨1, B1⟩] []) false 1 = (Z, 0) := rfl
  rw [r2]
  show ((f_Read _ _ _ _ _ _ _).bind _) = _
  rw [Read_eq, bind_some']
  have r3 : readF [A1, B1] true 0 = (ByteArray.mk #[], 10) := rfl
  rw [r3]
  show cond ((0 : Int) == 0) _ _ = _
  rw [ceq rfl, ceq rfl, ceq rfl, ceq rfl, ceq rfl, padded_eq, bind_some', beqL, ctrue (decide_eq_true (show A1 = pad (ByteArray.mk #[97]) from rfl)), bind_some', hp, beqL, cpos rfl]; rfl
theorem DiskNone_eq (i : Int) (data : ByteArray) (picks : List E44) : f_DiskNone i data picks = some true := by
  unfold f_DiskNone
  rw [awake_eq]
  rfl

structure Inv (n k : Nat) (fuel : Int) (down : Bool) (firm : List ByteArray) (soft : List E71) (bad : List (Int × Bool)) (Not : List Int) : Prop where
  fuel : -1 ≤ fuel ∧ fuel ≤ 9223372036854775807
  full : Full firm
  len : firm.length = n
  so : Soft n soft
  sl : soft.length ≤ k
  nl : Not.length ≤ k
  bad : ∀ j, getB bad j = true ↔ j ∈ Not
abbrev St := Int × Int × Bool × Int × Bool × (List ByteArray) × (List ByteArray) × (List E71) × (List (Int × Bool)) × (List ByteArray) × (List E84) × (List Int)
def mkSt (k : Nat) (fuel : Int) (down : Bool) (firm : List ByteArray) (soft : List E71) (bad : List (Int × Bool)) (Not : List Int) : St := ((k : Int), fuel, down, fuel, down, firm, setAll firm soft, soft, bad, firm, soft.map up, Not)
theorem dec_bd {fuel : Int} (h : -1 ≤ fuel ∧ fuel ≤ 9223372036854775807) (h0 : fuel ≠ 0) : -1 ≤ dec fuel ∧ dec fuel ≤ 9223372036854775807 := by unfold dec; split <;> omega
theorem setAll_app (firm : List ByteArray) (soft : List E71) (w : E71) : setAll firm (soft ++ [w]) = (setAll firm soft).set w.sector.toNat w.data := by unfold setAll; rw [List.foldl_append]; rfl
theorem setAll_full : ∀ (soft : List E71) (firm : List ByteArray), Full firm → Soft firm.length soft → Full (setAll firm soft)
  | [], _, h, _ => h
  | w :: l, firm, h, hs => setAll_full l _ (h.set (hs w (List.mem_cons_self ..)).2.2) (by rw [List.length_set]; exact fun x hx => hs x (List.mem_cons_of_mem _ hx))
abbrev Jt := Int × Bool × Int × Bool × (List ByteArray) × (List ByteArray) × (List E71) × (List (Int × Bool)) × (List ByteArray) × (List E84) × (List Int)
def mkJ (fuel : Int) (down : Bool) (firm : List ByteArray) (soft : List E71) (bad : List (Int × Bool)) (Not : List Int) : Jt := (fuel, down, fuel, down, firm, setAll firm soft, soft, bad, firm, soft.map up, Not)
theorem write_rel {n k : Nat} {fuel : Int} {down : Bool} {firm : List ByteArray} {soft : List E71} {bad : List (Int × Bool)} {Not : List Int} (h : Inv n k fuel down firm soft bad Not) (i : Int) (data : ByteArray) :
    ∃ e fuel' down' soft', writeF (setAll firm soft) soft bad fuel down i data = (e, fuel', down', setAll firm soft', soft') ∧ rwriteF soft Not fuel down firm.length i data = (e, fuel', down', soft'.map up) ∧ Inv n (k + 1) fuel' down' firm soft' bad Not := by
  have hsl := h.sl
  have hnl := h.nl
  have hw : Inv n (k + 1) fuel down firm soft bad Not := ⟨h.fuel, h.full, h.len, h.so, by omega, by omega, h.bad⟩
  unfold writeF rwriteF
  rw [setAll_length]
  by_cases h1 : down = true
  · rw [if_pos h1, if_pos h1]; exact ⟨_, _, _, soft, rfl, rfl, hw⟩
  rw [if_neg h1, if_neg h1]
  by_cases h2 : i < 0 ∨ i ≥ firm.length ∨ data.size ≠ 64
  · rw [if_pos h2, if_pos h2]; exact ⟨_, _, _, soft, rfl, rfl, hw⟩
  rw [if_neg h2, if_neg h2]
  by_cases h3 : i ∈ Not
  · rw [if_pos ((h.bad i).2 h3), if_pos h3]; exact ⟨_, _, _, soft, rfl, rfl, hw⟩
  rw [if_neg (fun e => h3 ((h.bad i).1 e)), if_neg h3]
  by_cases h4 : fuel = 0
  · rw [if_pos h4, if_pos h4]; exact ⟨_, _, _, soft, rfl, rfl, h.fuel, h.full, h.len, h.so, by omega, by omega, h.bad⟩
  rw [if_neg h4, if_neg h4]
  refine ⟨_, _, _, soft ++ [⟨i, data⟩], by rw [setAll_app], rfl, dec_bd h.fuel h4, h.full, h.len, ?_, by simp; omega, by omega, h.bad⟩
  intro w hw
  rcases List.mem_append.1 hw with hw | hw
  · exact h.so w hw
  · have hl := h.len
    simp at hw; subst hw; exact ⟨by show 0 ≤ i; omega, by show i < n; omega, by show data.size = 64; omega⟩
theorem sync_rel {n k : Nat} {fuel : Int} {down : Bool} {firm : List ByteArray} {soft : List E71} {bad : List (Int × Bool)} {Not : List Int} (h : Inv n k fuel down firm soft bad Not) :
    ∃ e fuel' down' firm' soft', syncF firm soft fuel down = (e, fuel', down', firm', soft') ∧ setAll firm soft = setAll firm' soft' ∧ Inv n (k + 1) fuel' down' firm' soft' bad Not := by
  have hsl := h.sl
  have hnl := h.nl
  unfold syncF
  by_cases h1 : down = true
  · rw [if_pos h1]; exact ⟨_, _, _, _, _, rfl, rfl, h.fuel, h.full, h.len, h.so, by omega, by omega, h.bad⟩
  rw [if_neg h1]
  by_cases h4 : fuel = 0
  · rw [if_pos h4]; exact ⟨_, _, _, _, _, rfl, rfl, h.fuel, h.full, h.len, h.so, by omega, by omega, h.bad⟩
  rw [if_neg h4]
  exact ⟨_, _, _, _, _, rfl, rfl, dec_bd h.fuel h4, setAll_full _ _ h.full (by rw [h.len]; exact h.so), by rw [setAll_length]; exact h.len, soft_nil _, by simp, by omega, h.bad⟩
def max0 (x : Int) : Int := if (-1 : Int) > x then -1 else x
theorem max0_bd {x : Int} (h : x ≤ 9223372036854775807) : -1 ≤ max0 x ∧ max0 x ≤ 9223372036854775807 := by unfold max0; split <;> omega
theorem DiskRuns_eq (sectors : Int) (calls : List E52) (hc : calls.length ≤ 2199023255552) (hx : ∀ x ∈ calls, (-9223372036854775808 ≤ x.N ∧ x.N ≤ 9223372036854775807) ∧ x.Picks.length ≤ 9223372036854775807) : f_DiskRuns sectors calls = some true := by
  unfold f_DiskRuns
  rw [awake_eq, bind_some']
  show ((f_New sectors).bind _) = _
  by_cases hn : 1 ≤ sectors ∧ sectors ≤ 8192
  · rw [New_eq hn.1 hn.2, bind_some']
    show ((f_rNew sectors).bind _) = _
    rw [rNew_eq hn.1 hn.2, bind_some']
    obtain ⟨n, rfl⟩ := Int.eq_ofNat_of_zero_le (show 0 ≤ sectors by omega)
    refine loopO_inv (fun (m : Nat) (s : St) => ∃ k fuel down firm soft bad Not, s = mkSt k fuel down firm soft bad Not ∧ m = calls.length - k ∧ k ≤ calls.length ∧ Inv n k fuel down firm soft bad Not) ?_ calls.length _
      ⟨0, -1, false, List.replicate n Z, [], [], [], rfl, by omega, by omega, ⟨by decide, full_Z n, by simp, soft_nil n, by simp, by simp, fun j => by simp [getB]⟩⟩
    rintro m s ⟨k, fuel, down, firm, soft, bad, Not, rfl, rfl, hk, hi⟩
    by_cases hd : k < calls.length
    · left
      obtain ⟨hN, hP⟩ := hx calls[k] (List.getElem_mem hd)
      have hsl := hi.sl
      have hnl := hi.nl
      have hso : Soft firm.length soft := by rw [hi.len]; exact hi.so
      have hl : firm.length ≤ 8192 := by rw [hi.len]; omega
      have hin : Inv n (k + 1) fuel down firm soft bad Not := ⟨hi.fuel, hi.full, hi.len, hi.so, by omega, by omega, hi.bad⟩
      have hcall : ixL calls (k : Int) = calls[k] := ixL_nat hd
      generalize calls[k] = c at hN hP hcall
      by_cases k0 : c.Kind = 0
      · obtain ⟨e, fuel', down', soft', e1, e2, hi'⟩ := write_rel hi c.I c.Data
        refine ⟨mkSt (k + 1) fuel' down' firm soft' bad Not, calls.length - (k + 1), ?_, by omega, k + 1, fuel', down', firm, soft', bad, Not, rfl, rfl, by omega, hi'⟩
        show cond (decide ((k : Int) < ((calls.length : Nat) : Int))) (cond _ (Option.bind _ _) _) _ = _
        rw [cpos (by omega), cand (by omega) (by omega), hcall]
        rw [ceq k0, Write_eq _ _ _ _ _ _ hi.fuel (by omega), e1, bind_some']
        show (((f_rWrite _ _ _ _ _ _ _).bind _).bind _) = _
        rw [rWrite_eq _ _ _ _ _ hi.fuel (by omega) (by omega), e2, bind_some']
        show ((cond (e != e) _ _ : Option (Jt ⊕ (St ⊕ Bool))).bind _) = _
        rw [cbeq rfl, bind_some']
        show ((f_Pending _ _ _ _ _ _).bind _) = _
        rw [Pending_eq, bind_some', cbeq (by simp), wrap_i64 (by omega) (by omega)]
        rfl
      by_cases k1 : c.Kind = 1
      · obtain ⟨e, fuel', down', firm', soft', e1, e2, hi'⟩ := sync_rel hi
        refine ⟨mkSt (k + 1) fuel' down' firm' soft' bad Not, calls.length - (k + 1), ?_, by omega, k + 1, fuel', down', firm', soft', bad, Not, rfl, rfl, by omega, hi'⟩
        show cond (decide ((k : Int) < ((calls.length : Nat) : Int))) (cond _ (Option.bind _ _) _) _ = _
        rw [cpos (by omega), cand (by omega) (by omega), hcall]
        rw [cne k0, ceq k1, Sync_eq _ _ _ _ _ _ hi.fuel (by omega) fun w hw => ⟨(hso w hw).1, (hso w hw).2.1⟩, e1, bind_some']
        show (((f_rSync _ _ _ _ _).bind _).bind _) = _
        rw [rSync_eq _ _ _ _ _ hi.fuel (by omega) hso, e1, bind_some']
        show ((cond (e != e) _ _ : Option (Jt ⊕ (St ⊕ Bool))).bind _) = _
        rw [cbeq rfl, bind_some', e2]
        show ((f_Pending _ _ _ _ _ _).bind _) = _
        rw [Pending_eq, bind_some', cbeq (by simp), wrap_i64 (by omega) (by omega)]
        rfl
      by_cases k2 : c.Kind = 2
      · have hi' : Inv n (k + 1) fuel down firm soft (putB bad c.I (decide (c.N > 0))) (notF Not c.I (decide (c.N > 0))) := ⟨hi.fuel, hi.full, hi.len, hi.so, by omega, Nat.le_trans notF_length (by omega), fun j => by
          rw [getB_putB, notF_mem]; split
          · exact Iff.rfl
          · exact hi.bad j⟩
        refine ⟨mkSt (k + 1) fuel down firm soft (putB bad c.I (decide (c.N > 0))) (notF Not c.I (decide (c.N > 0))), calls.length - (k + 1), ?_, by omega, k + 1, fuel, down, firm, soft, putB bad c.I (decide (c.N > 0)), notF Not c.I (decide (c.N > 0)), rfl, rfl, by omega, hi'⟩
        show cond (decide ((k : Int) < ((calls.length : Nat) : Int))) (cond _ (Option.bind _ _) _) _ = _
        rw [cpos (by omega), cand (by omega) (by omega), hcall]
        rw [cne k0, cne k1, ceq k2, Bad_eq, bind_some']
        show (((f_rBad _ _ _ _ _ _ _).bind _).bind _) = _
        rw [rBad_eq _ _ _ _ _ (by omega), bind_some', bind_some']
        show ((f_Pending _ _ _ _ _ _).bind _) = _
        rw [Pending_eq, bind_some', cbeq (by simp), wrap_i64 (by omega) (by omega)]
        rfl
      by_cases k3 : c.Kind = 3
      · have hi' : Inv n (k + 1) (max0 c.N) down firm soft bad Not := ⟨max0_bd hN.2, hi.full, hi.len, hi.so, by omega, by omega, hi.bad⟩
        refine ⟨mkSt (k + 1) (max0 c.N) down firm soft bad Not, calls.length - (k + 1), ?_, by omega, k + 1, max0 c.N, down, firm, soft, bad, Not, rfl, rfl, by omega, hi'⟩
        show cond (decide ((k : Int) < ((calls.length : Nat) : Int))) (cond _ (Option.bind _ _) _) _ = _
        rw [cpos (by omega), cand (by omega) (by omega), hcall]
        rw [cne k0, cne k1, cne k2, ceq k3]
        show (((f_Fuel _ _ _ _ _ _ _).bind _).bind _) = _
        unfold f_Fuel
        rw [bind_some', bind_some']
        show ((f_Pending _ _ _ _ _ _).bind _) = _
        rw [Pending_eq, bind_some', cbeq (by simp), wrap_i64 (by omega) (by omega)]
        rfl
      by_cases k4 : c.Kind = 4
      · obtain ⟨hf', hl'⟩ := crashL_ok soft c.Picks firm hi.full hso
        have hi' : Inv n (k + 1) (-1) false (crashL firm soft c.Picks) [] [] [] := ⟨by decide, hf', hl'.trans hi.len, soft_nil _, by simp, by simp, fun j => by simp [getB]⟩
        have es : syncF firm soft fuel true = (10, fuel, true, firm, soft) := by unfold syncF; rfl
        refine ⟨mkSt (k + 1) (-1) false (crashL firm soft c.Picks) [] [] [], calls.length - (k + 1), ?_, by omega, k + 1, -1, false, crashL firm soft c.Picks, [], [], [], rfl, rfl, by omega, hi'⟩
        show cond (decide ((k : Int) < ((calls.length : Nat) : Int))) (cond _ (Option.bind _ _) _) _ = _
        rw [cpos (by omega), cand (by omega) (by omega), hcall]
        rw [cne k0, cne k1, cne k2, cne k3, ceq k4, Crash_eq _ _ _ _ _ _ _ hP hi.full hso hl, bind_some']
        show (((f_rCrash _ _ _ _ _ _).bind _).bind _) = _
        rw [rCrash_eq _ _ _ _ _ _ hP hi.full hso hl (by omega), bind_some', Sync_eq _ _ _ _ _ _ hi.fuel (by omega) fun w hw => ⟨(hso w hw).1, (hso w hw).2.1⟩, es, bind_some']
        show ((cond ((10 : Int) != 10) _ _ : Option (Jt ⊕ (St ⊕ Bool))).bind _) = _
        rw [cbeq rfl, padded_eq, bind_some', Write_eq _ _ _ _ _ _ hi.fuel (by omega), bind_some']
        have ew : ∀ d, writeF (setAll firm soft) soft bad fuel true 0 d = (10, fuel, true, setAll firm soft, soft) := fun d => by unfold writeF; rfl
        rw [ew]
        show ((cond ((10 : Int) != 10) _ _ : Option (Jt ⊕ (St ⊕ Bool))).bind _) = _
        rw [cbeq rfl, bind_some']
        show ((f_Pending _ _ _ _ _ _).bind _) = _
        rw [Pending_eq, bind_some', cbeq (by simp), wrap_i64 (by omega) (by omega)]
        rfl
      · -- Read
        refine ⟨mkSt (k + 1) fuel down firm soft bad Not, calls.length - (k + 1), ?_, by omega, k + 1, fuel, down, firm, soft, bad, Not, rfl, rfl, by omega, hin⟩
        show cond (decide ((k : Int) < ((calls.length : Nat) : Int))) (cond _ (Option.bind _ _) _) _ = _
        rw [cpos (by omega), cand (by omega) (by omega), hcall]
        rw [cne k0, cne k1, cne k2, cne k3, cne k4, Read_eq, bind_some']
        show (((f_rRead _ _ _ _ _ _).bind _).bind _) = _
        rw [rRead_eq _ _ _ _ _ hso (by omega), bind_some']
        show ((cond (!((readF (setAll firm soft) down c.I).1.toList == (readF (setAll firm soft) down c.I).1.toList)) _ (cond ((readF (setAll firm soft) down c.I).2 != (readF (setAll firm soft) down c.I).2) _ _) : Option (Jt ⊕ (St ⊕ Bool))).bind _) = _
        rw [cfalse (by simp), cbeq rfl, bind_some']
        show ((f_Pending _ _ _ _ _ _).bind _) = _
        rw [Pending_eq, bind_some', cbeq (by simp), wrap_i64 (by omega) (by omega)]
        rfl
    · right
      show cond (decide ((k : Int) < ((calls.length : Nat) : Int))) _ _ = _
      rw [cneg (by omega)]
  · rw [New_none hn, bind_some']
    show ((f_rNew sectors).bind _) = _
    rw [rNew_none hn, bind_some']
end Go.Proofs.Ythfjmoamjncdbaa
