/-
  SaveUnseen: the law.
-/
import Derived.Test.YtcgigdfahlmfaaaGreatDoorUn
namespace Go.Proofs.YtcgigdfahlmfaaaGreatDoor
open Go.Vc
set_option linter.unusedVariables false
set_option linter.unusedSimpArgs false
theorem Un_S (q sl : Int) (hq : q = 1) (calls : List E35) (hx : ∀ x ∈ calls, okU x) : f_SaveUnseen q sl calls = some true := by
  unfold f_SaveUnseen
  rw [awake_eq, bind_some']
  show cond (decide (((calls.length : Nat) : Int) > 40)) _ _ = _
  by_cases hl : calls.length > 40
  · rw [cpos (by omega)]
  rw [cneg (by omega)]
  by_cases hsl : sl > 64
  · rw [cpos hsl]
  rw [cneg hsl]
  have hz : f_Size q = some (((64 * 512 : Nat) : Int), 0) := by subst hq; rfl
  have hB : f_BNew q (bs (ffs (64 * 512))) = some (.inr (.inr (.inr (.inr (q, ints (ffs (64 * 512))))))) := by subst hq; exact BNewS (ffs_length _)
  have hm0 : okS (ffs (64 * 512)) := ffs_length _
  rw [BNew_nil hz (by omega) (by omega), hB, bind_some']
  show Option.bind _ _ = _
  rw [bind_some']
  show Option.bind (f_disked q sl) _ = _
  by_cases hs0 : 1 ≤ sl
  · obtain ⟨s, rfl⟩ := Int.eq_ofNat_of_zero_le (show 0 ≤ sl by omega)
    rw [disked_gen hz (by omega) (by omega) (by omega) (by omega), bind_some']
    show cond true (Option.bind (f_AttachS q (ints (ffs (64 * 512))) 0 0 0 (zs 512 s) (zs 512 s) [] [] (-1) false (s : Int)) _) _ = _
    rw [ctrue rfl, AttS (by omega) (by omega) (by omega) (by omega) (by omega), bind_some']
    show loopO _ (0, 0, 0, 0, -1, false, 1, 1, 0, false, 0, ints (ffs (64 * 512)), D0 512 s, D0 512 s, [], [], ints (ffs (64 * 512))) = _
    rw [← TS0 (ffs (64 * 512)) 512 s]
    refine loopS (by omega) hx q hm0 (B0_in (by omega) (by omega) (by omega) (by omega)) (fun i hi c b B k hc h hk hx => ?_) (fun c b => ?_)
    · have hc' := (unS_in hc h (by omega) hx).1
      refine ⟨(unS (c, b) calls[i]).1, hc', (unS_in hc h (by omega) hx).2, ?_⟩
      show cond (decide ((i : Int) < ((calls.length : Nat) : Int))) (cond _ (Option.bind _ _) _) _ = _
      rw [cpos (by omega), cand (by omega) (by omega), ixL_nat hi]
      generalize calls[i] = x at hx hc' ⊢
      have hn : 0 ≤ b.ct ∧ b.ct ≤ 900000000000 := by have := h.ct; omega
      have e := cbS_fst c b x
      have q1 := (doSa hc hn q 0 0 hx.1).2
      have e3 := h.B
      subst e3
      have q2 := (doSw hc h (by omega) q hx.1).2
      have e4 : (cbS (c, b) x).2.D.B = b.D.B := (doSw hc h (by omega) q hx.1).1.2.B
      rw [← e.1, ← e.2] at q1
      refine bind_mid (a := MS (unS (c, b) x).1 (unS (c, b) x).2) ?_ ?_
      · unfold unS
        rw [k017, bind_some']
        by_cases k0 : x.Kind = 0 ∨ x.Kind = 1 ∨ x.Kind = 7
        · rw [if_pos k0, cpos k0]
          show Option.bind (f_doS0 q (ints c) 0 b.ct 0 x.Kind x.Addr x.Byte x.N x.Picks) _ = _
          rw [q1, bind_some']
          show Option.bind (f_doS1 q (ints c) b.er b.ct b.su ((64 * 512 : Nat) : Int) (s : Int) (b.J.ba : Int) (b.J.nx : Int) (b.J.ar : Int) b.J.od b.D.F b.D.S b.D.W b.D.B b.D.fu b.D.dn x.Kind x.Addr x.Byte x.N x.Picks) _ = _
          rw [q2, bind_some']
          dsimp only [oS, MS]
          rw [e4]
        rw [if_neg k0, cneg k0]
        unfold diskU
        by_cases k2 : x.Kind = 2
        · have q3 := syncSw h (by omega) q (ints c)
          rw [h.n, h.sl] at q3
          rw [if_pos k2, ceq k2]
          show Option.bind (f_BSyncS1 q (ints c) b.er b.ct b.su ((64 * 512 : Nat) : Int) (s : Int) (b.J.ba : Int) (b.J.nx : Int) (b.J.ar : Int) b.J.od b.D.F b.D.S b.D.W b.D.B b.D.fu b.D.dn) _ = _
          obtain ⟨g1, g2, g3, g4⟩ := sync_keep b
          rw [q3, bind_some']
          dsimp only [MS]
          rw [g1, g2, g3, g4]
        by_cases k4 : x.Kind = 4
        · rw [if_neg k2, if_pos k4, cne k2, ceq k4]
          rfl
        by_cases k5 : x.Kind = 5
        · rw [if_neg k2, if_neg k4, if_pos k5, cne k2, cne k4, ceq k5]
          rfl
        by_cases k6 : x.Kind = 6
        · rw [if_neg k2, if_neg k4, if_neg k5, if_pos k6, cne k2, cne k4, cne k5, ceq k6]
          have hcr := Crash_eq b.D.F b.D.S b.D.W b.D.B b.D.fu b.D.dn x.Picks hx.2.2 h.D.full (by rw [h.D.len]; exact h.D.soft) (by have := h.D.len; omega)
          show Option.bind (f_Crash b.D.F b.D.S b.D.W b.D.B b.D.fu b.D.dn x.Picks) _ = _
          rw [hcr, bind_some']
          rfl
        · rw [if_neg k2, if_neg k4, if_neg k5, if_neg k6, cne k2, cne k4, cne k5, cne k6]
      · generalize (unS (c, b) x).2 = b', (unS (c, b) x).1 = c' at hc' ⊢
        show Option.bind (f_BReadS q (ints c') 0 b'.ct 0 x.Addr) _ = _
        rw [readS_eq hc' _ _ _ _ hx.1.1.1 hx.1.1.2, bind_some', readS_eq hc' _ _ _ _ hx.1.1.1 hx.1.1.2, bind_some', cbeq rfl]
        unfold f_BBitS
        rw [EReadN_eq, bind_some', bind_some', bind_some', up_wrap hi (by omega)]
    · show cond (decide (((calls.length : Nat) : Int) < ((calls.length : Nat) : Int))) _ _ = _
      rw [cneg (by omega)]
      unfold f_BCountS
      rw [bind_some']
      show Option.bind (some (b.ct, b.su)) _ = _
      rw [bind_some']
      dsimp only
      rw [ceq rfl, imgS, bind_some', imgS, bind_some', beqBS]
  · rw [disked_no hz (by omega) (.inr (by omega)) (by omega), bind_some']
    show loopO _ (0, 0, 0, ints (ffs (64 * 512)), ints (ffs (64 * 512))) = _
    refine loopO_inv (fun (d : Nat) (st : _) => ∃ (i : Nat) (c : List UInt8) (n : Int), st = ((i : Int), n, n, ints c, ints c) ∧ d = calls.length - i ∧ i ≤ calls.length ∧ okS c ∧ 0 ≤ n ∧ n ≤ i * 16) ?_ calls.length _ ⟨0, (ffs (64 * 512)), 0, rfl, rfl, by omega, hm0, by omega, by omega⟩
    rintro d st ⟨i, c, n, rfl, rfl, hi0, hc, hn0, hn1⟩
    by_cases hi : i < calls.length
    · left
      have hx := hx _ (List.getElem_mem hi)
      have hn : 0 ≤ n ∧ n ≤ 900000000000 := by omega
      have hlen := callS_len c calls[i]
      have q1 := (doSa hc hn q 0 0 hx.1).2
      have hc1 : okS (callS c calls[i]).1 := (doSa hc hn q 0 0 hx.1).1
      have hp : ∃ (c' : List UInt8) (n' : Int), okS c' ∧ (0 ≤ n' ∧ n' ≤ n + 16) ∧ (if calls[i].Kind = 0 ∨ calls[i].Kind = 1 ∨ calls[i].Kind = 7 then c' = (callS c calls[i]).1 ∧ n' = n + ((callS c calls[i]).2.length : Int) else c' = c ∧ n' = n) := by
        split
        · exact ⟨_, _, hc1, by omega, rfl, rfl⟩
        · exact ⟨_, _, hc, by omega, rfl, rfl⟩
      obtain ⟨c', n', hc', hn', hif⟩ := hp
      refine ⟨(((i + 1 : Nat) : Int), n', n', ints c', ints c'), calls.length - (i + 1), ?_, by omega, i + 1, c', n', rfl, rfl, by omega, hc', hn'.1, by omega⟩
      show cond (decide ((i : Int) < ((calls.length : Nat) : Int))) (cond _ (Option.bind _ _) _) _ = _
      rw [cpos (by omega), cand (by omega) (by omega), ixL_nat hi]
      generalize calls[i] = x at hx hlen q1 hc1 hif ⊢
      refine bind_mid (a := (n', n', ints c', ints c')) ?_ ?_
      · rw [k017, bind_some']
        by_cases k0 : x.Kind = 0 ∨ x.Kind = 1 ∨ x.Kind = 7
        · rw [if_pos k0] at hif
          obtain ⟨rfl, rfl⟩ := hif
          rw [cpos k0]
          show Option.bind (f_doS0 q (ints c) 0 n 0 x.Kind x.Addr x.Byte x.N x.Picks) _ = _
          rw [q1, bind_some']
          rfl
        rw [if_neg k0] at hif
        obtain ⟨rfl, rfl⟩ := hif
        rw [cneg k0]
        by_cases k2 : x.Kind = 2
        · rw [ceq k2]; rfl
        by_cases k4 : x.Kind = 4
        · rw [cne k2, ceq k4]; rfl
        by_cases k5 : x.Kind = 5
        · rw [cne k2, cne k4, ceq k5]; rfl
        by_cases k6 : x.Kind = 6
        · rw [cne k2, cne k4, cne k5, ceq k6]; rfl
        · rw [cne k2, cne k4, cne k5, cne k6]
      · skip
        show Option.bind (f_BReadS q (ints c') 0 n' 0 x.Addr) _ = _
        rw [readS_eq hc' _ _ _ _ hx.1.1.1 hx.1.1.2, bind_some', bind_some', cbeq rfl]
        unfold f_BBitS
        rw [EReadN_eq, bind_some', bind_some', up_wrap hi (by omega)]
        rfl
    · right
      have : i = calls.length := by omega
      subst this
      show cond (decide (((calls.length : Nat) : Int) < ((calls.length : Nat) : Int))) _ _ = _
      rw [cneg (by omega)]
      unfold f_BCountS
      rw [bind_some']
      dsimp only
      rw [bind_some']
      dsimp only
      rw [ceq rfl, imgS, bind_some', bind_some', beqBS]
theorem Un_F (q sl : Int) (hq : q = 2 ∨ q = 3) (calls : List E35) (hx : ∀ x ∈ calls, okU x) : f_SaveUnseen q sl calls = some true := by
  unfold f_SaveUnseen
  rw [awake_eq, bind_some']
  show cond (decide (((calls.length : Nat) : Int) > 40)) _ _ = _
  by_cases hl : calls.length > 40
  · rw [cpos (by omega)]
  rw [cneg (by omega)]
  by_cases hsl : sl > 64
  · rw [cpos hsl]
  rw [cneg hsl]
  obtain ⟨nn, hz, hnn⟩ : ∃ nn : Nat, f_Size q = some (((64 * nn : Nat) : Int), 0) ∧ (q = 2 ∧ 64 * nn = 65536 ∨ q = 3 ∧ 64 * nn = 131072) := by
    rcases hq with rfl | rfl
    · exact ⟨1024, rfl, .inl ⟨rfl, rfl⟩⟩
    · exact ⟨2048, rfl, .inr ⟨rfl, rfl⟩⟩
  have hB : f_BNew q (bs (ffs (64 * nn))) = some (.inr (.inr (.inr (.inl (q, bs (ffs (64 * nn))))))) := BNewF (by rw [ffs_length]; exact hnn)
  have hm0 : Fl.Ok ⟨ffs (64 * nn), 0, false, 0⟩ := ⟨by show (ffs _).length = _ ∨ (ffs _).length = _; rw [ffs_length]; omega, .inl rfl, by show (0 : Int) ≤ 0 ∧ (0 : Int) ≤ 7; omega⟩
  rw [BNew_nil hz (by omega) (by omega), hB, bind_some']
  show Option.bind _ _ = _
  rw [bind_some']
  show Option.bind (f_disked q sl) _ = _
  by_cases hs0 : 1 ≤ sl
  · obtain ⟨s, rfl⟩ := Int.eq_ofNat_of_zero_le (show 0 ≤ sl by omega)
    rw [disked_gen hz (by omega) (by omega) (by omega) (by omega), bind_some']
    show cond true (Option.bind (f_AttachF q 0 0 0 (bs (ffs (64 * nn))) 0 false 0 (zs nn s) (zs nn s) [] [] (-1) false (s : Int)) _) _ = _
    rw [ctrue rfl, AttF (by omega) (by omega) (by omega) (by omega) (by omega), bind_some']
    show loopO _ (0, 0, 0, 0, bs (ffs (64 * nn)), 0, false, 0, -1, false, 1, 1, 0, false, 0, bs (ffs (64 * nn)), 0, false, 0, D0 nn s, D0 nn s, [], []) = _
    rw [← TF0 ⟨ffs (64 * nn), 0, false, 0⟩ nn s]
    refine loopF (by omega) hx q hm0 (B0_in (by omega) (by omega) (by omega) (by omega)) (fun i hi c b B k hc h hk hx => ?_) (fun c b => ?_)
    · have hc' := (unF_in hc h (by omega) hx).1
      refine ⟨(unF (c, b) calls[i]).1, hc', (unF_in hc h (by omega) hx).2, ?_⟩
      show cond (decide ((i : Int) < ((calls.length : Nat) : Int))) (cond _ (Option.bind _ _) _) _ = _
      rw [cpos (by omega), cand (by omega) (by omega), ixL_nat hi]
      generalize calls[i] = x at hx hc' ⊢
      have hn : 0 ≤ b.ct ∧ b.ct ≤ 900000000000 := by have := h.ct; omega
      have e := cbF_fst c b x
      have q1 := (doFa hc hn q 0 0 hx.1).2
      have e3 := h.B
      subst e3
      have q2 := (doFw hc h (by omega) q hx.1).2
      have e4 : (cbF (c, b) x).2.D.B = b.D.B := (doFw hc h (by omega) q hx.1).1.2.B
      rw [← e.1, ← e.2] at q1
      refine bind_mid (a := MF (unF (c, b) x).1 (unF (c, b) x).2) ?_ ?_
      · unfold unF
        rw [k017, bind_some']
        by_cases k0 : x.Kind = 0 ∨ x.Kind = 1 ∨ x.Kind = 7
        · rw [if_pos k0, cpos k0]
          show Option.bind (f_doF0 q 0 b.ct 0 (bs c.mem) c.state c.id c.bank x.Kind x.Addr x.Byte x.N x.Picks) _ = _
          rw [q1, bind_some']
          show Option.bind (f_doF1 q b.er b.ct b.su (bs c.mem) c.state c.id c.bank ((64 * nn : Nat) : Int) (s : Int) (b.J.ba : Int) (b.J.nx : Int) (b.J.ar : Int) b.J.od b.D.F b.D.S b.D.W b.D.B b.D.fu b.D.dn x.Kind x.Addr x.Byte x.N x.Picks) _ = _
          rw [q2, bind_some']
          dsimp only [oF, MF]
          rw [e4]
        rw [if_neg k0, cneg k0]
        unfold diskU
        by_cases k2 : x.Kind = 2
        · have q3 := syncFw h (by omega) q (bs c.mem) c.state c.id c.bank
          rw [h.n, h.sl] at q3
          rw [if_pos k2, ceq k2]
          show Option.bind (f_BSyncF1 q b.er b.ct b.su (bs c.mem) c.state c.id c.bank ((64 * nn : Nat) : Int) (s : Int) (b.J.ba : Int) (b.J.nx : Int) (b.J.ar : Int) b.J.od b.D.F b.D.S b.D.W b.D.B b.D.fu b.D.dn) _ = _
          obtain ⟨g1, g2, g3, g4⟩ := sync_keep b
          rw [q3, bind_some']
          dsimp only [MF]
          rw [g1, g2, g3, g4]
        by_cases k4 : x.Kind = 4
        · rw [if_neg k2, if_pos k4, cne k2, ceq k4]
          rfl
        by_cases k5 : x.Kind = 5
        · rw [if_neg k2, if_neg k4, if_pos k5, cne k2, cne k4, ceq k5]
          rfl
        by_cases k6 : x.Kind = 6
        · rw [if_neg k2, if_neg k4, if_neg k5, if_pos k6, cne k2, cne k4, cne k5, ceq k6]
          have hcr := Crash_eq b.D.F b.D.S b.D.W b.D.B b.D.fu b.D.dn x.Picks hx.2.2 h.D.full (by rw [h.D.len]; exact h.D.soft) (by have := h.D.len; omega)
          show Option.bind (f_Crash b.D.F b.D.S b.D.W b.D.B b.D.fu b.D.dn x.Picks) _ = _
          rw [hcr, bind_some']
          rfl
        · rw [if_neg k2, if_neg k4, if_neg k5, if_neg k6, cne k2, cne k4, cne k5, cne k6]
      · generalize (unF (c, b) x).2 = b', (unF (c, b) x).1 = c' at hc' ⊢
        show Option.bind (f_BReadF q 0 b'.ct 0 (bs c'.mem) c'.state c'.id c'.bank x.Addr) _ = _
        rw [readF_eq hc' _ _ _ _ hx.1.1.1 hx.1.1.2, bind_some', readF_eq hc' _ _ _ _ hx.1.1.1 hx.1.1.2, bind_some', cbeq rfl]
        unfold f_BBitF
        rw [EReadN_eq, bind_some', bind_some', bind_some', up_wrap hi (by omega)]
    · show cond (decide (((calls.length : Nat) : Int) < ((calls.length : Nat) : Int))) _ _ = _
      rw [cneg (by omega)]
      unfold f_BCountN
      rw [bind_some']
      show Option.bind (some (b.ct, b.su)) _ = _
      rw [bind_some']
      dsimp only
      unfold f_BImageF f_FImage
      rw [ceq rfl, bind_some', bind_some', bind_some', beqBS]
  · rw [disked_no hz (by omega) (.inr (by omega)) (by omega), bind_some']
    show loopO _ (0, 0, bs (ffs (64 * nn)), 0, false, 0, 0, bs (ffs (64 * nn)), 0, false, 0) = _
    refine loopO_inv (fun (d : Nat) (st : _) => ∃ (i : Nat) (c : Fl.Chip) (n : Int), st = ((i : Int), n, bs c.mem, c.state, c.id, c.bank, n, bs c.mem, c.state, c.id, c.bank) ∧ d = calls.length - i ∧ i ≤ calls.length ∧ Fl.Ok c ∧ 0 ≤ n ∧ n ≤ i * 16) ?_ calls.length _ ⟨0, ⟨ffs (64 * nn), 0, false, 0⟩, 0, rfl, rfl, by omega, hm0, by omega, by omega⟩
    rintro d st ⟨i, c, n, rfl, rfl, hi0, hc, hn0, hn1⟩
    by_cases hi : i < calls.length
    · left
      have hx := hx _ (List.getElem_mem hi)
      have hn : 0 ≤ n ∧ n ≤ 900000000000 := by omega
      have hlen := callF_len c calls[i]
      have q1 := (doFa hc hn q 0 0 hx.1).2
      have hc1 : Fl.Ok (callF c calls[i]).1 := (doFa hc hn q 0 0 hx.1).1
      have hp : ∃ (c' : Fl.Chip) (n' : Int), Fl.Ok c' ∧ (0 ≤ n' ∧ n' ≤ n + 16) ∧ (if calls[i].Kind = 0 ∨ calls[i].Kind = 1 ∨ calls[i].Kind = 7 then c' = (callF c calls[i]).1 ∧ n' = n + ((callF c calls[i]).2.length : Int) else c' = c ∧ n' = n) := by
        split
        · exact ⟨_, _, hc1, by omega, rfl, rfl⟩
        · exact ⟨_, _, hc, by omega, rfl, rfl⟩
      obtain ⟨c', n', hc', hn', hif⟩ := hp
      refine ⟨(((i + 1 : Nat) : Int), n', bs c'.mem, c'.state, c'.id, c'.bank, n', bs c'.mem, c'.state, c'.id, c'.bank), calls.length - (i + 1), ?_, by omega, i + 1, c', n', rfl, rfl, by omega, hc', hn'.1, by omega⟩
      show cond (decide ((i : Int) < ((calls.length : Nat) : Int))) (cond _ (Option.bind _ _) _) _ = _
      rw [cpos (by omega), cand (by omega) (by omega), ixL_nat hi]
      generalize calls[i] = x at hx hlen q1 hc1 hif ⊢
      refine bind_mid (a := (n', bs c'.mem, c'.state, c'.id, c'.bank, n', bs c'.mem, c'.state, c'.id, c'.bank)) ?_ ?_
      · rw [k017, bind_some']
        by_cases k0 : x.Kind = 0 ∨ x.Kind = 1 ∨ x.Kind = 7
        · rw [if_pos k0] at hif
          obtain ⟨rfl, rfl⟩ := hif
          rw [cpos k0]
          show Option.bind (f_doF0 q 0 n 0 (bs c.mem) c.state c.id c.bank x.Kind x.Addr x.Byte x.N x.Picks) _ = _
          rw [q1, bind_some']
          rfl
        rw [if_neg k0] at hif
        obtain ⟨rfl, rfl⟩ := hif
        rw [cneg k0]
        by_cases k2 : x.Kind = 2
        · rw [ceq k2]; rfl
        by_cases k4 : x.Kind = 4
        · rw [cne k2, ceq k4]; rfl
        by_cases k5 : x.Kind = 5
        · rw [cne k2, cne k4, ceq k5]; rfl
        by_cases k6 : x.Kind = 6
        · rw [cne k2, cne k4, cne k5, ceq k6]; rfl
        · rw [cne k2, cne k4, cne k5, cne k6]
      · skip
        show Option.bind (f_BReadF q 0 n' 0 (bs c'.mem) c'.state c'.id c'.bank x.Addr) _ = _
        rw [readF_eq hc' _ _ _ _ hx.1.1.1 hx.1.1.2, bind_some', bind_some', cbeq rfl]
        unfold f_BBitF
        rw [EReadN_eq, bind_some', bind_some', up_wrap hi (by omega)]
        rfl
    · right
      have : i = calls.length := by omega
      subst this
      show cond (decide (((calls.length : Nat) : Int) < ((calls.length : Nat) : Int))) _ _ = _
      rw [cneg (by omega)]
      unfold f_BCountN
      rw [bind_some']
      dsimp only
      rw [bind_some']
      dsimp only
      unfold f_BImageF f_FImage
      rw [ceq rfl, bind_some', bind_some', bind_some', beqBS]
theorem Un_E (q sl : Int) (hq : q = 4 ∨ q = 5) (calls : List E35) (hx : ∀ x ∈ calls, okU x) : f_SaveUnseen q sl calls = some true := by
  unfold f_SaveUnseen
  rw [awake_eq, bind_some']
  show cond (decide (((calls.length : Nat) : Int) > 40)) _ _ = _
  by_cases hl : calls.length > 40
  · rw [cpos (by omega)]
  rw [cneg (by omega)]
  by_cases hsl : sl > 64
  · rw [cpos hsl]
  rw [cneg hsl]
  obtain ⟨nn, w, hz, hnn⟩ : ∃ (nn : Nat) (w : Int), f_Size q = some (((64 * nn : Nat) : Int), 0) ∧ (q = 4 ∧ 64 * nn = 512 ∧ w = 6 ∨ q = 5 ∧ 64 * nn = 8192 ∧ w = 14) := by
    rcases hq with rfl | rfl
    · exact ⟨8, 6, rfl, .inl ⟨rfl, rfl, rfl⟩⟩
    · exact ⟨128, 14, rfl, .inr ⟨rfl, rfl, rfl⟩⟩
  have hB : f_BNew q (bs (ffs (64 * nn))) = some (.inr (.inr (.inl (q, bs (ffs (64 * nn)), w)))) := BNewE (by rw [ffs_length]; exact hnn)
  have hm0 : InvE w ⟨ffs (64 * nn), [], [], w⟩ := ⟨⟨⟨⟨by show (ffs (64 * nn)).length = 512 ∧ w = 6 ∨ (ffs (64 * nn)).length = 8192 ∧ w = 14; rw [ffs_length]; omega⟩, bits_nil, by show ((0 : Nat) : Int) < 67 + w; omega, .inl rfl, fun hq => by
    have hq' : 3 + w ≤ ((0 : Nat) : Int) := hq
    omega⟩, rfl⟩, bits_nil, Nat.zero_le _⟩
  rw [BNew_nil hz (by omega) (by omega), hB, bind_some']
  show Option.bind _ _ = _
  rw [bind_some']
  show Option.bind (f_disked q sl) _ = _
  by_cases hs0 : 1 ≤ sl
  · obtain ⟨s, rfl⟩ := Int.eq_ofNat_of_zero_le (show 0 ≤ sl by omega)
    rw [disked_gen hz (by omega) (by omega) (by omega) (by omega), bind_some']
    show cond true (Option.bind (f_AttachE q 0 0 0 (bs (ffs (64 * nn))) [] [] w (zs nn s) (zs nn s) [] [] (-1) false (s : Int)) _) _ = _
    rw [ctrue rfl, AttE (by omega) (by omega) (by omega) (by omega) (by omega), bind_some']
    show loopO _ (0, 0, 0, 0, bs (ffs (64 * nn)), -1, false, 1, 1, 0, false, 0, bs (ffs (64 * nn)), [], [], D0 nn s, D0 nn s, [], [], [], []) = _
    rw [← TE0 ⟨ffs (64 * nn), [], [], w⟩ nn s]
    refine loopE (by omega) hx q hm0 (B0_in (by omega) (by omega) (by omega) (by omega)) (fun i hi c b B k hc h hk hx => ?_) (fun c b => ?_)
    · have hc' := (unE_in hc h (by omega) hx).1
      refine ⟨(popE (unE (c, b) calls[i]).1), (popE_in hc'), (unE_in hc h (by omega) hx).2, ?_⟩
      show cond (decide ((i : Int) < ((calls.length : Nat) : Int))) (cond _ (Option.bind _ _) _) _ = _
      rw [cpos (by omega), cand (by omega) (by omega), ixL_nat hi]
      generalize calls[i] = x at hx hc' ⊢
      have hn : 0 ≤ b.ct ∧ b.ct ≤ 900000000000 := by have := h.ct; omega
      have e := cbE_fst c b x
      have q1 := (doEa hc.1.1 hc.1.2 hn q 0 0 x).2
      have e3 := h.B
      subst e3
      have q2 := (doEw hc.1.1 hc.1.2 h (by omega) q x).2
      have e4 : (cbE (c, b) x).2.D.B = b.D.B := (doEw hc.1.1 hc.1.2 h (by omega) q x).1.2.B
      rw [← e.1, ← e.2] at q1
      refine bind_mid (a := ME (unE (c, b) x).1 (unE (c, b) x).2) ?_ ?_
      · unfold unE
        rw [k017, bind_some']
        by_cases k0 : x.Kind = 0 ∨ x.Kind = 1 ∨ x.Kind = 7
        · rw [if_pos k0, cpos k0]
          show Option.bind (f_doE0 q 0 b.ct 0 (bs c.mem) c.inn c.out w x.Kind x.Addr x.Byte x.N x.Picks) _ = _
          rw [q1, bind_some']
          show Option.bind (f_doE1 q b.er b.ct b.su (bs c.mem) c.inn c.out w ((64 * nn : Nat) : Int) (s : Int) (b.J.ba : Int) (b.J.nx : Int) (b.J.ar : Int) b.J.od b.D.F b.D.S b.D.W b.D.B b.D.fu b.D.dn x.Kind x.Addr x.Byte x.N x.Picks) _ = _
          rw [q2, bind_some']
          dsimp only [oE, ME]
          rw [e4]
        rw [if_neg k0, cneg k0]
        unfold diskU
        by_cases k2 : x.Kind = 2
        · have q3 := syncEw h (by omega) q (bs c.mem) c.inn c.out w
          rw [h.n, h.sl] at q3
          rw [if_pos k2, ceq k2]
          show Option.bind (f_BSyncE1 q b.er b.ct b.su (bs c.mem) c.inn c.out w ((64 * nn : Nat) : Int) (s : Int) (b.J.ba : Int) (b.J.nx : Int) (b.J.ar : Int) b.J.od b.D.F b.D.S b.D.W b.D.B b.D.fu b.D.dn) _ = _
          obtain ⟨g1, g2, g3, g4⟩ := sync_keep b
          rw [q3, bind_some']
          dsimp only [ME]
          rw [g1, g2, g3, g4]
        by_cases k4 : x.Kind = 4
        · rw [if_neg k2, if_pos k4, cne k2, ceq k4]
          rfl
        by_cases k5 : x.Kind = 5
        · rw [if_neg k2, if_neg k4, if_pos k5, cne k2, cne k4, ceq k5]
          rfl
        by_cases k6 : x.Kind = 6
        · rw [if_neg k2, if_neg k4, if_neg k5, if_pos k6, cne k2, cne k4, cne k5, ceq k6]
          have hcr := Crash_eq b.D.F b.D.S b.D.W b.D.B b.D.fu b.D.dn x.Picks hx.2.2 h.D.full (by rw [h.D.len]; exact h.D.soft) (by have := h.D.len; omega)
          show Option.bind (f_Crash b.D.F b.D.S b.D.W b.D.B b.D.fu b.D.dn x.Picks) _ = _
          rw [hcr, bind_some']
          rfl
        · rw [if_neg k2, if_neg k4, if_neg k5, if_neg k6, cne k2, cne k4, cne k5, cne k6]
      · generalize (unE (c, b) x).2 = b', (unE (c, b) x).1 = c' at hc' ⊢
        show Option.bind (f_BReadE q 0 b'.ct 0 (bs c'.mem) c'.inn c'.out w x.Addr) _ = _
        unfold f_BReadE
        rw [bind_some', bind_some']
        show Option.bind (f_BBitE q 0 b'.ct 0 (bs c'.mem) c'.inn c'.out w) _ = _
        rw [bitE_eq hc', bind_some']
        show Option.bind (f_BBitE q b'.er b'.ct b'.su (bs c'.mem) c'.inn c'.out w) _ = _
        rw [bitE_eq hc', bind_some']
        dsimp only
        rw [cbeq rfl, up_wrap hi (by omega)]
        rfl
    · show cond (decide (((calls.length : Nat) : Int) < ((calls.length : Nat) : Int))) _ _ = _
      rw [cneg (by omega)]
      unfold f_BCountN
      rw [bind_some']
      show Option.bind (some (b.ct, b.su)) _ = _
      rw [bind_some']
      dsimp only
      unfold f_BImageE f_EImage
      rw [ceq rfl, bind_some', bind_some', bind_some', beqBS]
  · rw [disked_no hz (by omega) (.inr (by omega)) (by omega), bind_some']
    show loopO _ (0, 0, bs (ffs (64 * nn)), 0, bs (ffs (64 * nn)), [], [], [], []) = _
    refine loopO_inv (fun (d : Nat) (st : _) => ∃ (i : Nat) (c : Chip) (n : Int), st = ((i : Int), n, bs c.mem, n, bs c.mem, c.inn, c.out, c.inn, c.out) ∧ d = calls.length - i ∧ i ≤ calls.length ∧ InvE w c ∧ 0 ≤ n ∧ n ≤ i * 16) ?_ calls.length _ ⟨0, ⟨ffs (64 * nn), [], [], w⟩, 0, rfl, rfl, by omega, hm0, by omega, by omega⟩
    rintro d st ⟨i, c, n, rfl, rfl, hi0, hc, hn0, hn1⟩
    by_cases hi : i < calls.length
    · left
      have hx := hx _ (List.getElem_mem hi)
      have hn : 0 ≤ n ∧ n ≤ 900000000000 := by omega
      have hlen := callE_len c calls[i]
      have q1 := (doEa hc.1.1 hc.1.2 hn q 0 0 calls[i]).2
      have hc1 : InvE w (callE c calls[i]).1 := callE_out hc calls[i]
      have hp : ∃ (c' : Chip) (n' : Int), InvE w c' ∧ (0 ≤ n' ∧ n' ≤ n + 16) ∧ (if calls[i].Kind = 0 ∨ calls[i].Kind = 1 ∨ calls[i].Kind = 7 then c' = (callE c calls[i]).1 ∧ n' = n + ((callE c calls[i]).2.length : Int) else c' = c ∧ n' = n) := by
        split
        · exact ⟨_, _, hc1, by omega, rfl, rfl⟩
        · exact ⟨_, _, hc, by omega, rfl, rfl⟩
      obtain ⟨c', n', hc', hn', hif⟩ := hp
      refine ⟨(((i + 1 : Nat) : Int), n', bs c'.mem, n', bs c'.mem, c'.inn, (popE c').out, c'.inn, (popE c').out), calls.length - (i + 1), ?_, by omega, i + 1, popE c', n', rfl, rfl, by omega, (popE_in hc'), hn'.1, by omega⟩
      show cond (decide ((i : Int) < ((calls.length : Nat) : Int))) (cond _ (Option.bind _ _) _) _ = _
      rw [cpos (by omega), cand (by omega) (by omega), ixL_nat hi]
      generalize calls[i] = x at hx hlen q1 hc1 hif ⊢
      refine bind_mid (a := (n', bs c'.mem, n', bs c'.mem, c'.inn, c'.out, c'.inn, c'.out)) ?_ ?_
      · rw [k017, bind_some']
        by_cases k0 : x.Kind = 0 ∨ x.Kind = 1 ∨ x.Kind = 7
        · rw [if_pos k0] at hif
          obtain ⟨rfl, rfl⟩ := hif
          rw [cpos k0]
          show Option.bind (f_doE0 q 0 n 0 (bs c.mem) c.inn c.out w x.Kind x.Addr x.Byte x.N x.Picks) _ = _
          rw [q1, bind_some']
          rfl
        rw [if_neg k0] at hif
        obtain ⟨rfl, rfl⟩ := hif
        rw [cneg k0]
        by_cases k2 : x.Kind = 2
        · rw [ceq k2]; rfl
        by_cases k4 : x.Kind = 4
        · rw [cne k2, ceq k4]; rfl
        by_cases k5 : x.Kind = 5
        · rw [cne k2, cne k4, ceq k5]; rfl
        by_cases k6 : x.Kind = 6
        · rw [cne k2, cne k4, cne k5, ceq k6]; rfl
        · rw [cne k2, cne k4, cne k5, cne k6]
      · skip
        show Option.bind (f_BReadE q 0 n' 0 (bs c'.mem) c'.inn c'.out w x.Addr) _ = _
        unfold f_BReadE
        rw [bind_some', bind_some']
        show Option.bind (f_BBitE q 0 n' 0 (bs c'.mem) c'.inn c'.out w) _ = _
        rw [bitE_eq hc', bind_some']
        dsimp only
        rw [bind_some']
        dsimp only
        rw [cbeq rfl, up_wrap hi (by omega)]
    · right
      have : i = calls.length := by omega
      subst this
      show cond (decide (((calls.length : Nat) : Int) < ((calls.length : Nat) : Int))) _ _ = _
      rw [cneg (by omega)]
      unfold f_BCountN
      rw [bind_some']
      dsimp only
      rw [bind_some']
      dsimp only
      unfold f_BImageE f_EImage
      rw [ceq rfl, bind_some', bind_some', bind_some', beqBS]
theorem Un_Z (q sl : Int) (hq : q = 0) (calls : List E35) (hx : ∀ x ∈ calls, okU x) : f_SaveUnseen q sl calls = some true := by
  unfold f_SaveUnseen
  rw [awake_eq, bind_some']
  show cond (decide (((calls.length : Nat) : Int) > 40)) _ _ = _
  by_cases hl : calls.length > 40
  · rw [cpos (by omega)]
  rw [cneg (by omega)]
  by_cases hsl : sl > 64
  · rw [cpos hsl]
  rw [cneg hsl]
  subst hq
  rw [BNew_0, bind_some']
  show Option.bind _ _ = _
  rw [bind_some']
  show Option.bind (f_disked 0 sl) _ = _
  rw [disked_no (n := 0) rfl (by omega) (.inl rfl) (by omega), bind_some']
  show loopO _ 0 = _
  refine loopO_for (fun i => (i : Int)) calls.length (fun i hi => ?_) ?_
  · show cond (decide ((i : Int) < ((calls.length : Nat) : Int))) (cond _ (Option.bind _ _) _) _ = _
    rw [cpos (by omega), cand (by omega) (by omega), ixL_nat hi]
    generalize calls[i] = x
    refine bind_mid (a := ()) ?_ ?_
    · rw [k017, bind_some']
      by_cases k0 : x.Kind = 0 ∨ x.Kind = 1 ∨ x.Kind = 7
      · rw [cpos k0, doZa]; rfl
      rw [cneg k0]
      by_cases k2 : x.Kind = 2
      · rw [ceq k2]; rfl
      by_cases k4 : x.Kind = 4
      · rw [cne k2, ceq k4]; rfl
      by_cases k5 : x.Kind = 5
      · rw [cne k2, cne k4, ceq k5]; rfl
      by_cases k6 : x.Kind = 6
      · rw [cne k2, cne k4, cne k5, ceq k6]; rfl
      · rw [cne k2, cne k4, cne k5, cne k6]
    · show some (Sum.inl (IntKind.wrap .i64 ((i : Int) + 1))) = _
      rw [up_wrap hi (by omega)]
  · show cond (decide (((calls.length : Nat) : Int) < ((calls.length : Nat) : Int))) _ _ = _
    rw [cneg (by omega)]
    unfold f_BCountN f_BImageZ f_EImageN
    rw [bind_some']
    dsimp only
    rw [bind_some']
    dsimp only
    rw [ceq rfl]
    repeat rw [bind_some']
    simp
theorem SaveUnseen_eq (q sl : Int) (calls : List E35) (hx : ∀ x ∈ calls, okU x) : f_SaveUnseen q sl calls = some true := by
  by_cases hk : 0 ≤ q ∧ q ≤ 5
  · rcases (show q = 0 ∨ q = 1 ∨ (q = 2 ∨ q = 3) ∨ (q = 4 ∨ q = 5) by omega) with h0 | h1 | h2 | h4
    · exact Un_Z q sl h0 calls hx
    · exact Un_S q sl h1 calls hx
    · exact Un_F q sl h2 calls hx
    · exact Un_E q sl h4 calls hx
  · unfold f_SaveUnseen
    rw [awake_eq, bind_some']
    show cond (decide (((calls.length : Nat) : Int) > 40)) _ _ = _
    by_cases hl : calls.length > 40
    · rw [cpos (by omega)]
    rw [cneg (by omega)]
    by_cases hsl : sl > 64
    · rw [cpos hsl]
    rw [cneg hsl, BNew_bad hk, bind_some']
    rfl
end Go.Proofs.YtcgigdfahlmfaaaGreatDoor
