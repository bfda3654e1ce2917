/-
  Calls on a chip whose journal's disk may give out.
-/
import Derived.Test.YtcgigdfahlmfaaaGreatDoorPj
import Derived.Test.YtcgigdfahlmfaaaGreatDoorDo
namespace Go.Proofs.YtcgigdfahlmfaaaGreatDoor
open Go.Vc
set_option linter.unusedVariables false
set_option linter.unusedSimpArgs false
structure Pk {C : Type} (mem : C → List UInt8) (ok : C → Prop) (n slots : Nat) (blank : List UInt8) (c : C) (j : Jf) (L : List E59) (t : Nat) : Prop where
  ok : ok c
  run : runE blank L = some (mem c)
  pj : Pj n slots j (mem c) (mays blank L) t
theorem Pk.mono {C : Type} {mem : C → List UInt8} {ok : C → Prop} {n slots : Nat} {blank : List UInt8} {c : C} {j : Jf} {L : List E59} {t t' : Nat} (h : Pk mem ok n slots blank c j L t) (ht : t ≤ t') : Pk mem ok n slots blank c j L t' := ⟨h.ok, h.run, h.pj.mono ht⟩
theorem Pk.next {C : Type} {mem : C → List UInt8} {ok : C → Prop} {n slots : Nat} {blank : List UInt8} {c c' : C} {j j' : Jf} {L : List E59} {t : Nat} {e : E59} (h : Pk mem ok n slots blank c j L t) (hk : ok c') (hm : mem c' = (stepE (mem c) e).1) (he : (stepE (mem c) e).2 = 0)
    (hj : Pj n slots j' (stepE (mem c) e).1 (mays blank L ++ [bs (stepE (mem c) e).1]) (t + 1)) : Pk mem ok n slots blank c' j' (L ++ [e]) (t + 1) := by
  refine ⟨hk, ?_, ?_⟩
  · rw [hm]; exact runE_snoc e L blank (mem c) h.run he
  · rw [hm, mays_snoc e L blank (mem c) h.run]; exact hj
abbrev PkS := Pk (C := List UInt8) (fun m => m) okS
abbrev PkF := Pk (C := Fl.Chip) (fun c => c.mem) Fl.Ok
abbrev PkE := Pk (C := Chip) (fun c => c.mem) Inv
def poutS (m : List UInt8) (j : Jf) : O_BWriteS1 := (j.er, j.ct, j.su, j.ba, j.nx, j.ar, j.od, j.fu, j.dn, ints m, j.F, j.S, j.W)
def poutF (c : Fl.Chip) (j : Jf) : O_BWriteF1 := (j.er, j.ct, j.su, bs c.mem, c.state, c.id, c.bank, j.ba, j.nx, j.ar, j.od, j.fu, j.dn, j.F, j.S, j.W)
def poutE (c : Chip) (j : Jf) : O_BTakeE1 := (j.er, j.ct, j.su, bs c.mem, j.ba, j.nx, j.ar, j.od, j.fu, j.dn, c.inn, c.out, j.F, j.S, j.W)
theorem pwS {n slots : Nat} {blank m : List UInt8} {j : Jf} {L : List E59} {t : Nat} (h : PkS n slots blank m j L t) (ht : t ≤ 10000) (hs : slots ≤ 1024) (kind : Int) {x b : Int} (x0 : 0 ≤ x) (x1 : x < 4294967296) (b0 : 0 ≤ b) (b1 : b < 256) :
    ∃ j', PkS n slots blank (opS m (x, b)).1 j' (L ++ (opS m (x, b)).2) (t + 1) ∧
      f_BWriteS1 kind (ints m) j.er j.ct j.su ((64 * n : Nat) : Int) (slots : Int) j.ba j.nx j.ar j.od j.F j.S j.W [] j.fu j.dn x b = some (poutS (opS m (x, b)).1 j') := by
  have hm : m.length = 32768 := h.ok
  have hg := opS_good hm (x, b)
  obtain ⟨j', a1, a3⟩ := pnoteS (c := ⟨1, x % 32768, bs [UInt8.ofNat b.toNat]⟩) h.pj ht hs kind (ints (opS m (x, b)).1) (by rw [hg]) (fun a b d => by
    rw [hg]; unfold f_BImageS ints
    rw [ctrue (bytesIn_map _), strOf_map])
  refine ⟨j', h.next (c' := (opS m (x, b)).1) (by show (m.set _ _).length = 32768; rw [List.length_set]; exact hm) (by rw [hg]) (by rw [hg]) a1, ?_⟩
  unfold f_BWriteS1
  rw [Let_eq, idxS x0 x1, cand (by omega) (by rw [ints_len, hm]; omega), ctrue (byteS b0 b1).1, (byteS b0 b1).2, ints_setZ m _ b b0 b1]
  rw [show m.set (x % 32768).toNat (UInt8.ofNat b.toNat) = (opS m (x, b)).1 from rfl]
  rw [show f_BNoteS1 kind (ints (opS m (x, b)).1) j.er j.ct j.su _ _ j.ba j.nx j.ar j.od j.F j.S j.W [] j.fu j.dn 1 (x % 32768) (bs [UInt8.ofNat b.toNat]) = _ from a3, bind_some']
  rfl
theorem pwF {n slots : Nat} {blank : List UInt8} {c : Fl.Chip} {j : Jf} {L : List E59} {t : Nat} (h : PkF n slots blank c j L t) (ht : t ≤ 10000) (hs : slots ≤ 1024) (kind : Int) {x b : Int} (x0 : 0 ≤ x) (x1 : x < 4294967296) (b0 : 0 ≤ b) (b1 : b < 256) :
    ∃ j', PkF n slots blank (opF c (x, b)).1 j' (L ++ (opF c (x, b)).2) (t + 1) ∧
      f_BWriteF1 kind j.er j.ct j.su (bs c.mem) c.state c.id c.bank ((64 * n : Nat) : Int) (slots : Int) j.ba j.nx j.ar j.od j.F j.S j.W [] j.fu j.dn x b = some (poutF (opF c (x, b)).1 j') := by
  have hk := Fl.writeF_Ok h.ok x b b0
  by_cases hok : (Fl.writeF c x b).1.ok = true
  · have e2 : (opF c (x, b)).2 = [⟨(Fl.writeF c x b).1.k, (Fl.writeF c x b).1.a, bs (Fl.writeF c x b).1.d⟩] := if_pos hok
    obtain ⟨g1, g2⟩ := Fl.writeF_good h.ok x b hok
    have hst : stepE c.mem ⟨(Fl.writeF c x b).1.k, (Fl.writeF c x b).1.a, bs (Fl.writeF c x b).1.d⟩ = ((opF c (x, b)).1.mem, 0) := by
      unfold stepE
      show applyF c.mem _ _ (bs (Fl.writeF c x b).1.d).data.toList = _
      rw [bs_data]
      exact Prod.ext g2.symm g1
    obtain ⟨j', a1, a3⟩ := pnoteF (c := ⟨(Fl.writeF c x b).1.k, (Fl.writeF c x b).1.a, bs (Fl.writeF c x b).1.d⟩) h.pj ht hs kind (bs (opF c (x, b)).1.mem) (opF c (x, b)).1.state (opF c (x, b)).1.id (opF c (x, b)).1.bank (by rw [hst]) (fun a b d => by rw [hst]; rfl)
    refine ⟨j', by rw [e2]; exact h.next (c' := (opF c (x, b)).1) hk (by rw [hst]) (by rw [hst]) a1, ?_⟩
    unfold f_BWriteF1
    rw [Fl.write_eq c h.ok x b x0 x1 b0 b1, bind_some']
    show cond (Fl.writeF c x b).1.ok _ _ = _
    rw [ctrue hok]
    show Option.bind (f_BNoteF1 kind j.er j.ct j.su (bs (opF c (x, b)).1.mem) (opF c (x, b)).1.state (opF c (x, b)).1.id (opF c (x, b)).1.bank _ _ j.ba j.nx j.ar j.od j.F j.S j.W [] j.fu j.dn _ _ _) _ = _
    rw [a3, bind_some']
    rfl
  · have hok' : (Fl.writeF c x b).1.ok = false := by simpa using hok
    have e2 : (opF c (x, b)).2 = [] := if_neg hok
    obtain ⟨g1, g2⟩ := Fl.writeF_none x b hok'
    refine ⟨j, ?_, ?_⟩
    · rw [e2, List.append_nil]
      have h' := h.mono (show t ≤ t + 1 by omega)
      have hmm : (opF c (x, b)).1.mem = c.mem := g2
      exact ⟨hk, by show runE blank L = some (opF c (x, b)).1.mem; rw [hmm]; exact h'.run, by show Pj n slots j (opF c (x, b)).1.mem _ _; rw [hmm]; exact h'.pj⟩
    · unfold f_BWriteF1
      rw [Fl.write_eq c h.ok x b x0 x1 b0 b1, bind_some']
      show cond (Fl.writeF c x b).1.ok _ _ = _
      rw [cfalse hok']
      rfl
theorem pwE {n slots : Nat} {blank : List UInt8} {c : Chip} {j : Jf} {L : List E59} {t : Nat} (h : PkE n slots blank c j L t) (ht : t ≤ 10000) (hs : slots ≤ 1024) (kind : Int) {b : Int} (b0 : 0 ≤ b) (b1 : b < 256) :
    ∃ j', PkE n slots blank (opE c b).1 j' (L ++ (opE c b).2) (t + 1) ∧
      f_BTakeE1 kind j.er j.ct j.su (bs c.mem) c.inn c.out c.wide ((64 * n : Nat) : Int) (slots : Int) j.ba j.nx j.ar j.od j.F j.S j.W [] j.fu j.dn b = some (poutE (opE c b).1 j') := by
  obtain ⟨hk, hwd, hml⟩ := ewriteF_Inv h.ok b
  by_cases hok : (ewriteF c b).1.ok = true
  · have e2 : (opE c b).2 = [⟨(ewriteF c b).1.k, (ewriteF c b).1.a, bs (ewriteF c b).1.d⟩] := if_pos hok
    have hst : stepE c.mem ⟨(ewriteF c b).1.k, (ewriteF c b).1.a, bs (ewriteF c b).1.d⟩ = ((opE c b).1.mem, 0) := by
      unfold stepE
      show applyF c.mem _ _ (bs (ewriteF c b).1.d).data.toList = _
      rw [bs_data]
      exact ewriteF_good h.ok b hok
    obtain ⟨j', a1, a3⟩ := pnoteE (c := ⟨(ewriteF c b).1.k, (ewriteF c b).1.a, bs (ewriteF c b).1.d⟩) h.pj ht hs kind (bs (opE c b).1.mem) (opE c b).1.inn (opE c b).1.out c.wide (by rw [hst]) (fun a b d => by rw [hst]; rfl)
    refine ⟨j', by rw [e2]; exact h.next (c' := (opE c b).1) hk (by rw [hst]) (by rw [hst]) a1, ?_⟩
    unfold f_BTakeE1
    rw [write_eq c h.ok.ok h.ok.bits h.ok.len b b0 b1, bind_some']
    show cond (ewriteF c b).1.ok _ _ = _
    rw [ctrue hok]
    show Option.bind (f_BNoteE1 kind j.er j.ct j.su (bs (opE c b).1.mem) (opE c b).1.inn (opE c b).1.out c.wide _ _ j.ba j.nx j.ar j.od j.F j.S j.W [] j.fu j.dn _ _ _) _ = _
    rw [a3, bind_some']
    rfl
  · have hok' : (ewriteF c b).1.ok = false := by simpa using hok
    have e2 : (opE c b).2 = [] := if_neg hok
    have g2 := ewriteF_none hok'
    refine ⟨j, ?_, ?_⟩
    · rw [e2, List.append_nil]
      have h' := h.mono (show t ≤ t + 1 by omega)
      have hmm : (opE c b).1.mem = c.mem := g2
      exact ⟨hk, by show runE blank L = some (opE c b).1.mem; rw [hmm]; exact h'.run, by show Pj n slots j (opE c b).1.mem _ _; rw [hmm]; exact h'.pj⟩
    · unfold f_BTakeE1
      rw [write_eq c h.ok.ok h.ok.bits h.ok.len b b0 b1, bind_some']
      show cond (ewriteF c b).1.ok _ _ = _
      rw [cfalse hok']
      rfl
theorem pdoS_eq {n slots : Nat} {blank : List UInt8} {c : List UInt8} {j : Jf} {L : List E59} {t : Nat} (h : PkS n slots blank c j L t) (ht : t ≤ 9984) (hs : slots ≤ 1024) (kind : Int) {x : E35} (hx : okC x) :
    ∃ j', PkS n slots blank (callS c x).1 j' (L ++ (callS c x).2) (t + 16) ∧
      f_doS1 kind (ints c) j.er j.ct j.su ((64 * n : Nat) : Int) (slots : Int) j.ba j.nx j.ar j.od j.F j.S j.W [] j.fu j.dn x.Kind x.Addr x.Byte x.N x.Picks = some (poutS (callS c x).1 j') := by
  unfold callS f_doS1
  by_cases h0 : x.Kind = 0
  · obtain ⟨j', a1, a2⟩ := pwS h (by omega) hs kind hx.1.1 hx.1.2 hx.2.1 hx.2.2
    rw [if_pos h0, ceq h0, a2, bind_some']
    exact ⟨j', a1.mono (by omega), rfl⟩
  by_cases h1 : x.Kind = 1
  · rw [if_neg h0, if_pos h1, cne h0, ceq h1]
    refine ⟨j, by rw [List.append_nil]; exact h.mono (by omega), ?_⟩
    refine loopO_for (fun i => 15 - (i : Int)) 16 (fun i hi => ?_) ?_
    · show cond (decide ((15 - (i : Int)) ≥ 0)) _ _ = _
      rw [cpos (by omega), cpos (by omega)]
      unfold f_BTakeS1
      rw [EWriteN_eq, bind_some', bind_some', down_wrap hi]
    · show cond (decide ((15 - ((16 : Nat) : Int)) ≥ 0)) _ _ = _
      rw [cneg (by omega)]
      rfl
  by_cases h7 : x.Kind = 7
  · rw [if_neg h0, if_neg h1, if_pos h7, cne h0, cne h1, ceq h7, puts_eq, bind_some']
    have hl := putsL_len x
    refine (loop_fin putS (putsL x) 1 (PkS n slots blank) (fun i c j L => ((i : Int), j.er, j.ct, j.su, j.ba, j.nx, j.ar, j.od, j.fu, j.dn, ints c, j.F, j.S, j.W)) (fun c j L => poutS c j) (fun i hi c j L t h ht => ?_) (fun c j L => ?_) h (show t + (putsL x).length * 1 ≤ 10000 by omega)).imp fun j' a => ⟨a.1.mono (by omega), a.2⟩
    · have hp := putsL_ok hx _ (List.getElem_mem hi)
      obtain ⟨j', b1, b2⟩ := pwS h ht hs kind hp.1 hp.2 (wrap8_bd _).1 (wrap8_bd ((putsL x)[i]).f1).2
      refine ⟨j', b1, ?_⟩
      show cond (decide ((i : Int) < (((putsL x).length : Nat) : Int))) _ _ = _
      rw [cpos (by omega), cand (by omega) (by omega), ctrue (by decide), ctrue (by decide), ixL_at hi, b2, bind_some', up_wrap hi (by omega)]
      rfl
    · show cond (decide ((((putsL x).length : Nat) : Int) < (((putsL x).length : Nat) : Int))) _ _ = _
      rw [cneg (by omega)]
      rfl
  · rw [if_neg h0, if_neg h1, if_neg h7, cne h0, cne h1, cne h7]
    refine ⟨j, by rw [List.append_nil]; exact h.mono (by omega), ?_⟩
    rfl
theorem pdoF_eq {n slots : Nat} {blank : List UInt8} {c : Fl.Chip} {j : Jf} {L : List E59} {t : Nat} (h : PkF n slots blank c j L t) (ht : t ≤ 9984) (hs : slots ≤ 1024) (kind : Int) {x : E35} (hx : okC x) :
    ∃ j', PkF n slots blank (callF c x).1 j' (L ++ (callF c x).2) (t + 16) ∧
      f_doF1 kind j.er j.ct j.su (bs c.mem) c.state c.id c.bank ((64 * n : Nat) : Int) (slots : Int) j.ba j.nx j.ar j.od j.F j.S j.W [] j.fu j.dn x.Kind x.Addr x.Byte x.N x.Picks = some (poutF (callF c x).1 j') := by
  unfold callF f_doF1
  by_cases h0 : x.Kind = 0
  · obtain ⟨j', a1, a2⟩ := pwF h (by omega) hs kind hx.1.1 hx.1.2 hx.2.1 hx.2.2
    rw [if_pos h0, ceq h0, a2, bind_some']
    exact ⟨j', a1.mono (by omega), rfl⟩
  by_cases h1 : x.Kind = 1
  · rw [if_neg h0, if_pos h1, cne h0, ceq h1]
    refine ⟨j, by rw [List.append_nil]; exact h.mono (by omega), ?_⟩
    refine loopO_for (fun i => 15 - (i : Int)) 16 (fun i hi => ?_) ?_
    · show cond (decide ((15 - (i : Int)) ≥ 0)) _ _ = _
      rw [cpos (by omega), cpos (by omega)]
      unfold f_BTakeF1
      rw [EWriteN_eq, bind_some', bind_some', down_wrap hi]
    · show cond (decide ((15 - ((16 : Nat) : Int)) ≥ 0)) _ _ = _
      rw [cneg (by omega)]
      rfl
  by_cases h7 : x.Kind = 7
  · rw [if_neg h0, if_neg h1, if_pos h7, cne h0, cne h1, ceq h7, puts_eq, bind_some']
    have hl := putsL_len x
    refine (loop_fin putF (putsL x) 1 (PkF n slots blank) (fun i c j L => ((i : Int), j.er, j.ct, j.su, bs c.mem, c.state, c.id, c.bank, j.ba, j.nx, j.ar, j.od, j.fu, j.dn, j.F, j.S, j.W)) (fun c j L => poutF c j) (fun i hi c j L t h ht => ?_) (fun c j L => ?_) h (show t + (putsL x).length * 1 ≤ 10000 by omega)).imp fun j' a => ⟨a.1.mono (by omega), a.2⟩
    · have hp := putsL_ok hx _ (List.getElem_mem hi)
      obtain ⟨j', b1, b2⟩ := pwF h ht hs kind hp.1 hp.2 (wrap8_bd _).1 (wrap8_bd ((putsL x)[i]).f1).2
      refine ⟨j', b1, ?_⟩
      show cond (decide ((i : Int) < (((putsL x).length : Nat) : Int))) _ _ = _
      rw [cpos (by omega), cand (by omega) (by omega), ctrue (by decide), ctrue (by decide), ixL_at hi, b2, bind_some', up_wrap hi (by omega)]
      rfl
    · show cond (decide ((((putsL x).length : Nat) : Int) < (((putsL x).length : Nat) : Int))) _ _ = _
      rw [cneg (by omega)]
      rfl
  · rw [if_neg h0, if_neg h1, if_neg h7, cne h0, cne h1, cne h7]
    refine ⟨j, by rw [List.append_nil]; exact h.mono (by omega), ?_⟩
    rfl
theorem pdoE_eq {n slots : Nat} {blank : List UInt8} {c : Chip} {j : Jf} {L : List E59} {t : Nat} (h : PkE n slots blank c j L t) (ht : t ≤ 9984) (hs : slots ≤ 1024) (kind : Int) {w : Int} (hw : c.wide = w) (x : E35) :
    ∃ j', (PkE n slots blank (callE c x).1 j' (L ++ (callE c x).2) (t + 16) ∧ (callE c x).1.wide = w) ∧
      f_doE1 kind j.er j.ct j.su (bs c.mem) c.inn c.out w ((64 * n : Nat) : Int) (slots : Int) j.ba j.nx j.ar j.od j.F j.S j.W [] j.fu j.dn x.Kind x.Addr x.Byte x.N x.Picks = some (poutE (callE c x).1 j') := by
  unfold callE f_doE1
  by_cases h0 : x.Kind = 0
  · rw [if_neg (by omega), ceq h0]
    exact ⟨j, ⟨by rw [List.append_nil]; exact h.mono (by omega), hw⟩, rfl⟩
  by_cases h1 : x.Kind = 1
  · rw [if_pos h1, cne h0, ceq h1]
    have hl := bitsN_len x.N
    refine (loop_fin opE (bitsN x.N) 1 (fun c j L t => PkE n slots blank c j L t ∧ c.wide = w) (fun i c j L => (15 - (i : Int), j.er, j.ct, j.su, bs c.mem, j.ba, j.nx, j.ar, j.od, j.fu, j.dn, c.inn, c.out, j.F, j.S, j.W)) (fun c j L => poutE c j) (fun i hi c j L t h ht => ?_) (fun c j L => ?_) ⟨h, hw⟩ (show t + (bitsN x.N).length * 1 ≤ 10000 by omega)).imp fun j' a => ⟨⟨a.1.1.mono (by omega), a.1.2⟩, a.2⟩
    · rw [bitsN_at]
      obtain ⟨b1, b2⟩ := bitN_bd x.N (15 - (i : Int))
      obtain ⟨j', c1, c2⟩ := pwE h.1 ht hs kind b1 b2
      refine ⟨j', ⟨c1, (ewriteF_Inv h.1.ok _).2.1.trans h.2⟩, ?_⟩
      show cond (decide ((15 - (i : Int)) ≥ 0)) _ _ = _
      rw [cpos (by omega), cpos (by omega)]
      rw [← h.2]
      show Option.bind (f_BTakeE1 kind j.er j.ct j.su (bs c.mem) c.inn c.out c.wide ((64 * n : Nat) : Int) (slots : Int) j.ba j.nx j.ar j.od j.F j.S j.W [] j.fu j.dn (bitN x.N (15 - (i : Int)))) _ = _
      rw [c2, bind_some']
      show some (Sum.inl (IntKind.wrap .i64 ((15 - (i : Int)) - 1), _)) = _
      rw [down_wrap (by omega)]
    · rw [hl]
      show cond (decide ((15 - ((16 : Nat) : Int)) ≥ 0)) _ _ = _
      rw [cneg (by omega)]
      rfl
  by_cases h7 : x.Kind = 7
  · rw [if_neg h1, cne h0, cne h1, ceq h7, puts_eq, bind_some']
    have hl := putsL_len x
    refine ⟨j, ⟨by rw [List.append_nil]; exact h.mono (by omega), hw⟩, ?_⟩
    refine loopO_for (fun i => (i : Int)) (putsL x).length (fun i hi => ?_) ?_
    · show cond (decide ((i : Int) < (((putsL x).length : Nat) : Int))) _ _ = _
      rw [cpos (by omega), cand (by omega) (by omega), ctrue (by decide), ctrue (by decide)]
      unfold f_BWriteE1
      rw [bind_some', up_wrap hi (by omega)]
    · show cond (decide ((((putsL x).length : Nat) : Int) < (((putsL x).length : Nat) : Int))) _ _ = _
      rw [cneg (by omega)]
      rfl
  · rw [if_neg h1, cne h0, cne h1, cne h7]
    exact ⟨j, ⟨by rw [List.append_nil]; exact h.mono (by omega), hw⟩, rfl⟩
end Go.Proofs.YtcgigdfahlmfaaaGreatDoor
