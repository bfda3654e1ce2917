/-
  A chip's calls as a plain fold: its memory, and the commands that it gives.
-/
import Derived.Test.YtcgigdfahlmfaaaGreatDoorNote
namespace Go.Proofs.YtcgigdfahlmfaaaGreatDoor
open Go.Vc
set_option linter.unusedVariables false
set_option linter.unusedSimpArgs false
def fold {C I : Type} (op : C → I → C × List E59) : C → List I → C × List E59
  | c, [] => (c, [])
  | c, i :: is => ((fold op (op c i).1 is).1, (op c i).2 ++ (fold op (op c i).1 is).2)
theorem fold_snoc {C I : Type} (op : C → I → C × List E59) (i : I) : ∀ (is : List I) (c : C), fold op c (is ++ [i]) = ((op (fold op c is).1 i).1, (fold op c is).2 ++ (op (fold op c is).1 i).2)
  | [], c => by simp [fold]
  | a :: is, c => by
    show fold op c (a :: (is ++ [i])) = _
    simp only [fold, fold_snoc op i is, List.append_assoc]
theorem fold_take {C I : Type} (op : C → I → C × List E59) (c : C) (is : List I) (k : Nat) (h : k < is.length) : fold op c (is.take (k + 1)) = ((op (fold op c (is.take k)).1 is[k]).1, (fold op c (is.take k)).2 ++ (op (fold op c (is.take k)).1 is[k]).2) := by
  rw [List.take_succ_eq_append_getElem h, fold_snoc]
structure Lk {C : Type} (mem : C → List UInt8) (ok : C → Prop) (n slots : Nat) (blank : List UInt8) (c : C) (j : Jr) (L : List E59) (t : Nat) : Prop where
  ok : ok c
  jk : Jok n slots j (mem c) (1 + t * (slots + 1)) t
  ct : j.ct = (L.length : Int)
  le : L.length ≤ t
  run : runE blank L = some (mem c)
theorem Jok.mono {n slots : Nat} {j : Jr} {mem : List UInt8} {bd wd bd' wd' : Nat} (h : Jok n slots j mem bd wd) (h1 : bd ≤ bd') (h2 : wd ≤ wd') : Jok n slots j mem bd' wd' := by
  obtain ⟨he, ho, hw, hg, base, area, img, cs, e1, e2, e3, hj, hr, hb⟩ := h
  exact ⟨he, ho, Nat.le_trans hw h2, hg, base, area, img, cs, e1, e2, e3, hj, hr, Nat.le_trans hb h1⟩
theorem Lk.mono {C : Type} {mem : C → List UInt8} {ok : C → Prop} {n slots : Nat} {blank : List UInt8} {c : C} {j : Jr} {L : List E59} {t t' : Nat} (h : Lk mem ok n slots blank c j L t) (ht : t ≤ t') : Lk mem ok n slots blank c j L t' :=
  ⟨h.ok, h.jk.mono (Nat.add_le_add_left (Nat.mul_le_mul_right _ ht) _) ht, h.ct, Nat.le_trans h.le ht, h.run⟩
theorem bd_bound {t s : Nat} (ht : t ≤ 10000) (hs : s ≤ 1024) : 1 + t * (s + 1) ≤ 3900000000 := by
  have := Nat.mul_le_mul ht (show s + 1 ≤ 1025 by omega)
  omega
theorem bd_next (t s : Nat) : 1 + t * (s + 1) + s + 1 = 1 + (t + 1) * (s + 1) := by rw [Nat.succ_mul]; omega
theorem Lk.next {C : Type} {mem : C → List UInt8} {ok : C → Prop} {n slots : Nat} {blank : List UInt8} {c c' : C} {j j' : Jr} {L : List E59} {t : Nat} {e : E59} (h : Lk mem ok n slots blank c j L t) (hk : ok c') (hm : mem c' = (stepE (mem c) e).1) (he : (stepE (mem c) e).2 = 0)
    (hj : Jok n slots j' (stepE (mem c) e).1 (1 + t * (slots + 1) + slots + 1) (t + 1)) (hc : j'.ct = j.ct + 1) : Lk mem ok n slots blank c' j' (L ++ [e]) (t + 1) := by
  refine ⟨hk, ?_, ?_, ?_, ?_⟩
  · rw [hm, ← bd_next]; exact hj
  · rw [hc, h.ct, List.length_append]; rfl
  · rw [List.length_append]; have := h.le; simp only [List.length_singleton]; omega
  · rw [hm]; exact runE_snoc e L blank (mem c) h.run he
def ints (m : List UInt8) : List Int := m.map fun b => (b.toNat : Int)
theorem ints_len (m : List UInt8) : (ints m).length = m.length := List.length_map _
theorem ints_setZ (m : List UInt8) (i : Nat) (b : Int) (b0 : 0 ≤ b) (b1 : b < 256) : (ints m).set i b = ints (m.set i (UInt8.ofNat b.toNat)) := by
  unfold ints
  rw [List.map_set]
  congr 1
  rw [UInt8.toNat_ofNat_of_lt' (by show b.toNat < 256; omega)]; omega
def opS (m : List UInt8) (i : Int × Int) : List UInt8 × List E59 := (m.set (i.1 % 32768).toNat (UInt8.ofNat i.2.toNat), [⟨1, i.1 % 32768, bs [UInt8.ofNat i.2.toNat]⟩])
def opF (c : Fl.Chip) (i : Int × Int) : Fl.Chip × List E59 := ((Fl.writeF c i.1 i.2).2, if (Fl.writeF c i.1 i.2).1.ok then [⟨(Fl.writeF c i.1 i.2).1.k, (Fl.writeF c i.1 i.2).1.a, bs (Fl.writeF c i.1 i.2).1.d⟩] else [])
def opE (c : Chip) (b : Int) : Chip × List E59 := ((ewriteF c b).2, if (ewriteF c b).1.ok then [⟨(ewriteF c b).1.k, (ewriteF c b).1.a, bs (ewriteF c b).1.d⟩] else [])
theorem idxS {x : Int} (h0 : 0 ≤ x) (h1 : x < 4294967296) : IntKind.wrap .i64 (bits .and .u32 x 32767) = x % 32768 := by
  rw [and32 15 (by decide) (by decide) h0 h1]
  show IntKind.wrap .i64 (x % 32768) = _
  exact wrap_i64 (by omega) (by omega)
theorem idxR {x : Int} (h0 : 0 ≤ x) (h1 : x < 4294967296) : IntKind.wrap .i64 (Int.tmod x 32768) = x % 32768 := by
  rw [tmod_nn h0]
  exact wrap_i64 (by omega) (by omega)
theorem apply1 {m : List UInt8} {a : Int} {x : UInt8} (h0 : 0 ≤ a) (h1 : a < m.length) (hm : m.length ≤ 131072) : applyF m 1 a [x] = (m.set a.toNat x, 0) := by
  unfold applyF applyT
  rw [if_pos (by unfold okF; simp; omega), if_neg (by decide), if_neg (by decide), if_neg (by simp; omega)]
  rw [List.set_eq_take_append_cons_drop, if_pos (by omega)]
  simp
theorem opS_good {m : List UInt8} (hm : m.length = 32768) (i : Int × Int) : stepE m ⟨1, i.1 % 32768, bs [UInt8.ofNat i.2.toNat]⟩ = ((opS m i).1, 0) := by
  unfold stepE opS
  show applyF m 1 (i.1 % 32768) (bs [UInt8.ofNat i.2.toNat]).data.toList = _
  rw [bs_data, apply1 (by omega) (by omega) (by omega)]
theorem byteS {b : Int} (b0 : 0 ≤ b) (b1 : b < 256) : bytesIn [b] = true ∧ strOf [b] = bs [UInt8.ofNat b.toNat] := by
  obtain ⟨k, rfl⟩ := Int.eq_ofNat_of_zero_le b0
  exact ⟨Fl.bytesIn_one (by omega), Fl.strOf_one k⟩
def okS (m : List UInt8) : Prop := m.length = 32768
def outS (m : List UInt8) (j : Jr) : O_BWriteS1 := (j.er, j.ct, j.su, j.ba, j.nx, j.ar, j.od, -1, false, ints m, j.F, j.S, j.W)
def outF (c : Fl.Chip) (j : Jr) : O_BWriteF1 := (j.er, j.ct, j.su, bs c.mem, c.state, c.id, c.bank, j.ba, j.nx, j.ar, j.od, -1, false, j.F, j.S, j.W)
def outE (c : Chip) (j : Jr) : O_BTakeE1 := (j.er, j.ct, j.su, bs c.mem, j.ba, j.nx, j.ar, j.od, -1, false, c.inn, c.out, j.F, j.S, j.W)
abbrev LkS := Lk (C := List UInt8) (fun m => m) okS
abbrev LkF := Lk (C := Fl.Chip) (fun c => c.mem) Fl.Ok
abbrev LkE := Lk (C := Chip) (fun c => c.mem) Inv
theorem wS {n slots : Nat} {blank m : List UInt8} {j : Jr} {L : List E59} {t : Nat} (h : LkS n slots blank m j L t) (ht : t ≤ 10000) (hs : slots ≤ 1024) (kind : Int) {x b : Int} (x0 : 0 ≤ x) (x1 : x < 4294967296) (b0 : 0 ≤ b) (b1 : b < 256) :
    ∃ j', LkS n slots blank (opS m (x, b)).1 j' (L ++ (opS m (x, b)).2) (t + 1) ∧
      f_BWriteS1 kind (ints m) j.er j.ct j.su ((64 * n : Nat) : Int) (slots : Int) j.ba j.nx j.ar j.od j.F j.S j.W [] (-1) false x b = some (outS (opS m (x, b)).1 j') := by
  have hm : m.length = 32768 := h.ok
  have hg := opS_good hm (x, b)
  have hc := h.ct
  have hle := h.le
  obtain ⟨j', a1, a2, a3⟩ := noteS (c := ⟨1, x % 32768, bs [UInt8.ofNat b.toNat]⟩) h.jk (bd_bound ht hs) (by omega) (by omega) kind (ints (opS m (x, b)).1) (by rw [hg]) (by
    rw [hg]; unfold f_BImageS ints
    rw [ctrue (bytesIn_map _), strOf_map])
  refine ⟨j', h.next (c' := (opS m (x, b)).1) (by show (m.set _ _).length = 32768; rw [List.length_set]; exact hm) (by rw [hg]) (by rw [hg]) a1 a2, ?_⟩
  unfold f_BWriteS1
  rw [Let_eq, idxS x0 x1, cand (by omega) (by rw [ints_len, hm]; omega), ctrue (byteS b0 b1).1, (byteS b0 b1).2, ints_setZ m _ b b0 b1]
  rw [show m.set (x % 32768).toNat (UInt8.ofNat b.toNat) = (opS m (x, b)).1 from rfl]
  rw [show f_BNoteS1 kind (ints (opS m (x, b)).1) j.er j.ct j.su _ _ j.ba j.nx j.ar j.od j.F j.S j.W [] (-1) false 1 (x % 32768) (bs [UInt8.ofNat b.toNat]) = _ from a3, bind_some']
  rfl
theorem wF {n slots : Nat} {blank : List UInt8} {c : Fl.Chip} {j : Jr} {L : List E59} {t : Nat} (h : LkF n slots blank c j L t) (ht : t ≤ 10000) (hs : slots ≤ 1024) (kind : Int) {x b : Int} (x0 : 0 ≤ x) (x1 : x < 4294967296) (b0 : 0 ≤ b) (b1 : b < 256) :
    ∃ j', LkF n slots blank (opF c (x, b)).1 j' (L ++ (opF c (x, b)).2) (t + 1) ∧
      f_BWriteF1 kind j.er j.ct j.su (bs c.mem) c.state c.id c.bank ((64 * n : Nat) : Int) (slots : Int) j.ba j.nx j.ar j.od j.F j.S j.W [] (-1) false x b = some (outF (opF c (x, b)).1 j') := by
  have hc := h.ct
  have hle := h.le
  have hk := Fl.writeF_Ok h.ok x b b0
  by_cases hok : (Fl.writeF c x b).1.ok = true
  · have e2 : (opF c (x, b)).2 = [⟨(Fl.writeF c x b).1.k, (Fl.writeF c x b).1.a, bs (Fl.writeF c x b).1.d⟩] := if_pos hok
    obtain ⟨g1, g2⟩ := Fl.writeF_good h.ok x b hok
    have hst : stepE c.mem ⟨(Fl.writeF c x b).1.k, (Fl.writeF c x b).1.a, bs (Fl.writeF c x b).1.d⟩ = ((opF c (x, b)).1.mem, 0) := by
      unfold stepE
      show applyF c.mem _ _ (bs (Fl.writeF c x b).1.d).data.toList = _
      rw [bs_data]
      exact Prod.ext g2.symm g1
    obtain ⟨j', a1, a2, a3⟩ := noteF (c := ⟨(Fl.writeF c x b).1.k, (Fl.writeF c x b).1.a, bs (Fl.writeF c x b).1.d⟩) h.jk (bd_bound ht hs) (by omega) (by omega) kind (bs (opF c (x, b)).1.mem) (opF c (x, b)).1.state (opF c (x, b)).1.id (opF c (x, b)).1.bank (by rw [hst]) (by rw [hst]; rfl)
    refine ⟨j', by rw [e2]; exact h.next (c' := (opF c (x, b)).1) hk (by rw [hst]) (by rw [hst]) a1 a2, ?_⟩
    unfold f_BWriteF1
    rw [Fl.write_eq c h.ok x b x0 x1 b0 b1, bind_some']
    show cond (Fl.writeF c x b).1.ok _ _ = _
    rw [ctrue hok]
    show Option.bind (f_BNoteF1 kind j.er j.ct j.su (bs (opF c (x, b)).1.mem) (opF c (x, b)).1.state (opF c (x, b)).1.id (opF c (x, b)).1.bank _ _ j.ba j.nx j.ar j.od j.F j.S j.W [] (-1) false _ _ _) _ = _
    rw [a3, bind_some']
    rfl
  · have hok' : (Fl.writeF c x b).1.ok = false := by simpa using hok
    have e2 : (opF c (x, b)).2 = [] := if_neg hok
    obtain ⟨g1, g2⟩ := Fl.writeF_none x b hok'
    refine ⟨j, ?_, ?_⟩
    · rw [e2, List.append_nil]
      have h' := h.mono (show t ≤ t + 1 by omega)
      have hmm : (opF c (x, b)).1.mem = c.mem := g2
      exact ⟨hk, by show Jok n slots j (opF c (x, b)).1.mem _ _; rw [hmm]; exact h'.jk, h'.ct, h'.le, by show runE blank L = some (opF c (x, b)).1.mem; rw [hmm]; exact h'.run⟩
    · unfold f_BWriteF1
      rw [Fl.write_eq c h.ok x b x0 x1 b0 b1, bind_some']
      show cond (Fl.writeF c x b).1.ok _ _ = _
      rw [cfalse hok']
      rfl
theorem ewriteF_none {c : Chip} {b : Int} (h : (ewriteF c b).1.ok = false) : (ewriteF c b).2.mem = c.mem := by
  unfold ewriteF at *
  simp only at *
  split
  · rfl
  · split
    · rfl
    · split
      · rfl
      · split
        · rw [if_neg (by assumption), if_neg (by assumption), if_neg (by assumption), if_pos (by assumption)] at h; cases h
        · rfl
theorem ewriteF_good {c : Chip} (hi : Inv c) (b : Int) (h : (ewriteF c b).1.ok = true) : applyF c.mem (ewriteF c b).1.k (ewriteF c b).1.a (ewriteF c b).1.d = ((ewriteF c b).2.mem, 0) := by
  unfold ewriteF at *
  simp only at *
  split at h
  · cases h
  · split at h
    · cases h
    · split at h
      · cases h
      · split at h
        · rename_i p1 p2 p3 p4
          rw [if_neg p1, if_neg p2, if_neg p3, if_pos p4]
          have hu := unitF_bd hi.ok (c.inn ++ [b % 2])
          have hm : c.mem.length ≤ 8192 := by rcases hi.ok.w with w | w <;> omega
          show applyF c.mem 1 _ _ = ((applyF c.mem 1 _ _).1, 0)
          have hp := congrArg Prod.snd (put_good (a := 8 * unitF c.mem (c.inn ++ [b % 2]) c.wide) (d := dataF (List.take 64 (List.drop (2 + c.wide.toNat) (c.inn ++ [b % 2])))) (by omega) (by omega) hm (dataF_len _))
          exact Prod.ext rfl hp
        · cases h
theorem wE {n slots : Nat} {blank : List UInt8} {c : Chip} {j : Jr} {L : List E59} {t : Nat} (h : LkE n slots blank c j L t) (ht : t ≤ 10000) (hs : slots ≤ 1024) (kind : Int) {b : Int} (b0 : 0 ≤ b) (b1 : b < 256) :
    ∃ j', LkE n slots blank (opE c b).1 j' (L ++ (opE c b).2) (t + 1) ∧
      f_BTakeE1 kind j.er j.ct j.su (bs c.mem) c.inn c.out c.wide ((64 * n : Nat) : Int) (slots : Int) j.ba j.nx j.ar j.od j.F j.S j.W [] (-1) false b = some (outE (opE c b).1 j') := by
  have hc := h.ct
  have hle := h.le
  obtain ⟨hk, hwd, hml⟩ := ewriteF_Inv h.ok b
  by_cases hok : (ewriteF c b).1.ok = true
  · have e2 : (opE c b).2 = [⟨(ewriteF c b).1.k, (ewriteF c b).1.a, bs (ewriteF c b).1.d⟩] := if_pos hok
    have hst : stepE c.mem ⟨(ewriteF c b).1.k, (ewriteF c b).1.a, bs (ewriteF c b).1.d⟩ = ((opE c b).1.mem, 0) := by
      unfold stepE
      show applyF c.mem _ _ (bs (ewriteF c b).1.d).data.toList = _
      rw [bs_data]
      exact ewriteF_good h.ok b hok
    obtain ⟨j', a1, a2, a3⟩ := noteE (c := ⟨(ewriteF c b).1.k, (ewriteF c b).1.a, bs (ewriteF c b).1.d⟩) h.jk (bd_bound ht hs) (by omega) (by omega) kind (bs (opE c b).1.mem) (opE c b).1.inn (opE c b).1.out c.wide (by rw [hst]) (by rw [hst]; rfl)
    refine ⟨j', by rw [e2]; exact h.next (c' := (opE c b).1) hk (by rw [hst]) (by rw [hst]) a1 a2, ?_⟩
    unfold f_BTakeE1
    rw [write_eq c h.ok.ok h.ok.bits h.ok.len b b0 b1, bind_some']
    show cond (ewriteF c b).1.ok _ _ = _
    rw [ctrue hok]
    show Option.bind (f_BNoteE1 kind j.er j.ct j.su (bs (opE c b).1.mem) (opE c b).1.inn (opE c b).1.out c.wide _ _ j.ba j.nx j.ar j.od j.F j.S j.W [] (-1) false _ _ _) _ = _
    rw [a3, bind_some']
    rfl
  · have hok' : (ewriteF c b).1.ok = false := by simpa using hok
    have e2 : (opE c b).2 = [] := if_neg hok
    have g2 := ewriteF_none hok'
    refine ⟨j, ?_, ?_⟩
    · rw [e2, List.append_nil]
      have h' := h.mono (show t ≤ t + 1 by omega)
      have hmm : (opE c b).1.mem = c.mem := g2
      exact ⟨hk, by show Jok n slots j (opE c b).1.mem _ _; rw [hmm]; exact h'.jk, h'.ct, h'.le, by show runE blank L = some (opE c b).1.mem; rw [hmm]; exact h'.run⟩
    · unfold f_BTakeE1
      rw [write_eq c h.ok.ok h.ok.bits h.ok.len b b0 b1, bind_some']
      show cond (ewriteF c b).1.ok _ _ = _
      rw [cfalse hok']
      rfl
end Go.Proofs.YtcgigdfahlmfaaaGreatDoor
