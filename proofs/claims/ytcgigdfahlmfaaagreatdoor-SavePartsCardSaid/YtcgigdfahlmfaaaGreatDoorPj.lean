/-
  A backup's journal, while its disk may give out: a command is noted, all is synced.
-/
import Derived.Test.YtcgigdfahlmfaaaGreatDoorLvn
import Derived.Test.YtcgigdfahlmfaaaGreatDoorEepR
namespace Go.Proofs.YtcgigdfahlmfaaaGreatDoor
open Go.Vc
set_option linter.unusedVariables false
set_option linter.unusedSimpArgs false
structure Jf where
  er : Int
  ct : Int
  su : Int
  ba : Int
  nx : Int
  ar : Int
  od : Bool
  fu : Int
  dn : Bool
  F : List ByteArray
  S : List ByteArray
  W : List E115
def mays : List UInt8 → List E59 → List ByteArray
  | m, [] => [bs m]
  | m, c :: cs => bs m :: mays (stepE m c).1 cs
theorem mays_snoc (e : E59) : ∀ (L : List E59) (m x : List UInt8), runE m L = some x → mays m (L ++ [e]) = mays m L ++ [bs (stepE x e).1]
  | [], m, x, h => by
    have : m = x := by simpa [runE] using h
    subst this; rfl
  | c :: cs, m, x, h => by
    unfold runE at h
    split at h
    · show bs m :: mays (stepE m c).1 (cs ++ [e]) = _
      rw [mays_snoc e cs _ x h]; rfl
    · cases h
theorem mays_len : ∀ (L : List E59) (m : List UInt8), (mays m L).length = L.length + 1
  | [], _ => rfl
  | c :: cs, m => by show (mays (stepE m c).1 cs).length + 1 = _; rw [mays_len cs]; rfl
def bdt (t slots : Nat) : Nat := 1 + t * (2 * slots + 1)
theorem bdt_next (t slots : Nat) : bdt (t + 1) slots = bdt t slots + 2 * slots + 1 := by unfold bdt; rw [Nat.succ_mul]; omega
theorem bdt_mono {t t' : Nat} (slots : Nat) (h : t ≤ t') : bdt t slots ≤ bdt t' slots := Nat.add_le_add_left (Nat.mul_le_mul_right _ h) _
theorem bdt_bound {t slots : Nat} (ht : t ≤ 10000) (hs : slots ≤ 1024) : bdt t slots ≤ 3000000000 := by
  have := Nat.mul_le_mul ht (show 2 * slots + 1 ≤ 2049 by omega)
  unfold bdt; omega
structure Pj (n slots : Nat) (j : Jf) (now : List UInt8) (may : List ByteArray) (t : Nat) : Prop where
  ct : j.ct + 1 = (may.length : Int)
  nl : now.length = 64 * n
  mt : may.length ≤ t + 1
  st : ∃ sure : Nat, j.su = (sure : Int) ∧
    ((j.er = 0 ∧ j.od = false ∧ j.dn = false ∧ FU j.fu ∧ ∃ (base area m0 : Nat) (img : List UInt8) (cs : List E59), j.ba = (base : Int) ∧ j.nx = ((base + cs.length : Nat) : Int) ∧ j.ar = (area : Int) ∧ base ≤ bdt t slots ∧ Lv n slots j.F j.S j.W base area img cs m0 now may sure) ∨
     (j.er ≠ 0 ∧ Ex n slots (bdt t slots) j.F j.W may sure))
theorem Ex.mono {n slots bd bd' : Nat} {F : List ByteArray} {W : List E115} {may : List ByteArray} {sure : Nat} (h : Ex n slots bd F W may sure) (hb : bd ≤ bd') : Ex n slots bd' F W may sure := by
  refine ⟨h.full, h.len, h.soft, h.le, fun picks => ?_⟩
  obtain ⟨b, a, i, c, s, e1, e2, e3, e4⟩ := h.safe picks
  exact ⟨b, a, i, c, s, e1, Nat.le_trans e2 hb, e3, e4⟩
theorem Pj.mono {n slots : Nat} {j : Jf} {now : List UInt8} {may : List ByteArray} {t t' : Nat} (h : Pj n slots j now may t) (ht : t ≤ t') : Pj n slots j now may t' := by
  obtain ⟨h1, h2, h3, sure, h4, ⟨e1, e2, e3, e4, base, area, m0, img, cs, e5, e6, e7, e8, hv⟩ | ⟨e1, hx⟩⟩ := h
  · exact ⟨h1, h2, by omega, sure, h4, .inl ⟨e1, e2, e3, e4, base, area, m0, img, cs, e5, e6, e7, Nat.le_trans e8 (bdt_mono slots ht), hv⟩⟩
  · exact ⟨h1, h2, by omega, sure, h4, .inr ⟨e1, hx.mono (bdt_mono slots ht)⟩⟩
theorem pnoteS {n slots : Nat} {j : Jf} {now : List UInt8} {may : List ByteArray} {t : Nat} (h : Pj n slots j now may t) (ht : t ≤ 10000) (hs : slots ≤ 1024) (kind : Int) (sram : List Int) {c : E59} (hc : (stepE now c).2 = 0) (himg : ∀ a b d, f_BImageS kind sram a b d = some (bs (stepE now c).1)) :
    ∃ j', Pj n slots j' (stepE now c).1 (may ++ [bs (stepE now c).1]) (t + 1) ∧
      f_BNoteS1 kind sram j.er j.ct j.su ((64 * n : Nat) : Int) (slots : Int) j.ba j.nx j.ar j.od j.F j.S j.W [] j.fu j.dn c.Kind c.Addr c.Data = some (j'.er, j'.ct, j'.su, j'.ba, j'.nx, j'.ar, j'.od, j'.fu, j'.dn, j'.F, j'.S, j'.W) := by
  obtain ⟨h1, h2, h3, sure, h4, hst⟩ := h
  have hb := bdt_bound (t := t) ht hs
  have hn := bdt_next t slots
  have hml : (stepE now c).1.length = 64 * n := (stepE_len hc).trans h2
  have hm1 : ((may ++ [bs (stepE now c).1]).length : Int) = (may.length : Int) + 1 := by rw [List.length_append]; rfl
  have hm2 : (may ++ [bs (stepE now c).1]).length ≤ t + 1 + 1 := by rw [List.length_append]; simp only [List.length_singleton]; omega
  unfold f_BNoteS1
  rcases hst with ⟨e1, e2, e3, e4, base, area, m0, img, cs, e5, e6, e7, e8, hv⟩ | ⟨e1, hx⟩
  · have hlen := hv.js.len; have hcsl := hv.js.csl; have hwl := hv.wl; have hn1 := hv.js.n1; have hn0 := hv.js.n0; have hs1 := hv.js.s1; have ha := hv.js.ar; have hs0 := hv.js.s0
    rw [e1, cbeq rfl, e5, e6, e7, e2, e3, wrap_i64 (x := j.ct + 1) (by omega) (by omega), show f_Left ((64 * n : Nat) : Int) (slots : Int) (base : Int) ((base + cs.length : Nat) : Int) (area : Int) false j.F j.S j.W [] j.fu false = some ((slots - cs.length : Nat) : Int) from Left_h hs1 hcsl (by omega), bind_some']
    by_cases hfull : cs.length = slots
    · rw [ceq (by omega), himg, bind_some']
      obtain ⟨r, e, hr⟩ := Check_f (F := j.F) (S := j.S) (W := j.W) (n := n) (slots := slots) (area := area) (nx := base + cs.length) (base := (base : Int)) (old := false) (m := (stepE now c).1) e4 hv.js.full hlen hn0 hn1 hs1 ha hv.good (by omega) hml (by omega)
      rw [e, bind_some']
      rcases hr with ⟨fu', hf', rfl⟩ | ⟨fu', S', X, rfl, hxl, hX⟩ | ⟨fu', S', X, rfl, hX⟩
      · exact ⟨⟨0, j.ct + 1, j.ct + 1, _, _, _, false, fu', false, _, _, []⟩, ⟨by show j.ct + 1 + 1 = _; rw [hm1]; omega, hml, hm2, may.length, by show j.ct + 1 = _; omega, .inl ⟨rfl, rfl, rfl, hf', base + cs.length + slots, 1 - area, 0, (stepE now c).1, [], rfl, rfl, rfl, by omega, hv.check hml (by omega)⟩⟩, rfl⟩
      · exact ⟨⟨10, j.ct + 1, j.su, _, _, _, false, fu', true, _, S', _⟩, ⟨by show j.ct + 1 + 1 = _; rw [hm1]; omega, hml, hm2, sure, h4, .inr ⟨(show (10 : Int) ≠ 0 by decide), (hv.exitX hX (bd := bdt t slots) e8).more (by omega) _⟩⟩, rfl⟩
      · exact ⟨⟨10, j.ct + 1, j.su, _, _, _, false, fu', true, _, S', _⟩, ⟨by show j.ct + 1 + 1 = _; rw [hm1]; omega, hml, hm2, sure, h4, .inr ⟨(show (10 : Int) ≠ 0 by decide), hv.exitM hml hX (by omega) (by omega)⟩⟩, rfl⟩
    · rw [cne (by omega)]
      rcases Append_f (F := j.F) (S := j.S) (W := j.W) (n := n) (slots := slots) (base := base) (k := cs.length) (area := (area : Int)) e4 hlen hn1 hs1 (by omega) (by omega) c (stepE_ok hc) (by omega) with e | ⟨fu', hf', e⟩
      · rw [e, bind_some']
        exact ⟨⟨10, j.ct + 1, j.su, _, _, _, false, j.fu, true, _, _, _⟩, ⟨by show j.ct + 1 + 1 = _; rw [hm1]; omega, hml, hm2, sure, h4, .inr ⟨(show (10 : Int) ≠ 0 by decide), (hv.exit (bd := bdt t slots) e8).more (by omega) _⟩⟩, rfl⟩
      · have hv' := hv.app hc (by omega)
        rw [e, bind_some']
        exact ⟨⟨0, j.ct + 1, j.su, _, _, _, false, fu', false, _, _, _⟩, ⟨by show j.ct + 1 + 1 = _; rw [hm1]; omega, hml, hm2, sure, h4, .inl ⟨rfl, rfl, rfl, hf', base, area, m0, img, cs ++ [c], rfl, by rw [List.length_append]; rfl, rfl, by omega, hv'⟩⟩, rfl⟩
  · rw [cbne e1, wrap_i64 (x := j.ct + 1) (by omega) (by omega)]
    exact ⟨⟨j.er, j.ct + 1, j.su, j.ba, j.nx, j.ar, j.od, j.fu, j.dn, j.F, j.S, j.W⟩, ⟨by show j.ct + 1 + 1 = _; rw [hm1]; omega, hml, hm2, sure, h4, .inr ⟨e1, hx.more (by omega) _⟩⟩, rfl⟩
theorem psyncS {n slots : Nat} {j : Jf} {now : List UInt8} {may : List ByteArray} {t : Nat} (h : Pj n slots j now may t) (hs : slots ≤ 1024) (kind : Int) (sram : List Int) :
    ∃ j' e, Pj n slots j' now may t ∧ j'.ct = j.ct ∧ j'.ba = j.ba ∧ j'.nx = j.nx ∧ j'.ar = j.ar ∧ j'.od = j.od ∧ j'.S = j.S ∧
      f_BSyncS1 kind sram j.er j.ct j.su ((64 * n : Nat) : Int) (slots : Int) j.ba j.nx j.ar j.od j.F j.S j.W [] j.fu j.dn = some (e, j'.er, j'.su, j'.fu, j'.dn, j'.F, j'.W) := by
  obtain ⟨h1, h2, h3, sure, h4, hst⟩ := h
  unfold f_BSyncS1
  rcases hst with ⟨e1, e2, e3, e4, base, area, m0, img, cs, e5, e6, e7, e8, hv⟩ | ⟨e1, hx⟩
  · have hcsl := hv.js.csl; have hwl := hv.wl
    rw [e1, cbeq rfl, e3]
    rcases JSync_f e4 hv.good (by omega) (a := ((64 * n : Nat) : Int)) (b := (slots : Int)) (c := j.ba) (d := j.nx) (e := j.ar) (o := j.od) with e | ⟨fu2, hf2, e⟩
    · rw [e, bind_some']
      exact ⟨⟨10, j.ct, j.su, j.ba, j.nx, j.ar, j.od, j.fu, true, j.F, j.S, j.W⟩, 10, ⟨h1, h2, h3, sure, h4, .inr ⟨(show (10 : Int) ≠ 0 by decide), hv.exit e8⟩⟩, rfl, rfl, rfl, rfl, rfl, rfl, rfl⟩
    · rw [e, bind_some']
      have hm1 : 1 ≤ may.length := by
        obtain ⟨pre, ep, _⟩ := hv.pre
        rw [ep, List.length_append]; simp
      exact ⟨⟨0, j.ct, j.ct, j.ba, j.nx, j.ar, j.od, fu2, false, j.S, j.S, []⟩, 0, ⟨h1, h2, h3, may.length - 1, by show j.ct = _; omega, .inl ⟨rfl, e2, rfl, hf2, base, area, cs.length, img, cs, e5, e6, e7, e8, hv.sync⟩⟩, rfl, rfl, rfl, rfl, rfl, rfl, rfl⟩
  · rw [cbne e1]
    exact ⟨j, j.er, ⟨h1, h2, h3, sure, h4, .inr ⟨e1, hx⟩⟩, rfl, rfl, rfl, rfl, rfl, rfl, rfl⟩
theorem pnoteF {n slots : Nat} {j : Jf} {now : List UInt8} {may : List ByteArray} {t : Nat} (h : Pj n slots j now may t) (ht : t ≤ 10000) (hs : slots ≤ 1024) (kind : Int) (fm : ByteArray) (fs : Int) (fi : Bool) (fb : Int) {c : E59} (hc : (stepE now c).2 = 0) (himg : ∀ a b d, f_BImageF kind a b d fm fs fi fb = some (bs (stepE now c).1)) :
    ∃ j', Pj n slots j' (stepE now c).1 (may ++ [bs (stepE now c).1]) (t + 1) ∧
      f_BNoteF1 kind j.er j.ct j.su fm fs fi fb ((64 * n : Nat) : Int) (slots : Int) j.ba j.nx j.ar j.od j.F j.S j.W [] j.fu j.dn c.Kind c.Addr c.Data = some (j'.er, j'.ct, j'.su, j'.ba, j'.nx, j'.ar, j'.od, j'.fu, j'.dn, j'.F, j'.S, j'.W) := by
  obtain ⟨h1, h2, h3, sure, h4, hst⟩ := h
  have hb := bdt_bound (t := t) ht hs
  have hn := bdt_next t slots
  have hml : (stepE now c).1.length = 64 * n := (stepE_len hc).trans h2
  have hm1 : ((may ++ [bs (stepE now c).1]).length : Int) = (may.length : Int) + 1 := by rw [List.length_append]; rfl
  have hm2 : (may ++ [bs (stepE now c).1]).length ≤ t + 1 + 1 := by rw [List.length_append]; simp only [List.length_singleton]; omega
  unfold f_BNoteF1
  rcases hst with ⟨e1, e2, e3, e4, base, area, m0, img, cs, e5, e6, e7, e8, hv⟩ | ⟨e1, hx⟩
  · have hlen := hv.js.len; have hcsl := hv.js.csl; have hwl := hv.wl; have hn1 := hv.js.n1; have hn0 := hv.js.n0; have hs1 := hv.js.s1; have ha := hv.js.ar; have hs0 := hv.js.s0
    rw [e1, cbeq rfl, e5, e6, e7, e2, e3, wrap_i64 (x := j.ct + 1) (by omega) (by omega), show f_Left ((64 * n : Nat) : Int) (slots : Int) (base : Int) ((base + cs.length : Nat) : Int) (area : Int) false j.F j.S j.W [] j.fu false = some ((slots - cs.length : Nat) : Int) from Left_h hs1 hcsl (by omega), bind_some']
    by_cases hfull : cs.length = slots
    · rw [ceq (by omega), himg, bind_some']
      obtain ⟨r, e, hr⟩ := Check_f (F := j.F) (S := j.S) (W := j.W) (n := n) (slots := slots) (area := area) (nx := base + cs.length) (base := (base : Int)) (old := false) (m := (stepE now c).1) e4 hv.js.full hlen hn0 hn1 hs1 ha hv.good (by omega) hml (by omega)
      rw [e, bind_some']
      rcases hr with ⟨fu', hf', rfl⟩ | ⟨fu', S', X, rfl, hxl, hX⟩ | ⟨fu', S', X, rfl, hX⟩
      · exact ⟨⟨0, j.ct + 1, j.ct + 1, _, _, _, false, fu', false, _, _, []⟩, ⟨by show j.ct + 1 + 1 = _; rw [hm1]; omega, hml, hm2, may.length, by show j.ct + 1 = _; omega, .inl ⟨rfl, rfl, rfl, hf', base + cs.length + slots, 1 - area, 0, (stepE now c).1, [], rfl, rfl, rfl, by omega, hv.check hml (by omega)⟩⟩, rfl⟩
      · exact ⟨⟨10, j.ct + 1, j.su, _, _, _, false, fu', true, _, S', _⟩, ⟨by show j.ct + 1 + 1 = _; rw [hm1]; omega, hml, hm2, sure, h4, .inr ⟨(show (10 : Int) ≠ 0 by decide), (hv.exitX hX (bd := bdt t slots) e8).more (by omega) _⟩⟩, rfl⟩
      · exact ⟨⟨10, j.ct + 1, j.su, _, _, _, false, fu', true, _, S', _⟩, ⟨by show j.ct + 1 + 1 = _; rw [hm1]; omega, hml, hm2, sure, h4, .inr ⟨(show (10 : Int) ≠ 0 by decide), hv.exitM hml hX (by omega) (by omega)⟩⟩, rfl⟩
    · rw [cne (by omega)]
      rcases Append_f (F := j.F) (S := j.S) (W := j.W) (n := n) (slots := slots) (base := base) (k := cs.length) (area := (area : Int)) e4 hlen hn1 hs1 (by omega) (by omega) c (stepE_ok hc) (by omega) with e | ⟨fu', hf', e⟩
      · rw [e, bind_some']
        exact ⟨⟨10, j.ct + 1, j.su, _, _, _, false, j.fu, true, _, _, _⟩, ⟨by show j.ct + 1 + 1 = _; rw [hm1]; omega, hml, hm2, sure, h4, .inr ⟨(show (10 : Int) ≠ 0 by decide), (hv.exit (bd := bdt t slots) e8).more (by omega) _⟩⟩, rfl⟩
      · have hv' := hv.app hc (by omega)
        rw [e, bind_some']
        exact ⟨⟨0, j.ct + 1, j.su, _, _, _, false, fu', false, _, _, _⟩, ⟨by show j.ct + 1 + 1 = _; rw [hm1]; omega, hml, hm2, sure, h4, .inl ⟨rfl, rfl, rfl, hf', base, area, m0, img, cs ++ [c], rfl, by rw [List.length_append]; rfl, rfl, by omega, hv'⟩⟩, rfl⟩
  · rw [cbne e1, wrap_i64 (x := j.ct + 1) (by omega) (by omega)]
    exact ⟨⟨j.er, j.ct + 1, j.su, j.ba, j.nx, j.ar, j.od, j.fu, j.dn, j.F, j.S, j.W⟩, ⟨by show j.ct + 1 + 1 = _; rw [hm1]; omega, hml, hm2, sure, h4, .inr ⟨e1, hx.more (by omega) _⟩⟩, rfl⟩
theorem psyncF {n slots : Nat} {j : Jf} {now : List UInt8} {may : List ByteArray} {t : Nat} (h : Pj n slots j now may t) (hs : slots ≤ 1024) (kind : Int) (fm : ByteArray) (fs : Int) (fi : Bool) (fb : Int) :
    ∃ j' e, Pj n slots j' now may t ∧ j'.ct = j.ct ∧ j'.ba = j.ba ∧ j'.nx = j.nx ∧ j'.ar = j.ar ∧ j'.od = j.od ∧ j'.S = j.S ∧
      f_BSyncF1 kind j.er j.ct j.su fm fs fi fb ((64 * n : Nat) : Int) (slots : Int) j.ba j.nx j.ar j.od j.F j.S j.W [] j.fu j.dn = some (e, j'.er, j'.su, j'.fu, j'.dn, j'.F, j'.W) := by
  obtain ⟨h1, h2, h3, sure, h4, hst⟩ := h
  unfold f_BSyncF1
  rcases hst with ⟨e1, e2, e3, e4, base, area, m0, img, cs, e5, e6, e7, e8, hv⟩ | ⟨e1, hx⟩
  · have hcsl := hv.js.csl; have hwl := hv.wl
    rw [e1, cbeq rfl, e3]
    rcases JSync_f e4 hv.good (by omega) (a := ((64 * n : Nat) : Int)) (b := (slots : Int)) (c := j.ba) (d := j.nx) (e := j.ar) (o := j.od) with e | ⟨fu2, hf2, e⟩
    · rw [e, bind_some']
      exact ⟨⟨10, j.ct, j.su, j.ba, j.nx, j.ar, j.od, j.fu, true, j.F, j.S, j.W⟩, 10, ⟨h1, h2, h3, sure, h4, .inr ⟨(show (10 : Int) ≠ 0 by decide), hv.exit e8⟩⟩, rfl, rfl, rfl, rfl, rfl, rfl, rfl⟩
    · rw [e, bind_some']
      have hm1 : 1 ≤ may.length := by
        obtain ⟨pre, ep, _⟩ := hv.pre
        rw [ep, List.length_append]; simp
      exact ⟨⟨0, j.ct, j.ct, j.ba, j.nx, j.ar, j.od, fu2, false, j.S, j.S, []⟩, 0, ⟨h1, h2, h3, may.length - 1, by show j.ct = _; omega, .inl ⟨rfl, e2, rfl, hf2, base, area, cs.length, img, cs, e5, e6, e7, e8, hv.sync⟩⟩, rfl, rfl, rfl, rfl, rfl, rfl, rfl⟩
  · rw [cbne e1]
    exact ⟨j, j.er, ⟨h1, h2, h3, sure, h4, .inr ⟨e1, hx⟩⟩, rfl, rfl, rfl, rfl, rfl, rfl, rfl⟩
theorem pnoteE {n slots : Nat} {j : Jf} {now : List UInt8} {may : List ByteArray} {t : Nat} (h : Pj n slots j now may t) (ht : t ≤ 10000) (hs : slots ≤ 1024) (kind : Int) (em : ByteArray) (ei eo : List Int) (ew : Int) {c : E59} (hc : (stepE now c).2 = 0) (himg : ∀ a b d, f_BImageE kind a b d em ei eo ew = some (bs (stepE now c).1)) :
    ∃ j', Pj n slots j' (stepE now c).1 (may ++ [bs (stepE now c).1]) (t + 1) ∧
      f_BNoteE1 kind j.er j.ct j.su em ei eo ew ((64 * n : Nat) : Int) (slots : Int) j.ba j.nx j.ar j.od j.F j.S j.W [] j.fu j.dn c.Kind c.Addr c.Data = some (j'.er, j'.ct, j'.su, j'.ba, j'.nx, j'.ar, j'.od, j'.fu, j'.dn, j'.F, j'.S, j'.W) := by
  obtain ⟨h1, h2, h3, sure, h4, hst⟩ := h
  have hb := bdt_bound (t := t) ht hs
  have hn := bdt_next t slots
  have hml : (stepE now c).1.length = 64 * n := (stepE_len hc).trans h2
  have hm1 : ((may ++ [bs (stepE now c).1]).length : Int) = (may.length : Int) + 1 := by rw [List.length_append]; rfl
  have hm2 : (may ++ [bs (stepE now c).1]).length ≤ t + 1 + 1 := by rw [List.length_append]; simp only [List.length_singleton]; omega
  unfold f_BNoteE1
  rcases hst with ⟨e1, e2, e3, e4, base, area, m0, img, cs, e5, e6, e7, e8, hv⟩ | ⟨e1, hx⟩
  · have hlen := hv.js.len; have hcsl := hv.js.csl; have hwl := hv.wl; have hn1 := hv.js.n1; have hn0 := hv.js.n0; have hs1 := hv.js.s1; have ha := hv.js.ar; have hs0 := hv.js.s0
    rw [e1, cbeq rfl, e5, e6, e7, e2, e3, wrap_i64 (x := j.ct + 1) (by omega) (by omega), show f_Left ((64 * n : Nat) : Int) (slots : Int) (base : Int) ((base + cs.length : Nat) : Int) (area : Int) false j.F j.S j.W [] j.fu false = some ((slots - cs.length : Nat) : Int) from Left_h hs1 hcsl (by omega), bind_some']
    by_cases hfull : cs.length = slots
    · rw [ceq (by omega), himg, bind_some']
      obtain ⟨r, e, hr⟩ := Check_f (F := j.F) (S := j.S) (W := j.W) (n := n) (slots := slots) (area := area) (nx := base + cs.length) (base := (base : Int)) (old := false) (m := (stepE now c).1) e4 hv.js.full hlen hn0 hn1 hs1 ha hv.good (by omega) hml (by omega)
      rw [e, bind_some']
      rcases hr with ⟨fu', hf', rfl⟩ | ⟨fu', S', X, rfl, hxl, hX⟩ | ⟨fu', S', X, rfl, hX⟩
      · exact ⟨⟨0, j.ct + 1, j.ct + 1, _, _, _, false, fu', false, _, _, []⟩, ⟨by show j.ct + 1 + 1 = _; rw [hm1]; omega, hml, hm2, may.length, by show j.ct + 1 = _; omega, .inl ⟨rfl, rfl, rfl, hf', base + cs.length + slots, 1 - area, 0, (stepE now c).1, [], rfl, rfl, rfl, by omega, hv.check hml (by omega)⟩⟩, rfl⟩
      · exact ⟨⟨10, j.ct + 1, j.su, _, _, _, false, fu', true, _, S', _⟩, ⟨by show j.ct + 1 + 1 = _; rw [hm1]; omega, hml, hm2, sure, h4, .inr ⟨(show (10 : Int) ≠ 0 by decide), (hv.exitX hX (bd := bdt t slots) e8).more (by omega) _⟩⟩, rfl⟩
      · exact ⟨⟨10, j.ct + 1, j.su, _, _, _, false, fu', true, _, S', _⟩, ⟨by show j.ct + 1 + 1 = _; rw [hm1]; omega, hml, hm2, sure, h4, .inr ⟨(show (10 : Int) ≠ 0 by decide), hv.exitM hml hX (by omega) (by omega)⟩⟩, rfl⟩
    · rw [cne (by omega)]
      rcases Append_f (F := j.F) (S := j.S) (W := j.W) (n := n) (slots := slots) (base := base) (k := cs.length) (area := (area : Int)) e4 hlen hn1 hs1 (by omega) (by omega) c (stepE_ok hc) (by omega) with e | ⟨fu', hf', e⟩
      · rw [e, bind_some']
        exact ⟨⟨10, j.ct + 1, j.su, _, _, _, false, j.fu, true, _, _, _⟩, ⟨by show j.ct + 1 + 1 = _; rw [hm1]; omega, hml, hm2, sure, h4, .inr ⟨(show (10 : Int) ≠ 0 by decide), (hv.exit (bd := bdt t slots) e8).more (by omega) _⟩⟩, rfl⟩
      · have hv' := hv.app hc (by omega)
        rw [e, bind_some']
        exact ⟨⟨0, j.ct + 1, j.su, _, _, _, false, fu', false, _, _, _⟩, ⟨by show j.ct + 1 + 1 = _; rw [hm1]; omega, hml, hm2, sure, h4, .inl ⟨rfl, rfl, rfl, hf', base, area, m0, img, cs ++ [c], rfl, by rw [List.length_append]; rfl, rfl, by omega, hv'⟩⟩, rfl⟩
  · rw [cbne e1, wrap_i64 (x := j.ct + 1) (by omega) (by omega)]
    exact ⟨⟨j.er, j.ct + 1, j.su, j.ba, j.nx, j.ar, j.od, j.fu, j.dn, j.F, j.S, j.W⟩, ⟨by show j.ct + 1 + 1 = _; rw [hm1]; omega, hml, hm2, sure, h4, .inr ⟨e1, hx.more (by omega) _⟩⟩, rfl⟩
theorem psyncE {n slots : Nat} {j : Jf} {now : List UInt8} {may : List ByteArray} {t : Nat} (h : Pj n slots j now may t) (hs : slots ≤ 1024) (kind : Int) (em : ByteArray) (ei eo : List Int) (ew : Int) :
    ∃ j' e, Pj n slots j' now may t ∧ j'.ct = j.ct ∧ j'.ba = j.ba ∧ j'.nx = j.nx ∧ j'.ar = j.ar ∧ j'.od = j.od ∧ j'.S = j.S ∧
      f_BSyncE1 kind j.er j.ct j.su em ei eo ew ((64 * n : Nat) : Int) (slots : Int) j.ba j.nx j.ar j.od j.F j.S j.W [] j.fu j.dn = some (e, j'.er, j'.su, j'.fu, j'.dn, j'.F, j'.W) := by
  obtain ⟨h1, h2, h3, sure, h4, hst⟩ := h
  unfold f_BSyncE1
  rcases hst with ⟨e1, e2, e3, e4, base, area, m0, img, cs, e5, e6, e7, e8, hv⟩ | ⟨e1, hx⟩
  · have hcsl := hv.js.csl; have hwl := hv.wl
    rw [e1, cbeq rfl, e3]
    rcases JSync_f e4 hv.good (by omega) (a := ((64 * n : Nat) : Int)) (b := (slots : Int)) (c := j.ba) (d := j.nx) (e := j.ar) (o := j.od) with e | ⟨fu2, hf2, e⟩
    · rw [e, bind_some']
      exact ⟨⟨10, j.ct, j.su, j.ba, j.nx, j.ar, j.od, j.fu, true, j.F, j.S, j.W⟩, 10, ⟨h1, h2, h3, sure, h4, .inr ⟨(show (10 : Int) ≠ 0 by decide), hv.exit e8⟩⟩, rfl, rfl, rfl, rfl, rfl, rfl, rfl⟩
    · rw [e, bind_some']
      have hm1 : 1 ≤ may.length := by
        obtain ⟨pre, ep, _⟩ := hv.pre
        rw [ep, List.length_append]; simp
      exact ⟨⟨0, j.ct, j.ct, j.ba, j.nx, j.ar, j.od, fu2, false, j.S, j.S, []⟩, 0, ⟨h1, h2, h3, may.length - 1, by show j.ct = _; omega, .inl ⟨rfl, e2, rfl, hf2, base, area, cs.length, img, cs, e5, e6, e7, e8, hv.sync⟩⟩, rfl, rfl, rfl, rfl, rfl, rfl, rfl⟩
  · rw [cbne e1]
    exact ⟨j, j.er, ⟨h1, h2, h3, sure, h4, .inr ⟨e1, hx⟩⟩, rfl, rfl, rfl, rfl, rfl, rfl, rfl⟩
end Go.Proofs.YtcgigdfahlmfaaaGreatDoor
