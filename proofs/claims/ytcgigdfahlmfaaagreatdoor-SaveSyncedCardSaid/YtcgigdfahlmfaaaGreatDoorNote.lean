/-
  A command is noted in the journal, on a good disk.
-/
import Derived.Test.YtcgigdfahlmfaaaGreatDoorRunA
import Derived.Test.YtcgigdfahlmfaaaGreatDoorEepR
namespace Go.Proofs.YtcgigdfahlmfaaaGreatDoor
open Go.Vc
set_option linter.unusedVariables false
set_option linter.unusedSimpArgs false
structure Jr where
  er : Int
  ct : Int
  su : Int
  ba : Int
  nx : Int
  ar : Int
  od : Bool
  F : List ByteArray
  S : List ByteArray
  W : List E115
structure Jok (n slots : Nat) (j : Jr) (mem : List UInt8) (bd wd : Nat) : Prop where
  er : j.er = 0
  od : j.od = false
  w : j.W.length ≤ wd
  good : Good j.F j.S j.W
  js : ∃ (base area : Nat) (img : List UInt8) (cs : List E59), j.ba = (base : Int) ∧ j.nx = ((base + cs.length : Nat) : Int) ∧ j.ar = (area : Int) ∧ JS j.S n slots base area img cs ∧ runE img cs = some mem ∧ base + cs.length ≤ bd
theorem noteS {n slots : Nat} {j : Jr} {mem : List UInt8} {bd wd : Nat} (h : Jok n slots j mem bd wd) (hbd : bd ≤ 3900000000) (hwd : wd ≤ 890000) (hct : 0 ≤ j.ct ∧ j.ct ≤ 1000000) (kind : Int) (sram : List Int) {c : E59} (hc : (stepE mem c).2 = 0) (himg : f_BImageS kind sram 0 (j.ct + 1) j.su = some (bs (stepE mem c).1)) :
    ∃ j', Jok n slots j' (stepE mem c).1 (bd + slots + 1) (wd + 1) ∧ j'.ct = j.ct + 1 ∧
      f_BNoteS1 kind sram j.er j.ct j.su ((64 * n : Nat) : Int) (slots : Int) j.ba j.nx j.ar j.od j.F j.S j.W [] (-1) false c.Kind c.Addr c.Data = some (j'.er, j'.ct, j'.su, j'.ba, j'.nx, j'.ar, j'.od, -1, false, j'.F, j'.S, j'.W) := by
  obtain ⟨he, ho, hw, hg, base, area, img, cs, e1, e2, e3, hj, hr, hb⟩ := h
  have hml : mem.length = 64 * n := (runE_len cs hr).trans hj.imgl
  have hml' : (stepE mem c).1.length = 64 * n := (stepE_len hc).trans hml
  have hs1 := hj.s1
  have hs0 := hj.s0
  have hcl := hj.csl
  unfold f_BNoteS1
  rw [he, cbeq rfl, e1, e2, e3, ho, wrap_i64 (x := j.ct + 1) (by omega) (by omega), Left_h hj.s1 hj.csl (by omega), bind_some']
  by_cases hroom : cs.length < slots
  · obtain ⟨S', W', a1, a2, a3, a4⟩ := Append_h hj hg (by omega) c (stepE_ok hc) hroom
    refine ⟨⟨0, j.ct + 1, j.su, base, ((base + cs.length + 1 : Nat) : Int), area, false, j.F, S', W'⟩, ⟨rfl, rfl, ?_, a3, base, area, img, cs ++ [c], rfl, ?_, rfl, a2, runE_snoc c cs img mem hr hc, ?_⟩, rfl, ?_⟩
    · show W'.length ≤ wd + 1; omega
    · show ((base + cs.length + 1 : Nat) : Int) = ((base + (cs ++ [c]).length : Nat) : Int)
      rw [List.length_append]; rfl
    · rw [List.length_append]; simp only [List.length_singleton]; omega
    · rw [cne (by omega), a1, bind_some']
  · have hk := Check_h (nx := base + cs.length) (old := false) (m := (stepE mem c).1) hj hg (by omega) hml' (Nat.le_refl _) (by omega)
    have hJ := chk2_JS (nb := base + cs.length + slots) hj hml' (by omega) (by omega) (by omega)
    refine ⟨⟨0, j.ct + 1, j.ct + 1, ((base + cs.length + slots : Nat) : Int), ((base + cs.length + slots : Nat) : Int), ((1 - area : Nat) : Int), false, chk2 j.S n (base + cs.length + slots) area (stepE mem c).1, chk2 j.S n (base + cs.length + slots) area (stepE mem c).1, []⟩, ⟨rfl, rfl, Nat.zero_le _, Good.self hJ.full, base + cs.length + slots, 1 - area, (stepE mem c).1, [], rfl, rfl, rfl, hJ, rfl, ?_⟩, rfl, ?_⟩
    · simp only [List.length_nil]; omega
    · rw [ceq (by omega), himg, bind_some', hk, bind_some']; exact ceq rfl
theorem noteF {n slots : Nat} {j : Jr} {mem : List UInt8} {bd wd : Nat} (h : Jok n slots j mem bd wd) (hbd : bd ≤ 3900000000) (hwd : wd ≤ 890000) (hct : 0 ≤ j.ct ∧ j.ct ≤ 1000000) (kind : Int) (fm : ByteArray) (fs : Int) (fi : Bool) (fb : Int) {c : E59} (hc : (stepE mem c).2 = 0) (himg : f_BImageF kind 0 (j.ct + 1) j.su fm fs fi fb = some (bs (stepE mem c).1)) :
    ∃ j', Jok n slots j' (stepE mem c).1 (bd + slots + 1) (wd + 1) ∧ j'.ct = j.ct + 1 ∧
      f_BNoteF1 kind j.er j.ct j.su fm fs fi fb ((64 * n : Nat) : Int) (slots : Int) j.ba j.nx j.ar j.od j.F j.S j.W [] (-1) false c.Kind c.Addr c.Data = some (j'.er, j'.ct, j'.su, j'.ba, j'.nx, j'.ar, j'.od, -1, false, j'.F, j'.S, j'.W) := by
  obtain ⟨he, ho, hw, hg, base, area, img, cs, e1, e2, e3, hj, hr, hb⟩ := h
  have hml : mem.length = 64 * n := (runE_len cs hr).trans hj.imgl
  have hml' : (stepE mem c).1.length = 64 * n := (stepE_len hc).trans hml
  have hs1 := hj.s1
  have hs0 := hj.s0
  have hcl := hj.csl
  unfold f_BNoteF1
  rw [he, cbeq rfl, e1, e2, e3, ho, wrap_i64 (x := j.ct + 1) (by omega) (by omega), Left_h hj.s1 hj.csl (by omega), bind_some']
  by_cases hroom : cs.length < slots
  · obtain ⟨S', W', a1, a2, a3, a4⟩ := Append_h hj hg (by omega) c (stepE_ok hc) hroom
    refine ⟨⟨0, j.ct + 1, j.su, base, ((base + cs.length + 1 : Nat) : Int), area, false, j.F, S', W'⟩, ⟨rfl, rfl, ?_, a3, base, area, img, cs ++ [c], rfl, ?_, rfl, a2, runE_snoc c cs img mem hr hc, ?_⟩, rfl, ?_⟩
    · show W'.length ≤ wd + 1; omega
    · show ((base + cs.length + 1 : Nat) : Int) = ((base + (cs ++ [c]).length : Nat) : Int)
      rw [List.length_append]; rfl
    · rw [List.length_append]; simp only [List.length_singleton]; omega
    · rw [cne (by omega), a1, bind_some']
  · have hk := Check_h (nx := base + cs.length) (old := false) (m := (stepE mem c).1) hj hg (by omega) hml' (Nat.le_refl _) (by omega)
    have hJ := chk2_JS (nb := base + cs.length + slots) hj hml' (by omega) (by omega) (by omega)
    refine ⟨⟨0, j.ct + 1, j.ct + 1, ((base + cs.length + slots : Nat) : Int), ((base + cs.length + slots : Nat) : Int), ((1 - area : Nat) : Int), false, chk2 j.S n (base + cs.length + slots) area (stepE mem c).1, chk2 j.S n (base + cs.length + slots) area (stepE mem c).1, []⟩, ⟨rfl, rfl, Nat.zero_le _, Good.self hJ.full, base + cs.length + slots, 1 - area, (stepE mem c).1, [], rfl, rfl, rfl, hJ, rfl, ?_⟩, rfl, ?_⟩
    · simp only [List.length_nil]; omega
    · rw [ceq (by omega), himg, bind_some', hk, bind_some']; exact ceq rfl
theorem noteE {n slots : Nat} {j : Jr} {mem : List UInt8} {bd wd : Nat} (h : Jok n slots j mem bd wd) (hbd : bd ≤ 3900000000) (hwd : wd ≤ 890000) (hct : 0 ≤ j.ct ∧ j.ct ≤ 1000000) (kind : Int) (em : ByteArray) (ei eo : List Int) (ew : Int) {c : E59} (hc : (stepE mem c).2 = 0) (himg : f_BImageE kind 0 (j.ct + 1) j.su em ei eo ew = some (bs (stepE mem c).1)) :
    ∃ j', Jok n slots j' (stepE mem c).1 (bd + slots + 1) (wd + 1) ∧ j'.ct = j.ct + 1 ∧
      f_BNoteE1 kind j.er j.ct j.su em ei eo ew ((64 * n : Nat) : Int) (slots : Int) j.ba j.nx j.ar j.od j.F j.S j.W [] (-1) false c.Kind c.Addr c.Data = some (j'.er, j'.ct, j'.su, j'.ba, j'.nx, j'.ar, j'.od, -1, false, j'.F, j'.S, j'.W) := by
  obtain ⟨he, ho, hw, hg, base, area, img, cs, e1, e2, e3, hj, hr, hb⟩ := h
  have hml : mem.length = 64 * n := (runE_len cs hr).trans hj.imgl
  have hml' : (stepE mem c).1.length = 64 * n := (stepE_len hc).trans hml
  have hs1 := hj.s1
  have hs0 := hj.s0
  have hcl := hj.csl
  unfold f_BNoteE1
  rw [he, cbeq rfl, e1, e2, e3, ho, wrap_i64 (x := j.ct + 1) (by omega) (by omega), Left_h hj.s1 hj.csl (by omega), bind_some']
  by_cases hroom : cs.length < slots
  · obtain ⟨S', W', a1, a2, a3, a4⟩ := Append_h hj hg (by omega) c (stepE_ok hc) hroom
    refine ⟨⟨0, j.ct + 1, j.su, base, ((base + cs.length + 1 : Nat) : Int), area, false, j.F, S', W'⟩, ⟨rfl, rfl, ?_, a3, base, area, img, cs ++ [c], rfl, ?_, rfl, a2, runE_snoc c cs img mem hr hc, ?_⟩, rfl, ?_⟩
    · show W'.length ≤ wd + 1; omega
    · show ((base + cs.length + 1 : Nat) : Int) = ((base + (cs ++ [c]).length : Nat) : Int)
      rw [List.length_append]; rfl
    · rw [List.length_append]; simp only [List.length_singleton]; omega
    · rw [cne (by omega), a1, bind_some']
  · have hk := Check_h (nx := base + cs.length) (old := false) (m := (stepE mem c).1) hj hg (by omega) hml' (Nat.le_refl _) (by omega)
    have hJ := chk2_JS (nb := base + cs.length + slots) hj hml' (by omega) (by omega) (by omega)
    refine ⟨⟨0, j.ct + 1, j.ct + 1, ((base + cs.length + slots : Nat) : Int), ((base + cs.length + slots : Nat) : Int), ((1 - area : Nat) : Int), false, chk2 j.S n (base + cs.length + slots) area (stepE mem c).1, chk2 j.S n (base + cs.length + slots) area (stepE mem c).1, []⟩, ⟨rfl, rfl, Nat.zero_le _, Good.self hJ.full, base + cs.length + slots, 1 - area, (stepE mem c).1, [], rfl, rfl, rfl, hJ, rfl, ?_⟩, rfl, ?_⟩
    · simp only [List.length_nil]; omega
    · rw [ceq (by omega), himg, bind_some', hk, bind_some']; exact ceq rfl
end Go.Proofs.YtcgigdfahlmfaaaGreatDoor
