/-
  A chip's calls as a plain fold: its memory, and the commands that it gives.
-/
import Derived.Test.YtcgigdfahlmfaaaGreatDoorNote
namespace Go.Proofs.YtcgigdfahlmfaaaGreatDoor
open Go.Vc
set_option linter.unusedVariables false
set_option linter.unusedSimpArgs false
def fold {C I : Type} (op : C → I → C × List E59) : C → List I → C × List E59
  | c, [] => (c, [])
  | c, i :: is => ((fold op (op c i).1 is).1, (op c i).2 ++ (fold op (op c i).1 is).2)
structure Lk {C : Type} (mem : C → List UInt8) (ok : C → Prop) (n slots : Nat) (blank : List UInt8) (c : C) (j : Jr) (L : List E59) (t : Nat) : Prop where
  ok : ok c
  jk : Jok n slots j (mem c) (1 + t * (slots + 1)) t
  ct : j.ct = (L.length : Int)
  le : L.length ≤ t
  run : runE blank L = some (mem c)
theorem Jok.mono {n slots : Nat} {j : Jr} {mem : List UInt8} {bd wd bd' wd' : Nat} (h : Jok n slots j mem bd wd) (h1 : bd ≤ bd') (h2 : wd ≤ wd') : Jok n slots j mem bd' wd' := by
  obtain ⟨he, ho, hw, hg, base, area, img, cs, e1, e2, e3, hj, hr, hb⟩ := h
  exact ⟨he, ho, Nat.le_trans hw h2, hg, base, area, img, cs, e1, e2, e3, hj, hr, Nat.le_trans hb h1⟩
theorem Lk.mono {C : Type} {mem : C → List UInt8} {ok : C → Prop} {n slots : Nat} {blank : List UInt8} {c : C} {j : Jr} {L : List E59} {t t' : Nat} (h : Lk mem ok n slots blank c j L t) (ht : t ≤ t') : Lk mem ok n slots blank c j L t' :=
  ⟨h.ok, h.jk.mono (Nat.add_le_add_left (Nat.mul_le_mul_right _ ht) _) ht, h.ct, Nat.le_trans h.le ht, h.run⟩
theorem bd_next (t s : Nat) : 1 + t * (s + 1) + s + 1 = 1 + (t + 1) * (s + 1) := by rw [Nat.succ_mul]; omega
theorem Lk.next {C : Type} {mem : C → List UInt8} {ok : C → Prop} {n slots : Nat} {blank : List UInt8} {c c' : C} {j j' : Jr} {L : List E59} {t : Nat} {e : E59} (h : Lk mem ok n slots blank c j L t) (hk : ok c') (hm : mem c' = (stepE (mem c) e).1) (he : (stepE (mem c) e).2 = 0)
    (hj : Jok n slots j' (stepE (mem c) e).1 (1 + t * (slots + 1) + slots + 1) (t + 1)) (hc : j'.ct = j.ct + 1) : Lk mem ok n slots blank c' j' (L ++ [e]) (t + 1) := by
  refine ⟨hk, ?_, ?_, ?_, ?_⟩
  · rw [hm, ← bd_next]; exact hj
  · rw [hc, h.ct, List.length_append]; rfl
  · rw [List.length_append]; have := h.le; simp only [List.length_singleton]; omega
  · rw [hm]; exact runE_snoc e L blank (mem c) h.run he
def ints (m : List UInt8) : List Int := m.map fun b => (b.toNat : Int)
theorem ints_len (m : List UInt8) : (ints m).length = m.length := List.length_map _
theorem ints_setZ (m : List UInt8) (i : Nat) (b : Int) (b0 : 0 ≤ b) (b1 : b < 256) : (ints m).set i b = ints (m.set i (UInt8.ofNat b.toNat)) := by
  unfold ints
  rw [List.map_set]
  congr 1
  rw [UInt8.toNat_ofNat_of_lt' (by show b.toNat < 256; omega)]; omega
def opS (m : List UInt8) (i : Int × Int) : List UInt8 × List E59 := (m.set (i.1 % 32768).toNat (UInt8.ofNat i.2.toNat), [⟨1, i.1 % 32768, bs [UInt8.ofNat i.2.toNat]⟩])
def opF (c : Fl.Chip) (i : Int × Int) : Fl.Chip × List E59 := ((Fl.writeF c i.1 i.2).2, if (Fl.writeF c i.1 i.2).1.ok then [⟨(Fl.writeF c i.1 i.2).1.k, (Fl.writeF c i.1 i.2).1.a, bs (Fl.writeF c i.1 i.2).1.d⟩] else [])
def opE (c : Chip) (b : Int) : Chip × List E59 := ((ewriteF c b).2, if (ewriteF c b).1.ok then [⟨(ewriteF c b).1.k, (ewriteF c b).1.a, bs (ewriteF c b).1.d⟩] else [])
theorem idxS {x : Int} (h0 : 0 ≤ x) (h1 : x < 4294967296) : IntKind.wrap .i64 (bits .and .u32 x 32767) = x % 32768 := by
  rw [and32 15 (by decide) (by decide) h0 h1]
  show IntKind.wrap .i64 (x % 32768) = _
  exact wrap_i64 (by omega) (by omega)
theorem byteS {b : Int} (b0 : 0 ≤ b) (b1 : b < 256) : bytesIn [b] = true ∧ strOf [b] = bs [UInt8.ofNat b.toNat] := by
  obtain ⟨k, rfl⟩ := Int.eq_ofNat_of_zero_le b0
  exact ⟨Fl.bytesIn_one (by omega), Fl.strOf_one k⟩
def okS (m : List UInt8) : Prop := m.length = 32768
end Go.Proofs.YtcgigdfahlmfaaaGreatDoor
