/-
  How a Start reads.
-/
import Derived.Test.YtdjgicimfeocbaaGreatG0
import Derived.Test.YtdjgicimfeocbaaGreatRead
namespace Go.Proofs.YtdjgicimfeocbaaGreat
open Go.Vc
set_option linter.unusedVariables false

theorem not_foot_nil0 {p : Option Addr} {x : List Int} : ∀ a, p = some a → x ≠ [] → ¬ Foot [] a.block := fun _ _ _ h => h
/-- The parts of a Start, as they read. -/
structure SRead (w : World) (l : List Value) (p0 : Option Addr) (c0 : Nat) (x0 : List Int) (At St : Int) (g : Nat → Int) (seed steps : Int) (p1 : Option Addr) (c1 : Nat) (x1 : List Int) : Prop where
  cells : l = [.slice p0 x0.length c0, .int .u32 At, .int .u32 St, .int .u32 (g 0), .int .u32 (g 1), .int .u32 (g 2), .int .u32 (g 3), .int .u32 (g 4), .int .u32 (g 5), .int .u32 (g 6), .int .u32 (g 7), .int .u32 (g 8), .int .u32 (g 9), .int .u32 (g 10), .int .u32 (g 11), .int .u32 (g 12), .int .u32 (g 13), .int .u32 (g 14), .int .u32 (g 15), .int .u32 seed, .int .i64 steps, .slice p1 x1.length c1]
  ro0 : RoAt (elI .u32) w p0 c0 x0
  ro1 : RoAt (elI .i64) w p1 c1 x1
  hAt : 0 ≤ At ∧ At < 4294967296
  hSt : 0 ≤ St ∧ St < 4294967296
  hg : ∀ i, i < 16 → 0 ≤ g i ∧ g i < 4294967296
  hx : ∀ x ∈ x0, 0 ≤ x ∧ x < 4294967296
set_option maxRecDepth 100000 in
theorem start_of {w : World} {l : List Value} (h : ∃ n, Rd Tryz.prog w n 27 l) : ∃ p0 c0 x0 At St g seed steps p1 c1 x1, SRead w l p0 c0 x0 At St g seed steps p1 c1 x1 := by
  obtain ⟨n, h⟩ := h
  obtain ⟨hl, m', hf⟩ := Rd.struct Tryz.underlying27 h
  have hl' : l.length = 22 := hl.trans (by kernel_rfl)
  match l, hl' with
  | [v0, v1, v2, v3, v4, v5, v6, v7, v8, v9, v10, v11, v12, v13, v14, v15, v16, v17, v18, v19, v20, v21], _ =>
    obtain ⟨p0, n0, c0, e0, r0⟩ := Rd.slice (by first | rfl | kernel_rfl) (hf 0 _ rfl)
    obtain ⟨At, e1, w1⟩ := Rd.int (k := .u32) (by first | rfl | kernel_rfl) (hf 1 _ rfl)
    obtain ⟨St, e2, w2⟩ := Rd.int (k := .u32) (by first | rfl | kernel_rfl) (hf 2 _ rfl)
    obtain ⟨ha, hr⟩ := Rd.arrInt (k := 16) (kd := .u32) (by first | rfl | kernel_rfl) (by first | rfl | kernel_rfl) (by first | rfl | kernel_rfl) (hf 3 _ rfl)
    obtain ⟨seed, e4, w4⟩ := Rd.int (k := .u32) (by first | rfl | kernel_rfl) (hf 4 _ rfl)
    obtain ⟨steps, e5, w5⟩ := Rd.int (k := .i64) (by first | rfl | kernel_rfl) (hf 5 _ rfl)
    obtain ⟨p1, n1, c1, e6, r1⟩ := Rd.slice (by first | rfl | kernel_rfl) (hf 6 _ rfl)
    obtain ⟨x0, hn0, ro0, hx0⟩ := ro_int (k := .u32) r0 (by first | rfl | kernel_rfl) (by first | rfl | kernel_rfl)
    obtain ⟨x1, hn1, ro1, hx1⟩ := ro_int (k := .i64) r1 (by first | rfl | kernel_rfl) (by first | rfl | kernel_rfl)
    have hr' : ∀ i, i < 16 → ∃ x, [v3, v4, v5, v6, v7, v8, v9, v10, v11, v12, v13, v14, v15, v16, v17, v18][i]? = some (.int .u32 x) ∧ (Lit.int .u32 x).wf = true := hr
    obtain ⟨g, hg⟩ : ∃ g : Nat → Int, ∀ i, i < 16 → [v3, v4, v5, v6, v7, v8, v9, v10, v11, v12, v13, v14, v15, v16, v17, v18][i]? = some (.int .u32 (g i)) ∧ (Lit.int .u32 (g i)).wf = true :=
      ⟨fun i => if h : i < 16 then (hr' i h).choose else 0, fun i h => by simp only [dif_pos h]; exact (hr' i h).choose_spec⟩
    have one : ∀ {a b : Value}, [a] = [b] → a = b := fun h => (List.cons.inj h).1
    have gi : ∀ i (hi : i < 16) v, [v3, v4, v5, v6, v7, v8, v9, v10, v11, v12, v13, v14, v15, v16, v17, v18][i]? = some v → v = .int .u32 (g i) := fun i hi v hv => Option.some.inj (hv.symm.trans (hg i hi).1)
    refine ⟨p0, c0, x0, At, St, g, seed, steps, p1, c1, x1, ?_, ro0, ro1, wf_u32 w1, wf_u32 w2, fun i hi => wf_u32 (hg i hi).2, fun x hx => wf_u32 (hx0 x hx)⟩
    subst hn0 hn1
    rw [one (a := v0) e0, one (a := v1) e1, one (a := v2) e2, one (a := v19) e4, one (a := v20) e5, one (a := v21) e6, gi 0 (by decide) v3 rfl, gi 1 (by decide) v4 rfl, gi 2 (by decide) v5 rfl, gi 3 (by decide) v6 rfl, gi 4 (by decide) v7 rfl, gi 5 (by decide) v8 rfl, gi 6 (by decide) v9 rfl, gi 7 (by decide) v10 rfl, gi 8 (by decide) v11 rfl, gi 9 (by decide) v12 rfl, gi 10 (by decide) v13 rfl, gi 11 (by decide) v14 rfl, gi 12 (by decide) v15 rfl, gi 13 (by decide) v16 rfl, gi 14 (by decide) v17 rfl, gi 15 (by decide) v18 rfl]
end Go.Proofs.YtdjgicimfeocbaaGreat
