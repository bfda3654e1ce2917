/-
  A step in ARM code.
-/
import Derived.Test.YtdjgicimfeocbaaGreatPair2
namespace Go.Proofs.YtdjgicimfeocbaaGreat
open Go.Vc
set_option linter.unusedVariables false
set_option linter.unusedSimpArgs false

theorem ends_cond {α : Type} {b : Bool} {x y : Option α} {Q : α → Prop} (h1 : Ends x Q) (h2 : Ends y Q) : Ends (cond b x y) Q := by cases b <;> assumption
theorem ends_let {α β : Type} {v : α} {f : α → Option β} {Q : β → Prop} (h : ∀ x, Ends (f x) Q) : Ends (Let v f) Q := h v
theorem afield_ends (w a b : Int) (ha : decide (0 ≤ a) = true) (hb : decide (0 ≤ b) = true) : Ends (f_afield w a b) fun _ => True := by
  unfold f_afield
  rw [ctrue ha, ctrue hb]
  exact ⟨_, rfl, trivial⟩
theorem abit_ends (w a : Int) (ha : decide (0 ≤ a) = true) : Ends (f_abit w a) fun _ => True := by
  unfold f_abit
  rw [ctrue ha]
  exact ⟨_, rfl, trivial⟩
theorem abit_bind {β : Type} {w a : Int} {K : Bool → Option β} {Q : β → Prop} (ha : decide (0 ≤ a) = true) (h : ∀ x, Ends (K x) Q) : Ends ((f_abit w a).bind K) Q := ends_bind _ (abit_ends w a ha) fun x _ => h x
theorem afield_bind {β : Type} {w a b : Int} {K : Int → Option β} {Q : β → Prop} (ha : decide (0 ≤ a) = true) (hb : decide (0 ≤ b) = true) (h : ∀ x, Ends (K x) Q) : Ends ((f_afield w a b).bind K) Q := ends_bind _ (afield_ends w a b ha hb) fun x _ => h x
theorem astatus_ends (w : Int) {q0 q1 q2 q4 q5 q6 q7 q8 q10 q11 q20 : Int} {q3 q9 q12 q13 q14 q15 q16 q17 q18 q19 q21 q22 q23 q : Bool} : Ends (f_astatus w q0 q1 q2 q3 q4 q5 q6 q7 q8 q9 q10 q11 q12 q13 q14 q15 q16 q17 q18 q19 q20 q21 q22 q23 q) fun r => r.2.1 = q1 := by
  unfold f_astatus
  repeat' first
    | with_reducible refine ends_cond ?_ ?_
    | with_reducible refine ends_let fun _ => ?_
    | with_reducible refine abit_bind ?_ fun _ => ?_
    | with_reducible refine afield_bind ?_ ?_ fun _ => ?_
    | with_reducible exact ends_some rfl
    | rfl
theorem adata_ends (w : Int) {q0 q1 q2 q4 q5 q6 q7 q8 q10 q11 q20 : Int} {q3 q9 q12 q13 q14 q15 q16 q17 q18 q19 q21 q22 q23 q : Bool} : Ends (f_adata w q0 q1 q2 q3 q4 q5 q6 q7 q8 q9 q10 q11 q12 q13 q14 q15 q16 q17 q18 q19 q20 q21 q22 q23 q) fun r => r.2.1 = q1 := by
  unfold f_adata
  repeat' first
    | with_reducible refine ends_cond ?_ ?_
    | with_reducible refine ends_let fun _ => ?_
    | with_reducible refine abit_bind ?_ fun _ => ?_
    | with_reducible refine afield_bind ?_ ?_ fun _ => ?_
    | with_reducible refine ends_bind _ (astatus_ends _) fun r hr => ends_some hr
    | with_reducible exact ends_some rfl
    | rfl
theorem ahalf_ends (w : Int) {q0 q1 q2 q4 q5 q6 q7 q8 q10 q11 q20 : Int} {q3 q9 q12 q13 q14 q15 q16 q17 q18 q19 q21 q22 q23 : Bool} : Ends (f_ahalf w q0 q1 q2 q3 q4 q5 q6 q7 q8 q9 q10 q11 q12 q13 q14 q15 q16 q17 q18 q19 q20 q21 q22 q23) fun r => r.2.1 = q1 := by
  unfold f_ahalf
  repeat' first
    | with_reducible refine ends_cond ?_ ?_
    | with_reducible refine ends_let fun _ => ?_
    | with_reducible refine abit_bind ?_ fun _ => ?_
    | with_reducible refine afield_bind ?_ ?_ fun _ => ?_
    | with_reducible exact ends_some rfl
    | rfl
theorem aword_ends (w : Int) {q0 q1 q2 q4 q5 q6 q7 q8 q10 q11 q20 : Int} {q3 q9 q12 q13 q14 q15 q16 q17 q18 q19 q21 q22 q23 : Bool} : Ends (f_aword w q0 q1 q2 q3 q4 q5 q6 q7 q8 q9 q10 q11 q12 q13 q14 q15 q16 q17 q18 q19 q20 q21 q22 q23) fun r => r.2.1 = q1 := by
  unfold f_aword
  repeat' first
    | with_reducible refine ends_cond ?_ ?_
    | with_reducible refine ends_let fun _ => ?_
    | with_reducible refine abit_bind ?_ fun _ => ?_
    | with_reducible refine afield_bind ?_ ?_ fun _ => ?_
    | with_reducible exact ends_some rfl
    | rfl
theorem ablock_ends (w : Int) {q0 q1 q2 q4 q5 q6 q7 q8 q10 q11 q20 : Int} {q3 q9 q12 q13 q14 q15 q16 q17 q18 q19 q21 q22 q23 : Bool} : Ends (f_ablock w q0 q1 q2 q3 q4 q5 q6 q7 q8 q9 q10 q11 q12 q13 q14 q15 q16 q17 q18 q19 q20 q21 q22 q23) fun r => r.1 = q1 := by
  unfold f_ablock
  repeat' first
    | with_reducible refine ends_cond ?_ ?_
    | with_reducible refine ends_let fun _ => ?_
    | with_reducible refine abit_bind ?_ fun _ => ?_
    | with_reducible refine afield_bind ?_ ?_ fun _ => ?_
    | with_reducible exact ends_some rfl
    | rfl
theorem aextra_ends (w : Int) {q0 q1 q2 q4 q5 q6 q7 q8 q10 q11 q20 : Int} {q3 q9 q12 q13 q14 q15 q16 q17 q18 q19 q21 q22 q23 : Bool} : Ends (f_aextra w q0 q1 q2 q3 q4 q5 q6 q7 q8 q9 q10 q11 q12 q13 q14 q15 q16 q17 q18 q19 q20 q21 q22 q23) fun r => r.2.1 = q1 := by
  unfold f_aextra
  repeat' first
    | with_reducible refine ends_cond ?_ ?_
    | with_reducible refine ends_let fun _ => ?_
    | with_reducible refine abit_bind ?_ fun _ => ?_
    | with_reducible refine afield_bind ?_ ?_ fun _ => ?_
    | with_reducible refine ends_bind _ (ahalf_ends _) fun r hr => ends_some hr
    | with_reducible exact ends_some rfl
    | rfl
theorem aDecode_ends (w c : Int) (hc : f_afield w 28 4 = some c) : Ends (f_aDecode w) fun r => r.2.1 = c := by
  unfold f_aDecode
  rw [hc, bind_some']
  repeat' first
    | with_reducible refine ends_cond ?_ ?_
    | with_reducible refine ends_let fun _ => ?_
    | with_reducible refine abit_bind ?_ fun _ => ?_
    | with_reducible refine afield_bind ?_ ?_ fun _ => ?_
    | with_reducible refine ends_bind _ (aextra_ends _) fun r hr => ends_some hr
    | with_reducible refine ends_bind _ (adata_ends _) fun r hr => ends_some hr
    | with_reducible refine ends_bind _ (aword_ends _) fun r hr => ends_some hr
    | with_reducible refine ends_bind _ (ablock_ends _) fun r hr => ends_some hr
    | with_reducible refine ends_bind (fun _ => True) (ends_cond (ends_some trivial) (ends_some trivial)) fun _ _ => ?_
    | with_reducible exact ends_some rfl
    | rfl
end Go.Proofs.YtdjgicimfeocbaaGreat
