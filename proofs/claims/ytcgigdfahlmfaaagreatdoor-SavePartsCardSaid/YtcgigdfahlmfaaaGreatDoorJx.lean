/-
  A journal behind a crash: what is known of its sectors; to open it.
-/
import Derived.Test.YtcgigdfahlmfaaaGreatDoorJTear
namespace Go.Proofs.YtcgigdfahlmfaaaGreatDoor
open Go.Vc
set_option linter.unusedVariables false
set_option linter.unusedSimpArgs false
structure JX (S : List ByteArray) (n slots base area : Nat) (img : List UInt8) (cs : List E59) (P : List UInt8 → Prop) (sb : Nat) : Prop where
  full : Full S
  len : S.length = 2 + 2 * n + slots
  n0 : 1 ≤ n
  n1 : n ≤ 2048
  s0 : 1 ≤ slots
  s1 : slots ≤ 1024
  b0 : 1 ≤ base
  b1 : base ≤ 4000000000
  ar : area < 2
  mast : S[area]? = some (mst base area)
  other : ∃ s, s.length = 64 ∧ S[1 - area]? = some (bs s) ∧ mval (1 - area) s < base ∧ P s
  imgl : img.length = 64 * n
  imgat : ∀ i, i < n → S[2 + area * n + i]? = some (chunk img i)
  csl : cs.length ≤ slots
  rcs : ∀ k (h : k < cs.length), okE cs[k] = true ∧ S[2 + 2 * n + k]? = some (bs (wrapL (base + k) (comE cs[k])))
  low : ∀ k, cs.length ≤ k → k < slots → ∃ s, s.length = 64 ∧ S[2 + 2 * n + k]? = some (bs s) ∧ lastN s < sb
  fst : cs.length < slots → ∃ s, s.length = 64 ∧ S[2 + 2 * n + cs.length]? = some (bs s) ∧ ((recordedL s).2.2.2.2 ≠ 0 ∨ (recordedL s).1 ≠ ((base + cs.length : Nat) : Int))
theorem JX.oth2 {S : List ByteArray} {n slots base area : Nat} {img : List UInt8} {cs : List E59} {P : List UInt8 → Prop} {sb : Nat} (h : JX S n slots base area img cs P sb) : ∃ s, S[1 - area]? = some (bs s) ∧ mval (1 - area) s < base := by
  obtain ⟨s, _, e1, e2, _⟩ := h.other
  exact ⟨s, e1, e2⟩
theorem masters_x {F S : List ByteArray} {W : List E115} {n slots base area : Nat} {img : List UInt8} {cs : List E59} {P : List UInt8 → Prop} {sb : Nat} (hj : JX S n slots base area img cs P sb) {size sl nx : Int} {old : Bool} :
    f_masters size sl 0 nx 0 old F S W [] (-1) false = some (true, (base : Int), (area : Int)) := by
  have hl := hj.len; have ha := hj.ar; have hb0 := hj.b0; have hb1 := hj.b1
  have two : ∃ s0 s1 : List UInt8, S[0]? = some (bs s0) ∧ S[1]? = some (bs s1) ∧ ((area = 0 ∧ mval 0 s0 = base ∧ mval 1 s1 < base) ∨ (area = 1 ∧ mval 0 s0 < base ∧ mval 1 s1 = base)) := by
    obtain ⟨s, e1, e2⟩ := hj.oth2
    rcases (show area = 0 ∨ area = 1 by omega) with h | h
    · subst h
      exact ⟨_, s, hj.mast, e1, .inl ⟨rfl, mval_mst (by omega), e2⟩⟩
    · subst h
      exact ⟨s, _, e1, hj.mast, .inr ⟨rfl, e2, mval_mst (by omega)⟩⟩
  obtain ⟨s0, s1, e0, e1, hv⟩ := two
  have step : ∀ (F1 : Bool × Int × Int × Int → Option ((Bool × Int × Int × Int) ⊕ O_masters)) (i : Nat) (s : List UInt8) (fnd : Bool) (b a : Int), i < 2 → S[i]? = some (bs s) →
      ((Option.bind (f_Read F S W [] (-1) false (i : Int)) fun (o : O_Read) => (match o with | (x18a, x18b) => (cond (x18b != 0) (some (.inl (fnd, (IntKind.wrap .i64 ((i : Int) + 1)), b, a))) ((f_SOpen x18a).bind fun (o : O_SOpen) => (match o with | (x25a, x25b, x25c) => (cond (x25c != 0) (some (.inl (fnd, (IntKind.wrap .i64 ((i : Int) + 1)), b, a))) (cond (bytesIn [(77 : Int), (IntKind.wrap .u8 (i : Int))]) (cond (!(x25b.toList == (strOf [(77 : Int), (IntKind.wrap .u8 (i : Int))]).toList)) (some (.inl (fnd, (IntKind.wrap .i64 ((i : Int) + 1)), b, a))) (cond (x25a == 0) (some (.inl (fnd, (IntKind.wrap .i64 ((i : Int) + 1)), b, a))) (cond fnd (cond (decide (x25a ≤ b)) (some (.inl (fnd, (IntKind.wrap .i64 ((i : Int) + 1)), b, a))) (some (.inl (true, (IntKind.wrap .i64 ((i : Int) + 1)), x25a, (i : Int))))) (some (.inl (true, (IntKind.wrap .i64 ((i : Int) + 1)), x25a, (i : Int))))))) none))))))) : Option ((Bool × Int × Int × Int) ⊕ O_masters)) =
      some (.inl (if mval i s = 0 ∨ (fnd = true ∧ ((mval i s : Nat) : Int) ≤ b) then (fnd, ((i + 1 : Nat) : Int), b, a) else (true, ((i + 1 : Nat) : Int), ((mval i s : Nat) : Int), (i : Int)))) := by
    intro F1 i s fnd b a hi hs
    have hi1 : IntKind.wrap .i64 ((i : Int) + 1) = ((i + 1 : Nat) : Int) := by rw [wrap_i64 (by omega) (by omega)]; rfl
    rw [Read_h hs, bind_some', hi1]
    show cond ((0 : Int) != 0) _ (Option.bind (f_SOpen (bs s)) _) = _
    rw [cbeq rfl, Open_eq s, bind_some']
    show cond ((openL s).2.2 != 0) _ (cond _ (cond (!((bs (openL s).2.1).toList == _)) _ _) none) = _
    by_cases hc : (openL s).2.2 = 0
    · rw [cbeq hc, ctrue (two_bytes i).1, (two_bytes i).2, beq_bs]
      by_cases hb : (openL s).2.1 = [77, UInt8.ofNat i]
      · have hmv : mval i s = (openL s).1 := by unfold mval; exact if_pos ⟨hc, hb⟩
        rw [cfalse (by rw [decide_eq_true hb]; rfl), hmv]
        by_cases hz : (openL s).1 = 0
        · rw [ceq (by omega), if_pos (.inl hz)]
        · rw [cne (by omega)]
          cases fnd with
          | false => rw [if_neg (by simp [hz])]; rfl
          | true =>
            show cond (decide (((openL s).1 : Int) ≤ b)) _ _ = _
            by_cases hle : ((openL s).1 : Int) ≤ b
            · rw [cpos hle, if_pos (.inr ⟨rfl, hle⟩)]
            · rw [cneg hle, if_neg (by simp [hz]; omega)]
      · have hmv : mval i s = 0 := by unfold mval; exact if_neg (fun h => hb h.2)
        rw [ctrue (by rw [decide_eq_false hb]; rfl), hmv, if_pos (.inl rfl)]
    · have hmv : mval i s = 0 := by unfold mval; exact if_neg (fun h => hc h.1)
      rw [cbne hc, hmv, if_pos (.inl rfl)]
  unfold f_masters
  have run : ∀ (f : Bool × Int × Int × Int → Option ((Bool × Int × Int × Int) ⊕ O_masters)) (fnd : Bool) (b a : Int),
      f (fnd, ((1 : Nat) : Int), b, a) = some (.inl (if mval 1 s1 = 0 ∨ (fnd = true ∧ ((mval 1 s1 : Nat) : Int) ≤ b) then (fnd, ((1 + 1 : Nat) : Int), b, a) else (true, ((1 + 1 : Nat) : Int), ((mval 1 s1 : Nat) : Int), ((1 : Nat) : Int)))) →
      (∀ fnd b a, f (fnd, ((1 + 1 : Nat) : Int), b, a) = some (.inr (fnd, b, a))) →
      loopO f (fnd, ((1 : Nat) : Int), b, a) = some (if mval 1 s1 = 0 ∨ (fnd = true ∧ ((mval 1 s1 : Nat) : Int) ≤ b) then (fnd, b, a) else (true, ((mval 1 s1 : Nat) : Int), ((1 : Nat) : Int))) := by
    intro f fnd b a h1 h2
    rw [loopO_eq, h1, bind_some']
    by_cases hq : mval 1 s1 = 0 ∨ (fnd = true ∧ ((mval 1 s1 : Nat) : Int) ≤ b)
    · rw [if_pos hq, if_pos hq]
      show loopO f (fnd, ((1 + 1 : Nat) : Int), b, a) = _
      rw [loopO_eq, h2, bind_some']
    · rw [if_neg hq, if_neg hq]
      show loopO f (true, ((1 + 1 : Nat) : Int), _, _) = _
      rw [loopO_eq, h2, bind_some']
  have close : ∀ (f : Bool × Int × Int × Int → Option ((Bool × Int × Int × Int) ⊕ O_masters)),
      f (false, 0, 0, 0) = some (.inl (if mval 0 s0 = 0 ∨ (false = true ∧ ((mval 0 s0 : Nat) : Int) ≤ 0) then (false, ((0 + 1 : Nat) : Int), 0, 0) else (true, ((0 + 1 : Nat) : Int), ((mval 0 s0 : Nat) : Int), ((0 : Nat) : Int)))) →
      (∀ fnd b a, f (fnd, ((1 : Nat) : Int), b, a) = some (.inl (if mval 1 s1 = 0 ∨ (fnd = true ∧ ((mval 1 s1 : Nat) : Int) ≤ b) then (fnd, ((1 + 1 : Nat) : Int), b, a) else (true, ((1 + 1 : Nat) : Int), ((mval 1 s1 : Nat) : Int), ((1 : Nat) : Int))))) →
      (∀ fnd b a, f (fnd, ((1 + 1 : Nat) : Int), b, a) = some (.inr (fnd, b, a))) →
      loopO f (false, 0, 0, 0) = some (true, (base : Int), (area : Int)) := by
    intro f hz0 h1 h2
    rw [loopO_eq, hz0, bind_some']
    show loopO f _ = _
    rcases hv with ⟨rfl, v0, v1⟩ | ⟨rfl, v0, v1⟩
    · rw [if_neg (by simp; omega)]
      show loopO f (true, ((1 : Nat) : Int), _, _) = _
      rw [run f _ _ _ (h1 _ _ _) h2, if_pos (.inr ⟨rfl, by omega⟩), v0]
    · by_cases hz : mval 0 s0 = 0
      · rw [if_pos (.inl hz)]
        show loopO f (false, ((1 : Nat) : Int), _, _) = _
        rw [run f _ _ _ (h1 _ _ _) h2, if_neg (by simp; omega), v1]
      · rw [if_neg (by simp; omega)]
        show loopO f (true, ((1 : Nat) : Int), _, _) = _
        rw [run f _ _ _ (h1 _ _ _) h2, if_neg (by simp; omega), v1]
  refine close _ ?_ (fun fnd b a => ?_) (fun fnd b a => ?_)
  · show cond (decide ((0 : Int) < 2)) _ _ = _
    rw [cpos (by decide)]
    exact step (fun _ => none) 0 s0 false 0 0 (by decide) e0
  · show cond (decide (((1 : Nat) : Int) < 2)) _ _ = _
    rw [cpos (by decide)]
    exact step (fun _ => none) 1 s1 fnd b a (by decide) e1
  · show cond (decide (((1 + 1 : Nat) : Int) < 2)) _ _ = _
    rw [cneg (by decide)]
theorem JOpen_x {F S : List ByteArray} {W : List E115} {n slots base area : Nat} {img : List UInt8} {cs : List E59} {P : List UInt8 → Prop} {sb : Nat} (hj : JX S n slots base area img cs P sb) :
    f_JOpen F S W [] (-1) false ((64 * n : Nat) : Int) (slots : Int) = some (.inl (bs img, ((64 * n : Nat) : Int), (slots : Int), (base : Int), ((base + cs.length : Nat) : Int), (area : Int), cs)) := by
  have hl := hj.len; have ha := hj.ar; have hb0 := hj.b0; have hb1 := hj.b1; have hn0 := hj.n0; have hn1 := hj.n1; have hs0 := hj.s0; have hs1 := hj.s1; have hcs := hj.csl
  have hA : area * n ≤ n := by rcases (show area = 0 ∨ area = 1 by omega) with e | e <;> rw [e] <;> omega
  have h0 : Int.tdiv ((64 * n : Nat) : Int) 64 = (n : Int) := by rw [tdiv_nn (by omega)]; omega
  have himg : 0 < (bs img).size := by rw [bs_size, hj.imgl]; omega
  unfold f_JOpen
  rw [fits_h hl hn0 hn1 hs0 hs1, bind_some', cbeq rfl, masters_x hj, bind_some']
  show cond (!true) _ (loopO _ _) = _
  rw [cfalse (show (!true) = false from rfl)]
  refine loopO_inv (fun (d : Nat) (st : Int × ByteArray) => ∃ k : Nat, st = ((k : Int), bs (img.take (64 * k))) ∧ d = n - k ∧ k ≤ n) ?_ n _ ⟨0, rfl, rfl, by omega⟩
  rintro d st ⟨k, rfl, rfl, hk⟩
  by_cases hc : k < n
  · left
    refine ⟨(((k + 1 : Nat) : Int), bs (img.take (64 * (k + 1)))), n - (k + 1), ?_, by omega, k + 1, rfl, rfl, by omega⟩
    show cond (decide ((k : Int) < IntKind.wrap .i64 (Int.tdiv ((64 * n : Nat) : Int) 64))) _ _ = _
    rw [h0, wrap_i64 (x := (n : Int)) (by omega) (by omega), cpos (by omega)]
    unfold f_sector
    have e1 : IntKind.wrap .i64 ((area : Int) * (n : Int)) = ((area * n : Nat) : Int) := by
      rw [show (area : Int) * (n : Int) = ((area * n : Nat) : Int) by simp, wrap_i64 (by omega) (by omega)]
    rw [h0, wrap_i64 (x := (n : Int)) (by omega) (by omega), e1, wrap_i64 (x := 2 + ((area * n : Nat) : Int)) (by omega) (by omega), wrap_i64 (x := 2 + ((area * n : Nat) : Int) + (k : Int)) (by omega) (by omega), Let_eq, bind_some', show 2 + ((area * n : Nat) : Int) + (k : Int) = ((2 + area * n + k : Nat) : Int) by omega, Read_h (hj.imgat k hc), bind_some']
    show cond ((0 : Int) != 0) _ (cond (decide ((bs (img.take (64 * k))).size + (chunk img k).size ≤ 140737488355328)) _ none) = _
    rw [cbeq rfl, cpos (by rw [bs_size, chunk_size hj.imgl hc, List.length_take]; omega), take_chunks img n k hj.imgl hc, wrap_i64 (by omega) (by omega)]; rfl
  · right
    have he : k = n := by omega
    subst he
    show cond (decide ((k : Int) < IntKind.wrap .i64 (Int.tdiv ((64 * k : Nat) : Int) 64))) _ (loopO _ _) = _
    rw [h0, wrap_i64 (x := (k : Int)) (by omega) (by omega), cneg (by omega), List.take_of_length_le (by rw [hj.imgl]; omega)]
    refine loopO_inv (fun (d : Nat) (st : Int × List E59 × ByteArray) => ∃ q : Nat, st = (((base + q : Nat) : Int), cs.take q, bs img) ∧ d = cs.length - q ∧ q ≤ cs.length) ?_ cs.length _ ⟨0, rfl, rfl, by omega⟩
    rintro d st ⟨q, rfl, rfl, hq⟩
    show (∃ s' m, cond (decide (IntKind.wrap .i64 (IntKind.wrap .u32 (((base + q : Nat) : Int) - (base : Int))) < (slots : Int))) _ _ = _ ∧ _) ∨ cond (decide (IntKind.wrap .i64 (IntKind.wrap .u32 (((base + q : Nat) : Int) - (base : Int))) < (slots : Int))) _ _ = _
    rw [wrap_u32 (x := ((base + q : Nat) : Int) - (base : Int)) (by omega) (by omega), wrap_i64 (x := ((base + q : Nat) : Int) - (base : Int)) (by omega) (by omega)]
    by_cases hqc : q < cs.length
    · left
      obtain ⟨r1, r2⟩ := hj.rcs q hqc
      refine ⟨(((base + (q + 1) : Nat) : Int), cs.take (q + 1), bs img), cs.length - (q + 1), ?_, by omega, q + 1, rfl, rfl, by omega⟩
      rw [cpos (by omega), slot_h hn1 (by omega) (by omega) rfl, bind_some', Read_h r2, bind_some']
      show cond ((0 : Int) != 0) _ (Option.bind (f_Recorded (bs (wrapL (base + q) (comE cs[q])))) _) = _
      rw [cbeq rfl, Recorded_eq _ (by rw [wrapL_len _ _ (okE_len r1)]; decide), recorded_rec (by omega) r1, bind_some']
      show cond ((0 : Int) != 0) _ (cond (((base + q : Nat) : Int) != ((base + q : Nat) : Int)) _ (cond (decide ((cs.take q ++ [(⟨cs[q].Kind, cs[q].Addr, bs cs[q].Data.data.toList⟩ : E59)]).length ≤ 7036874417611)) _ none)) = _
      rw [cbeq rfl, cbeq rfl, cpos (by simp; omega), E34_bs, wrap_u32 (by omega) (by omega)]
      rw [List.take_add_one, List.getElem?_eq_getElem hqc]; rfl
    · right
      have hqe : q = cs.length := by omega
      subst hqe
      have hfin : ∀ (X : Option ((Int × List E59 × ByteArray) ⊕ ((Int × ByteArray) ⊕ O_JOpen))), X = cond (decide (0 < (bs img).size)) (some (.inr (.inr (.inl (bs img, ((64 * k : Nat) : Int), (slots : Int), (base : Int), ((base + cs.length : Nat) : Int), (area : Int), cs.take cs.length))))) none → X = some (.inr (.inr (.inl (bs img, ((64 * k : Nat) : Int), (slots : Int), (base : Int), ((base + cs.length : Nat) : Int), (area : Int), cs)))) := by
        intro X hX
        rw [hX, cpos himg, List.take_length]
      by_cases hsl : cs.length < slots
      · obtain ⟨s, l1, l2, l3⟩ := hj.fst hsl
        rw [cpos (by omega), slot_h hn1 (by omega) (by omega) rfl, bind_some', Read_h l2, bind_some']
        show cond ((0 : Int) != 0) _ (Option.bind (f_Recorded (bs s)) _) = _
        rw [cbeq rfl, Recorded_eq _ (by rw [l1]; decide), bind_some']
        show cond ((recordedL s).2.2.2.2 != 0) _ (cond ((recordedL s).1 != ((base + cs.length : Nat) : Int)) _ _) = _
        by_cases hz : (recordedL s).2.2.2.2 = 0
        · have hlt : (recordedL s).1 ≠ ((base + cs.length : Nat) : Int) := l3.resolve_left (fun h => h hz)
          rw [cbeq hz, cbne (by omega)]
          exact hfin _ rfl
        · rw [cbne hz]
          exact hfin _ rfl
      · rw [cneg (by omega)]
        exact hfin _ rfl
def Half (base nb a : Nat) (s : List UInt8) : Prop := lastN s < base ∨ (s.take 60 = (wrapL nb [77, UInt8.ofNat a]).take 60 ∧ lastN s < nb)
abbrev JF (S : List ByteArray) (n slots base area : Nat) (img : List UInt8) (cs : List E59) : Prop := JX S n slots base area img cs (fun s => lastN s < base) base
abbrev JO (S : List ByteArray) (n slots base area : Nat) (img : List UInt8) (cs : List E59) : Prop := JX S n slots base area img cs (Half base (base + cs.length + slots) (1 - area)) (base + slots)
theorem JF.old {S : List ByteArray} {n slots base area : Nat} {img : List UInt8} {cs : List E59} (h : JF S n slots base area img cs) : JO S n slots base area img cs := by
  obtain ⟨s, e0, e1, e2, e3⟩ := h.other
  exact ⟨h.full, h.len, h.n0, h.n1, h.s0, h.s1, h.b0, h.b1, h.ar, h.mast, ⟨s, e0, e1, e2, .inl e3⟩, h.imgl, h.imgat, h.csl, h.rcs, fun k h1 h2 => by
    obtain ⟨s, a1, a2, a3⟩ := h.low k h1 h2
    exact ⟨s, a1, a2, by omega⟩, h.fst⟩
theorem JX.put {S : List ByteArray} {n slots base area : Nat} {img : List UInt8} {cs : List E59} {P : List UInt8 → Prop} {sb : Nat} (h : JX S n slots base area img cs P sb) {i : Nat} (hi : i < n) {x : ByteArray} (hx : x.size = 64) : JX (S.set (2 + (1 - area) * n + i) x) n slots base area img cs P sb := by
  have ha := h.ar; have hl := h.len; have hn0 := h.n0; have hn1 := h.n1
  have hA : (1 - area) * n ≤ n := by rcases (show area = 0 ∨ area = 1 by omega) with e | e <;> rw [e] <;> simp
  have hB : ∀ j, j < n → 2 + (1 - area) * n + i ≠ 2 + area * n + j := by
    intro j hj
    rcases (show area = 0 ∨ area = 1 by omega) with e | e <;> rw [e] <;> simp <;> omega
  have ne : ∀ j, j ≠ 2 + (1 - area) * n + i → (S.set (2 + (1 - area) * n + i) x)[j]? = S[j]? := fun j hj => List.getElem?_set_ne (by omega)
  obtain ⟨s, e0, e1, e2⟩ := h.other
  refine ⟨h.full.set hx, by rw [List.length_set]; exact hl, hn0, hn1, h.s0, h.s1, h.b0, h.b1, ha, (ne _ (by omega)).trans h.mast, ⟨s, e0, (ne _ (by omega)).trans e1, e2⟩, h.imgl, fun j hj => (ne _ (Ne.symm (hB j hj))).trans (h.imgat j hj), h.csl, fun k hk => ?_, fun k h1 h2 => ?_, fun h1 => ?_⟩
  · obtain ⟨a1, a2⟩ := h.rcs k hk
    exact ⟨a1, (ne _ (by omega)).trans a2⟩
  · obtain ⟨s, a1, a2, a3⟩ := h.low k h1 h2
    exact ⟨s, a1, (ne _ (by omega)).trans a2, a3⟩
  · obtain ⟨s, a1, a2, a3⟩ := h.fst h1
    exact ⟨s, a1, (ne _ (by omega)).trans a2, a3⟩
theorem JX.putN {S : List ByteArray} {n slots base area : Nat} {img : List UInt8} {cs : List E59} {P : List UInt8 → Prop} {sb : Nat} (h : JX S n slots base area img cs P sb) {f : Nat → ByteArray} (hf : ∀ k, (f k).size = 64) : ∀ k, k ≤ n → JX (putN S (2 + (1 - area) * n) f k) n slots base area img cs P sb
  | 0, _ => h
  | k + 1, hk => by
    show JX ((Go.Proofs.YtcgigdfahlmfaaaGreatDoor.putN S (2 + (1 - area) * n) f k).set _ _) n slots base area img cs P sb
    exact (JX.putN h hf k (by omega)).put (by omega) (hf k)
theorem JX.chk2 {S : List ByteArray} {n slots base area nb : Nat} {img m : List UInt8} {cs : List E59} {P : List UInt8 → Prop} {sb : Nat} (h : JX S n slots base area img cs P sb) (hm : m.length = 64 * n) (h0 : base + cs.length ≤ nb) (h1 : base < nb) (h2 : sb ≤ nb) (h3 : nb ≤ 4000000000) : JF (chk2 S n nb area m) n slots nb (1 - area) m [] := by
  have ha := h.ar; have hl := h.len; have hn0 := h.n0; have hn1 := h.n1
  have hA : (1 - area) * n ≤ n := by rcases (show area = 0 ∨ area = 1 by omega) with e | e <;> rw [e] <;> simp
  have hpl : (Go.Proofs.YtcgigdfahlmfaaaGreatDoor.putN S (2 + (1 - area) * n) (chunk' m n) n).length = S.length := putN_len _ _ _ _
  have hlow : ∀ k, k < slots → ∃ s, s.length = 64 ∧ ((Go.Proofs.YtcgigdfahlmfaaaGreatDoor.putN S (2 + (1 - area) * n) (chunk' m n) n).set (1 - area) (mst nb (1 - area)))[2 + 2 * n + k]? = some (bs s) ∧ lastN s < nb := by
    intro k hk2
    rw [List.getElem?_set_ne (by omega), putN_out n _ (by omega)]
    by_cases hk : k < cs.length
    · obtain ⟨e1, e2⟩ := h.rcs k hk
      exact ⟨_, wrapL_len _ _ (okE_len e1), e2, by rw [last_wrap (by omega) (okE_len e1)]; omega⟩
    · obtain ⟨s, e0, e1, e2⟩ := h.low k (by omega) hk2
      exact ⟨s, e0, e1, by omega⟩
  unfold Go.Proofs.YtcgigdfahlmfaaaGreatDoor.chk2
  refine ⟨(putN_full h.full (chunk'_size hm) n).set (mst_size _ _), by rw [List.length_set, hpl]; exact hl, hn0, hn1, h.s0, h.s1, by have := h.b0; omega, h3, by omega, List.getElem?_set_self (by rw [hpl]; omega), ?_, hm, fun i hi => ?_, by simp, fun k hk => absurd hk (by simp), fun k hk1 hk2 => hlow k hk2, fun hk => ?_⟩
  · have hb1 := h.b1
    refine ⟨wrapL base [77, UInt8.ofNat area], wrapL_len _ _ (by simp), ?_, ?_, ?_⟩
    · rw [show 1 - (1 - area) = area by omega, List.getElem?_set_ne (by omega), putN_out n area (by omega), h.mast]; rfl
    · rw [show 1 - (1 - area) = area by omega, mval_mst (by omega)]; exact h1
    · rw [last_wrap (by omega) (by simp)]; exact h1
  · rw [List.getElem?_set_ne (by omega), putN_in n (by omega) i hi, chunk'_eq hi]
  · obtain ⟨s, a1, a2, a3⟩ := hlow 0 (by have := h.s0; omega)
    refine ⟨s, a1, a2, ?_⟩
    by_cases hr : (recordedL s).2.2.2.2 = 0
    · right
      rw [recorded_last hr]
      show ((lastN s : Nat) : Int) ≠ ((nb + 0 : Nat) : Int)
      omega
    · exact .inl hr
end Go.Proofs.YtcgigdfahlmfaaaGreatDoor
