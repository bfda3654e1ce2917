/-
  JournalParts: what the law computes.
-/
import Derived.Test.YtpbiilgehbiacaaDoorJRun
import Derived.Test.YtpbiilgehbiacaaDoorJLaw2
namespace Go.Proofs.YtpbiilgehbiacaaDoor
open Go.Vc
set_option linter.unusedVariables false
set_option linter.unusedSimpArgs false

theorem zero_last : lastN (List.replicate 64 0) = 0 := by decide
theorem fmt_JF {S : List ByteArray} {n slots : Nat} {m : List UInt8} (hf : Full S) (hl : S.length = 2 + 2 * n + slots) (hn0 : 1 ≤ n) (hn1 : n ≤ 2048) (hs0 : 1 ≤ slots) (hs1 : slots ≤ 1024) (hm : m.length = 64 * n) : JF (fmt S n slots m) n slots 1 0 m [] := by
  have hzl := zN_len S n (slots + 2)
  have hpl : (putN (zN S n (slots + 2)) (2 + 0 * n) (chunk' m n) n).length = S.length := (putN_len _ _ _ _).trans hzl
  have hz : ∀ k, k < slots → (fmt S n slots m)[2 + 2 * n + k]? = some (bs (List.replicate 64 0)) := by
    intro k hk
    unfold fmt
    rw [List.getElem?_set_ne (by omega), putN_out n _ (by omega)]
    have := zN_hi (S := S) hn0 (slots + 2) (by omega) (2 + k) (by omega) (by omega)
    rw [show 2 * n + (2 + k) = 2 + 2 * n + k by omega] at this
    exact this
  refine ⟨?_, ?_, hn0, hn1, hs0, hs1, by omega, by omega, by omega, ?_, ?_, hm, fun i hi => ?_, by simp, fun k hk => absurd hk (by simp), fun k hk1 hk2 => ⟨_, by simp, hz k hk2, by rw [zero_last]; decide⟩, fun hk => ⟨_, by simp, hz 0 (by omega), .inl zero_rec⟩⟩
  · unfold fmt; exact (putN_full (zN_full hf n _) (chunk'_size hm) n).set (mst_size _ _)
  · unfold fmt; rw [List.length_set, hpl]; exact hl
  · unfold fmt; exact List.getElem?_set_self (by rw [hpl]; omega)
  · refine ⟨List.replicate 64 0, by simp, ?_, ?_, by rw [zero_last]; decide⟩
    · unfold fmt; rw [List.getElem?_set_ne (by omega), putN_out n _ (by omega), zN_lo (slots + 2) (by omega) 1 (by omega) (by omega)]; rfl
    · unfold mval; rw [if_neg (by rw [zero_open]; simp)]; decide
  · unfold fmt; rw [List.getElem?_set_ne (by omega), putN_in n (by omega) i hi, chunk'_eq hi]
theorem Check_x {S : List ByteArray} {n slots base area nx : Nat} {old : Bool} {img m : List UInt8} {cs : List E34} {P : List UInt8 → Prop} {sb : Nat} (hj : JX S n slots base area img cs P sb) (hm : m.length = 64 * n) (hx : nx ≤ 3999990000) :
    f_Check ((64 * n : Nat) : Int) (slots : Int) (base : Int) (nx : Int) (area : Int) old S S [] [] (-1) false (bs m) = some (0, ((nx + slots : Nat) : Int), ((nx + slots : Nat) : Int), ((1 - area : Nat) : Int), false, -1, false, chk2 S n (nx + slots) area m, chk2 S n (nx + slots) area m, []) := by
  have ha := hj.ar; have hl := hj.len; have hn0 := hj.n0; have hn1 := hj.n1; have hs1 := hj.s1
  have hA : (1 - area) * n ≤ n := by rcases (show area = 0 ∨ area = 1 by omega) with e | e <;> rw [e] <;> simp
  unfold f_Check
  rw [bs_size, cbeq (by omega), cneg (by omega), wrap_u32 (x := (slots : Int)) (by omega) (by omega), wrap_u32 (x := (nx : Int) + (slots : Int)) (by omega) (by omega), Let_eq, wrap_i64 (x := 1 - (area : Int)) (by omega) (by omega), show 1 - (area : Int) = ((1 - area : Nat) : Int) by omega, lay_h (Good.self hj.full) hm hn1 (by omega) (by omega) (by simp), bind_some']
  show cond ((0 : Int) != 0) _ (Option.bind (f_master _ _ _ _ _ _ _ _ _ _ _ _ _ _) _) = _
  have hg2 : Good (putN S (2 + (1 - area) * n) (chunk' m n) n) (putN S (2 + (1 - area) * n) (chunk' m n) n) [] := Good.self (putN_full hj.full (chunk'_size hm) n)
  rw [cbeq rfl, show (nx : Int) + (slots : Int) = ((nx + slots : Nat) : Int) by omega, master_h hg2 (by omega) (by rw [putN_len]; omega) (by simp), bind_some']
  show cond ((0 : Int) != 0) _ _ = _
  rw [cbeq rfl]; rfl
theorem Fuel_f (x : Int) (hx : x ≤ 9223372036854775807) : ∃ fu, FU fu ∧ ∀ F S W B f d, f_Fuel F S W B f d (if (0 : Int) > x then 0 else x) = some fu := by
  refine ⟨if (-1 : Int) > (if (0 : Int) > x then 0 else x) then -1 else (if (0 : Int) > x then 0 else x), ?_, fun F S W B f d => rfl⟩
  unfold FU
  split <;> split <;> omega
/-- A Check of an opened journal, on a disk that may give out. -/
theorem old_check {L : List ByteArray} {slots base area bd : Nat} {img s : List UInt8} {cs : List E34} (hj : JO L 2 slots base area img cs) (hr : runE img cs = some s) {fu : Int} (hf : FU fu) (hb : base + cs.length + slots ≤ bd) (hbd : bd ≤ 3999990000) :
    Ends (f_Check ((64 * 2 : Nat) : Int) (slots : Int) (base : Int) ((base + cs.length : Nat) : Int) (area : Int) true L L [] [] fu false (bs s)) fun r => ∃ e b2 n2 a2 o2 fu2 dn2 F2 S2 W2, r = (e, b2, n2, a2, o2, fu2, dn2, F2, S2, W2) ∧ Ex slots bd F2 W2 [bs s] 0 := by
  have hl := hj.len; have ha := hj.ar; have hs0 := hj.s0
  have hm : s.length = 64 * 2 := by rw [runE_len cs hr]; exact hj.imgl
  obtain ⟨r, e, h⟩ := Check_f (base := (base : Int)) (nx := base + cs.length) (old := true) hf hj.full hl (by omega) (by omega) hj.s1 ha (Good.self hj.full) (by simp) hm (by omega)
  refine ⟨r, e, ?_⟩
  rcases h with ⟨fu', hf', rfl⟩ | ⟨fu', S', X, rfl, hxl, hX⟩ | ⟨fu', S', X, rfl, hX⟩
  · have hc := hj.chk2 (nb := base + cs.length + slots) (m := s) hm (by omega) (by omega) (by omega) (by omega)
    refine ⟨_, _, _, _, _, _, _, _, _, _, rfl, hc.full, hc.len, (fun w hw => by cases hw), by simp, fun picks => ?_⟩
    have : crashL (chk2 L 2 (base + cs.length + slots) area s) [] picks = chk2 L 2 (base + cs.length + slots) area s := crash_keep (W := []) (I := fun L' => L' = chk2 L 2 (base + cs.length + slots) area s) (fun L' _ w hw => by cases hw) picks _ rfl
    rw [this]
    exact ⟨_, _, s, [], s, hc.old, hb, rfl, by simp⟩
  · refine ⟨_, _, _, _, _, _, _, _, _, _, rfl, hj.full, hl, fun w hw => (hX w (by simpa using hw)).soft (by omega), by simp, fun picks => ?_⟩
    have := safe_lay (W := [] ++ X) hj (fun w hw => hX w (by simpa using hw)) picks
    exact ⟨base, area, img, cs, s, this, by omega, hr, by simp⟩
  · have hP := hj.putN (f := chunk' s 2) (chunk'_size (n := 2) hm) 2 (Nat.le_refl _)
    refine ⟨_, _, _, _, _, _, _, _, _, _, rfl, hP.full, hP.len, fun w hw => ?_, by simp, fun picks => ?_⟩
    · rw [hX w hw]
      exact ⟨by show (0 : Int) ≤ ((1 - area : Nat) : Int); omega, by show ((1 - area : Nat) : Int) < _; rw [hP.len]; omega, mst_size _ _⟩
    · rcases safe_master hP (Nat.le_refl _) (fun s hs => hs) hX picks with e | e
      · rw [e]
        exact ⟨_, _, s, [], s, (hj.chk2 (nb := base + cs.length + slots) hm (by omega) (by omega) (by omega) (by omega)).old, hb, rfl, by simp⟩
      · exact ⟨base, area, img, cs, s, e, by omega, hr, by simp⟩

theorem bs_inj2 {a b : List UInt8} (h : bs a = bs b) : a = b := by
  have : (bs a == bs b) = true := by rw [h, bs_beq]; simp
  rw [bs_beq] at this
  exact of_decide_eq_true this
theorem ends_true {o : Option Bool} (h : ∃ r, o = some r ∧ r = true) : o = some true := by
  obtain ⟨r, e, rfl⟩ := h; exact e
/-- The two shapes of the rounds' states. -/
abbrev T1 : Type := ByteArray × Int × Int × Int × Bool × Int × Int × Int × Int × Int × Bool × (List ByteArray) × (List ByteArray) × (List E91) × (List (Int × Bool))
abbrev T2 : Type := ByteArray × Int × Int × Int × Int × Int × Int × Int × Bool × Int × Bool × (List ByteArray) × (List ByteArray) × (List E91) × (List (Int × Bool)) × (List ByteArray) × (List ByteArray) × (List E91) × (List (Int × Bool))
def Out (slots cmds rounds d : Nat) (st : T1 ⊕ T2) : Prop :=
  (∃ (k at_ base area : Nat) (now : List UInt8) (S : List ByteArray), st = .inl (bs now, (at_ : Int), (k : Int), -1, false, ((64 * 2 : Nat) : Int), (slots : Int), (base : Int), (base : Int), (area : Int), false, S, S, [], []) ∧ d = rounds + 1 - k ∧ k ≤ rounds ∧ at_ ≤ cmds ∧ base ≤ 1 + 40 * at_ + 80 * k ∧ JF S 2 slots base area now []) ∨
  (d = 0 ∧ ∃ a b k c, st = .inr (a, b, k, c) ∧ (rounds : Int) < k)
def InQ (slots cmds bd0 : Nat) (r : ByteArray × Int × Int × Int × Bool × Int × Int × Int × Bool × (List ByteArray) × (List ByteArray) × (List E91) × (List ByteArray)) : Prop :=
  ∃ now, ∃ (at_ sure : Nat), ∃ fu dn b2 n2 a2 o2 F S W may, r = (now, (at_ : Int), (sure : Int), fu, dn, b2, n2, a2, o2, F, S, W, may) ∧ at_ ≤ cmds ∧ may.length ≤ 100 ∧ Ex slots (1 + 40 * at_ + bd0) F W may sure
theorem out_of {σ ρ : Type} {o : Option (σ ⊕ ρ)} {d : Nat} {I : Nat → σ → Prop} (h : Ends o fun t => ∃ s', t = .inl s' ∧ ∃ m, m < d ∧ I m s') : ∃ s' m, o = some (.inl s') ∧ m < d ∧ I m s' := by
  obtain ⟨t, e, s', rfl, m, h1, h2⟩ := h
  exact ⟨s', m, e, h1, h2⟩
theorem step_of {σ ρ : Type} {o : Option (σ ⊕ ρ)} {d : Nat} {I : Nat → σ → Prop} {P : ρ → Prop} (h : Ends o fun t => (∃ s', t = .inl s' ∧ ∃ m, m < d ∧ I m s') ∨ ∃ r, t = .inr r ∧ P r) : (∃ s' m, o = some (.inl s') ∧ m < d ∧ I m s') ∨ ∃ r, o = some (.inr r) ∧ P r := by
  obtain ⟨t, e, ⟨s', rfl, m, h1, h2⟩ | ⟨r, rfl, h⟩⟩ := h
  · exact .inl ⟨s', m, e, h1, h2⟩
  · exact .inr ⟨r, e, h⟩
def InI (slots cmds bd0 d : Nat) (st : ByteArray × Int × Int × Int × Bool × Int × Int × Int × Bool × (List ByteArray) × (List ByteArray) × (List E91) × (List ByteArray)) : Prop :=
  ∃ (at_ sure base area m0 : Nat), ∃ (now img : List UInt8), ∃ (cs : List E34), ∃ (F S : List ByteArray), ∃ (W : List E91), ∃ (may : List ByteArray), ∃ (fu : Int),
    st = (bs now, (at_ : Int), (sure : Int), fu, false, (base : Int), ((base + cs.length : Nat) : Int), (area : Int), false, F, S, W, may) ∧ d = cmds - at_ ∧ at_ ≤ cmds ∧ FU fu ∧ base ≤ 1 + 40 * at_ + bd0 ∧ may.length ≤ at_ + 1 ∧ Lv slots F S W base area img cs m0 now may sure
theorem Lv.init {S : List ByteArray} {slots base area : Nat} {now : List UInt8} (h : JF S 2 slots base area now []) : Lv slots S S [] base area now [] 0 now [bs now] 0 :=
  ⟨h, h, Good.self h.full, Nat.le_refl _, (fun w hw => by cases hw), Nat.le_refl _, rfl, ⟨[], rfl, Nat.le_refl _⟩, fun m h1 h2 => ⟨now, by simp [runE], by simp⟩⟩
theorem JournalParts_eq (xs : List E34) (q1 : Int) (ys : List E48) (hy : ∀ y ∈ ys, (y.Fuel ≤ 9223372036854775807 ∧ y.More ≤ 9223372036854775807) ∧ y.Picks.length ≤ 9223372036854775807 ∧ y.Again.length ≤ 9223372036854775807) : f_JournalParts xs q1 ys = some true := by
  unfold f_JournalParts
  rw [awake_eq, bind_some', cfalse (show (!true) = false from rfl)]
  by_cases h1 : ((ys.length : Nat) : Int) > 6
  · rw [cpos h1]
  rw [cneg h1]
  by_cases h2 : ((xs.length : Nat) : Int) > 60
  · rw [cpos h2]
  rw [cneg h2]
  by_cases h3 : q1 < 1
  · rw [cpos h3]
  rw [cneg h3]
  by_cases h4 : q1 > 20
  · rw [cpos h4]
  rw [cneg h4]
  obtain ⟨slots, rfl⟩ := Int.eq_ofNat_of_zero_le (show 0 ≤ q1 by omega)
  rw [show f_Sectors 128 (slots : Int) = _ from Sectors_h (n := 2) (slots := slots) (by decide) (by decide) (by omega) (by omega), bind_some']
  dsimp only
  rw [cbeq rfl, New_h (L := 2 + 2 * 2 + slots) (by omega) (by omega), bind_some']
  dsimp only
  rw [show f_image 2 (ByteArray.mk #[98, 101, 103, 105, 110]) = some (bs (imgL 2 [98, 101, 103, 105, 110])) from image_eq 2 (by decide) [98, 101, 103, 105, 110] (by simp), bind_some']
  have him := imgL_len 2 [98, 101, 103, 105, 110]
  generalize imgL 2 [98, 101, 103, 105, 110] = im at him
  obtain ⟨hF, _⟩ := new_format (n := 2) (slots := slots) (m := im) (by decide) (by decide) (by omega) (by omega) him
  have hJ := fmt_JF (S := List.replicate (2 + 2 * 2 + slots) Z) (n := 2) (slots := slots) (zeros_full _) (by simp) (by decide) (by decide) (by omega) (by omega) him
  rw [hF, bind_some']
  dsimp only
  generalize fmt (List.replicate (2 + 2 * 2 + slots) Z) 2 slots im = S0 at hJ
  refine ends_true (loopO_ex (fun r : Bool => r = true) (Out slots xs.length ys.length) ?_ (ys.length + 1) _ (.inl ⟨0, 0, 1, 0, im, S0, rfl, rfl, by omega, by omega, by omega, hJ⟩))
  rintro d st (⟨k, at0, base0, area0, now0, S1, rfl, rfl, hk, hat0, hbase0, hj0⟩ | ⟨rfl, a, b, k, c, rfl, hk⟩)
  · have hs0 := hj0.s0
    left
    refine out_of ?_
    show Ends (cond (decide ((k : Int) ≤ ((ys.length : Nat) : Int))) (Option.bind _ _) _) _
    rw [cpos (by omega)]
    refine ends_bind (fun fu => FU fu) ?_ ?_
    · by_cases hk2 : k < ys.length
      · rw [cpos (by omega), cand (by omega) (by omega), ixL_nat hk2]
        obtain ⟨fu, hfu, e⟩ := Fuel_f ys[k].Fuel (hy _ (List.getElem_mem hk2)).1.1
        rw [e, bind_some']
        exact ⟨fu, rfl, hfu⟩
      · rw [cneg (by omega)]
        exact ⟨-1, rfl, by unfold FU; omega⟩
    intro fu0 hfu0
    refine ends_bind (InQ slots xs.length (80 * k)) (loopO_ex (InQ slots xs.length (80 * k)) (InI slots xs.length (80 * k)) ?_ (xs.length - at0) _ ⟨at0, 0, base0, area0, 0, now0, now0, [], S1, S1, [], [bs now0], fu0, rfl, rfl, hat0, hfu0, hbase0, by simp, Lv.init hj0⟩) ?_
    · rintro d st ⟨at1, sure, base, area, m0, now, img, cs, F, S, W, may, fu, rfl, rfl, hat, hfu, hbase, hmay, hv⟩
      have hlen := hv.js.len; have hcsl := hv.js.csl; have hwl := hv.wl; have hmayn := hv.le
      have hnow : now.length = 64 * 2 := by rw [runE_len cs hv.run]; exact hv.js.imgl
      refine step_of ?_
      show Ends (cond (decide ((at1 : Int) < ((xs.length : Nat) : Int))) (cond (decide (0 ≤ (at1 : Int)) && decide ((at1 : Int) < ((xs.length : Nat) : Int))) (Option.bind (f_rApply (bs now) (ixL xs (at1 : Int)).Kind (ixL xs (at1 : Int)).Addr (ixL xs (at1 : Int)).Data) _) none) _) _
      by_cases hc : at1 < xs.length
      · rw [cpos (by omega), cand (by omega) (by omega), ixL_nat hc, rApply_E (by omega) xs[at1], bind_some']
        generalize xs[at1] = c
        have hat2 : IntKind.wrap .i64 ((at1 : Int) + 1) = ((at1 + 1 : Nat) : Int) := by rw [wrap_i64 (by omega) (by omega)]; rfl
        show Ends (cond ((stepE now c).2 != 0) _ (cond (decide ((may ++ [bs (stepE now c).1]).length ≤ 14073748835378)) (Option.bind (f_Left _ _ _ _ _ _ _ _ _ _ _ _) _) none)) _
        by_cases h0 : (stepE now c).2 = 0
        · have hm : (stepE now c).1.length = 64 * 2 := (stepE_len h0).trans hnow
          have hsure : IntKind.wrap .i64 ((((may ++ [bs (stepE now c).1]).length : Nat) : Int) - 1) = ((may.length : Nat) : Int) := by
            rw [List.length_append, List.length_singleton, wrap_i64 (by omega) (by omega)]; omega
          rw [cbeq h0, cpos (by simp; omega), show f_Left ((64 * 2 : Nat) : Int) (slots : Int) (base : Int) ((base + cs.length : Nat) : Int) (area : Int) false F S W [] fu false = some ((slots - cs.length : Nat) : Int) from Left_h hv.js.s1 hcsl (by omega), bind_some']
          show Ends (cond (((slots - cs.length : Nat) : Int) == 0) (Option.bind (f_Check _ _ _ _ _ _ _ _ _ _ _ _ _) _) (Option.bind (f_Append _ _ _ _ _ _ _ _ _ _ _ _ _ _ _) _)) _
          by_cases hfull : cs.length = slots
          · rw [ceq (by omega)]
            obtain ⟨r, e, hr⟩ := Check_f (F := F) (S := S) (W := W) (n := 2) (slots := slots) (area := area) (nx := base + cs.length) (base := (base : Int)) (old := false) (m := (stepE now c).1) hfu hv.js.full hlen (by omega) (by omega) hv.js.s1 hv.js.ar hv.good (by omega) hm (by omega)
            rw [e, bind_some']
            rcases hr with ⟨fu', hf', rfl⟩ | ⟨fu', S', X, rfl, hxl, hX⟩ | ⟨fu', S', X, rfl, hX⟩
            · show Ends (cond ((0 : Int) != 0) _ (Let _ _)) _
              rw [cbeq rfl, Let_eq, hat2, hsure]
              exact ⟨_, rfl, .inl ⟨_, rfl, xs.length - (at1 + 1), by omega, at1 + 1, may.length, base + cs.length + slots, 1 - area, 0, (stepE now c).1, (stepE now c).1, [], _, _, [], _, fu', rfl, rfl, by omega, hf', by omega, by simp; omega, hv.check hm (by omega)⟩⟩
            · show Ends (cond ((10 : Int) != 0) _ _) _
              rw [cbne (by decide), hat2]
              exact ⟨_, rfl, .inr ⟨_, rfl, _, at1 + 1, sure, _, _, _, _, _, _, _, _, _, _, rfl, by omega, by simp; omega, (hv.exitX hX (bd := 1 + 40 * at1 + 80 * k) (by omega)).more (by omega) _⟩⟩
            · show Ends (cond ((10 : Int) != 0) _ _) _
              rw [cbne (by decide), hat2]
              exact ⟨_, rfl, .inr ⟨_, rfl, _, at1 + 1, sure, _, _, _, _, _, _, _, _, _, _, rfl, by omega, by simp; omega, hv.exitM hm hX (by omega) (by omega)⟩⟩
          · rw [cne (by omega)]
            rcases Append_f (F := F) (S := S) (W := W) (n := 2) (slots := slots) (base := base) (k := cs.length) (area := (area : Int)) hfu hlen (by omega) hv.js.s1 (by omega) (by omega) c (stepE_ok h0) (by omega) with e | ⟨fu', hf', e⟩
            · rw [e, bind_some']
              show Ends (cond ((10 : Int) != 0) _ _) _
              rw [cbne (by decide), hat2]
              exact ⟨_, rfl, .inr ⟨_, rfl, _, at1 + 1, sure, _, _, _, _, _, _, _, _, _, _, rfl, by omega, by simp; omega, (hv.exit (bd := 1 + 40 * at1 + 80 * k) (by omega)).more (by omega) _⟩⟩
            · have hv' := hv.app h0 (by omega)
              have hwl' := hv'.wl
              rw [List.length_append, List.length_singleton] at hwl'
              rw [e, bind_some']
              show Ends (cond ((0 : Int) != 0) _ (cond (Int.tmod (IntKind.wrap .i64 ((at1 : Int) + 1)) 4 == 3) (Option.bind (f_JSync _ _ _ _ _ _ _ _ _ _ _ _) _) _)) _
              rw [cbeq rfl, hat2]
              by_cases h43 : Int.tmod ((at1 + 1 : Nat) : Int) 4 = 3
              · rw [ceq h43]
                rcases JSync_f hf' hv'.good (by simp; omega) (a := ((64 * 2 : Nat) : Int)) (b := (slots : Int)) (c := (base : Int)) (d := ((base + (cs.length + 1) : Nat) : Int)) (e := (area : Int)) (o := false) with e2 | ⟨fu2, hf2, e2⟩
                · rw [e2, bind_some']
                  show Ends (cond ((10 : Int) != 0) _ _) _
                  rw [cbne (by decide)]
                  exact ⟨_, rfl, .inr ⟨_, rfl, _, at1 + 1, sure, _, _, _, _, _, _, _, _, _, _, rfl, by omega, by simp; omega, hv'.exit (by omega)⟩⟩
                · rw [e2, bind_some']
                  show Ends (cond ((0 : Int) != 0) _ (Let _ _)) _
                  rw [cbeq rfl, Let_eq, hsure]
                  have hv2 := hv'.sync
                  rw [show (may ++ [bs (stepE now c).1]).length - 1 = may.length by simp] at hv2
                  exact ⟨_, rfl, .inl ⟨_, rfl, xs.length - (at1 + 1), by omega, at1 + 1, may.length, base, area, (cs ++ [c]).length, (stepE now c).1, img, cs ++ [c], _, _, [], _, fu2, by rw [List.length_append, List.length_singleton], rfl, by omega, hf2, by omega, by simp; omega, hv2⟩⟩
              · rw [cne h43]
                exact ⟨_, rfl, .inl ⟨_, rfl, xs.length - (at1 + 1), by omega, at1 + 1, sure, base, area, m0, (stepE now c).1, img, cs ++ [c], _, _, _, _, fu', by rw [List.length_append, List.length_singleton], rfl, by omega, hf', by omega, by simp; omega, hv'⟩⟩
        · rw [cbne h0, hat2]
          exact ⟨_, rfl, .inl ⟨_, rfl, xs.length - (at1 + 1), by omega, at1 + 1, sure, base, area, m0, now, img, cs, F, S, W, may, fu, rfl, rfl, by omega, hfu, by omega, by omega, hv⟩⟩
      · rw [cneg (by omega)]
        exact ⟨_, rfl, .inr ⟨_, rfl, bs now, at1, sure, fu, false, _, _, _, false, F, S, W, may, rfl, hat, by omega, hv.exit (by omega)⟩⟩
    rintro r ⟨now, at1, sure, fu1, dn, b2, n2, a2, o2, F, S, W, may, rfl, hat1, hmayl, hex⟩
    have hsl := hex.le
    have hT : ((may.drop (sure : Int).toNat).take (may.length - (sure : Int).toNat)) = may.drop sure := by rw [Int.toNat_natCast, List.take_of_length_le (by simp)]
    have hN : (may.length - (sure : Int).toNat : Nat) = (may.drop sure).length := by rw [Int.toNat_natCast, List.length_drop]
    show Ends (cond (decide ((k : Int) < ((ys.length : Nat) : Int))) (cond _ (Option.bind (f_Crash _ _ _ _ _ _ _) _) none) (Option.bind (f_Crash _ _ _ _ _ _ _) _)) _
    by_cases hk2 : k < ys.length
    · obtain ⟨⟨hy1, hy2⟩, hy3, hy4⟩ := hy _ (List.getElem_mem hk2)
      rw [cpos (by omega), cand (by omega) (by omega), ixL_nat hk2, Crash_eq F S W [] fu1 dn ys[k].Picks (by omega) hex.full hex.soft (by rw [hex.len]; omega), bind_some']
      obtain ⟨base, area, img, cs, s, hjo, hb, hrun, hmem⟩ := hex.safe ys[k].Picks
      generalize crashL F W ys[k].Picks = L at hjo ⊢
      have hcsl := hjo.csl
      have himg : img.length = 64 * 2 := hjo.imgl
      show Ends (Option.bind (f_JOpen L L [] [] (-1) false 128 (slots : Int)) _) _
      rw [show f_JOpen L L [] [] (-1) false 128 (slots : Int) = _ from JOpen_x hjo, bind_some']
      show Ends (loopO _ (bs img, 0)) _
      refine ends_apply hrun (fun i hi m hm h0 => ?_) ?_
      · show cond (decide ((i : Int) < ((cs.length : Nat) : Int))) (cond _ (Option.bind (f_rApply (bs m) _ _ _) _) none) _ = _
        rw [cpos (by omega), cand (by omega) (by omega), ixL_nat hi, rApply_E (by omega) cs[i], bind_some']
        show cond ((stepE m cs[i]).2 != 0) _ _ = _
        rw [cbeq h0, wrap_i64 (by omega) (by omega)]; rfl
      · show Ends (cond (decide (((cs.length : Nat) : Int) < ((cs.length : Nat) : Int))) _ (cond (decide (0 ≤ ((may.length : Nat) : Int)) && decide (((may.length : Nat) : Int) ≤ ((may.length : Nat) : Int))) (cond (decide (0 ≤ (sure : Int)) && decide ((sure : Int) ≤ ((may.length : Nat) : Int))) (loopO _ _) none) none)) _
        rw [cneg (by omega), cand (by omega) (by omega), cand (by omega) (by omega)]
        refine ends_found hmem (fun i hi b => ?_) ?_
        · show cond (decide ((i : Int) < ((may.length - (sure : Int).toNat : Nat) : Int))) (cond (decide (0 ≤ (i : Int)) && decide ((i : Int) < ((may.length - (sure : Int).toNat : Nat) : Int))) (cond b (some (Sum.inl (true, IntKind.wrap .i64 ((i : Int) + 1)))) (some (Sum.inl ((ixL ((may.drop (sure : Int).toNat).take (may.length - (sure : Int).toNat)) (i : Int)).toList == (bs s).toList, IntKind.wrap .i64 ((i : Int) + 1))))) none) _ = _
          rw [hT, hN, cpos (by omega), cand (by omega) (by omega), ixL_nat hi, wrap_i64 (by omega) (by omega)]
          cases b with
          | true => rfl
          | false =>
            show some (Sum.inl (((may.drop sure)[i].toList == (bs s).toList), (i : Int) + 1)) = _
            rw [beqL, Bool.false_or]; rfl
        · show Ends (cond (decide ((((may.drop sure).length : Nat) : Int) < ((may.length - (sure : Int).toNat : Nat) : Int))) _ (cond (!true) _ (cond (decide ((k : Int) < ((ys.length : Nat) : Int))) (cond _ (Option.bind (f_Fuel _ _ _ _ _ _ _) _) none) _))) _
          obtain ⟨fu2, hf2, e2⟩ := Fuel_f ys[k].More hy2
          rw [hN, cneg (by omega), cfalse (show (!true) = false from rfl), cpos (by omega), cand (by omega) (by omega), e2, bind_some']
          refine ends_bind _ (old_check hjo hrun hf2 (bd := 1 + 40 * at1 + 80 * k + 40) (by omega) (by omega)) ?_
          rintro r ⟨e3, b3, n3, a3, o3, fu3, dn3, F3, S3, W3, rfl, hex3⟩
          show Ends (cond (decide (0 ≤ (k : Int)) && decide ((k : Int) < ((ys.length : Nat) : Int))) (Option.bind (f_Crash F3 S3 W3 [] fu3 dn3 ys[k].Again) _) none) _
          rw [cand (by omega) (by omega), Crash_eq F3 S3 W3 [] fu3 dn3 ys[k].Again (by omega) hex3.full hex3.soft (by rw [hex3.len]; omega), bind_some']
          obtain ⟨base3, area3, img3, cs3, s3, hjo3, hb3, hrun3, hmem3⟩ := hex3.safe ys[k].Again
          have hs3 : s3 = s := bs_inj2 (by simpa using hmem3)
          subst hs3
          generalize crashL F3 W3 ys[k].Again = L3 at hjo3 ⊢
          have hcsl3 := hjo3.csl
          have himg3 : img3.length = 64 * 2 := hjo3.imgl
          show Ends (Option.bind (f_JOpen L3 L3 [] [] (-1) false 128 (slots : Int)) _) _
          rw [show f_JOpen L3 L3 [] [] (-1) false 128 (slots : Int) = _ from JOpen_x hjo3, bind_some']
          show Ends (loopO _ (bs img3, 0)) _
          refine ends_apply hrun3 (fun i hi m hm h0 => ?_) ?_
          · show cond (decide ((i : Int) < ((cs3.length : Nat) : Int))) (cond _ (Option.bind (f_rApply (bs m) _ _ _) _) none) _ = _
            rw [cpos (by omega), cand (by omega) (by omega), ixL_nat hi, rApply_E (by omega) cs3[i], bind_some']
            show some (Sum.inl (bs (stepE m cs3[i]).1, IntKind.wrap .i64 ((i : Int) + 1))) = _
            rw [wrap_i64 (by omega) (by omega)]; rfl
          · show Ends (cond (decide (((cs3.length : Nat) : Int) < ((cs3.length : Nat) : Int))) _ (cond (!((bs s3).toList == (bs s3).toList)) _ (Option.bind (f_Check _ _ _ _ _ _ _ _ _ _ _ _ _) _))) _
            have hs3l : s3.length = 64 * 2 := (runE_len cs3 hrun3).trans himg3
            rw [cneg (by omega), beq_bs, cfalse (by simp), show f_Check ((64 * 2 : Nat) : Int) (slots : Int) (base3 : Int) ((base3 + cs3.length : Nat) : Int) (area3 : Int) true L3 L3 [] [] (-1) false (bs s3) = _ from Check_x hjo3 hs3l (by omega), bind_some']
            show Ends (cond ((0 : Int) != 0) _ _) _
            rw [cbeq rfl, wrap_i64 (x := (k : Int) + 1) (by omega) (by omega)]
            exact ⟨_, rfl, _, rfl, _, rfl, _, rfl, _, rfl, ys.length - k, by omega, .inl ⟨k + 1, at1, base3 + cs3.length + slots, 1 - area3, s3, _, rfl, by omega, by omega, hat1, by omega, hjo3.chk2 hs3l (by omega) (by omega) (by omega) (by omega)⟩⟩
    · rw [cneg (by omega), Crash_eq F S W [] fu1 dn [] (by simp) hex.full hex.soft (by rw [hex.len]; omega), bind_some']
      obtain ⟨base, area, img, cs, s, hjo, hb, hrun, hmem⟩ := hex.safe []
      generalize crashL F W [] = L at hjo ⊢
      have hcsl := hjo.csl
      have himg : img.length = 64 * 2 := hjo.imgl
      show Ends (Option.bind (f_JOpen L L [] [] (-1) false 128 (slots : Int)) _) _
      rw [show f_JOpen L L [] [] (-1) false 128 (slots : Int) = _ from JOpen_x hjo, bind_some']
      show Ends (loopO _ (bs img, 0)) _
      refine ends_apply hrun (fun i hi m hm h0 => ?_) ?_
      · show cond (decide ((i : Int) < ((cs.length : Nat) : Int))) (cond _ (Option.bind (f_rApply (bs m) _ _ _) _) none) _ = _
        rw [cpos (by omega), cand (by omega) (by omega), ixL_nat hi, rApply_E (by omega) cs[i], bind_some']
        show cond ((stepE m cs[i]).2 != 0) _ _ = _
        rw [cbeq h0, wrap_i64 (by omega) (by omega)]; rfl
      · show Ends (cond (decide (((cs.length : Nat) : Int) < ((cs.length : Nat) : Int))) _ (cond (decide (0 ≤ ((may.length : Nat) : Int)) && decide (((may.length : Nat) : Int) ≤ ((may.length : Nat) : Int))) (cond (decide (0 ≤ (sure : Int)) && decide ((sure : Int) ≤ ((may.length : Nat) : Int))) (loopO _ _) none) none)) _
        rw [cneg (by omega), cand (by omega) (by omega), cand (by omega) (by omega)]
        refine ends_found hmem (fun i hi b => ?_) ?_
        · show cond (decide ((i : Int) < ((may.length - (sure : Int).toNat : Nat) : Int))) (cond (decide (0 ≤ (i : Int)) && decide ((i : Int) < ((may.length - (sure : Int).toNat : Nat) : Int))) (cond b (some (Sum.inl (true, IntKind.wrap .i64 ((i : Int) + 1)))) (some (Sum.inl ((ixL ((may.drop (sure : Int).toNat).take (may.length - (sure : Int).toNat)) (i : Int)).toList == (bs s).toList, IntKind.wrap .i64 ((i : Int) + 1))))) none) _ = _
          rw [hT, hN, cpos (by omega), cand (by omega) (by omega), ixL_nat hi, wrap_i64 (by omega) (by omega)]
          cases b with
          | true => rfl
          | false =>
            show some (Sum.inl (((may.drop sure)[i].toList == (bs s).toList), (i : Int) + 1)) = _
            rw [beqL, Bool.false_or]; rfl
        · show Ends (cond (decide ((((may.drop sure).length : Nat) : Int) < ((may.length - (sure : Int).toNat : Nat) : Int))) _ (cond (!true) _ (cond (decide ((k : Int) < ((ys.length : Nat) : Int))) _ _))) _
          rw [hN, cneg (by omega), cfalse (show (!true) = false from rfl), cneg (by omega), wrap_i64 (x := (k : Int) + 1) (by omega) (by omega)]
          exact ⟨_, rfl, _, rfl, _, rfl, _, rfl, 0, by omega, .inr ⟨rfl, _, _, _, _, rfl, by omega⟩⟩
  · right
    refine ⟨true, ?_, rfl⟩
    obtain ⟨c1, c2, c3, c4, c5, c6, c7, c8, c9, c10, c11, c12, c13, c14, c15, c16⟩ := c
    show cond (decide (k ≤ ((ys.length : Nat) : Int))) _ _ = _
    rw [cneg (by omega)]
end Go.Proofs.YtpbiilgehbiacaaDoor
