/-
  SaveSynced, for each kind of chip.
-/
import Derived.Test.YtcgigdfahlmfaaaGreatDoorSyn1
namespace Go.Proofs.YtcgigdfahlmfaaaGreatDoor
open Go.Vc
set_option linter.unusedVariables false
set_option linter.unusedSimpArgs false
theorem recS {S : List ByteArray} {n slots base area : Nat} {img mem : List UInt8} {cs : List E59} {kind : Int} (hj : JS S n slots base area img cs) (hr : runE img cs = some mem) (hb : base + cs.length ≤ 3900000000) (hz : f_Size kind = some (((64 * n : Nat) : Int), 0))
    (hnew : f_BNew kind (bs mem) = some (.inr (.inr (.inr (.inr (kind, ints mem)))))) :
    f_Recover S S [] [] (-1) false kind (slots : Int) = some (.inr (.inr (.inr (.inr (-1, false, kind, ((64 * n : Nat) : Int), (slots : Int), ((base + cs.length + slots : Nat) : Int), ((base + cs.length + slots : Nat) : Int), ((1 - area : Nat) : Int), false, chk2 S n (base + cs.length + slots) area mem, chk2 S n (base + cs.length + slots) area mem, [], ints mem))))) := by
  have hn0 := hj.n0; have hn1 := hj.n1; have hil := hj.imgl; have hml : mem.length = 64 * n := (runE_len cs hr).trans hj.imgl
  have hcl := hj.csl; have hs1 := hj.s1
  unfold f_Recover
  rw [hz, bind_some']
  show cond ((0 : Int) != 0) _ _ = _
  rw [cbeq rfl, cne (by omega), JOpen_h hj, bind_some']
  show loopO _ _ = _
  refine rec_loop hr (fun i hi m hm h0 => ?_) ?_
  · show cond (decide ((i : Int) < ((cs.length : Nat) : Int))) _ _ = _
    rw [cpos (by omega), cand (by omega) (by omega), ixL_at hi, sApply_E (by omega), bind_some', h0]
    show cond ((0 : Int) != 0) _ _ = _
    rw [cbeq rfl, up_wrap hi (by omega)]
  · show cond (decide (((cs.length : Nat) : Int) < ((cs.length : Nat) : Int))) _ _ = _
    rw [cneg (by omega), Check_h hj (Good.self hj.full) (by simp) hml (Nat.le_refl _) (by omega), bind_some']
    show cond ((0 : Int) != 0) _ _ = _
    rw [cbeq rfl, hnew, bind_some']
theorem recF {S : List ByteArray} {n slots base area : Nat} {img mem : List UInt8} {cs : List E59} {kind : Int} (hj : JS S n slots base area img cs) (hr : runE img cs = some mem) (hb : base + cs.length ≤ 3900000000) (hz : f_Size kind = some (((64 * n : Nat) : Int), 0))
    (hnew : f_BNew kind (bs mem) = some (.inr (.inr (.inr (.inl (kind, bs mem)))))) :
    f_Recover S S [] [] (-1) false kind (slots : Int) = some (.inr (.inr (.inr (.inl (-1, false, kind, bs mem, ((64 * n : Nat) : Int), (slots : Int), ((base + cs.length + slots : Nat) : Int), ((base + cs.length + slots : Nat) : Int), ((1 - area : Nat) : Int), false, chk2 S n (base + cs.length + slots) area mem, chk2 S n (base + cs.length + slots) area mem, []))))) := by
  have hn0 := hj.n0; have hn1 := hj.n1; have hil := hj.imgl; have hml : mem.length = 64 * n := (runE_len cs hr).trans hj.imgl
  have hcl := hj.csl; have hs1 := hj.s1
  unfold f_Recover
  rw [hz, bind_some']
  show cond ((0 : Int) != 0) _ _ = _
  rw [cbeq rfl, cne (by omega), JOpen_h hj, bind_some']
  show loopO _ _ = _
  refine rec_loop hr (fun i hi m hm h0 => ?_) ?_
  · show cond (decide ((i : Int) < ((cs.length : Nat) : Int))) _ _ = _
    rw [cpos (by omega), cand (by omega) (by omega), ixL_at hi, sApply_E (by omega), bind_some', h0]
    show cond ((0 : Int) != 0) _ _ = _
    rw [cbeq rfl, up_wrap hi (by omega)]
  · show cond (decide (((cs.length : Nat) : Int) < ((cs.length : Nat) : Int))) _ _ = _
    rw [cneg (by omega), Check_h hj (Good.self hj.full) (by simp) hml (Nat.le_refl _) (by omega), bind_some']
    show cond ((0 : Int) != 0) _ _ = _
    rw [cbeq rfl, hnew, bind_some']
theorem recE {S : List ByteArray} {n slots base area : Nat} {img mem : List UInt8} {cs : List E59} {kind w : Int} (hj : JS S n slots base area img cs) (hr : runE img cs = some mem) (hb : base + cs.length ≤ 3900000000) (hz : f_Size kind = some (((64 * n : Nat) : Int), 0))
    (hnew : f_BNew kind (bs mem) = some (.inr (.inr (.inl (kind, bs mem, w))))) :
    f_Recover S S [] [] (-1) false kind (slots : Int) = some (.inr (.inr (.inl (-1, false, kind, bs mem, w, ((64 * n : Nat) : Int), (slots : Int), ((base + cs.length + slots : Nat) : Int), ((base + cs.length + slots : Nat) : Int), ((1 - area : Nat) : Int), false, chk2 S n (base + cs.length + slots) area mem, chk2 S n (base + cs.length + slots) area mem, [])))) := by
  have hn0 := hj.n0; have hn1 := hj.n1; have hil := hj.imgl; have hml : mem.length = 64 * n := (runE_len cs hr).trans hj.imgl
  have hcl := hj.csl; have hs1 := hj.s1
  unfold f_Recover
  rw [hz, bind_some']
  show cond ((0 : Int) != 0) _ _ = _
  rw [cbeq rfl, cne (by omega), JOpen_h hj, bind_some']
  show loopO _ _ = _
  refine rec_loop hr (fun i hi m hm h0 => ?_) ?_
  · show cond (decide ((i : Int) < ((cs.length : Nat) : Int))) _ _ = _
    rw [cpos (by omega), cand (by omega) (by omega), ixL_at hi, sApply_E (by omega), bind_some', h0]
    show cond ((0 : Int) != 0) _ _ = _
    rw [cbeq rfl, up_wrap hi (by omega)]
  · show cond (decide (((cs.length : Nat) : Int) < ((cs.length : Nat) : Int))) _ _ = _
    rw [cneg (by omega), Check_h hj (Good.self hj.full) (by simp) hml (Nat.le_refl _) (by omega), bind_some']
    show cond ((0 : Int) != 0) _ _ = _
    rw [cbeq rfl, hnew, bind_some']
theorem loop_then {C I J σ ρ : Type} (op : C → I → C × List E59) (l : List I) (d : Nat) (P : C → J → List E59 → Nat → Prop) (T : Nat → C → J → List E59 → σ) {r : ρ} {f : σ → Option (σ ⊕ ρ)} {c : C} {j : J} {L : List E59} {t : Nat} (h : P c j L t) (ht : t + l.length * d ≤ 10000)
    (hs : ∀ i (hi : i < l.length) c j L t, P c j L t → t ≤ 10000 → t + d ≤ 10000 → ∃ j', P (op c l[i]).1 j' (L ++ (op c l[i]).2) (t + d) ∧ f (T i c j L) = some (.inl (T (i + 1) (op c l[i]).1 j' (L ++ (op c l[i]).2))))
    (he : ∀ j', P (fold op c l).1 j' (L ++ (fold op c l).2) (t + l.length * d) → f (T l.length (fold op c l).1 j' (L ++ (fold op c l).2)) = some (.inr r)) : loopO f (T 0 c j L) = some r := by
  have key : ∀ k, k ≤ l.length → ∃ j', P (fold op c (l.take k)).1 j' (L ++ (fold op c (l.take k)).2) (t + k * d) ∧ loopO f (T 0 c j L) = loopO f (T k (fold op c (l.take k)).1 j' (L ++ (fold op c (l.take k)).2)) := by
    intro k
    induction k with
    | zero => intro _; exact ⟨j, by simpa [fold] using h, by simp [fold]⟩
    | succ k ih =>
      intro hk
      obtain ⟨j1, p1, e1⟩ := ih (by omega)
      have hb : t + (k + 1) * d ≤ 10000 := Nat.le_trans (Nat.add_le_add_left (Nat.mul_le_mul_right d hk) t) ht
      rw [Nat.succ_mul] at hb
      obtain ⟨j2, p2, e2⟩ := hs k (by omega) _ _ _ _ p1 (by omega) (by omega)
      refine ⟨j2, ?_, ?_⟩
      · rw [fold_take op c l k (by omega), Nat.succ_mul, ← Nat.add_assoc, ← List.append_assoc]; exact p2
      · rw [e1, loop_next e2, fold_take op c l k (by omega), ← List.append_assoc]
  obtain ⟨j', p, e⟩ := key l.length (Nat.le_refl _)
  rw [List.take_length] at p e
  rw [e]
  exact loop_last (he j' p)
theorem SynB {k : Int} {slots : Int} {xs : List E35} (h : xs.length > 40 ∨ slots < 1 ∨ slots > 64 ∨ k < 1 ∨ k > 5) : f_SaveSynced k slots xs = some true := by
  unfold f_SaveSynced
  rw [awake_eq, bind_some', cfalse (show (!true) = false from rfl)]
  by_cases h0 : ((xs.length : Nat) : Int) > 40
  · rw [cpos h0]
  by_cases h1 : slots < 1
  · rw [cneg h0, cpos h1]
  by_cases h2 : slots > 64
  · rw [cneg h0, cneg h1, cpos h2]
  by_cases h3 : k < 1
  · rw [cneg h0, cneg h1, cneg h2, cpos h3]
  · rw [cneg h0, cneg h1, cneg h2, cneg h3, cpos (by omega)]
theorem imgS (k a b c : Int) (m : List UInt8) : f_BImageS k (ints m) a b c = some (bs m) := by
  unfold f_BImageS ints
  rw [ctrue (bytesIn_map _), strOf_map]
theorem imgF (k a b c : Int) (m : ByteArray) (s : Int) (i : Bool) (bk : Int) : f_BImageF k a b c m s i bk = some m := rfl
theorem imgE (k a b c : Int) (m : ByteArray) (i o : List Int) (w : Int) : f_BImageE k a b c m i o w = some m := rfl
theorem same_bs (m : List UInt8) : ((bs m).toList == (bs m).toList) = true := by rw [beq_bs]; exact decide_eq_true rfl
theorem opF_ok {c : Fl.Chip} (h : Fl.Ok c) (x b : Int) (b0 : 0 ≤ b) : Fl.Ok (opF c (x, b)).1 := Fl.writeF_Ok h x b b0
theorem opF_le (c : Fl.Chip) (i : Int × Int) : (opF c i).2.length ≤ 1 := by unfold opF; dsimp only; split <;> simp
theorem opS_le (c : List UInt8) (i : Int × Int) : (opS c i).2.length ≤ 1 := by unfold opS; simp
theorem opE_le (c : Chip) (b : Int) : (opE c b).2.length ≤ 1 := by unfold opE; dsimp only; split <;> simp
theorem opS_ok {c : List UInt8} (h : okS c) (i : Int × Int) : okS (opS c i).1 := by unfold okS opS at *; rw [List.length_set]; exact h
theorem le_app {L M : List E59} {t : Nat} (h : L.length ≤ t) (h1 : M.length ≤ 1) : (L ++ M).length ≤ t + 1 := by rw [List.length_append]; omega
theorem SyncS {n slots : Nat} {j : Jr} {mem : List UInt8} {bd wd : Nat} (h : Jok n slots j mem bd wd) (hw : wd ≤ 2000000) (kind : Int) (c : List UInt8) (a b : Int) :
    f_BSyncS1 kind (ints c) j.er j.ct j.su a b j.ba j.nx j.ar j.od j.F j.S j.W [] (-1) false = some (0, 0, j.ct, -1, false, j.S, []) := by
  unfold f_BSyncS1
  have hl := h.w
  rw [h.er, cbeq rfl, JSync_h h.good (by omega), bind_some']
  rfl
theorem SyncF {n slots : Nat} {j : Jr} {mem : List UInt8} {bd wd : Nat} (h : Jok n slots j mem bd wd) (hw : wd ≤ 2000000) (kind : Int) (c : Fl.Chip) (a b : Int) :
    f_BSyncF1 kind j.er j.ct j.su (bs c.mem) c.state c.id c.bank a b j.ba j.nx j.ar j.od j.F j.S j.W [] (-1) false = some (0, 0, j.ct, -1, false, j.S, []) := by
  unfold f_BSyncF1
  have hl := h.w
  rw [h.er, cbeq rfl, JSync_h h.good (by omega), bind_some']
  rfl
theorem SyncE {n slots : Nat} {j : Jr} {mem : List UInt8} {bd wd : Nat} (h : Jok n slots j mem bd wd) (hw : wd ≤ 2000000) (kind : Int) (c : Chip) (w : Int) (a b : Int) :
    f_BSyncE1 kind j.er j.ct j.su (bs c.mem) c.inn c.out w a b j.ba j.nx j.ar j.od j.F j.S j.W [] (-1) false = some (0, 0, j.ct, -1, false, j.S, []) := by
  unfold f_BSyncE1
  have hl := h.w
  rw [h.er, cbeq rfl, JSync_h h.good (by omega), bind_some']
  rfl
theorem SynS {kind : Int} {n slots : Nat} (hkn : kind = 1 ∧ 64 * n = 32768) (hs0 : 1 ≤ slots) (hs1 : slots ≤ 64) (xs : List E35) (hl : xs.length ≤ 40) (hx : ∀ x ∈ xs, okC x) : f_SaveSynced kind (slots : Int) xs = some true := by
  have hz : f_Size kind = some (((64 * n : Nat) : Int), 0) := by
    obtain ⟨rfl, h⟩ := hkn; rw [h]; rfl
  have hrz : f_rSize kind = some (((64 * n : Nat) : Int), 0) := by
    obtain ⟨rfl, h⟩ := hkn; rw [h]; rfl
  have hnew : ∀ mem : List UInt8, mem.length = 64 * n → f_BNew kind (bs mem) = some (.inr (.inr (.inr (.inr (kind, ints mem))))) := fun mem h => by
    obtain ⟨rfl, h2⟩ := hkn; exact BNewS (h.trans h2)
  have hrnew : ∀ mem : List UInt8, mem.length = 64 * n → f_rBNew kind (bs mem) = some (.inr (.inl (kind, bs mem))) := fun mem h => by
    obtain ⟨rfl, h2⟩ := hkn; exact rBNewS (h.trans h2)
  have hk1 : 1 ≤ kind ∧ kind ≤ 5 := by omega
  have hn0 : 1 ≤ n := by omega
  have hn1 : n ≤ 2048 := by omega
  have hini : okS (ffs (64 * n)) := (ffs_length _).trans hkn.2
  have J : Jok n slots (J0 n slots) (ffs (64 * n)) (1 + 0 * (slots + 1)) 0 := (J0_ok hn0 hn1 hs0 (by omega)).mono (by omega) (Nat.le_refl _)
  unfold f_SaveSynced
  rw [awake_eq, bind_some', cfalse (show (!true) = false from rfl), cneg (by omega), cneg (by omega), cneg (by omega), cneg (by omega), cneg (by omega), BNew_nil hz (by omega) (by omega), hnew _ (ffs_length _), bind_some']
  show Option.bind (f_disked kind (slots : Int)) _ = _
  rw [disked_gen hz hn0 hn1 hs0 (by omega), bind_some']
  show cond (!true) _ _ = _
  rw [cfalse (show (!true) = false from rfl), AttS hn0 hn1 hs0 (by omega) (k := kind) (by omega), bind_some']
  show loopO _ _ = _
  refine loop_then callS xs 16 (LkS n slots (ffs (64 * n))) (fun i c j L => ((i : Int), j.er, j.ct, j.su, (-1 : Int), false, j.ba, j.nx, j.ar, j.od, ints c, j.F, j.S, j.W)) (c := (ffs (64 * n))) (j := J0 n slots) (L := []) (t := 0) ⟨hini, J, rfl, Nat.zero_le _, rfl⟩ (by omega) (fun i hi c j L t h ht ht2 => ?_) (fun j hP => ?_)
  · have hxi := hx _ (List.getElem_mem hi)
    obtain ⟨j', a1, a2⟩ := doS_eq h (by omega) (by omega) kind hxi
    refine ⟨j', a1, ?_⟩
    show cond (decide ((i : Int) < ((xs.length : Nat) : Int))) _ _ = _
    rw [cpos (by omega), cand (by omega) (by omega), ixL_at hi, a2, bind_some', up_wrap hi (by omega)]
    rfl
  · generalize hc : (fold callS (ffs (64 * n)) xs).1 = c at hP
    have hle := hP.le
    have hjk := hP.jk
    obtain ⟨base, area, img, cs, _, _, _, hjs, hr, hbd⟩ := hjk.js
    have hml : c.length = 64 * n := (runE_len cs hr).trans hjs.imgl
    have hb := bd_bound (t := 0 + xs.length * 16) (s := slots) (by omega) (by omega)
    show cond (decide (((xs.length : Nat) : Int) < ((xs.length : Nat) : Int))) _ _ = _
    rw [cneg (by omega)]
    show Option.bind (f_BSyncS1 kind (ints c) j.er j.ct j.su ((64 * n : Nat) : Int) (slots : Int) j.ba j.nx j.ar j.od j.F j.S j.W [] (-1) false) _ = _
    rw [SyncS hjk (by omega) kind c, bind_some']
    show cond ((0 : Int) != 0) _ (Option.bind (some (j.ct, j.ct)) _) = _
    rw [cbeq rfl, bind_some']
    show Option.bind (f_Crash j.S j.S [] [] (-1) false []) _ = _
    rw [Crash_h hjs.full (by have := hjs.len; omega), bind_some']
    show Option.bind (f_Recover j.S j.S [] [] (-1) false kind (slots : Int)) _ = _
    rw [recS hjs hr (by omega) hz (hnew _ hml), bind_some']
    show cond (j.ct != j.ct) _ _ = _
    rw [cbeq rfl, cbeq rfl, imgS, bind_some', imgS, bind_some', same_bs]
    show Option.bind (f_rBlank (((bs c).size : Nat) : Int)) _ = _
    rw [bs_size, hml, rBlank_eq _ (by omega), bind_some', rBNew_nil hrz (by omega) (by omega), hrnew _ (ffs_length _), bind_some']
    show loopO _ _ = _
    refine loop_then callS xs 16 (fun c (_ : Unit) L t => okS c ∧ L.length ≤ t) (fun i c _ L => ((i : Int), bs c, L)) (c := (ffs (64 * n))) (j := ()) (L := []) (t := 0) ⟨hini, Nat.zero_le _⟩ (by omega) (fun i hi c _ L t h ht ht2 => ⟨(), ?_⟩) (fun _ hP2 => ?_)
    · have hxi := hx _ (List.getElem_mem hi)
      show _ ∧ cond (decide ((i : Int) < ((xs.length : Nat) : Int))) _ _ = _
      rw [cpos (by omega), cand (by omega) (by omega), ixL_at hi]
      unfold callS
      by_cases h0 : xs[i].Kind = 0
      · rw [if_pos h0, ceq h0, rwS h.1 (by omega) (by have := h.2; omega) hxi.1.1 hxi.1.2 hxi.2.1 hxi.2.2, bind_some', up_wrap hi (by omega)]
        exact ⟨⟨opS_ok h.1 _, Nat.le_trans (le_app h.2 (opS_le _ _)) (by omega)⟩, rfl⟩
      by_cases h1 : xs[i].Kind = 1
      · rw [if_neg h0, if_pos h1, cne h0, ceq h1, List.append_nil]
        refine ⟨⟨h.1, by have := h.2; omega⟩, ?_⟩
        refine loopO_for (fun k => 15 - (k : Int)) 16 (fun k hk => ?_) ?_
        · show cond (decide ((15 - (k : Int)) ≥ 0)) _ _ = _
          rw [cpos (by omega), cpos (by omega), rtS (by omega), bind_some', down_wrap hk]
        · show cond (decide ((15 - ((16 : Nat) : Int)) ≥ 0)) _ _ = _
          rw [cneg (by omega), up_wrap hi (by omega)]
      by_cases h7 : xs[i].Kind = 7
      · rw [if_neg h0, if_neg h1, if_pos h7, cne h0, cne h1, ceq h7, puts_eq, bind_some']
        have hpl := putsL_len xs[i]
        refine And.imp ?_ id (loop_ref putS (putsL xs[i]) 1 (fun c L t => okS c ∧ L.length ≤ t) (fun k c L => ((k : Int), bs c, L)) (fun c L => Sum.inl (((i + 1 : Nat) : Int), bs c, L)) (fun k hk c L t h ht => ?_) (fun c L => ?_) h (show t + (putsL xs[i]).length * 1 ≤ 10000 by omega))
        · exact fun a => ⟨a.1, Nat.le_trans a.2 (by omega)⟩
        · have hp := putsL_ok hxi _ (List.getElem_mem hk)
          refine ⟨⟨opS_ok h.1 _, le_app h.2 (opS_le _ _)⟩, ?_⟩
          show cond (decide ((k : Int) < (((putsL xs[i]).length : Nat) : Int))) _ _ = _
          rw [cpos (by omega), cand (by omega) (by omega), ctrue (by decide), ctrue (by decide), ixL_at hk, rwS h.1 (by omega) (by have := h.2; omega) hp.1 hp.2 (wrap8_bd _).1 (wrap8_bd _).2, bind_some', up_wrap hk (by omega)]
          rfl
        · show cond (decide ((((putsL xs[i]).length : Nat) : Int) < (((putsL xs[i]).length : Nat) : Int))) _ _ = _
          rw [cneg (by omega), up_wrap hi (by omega)]
      · rw [if_neg h0, if_neg h1, if_neg h7, cne h0, cne h1, cne h7, up_wrap hi (by omega), List.append_nil]
        exact ⟨⟨h.1, by have := h.2; omega⟩, rfl⟩
    · show cond (decide (((xs.length : Nat) : Int) < ((xs.length : Nat) : Int))) _ _ = _
      rw [cneg (by omega)]
      show loopO _ _ = _
      refine rec_loop (hP.run) (fun i hi m hm h0 => ?_) ?_
      · show cond (decide ((i : Int) < ((List.length _ : Nat) : Int))) _ _ = _
        rw [cpos (by omega), cand (by omega) (by omega), ixL_at hi, rApply_E (by rw [hm, ffs_length]; omega), bind_some', up_wrap hi (by omega)]
      · show cond (decide (((List.length _ : Nat) : Int) < ((List.length _ : Nat) : Int))) _ _ = _
        rw [cneg (by omega), bind_some', same_bs]
theorem SynF {kind : Int} {n slots : Nat} (hkn : kind = 2 ∧ 64 * n = 65536 ∨ kind = 3 ∧ 64 * n = 131072) (hs0 : 1 ≤ slots) (hs1 : slots ≤ 64) (xs : List E35) (hl : xs.length ≤ 40) (hx : ∀ x ∈ xs, okC x) : f_SaveSynced kind (slots : Int) xs = some true := by
  have hz : f_Size kind = some (((64 * n : Nat) : Int), 0) := by
    rcases hkn with ⟨rfl, h⟩ | ⟨rfl, h⟩ <;> rw [h] <;> rfl
  have hrz : f_rSize kind = some (((64 * n : Nat) : Int), 0) := by
    rcases hkn with ⟨rfl, h⟩ | ⟨rfl, h⟩ <;> rw [h] <;> rfl
  have hnew : ∀ mem : List UInt8, mem.length = 64 * n → f_BNew kind (bs mem) = some (.inr (.inr (.inr (.inl (kind, bs mem))))) := fun mem h => by
    exact BNewF (by omega)
  have hrnew : ∀ mem : List UInt8, mem.length = 64 * n → f_rBNew kind (bs mem) = some (.inr (.inr (.inr (kind, bs mem)))) := fun mem h => by
    exact rBNewF (by omega)
  have hk1 : 1 ≤ kind ∧ kind ≤ 5 := by omega
  have hn0 : 1 ≤ n := by omega
  have hn1 : n ≤ 2048 := by omega
  have hini : Fl.Ok (⟨ffs (64 * n), 0, false, 0⟩ : Fl.Chip) := ⟨by show (ffs _).length = _ ∨ _; rw [ffs_length]; omega, .inl rfl, ⟨Int.le_refl 0, show (0 : Int) ≤ 7 by decide⟩⟩
  have J : Jok n slots (J0 n slots) (ffs (64 * n)) (1 + 0 * (slots + 1)) 0 := (J0_ok hn0 hn1 hs0 (by omega)).mono (by omega) (Nat.le_refl _)
  unfold f_SaveSynced
  rw [awake_eq, bind_some', cfalse (show (!true) = false from rfl), cneg (by omega), cneg (by omega), cneg (by omega), cneg (by omega), cneg (by omega), BNew_nil hz (by omega) (by omega), hnew _ (ffs_length _), bind_some']
  show Option.bind (f_disked kind (slots : Int)) _ = _
  rw [disked_gen hz hn0 hn1 hs0 (by omega), bind_some']
  show cond (!true) _ _ = _
  rw [cfalse (show (!true) = false from rfl), AttF hn0 hn1 hs0 (by omega) (k := kind) (by omega), bind_some']
  show loopO _ _ = _
  refine loop_then callF xs 16 (LkF n slots (ffs (64 * n))) (fun i c j L => ((i : Int), j.er, j.ct, j.su, bs c.mem, c.state, c.id, c.bank, (-1 : Int), false, j.ba, j.nx, j.ar, j.od, j.F, j.S, j.W)) (c := (⟨ffs (64 * n), 0, false, 0⟩ : Fl.Chip)) (j := J0 n slots) (L := []) (t := 0) ⟨hini, J, rfl, Nat.zero_le _, rfl⟩ (by omega) (fun i hi c j L t h ht ht2 => ?_) (fun j hP => ?_)
  · have hxi := hx _ (List.getElem_mem hi)
    obtain ⟨j', a1, a2⟩ := doF_eq h (by omega) (by omega) kind hxi
    refine ⟨j', a1, ?_⟩
    show cond (decide ((i : Int) < ((xs.length : Nat) : Int))) _ _ = _
    rw [cpos (by omega), cand (by omega) (by omega), ixL_at hi, a2, bind_some', up_wrap hi (by omega)]
    rfl
  · generalize hc : (fold callF (⟨ffs (64 * n), 0, false, 0⟩ : Fl.Chip) xs).1 = c at hP
    have hle := hP.le
    have hjk := hP.jk
    obtain ⟨base, area, img, cs, _, _, _, hjs, hr, hbd⟩ := hjk.js
    have hml : c.mem.length = 64 * n := (runE_len cs hr).trans hjs.imgl
    have hb := bd_bound (t := 0 + xs.length * 16) (s := slots) (by omega) (by omega)
    show cond (decide (((xs.length : Nat) : Int) < ((xs.length : Nat) : Int))) _ _ = _
    rw [cneg (by omega)]
    show Option.bind (f_BSyncF1 kind j.er j.ct j.su (bs c.mem) c.state c.id c.bank ((64 * n : Nat) : Int) (slots : Int) j.ba j.nx j.ar j.od j.F j.S j.W [] (-1) false) _ = _
    rw [SyncF hjk (by omega) kind c, bind_some']
    show cond ((0 : Int) != 0) _ (Option.bind (some (j.ct, j.ct)) _) = _
    rw [cbeq rfl, bind_some']
    show Option.bind (f_Crash j.S j.S [] [] (-1) false []) _ = _
    rw [Crash_h hjs.full (by have := hjs.len; omega), bind_some']
    show Option.bind (f_Recover j.S j.S [] [] (-1) false kind (slots : Int)) _ = _
    rw [recF hjs hr (by omega) hz (hnew _ hml), bind_some']
    show cond (j.ct != j.ct) _ _ = _
    rw [cbeq rfl, cbeq rfl, imgF, bind_some', imgF, bind_some', same_bs]
    show Option.bind (f_rBlank (((bs c.mem).size : Nat) : Int)) _ = _
    rw [bs_size, hml, rBlank_eq _ (by omega), bind_some', rBNew_nil hrz (by omega) (by omega), hrnew _ (ffs_length _), bind_some']
    show loopO _ _ = _
    refine loop_then callF xs 16 (fun c (_ : Unit) L t => Fl.Ok c ∧ L.length ≤ t) (fun i c _ L => ((i : Int), ByteArray.mk #[], bs c.mem, bs (Fl.keysOf c.state), c.id, c.bank, L)) (c := (⟨ffs (64 * n), 0, false, 0⟩ : Fl.Chip)) (j := ()) (L := []) (t := 0) ⟨hini, Nat.zero_le _⟩ (by omega) (fun i hi c _ L t h ht ht2 => ⟨(), ?_⟩) (fun _ hP2 => ?_)
    · have hxi := hx _ (List.getElem_mem hi)
      show _ ∧ cond (decide ((i : Int) < ((xs.length : Nat) : Int))) _ _ = _
      rw [cpos (by omega), cand (by omega) (by omega), ixL_at hi]
      unfold callF
      by_cases h0 : xs[i].Kind = 0
      · rw [if_pos h0, ceq h0, rwF h.1 (by omega) (by have := h.2; omega) hxi.1.1 hxi.1.2 hxi.2.1 hxi.2.2, bind_some', up_wrap hi (by omega)]
        exact ⟨⟨opF_ok h.1 _ _ hxi.2.1, Nat.le_trans (le_app h.2 (opF_le _ _)) (by omega)⟩, rfl⟩
      by_cases h1 : xs[i].Kind = 1
      · rw [if_neg h0, if_pos h1, cne h0, ceq h1, List.append_nil]
        refine ⟨⟨h.1, by have := h.2; omega⟩, ?_⟩
        refine loopO_for (fun k => 15 - (k : Int)) 16 (fun k hk => ?_) ?_
        · show cond (decide ((15 - (k : Int)) ≥ 0)) _ _ = _
          rw [cpos (by omega), cpos (by omega), rtF (by omega), bind_some', down_wrap hk]
        · show cond (decide ((15 - ((16 : Nat) : Int)) ≥ 0)) _ _ = _
          rw [cneg (by omega), up_wrap hi (by omega)]
      by_cases h7 : xs[i].Kind = 7
      · rw [if_neg h0, if_neg h1, if_pos h7, cne h0, cne h1, ceq h7, puts_eq, bind_some']
        have hpl := putsL_len xs[i]
        refine And.imp ?_ id (loop_ref putF (putsL xs[i]) 1 (fun c L t => Fl.Ok c ∧ L.length ≤ t) (fun k c L => ((k : Int), ByteArray.mk #[], bs c.mem, bs (Fl.keysOf c.state), c.id, c.bank, L)) (fun c L => Sum.inl (((i + 1 : Nat) : Int), ByteArray.mk #[], bs c.mem, bs (Fl.keysOf c.state), c.id, c.bank, L)) (fun k hk c L t h ht => ?_) (fun c L => ?_) h (show t + (putsL xs[i]).length * 1 ≤ 10000 by omega))
        · exact fun a => ⟨a.1, Nat.le_trans a.2 (by omega)⟩
        · have hp := putsL_ok hxi _ (List.getElem_mem hk)
          refine ⟨⟨opF_ok h.1 _ _ (wrap8_bd _).1, le_app h.2 (opF_le _ _)⟩, ?_⟩
          show cond (decide ((k : Int) < (((putsL xs[i]).length : Nat) : Int))) _ _ = _
          rw [cpos (by omega), cand (by omega) (by omega), ctrue (by decide), ctrue (by decide), ixL_at hk, rwF h.1 (by omega) (by have := h.2; omega) hp.1 hp.2 (wrap8_bd _).1 (wrap8_bd _).2, bind_some', up_wrap hk (by omega)]
          rfl
        · show cond (decide ((((putsL xs[i]).length : Nat) : Int) < (((putsL xs[i]).length : Nat) : Int))) _ _ = _
          rw [cneg (by omega), up_wrap hi (by omega)]
      · rw [if_neg h0, if_neg h1, if_neg h7, cne h0, cne h1, cne h7, up_wrap hi (by omega), List.append_nil]
        exact ⟨⟨h.1, by have := h.2; omega⟩, rfl⟩
    · show cond (decide (((xs.length : Nat) : Int) < ((xs.length : Nat) : Int))) _ _ = _
      rw [cneg (by omega)]
      show loopO _ _ = _
      refine rec_loop (hP.run) (fun i hi m hm h0 => ?_) ?_
      · show cond (decide ((i : Int) < ((List.length _ : Nat) : Int))) _ _ = _
        rw [cpos (by omega), cand (by omega) (by omega), ixL_at hi, rApply_E (by rw [hm, ffs_length]; omega), bind_some', up_wrap hi (by omega)]
      · show cond (decide (((List.length _ : Nat) : Int) < ((List.length _ : Nat) : Int))) _ _ = _
        rw [cneg (by omega), bind_some', same_bs]
theorem SynE {kind w : Int} {n slots : Nat} (hkn : kind = 4 ∧ 64 * n = 512 ∧ w = 6 ∨ kind = 5 ∧ 64 * n = 8192 ∧ w = 14) (hs0 : 1 ≤ slots) (hs1 : slots ≤ 64) (xs : List E35) (hl : xs.length ≤ 40) (hx : ∀ x ∈ xs, okC x) : f_SaveSynced kind (slots : Int) xs = some true := by
  have hz : f_Size kind = some (((64 * n : Nat) : Int), 0) := by
    rcases hkn with ⟨rfl, h, _⟩ | ⟨rfl, h, _⟩ <;> rw [h] <;> rfl
  have hrz : f_rSize kind = some (((64 * n : Nat) : Int), 0) := by
    rcases hkn with ⟨rfl, h, _⟩ | ⟨rfl, h, _⟩ <;> rw [h] <;> rfl
  have hnew : ∀ mem : List UInt8, mem.length = 64 * n → f_BNew kind (bs mem) = some (.inr (.inr (.inl (kind, bs mem, w)))) := fun mem h => by
    exact BNewE (by omega)
  have hrnew : ∀ mem : List UInt8, mem.length = 64 * n → f_rBNew kind (bs mem) = some (.inr (.inr (.inl (kind, bs mem)))) := fun mem h => by
    exact rBNewE (w := w) (by omega)
  have hk1 : 1 ≤ kind ∧ kind ≤ 5 := by omega
  have hn0 : 1 ≤ n := by omega
  have hn1 : n ≤ 2048 := by omega
  have hini : Inv (⟨ffs (64 * n), [], [], w⟩ : Chip) := ⟨⟨by show (ffs (64 * n)).length = 512 ∧ w = 6 ∨ (ffs (64 * n)).length = 8192 ∧ w = 14; rw [ffs_length]; omega⟩, bits_nil, by show ((0 : Nat) : Int) < 67 + w; omega, .inl rfl, by intro h; exfalso; have h : 3 + w ≤ ((0 : Nat) : Int) := h; omega⟩
  have J : Jok n slots (J0 n slots) (ffs (64 * n)) (1 + 0 * (slots + 1)) 0 := (J0_ok hn0 hn1 hs0 (by omega)).mono (by omega) (Nat.le_refl _)
  unfold f_SaveSynced
  rw [awake_eq, bind_some', cfalse (show (!true) = false from rfl), cneg (by omega), cneg (by omega), cneg (by omega), cneg (by omega), cneg (by omega), BNew_nil hz (by omega) (by omega), hnew _ (ffs_length _), bind_some']
  show Option.bind (f_disked kind (slots : Int)) _ = _
  rw [disked_gen hz hn0 hn1 hs0 (by omega), bind_some']
  show cond (!true) _ _ = _
  rw [cfalse (show (!true) = false from rfl), AttE hn0 hn1 hs0 (by omega) (k := kind) (by omega) w, bind_some']
  show loopO _ _ = _
  refine loop_then callE xs 16 (fun c j L t => LkE n slots (ffs (64 * n)) c j L t ∧ c.wide = w) (fun i c j L => ((i : Int), j.er, j.ct, j.su, bs c.mem, (-1 : Int), false, j.ba, j.nx, j.ar, j.od, c.inn, c.out, j.F, j.S, j.W)) (c := (⟨ffs (64 * n), [], [], w⟩ : Chip)) (j := J0 n slots) (L := []) (t := 0) ⟨⟨hini, J, rfl, Nat.zero_le _, rfl⟩, rfl⟩ (by omega) (fun i hi c j L t h ht ht2 => ?_) (fun j hP => ?_)
  · have hxi := hx _ (List.getElem_mem hi)
    obtain ⟨j', a1, a2⟩ := doE_eq h.1 (by omega) (by omega) kind h.2 xs[i]
    refine ⟨j', a1, ?_⟩
    show cond (decide ((i : Int) < ((xs.length : Nat) : Int))) _ _ = _
    rw [cpos (by omega), cand (by omega) (by omega), ixL_at hi, a2, bind_some', up_wrap hi (by omega)]
    rfl
  · generalize hc : (fold callE (⟨ffs (64 * n), [], [], w⟩ : Chip) xs).1 = c at hP
    have hle := hP.1.le
    have hjk := hP.1.jk
    obtain ⟨base, area, img, cs, _, _, _, hjs, hr, hbd⟩ := hjk.js
    have hml : c.mem.length = 64 * n := (runE_len cs hr).trans hjs.imgl
    have hb := bd_bound (t := 0 + xs.length * 16) (s := slots) (by omega) (by omega)
    show cond (decide (((xs.length : Nat) : Int) < ((xs.length : Nat) : Int))) _ _ = _
    rw [cneg (by omega)]
    show Option.bind (f_BSyncE1 kind j.er j.ct j.su (bs c.mem) c.inn c.out w ((64 * n : Nat) : Int) (slots : Int) j.ba j.nx j.ar j.od j.F j.S j.W [] (-1) false) _ = _
    rw [SyncE hjk (by omega) kind c w, bind_some']
    show cond ((0 : Int) != 0) _ (Option.bind (some (j.ct, j.ct)) _) = _
    rw [cbeq rfl, bind_some']
    show Option.bind (f_Crash j.S j.S [] [] (-1) false []) _ = _
    rw [Crash_h hjs.full (by have := hjs.len; omega), bind_some']
    show Option.bind (f_Recover j.S j.S [] [] (-1) false kind (slots : Int)) _ = _
    rw [recE hjs hr (by omega) hz (hnew _ hml), bind_some']
    show cond (j.ct != j.ct) _ _ = _
    rw [cbeq rfl, cbeq rfl, imgE, bind_some', imgE, bind_some', same_bs]
    show Option.bind (f_rBlank (((bs c.mem).size : Nat) : Int)) _ = _
    rw [bs_size, hml, rBlank_eq _ (by omega), bind_some', rBNew_nil hrz (by omega) (by omega), hrnew _ (ffs_length _), bind_some']
    show loopO _ _ = _
    refine loop_then callE xs 16 (fun c (_ : Unit) L t => Inv c ∧ L.length ≤ t) (fun i c _ L => ((i : Int), ByteArray.mk #[], bs c.mem, bs (chr c.inn), bs (chr c.out), L)) (c := (⟨ffs (64 * n), [], [], w⟩ : Chip)) (j := ()) (L := []) (t := 0) ⟨hini, Nat.zero_le _⟩ (by omega) (fun i hi c _ L t h ht ht2 => ⟨(), ?_⟩) (fun _ hP2 => ?_)
    · have hxi := hx _ (List.getElem_mem hi)
      show _ ∧ cond (decide ((i : Int) < ((xs.length : Nat) : Int))) _ _ = _
      rw [cpos (by omega), cand (by omega) (by omega), ixL_at hi]
      unfold callE
      by_cases h0 : xs[i].Kind = 0
      · rw [if_neg (by omega), ceq h0, rwE (by omega), bind_some', up_wrap hi (by omega), List.append_nil]
        exact ⟨⟨h.1, by have := h.2; omega⟩, rfl⟩
      by_cases h1 : xs[i].Kind = 1
      · rw [if_pos h1, cne h0, ceq h1]
        have hbl := bitsN_len xs[i].N
        refine And.imp ?_ id (loop_ref opE (bitsN xs[i].N) 1 (fun c L t => Inv c ∧ L.length ≤ t) (fun i c L => (15 - (i : Int), bs c.mem, bs (chr c.inn), bs (chr c.out), L)) (fun c L => Sum.inl (((i + 1 : Nat) : Int), ByteArray.mk #[], bs c.mem, bs (chr c.inn), bs (chr c.out), L)) (fun k hk c L t h ht => ?_) (fun c L => ?_) h (show t + (bitsN xs[i].N).length * 1 ≤ 10000 by omega))
        · exact fun a => ⟨a.1, Nat.le_trans a.2 (by omega)⟩
        · rw [bitsN_at]
          obtain ⟨b1, b2⟩ := bitN_bd xs[i].N (15 - (k : Int))
          refine ⟨⟨(ewriteF_Inv h.1 _).1, le_app h.2 (opE_le _ _)⟩, ?_⟩
          show cond (decide ((15 - (k : Int)) ≥ 0)) _ _ = _
          rw [cpos (by omega), cpos (by omega)]
          show Option.bind (f_rTakeE kind (ByteArray.mk #[]) 0 L 0 (bs c.mem) (bs (chr c.inn)) (bs (chr c.out)) (bitN xs[i].N (15 - (k : Int)))) _ = _
          rw [rtE h.1 (by omega) (by have := h.2; omega) b1 b2, bind_some']
          show some (Sum.inl (IntKind.wrap .i64 ((15 - (k : Int)) - 1), _)) = _
          rw [down_wrap (by omega)]
        · rw [hbl]
          show cond (decide ((15 - ((16 : Nat) : Int)) ≥ 0)) _ _ = _
          rw [cneg (by omega), up_wrap hi (by omega)]
      by_cases h7 : xs[i].Kind = 7
      · rw [if_neg h1, cne h0, cne h1, ceq h7, puts_eq, bind_some', List.append_nil]
        have hpl := putsL_len xs[i]
        refine ⟨⟨h.1, by have := h.2; omega⟩, ?_⟩
        refine loopO_for (fun k => ((k : Int), ByteArray.mk #[], L)) (putsL xs[i]).length (fun k hk => ?_) ?_
        · show cond (decide ((k : Int) < (((putsL xs[i]).length : Nat) : Int))) _ _ = _
          rw [cpos (by omega), cand (by omega) (by omega), ctrue (by decide), ctrue (by decide), rwE (by omega), bind_some', up_wrap hk (by omega)]
        · show cond (decide ((((putsL xs[i]).length : Nat) : Int) < (((putsL xs[i]).length : Nat) : Int))) _ _ = _
          rw [cneg (by omega), up_wrap hi (by omega)]
      · rw [if_neg h1, cne h0, cne h1, cne h7, up_wrap hi (by omega), List.append_nil]
        exact ⟨⟨h.1, by have := h.2; omega⟩, rfl⟩
    · show cond (decide (((xs.length : Nat) : Int) < ((xs.length : Nat) : Int))) _ _ = _
      rw [cneg (by omega)]
      show loopO _ _ = _
      refine rec_loop (hP.1.run) (fun i hi m hm h0 => ?_) ?_
      · show cond (decide ((i : Int) < ((List.length _ : Nat) : Int))) _ _ = _
        rw [cpos (by omega), cand (by omega) (by omega), ixL_at hi, rApply_E (by rw [hm, ffs_length]; omega), bind_some', up_wrap hi (by omega)]
      · show cond (decide (((List.length _ : Nat) : Int) < ((List.length _ : Nat) : Int))) _ _ = _
        rw [cneg (by omega), bind_some', same_bs]
theorem SaveSynced_eq (k slots : Int) (xs : List E35) (hx : ∀ x ∈ xs, okC x) : f_SaveSynced k slots xs = some true := by
  by_cases h : xs.length > 40 ∨ slots < 1 ∨ slots > 64 ∨ k < 1 ∨ k > 5
  · exact SynB h
  · obtain ⟨s, rfl⟩ := Int.eq_ofNat_of_zero_le (show 0 ≤ slots by omega)
    rcases (show k = 1 ∨ k = 2 ∨ k = 3 ∨ k = 4 ∨ k = 5 by omega) with rfl | rfl | rfl | rfl | rfl
    · exact SynS (n := 512) ⟨rfl, rfl⟩ (by omega) (by omega) xs (by omega) hx
    · exact SynF (n := 1024) (.inl ⟨rfl, rfl⟩) (by omega) (by omega) xs (by omega) hx
    · exact SynF (n := 2048) (.inr ⟨rfl, rfl⟩) (by omega) (by omega) xs (by omega) hx
    · exact SynE (n := 8) (.inl ⟨rfl, rfl, rfl⟩) (by omega) (by omega) xs (by omega) hx
    · exact SynE (n := 128) (.inr ⟨rfl, rfl, rfl⟩) (by omega) (by omega) xs (by omega) hx
end Go.Proofs.YtcgigdfahlmfaaaGreatDoor
