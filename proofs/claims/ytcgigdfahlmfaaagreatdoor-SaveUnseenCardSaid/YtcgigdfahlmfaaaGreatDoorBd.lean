/-
  A chip's calls, with a journal on whatever disk, and with none.
-/
import Derived.Test.YtcgigdfahlmfaaaGreatDoorBk
namespace Go.Proofs.YtcgigdfahlmfaaaGreatDoor
open Go.Vc
set_option linter.unusedVariables false
set_option linter.unusedSimpArgs false
def stepB {C I : Type} (op : C → I → C × List E59) (mem : C → List UInt8) (s : C × Bw) (i : I) : C × Bw := ((op s.1 i).1, (op s.1 i).2.foldl (fun b c => noteD b c (mem (op s.1 i).1)) s.2)
def one {C I : Type} (op : C → I → C × List E59) : Prop := ∀ c i, (op c i).2.length ≤ 1
theorem step_in {C I : Type} {op : C → I → C × List E59} (ho : one op) (mem : C → List UInt8) {N n sl : Nat} {B : List (Int × Bool)} {c : C} {b : Bw} {k : Nat} (h : Bin N n sl B b k) (i : I) : Bin N n sl B (stepB op mem (c, b) i).2 (k + 2049) := by
  have hl := ho c i
  unfold stepB
  show Bin N n sl B ((op c i).2.foldl _ b) _
  generalize (op c i).2 = l at hl ⊢
  match l, hl with
  | [], _ => exact h.mono (by omega)
  | [e], _ => exact note_in h e _
  | _ :: _ :: _, hl => simp at hl
theorem step_ct {C I : Type} {op : C → I → C × List E59} (ho : one op) (mem : C → List UInt8) (c : C) (b : Bw) (i : I) : (stepB op mem (c, b) i).2.ct = b.ct + ((op c i).2.length : Int) := by
  have hl := ho c i
  unfold stepB
  show ((op c i).2.foldl _ b).ct = _
  generalize (op c i).2 = l at hl ⊢
  match l, hl with
  | [], _ => simp
  | [e], _ => exact noteD_ct b e _
  | _ :: _ :: _, hl => simp at hl
theorem fold_fst {C I : Type} {op : C → I → C × List E59} (ho : one op) (mem : C → List UInt8) : ∀ (l : List I) (c : C) (b : Bw), (l.foldl (stepB op mem) (c, b)).1 = (fold op c l).1 ∧ (l.foldl (stepB op mem) (c, b)).2.ct = b.ct + ((fold op c l).2.length : Int)
  | [], c, b => ⟨rfl, by simp [fold]⟩
  | i :: l, c, b => by
    have h := fold_fst ho mem l (op c i).1 (stepB op mem (c, b) i).2
    have e := step_ct ho mem c b i
    show (l.foldl (stepB op mem) ((op c i).1, (stepB op mem (c, b) i).2)).1 = _ ∧ (l.foldl (stepB op mem) ((op c i).1, (stepB op mem (c, b) i).2)).2.ct = _
    refine ⟨h.1, h.2.trans ?_⟩
    simp only [fold, List.length_append]
    omega
theorem loop_foldB {σ ρ C I : Type} {op : C → I → C × List E59} (mem : C → List UInt8) (l : List I) (P : C → Bw → Nat → Prop) (d K : Nat) {f : σ → Option (σ ⊕ ρ)} (T : Nat → C → Bw → σ) (R : C → Bw → ρ)
    (hs : ∀ i (hi : i < l.length) c b k, P c b k → k ≤ K → P (stepB op mem (c, b) l[i]).1 (stepB op mem (c, b) l[i]).2 (k + d) ∧ f (T i c b) = some (.inl (T (i + 1) (stepB op mem (c, b) l[i]).1 (stepB op mem (c, b) l[i]).2)))
    (he : ∀ c b, f (T l.length c b) = some (.inr (R c b))) {c : C} {b : Bw} {k : Nat} (h : P c b k) (hk : k + l.length * d ≤ K) :
    P (l.foldl (stepB op mem) (c, b)).1 (l.foldl (stepB op mem) (c, b)).2 (k + l.length * d) ∧ loopO f (T 0 c b) = some (R (l.foldl (stepB op mem) (c, b)).1 (l.foldl (stepB op mem) (c, b)).2) := by
  have key : ∀ m i (s : C × Bw) k, i + m = l.length → P s.1 s.2 k → k + m * d ≤ K → P ((l.drop i).foldl (stepB op mem) s).1 ((l.drop i).foldl (stepB op mem) s).2 (k + m * d) ∧ loopO f (T i s.1 s.2) = some (R ((l.drop i).foldl (stepB op mem) s).1 ((l.drop i).foldl (stepB op mem) s).2) := by
    intro m
    induction m with
    | zero =>
      intro i s k hi h _
      have : i = l.length := by omega
      subst this
      rw [List.drop_length, loopO_eq, he]
      exact ⟨by simpa using h, rfl⟩
    | succ m ih =>
      intro i s k hi h hk
      have hlt : i < l.length := by omega
      rw [Nat.succ_mul] at hk
      obtain ⟨h1, h2⟩ := hs i hlt s.1 s.2 k h (by omega)
      obtain ⟨h3, h4⟩ := ih (i + 1) (stepB op mem (s.1, s.2) l[i]) (k + d) (by omega) h1 (by omega)
      rw [List.drop_eq_getElem_cons hlt, loopO_eq, h2]
      refine ⟨?_, h4⟩
      rw [Nat.succ_mul, show k + (m * d + d) = k + d + m * d by omega]
      exact h3
  have := key l.length 0 (c, b) k (by omega) h hk
  rwa [List.drop_zero] at this
theorem loop_foldA {σ ρ C I : Type} {op : C → I → C × List E59} (ho : one op) (l : List I) (P : C → Prop) {f : σ → Option (σ ⊕ ρ)} (T : Nat → C → Int → σ) (R : C → Int → ρ)
    (hs : ∀ i (hi : i < l.length) c (n : Int), P c → 0 ≤ n ∧ n ≤ 1000000000000 → P (op c l[i]).1 ∧ f (T i c n) = some (.inl (T (i + 1) (op c l[i]).1 (n + ((op c l[i]).2.length : Int)))))
    (he : ∀ c n, f (T l.length c n) = some (.inr (R c n))) {c : C} {n : Int} (h : P c) (hn : 0 ≤ n ∧ n + l.length ≤ 1000000000000) :
    P (fold op c l).1 ∧ loopO f (T 0 c n) = some (R (fold op c l).1 (n + ((fold op c l).2.length : Int))) := by
  have key : ∀ m i (c : C) (n : Int), i + m = l.length → P c → 0 ≤ n ∧ n + m ≤ 1000000000000 → P (fold op c (l.drop i)).1 ∧ loopO f (T i c n) = some (R (fold op c (l.drop i)).1 (n + ((fold op c (l.drop i)).2.length : Int))) := by
    intro m
    induction m with
    | zero =>
      intro i c n hi h _
      have : i = l.length := by omega
      subst this
      rw [List.drop_length, loopO_eq, he]
      exact ⟨h, by simp [fold]⟩
    | succ m ih =>
      intro i c n hi h hn
      have hlt : i < l.length := by omega
      have hl := ho c l[i]
      obtain ⟨h1, h2⟩ := hs i hlt c n h (by omega)
      obtain ⟨h3, h4⟩ := ih (i + 1) (op c l[i]).1 (n + ((op c l[i]).2.length : Int)) (by omega) h1 (by omega)
      rw [List.drop_eq_getElem_cons hlt, loopO_eq, h2]
      refine ⟨h3, ?_⟩
      show loopO f _ = _
      rw [h4]
      simp only [fold, List.length_append]
      rw [show n + ((op c l[i]).2.length : Int) + ((fold op (op c l[i]).1 (l.drop (i + 1))).2.length : Int) = n + (((op c l[i]).2.length + (fold op (op c l[i]).1 (l.drop (i + 1))).2.length : Nat) : Int) by omega]
  have := key l.length 0 c n (by omega) h (by omega)
  rwa [List.drop_zero] at this
theorem one_opS : one opS := fun _ _ => Nat.le_refl _
theorem one_opF : one opF := fun c i => by unfold opF; split <;> simp
theorem one_opE : one opE := fun c i => by unfold opE; split <;> simp
theorem one_putS : one putS := fun _ _ => Nat.le_refl _
theorem one_putF : one putF := fun c i => one_opF c _
def oS (m : List UInt8) (b : Bw) : O_BWriteS1 := (b.er, b.ct, b.su, (b.J.ba : Int), (b.J.nx : Int), (b.J.ar : Int), b.J.od, b.D.fu, b.D.dn, ints m, b.D.F, b.D.S, b.D.W)
def oF (c : Fl.Chip) (b : Bw) : O_BWriteF1 := (b.er, b.ct, b.su, bs c.mem, c.state, c.id, c.bank, (b.J.ba : Int), (b.J.nx : Int), (b.J.ar : Int), b.J.od, b.D.fu, b.D.dn, b.D.F, b.D.S, b.D.W)
def oE (c : Chip) (b : Bw) : O_BTakeE1 := (b.er, b.ct, b.su, bs c.mem, (b.J.ba : Int), (b.J.nx : Int), (b.J.ar : Int), b.J.od, b.D.fu, b.D.dn, c.inn, c.out, b.D.F, b.D.S, b.D.W)
def stS := stepB opS fun m => m
def stF := stepB opF fun c => c.mem
def stE := stepB opE fun c => c.mem
theorem opS_ok {m : List UInt8} (h : okS m) (i : Int × Int) : okS (opS m i).1 := by show (m.set _ _).length = 32768; rw [List.length_set]; exact h
theorem imgS (kind : Int) (m : List UInt8) : ∀ e n s, f_BImageS kind (ints m) e n s = some (bs m) := fun e n s => by
  unfold f_BImageS ints
  rw [ctrue (bytesIn_map _), strOf_map]
theorem wSw {m : List UInt8} (hm : okS m) {N n sl : Nat} {B : List (Int × Bool)} {b : Bw} {k : Nat} (h : Bin N n sl B b k) (hk : k ≤ 1000000000000) (kind : Int) {x y : Int} (x0 : 0 ≤ x) (x1 : x < 4294967296) (b0 : 0 ≤ y) (b1 : y < 256) :
    f_BWriteS1 kind (ints m) b.er b.ct b.su ((64 * n : Nat) : Int) (sl : Int) (b.J.ba : Int) (b.J.nx : Int) (b.J.ar : Int) b.J.od b.D.F b.D.S b.D.W B b.D.fu b.D.dn x y = some (oS (stS (m, b) (x, y)).1 (stS (m, b) (x, y)).2) := by
  have e1 := h.n; have e2 := h.sl; have e3 := h.B
  subst e1 e2 e3
  have hm' : m.length = 32768 := hm
  unfold f_BWriteS1
  rw [Let_eq, idxS x0 x1, cand (by omega) (by rw [ints_len, hm']; omega), ctrue (byteS b0 b1).1, (byteS b0 b1).2, ints_setZ m _ y b0 b1]
  rw [show m.set (x % 32768).toNat (UInt8.ofNat y.toNat) = (opS m (x, y)).1 from rfl]
  rw [show f_BNoteS1 kind (ints (opS m (x, y)).1) b.er b.ct b.su ((64 * b.J.n : Nat) : Int) (b.J.sl : Int) (b.J.ba : Int) (b.J.nx : Int) (b.J.ar : Int) b.J.od b.D.F b.D.S b.D.W b.D.B b.D.fu b.D.dn 1 (x % 32768) (bs [UInt8.ofNat y.toNat]) = _ from noteSw h hk kind _ (imgS kind _) ⟨1, x % 32768, bs [UInt8.ofNat y.toNat]⟩, bind_some']
  rfl
theorem wFw {c : Fl.Chip} (hc : Fl.Ok c) {N n sl : Nat} {B : List (Int × Bool)} {b : Bw} {k : Nat} (h : Bin N n sl B b k) (hk : k ≤ 1000000000000) (kind : Int) {x y : Int} (x0 : 0 ≤ x) (x1 : x < 4294967296) (b0 : 0 ≤ y) (b1 : y < 256) :
    f_BWriteF1 kind b.er b.ct b.su (bs c.mem) c.state c.id c.bank ((64 * n : Nat) : Int) (sl : Int) (b.J.ba : Int) (b.J.nx : Int) (b.J.ar : Int) b.J.od b.D.F b.D.S b.D.W B b.D.fu b.D.dn x y = some (oF (stF (c, b) (x, y)).1 (stF (c, b) (x, y)).2) := by
  have e1 := h.n; have e2 := h.sl; have e3 := h.B
  subst e1 e2 e3
  unfold f_BWriteF1 stF stepB
  rw [Fl.write_eq c hc x y x0 x1 b0 b1, bind_some']
  show cond (Fl.writeF c x y).1.ok _ _ = _
  by_cases hok : (Fl.writeF c x y).1.ok = true
  · have e2 : (opF c (x, y)).2 = [⟨(Fl.writeF c x y).1.k, (Fl.writeF c x y).1.a, bs (Fl.writeF c x y).1.d⟩] := if_pos hok
    rw [ctrue hok, e2]
    show Option.bind (f_BNoteF1 kind b.er b.ct b.su (bs (opF c (x, y)).1.mem) (opF c (x, y)).1.state (opF c (x, y)).1.id (opF c (x, y)).1.bank ((64 * b.J.n : Nat) : Int) (b.J.sl : Int) (b.J.ba : Int) (b.J.nx : Int) (b.J.ar : Int) b.J.od b.D.F b.D.S b.D.W b.D.B b.D.fu b.D.dn _ _ _) _ = _
    rw [noteFw h hk kind _ _ _ _ (img := (opF c (x, y)).1.mem) (fun e n s => rfl) ⟨(Fl.writeF c x y).1.k, (Fl.writeF c x y).1.a, bs (Fl.writeF c x y).1.d⟩, bind_some']
    rfl
  · have e2 : (opF c (x, y)).2 = [] := if_neg hok
    rw [cfalse (by simpa using hok), e2]
    rfl
theorem wEw {c : Chip} (hc : Inv c) {N n sl : Nat} {B : List (Int × Bool)} {b : Bw} {k : Nat} (h : Bin N n sl B b k) (hk : k ≤ 1000000000000) (kind : Int) {y : Int} (b0 : 0 ≤ y) (b1 : y < 256) :
    f_BTakeE1 kind b.er b.ct b.su (bs c.mem) c.inn c.out c.wide ((64 * n : Nat) : Int) (sl : Int) (b.J.ba : Int) (b.J.nx : Int) (b.J.ar : Int) b.J.od b.D.F b.D.S b.D.W B b.D.fu b.D.dn y = some (oE (stE (c, b) y).1 (stE (c, b) y).2) := by
  have e1 := h.n; have e2 := h.sl; have e3 := h.B
  subst e1 e2 e3
  unfold f_BTakeE1 stE stepB
  rw [write_eq c hc.ok hc.bits hc.len y b0 b1, bind_some']
  show cond (ewriteF c y).1.ok _ _ = _
  by_cases hok : (ewriteF c y).1.ok = true
  · have e2 : (opE c y).2 = [⟨(ewriteF c y).1.k, (ewriteF c y).1.a, bs (ewriteF c y).1.d⟩] := if_pos hok
    rw [ctrue hok, e2]
    show Option.bind (f_BNoteE1 kind b.er b.ct b.su (bs (opE c y).1.mem) (opE c y).1.inn (opE c y).1.out c.wide ((64 * b.J.n : Nat) : Int) (b.J.sl : Int) (b.J.ba : Int) (b.J.nx : Int) (b.J.ar : Int) b.J.od b.D.F b.D.S b.D.W b.D.B b.D.fu b.D.dn _ _ _) _ = _
    rw [noteEw h hk kind _ _ _ _ (img := (opE c y).1.mem) (fun e n s => rfl) ⟨(ewriteF c y).1.k, (ewriteF c y).1.a, bs (ewriteF c y).1.d⟩, bind_some']
    rfl
  · have e2 : (opE c y).2 = [] := if_neg hok
    rw [cfalse (by simpa using hok), e2]
    rfl
theorem wSa {m : List UInt8} (hm : okS m) {n : Int} (hn : 0 ≤ n ∧ n ≤ 1000000000000) (kind e s : Int) {x y : Int} (x0 : 0 ≤ x) (x1 : x < 4294967296) (b0 : 0 ≤ y) (b1 : y < 256) :
    f_BWriteS0 kind (ints m) e n s x y = some (n + ((opS m (x, y)).2.length : Int), ints (opS m (x, y)).1) := by
  have hm' : m.length = 32768 := hm
  unfold f_BWriteS0 f_BNoteS0
  rw [Let_eq, idxS x0 x1, cand (by omega) (by rw [ints_len, hm']; omega), ctrue (byteS b0 b1).1, ints_setZ m _ y b0 b1, bind_some', wrap_i64 (by omega) (by omega)]
  rfl
theorem wFa {c : Fl.Chip} (hc : Fl.Ok c) {n : Int} (hn : 0 ≤ n ∧ n ≤ 1000000000000) (kind e s : Int) {x y : Int} (x0 : 0 ≤ x) (x1 : x < 4294967296) (b0 : 0 ≤ y) (b1 : y < 256) :
    f_BWriteF0 kind e n s (bs c.mem) c.state c.id c.bank x y = some (n + ((opF c (x, y)).2.length : Int), bs (opF c (x, y)).1.mem, (opF c (x, y)).1.state, (opF c (x, y)).1.id, (opF c (x, y)).1.bank) := by
  unfold f_BWriteF0 f_BNoteF0
  rw [Fl.write_eq c hc x y x0 x1 b0 b1, bind_some']
  show cond (Fl.writeF c x y).1.ok _ _ = _
  by_cases hok : (Fl.writeF c x y).1.ok = true
  · have e2 : (opF c (x, y)).2 = [⟨(Fl.writeF c x y).1.k, (Fl.writeF c x y).1.a, bs (Fl.writeF c x y).1.d⟩] := if_pos hok
    rw [ctrue hok, bind_some', e2, wrap_i64 (by omega) (by omega)]
    rfl
  · have e2 : (opF c (x, y)).2 = [] := if_neg hok
    rw [cfalse (by simpa using hok), e2]
    show some (n, _) = some (n + 0, _)
    rw [Int.add_zero]; rfl
theorem wEa {c : Chip} (hc : Inv c) {n : Int} (hn : 0 ≤ n ∧ n ≤ 1000000000000) (kind e s : Int) {y : Int} (b0 : 0 ≤ y) (b1 : y < 256) :
    f_BTakeE0 kind e n s (bs c.mem) c.inn c.out c.wide y = some (n + ((opE c y).2.length : Int), bs (opE c y).1.mem, (opE c y).1.inn, (opE c y).1.out) := by
  unfold f_BTakeE0 f_BNoteE0
  rw [write_eq c hc.ok hc.bits hc.len y b0 b1, bind_some']
  show cond (ewriteF c y).1.ok _ _ = _
  by_cases hok : (ewriteF c y).1.ok = true
  · have e2 : (opE c y).2 = [⟨(ewriteF c y).1.k, (ewriteF c y).1.a, bs (ewriteF c y).1.d⟩] := if_pos hok
    rw [ctrue hok, bind_some', e2, wrap_i64 (by omega) (by omega)]
    rfl
  · have e2 : (opE c y).2 = [] := if_neg hok
    rw [cfalse (by simpa using hok), e2]
    show some (n, _) = some (n + 0, _)
    rw [Int.add_zero]; rfl
def cbS (s : List UInt8 × Bw) (c : E35) : List UInt8 × Bw := if c.Kind = 0 then stS s (c.Addr, c.Byte) else if c.Kind = 1 then s else if c.Kind = 7 then (putsL c).foldl (stepB putS fun m => m) s else s
def cbF (s : Fl.Chip × Bw) (c : E35) : Fl.Chip × Bw := if c.Kind = 0 then stF s (c.Addr, c.Byte) else if c.Kind = 1 then s else if c.Kind = 7 then (putsL c).foldl (stepB putF fun m => m.mem) s else s
def cbE (s : Chip × Bw) (c : E35) : Chip × Bw := if c.Kind = 1 then (bitsN c.N).foldl (stepB opE fun m => m.mem) s else s
theorem cbS_fst (m : List UInt8) (b : Bw) (c : E35) : (cbS (m, b) c).1 = (callS m c).1 ∧ (cbS (m, b) c).2.ct = b.ct + ((callS m c).2.length : Int) := by
  unfold cbS callS stS
  split
  · exact ⟨rfl, step_ct one_opS _ m b _⟩
  split
  · exact ⟨rfl, by simp⟩
  split
  · exact fold_fst one_putS _ _ m b
  · exact ⟨rfl, by simp⟩
theorem cbF_fst (m : Fl.Chip) (b : Bw) (c : E35) : (cbF (m, b) c).1 = (callF m c).1 ∧ (cbF (m, b) c).2.ct = b.ct + ((callF m c).2.length : Int) := by
  unfold cbF callF stF
  split
  · exact ⟨rfl, step_ct one_opF _ m b _⟩
  split
  · exact ⟨rfl, by simp⟩
  split
  · exact fold_fst one_putF _ _ m b
  · exact ⟨rfl, by simp⟩
theorem cbE_fst (m : Chip) (b : Bw) (c : E35) : (cbE (m, b) c).1 = (callE m c).1 ∧ (cbE (m, b) c).2.ct = b.ct + ((callE m c).2.length : Int) := by
  unfold cbE callE
  split
  · exact fold_fst one_opE _ _ m b
  · exact ⟨rfl, by simp⟩
theorem doSw {c : List UInt8} (hc : okS c) {N n sl : Nat} {B : List (Int × Bool)} {b : Bw} {k : Nat} (h : Bin N n sl B b k) (hk : k ≤ 900000000000) (kind : Int) {x : E35} (hx : okC x) :
    (okS (cbS (c, b) x).1 ∧ Bin N n sl B (cbS (c, b) x).2 (k + 32784)) ∧
      f_doS1 kind (ints c) b.er b.ct b.su  ((64 * n : Nat) : Int) (sl : Int) (b.J.ba : Int) (b.J.nx : Int) (b.J.ar : Int) b.J.od b.D.F b.D.S b.D.W B b.D.fu b.D.dn x.Kind x.Addr x.Byte x.N x.Picks = some (oS (cbS (c, b) x).1 (cbS (c, b) x).2) := by
  unfold cbS f_doS1
  by_cases h0 : x.Kind = 0
  · rw [if_pos h0, ceq h0, wSw hc h (by omega) kind hx.1.1 hx.1.2 hx.2.1 hx.2.2, bind_some']
    exact ⟨⟨opS_ok hc _, (step_in one_opS _ h _).mono (by omega)⟩, rfl⟩
  by_cases h1 : x.Kind = 1
  · rw [if_neg h0, if_pos h1, cne h0, ceq h1]
    refine ⟨⟨hc, h.mono (by omega)⟩, loopO_for (fun i => 15 - (i : Int)) 16 (fun i hi => ?_) ?_⟩
    · show cond (decide ((15 - (i : Int)) ≥ 0)) _ _ = _
      rw [cpos (by omega), cpos (by omega)]
      unfold f_BTakeS1
      rw [EWriteN_eq, bind_some', bind_some', down_wrap hi]
    · show cond (decide ((15 - ((16 : Nat) : Int)) ≥ 0)) _ _ = _
      rw [cneg (by omega)]
      rfl
  by_cases h7 : x.Kind = 7
  · rw [if_neg h0, if_neg h1, if_pos h7, cne h0, cne h1, ceq h7, puts_eq, bind_some']
    have hl := putsL_len x
    have hm : (putsL x).length * 2049 ≤ 12294 := by have := Nat.mul_le_mul_right 2049 hl; omega
    refine And.imp (fun q => ⟨q.1, q.2.mono (by omega)⟩) (fun q => q) (loop_foldB (op := putS) (fun m => m) (putsL x) (fun c b k => okS c ∧ Bin N n sl B b k) 2049 1000000000000 (fun i c b => ((i : Int), b.er, b.ct, b.su, (b.J.ba : Int), (b.J.nx : Int), (b.J.ar : Int), b.J.od, b.D.fu, b.D.dn, ints c, b.D.F, b.D.S, b.D.W)) (fun c b => oS c b) (fun i hi c b k h hk => ?_) (fun c b => ?_) (⟨hc, h⟩ : okS c ∧ Bin N n sl B b k) (by omega))
    · have hp := putsL_ok hx _ (List.getElem_mem hi)
      refine ⟨⟨opS_ok h.1 _, step_in one_putS _ h.2 _⟩, ?_⟩
      have hw := wSw h.1 h.2 hk kind hp.1 hp.2 (wrap8_bd _).1 (wrap8_bd ((putsL x)[i]).f1).2
      show cond (decide ((i : Int) < (((putsL x).length : Nat) : Int))) _ _ = _
      rw [cpos (by omega), cand (by omega) (by omega), ctrue (by decide), ctrue (by decide), ixL_at hi, hw, bind_some', up_wrap hi (by omega)]
      rfl
    · show cond (decide ((((putsL x).length : Nat) : Int) < (((putsL x).length : Nat) : Int))) _ _ = _
      rw [cneg (by omega)]
      rfl
  · rw [if_neg h0, if_neg h1, if_neg h7, cne h0, cne h1, cne h7]
    exact ⟨⟨hc, h.mono (by omega)⟩, rfl⟩
theorem doFw {c : Fl.Chip} (hc : Fl.Ok c) {N n sl : Nat} {B : List (Int × Bool)} {b : Bw} {k : Nat} (h : Bin N n sl B b k) (hk : k ≤ 900000000000) (kind : Int) {x : E35} (hx : okC x) :
    (Fl.Ok (cbF (c, b) x).1 ∧ Bin N n sl B (cbF (c, b) x).2 (k + 32784)) ∧
      f_doF1 kind  b.er b.ct b.su (bs c.mem) c.state c.id c.bank ((64 * n : Nat) : Int) (sl : Int) (b.J.ba : Int) (b.J.nx : Int) (b.J.ar : Int) b.J.od b.D.F b.D.S b.D.W B b.D.fu b.D.dn x.Kind x.Addr x.Byte x.N x.Picks = some (oF (cbF (c, b) x).1 (cbF (c, b) x).2) := by
  unfold cbF f_doF1
  by_cases h0 : x.Kind = 0
  · rw [if_pos h0, ceq h0, wFw hc h (by omega) kind hx.1.1 hx.1.2 hx.2.1 hx.2.2, bind_some']
    exact ⟨⟨Fl.writeF_Ok hc _ _ hx.2.1, (step_in one_opF _ h _).mono (by omega)⟩, rfl⟩
  by_cases h1 : x.Kind = 1
  · rw [if_neg h0, if_pos h1, cne h0, ceq h1]
    refine ⟨⟨hc, h.mono (by omega)⟩, loopO_for (fun i => 15 - (i : Int)) 16 (fun i hi => ?_) ?_⟩
    · show cond (decide ((15 - (i : Int)) ≥ 0)) _ _ = _
      rw [cpos (by omega), cpos (by omega)]
      unfold f_BTakeF1
      rw [EWriteN_eq, bind_some', bind_some', down_wrap hi]
    · show cond (decide ((15 - ((16 : Nat) : Int)) ≥ 0)) _ _ = _
      rw [cneg (by omega)]
      rfl
  by_cases h7 : x.Kind = 7
  · rw [if_neg h0, if_neg h1, if_pos h7, cne h0, cne h1, ceq h7, puts_eq, bind_some']
    have hl := putsL_len x
    have hm : (putsL x).length * 2049 ≤ 12294 := by have := Nat.mul_le_mul_right 2049 hl; omega
    refine And.imp (fun q => ⟨q.1, q.2.mono (by omega)⟩) (fun q => q) (loop_foldB (op := putF) (fun m => m.mem) (putsL x) (fun c b k => Fl.Ok c ∧ Bin N n sl B b k) 2049 1000000000000 (fun i c b => ((i : Int), b.er, b.ct, b.su, bs c.mem, c.state, c.id, c.bank, (b.J.ba : Int), (b.J.nx : Int), (b.J.ar : Int), b.J.od, b.D.fu, b.D.dn, b.D.F, b.D.S, b.D.W)) (fun c b => oF c b) (fun i hi c b k h hk => ?_) (fun c b => ?_) (⟨hc, h⟩ : Fl.Ok c ∧ Bin N n sl B b k) (by omega))
    · have hp := putsL_ok hx _ (List.getElem_mem hi)
      refine ⟨⟨Fl.writeF_Ok h.1 _ _ (wrap8_bd _).1, step_in one_putF _ h.2 _⟩, ?_⟩
      have hw := wFw h.1 h.2 hk kind hp.1 hp.2 (wrap8_bd _).1 (wrap8_bd ((putsL x)[i]).f1).2
      show cond (decide ((i : Int) < (((putsL x).length : Nat) : Int))) _ _ = _
      rw [cpos (by omega), cand (by omega) (by omega), ctrue (by decide), ctrue (by decide), ixL_at hi, hw, bind_some', up_wrap hi (by omega)]
      rfl
    · show cond (decide ((((putsL x).length : Nat) : Int) < (((putsL x).length : Nat) : Int))) _ _ = _
      rw [cneg (by omega)]
      rfl
  · rw [if_neg h0, if_neg h1, if_neg h7, cne h0, cne h1, cne h7]
    exact ⟨⟨hc, h.mono (by omega)⟩, rfl⟩
theorem doEw {c : Chip} (hc : Inv c) {w : Int} (hw : c.wide = w) {N n sl : Nat} {B : List (Int × Bool)} {b : Bw} {k : Nat} (h : Bin N n sl B b k) (hk : k ≤ 900000000000) (kind : Int) (x : E35) :
    ((Inv (cbE (c, b) x).1 ∧ (cbE (c, b) x).1.wide = w) ∧ Bin N n sl B (cbE (c, b) x).2 (k + 32784)) ∧
      f_doE1 kind b.er b.ct b.su (bs c.mem) c.inn c.out w ((64 * n : Nat) : Int) (sl : Int) (b.J.ba : Int) (b.J.nx : Int) (b.J.ar : Int) b.J.od b.D.F b.D.S b.D.W B b.D.fu b.D.dn x.Kind x.Addr x.Byte x.N x.Picks = some (oE (cbE (c, b) x).1 (cbE (c, b) x).2) := by
  unfold cbE f_doE1
  by_cases h0 : x.Kind = 0
  · rw [if_neg (by omega), ceq h0]
    exact ⟨⟨⟨hc, hw⟩, h.mono (by omega)⟩, rfl⟩
  by_cases h1 : x.Kind = 1
  · rw [if_pos h1, cne h0, ceq h1]
    have hl := bitsN_len x.N
    refine And.imp (fun q => ⟨q.1, q.2.mono (by omega)⟩) (fun q => q) (loop_foldB (op := opE) (fun m => m.mem) (bitsN x.N) (fun c b k => (Inv c ∧ c.wide = w) ∧ Bin N n sl B b k) 2049 1000000000000 (fun i c b => (15 - (i : Int), b.er, b.ct, b.su, bs c.mem, (b.J.ba : Int), (b.J.nx : Int), (b.J.ar : Int), b.J.od, b.D.fu, b.D.dn, c.inn, c.out, b.D.F, b.D.S, b.D.W)) (fun c b => oE c b) (fun i hi c b k h hk => ?_) (fun c b => ?_) (⟨⟨hc, hw⟩, h⟩ : (Inv c ∧ c.wide = w) ∧ Bin N n sl B b k) (by omega))
    · rw [bitsN_at]
      obtain ⟨b1, b2⟩ := bitN_bd x.N (15 - (i : Int))
      obtain ⟨q1, q2, q3⟩ := ewriteF_Inv h.1.1 (bitN x.N (15 - (i : Int)))
      refine ⟨⟨⟨q1, q2.trans h.1.2⟩, step_in one_opE _ h.2 _⟩, ?_⟩
      have hq := wEw h.1.1 h.2 hk kind b1 b2
      show cond (decide ((15 - (i : Int)) ≥ 0)) _ _ = _
      rw [cpos (by omega), cpos (by omega)]
      rw [← h.1.2]
      show Option.bind (f_BTakeE1 kind b.er b.ct b.su (bs c.mem) c.inn c.out c.wide ((64 * n : Nat) : Int) (sl : Int) (b.J.ba : Int) (b.J.nx : Int) (b.J.ar : Int) b.J.od b.D.F b.D.S b.D.W B b.D.fu b.D.dn (bitN x.N (15 - (i : Int)))) _ = _
      rw [hq, bind_some']
      show some (Sum.inl (IntKind.wrap .i64 ((15 - (i : Int)) - 1), _)) = _
      rw [down_wrap (by omega)]
      rfl
    · rw [hl]
      show cond (decide ((15 - ((16 : Nat) : Int)) ≥ 0)) _ _ = _
      rw [cneg (by omega)]
      rfl
  by_cases h7 : x.Kind = 7
  · rw [if_neg h1, cne h0, cne h1, ceq h7, puts_eq, bind_some']
    have hl := putsL_len x
    refine ⟨⟨⟨hc, hw⟩, h.mono (by omega)⟩, ?_⟩
    refine loopO_for (fun i => (i : Int)) (putsL x).length (fun i hi => ?_) ?_
    · show cond (decide ((i : Int) < (((putsL x).length : Nat) : Int))) _ _ = _
      rw [cpos (by omega), cand (by omega) (by omega), ctrue (by decide), ctrue (by decide)]
      unfold f_BWriteE1
      rw [bind_some', up_wrap hi (by omega)]
    · show cond (decide ((((putsL x).length : Nat) : Int) < (((putsL x).length : Nat) : Int))) _ _ = _
      rw [cneg (by omega)]
      rfl
  · rw [if_neg h1, cne h0, cne h1, cne h7]
    exact ⟨⟨⟨hc, hw⟩, h.mono (by omega)⟩, rfl⟩
theorem doSa {c : List UInt8} (hc : okS c) {n : Int} (hn : 0 ≤ n ∧ n ≤ 900000000000) (kind e s : Int) {x : E35} (hx : okC x) :
    okS (callS c x).1 ∧ f_doS0 kind (ints c) e n s  x.Kind x.Addr x.Byte x.N x.Picks = some (n + ((callS c x).2.length : Int), ints (callS c x).1) := by
  unfold callS f_doS0
  by_cases h0 : x.Kind = 0
  · rw [if_pos h0, ceq h0, wSa hc (by omega) kind e s hx.1.1 hx.1.2 hx.2.1 hx.2.2, bind_some']
    exact ⟨opS_ok hc _, rfl⟩
  by_cases h1 : x.Kind = 1
  · rw [if_neg h0, if_pos h1, cne h0, ceq h1]
    refine ⟨hc, loopO_for (fun i => 15 - (i : Int)) 16 (fun i hi => ?_) ?_⟩
    · show cond (decide ((15 - (i : Int)) ≥ 0)) _ _ = _
      rw [cpos (by omega), cpos (by omega)]
      unfold f_BTakeS0
      rw [EWriteN_eq, bind_some', bind_some', down_wrap hi]
    · show cond (decide ((15 - ((16 : Nat) : Int)) ≥ 0)) _ _ = _
      rw [cneg (by omega)]
      show some (Sum.inr (n, _)) = some (Sum.inr (n + 0, _))
      rw [Int.add_zero]
  by_cases h7 : x.Kind = 7
  · rw [if_neg h0, if_neg h1, if_pos h7, cne h0, cne h1, ceq h7, puts_eq, bind_some']
    have hl := putsL_len x
    refine loop_foldA (op := putS) one_putS (putsL x) okS (fun i c n => ((i : Int), n, ints c)) (fun c n => (n, ints c)) (fun i hi c n h hn => ?_) (fun c n => ?_) hc (by omega)
    · have hp := putsL_ok hx _ (List.getElem_mem hi)
      refine ⟨opS_ok h _, ?_⟩
      have hw := wSa h hn kind e s hp.1 hp.2 (wrap8_bd _).1 (wrap8_bd ((putsL x)[i]).f1).2
      show cond (decide ((i : Int) < (((putsL x).length : Nat) : Int))) _ _ = _
      rw [cpos (by omega), cand (by omega) (by omega), ctrue (by decide), ctrue (by decide), ixL_at hi, hw, bind_some', up_wrap hi (by omega)]
      rfl
    · show cond (decide ((((putsL x).length : Nat) : Int) < (((putsL x).length : Nat) : Int))) _ _ = _
      rw [cneg (by omega)]
  · rw [if_neg h0, if_neg h1, if_neg h7, cne h0, cne h1, cne h7]
    refine ⟨hc, ?_⟩
    show some (n, _) = some (n + 0, _)
    rw [Int.add_zero]
theorem doFa {c : Fl.Chip} (hc : Fl.Ok c) {n : Int} (hn : 0 ≤ n ∧ n ≤ 900000000000) (kind e s : Int) {x : E35} (hx : okC x) :
    Fl.Ok (callF c x).1 ∧ f_doF0 kind  e n s (bs c.mem) c.state c.id c.bank x.Kind x.Addr x.Byte x.N x.Picks = some (n + ((callF c x).2.length : Int), bs (callF c x).1.mem, (callF c x).1.state, (callF c x).1.id, (callF c x).1.bank) := by
  unfold callF f_doF0
  by_cases h0 : x.Kind = 0
  · rw [if_pos h0, ceq h0, wFa hc (by omega) kind e s hx.1.1 hx.1.2 hx.2.1 hx.2.2, bind_some']
    exact ⟨Fl.writeF_Ok hc _ _ hx.2.1, rfl⟩
  by_cases h1 : x.Kind = 1
  · rw [if_neg h0, if_pos h1, cne h0, ceq h1]
    refine ⟨hc, loopO_for (fun i => 15 - (i : Int)) 16 (fun i hi => ?_) ?_⟩
    · show cond (decide ((15 - (i : Int)) ≥ 0)) _ _ = _
      rw [cpos (by omega), cpos (by omega)]
      unfold f_BTakeF0
      rw [EWriteN_eq, bind_some', bind_some', down_wrap hi]
    · show cond (decide ((15 - ((16 : Nat) : Int)) ≥ 0)) _ _ = _
      rw [cneg (by omega)]
      show some (Sum.inr (n, _)) = some (Sum.inr (n + 0, _))
      rw [Int.add_zero]
  by_cases h7 : x.Kind = 7
  · rw [if_neg h0, if_neg h1, if_pos h7, cne h0, cne h1, ceq h7, puts_eq, bind_some']
    have hl := putsL_len x
    refine loop_foldA (op := putF) one_putF (putsL x) Fl.Ok (fun i c n => ((i : Int), n, bs c.mem, c.state, c.id, c.bank)) (fun c n => (n, bs c.mem, c.state, c.id, c.bank)) (fun i hi c n h hn => ?_) (fun c n => ?_) hc (by omega)
    · have hp := putsL_ok hx _ (List.getElem_mem hi)
      refine ⟨Fl.writeF_Ok h _ _ (wrap8_bd _).1, ?_⟩
      have hw := wFa h hn kind e s hp.1 hp.2 (wrap8_bd _).1 (wrap8_bd ((putsL x)[i]).f1).2
      show cond (decide ((i : Int) < (((putsL x).length : Nat) : Int))) _ _ = _
      rw [cpos (by omega), cand (by omega) (by omega), ctrue (by decide), ctrue (by decide), ixL_at hi, hw, bind_some', up_wrap hi (by omega)]
      rfl
    · show cond (decide ((((putsL x).length : Nat) : Int) < (((putsL x).length : Nat) : Int))) _ _ = _
      rw [cneg (by omega)]
  · rw [if_neg h0, if_neg h1, if_neg h7, cne h0, cne h1, cne h7]
    refine ⟨hc, ?_⟩
    show some (n, _) = some (n + 0, _)
    rw [Int.add_zero]
theorem doEa {c : Chip} (hc : Inv c) {w : Int} (hw : c.wide = w) {n : Int} (hn : 0 ≤ n ∧ n ≤ 900000000000) (kind e s : Int) (x : E35) :
    (Inv (callE c x).1 ∧ (callE c x).1.wide = w) ∧ f_doE0 kind e n s (bs c.mem) c.inn c.out w x.Kind x.Addr x.Byte x.N x.Picks = some (n + ((callE c x).2.length : Int), bs (callE c x).1.mem, (callE c x).1.inn, (callE c x).1.out) := by
  unfold callE f_doE0
  by_cases h0 : x.Kind = 0
  · rw [if_neg (by omega), ceq h0]
    refine ⟨⟨hc, hw⟩, ?_⟩
    show some (n, _) = some (n + 0, _)
    rw [Int.add_zero]
  by_cases h1 : x.Kind = 1
  · rw [if_pos h1, cne h0, ceq h1]
    have hl := bitsN_len x.N
    refine loop_foldA (op := opE) one_opE (bitsN x.N) (fun c => Inv c ∧ c.wide = w) (fun i c n => (15 - (i : Int), n, bs c.mem, c.inn, c.out)) (fun c n => (n, bs c.mem, c.inn, c.out)) (fun i hi c n h hn => ?_) (fun c n => ?_) ⟨hc, hw⟩ (show 0 ≤ n ∧ n + ((bitsN x.N).length : Int) ≤ 1000000000000 by omega)
    · rw [bitsN_at]
      obtain ⟨b1, b2⟩ := bitN_bd x.N (15 - (i : Int))
      obtain ⟨q1, q2, q3⟩ := ewriteF_Inv h.1 (bitN x.N (15 - (i : Int)))
      refine ⟨⟨q1, q2.trans h.2⟩, ?_⟩
      have hq := wEa h.1 hn kind e s b1 b2
      show cond (decide ((15 - (i : Int)) ≥ 0)) _ _ = _
      rw [cpos (by omega), cpos (by omega), ← h.2]
      show Option.bind (f_BTakeE0 kind e n s (bs c.mem) c.inn c.out c.wide (bitN x.N (15 - (i : Int)))) _ = _
      rw [hq, bind_some']
      show some (Sum.inl (IntKind.wrap .i64 ((15 - (i : Int)) - 1), _)) = _
      rw [down_wrap (by omega)]
    · rw [hl]
      show cond (decide ((15 - ((16 : Nat) : Int)) ≥ 0)) _ _ = _
      rw [cneg (by omega)]
  by_cases h7 : x.Kind = 7
  · rw [if_neg h1, cne h0, cne h1, ceq h7, puts_eq, bind_some']
    have hl := putsL_len x
    refine ⟨⟨hc, hw⟩, ?_⟩
    refine loopO_for (fun i => (i : Int)) (putsL x).length (fun i hi => ?_) ?_
    · show cond (decide ((i : Int) < (((putsL x).length : Nat) : Int))) _ _ = _
      rw [cpos (by omega), cand (by omega) (by omega), ctrue (by decide), ctrue (by decide)]
      unfold f_BWriteE0
      rw [bind_some', up_wrap hi (by omega)]
    · show cond (decide ((((putsL x).length : Nat) : Int) < (((putsL x).length : Nat) : Int))) _ _ = _
      rw [cneg (by omega)]
      show some (Sum.inr (n, _)) = some (Sum.inr (n + 0, _))
      rw [Int.add_zero]
  · rw [if_neg h1, cne h0, cne h1, cne h7]
    refine ⟨⟨hc, hw⟩, ?_⟩
    show some (n, _) = some (n + 0, _)
    rw [Int.add_zero]
theorem doZa (kind e n s : Int) (x : E35) : f_doZ0 kind e n s x.Kind x.Addr x.Byte x.N x.Picks = some () := by
  unfold f_doZ0
  by_cases h0 : x.Kind = 0
  · rw [ceq h0]; rfl
  by_cases h1 : x.Kind = 1
  · rw [cne h0, ceq h1]
    refine loopO_for (fun i => 15 - (i : Int)) 16 (fun i hi => ?_) ?_
    · show cond (decide ((15 - (i : Int)) ≥ 0)) _ _ = _
      rw [cpos (by omega), cpos (by omega)]
      unfold f_BTakeZ0
      rw [EWriteN_eq, bind_some', bind_some', down_wrap hi]
    · show cond (decide ((15 - ((16 : Nat) : Int)) ≥ 0)) _ _ = _
      rw [cneg (by omega)]
  by_cases h7 : x.Kind = 7
  · rw [cne h0, cne h1, ceq h7, puts_eq, bind_some']
    have hl := putsL_len x
    refine loopO_for (fun i => (i : Int)) (putsL x).length (fun i hi => ?_) ?_
    · show cond (decide ((i : Int) < (((putsL x).length : Nat) : Int))) _ _ = _
      rw [cpos (by omega), cand (by omega) (by omega), ctrue (by decide), ctrue (by decide)]
      unfold f_BWriteZ0
      rw [bind_some', up_wrap hi (by omega)]
    · show cond (decide ((((putsL x).length : Nat) : Int) < (((putsL x).length : Nat) : Int))) _ _ = _
      rw [cneg (by omega)]
  · rw [cne h0, cne h1, cne h7]
end Go.Proofs.YtcgigdfahlmfaaaGreatDoor
