/-
  SaveUnseen: with a journal on whatever disk a chip gives what it gives without one.
-/
import Derived.Test.YtcgigdfahlmfaaaGreatDoorBd
import Derived.Test.YtcgigdfahlmfaaaGreatDoorSyn1
import Derived.Test.YtcgigdfahlmfaaaGreatDoorEepS
import Derived.Test.YtcgigdfahlmfaaaGreatDoorFlaR
namespace Go.Proofs.YtcgigdfahlmfaaaGreatDoor
open Go.Vc
set_option linter.unusedVariables false
set_option linter.unusedSimpArgs false
theorem bind_mid {α β : Type} {X : Option α} {T : α → Option β} {a : α} {r : Option β} (h : X = some a) (ht : T a = r) : X.bind T = r := by rw [h]; exact ht
theorem k017 (k : Int) : (cond (k == 0) (some (k == 0)) (cond (k == 1) (some (k == 1)) (some (k == 7))) : Option Bool) = some (decide (k = 0 ∨ k = 1 ∨ k = 7)) := by
  by_cases h0 : k = 0
  · rw [ceq h0, h0]; rfl
  rw [cne h0]
  by_cases h1 : k = 1
  · rw [ceq h1, h1]; rfl
  rw [cne h1]
  by_cases h7 : k = 7
  · rw [h7]; rfl
  · rw [decide_eq_false (by omega), show (k == 7) = false by simpa using h7]
def max0 (x : Int) : Int := if (-1 : Int) > x then -1 else x
theorem max0_bd {x : Int} (h : x ≤ 9223372036854775807) : -1 ≤ max0 x ∧ max0 x ≤ 9223372036854775807 := by unfold max0; split <;> omega
def okU (x : E35) : Prop := okC x ∧ x.N ≤ 9223372036854775807 ∧ x.Picks.length ≤ 9223372036854775807
def diskU (b : Bw) (x : E35) : Bw :=
  if x.Kind = 2 then syncD b else if x.Kind = 4 then ⟨b.er, b.ct, b.su, b.J, ⟨b.D.F, b.D.W, b.D.B, max0 x.N, b.D.dn⟩⟩
  else if x.Kind = 5 then ⟨b.er, b.ct, b.su, b.J, ⟨b.D.F, b.D.W, putB b.D.B x.N true, b.D.fu, b.D.dn⟩⟩
  else if x.Kind = 6 then ⟨b.er, b.ct, b.su, b.J, ⟨b.D.F, b.D.W, b.D.B, b.D.fu, true⟩⟩ else b
theorem diskU_in {N n sl : Nat} {B : List (Int × Bool)} {b : Bw} {k : Nat} (h : Bin N n sl B b k) {x : E35} (hx : okU x) : ∃ B', Bin N n sl B' (diskU b x) k := by
  unfold diskU
  split
  · exact ⟨B, sync_in h⟩
  split
  · exact ⟨B, ⟨h.D.full, h.D.len, h.D.soft, h.D.wl, max0_bd hx.2.1⟩, h.B, h.J, h.n, h.sl, h.ct⟩
  split
  · exact ⟨putB b.D.B x.N true, ⟨h.D.full, h.D.len, h.D.soft, h.D.wl, h.D.fu⟩, rfl, h.J, h.n, h.sl, h.ct⟩
  split
  · exact ⟨B, ⟨h.D.full, h.D.len, h.D.soft, h.D.wl, h.D.fu⟩, h.B, h.J, h.n, h.sl, h.ct⟩
  · exact ⟨B, h⟩
theorem sync_keep (b : Bw) : (syncD b).J = b.J ∧ (syncD b).D.S = b.D.S ∧ (syncD b).D.B = b.D.B ∧ (syncD b).ct = b.ct := by
  have h1 := sy_S b.D
  have h2 := sy_B b.D
  unfold syncD
  split
  · exact ⟨rfl, rfl, rfl, rfl⟩
  · exact ⟨rfl, h1, h2, rfl⟩
def B0 (n sl : Nat) : Bw := ⟨0, 0, 0, ⟨n, sl, 1, 0, 0, false⟩, ⟨D0 n sl, [], [], -1, false⟩⟩
theorem B0_in {n sl : Nat} (hn0 : 1 ≤ n) (hn1 : n ≤ 2048) (hs0 : 1 ≤ sl) (hs1 : sl ≤ 1024) : Bin (2 + 2 * n + sl) n sl [] (B0 n sl) 0 :=
  ⟨⟨(D0_JS hn0 hn1 hs0 hs1).full, (D0_JS hn0 hn1 hs0 hs1).len, fun w hw => by simp [B0] at hw, Nat.le_refl _, by show (-1 : Int) ≤ -1 ∧ (-1 : Int) ≤ 9223372036854775807; omega⟩, rfl, ⟨hn0, hn1, hs0, hs1, by show 1 < 4294967296; omega, Nat.zero_le _, by show 0 < 2; omega⟩, rfl, rfl, by show (0 : Int) ≤ 0 ∧ (0 : Int) ≤ 0; omega⟩
theorem B0_nx (n sl : Nat) : (B0 n sl).J.nx = 1 := Nat.mod_eq_of_lt (show 1 + 0 < 4294967296 by omega)
theorem disked_no {k q : Int} {n : Nat} (hz : f_Size k = some (((64 * n : Nat) : Int), 0)) (hn : n ≤ 2048) (h : n = 0 ∨ q < 1) (hq : q ≤ 64) : f_disked k q = some (.inl false) := by
  have hs : f_Sectors ((64 * n : Nat) : Int) q = some (0, 1) := by
    unfold f_Sectors
    rcases h with h | h
    · subst h; rfl
    · by_cases h0 : n = 0
      · subst h0; rfl
      · have h2 : Int.tmod ((64 * n : Nat) : Int) 64 = 0 := by rw [tmod_nn (by omega)]; omega
        rw [cneg (by omega), cneg (by omega), h2, cbeq rfl, cpos (by omega)]
  unfold f_disked
  rw [hz, bind_some']
  dsimp only
  rw [hs, bind_some']
  dsimp only
  rw [New_none (by decide), bind_some']
  dsimp only
  rfl
theorem Size_bad {k : Int} (h : ¬ (0 ≤ k ∧ k ≤ 5)) : f_Size k = some (0, 60) := by
  unfold f_Size
  rw [cne (by omega), cne (by omega), cne (by omega), cne (by omega), cne (by omega), cne (by omega)]
theorem BNew_bad {k : Int} (h : ¬ (0 ≤ k ∧ k ≤ 5)) (s : ByteArray) : f_BNew k s = some (.inl 60) := by
  unfold f_BNew
  rw [Size_bad h, bind_some']
  dsimp only
  rw [cbne (by decide)]
theorem BNew_0 : f_BNew 0 (ByteArray.mk #[]) = some (.inr (.inl 0)) := by
  have hB : f_Blank 0 = some (bs []) := Blank_eq 0 (by decide)
  unfold f_BNew
  rw [show f_Size 0 = some (0, 0) from rfl, bind_some']
  dsimp only
  rw [cbeq rfl, nil_beq, ctrue rfl, hB, bind_some', bind_some']
  rfl
theorem beqBS (m : List UInt8) : ((bs m).toList == (bs m).toList) = true := by simp
theorem readS_eq {m : List UInt8} (hm : okS m) (kind e n s : Int) {x : Int} (x0 : 0 ≤ x) (x1 : x < 4294967296) : f_BReadS kind (ints m) e n s x = some (ixL (ints m) (bits .and .u32 x 32767)) := by
  have hm' : m.length = 32768 := hm
  unfold f_BReadS
  have e1 : bits .and .u32 x 32767 = x % 32768 := by rw [and32 15 (by decide) (by decide) x0 x1]; rfl
  rw [e1, cand (by omega) (by rw [ints_len, hm']; omega)]
theorem readF_eq {c : Fl.Chip} (hc : Fl.Ok c) (kind e n s : Int) {x : Int} (x0 : 0 ≤ x) (x1 : x < 4294967296) : f_BReadF kind e n s (bs c.mem) c.state c.id c.bank x = some (Fl.readF c x) := by
  unfold f_BReadF
  rw [Fl.read_eq c hc x x0 x1, bind_some']
theorem EReadN_eq : f_EReadN = some () := rfl
def InvE (w : Int) (c : Chip) : Prop := (Inv c ∧ c.wide = w) ∧ Bits c.out ∧ c.out.length ≤ 68
theorem fold_out (w : Int) : ∀ (l : List Int) (c : Chip), InvE w c → InvE w (fold opE c l).1
  | [], c, h => h
  | b :: l, c, h => by
    obtain ⟨q1, q2, q3⟩ := ewriteF_Inv h.1.1 b
    exact fold_out w l _ ⟨⟨q1, q2.trans h.1.2⟩, ewriteF_out h.2.1 h.2.2 b⟩
theorem callE_out {w : Int} {c : Chip} (h : InvE w c) (x : E35) : InvE w (callE c x).1 := by
  unfold callE
  split
  · exact fold_out w _ _ h
  · exact h
def popE (c : Chip) : Chip := ⟨c.mem, c.inn, (ereadF c.out).2, c.wide⟩
theorem popE_in {w : Int} {c : Chip} (h : InvE w c) : InvE w (popE c) := by
  refine ⟨⟨⟨h.1.1.ok, h.1.1.bits, h.1.1.len, h.1.1.head, h.1.1.next⟩, h.1.2⟩, ?_, ?_⟩
  · show Bits (ereadF c.out).2
    rw [ereadF_snd]
    exact fun x hx => h.2.1 x (List.mem_of_mem_drop hx)
  · show (ereadF c.out).2.length ≤ 68
    rw [ereadF_snd, List.length_drop]
    have := h.2.2; omega
theorem bitE_eq {w : Int} {c : Chip} (h : InvE w c) (kind e n s : Int) : f_BBitE kind e n s (bs c.mem) c.inn c.out w = some ((ereadF c.out).1, (popE c).out) := by
  unfold f_BBitE
  rw [eread_eq _ _ _ _ (Nat.le_trans h.2.2 (by decide)), bind_some']
  rfl
abbrev TS (i : Nat) (c : List UInt8) (b : Bw) := ((i : Int), b.er, b.ct, b.su, b.D.fu, b.D.dn, (b.J.ba : Int), (b.J.nx : Int), (b.J.ar : Int), b.J.od, b.ct, ints c, b.D.F, b.D.S, b.D.W, b.D.B, ints c)
abbrev MS (c : List UInt8) (b : Bw) := (b.er, b.ct, b.su, b.D.fu, b.D.dn, (b.J.ba : Int), (b.J.nx : Int), (b.J.ar : Int), b.J.od, b.ct, ints c, b.D.F, b.D.S, b.D.W, b.D.B, ints c)
theorem TS0 (c : List UInt8) (n sl : Nat) : TS 0 c (B0 n sl) = (0, 0, 0, 0, -1, false, 1, 1, 0, false, 0, ints c, D0 n sl, D0 n sl, [], [], ints c) := by
  show (((0 : Nat) : Int), (B0 n sl).er, (B0 n sl).ct, (B0 n sl).su, (B0 n sl).D.fu, (B0 n sl).D.dn, ((B0 n sl).J.ba : Int), ((B0 n sl).J.nx : Int), ((B0 n sl).J.ar : Int), (B0 n sl).J.od, (B0 n sl).ct, ints c, (B0 n sl).D.F, (B0 n sl).D.S, (B0 n sl).D.W, (B0 n sl).D.B, ints c) = _
  rw [B0_nx]; rfl
def unS (s : List UInt8 × Bw) (x : E35) : List UInt8 × Bw := if x.Kind = 0 ∨ x.Kind = 1 ∨ x.Kind = 7 then cbS s x else (s.1, diskU s.2 x)
theorem unS_in {c : List UInt8} (hc : okS c) {N n sl : Nat} {B : List (Int × Bool)} {b : Bw} {k : Nat} (h : Bin N n sl B b k) (hk : k ≤ 900000000000) {x : E35} (hx : okU x) : okS (unS (c, b) x).1 ∧ ∃ B', Bin N n sl B' (unS (c, b) x).2 (k + 32784) := by
  unfold unS
  split
  · have q := (doSw hc h hk 0 hx.1).1
    exact ⟨q.1, B, q.2⟩
  · obtain ⟨B', q⟩ := diskU_in h hx
    exact ⟨hc, B', q.mono (by omega)⟩
theorem loopS {calls : List E35} (hl : calls.length ≤ 40) (hx : ∀ x ∈ calls, okU x) {N n sl : Nat} (kind : Int) {f : (Int × _) → Option ((Int × _) ⊕ Bool)} {c0 : List UInt8} (hc0 : okS c0) {b0 : Bw} {B0' : List (Int × Bool)} (hb0 : Bin N n sl B0' b0 0)
    (hs : ∀ (i : Nat) (hi : i < calls.length) (c : List UInt8) (b : Bw) (B : List (Int × Bool)) (k : Nat), okS c → Bin N n sl B b k → k ≤ 900000 * 40 → okU calls[i] → ∃ c', okS c' ∧ (∃ B', Bin N n sl B' (unS (c, b) calls[i]).2 (k + 32784)) ∧ f (TS i c b) = some (.inl (TS (i + 1) c' (unS (c, b) calls[i]).2)))
    (he : ∀ c b, f (TS calls.length c b) = some (.inr true)) : loopO f (TS 0 c0 b0) = some true := by
  refine loopO_inv (fun (d : Nat) (st : _) => ∃ (i : Nat) (c : List UInt8) (b : Bw) (B : List (Int × Bool)), st = TS i c b ∧ d = calls.length - i ∧ i ≤ calls.length ∧ okS c ∧ Bin N n sl B b (i * 32784)) ?_ calls.length _ ⟨0, c0, b0, B0', rfl, rfl, by omega, hc0, by simpa using hb0⟩
  rintro d st ⟨i, c, b, B, rfl, rfl, hi, hc, hb⟩
  by_cases hd : i < calls.length
  · left
    obtain ⟨c', h1, ⟨B', h2⟩, h3⟩ := hs i hd c b B _ hc hb (by omega) (hx _ (List.getElem_mem hd))
    exact ⟨_, calls.length - (i + 1), h3, by omega, i + 1, c', _, B', rfl, rfl, by omega, h1, by rw [Nat.succ_mul]; exact h2⟩
  · right
    have : i = calls.length := by omega
    subst this
    exact he c b
abbrev TF (i : Nat) (c : Fl.Chip) (b : Bw) := ((i : Int), b.er, b.ct, b.su, bs c.mem, c.state, c.id, c.bank, b.D.fu, b.D.dn, (b.J.ba : Int), (b.J.nx : Int), (b.J.ar : Int), b.J.od, b.ct, bs c.mem, c.state, c.id, c.bank, b.D.F, b.D.S, b.D.W, b.D.B)
abbrev MF (c : Fl.Chip) (b : Bw) := (b.er, b.ct, b.su, bs c.mem, c.state, c.id, c.bank, b.D.fu, b.D.dn, (b.J.ba : Int), (b.J.nx : Int), (b.J.ar : Int), b.J.od, b.ct, bs c.mem, c.state, c.id, c.bank, b.D.F, b.D.S, b.D.W, b.D.B)
theorem TF0 (c : Fl.Chip) (n sl : Nat) : TF 0 c (B0 n sl) = (0, 0, 0, 0, bs c.mem, c.state, c.id, c.bank, -1, false, 1, 1, 0, false, 0, bs c.mem, c.state, c.id, c.bank, D0 n sl, D0 n sl, [], []) := by
  show (((0 : Nat) : Int), (B0 n sl).er, (B0 n sl).ct, (B0 n sl).su, bs c.mem, c.state, c.id, c.bank, (B0 n sl).D.fu, (B0 n sl).D.dn, ((B0 n sl).J.ba : Int), ((B0 n sl).J.nx : Int), ((B0 n sl).J.ar : Int), (B0 n sl).J.od, (B0 n sl).ct, bs c.mem, c.state, c.id, c.bank, (B0 n sl).D.F, (B0 n sl).D.S, (B0 n sl).D.W, (B0 n sl).D.B) = _
  rw [B0_nx]; rfl
def unF (s : Fl.Chip × Bw) (x : E35) : Fl.Chip × Bw := if x.Kind = 0 ∨ x.Kind = 1 ∨ x.Kind = 7 then cbF s x else (s.1, diskU s.2 x)
theorem unF_in {c : Fl.Chip} (hc : Fl.Ok c) {N n sl : Nat} {B : List (Int × Bool)} {b : Bw} {k : Nat} (h : Bin N n sl B b k) (hk : k ≤ 900000000000) {x : E35} (hx : okU x) : Fl.Ok (unF (c, b) x).1 ∧ ∃ B', Bin N n sl B' (unF (c, b) x).2 (k + 32784) := by
  unfold unF
  split
  · have q := (doFw hc h hk 0 hx.1).1
    exact ⟨q.1, B, q.2⟩
  · obtain ⟨B', q⟩ := diskU_in h hx
    exact ⟨hc, B', q.mono (by omega)⟩
theorem loopF {calls : List E35} (hl : calls.length ≤ 40) (hx : ∀ x ∈ calls, okU x) {N n sl : Nat} (kind : Int) {f : (Int × _) → Option ((Int × _) ⊕ Bool)} {c0 : Fl.Chip} (hc0 : Fl.Ok c0) {b0 : Bw} {B0' : List (Int × Bool)} (hb0 : Bin N n sl B0' b0 0)
    (hs : ∀ (i : Nat) (hi : i < calls.length) (c : Fl.Chip) (b : Bw) (B : List (Int × Bool)) (k : Nat), Fl.Ok c → Bin N n sl B b k → k ≤ 900000 * 40 → okU calls[i] → ∃ c', Fl.Ok c' ∧ (∃ B', Bin N n sl B' (unF (c, b) calls[i]).2 (k + 32784)) ∧ f (TF i c b) = some (.inl (TF (i + 1) c' (unF (c, b) calls[i]).2)))
    (he : ∀ c b, f (TF calls.length c b) = some (.inr true)) : loopO f (TF 0 c0 b0) = some true := by
  refine loopO_inv (fun (d : Nat) (st : _) => ∃ (i : Nat) (c : Fl.Chip) (b : Bw) (B : List (Int × Bool)), st = TF i c b ∧ d = calls.length - i ∧ i ≤ calls.length ∧ Fl.Ok c ∧ Bin N n sl B b (i * 32784)) ?_ calls.length _ ⟨0, c0, b0, B0', rfl, rfl, by omega, hc0, by simpa using hb0⟩
  rintro d st ⟨i, c, b, B, rfl, rfl, hi, hc, hb⟩
  by_cases hd : i < calls.length
  · left
    obtain ⟨c', h1, ⟨B', h2⟩, h3⟩ := hs i hd c b B _ hc hb (by omega) (hx _ (List.getElem_mem hd))
    exact ⟨_, calls.length - (i + 1), h3, by omega, i + 1, c', _, B', rfl, rfl, by omega, h1, by rw [Nat.succ_mul]; exact h2⟩
  · right
    have : i = calls.length := by omega
    subst this
    exact he c b
abbrev TE (i : Nat) (c : Chip) (b : Bw) := ((i : Int), b.er, b.ct, b.su, bs c.mem, b.D.fu, b.D.dn, (b.J.ba : Int), (b.J.nx : Int), (b.J.ar : Int), b.J.od, b.ct, bs c.mem, c.inn, c.out, b.D.F, b.D.S, b.D.W, b.D.B, c.inn, c.out)
abbrev ME (c : Chip) (b : Bw) := (b.er, b.ct, b.su, bs c.mem, b.D.fu, b.D.dn, (b.J.ba : Int), (b.J.nx : Int), (b.J.ar : Int), b.J.od, b.ct, bs c.mem, c.inn, c.out, b.D.F, b.D.S, b.D.W, b.D.B, c.inn, c.out)
theorem TE0 (c : Chip) (n sl : Nat) : TE 0 c (B0 n sl) = (0, 0, 0, 0, bs c.mem, -1, false, 1, 1, 0, false, 0, bs c.mem, c.inn, c.out, D0 n sl, D0 n sl, [], [], c.inn, c.out) := by
  show (((0 : Nat) : Int), (B0 n sl).er, (B0 n sl).ct, (B0 n sl).su, bs c.mem, (B0 n sl).D.fu, (B0 n sl).D.dn, ((B0 n sl).J.ba : Int), ((B0 n sl).J.nx : Int), ((B0 n sl).J.ar : Int), (B0 n sl).J.od, (B0 n sl).ct, bs c.mem, c.inn, c.out, (B0 n sl).D.F, (B0 n sl).D.S, (B0 n sl).D.W, (B0 n sl).D.B, c.inn, c.out) = _
  rw [B0_nx]; rfl
def unE (s : Chip × Bw) (x : E35) : Chip × Bw := if x.Kind = 0 ∨ x.Kind = 1 ∨ x.Kind = 7 then cbE s x else (s.1, diskU s.2 x)
theorem unE_in {w : Int} {c : Chip} (hc : InvE w c) {N n sl : Nat} {B : List (Int × Bool)} {b : Bw} {k : Nat} (h : Bin N n sl B b k) (hk : k ≤ 900000000000) {x : E35} (hx : okU x) : InvE w (unE (c, b) x).1 ∧ ∃ B', Bin N n sl B' (unE (c, b) x).2 (k + 32784) := by
  unfold unE
  split
  · have q := (doEw hc.1.1 hc.1.2 h hk 0 x).1
    refine ⟨?_, B, q.2⟩
    rw [(cbE_fst c b x).1]
    exact callE_out hc x
  · obtain ⟨B', q⟩ := diskU_in h hx
    exact ⟨hc, B', q.mono (by omega)⟩
theorem loopE {calls : List E35} (hl : calls.length ≤ 40) (hx : ∀ x ∈ calls, okU x) {w : Int} {N n sl : Nat} (kind : Int) {f : (Int × _) → Option ((Int × _) ⊕ Bool)} {c0 : Chip} (hc0 : InvE w c0) {b0 : Bw} {B0' : List (Int × Bool)} (hb0 : Bin N n sl B0' b0 0)
    (hs : ∀ (i : Nat) (hi : i < calls.length) (c : Chip) (b : Bw) (B : List (Int × Bool)) (k : Nat), InvE w c → Bin N n sl B b k → k ≤ 900000 * 40 → okU calls[i] → ∃ c', InvE w c' ∧ (∃ B', Bin N n sl B' (unE (c, b) calls[i]).2 (k + 32784)) ∧ f (TE i c b) = some (.inl (TE (i + 1) c' (unE (c, b) calls[i]).2)))
    (he : ∀ c b, f (TE calls.length c b) = some (.inr true)) : loopO f (TE 0 c0 b0) = some true := by
  refine loopO_inv (fun (d : Nat) (st : _) => ∃ (i : Nat) (c : Chip) (b : Bw) (B : List (Int × Bool)), st = TE i c b ∧ d = calls.length - i ∧ i ≤ calls.length ∧ InvE w c ∧ Bin N n sl B b (i * 32784)) ?_ calls.length _ ⟨0, c0, b0, B0', rfl, rfl, by omega, hc0, by simpa using hb0⟩
  rintro d st ⟨i, c, b, B, rfl, rfl, hi, hc, hb⟩
  by_cases hd : i < calls.length
  · left
    obtain ⟨c', h1, ⟨B', h2⟩, h3⟩ := hs i hd c b B _ hc hb (by omega) (hx _ (List.getElem_mem hd))
    exact ⟨_, calls.length - (i + 1), h3, by omega, i + 1, c', _, B', rfl, rfl, by omega, h1, by rw [Nat.succ_mul]; exact h2⟩
  · right
    have : i = calls.length := by omega
    subst this
    exact he c b
theorem fold_len {C I : Type} {op : C → I → C × List E59} (ho : one op) : ∀ (l : List I) (c : C), (fold op c l).2.length ≤ l.length
  | [], c => Nat.zero_le _
  | i :: l, c => by
    have h1 := ho c i
    have h2 := fold_len ho l (op c i).1
    simp only [fold, List.length_append, List.length_cons]; omega
theorem callS_len (c : List UInt8) (x : E35) : (callS c x).2.length ≤ 16 := by
  have h1 := fold_len one_putS (putsL x) c
  have h2 := putsL_len x
  have h3 := one_opS c (x.Addr, x.Byte)
  unfold callS; repeat' split
  all_goals simp; try omega
theorem callF_len (c : Fl.Chip) (x : E35) : (callF c x).2.length ≤ 16 := by
  have h1 := fold_len one_putF (putsL x) c
  have h2 := putsL_len x
  have h3 := one_opF c (x.Addr, x.Byte)
  unfold callF; repeat' split
  all_goals simp; try omega
theorem callE_len (c : Chip) (x : E35) : (callE c x).2.length ≤ 16 := by
  have h1 := fold_len one_opE (bitsN x.N) c
  have h2 := bitsN_len x.N
  unfold callE; split
  · omega
  · simp
end Go.Proofs.YtcgigdfahlmfaaaGreatDoor
