/-
  FlashHides: the law.
-/
import Derived.Test.YtjkcpckjaoehkaaHides
namespace Go.Proofs.Ytjkcpckjaoehkaa
open Go.Vc
set_option linter.unusedVariables false

/-- Behind so many of the seven writes. -/
def seven (m : List UInt8) (bk bk' : Int) : Nat → Chip
  | 0 => ⟨m, 0, false, bk⟩
  | 1 => ⟨m, 1, false, bk⟩
  | 2 => ⟨m, 2, false, bk⟩
  | 3 => ⟨m, 4, false, bk⟩
  | 4 => ⟨m, 0, false, bk'⟩
  | 5 => ⟨m, 1, false, bk'⟩
  | 6 => ⟨m, 2, false, bk'⟩
  | _ => ⟨m, 0, true, bk'⟩
def puts7 (b : Int) : List Value := [.int .u32 21845, .int .u8 170, .int .u32 10922, .int .u8 85, .int .u32 21845, .int .u8 176, .int .u32 0, .int .u8 b, .int .u32 21845, .int .u8 170, .int .u32 10922, .int .u8 85, .int .u32 21845, .int .u8 144]
def put7 (b : Int) : Nat → Int × Int
  | 0 => (21845, 170)
  | 1 => (10922, 85)
  | 2 => (21845, 176)
  | 3 => (0, b)
  | 4 => (21845, 170)
  | 5 => (10922, 85)
  | _ => (21845, 144)
theorem seven_step {m : List UInt8} {bk bk' b : Int} (hb : bk' = if m.length = 131072 then IntKind.wrap .i64 (bits .and .u8 b 1) else bk) (i : Nat) (hi : i < 7) :
    writeF (seven m bk bk' i) (put7 b i).1 (put7 b i).2 = (noneR, seven m bk bk' (i + 1)) := by
  obtain rfl | rfl | rfl | rfl | rfl | rfl | rfl : i = 0 ∨ i = 1 ∨ i = 2 ∨ i = 3 ∨ i = 4 ∨ i = 5 ∨ i = 6 := by omega
  · rfl
  · rfl
  · rfl
  · subst hb
    show (noneR, if at16 0 = 0 ∧ m.length = 131072 then (⟨m, 0, false, IntKind.wrap .i64 (bits .and .u8 b 1)⟩ : Chip) else ⟨m, 0, false, bk⟩) = _
    by_cases h : m.length = 131072
    · rw [if_pos ⟨rfl, h⟩]; unfold seven; rw [if_pos h]; rfl
    · rw [if_neg (fun x => h x.2)]; unfold seven; rw [if_neg h]; rfl
  · rfl
  · rfl
  · rfl
theorem seven_mem {m : List UInt8} {bk bk' : Int} (i : Nat) (hi : i < 8) : (seven m bk bk' i).mem = m ∧ ((seven m bk bk' i).bank = bk ∨ (seven m bk bk' i).bank = bk') := by
  obtain rfl | rfl | rfl | rfl | rfl | rfl | rfl | rfl : i = 0 ∨ i = 1 ∨ i = 2 ∨ i = 3 ∨ i = 4 ∨ i = 5 ∨ i = 6 ∨ i = 7 := by omega
  · exact ⟨rfl, .inl rfl⟩
  · exact ⟨rfl, .inl rfl⟩
  · exact ⟨rfl, .inl rfl⟩
  · exact ⟨rfl, .inl rfl⟩
  · exact ⟨rfl, .inr rfl⟩
  · exact ⟨rfl, .inr rfl⟩
  · exact ⟨rfl, .inr rfl⟩
  · exact ⟨rfl, .inr rfl⟩

set_option maxHeartbeats 2000000 in
theorem law_FlashHides (w : World) (a0 : Bool) (a1 : Int) (w1 : (Lit.int .u8 a1).wf = true) (a2 : Option Addr) (n2 c2 : Nat) (w2 : Rds Try.prog w 33 a2 n2 c2) :
    Calls Try.prog n_FlashHides #[.bool a0, .int .u8 a1, .slice a2 n2 c2] w fun e w' => e = .returned (.bool true) ∧ Chg (fun _ => False) w w' := by
  have hb1 := wf_u8 w1
  apply c_FlashHides
  unfold p_FlashHides
  refine (awake_ok w).mono fun e wa ⟨he, ca⟩ => ⟨_, he, cnd (fun h => by cases h) (fun _ => cnd_dec (fun _ => ⟨rfl, ca⟩) (fun k60 => ?_))⟩
  refine (chip_ok a0 wa).mono fun e wb ⟨b, he, hsb, cb, hb⟩ => ⟨_, he, ?_⟩
  have sa := ca.size
  have keep : ∀ {w' w'' : World}, Chg (fun _ => False) w w' → Chg (· = b) w' w'' → Chg (fun _ => False) w w'' := fun h h' => h.then h' fun k hk e => by omega
  have hl0 : (ffs (if a0 = true then 131072 else 65536)).length = if a0 = true then 131072 else 65536 := ffs_length _
  generalize ffs (if a0 = true then 131072 else 65536) = m0 at *
  have ok0 : Ok ⟨m0, 0, false, 0⟩ := ⟨by rw [hl0]; split <;> simp, .inl rfl⟩
  refine ⟨fun m vs w' => ∃ (k : Nat) (c : Chip), m = n2 - k ∧ k ≤ n2 ∧ vs = [.int .i64 k] ∧ Ok c ∧ c.mem.length = m0.length ∧ Blk w' b c.enc 53 ∧ Chg (fun _ => False) w w', ⟨n2, 0, _, rfl, Nat.zero_le _, rfl, ok0, rfl, hb, ca.trans cb⟩, ?_⟩
  rintro m s27 wc ⟨k, c, rfl, hk, hv, ok, hcl, hc, cc⟩
  obtain rfl : s27 = (k : Int) := by simpa using hv
  refine cnd_dec (fun hlt => ?_) (fun _ => ?_)
  · obtain ⟨hmx, p, rfl, x0, x1, g0, g1, bx0, bx1⟩ := put_at w2 (k := k) (by omega)
    have e6 : IntKind.wrap .i64 ((k : Int) + 1) = ((k + 1 : Nat) : Int) := by rw [wrap_i64 (by omega) (by omega)]; omega
    rw [NN_some]
    refine chk_in (by omega) (by omega) ⟨x0, cc.cell (by simpa using g0) id, x1, cc.cell (by simpa using g1) id, ?_⟩
    refine Nw_blk (cs := [.int .u32 0, .int .u8 0]) fun w3 h3 c3 s3 => St_blk h3 (by rfl) fun w4 h4 c4 _ => St_blk h4 (by rfl) fun w5 h5 c5 _ => ⟨_, ld h5 (by rfl), _, ld h5 (by rfl), ?_⟩
    have sc := cc.size
    have hne : b ≠ wc.heap.size := Nat.ne_of_lt hc.lt
    have hb5 := (hc.keep c3 id).keep (c4.trans c5) hne
    have c55 : Chg (fun _ => False) w w5 := (cc.trans c3).then (c4.trans c5) fun k hk e => by omega
    refine (write_ok hb5 ok x0 x1 bx0.1 bx0.2 bx1.1 bx1.2).mono fun e w6 ⟨he, h6, c6⟩ => ⟨_, _, _, _, he, n2 - (k + 1), by omega, k + 1, _, rfl, by omega, by rw [e6], writeF_Ok ok x0 x1 bx1.1 bx1.2, by rw [writeF_len ok]; exact hcl, h6, keep c55 c6⟩
  refine ⟨fun m vs w' => ∃ (i : Nat) (c : Chip), m = 3 - i ∧ i ≤ 3 ∧ vs = [.int .i64 i] ∧ Ok c ∧ c.mem.length = m0.length ∧ (1 ≤ i → c.state = 0) ∧ (2 ≤ i → c.id = false) ∧ Blk w' b c.enc 53 ∧ Chg (fun _ => False) w w', ⟨3, 0, c, rfl, by omega, rfl, ok, hcl, by omega, by omega, hc, cc⟩, ?_⟩
  clear hc cc hcl ok hv hk
  rintro m s38 wd ⟨i, c, rfl, hi, hv, ok, hcl, hs, hid, hc, cc⟩
  obtain rfl : s38 = (i : Int) := by simpa using hv
  refine cnd_dec (fun hlt => ?_) (fun hge => ?_)
  · have e6 : IntKind.wrap .i64 ((i : Int) + 1) = ((i + 1 : Nat) : Int) := by rw [wrap_i64 (by omega) (by omega)]; omega
    refine (write_ok hc ok 0 240 (by decide) (by decide) (by decide) (by decide)).mono fun e w6 ⟨he, h6, c6⟩ => ⟨_, _, _, _, he, 3 - (i + 1), by omega, i + 1, _, rfl, by omega, by rw [e6], writeF_Ok ok 0 240 (by decide) (by decide), by rw [writeF_len ok]; exact hcl, fun _ => write0_state c, fun h => ?_, h6, keep cc c6⟩
    rw [write0_id c (hs (by omega))]
  obtain ⟨m, st, id, bk⟩ := c
  obtain rfl : st = 0 := hs (by omega)
  obtain rfl : id = false := hid (by omega)
  refine (image_ok hc).mono fun e we ⟨he, hce, ce⟩ => ⟨_, he, ?_⟩
  refine Nw_blk (cs := puts7 a1) fun wf hpf cf sf => ?_
  have c6 : Chg (fun _ => False) w wf := (cc.trans ce).trans cf
  have hcf := hce.keep cf (fun h => h)
  have nb : b ≠ we.heap.size := Nat.ne_of_lt hce.lt
  have se := (cc.trans ce).size
  generalize we.heap.size = x at *
  have hml : m.length = m0.length := hcl
  generalize hbk' : (if m.length = 131072 then IntKind.wrap .i64 (bits .and .u8 a1 1) else bk) = bk'
  have okb : ∀ s i', Ok ⟨m, s, i', bk⟩ := fun s i' => ⟨ok.len, ok.bank⟩
  have hbit : IntKind.wrap .i64 (bits .and .u8 a1 1) = a1 % 2 := by
    rw [and8 1 (by decide) (by decide) hb1.1 hb1.2, wrap_i64 (by omega) (by omega)]; rfl
  have okb' : ∀ s i', Ok ⟨m, s, i', bk'⟩ := by
    intro s i'
    refine ⟨ok.len, ?_⟩
    show bk' = 0 ∨ (bk' = 1 ∧ m.length = 131072)
    rw [← hbk', hbit]
    by_cases h : m.length = 131072
    · rw [if_pos h]; have : a1 % 2 = 0 ∨ a1 % 2 = 1 := by omega
      rcases this with h1 | h1
      · exact .inl h1
      · exact .inr ⟨h1, h⟩
    · rw [if_neg h]; exact ok.bank
  have oks : ∀ i, i < 8 → Ok (seven m bk bk' i) := by
    intro i hi
    obtain rfl | rfl | rfl | rfl | rfl | rfl | rfl | rfl : i = 0 ∨ i = 1 ∨ i = 2 ∨ i = 3 ∨ i = 4 ∨ i = 5 ∨ i = 6 ∨ i = 7 := by omega
    · exact okb _ _
    · exact okb _ _
    · exact okb _ _
    · exact okb _ _
    · exact okb' _ _
    · exact okb' _ _
    · exact okb' _ _
    · exact okb' _ _
  refine ⟨fun n vs w' => ∃ i : Nat, n = 7 - i ∧ i ≤ 7 ∧ vs = [.int .i64 i] ∧ Blk w' b (seven m bk bk' i).enc 53 ∧ Blk w' x (puts7 a1) 33 ∧ Chg (fun _ => False) w w', ⟨7, 0, rfl, by omega, rfl, hcf, hpf, c6⟩, ?_⟩
  rintro n s55 wg ⟨j, rfl, hj, hv, hg, hpg, cg⟩
  obtain rfl : s55 = (j : Int) := by simpa using hv
  refine cnd_dec (fun hlt => ?_) (fun hge => ?_)
  · have hj7 : j < 7 := by omega
    have e6 : IntKind.wrap .i64 ((j : Int) + 1) = ((j + 1 : Nat) : Int) := by rw [wrap_i64 (by omega) (by omega)]; omega
    have pb : (0 ≤ (put7 a1 j).1 ∧ (put7 a1 j).1 < 4294967296) ∧ (0 ≤ (put7 a1 j).2 ∧ (put7 a1 j).2 < 256) := by
      obtain rfl | rfl | rfl | rfl | rfl | rfl | rfl : j = 0 ∨ j = 1 ∨ j = 2 ∨ j = 3 ∨ j = 4 ∨ j = 5 ∨ j = 6 := by omega
      all_goals first | exact ⟨(by decide : (0 : Int) ≤ 0 ∧ (0 : Int) < 4294967296), hb1⟩ | (simp only [put7]; decide)
    have g0 : (puts7 a1)[j * 2]? = some (.int .u32 (put7 a1 j).1) ∧ (puts7 a1)[j * 2 + 1]? = some (.int .u8 (put7 a1 j).2) := by
      obtain rfl | rfl | rfl | rfl | rfl | rfl | rfl : j = 0 ∨ j = 1 ∨ j = 2 ∨ j = 3 ∨ j = 4 ∨ j = 5 ∨ j = 6 := by omega
      all_goals exact ⟨rfl, rfl⟩
    simp only [add_at]
    refine chk_in (by omega) (by omega) ⟨_, ld hpg (by rw [show 0 + (j : Int).toNat * 2 = j * 2 by omega]; exact g0.1), _, ld hpg (by rw [show 0 + (j : Int).toNat * 2 + 1 = j * 2 + 1 by omega]; exact g0.2), ?_⟩
    refine Nw_blk (cs := [.int .u32 0, .int .u8 0]) fun w3 h3 c3 s3 => St_blk h3 (by rfl) fun w4 h4 c4 _ => St_blk h4 (by rfl) fun w5 h5 c5 _ => ⟨_, ld h5 (by rfl), _, ld h5 (by rfl), ?_⟩
    have sg := cg.size
    have c45 := c4.trans c5
    have hb5 := (hg.keep c3 (fun h => h)).keep c45 (Nat.ne_of_lt hg.lt)
    have hx5 := (hpg.keep c3 (fun h => h)).keep c45 (Nat.ne_of_lt hpg.lt)
    have c55 : Chg (fun _ => False) w w5 := (cg.trans c3).then c45 fun k hk e => by omega
    refine (write_ok hb5 (oks j (by omega)) _ _ pb.1.1 pb.1.2 pb.2.1 pb.2.2).mono fun e w6 ⟨he, h6, c6⟩ => ?_
    rw [seven_step hbk'.symm j hj7] at he h6
    refine ⟨_, _, _, _, he, ?_⟩
    have c66 := keep c55 c6
    have s66 := c66.size
    refine Nw_blk (cs := [.int .i64 0, .int .i64 0, .string (ByteArray.mk #[])]) fun w7 h7 c7 _ => St_blk h7 (by rfl) fun w8 h8 c8 _ => St_blk h8 (by rfl) fun w9 h9 c9 _ => St_blk h9 (by rfl) fun w10 h10 c10 _ => cnd (fun h => by cases h) (fun _ => ?_)
    have cc10 := (c8.trans c9).trans c10
    exact ⟨7 - (j + 1), by omega, j + 1, rfl, by omega, by rw [e6], (h6.keep c7 (fun h => h)).keep cc10 (Nat.ne_of_lt h6.lt), (((hx5.keep c6 (Ne.symm nb)).keep c7 (fun h => h))).keep cc10 (Nat.ne_of_lt (hx5.keep c6 (Ne.symm nb)).lt), (c66.trans c7).then cc10 fun k hk e => by omega⟩
  obtain rfl : j = 7 := by omega
  have hg7 : Blk wg b (Chip.enc ⟨m, 0, true, bk'⟩) 53 := hg
  obtain ⟨o1, o2⟩ : (bk' * 65536 = if a0 = true then a1 % 2 * 65536 else 0) ∧ (m.length = 131072 ↔ a0 = true) := by
    rw [hl0] at hml
    cases a0
    · have hm : m.length = 65536 := hml
      have : bk = 0 := by
        rcases ok.bank with h | ⟨_, h⟩
        · exact h
        · have h' : m.length = 131072 := h
          omega
      rw [← hbk', if_neg (by omega), this]
      exact ⟨rfl, ⟨fun h => by omega, fun h => by cases h⟩⟩
    · have hm : m.length = 131072 := hml
      rw [← hbk', if_pos hm, hbit]
      exact ⟨rfl, ⟨fun _ => rfl, fun _ => hm⟩⟩
  have hoff : 0 ≤ bk' * 65536 ∧ bk' * 65536 + 2 < m.length := by
    have h := (okb' 0 false).bank
    have hlen : m.length = 65536 ∨ m.length = 131072 := ok.len
    rcases h with h | ⟨h, h'⟩
    · have h2 : bk' = 0 := h
      omega
    · have h2 : bk' = 1 := h
      have h3 : m.length = 131072 := h'
      omega
  refine ⟨fun vs w' => vs = [.int .u8 (if a0 = true then 98 else 50), .int .u8 (if a0 = true then 19 else 27), .int .i64 (bk' * 65536)] ∧ w' = wg, ?_, ?_⟩
  · rw [o1, hbit]
    refine cnd (fun h => Lt_intro fun s hs => ⟨?_, rfl⟩) (fun h => ⟨?_, rfl⟩)
    · rw [hs, wrap_i64 (by omega) (by omega), if_pos h, if_pos h, if_pos h]
    · rw [if_neg (by rw [h]; decide), if_neg (by rw [h]; decide), if_neg (by rw [h]; decide)]
  rintro s15 s16 s17 w20 ⟨e20, rfl⟩
  obtain ⟨rfl, rfl, rfl⟩ : s15 = (if a0 = true then 98 else 50) ∧ s16 = (if a0 = true then 19 else 27) ∧ s17 = bk' * 65536 := by simpa using e20
  have m0 : ∀ i, makerF ⟨m, 0, true, bk'⟩ i = if a0 = true then (if i = 0 then 98 else 19) else (if i = 0 then 50 else 27) := by
    intro i
    unfold makerF
    by_cases h : a0 = true
    · rw [if_pos h, if_pos (o2.2 h)]
    · rw [if_neg h, if_neg (fun x => h (o2.1 x))]
  have r0 : readF ⟨m, 0, true, bk'⟩ 0 = if a0 = true then 98 else 50 := by
    have : readF ⟨m, 0, true, bk'⟩ 0 = makerF ⟨m, 0, true, bk'⟩ 0 := rfl
    rw [this, m0]; rfl
  have r1 : readF ⟨m, 0, true, bk'⟩ 65537 = if a0 = true then 19 else 27 := by
    have : readF ⟨m, 0, true, bk'⟩ 65537 = makerF ⟨m, 0, true, bk'⟩ 1 := rfl
    rw [this, m0]; rfl
  have r2 : readF ⟨m, 0, true, bk'⟩ 2 = byteAt m (bk' * 65536 + 2) := rfl
  have f0 : readF ⟨m, 0, false, bk'⟩ 0 = byteAt m (bk' * 65536 + 0) := rfl
  have f1 : readF ⟨m, 0, false, bk'⟩ 1 = byteAt m (bk' * 65536 + 1) := rfl
  have wl : writeF ⟨m, 0, true, bk'⟩ 4660 240 = (noneR, ⟨m, 0, false, bk'⟩) := rfl
  have e2 : IntKind.wrap .i64 (bk' * 65536 + 2) = bk' * 65536 + 2 := wrap_i64 (by omega) (by omega)
  have e1 : IntKind.wrap .i64 (bk' * 65536 + 1) = bk' * 65536 + 1 := wrap_i64 (by omega) (by omega)
  rw [e2, e1, bs_size, sbyte_bs, sbyte_bs, sbyte_bs]
  refine ⟨fun _ => True, trivial, (read_ok (hg7.drewN 1) (okb' _ _) 0 (by decide) (by decide)).mono fun e wA ⟨he, hA, cA⟩ => ⟨_, he, fun _ => True, trivial, ?_⟩⟩
  rw [r0]
  refine cnd_bne (fun h => absurd rfl h) (fun _ => ?_)
  refine (read_ok hA (okb' _ _) 65537 (by decide) (by decide)).mono fun e wB ⟨he, hB, cB⟩ => ⟨_, he, fun _ => True, trivial, ?_⟩
  rw [r1]
  refine cnd_bne (fun h => absurd rfl h) (fun _ => chk_in (by omega) (by omega) ?_)
  refine (read_ok hB (okb' _ _) 2 (by decide) (by decide)).mono fun e wC ⟨he, hC, cC⟩ => ⟨_, he, trivial, ?_⟩
  rw [r2]
  refine cnd_bne (fun h => absurd rfl h) (fun _ => ?_)
  refine (write_ok hC (okb' _ _) 4660 240 (by decide) (by decide) (by decide) (by decide)).mono fun e wD ⟨he, hD, cD⟩ => ?_
  rw [wl] at he hD
  refine ⟨_, _, _, _, he, fun _ => True, trivial, chk_in (by omega) (by omega) ?_⟩
  refine (read_ok (hD.drewN 1) (okb' _ _) 0 (by decide) (by decide)).mono fun e wE ⟨he, hE, cE⟩ => ⟨_, he, trivial, ?_⟩
  rw [f0, Int.add_zero]
  refine cnd_beq (fun _ => chk_in (by omega) (by omega) ?_) (fun h => absurd rfl h)
  refine (read_ok hE (okb' _ _) 1 (by decide) (by decide)).mono fun e wF ⟨he, hF, cF⟩ => ⟨_, he, trivial, ?_⟩
  rw [f1]
  refine cnd_beq (fun _ => ?_) (fun h => absurd rfl h)
  refine (image_ok hF).mono fun e wG ⟨he, hG, cG⟩ => ⟨_, he, trivial, ?_, ?_⟩
  · rw [bs_toList]; simp
  · exact ((((keep (((cg.drewBy 1).trans cA).trans cB |>.trans cC) cD).drewBy 1).trans cE).trans cF).trans cG

end Go.Proofs.Ytjkcpckjaoehkaa
