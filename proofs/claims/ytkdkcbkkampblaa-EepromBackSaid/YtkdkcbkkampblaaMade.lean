/-
  EEPROM: reading, sending, awake; EepromMade.
-/
import Derived.Test.YtkdkcbkkampblaaEep
namespace Go.Proofs.Ytkdkcbkkampblaa
open Go.Vc
set_option linter.unusedVariables false

theorem applyF_len {m : List UInt8} {k a : Int} {d : List UInt8} (h : (applyF m k a d).2 = 0) : (applyF m k a d).1.length = m.length := by
  unfold applyF at *
  split at h
  · rename_i h0
    rw [if_pos h0]
    obtain ⟨a0, a1, d1⟩ := okF_addr h0
    unfold applyT at *
    have hf : (ffs 4096).length = 4096 := ffs_length _
    split at h
    · rename_i h2
      rw [if_pos h2]
      split at h
      · cases h
      · rename_i h3; rw [if_neg h3]; simp [hf]; omega
    · rename_i h2
      rw [if_neg h2]
      split at h
      · rename_i h3; rw [if_pos h3]; exact ffs_length _
      · rename_i h3
        rw [if_neg h3]
        split at h
        · cases h
        · rename_i h4; rw [if_neg h4]; simp; omega
  · cases h
theorem dataF_len (ys : List Int) : (dataF ys).length = 8 := by unfold dataF; simp
theorem put_good {mem : List UInt8} {a : Int} {d : List UInt8} (h0 : 0 ≤ a) (h1 : a + 8 ≤ mem.length) (hm : mem.length ≤ 8192) (hd : d.length = 8) : applyF mem 1 a d = (mem.take a.toNat ++ d ++ mem.drop (a.toNat + 8), 0) := by
  unfold applyF okF
  rw [if_pos rfl, if_pos (by rw [hd]; simp; omega)]
  unfold applyT
  rw [if_neg (show ¬ (1 : Int) = 2 by decide), if_neg (show ¬ (1 : Int) = 3 by decide), if_neg (by rw [hd]; omega), hd]

/-- A chip as it may be. -/
structure Inv (c : Chip) : Prop where
  ok : Ok c.mem c.wide
  bits : Bits c.inn
  len : c.inn.length < 67 + c.wide
  head : c.inn = [] ∨ c.inn.getD 0 0 = 1
  next : 3 + c.wide ≤ c.inn.length → c.inn.getD 1 0 = 0
theorem bits_snoc {l : List Int} (h : Bits l) (b : Int) : Bits (l ++ [b % 2]) := by
  intro x hx
  rcases List.mem_append.1 hx with h' | h'
  · exact h x h'
  · simp at h'; omega
theorem bits_nil : Bits [] := fun _ h => by cases h
theorem Bits.getD {l : List Int} (h : Bits l) (i : Nat) : l.getD i 0 = 0 ∨ l.getD i 0 = 1 := by
  rw [List.getD_eq_getElem?_getD]
  by_cases hi : i < l.length
  · rw [List.getElem?_eq_getElem hi]; exact h _ (List.getElem_mem hi)
  · rw [List.getElem?_eq_none (by omega)]; exact .inl rfl
theorem writeF_Inv {c : Chip} (h : Inv c) (b : Int) : Inv (writeF c b).2 ∧ (writeF c b).2.wide = c.wide ∧ (writeF c b).2.mem.length = c.mem.length := by
  have hw := h.ok.w
  have hb := bits_snoc h.bits b
  have hll : (c.inn ++ [b % 2]).length = c.inn.length + 1 := by simp
  have hlen := h.len
  unfold writeF
  simp only
  split
  · exact ⟨⟨h.ok, bits_nil, by show ((0 : Nat) : Int) < 67 + c.wide; omega, .inl rfl, fun h' => by have : 3 + c.wide ≤ ((0 : Nat) : Int) := h'; omega⟩, rfl, rfl⟩
  rename_i h0
  have hh : (c.inn ++ [b % 2]).getD 0 0 = 1 := (hb.getD 0).resolve_left h0
  split
  · rename_i h1
    exact ⟨⟨h.ok, hb, by show ((c.inn ++ [b % 2]).length : Int) < 67 + c.wide; omega, .inr hh, fun h' => by have : 3 + c.wide ≤ ((c.inn ++ [b % 2]).length : Int) := h'; omega⟩, rfl, rfl⟩
  rename_i h1
  split
  · exact ⟨⟨h.ok, bits_nil, by show ((0 : Nat) : Int) < 67 + c.wide; omega, .inl rfl, fun h' => by have : 3 + c.wide ≤ ((0 : Nat) : Int) := h'; omega⟩, rfl, rfl⟩
  rename_i h2
  have hn : (c.inn ++ [b % 2]).getD 1 0 = 0 := (hb.getD 1).resolve_right h2
  split
  · have hu := unitF_bd h.ok (c.inn ++ [b % 2])
    have hg := put_good (mem := c.mem) (a := 8 * unitF c.mem (c.inn ++ [b % 2]) c.wide) (d := dataF (((c.inn ++ [b % 2]).drop (2 + c.wide.toNat)).take 64)) (by omega) (by omega) (by omega) (dataF_len _)
    have hl : (applyF c.mem 1 (8 * unitF c.mem (c.inn ++ [b % 2]) c.wide) (dataF (((c.inn ++ [b % 2]).drop (2 + c.wide.toNat)).take 64))).1.length = c.mem.length := applyF_len (by rw [hg])
    exact ⟨⟨⟨by show (_ = 512 ∧ _) ∨ _; rw [hl]; exact hw⟩, bits_nil, by show ((0 : Nat) : Int) < 67 + c.wide; omega, .inl rfl, fun h' => by have : 3 + c.wide ≤ ((0 : Nat) : Int) := h'; omega⟩, rfl, hl⟩
  · rename_i h3
    exact ⟨⟨h.ok, hb, by show ((c.inn ++ [b % 2]).length : Int) < 67 + c.wide; omega, .inr hh, fun _ => hn⟩, rfl, rfl⟩

def readF : List Int → Int × List Int
  | [] => (1, [])
  | b :: l => (b, l)
theorem read_eq (mem : ByteArray) (inn out : List Int) (wide : Int) (hl : out.length ≤ 1099511627776) : f_Read mem inn out wide = some (readF out) := by
  unfold f_Read
  cases out with
  | nil => rfl
  | cons b l =>
    have hn : (((b :: l).length : Nat) : Int) = l.length + 1 := by simp
    rw [cne (by omega), cand (by omega) (by omega), cand (by omega) (by omega), cand (by omega) (by omega)]
    show some (b, (l.take (l.length + 1 - 1))) = some (b, l)
    rw [List.take_of_length_le (by omega)]
theorem new_eq (m : List UInt8) (n : Nat) (hl : m.length = n) : f_New (bs m) = some (if n = 512 then .inl (0, bs m, 6) else if n = 8192 then .inl (0, bs m, 14) else .inr 1) := by
  unfold f_New
  rw [bs_size, hl]
  by_cases h : n = 512
  · rw [ceq (by omega), if_pos h]
  rw [cne (by omega), if_neg h]
  by_cases h2 : n = 8192
  · rw [ceq (by omega), if_pos h2]
  · rw [cne (by omega), if_neg h2]

/-! ### send -/
def sendF (c : Chip) (s : List UInt8) : Res × Chip := s.foldl (fun st ch => writeF st.2 (IntKind.wrap .u8 ((ch.toNat : Int) - 48))) (noneR, c)
theorem sendF_snoc (c : Chip) (s : List UInt8) (ch : UInt8) : sendF c (s ++ [ch]) = writeF (sendF c s).2 (IntKind.wrap .u8 ((ch.toNat : Int) - 48)) := by unfold sendF; rw [List.foldl_append]; rfl
theorem wrap_u8_bd (x : Int) : 0 ≤ IntKind.wrap .u8 x ∧ IntKind.wrap .u8 x < 256 := by
  have e1 : (2 : Int) ^ 8 = 256 := by decide
  simp only [IntKind.wrap, IntKind.bits, IntKind.signed, e1, Bool.false_and, Bool.false_eq_true, if_false]
  omega
theorem sendF_Inv {c : Chip} (h : Inv c) (s : List UInt8) : Inv (sendF c s).2 ∧ (sendF c s).2.wide = c.wide ∧ (sendF c s).2.mem.length = c.mem.length := by
  unfold sendF
  suffices hs : ∀ (s : List UInt8) (r : Res × Chip), Inv r.2 → Inv (s.foldl (fun st ch => writeF st.2 (IntKind.wrap .u8 ((ch.toNat : Int) - 48))) r).2 ∧ (s.foldl (fun st ch => writeF st.2 (IntKind.wrap .u8 ((ch.toNat : Int) - 48))) r).2.wide = r.2.wide ∧ (s.foldl (fun st ch => writeF st.2 (IntKind.wrap .u8 ((ch.toNat : Int) - 48))) r).2.mem.length = r.2.mem.length from hs s (noneR, c) h
  intro s
  induction s with
  | nil => intro r h; exact ⟨h, rfl, rfl⟩
  | cons ch s ih =>
    intro r h
    obtain ⟨h1, h2, h3⟩ := writeF_Inv h (IntKind.wrap .u8 ((ch.toNat : Int) - 48))
    obtain ⟨g1, g2, g3⟩ := ih _ h1
    exact ⟨g1, g2.trans h2, g3.trans h3⟩
theorem send_eq (c : Chip) (h : Inv c) (s : List UInt8) (hs : s.length ≤ 1000000) : f_send (bs c.mem) c.inn c.out c.wide (bs s) = some (outW (sendF c s)) := by
  unfold f_send
  rw [bs_size]
  let S : Nat → Bool × Int × Int × Int × ByteArray × ByteArray × List Int × List Int := fun i => ((sendF c (s.take i)).1.ok, (i : Int), (sendF c (s.take i)).1.k, (sendF c (s.take i)).1.a, bs (sendF c (s.take i)).1.d, bs (sendF c (s.take i)).2.mem, (sendF c (s.take i)).2.inn, (sendF c (s.take i)).2.out)
  have hS : ∀ i, S i = ((sendF c (s.take i)).1.ok, (i : Int), (sendF c (s.take i)).1.k, (sendF c (s.take i)).1.a, bs (sendF c (s.take i)).1.d, bs (sendF c (s.take i)).2.mem, (sendF c (s.take i)).2.inn, (sendF c (s.take i)).2.out) := fun _ => rfl
  have e0 : (false, (0 : Int), (0 : Int), (0 : Int), ByteArray.mk #[], bs c.mem, c.inn, c.out) = S 0 := rfl
  rw [e0]
  refine loopO_for S s.length (fun i hi => ?_) ?_
  · rw [hS i]
    obtain ⟨g1, g2, g3⟩ := sendF_Inv h (s.take i)
    have hst := List.take_succ_eq_append_getElem hi
    have w1 : IntKind.wrap .i64 ((i : Int) + 1) = ((i + 1 : Nat) : Int) := by rw [wrap_i64 (by omega) (by omega)]; omega
    show cond (decide ((i : Int) < (s.length : Int))) (cond (decide (0 ≤ (i : Int)) && decide ((i : Int) < (s.length : Int))) ((f_Write (bs (sendF c (s.take i)).2.mem) (sendF c (s.take i)).2.inn (sendF c (s.take i)).2.out c.wide (IntKind.wrap .u8 ((sbyte (bs s) (i : Int)) - 48))).bind _) none) _ = _
    have hsb : sbyte (bs s) (i : Int) = ((s[i]).toNat : Int) := by rw [sbyte_get (by omega) (by omega)]; simp
    have hbd := wrap_u8_bd (((s[i]).toNat : Int) - 48)
    rw [cpos (by omega), cand (by omega) (by omega), hsb]
    have hwr := write_eq (sendF c (s.take i)).2 g1.ok g1.bits g1.len _ hbd.1 hbd.2
    rw [g2] at hwr
    rw [hwr, bind_some', ← sendF_snoc, ← hst, hS, w1]
    rfl
  · rw [hS]
    show cond (decide ((s.length : Int) < (s.length : Int))) _ _ = _
    rw [cneg (by omega), List.take_length]; rfl

/-! ### awake -/
theorem repeat_one (b : UInt8) (n : Nat) (h : n ≤ 1000000) : f_Repeat (ByteArray.mk #[b]) (n : Int) = some (bs (List.replicate n b)) := by
  have e := repeat_eq [b] n (by omega) (by simp; omega) (by omega)
  rw [Int.toNat_natCast] at e
  have := Lib.repeatL_replicate b 1 n
  rw [Nat.mul_one] at this
  rw [show Lib.repeatL [b] n = List.replicate n b from this] at e
  exact e
theorem writeF_zero {c : Chip} {b : Int} {l : List Int} (hl : c.inn ++ [b % 2] = l) (h0 : l.getD 0 0 = 0) : writeF c b = (noneR, ⟨c.mem, [], c.out, c.wide⟩) := by
  subst hl; unfold writeF; simp only; rw [if_pos h0]
theorem writeF_more {c : Chip} {b : Int} {l : List Int} (hl : c.inn ++ [b % 2] = l) (h0 : l.getD 0 0 = 1) (h1 : (l.length : Int) < 2 ∨ (l.length : Int) < 3 + c.wide) : writeF c b = (noneR, ⟨c.mem, l, c.out, c.wide⟩) := by
  subst hl; unfold writeF; simp only; rw [if_neg (by rw [h0]; decide), if_pos h1]
theorem writeF_read {c : Chip} {b : Int} {l : List Int} (hl : c.inn ++ [b % 2] = l) (h0 : l.getD 0 0 = 1) (h1 : ¬ ((l.length : Int) < 2 ∨ (l.length : Int) < 3 + c.wide)) (h2 : l.getD 1 0 = 1) :
    writeF c b = (noneR, ⟨c.mem, [], [0, 0, 0, 0] ++ bitsOf ((c.mem.drop (8 * (unitF c.mem l c.wide).toNat)).take 8), c.wide⟩) := by
  subst hl; unfold writeF; simp only; rw [if_neg (by rw [h0]; decide), if_neg h1, if_pos h2]
theorem writeF_wait {c : Chip} {b : Int} {l : List Int} (hl : c.inn ++ [b % 2] = l) (h0 : l.getD 0 0 = 1) (h1 : ¬ ((l.length : Int) < 2 ∨ (l.length : Int) < 3 + c.wide)) (h2 : l.getD 1 0 = 0) (h3 : (l.length : Int) ≠ 67 + c.wide) :
    writeF c b = (noneR, ⟨c.mem, l, c.out, c.wide⟩) := by
  subst hl; unfold writeF; simp only; rw [if_neg (by rw [h0]; decide), if_neg h1, if_neg (by rw [h2]; decide), if_neg h3]
theorem writeF_put {c : Chip} {b : Int} {l : List Int} (hl : c.inn ++ [b % 2] = l) (h0 : l.getD 0 0 = 1) (h1 : ¬ ((l.length : Int) < 2 ∨ (l.length : Int) < 3 + c.wide)) (h2 : l.getD 1 0 = 0) (h3 : (l.length : Int) = 67 + c.wide) :
    writeF c b = (⟨1, 8 * unitF c.mem l c.wide, dataF ((l.drop (2 + c.wide.toNat)).take 64), true⟩, ⟨(applyF c.mem 1 (8 * unitF c.mem l c.wide) (dataF ((l.drop (2 + c.wide.toNat)).take 64))).1, [], [], c.wide⟩) := by
  subst hl; unfold writeF; simp only; rw [if_neg (by rw [h0]; decide), if_neg h1, if_neg (by rw [h2]; decide), if_pos h3]
theorem send_awake (m : List UInt8) (hl : m.length = 512) (hd : (m.drop 16).take 8 = List.replicate 8 129) : sendF ⟨m, [], [], 6⟩ [49, 49, 48, 48, 48, 48, 49, 48, 48] = (noneR, ⟨m, [], [0, 0, 0, 0] ++ bitsOf (List.replicate 8 129), 6⟩) := by
  have step : ∀ (s : List UInt8) (l : List Int) (ch : UInt8) (b : Int) (l' : List Int), sendF ⟨m, [], [], 6⟩ s = (noneR, ⟨m, l, [], 6⟩) → IntKind.wrap .u8 ((ch.toNat : Int) - 48) = b → l ++ [b % 2] = l' → l'.getD 0 0 = 1 → ((l'.length : Int) < 2 ∨ (l'.length : Int) < 3 + 6) → sendF ⟨m, [], [], 6⟩ (s ++ [ch]) = (noneR, ⟨m, l', [], 6⟩) := by
    intro s l ch b l' h hb hl h0 h1
    rw [sendF_snoc, h, hb]; exact writeF_more hl h0 h1
  have h1 := step [] [] 49 1 [1] rfl rfl rfl rfl (.inl (by decide))
  have h2 := step [49] _ 49 1 [1, 1] h1 rfl rfl rfl (.inr (by decide))
  have h3 := step [49, 49] _ 48 0 [1, 1, 0] h2 rfl rfl rfl (.inr (by decide))
  have h4 := step [49, 49, 48] _ 48 0 [1, 1, 0, 0] h3 rfl rfl rfl (.inr (by decide))
  have h5 := step [49, 49, 48, 48] _ 48 0 [1, 1, 0, 0, 0] h4 rfl rfl rfl (.inr (by decide))
  have h6 := step [49, 49, 48, 48, 48] _ 48 0 [1, 1, 0, 0, 0, 0] h5 rfl rfl rfl (.inr (by decide))
  have h7 := step [49, 49, 48, 48, 48, 48] _ 49 1 [1, 1, 0, 0, 0, 0, 1] h6 rfl rfl rfl (.inr (by decide))
  have h8 : sendF ⟨m, [], [], 6⟩ [49, 49, 48, 48, 48, 48, 49, 48] = (noneR, ⟨m, [1, 1, 0, 0, 0, 0, 1, 0], [], 6⟩) := step [49, 49, 48, 48, 48, 48, 49] _ 48 0 _ h7 rfl rfl rfl (.inr (by decide))
  have h9 := sendF_snoc ⟨m, [], [], 6⟩ [49, 49, 48, 48, 48, 48, 49, 48] 48
  rw [h8] at h9
  refine h9.trans ?_
  have hu : unitF m [1, 1, 0, 0, 0, 0, 1, 0, 0] 6 = 2 := by unfold unitF; rw [hl]; rfl
  have hb : IntKind.wrap .u8 (((48 : UInt8).toNat : Int) - 48) = 0 := rfl
  have hw : writeF ⟨m, [1, 1, 0, 0, 0, 0, 1, 0], [], 6⟩ 0 = (noneR, ⟨m, [], [0, 0, 0, 0] ++ bitsOf ((m.drop (8 * (unitF m [1, 1, 0, 0, 0, 0, 1, 0, 0] 6).toNat)).take 8), 6⟩) := writeF_read (c := ⟨m, [1, 1, 0, 0, 0, 0, 1, 0], [], 6⟩) (l := [1, 1, 0, 0, 0, 0, 1, 0, 0]) rfl rfl (show ¬ ((9 : Int) < 2 ∨ (9 : Int) < 3 + 6) by decide) rfl
  rw [hb, hw, hu, show 8 * (2 : Int).toNat = 16 from rfl, hd]
def chr (l : List Int) : List UInt8 := l.map fun b => UInt8.ofNat (48 + b.toNat)
theorem chr_snoc (l : List Int) (b : Int) : chr (l ++ [b]) = chr l ++ [UInt8.ofNat (48 + b.toNat)] := by unfold chr; simp
/-- Reading so many bits into a text. -/
theorem loop_text (out : List Int) (hb : Bits out) (n : Nat) (hn : n ≤ out.length) (hn2 : n ≤ 1000) {ρ : Type} (r : ρ) {f : ByteArray × Int × List Int → Option ((ByteArray × Int × List Int) ⊕ ρ)}
    (hf : ∀ (i : Nat) (hi : i < n) (s : ByteArray) (xs : List Int), s.size ≤ 1000 → xs.length ≤ out.length → f (s, (i : Int), xs) = (cond (bytesIn [IntKind.wrap .u8 (48 + (readF xs).1)]) (cond (fitsS s (strOf [IntKind.wrap .u8 (48 + (readF xs).1)])) (some (Sum.inl (s ++ strOf [IntKind.wrap .u8 (48 + (readF xs).1)], IntKind.wrap .i64 ((i : Int) + 1), (readF xs).2))) none) none))
    (he : f (bs (chr (out.take n)), (n : Int), out.drop n) = some (.inr r)) : loopO f (ByteArray.mk #[], 0, out) = some r := by
  refine loopO_for (fun i : Nat => (bs (chr (out.take i)), (i : Int), out.drop i)) n (fun i hi => ?_) he
  have hio : i < out.length := by omega
  have hsz : (chr (out.take i)).length = i := by unfold chr; simp; omega
  show f (bs (chr (out.take i)), (i : Int), out.drop i) = _
  rw [hf i hi _ _ (by rw [bs_size, hsz]; omega) (by simp), List.drop_eq_getElem_cons hio]
  show cond (bytesIn [IntKind.wrap .u8 (48 + out[i])]) (cond (fitsS (bs (chr (out.take i))) (strOf [IntKind.wrap .u8 (48 + out[i])])) (some (Sum.inl (bs (chr (out.take i)) ++ strOf [IntKind.wrap .u8 (48 + out[i])], IntKind.wrap .i64 ((i : Int) + 1), out.drop (i + 1)))) none) none = _
  have hbit := getElem_bit hb hio
  have w1 : IntKind.wrap .i64 ((i : Int) + 1) = ((i + 1 : Nat) : Int) := by rw [wrap_i64 (by omega) (by omega)]; omega
  have hin : bytesIn [48 + out[i]] = true := by unfold bytesIn; simp; omega
  have hst : strOf [48 + out[i]] = bs [UInt8.ofNat (48 + (out[i]).toNat)] := by
    unfold strOf; show bs [UInt8.ofNat (48 + out[i]).toNat] = _; rw [show (48 + out[i]).toNat = 48 + (out[i]).toNat by omega]
  rw [wrap_u8 (by omega) (by omega), ctrueT hin, hst, cfits (by rw [bs_size, bs_size, hsz]; simp; omega), bs_append, w1, ← chr_snoc, ← List.take_succ_eq_append_getElem hio]
theorem awake_aux (m : List UInt8) (hl : m.length = 512) (hd : (m.drop 16).take 8 = List.replicate 8 129) (hr : f_Repeat (ByteArray.mk #[129]) 512 = some (bs m)) : f_awake = some true := by
  unfold f_awake
  rw [hr, bind_some', new_eq m 512 hl, if_pos rfl, bind_some']
  have inv : Inv ⟨m, [], [], 6⟩ := ⟨⟨.inl ⟨hl, rfl⟩⟩, bits_nil, by show ((0 : Nat) : Int) < 67 + 6; decide, .inl rfl, fun h' => by have : (3 : Int) + 6 ≤ ((0 : Nat) : Int) := h'; omega⟩
  have hs := send_eq ⟨m, [], [], 6⟩ inv [49, 49, 48, 48, 48, 48, 49, 48, 48] (by decide)
  rw [send_awake m hl hd] at hs
  show ((f_send (bs m) [] [] 6 (bs [49, 49, 48, 48, 48, 48, 49, 48, 48])).bind _) = _
  rw [hs, bind_some']
  have hout : ([0, 0, 0, 0] ++ bitsOf (List.replicate 8 129)).length = 68 := rfl
  have hbits : Bits ([0, 0, 0, 0] ++ bitsOf (List.replicate 8 129)) := by unfold Bits; decide
  have htx : chr (([0, 0, 0, 0] ++ bitsOf (List.replicate 8 129)).take 13) = [48, 48, 48, 48, 49, 48, 48, 48, 48, 48, 48, 49, 49] := by decide
  generalize ([0, 0, 0, 0] ++ bitsOf (List.replicate 8 129)) = out at *
  refine loop_text out hbits 13 (by omega) (by decide) true (fun i hi s xs h1 h2 => ?_) ?_
  · show cond (decide ((i : Int) < 13)) ((f_Read (bs m) [] xs 6).bind _) _ = _
    rw [cpos (by omega), read_eq _ _ _ _ (by omega), bind_some']
  · show cond (decide (((13 : Nat) : Int) < 13)) _ (cond ((0 : Int) == 0) _ _) = _
    rw [cneg (by decide), ceq rfl, Let_eq, htx]
    show some (Sum.inr ((bs _).toList == (bs [48, 48, 48, 48, 49, 48, 48, 48, 48, 48, 48, 49, 49]).toList)) = _
    rw [beq_bs, decide_eq_true rfl]
theorem awake_eq : f_awake = some true :=
  awake_aux (List.replicate 512 129) List.length_replicate (by rw [List.drop_replicate, List.take_replicate]; rfl) (repeat_one 129 512 (by decide))

theorem EepromMade_eq (n b : Int) (b0 : 0 ≤ b) (b1 : b < 256) : f_EepromMade n b = some true := by
  unfold f_EepromMade
  rw [awake_eq, bind_some', cnot, ctrueT rfl]
  by_cases h0 : n < 0
  · rw [cpos h0]
  rw [cneg h0]
  by_cases h1 : n > 200000
  · rw [cpos h1]
  rw [cneg h1]
  obtain ⟨k, rfl⟩ := Int.eq_ofNat_of_zero_le (show 0 ≤ n by omega)
  rw [repeat_one 120 k (by omega), bind_some', new_eq _ k List.length_replicate]
  generalize List.replicate k (120 : UInt8) = m
  by_cases g1 : k = 512
  · subst g1
    rw [if_pos rfl, bind_some']
    have hr := read_eq (bs m) [] [] 6 (by decide)
    simp [f_WriteN, f_ReadN, f_ImageN, hr, readF]
  rw [if_neg g1]
  by_cases g2 : k = 8192
  · subst g2
    rw [if_pos rfl, bind_some']
    have hr := read_eq (bs m) [] [] 14 (by decide)
    simp [f_WriteN, f_ReadN, f_ImageN, hr, readF]
  rw [if_neg g2, bind_some']
  have hz : ((k : Int) == 8192) = false := by simpa using (show ¬ (k : Int) = 8192 by omega)
  have hz2 : ((k : Int) == 512) = false := by simpa using (show ¬ (k : Int) = 512 by omega)
  simp only [hz, hz2]
  simp [f_WriteN, f_ReadN, f_ImageN]

theorem law_EepromMade (w : World) (a0 : Int) (w0 : (Lit.int .i64 a0).wf = true) (a1 : Int) (w1 : (Lit.int .u8 a1).wf = true) :
    Calls Try.prog n_EepromMade #[.int .i64 a0, .int .u8 a1] w fun e w' => e = .returned (.bool true) ∧ Chg (fun _ => False) w w' :=
  (t_EepromMade (EepromMade_eq a0 a1 (wf_u8 w1).1 (wf_u8 w1).2) trivial).mono fun e w' h => ⟨h.1, h.2.quiet⟩
end Go.Proofs.Ytkdkcbkkampblaa
