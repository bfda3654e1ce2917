/-
  The EEPROM and the document's, writing.
-/
import Derived.Test.YtcgigdfahlmfaaaGreatDoorFla
namespace Go.Proofs.YtcgigdfahlmfaaaGreatDoor
open Go.Vc
set_option linter.unusedVariables false
set_option linter.unusedSimpArgs false
theorem dataF_len (ys : List Int) : (dataF ys).length = 8 := by unfold dataF; simp
theorem put_good {mem : List UInt8} {a : Int} {d : List UInt8} (h0 : 0 ≤ a) (h1 : a + 8 ≤ mem.length) (hm : mem.length ≤ 8192) (hd : d.length = 8) : applyF mem 1 a d = (mem.take a.toNat ++ d ++ mem.drop (a.toNat + 8), 0) := by
  unfold applyF okF
  rw [if_pos rfl, if_pos (by rw [hd]; simp; omega)]
  unfold applyT
  rw [if_neg (show ¬ (1 : Int) = 2 by decide), if_neg (show ¬ (1 : Int) = 3 by decide), if_neg (by rw [hd]; omega), hd]
structure Inv (c : Chip) : Prop where
  ok : Ok c.mem c.wide
  bits : Bits c.inn
  len : c.inn.length < 67 + c.wide
  head : c.inn = [] ∨ c.inn.getD 0 0 = 1
  next : 3 + c.wide ≤ c.inn.length → c.inn.getD 1 0 = 0
theorem bits_snoc {l : List Int} (h : Bits l) (b : Int) : Bits (l ++ [b % 2]) := by
  intro x hx
  rcases List.mem_append.1 hx with h' | h'
  · exact h x h'
  · simp at h'; omega
theorem bits_nil : Bits [] := fun _ h => by cases h
theorem Bits.getD {l : List Int} (h : Bits l) (i : Nat) : l.getD i 0 = 0 ∨ l.getD i 0 = 1 := by
  rw [List.getD_eq_getElem?_getD]
  by_cases hi : i < l.length
  · rw [List.getElem?_eq_getElem hi]; exact h _ (List.getElem_mem hi)
  · rw [List.getElem?_eq_none (by omega)]; exact .inl rfl
theorem ewriteF_Inv {c : Chip} (h : Inv c) (b : Int) : Inv (ewriteF c b).2 ∧ (ewriteF c b).2.wide = c.wide ∧ (ewriteF c b).2.mem.length = c.mem.length := by
  have hw := h.ok.w
  have hb := bits_snoc h.bits b
  have hll : (c.inn ++ [b % 2]).length = c.inn.length + 1 := by simp
  have hlen := h.len
  unfold ewriteF
  simp only
  split
  · exact ⟨⟨h.ok, bits_nil, by show ((0 : Nat) : Int) < 67 + c.wide; omega, .inl rfl, fun h' => by have : 3 + c.wide ≤ ((0 : Nat) : Int) := h'; omega⟩, rfl, rfl⟩
  rename_i h0
  have hh : (c.inn ++ [b % 2]).getD 0 0 = 1 := (hb.getD 0).resolve_left h0
  split
  · rename_i h1
    exact ⟨⟨h.ok, hb, by show ((c.inn ++ [b % 2]).length : Int) < 67 + c.wide; omega, .inr hh, fun h' => by have : 3 + c.wide ≤ ((c.inn ++ [b % 2]).length : Int) := h'; omega⟩, rfl, rfl⟩
  rename_i h1
  split
  · exact ⟨⟨h.ok, bits_nil, by show ((0 : Nat) : Int) < 67 + c.wide; omega, .inl rfl, fun h' => by have : 3 + c.wide ≤ ((0 : Nat) : Int) := h'; omega⟩, rfl, rfl⟩
  rename_i h2
  have hn : (c.inn ++ [b % 2]).getD 1 0 = 0 := (hb.getD 1).resolve_right h2
  split
  · have hu := unitF_bd h.ok (c.inn ++ [b % 2])
    have hg := put_good (mem := c.mem) (a := 8 * unitF c.mem (c.inn ++ [b % 2]) c.wide) (d := dataF (((c.inn ++ [b % 2]).drop (2 + c.wide.toNat)).take 64)) (by omega) (by omega) (by omega) (dataF_len _)
    have hl : (applyF c.mem 1 (8 * unitF c.mem (c.inn ++ [b % 2]) c.wide) (dataF (((c.inn ++ [b % 2]).drop (2 + c.wide.toNat)).take 64))).1.length = c.mem.length := applyF_len (by rw [hg])
    exact ⟨⟨⟨by show (_ = 512 ∧ _) ∨ _; rw [hl]; exact hw⟩, bits_nil, by show ((0 : Nat) : Int) < 67 + c.wide; omega, .inl rfl, fun h' => by have : 3 + c.wide ≤ ((0 : Nat) : Int) := h'; omega⟩, rfl, hl⟩
  · rename_i h3
    exact ⟨⟨h.ok, hb, by show ((c.inn ++ [b % 2]).length : Int) < 67 + c.wide; omega, .inr hh, fun _ => hn⟩, rfl, rfl⟩
theorem ewF_zero {c : Chip} {b : Int} {l : List Int} (hl : c.inn ++ [b % 2] = l) (h0 : l.getD 0 0 = 0) : ewriteF c b = (noneR, ⟨c.mem, [], c.out, c.wide⟩) := by
  subst hl; unfold ewriteF; simp only; rw [if_pos h0]
theorem ewF_more {c : Chip} {b : Int} {l : List Int} (hl : c.inn ++ [b % 2] = l) (h0 : l.getD 0 0 = 1) (h1 : (l.length : Int) < 2 ∨ (l.length : Int) < 3 + c.wide) : ewriteF c b = (noneR, ⟨c.mem, l, c.out, c.wide⟩) := by
  subst hl; unfold ewriteF; simp only; rw [if_neg (by rw [h0]; decide), if_pos h1]
theorem ewF_read {c : Chip} {b : Int} {l : List Int} (hl : c.inn ++ [b % 2] = l) (h0 : l.getD 0 0 = 1) (h1 : ¬ ((l.length : Int) < 2 ∨ (l.length : Int) < 3 + c.wide)) (h2 : l.getD 1 0 = 1) :
    ewriteF c b = (noneR, ⟨c.mem, [], [0, 0, 0, 0] ++ bitsOf ((c.mem.drop (8 * (unitF c.mem l c.wide).toNat)).take 8), c.wide⟩) := by
  subst hl; unfold ewriteF; simp only; rw [if_neg (by rw [h0]; decide), if_neg h1, if_pos h2]
theorem ewF_wait {c : Chip} {b : Int} {l : List Int} (hl : c.inn ++ [b % 2] = l) (h0 : l.getD 0 0 = 1) (h1 : ¬ ((l.length : Int) < 2 ∨ (l.length : Int) < 3 + c.wide)) (h2 : l.getD 1 0 = 0) (h3 : (l.length : Int) ≠ 67 + c.wide) :
    ewriteF c b = (noneR, ⟨c.mem, l, c.out, c.wide⟩) := by
  subst hl; unfold ewriteF; simp only; rw [if_neg (by rw [h0]; decide), if_neg h1, if_neg (by rw [h2]; decide), if_neg h3]
theorem ewF_put {c : Chip} {b : Int} {l : List Int} (hl : c.inn ++ [b % 2] = l) (h0 : l.getD 0 0 = 1) (h1 : ¬ ((l.length : Int) < 2 ∨ (l.length : Int) < 3 + c.wide)) (h2 : l.getD 1 0 = 0) (h3 : (l.length : Int) = 67 + c.wide) :
    ewriteF c b = (⟨1, 8 * unitF c.mem l c.wide, dataF ((l.drop (2 + c.wide.toNat)).take 64), true⟩, ⟨(applyF c.mem 1 (8 * unitF c.mem l c.wide) (dataF ((l.drop (2 + c.wide.toNat)).take 64))).1, [], [], c.wide⟩) := by
  subst hl; unfold ewriteF; simp only; rw [if_neg (by rw [h0]; decide), if_neg h1, if_neg (by rw [h2]; decide), if_pos h3]
def chr (l : List Int) : List UInt8 := l.map fun b => UInt8.ofNat (48 + b.toNat)
theorem chr_snoc (l : List Int) (b : Int) : chr (l ++ [b]) = chr l ++ [UInt8.ofNat (48 + b.toNat)] := by unfold chr; simp
theorem chr_len (l : List Int) : (chr l).length = l.length := by unfold chr; simp
theorem chr_append (a b : List Int) : chr (a ++ b) = chr a ++ chr b := by unfold chr; simp
theorem chr_take (l : List Int) (n : Nat) : (chr l).take n = chr (l.take n) := by unfold chr; rw [List.map_take]
theorem chr_drop (l : List Int) (n : Nat) : (chr l).drop n = chr (l.drop n) := by unfold chr; rw [List.map_drop]
theorem chr_val {l : List Int} (hb : Bits l) {i : Nat} (hi : i < l.length) : ((((chr l)[i]'(by rw [chr_len]; exact hi)).toNat : Nat) : Int) = 48 + l[i] := by
  have := getElem_bit hb hi
  unfold chr
  rw [List.getElem_map]
  rcases this with h | h <;> rw [h] <;> rfl
theorem chr_inj {a b : List Int} (ha : Bits a) (hb : Bits b) (h : chr a = chr b) : a = b := by
  have hl : a.length = b.length := by rw [← chr_len a, h, chr_len]
  apply List.ext_getElem hl
  intro i h1 h2
  have e1 := chr_val ha h1
  have e2 := chr_val hb h2
  have e3 : (chr a)[i]'(by rw [chr_len]; exact h1) = (chr b)[i]'(by rw [chr_len]; exact h2) := by simp only [h]
  rw [e3] at e1; omega
theorem rvalue_eq (l : List Int) (hb : Bits l) (hl : l.length ≤ 60) : f_rEvalue (bs (chr l)) = some (val l) := by
  unfold f_rEvalue
  rw [bs_size, chr_len]
  have e : some (val l) = some (val (l.take l.length)) := by rw [List.take_length]
  rw [e]
  refine loopO_for (fun i => (val (l.take i), (i : Int))) l.length (fun i hi => ?_) ?_
  · show cond (decide ((i : Int) < (l.length : Int))) _ _ = _
    obtain ⟨v0, v1⟩ := val_bd l hb i (by omega)
    have v2 : (2 : Int) ^ i ≤ 2 ^ 60 := pow_le_int (by omega)
    have v3 : (2 : Int) ^ 60 = 1152921504606846976 := rfl
    have hbit := getElem_bit hb hi
    have hs : sbyte (bs (chr l)) (i : Int) = 48 + l[i] := by rw [sbyte_get (by omega) (by rw [chr_len]; omega)]; simp only [Int.toNat_natCast]; exact chr_val hb hi
    rw [cpos (by omega), cand (by omega) (by omega), Let_eq, hs, wrap_u8 (x := 48 + l[i] - 48) (by omega) (by omega), wrap_i64 (x := 48 + l[i] - 48) (by omega) (by omega), wrap_i64 (x := 2 * val (l.take i)) (by omega) (by omega), wrap_i64 (x := 2 * val (l.take i) + (48 + l[i] - 48)) (by omega) (by omega), wrap_i64 (x := (i : Int) + 1) (by omega) (by omega), val_take_succ l i hi]
    congr 2; simp; omega
  · show cond (decide ((l.length : Int) < (l.length : Int))) _ _ = _
    rw [cneg (by omega)]
theorem rbits_eq (v : Int) (h0 : 0 ≤ v) (h1 : v < 256) : f_rEbits v = some (bs (chr (bits8 v))) := by
  unfold f_rEbits
  have e0 : (v, ByteArray.mk #[], (0 : Int)) = (fun i : Nat => (v * 2 ^ i % 256, bs (chr ((bits8 v).take i)), (i : Int))) 0 := by
    show _ = (v * 2 ^ 0 % 256, bs (chr ((bits8 v).take 0)), ((0 : Nat) : Int))
    rw [Int.pow_zero, Int.mul_one, Int.emod_eq_of_lt h0 h1]; rfl
  rw [e0]
  refine loopO_for (fun i : Nat => (v * 2 ^ i % 256, bs (chr ((bits8 v).take i)), (i : Int))) 8 (fun i hi => ?_) ?_
  · show cond (decide ((i : Int) < 8)) (cond (decide (v * 2 ^ i % 256 ≥ 128)) _ _) _ = _
    have hs := List.take_succ_eq_append_getElem (show i < (bits8 v).length by rw [bits8_len]; exact hi)
    have w1 : IntKind.wrap .i64 ((i : Int) + 1) = ((i + 1 : Nat) : Int) := by rw [wrap_i64 (by omega) (by omega)]; omega
    have hsz : (chr ((bits8 v).take i)).length = i := by rw [chr_len, List.length_take, bits8_len]; omega
    have hwr : IntKind.wrap .u8 (v * 2 ^ i % 256 * 2) = v * 2 ^ (i + 1) % 256 := by
      have e1 : (2 : Int) ^ 8 = 256 := by decide
      simp only [IntKind.wrap, IntKind.bits, IntKind.signed, e1, Bool.false_and, Bool.false_eq_true, if_false]
      rw [Int.pow_succ, ← Int.mul_assoc]
      generalize v * 2 ^ i = z
      omega
    have hbit : (bits8 v)[i]'(by rw [bits8_len]; exact hi) = if v * 2 ^ i % 256 ≥ 128 then 1 else 0 := by
      obtain rfl | rfl | rfl | rfl | rfl | rfl | rfl | rfl : i = 0 ∨ i = 1 ∨ i = 2 ∨ i = 3 ∨ i = 4 ∨ i = 5 ∨ i = 6 ∨ i = 7 := by omega
      · show v / 128 % 2 = if v * 1 % 256 ≥ 128 then 1 else 0
        split <;> omega
      · show v / 64 % 2 = if v * 2 % 256 ≥ 128 then 1 else 0
        split <;> omega
      · show v / 32 % 2 = if v * 4 % 256 ≥ 128 then 1 else 0
        split <;> omega
      · show v / 16 % 2 = if v * 8 % 256 ≥ 128 then 1 else 0
        split <;> omega
      · show v / 8 % 2 = if v * 16 % 256 ≥ 128 then 1 else 0
        split <;> omega
      · show v / 4 % 2 = if v * 32 % 256 ≥ 128 then 1 else 0
        split <;> omega
      · show v / 2 % 2 = if v * 64 % 256 ≥ 128 then 1 else 0
        split <;> omega
      · show v % 2 = if v * 128 % 256 ≥ 128 then 1 else 0
        split <;> omega
    rw [cpos (by omega), w1, hwr]
    by_cases hg : v * 2 ^ i % 256 ≥ 128
    · rw [if_pos hg] at hbit
      rw [cpos hg, show (ByteArray.mk #[49]) = bs [49] from rfl, cfits (by rw [bs_size, bs_size, hsz]; simp; omega), bs_append, hs, chr_snoc, hbit]; rfl
    · rw [if_neg hg] at hbit
      rw [cneg hg, show (ByteArray.mk #[48]) = bs [48] from rfl, cfits (by rw [bs_size, bs_size, hsz]; simp; omega), bs_append, hs, chr_snoc, hbit]; rfl
  · show cond (decide (((8 : Nat) : Int) < 8)) _ _ = _
    rw [cneg (by decide)]
    have : (bits8 v).take 8 = bits8 v := List.take_of_length_le (by rw [bits8_len]; decide)
    show some (Sum.inr (bs (chr ((bits8 v).take 8)))) = _
    rw [this]
theorem prefix_chr (l p : List Int) (hl : Bits l) (hp : Bits p) : Lib.hasPrefix (chr l) (chr p) = decide (l.take p.length = p) := by
  unfold Lib.hasPrefix
  rw [Bool.eq_iff_iff, decide_eq_true_iff, List.isPrefixOf_iff_prefix, List.prefix_iff_eq_take, chr_len, chr_take]
  exact ⟨fun h => (chr_inj hp (hl.take _) h).symm, fun h => by rw [h]⟩
def eoutR (r : Res × Chip) : O_rEWrite := (r.1.k, r.1.a, bs r.1.d, r.1.ok, bs r.2.mem, bs (chr r.2.inn), bs (chr r.2.out))
theorem rwide_eq (mem : List UInt8) (wide : Int) (ok : Ok mem wide) (s o : ByteArray) : f_rEwide (bs mem) s o = some wide := by
  unfold f_rEwide
  rw [bs_size]
  rcases ok.w with ⟨h, h'⟩ | ⟨h, h'⟩
  · rw [ceq (by omega), h']
  · rw [cne (by omega), h']
theorem take2 (l : List Int) (x y : Int) : l.take 2 = [x, y] ↔ 2 ≤ l.length ∧ l.getD 0 0 = x ∧ l.getD 1 0 = y := by
  match l with
  | [] => simp
  | [a] => simp
  | a :: b :: r => simp
theorem rloop_read (bytes : List UInt8) (hl : bytes.length = 8) (T : ByteArray → ByteArray × ByteArray) {f : Int × ByteArray → Option ((Int × ByteArray) ⊕ (ByteArray × ByteArray))}
    (hf : ∀ (i : Nat) (hi : i < 8) (s : ByteArray), s.size ≤ 1000 → f ((i : Int), s) = some (.inl (((i + 1 : Nat) : Int), s ++ bs (chr (bits8 ((bytes[i]'(by omega)).toNat : Int))))))
    (he : ∀ s, f ((8 : Int), s) = some (.inr (T s))) : loopO f (0, bs [48, 48, 48, 48]) = some (T (bs (chr ([0, 0, 0, 0] ++ bitsOf bytes)))) := by
  have e0 : ((0 : Int), bs [48, 48, 48, 48]) = (fun i : Nat => ((i : Int), bs (chr ([0, 0, 0, 0] ++ bitsOf (bytes.take i))))) 0 := rfl
  rw [e0]
  refine loopO_for (fun i : Nat => ((i : Int), bs (chr ([0, 0, 0, 0] ++ bitsOf (bytes.take i))))) 8 (fun i hi => ?_) ?_
  · show f ((i : Int), bs (chr ([0, 0, 0, 0] ++ bitsOf (bytes.take i)))) = some (.inl (((i + 1 : Nat) : Int), bs (chr ([0, 0, 0, 0] ++ bitsOf (bytes.take (i + 1))))))
    rw [hf i hi _ (by rw [bs_size, chr_len, List.length_append, bitsOf_len]; simp; omega), List.take_succ_eq_append_getElem (show i < bytes.length by omega), bitsOf_snoc, ← List.append_assoc, bs_append, chr_append _ (bits8 _)]
  · show f ((8 : Int), bs (chr ([0, 0, 0, 0] ++ bitsOf (bytes.take 8)))) = _
    rw [he, ← hl, List.take_length]
theorem rloop_data (ys : List Int) (T : ByteArray → O_rEWrite) {f : Int × ByteArray → Option ((Int × ByteArray) ⊕ O_rEWrite)}
    (hf : ∀ (i : Nat) (hi : i < 8) (s : ByteArray), s.size ≤ 1000 → f ((i : Int), s) = some (.inl (((i + 1 : Nat) : Int), s ++ bs [UInt8.ofNat (part ys 64 i).toNat])))
    (he : f ((8 : Int), bs (dataF ys)) = some (.inr (T (bs (dataF ys))))) : loopO f (0, ByteArray.mk #[]) = some (T (bs (dataF ys))) := by
  have e0 : ((0 : Int), ByteArray.mk #[]) = (fun i : Nat => ((i : Int), bs ((dataF ys).take i))) 0 := rfl
  rw [e0]
  refine loopO_for (fun i : Nat => ((i : Int), bs ((dataF ys).take i))) 8 (fun i hi => ?_) ?_
  · show f ((i : Int), bs ((dataF ys).take i)) = some (.inl (((i + 1 : Nat) : Int), bs ((dataF ys).take (i + 1))))
    have hg : (dataF ys)[i]'(by rw [dataF_len]; exact hi) = UInt8.ofNat (part ys 64 i).toNat := by unfold dataF; simp
    rw [hf i hi _ (by rw [bs_size]; simp; omega), List.take_succ_eq_append_getElem (show i < (dataF ys).length by rw [dataF_len]; exact hi), hg, bs_append]
  · show f ((8 : Int), bs ((dataF ys).take 8)) = _
    rw [List.take_of_length_le (by rw [dataF_len]; decide)]; exact he
theorem erWrite_eq (c : Chip) (h : Inv c) (b : Int) (b0 : 0 ≤ b) (b1 : b < 256) : f_rEWrite (bs c.mem) (bs (chr c.inn)) (bs (chr c.out)) b = some (eoutR (ewriteF c b)) := by
  obtain ⟨mem, inn, out, wide⟩ := c
  have ok := h.ok
  have hb := h.bits
  have hlen := h.len
  have hhead := h.head
  have hnext := h.next
  simp only at ok hb hlen hhead hnext
  have hw := ok.w
  have hm : mem.length ≤ 140737488355328 := by omega
  generalize hl : inn ++ [b % 2] = l
  have hll : l.length = inn.length + 1 := by rw [← hl]; simp
  have hbl : Bits l := by rw [← hl]; exact bits_snoc hb b
  have hJ : ∀ (f : ByteArray → Option O_rEWrite), Option.bind (cond ((Int.tmod b 2) == 1) (cond ((fitsS (bs (chr inn)) (ByteArray.mk #[49]))) (some (bs (chr inn) ++ (ByteArray.mk #[49]))) none) (cond ((fitsS (bs (chr inn)) (ByteArray.mk #[48]))) (some (bs (chr inn) ++ (ByteArray.mk #[48]))) none)) f = f (bs (chr l)) := by
    intro f
    have ht : Int.tmod b 2 = b % 2 := Int.tmod_eq_emod_of_nonneg b0
    rw [ht, ← hl, chr_snoc]
    by_cases g : b % 2 = 1
    · rw [ceq g, show (ByteArray.mk #[49]) = bs [49] from rfl, cfits (by rw [bs_size, bs_size, chr_len]; simp; omega), bs_append, g]; rfl
    · have g' : b % 2 = 0 := by omega
      rw [cne g, show (ByteArray.mk #[48]) = bs [48] from rfl, cfits (by rw [bs_size, bs_size, chr_len]; simp; omega), bs_append, g']; rfl
  unfold f_rEWrite
  refine (hJ _).trans ?_
  rw [rwide_eq mem wide ok, bind_some', show (ByteArray.mk #[48]) = bs (chr [0]) from rfl, beq_bs]
  by_cases h0 : l.getD 0 0 = 0
  · have hl0 : l = [0] := by
      rcases hhead with g | g
      · subst g; rw [← hl] at h0 ⊢
        have : b % 2 = 0 := h0
        rw [this]; rfl
      · exfalso
        have : 0 < inn.length := by
          rcases Nat.eq_zero_or_pos inn.length with e | e
          · have : inn = [] := List.eq_nil_of_length_eq_zero e
            subst this; cases g
          · exact e
        have e : l.getD 0 0 = inn.getD 0 0 := by rw [← hl, List.getD_eq_getElem?_getD, List.getD_eq_getElem?_getD, List.getElem?_append_left this]
        rw [e, g] at h0; cases h0
    rw [cpos (by rw [hl0]), ewF_zero (c := ⟨mem, inn, out, wide⟩) hl h0]; rfl
  have h1 : l.getD 0 0 = 1 := (hbl.getD 0).resolve_left h0
  have hne : ¬ chr l = chr [0] := fun e => by
    have := chr_inj hbl (fun x hx => by simp at hx; exact .inl hx) e
    rw [this] at h1; cases h1
  rw [cneg hne]
  have w3 : IntKind.wrap .i64 (3 + wide) = 3 + wide := wrap_i64 (by omega) (by omega)
  have w2 : IntKind.wrap .i64 (2 + wide) = 2 + wide := wrap_i64 (by omega) (by omega)
  have w10 : IntKind.wrap .i64 (10 + wide) = 10 + wide := wrap_i64 (by omega) (by omega)
  have w67 : IntKind.wrap .i64 (67 + wide) = 67 + wide := wrap_i64 (by omega) (by omega)
  have b11 : Bits [1, 1] := by intro x hx; simp at hx; exact .inr hx
  have b10 : Bits [1, 0] := by intro x hx; simp at hx; omega
  have hpre : ∀ (l p : List Int), Bits l → Bits p → f_HasPrefix (bs (chr l)) (bs (chr p)) = some (decide (l.take p.length = p)) := by
    intro l p h h'; unfold f_HasPrefix; rw [bs_data, bs_data, prefix_chr l p h h']
  have hs : ∀ (l p : List Int) (n : Int) (f : Bool → Option O_rEWrite), Bits l → Bits p → p.length = 2 → (((f_HasPrefix (bs (chr l)) (bs (chr p))).bind fun (x : O_HasPrefix) => (cond x (some (((bs (chr l)).size : Int) == n)) (some false))) : Option Bool).bind f = f (decide (l.take 2 = p ∧ (l.length : Int) = n)) := by
    intro l p n f h h' hp
    rw [hpre l p h h', bind_some', bs_size, chr_len, hp]
    by_cases g : l.take 2 = p
    · rw [cpos g]
      show f _ = f _
      congr 1
      simp [g]; rfl
    · rw [cneg g]
      show f _ = f _
      congr 1
      simp [g]
  have hs2 : ∀ (l p : List Int) (n : Int) (f : Bool → Option (ByteArray × ByteArray)), Bits l → Bits p → p.length = 2 → (((f_HasPrefix (bs (chr l)) (bs (chr p))).bind fun (x : O_HasPrefix) => (cond x (some (((bs (chr l)).size : Int) == n)) (some false))) : Option Bool).bind f = f (decide (l.take 2 = p ∧ (l.length : Int) = n)) := by
    intro l p n f h h' hp
    rw [hpre l p h h', bind_some', bs_size, chr_len, hp]
    by_cases g : l.take 2 = p
    · rw [cpos g]
      show f _ = f _
      congr 1
      simp [g]; rfl
    · rw [cneg g]
      show f _ = f _
      congr 1
      simp [g]
  obtain ⟨u0, u1⟩ := unitF_bd ok l
  have hval : ∀ (hn : 2 + wide ≤ l.length), f_rEvalue ((bs (chr l)).extract 2 (2 + wide).toNat) = some (val ((l.drop 2).take wide.toNat)) := by
    intro hn
    rw [bs_extract, chr_drop, chr_take, show (2 + wide).toNat - 2 = wide.toNat by omega]
    exact rvalue_eq _ ((hbl.drop 2).take _) (by simp; omega)
  have hdiv : IntKind.wrap .i64 (Int.tdiv (mem.length : Int) 8) = (mem.length : Int) / 8 := by rw [Int.tdiv_eq_ediv_of_nonneg (by omega), wrap_i64 (by omega) (by omega)]
  have hunit : Int.tmod (val ((l.drop 2).take wide.toNat)) ((mem.length : Int) / 8) = unitF mem l wide := by
    rw [Int.tmod_eq_emod_of_nonneg (val_bd' _ ((hbl.drop 2).take _)).1]; rfl
  rw [show (ByteArray.mk #[49, 49]) = bs (chr [1, 1]) from rfl, show (ByteArray.mk #[49, 48]) = bs (chr [1, 0]) from rfl, w3, w67, w2, w10]
  rw [hs2 l [1, 1] (3 + wide) _ hbl b11 rfl]
  simp only [bs_size, chr_len, hdiv]
  have hthird : ∀ (l' : List Int) (n : Nat), l'.length = n → (((f_HasPrefix (bs (chr l')) (bs (chr [1, 0]))).bind fun (x : O_HasPrefix) => (cond x (some (((n : Nat) : Int) == 67 + wide)) (some false))) : Option Bool) = (((f_HasPrefix (bs (chr l')) (bs (chr [1, 0]))).bind fun (x : O_HasPrefix) => (cond x (some (((bs (chr l')).size : Int) == 67 + wide)) (some false))) : Option Bool) := by
    intro l' n hn; rw [bs_size, chr_len, hn]
  by_cases hC : l.take 2 = [1, 1] ∧ (l.length : Int) = 3 + wide
  · obtain ⟨hC2, hC3, hC4⟩ := (take2 l 1 1).1 hC.1
    have hCl := hC.2
    rw [cpos hC, cand (by omega) (by omega), cand (by decide) (by omega), hval (by omega), bind_some', cnot, cne (by omega), Let_eq, hunit, wrap_i64 (x := 8 * unitF mem l wide) (by omega) (by omega)]
    have hbl8 : ((mem.drop (8 * (unitF mem l wide).toNat)).take 8).length = 8 := by simp; omega
    have hby : ∀ (i : Nat) (hi : i < 8), sbyte (bs mem) (8 * unitF mem l wide + i) = ((((mem.drop (8 * (unitF mem l wide).toNat)).take 8)[i]'(by omega)).toNat : Int) := by
      intro i hi
      rw [sbyte_get (by omega) (by omega)]
      congr 2
      rw [List.getElem_take, List.getElem_drop]
      congr 1; omega
    have hwf := ewF_read (c := ⟨mem, inn, out, wide⟩) hl h1 (by show ¬ ((l.length : Int) < 2 ∨ (l.length : Int) < 3 + wide); omega) hC4
    rw [hwf]
    show Option.bind (loopO _ (0, bs [48, 48, 48, 48])) _ = some (0, 0, bs [], false, bs mem, bs [], bs (chr ([0, 0, 0, 0] ++ bitsOf ((mem.drop (8 * (unitF mem l wide).toNat)).take 8))))
    rw [rloop_read ((mem.drop (8 * (unitF mem l wide).toNat)).take 8) hbl8 (fun s => (bs [], s))]
    · rw [bind_some']
      show Option.bind (Option.bind (f_HasPrefix (bs (chr [])) (bs (chr [1, 0]))) _) _ = _
      rw [hpre [] [1, 0] (fun x hx => by cases hx) b10]; rfl
    · intro i hi s hsz
      show cond (decide ((i : Int) < 8)) (cond (decide (0 ≤ IntKind.wrap .i64 (8 * unitF mem l wide + (i : Int))) && decide (IntKind.wrap .i64 (8 * unitF mem l wide + (i : Int)) < (mem.length : Int))) ((f_rEbits (sbyte (bs mem) (IntKind.wrap .i64 (8 * unitF mem l wide + (i : Int))))).bind _) none) _ = _
      have w1 : IntKind.wrap .i64 ((i : Int) + 1) = ((i + 1 : Nat) : Int) := by rw [wrap_i64 (by omega) (by omega)]; omega
      have hlt := (((mem.drop (8 * (unitF mem l wide).toNat)).take 8)[i]'(by omega)).toNat_lt
      rw [cpos (by omega), wrap_i64 (x := 8 * unitF mem l wide + (i : Int)) (by omega) (by omega), cand (by omega) (by omega), hby i hi, rbits_eq _ (by omega) (by omega), bind_some', cfits (a := s) (by rw [bs_size, chr_len, bits8_len]; omega), w1]
    · intro s
      show cond (decide ((8 : Int) < 8)) _ _ = _
      rw [cneg (by decide)]; rfl
  rw [cneg hC, bind_some']
  show Option.bind (Option.bind (f_HasPrefix (bs (chr l)) (bs (chr [1, 0]))) _) _ = _
  rw [hpre l [1, 0] hbl b10]
  by_cases hD : l.take 2 = [1, 0] ∧ (l.length : Int) = 67 + wide
  · obtain ⟨hD2, hD3, hD4⟩ := (take2 l 1 0).1 hD.1
    have hDl := hD.2
    have hwf := ewF_put (c := ⟨mem, inn, out, wide⟩) hl h1 (by show ¬ ((l.length : Int) < 2 ∨ (l.length : Int) < 3 + wide); omega) hD4 (by show (l.length : Int) = 67 + wide; omega)
    rw [hwf]
    rw [bind_some']
    show Option.bind (cond (decide (l.take 2 = [1, 0])) (some ((((bs (chr l)).size : Nat) : Int) == 67 + wide)) (some false)) _ = _
    rw [cpos hD.1, bs_size, chr_len, bind_some', ceq hDl]
    show cond (decide (0 ≤ 2 + wide) && decide (2 + wide ≤ ((l.length : Nat) : Int))) _ none = _
    rw [cand (by omega) (by omega), cand (by decide) (by omega), hval (by omega), bind_some', cnot, cne (by omega)]
    show loopO _ (0, ByteArray.mk #[]) = _
    have hyl : ((l.drop (2 + wide.toNat)).take 64).length = 64 := by simp; omega
    refine rloop_data ((l.drop (2 + wide.toNat)).take 64) (fun s => ((1 : Int), 8 * unitF mem l wide, s, true, bs (applyF mem 1 (8 * unitF mem l wide) (dataF ((l.drop (2 + wide.toNat)).take 64))).1, bs [], bs [])) (fun i hi s hsz => ?_) ?_
    · show cond (decide ((i : Int) < 8)) (cond (decide (0 ≤ IntKind.wrap .i64 ((10 + wide) + IntKind.wrap .i64 (8 * (i : Int)))) && decide (IntKind.wrap .i64 ((10 + wide) + IntKind.wrap .i64 (8 * (i : Int))) ≤ ((l.length : Nat) : Int))) _ none) _ = _
      have w1 : IntKind.wrap .i64 ((i : Int) + 1) = ((i + 1 : Nat) : Int) := by rw [wrap_i64 (by omega) (by omega)]; omega
      have w8 : IntKind.wrap .i64 (8 * (i : Int)) = 8 * i := wrap_i64 (by omega) (by omega)
      rw [w8, wrap_i64 (x := (10 + wide) + 8 * (i : Int)) (by omega) (by omega), wrap_i64 (x := (2 + wide) + 8 * (i : Int)) (by omega) (by omega), w1, cpos (by omega), cand (by omega) (by omega), cand (by omega) (by omega)]
      have hv : f_rEvalue ((bs (chr l)).extract (2 + wide + 8 * (i : Int)).toNat (10 + wide + 8 * (i : Int)).toNat) = some (part ((l.drop (2 + wide.toNat)).take 64) 64 i) := by
        rw [bs_extract, chr_drop, chr_take, rvalue_eq _ ((hbl.drop _).take _) (by simp; omega)]
        unfold part
        congr 2
        rw [List.drop_take, List.take_take, List.drop_drop, show (2 + wide + 8 * (i : Int)).toNat = 2 + wide.toNat + 8 * i by omega, show (10 + wide + 8 * (i : Int)).toNat - (2 + wide.toNat + 8 * i) = 8 by omega, show min (min 8 (64 - 8 * i)) (64 - 8 * i) = 8 by omega]
      obtain ⟨p0, p1⟩ := part_bd (ys := (l.drop (2 + wide.toNat)).take 64) ((hbl.drop _).take _) 64 i
      rw [hv, bind_some', wrap_u8 p0 p1]
      obtain ⟨pn, hpn⟩ := Int.eq_ofNat_of_zero_le p0
      rw [hpn] at p1 ⊢
      have hin : bytesIn [(pn : Int)] = true := by unfold bytesIn; simp; omega
      rw [ctrueT hin, show strOf [(pn : Int)] = bs [UInt8.ofNat pn] from rfl, cfits (a := s) (by rw [bs_size]; simp; omega)]; rfl
    · show cond (decide ((8 : Int) < 8)) _ ((f_rApply (bs mem) 1 (IntKind.wrap .i64 (8 * Int.tmod (val ((l.drop 2).take wide.toNat)) ((mem.length : Int) / 8))) (bs (dataF ((l.drop (2 + wide.toNat)).take 64)))).bind _) = _
      rw [cneg (by decide), hunit, wrap_i64 (x := 8 * unitF mem l wide) (by omega) (by omega), rApply_eq _ hm, bind_some']; rfl
  · have hfin : ∀ (f : Bool → Option O_rEWrite), Option.bind (Option.bind (some (decide (l.take [1, 0].length = [1, 0]))) fun (x : O_HasPrefix) => (cond x (some ((((bs (chr l)).size : Nat) : Int) == 67 + wide)) (some false))) f = f false := by
      intro f
      rw [bind_some']
      by_cases g : l.take 2 = [1, 0]
      · have hn : ¬ (l.length : Int) = 67 + wide := fun e => hD ⟨g, e⟩
        show Option.bind (cond (decide (l.take 2 = [1, 0])) _ _) f = _
        rw [cpos g, bs_size, chr_len, bind_some']
        have : ((l.length : Int) == 67 + wide) = false := by simpa using hn
        rw [this]
      · show Option.bind (cond (decide (l.take 2 = [1, 0])) _ _) f = _
        rw [cneg g]; rfl
    refine (hfin _).trans ?_
    have hres : ewriteF ⟨mem, inn, out, wide⟩ b = (noneR, ⟨mem, l, out, wide⟩) := by
      by_cases g : (l.length : Int) < 2 ∨ (l.length : Int) < 3 + wide
      · exact ewF_more hl h1 g
      · have h10 : l.getD 1 0 = 0 := by
          refine (hbl.getD 1).resolve_right fun e => ?_
          refine hC ⟨(take2 l 1 1).2 ⟨by omega, h1, e⟩, ?_⟩
          rcases Nat.lt_or_ge 1 inn.length with h2 | h2
          · have e2 : l.getD 1 0 = inn.getD 1 0 := by rw [← hl, List.getD_eq_getElem?_getD, List.getD_eq_getElem?_getD, List.getElem?_append_left h2]
            by_cases g3 : 3 + wide ≤ inn.length
            · rw [e2, hnext g3] at e; cases e
            · omega
          · omega
        refine ewF_wait hl h1 g h10 fun e => hD ⟨(take2 l 1 0).2 ⟨by omega, h1, h10⟩, e⟩
    rw [hres]; rfl
end Go.Proofs.YtcgigdfahlmfaaaGreatDoor
