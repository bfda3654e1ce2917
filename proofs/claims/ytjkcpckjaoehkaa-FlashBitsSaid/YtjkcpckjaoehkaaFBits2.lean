/-
  FlashBits: the law.
-/
import Derived.Test.YtjkcpckjaoehkaaFBits
import Derived.Test.YtjkcpckjaoehkaaRead
namespace Go.Proofs.Ytjkcpckjaoehkaa
open Go.Vc
set_option linter.unusedVariables false
set_option linter.unusedSimpArgs false

theorem beqT (a b : List UInt8) (h : a = b) : ((bs a).toList == (bs b).toList) = true := by rw [beq_bs, decide_eq_true h]
theorem highU {x : Int} (h0 : 0 ≤ x) (h1 : x < 4294967296) : bits .and .u32 x 61440 = at16 x / 4096 * 4096 := by
  obtain ⟨A, rfl⟩ := Int.eq_ofNat_of_zero_le h0
  rw [show (61440 : Int) = ((61440 : Nat) : Int) from rfl, u32_and_nat A _ (by omega) (by omega), show (61440 : Nat) = (2 ^ 4 - 1) * 2 ^ 12 by decide, nat_and_high]
  unfold at16; omega
theorem prog1_at {m : List UInt8} (hm : big m) {b x y : Int} (hb : b = 0 ∨ b = 1) (y0 : 0 ≤ y) (y1 : y < 256) : byteAt (prog1 m b x y) (b * 65536 + at16 x) = bits .and .u8 (byteAt m (b * 65536 + at16 x)) y := by
  have hlt := (spot_lt (x := x) hb).1
  have h : m.length = 131072 := hm
  have hbd := byteAt_bd m (b * 65536 + at16 x)
  rw [and_nat _ _ hbd.1 hbd.2 y0 y1]
  have e : byteAt (prog1 m b x y) (b * 65536 + at16 x) = (((prog1 m b x y).getD (spot b x) 0).toNat : Int) := rfl
  have ht : (m.take (spot b x)).length = spot b x := by simp; omega
  rw [e]
  unfold prog1
  rw [List.getD_eq_getElem?_getD, List.append_assoc, List.getElem?_append_right (by omega), ht, Nat.sub_self]
  show ((UInt8.ofNat (y.toNat &&& (byteAt m (b * 65536 + at16 x)).toNat)).toNat : Int) = _
  rw [Nat.and_comm, UInt8.toNat_ofNat', Nat.mod_eq_of_lt (and_lt _ _ (by omega))]
theorem blank4096 : f_Blank 4096 = some (bs (ffs 4096)) := blank_eq 4096 (by decide)
theorem FlashBits_eq (bank : Int) (k0 : 0 ≤ bank) (k1 : bank < 256) (puts : List E33) (hp : ∀ p ∈ puts, (0 ≤ p.Addr ∧ p.Addr < 4294967296) ∧ 0 ≤ p.Byte ∧ p.Byte < 256) : f_FlashBits bank puts = some true := by
  unfold f_FlashBits
  rw [awake_eq, bind_some', cnot, ctrueT rfl]
  by_cases hl : ((puts.length : Nat) : Int) > 60
  · rw [cpos hl]
  rw [cneg hl, chip_eq, bind_some']
  have h0 : big (ffs (if true = true then 131072 else 65536)) := ffs_length _
  generalize ffs (if true = true then 131072 else 65536) = m0 at h0
  have hb2 : bank % 2 = 0 ∨ bank % 2 = 1 := by omega
  have ok1 : ∀ k, k ≤ (opn ++ [(⟨21845, 176⟩ : E33), ⟨0, bank⟩]).length → Ok (sendF ((opn ++ [(⟨21845, 176⟩ : E33), ⟨0, bank⟩]).take k) ⟨m0, 0, false, 0⟩).2 := by
    intro k hk
    have hk' : k ≤ 4 := hk
    obtain rfl | rfl | rfl | rfl | rfl : k = 0 ∨ k = 1 ∨ k = 2 ∨ k = 3 ∨ k = 4 := by omega
    · exact Ok_of h0 (by decide) (.inl rfl)
    · unfold sendF; simp only [opn, List.cons_append, List.nil_append, List.take_succ_cons, List.take_zero, List.foldl_cons, List.foldl_nil]; rw [w0]; exact Ok_of h0 (by decide) (.inl rfl)
    · unfold sendF; simp only [opn, List.cons_append, List.nil_append, List.take_succ_cons, List.take_zero, List.foldl_cons, List.foldl_nil]; rw [w0, w1]; exact Ok_of h0 (by decide) (.inl rfl)
    · unfold sendF; simp only [opn, List.cons_append, List.nil_append, List.take_succ_cons, List.take_zero, List.foldl_cons, List.foldl_nil]; rw [w0, w1, w2 m0 0 176 4 rfl]; exact Ok_of h0 (by decide) (.inl rfl)
    · have := send_sw m0 h0 bank
      rw [List.take_of_length_le (by simp [opn]), this]; exact Ok_of h0 (by decide) hb2
  have hs1 := send_eq (opn ++ [(⟨21845, 176⟩ : E33), ⟨0, bank⟩]) ⟨m0, 0, false, 0⟩ (by simp [opn]) (by intro p hp; simp [opn] at hp; rcases hp with rfl | rfl | rfl | rfl <;> simp <;> omega) ok1
  rw [send_sw m0 h0 bank] at hs1
  show ((f_send (opn ++ [(⟨21845, 176⟩ : E33), ⟨0, bank⟩]) (bs m0) 0 false 0).bind _) = _
  rw [hs1, bind_some']
  have e10 : IntKind.wrap .i64 ((IntKind.wrap .i64 (bits .and .u8 bank 1)) * 65536) = bank % 2 * 65536 := by
    have e : bits .and .u8 bank 1 = bank % 2 := and8 1 (by decide) (by decide) k0 k1
    rw [e, wrap_i64 (x := bank % 2) (by omega) (by omega), wrap_i64 (by omega) (by omega)]
  show cond false _ (Let (IntKind.wrap .i64 ((IntKind.wrap .i64 (bits .and .u8 bank 1)) * 65536)) _) = _
  rw [cfalse rfl, e10, Let_eq]
  generalize bank % 2 = b at hb2
  refine loopO_inv (fun (n : Nat) (s : Int × ByteArray × Int × Bool × Int) => ∃ (i : Nat) (m : List UInt8), n = puts.length - i ∧ i ≤ puts.length ∧ big m ∧ s = ((i : Int), bs m, 0, false, b)) ?_ puts.length _ ⟨0, m0, rfl, Nat.zero_le _, h0, rfl⟩
  rintro n s ⟨i, m, rfl, hi, hm, rfl⟩
  have hm' : m.length = 131072 := hm
  by_cases hlt : i < puts.length
  · left
    obtain ⟨⟨a0, a1⟩, b0, b1⟩ := hp puts[i] (List.getElem_mem hlt)
    have hix : ixL puts (i : Int) = puts[i] := ixL_nat hlt
    generalize puts[i] = p at a0 a1 b0 b1 hix
    obtain ⟨hsp, hs0⟩ := spot_lt (x := p.Addr) hb2
    have hat := at16_bd p.Addr
    have hposN : ((spot b p.Addr : Nat) : Int) = b * 65536 + at16 p.Addr := by unfold spot; omega
    have hbig := prog1_len hm (b := b) (x := p.Addr) (y := p.Byte) hb2
    have hbl : (prog1 m b p.Addr p.Byte).length = 131072 := hbig
    have ok2 : ∀ k, k ≤ (opn ++ [(⟨21845, 160⟩ : E33), ⟨p.Addr, p.Byte⟩]).length → Ok (sendF ((opn ++ [(⟨21845, 160⟩ : E33), ⟨p.Addr, p.Byte⟩]).take k) ⟨m, 0, false, b⟩).2 := by
      intro k hk
      have hk' : k ≤ 4 := hk
      obtain rfl | rfl | rfl | rfl | rfl : k = 0 ∨ k = 1 ∨ k = 2 ∨ k = 3 ∨ k = 4 := by omega
      · exact Ok_of hm (by decide) hb2
      · unfold sendF; simp only [opn, List.cons_append, List.nil_append, List.take_succ_cons, List.take_zero, List.foldl_cons, List.foldl_nil]; rw [w0]; exact Ok_of hm (by decide) hb2
      · unfold sendF; simp only [opn, List.cons_append, List.nil_append, List.take_succ_cons, List.take_zero, List.foldl_cons, List.foldl_nil]; rw [w0, w1]; exact Ok_of hm (by decide) hb2
      · unfold sendF; simp only [opn, List.cons_append, List.nil_append, List.take_succ_cons, List.take_zero, List.foldl_cons, List.foldl_nil]; rw [w0, w1, w2 m b 160 3 rfl]; exact Ok_of hm (by decide) hb2
      · have := send_put m hm b p.Addr p.Byte hb2
        rw [List.take_of_length_le (by simp [opn]), this]; exact Ok_of hbig (by decide) hb2
    have hs2 := send_eq (opn ++ [(⟨21845, 160⟩ : E33), ⟨p.Addr, p.Byte⟩]) ⟨m, 0, false, b⟩ (by simp [opn]) (by intro q hq; simp [opn] at hq; rcases hq with rfl | rfl | rfl | rfl <;> simp <;> omega) ok2
    rw [send_put m hm b p.Addr p.Byte hb2] at hs2
    have e13 : IntKind.wrap .i64 (b * 65536 + (IntKind.wrap .i64 (bits .and .u32 p.Addr 65535))) = b * 65536 + at16 p.Addr := by
      rw [at16_ok a0 a1, wrap_i64 (by omega) (by omega)]
    have ew : IntKind.wrap .i64 (b * 65536 + at16 p.Addr + 1) = b * 65536 + at16 p.Addr + 1 := wrap_i64 (by omega) (by omega)
    refine ⟨(((i + 1 : Nat) : Int), bs (prog1 m b p.Addr p.Byte), 0, false, b), puts.length - (i + 1), ?_, by omega, i + 1, _, rfl, by omega, hbig, rfl⟩
    show cond (decide ((i : Int) < ((puts.length : Nat) : Int))) _ _ = _
    rw [cpos (by omega), cand (by omega) (by omega), hix, e13, Let_eq]
    show ((f_Image (bs m) 0 false b).bind _) = _
    rw [show f_Image (bs m) 0 false b = some (bs m) from rfl, bind_some']
    show ((f_send (opn ++ [(⟨21845, 160⟩ : E33), ⟨p.Addr, p.Byte⟩]) (bs m) 0 false b).bind _) = _
    rw [hs2, bind_some']
    show ((f_Image (bs (prog1 m b p.Addr p.Byte)) 0 false b).bind _) = _
    rw [show f_Image (bs (prog1 m b p.Addr p.Byte)) 0 false b = some (bs (prog1 m b p.Addr p.Byte)) from rfl, bind_some']
    show cond (!true) _ (cond (b * 65536 + at16 p.Addr != b * 65536 + at16 p.Addr) _ _) = _
    have t1 : (prog1 m b p.Addr p.Byte).take (spot b p.Addr) = m.take (spot b p.Addr) := by
      unfold prog1; rw [List.append_assoc, List.take_append_of_le_length (by simp; omega), List.take_take, Nat.min_self]
    have t2 : (prog1 m b p.Addr p.Byte).drop (spot b p.Addr + 1) = m.drop (spot b p.Addr + 1) := by
      unfold prog1
      rw [List.drop_append_of_le_length (by simp; omega), List.drop_of_length_le (by simp; omega), List.nil_append]
    rw [cnot, ctrue rfl, cbeq rfl, bs_size, bs_size, hbl, hm', cand (by omega) (by omega), cand (by omega) (by omega), sbyte_bs, sbyte_bs]
    have ep := prog1_at hm (b := b) (x := p.Addr) hb2 b0 b1
    have eb1 : ((prog1 m b p.Addr p.Byte).getD (b * 65536 + at16 p.Addr).toNat 0).toNat = (byteAt (prog1 m b p.Addr p.Byte) (b * 65536 + at16 p.Addr) : Int) := rfl
    have eb2 : (((m.getD (b * 65536 + at16 p.Addr).toNat 0).toNat : Nat) : Int) = byteAt m (b * 65536 + at16 p.Addr) := rfl
    rw [eb1, eb2, ep, cbeq rfl, cand (by omega) (by omega), cand (by omega) (by omega), cand (by omega) (by omega), cand (by omega) (by omega), bs_extract, bs_extract, beqT _ _ (by
      show ((prog1 m b p.Addr p.Byte).drop 0).take (spot b p.Addr - 0) = (m.drop 0).take (spot b p.Addr - 0)
      rw [List.drop_zero, List.drop_zero, Nat.sub_zero]; exact t1), cnot, ctrue rfl, cand (by omega) (by omega), ew, cand (by omega) (by omega), cand (by omega) (by omega), cand (by omega) (by omega), bs_extract, bs_extract, beqT _ _ (by
      have e : (b * 65536 + at16 p.Addr + 1).toNat = spot b p.Addr + 1 := by omega
      rw [e, t2]), cnot, ctrue rfl, wrap_i64 (by omega) (by omega)]
    rfl
  right
  show cond (decide ((i : Int) < ((puts.length : Nat) : Int))) _ _ = _
  rw [cneg (by omega)]
  by_cases hz : puts.length = 0
  · rw [ceq (by omega)]
  have hlt : 0 < puts.length := by omega
  obtain ⟨⟨a0, a1⟩, b0, b1⟩ := hp puts[0] (List.getElem_mem hlt)
  have hix : ixL puts (0 : Int) = puts[0] := ixL_nat (i := 0) hlt
  generalize puts[0] = p at a0 a1 b0 b1 hix
  obtain ⟨h1, h2, h3⟩ := era_lt (x := p.Addr) hb2
  have hat := at16_bd p.Addr
  have hposN : ((era b p.Addr : Nat) : Int) = b * 65536 + at16 p.Addr / 4096 * 4096 := by unfold era; omega
  have hel : (erase1 m b p.Addr).length = 131072 := by unfold erase1; simp [ffs_length]; omega
  have hebig : big (erase1 m b p.Addr) := hel
  have ok3 : ∀ k, k ≤ (opn ++ [(⟨21845, 128⟩ : E33), ⟨21845, 170⟩, ⟨10922, 85⟩, ⟨p.Addr, 48⟩]).length → Ok (sendF ((opn ++ [(⟨21845, 128⟩ : E33), ⟨21845, 170⟩, ⟨10922, 85⟩, ⟨p.Addr, 48⟩]).take k) ⟨m, 0, false, b⟩).2 := by
    intro k hk
    have hk' : k ≤ 6 := hk
    obtain rfl | rfl | rfl | rfl | rfl | rfl | rfl : k = 0 ∨ k = 1 ∨ k = 2 ∨ k = 3 ∨ k = 4 ∨ k = 5 ∨ k = 6 := by omega
    · exact Ok_of hm (by decide) hb2
    · unfold sendF; simp only [opn, List.cons_append, List.nil_append, List.take_succ_cons, List.take_zero, List.foldl_cons, List.foldl_nil]; rw [w0]; exact Ok_of hm (by decide) hb2
    · unfold sendF; simp only [opn, List.cons_append, List.nil_append, List.take_succ_cons, List.take_zero, List.foldl_cons, List.foldl_nil]; rw [w0, w1]; exact Ok_of hm (by decide) hb2
    · unfold sendF; simp only [opn, List.cons_append, List.nil_append, List.take_succ_cons, List.take_zero, List.foldl_cons, List.foldl_nil]; rw [w0, w1, w2 m b 128 5 rfl]; exact Ok_of hm (by decide) hb2
    · unfold sendF; simp only [opn, List.cons_append, List.nil_append, List.take_succ_cons, List.take_zero, List.foldl_cons, List.foldl_nil]; rw [w0, w1, w2 m b 128 5 rfl, w5]; exact Ok_of hm (by decide) hb2
    · unfold sendF; simp only [opn, List.cons_append, List.nil_append, List.take_succ_cons, List.take_zero, List.foldl_cons, List.foldl_nil]; rw [w0, w1, w2 m b 128 5 rfl, w5, w6]; exact Ok_of hm (by decide) hb2
    · have := send_era m hm b p.Addr hb2
      rw [List.take_of_length_le (by simp [opn]), this]; exact Ok_of hebig (by decide) hb2
  have hs3 := send_eq (opn ++ [(⟨21845, 128⟩ : E33), ⟨21845, 170⟩, ⟨10922, 85⟩, ⟨p.Addr, 48⟩]) ⟨m, 0, false, b⟩ (by simp [opn]) (by intro q hq; simp [opn] at hq; rcases hq with rfl | rfl | rfl | rfl | rfl | rfl <;> simp <;> omega) ok3
  rw [send_era m hm b p.Addr hb2] at hs3
  have e18 : IntKind.wrap .i64 (b * 65536 + (IntKind.wrap .i64 (bits .and .u32 p.Addr 61440))) = b * 65536 + at16 p.Addr / 4096 * 4096 := by
    rw [highU a0 a1, wrap_i64 (x := at16 p.Addr / 4096 * 4096) (by omega) (by omega), wrap_i64 (by omega) (by omega)]
  have ew : IntKind.wrap .i64 (b * 65536 + at16 p.Addr / 4096 * 4096 + 4096) = b * 65536 + at16 p.Addr / 4096 * 4096 + 4096 := wrap_i64 (by omega) (by omega)
  rw [cne (by omega), cand (by omega) (by omega), hix, e18, Let_eq]
  show ((f_Image (bs m) 0 false b).bind _) = _
  rw [show f_Image (bs m) 0 false b = some (bs m) from rfl, bind_some', cand (by omega) (by omega)]
  show ((f_send (opn ++ [(⟨21845, 128⟩ : E33), ⟨21845, 170⟩, ⟨10922, 85⟩, ⟨p.Addr, 48⟩]) (bs m) 0 false b).bind _) = _
  rw [hs3, bind_some']
  show ((f_Image (bs (erase1 m b p.Addr)) 0 false b).bind _) = _
  rw [show f_Image (bs (erase1 m b p.Addr)) 0 false b = some (bs (erase1 m b p.Addr)) from rfl, bind_some']
  show cond (!true) _ (cond ((2 : Int) != 2) _ (cond (b * 65536 + at16 p.Addr / 4096 * 4096 != b * 65536 + at16 p.Addr / 4096 * 4096) _ _)) = _
  have hte : (m.take (era b p.Addr)).length = era b p.Addr := by simp; omega
  have t1 : (erase1 m b p.Addr).take (era b p.Addr) = m.take (era b p.Addr) := by
    unfold erase1; rw [List.append_assoc, List.take_append_of_le_length (by omega), List.take_take, Nat.min_self]
  have hl2 : (m.take (era b p.Addr) ++ ffs 4096).length = era b p.Addr + 4096 := by rw [List.length_append, hte, ffs_length]
  have t2 : (erase1 m b p.Addr).drop (era b p.Addr + 4096) = m.drop (era b p.Addr + 4096) := by
    unfold erase1
    rw [List.drop_append_of_le_length (by omega), List.drop_of_length_le (by omega), List.nil_append]
  have t3 : ((erase1 m b p.Addr).drop (era b p.Addr)).take 4096 = ffs 4096 := by
    unfold erase1
    rw [List.append_assoc, List.drop_append_of_le_length (by omega), List.drop_of_length_le (by omega), List.nil_append, List.take_append_of_le_length (by rw [ffs_length]; exact Nat.le_refl _), List.take_of_length_le (by rw [ffs_length]; exact Nat.le_refl _)]
  rw [cnot, ctrue rfl, cbeq rfl, cbeq rfl, bs_size, bs_size, hel, hm', cand (by omega) (by omega), cand (by omega) (by omega), cand (by omega) (by omega), cand (by omega) (by omega), bs_extract, bs_extract, beqT _ _ (by
      show ((erase1 m b p.Addr).drop 0).take (era b p.Addr - 0) = (m.drop 0).take (era b p.Addr - 0)
      rw [List.drop_zero, List.drop_zero, Nat.sub_zero]; exact t1), cnot, ctrue rfl, cand (by omega) (by omega), ew, cand (by omega) (by omega), cand (by omega) (by omega), cand (by omega) (by omega), bs_extract, bs_extract, beqT _ _ (by
      have e : (b * 65536 + at16 p.Addr / 4096 * 4096 + 4096).toNat = era b p.Addr + 4096 := by omega
      rw [e, t2]), cnot, ctrue rfl, cand (by omega) (by omega), cand (by omega) (by omega), blank4096, bind_some', Let_eq, bs_extract, beqT _ _ (by
      have e : (b * 65536 + at16 p.Addr / 4096 * 4096 + 4096).toNat - (b * 65536 + at16 p.Addr / 4096 * 4096).toNat = 4096 := by omega
      have e2 : (b * 65536 + at16 p.Addr / 4096 * 4096).toNat = era b p.Addr := rfl
      rw [e, e2, t3])]
theorem ro_put {w : World} {p : Option Addr} {n c : Nat} (h : Rds Try.prog w 33 p n c) :
    ∃ xs : List E33, n = xs.length ∧ RoAt el33 w p c xs ∧ ∀ x ∈ xs, (0 ≤ x.Addr ∧ x.Addr < 4294967296) ∧ 0 ≤ x.Byte ∧ x.Byte < 256 :=
  ro_of h (by first | rfl | kernel_rfl) _ fun cs m hc => by
    obtain ⟨hl, m', hf⟩ := Rd.struct Try.underlying33 hc
    have f0 := hf 0 _ rfl
    have f1 := hf 1 _ rfl
    obtain ⟨x0, e0, w0⟩ := Rd.int (k := .u32) (by first | rfl | kernel_rfl) f0
    obtain ⟨x1, e1, w1⟩ := Rd.int (k := .u8) (by first | rfl | kernel_rfl) f1
    exact ⟨⟨x0, x1⟩, list2 (hl.trans (by first | rfl | kernel_rfl)) (one_at (o := 0) (by first | rfl | kernel_rfl) e0) (one_at (o := 1) (by first | rfl | kernel_rfl) e1), wf_u32 w0, wf_u8 w1⟩
theorem law_FlashBits (w : World) (a0 : Int) (w0 : (Lit.int .u8 a0).wf = true) (a1 : Option Addr) (n1 c1 : Nat) (w1 : Rds Try.prog w 33 a1 n1 c1) :
    Calls Try.prog n_FlashBits #[.int .u8 a0, .slice a1 n1 c1] w fun e w' => e = .returned (.bool true) ∧ Chg (fun _ => False) w w' := by
  obtain ⟨xs, rfl, hr, hx⟩ := ro_put w1
  exact (t_FlashBits (FlashBits_eq a0 (wf_u8 w0).1 (wf_u8 w0).2 xs hx) trivial hr not_foot_nil rfl).mono fun e w' h => ⟨h.1, h.2.quiet⟩
end Go.Proofs.Ytjkcpckjaoehkaa
