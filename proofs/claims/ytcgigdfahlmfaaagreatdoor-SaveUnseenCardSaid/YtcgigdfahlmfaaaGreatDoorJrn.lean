/-
  A journal on a disk that doesn't fail: what its sectors say; writing it.
-/
import Derived.Test.YtcgigdfahlmfaaaGreatDoorSealP
import Derived.Test.YtcgigdfahlmfaaaGreatDoorDiskP
import Derived.Test.YtcgigdfahlmfaaaGreatDoorWrap
namespace Go.Proofs.YtcgigdfahlmfaaaGreatDoor
open Go.Vc
set_option linter.unusedVariables false
set_option linter.unusedSimpArgs false
structure Good (F S : List ByteArray) (W : List E115) : Prop where
  full : Full F
  soft : Soft F.length W
  seen : S = setAll F W
theorem setAll_snoc (F : List ByteArray) (W : List E115) (w : E115) : setAll F (W ++ [w]) = (setAll F W).set w.sector.toNat w.data := by unfold setAll; rw [List.foldl_append]; rfl
theorem Good.len {F S : List ByteArray} {W : List E115} (h : Good F S W) : S.length = F.length := by rw [h.seen, setAll_length]
theorem Good.all {F : List ByteArray} : ∀ {W : List E115}, Full F → Soft F.length W → Full (setAll F W) := by
  intro W
  induction W generalizing F with
  | nil => intro h _; exact h
  | cons w W ih =>
    intro h hs
    have hw := hs w (by simp)
    exact ih (h.set hw.2.2) (by rw [List.length_set]; exact fun x hx => hs x (List.mem_cons_of_mem _ hx))
theorem Good.fullS {F S : List ByteArray} {W : List E115} (h : Good F S W) : Full S := by rw [h.seen]; exact Good.all h.full h.soft
theorem Good.self {S : List ByteArray} (h : Full S) : Good S S [] := ⟨h, fun w hw => by simp at hw, rfl⟩
theorem Good.add {F S : List ByteArray} {W : List E115} (h : Good F S W) {i : Nat} (hi : i < S.length) {s : ByteArray} (hs : s.size = 64) : Good F (S.set i s) (W ++ [⟨(i : Int), s⟩]) := by
  refine ⟨h.full, fun w hw => ?_, ?_⟩
  · rcases List.mem_append.1 hw with hw | hw
    · exact h.soft w hw
    · rw [List.mem_singleton.1 hw]
      have := h.len
      exact ⟨by show (0 : Int) ≤ (i : Int); omega, by show (i : Int) < _; omega, hs⟩
  · rw [setAll_snoc, ← h.seen]; rfl
theorem Write_h {F S : List ByteArray} {W : List E115} {i : Nat} (hi : i < S.length) {s : ByteArray} (hs : s.size = 64) (hl : W.length ≤ 1000000) : f_Write F S W [] (-1) false (i : Int) s = some (0, -1, false, S.set i s, W ++ [⟨(i : Int), s⟩]) := by
  rw [Write_eq F S W [] (-1) false (by decide) (by omega)]
  unfold writeF
  rw [if_neg (by decide), if_neg (by omega), if_neg (by show ¬ (getB [] _ = true); exact Bool.false_ne_true), if_neg (by decide)]
  rfl
theorem Read_h {F S : List ByteArray} {W : List E115} {i : Nat} {s : ByteArray} (h : S[i]? = some s) : f_Read F S W [] (-1) false (i : Int) = some (s, 0) := by
  obtain ⟨h1, h2⟩ := List.getElem?_eq_some_iff.1 h
  rw [Read_eq F S W [] (-1) false]
  unfold readF
  rw [if_neg (by decide), if_neg (by omega), ixL_nat h1, h2]
theorem Sync_h {F S : List ByteArray} {W : List E115} (h : Good F S W) (hl : W.length ≤ 2000000) : f_Sync F S W [] (-1) false = some (0, -1, false, S, []) := by
  rw [Sync_eq F S W [] (-1) false (by decide) (by omega) (fun w hw => ⟨(h.soft w hw).1, (h.soft w hw).2.1⟩)]
  unfold syncF
  rw [if_neg (by decide), if_neg (by decide), ← h.seen]; rfl
def putN (S : List ByteArray) (o : Nat) (f : Nat → ByteArray) : Nat → List ByteArray
  | 0 => S
  | k + 1 => (putN S o f k).set (o + k) (f k)
theorem putN_len (S : List ByteArray) (o : Nat) (f : Nat → ByteArray) : ∀ n, (putN S o f n).length = S.length
  | 0 => rfl
  | n + 1 => by unfold putN; rw [List.length_set, putN_len S o f n]
theorem putN_in {S : List ByteArray} {o : Nat} {f : Nat → ByteArray} : ∀ (n : Nat), o + n ≤ S.length → ∀ j, j < n → (putN S o f n)[o + j]? = some (f j)
  | 0, _, j, h => by omega
  | n + 1, hl, j, h => by
    unfold putN
    by_cases hj : j = n
    · subst hj
      rw [List.getElem?_set_self (by rw [putN_len]; omega)]
    · rw [List.getElem?_set_ne (by omega)]
      exact putN_in n (by omega) j (by omega)
theorem putN_out {S : List ByteArray} {o : Nat} {f : Nat → ByteArray} : ∀ (n : Nat) (j : Nat), j < o ∨ o + n ≤ j → (putN S o f n)[j]? = S[j]?
  | 0, _, _ => rfl
  | n + 1, j, h => by
    unfold putN
    rw [List.getElem?_set_ne (by omega)]
    exact putN_out n j (by omega)
theorem putN_full {S : List ByteArray} {o : Nat} {f : Nat → ByteArray} (h : Full S) (hf : ∀ k, (f k).size = 64) : ∀ n, Full (putN S o f n)
  | 0 => h
  | n + 1 => by unfold putN; exact (putN_full h hf n).set (hf n)
def chunk (m : List UInt8) (k : Nat) : ByteArray := bs ((m.drop (64 * k)).take 64)
theorem chunk_size {m : List UInt8} {n k : Nat} (h : m.length = 64 * n) (hk : k < n) : (chunk m k).size = 64 := by
  unfold chunk; rw [bs_size, List.length_take, List.length_drop]; omega
def chunk' (m : List UInt8) (n k : Nat) : ByteArray := if k < n then chunk m k else Z
theorem chunk'_size {m : List UInt8} {n : Nat} (h : m.length = 64 * n) (k : Nat) : (chunk' m n k).size = 64 := by
  unfold chunk'; split
  · rename_i hk; exact chunk_size h hk
  · exact Z_size
theorem lay_h {F S : List ByteArray} {W : List E115} {n a : Nat} {slots base next area : Int} {old : Bool} {m : List UInt8} (h : Good F S W) (hm : m.length = 64 * n) (hn : n ≤ 2048) (ha : a < 2) (hl : 2 + a * n + n ≤ S.length) (hw : W.length ≤ 900000) :
    f_lay ((64 * n : Nat) : Int) slots base next area old F S W [] (-1) false (a : Int) (bs m) = some (0, -1, false, putN S (2 + a * n) (chunk' m n) n, putN S (2 + a * n) (chunk' m n) n, []) := by
  unfold f_lay
  have han : a * n ≤ 2048 := by rcases (show a = 0 ∨ a = 1 by omega) with rfl | rfl <;> omega
  have h0 : Int.tdiv ((64 * n : Nat) : Int) 64 = (n : Int) := by rw [tdiv_nn (by omega)]; omega
  have hsz := chunk'_size hm
  refine loopO_inv (fun (d : Nat) (st : Int × Int × Bool × List ByteArray × List E115) => ∃ (k : Nat) (W' : List E115), st = ((k : Int), -1, false, putN S (2 + a * n) (chunk' m n) k, W') ∧ d = n - k ∧ k ≤ n ∧ Good F (putN S (2 + a * n) (chunk' m n) k) W' ∧ W'.length = W.length + k) ?_ n _ ⟨0, W, rfl, rfl, by omega, h, rfl⟩
  rintro d st ⟨k, W', rfl, rfl, hk, hg, hwl⟩
  by_cases hc : k < n
  · left
    refine ⟨(((k + 1 : Nat) : Int), -1, false, putN S (2 + a * n) (chunk' m n) (k + 1), W' ++ [⟨((2 + a * n + k : Nat) : Int), chunk' m n k⟩]), n - (k + 1), ?_, by omega, k + 1, _, rfl, rfl, by omega, by unfold putN; exact hg.add (by rw [putN_len]; omega) (hsz k), by simp; omega⟩
    show cond (decide ((k : Int) < IntKind.wrap .i64 (Int.tdiv ((64 * n : Nat) : Int) 64))) _ _ = _
    rw [h0, wrap_i64 (x := (n : Int)) (by omega) (by omega), cpos (by omega), bs_size, wrap_i64 (x := (k : Int) * 64) (by omega) (by omega), wrap_i64 (x := (k : Int) + 1) (by omega) (by omega), wrap_i64 (x := ((k : Int) + 1) * 64) (by omega) (by omega), cand (by omega) (by omega), cand (by omega) (by omega)]
    unfold f_sector
    have e1 : IntKind.wrap .i64 ((a : Int) * (n : Int)) = ((a * n : Nat) : Int) := by
      rw [show (a : Int) * (n : Int) = ((a * n : Nat) : Int) by simp, wrap_i64 (by omega) (by omega)]
    rw [h0, wrap_i64 (x := (n : Int)) (by omega) (by omega), e1, wrap_i64 (x := 2 + ((a * n : Nat) : Int)) (by omega) (by omega), wrap_i64 (x := 2 + ((a * n : Nat) : Int) + (k : Int)) (by omega) (by omega), Let_eq, bind_some']
    have e2 : (bs m).extract ((k : Int) * 64).toNat (((k : Int) + 1) * 64).toNat = chunk' m n k := by
      unfold chunk'; rw [if_pos hc]; unfold chunk
      rw [bs_extract, show ((k : Int) * 64).toNat = 64 * k by omega, show (((k : Int) + 1) * 64).toNat - 64 * k = 64 by omega]
    rw [e2, show 2 + ((a * n : Nat) : Int) + (k : Int) = ((2 + a * n + k : Nat) : Int) by omega, Write_h (by rw [putN_len]; omega) (hsz k) (by omega), bind_some']
    show cond ((0 : Int) != 0) _ _ = _
    rw [cbeq rfl]; rfl
  · right
    have he : k = n := by omega
    subst he
    show cond (decide ((k : Int) < IntKind.wrap .i64 (Int.tdiv ((64 * k : Nat) : Int) 64))) _ (Option.bind (f_Sync _ _ _ _ _ _) _) = _
    rw [h0, wrap_i64 (x := (k : Int)) (by omega) (by omega), cneg (by omega), Sync_h hg (by omega), bind_some']
def mst (base a : Nat) : ByteArray := bs (wrapL base [77, UInt8.ofNat a])
theorem mst_size (base a : Nat) : (mst base a).size = 64 := by unfold mst; rw [bs_size, wrapL_len _ _ (by simp)]
theorem two_bytes (a : Nat) : bytesIn [(77 : Int), IntKind.wrap .u8 (a : Int)] = true ∧ strOf [(77 : Int), IntKind.wrap .u8 (a : Int)] = bs [77, UInt8.ofNat a] := by
  rw [wrap_u8_nat]
  exact ⟨bytesIn_map [77, UInt8.ofNat a], strOf_map [77, UInt8.ofNat a]⟩
theorem master_h {F S : List ByteArray} {W : List E115} {a b : Nat} {size slots base next area : Int} {old : Bool} (h : Good F S W) (hb : b < 4294967296) (ha : a < S.length) (hw : W.length ≤ 900000) :
    f_master size slots base next area old F S W [] (-1) false (a : Int) (b : Int) = some (0, -1, false, S.set a (mst b a), S.set a (mst b a), []) := by
  unfold f_master
  rw [ctrue (two_bytes a).1, (two_bytes a).2, Wrap_eq b hb, if_neg (by simp), bind_some']
  show Option.bind (f_Write F S W [] (-1) false (a : Int) (mst b a)) _ = _
  rw [Write_h ha (mst_size b a) (by omega), bind_some']
  show cond ((0 : Int) != 0) _ (Option.bind (f_Sync F (S.set a (mst b a)) (W ++ [⟨(a : Int), mst b a⟩]) [] (-1) false) _) = _
  rw [cbeq rfl, Sync_h (h.add ha (mst_size b a)) (by simp; omega), bind_some']
def mval (a : Nat) (s : List UInt8) : Nat := if (openL s).2.2 = 0 ∧ (openL s).2.1 = [77, UInt8.ofNat a] then (openL s).1 else 0
theorem mval_mst {b a : Nat} (hb : b < 4294967296) : mval a (wrapL b [77, UInt8.ofNat a]) = b := by
  unfold mval; rw [open_wrap b hb _ (by simp)]; simp
def okE (c : E59) : Bool := okF c.Kind c.Addr c.Data.data.toList
def comE (c : E59) : List UInt8 := commandL c.Kind c.Addr c.Data.data.toList
theorem okE_len {c : E59} (h : okE c = true) : (comE c).length ≤ 51 := by
  unfold comE; rw [commandL_len]
  have := (okF_addr h).2.2
  omega
theorem recorded_rec {q : Nat} (hq : q < 4294967296) {c : E59} (h : okE c = true) : recordedL (wrapL q (comE c)) = ((q : Int), c.Kind, c.Addr, c.Data.data.toList, 0) := by
  unfold recordedL
  rw [open_wrap q hq _ (okE_len h)]
  dsimp only
  unfold comE
  rw [commanded_command _ _ _ h]
  simp
structure JS (S : List ByteArray) (n slots base area : Nat) (img : List UInt8) (cs : List E59) : Prop where
  full : Full S
  len : S.length = 2 + 2 * n + slots
  n0 : 1 ≤ n
  n1 : n ≤ 2048
  s0 : 1 ≤ slots
  s1 : slots ≤ 1024
  b0 : 1 ≤ base
  b1 : base ≤ 4000000000
  ar : area < 2
  mast : S[area]? = some (mst base area)
  other : ∃ s, S[1 - area]? = some (bs s) ∧ mval (1 - area) s < base
  imgl : img.length = 64 * n
  imgat : ∀ i, i < n → S[2 + area * n + i]? = some (chunk img i)
  csl : cs.length ≤ slots
  rcs : ∀ k (h : k < cs.length), okE cs[k] = true ∧ S[2 + 2 * n + k]? = some (bs (wrapL (base + k) (comE cs[k])))
  low : ∀ k, cs.length ≤ k → k < slots → ∃ s, s.length = 64 ∧ S[2 + 2 * n + k]? = some (bs s) ∧ ((recordedL s).2.2.2.2 ≠ 0 ∨ (recordedL s).1 < (base : Int))
theorem slot_h {n : Nat} (hn : n ≤ 2048) {slots base next area : Int} {old : Bool} {F S : List ByteArray} {W : List E115} {B : List (Int × Bool)} {fu : Int} {dn : Bool} {b k : Nat} (hb : b + k < 4294967296) (hk : k ≤ 1024) (hbase : base = (b : Int)) :
    f_slot ((64 * n : Nat) : Int) slots base next area old F S W B fu dn ((b + k : Nat) : Int) = some ((2 + 2 * n + k : Nat) : Int) := by
  unfold f_slot
  subst hbase
  have h0 : Int.tdiv ((64 * n : Nat) : Int) 64 = (n : Int) := by rw [tdiv_nn (by omega)]; omega
  rw [h0, wrap_i64 (x := (n : Int)) (by omega) (by omega), wrap_i64 (x := 2 * (n : Int)) (by omega) (by omega), wrap_i64 (x := 2 + 2 * (n : Int)) (by omega) (by omega), wrap_u32 (x := ((b + k : Nat) : Int) - (b : Int)) (by omega) (by omega), wrap_i64 (x := ((b + k : Nat) : Int) - (b : Int)) (by omega) (by omega), wrap_i64 (by omega) (by omega), Let_eq]
  exact congrArg some (show 2 + 2 * (n : Int) + (((b + k : Nat) : Int) - (b : Int)) = ((2 + 2 * n + k : Nat) : Int) by omega)
theorem Left_h {slots b k : Nat} (hs : slots ≤ 1024) (hk : k ≤ slots) (hb : b + k < 4294967296) {size area : Int} {F S : List ByteArray} {W : List E115} {B : List (Int × Bool)} {fu : Int} {dn : Bool} :
    f_Left size (slots : Int) (b : Int) ((b + k : Nat) : Int) area false F S W B fu dn = some ((slots - k : Nat) : Int) := by
  unfold f_Left
  rw [cfalse rfl, wrap_u32 (x := ((b + k : Nat) : Int) - (b : Int)) (by omega) (by omega), wrap_i64 (x := ((b + k : Nat) : Int) - (b : Int)) (by omega) (by omega), wrap_i64 (by omega) (by omega), Let_eq]
  exact congrArg some (show (slots : Int) - (((b + k : Nat) : Int) - (b : Int)) = ((slots - k : Nat) : Int) by omega)
theorem E34_bs (c : E59) : (⟨c.Kind, c.Addr, bs c.Data.data.toList⟩ : E59) = c := by rw [bs_list]
theorem Record_h (c : E59) {q : Nat} (hq : q < 4294967296) : f_Record (q : Int) c.Kind c.Addr c.Data = some (if okE c = true then (bs (wrapL q (comE c)), 0) else (bs [], 1)) := by
  have := Record_eq q hq c.Kind c.Addr c.Data.data.toList
  rw [bs_list] at this
  exact this
theorem Append_h {F S : List ByteArray} {W : List E115} {n slots base area : Nat} {img : List UInt8} {cs : List E59} (hj : JS S n slots base area img cs) (hg : Good F S W) (hw : W.length ≤ 900000) (c : E59) (h : okE c = true) (hroom : cs.length < slots) :
    ∃ S' W', f_Append ((64 * n : Nat) : Int) (slots : Int) (base : Int) ((base + cs.length : Nat) : Int) (area : Int) false F S W [] (-1) false c.Kind c.Addr c.Data = some (0, ((base + cs.length + 1 : Nat) : Int), -1, false, S', W') ∧ JS S' n slots base area img (cs ++ [c]) ∧ Good F S' W' ∧ W'.length = W.length + 1 := by
  have h1 := hj.n1; have h2 := hj.s1; have h3 := hj.b1; have h4 := hj.len; have h5 := hj.ar; have h6 := hj.n0
  have hA : area * n ≤ n := by rcases (show area = 0 ∨ area = 1 by omega) with e | e <;> rw [e] <;> omega
  have hsz : (bs (wrapL (base + cs.length) (comE c))).size = 64 := by rw [bs_size, wrapL_len _ _ (okE_len h)]
  refine ⟨S.set (2 + 2 * n + cs.length) (bs (wrapL (base + cs.length) (comE c))), W ++ [⟨((2 + 2 * n + cs.length : Nat) : Int), bs (wrapL (base + cs.length) (comE c))⟩], ?_, ?_, hg.add (by omega) hsz, by simp⟩
  · unfold f_Append
    rw [Record_h c (by omega), if_pos h, bind_some']
    show cond ((0 : Int) != 0) _ (Option.bind (f_Left _ _ _ _ _ _ _ _ _ _ _ _) _) = _
    rw [cbeq rfl, Left_h h2 (by omega) (by omega), bind_some', cne (by omega)]
    rw [slot_h h1 (by omega) (by omega) rfl, bind_some', Write_h (by omega) hsz (by omega), bind_some']
    show cond ((0 : Int) != 0) _ _ = _
    rw [cbeq rfl, wrap_u32 (by omega) (by omega)]; rfl
  · have ne : ∀ i, i < 2 + 2 * n + cs.length → (S.set (2 + 2 * n + cs.length) (bs (wrapL (base + cs.length) (comE c))))[i]? = S[i]? := fun i hi => List.getElem?_set_ne (by omega)
    refine ⟨hj.full.set hsz, by rw [List.length_set]; exact h4, hj.n0, hj.n1, hj.s0, hj.s1, hj.b0, hj.b1, hj.ar, (ne _ (by omega)).trans hj.mast, ?_, hj.imgl, fun i hi => (ne _ (by omega)).trans (hj.imgat i hi), by simp; omega, fun k hk => ?_, fun k hk1 hk2 => ?_⟩
    · obtain ⟨s, e1, e2⟩ := hj.other
      exact ⟨s, (ne _ (by omega)).trans e1, e2⟩
    · rw [List.length_append, List.length_singleton] at hk
      by_cases hk' : k < cs.length
      · rw [List.getElem_append_left hk', ne _ (by omega)]
        exact hj.rcs k hk'
      · have : k = cs.length := by omega
        subst this
        rw [List.getElem_append_right (Nat.le_refl _)]
        simp only [Nat.sub_self, List.getElem_cons_zero]
        exact ⟨h, List.getElem?_set_self (by omega)⟩
    · rw [List.length_append, List.length_singleton] at hk1
      rw [List.getElem?_set_ne (by omega)]
      exact hj.low k (by omega) hk2
end Go.Proofs.YtcgigdfahlmfaaaGreatDoor
