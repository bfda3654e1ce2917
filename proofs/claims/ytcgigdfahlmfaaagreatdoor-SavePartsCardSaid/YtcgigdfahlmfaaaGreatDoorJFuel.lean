/-
  A journal on a disk that gives out.
-/
import Derived.Test.YtcgigdfahlmfaaaGreatDoorJSafe
namespace Go.Proofs.YtcgigdfahlmfaaaGreatDoor
open Go.Vc
set_option linter.unusedVariables false
set_option linter.unusedSimpArgs false
def FU (fu : Int) : Prop := -1 ≤ fu ∧ fu ≤ 9223372036854775807
theorem dec_ok {fu : Int} (h : FU fu) (h0 : fu ≠ 0) : FU (dec fu) := by unfold dec FU at *; split <;> omega
theorem Write_f {F S : List ByteArray} {W : List E115} {fu : Int} (hf : FU fu) {i : Nat} (hi : i < S.length) {s : ByteArray} (hs : s.size = 64) (hl : W.length ≤ 1000000) :
    f_Write F S W [] fu false (i : Int) s = some (10, fu, true, S, W) ∨ ∃ fu', FU fu' ∧ f_Write F S W [] fu false (i : Int) s = some (0, fu', false, S.set i s, W ++ [⟨(i : Int), s⟩]) := by
  rw [Write_eq F S W [] fu false hf (by omega)]
  unfold writeF
  rw [if_neg (by decide), if_neg (by omega), if_neg (by show ¬ (getB [] _ = true); exact Bool.false_ne_true)]
  by_cases h0 : fu = 0
  · left; rw [if_pos h0]
  · right; exact ⟨dec fu, dec_ok hf h0, by rw [if_neg h0]; rfl⟩
theorem Sync_f {F S : List ByteArray} {W : List E115} {fu : Int} (hf : FU fu) (h : Good F S W) (hl : W.length ≤ 2000000) :
    f_Sync F S W [] fu false = some (10, fu, true, F, W) ∨ ∃ fu', FU fu' ∧ f_Sync F S W [] fu false = some (0, fu', false, S, []) := by
  rw [Sync_eq F S W [] fu false hf (by omega) (fun w hw => ⟨(h.soft w hw).1, (h.soft w hw).2.1⟩)]
  unfold syncF
  rw [if_neg (by decide)]
  by_cases h0 : fu = 0
  · left; rw [if_pos h0]
  · right; exact ⟨dec fu, dec_ok hf h0, by rw [if_neg h0, ← h.seen]⟩
def ArW (n a : Nat) (w : E115) : Prop := ∃ i x, i < n ∧ x.size = 64 ∧ w = ⟨((2 + a * n + i : Nat) : Int), x⟩
theorem lay_f {F S : List ByteArray} {W : List E115} {n a : Nat} {slots base next area : Int} {old : Bool} {m : List UInt8} {fu : Int} (hf : FU fu) (h : Good F S W) (hm : m.length = 64 * n) (hn : n ≤ 2048) (ha : a < 2) (hl : 2 + a * n + n ≤ S.length) (hw : W.length ≤ 900000) :
    ∃ r, f_lay ((64 * n : Nat) : Int) slots base next area old F S W [] fu false (a : Int) (bs m) = some r ∧
      ((∃ fu', FU fu' ∧ r = (0, fu', false, putN S (2 + a * n) (chunk' m n) n, putN S (2 + a * n) (chunk' m n) n, [])) ∨
       (∃ fu' S' X, r = (10, fu', true, F, S', W ++ X) ∧ X.length ≤ n ∧ ∀ w ∈ X, ArW n a w)) := by
  unfold f_lay
  have han : a * n ≤ 2048 := by rcases (show a = 0 ∨ a = 1 by omega) with rfl | rfl <;> omega
  have h0 : Int.tdiv ((64 * n : Nat) : Int) 64 = (n : Int) := by rw [tdiv_nn (by omega)]; omega
  have hsz := chunk'_size hm
  refine loopO_ex _ (fun (d : Nat) (st : Int × Int × Bool × List ByteArray × List E115) => ∃ (k : Nat) (fu : Int) (X : List E115), st = ((k : Int), fu, false, putN S (2 + a * n) (chunk' m n) k, W ++ X) ∧ FU fu ∧ d = n - k ∧ k ≤ n ∧ Good F (putN S (2 + a * n) (chunk' m n) k) (W ++ X) ∧ X.length = k ∧ ∀ w ∈ X, ArW n a w) ?_ n _ ⟨0, fu, [], by rw [List.append_nil]; rfl, hf, rfl, by omega, by rw [List.append_nil]; exact h, rfl, fun w hw => by cases hw⟩
  rintro d st ⟨k, fu, X, rfl, hf, rfl, hk, hg, hxl, hx⟩
  by_cases hc : k < n
  · have e1 : IntKind.wrap .i64 ((a : Int) * (n : Int)) = ((a * n : Nat) : Int) := by
      rw [show (a : Int) * (n : Int) = ((a * n : Nat) : Int) by simp, wrap_i64 (by omega) (by omega)]
    have e2 : (bs m).extract ((k : Int) * 64).toNat (((k : Int) + 1) * 64).toNat = chunk' m n k := by
      unfold chunk'; rw [if_pos hc]; unfold chunk
      rw [bs_extract, show ((k : Int) * 64).toNat = 64 * k by omega, show (((k : Int) + 1) * 64).toNat - 64 * k = 64 by omega]
    have head : ∀ (Y : Option ((Int × Int × Bool × List ByteArray × List E115) ⊕ O_lay)) (Y2 : Option ((Int × Int × Bool × List ByteArray × List E115) ⊕ O_lay)) (K : O_Write → Option ((Int × Int × Bool × List ByteArray × List E115) ⊕ O_lay)),
        (cond (decide ((k : Int) < (IntKind.wrap .i64 (Int.tdiv ((64 * n : Nat) : Int) 64)))) (cond ((decide (0 ≤ (IntKind.wrap .i64 ((IntKind.wrap .i64 ((k : Int) + 1)) * 64))) && decide ((IntKind.wrap .i64 ((IntKind.wrap .i64 ((k : Int) + 1)) * 64)) ≤ ((bs m).size : Int)))) (cond ((decide (0 ≤ (IntKind.wrap .i64 ((k : Int) * 64))) && decide ((IntKind.wrap .i64 ((k : Int) * 64)) ≤ (IntKind.wrap .i64 ((IntKind.wrap .i64 ((k : Int) + 1)) * 64))))) ((f_sector ((64 * n : Nat) : Int) slots base next area old F (putN S (2 + a * n) (chunk' m n) k) (W ++ X) [] fu false (a : Int) (k : Int)).bind fun (x24 : O_sector) => ((f_Write F (putN S (2 + a * n) (chunk' m n) k) (W ++ X) [] fu false x24 ((bs m).extract ((IntKind.wrap .i64 ((k : Int) * 64)).toNat) ((IntKind.wrap .i64 ((IntKind.wrap .i64 ((k : Int) + 1)) * 64)).toNat))).bind K)) none) none) Y) = (f_Write F (putN S (2 + a * n) (chunk' m n) k) (W ++ X) [] fu false ((2 + a * n + k : Nat) : Int) (chunk' m n k)).bind K := by
      intro Y Y2 K
      rw [h0, wrap_i64 (x := (n : Int)) (by omega) (by omega), cpos (by omega), bs_size, wrap_i64 (x := (k : Int) * 64) (by omega) (by omega), wrap_i64 (x := (k : Int) + 1) (by omega) (by omega), wrap_i64 (x := ((k : Int) + 1) * 64) (by omega) (by omega), cand (by omega) (by omega), cand (by omega) (by omega)]
      unfold f_sector
      rw [h0, wrap_i64 (x := (n : Int)) (by omega) (by omega), e1, wrap_i64 (x := 2 + ((a * n : Nat) : Int)) (by omega) (by omega), wrap_i64 (x := 2 + ((a * n : Nat) : Int) + (k : Int)) (by omega) (by omega), Let_eq, bind_some', e2, show 2 + ((a * n : Nat) : Int) + (k : Int) = ((2 + a * n + k : Nat) : Int) by omega]
    rcases Write_f (F := F) (S := putN S (2 + a * n) (chunk' m n) k) (W := W ++ X) hf (i := 2 + a * n + k) (by rw [putN_len]; omega) (hsz k) (by rw [List.length_append]; omega) with e | ⟨fu', hf', e⟩
    · right
      refine ⟨_, ?_, .inr ⟨fu, putN S (2 + a * n) (chunk' m n) k, X, rfl, by omega, hx⟩⟩
      exact (head _ none _).trans (by rw [e, bind_some']; rfl)
    · left
      refine ⟨(((k + 1 : Nat) : Int), fu', false, putN S (2 + a * n) (chunk' m n) (k + 1), W ++ (X ++ [⟨((2 + a * n + k : Nat) : Int), chunk' m n k⟩])), n - (k + 1), ?_, by omega, k + 1, fu', _, rfl, hf', rfl, by omega, ?_, by simp; omega, fun w hw => ?_⟩
      · refine (head _ none _).trans ?_
        rw [e, bind_some']
        show cond ((0 : Int) != 0) _ _ = _
        rw [cbeq rfl, wrap_i64 (x := (k : Int) + 1) (by omega) (by omega), List.append_assoc]; rfl
      · rw [← List.append_assoc]; exact hg.add (by rw [putN_len]; omega) (hsz k)
      · rcases List.mem_append.1 hw with hw | hw
        · exact hx w hw
        · rw [List.mem_singleton.1 hw]
          exact ⟨k, _, hc, hsz k, rfl⟩
  · right
    have he : k = n := by omega
    subst he
    rcases Sync_f (F := F) hf hg (by rw [List.length_append]; omega) with e | ⟨fu', hf', e⟩
    · refine ⟨_, ?_, .inr ⟨fu, putN S (2 + a * k) (chunk' m k) k, X, rfl, by omega, hx⟩⟩
      show cond (decide ((k : Int) < IntKind.wrap .i64 (Int.tdiv ((64 * k : Nat) : Int) 64))) _ (Option.bind (f_Sync _ _ _ _ _ _) _) = _
      rw [h0, wrap_i64 (x := (k : Int)) (by omega) (by omega), cneg (by omega), e, bind_some']
    · refine ⟨_, ?_, .inl ⟨fu', hf', rfl⟩⟩
      show cond (decide ((k : Int) < IntKind.wrap .i64 (Int.tdiv ((64 * k : Nat) : Int) 64))) _ (Option.bind (f_Sync _ _ _ _ _ _) _) = _
      rw [h0, wrap_i64 (x := (k : Int)) (by omega) (by omega), cneg (by omega), e, bind_some']
theorem master_f {F S : List ByteArray} {W : List E115} {a b : Nat} {size slots base next area : Int} {old : Bool} {fu : Int} (hf : FU fu) (h : Good F S W) (hb : b < 4294967296) (ha : a < S.length) (hw : W.length ≤ 900000) :
    ∃ r, f_master size slots base next area old F S W [] fu false (a : Int) (b : Int) = some r ∧
      ((∃ fu', FU fu' ∧ r = (0, fu', false, S.set a (mst b a), S.set a (mst b a), [])) ∨
       (∃ fu' S' X, r = (10, fu', true, F, S', W ++ X) ∧ ∀ w ∈ X, w = ⟨(a : Int), mst b a⟩)) := by
  unfold f_master
  rw [ctrue (two_bytes a).1, (two_bytes a).2, Wrap_eq b hb, if_neg (by simp), bind_some']
  rcases Write_f (F := F) (S := S) (W := W) hf ha (mst_size b a) (by omega) with e | ⟨fu', hf', e⟩
  · refine ⟨_, ?_, .inr ⟨fu, S, [], rfl, fun w hw => by cases hw⟩⟩
    show Option.bind (f_Write F S W [] fu false (a : Int) (mst b a)) _ = _
    rw [e, bind_some', List.append_nil]; rfl
  · rcases Sync_f (F := F) hf' (h.add ha (mst_size b a)) (by simp; omega) with e2 | ⟨fu2, hf2, e2⟩
    · refine ⟨_, ?_, .inr ⟨fu', S.set a (mst b a), [⟨(a : Int), mst b a⟩], rfl, fun w hw => List.mem_singleton.1 hw⟩⟩
      show Option.bind (f_Write F S W [] fu false (a : Int) (mst b a)) _ = _
      rw [e, bind_some']
      show cond ((0 : Int) != 0) _ (Option.bind (f_Sync F (S.set a (mst b a)) (W ++ [⟨(a : Int), mst b a⟩]) [] fu' false) _) = _
      rw [cbeq rfl, e2, bind_some']
    · refine ⟨_, ?_, .inl ⟨fu2, hf2, rfl⟩⟩
      show Option.bind (f_Write F S W [] fu false (a : Int) (mst b a)) _ = _
      rw [e, bind_some']
      show cond ((0 : Int) != 0) _ (Option.bind (f_Sync F (S.set a (mst b a)) (W ++ [⟨(a : Int), mst b a⟩]) [] fu' false) _) = _
      rw [cbeq rfl, e2, bind_some']
theorem Check_f {F S : List ByteArray} {W : List E115} {n slots area nx : Nat} {base : Int} {old : Bool} {m : List UInt8} {fu : Int} (hf : FU fu) (hfull : Full S) (hl : S.length = 2 + 2 * n + slots) (hn0 : 1 ≤ n) (hn1 : n ≤ 2048) (hs1 : slots ≤ 1024) (ha : area < 2) (hg : Good F S W) (hw : W.length ≤ 900000) (hm : m.length = 64 * n) (hx : nx ≤ 3999990000) :
    ∃ r, f_Check ((64 * n : Nat) : Int) (slots : Int) base (nx : Int) (area : Int) old F S W [] fu false (bs m) = some r ∧
      ((∃ fu', FU fu' ∧ r = (0, ((nx + slots : Nat) : Int), ((nx + slots : Nat) : Int), ((1 - area : Nat) : Int), false, fu', false, chk2 S n (nx + slots) area m, chk2 S n (nx + slots) area m, [])) ∨
       (∃ fu' S' X, r = (10, base, (nx : Int), (area : Int), old, fu', true, F, S', W ++ X) ∧ X.length ≤ n ∧ ∀ w ∈ X, ArW n (1 - area) w) ∨
       (∃ fu' S' X, r = (10, base, (nx : Int), (area : Int), old, fu', true, putN S (2 + (1 - area) * n) (chunk' m n) n, S', X) ∧ ∀ w ∈ X, w = ⟨((1 - area : Nat) : Int), mst (nx + slots) (1 - area)⟩)) := by
  have hA : (1 - area) * n ≤ n := by rcases (show area = 0 ∨ area = 1 by omega) with e | e <;> rw [e] <;> simp
  unfold f_Check
  rw [bs_size, cbeq (by omega), cneg (by omega), wrap_u32 (x := (slots : Int)) (by omega) (by omega), wrap_u32 (x := (nx : Int) + (slots : Int)) (by omega) (by omega), Let_eq, wrap_i64 (x := 1 - (area : Int)) (by omega) (by omega), show 1 - (area : Int) = ((1 - area : Nat) : Int) by omega, show (nx : Int) + (slots : Int) = ((nx + slots : Nat) : Int) by omega]
  obtain ⟨r1, e1, h1⟩ := lay_f (F := F) (slots := (slots : Int)) (base := base) (next := (nx : Int)) (area := (area : Int)) (old := old) (a := 1 - area) hf hg hm hn1 (by omega) (by omega) hw
  rw [e1, bind_some']
  rcases h1 with ⟨fu', hf', rfl⟩ | ⟨fu', S', X, rfl, hxl, hX⟩
  · have hg2 : Good (putN S (2 + (1 - area) * n) (chunk' m n) n) (putN S (2 + (1 - area) * n) (chunk' m n) n) [] := Good.self (putN_full hfull (chunk'_size hm) n)
    obtain ⟨r2, e2, h2⟩ := master_f (size := ((64 * n : Nat) : Int)) (slots := (slots : Int)) (base := base) (next := (nx : Int)) (area := (area : Int)) (old := old) (a := 1 - area) (b := nx + slots) hf' hg2 (by omega) (by rw [putN_len]; omega) (by simp)
    dsimp only
    rw [cbeq rfl, e2, bind_some']
    rcases h2 with ⟨fu2, hf2, rfl⟩ | ⟨fu2, S2, X, rfl, hX⟩
    · exact ⟨_, rfl, .inl ⟨fu2, hf2, rfl⟩⟩
    · exact ⟨_, rfl, .inr (.inr ⟨fu2, S2, X, rfl, hX⟩)⟩
  · exact ⟨_, rfl, .inr (.inl ⟨fu', S', X, rfl, hxl, hX⟩)⟩
theorem Append_f {F S : List ByteArray} {W : List E115} {n slots base k : Nat} {area : Int} {fu : Int} (hf : FU fu) (hl : S.length = 2 + 2 * n + slots) (hn1 : n ≤ 2048) (hs1 : slots ≤ 1024) (hb1 : base ≤ 4000000000) (hw : W.length ≤ 900000) (c : E59) (h : okE c = true) (hk : k < slots) :
    f_Append ((64 * n : Nat) : Int) (slots : Int) (base : Int) ((base + k : Nat) : Int) area false F S W [] fu false c.Kind c.Addr c.Data = some (10, ((base + k : Nat) : Int), fu, true, S, W) ∨
    ∃ fu', FU fu' ∧ f_Append ((64 * n : Nat) : Int) (slots : Int) (base : Int) ((base + k : Nat) : Int) area false F S W [] fu false c.Kind c.Addr c.Data = some (0, ((base + (k + 1) : Nat) : Int), fu', false, S.set (2 + 2 * n + k) (bs (wrapL (base + k) (comE c))), W ++ [⟨((2 + 2 * n + k : Nat) : Int), bs (wrapL (base + k) (comE c))⟩]) := by
  have hsz : (bs (wrapL (base + k) (comE c))).size = 64 := by rw [bs_size, wrapL_len _ _ (okE_len h)]
  unfold f_Append
  rw [Record_h c (by omega), if_pos h, bind_some']
  rcases Write_f (F := F) (S := S) (W := W) hf (i := 2 + 2 * n + k) (by omega) hsz (by omega) with e | ⟨fu', hf', e⟩
  · left
    show cond ((0 : Int) != 0) _ (Option.bind (f_Left _ _ _ _ _ _ _ _ _ _ _ _) _) = _
    rw [cbeq rfl, Left_h hs1 (by omega) (by omega), bind_some', cne (by omega), slot_h hn1 (by omega) (by omega) rfl, bind_some', e, bind_some']
    rfl
  · right
    refine ⟨fu', hf', ?_⟩
    show cond ((0 : Int) != 0) _ (Option.bind (f_Left _ _ _ _ _ _ _ _ _ _ _ _) _) = _
    rw [cbeq rfl, Left_h hs1 (by omega) (by omega), bind_some', cne (by omega), slot_h hn1 (by omega) (by omega) rfl, bind_some', e, bind_some']
    show cond ((0 : Int) != 0) _ _ = _
    rw [cbeq rfl, wrap_u32 (by omega) (by omega)]; rfl
theorem JSync_f {F S : List ByteArray} {W : List E115} {fu : Int} (hf : FU fu) (h : Good F S W) (hl : W.length ≤ 2000000) {a b c d e : Int} {o : Bool} :
    f_JSync a b c d e o F S W [] fu false = some (10, fu, true, F, W) ∨ ∃ fu', FU fu' ∧ f_JSync a b c d e o F S W [] fu false = some (0, fu', false, S, []) := by
  unfold f_JSync
  rcases Sync_f hf h hl with e | ⟨fu', hf', e⟩
  · left; rw [e, bind_some']
  · right; exact ⟨fu', hf', by rw [e, bind_some']⟩
end Go.Proofs.YtcgigdfahlmfaaaGreatDoor
