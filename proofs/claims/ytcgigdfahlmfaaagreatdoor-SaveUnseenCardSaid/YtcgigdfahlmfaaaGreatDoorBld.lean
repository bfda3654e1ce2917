/-
  strings.Builder, as owned memory: what was written so far.
-/
import Derived.Test.YtcgigdfahlmfaaaGreatDoorBld0
import Derived.Shelf.RegionOpenPlain
import Derived.Lib.Builder
import Derived.Lib.AppendStr
import Derived.Lib.UnsafeStr
import Derived.WalkKit
import Derived.Laws.Externs
import Derived.Lib.Walk
import Derived.Lib.Strings
import Derived.Lib.Slices
namespace Go.Proofs.YtcgigdfahlmfaaaGreatDoor
open Go.RowKit Go.Vc
set_option linter.unusedVariables false
set_option linter.unusedSimpArgs false
set_option maxHeartbeats 1000000 in
set_option maxRecDepth 100000 in
theorem copyCheck_used (b : Nat) (w : World) (h0 : w.cell? ⟨b, 0, none⟩ = some (.pointer (some ⟨b, 0, none⟩))) :
    Calls Tryz.prog 119 #[.pointer (some ⟨b, 0, none⟩)] w fun e w' => e = .returned (.tuple #[]) ∧ w' = w := by
  obtain ⟨j, hj, hjs⟩ : ∃ j, Tryz.prog.info? 148 = some j ∧ j.size = 2 := ⟨_, rfl, rfl⟩
  go_enter Tryz.func119, Tryz.ntmps119
  go_wp2
  rw [Lib.run_neq_ptr_same w _ Tryz.underlying146 hj]
  go_wp2
  go_end0
  exact ⟨rfl, rfl⟩
set_option maxHeartbeats 1000000 in
set_option maxRecDepth 100000 in
theorem copyCheck_fresh (b : Nat) (w : World) (h0 : w.cell? ⟨b, 0, none⟩ = some (.pointer none)) (hsh : w.shape? b = some (148, 2)) (hfz : w.frozen? ⟨b, 0, none⟩ = false) :
    Calls Tryz.prog 119 #[.pointer (some ⟨b, 0, none⟩)] w fun e w' => e = .returned (.tuple #[]) ∧ w' = w.setCell ⟨b, 0, none⟩ (.pointer (some ⟨b, 0, none⟩)) := by
  obtain ⟨j, hj, hjs⟩ : ∃ j, Tryz.prog.info? 148 = some j ∧ j.size = 2 := ⟨_, rfl, rfl⟩
  go_enter Tryz.func119, Tryz.ntmps119
  go_wp2
  rw [Lib.run_to_unsafe w ⟨b, 0, none⟩ Tryz.underlying146 Tryz.underlying199 hj (by rw [hjs]; decide) hsh (Nat.zero_lt_succ 1)]
  simp only [Result.andThen]
  rw [Oper.upon_value]
  go_wp2
  rw [run_callFunc_extern Tryz.func138 (by kernel_rfl) (by kernel_rfl) (by kernel_rfl) (e := Extern.AbiNoEscape.same) (by kernel_rfl)]
  rw [Lib.run_noEscape]
  simp only [Result.andThen]
  rw [Oper.upon_value]
  go_wp2
  rw [Lib.run_from_unsafe w ⟨b, 0, none⟩ Tryz.underlying199 Tryz.underlying146 hj hsh (by kernel_rfl)]
  simp only [Result.andThen]
  rw [Oper.upon_value]
  go_wp2
  go_end0
  exact ⟨rfl, rfl⟩
theorem own_string {P : Program} (w : World) (t u ty e : TypeId) (i : TypeInfo) (ht : P.underlying t = some (.slice e)) (hu : P.underlying u = some .string) (hi : P.info? e = some i) (hz : i.zero = some (.int .u8 0))
    (hsize : i.size = 1) (hby : i.bytes = 1) (v : Value) (n : Nat) (xs : List Value) (hown : w.ownsRow 0 e 1 v n xs) (s : ByteArray) (h63 : n + s.size ≤ maxLen) (hbytes : n + s.size ≤ 140737488355328) :
    ∃ v' w', (Builtin.append_ #[t, u] ty #[v, .string s]).run P w = .ok v' w' ∧ w'.ownsRow 0 e 1 v' (n + s.size) (xs ++ Lib.strCells s) ∧ w.grownBy w' v.ownBlock ∧ ∀ k, v'.ownBlock = some k → v.ownBlock = some k ∨ w.heap.size ≤ k := by
  obtain ⟨v', w', h1, h2, h3, _⟩ := Lib.run_append_own_string (P := P) w 0 t u ty e i ht hu hi hz hsize hby v n xs hown s h63 hbytes (Nat.zero_le _)
  refine ⟨v', w', h1, h2, h3, ?_⟩
  rcases hown.2 with ⟨rfl, rfl⟩ | ⟨g, cap, cur, rfl, _, hg, hnc, hcm, hcs, htake⟩
  · obtain ⟨v2, w2, g1, g2, _, _⟩ := Lib.run_append_own_string (P := P) w w.heap.size t u ty e i ht hu hi hz hsize hby (.slice none 0 0) 0 xs ⟨by simpa using hown.1, .inl ⟨rfl, rfl⟩⟩ s h63 hbytes (Nat.le_refl _)
    rw [h1] at g1
    injection g1 with g1 g1'
    subst g1 g1'
    intro k hk
    right
    rcases g2.2 with ⟨rfl, _⟩ | ⟨g, cap, cur, rfl, hb, _⟩
    · cases hk
    · have : g = k := by simpa [Value.ownBlock] using hk
      omega
  · have hcs' : cur.size = cap := by simpa using hcs
    by_cases hroom : n + s.size ≤ cap
    · have hr := Lib.run_append_room_string (P := P) w t u ty e i ht hu hi hsize g n cap cur hg s hroom (by omega)
      rw [h1] at hr
      injection hr with hr hr'
      subst hr
      intro k hk
      exact .inl hk
    · have holds : ∀ j u, xs[j]? = some u → w.cell? ((⟨g, 0, none⟩ : Addr).add j) = some u := hown.cells (g := g) rfl
      have hxl : xs.length = n := by simpa using hown.1
      have hr := Lib.run_append_grow_string (P := P) w t u ty e i (.int .u8 0) ht hu hi hz ⟨g, 0, none⟩ n cap xs (by rw [hsize]; simpa using hxl) holds s (by omega) (by unfold maxLen at h63; omega) (by rw [hby]; exact growslice_fits (by omega) (by omega))
      rw [h1] at hr
      injection hr with hr hr'
      subst hr
      intro k hk
      right
      have : w.heap.size = k := by simpa [Value.ownBlock] using hk
      omega
def bld (b : Nat) (g : Option Nat) (s : ByteArray) : Asn where
  holds w := ∃ p v, (p = Value.pointer none ∨ p = .pointer (some ⟨b, 0, none⟩)) ∧ w.heap[b]? = some (.cells #[p, v] 148 (0, 0)) ∧ w.ownsRow 0 5 1 v s.size (Lib.strCells s) ∧ v.ownBlock = g ∧ g ≠ some b
  foot k := k = b ∨ g = some k
  keep := by
    rintro w w' hk ⟨p, v, hp, hb, ho, hg, hn⟩
    refine ⟨p, v, hp, (hk b (.inl rfl)).trans hb, ⟨ho.1, ?_⟩, hg, hn⟩
    rcases ho.2 with h | ⟨q, cap, cur, rfl, h1, h2, h3⟩
    · exact .inl h
    · exact .inr ⟨q, cap, cur, rfl, h1, (hk q (.inr hg.symm)).trans h2, h3⟩
  lt := by
    rintro w ⟨p, v, hp, hb, ho, hg, hn⟩ k hk
    have go : ∀ (o : Obj), w.heap[k]? = some o → k < w.heap.size := fun o h => by
      rcases Nat.lt_or_ge k w.heap.size with h' | h'
      · exact h'
      · simp [Array.getElem?_eq_none h'] at h
    rcases hk with rfl | hk
    · exact go _ hb
    · rcases ho.2 with ⟨rfl, _⟩ | ⟨q, cap, cur, rfl, h1, h2, h3⟩
      · rw [← hg] at hk; cases hk
      · rw [← hg] at hk
        have : q = k := by simpa [Value.ownBlock] using hk
        subst this
        exact go _ h2
theorem Now.toBld {B : Nat → Prop} {w0 w : World} {b : Nat} {L : List Asn} (h : Now B w0 w (box b [.pointer none, .slice none 0 0] 148 :: L)) : Now B w0 w (bld b none ByteArray.empty :: L) :=
  h.upd ⟨_, _, .inl rfl, h.hp.1, ⟨rfl, .inl ⟨rfl, rfl⟩⟩, rfl, by simp⟩ (Chg.refl _ _) fun k hk => .inl (hk.elim id fun h => by cases h)
set_option maxRecDepth 100000 in
theorem Now.bldWrite {B : Nat → Prop} {w0 w : World} {b : Nat} {g : Option Nat} {s x : ByteArray} {L : List Asn} {K : Int → Value → World → Prop} (h : Now B w0 w (bld b g s :: L)) (hl : decide (s.size + x.size ≤ 140737488355328) = true)
    (k : ∀ g' w', Now B w0 w' (bld b g' (s ++ x) :: L) → K (x.size : Int) .nilIface w') :
    Calls Tryz.prog 86 #[.pointer (some ⟨b, 0, none⟩), .string x] w fun e w' => ∃ i v, e = .returned (.tuple #[.int .i64 i, v]) ∧ K i v w' := by
  have hl := of_decide_eq_true hl
  apply c_WriteString
  unfold p_WriteString
  obtain ⟨p, v, hp, hb, ho, hg, hn⟩ := h.hp.1
  have step : Calls Tryz.prog 119 #[.pointer (some ⟨b, 0, none⟩)] w fun e w1 => e = .returned (.tuple #[]) ∧ w1.heap[b]? = some (.cells #[.pointer (some ⟨b, 0, none⟩), v] 148 (0, 0)) ∧ Chg (· = b) w w1 := by
    rcases hp with rfl | rfl
    · refine (copyCheck_fresh b w (by simp [World.cell?, hb]) (by simp [World.shape?, hb]) (Lib.frozen_of_heap hb 0)).mono ?_
      rintro e w1 ⟨rfl, rfl⟩
      exact ⟨rfl, (show Blk w b [.pointer none, v] _ from hb).set 0 _, Chg.setCell w b 0 _⟩
    · refine (copyCheck_used b w (by simp [World.cell?, hb])).mono ?_
      rintro e w1 ⟨rfl, rfl⟩
      exact ⟨rfl, hb, Chg.refl _ _⟩
  refine step.mono ?_
  rintro e w1 ⟨rfl, hb1, hc1⟩
  refine ⟨rfl, ?_⟩
  obtain ⟨p', n', c', rfl⟩ : ∃ p' n' c', v = .slice p' n' c' := by
    rcases ho.2 with ⟨hv, _⟩ | ⟨q, cap, cur, hv, _⟩
    · exact ⟨_, _, _, hv⟩
    · exact ⟨_, _, _, hv⟩
  refine ⟨p', n', c', by simp [World.cell?, hb1], ?_⟩
  have ho1 : w1.ownsRow 0 5 1 (.slice p' n' c') s.size (Lib.strCells s) := by
    refine ⟨ho.1, ?_⟩
    rcases ho.2 with h | ⟨q, cap, cur, hv, h1, h2, h3⟩
    · exact .inl h
    · have hq : q ≠ b := by
        rintro rfl
        exact hn (by rw [← hg, hv]; rfl)
      have hlt : q < w.heap.size := by
        rcases Nat.lt_or_ge q w.heap.size with h' | h'
        · exact h'
        · simp [Array.getElem?_eq_none h'] at h2
      exact .inr ⟨q, cap, cur, hv, h1, (hc1.block q hlt hq).trans h2, h3⟩
  obtain ⟨i0, hi, hz0, hz1, hz2⟩ : ∃ i, Tryz.prog.info? 5 = some i ∧ i.zero = some (.int .u8 0) ∧ i.size = 1 ∧ i.bytes = 1 := ⟨_, rfl, rfl, rfl, rfl⟩
  obtain ⟨v', w2, r1, r2, r3, r4⟩ := own_string (P := Tryz.prog) w1 88 9 88 5 i0 Tryz.underlying88 Tryz.underlying9 hi hz0 hz1 hz2 _ _ _ ho1 x (by unfold maxLen; omega) hl
  obtain ⟨p2, n2, c2, rfl⟩ : ∃ p2 n2 c2, v' = .slice p2 n2 c2 := by
    rcases r2.2 with ⟨hv, _⟩ | ⟨q, cap, cur, hv, _⟩
    · exact ⟨_, _, _, hv⟩
    · exact ⟨_, _, _, hv⟩
  refine ⟨p2, n2, c2, w2, r1, ?_⟩
  have hbl : b < w1.heap.size := (show Blk w1 b [_, _] _ from hb1).lt
  have hb2 : Blk w2 b [.pointer (some ⟨b, 0, none⟩), .slice p' n' c'] 148 := by
    show w2.heap[b]? = _
    rw [r3.block b hbl (fun e => hn (by rw [← hg]; exact e.symm))]; exact hb1
  refine St_blk hb2 (by rfl) fun w3 hb3 hc3 _ => ?_
  refine ⟨_, _, rfl, ?_⟩
  have hsz : (s ++ x).size = s.size + x.size := by simp [ByteArray.size_append]
  have hcells : Lib.strCells (s ++ x) = Lib.strCells s ++ Lib.strCells x := by simp [Lib.strCells, ByteArray.toList_data_append]
  have hchg : Chg (bld b g s).foot w w3 := by
    have c1 : Chg (bld b g s).foot w w1 := hc1.mono fun k _ hk => .inl hk
    have c2 : Chg (bld b g s).foot w1 w2 := ⟨r3.os, r3.tape, r3.output, r3.size, fun k hk hnk => r3.block k hk fun e => hnk (.inr (by rw [← hg]; exact e.symm))⟩
    have c3 : Chg (bld b g s).foot w2 w3 := hc3.mono fun k _ hk => .inl hk
    exact (c1.trans c2).trans c3
  have hnb : (Value.slice p2 n2 c2).ownBlock ≠ some b := by
    intro e
    rcases r4 b e with e | e
    · exact hn (by rw [← hg]; exact e)
    · omega
  refine k (Value.slice p2 n2 c2).ownBlock w3 (h.upd ⟨_, _, .inr rfl, hb3, ?_, rfl, hnb⟩ hchg ?_)
  · rw [hsz, hcells]
    refine ⟨r2.1, ?_⟩
    rcases r2.2 with h | ⟨q, cap, cur, hv, h1, h2, h3⟩
    · exact .inl h
    · have hq : q ≠ b := by
        rintro rfl
        exact hnb (by rw [hv]; rfl)
      have hlt : q < w2.heap.size := by
        rcases Nat.lt_or_ge q w2.heap.size with h' | h'
        · exact h'
        · simp [Array.getElem?_eq_none h'] at h2
      exact .inr ⟨q, cap, cur, hv, h1, (hc3.block q hlt hq).trans h2, h3⟩
  · rintro k (rfl | hk)
    · exact .inl (.inl rfl)
    · rcases r4 k hk with e | e
      · exact .inl (.inr (by rw [← hg]; exact e))
      · exact .inr (Nat.le_trans hc1.size e)
theorem Chg.freeze (w : World) (g n : Nat) : Chg (· = g) w (w.drew.freeze ⟨g, 0, none⟩ n) := by
  unfold World.freeze
  split
  · exact Chg.drewN _ w 1
  · exact ⟨rfl, rfl, rfl, by show w.heap.size ≤ (Array.modify w.heap g _).size; simp, fun k hk hn => by
      simp only [Array.getElem?_modify]
      rw [if_neg (fun e => hn e.symm)]; rfl⟩
set_option maxHeartbeats 1000000 in
set_option maxRecDepth 100000 in
theorem String_own (b g cap : Nat) (p : Value) (cur : Array Value) (l : List UInt8) (w : World) (h0 : l ≠ []) (hbk : w.heap[b]? = some (.cells #[p, .slice (some ⟨g, 0, none⟩) l.length cap] 148 (0, 0)))
    (hown : w.ownsRow 0 5 1 (.slice (some ⟨g, 0, none⟩) l.length cap) l.length (Lib.byteCells l)) (hg : w.heap[g]? = some (.cells cur 5 (0, 0))) (hnc : l.length ≤ cap) (hcm : cap ≤ maxLen) (hcs : cur.size = cap * 1) :
    Calls Tryz.prog 88 #[.pointer (some ⟨b, 0, none⟩)] w fun e w' => e = .returned (.string ⟨l.toArray⟩) ∧ Chg (· = g) w w' := by
  have hl0 : l.length ≠ 0 := by simpa using h0
  have c1 : w.drew.cell? ⟨b, 1, none⟩ = some (.slice (some ⟨g, 0, none⟩) l.length cap) := by
    have : w.drew.heap[b]? = some (.cells #[p, .slice (some ⟨g, 0, none⟩) l.length cap] 148 (0, 0)) := hbk
    rw [Lib.cell_of_heap this]; rfl
  have hSD : (Builtin.unsafeSliceData_ #[88] 183 #[.slice (some ⟨g, 0, none⟩) l.length cap]).run Tryz.prog w.drew = .ok (.pointer (some ⟨g, 0, none⟩)) w.drew :=
    Lib.run_unsafeSliceData_row _ _ _ _ _ _ (by omega)
  have hUS : (Builtin.unsafeString_ #[183, 3] 9 #[.pointer (some ⟨g, 0, none⟩), .int .i64 l.length]).run Tryz.prog w.drew = .ok (.string ⟨l.toArray⟩) (w.drew.freeze ⟨g, 0, none⟩ l.length) := by
    refine Lib.run_unsafeString_row w.drew 183 3 9 5 Tryz.underlying183 (by kernel_rfl) g cur.size (by have hg' : w.drew.heap[g]? = some (.cells cur 5 (0, 0)) := hg; simp [World.shape?, hg']) l h0 (by omega) (by unfold maxLen at hcm; omega) ?_
    intro j x hx
    have := hown.cells (g := g) rfl j (.int .u8 x.toNat) (by simp [Lib.byteCells, hx])
    exact this
  have mixed : Tryz.prog.follows Departure.mixedOrders = true := by kernel_rfl
  go_enter Tryz.func88, Tryz.ntmps88
  go_wp2
  go_region_o
  all_goals (go_wp2; go_ret; exact ⟨rfl, Chg.freeze w g l.length⟩)
theorem Now.bldString {B : Nat → Prop} {w0 w : World} {b : Nat} {g : Option Nat} {s : ByteArray} {L : List Asn} {K : ByteArray → World → Prop} (h : Now B w0 w (bld b g s :: L)) (hl : decide (0 < s.size) = true)
    (k : ∀ w', Now B w0 w' L → K s w') :
    Calls Tryz.prog 88 #[.pointer (some ⟨b, 0, none⟩)] w fun e w' => ∃ i, e = .returned (.string i) ∧ K i w' := by
  have hl := of_decide_eq_true hl
  obtain ⟨p, v, hp, hb, ho, hg, hn⟩ := h.hp.1
  have hsz : s.data.toList.length = s.size := by rw [Array.length_toList]; rfl
  rcases ho.2 with ⟨_, hz⟩ | ⟨q, cap, cur, rfl, h1, h2, hnc, hcm, hcs, htake⟩
  · omega
  have ho' := ho
  rw [← hsz] at hb ho' hnc
  refine (String_own b q cap p cur s.data.toList w (by intro e; rw [e] at hsz; simp at hsz; omega) hb ho' h2 hnc hcm hcs).mono ?_
  rintro e w' ⟨rfl, hc⟩
  refine ⟨s, rfl, k w' ?_⟩
  have hc' : Chg (bld b g s).foot w w' := hc.mono fun k _ (hk : k = q) => .inr (by rw [← hg, hk]; rfl)
  exact ⟨h.hp.2.2.keep fun k hk => hc'.block k (h.hp.2.2.lt k hk) fun hf => h.hp.2.1 k hf hk, h.chg.then hc' fun k hk hf => (h.sub k (.inl hf)).elim id fun h' => absurd hk (Nat.not_lt.2 h'), fun k hk => h.sub k (.inr hk)⟩
end Go.Proofs.YtcgigdfahlmfaaaGreatDoor
