/-
  A predicate transformer 'vc' over the machine's code, computed by reduction, and its soundness over the kit's 'Code.wp'.
-/
import Derived.WalkKit
import Derived.StillTail
import Derived.Deep.Quiet
import Derived.Lib.SliceRun
import Derived.Deep.LoopGhost
import Derived.OrdersHeld
namespace Go.Vc
open Go
inductive Cell where
  | int (k : IntKind)
  | bool
  | str
  | ptr
  | slice
  | map
  | any
  | iface (t : TypeId)
  | rune
  | blk
def Cell.ex : Cell → (Value → Prop) → Prop
  | .int k, K => ∃ n : Int, K (.int k n)
  | .bool, K => ∃ b : Bool, K (.bool b)
  | .str, K => ∃ s : ByteArray, K (.string s)
  | .ptr, K => ∃ p : Option Addr, K (.pointer p)
  | .slice, K => ∃ (p : Option Addr) (n c : Nat), K (.slice p n c)
  | .map, K => ∃ r : Option Nat, K (.map r)
  | .any, K => ∃ v : Value, K v
  | .iface t, K => ∃ p : Option Addr, K (.iface t (.pointer p))
  | .rune, K => (∃ k r : Int, K (.tuple #[.bool true, .int .i64 k, .int .i32 r])) ∨ K (.tuple #[.bool false])
  | .blk, K => ∃ b : Nat, K (.pointer (some ⟨b, 0, none⟩))
def Cell.all : Cell → (Value → Prop) → Prop
  | .int k, K => ∀ n : Int, K (.int k n)
  | .bool, K => ∀ b : Bool, K (.bool b)
  | .str, K => ∀ s : ByteArray, K (.string s)
  | .ptr, K => ∀ p : Option Addr, K (.pointer p)
  | .slice, K => ∀ (p : Option Addr) (n c : Nat), K (.slice p n c)
  | .map, K => ∀ r : Option Nat, K (.map r)
  | .any, K => ∀ v : Value, K v
  | .iface t, K => ∀ p : Option Addr, K (.iface t (.pointer p))
  | .rune, K => (∀ k r : Int, K (.tuple #[.bool true, .int .i64 k, .int .i32 r])) ∧ K (.tuple #[.bool false])
  | .blk, K => ∀ b : Nat, K (.pointer (some ⟨b, 0, none⟩))
def Cell.is : Cell → Value → Bool
  | .int k, .int k' _ => decide (k = k')
  | .bool, .bool _ => true
  | .str, .string _ => true
  | .ptr, .pointer _ => true
  | .slice, .slice _ _ _ => true
  | .map, .map _ => true
  | .any, _ => true
  | .iface t, .iface t' (.pointer _) => decide (t = t')
  | _, _ => false
theorem Cell.ex_imp {c : Cell} {K : Value → Prop} (h : c.ex K) : ∃ v, K v := by
  cases c <;> simp only [Cell.ex] at h
  case int k => exact let ⟨n, h⟩ := h; ⟨_, h⟩
  case bool => exact let ⟨n, h⟩ := h; ⟨_, h⟩
  case str => exact let ⟨n, h⟩ := h; ⟨_, h⟩
  case ptr => exact let ⟨n, h⟩ := h; ⟨_, h⟩
  case slice => exact let ⟨p, n, c, h⟩ := h; ⟨_, h⟩
  case map => exact let ⟨n, h⟩ := h; ⟨_, h⟩
  case any => exact h
  case iface t => exact let ⟨p, h⟩ := h; ⟨_, h⟩
  case rune => exact h.elim (fun ⟨k, r, h⟩ => ⟨_, h⟩) fun h => ⟨_, h⟩
  case blk => exact let ⟨b, h⟩ := h; ⟨_, h⟩
theorem Cell.ex_mono {c : Cell} {K K' : Value → Prop} (hk : ∀ v, K v → K' v) (h : c.ex K) : c.ex K' := by
  cases c <;> simp only [Cell.ex] at *
  case slice => exact let ⟨p, n, c, h⟩ := h; ⟨p, n, c, hk _ h⟩
  case rune => exact h.imp (fun ⟨k, r, h⟩ => ⟨k, r, hk _ h⟩) (hk _)
  all_goals exact let ⟨n, h⟩ := h; ⟨n, hk _ h⟩
theorem Cell.all_mono {c : Cell} {K K' : Value → Prop} (hk : ∀ v, K v → K' v) (h : c.all K) : c.all K' := by
  cases c <;> simp only [Cell.all] at *
  case slice => exact fun p n c => hk _ (h p n c)
  case rune => exact ⟨fun k r => hk _ (h.1 k r), hk _ h.2⟩
  all_goals exact fun n => hk _ (h n)
theorem Cell.all_is {c : Cell} {K : Value → Prop} {v : Value} (h : c.all K) (hv : c.is v = true) : K v := by
  cases c
  case iface t =>
    cases v <;> try (simp only [Cell.is, Bool.false_eq_true] at hv)
    rename_i t' u
    cases u <;> simp only [Bool.false_eq_true, decide_eq_true_eq] at hv
    subst hv; exact h _
  case rune => cases v <;> simp only [Cell.is, Bool.false_eq_true] at hv
  case blk => cases v <;> simp only [Cell.is, Bool.false_eq_true] at hv
  all_goals cases v <;> simp only [Cell.all, Cell.is, Bool.false_eq_true, decide_eq_true_eq] at * <;> first | exact h _ | exact h _ _ _ | (subst hv; exact h _)
def cellsEx : List Cell → (List Value → Prop) → Prop
  | [], K => K []
  | c :: cs, K => c.ex fun v => cellsEx cs fun vs => K (v :: vs)
def cellsAll : List Cell → (List Value → Prop) → Prop
  | [], K => K []
  | c :: cs, K => c.all fun v => cellsAll cs fun vs => K (v :: vs)
def cellsIs : List Cell → List Value → Bool
  | [], [] => true
  | c :: cs, v :: vs => cond (c.is v) (cellsIs cs vs) false
  | _, _ => false
theorem cellsEx_imp : ∀ {cs : List Cell} {K : List Value → Prop}, cellsEx cs K → ∃ vs, K vs
  | [], _, h => ⟨_, h⟩
  | _ :: _, _, h => let ⟨_, h1⟩ := Cell.ex_imp h; let ⟨_, h2⟩ := cellsEx_imp h1; ⟨_, h2⟩
theorem cellsEx_mono : ∀ {cs : List Cell} {K K' : List Value → Prop}, (∀ v, K v → K' v) → cellsEx cs K → cellsEx cs K'
  | [], _, _, hk, h => hk _ h
  | _ :: _, _, _, hk, h => Cell.ex_mono (fun _ h => cellsEx_mono (fun _ h => hk _ h) h) h
theorem cellsAll_mono : ∀ {cs : List Cell} {K K' : List Value → Prop}, (∀ v, K v → K' v) → cellsAll cs K → cellsAll cs K'
  | [], _, _, hk, h => hk _ h
  | _ :: _, _, _, hk, h => Cell.all_mono (fun _ h => cellsAll_mono (fun _ h => hk _ h) h) h
theorem cellsAll_is : ∀ {cs : List Cell} {K : List Value → Prop} {vs : List Value}, cellsAll cs K → cellsIs cs vs = true → K vs
  | [], _, [], h, _ => h
  | [], _, _ :: _, _, hv => by simp [cellsIs] at hv
  | _ :: _, _, [], _, hv => by simp [cellsIs] at hv
  | c :: cs, K, v :: vs, h, hv => by
    simp only [cellsIs] at hv
    cases hc : c.is v <;> simp only [hc, cond_true, cond_false, Bool.false_eq_true] at hv
    exact cellsAll_is (K := fun vs => K (v :: vs)) (Cell.all_is h hc) hv
inductive Shape where
  | one (c : Cell)
  | agg (l : List Cell)
def Shape.ex : Shape → (Value → Prop) → Prop
  | .one c, K => c.ex K
  | .agg l, K => cellsEx l fun vs => K (.agg vs.toArray)
def Shape.all : Shape → (Value → Prop) → Prop
  | .one c, K => c.all K
  | .agg l, K => cellsAll l fun vs => K (.agg vs.toArray)
def Shape.is : Shape → Value → Bool
  | .one c, v => c.is v
  | .agg l, .agg vs => cellsIs l vs.toList
  | _, _ => false
theorem Shape.ex_imp {c : Shape} {K : Value → Prop} (h : c.ex K) : ∃ v, K v := by
  cases c
  · exact Cell.ex_imp h
  · exact let ⟨_, h⟩ := cellsEx_imp h; ⟨_, h⟩
theorem Shape.ex_mono {c : Shape} {K K' : Value → Prop} (hk : ∀ v, K v → K' v) (h : c.ex K) : c.ex K' := by
  cases c
  · exact Cell.ex_mono hk h
  · exact cellsEx_mono (fun _ h => hk _ h) h
theorem Shape.all_mono {c : Shape} {K K' : Value → Prop} (hk : ∀ v, K v → K' v) (h : c.all K) : c.all K' := by
  cases c
  · exact Cell.all_mono hk h
  · exact cellsAll_mono (fun _ h => hk _ h) h
theorem Shape.all_is {c : Shape} {K : Value → Prop} {v : Value} (h : c.all K) (hv : c.is v = true) : K v := by
  cases c
  · exact Cell.all_is h hv
  · cases v <;> simp only [Shape.is, Bool.false_eq_true] at hv
    rename_i l a
    have := cellsAll_is h hv
    simpa using this
def shapesEx : List Shape → (List Value → Prop) → Prop
  | [], K => K []
  | c :: cs, K => c.ex fun v => shapesEx cs fun vs => K (v :: vs)
def shapesAll : List Shape → (List Value → Prop) → Prop
  | [], K => K []
  | c :: cs, K => c.all fun v => shapesAll cs fun vs => K (v :: vs)
def shapesIs : List Shape → List Value → Bool
  | [], [] => true
  | c :: cs, v :: vs => cond (c.is v) (shapesIs cs vs) false
  | _, _ => false
theorem shapesEx_imp : ∀ {cs : List Shape} {K : List Value → Prop}, shapesEx cs K → ∃ vs, K vs
  | [], _, h => ⟨_, h⟩
  | _ :: _, _, h => let ⟨_, h1⟩ := Shape.ex_imp h; let ⟨_, h2⟩ := shapesEx_imp h1; ⟨_, h2⟩
theorem shapesEx_mono : ∀ {cs : List Shape} {K K' : List Value → Prop}, (∀ v, K v → K' v) → shapesEx cs K → shapesEx cs K'
  | [], _, _, hk, h => hk _ h
  | _ :: _, _, _, hk, h => Shape.ex_mono (fun _ h => shapesEx_mono (fun _ h => hk _ h) h) h
theorem shapesAll_mono : ∀ {cs : List Shape} {K K' : List Value → Prop}, (∀ v, K v → K' v) → shapesAll cs K → shapesAll cs K'
  | [], _, _, hk, h => hk _ h
  | _ :: _, _, _, hk, h => Shape.all_mono (fun _ h => shapesAll_mono (fun _ h => hk _ h) h) h
theorem shapesAll_is : ∀ {cs : List Shape} {K : List Value → Prop} {vs : List Value}, shapesAll cs K → shapesIs cs vs = true → K vs
  | [], _, [], h, _ => h
  | [], _, _ :: _, _, hv => by simp [shapesIs] at hv
  | _ :: _, _, [], _, hv => by simp [shapesIs] at hv
  | c :: cs, K, v :: vs, h, hv => by
    simp only [shapesIs] at hv
    cases hc : c.is v <;> simp only [hc, cond_true, cond_false, Bool.false_eq_true] at hv
    exact shapesAll_is (K := fun vs => K (v :: vs)) (Shape.all_is h hc) hv
def ifaceOf : TypeId → Option TypeId := fun _ => none
def cellsT (P : Program) : Nat → TypeId → List Cell
  | 0, _ => [.any]
  | f + 1, t => match P.underlying t with
    | some (.int k) => [.int k]
    | some .bool => [.bool]
    | some .string => [.str]
    | some (.pointer _) => [.ptr]
    | some (.slice _) => [.slice]
    | some (.map _ _) => [.map]
    | some (.struct fs) => (fs.toList.map fun x => cellsT P f x.type).flatten
    | some (.array n e) => (List.replicate n (cellsT P f e)).flatten
    | some (.interface _) => match ifaceOf t with | some d => [.iface d] | none => [.any]
    | _ => [.any]
def shapeT (P : Program) (t : TypeId) : Shape :=
  match P.underlying t with
  | some (.struct _) | some (.array _ _) => .agg (cellsT P 8 t)
  | _ => match cellsT P 8 t with
    | [c] => .one c
    | _ => .one .any
def St (w : World) (a : Addr) (v : Value) (K : World → Prop) : Prop := (∃ old, w.cell? a = some old) ∧ w.frozen? a = false ∧ K (w.setCell a v)
def NN (p : Option Addr) (K : Addr → Prop) : Prop := match p with | none => False | some a => K a
def chk (b : Bool) (K : Prop) : Prop := cond b K False
def Nw (w : World) (o : Obj) (K : Nat → World → Prop) : Prop := K w.heap.size (w.alloc o)
def Lt {α : Type} (v : α) (K : α → Prop) : Prop := K v
theorem NN_ex {p : Option Addr} {K : Addr → Prop} (h : NN p K) : ∃ a, p = some a ∧ K a := by
  cases p with
  | none => exact h.elim
  | some a => exact ⟨a, rfl, h⟩
theorem chk_iff {b : Bool} {K : Prop} : chk b K ↔ b = true ∧ K := by cases b <;> simp [chk]
def plainV : Value → Bool
  | .agg _ | .tuple _ => false
  | _ => true
def semWP {α : Type} (P : Program) : Sem α → List Cell → World → (α → World → Prop) → Prop
  | .pure a, _, w, K => K a w
  | .load _ a k, hs, w, K => (hs.headD .any).ex fun v => w.cell? a = some v ∧ semWP P (k v) hs.tail w K
  | .store _ a v k, hs, w, K => cond (plainV v) (St w a v fun w' => semWP P k hs w' K) False
  | .new o k, hs, w, K => semWP P (k w.heap.size) hs (w.alloc o) K
  | .shape r k, hs, w, K => semWP P (k (w.shape? r)) hs w K
  | .freeze a n k, hs, w, K => semWP P k hs (w.freeze a n) K
  | .frozen a k, hs, w, K => semWP P (k (w.frozen? a)) hs w K
  | .getObj r k, hs, w, K => ∃ o, w.heap[r]? = some o ∧ (∀ c e f, o ≠ .cells c e f) ∧ semWP P (k o) hs w K
  | .setObj r o k, hs, w, K => (∃ o', w.heap[r]? = some o' ∧ (∀ c e f, o' ≠ .cells c e f)) ∧ semWP P k hs { w with heap := w.heap.setIfInBounds r o } K
  | .choose q k, hs, w, K => cond q.forced (semWP P (k 0) hs w K) (semWP P (k (q.cut (w.tape w.drawn q))) hs w.drew K)
  | .sys _ _, _, _, _ => False
  | .program k, hs, w, K => semWP P (k P) hs w K
  | .mark _ k, hs, w, K => semWP P k hs w K
  | .halt _, _, _, _ => False
theorem semWP_run {α : Type} {P : Program} (s : Sem α) : ∀ {hs : List Cell} {w : World} {K : α → World → Prop}, semWP P s hs w K → ∃ r w', s.run P w = .ok r w' ∧ K r w' := by
  induction s with
  | pure a => exact fun h => ⟨_, _, rfl, h⟩
  | load m a k ih =>
    intro hs w K h
    obtain ⟨v, hv, h⟩ := Cell.ex_imp h
    obtain ⟨r, w', h1, h2⟩ := ih v h
    exact ⟨r, w', by simp only [Sem.run, hv]; exact h1, h2⟩
  | store m a v k ih =>
    intro hs w K h
    simp only [semWP] at h
    cases hp : plainV v <;> simp only [hp, cond_true, cond_false] at h
    obtain ⟨⟨old, ho⟩, hf, h⟩ := h
    obtain ⟨r, w', h1, h2⟩ := ih h
    refine ⟨r, w', ?_, h2⟩
    cases v <;> simp only [plainV, Bool.false_eq_true] at hp <;> simp only [Sem.run, ho, hf, Bool.false_eq_true, if_false] <;> exact h1
  | new o k ih => exact fun h => ih _ h
  | shape r k ih => exact fun h => ih _ h
  | freeze a n k ih => exact fun h => ih h
  | frozen a k ih => exact fun h => ih _ h
  | getObj r k ih =>
    intro hs w K ⟨o, ho, hc, h⟩
    obtain ⟨x, w', h1, h2⟩ := ih o h
    refine ⟨x, w', ?_, h2⟩
    simp only [Sem.run, ho]
    cases o <;> first | exact h1 | exact absurd rfl (hc _ _ _)
  | setObj r o k ih =>
    intro hs w K ⟨⟨o', ho, hc⟩, h⟩
    obtain ⟨x, w', h1, h2⟩ := ih h
    refine ⟨x, w', ?_, h2⟩
    simp only [Sem.run, ho]
    cases o' <;> first | exact h1 | exact absurd rfl (hc _ _ _)
  | choose q k ih =>
    intro hs w K h
    simp only [semWP] at h
    cases hq : q.forced <;> simp only [hq, cond_true, cond_false] at h
    · obtain ⟨x, w', h1, h2⟩ := ih _ h
      exact ⟨x, w', by simp only [Sem.run, hq, Bool.false_eq_true, if_false]; exact h1, h2⟩
    · obtain ⟨x, w', h1, h2⟩ := ih _ h
      exact ⟨x, w', by simp only [Sem.run, hq, if_true]; exact h1, h2⟩
  | sys c k ih => exact fun h => h.elim
  | program k ih => exact fun h => ih _ h
  | mark m k ih => exact fun h => ih h
  | halt h => exact fun h => h.elim
theorem semWP_mono {α : Type} {P : Program} (s : Sem α) : ∀ {hs : List Cell} {w : World} {K K' : α → World → Prop}, (∀ r w, K r w → K' r w) → semWP P s hs w K → semWP P s hs w K' := by
  induction s with
  | pure a => exact fun hk h => hk _ _ h
  | load m a k ih => exact fun hk h => Cell.ex_mono (fun v ⟨h1, h2⟩ => ⟨h1, ih v hk h2⟩) h
  | store m a v k ih =>
    intro hs w K K' hk h
    simp only [semWP] at *
    cases hp : plainV v <;> simp only [hp, cond_true, cond_false] at *
    exact ⟨h.1, h.2.1, ih hk h.2.2⟩
  | new o k ih => exact fun hk h => ih _ hk h
  | shape r k ih => exact fun hk h => ih _ hk h
  | freeze a n k ih => exact fun hk h => ih hk h
  | frozen a k ih => exact fun hk h => ih _ hk h
  | getObj r k ih => exact fun hk ⟨o, ho, hc, h⟩ => ⟨o, ho, hc, ih o hk h⟩
  | setObj r o k ih => exact fun hk ⟨ho, h⟩ => ⟨ho, ih hk h⟩
  | choose q k ih =>
    intro hs w K K' hk h
    simp only [semWP] at *
    cases hq : q.forced <;> simp only [hq, cond_true, cond_false] at *
    · exact ih _ hk h
    · exact ih _ hk h
  | sys c k ih => exact fun _ h => h.elim
  | program k ih => exact fun hk h => ih _ hk h
  | mark m k ih => exact fun hk h => ih hk h
  | halt h => exact fun _ h => h.elim
def isPtrT (P : Program) (t : TypeId) : Bool := match P.underlying t with | some (.pointer _) => true | _ => false
def isSliceT (P : Program) (t : TypeId) : Bool := match P.underlying t with | some (.slice _) => true | _ => false
def sbyte (s : ByteArray) (i : Int) : Int := ((s.data.toList.getD i.toNat 0).toNat : Int)
def sz? (P : Program) (e : TypeId) : Option Nat := (P.info? e).map (·.size)
theorem info_run {P : Program} {e : TypeId} {i : TypeInfo} (hi : P.info? e = some i) (w : World) : (typeInfo e).run P w = .ok i w := by
  show Sem.run P (match P.info? e with | some i => pure i | none => stuck "no such type") w = _
  rw [hi]; rfl
theorem sz_run {P : Program} {e : TypeId} {z : Nat} (h : sz? P e = some z) (w : World) : (sizeOf e).run P w = .ok z w := by
  unfold sz? at h
  cases hi : P.info? e with
  | none => simp [hi] at h
  | some i =>
    simp only [hi, Option.map_some, Option.some.injEq] at h
    subst h
    simp [sizeOf, info_run hi]
def partV (P : Program) (t : TypeId) (cs : Array Value) (off : Nat) : Option Value :=
  match P.underlying t with
  | some (.struct _) => match sz? P t with | some z => some (.agg (cs.extract off (off + z))) | none => none
  | some (.array _ _) => match sz? P t with | some z => some (.agg (cs.extract off (off + z))) | none => none
  | some _ => cs[off]?
  | none => none
theorem partV_run {P : Program} {t : TypeId} {cs : Array Value} {off : Nat} {v : Value} (h : partV P t cs off = some v) (w : World) : (part t cs off).run P w = .ok v w := by
  unfold partV at h
  split at h
  · rename_i fs hu
    split at h <;> cases h
    rename_i z hz
    simp [part, isAgg, run_underlying hu, sz_run hz]
  · rename_i n e hu
    split at h <;> cases h
    rename_i z hz
    simp [part, isAgg, run_underlying hu, sz_run hz]
  · rename_i d h1 h2 hu
    have : (isAgg t).run P w = .ok false w := by
      cases d <;> first | exact absurd rfl (h1 _) | exact absurd rfl (h2 _ _) | simp [isAgg, run_underlying hu]
    simp [part, this, h]
  · cases h
def andO (a : Option Bool) (b : Option Bool) : Option Bool :=
  match a, b with
  | some x, some y => some (x && y)
  | _, _ => none
def eqFs (P : Program) (E : TypeId → Value → Value → Option Bool) (xs ys : Array Value) : List Field → Option Bool
  | [] => some true
  | f :: r => match decide (f.name = "_"), partV P f.type xs f.offset, partV P f.type ys f.offset with
    | false, some u, some v => match r with
      | [] => E f.type u v
      | r => andO (E f.type u v) (eqFs P E xs ys r)
    | _, _, _ => none
def eqEs (P : Program) (E : TypeId → Value → Value → Option Bool) (e : TypeId) (z : Nat) (xs ys : Array Value) : Nat → Nat → Option Bool
  | _, 0 => some true
  | i, n + 1 => match partV P e xs (i * z), partV P e ys (i * z) with
    | some u, some v => match n with
      | 0 => E e u v
      | n => andO (E e u v) (eqEs P E e z xs ys (i + 1) n)
    | _, _ => none
def eqv (P : Program) : Nat → TypeId → Value → Value → Option Bool
  | 0, _, _, _ => none
  | d + 1, t, x, y => match P.underlying t, x, y with
    | some .bool, .bool a, .bool b => some (a == b)
    | some (.int _), .int k a, .int k' b => cond (decide (k = k')) (some (a == b)) none
    | some .string, .string a, .string b => some (a == b)
    | some (.pointer _), .pointer p, .pointer none => some p.isNone
    | some (.struct fs), .agg xs, .agg ys => cond (P.stoodInHeld t) none (eqFs P (eqv P d) xs ys fs.toList)
    | some (.array n e), .agg xs, .agg ys => match sz? P e with | some z => eqEs P (eqv P d) e z xs ys 0 n | none => none
    | _, _, _ => none
theorem andO_some {a b : Option Bool} {c : Bool} (h : andO a b = some c) : ∃ x y, a = some x ∧ b = some y ∧ c = (x && y) := by
  cases a <;> cases b <;> simp [andO] at h
  exact ⟨_, _, rfl, rfl, h.symm⟩
theorem eqFs_run {P : Program} {E : TypeId → Value → Value → Option Bool} {d : Nat} (hE : ∀ t x y b, E t x y = some b → ∀ w, (Op.equalIn d t x y).run P w = .ok b w) {xs ys : Array Value} {w : World} : ∀ (l : List Field) {b : Bool}, eqFs P E xs ys l = some b →
    (forIn l ((none, ()) : Option Bool × Unit) fun f _ =>
            if f.name = "_" then (pure (ForInStep.yield (none, ())) : Sem _)
            else do
              let a ← part f.type xs f.offset
              let c ← part f.type ys f.offset
              let e ← Op.equalIn d f.type a c
              if e = false then pure (ForInStep.done (some false, ())) else pure (ForInStep.yield (none, ()))).run P w = .ok (if b then (none, ()) else (some false, ())) w
  | [], b, h => by simp [eqFs] at h; subst h; rfl
  | f :: r, b, h => by
    unfold eqFs at h
    split at h
    · rename_i u v hn hu hv
      have hn' : ¬ f.name = "_" := of_decide_eq_false hn
      have key : ∃ x y, E f.type u v = some x ∧ eqFs P E xs ys r = some y ∧ b = (x && y) := by
        split at h
        · exact ⟨b, true, h, rfl, by simp⟩
        · exact andO_some h
      obtain ⟨x, y, hx, hy, rfl⟩ := key
      have ih := eqFs_run hE (w := w) r hy
      simp only [List.forIn_cons, if_neg hn']
      cases x
      · simp [partV_run hu w, partV_run hv w, hE _ _ _ _ hx w]
      · simp [partV_run hu w, partV_run hv w, hE _ _ _ _ hx w]
        simpa using ih
    · cases h
theorem eqEs_run {P : Program} {E : TypeId → Value → Value → Option Bool} {d : Nat} (hE : ∀ t x y b, E t x y = some b → ∀ w, (Op.equalIn d t x y).run P w = .ok b w) {e : TypeId} {z : Nat} {xs ys : Array Value} {w : World} : ∀ (n i : Nat) {b : Bool}, eqEs P E e z xs ys i n = some b →
    (forIn (List.range' i n) ((none, ()) : Option Bool × Unit) fun i _ => (do
              let a ← part e xs (i * z)
              let c ← part e ys (i * z)
              let e ← Op.equalIn d e a c
              if e = false then pure (ForInStep.done (some false, ())) else pure (ForInStep.yield (none, ())) : Sem _)).run P w = .ok (if b then (none, ()) else (some false, ())) w
  | 0, i, b, h => by simp [eqEs] at h; subst h; rfl
  | n + 1, i, b, h => by
    unfold eqEs at h
    split at h
    · rename_i u v hu hv
      have key : ∃ x y, E e u v = some x ∧ eqEs P E e z xs ys (i + 1) n = some y ∧ b = (x && y) := by
        split at h
        · exact ⟨b, true, h, rfl, by simp⟩
        · exact andO_some h
      obtain ⟨x, y, hx, hy, rfl⟩ := key
      have ih := eqEs_run hE (w := w) n (i + 1) hy
      simp only [List.range'_succ, List.forIn_cons]
      cases x
      · simp [partV_run hu w, partV_run hv w, hE _ _ _ _ hx w]
      · simp [partV_run hu w, partV_run hv w, hE _ _ _ _ hx w]
        simpa using ih
    · cases h
theorem eqv_run {P : Program} : ∀ (n : Nat) (t : TypeId) (x y : Value) (b : Bool), eqv P n t x y = some b → ∀ d, n ≤ d → ∀ w, (Op.equalIn d t x y).run P w = .ok b w
  | 0, _, _, _, _, h => by cases h
  | n + 1, t, x, y, b, h => by
    intro d hd w
    obtain ⟨d, rfl⟩ : ∃ m, d = m + 1 := ⟨d - 1, by omega⟩
    have hE := fun t x y b h w => eqv_run (P := P) n t x y b h d (by omega) w
    unfold eqv at h
    split at h
    · rename_i hu; cases h; simp [Op.equalIn, run_underlying hu]
    · rename_i k a k' b' hu
      cases hk : decide (k = k') <;> simp only [hk, cond_true, cond_false] at h <;> cases h
      have := of_decide_eq_true hk
      subst this
      simp [Op.equalIn, run_underlying hu]
    · rename_i hu; cases h; simp [Op.equalIn, run_underlying hu]
    · rename_i p hu; cases h; cases p <;> simp [Op.equalIn, run_underlying hu]
    · rename_i fs xs ys hu
      cases hs : P.stoodInHeld t <;> simp only [hs, cond_true, cond_false] at h <;> try cases h
      have := eqFs_run hE (w := w) fs.toList h
      simp [Op.equalIn, run_underlying hu, hs]
      rw [← Array.forIn_toList, this]
      cases b <;> rfl
    · rename_i m e xs ys hu
      split at h
      · rename_i z hz
        have := eqEs_run hE (w := w) m 0 h
        simp [Op.equalIn, run_underlying hu, sz_run hz]
        rw [this]
        cases b <;> rfl
      · cases h
    · cases h
noncomputable def fitsS (a b : ByteArray) : Bool := @decide (((a.size + b.size : Nat) : Int) ≤ 9223372036854775807) (Classical.propDecidable _)
theorem fitsS_iff {a b : ByteArray} : fitsS a b = true ↔ ((a.size + b.size : Nat) : Int) ≤ 9223372036854775807 := @decide_eq_true_iff _ (Classical.propDecidable _)
theorem fitsS_of {a b : ByteArray} (h : a.size + b.size ≤ 9223372036854775807) : fitsS a b = true := fitsS_iff.2 (by omega)
noncomputable def specialBin (P : Program) (t : TypeId) (op : BinOp) (x y : Value) : Option ((Value → Prop) → Prop) :=
  match op, x, y with
  | .eql, .pointer p, .pointer none => some fun K => chk (isPtrT P t) (K (.bool p.isNone))
  | .neq, .pointer p, .pointer none => some fun K => chk (isPtrT P t) (K (.bool (!p.isNone)))
  | .eql, .slice p _ _, .slice none _ _ => some fun K => chk (isSliceT P t) (K (.bool p.isNone))
  | .neq, .slice p _ _, .slice none _ _ => some fun K => chk (isSliceT P t) (K (.bool (!p.isNone)))
  | .quo, .int k a, .int k' b => some fun K => chk (decide (k = k')) (chk (!(b == 0)) (K (.int k (k.wrap (a.tdiv b)))))
  | .rem, .int k a, .int k' b => some fun K => chk (decide (k = k')) (chk (!(b == 0)) (K (.int k (a.tmod b))))
  | .shl, .int k a, .int _ b => some fun K => chk (decide (0 ≤ b)) (K (.int k (k.wrap (a * 2 ^ min b.toNat k.bits))))
  | .shr, .int k a, .int _ b => some fun K => chk (decide (0 ≤ b)) (K (.int k (a.fdiv (2 ^ min b.toNat k.bits))))
  | .add, .string a, .string b => some fun K => chk (fitsS a b) (K (.string (a ++ b)))
  | .eql, .agg xs, .agg ys => (eqv P 12 t (.agg xs) (.agg ys)).map fun b K => chk (!P.eqGuardType P.depth t) (K (.bool b))
  | .neq, .agg xs, .agg ys => (eqv P 12 t (.agg xs) (.agg ys)).map fun b K => chk (!P.eqGuardType P.depth t) (K (.bool (!b)))
  | _, _, _ => none
theorem run_value {P : Program} {s : Sem Value} {v : Value} {w w' : World} (h : s.run P w = .ok v w') : (do pure (Next.value (← s)) : Sem Next).run P w = .ok (.value v) w' := by
  simp [h, go_sem]
theorem pointee_of {P : Program} {t : TypeId} (h : isPtrT P t = true) : P.underlying t = some (.pointer (P.pointee t)) := by
  unfold isPtrT at h
  unfold Program.pointee
  split at h <;> simp_all
theorem slice_of {P : Program} {t : TypeId} (h : isSliceT P t = true) : ∃ e, P.underlying t = some (.slice e) := by
  unfold isSliceT at h
  split at h <;> simp_all
theorem run_neq_slice_nil {P : Program} (w : World) (t e : TypeId) (a : Option Addr) (n c n' c' : Nat) (h : P.underlying t = some (.slice e)) :
    (binOp .neq t (.slice a n c) (.slice none n' c')).run P w = .ok (.bool (!a.isNone)) w := by
  simp only [binOp]
  simp [Op.equal, Op.maxDepth, Lib.run_equalIn_slice_nil w 9999 t e a n c n' c' h]
theorem run_bin {P : Program} {t : TypeId} {op : BinOp} {x y v : Value} {X Y : Operand} {w : World} (hg : (eqGuard op t X Y x y).run P w = .ok () w) (hb : (binOp op t x y).run P w = .ok v w) :
    (do eqGuard op t X Y x y; binOp op t x y : Sem Value).run P w = .ok v w := by
  simp [hg, hb, go_sem]
theorem specialBin_run {P : Program} {t : TypeId} {op : BinOp} {x y : Value} {f : (Value → Prop) → Prop} {K : Value → Prop} (X Y : Operand) (hf : specialBin P t op x y = some f) (h : f K) :
    ∃ v, (∀ w, (do eqGuard op t X Y x y; binOp op t x y : Sem Value).run P w = .ok v w) ∧ K v := by
  unfold specialBin at hf
  split at hf <;> (try cases hf) <;> (try simp only [chk_iff, decide_eq_true_eq, Bool.not_eq_true', beq_eq_false_iff_ne] at h)
  · exact ⟨_, fun w => run_bin rfl (run_eql_pointer_nil w t _ (pointee_of h.1)), h.2⟩
  · exact ⟨_, fun w => run_bin rfl (run_neq_pointer_nil w t _ (pointee_of h.1)), h.2⟩
  · obtain ⟨e, he⟩ := slice_of h.1
    exact ⟨_, fun w => run_bin rfl (Lib.run_eql_slice_nil w t e _ _ _ _ _ he), h.2⟩
  · obtain ⟨e, he⟩ := slice_of h.1
    exact ⟨_, fun w => run_bin rfl (run_neq_slice_nil w t e _ _ _ _ _ he), h.2⟩
  · obtain ⟨hk, hb, h⟩ := h
    subst hk
    exact ⟨_, fun w => run_bin rfl (by simp only [binOp, ne_eq, not_true_eq_false, if_false, Op.intDiv, hb]; rfl), h⟩
  · obtain ⟨hk, hb, h⟩ := h
    subst hk
    exact ⟨_, fun w => run_bin rfl (by simp only [binOp, ne_eq, not_true_eq_false, if_false, Op.intDiv, hb]; rfl), h⟩
  · obtain ⟨hb, h⟩ := h
    exact ⟨_, fun w => run_bin rfl (by simp only [binOp, Op.shift, Int.not_lt.2 hb, if_false]; rfl), h⟩
  · obtain ⟨hb, h⟩ := h
    exact ⟨_, fun w => run_bin rfl (by simp only [binOp, Op.shift, Int.not_lt.2 hb, if_false]; rfl), h⟩
  · obtain ⟨hb, h⟩ := h
    rw [fitsS_iff] at hb
    refine ⟨_, fun w => run_bin rfl ?_, h⟩
    have hn : ∀ n : Nat, (n : Int) ≤ 9223372036854775807 → ¬ (n : Int) > IntKind.i64.max := fun n hn => Int.not_lt.2 hn
    simp only [binOp, Op.stringOp, hn _ hb, if_false]
    rfl
  · obtain ⟨b, hb, rfl⟩ := Option.map_eq_some_iff.1 hf
    simp only [chk_iff, Bool.not_eq_true'] at h
    refine ⟨_, fun w => run_bin ?_ ?_, h.2⟩
    · have : ∀ w, (program).run P w = .ok P w := fun _ => rfl
      simp [eqGuard, this, h.1]
    · simp only [binOp]
      simp [Op.equal, Op.maxDepth, eqv_run 12 t _ _ b hb 10000 (by decide)]
  · obtain ⟨b, hb, rfl⟩ := Option.map_eq_some_iff.1 hf
    simp only [chk_iff, Bool.not_eq_true'] at h
    refine ⟨_, fun w => run_bin ?_ ?_, h.2⟩
    · have : ∀ w, (program).run P w = .ok P w := fun _ => rfl
      simp [eqGuard, this, h.1]
    · simp only [binOp]
      simp [Op.equal, Op.maxDepth, eqv_run 12 t _ _ b hb 10000 (by decide)]
theorem specialBin_mono {P : Program} {t : TypeId} {op : BinOp} {x y : Value} {f : (Value → Prop) → Prop} {K K' : Value → Prop} (hk : ∀ v, K v → K' v) (hf : specialBin P t op x y = some f) (h : f K) : f K' := by
  unfold specialBin at hf
  split at hf <;> first
    | (cases hf; simp only [chk_iff] at *; first | exact ⟨h.1, hk _ h.2⟩ | exact ⟨h.1, h.2.1, hk _ h.2.2⟩)
    | (cases hf; done)
    | (obtain ⟨b, hb, rfl⟩ := Option.map_eq_some_iff.1 hf; simp only [chk_iff] at *; exact ⟨h.1, hk _ h.2⟩)
def bnd (v : Option Value) (d : Nat) : Option Int :=
  match v with
  | none => some d
  | some (.int _ i) => some i
  | _ => none
def specialIA (P : Program) (t : TypeId) (x i : Value) : Option ((Value → Prop) → Prop) :=
  match P.underlying t, x, i with
  | some (.slice e), .slice p n _, .int _ j => match sz? P e with
    | some z => some fun K => NN p fun a => chk (decide (0 ≤ j) && decide (j < (n : Int))) (K (.pointer (some (a.add (j.toNat * z)))))
    | none => none
  | some (.array n e), .pointer p, .int _ j => match sz? P e with
    | some z => some fun K => NN p fun a => chk (decide (0 ≤ j) && decide (j < (n : Int))) (K (.pointer (some (a.add (j.toNat * z)))))
    | none => none
  | _, _, _ => none
def scalarC : TypeDesc → Option Cell
  | .int k => some (.int k)
  | .bool => some .bool
  | .string => some .str
  | .pointer _ => some .ptr
  | .slice _ => some .slice
  | .map _ _ => some .map
  | _ => none
def specialIx (P : Program) (t : TypeId) (x i : Value) : Option ((Value → Prop) → Prop) :=
  match P.underlying t, x, i with
  | some .string, .string s, .int _ j => some fun K => chk (decide (0 ≤ j) && decide (j < (s.size : Int))) (K (.int .u8 (sbyte s j)))
  | some (.array n e), .agg cs, .int _ j => match sz? P e, (P.underlying e).bind scalarC with
    | some z, some c => some fun K => chk (decide (0 ≤ j) && decide (j < (n : Int))) (c.ex fun v => cs[j.toNat * z]? = some v ∧ K v)
    | _, _ => none
  | _, _, _ => none
def specialSl (P : Program) (t : TypeId) (x : Value) (lo hi mx : Option Value) : Option ((Value → Prop) → Prop) :=
  match mx, P.underlying t, x with
  | none, some .string, .string s => match bnd lo 0, bnd hi s.size with
    | some l, some h => some fun K => chk (decide (0 ≤ h) && decide (h ≤ (s.size : Int))) (chk (decide (0 ≤ l) && decide (l ≤ h)) (K (.string (s.extract l.toNat h.toNat))))
    | _, _ => none
  | none, some (.slice e), .slice p n c => match bnd lo 0, bnd hi n, sz? P e with
    | some l, some h, some z => some fun K => chk (decide (0 ≤ h) && decide (h ≤ (c : Int))) (chk (decide (0 ≤ l) && decide (l ≤ h)) (K (.slice (if c = l.toNat then p else p.map (·.add (l.toNat * z))) (h.toNat - l.toNat) (c - l.toNat))))
    | _, _, _ => none
  | none, some (.array n e), .pointer p => match bnd lo 0, bnd hi n, sz? P e with
    | some l, some h, some z => some fun K => NN p fun a => chk (decide (0 ≤ h) && decide (h ≤ (n : Int))) (chk (decide (0 ≤ l) && decide (l ≤ h)) (K (.slice (some (if n = l.toNat then a else a.add (l.toNat * z))) (h.toNat - l.toNat) (n - l.toNat))))
    | _, _, _ => none
  | _, _, _ => none
theorem specialIA_run {P : Program} {t : TypeId} {x i : Value} {f : (Value → Prop) → Prop} {K : Value → Prop} (hf : specialIA P t x i = some f) (h : f K) :
    ∃ v, (∀ w, (Instr.indexAt t x i).run P w = .ok v w) ∧ K v := by
  unfold specialIA at hf
  split at hf <;> try cases hf
  · rename_i e p n c k j hu
    split at hf <;> cases hf
    rename_i z hz
    obtain ⟨a, rfl, h⟩ := NN_ex h
    simp only [chk_iff, Bool.and_eq_true, decide_eq_true_eq] at h
    exact ⟨_, fun w => by simp [Instr.indexAt, asIntOf, run_underlying hu, h.1, sz_run hz, go_sem], h.2⟩
  · rename_i n e p k j hu
    split at hf <;> cases hf
    rename_i z hz
    obtain ⟨a, rfl, h⟩ := NN_ex h
    simp only [chk_iff, Bool.and_eq_true, decide_eq_true_eq] at h
    exact ⟨_, fun w => by simp [Instr.indexAt, Instr.sureAddr, asIntOf, run_underlying hu, h.1, sz_run hz, go_sem], h.2⟩
theorem specialIA_mono {P : Program} {t : TypeId} {x i : Value} {f : (Value → Prop) → Prop} {K K' : Value → Prop} (hk : ∀ v, K v → K' v) (hf : specialIA P t x i = some f) (h : f K) : f K' := by
  unfold specialIA at hf
  split at hf <;> try cases hf
  all_goals
    split at hf <;> cases hf
    obtain ⟨a, rfl, h⟩ := NN_ex h
    simp only [NN, chk_iff] at *
    exact ⟨h.1, hk _ h.2⟩
theorem isAgg_scalar {P : Program} {e : TypeId} {c : Cell} (h : (P.underlying e).bind scalarC = some c) (w : World) : (isAgg e).run P w = .ok false w := by
  cases hu : P.underlying e with
  | none => simp [hu] at h
  | some d => cases d <;> simp [hu, scalarC] at h <;> simp [isAgg, run_underlying hu]
theorem specialIx_run {P : Program} {t : TypeId} {x i : Value} {f : (Value → Prop) → Prop} {K : Value → Prop} (hf : specialIx P t x i = some f) (h : f K) :
    ∃ v, (∀ w, (Instr.index t x i).run P w = .ok v w) ∧ K v := by
  unfold specialIx at hf
  split at hf <;> try cases hf
  · rename_i s k j hu
    simp only [chk_iff, Bool.and_eq_true, decide_eq_true_eq] at h
    refine ⟨_, fun w => ?_, h.2⟩
    simp [Instr.index, asIntOf, run_underlying hu, h.1, sbyte]
    rfl
  · rename_i n e cs k j hu
    split at hf <;> cases hf
    rename_i z c hz hc
    simp only [chk_iff, Bool.and_eq_true, decide_eq_true_eq] at h
    obtain ⟨v, hv, h2⟩ := Cell.ex_imp h.2
    exact ⟨v, fun w => by simp [Instr.index, asIntOf, run_underlying hu, h.1, sz_run hz, part, isAgg_scalar hc, hv], h2⟩
theorem specialIx_mono {P : Program} {t : TypeId} {x i : Value} {f : (Value → Prop) → Prop} {K K' : Value → Prop} (hk : ∀ v, K v → K' v) (hf : specialIx P t x i = some f) (h : f K) : f K' := by
  unfold specialIx at hf
  split at hf <;> try cases hf
  · simp only [chk_iff] at *
    exact ⟨h.1, hk _ h.2⟩
  · split at hf <;> cases hf
    simp only [chk_iff] at *
    exact ⟨h.1, Cell.ex_mono (fun v h => ⟨h.1, hk _ h.2⟩) h.2⟩
theorem bound_run {P : Program} {k : IntKind} {i : Int} {y : Nat} {code : BoundsCode} (h : 0 ≤ i ∧ i ≤ (y : Int)) (w : World) : (Instr.sliceBound (.int k i) y code).run P w = .ok i.toNat w := by
  simp [Instr.sliceBound, asIntOf, h]
theorem bounds_run {P : Program} {b : Bool} {len cap : Nat} {lo hi : Option Value} {l h : Int} (hl : bnd lo 0 = some l) (hh : bnd hi len = some h) (h1 : 0 ≤ h ∧ h ≤ (cap : Int)) (h2 : 0 ≤ l ∧ l ≤ h) (w : World) :
    (Instr.sliceBounds b len cap lo hi none).run P w = .ok (l.toNat, h.toNat, cap) w := by
  have e : (h.toNat : Int) = h := Int.toNat_of_nonneg h1.1
  cases lo with
  | none =>
    simp only [bnd, Option.some.injEq] at hl
    subst hl
    cases hi with
    | none =>
      simp only [bnd, Option.some.injEq] at hh
      subst hh
      simp [Instr.sliceBounds]
    | some v =>
      cases v <;> simp only [bnd, Option.some.injEq, reduceCtorEq] at hh
      subst hh
      simp [Instr.sliceBounds, bound_run h1]
  | some u =>
    cases u <;> simp only [bnd, Option.some.injEq, reduceCtorEq] at hl
    subst hl
    cases hi with
    | none =>
      simp only [bnd, Option.some.injEq] at hh
      subst hh
      simp [Instr.sliceBounds, bound_run h2]
    | some v =>
      cases v <;> simp only [bnd, Option.some.injEq, reduceCtorEq] at hh
      subst hh
      have h3 := h2
      rw [← e] at h3
      simp [Instr.sliceBounds, bound_run h1, bound_run h3]
theorem specialSl_run {P : Program} {t : TypeId} {x : Value} {lo hi mx : Option Value} {f : (Value → Prop) → Prop} {K : Value → Prop} (hf : specialSl P t x lo hi mx = some f) (h : f K) :
    ∃ v, (∀ w, (Instr.sliceAt t x lo hi mx).run P w = .ok v w) ∧ K v := by
  unfold specialSl at hf
  split at hf <;> try cases hf
  · rename_i s hu
    split at hf <;> cases hf
    rename_i l h' hl hh
    simp only [chk_iff, Bool.and_eq_true, decide_eq_true_eq] at h
    exact ⟨_, fun w => by simp [Instr.sliceAt, Instr.slice, run_underlying hu, bounds_run hl hh h.1 h.2.1], h.2.2⟩
  · rename_i e p n c hu
    split at hf <;> cases hf
    rename_i l h' z hl hh hz
    simp only [chk_iff, Bool.and_eq_true, decide_eq_true_eq] at h
    exact ⟨_, fun w => by simp [Instr.sliceAt, Instr.slice, run_underlying hu, bounds_run hl hh h.1 h.2.1, sz_run hz], h.2.2⟩
  · rename_i n e p hu
    split at hf <;> cases hf
    rename_i l h' z hl hh hz
    obtain ⟨a, rfl, h⟩ := NN_ex h
    simp only [chk_iff, Bool.and_eq_true, decide_eq_true_eq] at h
    exact ⟨_, fun w => by simp [Instr.sliceAt, Instr.sureAddr, run_underlying hu, bounds_run hl hh h.1 h.2.1, sz_run hz], h.2.2⟩
theorem specialSl_mono {P : Program} {t : TypeId} {x : Value} {lo hi mx : Option Value} {f : (Value → Prop) → Prop} {K K' : Value → Prop} (hk : ∀ v, K v → K' v) (hf : specialSl P t x lo hi mx = some f) (h : f K) : f K' := by
  unfold specialSl at hf
  split at hf <;> try cases hf
  · split at hf <;> cases hf
    simp only [chk_iff] at *
    exact ⟨h.1, h.2.1, hk _ h.2.2⟩
  · split at hf <;> cases hf
    simp only [chk_iff] at *
    exact ⟨h.1, h.2.1, hk _ h.2.2⟩
  · split at hf <;> cases hf
    obtain ⟨a, rfl, h⟩ := NN_ex h
    simp only [NN, chk_iff] at *
    exact ⟨h.1, h.2.1, hk _ h.2.2⟩
def specialPick (c a b : Value) : Option ((Value → Prop) → Prop) :=
  match c, a, b with
  | .bool t, .bool x, .bool y => some fun K => K (.bool (cond t x y))
  | .bool t, .int k x, .int k' y => some fun K => chk (decide (k = k')) (K (.int k (cond t x y)))
  | _, _, _ => none
theorem specialPick_run {P : Program} {c a b : Value} {f : (Value → Prop) → Prop} {K : Value → Prop} (hf : specialPick c a b = some f) (h : f K) :
    ∃ v, (∀ w, (do pure (if ← asBool c then a else b) : Sem Value).run P w = .ok v w) ∧ K v := by
  unfold specialPick at hf
  split at hf <;> cases hf
  · rename_i t x y
    exact ⟨_, fun w => by cases t <;> simp [asBool], h⟩
  · rename_i t k x k' y
    simp only [chk_iff, decide_eq_true_eq] at h
    obtain ⟨rfl, h⟩ := h
    exact ⟨_, fun w => by cases t <;> simp [asBool], h⟩
theorem specialPick_mono {c a b : Value} {f : (Value → Prop) → Prop} {K K' : Value → Prop} (hk : ∀ v, K v → K' v) (hf : specialPick c a b = some f) (h : f K) : f K' := by
  unfold specialPick at hf
  split at hf <;> cases hf
  · exact hk _ h
  · simp only [chk_iff] at *
    exact ⟨h.1, hk _ h.2⟩
def specialNil (x : Value) : Option ((Value → Prop) → Prop) :=
  match x with
  | .pointer p => some fun K => NN p fun a => K (.pointer (some a))
  | _ => none
noncomputable def special (P : Program) (o : Op) (ρ : Operand → Value) : Option ((Value → Prop) → Prop) :=
  match o with
  | .nilCheck x => specialNil (ρ x)
  | .binOp op t x y _ => specialBin P t op (ρ x) (ρ y)
  | .indexAddr t x i => specialIA P t (ρ x) (ρ i)
  | .index t x i => specialIx P t (ρ x) (ρ i)
  | .slice t x lo hi mx => specialSl P t (ρ x) (lo.map ρ) (hi.map ρ) (mx.map ρ)
  | .pick c a b => specialPick (ρ c) (ρ a) (ρ b)
  | _ => none
theorem special_run {P : Program} {o : Oper} {ρ : Operand → Value} {f : (Value → Prop) → Prop} {K : Value → Prop} (hf : special P o.op ρ = some f) (h : f K) :
    ∃ v, (∀ w, (execOp ρ o).run P w = .ok (.value v) w) ∧ K v := by
  obtain ⟨dst, op, type, pos, after, guard⟩ := o
  unfold special at hf
  split at hf <;> try cases hf
  · rename_i x hx
    simp only at hx
    subst hx
    unfold specialNil at hf
    split at hf <;> cases hf
    rename_i p hp
    obtain ⟨a, rfl, h⟩ := NN_ex h
    exact ⟨_, fun w => by simp [execOp, hp], h⟩
  · rename_i op' t x y yt hx
    simp only at hx
    subst hx
    obtain ⟨v, h1, h2⟩ := specialBin_run x y hf h
    exact ⟨v, fun w => run_value (h1 w), h2⟩
  · rename_i t x i hx
    simp only at hx
    subst hx
    obtain ⟨v, h1, h2⟩ := specialIA_run hf h
    exact ⟨v, fun w => run_value (h1 w), h2⟩
  · rename_i t x i hx
    simp only at hx
    subst hx
    obtain ⟨v, h1, h2⟩ := specialIx_run hf h
    exact ⟨v, fun w => run_value (h1 w), h2⟩
  · rename_i t x lo hi mx hx
    simp only at hx
    subst hx
    obtain ⟨v, h1, h2⟩ := specialSl_run hf h
    exact ⟨v, fun w => run_value (h1 w), h2⟩
  · rename_i c a b hx
    simp only at hx
    subst hx
    obtain ⟨v, h1, h2⟩ := specialPick_run (P := P) hf h
    refine ⟨v, fun w => ?_, h2⟩
    have := h1 w
    cases hc : ρ c <;> simp [hc, asBool, execOp] at this ⊢ <;> simp_all
theorem special_mono {P : Program} {o : Op} {ρ : Operand → Value} {f : (Value → Prop) → Prop} {K K' : Value → Prop} (hk : ∀ v, K v → K' v) (hf : special P o ρ = some f) (h : f K) : f K' := by
  unfold special at hf
  split at hf <;> try cases hf
  · unfold specialNil at hf
    split at hf <;> cases hf
    obtain ⟨a, rfl, h⟩ := NN_ex h
    exact hk _ h
  · exact specialBin_mono hk hf h
  · exact specialIA_mono hk hf h
  · exact specialIx_mono hk hf h
  · exact specialSl_mono hk hf h
  · exact specialPick_mono hk hf h
def updS (t : TypeId) (m k x : Value) : Sem Value := do Instr.mapUpdate t m k x; pure undef
def rawOf (P : Program) (o : Oper) (ρ : Operand → Value) : Option (Sem Value × Cell) :=
  match o.op with
  | .makeSlice t l c => some (Instr.makeSlice t (ρ l) (ρ c), .slice)
  | .buildSlice t len parts => match Nat.ble 30 len with
    | true => some (Instr.buildSlice t len (parts.map fun (i, x) => (i, ρ x)), .slice)
    | false => none
  | .lookup t x i ok => match ok with
    | true => some (Instr.lookup t (ρ x) (ρ i) true, .any)
    | false => some (Instr.lookup t (ρ x) (ρ i) false, match P.underlying t with | some (.map _ e) => ((P.underlying e).bind scalarC).getD .any | _ => .any)
  | .mapUpdate t m k x => some (updS t (ρ m) (ρ k) (ρ x), .any)
  | .insert t m k x => some (updS t (ρ m) (ρ k) (ρ x), .any)
  | .makeMap t r => some (Instr.makeMap t (r.map ρ), .map)
  | .convert s d x => match P.underlying s, P.underlying d with
    | some (.slice _), some .string => some (convert s d (ρ x), .str)
    | some .string, some (.slice _) => some (convert s d (ρ x), .slice)
    | _, _ => none
  | .call c => match c.callee with
    | .builtin .append => some (Builtin.append_ c.argTypes o.type (c.args.map ρ), .slice)
    | .builtin .copy => some (Builtin.copy_ c.argTypes o.type (c.args.map ρ), .int .i64)
    | _ => none
  | .range t x => match P.underlying t with
    | some .string => some (Instr.range t (ρ x), .ptr)
    | _ => none
  | .next it b => match b with
    | true => some (Instr.next (ρ it) true o.type, .rune)
    | false => none
  | _ => none
def bigT (P : Program) (t : TypeId) : Bool := match P.info? t with | some i => Nat.ble 200 i.size | none => false
def midT (P : Program) (t : TypeId) : Bool := match P.info? t with | some i => Nat.ble 12 i.size | none => false
def stS (t : TypeId) (a x : Value) : Sem Value := do Instr.storeAt t a x; pure undef
def eqS (op : BinOp) (t : TypeId) (x y : Operand) (u v : Value) : Sem Value := do eqGuard op t x y u v; binOp op t u v
def rawBig (P : Program) (o : Oper) (ρ : Operand → Value) : Option (Sem Value × Cell) :=
  match o.op with
  | .load t a => match midT P t with | true => some (Instr.loadAt t (ρ a), .any) | false => none
  | .store t a x => match midT P t with | true => some (stS t (ρ a) (ρ x), .any) | false => none
  | .alloc t => match bigT P t with | true => some (Instr.alloc t true (.tuple #[]), .blk) | false => none
  | .index t x i => match midT P t, P.underlying t with
    | true, some (.array _ e) => match (P.underlying e).bind scalarC with
      | some c => some (Instr.index t (ρ x) (ρ i), c)
      | none => none
    | _, _ => none
  | .build t parts => match bigT P t with | true => some (Instr.build t (parts.map fun (i, x) => (i, ρ x)), .any) | false => none
  | .box t x => match bigT P t with | true => some (Instr.box t (ρ x), .blk) | false => none
  | .binOp op t x y _ => match bigT P t with | true => some (eqS op t x y (ρ x) (ρ y), .bool) | false => none
  | _ => none
theorem rawBig_run {P : Program} {o : Oper} {ρ : Operand → Value} {s : Sem Value} {c : Cell} {w w' : World} {v : Value} (hf : rawBig P o ρ = some (s, c)) (h : s.run P w = .ok v w') :
    ∃ n, (execOp ρ o).run P w = .ok n w' ∧ (n = .value v ∨ (n = .skip ∧ v = undef)) := by
  obtain ⟨dst, op, type, pos, after, guard⟩ := o
  unfold rawBig at hf
  split at hf <;> rename_i hx <;> simp only at hx <;> (try cases hf) <;> (try subst hx)
  · split at hf <;> cases hf <;> exact ⟨_, run_value h, .inl rfl⟩
  · rename_i t a x
    split at hf <;> cases hf
    refine ⟨.skip, ?_, .inr ⟨rfl, ?_⟩⟩
    all_goals
      cases hr : (Instr.storeAt t (ρ a) (ρ x)).run P w <;> simp [stS, hr] at h
    · simp [execOp, hr, h]
    · exact h.1.symm
  · split at hf <;> cases hf <;> exact ⟨_, run_value h, .inl rfl⟩
  · split at hf <;> try cases hf
    split at hf <;> cases hf <;> exact ⟨_, run_value h, .inl rfl⟩
  · split at hf <;> cases hf <;> exact ⟨_, run_value h, .inl rfl⟩
  · split at hf <;> cases hf <;> exact ⟨_, run_value h, .inl rfl⟩
  · split at hf <;> cases hf <;> exact ⟨_, run_value h, .inl rfl⟩
def dynCall (o : Oper) (ρ : Operand → Value) : Option (Value × Array Value) :=
  match o.op with
  | .call c => match c.callee with
    | .value f => match f with
      | .tmp n => some (ρ (.tmp n), c.args.map ρ)
      | _ => none
    | _ => none
  | _ => none
def dynNil (P : Program) (o : Oper) (ρ : Operand → Value) : Option Value :=
  match o.op with
  | .nilCheck x => match P.underlying o.type with
    | some (.func _ _ _) => some (ρ x)
    | _ => none
  | _ => none
def bodied (P : Program) (k : FuncId) : Bool := match P.funcs[k]? with | some fn => !(fn.name == "runtime.NumGoroutine") && fn.body.isSome | none => false
def VCall (P : Program) (f : Value) (args : Array Value) (w : World) (R : Ending → World → Prop) : Prop := ∃ k caps, f = .func (.func k) #[] caps ∧ bodied P k = true ∧ Calls P k (args ++ caps) w R
def VNil (f : Value) (K : Prop) : Prop := (∃ k fs caps, f = .func (.func k) fs caps) ∧ K
def retEx (P : Program) (t : TypeId) (K : Value → Prop) : Prop :=
  match P.underlying t with
  | some (.tuple ts) => shapesEx (ts.toList.map (shapeT P)) fun vs => K (.tuple vs.toArray)
  | _ => (shapeT P t).ex K
theorem retEx_imp {P : Program} {t : TypeId} {K : Value → Prop} (h : retEx P t K) : ∃ v, K v := by
  unfold retEx at h
  split at h
  · exact let ⟨_, h⟩ := shapesEx_imp h; ⟨_, h⟩
  · exact Shape.ex_imp h
theorem retEx_mono {P : Program} {t : TypeId} {K K' : Value → Prop} (hk : ∀ v, K v → K' v) (h : retEx P t K) : retEx P t K' := by
  unfold retEx at *
  split at h
  · exact shapesEx_mono (fun _ h => hk _ h) h
  · exact Shape.ex_mono hk h
theorem dynNil_run {P : Program} {o : Oper} {ρ : Operand → Value} {v : Value} {K : Prop} {w : World} (hf : dynNil P o ρ = some v) (h : VNil v K) : (execOp ρ o).run P w = .ok (.value v) w ∧ K := by
  obtain ⟨dst, op, type, pos, after, guard⟩ := o
  unfold dynNil at hf
  split at hf <;> rename_i hx <;> simp only at hx <;> (try cases hf) <;> (try subst hx)
  split at hf <;> cases hf
  rename_i x _
  obtain ⟨⟨k, fs, caps, e⟩, hK⟩ := h
  exact ⟨by simp [execOp, e], hK⟩
theorem dynCall_run {P : Program} {o : Oper} {ρ : Operand → Value} {v : Value} {args caps : Array Value} {k : FuncId} {w : World} (hf : dynCall o ρ = some (v, args)) (hv : v = .func (.func k) #[] caps) (hb : bodied P k = true) :
    (execOp ρ o).run P w = .ok (.enter k (args ++ caps)) w := by
  obtain ⟨dst, op, type, pos, after, guard⟩ := o
  unfold dynCall at hf
  split at hf <;> rename_i hx <;> simp only at hx <;> (try cases hf) <;> (try subst hx)
  rename_i cl
  obtain ⟨callee, cargs, argTypes⟩ := cl
  simp only at hf
  split at hf <;> rename_i hc <;> (try cases hf) <;> (try subst hc)
  split at hf <;> cases hf
  unfold bodied at hb
  split at hb
  · rename_i fn hfn
    simp only [Bool.and_eq_true, Bool.not_eq_true'] at hb
    have hp : ∀ w, (program).run P w = .ok P w := fun _ => rfl
    obtain ⟨hn1, hn2⟩ := hb
    have hn1' : ¬ fn.name = "runtime.NumGoroutine" := by simpa using hn1
    have hn : ¬ fn.body = none := by
      intro h; rw [h] at hn2; cases hn2
    have hc : (callFunc k (cargs.map ρ ++ caps)).run P w = .ok (.enter k (cargs.map ρ ++ caps)) w := by
      simp [callFunc, hp, hfn, hn1', hn]
    simp [execOp, resolve, Deferred.ofValue, invoke, hv, hc]
  · cases hb
def Raw (P : Program) (s : Sem Value) (c : Cell) (w : World) (K : Value → World → Prop) : Prop := c.ex fun v => ∃ w', s.run P w = .ok v w' ∧ K v w'
theorem rawOf_run {P : Program} {o : Oper} {ρ : Operand → Value} {s : Sem Value} {c : Cell} {w w' : World} {v : Value} (hf : rawOf P o ρ = some (s, c)) (h : s.run P w = .ok v w') :
    ∃ n, (execOp ρ o).run P w = .ok n w' ∧ (n = .value v ∨ (n = .skip ∧ v = undef)) := by
  obtain ⟨dst, op, type, pos, after, guard⟩ := o
  unfold rawOf at hf
  split at hf <;> rename_i hx <;> simp only at hx <;> (try cases hf) <;> (try subst hx)
  · exact ⟨_, run_value h, .inl rfl⟩
  · split at hf <;> cases hf <;> exact ⟨_, run_value h, .inl rfl⟩
  · split at hf <;> cases hf <;> exact ⟨_, run_value h, .inl rfl⟩
  · rename_i t m k x
    refine ⟨.skip, ?_, .inr ⟨rfl, ?_⟩⟩
    all_goals
      cases hr : (Instr.mapUpdate t (ρ m) (ρ k) (ρ x)).run P w <;> simp [updS, hr] at h
    · simp [execOp, hr, h]
    · exact h.1.symm
  · rename_i t m k x
    refine ⟨.skip, ?_, .inr ⟨rfl, ?_⟩⟩
    all_goals
      cases hr : (Instr.mapUpdate t (ρ m) (ρ k) (ρ x)).run P w <;> simp [updS, hr] at h
    · simp [execOp, hr, h]
    · exact h.1.symm
  · exact ⟨_, run_value h, .inl rfl⟩
  · split at hf <;> cases hf <;> exact ⟨_, run_value h, .inl rfl⟩
  · rename_i cl
    obtain ⟨callee, args, argTypes⟩ := cl
    simp only at hf
    split at hf <;> try cases hf
    · subst_vars
      refine ⟨_, ?_, .inl rfl⟩
      simp [execOp, resolve, invoke, builtin, h]
    · subst_vars
      refine ⟨_, ?_, .inl rfl⟩
      simp [execOp, resolve, invoke, builtin, h]
  · split at hf <;> cases hf <;> exact ⟨_, run_value h, .inl rfl⟩
  · split at hf <;> cases hf <;> exact ⟨_, run_value h, .inl rfl⟩
abbrev Fr := List (Option Value)
def fget : Fr → Nat → Option Value
  | [], _ => none
  | v :: _, 0 => v
  | _ :: l, n + 1 => fget l n
def fset : Fr → Nat → Option Value → Fr
  | [], _, _ => []
  | _ :: l, 0, v => v :: l
  | x :: l, n + 1, v => x :: fset l n v
theorem fset_length : ∀ (L : Fr) (n : Nat) (v : Option Value), (fset L n v).length = L.length
  | [], _, _ => rfl
  | _ :: _, 0, _ => rfl
  | _ :: l, n + 1, v => by simp [fset, fset_length l n v]
theorem fget_fset : ∀ (L : Fr) (n k : Nat) (v : Option Value), fget (fset L n v) k = if k = n ∧ n < L.length then v else fget L k
  | [], _, _, _ => by simp [fset]
  | _ :: _, 0, 0, _ => by simp [fset, fget]
  | _ :: _, 0, k + 1, _ => by simp [fset, fget]
  | _ :: _, n + 1, 0, _ => by simp [fset, fget]
  | _ :: l, n + 1, k + 1, v => by simp [fset, fget, fget_fset l n k v]
def fput (L : Fr) (dst : Option Tmp) (v : Value) : Fr :=
  match dst with
  | some d => fset L d (some v)
  | none => L
structure Fits (L : Fr) (a : Act) : Prop where
  len : L.length = a.tmps.size
  val : ∀ k v, fget L k = some v → a.tmps[k]? = some v
  defs : a.defers = []
theorem Fits.put {L : Fr} {a : Act} (h : Fits L a) (dst : Option Tmp) (v : Value) : Fits (fput L dst v) (a.put dst v) := by
  cases dst with
  | none => exact h
  | some d =>
    refine ⟨by simp [fput, fset_length, Act.put, h.len], fun k u hk => ?_, h.defs⟩
    simp only [fput, fget_fset] at hk
    simp only [Act.put]
    split at hk
    · rename_i hc
      obtain ⟨rfl, hd⟩ := hc
      cases hk
      rw [Array.getElem?_setIfInBounds_self_of_lt (by rw [← h.len]; exact hd)]
    · rename_i hc
      have := h.val k u hk
      by_cases hkd : d = k
      · subst hkd
        have hlt : d < a.tmps.size := by
          rcases Nat.lt_or_ge d a.tmps.size with h' | h'
          · exact h'
          · simp [Array.getElem?_eq_none h'] at this
        exact absurd ⟨rfl, by rw [h.len]; exact hlt⟩ hc
      · rw [Array.getElem?_setIfInBounds_ne hkd]; exact this
theorem Fits.set {L : Fr} {a : Act} (h : Fits L a) (d : Nat) (v : Option Value) (hv : ∀ u, v = some u → a.tmps[d]? = some u) : Fits (fset L d v) a := by
  refine ⟨by simp [fset_length, h.len], fun k u hk => ?_, h.defs⟩
  rw [fget_fset] at hk
  split at hk
  · rename_i hc
    rw [hc.1]; exact hv u hk
  · exact h.val k u hk
def rho (L : Fr) : Operand → Value
  | .tmp t => (fget L t).getD undef
  | .const v => v
  | .global g => .pointer (some ⟨g, 0, none⟩)
  | .func f => .func (.func f) #[] #[]
def known (L : Fr) : Operand → Bool
  | .tmp t => (fget L t).isSome
  | _ => true
theorem Fits.eval {L : Fr} {a : Act} (h : Fits L a) {x : Operand} (hx : known L x = true) : a.eval x = rho L x := by
  cases x with
  | tmp t =>
    simp only [known, Option.isSome_iff_exists] at hx
    obtain ⟨v, hv⟩ := hx
    have := h.val t v hv
    simp only [Act.eval, rho, hv, Option.getD_some, Array.getD_eq_getD_getElem?, this]
  | const v => rfl
  | global g => rfl
  | func f => rfl
def allKnown (L : Fr) : List Operand → Bool
  | [] => true
  | x :: l => cond (known L x) (allKnown L l) false
theorem allKnown_spec {L : Fr} : ∀ {l : List Operand}, allKnown L l = true → ∀ x ∈ l, known L x = true
  | [], _, _, hx => by cases hx
  | y :: l, h, x, hx => by
    have h' : cond (known L y) (allKnown L l) false = true := h
    cases hy : known L y with
    | false => rw [hy] at h'; cases h'
    | true =>
      rw [hy] at h'
      rcases List.mem_cons.1 hx with rfl | hx
      · exact hy
      · exact allKnown_spec h' x hx
def isSelect : Op → Bool
  | .select _ _ => true
  | _ => false
theorem Fits.exec {L : Fr} {a : Act} (h : Fits L a) {o : Oper} (hx : allKnown L o.op.operands.toList = true) (hs : isSelect o.op = false) : execOp a.eval o = execOp (rho L) o :=
  execOp_congr o (fun cs b e => by rw [e] at hs; cases hs) fun x hm => h.eval (allKnown_spec hx x (by simpa using hm))
def resEx (P : Program) (f : FuncId) (K : Value → Prop) : Prop :=
  match P.funcs[f]? with
  | none => False
  | some fn => shapesEx (fn.resultTypes.toList.map (shapeT P)) fun vs => K (match vs with | [v] => v | vs => .tuple vs.toArray)
theorem resEx_imp {P : Program} {f : FuncId} {K : Value → Prop} (h : resEx P f K) : ∃ v, K v := by
  unfold resEx at h
  split at h
  · exact h.elim
  · exact let ⟨_, h⟩ := shapesEx_imp h; ⟨_, h⟩
theorem resEx_mono {P : Program} {f : FuncId} {K K' : Value → Prop} (hk : ∀ v, K v → K' v) (h : resEx P f K) : resEx P f K' := by
  revert h
  unfold resEx
  cases P.funcs[f]? with
  | none => exact id
  | some fn => exact shapesEx_mono (fun _ h => hk _ h)
def nextK (P : Program) (K : Value → World → Prop) : Next → World → Prop
  | .value v, w => K v w
  | .skip, w => K undef w
  | .enter f args, w => Calls P f args w fun e w' => resEx P f fun v => e = .returned v ∧ K v w'
  | _, _ => False
def hints (P : Program) : Op → List Cell
  | .load t _ => cellsT P 8 t
  | _ => []
def opVC (P : Program) (o : Oper) (ρ : Operand → Value) (w : World) (K : Value → World → Prop) : Prop :=
  match rawBig P o ρ with
  | some (s, c) => Raw P s c w K
  | none => match dynCall o ρ with
    | some (f, args) => VCall P f args w fun e w' => retEx P o.type fun v => e = .returned v ∧ K v w'
    | none => match dynNil P o ρ with
      | some v => VNil v (K v w)
      | none => match special P o.op ρ with
        | some f => f fun v => K v w
        | none => match rawOf P o ρ with
          | some (s, c) => Raw P s c w K
          | none => semWP P (execOp ρ o) (hints P o.op) w (nextK P K)
theorem nextK_mono {P : Program} {K K' : Value → World → Prop} (hk : ∀ v w, K v w → K' v w) (n : Next) (w : World) (h : nextK P K n w) : nextK P K' n w := by
  cases n <;> simp only [nextK] at * <;> first | exact hk _ _ h | exact h.elim | skip
  exact h.mono fun e w' h => resEx_mono (fun v ⟨h1, h2⟩ => ⟨h1, hk _ _ h2⟩) h
theorem opVC_mono {P : Program} {o : Oper} {ρ : Operand → Value} {w : World} {K K' : Value → World → Prop} (hk : ∀ v w, K v w → K' v w) (h : opVC P o ρ w K) : opVC P o ρ w K' := by
  unfold opVC at *
  split at h
  · exact Cell.ex_mono (fun v ⟨w', h1, h2⟩ => ⟨w', h1, hk _ _ h2⟩) h
  split at h
  · obtain ⟨k, caps, h1, h2, h3⟩ := h
    exact ⟨k, caps, h1, h2, h3.mono fun e w' h => retEx_mono (fun v ⟨h1, h2⟩ => ⟨h1, hk _ _ h2⟩) h⟩
  split at h
  · exact ⟨h.1, hk _ _ h.2⟩
  split at h
  · rename_i f hf; exact special_mono (fun v h => hk v w h) hf h
  · split at h
    · exact Cell.ex_mono (fun v ⟨w', h1, h2⟩ => ⟨w', h1, hk _ _ h2⟩) h
    · exact semWP_mono _ (nextK_mono hk) h
theorem opVC_wp {P : Program} {o : Oper} {a : Act} {ρ : Operand → Value} {w : World} {K : Value → World → Prop} {next : Act → World → Prop} {Q : Exit → Act → World → Prop}
    (he : execOp a.eval o = execOp ρ o) (h : opVC P o ρ w K) (hn : ∀ v w', K v w' → next (a.put o.dst v) w') : o.wp P a w next Q := by
  unfold Oper.wp
  rw [he]
  unfold opVC at h
  split at h
  · rename_i s c hr
    obtain ⟨v, w', h1, h2⟩ := Cell.ex_imp h
    obtain ⟨n, hn1, hn2⟩ := rawBig_run hr h1
    rw [hn1]
    rcases hn2 with rfl | ⟨rfl, rfl⟩
    · exact hn _ _ h2
    · exact hn _ _ h2
  split at h
  · rename_i f args hd
    obtain ⟨k, caps, h1, h2, h3⟩ := h
    rw [dynCall_run hd h1 h2]
    simp only [Oper.upon]
    refine h3.mono fun e w'' h => ?_
    obtain ⟨v, he', h'⟩ := retEx_imp h
    subst he'
    exact hn _ _ h'
  split at h
  · rename_i v hd
    obtain ⟨h1, h2⟩ := dynNil_run (w := w) hd h
    rw [h1]
    exact hn _ _ h2
  split at h
  · rename_i f hf
    obtain ⟨v, h1, h2⟩ := special_run hf h
    rw [h1 w]
    exact hn _ _ h2
  · split at h
    · rename_i s c hr
      obtain ⟨v, w', h1, h2⟩ := Cell.ex_imp h
      obtain ⟨n, hn1, hn2⟩ := rawOf_run hr h1
      rw [hn1]
      rcases hn2 with rfl | ⟨rfl, rfl⟩
      · exact hn _ _ h2
      · exact hn _ _ h2
    · obtain ⟨n, w', h1, h2⟩ := semWP_run _ h
      rw [h1]
      cases n <;> simp only [nextK] at h2 <;> first | exact hn _ _ h2 | exact h2.elim | skip
      simp only [Oper.upon]
      refine h2.mono fun e w'' h => ?_
      obtain ⟨v, he', h'⟩ := resEx_imp h
      subst he'
      exact hn _ _ h'
def opsW {σ : Type} (step : Oper → (Operand → Value) → σ → (Value → σ → Prop) → Prop) (ops : Array Oper) (K : Fr → σ → Prop) : List Oper → Fr → σ → Prop
  | [], L, s => K L s
  | o :: rest, L, s =>
    match o.guard with
    | none => cond (allKnown L o.op.operands.toList) (cond (isSelect o.op) False (step o (rho L) s fun v s' => opsW step ops K rest (fput L o.dst v) s')) False
    | some (j, want) => match (ops[j]?).bind (·.dst) with
      | none => False
      | some d => match fget L d with
        | some (.bool b) =>
          cond b
            (cond want (cond (allKnown (fset L d (some (.bool true))) o.op.operands.toList) (cond (isSelect o.op) False (step o (rho (fset L d (some (.bool true)))) s fun v s' => opsW step ops K rest (fput (fset L d (some (.bool true))) o.dst v) s')) False)
              (opsW step ops K rest (fput (fset L d (some (.bool true))) o.dst undef) s))
            (cond want (opsW step ops K rest (fput (fset L d (some (.bool false))) o.dst undef) s)
              (cond (allKnown (fset L d (some (.bool false))) o.op.operands.toList) (cond (isSelect o.op) False (step o (rho (fset L d (some (.bool false)))) s fun v s' => opsW step ops K rest (fput (fset L d (some (.bool false))) o.dst v) s')) False))
        | some (.tuple _) => opsW step ops K rest (fput L o.dst undef) s
        | _ => False
structure Walker (σ : Type) (P : Program) (ops : Array Oper) (step : Oper → (Operand → Value) → σ → (Value → σ → Prop) → Prop) (W : List Oper → Act → σ → Prop) : Prop where
  go : ∀ o rest a s ρ K, Region.wanted o (yielded ops a.tmps) = true → execOp a.eval o = execOp ρ o → step o ρ s K → (∀ v s', K v s' → W rest (a.put o.dst v) s') → W (o :: rest) a s
  no : ∀ o rest a s, Region.wanted o (yielded ops a.tmps) = false → W rest (a.put o.dst undef) s → W (o :: rest) a s
theorem yielded_of {ops : Array Oper} {a : Act} {j d : Nat} {v : Value} (hj : (ops[j]?).bind (·.dst) = some d) (hv : a.tmps[d]? = some v) : yielded ops a.tmps j = match v with | .bool b => some b | _ => none := by
  unfold yielded
  rw [hj]
  simp only [Option.bind_some, hv]
  cases v <;> rfl
theorem opsW_walk {σ : Type} {P : Program} {ops : Array Oper} {step : Oper → (Operand → Value) → σ → (Value → σ → Prop) → Prop} {W : List Oper → Act → σ → Prop} (hW : Walker σ P ops step W) {K : Fr → σ → Prop}
    (hnil : ∀ L a s, Fits L a → K L s → W [] a s) : ∀ (l : List Oper) (L : Fr) (a : Act) (s : σ), Fits L a → opsW step ops K l L s → W l a s
  | [], L, a, s, hF, h => hnil L a s hF h
  | o :: rest, L, a, s, hF, h => by
    have ih := opsW_walk hW hnil rest
    unfold opsW at h
    split at h
    · rename_i hg
      cases hk : allKnown L o.op.operands.toList <;> simp only [hk, cond_true, cond_false] at h
      cases hs : isSelect o.op <;> simp only [hs, cond_true, cond_false] at h
      exact hW.go o rest a s (rho L) _ (by simp [Region.wanted, hg]) (hF.exec hk hs) h fun v s' h' => ih _ _ _ (hF.put _ _) h'
    · rename_i j want hg
      split at h
      · exact h.elim
      · rename_i d hd
        split at h
        · rename_i b hb
          have hv := hF.val d _ hb
          have hy : yielded ops a.tmps j = some b := yielded_of hd hv
          cases b <;> simp only [cond_true, cond_false] at h
          · have hF' : Fits (fset L d (some (.bool false))) a := hF.set d _ (fun u e => by cases e; exact hv)
            cases want <;> simp only [cond_true, cond_false] at h
            · cases hk : allKnown (fset L d (some (.bool false))) o.op.operands.toList <;> simp only [hk, cond_true, cond_false] at h
              cases hs : isSelect o.op <;> simp only [hs, cond_true, cond_false] at h
              exact hW.go o rest a s _ _ (by simp [Region.wanted, hg, hy]) (hF'.exec hk hs) h fun v s' h' => ih _ _ _ (hF'.put _ _) h'
            · exact hW.no o rest a s (by simp [Region.wanted, hg, hy]) (ih _ _ _ (hF'.put _ _) h)
          · have hF' : Fits (fset L d (some (.bool true))) a := hF.set d _ (fun u e => by cases e; exact hv)
            cases want <;> simp only [cond_true, cond_false] at h
            · exact hW.no o rest a s (by simp [Region.wanted, hg, hy]) (ih _ _ _ (hF'.put _ _) h)
            · cases hk : allKnown (fset L d (some (.bool true))) o.op.operands.toList <;> simp only [hk, cond_true, cond_false] at h
              cases hs : isSelect o.op <;> simp only [hs, cond_true, cond_false] at h
              exact hW.go o rest a s _ _ (by simp [Region.wanted, hg, hy]) (hF'.exec hk hs) h fun v s' h' => ih _ _ _ (hF'.put _ _) h'
        · rename_i vs hb
          have hy : yielded ops a.tmps j = none := yielded_of hd (hF.val d _ hb)
          exact hW.no o rest a s (by simp [Region.wanted, hg, hy]) (ih _ _ _ (hF.put _ _) h)
        · exact h.elim
def Same (D : List Nat) (L L' : Fr) : Prop := L'.length = L.length ∧ ∀ k, k ∉ D → fget L' k = fget L k
theorem Same.refl (D : List Nat) (L : Fr) : Same D L L := ⟨rfl, fun _ _ => rfl⟩
theorem Same.trans {D : List Nat} {a b c : Fr} (h : Same D a b) (h' : Same D b c) : Same D a c := ⟨h'.1.trans h.1, fun k hk => (h'.2 k hk).trans (h.2 k hk)⟩
theorem Same.mono {D D' : List Nat} {a b : Fr} (h : Same D a b) (hd : ∀ k ∈ D, k ∈ D') : Same D' a b := ⟨h.1, fun k hk => h.2 k fun hm => hk (hd k hm)⟩
theorem Same.set {D : List Nat} {L : Fr} {d : Nat} {v : Option Value} (hd : d ∈ D) : Same D L (fset L d v) := ⟨fset_length _ _ _, fun k hk => by
  rw [fget_fset, if_neg]
  rintro ⟨rfl, _⟩
  exact hk hd⟩
theorem Same.put {D : List Nat} {L : Fr} {dst : Option Tmp} {v : Value} (hd : ∀ d, dst = some d → d ∈ D) : Same D L (fput L dst v) := by
  cases dst with
  | none => exact Same.refl _ _
  | some d => exact Same.set (hd d rfl)
def opDsts (ops : List Oper) : List Nat := ops.filterMap (·.dst)
def semQ {α : Type} (P : Program) : Sem α → List Cell → World → (α → Prop) → Prop
  | .pure a, _, _, K => K a
  | .load _ a k, hs, w, K => (hs.headD .any).ex fun v => w.cell? a = some v ∧ semQ P (k v) hs.tail w K
  | .program k, hs, w, K => semQ P (k P) hs w K
  | .mark _ k, hs, w, K => semQ P k hs w K
  | _, _, _, _ => False
theorem semQ_run {α : Type} {P : Program} {w : World} (s : Sem α) : ∀ {hs : List Cell} {K : α → Prop}, semQ P s hs w K → ∃ r, (∀ w', w'.heap = w.heap → s.run P w' = .ok r w') ∧ K r := by
  induction s with
  | pure a => exact fun h => ⟨_, fun _ _ => rfl, h⟩
  | load m a k ih =>
    intro hs K h
    obtain ⟨v, hv, h⟩ := Cell.ex_imp h
    obtain ⟨r, h1, h2⟩ := ih v h
    refine ⟨r, fun w' hw => ?_, h2⟩
    have : w'.cell? a = some v := by rw [← hv]; unfold World.cell?; rw [hw]
    simp only [Sem.run, this]; exact h1 w' hw
  | program k ih => exact fun h => ih _ h
  | mark m k ih => exact fun h => ih h
  | _ => exact fun h => h.elim
theorem semQ_mono {α : Type} {P : Program} {w : World} (s : Sem α) : ∀ {hs : List Cell} {K K' : α → Prop}, (∀ r, K r → K' r) → semQ P s hs w K → semQ P s hs w K' := by
  induction s with
  | pure a => exact fun hk h => hk _ h
  | load m a k ih => exact fun hk h => Cell.ex_mono (fun v ⟨h1, h2⟩ => ⟨h1, ih v hk h2⟩) h
  | program k ih => exact fun hk h => ih _ hk h
  | mark m k ih => exact fun hk h => ih hk h
  | _ => exact fun _ h => h.elim
def Dr (w : World) : World → Prop := fun w' => ∃ n, w' = w.drewN n
def Is (w : World) : World → Prop := fun w' => w' = w
def nextQ (P : Program) (C : World → Prop) (K : Value → Prop) : Next → Prop
  | .value v => K v
  | .enter f args => resEx P f fun v => (∀ w, C w → Calls P f args w fun e w' => e = .returned v ∧ C w') ∧ K v
  | _ => False
def opQ (P : Program) (C : World → Prop) (w : World) (o : Oper) (ρ : Operand → Value) (K : Value → Prop) : Prop :=
  match rawBig P o ρ with
  | some (s, c) => c.ex fun v => (∀ w, C w → s.run P w = .ok v w) ∧ K v
  | none => match dynCall o ρ with
    | some _ => False
    | none => match dynNil P o ρ with
      | some v => VNil v (K v)
      | none => match special P o.op ρ with
        | some f => f K
        | none => match rawOf P o ρ with
          | some (s, c) => c.ex fun v => (∀ w, C w → s.run P w = .ok v w) ∧ K v
          | none => semQ P (execOp ρ o) (hints P o.op) w (nextQ P C K)
theorem opQ_mono {P : Program} {C : World → Prop} {o : Oper} {ρ : Operand → Value} {w : World} {K K' : Value → Prop} (hk : ∀ v, K v → K' v) (h : opQ P C w o ρ K) : opQ P C w o ρ K' := by
  unfold opQ at *
  split at h
  · exact Cell.ex_mono (fun v ⟨h1, h2⟩ => ⟨h1, hk _ h2⟩) h
  split at h
  · exact h
  split at h
  · exact ⟨h.1, hk _ h.2⟩
  split at h
  · rename_i f hf; exact special_mono hk hf h
  · split at h
    · exact Cell.ex_mono (fun v ⟨h1, h2⟩ => ⟨h1, hk _ h2⟩) h
    · refine semQ_mono _ (fun n h => ?_) h
      cases n <;> simp only [nextQ] at * <;> first | exact hk _ h | exact h.elim | skip
      exact resEx_mono (fun v ⟨h1, h2⟩ => ⟨h1, hk _ h2⟩) h
theorem opQ_run {P : Program} {C : World → Prop} {w : World} (hC : ∀ w', C w' → w'.heap = w.heap) {o : Oper} {ρ : Operand → Value} {K : Value → Prop} (h : opQ P C w o ρ K) :
    ∃ v, (∀ w', C w' → (execOp ρ o).run P w' = .ok (.value v) w' ∨ ((execOp ρ o).run P w' = .ok .skip w' ∧ v = undef) ∨ ∃ f args, (execOp ρ o).run P w' = .ok (.enter f args) w' ∧ Calls P f args w' fun e w'' => e = .returned v ∧ C w'') ∧ K v := by
  unfold opQ at h
  split at h
  · rename_i s c hr
    obtain ⟨v, h1, h2⟩ := Cell.ex_imp h
    refine ⟨v, fun w' hw => ?_, h2⟩
    obtain ⟨n, hn1, hn2⟩ := rawBig_run hr (h1 w' hw)
    rcases hn2 with rfl | ⟨rfl, rfl⟩
    · exact .inl hn1
    · exact .inr (.inl ⟨hn1, rfl⟩)
  split at h
  · exact h.elim
  split at h
  · rename_i v hd
    exact ⟨v, fun w' _ => .inl (dynNil_run (w := w') hd h).1, h.2⟩
  split at h
  · rename_i f hf
    obtain ⟨v, h1, h2⟩ := special_run hf h
    exact ⟨v, fun w' _ => .inl (h1 w'), h2⟩
  · split at h
    · rename_i s c hr
      obtain ⟨v, h1, h2⟩ := Cell.ex_imp h
      refine ⟨v, fun w' hw => ?_, h2⟩
      obtain ⟨n, hn1, hn2⟩ := rawOf_run hr (h1 w' hw)
      rcases hn2 with rfl | ⟨rfl, rfl⟩
      · exact .inl hn1
      · exact .inr (.inl ⟨hn1, rfl⟩)
    · obtain ⟨n, h1, h2⟩ := semQ_run _ h
      cases n <;> simp only [nextQ] at h2 <;> first | exact h2.elim | skip
      · exact ⟨_, fun w' hw => .inl (h1 w' (hC w' hw)), h2⟩
      · obtain ⟨v, h3, h4⟩ := resEx_imp h2
        exact ⟨v, fun w' hw => .inr (.inr ⟨_, _, h1 w' (hC w' hw), h3 w' hw⟩), h4⟩
theorem walker_list {P : Program} {ops : Array Oper} {Q : Exit → Act → World → Prop} : Walker World P ops (fun o ρ w K => opVC P o ρ w K) (fun l a w => wpList P ops Q l a w) where
  go := fun o rest a w ρ K hw he h hn => by
    unfold wpList
    rw [if_pos hw]
    exact .inl (opVC_wp he h hn)
  no := fun o rest a w hw h => by
    unfold wpList
    rw [if_neg (by rw [hw]; simp)]
    exact h
theorem walker_quiet {P : Program} {ops : Array Oper} {C : World → Prop} {w : World} (hC : ∀ w', C w' → w'.heap = w.heap) {Q : Act → Prop} :
    Walker Unit P ops (fun o ρ _ K => opQ P C w o ρ fun v => K v ()) (fun l a _ => wpQuiet P ops C Q l a) where
  go := fun o rest a s ρ K hw he h hn => by
    show wpQuiet P ops C Q (o :: rest) a
    unfold wpQuiet
    rw [if_pos hw]
    obtain ⟨v, h1, h2⟩ := opQ_run hC h
    refine ⟨v, fun w' hw' => ?_, hn _ _ h2⟩
    unfold Oper.quietAt
    rw [he]
    rcases h1 w' hw' with h | ⟨h, rfl⟩ | ⟨f, args, h, hc⟩
    · rw [h]; exact ⟨rfl, rfl⟩
    · rw [h]; exact ⟨rfl, rfl⟩
    · rw [h]; exact ⟨rfl, hc⟩
  no := fun o rest a w hw h => by
    show wpQuiet P ops C Q (o :: rest) a
    unfold wpQuiet
    rw [if_neg (by rw [hw]; simp)]
    exact h
theorem walker_still {P : Program} {ops : Array Oper} {w : World} {Q : Act → Prop} :
    Walker Unit P ops (fun o ρ _ K => opQ P (Is w) w o ρ fun v => K v ()) (fun l a _ => wpStill P ops w Q l a) where
  go := fun o rest a s ρ K hw he h hn => by
    show wpStill P ops w Q (o :: rest) a
    unfold wpStill
    rw [if_pos hw]
    obtain ⟨v, h1, h2⟩ := opQ_run (C := Is w) (fun w' h => by rw [h]) h
    unfold Oper.still
    rw [he]
    rcases h1 w rfl with h | ⟨h, rfl⟩ | ⟨f, args, h, hc⟩
    · rw [h]; exact ⟨rfl, hn _ _ h2⟩
    · rw [h]; exact ⟨rfl, hn _ _ h2⟩
    · rw [h]; exact ⟨rfl, v, hc, hn _ _ h2⟩
  no := fun o rest a w' hw h => by
    show wpStill P ops w Q (o :: rest) a
    unfold wpStill
    rw [if_neg (by rw [hw]; simp)]
    exact h
theorem opDsts_mem {ops : List Oper} {o : Oper} (h : o ∈ ops) {d : Nat} (hd : o.dst = some d) : d ∈ opDsts ops := List.mem_filterMap.2 ⟨o, h, hd⟩
theorem opDsts_bind {ops : Array Oper} {j d : Nat} (h : (ops[j]?).bind (·.dst) = some d) : d ∈ opDsts ops.toList := by
  cases ho : ops[j]? with
  | none => simp [ho] at h
  | some o =>
    simp only [ho, Option.bind_some] at h
    exact opDsts_mem (by simpa using Array.mem_of_getElem? ho) h
section
variable {P : Program} {ops : Array Oper} {md : Region.Mode} {C : World → Prop}
def wpAnyC (P : Program) (md : Region.Mode) (ops : Array Oper) (C : World → Prop) (n : Nat) (L : Array Bool → Act → Prop) : Nat → Array Bool → Act → Prop
  | 0, listed, a => L listed a
  | f + 1, listed, a => Region.ready md ops listed ≠ [] ∧ ∀ i ∈ Region.ready md ops listed, i < n ∧ qOp P ops C i (wpAnyC P md ops C n L f (listed.setIfInBounds i true)) a
theorem wpAny_of_C {n g : Nat} {L : Array Bool → Act → Prop} {Q' : Exit → Act → World → Prop} (hL : ∀ listed a w, C w → L listed a → wpAny P md ops Q' g listed a w) :
    ∀ (f : Nat) (listed : Array Bool) (a : Act) (w : World), C w → wpAnyC P md ops C n L f listed a → wpAny P md ops Q' (f + g) listed a w
  | 0, listed, a, w, hw, h => by rw [Nat.zero_add]; exact hL _ _ _ hw h
  | f + 1, listed, a, w, hw, h => by
    rw [show f + 1 + g = (f + g) + 1 by omega]
    exact ⟨fun h0 => absurd h0 h.1, fun i hi => wpOp_of_qOp hw (fun a' w' hw' h' => wpAny_of_C hL f _ a' w' hw' h') (h.2 i hi).2⟩
theorem wpAnyC_first {n i : Nat} {oi : Oper} {v : Value} {L : Array Bool → Act → Prop} (hi : ops[i]? = some oi) (hsel : ∀ (j : Nat) (o : Oper) cs b, ops[j]? = some o → o.op ≠ .select cs b)
    (hs : Region.sinkB md ops n = true) (hc : Region.chainB md ops n = true) (hn : n < ops.size) (hin : i < n) (hdone : ∀ listed a, L listed a → ∀ j ∈ Region.ready md ops listed, n ≤ j) :
    ∀ (f : Nat) (listed : Array Bool) (a : Act), HeadInv md ops n listed →
      (∀ j oj, ops[j]? = some oj → j ≠ i → listed.getD j true = false → (∀ e ∈ oj.after, Region.binds md e = true → e.on ≠ i) → oi.apart ops oj = true) →
      i ∈ Region.ready md ops listed → YieldsIn P ops C oi v a → wpAnyC P md ops C n L f (listed.setIfInBounds i true) (a.put oi.dst v) → wpAnyC P md ops C n L (f + 1) listed a := by
  intro f
  induction f with
  | zero =>
    intro listed a inv _ hr hy H
    have hun := (mem_ready.1 hr).1
    refine ⟨fun h => (by rw [h] at hr; cases hr), fun j hj => ?_⟩
    have hjn : j < n := (Nat.lt_or_ge j n).resolve_right fun h => tail_waits hs hc hn inv _ i rfl hin hun j h hj
    refine ⟨hjn, ?_⟩
    by_cases hji : j = i
    · subst hji; exact hy.qOp hi H
    · exact absurd (hdone _ _ H j (ready_mono hj hji)) (by omega)
  | succ f ih =>
    intro listed a inv hfree hr hy H
    have hun := (mem_ready.1 hr).1
    refine ⟨fun h => (by rw [h] at hr; cases hr), fun j hj => ?_⟩
    have hjn : j < n := (Nat.lt_or_ge j n).resolve_right fun h => tail_waits hs hc hn inv _ i rfl hin hun j h hj
    refine ⟨hjn, ?_⟩
    by_cases hji : j = i
    · subst hji; exact hy.qOp hi H
    · have h1 := (H.2 j (ready_mono hj hji)).2
      obtain ⟨hjun, oj, hoj, hall⟩ := mem_ready.1 hj
      have hnot : ∀ e ∈ oj.after, Region.binds md e = true → e.on ≠ i := fun e he hb heq => by
        have h1 := hall e he hb
        rw [heq, getD_both hun] at h1
        cases h1
      have h2 := qOp_put hoj (hfree j oj hoj hji hjun hnot) (fun cs b => hsel i oi cs b hi) (fun cs b => hsel j oj cs b hoj) hy h1
      refine qOp_mono (fun a' h3 => ih (listed.setIfInBounds j true) a' (inv.set hj hjn) (fun k ok hk hki hku hno => ?_) (ready_mono hr (Ne.symm hji)) h3.1 ?_) h2
      · refine hfree k ok hk hki ?_ hno
        by_cases hjk : j = k
        · subst hjk; exact hjun
        · rw [getD_set_ne true hjk] at hku; exact hku
      · rw [Array.setIfInBounds_comm _ _ hji]
        exact h3.2
theorem wpAnyC_lex {n g : Nat} {Lq : Act → Prop} (hsel : Region.noSelect ops = true) (hs : Region.sinkB md ops n = true) (hc : Region.chainB md ops n = true) (hn : n < ops.size) :
    ∀ (l : List Oper) (k : Nat) (listed : Array Bool) (a : Act), (∀ j, j < l.length → l[j]? = ops[k + j]?) → k + l.length = n → HeadInv md ops n listed →
    Region.lexHead md ops g l.length k listed = true → wpQuiet P ops C Lq l a → wpAnyC P md ops C n (fun listed' a' => Region.seqB md ops g n listed' = true ∧ Lq a') l.length listed a
  | [], k, listed, a, _, hk, _, hB, h => by
    have : k = n := by simpa using hk
    subst this
    exact ⟨by simpa [Region.lexHead] using hB, h⟩
  | o :: l, k, listed, a, hl, hk, inv, hB, h => by
    have h0 : ops[k]? = some o := by simpa using (hl 0 (by simp)).symm
    simp only [List.length_cons, Region.lexHead, Bool.and_eq_true] at hB
    obtain ⟨⟨hr, hf⟩, hB'⟩ := hB
    have hkn : k < n := by simp only [List.length_cons] at hk; omega
    have hr' : k ∈ Region.ready md ops listed := by simpa using hr
    have hst : qOp P ops C k (wpQuiet P ops C Lq l) a := by unfold qOp; simp only [h0]; exact h
    obtain ⟨v, hy, hK⟩ := yieldsIn_of_qOp h0 hst
    exact wpAnyC_first h0 (Region.noSelect_spec hsel) hs hc hn hkn (fun listed' a' hL => seqB_ready hL.1) l.length listed a inv (Region.free_spec h0 hf) hr' hy
      (wpAnyC_lex hsel hs hc hn l (k + 1) _ _ (fun j hj => by have := hl (j + 1) (by simp; omega); simpa [Nat.add_assoc, Nat.add_comm 1 j] using this) (by simp only [List.length_cons] at hk; omega) (inv.set hr' hkn) hB' hK)
theorem wp_region_quiet_tail {id : Nat} {Q : Exit → Act → World → Prop} {a : Act} {w : World} (n : Nat) (hm : P.follows .mixedOrders = true) (hB : Region.lexTailB .any ops n = true) (hC : C w.drew)
    (h : wpQuiet P ops C (fun a' => ∀ w', C w' → wpList P ops Q (ops.toList.drop n) a' w') (ops.toList.take n) a) : (Code.region id ops true).wp P Q a w := by
  simp only [Region.lexTailB, Bool.and_eq_true, decide_eq_true_eq] at hB
  obtain ⟨⟨⟨⟨hsel, hn⟩, hs⟩, hc⟩, hlex⟩ := hB
  have hn' : n < ops.toList.length := by simpa using hn
  have htl : (ops.toList.take n).length = n := by simp; omega
  have hdl : (ops.toList.drop n).length = ops.size - n := by simp
  have inv0 : HeadInv .any ops n (Array.replicate ops.size false) :=
    ⟨by simp, fun j oj _ hl => (by rw [getD_replicate_false] at hl; cases hl), fun t _ ht => getD_in (by simpa using ht) (getD_replicate_false _ _)⟩
  have H := wpAnyC_lex (C := C) (md := .any) (g := ops.size - n) hsel hs hc hn (ops.toList.take n) 0 _ a (fun j hj => by
    have hj' : j < n := by rw [htl] at hj; exact hj
    simp [hj']) (by simpa using htl) inv0 (by rw [htl]; exact hlex) h
  refine wp_region_any hm ?_
  have := wpAny_of_C (Q' := Q) (g := ops.size - n) (fun listed a' w' hw' hL => by
    have := wpAny_of_seq (md := .any) (Q' := Q) (ops.toList.drop n) n listed a' w' (fun j => by simp [List.getElem?_drop]) (by rw [hdl]; exact hL.1) (hL.2 w' hw')
    rwa [hdl] at this) _ _ _ w.drew hC H
  rw [htl, show n + (ops.size - n) = ops.size by omega] at this
  exact this
end
def semH {α : Type} (P : Program) (S : World → Prop) : Sem α → List Cell → (α → Prop) → Prop
  | .pure a, _, K => K a
  | .load _ a k, hs, K => (hs.headD .any).ex fun v => (∀ w, S w → w.cell? a = some v) ∧ semH P S (k v) hs.tail K
  | .program k, hs, K => semH P S (k P) hs K
  | .mark _ k, hs, K => semH P S k hs K
  | _, _, _ => False
theorem semH_run {α : Type} {P : Program} {S : World → Prop} (s : Sem α) : ∀ {hs : List Cell} {K : α → Prop}, semH P S s hs K → ∃ r, (∀ w, S w → s.run P w = .ok r w) ∧ K r := by
  induction s with
  | pure a => exact fun h => ⟨_, fun _ _ => rfl, h⟩
  | load m a k ih =>
    intro hs K h
    obtain ⟨v, hv, h⟩ := Cell.ex_imp h
    obtain ⟨r, h1, h2⟩ := ih v h
    exact ⟨r, fun w hw => by simp only [Sem.run, hv w hw]; exact h1 w hw, h2⟩
  | program k ih => exact fun h => ih _ h
  | mark m k ih => exact fun h => ih h
  | _ => exact fun h => h.elim
theorem semH_mono {α : Type} {P : Program} {S : World → Prop} (s : Sem α) : ∀ {hs : List Cell} {K K' : α → Prop}, (∀ r, K r → K' r) → semH P S s hs K → semH P S s hs K' := by
  induction s with
  | pure a => exact fun hk h => hk _ h
  | load m a k ih => exact fun hk h => Cell.ex_mono (fun v ⟨h1, h2⟩ => ⟨h1, ih v hk h2⟩) h
  | program k ih => exact fun hk h => ih _ hk h
  | mark m k ih => exact fun hk h => ih hk h
  | _ => exact fun _ h => h.elim
def nextH (K : Value → Prop) : Next → Prop
  | .value v => K v
  | _ => False
def opH (P : Program) (S : World → Prop) (o : Oper) (ρ : Operand → Value) (K : Value → Prop) : Prop :=
  match special P o.op ρ with
  | some f => f K
  | none => semH P S (execOp ρ o) (hints P o.op) (nextH K)
theorem opH_mono {P : Program} {S : World → Prop} {o : Oper} {ρ : Operand → Value} {K K' : Value → Prop} (hk : ∀ v, K v → K' v) (h : opH P S o ρ K) : opH P S o ρ K' := by
  unfold opH at *
  split at h
  · rename_i f hf; exact special_mono hk hf h
  · refine semH_mono _ (fun n h => ?_) h
    cases n <;> simp only [nextH] at * <;> first | exact hk _ h | exact h.elim
theorem opH_run {P : Program} {S : World → Prop} {o : Oper} {ρ : Operand → Value} {K : Value → Prop} (h : opH P S o ρ K) :
    ∃ v, (∀ w, S w → (execOp ρ o).run P w = .ok (.value v) w) ∧ K v := by
  unfold opH at h
  split at h
  · rename_i f hf
    obtain ⟨v, h1, h2⟩ := special_run hf h
    exact ⟨v, fun w _ => h1 w, h2⟩
  · obtain ⟨n, h1, h2⟩ := semH_run _ h
    cases n <;> simp only [nextH] at h2 <;> first | exact h2.elim | skip
    exact ⟨_, h1, h2⟩
def guardG (ops : Array Oper) (o : Oper) (L : Fr) (go no : Fr → Prop) : Prop :=
  match o.guard with
  | none => go L
  | some (j, want) => match (ops[j]?).bind (·.dst) with
    | none => False
    | some d => match fget L d with
      | some (.bool b) => cond b (cond want (go (fset L d (some (.bool true)))) (no (fset L d (some (.bool true))))) (cond want (no (fset L d (some (.bool false)))) (go (fset L d (some (.bool false)))))
      | some (.tuple _) => no L
      | _ => False
theorem guardG_mono {ops : Array Oper} {o : Oper} {L : Fr} {go no go' no' : Fr → Prop} {D : List Nat} (hD : ∀ (j d : Nat), (ops[j]?).bind (fun o => o.dst) = some d → d ∈ D)
    (hg : ∀ L', Same D L L' → go L' → go' L') (hn : ∀ L', Same D L L' → no L' → no' L') (h : guardG ops o L go no) : guardG ops o L go' no' := by
  unfold guardG at h ⊢
  split at h
  · rename_i h0; try simp only [h0]
    exact hg _ (Same.refl _ _) h
  · rename_i j want h0
    try simp only [h0]
    split at h
    · exact h.elim
    · rename_i d hd
      try simp only [hd]
      have hs : ∀ v, Same D L (fset L d v) := fun v => Same.set (hD j d hd)
      split at h
      · rename_i b hb
        try simp only [hb]
        cases b <;> cases want <;> simp only [cond_true, cond_false] at h ⊢ <;> first | exact hg _ (hs _) h | exact hn _ (hs _) h
      · rename_i vs hb
        try simp only [hb]
        exact hn _ (Same.refl _ _) h
      · exact h.elim
theorem guardG_run {ops : Array Oper} {o : Oper} {L : Fr} {go no : Fr → Prop} {a : Act} (hF : Fits L a) (h : guardG ops o L go no) :
    (Region.wanted o (yielded ops a.tmps) = true ∧ ∃ L', Fits L' a ∧ go L') ∨ (Region.wanted o (yielded ops a.tmps) = false ∧ ∃ L', Fits L' a ∧ no L') := by
  unfold guardG at h
  split at h
  · rename_i hg
    exact .inl ⟨by simp [Region.wanted, hg], L, hF, h⟩
  · rename_i j want hg
    split at h
    · exact h.elim
    · rename_i d hd
      split at h
      · rename_i b hb
        have hv := hF.val d _ hb
        have hy : yielded ops a.tmps j = some b := yielded_of hd hv
        cases b <;> cases want <;> simp only [cond_true, cond_false] at h
        · exact .inl ⟨by simp [Region.wanted, hg, hy], _, hF.set d _ (fun u e => by cases e; exact hv), h⟩
        · exact .inr ⟨by simp [Region.wanted, hg, hy], _, hF.set d _ (fun u e => by cases e; exact hv), h⟩
        · exact .inr ⟨by simp [Region.wanted, hg, hy], _, hF.set d _ (fun u e => by cases e; exact hv), h⟩
        · exact .inl ⟨by simp [Region.wanted, hg, hy], _, hF.set d _ (fun u e => by cases e; exact hv), h⟩
      · rename_i vs hb
        have hy : yielded ops a.tmps j = none := yielded_of hd (hF.val d _ hb)
        exact .inr ⟨by simp [Region.wanted, hg, hy], L, hF, h⟩
      · exact h.elim
def stableOf (eff : List Nat) : List Nat → Option Nat
  | [] => none
  | i :: l => cond (eff.any (Nat.beq i)) (stableOf eff l) (some i)
theorem stableOf_mem {eff : List Nat} : ∀ {l : List Nat} {i : Nat}, stableOf eff l = some i → i ∈ l
  | [], _, h => by cases h
  | x :: l, i, h => by
    have h' : cond (eff.any (Nat.beq x)) (stableOf eff l) (some x) = some i := h
    cases hb : eff.any (Nat.beq x) with
    | true => rw [hb] at h'; exact List.mem_cons_of_mem _ (stableOf_mem h')
    | false => rw [hb] at h'; cases h'; exact List.mem_cons_self ..
def allL : List Nat → (Nat → Prop) → Prop
  | [], _ => True
  | [i], f => f i
  | i :: l, f => f i ∧ allL l f
theorem allL_mem : ∀ {l : List Nat} {f : Nat → Prop}, allL l f → ∀ i ∈ l, f i
  | [], _, _, i, hi => by cases hi
  | [_], f, h, i, hi => by
    rcases List.mem_cons.1 hi with rfl | hi
    · exact h
    · cases hi
  | x :: y :: l, f, h, i, hi => by
    rcases List.mem_cons.1 hi with rfl | hi
    · exact h.1
    · exact allL_mem h.2 i hi
theorem allL_mono : ∀ {l : List Nat} {f g : Nat → Prop}, (∀ i, f i → g i) → allL l f → allL l g
  | [], _, _, _, _ => trivial
  | [_], _, _, hk, h => hk _ h
  | _ :: _ :: _, _, _, hk, h => ⟨hk _ h.1, allL_mono hk h.2⟩
def heldVC (P : Program) (ops : Array Oper) (S : World → Prop) (eff : List Nat) (K : Fr → World → Prop) : Nat → Array Bool → Fr → World → Prop
  | 0, listed, L, w => cond (Region.ready .any ops listed).isEmpty (K L w) False
  | n + 1, listed, L, w =>
    match Region.ready .any ops listed with
    | [] => K L w
    | r :: rs => match stableOf eff (r :: rs) with
      | some i => cond (Region.free .any ops listed i) (match ops[i]? with
          | none => False
          | some o => guardG ops o L (fun L' => cond (allKnown L' o.op.operands.toList) (cond (isSelect o.op) False (opH P S o (rho L') fun v => heldVC P ops S eff K n (listed.setIfInBounds i true) (fput L' o.dst v) w)) False)
              (fun L' => heldVC P ops S eff K n (listed.setIfInBounds i true) (fput L' o.dst undef) w)) False
      | none => allL (r :: rs) fun i => match ops[i]? with
          | none => False
          | some o => guardG ops o L (fun L' => cond (allKnown L' o.op.operands.toList) (cond (isSelect o.op) False (opVC P o (rho L') w fun v w' => S w' ∧ heldVC P ops S eff K n (listed.setIfInBounds i true) (fput L' o.dst v) w')) False)
              (fun L' => heldVC P ops S eff K n (listed.setIfInBounds i true) (fput L' o.dst undef) w)
theorem heldVC_wp {P : Program} {ops : Array Oper} {S : World → Prop} {eff : List Nat} {K : Fr → World → Prop} (hsel : Region.noSelect ops = true) : ∀ (n : Nat) (listed : Array Bool) (L : Fr) (a : Act) (w : World), Fits L a → S w → heldVC P ops S eff K n listed L w →
    wpAnyH P .any ops (fun e a' w' => e = .normal ∧ ∃ L', Fits L' a' ∧ K L' w') S n listed a w := by
  intro n
  induction n with
  | zero =>
    intro listed L a w hF hS h
    obtain ⟨h1, h2⟩ : (Region.ready .any ops listed).isEmpty = true ∧ K L w := by
      unfold heldVC at h
      cases hb : (Region.ready .any ops listed).isEmpty <;> simp only [hb, cond_true, cond_false] at h
      exact ⟨rfl, h⟩
    exact ⟨List.isEmpty_iff.1 h1, rfl, L, hF, h2⟩
  | succ n ih =>
    intro listed L a w hF hS h
    unfold heldVC at h
    split at h
    · rename_i hr
      exact wpAnyH_done hr ⟨rfl, L, hF, h⟩ _
    · rename_i r rs hr
      split at h
      · rename_i i hi
        have him := stableOf_mem hi
        obtain ⟨hfree, h⟩ : Region.free .any ops listed i = true ∧ _ := by
          cases hb : Region.free .any ops listed i <;> simp only [hb, cond_true, cond_false] at h
          exact ⟨rfl, h⟩
        split at h
        · exact h.elim
        · rename_i o ho
          have hc : (Region.ready .any ops listed).contains i = true := by rw [hr]; simpa using him
          rcases guardG_run hF h with ⟨hw, L', hF', hgo⟩ | ⟨hw, L', hF', hno⟩
          · cases hk : allKnown L' o.op.operands.toList <;> simp only [hk, cond_true, cond_false] at hgo
            cases hs : isSelect o.op <;> simp only [hs, cond_true, cond_false] at hgo
            obtain ⟨v, h1, h2⟩ := opH_run hgo
            exact wpAnyH_take ho hsel hfree hc (fun _ _ _ h => by cases h.1) (.inl ⟨hw, fun w' hw' => by rw [hF'.exec hk hs]; exact h1 w' hw'⟩) hS (ih _ _ _ _ (hF'.put _ _) hS h2)
          · exact wpAnyH_take ho hsel hfree hc (fun _ _ _ h => by cases h.1) (.inr ⟨hw, rfl⟩) hS (ih _ _ _ _ (hF'.put _ _) hS hno)
      · refine wpAnyH_all hr (by simp) fun i hi => ?_
        have h' := allL_mem h i hi
        unfold wpOp
        split at h'
        · exact h'.elim
        · rename_i o ho
          simp only [ho]
          rcases guardG_run hF h' with ⟨hw, L', hF', hgo⟩ | ⟨hw, L', hF', hno⟩
          · cases hk : allKnown L' o.op.operands.toList <;> simp only [hk, cond_true, cond_false] at hgo
            cases hs : isSelect o.op <;> simp only [hs, cond_true, cond_false] at hgo
            rw [if_pos hw]
            exact .inl (opVC_wp (hF'.exec hk hs) hgo fun v w' ⟨h1, h2⟩ => ⟨h1, ih _ _ _ _ (hF'.put _ _) h1 h2⟩)
          · rw [if_neg (by rw [hw]; simp)]
            exact ⟨hS, ih _ _ _ _ (hF'.put _ _) hS hno⟩
theorem heldVC_frame {P : Program} {ops : Array Oper} {S : World → Prop} {eff : List Nat} {D : List Nat} (hD : ∀ (j d : Nat), (ops[j]?).bind (fun o => o.dst) = some d → d ∈ D) : ∀ (n : Nat) {K K' : Fr → World → Prop} {listed : Array Bool} {L : Fr} {w : World},
    (∀ L' w', Same D L L' → K L' w' → K' L' w') → heldVC P ops S eff K n listed L w → heldVC P ops S eff K' n listed L w := by
  intro n
  induction n with
  | zero =>
    intro K K' listed L w hk h
    unfold heldVC at h ⊢
    cases hb : (Region.ready .any ops listed).isEmpty <;> simp only [hb, cond_true, cond_false] at h ⊢
    exact hk _ _ (Same.refl _ _) h
  | succ n ih =>
    intro K K' listed L w hk h
    have hd : ∀ {i : Nat} {o : Oper}, ops[i]? = some o → ∀ d, o.dst = some d → d ∈ D := fun {i o} ho d hd => hD i d (by simp [ho, hd])
    unfold heldVC at h ⊢
    split at h
    · exact hk _ _ (Same.refl _ _) h
    · rename_i r rs hr
      split at h
      · rename_i i hi
        try simp only [hi]
        cases hb : Region.free .any ops listed i <;> simp only [hb, cond_true, cond_false] at h ⊢
        split at h
        · exact h.elim
        · rename_i o ho
          try simp only [ho]
          refine guardG_mono hD (fun L' hs hgo => ?_) (fun L' hs hno => ih (fun L'' w'' hs' h => hk _ _ ((hs.trans (Same.put (hd ho))).trans hs') h) hno) h
          cases hk' : allKnown L' o.op.operands.toList <;> simp only [hk', cond_true, cond_false] at hgo ⊢
          cases hs' : isSelect o.op <;> simp only [hs', cond_true, cond_false] at hgo ⊢
          exact opH_mono (fun v h => ih (fun L'' w'' hs'' h => hk _ _ ((hs.trans (Same.put (hd ho))).trans hs'') h) h) hgo
      · rename_i hi
        try simp only [hi]
        refine allL_mono (fun i h => ?_) h
        split at h
        · exact h.elim
        · rename_i o ho
          try simp only [ho]
          refine guardG_mono hD (fun L' hs hgo => ?_) (fun L' hs hno => ih (fun L'' w'' hs' h => hk _ _ ((hs.trans (Same.put (hd ho))).trans hs') h) hno) h
          cases hk' : allKnown L' o.op.operands.toList <;> simp only [hk', cond_true, cond_false] at hgo ⊢
          cases hs' : isSelect o.op <;> simp only [hs', cond_true, cond_false] at hgo ⊢
          exact opVC_mono (fun v w' h => ⟨h.1, ih (fun L'' w'' hs'' h => hk _ _ ((hs.trans (Same.put (hd ho))).trans hs'') h) h.2⟩) hgo
theorem cond_mono {b : Bool} {A B A' B' : Prop} (h1 : A → A') (h2 : B → B') (h : cond b A B) : cond b A' B' := by
  cases b
  · exact h2 h
  · exact h1 h
def waitsOn (ops : Array Oper) (j i : Nat) : Bool :=
  match ops[j]? with
  | none => false
  | some o => o.after.toList.any fun e => Region.binds .any e && Nat.beq e.on i
def waitsAll (ops : Array Oper) (j : Nat) : List Nat → Bool
  | [] => true
  | i :: T => cond (waitsOn ops j i) (waitsAll ops j T) false
theorem waitsOn_spec {ops : Array Oper} {j i : Nat} {o : Oper} (ho : ops[j]? = some o) (h : waitsOn ops j i = true) : ∃ e ∈ o.after, Region.binds .any e = true ∧ e.on = i := by
  unfold waitsOn at h
  simp only [ho, List.any_eq_true, Bool.and_eq_true] at h
  obtain ⟨e, h1, h2, h3⟩ := h
  exact ⟨e, by simpa using h1, h2, Nat.eq_of_beq_eq_true h3⟩
def wpAnyG (P : Program) (ops : Array Oper) (Q : Exit → Act → World → Prop) (S : World → Prop) (T : List Nat) : Nat → Array Bool → Act → World → Prop
  | 0, listed, a, w => Region.ready .any ops listed = [] ∧ Q .normal a w
  | fuel + 1, listed, a, w =>
    (Region.ready .any ops listed = [] → Q .normal a w) ∧
    ∀ i ∈ Region.ready .any ops listed, wpOp P ops Q i (fun a' w' => (waitsAll ops i T = true → wpAny P .any ops Q fuel (listed.setIfInBounds i true) a' w') ∧
      (waitsAll ops i T = false → S w' ∧ wpAnyG P ops Q S T fuel (listed.setIfInBounds i true) a' w')) a w
section
variable {P : Program} {ops : Array Oper} {Q : Exit → Act → World → Prop} {S : World → Prop}
theorem wpAny_of_G {T : List Nat} : ∀ (fuel : Nat) (listed : Array Bool) (a : Act) (w : World), wpAnyG P ops Q S T fuel listed a w → wpAny P .any ops Q fuel listed a w
  | 0, _, _, _, h => h
  | fuel + 1, listed, a, w, h => ⟨h.1, fun i hi => wpOp_mono (fun a' w' h' => by
      cases hb : waitsAll ops i T with
      | true => exact h'.1 hb
      | false => exact wpAny_of_G fuel _ a' w' (h'.2 hb).2) (h.2 i hi)⟩
theorem wpAnyG_less {T : List Nat} {k : Nat} : ∀ (fuel : Nat) (listed : Array Bool) (a : Act) (w : World), wpAnyG P ops Q S (k :: T) fuel listed a w → wpAnyG P ops Q S T fuel listed a w
  | 0, _, _, _, h => h
  | fuel + 1, listed, a, w, h => ⟨h.1, fun i hi => wpOp_mono (fun a' w' h' => by
      refine ⟨fun hT => ?_, fun hT => ?_⟩
      · cases hb : waitsAll ops i (k :: T) with
        | true => exact h'.1 hb
        | false => exact wpAny_of_G fuel _ a' w' (h'.2 hb).2
      · have hb : waitsAll ops i (k :: T) = false := by
          unfold waitsAll
          cases waitsOn ops i k
          · rfl
          · exact hT
        exact ⟨(h'.2 hb).1, wpAnyG_less fuel _ a' w' (h'.2 hb).2⟩) (h.2 i hi)⟩
theorem wpAnyG_first {T : List Nat} {i : Nat} {oi : Oper} {v : Value} (hi : ops[i]? = some oi) (hsel : ∀ (j : Nat) (o : Oper) cs b, ops[j]? = some o → o.op ≠ .select cs b)
    (hQ : ∀ c a w, Q (.panic c) (a.put oi.dst v) w → Q (.panic c) a w) :
    ∀ (fuel : Nat) (listed : Array Bool) (a : Act) (w : World),
      (∀ j oj, ops[j]? = some oj → j ≠ i → listed.getD j true = false → (∀ e ∈ oj.after, Region.binds .any e = true → e.on ≠ i) → oi.apart ops oj = true) →
      i ∈ Region.ready .any ops listed → YieldsIf P ops S oi v a → S w →
      wpAnyG P ops Q S (i :: T) fuel (listed.setIfInBounds i true) (a.put oi.dst v) w → wpAnyG P ops Q S T (fuel + 1) listed a w := by
  have here : ∀ (fuel : Nat) (listed : Array Bool) (a : Act) (w : World), YieldsIf P ops S oi v a → S w → wpAnyG P ops Q S (i :: T) fuel (listed.setIfInBounds i true) (a.put oi.dst v) w →
      wpOp P ops Q i (fun a' w' => (waitsAll ops i T = true → wpAny P .any ops Q fuel (listed.setIfInBounds i true) a' w') ∧ (waitsAll ops i T = false → S w' ∧ wpAnyG P ops Q S T fuel (listed.setIfInBounds i true) a' w')) a w := fun fuel listed a w hy hS H =>
    hy.wpOp hi hS ⟨fun _ => wpAny_of_G _ _ _ _ H, fun _ => ⟨hS, wpAnyG_less _ _ _ _ H⟩⟩
  intro fuel
  induction fuel with
  | zero =>
    intro listed a w _ hr hy hS H
    refine ⟨fun h => (by rw [h] at hr; cases hr), fun j hj => ?_⟩
    by_cases hji : j = i
    · subst hji; exact here 0 listed a w hy hS H
    · have := ready_mono hj hji
      rw [H.1] at this
      cases this
  | succ fuel ih =>
    intro listed a w hfree hr hy hS H
    refine ⟨fun h => (by rw [h] at hr; cases hr), fun j hj => ?_⟩
    by_cases hji : j = i
    · subst hji; exact here (fuel + 1) listed a w hy hS H
    · have h1 := H.2 j (ready_mono hj hji)
      obtain ⟨hjun, oj, hoj, hall⟩ := mem_ready.1 hj
      have hnot : ∀ e ∈ oj.after, Region.binds .any e = true → e.on ≠ i := fun e he hb heq => by
        have h1 := hall e he hb
        have h0 := (mem_ready.1 hr).1
        rw [heq] at h1
        rcases Nat.lt_or_ge i listed.size with h' | h'
        · simp [h'] at h0 h1; rw [h0] at h1; cases h1
        · simp [Array.getElem?_eq_none h'] at h1
      have hw : waitsAll ops j (i :: T) = false := by
        unfold waitsAll
        cases hb : waitsOn ops j i
        · rfl
        · obtain ⟨e, he, hb, heq⟩ := waitsOn_spec hoj hb
          exact absurd heq (hnot e he hb)
      have h2 := wpOp_putIf hoj (hfree j oj hoj hji hjun hnot) (fun cs b => hsel i oi cs b hi) (fun cs b => hsel j oj cs b hoj) hQ hy h1
      have hfree' : ∀ k ok, ops[k]? = some ok → k ≠ i → (listed.setIfInBounds j true).getD k true = false →
          (∀ e ∈ ok.after, Region.binds .any e = true → e.on ≠ i) → oi.apart ops ok = true := fun k ok hk hki hun hno => by
        refine hfree k ok hk hki ?_ hno
        by_cases hjk : j = k
        · subst hjk; exact hjun
        · rw [getD_set_ne true hjk] at hun; exact hun
      refine wpOp_mono (fun a' w' h3 => ?_) h2
      have h4 := h3.2.2 hw
      have h5 := ih (listed.setIfInBounds j true) a' w' hfree' (ready_mono hr (Ne.symm hji)) h3.1 h4.1 (by rw [Array.setIfInBounds_comm _ _ hji]; exact h4.2)
      exact ⟨fun _ => wpAny_of_G _ _ _ _ h5, fun _ => ⟨h4.1, h5⟩⟩
theorem wpAnyG_pure {T : List Nat} {i : Nat} {oi : Oper} {v : Value} (hi : ops[i]? = some oi) (hsel : ∀ (j : Nat) (o : Oper) cs b, ops[j]? = some o → o.op ≠ .select cs b)
    (hQ : ∀ c a w, Q (.panic c) (a.put oi.dst v) w → Q (.panic c) a w) :
    ∀ (fuel : Nat) (listed : Array Bool) (a : Act) (w : World),
      (∀ j oj, ops[j]? = some oj → j ≠ i → listed.getD j true = false → (∀ e ∈ oj.after, Region.binds .any e = true → e.on ≠ i) → oi.apart ops oj = true) →
      i ∈ Region.ready .any ops listed → YieldsIf P ops (fun _ => True) oi v a → S w →
      wpAnyG P ops Q S T fuel (listed.setIfInBounds i true) (a.put oi.dst v) w → wpAnyG P ops Q S T (fuel + 1) listed a w := by
  have here : ∀ (fuel : Nat) (listed : Array Bool) (a : Act) (w : World), YieldsIf P ops (fun _ => True) oi v a → S w → wpAnyG P ops Q S T fuel (listed.setIfInBounds i true) (a.put oi.dst v) w →
      wpOp P ops Q i (fun a' w' => (waitsAll ops i T = true → wpAny P .any ops Q fuel (listed.setIfInBounds i true) a' w') ∧ (waitsAll ops i T = false → S w' ∧ wpAnyG P ops Q S T fuel (listed.setIfInBounds i true) a' w')) a w := fun fuel listed a w hy hS H =>
    hy.wpOp hi trivial ⟨fun _ => wpAny_of_G _ _ _ _ H, fun _ => ⟨hS, H⟩⟩
  intro fuel
  induction fuel with
  | zero =>
    intro listed a w _ hr hy hS H
    refine ⟨fun h => (by rw [h] at hr; cases hr), fun j hj => ?_⟩
    by_cases hji : j = i
    · subst hji; exact here 0 listed a w hy hS H
    · have := ready_mono hj hji
      rw [H.1] at this
      cases this
  | succ fuel ih =>
    intro listed a w hfree hr hy hS H
    refine ⟨fun h => (by rw [h] at hr; cases hr), fun j hj => ?_⟩
    by_cases hji : j = i
    · subst hji; exact here (fuel + 1) listed a w hy hS H
    · have h1 := H.2 j (ready_mono hj hji)
      obtain ⟨hjun, oj, hoj, hall⟩ := mem_ready.1 hj
      have hnot : ∀ e ∈ oj.after, Region.binds .any e = true → e.on ≠ i := fun e he hb heq => by
        have h1 := hall e he hb
        have h0 := (mem_ready.1 hr).1
        rw [heq] at h1
        rcases Nat.lt_or_ge i listed.size with h' | h'
        · simp [h'] at h0 h1; rw [h0] at h1; cases h1
        · simp [Array.getElem?_eq_none h'] at h1
      have h2 := wpOp_putIf hoj (hfree j oj hoj hji hjun hnot) (fun cs b => hsel i oi cs b hi) (fun cs b => hsel j oj cs b hoj) hQ hy h1
      have hfree' : ∀ k ok, ops[k]? = some ok → k ≠ i → (listed.setIfInBounds j true).getD k true = false →
          (∀ e ∈ ok.after, Region.binds .any e = true → e.on ≠ i) → oi.apart ops ok = true := fun k ok hk hki hun hno => by
        refine hfree k ok hk hki ?_ hno
        by_cases hjk : j = k
        · subst hjk; exact hjun
        · rw [getD_set_ne true hjk] at hun; exact hun
      have hri := ready_mono hr (Ne.symm hji)
      refine wpOp_mono (fun a' w' h3 => ⟨fun hb => ?_, fun hb => ?_⟩) h2
      · have h4 := h3.2.1 hb
        rw [← Array.setIfInBounds_comm _ _ hji] at h4
        have hy' : Yields P ops oi v a' := h3.1.imp (fun ⟨h, k⟩ => ⟨h, fun w => k w trivial⟩) id
        exact wpAny_first hi hsel hQ fuel (listed.setIfInBounds j true) a' w' hfree' hri hy' h4
      · have h4 := h3.2.2 hb
        exact ⟨h4.1, ih (listed.setIfInBounds j true) a' w' hfree' hri h3.1 h4.1 (by rw [Array.setIfInBounds_comm _ _ hji]; exact h4.2)⟩
theorem wpAnyG_done {T : List Nat} {listed : Array Bool} {a : Act} {w : World} (hr : Region.ready .any ops listed = []) (h : Q .normal a w) :
    ∀ fuel, wpAnyG P ops Q S T fuel listed a w
  | 0 => ⟨hr, h⟩
  | _ + 1 => ⟨fun _ => h, by rw [hr]; simp⟩
end
def loadsOp : Op → Bool
  | .load .. | .lookup .. | .call .. | .convert .. | .index .. => true
  | _ => false
def loadsLeft (ops : Array Oper) (eff : List Nat) (listed : Array Bool) : Bool :=
  (List.range ops.size).any fun i => !(listed.getD i true) && !(eff.any (Nat.beq i)) && (match ops[i]? with | some o => loadsOp o.op | none => false)
def phVC (P : Program) (ops : Array Oper) (eff : List Nat) (K : Fr → World → Prop) : Nat → (World → Prop) → List Nat → Array Bool → Fr → World → Prop
  | 0, _, _, listed, L, w => cond (Region.ready .any ops listed).isEmpty (K L w) False
  | n + 1, S, T, listed, L, w =>
    match Region.ready .any ops listed with
    | [] => K L w
    | r :: rs => match stableOf eff (r :: rs) with
      | some i => cond (Region.free .any ops listed i) (match ops[i]? with
          | none => False
          | some o => guardG ops o L (fun L' => cond (allKnown L' o.op.operands.toList) (cond (isSelect o.op) False
                (cond (loadsOp o.op) (opH P S o (rho L') fun v => phVC P ops eff K n S (i :: T) (listed.setIfInBounds i true) (fput L' o.dst v) w)
                  (opH P (fun _ => True) o (rho L') fun v => phVC P ops eff K n S T (listed.setIfInBounds i true) (fput L' o.dst v) w))) False)
              (fun L' => phVC P ops eff K n S T (listed.setIfInBounds i true) (fput L' o.dst undef) w)) False
      | none => allL (r :: rs) fun i => match ops[i]? with
          | none => False
          | some o => guardG ops o L (fun L' => cond (allKnown L' o.op.operands.toList) (cond (isSelect o.op) False (opVC P o (rho L') w fun v w' =>
                cond (waitsAll ops i T) (cond (loadsLeft ops eff (listed.setIfInBounds i true)) (∃ S' : World → Prop, S' w' ∧ phVC P ops eff K n S' [] (listed.setIfInBounds i true) (fput L' o.dst v) w')
                    (phVC P ops eff K n (fun _ => True) [] (listed.setIfInBounds i true) (fput L' o.dst v) w'))
                  (S w' ∧ phVC P ops eff K n S T (listed.setIfInBounds i true) (fput L' o.dst v) w'))) False)
              (fun L' => phVC P ops eff K n S T (listed.setIfInBounds i true) (fput L' o.dst undef) w)
theorem phVC_wp {P : Program} {ops : Array Oper} {eff : List Nat} {K : Fr → World → Prop} (hsel : Region.noSelect ops = true) : ∀ (n : Nat) (S : World → Prop) (T : List Nat) (listed : Array Bool) (L : Fr) (a : Act) (w : World), Fits L a → S w → phVC P ops eff K n S T listed L w →
    wpAnyG P ops (fun e a' w' => e = .normal ∧ ∃ L', Fits L' a' ∧ K L' w') S T n listed a w := by
  intro n
  induction n with
  | zero =>
    intro S T listed L a w hF hS h
    obtain ⟨h1, h2⟩ : (Region.ready .any ops listed).isEmpty = true ∧ K L w := by
      unfold phVC at h
      cases hb : (Region.ready .any ops listed).isEmpty <;> simp only [hb, cond_true, cond_false] at h
      exact ⟨rfl, h⟩
    exact ⟨List.isEmpty_iff.1 h1, rfl, L, hF, h2⟩
  | succ n ih =>
    intro S T listed L a w hF hS h
    unfold phVC at h
    split at h
    · rename_i hr
      exact wpAnyG_done hr ⟨rfl, L, hF, h⟩ _
    · rename_i r rs hr
      split at h
      · rename_i i hi
        have him := stableOf_mem hi
        obtain ⟨hfree, h⟩ : Region.free .any ops listed i = true ∧ _ := by
          cases hb : Region.free .any ops listed i <;> simp only [hb, cond_true, cond_false] at h
          exact ⟨rfl, h⟩
        split at h
        · exact h.elim
        · rename_i o ho
          have hc : i ∈ Region.ready .any ops listed := by rw [hr]; exact him
          have hfr := Region.free_spec ho hfree
          have hse := Region.noSelect_spec hsel
          rcases guardG_run hF h with ⟨hw, L', hF', hgo⟩ | ⟨hw, L', hF', hno⟩
          · cases hk : allKnown L' o.op.operands.toList <;> simp only [hk, cond_true, cond_false] at hgo
            cases hs : isSelect o.op <;> simp only [hs, cond_true, cond_false] at hgo
            cases hl : loadsOp o.op <;> simp only [hl, cond_true, cond_false] at hgo
            · obtain ⟨v, h1, h2⟩ := opH_run hgo
              exact wpAnyG_pure ho hse (fun _ _ _ h => by cases h.1) _ _ _ _ hfr hc (.inl ⟨hw, fun w' hw' => by rw [hF'.exec hk hs]; exact h1 w' hw'⟩) hS (ih _ _ _ _ _ _ (hF'.put _ _) hS h2)
            · obtain ⟨v, h1, h2⟩ := opH_run hgo
              exact wpAnyG_first ho hse (fun _ _ _ h => by cases h.1) _ _ _ _ hfr hc (.inl ⟨hw, fun w' hw' => by rw [hF'.exec hk hs]; exact h1 w' hw'⟩) hS (ih _ _ _ _ _ _ (hF'.put _ _) hS h2)
          · exact wpAnyG_pure ho hse (fun _ _ _ h => by cases h.1) _ _ _ _ hfr hc (.inr ⟨hw, rfl⟩) hS (ih _ _ _ _ _ _ (hF'.put _ _) hS hno)
      · refine ⟨fun h0 => (by rw [hr] at h0; cases h0), fun i hi => ?_⟩
        rw [hr] at hi
        have h' := allL_mem h i hi
        unfold wpOp
        split at h'
        · exact h'.elim
        · rename_i o ho
          simp only [ho]
          rcases guardG_run hF h' with ⟨hw, L', hF', hgo⟩ | ⟨hw, L', hF', hno⟩
          · cases hk : allKnown L' o.op.operands.toList <;> simp only [hk, cond_true, cond_false] at hgo
            cases hs : isSelect o.op <;> simp only [hs, cond_true, cond_false] at hgo
            rw [if_pos hw]
            refine .inl (opVC_wp (hF'.exec hk hs) hgo fun v w' h1 => ⟨fun hb => ?_, fun hb => ?_⟩)
            · simp only [hb, cond_true] at h1
              cases hl : loadsLeft ops eff (listed.setIfInBounds i true) <;> simp only [hl, cond_true, cond_false] at h1
              · exact wpAny_of_G _ _ _ _ (ih _ _ _ _ _ _ (hF'.put _ _) trivial h1)
              · obtain ⟨S', h2, h3⟩ := h1
                exact wpAny_of_G _ _ _ _ (ih _ _ _ _ _ _ (hF'.put _ _) h2 h3)
            · simp only [hb, cond_false] at h1
              exact ⟨h1.1, ih _ _ _ _ _ _ (hF'.put _ _) h1.1 h1.2⟩
          · rw [if_neg (by rw [hw]; simp)]
            have h2 := ih _ _ _ _ _ _ (hF'.put o.dst undef) hS hno
            exact ⟨fun _ => wpAny_of_G _ _ _ _ h2, fun _ => ⟨hS, h2⟩⟩
theorem phVC_frame {P : Program} {ops : Array Oper} {eff : List Nat} {D : List Nat} (hD : ∀ (j d : Nat), (ops[j]?).bind (fun o => o.dst) = some d → d ∈ D) : ∀ (n : Nat) {K K' : Fr → World → Prop} {S : World → Prop} {T : List Nat} {listed : Array Bool} {L : Fr} {w : World},
    (∀ L' w', Same D L L' → K L' w' → K' L' w') → phVC P ops eff K n S T listed L w → phVC P ops eff K' n S T listed L w := by
  intro n
  induction n with
  | zero =>
    intro K K' S T listed L w hk h
    unfold phVC at h ⊢
    cases hb : (Region.ready .any ops listed).isEmpty <;> simp only [hb, cond_true, cond_false] at h ⊢
    exact hk _ _ (Same.refl _ _) h
  | succ n ih =>
    intro K K' S T listed L w hk h
    have hd : ∀ {i : Nat} {o : Oper}, ops[i]? = some o → ∀ d, o.dst = some d → d ∈ D := fun {i o} ho d hd => hD i d (by simp [ho, hd])
    unfold phVC at h ⊢
    split at h
    · exact hk _ _ (Same.refl _ _) h
    · rename_i r rs hr
      split at h
      · rename_i i hi
        try simp only [hi]
        cases hb : Region.free .any ops listed i <;> simp only [hb, cond_true, cond_false] at h ⊢
        split at h
        · exact h.elim
        · rename_i o ho
          try simp only [ho]
          refine guardG_mono hD (fun L' hs hgo => ?_) (fun L' hs hno => ih (fun L'' w'' hs' h => hk _ _ ((hs.trans (Same.put (hd ho))).trans hs') h) hno) h
          cases hk' : allKnown L' o.op.operands.toList <;> simp only [hk', cond_true, cond_false] at hgo ⊢
          cases hs' : isSelect o.op <;> simp only [hs', cond_true, cond_false] at hgo ⊢
          cases hl : loadsOp o.op <;> simp only [hl, cond_true, cond_false] at hgo ⊢
          · exact opH_mono (fun v h => ih (fun L'' w'' hs'' h => hk _ _ ((hs.trans (Same.put (hd ho))).trans hs'') h) h) hgo
          · exact opH_mono (fun v h => ih (fun L'' w'' hs'' h => hk _ _ ((hs.trans (Same.put (hd ho))).trans hs'') h) h) hgo
      · rename_i hi
        try simp only [hi]
        refine allL_mono (fun i h => ?_) h
        split at h
        · exact h.elim
        · rename_i o ho
          try simp only [ho]
          refine guardG_mono hD (fun L' hs hgo => ?_) (fun L' hs hno => ih (fun L'' w'' hs' h => hk _ _ ((hs.trans (Same.put (hd ho))).trans hs') h) hno) h
          cases hk' : allKnown L' o.op.operands.toList <;> simp only [hk', cond_true, cond_false] at hgo ⊢
          cases hs' : isSelect o.op <;> simp only [hs', cond_true, cond_false] at hgo ⊢
          have nx : ∀ {v : Value} {S : World → Prop} {T : List Nat} {w' : World}, phVC P ops eff K n S T (listed.setIfInBounds i true) (fput L' o.dst v) w' → phVC P ops eff K' n S T (listed.setIfInBounds i true) (fput L' o.dst v) w' :=
            fun h => ih (fun L'' w'' hs'' h => hk _ _ ((hs.trans (Same.put (hd ho))).trans hs'') h) h
          refine opVC_mono (fun v w' h => ?_) hgo
          exact cond_mono (fun h => cond_mono (fun ⟨S', h1, h2⟩ => ⟨S', h1, nx h2⟩) (fun h => nx h) h) (fun h => ⟨h.1, nx h.2⟩) h
inductive RMode where
  | quiet
  | held (eff : List Nat)
  | phased (eff : List Nat)
  | tailq (n : Nat)
  | tail (n : Nat)
  | raw
def lookupN {β : Type} : List (Nat × β) → Nat → Option β
  | [], _ => none
  | (k, v) :: l, n => cond (Nat.beq k n) (some v) (lookupN l n)
structure Ann where
  modes : List (Nat × RMode)
  loops : List (Nat × List (Nat × Shape))
  joins : List (Nat × List (Nat × Shape))
def regionVC (P : Program) (A : Ann) (id : Nat) (ops : Array Oper) (draw : Bool) (Q : Exit → Fr → World → Prop) (L : Fr) (w : World) : Prop :=
  cond draw
    (match (lookupN A.modes id).getD .quiet with
     | .quiet => cond (P.follows .mixedOrders) (cond (Region.lexB .any ops) (opsW (fun o ρ _ K => opQ P (Dr w) w o ρ fun v => K v ()) ops (fun L' _ => ∀ n, Q .normal L' (w.drewN n)) ops.toList L ()) False) False
     | .tail n => cond (P.follows .mixedOrders) (cond (Region.lexTailB .any ops n) (opsW (fun o ρ _ K => opQ P (Is (w.drewN 1)) (w.drewN 1) o ρ fun v => K v ()) ops
        (fun L' _ => opsW (fun o ρ w K => opVC P o ρ w K) ops (Q .normal) (ops.toList.drop n) L' (w.drewN 1)) (ops.toList.take n) L ()) False) False
     | .tailq n => cond (P.follows .mixedOrders) (cond (Region.lexTailB .any ops n) (opsW (fun o ρ _ K => opQ P (Dr w) w o ρ fun v => K v ()) ops
        (fun L' _ => ∀ m, opsW (fun o ρ w K => opVC P o ρ w K) ops (Q .normal) (ops.toList.drop n) L' (w.drewN m)) (ops.toList.take n) L ()) False) False
     | .held eff => cond (P.follows .mixedOrders) (cond (Region.noSelect ops) (∃ S : World → Prop, S (w.drewN 1) ∧ heldVC P ops S eff (Q .normal) ops.size (Array.replicate ops.size false) L (w.drewN 1)) False) False
     | .phased eff => cond (P.follows .mixedOrders) (cond (Region.noSelect ops) (∃ S : World → Prop, S (w.drewN 1) ∧ phVC P ops eff (Q .normal) ops.size S [] (Array.replicate ops.size false) L (w.drewN 1)) False) False
     | .raw => ∀ a, Fits L a → (Code.region id ops true).wp P (fun e a' w' => ∃ L', Fits L' a' ∧ Same (opDsts ops.toList) L L' ∧ Q e L' w') a w)
    (opsW (fun o ρ w K => opVC P o ρ w K) ops (Q .normal) ops.toList L w)
theorem cond_False {b : Bool} {K : Prop} (h : cond b K False) : b = true ∧ K := by cases b <;> simp_all
theorem regionVC_wp {P : Program} {A : Ann} {id : Nat} {ops : Array Oper} {draw : Bool} {Q : Exit → Fr → World → Prop} {L : Fr} {w : World} (h : regionVC P A id ops draw Q L w) (a : Act) (hF : Fits L a) :
    (Code.region id ops draw).wp P (fun e a' w' => ∃ L', Fits L' a' ∧ Q e L' w') a w := by
  unfold regionVC at h
  cases draw <;> simp only [cond_true, cond_false] at h
  · have := opsW_walk (walker_list (P := P) (ops := ops) (Q := fun e a' w' => ∃ L', Fits L' a' ∧ Q e L' w')) (K := Q .normal) (fun L' a' w' hF' h' => ⟨L', hF', h'⟩) ops.toList L a w hF h
    exact wp_region_list this
  · split at h
    · obtain ⟨hm, h⟩ := cond_False h
      obtain ⟨hB, h⟩ := cond_False h
      have hC : ∀ w', Dr w w' → w'.heap = w.heap := fun w' ⟨n, e⟩ => by rw [e]; rfl
      have := opsW_walk (walker_quiet (P := P) (ops := ops) hC (Q := fun a' => ∀ w', Dr w w' → ∃ L', Fits L' a' ∧ Q .normal L' w')) (K := fun L' _ => ∀ n, Q .normal L' (w.drewN n))
        (fun L' a' _ hF' h' w' ⟨n, e⟩ => ⟨L', hF', by rw [e]; exact h' n⟩) ops.toList L a () hF h
      exact wp_region_quiet (C := Dr w) hm hB ⟨1, rfl⟩ this
    · rename_i n _
      obtain ⟨hm, h⟩ := cond_False h
      obtain ⟨hB, h⟩ := cond_False h
      have := opsW_walk (walker_still (P := P) (ops := ops) (w := w.drewN 1) (Q := fun a' => wpList P ops (fun e a' w' => ∃ L', Fits L' a' ∧ Q e L' w') (ops.toList.drop n) a' (w.drewN 1)))
        (K := fun L' _ => opsW (fun o ρ w K => opVC P o ρ w K) ops (Q .normal) (ops.toList.drop n) L' (w.drewN 1))
        (fun L' a' _ hF' h' => opsW_walk (walker_list (P := P) (ops := ops) (Q := fun e a' w' => ∃ L', Fits L' a' ∧ Q e L' w')) (K := Q .normal) (fun L' a' w' hF' h' => ⟨L', hF', h'⟩) _ L' a' _ hF' h')
        (ops.toList.take n) L a () hF h
      have e : ops = ops.toList.toArray := by simp
      rw [e]
      exact wp_region_still_tail n hm (by rw [← e]; exact hB) (by rw [← e]; exact this)
    · rename_i n _
      obtain ⟨hm, h⟩ := cond_False h
      obtain ⟨hB, h⟩ := cond_False h
      have hC : ∀ w', Dr w w' → w'.heap = w.heap := fun w' ⟨n, e⟩ => by rw [e]; rfl
      have := opsW_walk (walker_quiet (P := P) (ops := ops) hC (Q := fun a' => ∀ w', Dr w w' → wpList P ops (fun e a' w' => ∃ L', Fits L' a' ∧ Q e L' w') (ops.toList.drop n) a' w'))
        (K := fun L' _ => ∀ m, opsW (fun o ρ w K => opVC P o ρ w K) ops (Q .normal) (ops.toList.drop n) L' (w.drewN m))
        (fun L' a' _ hF' h' w' ⟨m, e⟩ => by rw [e]; exact opsW_walk (walker_list (P := P) (ops := ops) (Q := fun e a' w' => ∃ L', Fits L' a' ∧ Q e L' w')) (K := Q .normal) (fun L' a' w' hF' h' => ⟨L', hF', h'⟩) _ L' a' _ hF' (h' m))
        (ops.toList.take n) L a () hF h
      exact wp_region_quiet_tail (C := Dr w) n hm hB ⟨1, rfl⟩ this
    · obtain ⟨hm, h⟩ := cond_False h
      obtain ⟨hsel, S, hS, h⟩ := cond_False h
      exact wp_mono (wp_region_held hm (heldVC_wp hsel _ _ _ _ _ hF hS h)) fun e a' w' ⟨he, h⟩ => by subst he; exact h
    · obtain ⟨hm, h⟩ := cond_False h
      obtain ⟨hsel, S, hS, h⟩ := cond_False h
      exact wp_mono (wp_region_any hm (wpAny_of_G _ _ _ _ (phVC_wp hsel _ _ _ _ _ _ _ hF hS h))) fun e a' w' ⟨he, h⟩ => by subst he; exact h
    · exact wp_mono (h a hF) fun e a' w' ⟨L', h1, _, h2⟩ => ⟨L', h1, h2⟩
theorem opsW_frame {σ : Type} {step : Oper → (Operand → Value) → σ → (Value → σ → Prop) → Prop} {ops : Array Oper} {D : List Nat}
    (hm : ∀ o ρ s K K', (∀ v s, K v s → K' v s) → step o ρ s K → step o ρ s K') (hD : ∀ (j d : Nat), (ops[j]?).bind (fun o => o.dst) = some d → d ∈ D) :
    ∀ (l : List Oper) {K K' : Fr → σ → Prop} {L : Fr} {s : σ}, (∀ o ∈ l, ∀ d, o.dst = some d → d ∈ D) → (∀ L' s', Same D L L' → K L' s' → K' L' s') → opsW step ops K l L s → opsW step ops K' l L s
  | [], K, K', L, s, _, hk, h => hk L s (Same.refl _ _) h
  | o :: rest, K, K', L, s, hl, hk, h => by
    have hr : ∀ o ∈ rest, ∀ d, o.dst = some d → d ∈ D := fun o ho => hl o (List.mem_cons_of_mem _ ho)
    have hp : ∀ {L' : Fr} {v : Value} {s' : σ}, Same D L L' → opsW step ops K rest (fput L' o.dst v) s' → opsW step ops K' rest (fput L' o.dst v) s' := fun {L' v s'} hs h =>
      opsW_frame hm hD rest hr (fun L'' s'' h1 h2 => hk L'' s'' (hs.trans ((Same.put (hl o (List.mem_cons_self ..))).trans h1)) h2) h
    have hgo : ∀ {L' : Fr}, Same D L L' → cond (allKnown L' o.op.operands.toList) (cond (isSelect o.op) False (step o (rho L') s fun v s' => opsW step ops K rest (fput L' o.dst v) s')) False →
        cond (allKnown L' o.op.operands.toList) (cond (isSelect o.op) False (step o (rho L') s fun v s' => opsW step ops K' rest (fput L' o.dst v) s')) False := fun hs h =>
      cond_mono (fun h => cond_mono id (fun h => hm _ _ _ _ _ (fun v s' h => hp hs h) h) h) id h
    unfold opsW at h ⊢
    split at h
    · rename_i hg
      try simp only [hg]
      exact hgo (Same.refl _ _) h
    · rename_i j want hg
      try simp only [hg]
      split at h
      · exact h.elim
      · rename_i d hd
        try simp only [hd]
        have hs : ∀ v, Same D L (fset L d v) := fun v => Same.set (hD j d hd)
        split at h
        · rename_i b hb
          try simp only [hb]
          exact cond_mono (fun h => cond_mono (hgo (hs _)) (hp (hs _)) h) (fun h => cond_mono (hp (hs _)) (hgo (hs _)) h) h
        · rename_i vs hb
          try simp only [hb]
          exact hp (Same.refl _ _) h
        · exact h.elim
theorem regionVC_frame {P : Program} {A : Ann} {id : Nat} {ops : Array Oper} {draw : Bool} {Q Q' : Exit → Fr → World → Prop} {L : Fr} {w : World}
    (hk : ∀ e L' w', Same (opDsts ops.toList) L L' → Q e L' w' → Q' e L' w') (h : regionVC P A id ops draw Q L w) : regionVC P A id ops draw Q' L w := by
  have hv : ∀ {l : List Oper} {L0 L' : Fr} {w' : World} , (∀ o ∈ l, o ∈ ops.toList) → Same (opDsts ops.toList) L L' → opsW (fun o ρ w K => opVC P o ρ w K) ops (Q .normal) l L' w' → opsW (fun o ρ w K => opVC P o ρ w K) ops (Q' .normal) l L' w' :=
    fun {l L0 L' w'} hl hs h => opsW_frame (step := fun o ρ w K => opVC P o ρ w K) (K := Q .normal) (K' := Q' .normal) (D := opDsts ops.toList) (fun _ _ _ _ _ hk h => opVC_mono hk h) (fun j d hd => opDsts_bind hd) l (fun o ho d hd => opDsts_mem (hl o ho) hd) (fun L'' s'' h1 h2 => hk _ _ _ (hs.trans h1) h2) h
  unfold regionVC at h ⊢
  cases draw <;> simp only [cond_true, cond_false] at h ⊢
  · exact hv (L0 := L) (fun _ h => h) (Same.refl _ _) h
  · split at h
    · rename_i hmode
      try simp only [hmode]
      exact cond_mono (fun h => cond_mono (fun h => opsW_frame (step := fun o ρ _ K => opQ P (Dr w) w o ρ fun v => K v ()) (K := fun L' _ => ∀ n, Q .normal L' (w.drewN n)) (K' := fun L' _ => ∀ n, Q' .normal L' (w.drewN n)) (D := opDsts ops.toList) (fun _ _ _ _ _ hk h => opQ_mono (fun v h => hk v () h) h) (fun j d hd => opDsts_bind hd) ops.toList (fun o ho d hd => opDsts_mem ho hd)
        (fun L'' s'' h1 h2 n => hk _ _ _ h1 (h2 n)) h) (fun h => h) h) (fun h => h) h
    · rename_i n hmode
      try simp only [hmode]
      exact cond_mono (fun h => cond_mono (fun h => opsW_frame (step := fun o ρ _ K => opQ P (Is (w.drewN 1)) (w.drewN 1) o ρ fun v => K v ()) (K := fun L' _ => opsW (fun o ρ w K => opVC P o ρ w K) ops (Q .normal) (ops.toList.drop n) L' (w.drewN 1)) (K' := fun L' _ => opsW (fun o ρ w K => opVC P o ρ w K) ops (Q' .normal) (ops.toList.drop n) L' (w.drewN 1)) (D := opDsts ops.toList) (fun _ _ _ _ _ hk h => opQ_mono (fun v h => hk v () h) h) (fun j d hd => opDsts_bind hd) _ (fun o ho d hd => opDsts_mem (List.mem_of_mem_take ho) hd)
        (fun L'' s'' h1 h2 => hv (L0 := L) (fun o ho => List.mem_of_mem_drop ho) h1 h2) h) (fun h => h) h) (fun h => h) h
    · rename_i n hmode
      try simp only [hmode]
      exact cond_mono (fun h => cond_mono (fun h => opsW_frame (step := fun o ρ _ K => opQ P (Dr w) w o ρ fun v => K v ()) (K := fun L' _ => ∀ m, opsW (fun o ρ w K => opVC P o ρ w K) ops (Q .normal) (ops.toList.drop n) L' (w.drewN m)) (K' := fun L' _ => ∀ m, opsW (fun o ρ w K => opVC P o ρ w K) ops (Q' .normal) (ops.toList.drop n) L' (w.drewN m)) (D := opDsts ops.toList) (fun _ _ _ _ _ hk h => opQ_mono (fun v h => hk v () h) h) (fun j d hd => opDsts_bind hd) _ (fun o ho d hd => opDsts_mem (List.mem_of_mem_take ho) hd)
        (fun L'' s'' h1 h2 m => hv (L0 := L) (fun o ho => List.mem_of_mem_drop ho) h1 (h2 m)) h) (fun h => h) h) (fun h => h) h
    · rename_i eff hmode
      try simp only [hmode]
      exact cond_mono (fun h => cond_mono (fun ⟨S, hS, h⟩ => ⟨S, hS, heldVC_frame (fun j d hd => opDsts_bind hd) _ (fun L' w' hs h => hk _ _ _ hs h) h⟩) (fun h => h) h) (fun h => h) h
    · rename_i eff hmode
      try simp only [hmode]
      exact cond_mono (fun h => cond_mono (fun ⟨S, hS, h⟩ => ⟨S, hS, phVC_frame (fun j d hd => opDsts_bind hd) _ (fun L' w' hs h => hk _ _ _ hs h) h⟩) (fun h => h) h) (fun h => h) h
    · rename_i hmode
      try simp only [hmode]
      exact fun a hF => wp_mono (h a hF) fun e a' w' ⟨L', h1, h2, h3⟩ => ⟨L', h1, h2, hk _ _ _ h2 h3⟩
def thenQ (next : Fr → World → Prop) (Q : Exit → Fr → World → Prop) : Exit → Fr → World → Prop
  | .normal, L, w => next L w
  | e, L, w => Q e L w
def blockQ (id : Nat) (Q : Exit → Fr → World → Prop) : Exit → Fr → World → Prop
  | .exit id', L, w => cond (Nat.beq id' id) (Q .normal L w) (Q (.exit id') L w)
  | e, L, w => Q e L w
def firstId : Code → Option Nat
  | .region id _ _ => some id
  | .seq a b => (firstId a).orElse fun _ => firstId b
  | .cond _ t e => (firstId t).orElse fun _ => firstId e
  | .block _ b => firstId b
  | .loop b => firstId b
  | .scope b => firstId b
  | _ => none
def lookupC {β : Type} (l : List (Nat × β)) (c : Code) : Option β := match firstId c with | some n => lookupN l n | none => none
def dsts : Code → List Nat
  | .region _ ops _ => opDsts ops.toList
  | .seq a b => dsts a ++ dsts b
  | .cond _ t e => dsts t ++ dsts e
  | .block _ b => dsts b
  | .loop b => dsts b
  | .scope b => dsts b
  | _ => []
def forget : List Nat → Fr → Fr
  | [], L => L
  | d :: l, L => forget l (fset L d none)
def setSlots : List (Nat × Shape) → List Value → Fr → Fr
  | (k, _) :: l, v :: vs, L => setSlots l vs (fset L k (some v))
  | _, _, L => L
def getSlots : List (Nat × Shape) → Fr → Option (List Value)
  | [], _ => some []
  | (k, _) :: l, L => match fget L k with
    | none => none
    | some v => match getSlots l L with
      | none => none
      | some vs => some (v :: vs)
def atSlots (sl : List (Nat × Shape)) (L : Fr) (K : List Value → Prop) : Prop :=
  match getSlots sl L with
  | none => False
  | some vs => cond (shapesIs (sl.map (·.2)) vs) (K vs) False
def slotsIn : List (Nat × Shape) → List Nat → Bool
  | [], _ => true
  | (k, _) :: l, D => cond (D.any (Nat.beq k)) (slotsIn l D) false
theorem slotsIn_spec : ∀ {l : List (Nat × Shape)} {D : List Nat}, slotsIn l D = true → ∀ x ∈ l, x.1 ∈ D
  | [], _, _, x, hx => by cases hx
  | (k, s) :: l, D, h, x, hx => by
    have h' : cond (D.any (Nat.beq k)) (slotsIn l D) false = true := h
    cases hy : D.any (Nat.beq k) with
    | false => rw [hy] at h'; cases h'
    | true =>
      rw [hy] at h'
      rcases List.mem_cons.1 hx with rfl | hx
      · obtain ⟨d, hd, he⟩ := List.any_eq_true.1 hy
        have : k = d := Nat.eq_of_beq_eq_true he
        rw [this]; exact hd
      · exact slotsIn_spec h' x hx
def loopQ (sl : List (Nat × Shape)) (I : Nat → List Value → World → Prop) (n : Nat) (Q : Exit → Fr → World → Prop) : Exit → Fr → World → Prop
  | .normal, L, w => atSlots sl L fun vs => ∃ n', n' < n ∧ I n' vs w
  | e, L, w => Q e L w
def vc (P : Program) (A : Ann) : Code → (Exit → Fr → World → Prop) → Fr → World → Prop
  | .skip, Q, L, w => Q .normal L w
  | .region id ops draw, Q, L, w => regionVC P A id ops draw Q L w
  | .seq a b, Q, L, w => match lookupC A.joins b with
    | none => vc P A a (thenQ (vc P A b Q) Q) L w
    | some sl => cond (slotsIn sl (dsts a)) (∃ J : List Value → World → Prop, vc P A a (thenQ (fun L' w' => atSlots sl L' fun vs => J vs w') Q) L w ∧
        shapesAll (sl.map (·.2)) fun vs => ∀ w1, J vs w1 → vc P A b Q (setSlots sl vs (forget (dsts a) L)) w1) False
  | .cond c t e, Q, L, w => cond (known L c) (match rho L c with | .bool b => cond b (vc P A t Q L w) (vc P A e Q L w) | _ => False) False
  | .block id b, Q, L, w => vc P A b (blockQ id Q) L w
  | .exit id, Q, L, w => Q (.exit id) L w
  | .ret, Q, L, w => Q .ret L w
  | .label _, Q, L, w => Q .normal L w
  | .loop b, Q, L, w => match lookupC A.loops b with
    | none => False
    | some sl => cond (slotsIn sl (dsts b)) (atSlots sl L fun vs0 => ∃ I : Nat → List Value → World → Prop, (∃ n, I n vs0 w) ∧
        ∀ n, shapesAll (sl.map (·.2)) fun vs => ∀ w1, I n vs w1 → vc P A b (loopQ sl I n Q) (setSlots sl vs (forget (dsts b) L)) w1) False
  | _, _, _, _ => False
theorem thenQ_mono {n n' : Fr → World → Prop} {Q Q' : Exit → Fr → World → Prop} {e : Exit} {L : Fr} {w : World} (hn : n L w → n' L w) (hq : ∀ e, Q e L w → Q' e L w) (h : thenQ n Q e L w) : thenQ n' Q' e L w := by
  cases e <;> first | exact hn h | exact hq _ h
theorem blockQ_mono {id : Nat} {Q Q' : Exit → Fr → World → Prop} {e : Exit} {L : Fr} {w : World} (hq : ∀ e, Q e L w → Q' e L w) (h : blockQ id Q e L w) : blockQ id Q' e L w := by
  cases e <;> first | exact hq _ h | exact cond_mono (hq _) (hq _) h
theorem atSlots_mono {sl : List (Nat × Shape)} {L : Fr} {K K' : List Value → Prop} (hk : ∀ vs, K vs → K' vs) (h : atSlots sl L K) : atSlots sl L K' := by
  unfold atSlots at *
  split at h
  · exact h.elim
  · exact cond_mono (hk _) id h
theorem loopQ_mono {sl : List (Nat × Shape)} {I : Nat → List Value → World → Prop} {m : Nat} {Q Q' : Exit → Fr → World → Prop} {e : Exit} {L : Fr} {w : World} (hq : ∀ e, Q e L w → Q' e L w) (h : loopQ sl I m Q e L w) : loopQ sl I m Q' e L w := by
  cases e <;> first | exact h | exact hq _ h
theorem forget_same : ∀ (l : List Nat) {D : List Nat} {L : Fr}, (∀ d ∈ l, d ∈ D) → Same D L (forget l L)
  | [], _, _, _ => Same.refl _ _
  | _ :: l, _, _, h => (Same.set (h _ (List.mem_cons_self ..))).trans (forget_same l fun x hx => h x (List.mem_cons_of_mem _ hx))
theorem setSlots_same : ∀ (sl : List (Nat × Shape)) (vs : List Value) {D : List Nat} {L : Fr}, (∀ x ∈ sl, x.1 ∈ D) → Same D L (setSlots sl vs L)
  | [], _, _, _, _ => Same.refl _ _
  | _ :: _, [], _, _, _ => Same.refl _ _
  | _ :: sl, _ :: vs, _, _, h => (Same.set (h _ (List.mem_cons_self ..))).trans (setSlots_same sl vs fun x hx => h x (List.mem_cons_of_mem _ hx))
theorem head_same {sl : List (Nat × Shape)} {vs : List Value} {l D : List Nat} {L : Fr} (h : slotsIn sl l = true) (hd : ∀ d ∈ l, d ∈ D) : Same D L (setSlots sl vs (forget l L)) :=
  (forget_same l hd).trans (setSlots_same sl vs fun x hx => hd _ (slotsIn_spec h x hx))
theorem vc_frame {P : Program} {A : Ann} : ∀ (c : Code) {D : List Nat} {Q Q' : Exit → Fr → World → Prop} {L : Fr} {w : World}, (∀ d ∈ dsts c, d ∈ D) →
    (∀ e L' w', Same D L L' → Q e L' w' → Q' e L' w') → vc P A c Q L w → vc P A c Q' L w := by
  intro c
  induction c with
  | skip => exact fun _ hk h => hk _ _ _ (Same.refl _ _) h
  | region id ops draw => exact fun hd hk h => regionVC_frame (fun e L' w' hs h => hk e L' w' (hs.mono hd) h) h
  | seq a b iha ihb =>
    intro D Q Q' L w hd hk h
    have ha : ∀ d ∈ dsts a, d ∈ D := fun d h => hd d (List.mem_append_left _ h)
    have hb : ∀ d ∈ dsts b, d ∈ D := fun d h => hd d (List.mem_append_right _ h)
    unfold vc at h ⊢
    cases hj : lookupC A.joins b with
    | none =>
      simp only [hj] at h ⊢
      exact iha ha (fun e L' w' hs h => thenQ_mono (fun h => ihb hb (fun e L'' w'' hs' h => hk _ _ _ (hs.trans hs') h) h) (fun e h => hk _ _ _ hs h) h) h
    | some sl =>
      simp only [hj] at h ⊢
      obtain ⟨hin, J, h1, h2⟩ := cond_False h
      rw [hin]
      refine ⟨J, iha ha (fun e L' w' hs h => thenQ_mono (fun h => h) (fun e h => hk _ _ _ hs h) h) h1, ?_⟩
      exact shapesAll_mono (fun vs h w1 hJ => ihb hb (fun e L' w' hs h => hk _ _ _ ((head_same hin ha).trans hs) h) (h w1 hJ)) h2
  | cond c t e iht ihe =>
    intro D Q Q' L w hd hk h
    have ht : ∀ d ∈ dsts t, d ∈ D := fun d h => hd d (List.mem_append_left _ h)
    have he : ∀ d ∈ dsts e, d ∈ D := fun d h => hd d (List.mem_append_right _ h)
    unfold vc at h ⊢
    refine cond_mono (fun h => ?_) (fun h => h) h
    split at h
    · rename_i b hb
      try simp only [hb]
      exact cond_mono (iht ht hk) (ihe he hk) h
    · exact h.elim
  | block id b ih => exact fun hd hk h => ih hd (fun e L' w' hs h => blockQ_mono (fun e h => hk _ _ _ hs h) h) h
  | exit id => exact fun _ hk h => hk _ _ _ (Same.refl _ _) h
  | ret => exact fun _ hk h => hk _ _ _ (Same.refl _ _) h
  | label l => exact fun _ hk h => hk _ _ _ (Same.refl _ _) h
  | loop b ih =>
    intro D Q Q' L w hd hk h
    unfold vc at h ⊢
    cases hj : lookupC A.loops b with
    | none => simp only [hj] at h
    | some sl =>
      simp only [hj] at h ⊢
      obtain ⟨hin, h⟩ := cond_False h
      rw [hin]
      refine atSlots_mono (fun vs0 ⟨I, h0, h1⟩ => ⟨I, h0, fun n => ?_⟩) h
      refine shapesAll_mono (fun vs h w1 hI => ih hd (fun e L' w' hs h => loopQ_mono (fun e h => hk _ _ _ ((head_same hin hd).trans hs) h) h) (h w1 hI)) (h1 n)
  | _ => exact fun _ _ h => h.elim
theorem Fits.forget {a : Act} : ∀ (l : List Nat) {L : Fr}, Fits L a → Fits (forget l L) a
  | [], _, h => h
  | _ :: l, _, h => Fits.forget l (h.set _ none fun _ e => by cases e)
theorem Fits.setSlots {a : Act} {L' : Fr} (h' : Fits L' a) : ∀ (sl : List (Nat × Shape)) {vs : List Value} {L : Fr}, Fits L a → getSlots sl L' = some vs → Fits (setSlots sl vs L) a
  | [], _, _, h, _ => h
  | (k, s) :: sl, vs, L, h, hg => by
    unfold getSlots at hg
    split at hg
    · cases hg
    · rename_i v hv
      split at hg
      · cases hg
      · rename_i vs' hvs
        cases hg
        exact Fits.setSlots h' sl (h.set k (some v) fun u e => by cases e; exact h'.val k v hv) hvs
theorem fget_forget {k : Nat} : ∀ (l : List Nat) {L : Fr} {v : Value}, fget (forget l L) k = some v → k ∉ l ∧ fget L k = some v
  | [], _, _, h => ⟨by simp, h⟩
  | d :: l, L, v, h => by
    obtain ⟨h1, h2⟩ := fget_forget l (L := fset L d none) h
    rw [fget_fset] at h2
    split at h2
    · cases h2
    · rename_i hc
      refine ⟨?_, h2⟩
      intro hm
      rcases List.mem_cons.1 hm with rfl | hm
      · have : ¬ k < L.length := fun hl => hc ⟨rfl, hl⟩
        have hn : ∀ (L : Fr) (k : Nat), ¬ k < L.length → fget L k = none := by
          intro L
          induction L with
          | nil => intro k _; rfl
          | cons x L ih =>
            intro k hk
            cases k with
            | zero => exact absurd (Nat.succ_pos _) hk
            | succ k => exact ih k fun h => hk (Nat.succ_lt_succ h)
        rw [hn L k this] at h2
        cases h2
      · exact h1 hm
theorem Fits.again {a : Act} {L L' : Fr} {D : List Nat} {sl : List (Nat × Shape)} {vs vs' : List Value} (h : Fits L' a) (hs : Same D (Vc.setSlots sl vs (Vc.forget D L)) L') (hin : slotsIn sl D = true) (hg : getSlots sl L' = some vs') :
    Fits (Vc.setSlots sl vs' (Vc.forget D L)) a := by
  have hd := head_same (vs := vs) (L := L) hin (fun _ h => h)
  have hf : Fits (Vc.forget D L) a := by
    refine ⟨by rw [(forget_same D (L := L) fun _ h => h).1, ← hd.1, ← hs.1]; exact h.len, fun k v hk => ?_, h.defs⟩
    obtain ⟨h1, h2⟩ := fget_forget D hk
    exact h.val k v (by rw [hs.2 k h1, hd.2 k h1]; exact h2)
  exact Fits.setSlots h sl hf hg
theorem atSlots_get {sl : List (Nat × Shape)} {L : Fr} {K : List Value → Prop} (h : atSlots sl L K) : ∃ vs, getSlots sl L = some vs ∧ shapesIs (sl.map (·.2)) vs = true ∧ K vs := by
  unfold atSlots at h
  split at h
  · exact h.elim
  · rename_i vs hvs
    obtain ⟨h1, h2⟩ := cond_False h
    exact ⟨vs, hvs, h1, h2⟩
def lift (Q : Exit → Fr → World → Prop) : Exit → Act → World → Prop := fun e a w => ∃ L, Fits L a ∧ Q e L w
theorem vc_wp {P : Program} {A : Ann} : ∀ (c : Code) {Q : Exit → Fr → World → Prop} {L : Fr} {w : World} {a : Act}, vc P A c Q L w → Fits L a → c.wp P (lift Q) a w := by
  intro c
  induction c with
  | skip => exact fun h hF => wp_skip ⟨_, hF, h⟩
  | region id ops draw => exact fun h hF => regionVC_wp h _ hF
  | seq a b iha ihb =>
    intro Q L w act h hF
    unfold vc at h
    cases hj : lookupC A.joins b with
    | none =>
      simp only [hj] at h
      refine wp_seq (wp_mono (iha h hF) fun e a' w' ⟨L', hF', h'⟩ => ?_)
      cases e <;> first | exact ihb h' hF' | exact ⟨L', hF', h'⟩
    | some sl =>
      simp only [hj] at h
      obtain ⟨hin, J, h1, h2⟩ := cond_False h
      have h3 := vc_frame a (D := dsts a) (fun _ h => h) (Q' := fun e L' w' => thenQ (fun L' w' => atSlots sl L' fun vs => J vs w') Q e L' w' ∧ Same (dsts a) L L') (fun e L' w' hs h => ⟨h, hs⟩) h1
      refine wp_seq (wp_mono (iha h3 hF) fun e a' w' ⟨L', hF', h', hs⟩ => ?_)
      cases e with
      | normal =>
        obtain ⟨vs, hg, hsh, hJ⟩ := atSlots_get h'
        refine ihb (shapesAll_is h2 hsh w' hJ) ?_
        have hs' : Same (dsts a) (setSlots sl vs (forget (dsts a) L)) L' := ⟨by rw [hs.1, (head_same hin (fun _ h => h)).1], fun k hk => by rw [hs.2 k hk, (head_same hin (fun _ h => h)).2 k hk]⟩
        exact Fits.again hF' hs' hin hg
      | _ => exact ⟨L', hF', h'⟩
  | cond c t e iht ihe =>
    intro Q L w act h hF
    unfold vc at h
    obtain ⟨hk, h⟩ := cond_False h
    split at h
    · rename_i b hb
      refine wp_cond_split (t := b) (by rw [hF.eval hk, hb]) (fun hb => ?_) (fun hb => ?_)
      · subst hb; exact iht h hF
      · subst hb; exact ihe h hF
    · exact h.elim
  | block id b ih =>
    intro Q L w act h hF
    refine wp_block (wp_mono (ih h hF) fun e a' w' ⟨L', hF', h'⟩ => ?_)
    cases e with
    | exit id' =>
      simp only [Exit.inBlock]
      by_cases he : id' = id
      · rw [if_pos he]
        subst he
        simp only [blockQ, Nat.beq_refl, cond_true] at h'
        exact ⟨L', hF', h'⟩
      · rw [if_neg he]
        have : Nat.beq id' id = false := by
          cases hb : Nat.beq id' id
          · rfl
          · exact absurd (Nat.eq_of_beq_eq_true hb) he
        simp only [blockQ, this, cond_false] at h'
        exact ⟨L', hF', h'⟩
    | _ => exact ⟨L', hF', h'⟩
  | exit id => exact fun h hF => wp_exit ⟨_, hF, h⟩
  | ret => exact fun h hF => wp_ret ⟨_, hF, h⟩
  | label l => exact fun h hF => wp_label ⟨_, hF, h⟩
  | loop b ih =>
    intro Q L w act h hF
    unfold vc at h
    cases hj : lookupC A.loops b with
    | none => simp only [hj] at h
    | some sl =>
      simp only [hj] at h
      obtain ⟨hin, h⟩ := cond_False h
      obtain ⟨vs0, hg0, hsh0, I, ⟨n0, h0⟩, h1⟩ := atSlots_get h
      refine wp_loop_ghost (fun n a' w' => ∃ vs, shapesIs (sl.map (·.2)) vs = true ∧ I n vs w' ∧ Fits (setSlots sl vs (forget (dsts b) L)) a') n0 ⟨vs0, hsh0, h0, Fits.setSlots hF sl (hF.forget _) hg0⟩ fun n a' w' ⟨vs, hsh, hI, hF'⟩ => ?_
      have h2 := shapesAll_is (h1 n) hsh w' hI
      have h3 := vc_frame b (D := dsts b) (fun _ h => h) (Q' := fun e L' w' => loopQ sl I n Q e L' w' ∧ Same (dsts b) (setSlots sl vs (forget (dsts b) L)) L') (fun e L' w' hs h => ⟨h, hs⟩) h2
      refine wp_mono (ih h3 hF') fun e a'' w'' ⟨L', hF'', h', hs⟩ => ?_
      cases e with
      | normal =>
        obtain ⟨vs', hg, hsh', n', hn, hI'⟩ := atSlots_get h'
        exact ⟨n', hn, vs', hsh', hI', Fits.again hF'' hs hin hg⟩
      | _ => exact ⟨L', hF'', h'⟩
  | _ => exact fun h => h.elim
def resVC (P : Program) : List ResultVar → Fr → World → (List Value → Prop) → Prop
  | [], _, _, K => K []
  | .tmp t :: r, L, w, K => match fget L t with
    | some v => resVC P r L w fun vs => K (v :: vs)
    | none => False
  | .cell a t :: r, L, w, K => match fget L a with
    | some (.pointer p) => NN p fun ad => match midT P t with
      | true => ∃ v, (Instr.loadAt t (.pointer (some ad))).run P w = .ok v w ∧ resVC P r L w fun vs => K (v :: vs)
      | false => semQ P (loadVar t ad) (cellsT P 8 t) w fun v => resVC P r L w fun vs => K (v :: vs)
    | _ => False
def initFr (args : List Value) (n : Nat) : Fr := args.map some ++ List.replicate (n - args.length) none
def retVal : List Value → Value
  | [v] => v
  | vs => .tuple vs.toArray
def retQ (P : Program) (rs : List ResultVar) (R : Ending → World → Prop) : Exit → Fr → World → Prop
  | .normal, L, w => resVC P rs L w fun vs => R (.returned (retVal vs)) w
  | .ret, L, w => resVC P rs L w fun vs => R (.returned (retVal vs)) w
  | _, _, _ => False
def resOne (tmps : Array Value) : ResultVar → Sem Value
  | .tmp t => pure (tmps.getD t undef)
  | .cell a t => do loadVar t (← asAddr (tmps.getD a undef))
theorem results_eq (fn : Func) (tmps : Array Value) : results fn tmps = (do let vs ← fn.results.mapM (resOne tmps); pure (if h : vs.size = 1 then vs[0] else .tuple vs)) := by
  unfold results
  congr 2
theorem resVC_run {P : Program} {L : Fr} {a : Act} (hF : Fits L a) {w : World} : ∀ (rs : List ResultVar) {K : List Value → Prop}, resVC P rs L w K →
    ∃ vs, (rs.mapM (resOne a.tmps)).run P w = .ok vs w ∧ K vs
  | [], K, h => ⟨[], rfl, h⟩
  | .tmp t :: r, K, h => by
    simp only [resVC] at h
    split at h
    · rename_i v hv
      obtain ⟨vs, h1, h2⟩ := resVC_run hF r h
      refine ⟨v :: vs, ?_, h2⟩
      have : (resOne a.tmps (.tmp t)).run P w = .ok v w := by simp [resOne, hF.val t v hv]
      simp [List.mapM_cons, this, h1]
    · exact h.elim
  | .cell ad t :: r, K, h => by
    simp only [resVC] at h
    split at h
    · rename_i p hv
      obtain ⟨ad', rfl, h⟩ := NN_ex h
      split at h
      · obtain ⟨v, hl, h⟩ := h
        obtain ⟨vs, h1, h2⟩ := resVC_run hF r h
        refine ⟨v :: vs, ?_, h2⟩
        have hl' : (loadVar t ad').run P w = .ok v w := by simpa [Instr.loadAt, Instr.sureAddr] using hl
        have : (resOne a.tmps (.cell ad t)).run P w = .ok v w := by simp [resOne, hF.val ad _ hv, asAddr, hl']
        simp [List.mapM_cons, this, h1]
      · obtain ⟨v, hl, h⟩ := semQ_run _ h
        obtain ⟨vs, h1, h2⟩ := resVC_run hF r h
        refine ⟨v :: vs, ?_, h2⟩
        have : (resOne a.tmps (.cell ad t)).run P w = .ok v w := by simp [resOne, hF.val ad _ hv, asAddr, hl w rfl]
        simp [List.mapM_cons, this, h1]
    · exact h.elim
theorem calls_of_vc {P : Program} {f : FuncId} {fn : Func} {c : Code} {args : List Value} {w : World} {R : Ending → World → Prop} (A : Ann) (hf : P.funcs[f]? = some fn) (hb : fn.body = some c)
    (h : vc P A c (retQ P fn.results.toList R) (initFr args fn.ntmps) w) : Calls P f args.toArray w R := by
  refine calls_of_wp hf hb (wp_mono (vc_wp c h ⟨?_, ?_, rfl⟩) ?_)
  · simp [initFr]
  · intro k v hk
    have key : ∀ (args : List Value) (m k : Nat) (v : Value), fget (args.map some ++ List.replicate m none) k = some v → (args ++ List.replicate m undef)[k]? = some v := by
      intro args
      induction args with
      | nil =>
        intro m
        induction m with
        | zero => intro k v h; simp [fget] at h
        | succ m ih =>
          intro k v h
          cases k with
          | zero => simp [List.replicate_succ, fget] at h
          | succ k => simp only [List.map_nil, List.nil_append, List.replicate_succ, fget] at h; simpa [List.replicate_succ] using ih k v (by simpa using h)
      | cons x args ih =>
        intro m k v h
        cases k with
        | zero => simp only [List.map_cons, List.cons_append, fget] at h; cases h; rfl
        | succ k => simp only [List.map_cons, List.cons_append, fget] at h; simpa using ih m k v h
    have := key args _ k v hk
    show (args.toArray ++ Array.replicate (fn.ntmps - args.length) undef)[k]? = some v
    rw [← this, ← Array.getElem?_toList]
    simp
  · intro e a' w' ⟨L', hF', h'⟩
    have hres : ∀ L' a', Fits L' a' → (resVC P fn.results.toList L' w' fun vs => R (.returned (retVal vs)) w') → a'.defers = [] ∧ ∃ v, (results fn a'.tmps).run P w' = .ok v w' ∧ R (.returned v) w' := by
      intro L' a' hF' h'
      obtain ⟨vs, h1, h2⟩ := resVC_run hF' _ h'
      refine ⟨hF'.defs, _, ?_, h2⟩
      have e : fn.results = fn.results.toList.toArray := by simp
      rw [results_eq, e]
      simp only [List.mapM_toArray]
      simp [h1]
      match vs with
      | [] => rfl
      | [v] => rfl
      | v :: u :: vs => rfl
    cases e with
    | normal => exact hres _ _ hF' h'
    | ret => exact hres _ _ hF' h'
    | _ => exact h'.elim
theorem calls_by {P : Program} {f : FuncId} {fn : Func} {c : Code} {args : List Value} {w : World} {R : Ending → World → Prop} {p : Prop} (A : Ann) (hf : P.funcs[f]? = some fn) (hb : fn.body = some c)
    (e : vc P A c (retQ P fn.results.toList R) (initFr args fn.ntmps) w = p) (h : p) : Calls P f args.toArray w R := calls_of_vc A hf hb (e ▸ h)
end Go.Vc
