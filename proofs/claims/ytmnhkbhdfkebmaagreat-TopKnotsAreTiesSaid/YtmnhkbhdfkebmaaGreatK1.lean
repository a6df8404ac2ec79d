/- A clean state for the machine: values and memory by abstract block numbers, and how they stand to the model's world. Clean operations that leave memory alone, and that they give what the model's operations give. Clean operations: those that leave memory alone. -/
import Derived.Calls
import Derived.Orders
import Derived.Laws.Small
import Derived.Laws.Entries
import Derived.Laws.StructEq
import Derived.Laws.Bits

set_option linter.unusedSimpArgs false
set_option linter.unusedVariables false

namespace Go.K

/-- A finite map on numbers: a binary tree along the digits. -/
inductive Tr (α : Type) where
  | nil
  | node (l : Tr α) (v : Option α) (r : Tr α)

namespace Tr
variable {α : Type}
def get : Tr α → Nat → Option α
  | .nil, _ => none
  | .node l v r, n =>
    match n with
    | 0 => v
    | m + 1 => match Nat.beq (m % 2) 0 with
      | true => l.get (m / 2)
      | false => r.get (m / 2)
def setF : Nat → Tr α → Nat → Option α → Tr α
  | 0, t, _, _ => t
  | f + 1, t, n, x =>
    match t with
    | .nil => match n with
      | 0 => .node .nil x .nil
      | m + 1 => match Nat.beq (m % 2) 0 with
        | true => .node (setF f .nil (m / 2) x) none .nil
        | false => .node .nil none (setF f .nil (m / 2) x)
    | .node l v r => match n with
      | 0 => .node l x r
      | m + 1 => match Nat.beq (m % 2) 0 with
        | true => .node (setF f l (m / 2) x) v r
        | false => .node l v (setF f r (m / 2) x)
def set (t : Tr α) (n : Nat) (x : α) : Tr α := setF (n + 1) t n (some x)
def del (t : Tr α) (n : Nat) : Tr α := setF (n + 1) t n none

theorem get_nil (n : Nat) : (Tr.nil : Tr α).get n = none := by simp [get]

theorem get_setF (f : Nat) : ∀ (t : Tr α) (n k : Nat) (x : Option α), n < f → (setF f t n x).get k = if k = n then x else t.get k := by
  induction f with
  | zero => intro t n k x h; omega
  | succ f ih =>
    intro t n k x h
    cases t with
    | nil =>
      cases n with
      | zero =>
        cases k with
        | zero => simp [setF, get]
        | succ j => simp only [setF, get]; split <;> simp [get]
      | succ m =>
        have hm : m / 2 < f := by omega
        cases hb : Nat.beq (m % 2) 0 with
        | true =>
          have hb' : m % 2 = 0 := Nat.eq_of_beq_eq_true hb
          cases k with
          | zero => simp [setF, get, hb]
          | succ j =>
            simp only [setF, get, hb]
            cases hj : Nat.beq (j % 2) 0 with
            | true =>
              have hj' : j % 2 = 0 := Nat.eq_of_beq_eq_true hj
              simp only [ih _ _ _ _ hm]
              by_cases e : j / 2 = m / 2
              · have : j = m := by omega
                simp [this]
              · have : j ≠ m := fun e' => e (e' ▸ rfl)
                simp [e, this, get]
            | false =>
              have hj' : j % 2 ≠ 0 := Nat.ne_of_beq_eq_false hj
              have : j ≠ m := fun e' => hj' (e' ▸ hb')
              simp [get, this]
        | false =>
          have hb' : m % 2 ≠ 0 := Nat.ne_of_beq_eq_false hb
          cases k with
          | zero => simp [setF, get, hb]
          | succ j =>
            simp only [setF, get, hb]
            cases hj : Nat.beq (j % 2) 0 with
            | true =>
              have hj' : j % 2 = 0 := Nat.eq_of_beq_eq_true hj
              have : j ≠ m := fun e' => hb' (e' ▸ hj')
              simp [get, this]
            | false =>
              have hj' : j % 2 ≠ 0 := Nat.ne_of_beq_eq_false hj
              simp only [ih _ _ _ _ hm]
              by_cases e : j / 2 = m / 2
              · have : j = m := by omega
                simp [this]
              · have : j ≠ m := fun e' => e (e' ▸ rfl)
                simp [e, this, get]
    | node l v r =>
      cases n with
      | zero => cases k <;> simp [setF, get]
      | succ m =>
        have hm : m / 2 < f := by omega
        cases hb : Nat.beq (m % 2) 0 with
        | true =>
          have hb' : m % 2 = 0 := Nat.eq_of_beq_eq_true hb
          cases k with
          | zero => simp [setF, get, hb]
          | succ j =>
            simp only [setF, get, hb]
            cases hj : Nat.beq (j % 2) 0 with
            | true =>
              have hj' : j % 2 = 0 := Nat.eq_of_beq_eq_true hj
              simp only [ih _ _ _ _ hm]
              by_cases e : j / 2 = m / 2
              · have : j = m := by omega
                simp [this]
              · have : j ≠ m := fun e' => e (e' ▸ rfl)
                simp [e, this]
            | false =>
              have hj' : j % 2 ≠ 0 := Nat.ne_of_beq_eq_false hj
              have : j ≠ m := fun e' => hj' (e' ▸ hb')
              simp [this]
        | false =>
          have hb' : m % 2 ≠ 0 := Nat.ne_of_beq_eq_false hb
          cases k with
          | zero => simp [setF, get, hb]
          | succ j =>
            simp only [setF, get, hb]
            cases hj : Nat.beq (j % 2) 0 with
            | true =>
              have hj' : j % 2 = 0 := Nat.eq_of_beq_eq_true hj
              have : j ≠ m := fun e' => hb' (e' ▸ hj')
              simp [this]
            | false =>
              have hj' : j % 2 ≠ 0 := Nat.ne_of_beq_eq_false hj
              simp only [ih _ _ _ _ hm]
              by_cases e : j / 2 = m / 2
              · have : j = m := by omega
                simp [this]
              · have : j ≠ m := fun e' => e (e' ▸ rfl)
                simp [e, this]

theorem get_set (t : Tr α) (n k : Nat) (x : α) : (t.set n x).get k = if k = n then some x else t.get k :=
  get_setF _ _ _ _ _ (Nat.lt_succ_self n)
theorem get_set_same (t : Tr α) (n : Nat) (x : α) : (t.set n x).get n = some x := by simp [get_set]
theorem get_set_ne (t : Tr α) {n k : Nat} (x : α) (h : k ≠ n) : (t.set n x).get k = t.get k := by simp [get_set, h]
theorem get_del (t : Tr α) (n k : Nat) : (t.del n).get k = if k = n then none else t.get k :=
  get_setF _ _ _ _ _ (Nat.lt_succ_self n)
end Tr

/-- What is known of a slice's capacity: the number, or that it reaches to the end of the block (in elements of so many cells); 'tailE': an empty slice that lies at off0 if nothing is behind it. -/
inductive Cap where
  | exact (n : Nat)
  | tail (sz : Nat)
  | tailE (sz off0 : Nat)
  deriving DecidableEq

inductive CV where
  | bool (b : Bool)
  | int (k : IntKind) (n : Int)
  | str (s : ByteArray)
  | nilPtr
  | ptr (b off : Nat)
  | nilSlice
  | slice (b off len : Nat) (cap : Cap)
  | nilMap
  | map (b : Nat)
  | func (fn : Fn) (first captured : List CV)
  | nilFunc
  | iface (t : TypeId) (v : CV)
  | nilIface
  | agg (cs : List CV)
  | tuple (vs : List CV)
  deriving Inhabited

/-- Where a clean block lies: in which block of the world, from which cell on, and how many cells there are from there to its end. -/
structure Loc where
  blk : Nat
  base : Nat
  m : Nat
abbrev Eta := Nat → Option Loc

def Eta.le (η η' : Eta) : Prop := ∀ b x, η b = some x → η' b = some x
theorem Eta.le_refl (η : Eta) : η.le η := fun _ _ h => h
theorem Eta.le_trans {a b c : Eta} (h : a.le b) (k : b.le c) : a.le c := fun x y e => k x y (h x y e)

mutual
def CV.val (η : Eta) : CV → Option Value
  | .bool b => some (.bool b)
  | .int k n => some (.int k n)
  | .str s => some (.string s)
  | .nilPtr => some (.pointer none)
  | .ptr b off => (η b).map fun x => .pointer (some ⟨x.blk, x.base + off, none⟩)
  | .nilSlice => some (.slice none 0 0)
  | .slice b off len (.exact c) => (η b).map fun x => .slice (some ⟨x.blk, x.base + off, none⟩) len c
  | .slice b off len (.tail sz) => (η b).map fun x => .slice (some ⟨x.blk, x.base + off, none⟩) len ((x.m - off) / sz)
  | .slice b off len (.tailE sz off0) => (η b).map fun x => .slice (some ⟨x.blk, x.base + (if (x.m - off) / sz = 0 then off0 else off), none⟩) len ((x.m - off) / sz)
  | .nilMap => some (.map none)
  | .map b => (η b).map fun x => .map (some x.blk)
  | .func fn f c => (CV.vals η f).bind fun f' => (CV.vals η c).map fun c' => .func fn f'.toArray c'.toArray
  | .nilFunc => some .nilFunc
  | .iface t v => (CV.val η v).map (.iface t)
  | .nilIface => some .nilIface
  | .agg cs => (CV.vals η cs).map fun l => .agg l.toArray
  | .tuple vs => (CV.vals η vs).map fun l => .tuple l.toArray
def CV.vals (η : Eta) : List CV → Option (List Value)
  | [] => some []
  | c :: cs => (CV.val η c).bind fun v => (CV.vals η cs).map (v :: ·)
end

mutual
theorem CV.val_mono {η η' : Eta} (h : η.le η') : ∀ (c : CV) (v : Value), c.val η = some v → c.val η' = some v
  | .bool b, v, e => e
  | .int k n, v, e => e
  | .str s, v, e => e
  | .nilPtr, v, e => e
  | .ptr b off, v, e => by
    simp only [CV.val, Option.map_eq_some_iff] at e ⊢
    obtain ⟨x, hx, rfl⟩ := e
    exact ⟨x, h _ _ hx, rfl⟩
  | .nilSlice, v, e => e
  | .slice b off len (.exact c), v, e => by
    simp only [CV.val, Option.map_eq_some_iff] at e ⊢
    obtain ⟨x, hx, rfl⟩ := e
    exact ⟨x, h _ _ hx, rfl⟩
  | .slice b off len (.tail sz), v, e => by
    simp only [CV.val, Option.map_eq_some_iff] at e ⊢
    obtain ⟨x, hx, rfl⟩ := e
    exact ⟨x, h _ _ hx, rfl⟩
  | .slice b off len (.tailE sz off0), v, e => by
    simp only [CV.val, Option.map_eq_some_iff] at e ⊢
    obtain ⟨x, hx, rfl⟩ := e
    exact ⟨x, h _ _ hx, rfl⟩
  | .nilMap, v, e => e
  | .map b, v, e => by
    simp only [CV.val, Option.map_eq_some_iff] at e ⊢
    obtain ⟨x, hx, rfl⟩ := e
    exact ⟨x, h _ _ hx, rfl⟩
  | .func fn f c, v, e => by
    simp only [CV.val, Option.bind_eq_some_iff, Option.map_eq_some_iff] at e ⊢
    obtain ⟨f', hf, c', hc, rfl⟩ := e
    exact ⟨f', CV.vals_mono h f _ hf, c', CV.vals_mono h c _ hc, rfl⟩
  | .nilFunc, v, e => e
  | .iface t c, v, e => by
    simp only [CV.val, Option.map_eq_some_iff] at e ⊢
    obtain ⟨x, hx, rfl⟩ := e
    exact ⟨x, CV.val_mono h c _ hx, rfl⟩
  | .nilIface, v, e => e
  | .agg cs, v, e => by
    simp only [CV.val, Option.map_eq_some_iff] at e ⊢
    obtain ⟨x, hx, rfl⟩ := e
    exact ⟨x, CV.vals_mono h cs _ hx, rfl⟩
  | .tuple cs, v, e => by
    simp only [CV.val, Option.map_eq_some_iff] at e ⊢
    obtain ⟨x, hx, rfl⟩ := e
    exact ⟨x, CV.vals_mono h cs _ hx, rfl⟩
theorem CV.vals_mono {η η' : Eta} (h : η.le η') : ∀ (cs : List CV) (l : List Value), CV.vals η cs = some l → CV.vals η' cs = some l
  | [], l, e => e
  | c :: cs, l, e => by
    simp only [CV.vals, Option.bind_eq_some_iff, Option.map_eq_some_iff] at e ⊢
    obtain ⟨v, hv, l', hl, rfl⟩ := e
    exact ⟨v, CV.val_mono h c _ hv, l', CV.vals_mono h cs _ hl, rfl⟩
end

theorem CV.vals_length {η : Eta} : ∀ {cs : List CV} {l : List Value}, CV.vals η cs = some l → l.length = cs.length
  | [], l, e => by simp [CV.vals] at e; simp [← e]
  | c :: cs, l, e => by
    simp only [CV.vals, Option.bind_eq_some_iff, Option.map_eq_some_iff] at e
    obtain ⟨v, hv, l', hl, rfl⟩ := e
    simp [CV.vals_length hl]

theorem CV.vals_get {η : Eta} : ∀ {cs : List CV} {l : List Value} {i : Nat} {c : CV}, CV.vals η cs = some l → cs[i]? = some c →
    ∃ v, c.val η = some v ∧ l[i]? = some v
  | [], l, i, c, e, hi => by simp at hi
  | d :: cs, l, i, c, e, hi => by
    simp only [CV.vals, Option.bind_eq_some_iff, Option.map_eq_some_iff] at e
    obtain ⟨v, hv, l', hl, rfl⟩ := e
    cases i with
    | zero => simp at hi; subst hi; exact ⟨v, hv, by simp⟩
    | succ i => simp at hi; simpa using CV.vals_get hl hi

theorem CV.vals_append {η : Eta} : ∀ {cs ds : List CV} {l m : List Value}, CV.vals η cs = some l → CV.vals η ds = some m →
    CV.vals η (cs ++ ds) = some (l ++ m)
  | [], ds, l, m, e, f => by simp [CV.vals] at e; simp [← e, f]
  | c :: cs, ds, l, m, e, f => by
    simp only [CV.vals, Option.bind_eq_some_iff, Option.map_eq_some_iff] at e
    obtain ⟨v, hv, l', hl, rfl⟩ := e
    simp [CV.vals, hv, CV.vals_append hl f]

theorem CV.vals_take {η : Eta} : ∀ {cs : List CV} {l : List Value} (n : Nat), CV.vals η cs = some l → CV.vals η (cs.take n) = some (l.take n)
  | [], l, n, e => by simp [CV.vals] at e; simp [e, CV.vals]
  | c :: cs, l, 0, e => by simp [CV.vals]
  | c :: cs, l, n + 1, e => by
    simp only [CV.vals, Option.bind_eq_some_iff, Option.map_eq_some_iff] at e
    obtain ⟨v, hv, l', hl, rfl⟩ := e
    simp [CV.vals, hv, CV.vals_take n hl]

theorem CV.vals_drop {η : Eta} : ∀ {cs : List CV} {l : List Value} (n : Nat), CV.vals η cs = some l → CV.vals η (cs.drop n) = some (l.drop n)
  | [], l, n, e => by simp [CV.vals] at e; simp [e, CV.vals]
  | c :: cs, l, 0, e => by simpa using e
  | c :: cs, l, n + 1, e => by
    simp only [CV.vals, Option.bind_eq_some_iff, Option.map_eq_some_iff] at e
    obtain ⟨v, hv, l', hl, rfl⟩ := e
    simpa using CV.vals_drop n hl

theorem CV.vals_replicate {η : Eta} {c : CV} {v : Value} (h : c.val η = some v) : ∀ n, CV.vals η (List.replicate n c) = some (List.replicate n v)
  | 0 => rfl
  | n + 1 => by simp [List.replicate_succ, CV.vals, h, CV.vals_replicate h n]

/-- The cells of a value. -/
def CV.cells : CV → List CV
  | .agg cs => cs
  | v => [v]
theorem CV.cells_val {η : Eta} {c : CV} {v : Value} (h : c.val η = some v) : CV.vals η c.cells = some v.cells.toList := by
  have single : ∀ {d : CV} {u : Value}, d.val η = some u → u.cells = #[u] → CV.vals η [d] = some u.cells.toList := by
    intro d u hd hu
    simp [CV.vals, hd, hu]
  cases c with
  | agg cs =>
    simp only [CV.val, Option.map_eq_some_iff] at h
    obtain ⟨x, hx, rfl⟩ := h
    simpa [CV.cells, Value.cells] using hx
  | slice b off len cap =>
    refine single h ?_
    cases cap <;> simp only [CV.val, Option.map_eq_some_iff] at h <;> obtain ⟨x, hx, rfl⟩ := h <;> rfl
  | func fn f c =>
    refine single h ?_
    simp only [CV.val, Option.map_eq_some_iff, Option.bind_eq_some_iff] at h
    obtain ⟨x, hx, y, hy, rfl⟩ := h
    rfl
  | _ =>
    refine single h ?_
    simp only [CV.val, Option.map_eq_some_iff, Option.some.injEq] at h
    first
      | (subst h; rfl)
      | (obtain ⟨x, hx, rfl⟩ := h; rfl)

/-- The value of one cell: none that has several. -/
def CV.single : CV → Bool
  | .agg _ | .tuple _ => false
  | _ => true

inductive CObj where
  | cells (cs : List CV) (elem : TypeId) (fam : Option (Nat × Nat))
  | map (es : List (CV × CV × Nat)) (clock : Nat)
  | mapIter (m : Option Nat) (since : Nat) (seen : List Nat) (stepped : Nat)
  | strIter (s : ByteArray) (pos : Nat)
  /-- Cells that are only read: of the world's block around them nothing is told. -/
  | look (cs : List CV)

def CObj.fam : CObj → Option (Nat × Nat)
  | .cells _ _ f => f
  | _ => none

/-- Only read. -/
def CObj.isLook : CObj → Bool
  | .look _ => true
  | _ => false

structure Heap where
  next : Nat
  objs : Tr CObj
  fams : Tr (List Nat)

def Heap.get (H : Heap) (b : Nat) : Option CObj := H.objs.get b
def Heap.mem (H : Heap) (f : Nat) : List Nat := (H.fams.get f).getD []
def Heap.put (H : Heap) (b : Nat) (o : CObj) : Heap := { H with objs := H.objs.set b o }
def Heap.del (H : Heap) (b : Nat) : Heap := { H with objs := H.objs.del b }
def Heap.new (H : Heap) (o : CObj) : Heap := { H with next := H.next + 1, objs := H.objs.set H.next o }

theorem Heap.get_put (H : Heap) (b k : Nat) (o : CObj) : (H.put b o).get k = if k = b then some o else H.get k := Tr.get_set ..
theorem Heap.get_del (H : Heap) (b k : Nat) : (H.del b).get k = if k = b then none else H.get k := Tr.get_del ..
theorem Heap.get_new (H : Heap) (k : Nat) (o : CObj) : (H.new o).get k = if k = H.next then some o else H.get k := Tr.get_set ..

def entryVals (η : Eta) : List (CV × CV × Nat) → Option (List MapEntry)
  | [] => some []
  | (k, v, b) :: es => (k.val η).bind fun k' => (v.val η).bind fun v' => (entryVals η es).map (⟨k', v', b⟩ :: ·)

theorem entryVals_mono {η η' : Eta} (h : η.le η') : ∀ (es : List (CV × CV × Nat)) (l : List MapEntry), entryVals η es = some l → entryVals η' es = some l
  | [], l, e => e
  | (k, v, b) :: es, l, e => by
    simp only [entryVals, Option.bind_eq_some_iff, Option.map_eq_some_iff] at e ⊢
    obtain ⟨k', hk, v', hv, l', hl, rfl⟩ := e
    exact ⟨k', CV.val_mono h _ _ hk, v', CV.val_mono h _ _ hv, l', entryVals_mono h es _ hl, rfl⟩

def thaw (fr : Nat × Nat) (n : Nat) : Prop := ∀ i, i < n → ¬ (fr.1 ≤ i ∧ i < fr.2)

/-- How a clean block stands to the block of the world. -/
def ORel (η : Eta) (x : Loc) (w : World) : CObj → Prop
  | .cells cs elem fam => ∃ pre l rest fr, CV.vals η cs = some l ∧ w.heap[x.blk]? = some (.cells (pre ++ l ++ rest).toArray elem fr) ∧
      pre.length = x.base ∧ (l ++ rest).length = x.m ∧ (fam = none → pre = [] ∧ rest = []) ∧ thaw fr (pre ++ l ++ rest).length
  | .map es clock => ∃ l, entryVals η es = some l ∧ w.heap[x.blk]? = some (.map l.toArray clock)
  | .mapIter m since seen stepped => x.base = 0 ∧ ∃ m', (match m with | none => m' = none | some b => ∃ y, η b = some y ∧ m' = some y.blk) ∧
      w.heap[x.blk]? = some (.mapIter m' since seen.toArray stepped)
  | .strIter s pos => x.base = 0 ∧ w.heap[x.blk]? = some (.stringIter s pos)
  | .look cs => ∃ pre l rest elem fr, CV.vals η cs = some l ∧ w.heap[x.blk]? = some (.cells (pre ++ l ++ rest).toArray elem fr) ∧ pre.length = x.base

theorem ORel.mono {η η' : Eta} {x : Loc} {w w' : World} {o : CObj} (h : η.le η') (hw : w'.heap[x.blk]? = w.heap[x.blk]?) (r : ORel η x w o) :
    ORel η' x w' o := by
  cases o with
  | cells cs elem fam =>
    obtain ⟨pre, l, rest, fr, h1, h2, h3⟩ := r
    exact ⟨pre, l, rest, fr, CV.vals_mono h _ _ h1, hw.trans h2, h3⟩
  | map es clock =>
    obtain ⟨l, h1, h2⟩ := r
    exact ⟨l, entryVals_mono h _ _ h1, hw.trans h2⟩
  | mapIter m since seen stepped =>
    obtain ⟨h0, m', h1, h2⟩ := r
    refine ⟨h0, m', ?_, hw.trans h2⟩
    cases m with
    | none => exact h1
    | some b => obtain ⟨y, hy, e⟩ := h1; exact ⟨y, h _ _ hy, e⟩
  | strIter s pos => exact ⟨r.1, hw.trans r.2⟩
  | look cs =>
    obtain ⟨pre, l, rest, elem, fr, h1, h2, h3⟩ := r
    exact ⟨pre, l, rest, elem, fr, CV.vals_mono h _ _ h1, hw.trans h2, h3⟩

theorem ORel.lt {η : Eta} {x : Loc} {w : World} {o : CObj} (r : ORel η x w o) : x.blk < w.heap.size := by
  have : ∃ o', w.heap[x.blk]? = some o' := by
    cases o with
    | cells cs elem fam => obtain ⟨pre, l, rest, fr, h1, h2, h3⟩ := r; exact ⟨_, h2⟩
    | map es clock => obtain ⟨l, h1, h2⟩ := r; exact ⟨_, h2⟩
    | mapIter m since seen stepped => obtain ⟨h0, m', h1, h2⟩ := r; exact ⟨_, h2⟩
    | strIter s pos => exact ⟨_, r.2⟩
    | look cs => obtain ⟨pre, l, rest, elem, fr, h1, h2, h3⟩ := r; exact ⟨_, h2⟩
  obtain ⟨o', h⟩ := this
  exact (Array.getElem?_eq_some_iff.1 h).1

/-- The clean memory stands in the world as η says. Blocks of one family may lie in one block of the world: then their places in the family tell how they lie to one another. -/
structure HRel (η : Eta) (H : Heap) (w : World) : Prop where
  obj : ∀ b o, H.get b = some o → ∃ x, η b = some x ∧ ORel η x w o
  dom : ∀ b x, η b = some x → b < H.next
  inj : ∀ b b' o o' x x', H.get b = some o → H.get b' = some o' → η b = some x → η b' = some x' → x.blk = x'.blk → b ≠ b' →
    ∃ f p p', o.fam = some (f, p) ∧ o'.fam = some (f, p') ∧ x.base + p' = x'.base + p
  fam : ∀ b o f p, H.get b = some o → o.fam = some (f, p) → b ∈ H.mem f
  famlt : ∀ b o f p, H.get b = some o → o.fam = some (f, p) → f < H.next

/-- What a step may do to the world: to the blocks that the clean memory knows; all else stays, and new blocks are new. -/
structure Keeps (η : Eta) (H : Heap) (w : World) (η' : Eta) (w' : World) : Prop where
  os : w'.os = w.os
  tape : w'.tape = w.tape
  output : w'.output = w.output
  size : w.heap.size ≤ w'.heap.size
  block : ∀ k, k < w.heap.size → (∀ b o x, (H.get b = some o ∧ o.isLook = false) → η b = some x → x.blk ≠ k) → w'.heap[k]? = w.heap[k]?
  le : η.le η'
  fresh : ∀ b x, η b = none → η' b = some x → H.next ≤ b ∧ (w.heap.size ≤ x.blk ∨ ∃ b0 o0 x0, (H.get b0 = some o0 ∧ o0.isLook = false) ∧ η b0 = some x0 ∧ x0.blk = x.blk)

theorem Keeps.refl (η : Eta) (H : Heap) (w : World) : Keeps η H w η w :=
  ⟨rfl, rfl, rfl, Nat.le_refl _, fun _ _ _ => rfl, η.le_refl, fun b x h h' => by rw [h] at h'; cases h'⟩

end Go.K

namespace Go.K
set_option linter.unusedSimpArgs false
set_option linter.unusedVariables false

/- numbers, by the numerals' own functions -/
def ieq : Int → Int → Bool
  | .ofNat a, .ofNat b => Nat.beq a b
  | .negSucc a, .negSucc b => Nat.beq a b
  | _, _ => false
def ilt : Int → Int → Bool
  | .ofNat a, .ofNat b => Nat.blt a b
  | .negSucc a, .negSucc b => Nat.blt b a
  | .negSucc _, .ofNat _ => true
  | .ofNat _, .negSucc _ => false
def ile (a b : Int) : Bool := !ilt b a
theorem ieq_iff : ∀ a b : Int, ieq a b = true ↔ a = b
  | .ofNat a, .ofNat b => by simp only [ieq, Nat.beq_eq, Int.ofNat.injEq]
  | .negSucc a, .negSucc b => by simp [ieq, Nat.beq_eq]
  | .ofNat a, .negSucc b => ⟨fun h => (by cases h), fun h => (by cases h)⟩
  | .negSucc a, .ofNat b => ⟨fun h => (by cases h), fun h => (by cases h)⟩
theorem ieq_eq (a b : Int) : ieq a b = (a == b) := by
  rw [Bool.eq_iff_iff, ieq_iff]; simp
theorem ilt_iff : ∀ a b : Int, ilt a b = true ↔ a < b
  | .ofNat a, .ofNat b => by simp [ilt, Nat.blt_eq]
  | .negSucc a, .negSucc b => by simp only [ilt, Nat.blt_eq]; omega
  | .ofNat a, .negSucc b => ⟨fun h => (by cases h), fun h => absurd h (by have := Int.negSucc_lt_zero b; have : (0 : Int) ≤ Int.ofNat a := Int.natCast_nonneg a; omega)⟩
  | .negSucc a, .ofNat b => ⟨fun _ => (by have := Int.negSucc_lt_zero a; have : (0 : Int) ≤ Int.ofNat b := Int.natCast_nonneg b; omega), fun _ => rfl⟩
theorem ilt_eq (a b : Int) : ilt a b = decide (a < b) := by
  rw [Bool.eq_iff_iff, ilt_iff]; simp
theorem ile_eq (a b : Int) : ile a b = decide (a ≤ b) := by
  rw [ile, ilt_eq, Bool.eq_iff_iff]; simp

def loOf : IntKind → Int
  | .i8 => -128 | .i16 => -32768 | .i32 => -2147483648 | .i64 => -9223372036854775808 | _ => 0
def hiOf : IntKind → Int
  | .i8 => 127 | .i16 => 32767 | .i32 => 2147483647 | .i64 => 9223372036854775807
  | .u8 => 255 | .u16 => 65535 | .u32 => 4294967295 | .u64 => 18446744073709551615
def wrap (k : IntKind) (n : Int) : Int :=
  match ile (loOf k) n && ile n (hiOf k) with
  | true => n
  | false => k.wrap n
theorem wrap_eq (k : IntKind) (n : Int) : wrap k n = k.wrap n := by
  unfold wrap
  split
  · rename_i h
    simp only [ile_eq, Bool.and_eq_true, decide_eq_true_eq] at h
    cases k <;> simp [loOf, hiOf] at h <;> simp [IntKind.wrap, IntKind.bits, IntKind.signed] <;> (try split) <;> omega
  · rfl

def intBin (op : BinOp) (k : IntKind) (a b : Int) : Option CV :=
  match op with
  | .add => some (.int k (wrap k (a + b)))
  | .sub => some (.int k (wrap k (a - b)))
  | .mul => some (.int k (wrap k (a * b)))
  | .quo => match ieq b 0 with
    | true => none
    | false => some (.int k (wrap k (a.tdiv b)))
  | .rem => match ieq b 0 with
    | true => none
    | false => some (.int k (a.tmod b))
  | .and => some (.int k (wrap k (BitVec.ofInt k.bits a &&& BitVec.ofInt k.bits b).toNat))
  | .or => some (.int k (wrap k (BitVec.ofInt k.bits a ||| BitVec.ofInt k.bits b).toNat))
  | .xor => some (.int k (wrap k (BitVec.ofInt k.bits a ^^^ BitVec.ofInt k.bits b).toNat))
  | .andNot => some (.int k (wrap k (BitVec.ofInt k.bits a &&& ~~~BitVec.ofInt k.bits b).toNat))
  | .eql => some (.bool (ieq a b))
  | .neq => some (.bool (!ieq a b))
  | .lss => some (.bool (ilt a b))
  | .leq => some (.bool (ile a b))
  | .gtr => some (.bool (ilt b a))
  | .geq => some (.bool (ile b a))
  | .shl => match ilt b 0 with
    | true => none
    | false => some (.int k (wrap k (a * 2 ^ (min b.toNat k.bits))))
  | .shr => match ilt b 0 with
    | true => none
    | false => some (.int k (a.fdiv (2 ^ (min b.toNat k.bits))))

/- strings -/
def bytesEq : List UInt8 → List UInt8 → Bool
  | [], [] => true
  | a :: x, b :: y => match Nat.beq a.toNat b.toNat with
    | true => bytesEq x y
    | false => false
  | _, _ => false
def bytesLt : List UInt8 → List UInt8 → Bool
  | _, [] => false
  | [], _ :: _ => true
  | a :: x, b :: y => match Nat.blt a.toNat b.toNat with
    | true => true
    | false => match Nat.beq a.toNat b.toNat with
      | true => bytesLt x y
      | false => false
theorem bytesEq_eq : ∀ x y : List UInt8, bytesEq x y = (x == y)
  | [], [] => rfl
  | [], _ :: _ => rfl
  | _ :: _, [] => rfl
  | a :: x, b :: y => by
    simp only [bytesEq]
    cases h : Nat.beq a.toNat b.toNat with
    | true => have : a = b := UInt8.toNat_inj.1 (Nat.eq_of_beq_eq_true h); subst this; simp [bytesEq_eq x y]
    | false =>
      have : a ≠ b := fun e => Nat.ne_of_beq_eq_false h (e ▸ rfl)
      simp [this]
theorem bytesLt_eq : ∀ x y : List UInt8, bytesLt x y = Op.bytesLess x y
  | [], [] => rfl
  | [], _ :: _ => rfl
  | _ :: _, [] => rfl
  | a :: x, b :: y => by
    simp only [bytesLt, Op.bytesLess]
    cases h1 : Nat.blt a.toNat b.toNat with
    | true =>
      have : a < b := UInt8.lt_iff_toNat_lt.2 (by simpa [Nat.blt_eq] using h1)
      simp [this]
    | false =>
      have h1' : ¬ a < b := fun e => by
        have e' := UInt8.lt_iff_toNat_lt.1 e
        rw [← Nat.blt_eq, h1] at e'
        cases e'
      cases h : Nat.beq a.toNat b.toNat with
      | true => have : a = b := UInt8.toNat_inj.1 (Nat.eq_of_beq_eq_true h); subst this; simp [bytesLt_eq x y]
      | false =>
        have : a ≠ b := fun e => Nat.ne_of_beq_eq_false h (e ▸ rfl)
        simp [this, h1']
theorem toList_data (s : ByteArray) : s.toList = s.data.toList := ByteArray.toList_eq s

def strBin (op : BinOp) (x y : ByteArray) : Option CV :=
  match op with
  | .add => match Nat.ble (x.size + y.size) 140737488355328 with
    | true => some (.str (x ++ y))
    | false => none
  | .eql => some (.bool (bytesEq x.data.toList y.data.toList))
  | .neq => some (.bool (!bytesEq x.data.toList y.data.toList))
  | .lss => some (.bool (bytesLt x.data.toList y.data.toList))
  | .leq => some (.bool (bytesLt x.data.toList y.data.toList || bytesEq x.data.toList y.data.toList))
  | .gtr => some (.bool (!(bytesLt x.data.toList y.data.toList || bytesEq x.data.toList y.data.toList)))
  | .geq => some (.bool (!bytesLt x.data.toList y.data.toList))
  | _ => none

/- equality of values -/
def partC (P : Program) (t : TypeId) (cs : List CV) (off : Nat) : Option CV :=
  match P.underlying t with
  | some (.struct _) | some (.array _ _) => match P.info? t with
    | some i => match Nat.ble (off + i.size) cs.length with
      | true => some (.agg ((cs.drop off).take i.size))
      | false => none
    | none => none
  | some _ => cs[off]?
  | none => none

def ceqBy (P : Program) (eq : TypeId → CV → CV → Option Bool) (xs ys : List CV) : List Field → Option Bool
  | [] => some true
  | f :: fs =>
    if f.name ≠ "_" then
      match partC P f.type xs f.offset, partC P f.type ys f.offset with
      | some a, some b => match eq f.type a b with
        | some true => ceqBy P eq xs ys fs
        | some false => some false
        | none => none
      | _, _ => none
    else ceqBy P eq xs ys fs

def ceq (P : Program) : Nat → TypeId → CV → CV → Option Bool
  | 0, _, _, _ => none
  | d + 1, t, x, y =>
    match P.underlying t, x, y with
    | some .bool, .bool a, .bool b => some (a == b)
    | some (.int _), .int k a, .int k' b => if k = k' then some (ieq a b) else none
    | some .string, .str a, .str b => some (bytesEq a.data.toList b.data.toList)
    | some (.struct fs), .agg xs, .agg ys => match P.stoodInHeld t with
      | true => none
      | false => ceqBy P (ceq P d) xs ys fs.toList
    | some (.slice _), .nilSlice, .nilSlice => some true
    | some (.slice _), .nilSlice, .slice _ _ _ _ => some false
    | some (.slice _), .slice _ _ _ _, .nilSlice => some false
    | some (.map _ _), .nilMap, .nilMap => some true
    | some (.map _ _), .nilMap, .map _ => some false
    | some (.map _ _), .map _, .nilMap => some false
    | some (.pointer _), .nilPtr, .nilPtr => some true
    | some (.pointer _), .nilPtr, .ptr _ _ => some false
    | some (.pointer _), .ptr _ _, .nilPtr => some false
    | some (.func _ _ _), .nilFunc, .nilFunc => some true
    | some (.func _ _ _), .nilFunc, .func _ _ _ => some false
    | some (.func _ _ _), .func _ _ _, .nilFunc => some false
    | _, _, _ => none

section
variable {P : Program} {η : Eta}

theorem vals_agg {cs : List CV} {v : Value} (h : (CV.agg cs).val η = some v) : ∃ l, CV.vals η cs = some l ∧ v = .agg l.toArray := by
  simp only [CV.val, Option.map_eq_some_iff] at h
  obtain ⟨l, hl, rfl⟩ := h
  exact ⟨l, hl, rfl⟩

theorem fieldsOf_of {t : TypeId} {fs : Array Field} (h : P.underlying t = some (.struct fs)) : P.fieldsOf t = fs := by simp [Program.fieldsOf, h]

theorem val_slice {b off len : Nat} {cap : Cap} {v : Value} (h : (CV.slice b off len cap).val η = some v) : ∃ a c, v = .slice (some a) len c := by
  cases cap <;> simp only [CV.val, Option.map_eq_some_iff] at h <;> obtain ⟨x, hx, rfl⟩ := h <;> exact ⟨_, _, rfl⟩

theorem partC_sound {t : TypeId} {cs : List CV} {l : List Value} {off : Nat} {c : CV} (hl : CV.vals η cs = some l) (h : partC P t cs off = some c) (w : World) :
    ∃ v, c.val η = some v ∧ (part t l.toArray off).run P w = .ok v w := by
  unfold partC at h
  split at h
  · rename_i fs hu
    split at h
    · rename_i i hi
      split at h
      · rename_i hle
        injection h with h
        subst h
        refine ⟨.agg ((l.drop off).take i.size).toArray, by simp [CV.val, CV.vals_take _ (CV.vals_drop _ hl)], ?_⟩
        simp [part, isAgg, underlying, hu, sizeOf, typeInfo, hi, List.take_drop]
      · cases h
    · cases h
  · rename_i n e hu
    split at h
    · rename_i i hi
      split at h
      · rename_i hle
        injection h with h
        subst h
        refine ⟨.agg ((l.drop off).take i.size).toArray, by simp [CV.val, CV.vals_take _ (CV.vals_drop _ hl)], ?_⟩
        simp [part, isAgg, underlying, hu, sizeOf, typeInfo, hi, List.take_drop]
      · cases h
    · cases h
  · rename_i d hd hns hna
    obtain ⟨v, hv, hv'⟩ := CV.vals_get hl h
    refine ⟨v, hv, ?_⟩
    have hagg : (isAgg t).run P w = .ok false w := by
      simp only [isAgg, underlying]
      simp only [Sem.run_bind, run_program, Result.andThen_ok, hna, Sem.run_pure]
    simp [part, hagg, hv']
  · cases h

theorem ceq_sound {d : Nat} : ∀ {t : TypeId} {x y : CV} {x' y' : Value} {r : Bool} (n : Nat), x.val η = some x' → y.val η = some y' → ceq P d t x y = some r → d ≤ n →
    ∀ w : World, (Op.equalIn n t x' y').run P w = .ok r w := by
  suffices H : ∀ d, (∀ {t : TypeId} {x y : CV} {x' y' : Value} {r : Bool} (n : Nat), x.val η = some x' → y.val η = some y' → ceq P d t x y = some r → d ≤ n →
      ∀ w : World, (Op.equalIn n t x' y').run P w = .ok r w) ∧
      (∀ (fs : List Field) {xs ys : List CV} {lx ly : List Value} {r : Bool} (n : Nat), CV.vals η xs = some lx → CV.vals η ys = some ly → ceqBy P (ceq P d) xs ys fs = some r → d ≤ n →
      ∀ w : World, (Op.eqFields n lx.toArray ly.toArray fs).run P w = .ok r w) from fun {t x y x' y' r} n hx hy h hn w => (H d).1 n hx hy h hn w
  have fields : ∀ d, (∀ {t : TypeId} {x y : CV} {x' y' : Value} {r : Bool} (n : Nat), x.val η = some x' → y.val η = some y' → ceq P d t x y = some r → d ≤ n →
      ∀ w : World, (Op.equalIn n t x' y').run P w = .ok r w) → (∀ (fs : List Field) {xs ys : List CV} {lx ly : List Value} {r : Bool} (n : Nat), CV.vals η xs = some lx → CV.vals η ys = some ly →
      ceqBy P (ceq P d) xs ys fs = some r → d ≤ n → ∀ w : World, (Op.eqFields n lx.toArray ly.toArray fs).run P w = .ok r w) := by
    intro d ih fs
    induction fs with
    | nil => intro xs ys lx ly r n _ _ h _ w; simp [ceqBy] at h; subst h; simp [Op.eqFields]
    | cons f fs ihf =>
      intro xs ys lx ly r n hx hy h hn w
      unfold ceqBy at h
      unfold Op.eqFields
      by_cases hname : f.name ≠ "_"
      · rw [if_pos hname] at h
        rw [if_pos hname]
        split at h
        · rename_i a b ha hb
          obtain ⟨a', ha', hra⟩ := partC_sound hx ha w
          obtain ⟨b', hb', hrb⟩ := partC_sound hy hb w
          simp only [Sem.run_bind, hra, hrb, Result.andThen_ok]
          split at h
          · rename_i he
            rw [ih n ha' hb' he hn w]
            simpa using ihf n hx hy h hn w
          · rename_i he
            rw [ih n ha' hb' he hn w]
            injection h with h; subst h; simp
          · cases h
        · cases h
      · rw [if_neg hname] at h
        rw [if_neg hname]
        exact ihf n hx hy h hn w
  intro d
  induction d with
  | zero =>
    have h0 : ∀ {t : TypeId} {x y : CV} {x' y' : Value} {r : Bool} (n : Nat), x.val η = some x' → y.val η = some y' → ceq P 0 t x y = some r → 0 ≤ n →
      ∀ w : World, (Op.equalIn n t x' y').run P w = .ok r w := fun n _ _ h => by simp [ceq] at h
    exact ⟨h0, fields 0 h0⟩
  | succ d ih =>
    have h1 : ∀ {t : TypeId} {x y : CV} {x' y' : Value} {r : Bool} (n : Nat), x.val η = some x' → y.val η = some y' → ceq P (d + 1) t x y = some r → d + 1 ≤ n →
      ∀ w : World, (Op.equalIn n t x' y').run P w = .ok r w := by
      intro t x y x' y' r n hx hy h hn w
      obtain ⟨n, rfl⟩ : ∃ m, n = m + 1 := ⟨n - 1, by omega⟩
      unfold ceq at h
      split at h <;> rename_i hu
      · simp only [CV.val, Option.some.injEq] at hx hy h; subst hx hy h
        exact run_equalIn_bool w n t _ _ hu
      · split at h
        · rename_i hk
          simp only [CV.val, Option.some.injEq] at hx hy h; subst hx hy h hk
          rw [ieq_eq]
          exact run_equalIn_int w n t _ _ _ _ hu
        · cases h
      · simp only [CV.val, Option.some.injEq] at hx hy h; subst hx hy h
        rw [bytesEq_eq, ← toList_data, ← toList_data]
        exact run_equalIn_string w n t _ _ hu
      · split at h
        · cases h
        · rename_i hs
          obtain ⟨lx, hlx, rfl⟩ := vals_agg hx
          obtain ⟨ly, hly, rfl⟩ := vals_agg hy
          have hf := fieldsOf_of hu
          rw [run_equalIn_struct w n t _ _ (by rw [hf]; exact hu) hs, hf]
          exact (ih.2 _ n hlx hly h (by omega) w)
      case h_5 => simp only [CV.val, Option.some.injEq] at hx hy h; subst hx hy h; simp [Op.equalIn, underlying, hu]
      case h_6 =>
        simp only [CV.val, Option.some.injEq] at hx h; subst hx h
        obtain ⟨_, _, rfl⟩ := val_slice hy
        simp [Op.equalIn, underlying, hu]
      case h_7 =>
        simp only [CV.val, Option.some.injEq] at hy h; subst hy h
        obtain ⟨_, _, rfl⟩ := val_slice hx
        simp [Op.equalIn, underlying, hu]
      case h_8 => simp only [CV.val, Option.some.injEq] at hx hy h; subst hx hy h; simp [Op.equalIn, underlying, hu]
      case h_9 => simp only [CV.val, Option.some.injEq, Option.map_eq_some_iff] at hx hy h; subst hx h; obtain ⟨_, _, rfl⟩ := hy; simp [Op.equalIn, underlying, hu]
      case h_10 => simp only [CV.val, Option.some.injEq, Option.map_eq_some_iff] at hx hy h; subst hy h; obtain ⟨_, _, rfl⟩ := hx; simp [Op.equalIn, underlying, hu]
      case h_11 => simp only [CV.val, Option.some.injEq] at hx hy h; subst hx hy h; simp [Op.equalIn, underlying, hu]
      case h_12 => simp only [CV.val, Option.some.injEq, Option.map_eq_some_iff] at hx hy h; subst hx h; obtain ⟨_, _, rfl⟩ := hy; simp [Op.equalIn, underlying, hu]
      case h_13 => simp only [CV.val, Option.some.injEq, Option.map_eq_some_iff] at hx hy h; subst hy h; obtain ⟨_, _, rfl⟩ := hx; simp [Op.equalIn, underlying, hu]
      case h_14 => simp only [CV.val, Option.some.injEq] at hx hy h; subst hx hy h; simp [Op.equalIn, underlying, hu]
      case h_15 => simp only [CV.val, Option.some.injEq, Option.map_eq_some_iff, Option.bind_eq_some_iff] at hx hy h; subst hx h; obtain ⟨_, _, _, _, rfl⟩ := hy; simp [Op.equalIn, underlying, hu]
      case h_16 => simp only [CV.val, Option.some.injEq, Option.map_eq_some_iff, Option.bind_eq_some_iff] at hx hy h; subst hy h; obtain ⟨_, _, _, _, rfl⟩ := hx; simp [Op.equalIn, underlying, hu]
      case h_17 => cases h
    exact ⟨h1, fields (d + 1) h1⟩
end

/- a constant of the code -/
def mapO {α β : Type} (f : α → Option β) : List α → Option (List β)
  | [] => some []
  | x :: xs => (f x).bind fun y => (mapO f xs).map (y :: ·)
def ofVal : Nat → Value → Option CV
  | 0, _ => none
  | d + 1, v => match v with
    | .bool b => some (.bool b)
    | .int k n => some (.int k n)
    | .string s => some (.str s)
    | .pointer none => some .nilPtr
    | .slice none 0 0 => some .nilSlice
    | .map none => some .nilMap
    | .nilFunc => some .nilFunc
    | .nilIface => some .nilIface
    | .agg cs => (mapO (ofVal d) cs.toList).map .agg
    | .tuple cs => (mapO (ofVal d) cs.toList).map .tuple
    | .iface t v => (ofVal d v).map (.iface t)
    | _ => none
theorem mapO_vals {η : Eta} {f : Value → Option CV} (hf : ∀ v c, f v = some c → c.val η = some v) : ∀ {l : List Value} {cs : List CV}, mapO f l = some cs → CV.vals η cs = some l
  | [], cs, h => by simp [mapO] at h; subst h; rfl
  | v :: l, cs, h => by
    simp only [mapO, Option.bind_eq_some_iff, Option.map_eq_some_iff] at h
    obtain ⟨c, hc, cs', hcs, rfl⟩ := h
    simp [CV.vals, hf _ _ hc, mapO_vals hf hcs]
theorem ofVal_sound {η : Eta} : ∀ (d : Nat) (v : Value) (c : CV), ofVal d v = some c → c.val η = some v
  | 0, v, c, h => by simp [ofVal] at h
  | d + 1, v, c, h => by
    unfold ofVal at h
    split at h
    case h_9 cs =>
      simp only [Option.map_eq_some_iff] at h
      obtain ⟨l, hl, rfl⟩ := h
      simp [CV.val, mapO_vals (fun v c hv => ofVal_sound d v c hv) hl]
    case h_10 cs =>
      simp only [Option.map_eq_some_iff] at h
      obtain ⟨l, hl, rfl⟩ := h
      simp [CV.val, mapO_vals (fun v c hv => ofVal_sound d v c hv) hl]
    case h_11 =>
      simp only [Option.map_eq_some_iff] at h
      obtain ⟨l, hl, rfl⟩ := h
      simp [CV.val, ofVal_sound d _ _ hl]
    case h_12 => cases h
    all_goals (injection h with h; subst h; rfl)
end Go.K

namespace Go.K
set_option linter.unusedSimpArgs false
set_option linter.unusedVariables false

def takeE {α : Type} : Nat → List α → Option (List α)
  | 0, _ => some []
  | n + 1, x :: xs => (takeE n xs).map (x :: ·)
  | _ + 1, [] => none
theorem takeE_eq {α : Type} : ∀ {n : Nat} {l r : List α}, takeE n l = some r → r = l.take n ∧ n ≤ l.length
  | 0, l, r, h => by simp [takeE] at h; simp [← h]
  | n + 1, [], r, h => by simp [takeE] at h
  | n + 1, x :: xs, r, h => by
    simp only [takeE, Option.map_eq_some_iff] at h
    obtain ⟨r', hr, rfl⟩ := h
    obtain ⟨rfl, hn⟩ := takeE_eq hr
    simp [hn]

def isAggC (P : Program) (t : TypeId) : Option Bool :=
  match P.underlying t with
  | some (.struct _) | some (.array _ _) => some true
  | some _ => some false
  | none => none
def szC (P : Program) (t : TypeId) : Option Nat := (P.info? t).map (·.size)

/-- The local variables. -/
abbrev Env := Tr CV
def evC (env : Env) : Operand → Option CV
  | .tmp t => env.get t
  | .const v => ofVal 8 v
  | .global _ => none
  | .func f => some (.func (.func f) [] [])

def loadC (P : Program) (t : TypeId) (H : Heap) (b off : Nat) : Option CV :=
  match H.get b with
  | some (.cells cs _ _) => match isAggC P t with
    | some true => match szC P t with
      | some n => (takeE n (cs.drop off)).map .agg
      | none => none
    | some false => cs[off]?
    | none => none
  | some (.look cs) => match isAggC P t with
    | some true => match szC P t with
      | some n => (takeE n (cs.drop off)).map .agg
      | none => none
    | some false => cs[off]?
    | none => none
  | _ => none

def binC (P : Program) (op : BinOp) (t : TypeId) (x y : CV) : Option CV :=
  match x, y with
  | .int k a, .int k' b => match op with
    | .shl | .shr => intBin op k a b
    | _ => if k = k' then intBin op k a b else none
  | .str a, .str b => strBin op a b
  | _, _ => match op with
    | .eql => match P.eqGuardType P.depth t with
      | true => none
      | false => (ceq P 40 t x y).map .bool
    | .neq => match P.eqGuardType P.depth t with
      | true => none
      | false => (ceq P 40 t x y).map fun b => .bool (!b)
    | _ => none

def cutIdx (x : CV) (n : Nat) : Option Nat :=
  match x with
  | .int _ (.ofNat i) => match Nat.ble i n with
    | true => some i
    | false => none
  | _ => none
def cutIdxO (x : Option CV) (n d : Nat) : Option Nat :=
  match x with
  | none => some d
  | some v => cutIdx v n

/-- A slice's cells that are surely there, in elements. -/
def roomC (H : Heap) (b off sz : Nat) : Cap → Option Nat
  | .exact c => some c
  | .tail _ | .tailE _ _ => match H.get b with
    | some (.cells cs _ _) => some ((cs.length - off) / sz)
    | _ => none

def cutHi (hi mx : Option CV) (len m : Nat) : Option Nat :=
  match hi, mx with
  | some h, _ => cutIdx h m
  | none, none => some len
  | none, some _ => none

/-- Where a slice of a slice begins: an empty one at the very end stays where it was. -/
def startC (m l off sz : Nat) : Nat := match Nat.beq m l with | true => off | false => off + l * sz
theorem startC_eq (m l off sz : Nat) : startC m l off sz = if m = l then off else off + l * sz := by
  unfold startC
  split
  · rename_i h; rw [if_pos (Nat.eq_of_beq_eq_true h)]
  · rename_i h; rw [if_neg (Nat.ne_of_beq_eq_false h)]

/-- What a slice of a slice is: from l to h, with the capacity up to m where it is told. -/
def recut (sz b off : Nat) (told : Bool) (cap : Cap) (c l h m : Nat) : Option CV :=
  match cap with
  | .exact n => some (.slice b (startC m l off sz) (h - l) (.exact (m - l)))
  | .tail s => match Nat.beq s sz && Nat.ble h c with
    | true => match told with
      | true => some (.slice b (startC m l off sz) (h - l) (.exact (m - l)))
      | false => match Nat.beq h l with
        | true => some (.slice b (off + l * sz) 0 (.tailE s off))
        | false => some (.slice b (off + l * sz) (h - l) (.tail s))
    | false => none
  | .tailE s o0 => match told, Nat.beq s sz && Nat.beq h 0 with
    | false, true => some (.slice b off 0 (.tailE s o0))
    | _, _ => none

def sliceC (P : Program) (H : Heap) (t : TypeId) (x : CV) (lo hi mx : Option CV) : Option CV :=
  match P.underlying t, x with
  | some .string, .str s => match mx with
    | some _ => none
    | none => (cutHi hi none s.size s.size).bind fun h => (cutIdxO lo h 0).map fun l => .str (s.extract l h)
  | some (.slice e), .nilSlice => (szC P e).bind fun _ => (cutIdxO mx 0 0).bind fun m => (cutHi hi mx 0 m).bind fun h => (cutIdxO lo h 0).map fun _ => .nilSlice
  | some (.slice e), .slice b off len cap => (szC P e).bind fun sz => match sz with
    | 0 => none
    | sz' + 1 => (roomC H b off (sz' + 1) cap).bind fun c => (cutIdxO mx c c).bind fun m => (cutHi hi mx len m).bind fun h => (cutIdxO lo h 0).bind fun l =>
      recut (sz' + 1) b off mx.isSome cap c l h m
  | some (.array n e), .ptr b off => (szC P e).bind fun sz => match sz with
    | 0 => none
    | sz' + 1 => (cutIdxO mx n n).bind fun m => (cutHi hi mx n m).bind fun h => (cutIdxO lo h 0).map fun l =>
      .slice b (startC m l off (sz' + 1)) (h - l) (.exact (m - l))
  | _, _ => none

def indexAddrC (P : Program) (t : TypeId) (x i : CV) : Option CV :=
  match i with
  | .int _ (.ofNat n) => match P.underlying t, x with
    | some (.slice e), .slice b off len cap => match cap with
      | .tailE _ _ => none
      | _ => match Nat.blt n len with
        | true => (szC P e).map fun sz => .ptr b (off + n * sz)
        | false => none
    | some (.array len e), .ptr b off => match Nat.blt n len with
      | true => (szC P e).map fun sz => .ptr b (off + n * sz)
      | false => none
    | _, _ => none
  | _ => none
def indexC (P : Program) (t : TypeId) (x i : CV) : Option CV :=
  match i with
  | .int _ (.ofNat n) => match P.underlying t, x with
    | some .string, .str s => (s.data.toList[n]?).map fun b => .int .u8 b.toNat
    | some (.array len e), .agg cs => match Nat.blt n len with
      | true => (szC P e).bind fun sz => partC P e cs (n * sz)
      | false => none
    | _, _ => none
  | _ => none
def fieldC (P : Program) (t : TypeId) (x : CV) (f : Nat) : Option CV :=
  match P.underlying t, x with
  | some (.struct fs), .agg cs => (fs[f]?).bind fun fd => partC P fd.type cs fd.offset
  | _, _ => none
def fieldAddrC (P : Program) (t : TypeId) (x : CV) (f : Nat) : Option CV :=
  match P.underlying t, x with
  | some (.struct fs), .ptr b off => (fs[f]?).bind fun fd => match szC P fd.type with
    | some (_ + 1) => some (.ptr b (off + fd.offset))
    | _ => none
  | _, _ => none

def convC (P : Program) (src dst : TypeId) (H : Heap) (x : CV) : Option CV :=
  match P.underlying src, P.underlying dst, x with
  | some _, some (.int k), .int _ n => some (.int k (wrap k n))
  | some _, some .string, .str s => some (.str s)
  | _, _, _ => none

/-- The value put at its place among the cells of an aggregate. -/
def splice (cs : List CV) (off : Nat) (vs : List CV) : List CV := cs.take off ++ vs ++ cs.drop (off + vs.length)
def fillC (place : Nat → Option (Nat × Nat)) : List CV → List (Nat × CV) → Option (List CV)
  | cells, [] => some cells
  | cells, (i, v) :: rest => match place i with
    | none => none
    | some (off, size) => match Nat.beq v.cells.length size && Nat.ble (off + size) cells.length with
      | true => fillC place (splice cells off v.cells) rest
      | false => none
def zeroC (P : Program) (t : TypeId) : Option (List CV) :=
  match P.info? t with
  | some i => match i.zero with
    | some z => (ofVal 8 z).map CV.cells
    | none => none
  | none => none
def placesOf (P : Program) (fs : Array Field) (i : Nat) : Option (Nat × Nat) := (fs[i]?).bind fun f => (szC P f.type).map fun s => (f.offset, s)
def buildC (P : Program) (t : TypeId) (parts : List (Nat × CV)) : Option CV :=
  (zeroC P t).bind fun zero => match P.underlying t with
  | some (.struct fs) => match fs.toList.all fun f => (szC P f.type).isSome with
    | true => (fillC (placesOf P fs) zero parts).map .agg
    | false => none
  | some (.array _ e) => (szC P e).bind fun s => (fillC (fun i => some (i * s, s)) zero parts).map .agg
  | _ => none

def assertC (P : Program) (x : CV) (t : TypeId) (ok : Bool) : Option CV :=
  match P.underlying t, x with
  | some (.interface _), _ => none
  | some _, .iface u v => match Nat.beq u t with
    | true => some (match ok with | true => .tuple [v, .bool true] | false => v)
    | false => none
  | _, _ => none

def lenC (P : Program) (t : TypeId) (H : Heap) (x : CV) : Option CV :=
  match P.underlying t, x with
  | some .string, .str s => some (.int .i64 s.size)
  | some (.slice _), .nilSlice => some (.int .i64 0)
  | some (.slice _), .slice _ _ n _ => some (.int .i64 n)
  | some (.array n _), _ => some (.int .i64 n)
  | some (.map _ _), .nilMap => some (.int .i64 0)
  | some (.map _ _), .map b => match H.get b with
    | some (.map es _) => some (.int .i64 es.length)
    | _ => none
  | _, _ => none

def keyEq (P : Program) (t : TypeId) (a b : CV) : Option Bool := ceq P 40 t a b
def findC (P : Program) (t : TypeId) (k : CV) : List (CV × CV × Nat) → Nat → Option (Option (Nat × CV))
  | [], _ => some none
  | (k', v, _) :: es, i => match keyEq P t k k' with
    | some true => some (some (i, v))
    | some false => findC P t k es (i + 1)
    | none => none
/-- A key that needs no question: no interface in it, all its parts there. -/
def keyC (P : Program) : Nat → TypeId → CV → Bool
  | 0, _, _ => false
  | d + 1, t, k => match P.underlying t, k with
    | some .bool, .bool _ => true
    | some (.int _), .int _ _ => true
    | some .string, .str _ => true
    | some (.struct fs), .agg cs => fs.toList.all fun f => match partC P f.type cs f.offset with
      | some c => keyC P d f.type c
      | none => false
    | _, _ => false
def lookupC (P : Program) (t : TypeId) (H : Heap) (x k : CV) (ok : Bool) : Option CV :=
  match P.underlying t with
  | some (.map kt et) => match x with
    | .map b => match H.get b with
      | some (.map es _) => match keyC P 8 kt k with
        | true => match findC P kt k es 0 with
          | some (some (_, v)) => some (match ok with | true => .tuple [v, .bool true] | false => v)
          | some none => match P.info? et with
            | some i => match i.zero with
              | some z => (ofVal 8 z).map fun v => match ok with | true => .tuple [v, .bool false] | false => v
              | none => none
            | none => none
          | none => none
        | false => none
      | _ => none
    | _ => none
  | _ => none

def maxC (x y : CV) : Option CV :=
  match x, y with
  | .int k a, .int _ b => some (.int k (match ilt a b with | true => b | false => a))
  | _, _ => none
def minC (x y : CV) : Option CV :=
  match x, y with
  | .int k a, .int _ b => some (.int k (match ilt b a with | true => b | false => a))
  | _, _ => none
def foldO (f : CV → CV → Option CV) : CV → List CV → Option CV
  | x, [] => some x
  | x, y :: ys => (f x y).bind fun z => foldO f z ys

def evs (ρ : Operand → Option CV) (xs : Array Operand) : Option (List CV) := mapO ρ xs.toList
def evO (ρ : Operand → Option CV) : Option Operand → Option (Option CV)
  | none => some none
  | some x => (ρ x).map some
def evParts (ρ : Operand → Option CV) (xs : Array (Nat × Operand)) : Option (List (Nat × CV)) := mapO (fun p => (ρ p.2).map fun v => (p.1, v)) xs.toList

/-- An operation that leaves memory alone. -/
def quietC (P : Program) (op : Op) (ρ : Operand → Option CV) (H : Heap) : Option CV :=
  match op with
  | .move x | .assign x => ρ x
  | .pick c a b => match ρ c with
    | some (.bool true) => ρ a
    | some (.bool false) => ρ b
    | _ => none
  | .build t ps => (evParts ρ ps).bind (buildC P t)
  | .load t a => match ρ a with
    | some (.ptr b off) => loadC P t H b off
    | _ => none
  | .nilCheck x => match ρ x with
    | some (.ptr b off) => some (.ptr b off)
    | some (.func (.func f) fi ca) => some (.func (.func f) fi ca)
    | _ => none
  | .binOp op t x y _ => (ρ x).bind fun x => (ρ y).bind fun y => binC P op t x y
  | .unOp op _ x => match op, ρ x with
    | .not, some (.bool b) => some (.bool (!b))
    | .neg, some (.int k n) => some (.int k (wrap k (0 - n)))
    | .xor, some (.int k n) => intBin .xor k (if k.signed then -1 else k.max) n
    | _, _ => none
  | .convert s d x => (ρ x).bind (convC P s d H)
  | .makeInterface t x => match P.underlying t with
    | some (.interface _) => none
    | some _ => (ρ x).map (.iface t)
    | none => none
  | .makeFunc fn fi ca => (evs ρ fi).bind fun fi => (evs ρ ca).map fun ca => .func fn fi ca
  | .slice t x lo hi mx => (ρ x).bind fun x => (evO ρ lo).bind fun lo => (evO ρ hi).bind fun hi => (evO ρ mx).bind fun mx => sliceC P H t x lo hi mx
  | .fieldAddr t x f => (ρ x).bind fun x => fieldAddrC P t x f
  | .field t x f => (ρ x).bind fun x => fieldC P t x f
  | .indexAddr t x i => (ρ x).bind fun x => (ρ i).bind fun i => indexAddrC P t x i
  | .index t x i => (ρ x).bind fun x => (ρ i).bind fun i => indexC P t x i
  | .lookup t x k ok => (ρ x).bind fun x => (ρ k).bind fun k => lookupC P t H x k ok
  | .extract x i => match ρ x with
    | some (.tuple vs) => vs[i]?
    | _ => none
  | .typeAssert x _ t ok => (ρ x).bind fun x => assertC P x t ok
  | .call c => match c.callee with
    | .builtin .len => match c.args[0]?, c.argTypes[0]? with
      | some x, some t => (ρ x).bind (lenC P t H)
      | _, _ => none
    | .builtin .max => (evs ρ c.args).bind fun l => match l with | [] => none | x :: xs => foldO maxC x xs
    | .builtin .min => (evs ρ c.args).bind fun l => match l with | [] => none | x :: xs => foldO minC x xs
    | _ => none
  | _ => none

end Go.K
