/- Regions that draw their order: the evaluator's plan and run. Regions that draw their order: the check of a plan, and the run. Regions that draw their order are sound: whatever order is drawn, the run is the evaluator's. -/
import Derived.Test.YtmnhkbhdfkebmaaGreatK6
import Derived.Orders

set_option linter.unusedSimpArgs false
set_option linter.unusedVariables false

namespace Go.K
set_option linter.unusedSimpArgs false
set_option linter.unusedVariables false

/- equality of clean values -/
mutual
def cbeq : Nat → CV → CV → Bool
  | _, .bool a, .bool b => a == b
  | _, .int j a, .int k b => match decide (j = k) with | true => ieq a b | false => false
  | _, .str a, .str b => bytesEq a.data.toList b.data.toList
  | _, .nilPtr, .nilPtr => true
  | _, .ptr a b, .ptr c d => Nat.beq a c && Nat.beq b d
  | _, .nilSlice, .nilSlice => true
  | _, .slice a b c d, .slice e f g h => Nat.beq a e && Nat.beq b f && Nat.beq c g && decide (d = h)
  | _, .nilMap, .nilMap => true
  | _, .map a, .map b => Nat.beq a b
  | d + 1, .func f a b, .func g c e => decide (f = g) && cbeqs d a c && cbeqs d b e
  | _, .nilFunc, .nilFunc => true
  | d + 1, .iface t v, .iface u x => Nat.beq t u && cbeq d v x
  | _, .nilIface, .nilIface => true
  | d + 1, .agg xs, .agg ys => cbeqs d xs ys
  | d + 1, .tuple xs, .tuple ys => cbeqs d xs ys
  | _, _, _ => false
def cbeqs : Nat → List CV → List CV → Bool
  | _, [], [] => true
  | 0, _, _ => false
  | d + 1, x :: xs, y :: ys => cbeq d x y && cbeqs (d + 1) xs ys
  | _, _, _ => false
end

mutual
theorem cbeq_eq : ∀ (d : Nat) (x y : CV), cbeq d x y = true → x = y
  | d, x, y, h => by
    unfold cbeq at h
    split at h
    · simp at h; rw [h]
    · split at h
      · rename_i hk; simp only [decide_eq_true_eq] at hk; rw [hk, (ieq_iff _ _).1 h]
      · cases h
    · rename_i a b
      rw [bytesEq_eq, beq_iff_eq] at h
      have : a.data = b.data := by
        have := congrArg List.toArray h
        simpa using this
      cases a; cases b; simp_all
    · rfl
    · simp only [Bool.and_eq_true] at h; rw [Nat.eq_of_beq_eq_true h.1, Nat.eq_of_beq_eq_true h.2]
    · rfl
    · simp only [Bool.and_eq_true, decide_eq_true_eq] at h
      rw [Nat.eq_of_beq_eq_true h.1.1.1, Nat.eq_of_beq_eq_true h.1.1.2, Nat.eq_of_beq_eq_true h.1.2, h.2]
    · rfl
    · rw [Nat.eq_of_beq_eq_true h]
    · simp only [Bool.and_eq_true, decide_eq_true_eq] at h
      rw [h.1.1, cbeqs_eq _ _ _ h.1.2, cbeqs_eq _ _ _ h.2]
    · rfl
    · simp only [Bool.and_eq_true] at h
      rw [Nat.eq_of_beq_eq_true h.1, cbeq_eq _ _ _ h.2]
    · rfl
    · rw [cbeqs_eq _ _ _ h]
    · rw [cbeqs_eq _ _ _ h]
    · cases h
theorem cbeqs_eq : ∀ (d : Nat) (xs ys : List CV), cbeqs d xs ys = true → xs = ys
  | d, [], [], h => rfl
  | d, [], _ :: _, h => by cases d <;> simp [cbeqs] at h
  | d, _ :: _, [], h => by cases d <;> simp [cbeqs] at h
  | 0, x :: xs, y :: ys, h => by simp [cbeqs] at h
  | d + 1, x :: xs, y :: ys, h => by
    simp only [cbeqs, Bool.and_eq_true] at h
    rw [cbeq_eq d x y h.1, cbeqs_eq (d + 1) xs ys h.2]
end

/- which operation must stand ahead of which -/
def maskOf (acc : List Nat) (o : Oper) : Nat :=
  o.after.toList.foldl (fun s e => match Region.binds .any e with | true => s ||| 2 ^ e.on ||| acc.getD e.on 0 | false => s) 0
def masksOf : List Oper → List Nat → List Nat
  | [], acc => acc
  | o :: os, acc => masksOf os (acc ++ [maskOf acc o])
def dep (ms : List Nat) (j i : Nat) : Bool := (ms.getD j 0).testBit i

def Closed (ops : List Oper) (S : Nat → Prop) : Prop := ∀ j o, ops[j]? = some o → S j → ∀ e ∈ o.after.toList, Region.binds .any e = true → S e.on

theorem masksOf_spec : ∀ (os : List Oper) (acc : List Nat), (masksOf os acc).length = acc.length + os.length ∧ (∀ j, j < acc.length → (masksOf os acc)[j]? = acc[j]?) ∧
    ∀ j o, os[j]? = some o → (masksOf os acc)[acc.length + j]? = some (maskOf ((masksOf os acc).take (acc.length + j)) o)
  | [], acc => ⟨rfl, fun _ _ => rfl, fun j o h => by simp at h⟩
  | o :: os, acc => by
    obtain ⟨h1, h2, h3⟩ := masksOf_spec os (acc ++ [maskOf acc o])
    refine ⟨by simp only [masksOf]; rw [h1]; simp; omega, fun j hj => ?_, fun j o' hj => ?_⟩
    · simp only [masksOf]
      rw [h2 j (by simp; omega), List.getElem?_append_left hj]
    · simp only [masksOf]
      cases j with
      | zero =>
        simp only [List.getElem?_cons_zero, Option.some.injEq] at hj; subst hj
        have ht : (masksOf os (acc ++ [maskOf acc o])).take acc.length = acc := by
          apply List.ext_getElem?
          intro i
          rw [List.getElem?_take]
          split
          · rename_i hi
            rw [h2 i (by simp; omega), List.getElem?_append_left hi]
          · rename_i hi; rw [List.getElem?_eq_none (by omega)]
        rw [Nat.add_zero, ht, h2 acc.length (by simp)]
        simp
      | succ j =>
        have := h3 j o' (by simpa using hj)
        simp only [List.length_append, List.length_cons, List.length_nil, Nat.zero_add] at this
        rw [show acc.length + (j + 1) = acc.length + 1 + j by omega]
        exact this

theorem maskOf_bit {acc : List Nat} {o : Oper} {i : Nat} (h : (maskOf acc o).testBit i = true) : ∃ e ∈ o.after.toList, Region.binds .any e = true ∧ (e.on = i ∨ (acc.getD e.on 0).testBit i = true) := by
  unfold maskOf at h
  suffices H : ∀ (l : List Edge) (s : Nat), (l.foldl (fun s e => match Region.binds .any e with | true => s ||| 2 ^ e.on ||| acc.getD e.on 0 | false => s) s).testBit i = true →
      s.testBit i = true ∨ ∃ e ∈ l, Region.binds .any e = true ∧ (e.on = i ∨ (acc.getD e.on 0).testBit i = true) by
    rcases H _ 0 h with h0 | h0
    · simp at h0
    · exact h0
  intro l
  induction l with
  | nil => intro s h; exact .inl h
  | cons e l ih =>
    intro s h
    simp only [List.foldl_cons] at h
    rcases ih _ h with h1 | ⟨e', he', h1⟩
    · cases hb : Region.binds .any e with
      | true =>
        simp only [hb, Nat.testBit_or, Bool.or_eq_true, Nat.testBit_two_pow, decide_eq_true_eq] at h1
        rcases h1 with (h1 | h1) | h1
        · exact .inl h1
        · exact .inr ⟨e, by simp, hb, .inl h1⟩
        · exact .inr ⟨e, by simp, hb, .inr h1⟩
      | false => simp only [hb] at h1; exact .inl h1
    · exact .inr ⟨e', by simp [he'], h1⟩

theorem dep_sound {ops : List Oper} {S : Nat → Prop} (hS : Closed ops S) : ∀ (j i : Nat) (o : Oper), ops[j]? = some o → (∀ e ∈ o.after.toList, Region.binds .any e = true → S e.on) → dep (masksOf ops []) j i = true → S i := by
  intro j
  induction j using Nat.strongRecOn with
  | _ j ih =>
    intro i o ho he hd
    obtain ⟨hlen, _, hspec⟩ := masksOf_spec ops []
    have hj := hspec j o ho
    simp only [List.length_nil, Nat.zero_add] at hj
    unfold dep at hd
    rw [List.getD_eq_getElem?_getD, hj, Option.getD_some] at hd
    obtain ⟨e, hmem, hb, h1⟩ := maskOf_bit hd
    rcases h1 with rfl | h1
    · exact he e hmem hb
    · have hlt : e.on < j := by
        rcases Nat.lt_or_ge e.on j with h | h
        · exact h
        · rw [List.getD_eq_getElem?_getD, List.getElem?_eq_none (by simp; omega)] at h1; simp at h1
      have hS1 := he e hmem hb
      cases ho1 : ops[e.on]? with
      | none =>
        have := List.getElem?_eq_none_iff.1 ho1
        have := (List.getElem?_eq_some_iff.1 ho).1
        omega
      | some o1 =>
        refine ih e.on hlt i o1 ho1 (fun e' h2 h3 => hS e.on o1 ho1 hS1 e' h2 h3) ?_
        unfold dep
        rw [List.getD_eq_getElem?_getD, List.getElem?_take, if_pos hlt, ← List.getD_eq_getElem?_getD] at h1
        exact h1

/- the plan -/
def memN (x : Nat) : List Nat → Bool
  | [] => false
  | y :: ys => match Nat.beq x y with | true => true | false => memN x ys
def tmpsIn : List Operand → List Nat
  | [] => []
  | .tmp t :: xs => t :: tmpsIn xs
  | _ :: xs => tmpsIn xs
def guardTmp (ops : List Oper) (o : Oper) : List Nat :=
  match o.guard with
  | some (j, _) => match ops[j]? with
    | some o' => o'.dst.toList
    | none => []
  | none => []
def readsOf (ops : List Oper) (o : Oper) : List Nat := tmpsIn o.op.operands.toList ++ guardTmp ops o
def isLoud (P : Program) (o : Oper) : Bool := match kindOf P o.op with | .loud => true | _ => false

structure PStep where
  idx : Nat
  lev : Nat
  op : Oper
  reads : List Nat
  loud : Bool

/-- The number of loud operations that must stand ahead. -/
def levOf (ms : List Nat) (i : Nat) : List Nat → Nat → Nat → Nat
  | [], _, best => best
  | l :: ls, k, best => levOf ms i ls (k + 1) (match dep ms i l with | true => k + 1 | false => best)
/-- The stage of a quiet operation: how many loud ones may stand ahead at most. -/
def stageOf (ms : List Nat) (i : Nat) : List Nat → Nat → Nat
  | [], k => k
  | l :: ls, k => match dep ms l i with | true => k | false => stageOf ms i ls (k + 1)

def indexed {α : Type} : Nat → List α → List (Nat × α)
  | _, [] => []
  | i, x :: xs => (i, x) :: indexed (i + 1) xs

def mkStep (P : Program) (ops : List Oper) (ms louds : List Nat) (x : Nat × Oper) : PStep :=
  ⟨x.1, levOf ms x.1 louds 0 0, x.2, readsOf ops x.2, isLoud P x.2⟩

def planGo (P : Program) (ops : List Oper) (ms louds : List Nat) (all : List (Nat × Oper)) : List Nat → Nat → List PStep
  | [], k => (all.filter fun x => !isLoud P x.2 && Nat.beq (stageOf ms x.1 louds 0) k).map (mkStep P ops ms louds)
  | l :: ls, k => (all.filter fun x => !isLoud P x.2 && Nat.beq (stageOf ms x.1 louds 0) k).map (mkStep P ops ms louds) ++
      (all.filter fun x => Nat.beq x.1 l).map (mkStep P ops ms louds) ++ planGo P ops ms louds all ls (k + 1)

def loudsOf (P : Program) (all : List (Nat × Oper)) : List Nat := (all.filter fun x => isLoud P x.2).map (·.1)
def planOf (P : Program) (ops : List Oper) : List PStep :=
  planGo P ops (masksOf ops []) (loudsOf P (indexed 0 ops)) (indexed 0 ops) (loudsOf P (indexed 0 ops)) 0

end Go.K

namespace Go.K
set_option linter.unusedSimpArgs false
set_option linter.unusedVariables false

def lookupN (t : Nat) : List (Nat × Nat) → Option Nat
  | [] => none
  | (u, j) :: l => match Nat.beq t u with | true => some j | false => lookupN t l
def writersOf : Nat → List Oper → List (Nat × Nat)
  | _, [] => []
  | i, o :: os => match o.dst with
    | some d => (d, i) :: writersOf (i + 1) os
    | none => writersOf (i + 1) os
def nodupKeys : List (Nat × Nat) → Bool
  | [] => true
  | (t, _) :: l => (match lookupN t l with | some _ => false | none => true) && nodupKeys l
def edgesOk : Nat → List Oper → Bool
  | _, [] => true
  | j, o :: os => (o.after.toList.all fun e => match Region.binds .any e with | true => Nat.blt e.on j | false => true) && edgesOk (j + 1) os

def chkReads (ms : List Nat) (writers : List (Nat × Nat)) (done : List Nat) (i : Nat) : List Nat → Bool
  | [] => true
  | t :: ts => (match lookupN t writers with
    | none => true
    | some j => match Nat.beq j i with
      | true => true
      | false => match memN j done with
        | true => Nat.blt j i && dep ms i j
        | false => Nat.blt i j && dep ms j i) && chkReads ms writers done i ts

def chkStep (ms seq : List Nat) (s : PStep) (q : Nat) : Bool :=
  match s.loud with
  | true => match q with
    | 0 => true
    | q + 1 => match seq[q]? with | some l => dep ms s.idx l | none => false
  | false => (match seq[q]? with | some l => dep ms l s.idx | none => true) && (match s.lev with
    | 0 => true
    | v + 1 => match seq[v]? with | some l => dep ms s.idx l | none => false)

def chkSteps (ms seq : List Nat) (writers : List (Nat × Nat)) : List PStep → List Nat → Nat → Bool
  | [], _, _ => true
  | s :: ss, done, q => !memN s.idx done && chkReads ms writers done s.idx s.reads && chkStep ms seq s q &&
      chkSteps ms seq writers ss (s.idx :: done) (match s.loud with | true => q + 1 | false => q)

def seqOf : List PStep → List Nat
  | [] => []
  | s :: ss => match s.loud with | true => s.idx :: seqOf ss | false => seqOf ss

def allIn (l : List Nat) : Nat → Bool
  | 0 => true
  | n + 1 => memN n l && allIn l n

def planC (P : Program) (ops : List Oper) : Option (List PStep) :=
  match edgesOk 0 ops && nodupKeys (writersOf 0 ops) && allIn ((planOf P ops).map (·.idx)) ops.length &&
      chkSteps (masksOf ops []) (seqOf (planOf P ops)) (writersOf 0 ops) (planOf P ops) [] 0 with
  | true => some (planOf P ops)
  | false => none

/- the run -/
structure DS where
  env : Env
  hs : List Heap
  grp : List (Nat × CObj)

def putAll (base : Nat) : List (Nat × CObj) → Heap → Heap
  | [], H => H
  | (i, co) :: g, H => (putAll base g H).put (base + i) co
def DS.heap (base : Nat) (s : DS) : Option Heap := match s.hs with
  | [] => none
  | H :: _ => some (putAll base s.grp H)

def evR (reads : List Nat) (env : Env) : Operand → Option CV
  | .tmp t => match memN t reads with | true => env.get t | false => none
  | x => evC env x

/-- A quiet operation gives the same at the next memories too. -/
def sameAt (f : Heap → Option CV) (v : CV) : Nat → List Heap → Bool
  | 0, _ => true
  | n + 1, H :: hs => (match f H with | some v' => cbeq 12 v' v | none => false) && sameAt f v n hs
  | _ + 1, [] => false

def drawStep (call : CallFn) (P : Program) (nt : Nat) (ops : Array Oper) (base : Nat) (x : PStep) (s : DS) : Option DS :=
  match wantedC ops s.env x.op, s.hs with
  | some false, H :: hs => match putC nt s.env x.op.dst (.tuple []) with
    | some env => match x.loud with
      | true => some ⟨env, putAll base s.grp H :: H :: hs, []⟩
      | false => some ⟨env, H :: hs, s.grp⟩
    | none => none
  | some true, H :: hs => match kindOf P x.op.op with
    | .quiet => match quietC P x.op.op (evR x.reads s.env) H with
      | some v => match sameAt (quietC P x.op.op (evR x.reads s.env)) v (hs.length - x.lev) hs with
        | true => match putC nt s.env x.op.dst v with
          | some env => some ⟨env, H :: hs, s.grp⟩
          | none => none
        | false => none
      | none => none
    | .alloc => match allocC P x.op.op (evR x.reads s.env) with
      | some (co, f) => match putC nt s.env x.op.dst (f (base + x.idx)) with
        | some env => some ⟨env, H :: hs, (x.idx, co) :: s.grp⟩
        | none => none
      | none => none
    | .loud => match loudStep call P x.op.op (evR x.reads s.env) (putAll base s.grp H) with
      | some (v, H') => match putC nt s.env x.op.dst v with
        | some env => some ⟨env, H' :: H :: hs, []⟩
        | none => none
      | none => none
  | _, _ => none

def drawRun (call : CallFn) (P : Program) (nt : Nat) (ops : Array Oper) (base : Nat) : List PStep → DS → Option DS
  | [], s => some s
  | x :: xs, s => match drawStep call P nt ops base x s with
    | some s' => drawRun call P nt ops base xs s'
    | none => none

def drawC (call : CallFn) (P : Program) (nt : Nat) (ops : Array Oper) (env : Env) (H : Heap) : Option (Env × Heap) :=
  match planC P ops.toList with
  | some steps => match drawRun call P nt ops H.next steps ⟨env, [H.skip ops.toList.length], []⟩ with
    | some s => match s.heap H.next with
      | some H' => some (s.env, H')
      | none => none
    | none => none
  | none => none

/- what the check says -/
theorem memN_iff {x : Nat} : ∀ {l : List Nat}, memN x l = true ↔ x ∈ l
  | [] => by simp [memN]
  | y :: ys => by
    simp only [memN]
    split
    · rename_i h; have := Nat.eq_of_beq_eq_true h; subst this; simp
    · rename_i h; have := Nat.ne_of_beq_eq_false h; rw [memN_iff]; simp [this]

theorem lookupN_mem {t j : Nat} : ∀ {l : List (Nat × Nat)}, lookupN t l = some j → (t, j) ∈ l
  | [], h => by simp [lookupN] at h
  | (u, k) :: l, h => by
    simp only [lookupN] at h
    split at h
    · rename_i e; have := Nat.eq_of_beq_eq_true e; subst this; injection h with h; subst h; simp
    · exact List.mem_cons_of_mem _ (lookupN_mem h)
theorem lookupN_none {t : Nat} : ∀ {l : List (Nat × Nat)}, lookupN t l = none → ∀ j, (t, j) ∉ l
  | [], h, j => by simp
  | (u, k) :: l, h, j => by
    simp only [lookupN] at h
    split at h
    · cases h
    · rename_i e
      have := Nat.ne_of_beq_eq_false e
      simp only [List.mem_cons, Prod.mk.injEq, not_or, not_and]
      exact ⟨fun e => absurd e this, lookupN_none h j⟩
theorem nodupKeys_spec : ∀ {l : List (Nat × Nat)}, nodupKeys l = true → ∀ {t i j}, (t, i) ∈ l → (t, j) ∈ l → i = j
  | [], _, t, i, j, h, _ => by simp at h
  | (u, k) :: l, hn, t, i, j, h1, h2 => by
    simp only [nodupKeys, Bool.and_eq_true] at hn
    have hno : ∀ j, (u, j) ∉ l := by
      intro j
      cases hl : lookupN u l with
      | some _ => simp [hl] at hn
      | none => exact lookupN_none hl j
    rcases List.mem_cons.1 h1 with e1 | m1 <;> rcases List.mem_cons.1 h2 with e2 | m2
    · cases e1; cases e2; rfl
    · cases e1; exact absurd m2 (hno _)
    · cases e2; exact absurd m1 (hno _)
    · exact nodupKeys_spec hn.2 m1 m2
theorem writersOf_spec : ∀ (os : List Oper) (i : Nat) (d j : Nat), (d, j) ∈ writersOf i os ↔ ∃ k o, os[k]? = some o ∧ j = i + k ∧ o.dst = some d
  | [], i, d, j => by simp [writersOf]
  | o :: os, i, d, j => by
    have ih := writersOf_spec os (i + 1) d j
    have step : (∃ k o', (o :: os)[k]? = some o' ∧ j = i + k ∧ o'.dst = some d) ↔ (j = i ∧ o.dst = some d) ∨ ∃ k o', os[k]? = some o' ∧ j = i + 1 + k ∧ o'.dst = some d := by
      constructor
      · rintro ⟨k, o', h1, h2, h3⟩
        cases k with
        | zero => simp at h1; subst h1; exact .inl ⟨by omega, h3⟩
        | succ k => exact .inr ⟨k, o', by simpa using h1, by omega, h3⟩
      · rintro (⟨h1, h2⟩ | ⟨k, o', h1, h2, h3⟩)
        · exact ⟨0, o, rfl, by omega, h2⟩
        · exact ⟨k + 1, o', by simpa using h1, by omega, h3⟩
    rw [step, ← ih]
    have e : writersOf i (o :: os) = (match o.dst with | some d => (d, i) :: writersOf (i + 1) os | none => writersOf (i + 1) os) := rfl
    rw [e]
    cases hd : o.dst with
    | none => simp
    | some d' =>
      simp only [List.mem_cons, Prod.mk.injEq, Option.some.injEq]
      constructor
      · rintro (⟨rfl, rfl⟩ | h)
        · exact .inl ⟨rfl, rfl⟩
        · exact .inr h
      · rintro (⟨rfl, rfl⟩ | h)
        · exact .inl ⟨rfl, rfl⟩
        · exact .inr h
theorem edgesOk_spec : ∀ (os : List Oper) (j : Nat), edgesOk j os = true → ∀ k o, os[k]? = some o → ∀ e ∈ o.after.toList, Region.binds .any e = true → e.on < j + k
  | [], j, _, k, o, h, _, _, _ => by simp at h
  | o :: os, j, hok, k, o', h, e, he, hb => by
    simp only [edgesOk, Bool.and_eq_true, List.all_eq_true] at hok
    cases k with
    | zero =>
      simp at h; subst h
      have := hok.1 e he
      rw [hb] at this
      simpa [Nat.blt_eq] using this
    | succ k =>
      have := edgesOk_spec os (j + 1) hok.2 k o' (by simpa using h) e he hb
      omega
theorem allIn_spec {l : List Nat} : ∀ {n : Nat}, allIn l n = true → ∀ i, i < n → i ∈ l
  | 0, _, i, h => by omega
  | n + 1, h, i, hi => by
    simp only [allIn, Bool.and_eq_true] at h
    by_cases e : i = n
    · subst e; exact memN_iff.1 h.1
    · exact allIn_spec h.2 i (by omega)
theorem indexed_spec {α : Type} : ∀ (l : List α) (i : Nat) (x : Nat × α), x ∈ indexed i l → ∃ k, x.1 = i + k ∧ l[k]? = some x.2
  | [], i, x, h => by simp [indexed] at h
  | y :: l, i, x, h => by
    simp only [indexed, List.mem_cons] at h
    rcases h with rfl | h
    · exact ⟨0, rfl, rfl⟩
    · obtain ⟨k, h1, h2⟩ := indexed_spec l (i + 1) x h
      exact ⟨k + 1, by omega, by simpa using h2⟩

theorem planGo_mem {P : Program} {ops : List Oper} {ms louds : List Nat} {all : List (Nat × Oper)} {s : PStep} : ∀ {ls : List Nat} {k : Nat}, s ∈ planGo P ops ms louds all ls k → ∃ x ∈ all, s = mkStep P ops ms louds x
  | [], k, h => by
    simp only [planGo, List.mem_map, List.mem_filter] at h
    obtain ⟨x, ⟨hx, _⟩, rfl⟩ := h
    exact ⟨x, hx, rfl⟩
  | l :: ls, k, h => by
    simp only [planGo, List.mem_append, List.mem_map, List.mem_filter] at h
    rcases h with (⟨x, ⟨hx, _⟩, rfl⟩ | ⟨x, ⟨hx, _⟩, rfl⟩) | h
    · exact ⟨x, hx, rfl⟩
    · exact ⟨x, hx, rfl⟩
    · exact planGo_mem h

theorem planOf_mem {P : Program} {ops : List Oper} {s : PStep} (h : s ∈ planOf P ops) : ops[s.idx]? = some s.op ∧ s.reads = readsOf ops s.op ∧ s.loud = isLoud P s.op := by
  obtain ⟨x, hx, rfl⟩ := planGo_mem h
  obtain ⟨k, h1, h2⟩ := indexed_spec ops 0 x hx
  have e : x.1 = k := by omega
  subst e
  exact ⟨h2, rfl, rfl⟩

/-- What a plan's steps keep to, position by position. -/
structure PlanOK (P : Program) (ops : List Oper) (steps : List PStep) : Prop where
  mem : ∀ (k : Nat) (s : PStep), steps[k]? = some s → ops[s.idx]? = some s.op ∧ s.reads = readsOf ops s.op ∧ s.loud = isLoud P s.op
  all : ∀ i, i < ops.length → ∃ (k : Nat) (s : PStep), steps[k]? = some s ∧ s.idx = i
  inj : ∀ (k k' : Nat) (s s' : PStep), steps[k]? = some s → steps[k']? = some s' → s.idx = s'.idx → k = k'
  edges : ∀ j o, ops[j]? = some o → ∀ e ∈ o.after.toList, Region.binds .any e = true → e.on < j
  single : ∀ (i j : Nat) (o o' : Oper) (d : Nat), ops[i]? = some o → ops[j]? = some o' → o.dst = some d → o'.dst = some d → i = j
  reads : ∀ (k k' : Nat) (s s' : PStep), steps[k]? = some s → steps[k']? = some s' → ∀ t ∈ s.reads, s'.op.dst = some t → s'.idx ≠ s.idx →
    (k' < k ∧ s'.idx < s.idx ∧ dep (masksOf ops []) s.idx s'.idx = true) ∨ (k < k' ∧ s.idx < s'.idx ∧ dep (masksOf ops []) s'.idx s.idx = true)
  chk : ∀ (k : Nat) (s : PStep), steps[k]? = some s → chkStep (masksOf ops []) (seqOf steps) s (seqOf (steps.take k)).length = true

theorem seqOf_append : ∀ (a b : List PStep), seqOf (a ++ b) = seqOf a ++ seqOf b
  | [], b => rfl
  | s :: a, b => by
    simp only [List.cons_append, seqOf]
    split <;> simp [seqOf_append a b]

theorem chkSteps_spec {ms seq : List Nat} {writers : List (Nat × Nat)} : ∀ {ss : List PStep} {done : List Nat} {q : Nat}, chkSteps ms seq writers ss done q = true → ∀ (k : Nat) (s : PStep), ss[k]? = some s →
    (s.idx ∉ done ∧ ∀ (k' : Nat) (s' : PStep), k' < k → ss[k']? = some s' → s'.idx ≠ s.idx) ∧ chkReads ms writers ((ss.take k).reverse.map (·.idx) ++ done) s.idx s.reads = true ∧ chkStep ms seq s (q + (seqOf (ss.take k)).length) = true
  | [], done, q, h, k, s, hs => by simp at hs
  | x :: ss, done, q, h, k, s, hs => by
    simp only [chkSteps, Bool.and_eq_true, Bool.not_eq_true'] at h
    obtain ⟨⟨⟨h1, h2⟩, h3⟩, h4⟩ := h
    cases k with
    | zero =>
      simp at hs; subst hs
      refine ⟨⟨fun hm => ?_, fun k' _ hk => by omega⟩, by simpa using h2, by simpa [seqOf] using h3⟩
      rw [memN_iff.2 hm] at h1; cases h1
    | succ k =>
      obtain ⟨⟨g1, g2⟩, g3, g4⟩ := chkSteps_spec h4 k s (by simpa using hs)
      refine ⟨⟨fun hm => g1 (List.mem_cons_of_mem _ hm), fun k' s' hk hs' => ?_⟩, ?_, ?_⟩
      · cases k' with
        | zero => simp at hs'; subst hs'; exact fun e => g1 (by simp [e])
        | succ k' => exact g2 k' s' (by omega) (by simpa using hs')
      · have : ((x :: ss).take (k + 1)).reverse.map (·.idx) ++ done = (ss.take k).reverse.map (·.idx) ++ (x.idx :: done) := by simp
        rw [this]; exact g3
      · have : q + (seqOf ((x :: ss).take (k + 1))).length = (match x.loud with | true => q + 1 | false => q) + (seqOf (ss.take k)).length := by
          simp only [List.take_succ_cons, seqOf]
          split <;> simp <;> omega
        rw [this]; exact g4

theorem chkReads_spec {ms : List Nat} {writers : List (Nat × Nat)} {done : List Nat} {i : Nat} : ∀ {ts : List Nat}, chkReads ms writers done i ts = true → ∀ t ∈ ts, ∀ j, lookupN t writers = some j → j ≠ i →
    (j ∈ done ∧ j < i ∧ dep ms i j = true) ∨ (j ∉ done ∧ i < j ∧ dep ms j i = true)
  | [], h, t, ht, j, hj, hne => by simp at ht
  | u :: ts, h, t, ht, j, hj, hne => by
    simp only [chkReads, Bool.and_eq_true] at h
    rcases List.mem_cons.1 ht with rfl | ht
    · have h1 := h.1
      rw [hj] at h1
      simp only at h1
      split at h1
      · rename_i e; exact absurd (Nat.eq_of_beq_eq_true e) hne
      · split at h1
        · rename_i hm
          rw [Bool.and_eq_true, Nat.blt_eq] at h1
          exact .inl ⟨memN_iff.1 hm, h1.1, h1.2⟩
        · rename_i hm
          rw [Bool.and_eq_true, Nat.blt_eq] at h1
          refine .inr ⟨fun hmem => ?_, h1.1, h1.2⟩
          rw [memN_iff.2 hmem] at hm; cases hm
    · exact chkReads_spec h.2 t ht j hj hne

theorem planC_ok {P : Program} {ops : List Oper} {steps : List PStep} (h : planC P ops = some steps) : PlanOK P ops steps := by
  unfold planC at h
  split at h
  · rename_i hok
    injection h with h
    simp only [Bool.and_eq_true] at hok
    obtain ⟨⟨⟨h1, h2⟩, h3⟩, h4⟩ := hok
    rw [h] at h3 h4
    have hmem : ∀ (k : Nat) (s : PStep), steps[k]? = some s → ops[s.idx]? = some s.op ∧ s.reads = readsOf ops s.op ∧ s.loud = isLoud P s.op := by
      intro k s hs
      exact planOf_mem (by rw [h]; exact List.mem_of_getElem? hs)
    have hinj : ∀ (k k' : Nat) (s s' : PStep), steps[k]? = some s → steps[k']? = some s' → s.idx = s'.idx → k = k' := by
      intro k k' s s' hs hs' e
      rcases Nat.lt_trichotomy k k' with hlt | he | hlt
      · exact absurd e ((chkSteps_spec h4 k' s' hs').1.2 k s hlt hs)
      · exact he
      · exact absurd e.symm ((chkSteps_spec h4 k s hs).1.2 k' s' hlt hs')
    have hsingle : ∀ (i j : Nat) (o o' : Oper) (d : Nat), ops[i]? = some o → ops[j]? = some o' → o.dst = some d → o'.dst = some d → i = j := by
      intro i j o o' d hi hj hd hd'
      refine nodupKeys_spec h2 (t := d) ?_ ?_
      · exact (writersOf_spec ops 0 d i).2 ⟨i, o, hi, by omega, hd⟩
      · exact (writersOf_spec ops 0 d j).2 ⟨j, o', hj, by omega, hd'⟩
    refine ⟨hmem, ?_, hinj, ?_, hsingle, ?_, ?_⟩
    · intro i hi
      have := allIn_spec h3 i hi
      obtain ⟨s, hs, e⟩ := List.mem_map.1 this
      obtain ⟨k, hk⟩ := List.getElem?_of_mem hs
      exact ⟨k, s, hk, e⟩
    · intro j o ho e he hb
      have := edgesOk_spec ops 0 h1 j o ho e he hb
      omega
    · intro k k' s s' hs hs' t ht hd hne
      obtain ⟨_, hr, _⟩ := chkSteps_spec h4 k s hs
      have hw : lookupN t (writersOf 0 ops) = some s'.idx := by
        cases hl : lookupN t (writersOf 0 ops) with
        | none => exact absurd ((writersOf_spec ops 0 t s'.idx).2 ⟨s'.idx, s'.op, (hmem k' s' hs').1, by omega, hd⟩) (lookupN_none hl _)
        | some j =>
          obtain ⟨m, o, hm, rfl, hd2⟩ := (writersOf_spec ops 0 t j).1 (lookupN_mem hl)
          rw [Nat.zero_add, hsingle m s'.idx o s'.op t hm (hmem k' s' hs').1 hd2 hd]
      have hpos : s'.idx ∈ (steps.take k).reverse.map (·.idx) ++ [] ↔ k' < k := by
        simp only [List.append_nil, List.mem_map, List.mem_reverse]
        constructor
        · rintro ⟨x, hx, e⟩
          obtain ⟨m, hm⟩ := List.getElem?_of_mem hx
          rw [List.getElem?_take] at hm
          split at hm
          · rename_i hlt
            rw [hinj k' m s' x hs' hm e.symm]; exact hlt
          · cases hm
        · intro hlt
          exact ⟨s', List.mem_of_getElem? (i := k') (by rw [List.getElem?_take, if_pos hlt]; exact hs'), rfl⟩
      rcases chkReads_spec hr t ht _ hw hne with ⟨a, b, c⟩ | ⟨a, b, c⟩
      · exact .inl ⟨hpos.1 a, b, c⟩
      · refine .inr ⟨?_, b, c⟩
        rcases Nat.lt_trichotomy k k' with hlt | he | hlt
        · exact hlt
        · subst he
          rw [hs] at hs'; injection hs' with hs'; subst hs'; exact absurd rfl hne
        · exact absurd (hpos.2 hlt) a
    · intro k s hs
      have := (chkSteps_spec h4 k s hs).2.2
      rwa [Nat.zero_add] at this
  · cases h
end Go.K

namespace Go.K
set_option linter.unusedSimpArgs false
set_option linter.unusedVariables false

theorem drawRun_trace {call : CallFn} {P : Program} {nt : Nat} {ops : Array Oper} {base : Nat} : ∀ {steps : List PStep} {s0 sF : DS}, drawRun call P nt ops base steps s0 = some sF →
    ∃ σ : Nat → DS, σ 0 = s0 ∧ σ steps.length = sF ∧ ∀ (k : Nat) (x : PStep), steps[k]? = some x → drawStep call P nt ops base x (σ k) = some (σ (k + 1))
  | [], s0, sF, h => by
    simp only [drawRun, Option.some.injEq] at h; subst h
    exact ⟨fun _ => s0, rfl, rfl, fun k x hx => by simp at hx⟩
  | y :: ys, s0, sF, h => by
    simp only [drawRun] at h
    split at h
    · rename_i s1 h1
      obtain ⟨σ, e0, eF, hs⟩ := drawRun_trace h
      refine ⟨fun k => match k with | 0 => s0 | k + 1 => σ k, rfl, eF, fun k x hx => ?_⟩
      cases k with
      | zero => simp at hx; subst hx; show drawStep call P nt ops base y s0 = some (σ 0); rw [e0]; exact h1
      | succ k => exact hs k x (by simpa using hx)
    · cases h

/-- What a step of the run is, apart. -/
inductive StepIs (call : CallFn) (P : Program) (nt : Nat) (ops : Array Oper) (base : Nat) (x : PStep) (s s' : DS) : Prop where
  | skip (H : Heap) (hs : List Heap) (eh : s.hs = H :: hs) (w : wantedC ops s.env x.op = some false) (p : putC nt s.env x.op.dst (.tuple []) = some s'.env)
      (l : (x.loud = true ∧ s'.hs = putAll base s.grp H :: H :: hs ∧ s'.grp = []) ∨ (x.loud = false ∧ s'.hs = H :: hs ∧ s'.grp = s.grp))
  | quiet (H : Heap) (hs : List Heap) (v : CV) (eh : s.hs = H :: hs) (w : wantedC ops s.env x.op = some true) (k : kindOf P x.op.op = .quiet) (q : quietC P x.op.op (evR x.reads s.env) H = some v)
      (same : sameAt (quietC P x.op.op (evR x.reads s.env)) v (hs.length - x.lev) hs = true) (p : putC nt s.env x.op.dst v = some s'.env) (e1 : s'.hs = H :: hs) (e2 : s'.grp = s.grp)
  | alloc (H : Heap) (hs : List Heap) (co : CObj) (f : Nat → CV) (eh : s.hs = H :: hs) (w : wantedC ops s.env x.op = some true) (k : kindOf P x.op.op = .alloc) (q : allocC P x.op.op (evR x.reads s.env) = some (co, f))
      (p : putC nt s.env x.op.dst (f (base + x.idx)) = some s'.env) (e1 : s'.hs = H :: hs) (e2 : s'.grp = (x.idx, co) :: s.grp)
  | loud (H : Heap) (hs : List Heap) (v : CV) (H' : Heap) (eh : s.hs = H :: hs) (w : wantedC ops s.env x.op = some true) (k : kindOf P x.op.op = .loud)
      (q : loudStep call P x.op.op (evR x.reads s.env) (putAll base s.grp H) = some (v, H')) (p : putC nt s.env x.op.dst v = some s'.env) (e1 : s'.hs = H' :: H :: hs) (e2 : s'.grp = [])

theorem stepIs {call : CallFn} {P : Program} {nt : Nat} {ops : Array Oper} {base : Nat} {x : PStep} {s s' : DS} (h : drawStep call P nt ops base x s = some s') : StepIs call P nt ops base x s s' := by
  unfold drawStep at h
  split at h
  · rename_i H hs hw eh
    split at h
    · rename_i env hp
      split at h
      · rename_i hl; injection h with h; subst h; exact .skip H hs eh hw hp (.inl ⟨hl, rfl, rfl⟩)
      · rename_i hl; injection h with h; subst h; exact .skip H hs eh hw hp (.inr ⟨hl, rfl, rfl⟩)
    · cases h
  · rename_i H hs hw eh
    split at h
    · rename_i hk
      split at h
      · rename_i v hq
        split at h
        · rename_i hsame
          split at h
          · rename_i env hp; injection h with h; subst h; exact .quiet H hs v eh hw hk hq hsame hp rfl rfl
          · cases h
        · cases h
      · cases h
    · rename_i hk
      split at h
      · rename_i co f hq
        split at h
        · rename_i env hp; injection h with h; subst h; exact .alloc H hs co f eh hw hk hq hp rfl rfl
        · cases h
      · cases h
    · rename_i hk
      split at h
      · rename_i v H' hq
        split at h
        · rename_i env hp; injection h with h; subst h; exact .loud H hs v H' eh hw hk hq hp rfl rfl
        · cases h
      · cases h
  · cases h

theorem putC_get {nt : Nat} {env env' : Env} {dst : Option Tmp} {v : CV} (h : putC nt env dst v = some env') : (∀ t, dst ≠ some t → env'.get t = env.get t) ∧ (∀ d, dst = some d → env'.get d = some v ∧ d < nt) := by
  cases dst with
  | none => simp only [putC, Option.some.injEq] at h; subst h; exact ⟨fun _ _ => rfl, fun d e => by cases e⟩
  | some d =>
    simp only [putC] at h
    split at h
    · rename_i hlt
      injection h with h; subst h
      refine ⟨fun t ht => Tr.get_set_ne _ _ fun e => ht (by rw [e]), fun d' e => ?_⟩
      injection e with e; subst e
      exact ⟨Tr.get_set_same _ _ _, by simpa [Nat.blt_eq] using hlt⟩
    · cases h

theorem StepIs.put {call : CallFn} {P : Program} {nt : Nat} {ops : Array Oper} {base : Nat} {x : PStep} {s s' : DS} (h : StepIs call P nt ops base x s s') : ∃ v, putC nt s.env x.op.dst v = some s'.env := by
  cases h with
  | skip H hs eh w p l => exact ⟨_, p⟩
  | quiet H hs v eh w k q same p e1 e2 => exact ⟨_, p⟩
  | alloc H hs co f eh w k q p e1 e2 => exact ⟨_, p⟩
  | loud H hs v H' eh w k q p e1 e2 => exact ⟨_, p⟩

/-- The setting of a run: its plan, its states. -/
structure Setting (call : CallFn) (P : Program) (nt : Nat) (ops : Array Oper) (H0 : Heap) (env0 : Env) (steps : List PStep) (σ : Nat → DS) : Prop where
  plan : PlanOK P ops.toList steps
  zero : σ 0 = ⟨env0, [H0.skip ops.toList.length], []⟩
  step : ∀ (k : Nat) (x : PStep), steps[k]? = some x → StepIs call P nt ops H0.next x (σ k) (σ (k + 1))

namespace Setting
variable {call : CallFn} {P : Program} {nt : Nat} {ops : Array Oper} {H0 : Heap} {env0 : Env} {steps : List PStep} {σ : Nat → DS}

def cnt (steps : List PStep) (k : Nat) : Nat := (seqOf (steps.take k)).length

theorem cnt_succ {k : Nat} {x : PStep} (hx : steps[k]? = some x) : cnt steps (k + 1) = cnt steps k + (if x.loud = true then 1 else 0) := by
  unfold cnt
  have hlt := (List.getElem?_eq_some_iff.1 hx).1
  have : steps.take (k + 1) = steps.take k ++ [x] := by rw [List.take_add_one, hx]; rfl
  rw [this, seqOf_append]
  cases hl : x.loud <;> simp [seqOf, hl]

theorem loud_eq (S : Setting call P nt ops H0 env0 steps σ) {k : Nat} {x : PStep} (hx : steps[k]? = some x) : (x.loud = true ↔ kindOf P x.op.op = .loud) := by
  rw [(S.plan.mem k x hx).2.2]
  unfold isLoud
  split
  · rename_i h; simp [h]
  · rename_i h; simp only [Bool.false_eq_true, false_iff]; exact h

theorem hs_step (S : Setting call P nt ops H0 env0 steps σ) {k : Nat} {x : PStep} (hx : steps[k]? = some x) : (x.loud = true ∧ ∃ H', (σ (k + 1)).hs = H' :: (σ k).hs) ∨ (x.loud = false ∧ (σ (k + 1)).hs = (σ k).hs) := by
  have hl := S.loud_eq hx
  have hnl : kindOf P x.op.op ≠ .loud → x.loud = false := by
    intro h
    cases hb : x.loud with
    | false => rfl
    | true => exact absurd (hl.1 hb) h
  cases S.step k x hx with
  | skip H hs eh w p l =>
    rcases l with ⟨l1, l2, _⟩ | ⟨l1, l2, _⟩
    · exact .inl ⟨l1, _, by rw [l2, eh]⟩
    · exact .inr ⟨l1, by rw [l2, eh]⟩
  | quiet H hs v eh w kd q same p e1 e2 => exact .inr ⟨hnl (by rw [kd]; simp), by rw [e1, eh]⟩
  | alloc H hs co f eh w kd q p e1 e2 => exact .inr ⟨hnl (by rw [kd]; simp), by rw [e1, eh]⟩
  | loud H hs v H' eh w kd q p e1 e2 => exact .inl ⟨hl.2 kd, _, by rw [e1, eh]⟩

theorem hs_len (S : Setting call P nt ops H0 env0 steps σ) : ∀ k, k ≤ steps.length → (σ k).hs.length = cnt steps k + 1
  | 0, _ => by rw [S.zero]; simp [cnt, seqOf]
  | k + 1, h => by
    obtain ⟨x, hx⟩ : ∃ x, steps[k]? = some x := ⟨_, List.getElem?_eq_getElem (by omega)⟩
    have ih := S.hs_len k (by omega)
    rw [cnt_succ hx]
    rcases S.hs_step hx with ⟨h1, H', h2⟩ | ⟨h1, h2⟩
    · rw [h2, h1]; simp [ih]
    · rw [h2, h1, ih]; simp

/-- The memory behind the c-th loud operation. -/
def at_ (steps : List PStep) (σ : Nat → DS) (c : Nat) : Option Heap := (σ steps.length).hs.reverse[c]?

theorem hs_suffix (S : Setting call P nt ops H0 env0 steps σ) : ∀ d k, k + d = steps.length → ∃ ext, (σ steps.length).hs = ext ++ (σ k).hs
  | 0, k, h => ⟨[], by simp at h; rw [h]; rfl⟩
  | d + 1, k, h => by
    obtain ⟨x, hx⟩ : ∃ x, steps[k]? = some x := ⟨_, List.getElem?_eq_getElem (by omega)⟩
    obtain ⟨ext, he⟩ := S.hs_suffix d (k + 1) (by omega)
    rcases S.hs_step hx with ⟨_, H', h2⟩ | ⟨_, h2⟩
    · exact ⟨ext ++ [H'], by rw [he, h2]; simp⟩
    · exact ⟨ext, by rw [he, h2]⟩

theorem at_eq (S : Setting call P nt ops H0 env0 steps σ) {k c : Nat} (hk : k ≤ steps.length) (hc : c ≤ cnt steps k) : at_ steps σ c = (σ k).hs.reverse[c]? := by
  obtain ⟨ext, he⟩ := S.hs_suffix (steps.length - k) k (by omega)
  have hl := S.hs_len k hk
  unfold at_
  rw [he, List.reverse_append, List.getElem?_append_left (by simp; omega)]

/-- The head of the memories at a position. -/
theorem at_head (S : Setting call P nt ops H0 env0 steps σ) {k : Nat} {H : Heap} {hs : List Heap} (hk : k ≤ steps.length) (e : (σ k).hs = H :: hs) :
    at_ steps σ (cnt steps k) = some H ∧ hs.length = cnt steps k ∧ ∀ j, j < cnt steps k → at_ steps σ j = hs[cnt steps k - 1 - j]? := by
  have hl := S.hs_len k hk
  rw [e] at hl
  simp only [List.length_cons] at hl
  have hl' : hs.length = cnt steps k := by omega
  refine ⟨?_, hl', fun j hj => ?_⟩
  · rw [S.at_eq hk (Nat.le_refl _), e, List.reverse_cons, List.getElem?_append_right (by simp; omega)]
    simp [hl']
  · rw [S.at_eq hk (by omega), e, List.reverse_cons, List.getElem?_append_left (by simp; omega), List.getElem?_reverse (by omega)]
    congr 1; omega

theorem env_keep (S : Setting call P nt ops H0 env0 steps σ) {t : Nat} {k : Nat} : ∀ d, k + d ≤ steps.length → (∀ k' x, k ≤ k' → k' < k + d → steps[k']? = some x → x.op.dst ≠ some t) → (σ (k + d)).env.get t = (σ k).env.get t
  | 0, _, _ => rfl
  | d + 1, h, hno => by
    obtain ⟨x, hx⟩ : ∃ x, steps[k + d]? = some x := ⟨_, List.getElem?_eq_getElem (by omega)⟩
    have ih := S.env_keep d (by omega) (fun k' x h1 h2 => hno k' x h1 (by omega))
    obtain ⟨v, hv⟩ := (S.step (k + d) x hx).put
    rw [show k + (d + 1) = k + d + 1 by omega, (putC_get hv).1 t (hno (k + d) x (by omega) (by omega) hx), ih]

/-- The variables behind the operations of a set. -/
noncomputable def ES (ops : Array Oper) (env0 envF : Env) (T : Nat → Prop) (t : Nat) : Option CV :=
  @ite _ (∃ (i : Nat) (o : Oper), ops.toList[i]? = some o ∧ o.dst = some t ∧ T i) (Classical.propDecidable _) (envF.get t) (env0.get t)

theorem written (S : Setting call P nt ops H0 env0 steps σ) {k t : Nat} {x : PStep} (hx : steps[k]? = some x) (hd : x.op.dst = some t) :
    (∀ m, k < m → m ≤ steps.length → (σ m).env.get t = (σ steps.length).env.get t) ∧ (∀ m, m ≤ k → (σ m).env.get t = env0.get t) := by
  have only : ∀ k' x', steps[k']? = some x' → x'.op.dst = some t → k' = k := by
    intro k' x' hx' hd'
    refine S.plan.inj k' k x' x hx' hx ?_
    exact S.plan.single _ _ _ _ t (S.plan.mem k' x' hx').1 (S.plan.mem k x hx).1 hd' hd
  have hlt := (List.getElem?_eq_some_iff.1 hx).1
  constructor
  · intro m hm hle
    have := S.env_keep (t := t) (k := m) (steps.length - m) (by omega) (fun k' x' h1 h2 h3 h4 => by have := only k' x' h3 h4; omega)
    rw [show m + (steps.length - m) = steps.length by omega] at this
    exact this.symm
  · intro m hm
    have := S.env_keep (t := t) (k := 0) m (by omega) (fun k' x' h1 h2 h3 h4 => by have := only k' x' h3 h4; omega)
    rw [Nat.zero_add, S.zero] at this
    exact this

theorem unwritten (S : Setting call P nt ops H0 env0 steps σ) {t : Nat} (hno : ¬ ∃ (i : Nat) (o : Oper), ops.toList[i]? = some o ∧ o.dst = some t) {m : Nat} (hm : m ≤ steps.length) : (σ m).env.get t = env0.get t := by
  have := S.env_keep (t := t) (k := 0) m (by omega) (fun k' x' h1 h2 h3 h4 => hno ⟨x'.idx, x'.op, (S.plan.mem k' x' h3).1, h4⟩)
  rw [Nat.zero_add, S.zero] at this
  exact this

/-- What a ready operation reads is what it read in the run. -/
theorem reads_agree (S : Setting call P nt ops H0 env0 steps σ) {T : Nat → Prop} (hT : Closed ops.toList T) {k : Nat} {x : PStep} (hx : steps[k]? = some x) (hno : ¬ T x.idx)
    (hr : ∀ e ∈ x.op.after.toList, Region.binds .any e = true → T e.on) {t : Nat} (ht : t ∈ x.reads) : (σ k).env.get t = ES ops env0 (σ steps.length).env T t := by
  have hlt := (List.getElem?_eq_some_iff.1 hx).1
  have hxo := (S.plan.mem k x hx).1
  unfold ES
  by_cases hw : ∃ (i : Nat) (o : Oper), ops.toList[i]? = some o ∧ o.dst = some t
  · obtain ⟨j, o, hj, hd⟩ := hw
    obtain ⟨k', s', hs', hidx⟩ := S.plan.all j (List.getElem?_eq_some_iff.1 hj).1
    have hs'o := (S.plan.mem k' s' hs').1
    rw [hidx, hj] at hs'o
    injection hs'o with hs'o
    subst hs'o
    obtain ⟨w1, w2⟩ := S.written hs' hd
    have huniq : (∃ (i : Nat) (o : Oper), ops.toList[i]? = some o ∧ o.dst = some t ∧ T i) ↔ T j := by
      constructor
      · rintro ⟨i, o', hi, hd', hTi⟩
        rw [S.plan.single i j o' _ t hi hj hd' hd] at hTi; exact hTi
      · intro h; exact ⟨j, _, hj, hd, h⟩
    by_cases hji : j = x.idx
    · have hk : k' = k := S.plan.inj k' k s' x hs' hx (hidx.trans hji)
      subst hk
      rw [w2 k' (Nat.le_refl _), if_neg (by rw [huniq, hji]; exact hno)]
    · rcases S.plan.reads k k' x s' hx hs' t ht hd (by rw [hidx]; exact hji) with ⟨h1, h2, h3⟩ | ⟨h1, h2, h3⟩
      · have hTj : T j := by rw [← hidx]; exact dep_sound hT x.idx s'.idx x.op hxo hr h3
        rw [w1 k h1 (by omega), if_pos (huniq.2 hTj)]
      · have hTj : ¬ T j := by
          intro h
          refine hno (dep_sound hT s'.idx x.idx s'.op (by rw [hidx]; exact hj) (fun e he hb => hT j _ hj h e he hb) h3)
        rw [w2 k (by omega), if_neg (fun h => hTj (huniq.1 h))]
  · rw [if_neg (fun ⟨i, o, h1, h2, _⟩ => hw ⟨i, o, h1, h2⟩)]
    exact S.unwritten hw (by omega)

/-- The loud operation at a position is the next of the sequence. -/
theorem seq_at {k : Nat} {x : PStep} (hx : steps[k]? = some x) (hl : x.loud = true) : (seqOf steps)[cnt steps k]? = some x.idx := by
  have hlt := (List.getElem?_eq_some_iff.1 hx).1
  have : steps = steps.take k ++ x :: steps.drop (k + 1) := by
    have h1 := List.drop_eq_getElem_cons hlt
    rw [(List.getElem?_eq_some_iff.1 hx).2] at h1
    rw [← h1, List.take_append_drop]
  conv => lhs; arg 1; rw [this]
  rw [seqOf_append]
  unfold cnt
  rw [List.getElem?_append_right (Nat.le_refl _), Nat.sub_self]
  simp [seqOf, hl]

end Setting
end Go.K
