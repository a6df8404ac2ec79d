/- What is unfolded when a walk goes over code. Drawn regions by their plans, step by step. The library's sort of texts as a hook: from the contract of the kit. -/
import Derived.Test.YtmnhkbhdfkebmaaGreatK10
import Derived.Sort.Grow
import Derived.Sort.EncStr

set_option linter.unusedSimpArgs false
set_option linter.unusedVariables false

namespace Go.K
set_option linter.unusedSimpArgs false
set_option linter.unusedVariables false

def codeOf (f : Func) : Code := match f.body with | some c => c | none => .skip
/-- A part of code: false: the left one, true: the right one; in a block or a loop either. -/
def sub : Code → List Bool → Code
  | c, [] => c
  | .seq a _, false :: p => sub a p
  | .seq _ b, true :: p => sub b p
  | .cond _ a _, false :: p => sub a p
  | .cond _ _ b, true :: p => sub b p
  | .block _ a, _ :: p => sub a p
  | .loop a, _ :: p => sub a p
  | c, _ => c

section
variable {P : Program} {X : CallFn} {nt : Nat} {env : Env} {H : Heap}

theorem enterC_eq {rec : RunFn} {f : Nat} {args : List CV} {fn : Func} {c : Code} (h : P.funcs[f]? = some fn) (hb : fn.body = some c) (hn : (fn.name == "runtime.NumGoroutine") = false) :
    enterC P rec f args H = match rec (args.length + (fn.ntmps - args.length)) c (envOf args 0 .nil) H with
        | some (.normal, env, H') => (resultsC P fn.results.toList env H').map fun v => (v, H')
        | some (.ret, env, H') => (resultsC P fn.results.toList env H').map fun v => (v, H')
        | _ => none := by
  unfold enterC
  simp only [h, hb, hn]
  rfl

/-- A step of a region that may go in several orders. -/
theorem drawRun_cons (call : CallFn) (ops : Array Oper) (base : Nat) (x : PStep) (xs : List PStep) (s s' : DS) (h : drawStep call P nt ops base x s = some s') :
    drawRun call P nt ops base (x :: xs) s = drawRun call P nt ops base xs s' := by simp only [drawRun, h]
theorem drawRun_nil (call : CallFn) (ops : Array Oper) (base : Nat) (s : DS) : drawRun call P nt ops base [] s = some s := rfl

def mkSteps (ops : List Oper) : List (Nat × Nat × List Nat × Bool) → List PStep
  | [] => []
  | (i, l, r, b) :: xs => match ops[i]? with
    | some o => ⟨i, l, o, r, b⟩ :: mkSteps ops xs
    | none => []

/-- A region that may go in several orders, in the order of a plan. -/
theorem go_plan {X : CallFn} {id : Nat} {ops : Array Oper} (specs : List (Nat × Nat × List Nat × Bool)) (h : planC P ops.toList = some (mkSteps ops.toList specs)) :
    go P X nt (.region id ops true) env H = match drawRun (calls P X) P nt ops H.next (mkSteps ops.toList specs) ⟨env, [H.skip ops.toList.length], []⟩ with
    | some s => match s.heap H.next with
      | some H' => some (.normal, s.env, H')
      | none => none
    | none => none := by
  rw [go_drawn]
  unfold drawC
  rw [h]
  simp only []
  cases drawRun (calls P X) P nt ops H.next (mkSteps ops.toList specs) ⟨env, [H.skip ops.toList.length], []⟩ with
  | none => rfl
  | some s =>
    simp only []
    cases s.heap H.next with
    | none => rfl
    | some H' => rfl
end
end Go.K

namespace Go.K
set_option linter.unusedSimpArgs false
set_option linter.unusedVariables false

abbrev Spec := Nat × Nat × List Nat × Bool
def planStep (call : CallFn) (P : Program) (nt : Nat) (ops : Array Oper) (base : Nat) (x : Spec) (s : DS) : Option DS :=
  match ops.toList[x.1]? with
  | some o => drawStep call P nt ops base ⟨x.1, x.2.1, o, x.2.2.1, x.2.2.2⟩ s
  | none => none
def planRun (call : CallFn) (P : Program) (nt : Nat) (ops : Array Oper) (base : Nat) : List Spec → Option DS → Option DS
  | _, none => none
  | [], some s => some s
  | x :: xs, some s => planRun call P nt ops base xs (planStep call P nt ops base x s)
def planEnd (base : Nat) : Option DS → Option (CE × Env × Heap)
  | some ⟨env, H :: _, grp⟩ => some (.normal, env, putAll base grp H)
  | _ => none

section
variable {P : Program} {X : CallFn} {nt : Nat} {env : Env} {H : Heap} {call : CallFn} {ops : Array Oper} {base : Nat}

theorem planRun_none (l : List Spec) : planRun call P nt ops base l none = none := by cases l <;> rfl
theorem planRun_cons (x : Spec) (xs : List Spec) (s : DS) : planRun call P nt ops base (x :: xs) (some s) = planRun call P nt ops base xs (planStep call P nt ops base x s) := rfl
theorem planRun_nil (s : DS) : planRun call P nt ops base [] (some s) = some s := rfl

theorem planRun_eq : ∀ (l : List Spec) (s : DS), (∀ x ∈ l, x.1 < ops.toList.length) → planRun call P nt ops base l (some s) = drawRun call P nt ops base (mkSteps ops.toList l) s
  | [], s, _ => rfl
  | (i, v, r, b) :: xs, s, h => by
    have hi := h (i, v, r, b) (List.mem_cons_self ..)
    obtain ⟨o, ho⟩ : ∃ o, ops.toList[i]? = some o := ⟨_, List.getElem?_eq_getElem hi⟩
    have h' : ∀ x ∈ xs, x.1 < ops.toList.length := fun x hx => h x (List.mem_cons_of_mem _ hx)
    rw [planRun_cons]
    simp only [planStep, ho, mkSteps, drawRun]
    cases drawStep call P nt ops base ⟨i, v, o, r, b⟩ s with
    | none => exact planRun_none xs
    | some s' => exact planRun_eq xs s' h'

theorem go_planned {id : Nat} (specs : List Spec) (hl : (specs.all fun x => Nat.blt x.1 ops.toList.length) = true) (h : planC P ops.toList = some (mkSteps ops.toList specs)) :
    go P X nt (.region id ops true) env H = planEnd H.next (planRun (calls P X) P nt ops H.next specs (some ⟨env, [H.skip ops.toList.length], []⟩)) := by
  rw [go_plan specs h, planRun_eq specs _ (fun x hx => by
    have := List.all_eq_true.1 hl x hx
    rw [blt_dec] at this
    exact of_decide_eq_true this)]
  cases drawRun (calls P X) P nt ops H.next (mkSteps ops.toList specs) ⟨env, [H.skip ops.toList.length], []⟩ with
  | none => rfl
  | some s =>
    obtain ⟨e, hs, g⟩ := s
    cases hs with
    | nil => rfl
    | cons h hs => rfl

/-- A quiet step: its value, and the same value at the heaps ahead. -/
def quietAt (P : Program) (op : Op) (reads : List Nat) (env : Env) (lev : Nat) : List Heap → Option CV
  | H :: hs => match quietC P op (evR reads env) H with
    | some v => match sameAt (quietC P op (evR reads env)) v (hs.length - lev) hs with
      | true => some v
      | false => none
    | none => none
  | [] => none
def setDS (nt : Nat) (dst : Option Nat) (s : DS) : Option CV → Option DS
  | some v => match putC nt s.env dst v with
    | some env => some ⟨env, s.hs, s.grp⟩
    | none => none
  | none => none
def allocDS (nt i base : Nat) (dst : Option Nat) (s : DS) : Option (CObj × (Nat → CV)) → Option DS
  | some (co, f) => match putC nt s.env dst (f (base + i)) with
    | some env => some ⟨env, s.hs, (i, co) :: s.grp⟩
    | none => none
  | none => none
def loudDS (nt : Nat) (dst : Option Nat) (s : DS) : Option (CV × Heap) → Option DS
  | some (v, H') => match putC nt s.env dst v with
    | some env => some ⟨env, H' :: s.hs, []⟩
    | none => none
  | none => none
theorem setDS_some {d : Nat} {s : DS} {v : CV} (h : d < nt) : setDS nt (some d) s (some v) = some ⟨s.env.set d v, s.hs, s.grp⟩ := by simp only [setDS, putC_some v h]
theorem allocDS_some {d i : Nat} {s : DS} {co : CObj} {f : Nat → CV} (h : d < nt) : allocDS nt i base (some d) s (some (co, f)) = some ⟨s.env.set d (f (base + i)), s.hs, (i, co) :: s.grp⟩ := by
  simp only [allocDS, putC_some _ h]
theorem loudDS_some {d : Nat} {s : DS} {v : CV} {H' : Heap} (h : d < nt) : loudDS nt (some d) s (some (v, H')) = some ⟨s.env.set d v, H' :: s.hs, []⟩ := by simp only [loudDS, putC_some v h]
theorem loudDS_none {s : DS} {v : CV} {H' : Heap} : loudDS nt none s (some (v, H')) = some ⟨s.env, H' :: s.hs, []⟩ := rfl

theorem drawStep_eq {i lev t : Nat} {op : Op} {dst : Option Nat} {pos : String} {af : Array Edge} {reads : List Nat} {b : Bool} {hs : List Heap} {grp : List (Nat × CObj)} :
    drawStep call P nt ops base ⟨i, lev, ⟨dst, op, t, pos, af, none⟩, reads, b⟩ ⟨env, H :: hs, grp⟩ = match kindOf P op with
      | .quiet => setDS nt dst ⟨env, H :: hs, grp⟩ (quietAt P op reads env lev (H :: hs))
      | .alloc => allocDS nt i base dst ⟨env, H :: hs, grp⟩ (allocC P op (evR reads env))
      | .loud => loudDS nt dst ⟨env, H :: hs, grp⟩ (loudStep call P op (evR reads env) (putAll base grp H)) := by
  simp only [drawStep, wantedC]
  cases hk : kindOf P op with
  | quiet =>
    simp only [quietAt]
    cases quietC P op (evR reads env) H with
    | none => rfl
    | some v =>
      simp only []
      cases sameAt (quietC P op (evR reads env)) v (hs.length - lev) hs with
      | true => simp only [setDS]; cases putC nt env dst v <;> rfl
      | false => rfl
  | alloc =>
    simp only []
    cases allocC P op (evR reads env) with
    | none => rfl
    | some x => obtain ⟨co, f⟩ := x; simp only [allocDS]; cases putC nt env dst (f (base + i)) <;> rfl
  | loud =>
    simp only []
    cases loudStep call P op (evR reads env) (putAll base grp H) with
    | none => rfl
    | some x => obtain ⟨v, H'⟩ := x; simp only [loudDS]; cases putC nt env dst v <;> rfl
end
end Go.K
namespace Go.K
section
variable {P : Program} {k : IntKind} {t : Nat} {a b : Int}
theorem bin_add : binC P .add t (.int k a) (.int k b) = some (.int k (wrap k (a + b))) := by simp [binC, intBin]
theorem bin_sub : binC P .sub t (.int k a) (.int k b) = some (.int k (wrap k (a - b))) := by simp [binC, intBin]
theorem bin_mul : binC P .mul t (.int k a) (.int k b) = some (.int k (wrap k (a * b))) := by simp [binC, intBin]
theorem bin_rem (h : b ≠ 0) : binC P .rem t (.int k a) (.int k b) = some (.int k (a.tmod b)) := by simp [binC, intBin, ieq_dec, h]
theorem bin_quo (h : b ≠ 0) : binC P .quo t (.int k a) (.int k b) = some (.int k (wrap k (a.tdiv b))) := by simp [binC, intBin, ieq_dec, h]
theorem bin_eql : binC P .eql t (.int k a) (.int k b) = some (.bool (decide (a = b))) := by simp [binC, intBin, ieq_dec]
theorem bin_neq : binC P .neq t (.int k a) (.int k b) = some (.bool (decide (a ≠ b))) := by simp [binC, intBin, ieq_dec]
theorem bin_lss : binC P .lss t (.int k a) (.int k b) = some (.bool (decide (a < b))) := by simp [binC, intBin, ilt_dec]
theorem bin_leq : binC P .leq t (.int k a) (.int k b) = some (.bool (decide (a ≤ b))) := by simp [binC, intBin, ile_eq]
theorem bin_gtr : binC P .gtr t (.int k a) (.int k b) = some (.bool (decide (b < a))) := by simp [binC, intBin, ilt_dec]
theorem bin_geq : binC P .geq t (.int k a) (.int k b) = some (.bool (decide (b ≤ a))) := by simp [binC, intBin, ile_eq]
theorem wrap_id {n : Int} (h1 : loOf k ≤ n) (h2 : n ≤ hiOf k) : wrap k n = n := by
  unfold wrap; simp [ile_eq, h1, h2]
theorem wrap64 {n : Int} (h1 : -9223372036854775808 ≤ n) (h2 : n ≤ 9223372036854775807) : wrap .i64 n = n := wrap_id h1 h2
theorem wrap8 {n : Int} (h1 : 0 ≤ n) (h2 : n ≤ 255) : wrap .u8 n = n := wrap_id h1 h2
end
theorem tmod_nat (a b : Nat) : (a : Int).tmod b = ((a % b : Nat) : Int) := by rw [Int.ofNat_tmod]

theorem bytesEq_self (l : List UInt8) : bytesEq l l = true := by rw [bytesEq_eq]; simp
theorem cbeq_int (d : Nat) (k : IntKind) (n : Int) : cbeq d (.int k n) (.int k n) = true := by simp [cbeq, ieq_dec]
theorem cbeq_str (d : Nat) (s : ByteArray) : cbeq d (.str s) (.str s) = true := by simp [cbeq, bytesEq_self]
theorem cbeq_bool (d : Nat) (b : Bool) : cbeq d (.bool b) (.bool b) = true := by simp [cbeq]
theorem cbeq_ptr (d : Nat) (b o : Nat) : cbeq d (.ptr b o) (.ptr b o) = true := by simp [cbeq]
theorem cbeq_map (d : Nat) (b : Nat) : cbeq d (.map b) (.map b) = true := by simp [cbeq]
theorem cbeq_nilSlice (d : Nat) : cbeq d .nilSlice .nilSlice = true := by simp [cbeq]
theorem cbeq_nilPtr (d : Nat) : cbeq d .nilPtr .nilPtr = true := by simp [cbeq]
theorem cbeq_slice (d : Nat) (b o l : Nat) (c : Cap) : cbeq d (.slice b o l c) (.slice b o l c) = true := by simp [cbeq]
theorem Look.cbeq {H : Heap} {sz : Nat} {v : CV} {vs : List CV} (h : Look H sz v vs) (d : Nat) : Go.K.cbeq d v v = true := by
  rcases h.2 with ⟨rfl, _⟩ | ⟨b, off, c, cs, rfl, _⟩
  · exact cbeq_nilSlice d
  · exact cbeq_slice ..
theorem Has.cbeq {H : Heap} {sz e : Nat} {v : CV} {vs : List CV} (h : Has H sz e v vs) (d : Nat) : Go.K.cbeq d v v = true := by
  rcases h.2 with ⟨rfl, _⟩ | ⟨b, off, cap, cs, fam, rfl, _⟩
  · exact cbeq_nilSlice d
  · exact cbeq_slice ..

/-- A slice of one new element, and of two. -/
theorem allocC_one {P : Program} {t e sz : Nat} {z : List CV} (ht : P.underlying t = some (.slice e)) (hs : szC P e = some (sz + 1)) (hz : zeroC P e = some z) (hzl : z.length = sz + 1) (hle : sz + 1 ≤ 16777216)
    (x : Operand) (ρ : Operand → Option CV) : allocC P (.buildSlice t 1 #[(0, x)]) ρ = (ρ x).bind fun v => if v.cells.length = sz + 1 then some (.cells v.cells e none, fun b => .slice b 0 1 (.exact 1)) else none := by
  simp only [allocC, ht, hs, Option.bind_some, Nat.one_mul, ble_t hle, zerosC, hz, hzl, beq_t rfl, rep, List.append_nil, evParts, mapO]
  cases hx : ρ x with
  | none => rfl
  | some v =>
    simp only [Option.map_some, Option.bind_some, fillC, Nat.zero_mul, Nat.zero_add, hzl, ble_t (Nat.le_refl _), Bool.and_true]
    by_cases h : v.cells.length = sz + 1
    · simp [h, splice, hzl, beq_t]
    · simp [h, beq_f h]
theorem allocC_two {P : Program} {t e : Nat} {z : CV} (ht : P.underlying t = some (.slice e)) (hs : szC P e = some 1) (hz : zeroC P e = some [z])
    (x y : Operand) (ρ : Operand → Option CV) : allocC P (.buildSlice t 2 #[(0, x), (1, y)]) ρ = (ρ x).bind fun v => (ρ y).bind fun u => if v.cells.length = 1 ∧ u.cells.length = 1 then some (.cells (v.cells ++ u.cells) e none, fun b => .slice b 0 2 (.exact 2)) else none := by
  simp only [allocC, ht, hs, Option.bind_some, ble_t (show 2 * (0 + 1) ≤ 16777216 by omega), zerosC, hz, beq_t (show [z].length = 0 + 1 from rfl), rep, List.append_nil, evParts, mapO]
  cases hx : ρ x with
  | none => rfl
  | some v =>
    cases hy : ρ y with
    | none => rfl
    | some u =>
      simp only [Option.map_some, Option.bind_some, fillC, Nat.zero_mul, Nat.zero_add, Nat.one_mul, Nat.mul_one]
      by_cases h : v.cells.length = 1
      · obtain ⟨c, hc⟩ := List.length_eq_one_iff.1 h
        by_cases h' : u.cells.length = 1
        · obtain ⟨d, hd⟩ := List.length_eq_one_iff.1 h'
          simp [hc, hd, splice, Nat.ble]
        · simp [h, h', hc, splice, beq_f h', Nat.ble]
      · simp [h, beq_f h]

section
variable {P : Program} {nt : Nat} {env : Env} {H : Heap}
/-- An operation with a guard. -/
def guardStep (call : CallFn) (P : Program) (nt : Nat) (ops : Array Oper) (dst : Option Nat) (os : List Oper) (env : Env) (H : Heap) (x : Option (CV × Heap)) : Option Bool → Option (Env × Heap)
  | some true => afterStep call P nt ops dst os env x
  | some false => afterStep call P nt ops dst os env (some (.tuple [], H))
  | none => none
def guardVal (ops : Array Oper) (env : Env) (j : Nat) (w : Bool) : Option Bool :=
  match (ops.toList[j]?).bind (·.dst) with
  | some t => match env.get t with
    | some (.bool b) => some (b == w)
    | some _ => some false
    | none => none
  | none => some false
theorem opsSeq_guard (call : CallFn) (ops : Array Oper) (dst : Option Nat) (op : Op) (t : Nat) (pos : String) (af : Array Edge) (j : Nat) (w : Bool) (os : List Oper) :
    opsSeq call P nt ops (⟨dst, op, t, pos, af, some (j, w)⟩ :: os) env H = guardStep call P nt ops dst os env H (stepC call P op (evC env) H) (guardVal ops env j w) := by
  simp only [opsSeq, wantedC, guardVal, Array.getElem?_toList]
  cases (ops[j]?).bind (·.dst) with
  | none => rfl
  | some t =>
    simp only []
    cases env.get t with
    | none => rfl
    | some c =>
      cases c with
      | bool b =>
        simp only []
        cases (b == w) with
        | false => rfl
        | true =>
          simp only [guardStep, afterStep]
          cases stepC call P op (evC env) H with
          | none => rfl
          | some r => rfl
      | _ => rfl
theorem guardStep_true (call : CallFn) (ops : Array Oper) (dst : Option Nat) (os : List Oper) (x : Option (CV × Heap)) : guardStep call P nt ops dst os env H x (some true) = afterStep call P nt ops dst os env x := rfl
theorem guardStep_false (call : CallFn) (ops : Array Oper) (dst : Option Nat) (os : List Oper) (x : Option (CV × Heap)) : guardStep call P nt ops dst os env H x (some false) = afterStep call P nt ops dst os env (some (.tuple [], H)) := rfl
end

/-- A call, by what its code gives. -/
theorem calls_ret {P : Program} {X : CallFn} {f nt : Nat} {args : List CV} {fn : Func} {H H' : Heap} {c : CV} {env' : Env} (hX : X f args H = none) (hf : P.funcs[f]? = some fn) (hb : fn.body.isSome = true) (hn : (fn.name == "runtime.NumGoroutine") = false)
    (hnt : args.length + (fn.ntmps - args.length) = nt) (h : go P X nt (codeOf fn) (envOf args 0 .nil) H = some (.ret, env', H')) (hr : resultsC P fn.results.toList env' H' = some c) : calls P X f args H = some (c, H') := by
  obtain ⟨b, hb⟩ := Option.isSome_iff_exists.1 hb
  rw [calls_body hX, enterC_eq hf hb hn, hnt]
  have : codeOf fn = b := by simp [codeOf, hb]
  rw [← this, h]
  simp only [hr, Option.map_some]
theorem calls_normal {P : Program} {X : CallFn} {f nt : Nat} {args : List CV} {fn : Func} {H H' : Heap} {c : CV} {env' : Env} (hX : X f args H = none) (hf : P.funcs[f]? = some fn) (hb : fn.body.isSome = true) (hn : (fn.name == "runtime.NumGoroutine") = false)
    (hnt : args.length + (fn.ntmps - args.length) = nt) (h : go P X nt (codeOf fn) (envOf args 0 .nil) H = some (.normal, env', H')) (hr : resultsC P fn.results.toList env' H' = some c) : calls P X f args H = some (c, H') := by
  obtain ⟨b, hb⟩ := Option.isSome_iff_exists.1 hb
  rw [calls_body hX, enterC_eq hf hb hn, hnt]
  have : codeOf fn = b := by simp [codeOf, hb]
  rw [← this, h]
  simp only [hr, Option.map_some]
theorem results_one {P : Program} {env : Env} {H : Heap} {t : Nat} {c : CV} (h : env.get t = some c) : resultsC P [.tmp t] env H = some c := by simp [resultsC, mapO, resultC, h]
theorem results_two {P : Program} {env : Env} {H : Heap} {t u : Nat} {c d : CV} (h : env.get t = some c) (h' : env.get u = some d) : resultsC P [.tmp t, .tmp u] env H = some (.tuple [c, d]) := by simp [resultsC, mapO, resultC, h, h']
theorem results_three {P : Program} {env : Env} {H : Heap} {t u v : Nat} {c d e : CV} (h : env.get t = some c) (h' : env.get u = some d) (h'' : env.get v = some e) : resultsC P [.tmp t, .tmp u, .tmp v] env H = some (.tuple [c, d, e]) := by
  simp [resultsC, mapO, resultC, h, h', h'']
end Go.K

namespace Go.K
open Go.Sort Go.Proofs
set_option linter.unusedSimpArgs false
set_option linter.unusedVariables false

def SortsStrings (P : Program) (f : Nat) : Prop := ∀ (blk off cap : Nat) (ss : List (List UInt8)) (w : World), Holds encStr w blk off ss.toArray → blk < w.heap.size → ss.length < 4611686018427387904 →
    Calls P f #[.slice (some ⟨blk, off, none⟩) ss.length cap] w fun e w' => e = .returned (.tuple #[]) ∧ ∃ n os, w' = grow (putRow encStr (Sort.ahead w n) blk off (ss.mergeSort fun x y => decide (x ≤ y)).toArray) os

def strsC : List CV → Option (List (List UInt8))
  | [] => some []
  | .str s :: cs => (strsC cs).map (s.data.toList :: ·)
  | _ :: _ => none
def strC (l : List UInt8) : CV := .str ⟨l.toArray⟩

theorem strsC_vals {η : Eta} : ∀ {cs : List CV} {ss : List (List UInt8)} {l : List Value}, strsC cs = some ss → CV.vals η cs = some l → l = ss.map encStr
  | [], ss, l, h, hl => by simp [strsC] at h; simp [CV.vals] at hl; subst h hl; rfl
  | c :: cs, ss, l, h, hl => by
    unfold strsC at h
    split at h
    · rename_i e; cases e
    · rename_i s cs' e
      injection e with e1 e2; subst e1 e2
      simp only [Option.map_eq_some_iff] at h
      obtain ⟨ss', h', rfl⟩ := h
      simp only [CV.vals, CV.val, Option.bind_some, Option.map_eq_some_iff] at hl
      obtain ⟨l', hl', rfl⟩ := hl
      rw [strsC_vals h' hl', List.map_cons]
    · cases h
theorem strC_vals (η : Eta) : ∀ ss : List (List UInt8), CV.vals η (ss.map strC) = some (ss.map encStr)
  | [] => rfl
  | s :: ss => by simp [CV.vals, strC, CV.val, strC_vals η ss]

def sortC (f0 : Nat) : CallFn := fun f args H =>
  match Nat.beq f f0, args with
  | true, [.slice b 0 len (.tail 1)] => match H.get b with
    | some (.cells cs e fam) => match strsC cs with
      | some ss => match Nat.beq cs.length len && Nat.blt len 4611686018427387904 with
        | true => some (.tuple [], H.upd b (.cells ((ss.mergeSort fun x y => decide (x ≤ y)).map strC) e fam) 0)
        | false => none
      | none => none
    | _ => none
  | _, _ => none

theorem strsC_length : ∀ {cs : List CV} {ss : List (List UInt8)}, strsC cs = some ss → ss.length = cs.length
  | [], ss, h => by simp [strsC] at h; subst h; rfl
  | c :: cs, ss, h => by
    unfold strsC at h
    split at h
    · rename_i e; cases e
    · rename_i s cs' e
      injection e with e1 e2; subst e1 e2
      simp only [Option.map_eq_some_iff] at h
      obtain ⟨ss', h', rfl⟩ := h
      simp [strsC_length h']
    · cases h

theorem putCells_mid (pre l rest : List Value) (d : List (List UInt8)) (h : d.length = l.length) : putCells encStr pre.length d.toArray (pre ++ l ++ rest).toArray = (pre ++ d.map encStr ++ rest).toArray := by
  apply Array.toList_inj.1
  apply List.ext_getElem?
  intro k
  simp only [putCells, Array.toList_mapIdx, List.getElem?_mapIdx, List.size_toArray]
  by_cases h1 : k < pre.length
  · rw [List.append_assoc, List.append_assoc, List.getElem?_append_left h1, List.getElem?_append_left h1]
    rw [List.getElem?_eq_getElem h1, Option.map_some, if_neg (by omega)]
  · by_cases h2 : k < pre.length + d.length
    · have e1 : (pre ++ l ++ rest)[k]? = l[k - pre.length]? := by
        rw [List.append_assoc, List.getElem?_append_right (by omega), List.getElem?_append_left (by omega)]
      have e2 : (pre ++ d.map encStr ++ rest)[k]? = (d.map encStr)[k - pre.length]? := by
        rw [List.append_assoc, List.getElem?_append_right (by omega), List.getElem?_append_left (by rw [List.length_map]; omega)]
      rw [e1, e2, List.getElem?_eq_getElem (by omega : k - pre.length < l.length), Option.map_some, if_pos (by omega), List.getElem?_map, List.getElem?_eq_getElem (by omega : k - pre.length < d.length), Option.map_some]
      congr 2
      rw [getElem!_pos _ _ (by simp; omega)]
      simp
    · have e1 : (pre ++ l ++ rest)[k]? = rest[k - pre.length - l.length]? := by
        rw [List.append_assoc, List.getElem?_append_right (by omega), List.getElem?_append_right (by omega)]
      have e2 : (pre ++ d.map encStr ++ rest)[k]? = rest[k - pre.length - l.length]? := by
        rw [List.append_assoc, List.getElem?_append_right (by omega), List.getElem?_append_right (by rw [List.length_map]; omega), List.length_map, h]
      rw [e1, e2]
      cases rest[k - pre.length - l.length]? with
      | none => rfl
      | some v => rw [Option.map_some, if_neg (by omega)]

theorem HRel.grown {η : Eta} {H : Heap} {w w' : World} (h : HRel η H w) (hw : ∀ k, k < w.heap.size → w'.heap[k]? = w.heap[k]?) : HRel η H w' :=
  ⟨fun b o hb => by obtain ⟨x, hx, r⟩ := h.obj b o hb; exact ⟨x, hx, r.mono η.le_refl (hw _ r.lt)⟩, h.dom, h.inj, h.fam, h.famlt⟩

theorem sortC_ok {P : Program} {f0 : Nat} {fn : Func} (hf : P.funcs[f0]? = some fn) (hb : fn.body.isSome = true) (hn : (fn.name == "runtime.NumGoroutine") = false) (hs : SortsStrings P f0) : CallOK P (sortC f0) := by
  intro f args H r H' h
  unfold sortC at h
  split at h
  · rename_i b len hff
    have := Nat.eq_of_beq_eq_true hff
    subst this
    split at h
    · rename_i cs e fam hget
      split at h
      · rename_i ss hss
        split at h
        · rename_i hok
          simp only [Bool.and_eq_true] at hok
          have hlen := Nat.eq_of_beq_eq_true hok.1
          have hlt : len < 4611686018427387904 := by have := hok.2; rw [blt_dec] at this; exact of_decide_eq_true this
          simp only [Option.some.injEq, Prod.mk.injEq] at h
          obtain ⟨rfl, rfl⟩ := h
          refine ⟨Grows.upd hget, fun η w vs hH hvs => .inl ⟨?_, ?_⟩⟩
          · obtain ⟨c, hc⟩ := Option.isSome_iff_exists.1 hb
            simp only [callFunc, Sem.run_bind, run_program, Result.andThen_ok, hf, hn, Bool.false_eq_true, if_false, hc, Option.isNone_some, Sem.run_pure]
          · obtain ⟨x, hx, pre, l, rest, fr, hl, hw, hpre, hlen2, hfam, hth⟩ := hH.obj _ _ hget
            have hle := strsC_vals hss hl
            have hsl := strsC_length hss
            simp only [CV.vals, CV.val, hx, Option.map_some, Option.bind_some, Option.some.injEq] at hvs
            subst hvs
            have hll : l.length = ss.length := by rw [hle, List.length_map]
            have hold : Holds encStr w x.blk (x.base + 0) ss.toArray := by
              intro j hj
              have hj' : j < ss.length := by simpa using hj
              refine ⟨?_, ?_⟩
              · simp only [World.cell?, hw, Option.isSome_none, Bool.false_eq_true, if_false, List.getElem?_toArray]
                rw [List.append_assoc, List.getElem?_append_right (by omega), List.getElem?_append_left (by omega)]
                rw [show x.base + 0 + j - pre.length = j by omega, hle, List.getElem?_map, List.getElem?_eq_getElem hj', Option.map_some]
                congr 2
                rw [getElem!_pos _ j (by simpa using hj')]
                simp
              · simp only [World.frozen?, hw]
                obtain ⟨lo, hi⟩ := fr
                have ht := hth
                simp only [List.length_append] at ht
                have := hth (x.base + 0 + j) (by simp only [List.length_append]; omega)
                simp only [Bool.and_eq_false_imp, decide_eq_true_eq, decide_eq_false_iff_not]
                exact fun h1 h2 => this ⟨h1, h2⟩
            have hbl : x.blk < w.heap.size := by
              rcases Nat.lt_or_ge x.blk w.heap.size with h | h
              · exact h
              · rw [Array.getElem?_eq_none h] at hw; cases hw
            have hcall := hs x.blk (x.base + 0) ((x.m - 0) / 1) ss w hold hbl (by omega)
            rw [hsl, hlen] at hcall
            refine hcall.mono ?_
            rintro e' w' ⟨he, n, os, hw'⟩
            have hsorted : (ss.mergeSort fun x y => decide (x ≤ y)).length = l.length := by rw [List.length_mergeSort, hll]
            let w1 : World := putRow encStr (Sort.ahead w n) x.blk (x.base + 0) (ss.mergeSort fun x y => decide (x ≤ y)).toArray
            have h1 : w1.heap[x.blk]? = some (.cells (pre ++ (ss.mergeSort fun x y => decide (x ≤ y)).map encStr ++ rest).toArray e fr) := by
              show ((Sort.ahead w n).heap.modify x.blk _)[x.blk]? = _
              rw [Array.getElem?_modify, if_pos rfl]
              show Option.map _ (w.heap[x.blk]?) = _
              rw [hw, Option.map_some]
              simp only [onCells]
              rw [show x.base + 0 = pre.length by omega, putCells_mid _ _ _ _ hsorted]
            have h2 : ∀ k, k ≠ x.blk → w1.heap[k]? = w.heap[k]? := by
              intro k hk
              show ((Sort.ahead w n).heap.modify x.blk _)[k]? = _
              rw [Array.getElem?_modify, if_neg (fun e => hk e.symm)]
              rfl
            have hsz : w1.heap.size = w.heap.size := by show ((Sort.ahead w n).heap.modify x.blk _).size = _; rw [Array.size_modify]; rfl
            have h3 : ∀ k, k < w1.heap.size → w'.heap[k]? = w1.heap[k]? := by
              intro k hk
              rw [hw']
              show (w1.heap ++ os)[k]? = _
              rw [Array.getElem?_append_left hk]
            have hrel : HRel η (H.upd b (.cells ((ss.mergeSort fun x y => decide (x ≤ y)).map strC) e fam) 0) w1 := by
              refine hH.upd hget hx h2 ⟨_, _, fr, hw, h1, ?_, ?_⟩ ⟨pre, _, rest, fr, strC_vals η _, h1, hpre, ?_, hfam, ?_⟩
              · simp only [List.length_append, List.length_map]; omega
              · rw [Nat.add_zero, ← hpre, List.append_assoc, List.append_assoc, List.take_left' rfl, List.take_left' rfl]
              · simp only [List.length_append, List.length_map] at hlen2 ⊢; omega
              · have : (pre ++ (ss.mergeSort fun x y => decide (x ≤ y)).map encStr ++ rest).length = (pre ++ l ++ rest).length := by simp only [List.length_append, List.length_map]; omega
                rw [this]; exact hth
            refine ⟨η, .tuple #[], he, rfl, hrel.grown h3, ⟨?_, ?_, ?_, ?_, ?_, η.le_refl, fun b x h1 h2 => by rw [h1] at h2; cases h2⟩⟩
            · rw [hw']; rfl
            · rw [hw']; rfl
            · rw [hw']; rfl
            · rw [hw']
              show w.heap.size ≤ (w1.heap ++ os).size
              rw [Array.size_append, hsz]; exact Nat.le_add_right _ _
            · intro k hk hno
              rw [h3 k (by rw [hsz]; exact hk), h2 k (fun e => hno b _ x ⟨hget, rfl⟩ hx e.symm)]
        · cases h
      · cases h
    · cases h
  · cases h

theorem sortC_hok (f0 : Nat) : CallHok (sortC f0) := by
  intro f args H r H' h
  unfold sortC at h
  split at h
  · split at h
    · rename_i hget
      split at h
      · split at h
        · simp only [Option.some.injEq, Prod.mk.injEq] at h; rw [← h.2]; exact Hok.upd hget
        · cases h
      · cases h
    · cases h
  · cases h
end Go.K
