/- cycle: the search for the next arc. cycle: IndexFunc over a unit's arcs. Lists of numbers that grow by appending. -/
import Derived.Test.YtmnhkbhdfkebmaaGreatDoorZ8
import Derived.Test.YtmnhkbhdfkebmaaGreatDoorK12

set_option linter.unusedSimpArgs false
set_option linter.unusedVariables false

namespace Go.Z
open Go.K Go.Proofs
set_option linter.unusedSimpArgs false
set_option linter.unusedVariables false
set_option maxRecDepth 10000

variable {X : CallFn}

/-- Whether an arc leads on. -/
def leads (os : List Int) (ix at' : Nat) (a : Nat × Nat × Nat) : Bool := decide (ix < a.1 ∧ os.getD a.2.2 0 = os.getD at' 0 - 1)

theorem clos_ok (hX : ∀ a H, X 31 a H = none) {H : Heap} {ba bs bt bo n ix lo up at' : Nat} {os : List Int} {a : Nat × Nat × Nat} (hba : H.get ba = some (.cells [.int .i64 ix, .int .i64 lo, .int .i64 up] 79 none)) (hbs : H.get bs = some (.cells [.slice bo 0 n (.exact n)] 26 none))
    (hbt : H.get bt = some (.cells [.int .i64 (at' : Nat)] 3 none)) (hbo : H.get bo = some (.cells (os.map (CV.int .i64)) 3 none)) (hn : os.length = n) (hup : a.2.2 < n) (hat : at' < n) (hob : ∀ x ∈ os, -1 ≤ x ∧ x < 1000) (hk : HOk H)
    (l1 : ba < H.next) (l2 : bs < H.next) (l3 : bt < H.next) (l4 : bo < H.next) :
    ∃ H', calls Tryz.prog X 31 [arcCV a, .ptr ba 0, .ptr bs 0, .ptr bt 0] H = some (.bool (leads os ix at' a), H') ∧ HOk H' ∧ Ext H.next H H' := by
  generalize hH1 : (H.skip 1).put H.next (.cells [.int .i64 a.1, .int .i64 a.2.1, .int .i64 a.2.2] 79 none) = H1
  have x1 : Ext H.next H H1 := by rw [← hH1]; exact Ext.skip.trans (Ext.put (Nat.le_refl _))
  have k1 : HOk H1 := by rw [← hH1]; exact Hok.put rfl (Hok.skip 1 hk)
  have hg : H1.get H.next = some (.cells [.int .i64 a.1, .int .i64 a.2.1, .int .i64 a.2.2] 79 none) := by rw [← hH1, Heap.get_put, if_pos rfl]
  have gba := x1.2 _ _ l1 hba
  have gbs := x1.2 _ _ l2 hbs
  have gbt := x1.2 _ _ l3 hbt
  have gbo := x1.2 _ _ l4 hbo
  have hU : os[a.2.2]? = some (os.getD a.2.2 0) := by rw [List.getD_eq_getElem?_getD, List.getElem?_eq_getElem (by omega)]; rfl
  have hT : os[at']? = some (os.getD at' 0) := by rw [List.getD_eq_getElem?_getD, List.getElem?_eq_getElem (by omega)]; rfl
  have bU := hob _ (List.mem_of_getElem? hU)
  have bT := hob _ (List.mem_of_getElem? hT)
  have cU : (os.map (CV.int .i64))[a.2.2]? = some (.int .i64 (os.getD a.2.2 0)) := by rw [List.getElem?_map, hU]; rfl
  have cT : (os.map (CV.int .i64))[at']? = some (.int .i64 (os.getD at' 0)) := by rw [List.getElem?_map, hT]; rfl
  have hw : wrap .i64 (os.getD at' 0 - 1) = os.getD at' 0 - 1 := wrap64 (by omega) (by omega)
  have eb : (false == true) = false := rfl
  have ec : (true == false) = false := rfl
  generalize he0 : envOf [arcCV a, CV.ptr ba 0, .ptr bs 0, .ptr bt 0] 0 .nil = e0
  have e00 : e0.get 0 = some (arcCV a) := by rw [← he0]; simp [envOf, Tr.get_set]
  have e01 : e0.get 1 = some (.ptr ba 0) := by rw [← he0]; simp [envOf, Tr.get_set]
  have e02 : e0.get 2 = some (.ptr bs 0) := by rw [← he0]; simp [envOf, Tr.get_set]
  have e03 : e0.get 3 = some (.ptr bt 0) := by rw [← he0]; simp [envOf, Tr.get_set]
  have hcode : codeOf Tryz.f31 = .seq (sub (codeOf Tryz.f31) [false]) (.seq (sub (codeOf Tryz.f31) [true,false]) .ret) := rfl
  have g0 : ∃ e, go Tryz.prog X 24 (sub (codeOf Tryz.f31) [false]) e0 H = some (.normal, e, H1) ∧ e.get 4 = some (.ptr H.next 0) ∧ ∀ t, t < 4 → e.get t = e0.get t := by
    simp only [codeOf, Tryz.f31, sub, go_seq, go_region, opsSeq_step, opsSeq_guard, guardStep_true, guardStep_false, guardVal, opsSeq_nil, afterStep_some, afterStep_none, stepC, kindOf, quietC, evC, Nat.reduceLT, Tr.get_set, if_true, if_false, Nat.reduceEqDiff, Option.map_some, Option.bind_some, List.getElem?_toArray, List.getElem?_cons_zero, List.getElem?_cons_succ, ofVal, decide_true, decide_false, BEq.rfl, andThen_normal, andThen_exit, andThen_ret, inBlock_normal, inBlock_ret, go_skip, go_exit, go_ret, loudStep, isCall, loudC, targetC, evs, evParts, mapO, List.nil_append, List.append_nil, List.cons_append, loadC, Heap.skip_get, Heap.get_put, Heap.skip_next, Heap.put_next, e00, arcCV, allocC, CV.cells, s79, hH1]
    refine ⟨_, rfl, by simp only [Tr.get_set, Nat.reduceEqDiff, if_false, if_true], fun t ht => ?_⟩
    simp only [Tr.get_set, show t ≠ 4 by omega, show t ≠ 5 by omega, if_false]
  obtain ⟨e1, g0, a4, aq⟩ := g0
  have b1 := (aq 1 (by omega)).trans e01
  have b2 := (aq 2 (by omega)).trans e02
  have b3 := (aq 3 (by omega)).trans e03
  have g1 : ∃ e, go Tryz.prog X 24 (sub (codeOf Tryz.f31) [true,false]) e1 H1 = some (.normal, e, H1.skip 19) ∧ e.get 5 = some (.bool (leads os ix at' a)) := by
    simp only [codeOf, Tryz.f31, sub]
    rw [go_planned [(0,0,[4],false),(1,0,[6],false),(2,0,[1],false),(3,0,[8],false),(4,0,[7,9],false),(5,0,[10],false),(6,0,[2,11],false),(7,0,[4,11],false),(8,0,[13,11],false),(9,0,[12,14,11],false),(10,0,[15,11],false),(11,0,[2,11],false),(12,0,[3,11],false),(13,0,[17,18,11],false),(14,0,[19,11],false),(15,0,[20,11],false),(16,0,[16,21,11],false),(17,0,[11,22],false),(18,0,[23],false)] rfl (by kernel_rfl)]
    by_cases c1 : ix < a.1
    · have c1' : (ix : Int) < (a.1 : Int) := by omega
      simp only [drawStep_guard, guardDS_true, guardDS_false, guardVal, BEq.rfl, planRun_cons, planRun_nil, planStep, planEnd, List.getElem?_cons_zero, List.getElem?_cons_succ, drawStep_eq, kindOf, quietAt, quietC, evR, evC, memN, beq_dec, Nat.reduceEqDiff, decide_true, decide_false, setDS_some, loudDS_some, loudDS_none, allocDS_some, Nat.reduceLT, Tr.get_set, if_true, if_false, Option.map_some, Option.bind_some, List.length_cons, List.length_nil, sameAt, Nat.reduceAdd, Nat.reduceSub, ofVal, loadC, Heap.skip_get, Heap.get_put, loudStep, isCall, targetC, evs, evParts, mapO, List.cons_append, List.nil_append, List.append_nil, putAll, ne_eq, reduceCtorEq, not_false_eq_true, Int.reduceEq, eq_self, cbeq_int, cbeq_ptr, cbeq_str, cbeq_bool, cbeq_map, cbeq_slice, cbeq_nilSlice, Bool.and_self, Bool.and_true, Int.reduceNeg, List.append_eq, loudC, List.getElem?_toArray, a4, b1, b2, b3, fa79_0, fa79_2, g3, g26, hg, gba, gbs, gbt, gbo, Nat.zero_add, idx26 hup, idx26 hat, cU, cT, bin_gtr, bin_sub, bin_eql, hw, c1', eb, ec]
      refine ⟨_, rfl, ?_⟩
      simp only [Tr.get_set, if_true, leads, c1, true_and]
    · have c1' : ¬ ((ix : Int) < (a.1 : Int)) := by omega
      simp only [drawStep_guard, guardDS_true, guardDS_false, guardVal, BEq.rfl, planRun_cons, planRun_nil, planStep, planEnd, List.getElem?_cons_zero, List.getElem?_cons_succ, drawStep_eq, kindOf, quietAt, quietC, evR, evC, memN, beq_dec, Nat.reduceEqDiff, decide_true, decide_false, setDS_some, loudDS_some, loudDS_none, allocDS_some, Nat.reduceLT, Tr.get_set, if_true, if_false, Option.map_some, Option.bind_some, List.length_cons, List.length_nil, sameAt, Nat.reduceAdd, Nat.reduceSub, ofVal, loadC, Heap.skip_get, Heap.get_put, loudStep, isCall, targetC, evs, evParts, mapO, List.cons_append, List.nil_append, List.append_nil, putAll, ne_eq, reduceCtorEq, not_false_eq_true, Int.reduceEq, eq_self, cbeq_int, cbeq_ptr, cbeq_str, cbeq_bool, cbeq_map, cbeq_slice, cbeq_nilSlice, Bool.and_self, Bool.and_true, Int.reduceNeg, List.append_eq, loudC, List.getElem?_toArray, a4, b1, b2, b3, fa79_0, fa79_2, g3, g26, hg, gba, gbs, gbt, gbo, Nat.zero_add, idx26 hup, idx26 hat, cU, cT, bin_gtr, bin_sub, bin_eql, hw, c1', eb, ec]
      refine ⟨_, rfl, ?_⟩
      simp only [Tr.get_set, if_true, leads, c1, false_and, decide_false]
  obtain ⟨e2, g1, c5⟩ := g1
  refine ⟨H1.skip 19, calls_ret (hX _ _) Tryz.func31 rfl (by decide) (nt := 24) rfl (env' := e2) ?_ (results_one c5), Hok.skip 19 k1, x1.trans Ext.skip⟩
  rw [he0, hcode, go_seq, g0, andThen_normal, go_seq, g1, andThen_normal, go_ret]
end Go.Z

namespace Go.Z
open Go.K Go.Proofs
set_option linter.unusedSimpArgs false
set_option linter.unusedVariables false
set_option maxRecDepth 10000

variable {X : CallFn}

theorem find_ok (hX : ∀ a H, X 31 a H = none) (hX30 : ∀ a H, X 30 a H = none) {H : Heap} {ba bs bt bo n ix lo up at' : Nat} {os : List Int} {v : CV} {l : Arcs} (hba : H.get ba = some (.cells [.int .i64 ix, .int .i64 lo, .int .i64 up] 79 none)) (hbs : H.get bs = some (.cells [.slice bo 0 n (.exact n)] 26 none))
    (hbt : H.get bt = some (.cells [.int .i64 (at' : Nat)] 3 none)) (hbo : H.get bo = some (.cells (os.map (CV.int .i64)) 3 none)) (hn : os.length = n) (hup : ∀ a ∈ l, a.2.2 < n) (hat : at' < n) (hob : ∀ x ∈ os, -1 ≤ x ∧ x < 1000) (hk : HOk H)
    (l1 : ba < H.next) (l2 : bs < H.next) (l3 : bt < H.next) (l4 : bo < H.next) (hl : Has H 3 79 v (l.map arcCV)) (hll : l.length < 1000) :
    ∃ r H', calls Tryz.prog X 30 [v, .func (.func 31) [] [.ptr ba 0, .ptr bs 0, .ptr bt 0]] H = some (.int .i64 r, H') ∧ HOk H' ∧ Ext H.next H H' ∧ ((∃ (j : Nat) (h : j < l.length), leads os ix at' l[j] = true ∧ r = (j : Int)) ∨ ∀ a ∈ l, leads os ix at' a = false) := by
  have hcode : codeOf Tryz.f30 = .seq (sub (codeOf Tryz.f30) [false]) (.seq (.seq (sub (codeOf Tryz.f30) [true,false,false]) (.block 0 (sub (codeOf Tryz.f30) [true,false,true,false]))) (.seq (sub (codeOf Tryz.f30) [true,true,false]) .ret)) := rfl
  generalize he0 : envOf [v, CV.func (.func 31) [] [.ptr ba 0, .ptr bs 0, .ptr bt 0]] 0 .nil = e0
  have e00 : e0.get 0 = some v := by rw [← he0]; simp [envOf, Tr.get_set]
  have e01 : e0.get 1 = some (.func (.func 31) [] [.ptr ba 0, .ptr bs 0, .ptr bt 0]) := by rw [← he0]; simp [envOf, Tr.get_set]
  have hlen := hl.len (P := Tryz.prog) u74
  rw [List.length_map] at hlen
  have g0 : ∃ e, go Tryz.prog X 19 (sub (codeOf Tryz.f30) [false]) e0 H = some (.normal, e, H) ∧ e.get 0 = some v ∧ e.get 1 = e0.get 1 := by
    simp only [codeOf, Tryz.f30, sub, go_seq, go_region, opsSeq_step, opsSeq_guard, guardStep_true, guardStep_false, guardVal, opsSeq_nil, afterStep_some, afterStep_none, stepC, kindOf, quietC, evC, Nat.reduceLT, Tr.get_set, if_true, if_false, Nat.reduceEqDiff, Option.map_some, Option.bind_some, List.getElem?_toArray, List.getElem?_cons_zero, List.getElem?_cons_succ, ofVal, decide_true, decide_false, BEq.rfl, andThen_normal, andThen_exit, andThen_ret, inBlock_normal, inBlock_ret, go_skip, go_exit, go_ret, loudStep, isCall, loudC, targetC, evs, evParts, mapO, List.nil_append, List.append_nil, List.cons_append, loadC, Heap.skip_get, Heap.get_put, Heap.skip_next, Heap.put_next]
    exact ⟨_, rfl, by simp only [Tr.get_set, Nat.reduceEqDiff, if_false, e00], by simp only [Tr.get_set, Nat.reduceEqDiff, if_false]⟩
  obtain ⟨e1, g0, a0, a1⟩ := g0
  have g1 : ∃ e, go Tryz.prog X 19 (sub (codeOf Tryz.f30) [true,false,false]) e1 H = some (.normal, e, H) ∧ e.get 0 = some v ∧ e.get 1 = e0.get 1 ∧ e.get 7 = some (.int .i64 (l.length : Nat)) ∧ e.get 8 = some (.int .i64 (0 : Nat)) := by
    simp only [codeOf, Tryz.f30, sub, go_seq, go_region, opsSeq_step, opsSeq_guard, guardStep_true, guardStep_false, guardVal, opsSeq_nil, afterStep_some, afterStep_none, stepC, kindOf, quietC, evC, Nat.reduceLT, Tr.get_set, if_true, if_false, Nat.reduceEqDiff, Option.map_some, Option.bind_some, List.getElem?_toArray, List.getElem?_cons_zero, List.getElem?_cons_succ, ofVal, decide_true, decide_false, BEq.rfl, andThen_normal, andThen_exit, andThen_ret, inBlock_normal, inBlock_ret, go_skip, go_exit, go_ret, loudStep, isCall, loudC, targetC, evs, evParts, mapO, List.nil_append, List.append_nil, List.cons_append, loadC, Heap.skip_get, Heap.get_put, Heap.skip_next, Heap.put_next, a0, hlen]
    exact ⟨_, rfl, by simp only [Tr.get_set, Nat.reduceEqDiff, if_false, a0], by simp only [Tr.get_set, Nat.reduceEqDiff, if_false, a1], by simp only [Tr.get_set, Nat.reduceEqDiff, if_false, if_true], by simp only [Tr.get_set, if_true]; rfl⟩
  obtain ⟨e2, g1, b0, b1, b7, b8⟩ := g1
  rw [e01] at b1
  have hL := range_loop (P := Tryz.prog) (X := X) (nt := 19) (code := sub (codeOf Tryz.f30) [true,false,true,false]) (hd := sub (codeOf Tryz.f30) [true,false,true,false,false,false]) (body := sub (codeOf Tryz.f30) [true,false,true,false,false,true,true,false,false]) (inc := sub (codeOf Tryz.f30) [true,false,true,false,false,true,true,true]) (ti := 8) (tn := 7) (tc := 9) (tx := 18) (e := 0) (b := 1) rfl (by omega)
    (fun env H i n h1 h2 => by simp only [codeOf, Tryz.f30, sub, go_seq, go_region, opsSeq_step, opsSeq_guard, guardStep_true, guardStep_false, guardVal, opsSeq_nil, afterStep_some, afterStep_none, stepC, kindOf, quietC, evC, Nat.reduceLT, Tr.get_set, if_true, if_false, Nat.reduceEqDiff, Option.map_some, Option.bind_some, List.getElem?_toArray, List.getElem?_cons_zero, List.getElem?_cons_succ, ofVal, decide_true, decide_false, BEq.rfl, andThen_normal, andThen_exit, andThen_ret, inBlock_normal, inBlock_ret, go_skip, go_exit, go_ret, loudStep, isCall, loudC, targetC, evs, evParts, mapO, List.nil_append, List.append_nil, List.cons_append, loadC, Heap.skip_get, Heap.get_put, Heap.skip_next, Heap.put_next, h1, h2, bin_lss]) (fun env H i h1 hw => by simp only [codeOf, Tryz.f30, sub, go_seq, go_region, opsSeq_step, opsSeq_guard, guardStep_true, guardStep_false, guardVal, opsSeq_nil, afterStep_some, afterStep_none, stepC, kindOf, quietC, evC, Nat.reduceLT, Tr.get_set, if_true, if_false, Nat.reduceEqDiff, Option.map_some, Option.bind_some, List.getElem?_toArray, List.getElem?_cons_zero, List.getElem?_cons_succ, ofVal, decide_true, decide_false, BEq.rfl, andThen_normal, andThen_exit, andThen_ret, inBlock_normal, inBlock_ret, go_skip, go_exit, go_ret, loudStep, isCall, loudC, targetC, evs, evParts, mapO, List.nil_append, List.append_nil, List.cons_append, loadC, Heap.skip_get, Heap.get_put, Heap.skip_next, Heap.put_next, h1, bin_add, hw]) (by omega) (n := l.length) (by omega)
    (fun i env H' => env.get 0 = some v ∧ env.get 1 = some (.func (.func 31) [] [.ptr ba 0, .ptr bs 0, .ptr bt 0]) ∧ (∀ a ∈ l.take i, leads os ix at' a = false) ∧ HOk H' ∧ Ext H.next H H')
    (fun env H' => ∃ (j : Nat) (h : j < l.length), leads os ix at' l[j] = true ∧ env.get 4 = some (.int .i64 (j : Nat)) ∧ HOk H' ∧ Ext H.next H H')
    (fun i env H' t v ht ⟨a0, a1, r⟩ => ⟨by rcases ht with rfl | rfl | rfl <;> simp only [Tr.get_set, Nat.reduceEqDiff, if_false, a0], by rcases ht with rfl | rfl | rfl <;> simp only [Tr.get_set, Nat.reduceEqDiff, if_false, a1], r⟩)
    (fun i env H1 hi ⟨a0, a1, al, aok, ax⟩ h1 h2 => by
      have hl1 := hl.ext ax hl.lt
      obtain ⟨b, off, cs, fam, hb, _, hidx, hget, hcells, hcell⟩ := hl1.at (P := Tryz.prog) (t := 74) u74 s79 (i := i) (by simpa using hi)
      rw [List.getElem_map] at hcells
      have hcl : takeE 3 (cs.drop off) = some [.int .i64 l[i].1, .int .i64 l[i].2.1, .int .i64 l[i].2.2] := hcells
      have hcode' : sub (codeOf Tryz.f30) [true,false,true,false,false,true,true,false,false] = .seq (sub (codeOf Tryz.f30) [true,false,true,false,false,true,true,false,false,false]) (.seq (sub (codeOf Tryz.f30) [true,false,true,false,false,true,true,false,false,true,false]) (.cond (.tmp 16) (.seq (sub (codeOf Tryz.f30) [true,false,true,false,false,true,true,false,false,true,true,false,false]) .ret) .skip)) := rfl
      have lx := ax.1
      obtain ⟨H2, c1, k2, x2⟩ := clos_ok (X := X) (a := l[i]) hX (ax.2 _ _ l1 hba) (ax.2 _ _ l2 hbs) (ax.2 _ _ l3 hbt) (ax.2 _ _ l4 hbo) hn (hup _ (List.getElem_mem _)) hat hob aok (by omega) (by omega) (by omega) (by omega)
      have gl : go Tryz.prog X 19 (sub (codeOf Tryz.f30) [true,false,true,false,false,true,true,false,false,false]) env H1 = some (.normal, (env.set 10 (.int .i64 i)).set 5 (.int .i64 i), H1) := by
        simp only [codeOf, Tryz.f30, sub, go_seq, go_region, opsSeq_step, opsSeq_guard, guardStep_true, guardStep_false, guardVal, opsSeq_nil, afterStep_some, afterStep_none, stepC, kindOf, quietC, evC, Nat.reduceLT, Tr.get_set, if_true, if_false, Nat.reduceEqDiff, Option.map_some, Option.bind_some, List.getElem?_toArray, List.getElem?_cons_zero, List.getElem?_cons_succ, ofVal, decide_true, decide_false, BEq.rfl, andThen_normal, andThen_exit, andThen_ret, inBlock_normal, inBlock_ret, go_skip, go_exit, go_ret, loudStep, isCall, loudC, targetC, evs, evParts, mapO, List.nil_append, List.append_nil, List.cons_append, loadC, Heap.skip_get, Heap.get_put, Heap.skip_next, Heap.put_next, h1]
      have gr : ∃ e, go Tryz.prog X 19 (sub (codeOf Tryz.f30) [true,false,true,false,false,true,true,false,false,true,false]) ((env.set 10 (.int .i64 i)).set 5 (.int .i64 i)) H1 = some (.normal, e, H2) ∧ e.get 16 = some (.bool (leads os ix at' l[i])) ∧ e.get 5 = some (.int .i64 i) ∧ ∀ t, t < 10 → t ≠ 5 → e.get t = env.get t := by
        have c1' : calls Tryz.prog X 31 [.agg [.int .i64 l[i].1, .int .i64 l[i].2.1, .int .i64 l[i].2.2], .ptr ba 0, .ptr bs 0, .ptr bt 0] H1 = some (.bool (leads os ix at' l[i]), H2) := c1
        simp only [codeOf, Tryz.f30, sub, go_seq, go_region, opsSeq_step, opsSeq_guard, guardStep_true, guardStep_false, guardVal, opsSeq_nil, afterStep_some, afterStep_none, stepC, kindOf, quietC, evC, Nat.reduceLT, Tr.get_set, if_true, if_false, Nat.reduceEqDiff, Option.map_some, Option.bind_some, List.getElem?_toArray, List.getElem?_cons_zero, List.getElem?_cons_succ, ofVal, decide_true, decide_false, BEq.rfl, andThen_normal, andThen_exit, andThen_ret, inBlock_normal, inBlock_ret, go_skip, go_exit, go_ret, loudStep, isCall, loudC, targetC, evs, evParts, mapO, List.nil_append, List.append_nil, List.cons_append, loadC, Heap.skip_get, Heap.get_put, Heap.skip_next, Heap.put_next, a0, a1, hidx, hget, hcl, s79, g79, List.length_cons, List.length_nil, Nat.reduceAdd, c1']
        refine ⟨_, rfl, by simp only [Tr.get_set, if_true], by simp only [Tr.get_set, Nat.reduceEqDiff, if_true, if_false], fun t ht h5 => ?_⟩
        simp only [Tr.get_set, show t ≠ 10 by omega, show t ≠ 11 by omega, show t ≠ 12 by omega, show t ≠ 13 by omega, show t ≠ 14 by omega, show t ≠ 15 by omega, show t ≠ 16 by omega, h5, if_false]
      obtain ⟨e, gr, r16, r5, rq⟩ := gr
      cases hv : leads os ix at' l[i] with
      | true =>
        right
        rw [hv] at r16
        have gt : go Tryz.prog X 19 (.seq (sub (codeOf Tryz.f30) [true,false,true,false,false,true,true,false,false,true,true,false,false]) .ret) e H2 = some (.ret, (e.set 17 (.int .i64 i)).set 4 (.int .i64 i), H2) := by
          simp only [codeOf, Tryz.f30, sub, go_seq, go_region, opsSeq_step, opsSeq_guard, guardStep_true, guardStep_false, guardVal, opsSeq_nil, afterStep_some, afterStep_none, stepC, kindOf, quietC, evC, Nat.reduceLT, Tr.get_set, if_true, if_false, Nat.reduceEqDiff, Option.map_some, Option.bind_some, List.getElem?_toArray, List.getElem?_cons_zero, List.getElem?_cons_succ, ofVal, decide_true, decide_false, BEq.rfl, andThen_normal, andThen_exit, andThen_ret, inBlock_normal, inBlock_ret, go_skip, go_exit, go_ret, loudStep, isCall, loudC, targetC, evs, evParts, mapO, List.nil_append, List.append_nil, List.cons_append, loadC, Heap.skip_get, Heap.get_put, Heap.skip_next, Heap.put_next, r5]
        refine ⟨(e.set 17 (.int .i64 i)).set 4 (.int .i64 i), H2, ?_, i, hi, hv, by simp only [Tr.get_set, if_true], k2, ax.trans (x2.le lx)⟩
        rw [hcode', go_seq, gl, andThen_normal, go_seq, gr, andThen_normal, go_cond _ _ _ (v := true) (by simp only [evC, r16]), if_pos rfl, gt]
      | false =>
        left
        rw [hv] at r16
        refine ⟨.normal, e, H2, ?_, .inl rfl, ⟨(rq 0 (by omega) (by omega)).trans a0, (rq 1 (by omega) (by omega)).trans a1, ?_, k2, ax.trans (x2.le lx)⟩, (rq 8 (by omega) (by omega)).trans h1, (rq 7 (by omega) (by omega)).trans h2⟩
        · rw [hcode', go_seq, gl, andThen_normal, go_seq, gr, andThen_normal, go_cond _ _ _ (v := false) (by simp only [evC, r16]), if_neg (by simp), go_skip]
        · intro a ha
          rw [List.take_succ_eq_append_getElem hi] at ha
          rcases List.mem_append.1 ha with ha | ha
          · exact al a ha
          · rw [List.mem_singleton.1 ha]; exact hv)
  have hend : ∀ (c : CV) (e : Env) (H' : Heap), go Tryz.prog X 19 (.block 0 (sub (codeOf Tryz.f30) [true,false,true,false])) e2 H = some (.ret, e, H') → e.get 4 = some c → calls Tryz.prog X 30 [v, .func (.func 31) [] [.ptr ba 0, .ptr bs 0, .ptr bt 0]] H = some (c, H') := by
    intro c e H' h4 hc
    refine calls_ret (hX30 _ _) Tryz.func30 rfl (by decide) (nt := 19) rfl (env' := e) ?_ (results_one hc)
    rw [he0, hcode, go_seq, g0, andThen_normal, go_seq, go_seq, g1, andThen_normal, h4, andThen_ret]
  rcases hL l.length 0 e2 H (by omega) ⟨b0, b1, fun a ha => by simp at ha, hk, Ext.refl _ _⟩ b8 b7 with ⟨e, H', g, c0, c1, cl, ck, cx⟩ | ⟨e, H', g, j, hj, hv, c4, ck, cx⟩
  · rw [List.take_length] at cl
    refine ⟨-1, H', ?_, ck, cx, .inr cl⟩
    have gz : go Tryz.prog X 19 (.seq (sub (codeOf Tryz.f30) [true,true,false]) .ret) e H' = some (.ret, e.set 4 (.int .i64 (-1)), H') := by
      simp only [codeOf, Tryz.f30, sub, go_seq, go_region, opsSeq_step, opsSeq_guard, guardStep_true, guardStep_false, guardVal, opsSeq_nil, afterStep_some, afterStep_none, stepC, kindOf, quietC, evC, Nat.reduceLT, Tr.get_set, if_true, if_false, Nat.reduceEqDiff, Option.map_some, Option.bind_some, List.getElem?_toArray, List.getElem?_cons_zero, List.getElem?_cons_succ, ofVal, decide_true, decide_false, BEq.rfl, andThen_normal, andThen_exit, andThen_ret, inBlock_normal, inBlock_ret, go_skip, go_exit, go_ret, loudStep, isCall, loudC, targetC, evs, evParts, mapO, List.nil_append, List.append_nil, List.cons_append, loadC, Heap.skip_get, Heap.get_put, Heap.skip_next, Heap.put_next]
    refine calls_ret (hX30 _ _) Tryz.func30 rfl (by decide) (nt := 19) rfl (env' := e.set 4 (.int .i64 (-1))) ?_ (results_one (by simp only [Tr.get_set, if_true]))
    rw [he0, hcode, go_seq, g0, andThen_normal, go_seq, go_seq, g1, andThen_normal, go_block, g, inBlock_exit, if_pos rfl, andThen_normal, gz]
  · exact ⟨(j : Int), H', hend _ e H' (by rw [go_block, g, inBlock_ret]) c4, ck, cx, .inl ⟨j, hj, hv, rfl⟩⟩
end Go.Z

namespace Go.Z
open Go.K Go.Proofs
set_option linter.unusedSimpArgs false
set_option linter.unusedVariables false
set_option maxRecDepth 10000

variable {X : CallFn}

/-- All stays but what is of a new family. -/
def Keep (n1 : Nat) (H H' : Heap) : Prop := H.next ≤ H'.next ∧ ∀ b o, b < H.next → H.get b = some o → (∀ g p, o.fam = some (g, p) → g < n1) → H'.get b = some o
theorem Keep.refl (n1 : Nat) (H : Heap) : Keep n1 H H := ⟨Nat.le_refl _, fun _ _ _ h _ => h⟩
theorem Keep.trans {n1 : Nat} {a b c : Heap} (h : Keep n1 a b) (k : Keep n1 b c) : Keep n1 a c := ⟨Nat.le_trans h.1 k.1, fun x o hx ho hf => k.2 x o (Nat.lt_of_lt_of_le hx h.1) (h.2 x o hx ho hf) hf⟩
theorem _root_.Go.K.Ext.keep {n1 : Nat} {H H' : Heap} (h : Ext H.next H H') : Keep n1 H H' := ⟨h.1, fun b o hb ho _ => h.2 b o hb ho⟩
theorem Keep.ext {n1 : Nat} {H H' : Heap} (h : Keep n1 H H') (hk : HOk H) (hn : n1 ≤ H.next) : Ext n1 H H' :=
  ⟨h.1, fun b o hb ho => h.2 b o (by omega) ho fun g p hg => by have := (hk.fam b o g p ho hg).1; omega⟩

/-- A list of numbers that is made here. -/
def Made (n1 : Nat) (H : Heap) (v : CV) (vs : List CV) : Prop :=
  Has H 1 3 v vs ∧ ((∃ b, v = .slice b 0 vs.length (.exact vs.length)) ∨ v = .nilSlice ∨ ∃ f, Own H f 1 3 v vs ∧ n1 ≤ f)

/-- The same, once something was appended. -/
def Grown (n1 : Nat) (H : Heap) (v : CV) (vs : List CV) : Prop := ∃ f, Own H f 1 3 v vs ∧ n1 ≤ f
theorem Grown.made {n1 : Nat} {H : Heap} {v : CV} {vs : List CV} (h : Grown n1 H v vs) : Made n1 H v vs := by
  obtain ⟨f, h, hf⟩ := h
  exact ⟨h.has, .inr (.inr ⟨f, h, hf⟩)⟩
theorem Grown.put {n1 : Nat} {H : Heap} {v : CV} {vs cs : List CV} {b e : Nat} {o : CObj} (h : Grown n1 H v vs) (hb : H.get b = some (.cells cs e none)) : Grown n1 (H.put b o) v vs := by
  obtain ⟨f, ⟨h1, h2⟩, hf⟩ := h
  refine ⟨f, ⟨h1, ?_⟩, hf⟩
  rcases h2 with h2 | ⟨b', p, e1, e2, e3, e4, e5⟩
  · exact .inl h2
  · refine .inr ⟨b', p, e1, e2, e3, e4, ?_⟩
    rw [Heap.get_put, if_neg]
    · exact e5
    · rintro rfl; rw [hb] at e5; simp at e5
theorem Grown.skip {n1 : Nat} {H : Heap} {v : CV} {vs : List CV} (n : Nat) (h : Grown n1 H v vs) : Grown n1 (H.skip n) v vs := by
  obtain ⟨f, h, hf⟩ := h
  exact ⟨f, h.ext (n := H.next) Ext.skip h.lt, hf⟩

theorem made_append {n1 : Nat} {H : Heap} {v : CV} {vs : List CV} {b : Nat} {x : Int} (h : Made n1 H v vs) (hk : HOk H) (hn : n1 ≤ H.next) (hb : b < H.next) (hg : H.get b = some (.cells [.int .i64 x] 3 none)) (hl : vs.length < 1000) :
    ∃ v' H', appendC Tryz.prog 26 26 H v (.slice b 0 1 (.exact 1)) = some (v', H') ∧ Grown n1 H' v' (vs ++ [.int .i64 x]) ∧ HOk H' ∧ Keep n1 H H' := by
  have hone : Has H 1 3 (.slice b 0 1 (.exact 1)) [.int .i64 x] := by
    refine ⟨by simp [CV.cells], .inr ⟨b, 0, .exact 1, [.int .i64 x], none, rfl, fun _ _ e => (by cases e), hb, hg, by simp, by simp [CV.cells]⟩⟩
  have he := hone.elems
  obtain ⟨i, i1, i2, i3⟩ := i3
  have hr : 2 * (vs.length + [CV.int .i64 x].length) * i.bytes ≤ 140737488355328 := by rw [i3]; simp only [List.length_singleton]; omega
  have hr' : vs.length + [CV.int .i64 x].length ≤ 140737488355328 := by simp only [List.length_singleton]; omega
  have own : ∀ f, Own H f 1 3 v vs → (v ≠ .nilSlice → n1 ≤ f) → ∃ v' H', appendC Tryz.prog 26 26 H v (.slice b 0 1 (.exact 1)) = some (v', H') ∧ Grown n1 H' v' (vs ++ [.int .i64 x]) ∧ HOk H' ∧ Keep n1 H H' := by
    intro f ho hf
    obtain ⟨v', H', f', h1, h2, h3, h4, h5, h6, h7⟩ := Own.append (P := Tryz.prog) (t0 := 26) (t1 := 26) (ys := [.int .i64 x]) (d := .slice 3) (z := [.int .i64 0]) ho hk he (by simp [CV.cells]) (by simp) u26 u26 (by intro k e; cases e) i1 i2 (by omega) z3 rfl (by rfl) hr hr'
    refine ⟨v', H', h1, ⟨f', h4, ?_⟩, h5, by omega, fun b' o hb' ho' hg' => h7 b' o hb' ho' fun hv g p e => ?_⟩
    · by_cases hv : v = .nilSlice
      · rw [h2 hv]; exact hn
      · rw [h3 hv]; exact hf hv
    · have := hg' g p e
      have := hf hv
      omega
  rcases h with ⟨h0, ⟨b', rfl⟩ | rfl | ⟨f, ho, hf⟩⟩
  · obtain ⟨v', H', h1, h2, h3, h4, h5, h6⟩ := append_exact (P := Tryz.prog) (t0 := 26) (t1 := 26) (ys := [.int .i64 x]) (d := .slice 3) (z := [.int .i64 0]) h0 hk he (by simp [CV.cells]) (by simp) u26 u26 (by intro k e; cases e) i1 i2 (by omega) z3 rfl (by rfl) hr hr'
    exact ⟨v', H', h1, ⟨_, h3, hn⟩, h4, h6.keep⟩
  · refine own 0 ⟨h0.1, ?_⟩ (fun h => absurd rfl h)
    rcases h0.2 with h | ⟨_, _, _, _, _, e, _⟩
    · exact .inl h
    · cases e
  · exact own f ho (fun _ => hf)
theorem Made.keep {n1 n2 : Nat} {H H' : Heap} {v : CV} {vs : List CV} (h : Made n1 H v vs) (hx : Ext H.next H H') : Made n1 H' v vs := by
  refine ⟨h.1.ext hx h.1.lt, ?_⟩
  rcases h.2 with h' | h' | ⟨f, h', hf⟩
  · exact .inl h'
  · exact .inr (.inl h')
  · exact .inr (.inr ⟨f, h'.ext hx h'.lt, hf⟩)
end Go.Z
