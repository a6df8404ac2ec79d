/- cycle: one step along the cycle. cycle: along the cycle. cycle: one arc of its second loop. -/
import Derived.Test.YtmnhkbhdfkebmaaGreatDoorZ9

set_option linter.unusedSimpArgs false
set_option linter.unusedVariables false

namespace Go.Z
open Go.K Go.Proofs
set_option linter.unusedSimpArgs false
set_option linter.unusedVariables false
set_option maxRecDepth 10000

variable {X : CallFn}

structure Ring (H : Heap) (ba bs bo ix lo up n : Nat) (os : List Int) : Prop where
  a : H.get ba = some (.cells [.int .i64 ix, .int .i64 lo, .int .i64 up] 79 none)
  s : H.get bs = some (.cells [.slice bo 0 n (.exact n)] 26 none)
  o : H.get bo = some (.cells (os.map (CV.int .i64)) 3 none)
  la : ba < H.next
  ls : bs < H.next
  lo' : bo < H.next
theorem Ring.ext {H H' : Heap} {ba bs bo ix lo up n : Nat} {os : List Int} (h : Ring H ba bs bo ix lo up n os) (hx : Ext H.next H H') : Ring H' ba bs bo ix lo up n os :=
  ⟨hx.2 _ _ h.la h.a, hx.2 _ _ h.ls h.s, hx.2 _ _ h.lo' h.o, Nat.lt_of_lt_of_le h.la hx.1, Nat.lt_of_lt_of_le h.ls hx.1, Nat.lt_of_lt_of_le h.lo' hx.1⟩

theorem cyc_r17 (hX31 : ∀ a H, X 31 a H = none) (hX30 : ∀ a H, X 30 a H = none) {env : Env} {H : Heap} {bg bm bx ba bs bo bt ix lo up at' d : Nat} {nv av : CV} {xs : List CV} {us : List Nat} {arcs : Arcs} {os : List Int} {s : Nat}
    (hg : Gr H bg bm bx nv av xs us arcs) (hr : Ring H ba bs bo ix lo up us.length os) (hk : HOk H) (hd : Dist (ix : Nat) arcs us.length s os) (hob : ∀ x ∈ os, -1 ≤ x ∧ x < 1000) (har : arcs.length < 1000) (hlt : ∀ a ∈ arcs, a.2.1 < us.length ∧ a.2.2 < us.length)
    (hbt : H.get bt = some (.cells [.int .i64 (at' : Nat)] 3 none)) (lbt : bt < H.next) (hat : at' < us.length) (hv : os.getD at' 0 = ((d + 1 : Nat) : Int))
    (h0 : env.get 0 = some (.ptr bg 0)) (h8 : env.get 8 = some (.ptr ba 0)) (h9 : env.get 9 = some (.ptr bs 0)) (h11 : env.get 11 = some (.ptr bt 0)) :
    ∃ (env' : Env) (H' : Heap) (j : Nat) (hj : j < (outOf arcs at').length), go Tryz.prog X 118 (sub (codeOf Tryz.f17) [true,true,true,false,true,false,false,true,true,false,false,true,true,true,true,false,true,false,false,true,false,false,false]) env H = some (.normal, env', H') ∧ env'.get 12 = some (.int .i64 (j : Nat)) ∧ leads os ix at' (outOf arcs at')[j] = true ∧ HOk H' ∧ Ext H.next H H' ∧ ∀ t, t < 60 → t ≠ 12 → env'.get t = env.get t := by
  obtain ⟨vx, hvx⟩ : ∃ v, xs[at']? = some v := ⟨_, List.getElem?_eq_getElem (by rw [hg.len]; exact hat)⟩
  have x0 : Ext H.next H (H.skip 10) := Ext.skip
  have hr0 := hr.ext x0
  have hl0 := (hg.c at' vx hvx).ext x0 (hg.c at' vx hvx).lt
  obtain ⟨r, H', c1, k1, x1, hres⟩ := find_ok (X := X) (at' := at') hX31 hX30 hr0.a hr0.s (x0.2 _ _ lbt hbt) hr0.o hd.len (fun a ha => (hlt a (List.mem_filter.1 ha).1).2) hat hob (Hok.skip 10 hk) hr0.la hr0.ls (Nat.lt_of_lt_of_le lbt x0.1) hr0.lo' hl0 (Nat.lt_of_le_of_lt (outOf_length _ _) har)
  obtain ⟨j, hj, hlead, rfl⟩ : ∃ (j : Nat) (h : j < (outOf arcs at').length), leads os ix at' (outOf arcs at')[j] = true ∧ r = (j : Int) := by
    rcases hres with h | h
    · exact h
    · exfalso
      rcases hd.supp at' hat with e | ⟨_, e⟩ | ⟨b, hb, hbi, hbx, h1, h2⟩
      · omega
      · omega
      · have := h b (List.mem_filter.2 ⟨hb, by simp [hbx]⟩)
        simp only [leads, decide_eq_false_iff_not] at this
        exact this ⟨by omega, by omega⟩
  have key : ∃ env', go Tryz.prog X 118 (sub (codeOf Tryz.f17) [true,true,true,false,true,false,false,true,true,false,false,true,true,true,true,false,true,false,false,true,false,false,false]) env H = some (.normal, env', H') ∧ env'.get 12 = some (.int .i64 (j : Nat)) ∧ ∀ t, t < 60 → t ≠ 12 → env'.get t = env.get t := by
    simp only [codeOf, Tryz.f17, sub]
    rw [go_planned [(0,0,[0],false),(1,0,[81],false),(2,0,[82],false),(3,0,[83],false),(4,0,[11],false),(5,0,[84,85],false),(6,0,[86],false),(7,0,[8,9,11],false),(8,0,[87,88],true),(9,1,[89],false)] rfl (by kernel_rfl)]
    simp only [drawStep_guard, guardDS_true, guardDS_false, guardVal, BEq.rfl, planRun_cons, planRun_nil, planStep, planEnd, List.getElem?_cons_zero, List.getElem?_cons_succ, drawStep_eq, kindOf, quietAt, quietC, evR, evC, memN, beq_dec, Nat.reduceEqDiff, decide_true, decide_false, setDS_some, loudDS_some, loudDS_none, allocDS_some, Nat.reduceLT, Tr.get_set, if_true, if_false, Option.map_some, Option.bind_some, List.length_cons, List.length_nil, sameAt, Nat.reduceAdd, Nat.reduceSub, ofVal, loadC, Heap.skip_get, Heap.get_put, loudStep, isCall, targetC, evs, evParts, mapO, List.cons_append, List.nil_append, List.append_nil, putAll, ne_eq, reduceCtorEq, not_false_eq_true, Int.reduceEq, eq_self, cbeq_int, cbeq_ptr, cbeq_str, cbeq_bool, cbeq_map, cbeq_slice, cbeq_nilSlice, Bool.and_self, Bool.and_true, Int.reduceNeg, List.append_eq, loudC, List.getElem?_toArray, h0, h8, h9, h11, fa77_3, g75, g74, g3, hg.g, hg.x, hbt, hvx, idx75 hat, Nat.zero_add, c1]
    refine ⟨_, rfl, by simp only [Tr.get_set, if_true], fun t ht h12 => ?_⟩
    simp only [Tr.get_set]
    simp only [show t ≠ 81 by omega, show t ≠ 82 by omega, show t ≠ 83 by omega, show t ≠ 84 by omega, show t ≠ 85 by omega, show t ≠ 86 by omega, show t ≠ 87 by omega, show t ≠ 88 by omega, show t ≠ 89 by omega, h12, if_false]
  obtain ⟨env', g, g12, gq⟩ := key
  exact ⟨env', H', j, hj, g, g12, hlead, k1, x0.trans (x1.le x0.1), gq⟩

theorem cyc_r18 {env : Env} {H : Heap} {bg bm bx bt at' j n1 : Nat} {nv av v : CV} {xs : List CV} {us : List Nat} {arcs : Arcs} {vs : List CV} (hg : Gr H bg bm bx nv av xs us arcs) (hk : HOk H) (hbt : H.get bt = some (.cells [.int .i64 (at' : Nat)] 3 none)) (lbt : bt < H.next) (hat : at' < us.length)
    (hj : j < (outOf arcs at').length) (hm : Made n1 H v vs) (hn1 : n1 ≤ H.next) (hvs : vs.length < 1000)
    (h0 : env.get 0 = some (.ptr bg 0)) (h10 : env.get 10 = some v) (h11 : env.get 11 = some (.ptr bt 0)) (h12 : env.get 12 = some (.int .i64 (j : Nat))) :
    ∃ (env' : Env) (H' : Heap) (v' : CV), go Tryz.prog X 118 (sub (codeOf Tryz.f17) [true,true,true,false,true,false,false,true,true,false,false,true,true,true,true,false,true,false,false,true,false,false,true,false]) env H = some (.normal, env', H') ∧ env'.get 10 = some v' ∧ Grown n1 H' v' (vs ++ [.int .i64 ((outOf arcs at')[j].1 : Nat)]) ∧ HOk H' ∧ Keep n1 H H' ∧ ∀ t, t < 60 → t ≠ 10 → env'.get t = env.get t := by
  obtain ⟨vx, hvx⟩ : ∃ v, xs[at']? = some v := ⟨_, List.getElem?_eq_getElem (by rw [hg.len]; exact hat)⟩
  have hl := hg.c at' vx hvx
  obtain ⟨b, off, cs, fam, hb, _, hidx, hget, hcells, hcell⟩ := hl.at (P := Tryz.prog) (t := 74) u74 s79 (i := j) (by simpa using hj)
  rw [List.getElem_map] at hcell
  have hc0 : cs[off]? = some (.int .i64 ((outOf arcs at')[j].1 : Nat)) := hcell 0 _ rfl
  generalize hH1 : (H.skip 15).put (H.next + 12) (.cells [.int .i64 ((outOf arcs at')[j].1 : Nat)] 3 none) = H1
  have x1 : Ext H.next H H1 := by rw [← hH1]; exact Ext.skip.trans (Ext.put (by omega))
  have k1 : HOk H1 := by rw [← hH1]; exact Hok.put rfl (Hok.skip 15 hk)
  have n1' : H1.next = H.next + 15 := by rw [← hH1]; rfl
  obtain ⟨v', H', hap, hm', k', keep⟩ := made_append (n1 := n1) (hm.keep (n2 := n1) x1) k1 (by omega) (b := H.next + 12) (by omega) (x := ((outOf arcs at')[j].1 : Nat)) (by rw [← hH1, Heap.get_put, if_pos rfl]) hvs
  have key : ∃ env', go Tryz.prog X 118 (sub (codeOf Tryz.f17) [true,true,true,false,true,false,false,true,true,false,false,true,true,true,true,false,true,false,false,true,false,false,true,false]) env H = some (.normal, env', H') ∧ env'.get 10 = some v' ∧ ∀ t, t < 60 → t ≠ 10 → env'.get t = env.get t := by
    simp only [codeOf, Tryz.f17, sub]
    rw [go_planned [(0,0,[10],false),(1,0,[0],false),(2,0,[91],false),(3,0,[92],false),(4,0,[93],false),(5,0,[11],false),(6,0,[94,95],false),(7,0,[96],false),(8,0,[12],false),(9,0,[97,98],false),(10,0,[99],false),(11,0,[100],false),(12,0,[101],false),(13,0,[90,102],true),(14,1,[103],false)] rfl (by kernel_rfl)]
    simp only [drawStep_guard, guardDS_true, guardDS_false, guardVal, BEq.rfl, planRun_cons, planRun_nil, planStep, planEnd, List.getElem?_cons_zero, List.getElem?_cons_succ, drawStep_eq, kindOf, quietAt, quietC, evR, evC, memN, beq_dec, Nat.reduceEqDiff, decide_true, decide_false, setDS_some, loudDS_some, loudDS_none, allocDS_some, Nat.reduceLT, Tr.get_set, if_true, if_false, Option.map_some, Option.bind_some, List.length_cons, List.length_nil, sameAt, Nat.reduceAdd, Nat.reduceSub, ofVal, loadC, Heap.skip_get, Heap.get_put, loudStep, isCall, targetC, evs, evParts, mapO, List.cons_append, List.nil_append, List.append_nil, putAll, ne_eq, reduceCtorEq, not_false_eq_true, Int.reduceEq, eq_self, cbeq_int, cbeq_ptr, cbeq_str, cbeq_bool, cbeq_map, cbeq_slice, cbeq_nilSlice, Bool.and_self, Bool.and_true, Int.reduceNeg, List.append_eq, loudC, List.getElem?_toArray, h0, h10, h11, h12, fa77_3, fa79_0, g75, g74, g3, hg.g, hg.x, hbt, hvx, idx75 hat, Nat.zero_add, hidx, hget, hc0, bs26, CV.cells, hH1, hap]
    refine ⟨_, rfl, by simp only [Tr.get_set, if_true], fun t ht h12 => ?_⟩
    simp only [Tr.get_set]
    simp only [show t ≠ 90 by omega, show t ≠ 91 by omega, show t ≠ 92 by omega, show t ≠ 93 by omega, show t ≠ 94 by omega, show t ≠ 95 by omega, show t ≠ 96 by omega, show t ≠ 97 by omega, show t ≠ 98 by omega, show t ≠ 99 by omega, show t ≠ 100 by omega, show t ≠ 101 by omega, show t ≠ 102 by omega, show t ≠ 103 by omega, h12, if_false]
  obtain ⟨env', g, g10, gq⟩ := key
  exact ⟨env', H', v', g, g10, hm', k', x1.keep.trans keep, gq⟩

theorem cyc_r19 {env : Env} {H : Heap} {bg bm bx bt at' j : Nat} {nv av : CV} {xs : List CV} {us : List Nat} {arcs : Arcs} (hg : Gr H bg bm bx nv av xs us arcs) (hbt : H.get bt = some (.cells [.int .i64 (at' : Nat)] 3 none)) (lbt : bt < H.next) (hat : at' < us.length)
    (hj : j < (outOf arcs at').length) (h0 : env.get 0 = some (.ptr bg 0)) (h11 : env.get 11 = some (.ptr bt 0)) (h12 : env.get 12 = some (.int .i64 (j : Nat))) :
    ∃ (env' : Env), go Tryz.prog X 118 (sub (codeOf Tryz.f17) [true,true,true,false,true,false,false,true,true,false,false,true,true,true,true,false,true,false,false,true,false,false,true,true]) env H = some (.normal, env', (H.skip 12).put bt (.cells [.int .i64 ((outOf arcs at')[j].2.2 : Nat)] 3 none)) ∧ ∀ t, t < 60 → env'.get t = env.get t := by
  obtain ⟨vx, hvx⟩ : ∃ v, xs[at']? = some v := ⟨_, List.getElem?_eq_getElem (by rw [hg.len]; exact hat)⟩
  have hl := hg.c at' vx hvx
  obtain ⟨b, off, cs, fam, hb, _, hidx, hget, hcells, hcell⟩ := hl.at (P := Tryz.prog) (t := 74) u74 s79 (i := j) (by simpa using hj)
  rw [List.getElem_map] at hcell
  have hc2 : cs[off + 2]? = some (.int .i64 ((outOf arcs at')[j].2.2 : Nat)) := hcell 2 _ rfl
  have hst := store_one (P := Tryz.prog) (t := 3) (k := 0) (v := .int .i64 ((outOf arcs at')[j].2.2 : Nat)) s3 rfl rfl (H := H.skip 12) hbt (by simp)
  simp only [List.set_cons_zero] at hst
  simp only [codeOf, Tryz.f17, sub]
  rw [go_planned [(0,0,[0],false),(1,0,[104],false),(2,0,[105],false),(3,0,[106],false),(4,0,[11],false),(5,0,[107,108],false),(6,0,[109],false),(7,0,[12],false),(8,0,[110,111],false),(9,0,[112],false),(10,0,[113],false),(11,0,[11,114],true)] rfl (by kernel_rfl)]
  simp only [drawStep_guard, guardDS_true, guardDS_false, guardVal, BEq.rfl, planRun_cons, planRun_nil, planStep, planEnd, List.getElem?_cons_zero, List.getElem?_cons_succ, drawStep_eq, kindOf, quietAt, quietC, evR, evC, memN, beq_dec, Nat.reduceEqDiff, decide_true, decide_false, setDS_some, loudDS_some, loudDS_none, allocDS_some, Nat.reduceLT, Tr.get_set, if_true, if_false, Option.map_some, Option.bind_some, List.length_cons, List.length_nil, sameAt, Nat.reduceAdd, Nat.reduceSub, ofVal, loadC, Heap.skip_get, Heap.get_put, loudStep, isCall, targetC, evs, evParts, mapO, List.cons_append, List.nil_append, List.append_nil, putAll, ne_eq, reduceCtorEq, not_false_eq_true, Int.reduceEq, eq_self, cbeq_int, cbeq_ptr, cbeq_str, cbeq_bool, cbeq_map, cbeq_slice, cbeq_nilSlice, Bool.and_self, Bool.and_true, Int.reduceNeg, List.append_eq, loudC, List.getElem?_toArray, h0, h11, h12, fa77_3, fa79_2, g75, g74, g3, hg.g, hg.x, hbt, hvx, idx75 hat, Nat.zero_add, hidx, hget, hc2, hst]
  refine ⟨_, rfl, fun t ht => ?_⟩
  simp only [Tr.get_set]
  simp only [show t ≠ 104 by omega, show t ≠ 105 by omega, show t ≠ 106 by omega, show t ≠ 107 by omega, show t ≠ 108 by omega, show t ≠ 109 by omega, show t ≠ 110 by omega, show t ≠ 111 by omega, show t ≠ 112 by omega, show t ≠ 113 by omega, show t ≠ 114 by omega, if_false]
end Go.Z

namespace Go.Z
open Go.K Go.Proofs
set_option linter.unusedSimpArgs false
set_option linter.unusedVariables false
set_option maxRecDepth 10000

variable {X : CallFn}

/-- A shortest way over arcs with greater numbers. -/
inductive Chain (ix : Nat) (arcs : Arcs) (os : List Int) (s : Nat) : Nat → Arcs → Prop
  | nil : Chain ix arcs os s s []
  | cons {a : Nat × Nat × Nat} {t : Arcs} (ha : a ∈ arcs) (hi : ix < a.1) (hv : os.getD a.2.1 0 = os.getD a.2.2 0 + 1) (h0 : 0 ≤ os.getD a.2.2 0) (h : Chain ix arcs os s a.2.2 t) : Chain ix arcs os s a.2.1 (a :: t)

theorem cyc_r16 {env : Env} {H : Heap} {ba bt ix lo up at' : Nat} (ha : H.get ba = some (.cells [.int .i64 ix, .int .i64 lo, .int .i64 up] 79 none)) (hbt : H.get bt = some (.cells [.int .i64 (at' : Nat)] 3 none)) (h8 : env.get 8 = some (.ptr ba 0)) (h11 : env.get 11 = some (.ptr bt 0)) :
    ∃ env', go Tryz.prog X 118 (.seq (sub (codeOf Tryz.f17) [true,true,true,false,true,false,false,true,true,false,false,true,true,true,true,false,true,false,false,false,false]) (.cond (.tmp 80) .skip (.exit 4))) env H = some (if at' = lo then .exit 4 else .normal, env', H) ∧ ∀ t, t < 60 → env'.get t = env.get t := by
  have key : go Tryz.prog X 118 (sub (codeOf Tryz.f17) [true,true,true,false,true,false,false,true,true,false,false,true,true,true,true,false,true,false,false,false,false]) env H = some (.normal, (((env.set 77 (.int .i64 (at' : Nat))).set 78 (.ptr ba 1)).set 79 (.int .i64 (lo : Nat))).set 80 (.bool (decide ((at' : Int) ≠ (lo : Int)))), H) := by
    simp only [codeOf, Tryz.f17, sub, go_seq, go_region, opsSeq_step, opsSeq_guard, guardStep_true, guardStep_false, guardVal, opsSeq_nil, afterStep_some, afterStep_none, stepC, kindOf, quietC, evC, Nat.reduceLT, Tr.get_set, if_true, if_false, Nat.reduceEqDiff, Option.map_some, Option.bind_some, List.getElem?_toArray, List.getElem?_cons_zero, List.getElem?_cons_succ, ofVal, decide_true, decide_false, BEq.rfl, andThen_normal, andThen_exit, andThen_ret, inBlock_normal, inBlock_ret, go_skip, go_exit, go_ret, loudStep, isCall, loudC, targetC, evs, evParts, mapO, List.nil_append, List.append_nil, List.cons_append, loadC, Heap.skip_get, Heap.get_put, Heap.skip_next, Heap.put_next, h8, h11, ha, hbt, fa79_1, g3, bin_neq, Nat.zero_add]
  rw [go_seq, key, andThen_normal]
  by_cases h : at' = lo
  · subst h
    rw [go_cond _ _ _ (v := false) (by simp only [evC, Tr.get_set, if_true]; simp), if_neg (by simp), go_exit, if_pos rfl]
    exact ⟨_, rfl, fun t ht => by simp only [Tr.get_set, show t ≠ 77 by omega, show t ≠ 78 by omega, show t ≠ 79 by omega, show t ≠ 80 by omega, if_false]⟩
  · have : (at' : Int) ≠ (lo : Int) := by omega
    rw [go_cond _ _ _ (v := true) (by simp only [evC, Tr.get_set, if_true, this, ne_eq, not_false_eq_true, decide_true]), if_pos rfl, go_skip, if_neg h]
    exact ⟨_, rfl, fun t ht => by simp only [Tr.get_set, show t ≠ 77 by omega, show t ≠ 78 by omega, show t ≠ 79 by omega, show t ≠ 80 by omega, if_false]⟩

theorem cyc_r20 {env : Env} {H : Heap} {bt at' : Nat} (hbt : H.get bt = some (.cells [.int .i64 (at' : Nat)] 3 none)) (h11 : env.get 11 = some (.ptr bt 0)) (hk : HOk H) :
    ∃ env' H', go Tryz.prog X 118 (.seq (sub (codeOf Tryz.f17) [true,true,true,false,true,false,false,true,true,false,false,true,true,true,true,false,true,false,false,true,true,false]) (sub (codeOf Tryz.f17) [true,true,true,false,true,false,false,true,true,false,false,true,true,true,true,false,true,false,false,true,true,true])) env H = some (.normal, env', H') ∧ env'.get 11 = some (.ptr H.next 0) ∧ H'.get H.next = some (.cells [.int .i64 (at' : Nat)] 3 none) ∧ H'.next = H.next + 1 ∧ HOk H' ∧ Ext H.next H H' ∧ ∀ t, t < 60 → t ≠ 11 → env'.get t = env.get t := by
  generalize hH2 : ((H.skip 1).put H.next (.cells [.int .i64 0] 3 none)).put H.next (.cells [.int .i64 (at' : Nat)] 3 none) = H2
  have hE2 : Ext H.next H H2 := by rw [← hH2]; exact (Ext.skip.trans (Ext.put (Nat.le_refl _))).trans (Ext.put (Nat.le_refl _))
  have hk2 : HOk H2 := by rw [← hH2]; exact Hok.put rfl (Hok.put rfl (Hok.skip 1 hk))
  have hn2 : H2.next = H.next + 1 := by rw [← hH2]; rfl
  have hg2 : H2.get H.next = some (.cells [.int .i64 (at' : Nat)] 3 none) := by rw [← hH2, Heap.get_put, if_pos rfl]
  have hst := store_one (P := Tryz.prog) (t := 3) (k := 0) (v := .int .i64 (at' : Nat)) s3 rfl rfl (H := (H.skip 1).put H.next (.cells [.int .i64 0] 3 none)) (b := H.next) (by rw [Heap.get_put, if_pos rfl]) (by simp)
  simp only [List.set_cons_zero, hH2] at hst
  have key : ∃ env', go Tryz.prog X 118 (.seq (sub (codeOf Tryz.f17) [true,true,true,false,true,false,false,true,true,false,false,true,true,true,true,false,true,false,false,true,true,false]) (sub (codeOf Tryz.f17) [true,true,true,false,true,false,false,true,true,false,false,true,true,true,true,false,true,false,false,true,true,true])) env H = some (.normal, env', H2) ∧ env'.get 11 = some (.ptr H.next 0) ∧ ∀ t, t < 60 → t ≠ 11 → env'.get t = env.get t := by
    simp only [codeOf, Tryz.f17, sub, go_seq, go_region, opsSeq_step, opsSeq_guard, guardStep_true, guardStep_false, guardVal, opsSeq_nil, afterStep_some, afterStep_none, stepC, kindOf, quietC, evC, Nat.reduceLT, Tr.get_set, if_true, if_false, Nat.reduceEqDiff, Option.map_some, Option.bind_some, List.getElem?_toArray, List.getElem?_cons_zero, List.getElem?_cons_succ, ofVal, decide_true, decide_false, BEq.rfl, andThen_normal, andThen_exit, andThen_ret, inBlock_normal, inBlock_ret, go_skip, go_exit, go_ret, loudStep, isCall, loudC, targetC, evs, evParts, mapO, List.nil_append, List.append_nil, List.cons_append, loadC, Heap.skip_get, Heap.get_put, Heap.skip_next, Heap.put_next, h11, hbt, g3, al3, hst]
    refine ⟨_, rfl, by simp only [Tr.get_set, Nat.reduceEqDiff, if_true], fun t ht h => ?_⟩
    simp only [Tr.get_set, show t ≠ 115 by omega, h, if_false]
  obtain ⟨env', g, g11, gq⟩ := key
  exact ⟨env', H2, g, g11, hg2, hn2, hk2, hE2, gq⟩

theorem cyc_ring (hX31 : ∀ a H, X 31 a H = none) (hX30 : ∀ a H, X 30 a H = none) {H0 : Heap} {bg bm bx ba bs bo ix lo up : Nat} {nv av : CV} {xs : List CV} {us : List Nat} {arcs : Arcs} {os : List Int}
    (hg : Gr H0 bg bm bx nv av xs us arcs) (hr : Ring H0 ba bs bo ix lo up us.length os) (hd : Dist (ix : Nat) arcs us.length lo os) (hob : ∀ x ∈ os, -1 ≤ x ∧ x < 1000) (har : arcs.length < 1000) (hlt : ∀ a ∈ arcs, a.2.1 < us.length ∧ a.2.2 < us.length) :
    ∀ (d at' bt : Nat) (env : Env) (H : Heap) (v : CV) (vs : List CV), os.getD at' 0 = (d : Int) → at' < us.length → vs.length + d < 1001 → HOk H → Ext H0.next H0 H → H.get bt = some (.cells [.int .i64 (at' : Nat)] 3 none) → bt < H.next → H0.next ≤ bt → Made H0.next H v vs →
      env.get 0 = some (.ptr bg 0) → env.get 8 = some (.ptr ba 0) → env.get 9 = some (.ptr bs 0) → env.get 10 = some v → env.get 11 = some (.ptr bt 0) →
      ∃ (env' : Env) (H' : Heap) (v' : CV) (t : Arcs), go Tryz.prog X 118 (sub (codeOf Tryz.f17) [true,true,true,false,true,false,false,true,true,false,false,true,true,true,true,false,true,false]) env H = some (.exit 4, env', H') ∧ env'.get 10 = some v' ∧ Made H0.next H' v' (vs ++ t.map fun a => .int .i64 (a.1 : Nat)) ∧ Chain ix arcs os lo at' t ∧ t.length = d ∧ HOk H' ∧ Ext H0.next H0 H' := by
  have hcode : sub (codeOf Tryz.f17) [true,true,true,false,true,false,false,true,true,false,false,true,true,true,true,false,true,false] = .loop (.seq (.seq (sub (codeOf Tryz.f17) [true,true,true,false,true,false,false,true,true,false,false,true,true,true,true,false,true,false,false,false,false]) (.cond (.tmp 80) .skip (.exit 4))) (.seq (.block 5 (.seq (sub (codeOf Tryz.f17) [true,true,true,false,true,false,false,true,true,false,false,true,true,true,true,false,true,false,false,true,false,false,false]) (.seq (sub (codeOf Tryz.f17) [true,true,true,false,true,false,false,true,true,false,false,true,true,true,true,false,true,false,false,true,false,false,true,false]) (sub (codeOf Tryz.f17) [true,true,true,false,true,false,false,true,true,false,false,true,true,true,true,false,true,false,false,true,false,false,true,true])))) (.seq (sub (codeOf Tryz.f17) [true,true,true,false,true,false,false,true,true,false,false,true,true,true,true,false,true,false,false,true,true,false]) (sub (codeOf Tryz.f17) [true,true,true,false,true,false,false,true,true,false,false,true,true,true,true,false,true,false,false,true,true,true])))) := rfl
  intro d
  induction d with
  | zero =>
    intro at' bt env H v vs hv hat hvs hk hx hbt lbt hbn hm h0 h8 h9 h10 h11
    have hs : at' = lo := by
      rcases hd.supp at' hat with e | ⟨e, _⟩ | ⟨b, hb, hbi, hbx, h1, h2⟩
      · omega
      · exact e
      · omega
    obtain ⟨e1, g1, q1⟩ := cyc_r16 (X := X) (hr.ext hx).a hbt h8 h11
    rw [if_pos hs] at g1
    refine ⟨e1, H, v, [], ?_, (q1 10 (by omega)).trans h10, by simpa using hm, hs ▸ .nil, rfl, hk, hx⟩
    rw [hcode, go_loop, go_seq, g1, andThen_exit, andThen_exit]
  | succ d ih =>
    intro at' bt env H v vs hv hat hvs hk hx hbt lbt hbn hm h0 h8 h9 h10 h11
    have hs : at' ≠ lo := by intro e; have := hd.zero; rw [← e] at this; omega
    obtain ⟨e1, g1, q1⟩ := cyc_r16 (X := X) (hr.ext hx).a hbt h8 h11
    rw [if_neg hs] at g1
    have hg1 := hg.ext hx
    obtain ⟨e2, H2, j, hj, g2, e2j, hlead, k2, x2, q2⟩ := cyc_r17 (X := X) hX31 hX30 hg1 (hr.ext hx) hk hd hob har hlt hbt lbt hat hv ((q1 0 (by omega)).trans h0) ((q1 8 (by omega)).trans h8) ((q1 9 (by omega)).trans h9) ((q1 11 (by omega)).trans h11)
    have l0 : H0.next ≤ H.next := hx.1
    have hx2 : Ext H0.next H0 H2 := hx.trans (x2.le l0)
    obtain ⟨e3, H3, v3, g3', e310, m3, k3, x3, q3⟩ := cyc_r18 (X := X) (n1 := H0.next) (hg.ext hx2) k2 (x2.2 _ _ lbt hbt) (Nat.lt_of_lt_of_le lbt x2.1) hat hj (hm.keep (n2 := 0) x2) hx2.1 (by omega) ((q2 0 (by omega) (by omega)).trans ((q1 0 (by omega)).trans h0)) ((q2 10 (by omega) (by omega)).trans ((q1 10 (by omega)).trans h10)) ((q2 11 (by omega) (by omega)).trans ((q1 11 (by omega)).trans h11)) e2j
    have hx3 : Ext H0.next H0 H3 := hx2.trans (x3.ext k2 hx2.1)
    have hbt3 : H3.get bt = some (.cells [.int .i64 (at' : Nat)] 3 none) := x3.2 _ _ (Nat.lt_of_lt_of_le lbt x2.1) (x2.2 _ _ lbt hbt) (fun _ _ e => by simp [CObj.fam] at e)
    have lbt3 : bt < H3.next := Nat.lt_of_lt_of_le lbt (Nat.le_trans x2.1 x3.1)
    obtain ⟨e4, g4, q4⟩ := cyc_r19 (X := X) (hg.ext hx3) hbt3 lbt3 hat hj ((q3 0 (by omega) (by omega)).trans ((q2 0 (by omega) (by omega)).trans ((q1 0 (by omega)).trans h0))) ((q3 11 (by omega) (by omega)).trans ((q2 11 (by omega) (by omega)).trans ((q1 11 (by omega)).trans h11))) ((q3 12 (by omega) (by omega)).trans e2j)
    generalize hH4 : (H3.skip 12).put bt (.cells [.int .i64 ((outOf arcs at')[j].2.2 : Nat)] 3 none) = H4 at g4
    have x4 : Ext H0.next H3 H4 := by rw [← hH4]; exact Ext.skip.trans (Ext.put hbn)
    have k4 : HOk H4 := by rw [← hH4]; exact Hok.put rfl (Hok.skip 12 k3)
    have n4 : H4.next = H3.next + 12 := by rw [← hH4]; rfl
    have m4 : Grown H0.next H4 v3 (vs ++ [.int .i64 ((outOf arcs at')[j].1 : Nat)]) := by rw [← hH4]; exact (m3.skip 12).put (by rw [Heap.skip_get]; exact hbt3)
    have hbt4 : H4.get bt = some (.cells [.int .i64 ((outOf arcs at')[j].2.2 : Nat)] 3 none) := by rw [← hH4, Heap.get_put, if_pos rfl]
    have e411 := (q4 11 (by omega)).trans ((q3 11 (by omega) (by omega)).trans ((q2 11 (by omega) (by omega)).trans ((q1 11 (by omega)).trans h11)))
    obtain ⟨e5, H5, g5, e511, b5, n5, k5, x5, q5⟩ := cyc_r20 (X := X) hbt4 e411 k4
    have hmem := List.mem_filter.1 (List.getElem_mem hj)
    have hlo : (outOf arcs at')[j].2.1 = at' := by simpa using hmem.2
    obtain ⟨hl1, hl2⟩ := hlt _ hmem.1
    simp only [leads, decide_eq_true_eq] at hlead
    have hq : ∀ t, t < 10 → e5.get t = env.get t := fun t ht => (q5 t (by omega) (by omega)).trans ((q4 t (by omega)).trans ((q3 t (by omega) (by omega)).trans ((q2 t (by omega) (by omega)).trans (q1 t (by omega)))))
    have hx4 : Ext H0.next H0 H4 := hx3.trans x4
    obtain ⟨e6, H6, v6, t, g6, c10, cm, cc, cl, ck, cx⟩ := ih (outOf arcs at')[j].2.2 H4.next e5 H5 v3 _ (by omega) hl2 (by simp only [List.length_append, List.length_singleton]; omega) k5 (hx4.trans (x5.le hx4.1)) b5 (by omega) hx4.1 (m4.made.keep (n2 := 0) x5)
      ((hq 0 (by omega)).trans h0) ((hq 8 (by omega)).trans h8) ((hq 9 (by omega)).trans h9) ((q5 10 (by omega) (by omega)).trans ((q4 10 (by omega)).trans e310)) e511
    refine ⟨e6, H6, v6, (outOf arcs at')[j] :: t, ?_, c10, ?_, ?_, by rw [List.length_cons, cl], ck, cx⟩
    · rw [hcode, go_loop, ← hcode, go_seq, g1, andThen_normal, go_seq, go_block, go_seq, g2, andThen_normal, go_seq, g3', andThen_normal, g4, inBlock_normal, andThen_normal, g5, andThen_normal]
      exact g6
    · simpa using cm
    · have := Chain.cons (os := os) (s := lo) hmem.1 (by omega) (by rw [hlo]; omega) (by omega) cc
      rw [hlo] at this
      exact this
end Go.Z

namespace Go.Z
open Go.K Go.Proofs
set_option linter.unusedSimpArgs false
set_option linter.unusedVariables false
set_option maxRecDepth 10000

variable {X : CallFn}

theorem cyc_r11 {env : Env} {H : Heap} {av : CV} {arcs : List (Nat × Nat × Nat)} {i : Nat} (h25 : env.get 48 = some av) (h27 : env.get 50 = some (.int .i64 i)) (hl : Has H 3 79 av (arcs.map arcCV)) (hi : i < arcs.length) (hk : HOk H) :
    ∃ env' H', go Tryz.prog X 118 (sub (codeOf Tryz.f17) [true,true,true,false,true,false,false,true,true,false,false,false]) env H = some (.normal, env', H') ∧ H'.get H.next = some (.cells [.int .i64 arcs[i].1, .int .i64 arcs[i].2.1, .int .i64 arcs[i].2.2] 79 none) ∧ H'.next = H.next + 1 ∧ HOk H' ∧ Ext H.next H H' ∧
      env'.get 8 = some (.ptr H.next 0) ∧ ∀ t, t < 52 → t ≠ 8 → env'.get t = env.get t := by
  obtain ⟨b, off, cs, fam, hb, _, hidx, hget, hcells, hcell⟩ := hl.at (P := Tryz.prog) (t := 74) u74 s79 (i := i) (by simpa using hi)
  rw [List.getElem_map] at hcells
  have hcl : takeE 3 (cs.drop off) = some [.int .i64 arcs[i].1, .int .i64 arcs[i].2.1, .int .i64 arcs[i].2.2] := hcells
  generalize hH2 : ((H.skip 1).put H.next (.cells [.int .i64 0, .int .i64 0, .int .i64 0] 79 none)).put H.next (.cells [.int .i64 arcs[i].1, .int .i64 arcs[i].2.1, .int .i64 arcs[i].2.2] 79 none) = H2
  have hE2 : Ext H.next H H2 := by rw [← hH2]; exact (Ext.skip.trans (Ext.put (Nat.le_refl _))).trans (Ext.put (Nat.le_refl _))
  have hk2 : HOk H2 := by rw [← hH2]; exact Hok.put rfl (Hok.put rfl (Hok.skip 1 hk))
  have hn2 : H2.next = H.next + 1 := by rw [← hH2]; rfl
  have hg2 : H2.get H.next = some (.cells [.int .i64 arcs[i].1, .int .i64 arcs[i].2.1, .int .i64 arcs[i].2.2] 79 none) := by rw [← hH2, Heap.get_put, if_pos rfl]
  suffices h : ∃ env', go Tryz.prog X 118 (sub (codeOf Tryz.f17) [true,true,true,false,true,false,false,true,true,false,false,false]) env H = some (.normal, env', H2) ∧ env'.get 8 = some (.ptr H.next 0) ∧ ∀ t, t < 52 → t ≠ 8 → env'.get t = env.get t by
    obtain ⟨env', q1, q⟩ := h
    exact ⟨env', H2, q1, hg2, hn2, hk2, hE2, q⟩
  simp only [codeOf, Tryz.f17, sub, go_seq, go_region, opsSeq_step, opsSeq_guard, guardStep_true, guardStep_false, guardVal, opsSeq_nil, afterStep_some, afterStep_none, stepC, kindOf, quietC, evC, Nat.reduceLT, Tr.get_set, if_true, if_false, Nat.reduceEqDiff, Option.map_some, Option.bind_some, List.getElem?_toArray, List.getElem?_cons_zero, List.getElem?_cons_succ, ofVal, decide_true, decide_false, BEq.rfl, andThen_normal, andThen_exit, andThen_ret, inBlock_normal, inBlock_ret, go_skip, go_exit, go_ret, loudStep, isCall, loudC, targetC, evs, evParts, mapO, List.nil_append, List.append_nil, List.cons_append, loadC, Heap.skip_get, Heap.get_put, Heap.skip_next, Heap.put_next, h25, h27, hidx, hget, hcl, s79, g79, al79, store79, List.length_cons, List.length_nil, Nat.reduceAdd, hH2]
  refine ⟨_, rfl, by simp only [Tr.get_set, Nat.reduceEqDiff, if_true, if_false], fun t ht h10 => ?_⟩
  simp only [Tr.get_set, show t ≠ 52 by omega, show t ≠ 53 by omega, h10, if_false]

theorem cyc_r12 {env : Env} {H H' : Heap} {ba bo bg n ix lo up : Nat} (h0 : env.get 0 = some (.ptr bg 0)) (h8 : env.get 8 = some (.ptr ba 0)) (hba : H.get ba = some (.cells [.int .i64 ix, .int .i64 lo, .int .i64 up] 79 none))
    (hc : calls Tryz.prog X 29 [.ptr bg 0, .int .i64 (lo : Int), .int .i64 (ix : Int)] H = some (.slice bo 0 n (.exact n), H')) (hk : HOk H') :
    ∃ env' H2, go Tryz.prog X 118 (sub (codeOf Tryz.f17) [true,true,true,false,true,false,false,true,true,false,false,true,false]) env H = some (.normal, env', H2) ∧ H2.get H'.next = some (.cells [.slice bo 0 n (.exact n)] 26 none) ∧ H2.next = H'.next + 1 ∧ HOk H2 ∧ Ext H'.next H' H2 ∧ env'.get 9 = some (.ptr H'.next 0) ∧ ∀ t, t < 52 → t ≠ 9 → env'.get t = env.get t := by
  generalize hH2 : ((H'.skip 1).put H'.next (.cells [.nilSlice] 26 none)).put H'.next (.cells [.slice bo 0 n (.exact n)] 26 none) = H2
  have hE2 : Ext H'.next H' H2 := by rw [← hH2]; exact (Ext.skip.trans (Ext.put (Nat.le_refl _))).trans (Ext.put (Nat.le_refl _))
  have hk2 : HOk H2 := by rw [← hH2]; exact Hok.put rfl (Hok.put rfl (Hok.skip 1 hk))
  have hn2 : H2.next = H'.next + 1 := by rw [← hH2]; rfl
  have hg2 : H2.get H'.next = some (.cells [.slice bo 0 n (.exact n)] 26 none) := by rw [← hH2, Heap.get_put, if_pos rfl]
  have hst := store_one (P := Tryz.prog) (t := 26) (k := 0) (v := .slice bo 0 n (.exact n)) s26 rfl rfl (H := (H'.skip 1).put H'.next (.cells [.nilSlice] 26 none)) (b := H'.next) (by rw [Heap.get_put, if_pos rfl]) (by simp)
  simp only [List.set_cons_zero, hH2] at hst
  suffices h : ∃ env', go Tryz.prog X 118 (sub (codeOf Tryz.f17) [true,true,true,false,true,false,false,true,true,false,false,true,false]) env H = some (.normal, env', H2) ∧ env'.get 9 = some (.ptr H'.next 0) ∧ ∀ t, t < 52 → t ≠ 9 → env'.get t = env.get t by
    obtain ⟨env', q1, q⟩ := h
    exact ⟨env', H2, q1, hg2, hn2, hk2, hE2, q⟩
  simp only [codeOf, Tryz.f17, sub, go_seq, go_region, opsSeq_step, opsSeq_guard, guardStep_true, guardStep_false, guardVal, opsSeq_nil, afterStep_some, afterStep_none, stepC, kindOf, quietC, evC, Nat.reduceLT, Tr.get_set, if_true, if_false, Nat.reduceEqDiff, Option.map_some, Option.bind_some, List.getElem?_toArray, List.getElem?_cons_zero, List.getElem?_cons_succ, ofVal, decide_true, decide_false, BEq.rfl, andThen_normal, andThen_exit, andThen_ret, inBlock_normal, inBlock_ret, go_skip, go_exit, go_ret, loudStep, isCall, loudC, targetC, evs, evParts, mapO, List.nil_append, List.append_nil, List.cons_append, loadC, Heap.skip_get, Heap.get_put, Heap.skip_next, Heap.put_next, h0, h8, hba, fa79_0, fa79_1, g3, Nat.zero_add, hc, al26, hst]
  refine ⟨_, rfl, by simp only [Tr.get_set, Nat.reduceEqDiff, if_true, if_false], fun t ht h10 => ?_⟩
  simp only [Tr.get_set, show t ≠ 52 by omega, show t ≠ 53 by omega, show t ≠ 54 by omega, show t ≠ 55 by omega, show t ≠ 56 by omega, show t ≠ 57 by omega, show t ≠ 58 by omega, show t ≠ 59 by omega, h10, if_false]

theorem cyc_r13 {env : Env} {H : Heap} {ba bs bo n ix lo up k : Nat} {u : Int} {os : List Int} (hr : Ring H ba bs bo ix lo up n os) (h3 : env.get 3 = some (.int .i64 (k : Nat))) (h8 : env.get 8 = some (.ptr ba 0)) (h9 : env.get 9 = some (.ptr bs 0)) (hup : up < n) (hu : os[up]? = some u) (hk : k ≤ 1000) :
    ∃ env', go Tryz.prog X 118 (.seq (sub (codeOf Tryz.f17) [true,true,true,false,true,false,false,true,true,false,false,true,true,false,false]) (.cond (.tmp 71) (.exit 3) .skip)) env H = some (if k = 0 ∨ u ≠ (k : Int) - 1 then .exit 3 else .normal, env', H) ∧ ∀ t, t < 52 → env'.get t = env.get t := by
  have hcU : (os.map (CV.int .i64))[up]? = some (.int .i64 u) := by rw [List.getElem?_map, hu]; rfl
  have hw : wrap .i64 ((k : Int) - 1) = (k : Int) - 1 := wrap64 (by omega) (by omega)
  have eb : (false == false) = true := rfl
  have ec : (true == false) = false := rfl
  have key : ∀ v : Bool, v = decide (k = 0 ∨ u ≠ (k : Int) - 1) → (∃ e, go Tryz.prog X 118 (sub (codeOf Tryz.f17) [true,true,true,false,true,false,false,true,true,false,false,true,true,false,false]) env H = some (.normal, e, H) ∧ e.get 71 = some (.bool v) ∧ ∀ t, t < 52 → e.get t = env.get t) →
      ∃ env', go Tryz.prog X 118 (.seq (sub (codeOf Tryz.f17) [true,true,true,false,true,false,false,true,true,false,false,true,true,false,false]) (.cond (.tmp 71) (.exit 3) .skip)) env H = some (if k = 0 ∨ u ≠ (k : Int) - 1 then .exit 3 else .normal, env', H) ∧ ∀ t, t < 52 → env'.get t = env.get t := by
    rintro v hv ⟨e, g, e71, eq⟩
    refine ⟨e, ?_, eq⟩
    rw [go_seq, g, andThen_normal, go_cond _ _ _ (v := v) (by simp only [evC, e71])]
    cases v with
    | true => rw [if_pos rfl, if_pos (of_decide_eq_true hv.symm), go_exit]
    | false => rw [if_neg (by simp), if_neg (of_decide_eq_false hv.symm), go_skip]
  by_cases c1 : k = 0
  · have c1' : (k : Int) = 0 := by omega
    refine key true (by simp only [c1, true_or, decide_true]) ?_
    simp only [codeOf, Tryz.f17, sub, go_seq, go_region, opsSeq_step, opsSeq_guard, guardStep_true, guardStep_false, guardVal, opsSeq_nil, afterStep_some, afterStep_none, stepC, kindOf, quietC, evC, Nat.reduceLT, Tr.get_set, if_true, if_false, Nat.reduceEqDiff, Option.map_some, Option.bind_some, List.getElem?_toArray, List.getElem?_cons_zero, List.getElem?_cons_succ, ofVal, decide_true, decide_false, BEq.rfl, andThen_normal, andThen_exit, andThen_ret, inBlock_normal, inBlock_ret, go_skip, go_exit, go_ret, loudStep, isCall, loudC, targetC, evs, evParts, mapO, List.nil_append, List.append_nil, List.cons_append, loadC, Heap.skip_get, Heap.get_put, Heap.skip_next, Heap.put_next, h3, bin_eql, c1', eb, ec]
    refine ⟨_, rfl, by simp only [Tr.get_set, if_true], fun t ht => ?_⟩
    simp only [Tr.get_set, show t ≠ 52 by omega, show t ≠ 53 by omega, show t ≠ 54 by omega, show t ≠ 55 by omega, show t ≠ 56 by omega, show t ≠ 57 by omega, show t ≠ 58 by omega, show t ≠ 59 by omega, show t ≠ 60 by omega, show t ≠ 61 by omega, show t ≠ 62 by omega, show t ≠ 63 by omega, show t ≠ 64 by omega, show t ≠ 65 by omega, show t ≠ 66 by omega, show t ≠ 67 by omega, show t ≠ 68 by omega, show t ≠ 69 by omega, show t ≠ 70 by omega, show t ≠ 71 by omega, if_false]
  · have c1' : ¬ (k : Int) = 0 := by omega
    refine key (decide (u ≠ (k : Int) - 1)) (by simp only [c1, false_or]) ?_
    simp only [codeOf, Tryz.f17, sub, go_seq, go_region, opsSeq_step, opsSeq_guard, guardStep_true, guardStep_false, guardVal, opsSeq_nil, afterStep_some, afterStep_none, stepC, kindOf, quietC, evC, Nat.reduceLT, Tr.get_set, if_true, if_false, Nat.reduceEqDiff, Option.map_some, Option.bind_some, List.getElem?_toArray, List.getElem?_cons_zero, List.getElem?_cons_succ, ofVal, decide_true, decide_false, BEq.rfl, andThen_normal, andThen_exit, andThen_ret, inBlock_normal, inBlock_ret, go_skip, go_exit, go_ret, loudStep, isCall, loudC, targetC, evs, evParts, mapO, List.nil_append, List.append_nil, List.cons_append, loadC, Heap.skip_get, Heap.get_put, Heap.skip_next, Heap.put_next, h3, h8, h9, hr.a, hr.s, hr.o, fa79_2, g3, g26, Nat.zero_add, idx26 hup, hcU, bin_eql, bin_sub, bin_neq, hw, c1', eb, ec]
    refine ⟨_, rfl, by simp only [Tr.get_set, if_true], fun t ht => ?_⟩
    simp only [Tr.get_set, show t ≠ 52 by omega, show t ≠ 53 by omega, show t ≠ 54 by omega, show t ≠ 55 by omega, show t ≠ 56 by omega, show t ≠ 57 by omega, show t ≠ 58 by omega, show t ≠ 59 by omega, show t ≠ 60 by omega, show t ≠ 61 by omega, show t ≠ 62 by omega, show t ≠ 63 by omega, show t ≠ 64 by omega, show t ≠ 65 by omega, show t ≠ 66 by omega, show t ≠ 67 by omega, show t ≠ 68 by omega, show t ≠ 69 by omega, show t ≠ 70 by omega, show t ≠ 71 by omega, if_false]

theorem cyc_r14 {env : Env} {H : Heap} {ba ix lo up : Nat} (hba : H.get ba = some (.cells [.int .i64 ix, .int .i64 lo, .int .i64 up] 79 none)) (h8 : env.get 8 = some (.ptr ba 0)) (hk : HOk H) (lba : ba < H.next) :
    ∃ env' H', go Tryz.prog X 118 (.seq (sub (codeOf Tryz.f17) [true,true,true,false,true,false,false,true,true,false,false,true,true,true,false]) (sub (codeOf Tryz.f17) [true,true,true,false,true,false,false,true,true,false,false,true,true,true,true,false,false])) env H = some (.normal, env', H') ∧ env'.get 10 = some (.slice H.next 0 1 (.exact 1)) ∧ env'.get 11 = some (.ptr (H.next + 1) 0) ∧
      Made H.next H' (.slice H.next 0 1 (.exact 1)) [.int .i64 ix] ∧ H'.get (H.next + 1) = some (.cells [.int .i64 up] 3 none) ∧ H'.next = H.next + 2 ∧ HOk H' ∧ Ext H.next H H' ∧ ∀ t, t < 10 → env'.get t = env.get t := by
  generalize hH1 : (H.skip 1).put H.next (.cells [.int .i64 ix] 3 none) = H1
  have n1 : H1.next = H.next + 1 := by rw [← hH1]; rfl
  have x1 : Ext H.next H H1 := by rw [← hH1]; exact Ext.skip.trans (Ext.put (Nat.le_refl _))
  have g1 : H1.get H.next = some (.cells [.int .i64 ix] 3 none) := by rw [← hH1, Heap.get_put, if_pos rfl]
  have k1 : HOk H1 := by rw [← hH1]; exact Hok.put rfl (Hok.skip 1 hk)
  have hba1 := x1.2 _ _ lba hba
  have hba2 : ((H1.skip 1).put H1.next (.cells [.int .i64 0] 3 none)).get ba = some (.cells [.int .i64 ix, .int .i64 lo, .int .i64 up] 79 none) := by rw [Heap.get_put, if_neg (by omega), Heap.skip_get]; exact hba1
  generalize hH2 : ((H1.skip 1).put H1.next (.cells [.int .i64 0] 3 none)).put H1.next (.cells [.int .i64 up] 3 none) = H2
  have x2 : Ext H1.next H1 H2 := by rw [← hH2]; exact (Ext.skip.trans (Ext.put (Nat.le_refl _))).trans (Ext.put (Nat.le_refl _))
  have k2 : HOk H2 := by rw [← hH2]; exact Hok.put rfl (Hok.put rfl (Hok.skip 1 k1))
  have n2 : H2.next = H.next + 2 := by rw [← hH2]; show H1.next + 1 = _; omega
  have g2 : H2.get (H.next + 1) = some (.cells [.int .i64 up] 3 none) := by rw [← hH2, n1, Heap.get_put, if_pos rfl]
  have hst := store_one (P := Tryz.prog) (t := 3) (k := 0) (v := .int .i64 up) s3 rfl rfl (H := (H1.skip 1).put H1.next (.cells [.int .i64 0] 3 none)) (b := H1.next) (by rw [Heap.get_put, if_pos rfl]) (by simp)
  simp only [List.set_cons_zero, hH2] at hst
  have h10 := x2.2 H.next _ (by omega) g1
  have key : ∃ env', go Tryz.prog X 118 (.seq (sub (codeOf Tryz.f17) [true,true,true,false,true,false,false,true,true,false,false,true,true,true,false]) (sub (codeOf Tryz.f17) [true,true,true,false,true,false,false,true,true,false,false,true,true,true,true,false,false])) env H = some (.normal, env', H2) ∧ env'.get 10 = some (.slice H.next 0 1 (.exact 1)) ∧ env'.get 11 = some (.ptr (H.next + 1) 0) ∧ ∀ t, t < 10 → env'.get t = env.get t := by
    rw [go_seq]
    have ga : go Tryz.prog X 118 (sub (codeOf Tryz.f17) [true,true,true,false,true,false,false,true,true,false,false,true,true,true,false]) env H = some (.normal, (((env.set 72 (.ptr ba 0)).set 73 (.int .i64 ix)).set 74 (.slice H.next 0 1 (.exact 1))).set 10 (.slice H.next 0 1 (.exact 1)), H1) := by
      simp only [codeOf, Tryz.f17, sub, go_seq, go_region, opsSeq_step, opsSeq_guard, guardStep_true, guardStep_false, guardVal, opsSeq_nil, afterStep_some, afterStep_none, stepC, kindOf, quietC, evC, Nat.reduceLT, Tr.get_set, if_true, if_false, Nat.reduceEqDiff, Option.map_some, Option.bind_some, List.getElem?_toArray, List.getElem?_cons_zero, List.getElem?_cons_succ, ofVal, decide_true, decide_false, BEq.rfl, andThen_normal, andThen_exit, andThen_ret, inBlock_normal, inBlock_ret, go_skip, go_exit, go_ret, loudStep, isCall, loudC, targetC, evs, evParts, mapO, List.nil_append, List.append_nil, List.cons_append, loadC, Heap.skip_get, Heap.get_put, Heap.skip_next, Heap.put_next, h8, hba, fa79_0, g3, Nat.zero_add, bs26, CV.cells, List.length_cons, List.length_nil, Nat.reduceAdd, hH1]
    rw [ga, andThen_normal]
    simp only [codeOf, Tryz.f17, sub, go_seq, go_region, opsSeq_step, opsSeq_guard, guardStep_true, guardStep_false, guardVal, opsSeq_nil, afterStep_some, afterStep_none, stepC, kindOf, quietC, evC, Nat.reduceLT, Tr.get_set, if_true, if_false, Nat.reduceEqDiff, Option.map_some, Option.bind_some, List.getElem?_toArray, List.getElem?_cons_zero, List.getElem?_cons_succ, ofVal, decide_true, decide_false, BEq.rfl, andThen_normal, andThen_exit, andThen_ret, inBlock_normal, inBlock_ret, go_skip, go_exit, go_ret, loudStep, isCall, loudC, targetC, evs, evParts, mapO, List.nil_append, List.append_nil, List.cons_append, loadC, Heap.skip_get, Heap.get_put, Heap.skip_next, Heap.put_next, h8, hba1, fa79_2, g3, Nat.zero_add, al3, hst]
    refine ⟨_, rfl, by simp only [Tr.get_set, Nat.reduceEqDiff, if_true, if_false], by simp only [Tr.get_set, Nat.reduceEqDiff, if_true, if_false, n1], fun t ht => ?_⟩
    simp only [Tr.get_set, show t ≠ 10 by omega, show t ≠ 11 by omega, show t ≠ 72 by omega, show t ≠ 73 by omega, show t ≠ 74 by omega, show t ≠ 75 by omega, show t ≠ 76 by omega, if_false]
  obtain ⟨env', q1, q2, q3, q4⟩ := key
  refine ⟨env', H2, q1, q2, q3, ⟨⟨by simp [CV.cells], .inr ⟨H.next, 0, .exact 1, [.int .i64 ix], none, rfl, fun _ _ e => (by cases e), by omega, h10, by simp, by simp [CV.cells]⟩⟩, .inl ⟨H.next, rfl⟩⟩, g2, n2, k2, x1.trans (x2.le (by omega)), q4⟩
end Go.Z
