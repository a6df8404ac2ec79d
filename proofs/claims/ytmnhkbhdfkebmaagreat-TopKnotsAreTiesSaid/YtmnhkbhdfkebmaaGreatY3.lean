/- build: the graph of relations. First: the names with their numbers. build: the arcs. build: arcs put into the graph's lists. -/
import Derived.Test.YtmnhkbhdfkebmaaGreatY2

set_option linter.unusedSimpArgs false
set_option linter.unusedVariables false

namespace Go.Y
open Go.K Go.Proofs
set_option linter.unusedSimpArgs false
set_option linter.unusedVariables false
set_option maxRecDepth 10000

variable {X : CallFn}

theorem build_body1 {env : Env} {H : Heap} {bg bm i : Nat} {l nv xv av : CV} {us : List Nat} (h0 : env.get 0 = some l) (h3 : env.get 3 = some (.ptr bg 0)) (h17 : env.get 17 = some nv) (h18 : env.get 18 = some (.int .i64 us.length)) (h19 : env.get 19 = some (.int .i64 i))
    (hg : H.get bg = some (.cells [nv, .map bm, av, xv] 60 none)) (hm : H.get bm = some (.map (entriesFrom 0 (us.take i)) (us.take i).length)) (hn : Has H 1 9 nv (us.map nm)) (hi : i < us.length) (hu : us.length ≤ 1000) (hus : ∀ y ∈ us, y < 100) (hs : us.Pairwise (· < ·)) :
    ∃ env', go Tryz.prog X 96 (sub (codeOf Tryz.f22) [true,true,false,true,false,false]) env H = some (.normal, env', H.put bm (.map (entriesFrom 0 (us.take (i + 1))) (us.take (i + 1)).length)) ∧ env'.get 0 = some l ∧ env'.get 3 = some (.ptr bg 0) ∧ env'.get 17 = some nv ∧
      env'.get 18 = some (.int .i64 us.length) ∧ env'.get 19 = some (.int .i64 (i + 1 : Nat)) := by
  obtain ⟨b, off, cs, fam, hb, _, hidx, hget, hcells, hcell⟩ := hn.at (P := Tryz.prog) (t := 27) u30 s9 (i := i) (by simpa using hi)
  rw [List.getElem_map] at hcell
  have hc : cs[off]? = some (nm us[i]) := hcell 0 _ rfl
  have e1 : (i : Int) < (us.length : Int) := by omega
  have hw : wrap .i64 ((i : Int) + 1) = ((i + 1 : Nat) : Int) := wrap64 (by omega) (by omega)
  have hnot : us[i] ∉ us.take i := by
    intro h
    obtain ⟨j, hj, e⟩ := List.mem_take_iff_getElem.1 h
    have hji : j < i := by omega
    have := List.pairwise_iff_getElem.1 hs j i (by omega) hi hji
    omega
  have htl : (us.take i).length = i := by rw [List.length_take]; omega
  have hup := update_new (H := H) (b := bm) (x := us[i]) (us := us.take i) hm (fun y hy => hus y (List.mem_of_mem_take hy)) (hus _ (List.getElem_mem _)) hnot
  have htk : us.take i ++ [us[i]] = us.take (i + 1) := by rw [List.take_add_one, List.getElem?_eq_getElem hi, Option.toList_some]
  rw [htk, htl] at hup
  simp only [codeOf, Tryz.f22, sub, go_seq, go_region, opsSeq_step, opsSeq_guard, guardStep_true, guardStep_false, guardVal, opsSeq_nil, afterStep_some, afterStep_none, stepC, kindOf, quietC, evC, Nat.reduceLT, Tr.get_set, if_true, if_false, Nat.reduceEqDiff, Option.map_some, Option.bind_some, List.getElem?_toArray, List.getElem?_cons_zero, List.getElem?_cons_succ, ofVal, decide_true, decide_false, BEq.rfl, andThen_normal, andThen_exit, andThen_ret, inBlock_normal, inBlock_ret, go_skip, go_exit, go_ret, loudStep, isCall, loudC, targetC, evs, evParts, mapO, List.nil_append, List.append_nil, List.cons_append, loadC, Heap.skip_get, Heap.get_put, Heap.skip_next, Heap.put_next, h17, h18, h19, bin_lss, e1]
  rw [go_cond _ _ _ (v := true) (by simp only [evC, Tr.get_set, if_true])]
  simp only [go_seq, go_region, opsSeq_step, opsSeq_guard, guardStep_true, guardStep_false, guardVal, opsSeq_nil, afterStep_some, afterStep_none, stepC, kindOf, quietC, evC, Nat.reduceLT, Tr.get_set, if_true, if_false, Nat.reduceEqDiff, Option.map_some, Option.bind_some, List.getElem?_toArray, List.getElem?_cons_zero, List.getElem?_cons_succ, ofVal, decide_true, decide_false, BEq.rfl, andThen_normal, andThen_exit, andThen_ret, inBlock_normal, inBlock_ret, go_skip, go_exit, go_ret, loudStep, isCall, loudC, targetC, evs, evParts, mapO, List.nil_append, List.append_nil, List.cons_append, loadC, Heap.skip_get, Heap.get_put, Heap.skip_next, Heap.put_next, go_block, h3, h17, h18, h19, hidx, g9, hget, hc, fa77_1, g52, hg, Nat.zero_add, hup, bin_add, hw]
  exact ⟨_, rfl, by simp only [Tr.get_set, Nat.reduceEqDiff, if_true, if_false, h0], by simp only [Tr.get_set, Nat.reduceEqDiff, if_true, if_false, h3], by simp only [Tr.get_set, Nat.reduceEqDiff, if_true, if_false, h17], by simp only [Tr.get_set, Nat.reduceEqDiff, if_true, if_false, h18], by simp only [Tr.get_set, if_true]⟩

theorem build_exit1 {env : Env} {H : Heap} {n : Nat} (h18 : env.get 18 = some (.int .i64 n)) (h19 : env.get 19 = some (.int .i64 n)) :
    go Tryz.prog X 96 (sub (codeOf Tryz.f22) [true,true,false,true,false,false]) env H = some (.exit 0, env.set 20 (.bool false), H) := by
  have e1 : ¬ ((n : Int) < (n : Int)) := by omega
  simp only [codeOf, Tryz.f22, sub, go_seq, go_region, opsSeq_step, opsSeq_guard, guardStep_true, guardStep_false, guardVal, opsSeq_nil, afterStep_some, afterStep_none, stepC, kindOf, quietC, evC, Nat.reduceLT, Tr.get_set, if_true, if_false, Nat.reduceEqDiff, Option.map_some, Option.bind_some, List.getElem?_toArray, List.getElem?_cons_zero, List.getElem?_cons_succ, ofVal, decide_true, decide_false, BEq.rfl, andThen_normal, andThen_exit, andThen_ret, inBlock_normal, inBlock_ret, go_skip, go_exit, go_ret, loudStep, isCall, loudC, targetC, evs, evParts, mapO, List.nil_append, List.append_nil, List.cons_append, loadC, Heap.skip_get, Heap.get_put, Heap.skip_next, Heap.put_next, h18, h19, bin_lss, e1]
  rw [go_cond _ _ _ (v := false) (by simp only [evC, Tr.get_set, if_true])]
  simp only [Bool.false_eq_true, if_false, go_exit, andThen_exit]

theorem build_loop1 {bg bm : Nat} {l nv xv av : CV} {us : List Nat} (hu : us.length ≤ 1000) (hus : ∀ y ∈ us, y < 100) (hs : us.Pairwise (· < ·)) (hne : bm ≠ bg) (hnv : ∀ b off len cap, nv = .slice b off len cap → b < bm) :
    ∀ (k i : Nat) (env : Env) (H : Heap), i + k = us.length → env.get 0 = some l → env.get 3 = some (.ptr bg 0) → env.get 17 = some nv → env.get 18 = some (.int .i64 us.length) → env.get 19 = some (.int .i64 i) →
      H.get bg = some (.cells [nv, .map bm, av, xv] 60 none) → H.get bm = some (.map (entriesFrom 0 (us.take i)) (us.take i).length) → Has H 1 9 nv (us.map nm) → HOk H →
    ∃ env' H', go Tryz.prog X 96 (sub (codeOf Tryz.f22) [true,true,false,true,false]) env H = some (.exit 0, env', H') ∧ env'.get 0 = some l ∧ env'.get 3 = some (.ptr bg 0) ∧ H'.get bg = some (.cells [nv, .map bm, av, xv] 60 none) ∧ H'.get bm = some (.map (entriesFrom 0 us) us.length) ∧
      HOk H' ∧ Ext bm H H' ∧ H'.next = H.next := by
  have hcode : sub (codeOf Tryz.f22) [true,true,false,true,false] = .loop (sub (codeOf Tryz.f22) [true,true,false,true,false,false]) := rfl
  intro k
  induction k with
  | zero =>
    intro i env H hik h0 h3 h17 h18 h19 hg hm hn hk
    have : i = us.length := by omega
    subst this
    rw [hcode, go_loop, build_exit1 h18 h19, andThen_exit]
    rw [List.take_length] at hm
    exact ⟨_, H, rfl, by simp only [Tr.get_set, Nat.reduceEqDiff, if_false, h0], by simp only [Tr.get_set, Nat.reduceEqDiff, if_false, h3], hg, hm, hk, Ext.refl _ _, rfl⟩
  | succ k ih =>
    intro i env H hik h0 h3 h17 h18 h19 hg hm hn hk
    obtain ⟨e1, g1, a0, a3, a17, a18, a19⟩ := build_body1 (X := X) h0 h3 h17 h18 h19 hg hm hn (by omega) hu hus hs
    have hx : Ext bm H (H.put bm (.map (entriesFrom 0 (us.take (i + 1))) (us.take (i + 1)).length)) := Ext.put (Nat.le_refl _)
    obtain ⟨e2, H2, g2, b0, b3, bgg, bmm, bk, bx, bn⟩ := ih (i + 1) e1 _ (by omega) a0 a3 a17 a18 a19 (by rw [Heap.get_put, if_neg (fun h => hne h.symm)]; exact hg) (by rw [Heap.get_put, if_pos rfl]) (hn.ext hx hnv) (Hok.put rfl hk)
    refine ⟨e2, H2, ?_, b0, b3, bgg, bmm, bk, hx.trans bx, bn⟩
    rw [hcode, go_loop, g1, andThen_normal, ← hcode]
    exact g2
end Go.Y

namespace Go.Y
open Go.K Go.Proofs
set_option linter.unusedSimpArgs false
set_option linter.unusedVariables false
set_option maxRecDepth 10000

variable {X : CallFn}

/-- An arc: index, lower, upper. -/
def arcCV (a : Nat × Nat × Nat) : CV := .agg [.int .i64 a.1, .int .i64 a.2.1, .int .i64 a.2.2]

theorem store79 {G : Heap} {b : Nat} {i j k : Int} {cs : List CV} (h : cs.length = 3) : storeC Tryz.prog 87 (G.put b (.cells cs 87 none)) (.ptr b 0) (.agg [.int .i64 i, .int .i64 j, .int .i64 k]) =
    some (.tuple [], (G.put b (.cells cs 87 none)).put b (.cells [.int .i64 i, .int .i64 j, .int .i64 k] 87 none)) := by
  have h2 : ([.int .i64 i, .int .i64 j, .int .i64 k] : List CV).all CV.single = true := rfl
  simp only [storeC, s79, CV.cells, List.length_cons, List.length_nil, writeC, Heap.get_put, if_true, h2, h, Bool.and_true]
  simp [splice, h, Nat.ble, Nat.beq, Heap.upd, CObj.fam, List.drop_of_length_le (Nat.le_of_eq h)]

/-- A single cell written, in a block without a family. -/
theorem store_one {P : Program} {t : Nat} {H : Heap} {b k e : Nat} {v : CV} {cs : List CV} (hs : szC P t = some 1) (hc : v.cells = [v]) (hv : v.single = true) (hg : H.get b = some (.cells cs e none)) (hk : k < cs.length) :
    storeC P t H (.ptr b k) v = some (.tuple [], H.put b (.cells (cs.set k v) e none)) := by
  have hsp : splice cs k [v] = cs.set k v := by
    unfold splice
    rw [List.set_eq_take_append_cons_drop, if_pos hk]
    simp
  simp only [storeC, hs, hc, List.length_singleton, beq_t rfl, writeC, hg, ble_t (show k + 1 ≤ cs.length by omega), List.all_cons, hv, List.all_nil, Bool.and_self, Option.map_some, hsp, Heap.upd, CObj.fam]

/-- What an append to another slice leaves. -/
theorem Own.keep {H H' : Heap} {f fc sz e : Nat} {v w : CV} {vs : List CV} (h : Own H f sz e v vs) (hnext : H.next ≤ H'.next)
    (hkeep : ∀ b o, b < H.next → H.get b = some o → (w ≠ .nilSlice → ∀ g p, o.fam = some (g, p) → g ≠ fc) → H'.get b = some o) (hne : v ≠ .nilSlice → w ≠ .nilSlice → f ≠ fc) : Own H' f sz e v vs := by
  refine ⟨h.1, ?_⟩
  rcases h.2 with h | ⟨b, p, hv, h1, h2, h3, h4⟩
  · exact .inl h
  · refine .inr ⟨b, p, hv, h1, Nat.lt_of_lt_of_le h2 hnext, h3, hkeep b _ h2 h4 (fun hw g q hg => ?_)⟩
    simp only [CObj.fam, Option.some.injEq, Prod.mk.injEq] at hg
    rw [← hg.1]
    exact hne (by rw [hv]; intro h; cases h) hw

theorem build_r10 {env : Env} {H : Heap} {l : CV} {rs : List (Nat × Nat × Nat)} {i bg : Nat} (h3 : env.get 3 = some (.ptr bg 0)) (h40 : env.get 40 = some l) (h41 : env.get 41 = some (.int .i64 rs.length)) (h42 : env.get 42 = some (.int .i64 i))
    (hl : Has H 3 41 l (rs.map relCV)) (hi : i < rs.length) (hk : HOk H) :
    ∃ env' H', go Tryz.prog X 96 (sub (codeOf Tryz.f22) [true,true,true,true,false,true,false,false,true,true,false,false,false]) env H = some (.normal, env', H') ∧ H'.get H.next = some (.cells [.int .i64 rs[i].1, nm rs[i].2.1, nm rs[i].2.2] 41 none) ∧ H'.next = H.next + 1 ∧ HOk H' ∧ Ext H.next H H' ∧
      env'.get 3 = some (.ptr bg 0) ∧ env'.get 40 = some l ∧ env'.get 41 = some (.int .i64 rs.length) ∧ env'.get 42 = some (.int .i64 i) ∧ env'.get 6 = some (.int .i64 i) ∧ env'.get 7 = some (.ptr H.next 0) := by
  obtain ⟨b, off, cs, fam, hb, _, hidx, hget, hcells, hcell⟩ := hl.at (P := Tryz.prog) (t := 25) u24 s42 (i := i) (by simpa using hi)
  rw [List.getElem_map] at hcells
  have hcl : takeE 3 (cs.drop off) = some [.int .i64 rs[i].1, nm rs[i].2.1, nm rs[i].2.2] := hcells
  generalize hH2 : ((H.skip 1).put H.next (.cells [.int .i64 0, .str .empty, .str .empty] 41 none)).put H.next (.cells [.int .i64 rs[i].1, nm rs[i].2.1, nm rs[i].2.2] 41 none) = H2
  have hE2 : Ext H.next H H2 := by rw [← hH2]; exact (Ext.skip.trans (Ext.put (Nat.le_refl _))).trans (Ext.put (Nat.le_refl _))
  have hk2 : HOk H2 := by rw [← hH2]; exact Hok.put rfl (Hok.put rfl (Hok.skip 1 hk))
  have hn2 : H2.next = H.next + 1 := by rw [← hH2]; rfl
  have hg2 : H2.get H.next = some (.cells [.int .i64 rs[i].1, nm rs[i].2.1, nm rs[i].2.2] 41 none) := by rw [← hH2, Heap.get_put, if_pos rfl]
  suffices h : ∃ env', go Tryz.prog X 96 (sub (codeOf Tryz.f22) [true,true,true,true,false,true,false,false,true,true,false,false,false]) env H = some (.normal, env', H2) ∧ env'.get 3 = some (.ptr bg 0) ∧ env'.get 40 = some l ∧ env'.get 41 = some (.int .i64 rs.length) ∧ env'.get 42 = some (.int .i64 i) ∧
      env'.get 6 = some (.int .i64 i) ∧ env'.get 7 = some (.ptr H.next 0) by
    obtain ⟨env', q1, q⟩ := h
    exact ⟨env', H2, q1, hg2, hn2, hk2, hE2, q⟩
  simp only [codeOf, Tryz.f22, sub, go_seq, go_region, opsSeq_step, opsSeq_guard, guardStep_true, guardStep_false, guardVal, opsSeq_nil, afterStep_some, afterStep_none, stepC, kindOf, quietC, evC, Nat.reduceLT, Tr.get_set, if_true, if_false, Nat.reduceEqDiff, Option.map_some, Option.bind_some, List.getElem?_toArray, List.getElem?_cons_zero, List.getElem?_cons_succ, ofVal, decide_true, decide_false, BEq.rfl, andThen_normal, andThen_exit, andThen_ret, inBlock_normal, inBlock_ret, go_skip, go_exit, go_ret, loudStep, isCall, loudC, targetC, evs, evParts, mapO, List.nil_append, List.append_nil, List.cons_append, loadC, Heap.skip_get, Heap.get_put, Heap.skip_next, Heap.put_next, h40, h41, h42, hidx, hget, hcl, s42, g42, al42, store42, List.length_cons, List.length_nil, Nat.reduceAdd, hH2]
  exact ⟨_, rfl, by simp only [Tr.get_set, Nat.reduceEqDiff, if_true, if_false, h3], by simp only [Tr.get_set, Nat.reduceEqDiff, if_true, if_false, h40], by simp only [Tr.get_set, Nat.reduceEqDiff, if_true, if_false, h41],
    by simp only [Tr.get_set, Nat.reduceEqDiff, if_true, if_false, h42], by simp only [Tr.get_set, Nat.reduceEqDiff, if_true, if_false], by simp only [Tr.get_set, Nat.reduceEqDiff, if_true, if_false]⟩

/-- The arc of a relation, put into a new variable. -/
theorem build_r12 {env : Env} {H : Heap} {bg bm bx i kd u w : Nat} {nv av xv : CV} {us : List Nat} (h3 : env.get 3 = some (.ptr bg 0)) (h6 : env.get 6 = some (.int .i64 i)) (h7 : env.get 7 = some (.ptr bx 0))
    (hg7 : H.get bx = some (.cells [.int .i64 kd, nm u, nm w] 41 none)) (hg : H.get bg = some (.cells [nv, .map bm, av, xv] 60 none)) (hm : H.get bm = some (.map (entriesFrom 0 us) us.length)) (hus : ∀ y ∈ us, y < 100) (hu : u ∈ us) (hw : w ∈ us) (hk : HOk H) :
    ∃ env' H', go Tryz.prog X 96 (sub (codeOf Tryz.f22) [true,true,true,true,false,true,false,false,true,true,false,false,true,true,false]) env H = some (.normal, env', H') ∧ H'.get (H.next + 16) = some (.cells [.int .i64 i, .int .i64 (us.idxOf w : Nat), .int .i64 (us.idxOf u : Nat)] 87 none) ∧ H'.next = H.next + 18 ∧ HOk H' ∧ Ext H.next H H' ∧
      env'.get 8 = some (.ptr (H.next + 16) 0) ∧ ∀ t, t < 50 → t ≠ 8 → env'.get t = env.get t := by
  generalize hH2 : ((H.skip 18).put (H.next + 16) (.cells [.int .i64 0, .int .i64 0, .int .i64 0] 87 none)).put (H.next + 16) (.cells [.int .i64 i, .int .i64 (us.idxOf w : Nat), .int .i64 (us.idxOf u : Nat)] 87 none) = H2
  have hE2 : Ext H.next H H2 := by rw [← hH2]; exact (Ext.skip.trans (Ext.put (by omega))).trans (Ext.put (by omega))
  have hk2 : HOk H2 := by rw [← hH2]; exact Hok.put rfl (Hok.put rfl (Hok.skip 18 hk))
  have hn2 : H2.next = H.next + 18 := by rw [← hH2]; rfl
  have hg2 : H2.get (H.next + 16) = some (.cells [.int .i64 i, .int .i64 (us.idxOf w : Nat), .int .i64 (us.idxOf u : Nat)] 87 none) := by rw [← hH2, Heap.get_put, if_pos rfl]
  have l1 := lookup_at (H := H.skip 18) (b := bm) (c := us.length) (x := w) hm hus hw
  have l2 := lookup_at (H := H.skip 18) (b := bm) (c := us.length) (x := u) hm hus hu
  suffices h : ∃ env', go Tryz.prog X 96 (sub (codeOf Tryz.f22) [true,true,true,true,false,true,false,false,true,true,false,false,true,true,false]) env H = some (.normal, env', H2) ∧ env'.get 8 = some (.ptr (H.next + 16) 0) ∧ ∀ t, t < 50 → t ≠ 8 → env'.get t = env.get t by
    obtain ⟨env', q1, q⟩ := h
    exact ⟨env', H2, q1, hg2, hn2, hk2, hE2, q⟩
  simp only [codeOf, Tryz.f22, sub]
  rw [go_planned [(0,0,[6],false),(1,0,[3],false),(2,0,[51],false),(3,0,[52],false),(4,0,[53],false),(5,0,[7],false),(6,0,[55],false),(7,0,[54,56],false),(8,0,[3],false),(9,0,[58],false),(10,0,[59],false),(11,0,[60],false),(12,0,[7],false),(13,0,[62],false),(14,0,[61,63],false),
    (15,0,[50,57,64],false),(16,0,[],false),(17,0,[8,65],true)] rfl (by kernel_rfl)]
  simp only [drawStep_guard, guardDS_true, guardDS_false, guardVal, BEq.rfl, planRun_cons, planRun_nil, planStep, planEnd, List.getElem?_cons_zero, List.getElem?_cons_succ, drawStep_eq, kindOf, quietAt, quietC, evR, evC, memN, beq_dec, Nat.reduceEqDiff, decide_true, decide_false, setDS_some, loudDS_some, loudDS_none, allocDS_some, Nat.reduceLT, Tr.get_set, if_true, if_false, Option.map_some, Option.bind_some, List.length_cons, List.length_nil, sameAt, Nat.reduceAdd, Nat.reduceSub, ofVal, loadC, Heap.skip_get, Heap.get_put, loudStep, isCall, targetC, evs, evParts, mapO, List.cons_append, List.nil_append, List.append_nil, putAll, ne_eq, reduceCtorEq, not_false_eq_true, Int.reduceEq, eq_self, cbeq_int, cbeq_ptr, cbeq_str, cbeq_bool, cbeq_map, cbeq_slice, cbeq_nilSlice, Bool.and_self, Bool.and_true, Int.reduceNeg, List.append_eq, loudC, List.getElem?_toArray, h3, h6, h7, fa77_1, fa42_1, fa42_2, g52, g9, hg, hg7, Nat.zero_add, l1, l2, build79, al79, store79, hH2]
  refine ⟨_, rfl, by simp only [Tr.get_set, Nat.reduceEqDiff, if_true, if_false], fun t ht h8 => ?_⟩
  simp only [Tr.get_set]
  simp only [show t ≠ 50 by omega, show t ≠ 51 by omega, show t ≠ 52 by omega, show t ≠ 53 by omega, show t ≠ 54 by omega, show t ≠ 55 by omega, show t ≠ 56 by omega, show t ≠ 57 by omega, show t ≠ 58 by omega, show t ≠ 59 by omega, show t ≠ 60 by omega, show t ≠ 61 by omega, show t ≠ 62 by omega, show t ≠ 63 by omega, show t ≠ 64 by omega, show t ≠ 65 by omega, h8, if_false]
end Go.Y

namespace Go.Y
open Go.K Go.Proofs
set_option linter.unusedSimpArgs false
set_option linter.unusedVariables false
set_option maxRecDepth 10000

variable {X : CallFn}

/-- g.arcs = append(g.arcs, a) -/
theorem build_r13 {env : Env} {H : Heap} {bg ba f : Nat} {a : Nat × Nat × Nat} {nv mv av xv : CV} {arcs : List (Nat × Nat × Nat)} (h3 : env.get 3 = some (.ptr bg 0)) (h8 : env.get 8 = some (.ptr ba 0))
    (hg : H.get bg = some (.cells [nv, mv, av, xv] 60 none)) (hbg : bg < H.next) (hba : H.get ba = some (.cells [.int .i64 a.1, .int .i64 a.2.1, .int .i64 a.2.2] 87 none)) (hbn : ba < H.next) (hne : ba ≠ bg) (hv : Own H f 3 87 av (arcs.map arcCV)) (hk : HOk H) (hlen : arcs.length < 1000) :
    ∃ env' v' H' f', go Tryz.prog X 96 (sub (codeOf Tryz.f22) [true,true,true,true,false,true,false,false,true,true,false,false,true,true,true,false]) env H = some (.normal, env', H') ∧ Own H' f' 3 87 v' ((arcs ++ [a]).map arcCV) ∧ H'.get bg = some (.cells [nv, mv, v', xv] 60 none) ∧ HOk H' ∧ H.next ≤ H'.next ∧ v' ≠ .nilSlice ∧ (av = .nilSlice → H.next ≤ f') ∧ (av ≠ .nilSlice → f' = f) ∧
      (∀ b o, b < H.next → b ≠ bg → H.get b = some o → (av ≠ .nilSlice → ∀ g p, o.fam = some (g, p) → g ≠ f) → H'.get b = some o) ∧ ∀ t, t < 66 → env'.get t = env.get t := by
  generalize hH1 : (H.skip 11).put (H.next + 6) (.cells [.int .i64 a.1, .int .i64 a.2.1, .int .i64 a.2.2] 87 none) = H1
  have hE1 : Ext H.next H H1 := by rw [← hH1]; exact Ext.skip.trans (Ext.put (by omega))
  have hk1 : HOk H1 := by rw [← hH1]; exact Hok.put rfl (Hok.skip 11 hk)
  have hn1 : H1.next = H.next + 11 := by rw [← hH1]; rfl
  have hg1 : H1.get (H.next + 6) = some (.cells [.int .i64 a.1, .int .i64 a.2.1, .int .i64 a.2.2] 87 none) := by rw [← hH1, Heap.get_put, if_pos rfl]
  have hx : elemsC H1 3 (.slice (H.next + 6) 0 1 (.exact 1)) = some ([arcCV a].length, [arcCV a].flatMap CV.cells) := by simp [elemsC, hg1, takeE, arcCV, CV.cells]
  obtain ⟨ti, hti, hts, htb⟩ := i79
  obtain ⟨v', H', f', happ, hf1, hf2, hown, hok, hnext, hkeep⟩ := (hv.ext hE1 hv.lt).append hk1 hx (by simp [arcCV, CV.cells]) (by simp) u74 u74 (by intro k e; cases e) hti hts (by omega) z79 rfl rfl
    (by simp only [List.length_map, List.length_cons, List.length_nil, htb]; omega) (by simp only [List.length_map, List.length_cons, List.length_nil]; omega)
  have hv' : ∃ b o n c, v' = .slice b o n c := by
    rcases hown.2 with ⟨_, e⟩ | ⟨b, _, e, _⟩
    · simp at e
    · exact ⟨_, _, _, _, e⟩
  have hvc : v'.cells = [v'] ∧ v'.single = true := by obtain ⟨b, o, n, c, rfl⟩ := hv'; exact ⟨rfl, rfl⟩
  have hbg' : H'.get bg = some (.cells [nv, mv, av, xv] 60 none) := hkeep bg _ (by omega) (hE1.2 bg _ hbg hg) (fun _ g p e => by simp [CObj.fam] at e)
  have hst := store_one (P := Tryz.prog) (t := 57) (k := 2) s74 hvc.1 hvc.2 hbg' (by simp)
  simp only [List.set_cons_succ, List.set_cons_zero] at hst
  have hvb := hv.has.cbeq 12
  have hown2 : Own (H'.put bg (.cells [nv, mv, v', xv] 60 none)) f' 3 87 v' ((arcs ++ [a]).map arcCV) := by
    refine ⟨by simpa using hown.1, ?_⟩
    rcases hown.2 with ⟨_, e⟩ | ⟨b, p, e, e2, e3, e4, e5⟩
    · simp at e
    · refine .inr ⟨b, p, by simpa using e, by simp, e3, e4, ?_⟩
      rw [Heap.get_put, if_neg]
      · simpa using e5
      · rintro rfl; rw [hbg'] at e5; simp at e5
  suffices h : ∃ env', go Tryz.prog X 96 (sub (codeOf Tryz.f22) [true,true,true,true,false,true,false,false,true,true,false,false,true,true,true,false]) env H = some (.normal, env', H'.put bg (.cells [nv, mv, v', xv] 60 none)) ∧ ∀ t, t < 66 → env'.get t = env.get t by
    obtain ⟨env', q1, q⟩ := h
    refine ⟨env', v', H'.put bg (.cells [nv, mv, v', xv] 60 none), f', q1, hown2, by rw [Heap.get_put, if_pos rfl], Hok.put rfl hok, by show H.next ≤ H'.next; omega, ?_, fun e => by rw [hf1 e]; omega, hf2, fun b o hb hb2 ho hf => ?_, q⟩
    · obtain ⟨b, o, n, c, rfl⟩ := hv'; intro h; cases h
    · rw [Heap.get_put, if_neg hb2]; exact hkeep b o (by omega) (hE1.2 b o hb ho) hf
  simp only [codeOf, Tryz.f22, sub]
  rw [go_planned [(1,0,[3],false),(2,0,[67],false),(3,0,[68],false),(4,0,[69],false),(5,0,[8],false),(6,0,[71],false),(7,0,[70,72],true),(0,0,[3],false),(8,1,[66],false),(9,1,[74],false),(10,1,[75,73],true)] rfl (by kernel_rfl)]
  simp only [drawStep_guard, guardDS_true, guardDS_false, guardVal, BEq.rfl, planRun_cons, planRun_nil, planStep, planEnd, List.getElem?_cons_zero, List.getElem?_cons_succ, drawStep_eq, kindOf, quietAt, quietC, evR, evC, memN, beq_dec, Nat.reduceEqDiff, decide_true, decide_false, setDS_some, loudDS_some, loudDS_none, allocDS_some, Nat.reduceLT, Tr.get_set, if_true, if_false, Option.map_some, Option.bind_some, List.length_cons, List.length_nil, sameAt, Nat.reduceAdd, Nat.reduceSub, ofVal, loadC, Heap.skip_get, Heap.get_put, loudStep, isCall, targetC, evs, evParts, mapO, List.cons_append, List.nil_append, List.append_nil, putAll, ne_eq, reduceCtorEq, not_false_eq_true, Int.reduceEq, eq_self, cbeq_int, cbeq_ptr, cbeq_str, cbeq_bool, cbeq_map, cbeq_slice, cbeq_nilSlice, Bool.and_self, Bool.and_true, Int.reduceNeg, List.append_eq, loudC, List.getElem?_toArray, h3, h8, fa77_2, g74, g79, s79, hg, hba, takeE, List.drop_zero, Nat.zero_add, List.getElem?_cons_zero, List.getElem?_cons_succ, bs74, CV.cells, hH1, happ, hst]
  refine ⟨_, rfl, fun t ht => ?_⟩
  simp only [Tr.get_set]
  simp only [show t ≠ 66 by omega, show t ≠ 67 by omega, show t ≠ 68 by omega, show t ≠ 69 by omega, show t ≠ 70 by omega, show t ≠ 71 by omega, show t ≠ 72 by omega, show t ≠ 73 by omega, show t ≠ 74 by omega, show t ≠ 75 by omega, if_false]

theorem idx75 {b n k : Nat} (h : k < n) : indexAddrC Tryz.prog 58 (.slice b 0 n (.exact n)) (.int .i64 (k : Int)) = some (.ptr b k) := by
  show indexAddrC Tryz.prog 58 _ (.int .i64 (Int.ofNat k)) = _
  simp only [indexAddrC, u75, blt_t h, s74, Option.map_some, Nat.mul_one, Nat.zero_add]

/-- g.next[a.lower] = append(g.next[a.lower], a) -/
theorem build_r14 {env : Env} {H : Heap} {bg bx ba f n : Nat} {a : Nat × Nat × Nat} {nv mv av v : CV} {xs : List CV} {arcs : List (Nat × Nat × Nat)} (h3 : env.get 3 = some (.ptr bg 0)) (h8 : env.get 8 = some (.ptr ba 0))
    (hg : H.get bg = some (.cells [nv, mv, av, .slice bx 0 n (.exact n)] 60 none)) (hbg : bg < H.next) (hbx : H.get bx = some (.cells xs 57 none)) (hbxn : bx < H.next) (hxs : xs.length = n) (hlo : a.2.1 < n) (hxv : xs[a.2.1]? = some v)
    (hba : H.get ba = some (.cells [.int .i64 a.1, .int .i64 a.2.1, .int .i64 a.2.2] 87 none)) (hbn : ba < H.next) (hv : Own H f 3 87 v (arcs.map arcCV)) (hk : HOk H) (hlen : arcs.length < 1000) :
    ∃ env' v' H' f', go Tryz.prog X 96 (sub (codeOf Tryz.f22) [true,true,true,true,false,true,false,false,true,true,false,false,true,true,true,true]) env H = some (.normal, env', H') ∧ Own H' f' 3 87 v' ((arcs ++ [a]).map arcCV) ∧ H'.get bx = some (.cells (xs.set a.2.1 v') 57 none) ∧ HOk H' ∧ H.next ≤ H'.next ∧ v' ≠ .nilSlice ∧ (v = .nilSlice → H.next ≤ f') ∧ (v ≠ .nilSlice → f' = f) ∧
      (∀ b o, b < H.next → b ≠ bx → H.get b = some o → (v ≠ .nilSlice → ∀ g p, o.fam = some (g, p) → g ≠ f) → H'.get b = some o) ∧ ∀ t, t < 76 → env'.get t = env.get t := by
  generalize hH1 : (H.skip 19).put (H.next + 15) (.cells [.int .i64 a.1, .int .i64 a.2.1, .int .i64 a.2.2] 87 none) = H1
  have hE1 : Ext H.next H H1 := by rw [← hH1]; exact Ext.skip.trans (Ext.put (by omega))
  have hk1 : HOk H1 := by rw [← hH1]; exact Hok.put rfl (Hok.skip 19 hk)
  have hn1 : H1.next = H.next + 19 := by rw [← hH1]; rfl
  have hg1 : H1.get (H.next + 15) = some (.cells [.int .i64 a.1, .int .i64 a.2.1, .int .i64 a.2.2] 87 none) := by rw [← hH1, Heap.get_put, if_pos rfl]
  have hx : elemsC H1 3 (.slice (H.next + 15) 0 1 (.exact 1)) = some ([arcCV a].length, [arcCV a].flatMap CV.cells) := by simp [elemsC, hg1, takeE, arcCV, CV.cells]
  obtain ⟨ti, hti, hts, htb⟩ := i79
  obtain ⟨v', H', f', happ, hf1, hf2, hown, hok, hnext, hkeep⟩ := (hv.ext hE1 hv.lt).append hk1 hx (by simp [arcCV, CV.cells]) (by simp) u74 u74 (by intro k e; cases e) hti hts (by omega) z79 rfl rfl
    (by simp only [List.length_map, List.length_cons, List.length_nil, htb]; omega) (by simp only [List.length_map, List.length_cons, List.length_nil]; omega)
  have hv' : ∃ b o n c, v' = .slice b o n c := by
    rcases hown.2 with ⟨_, e⟩ | ⟨b, _, e, _⟩
    · simp at e
    · exact ⟨_, _, _, _, e⟩
  have hvc : v'.cells = [v'] ∧ v'.single = true := by obtain ⟨b, o, n, c, rfl⟩ := hv'; exact ⟨rfl, rfl⟩
  have hbx' : H'.get bx = some (.cells xs 57 none) := hkeep bx _ (by omega) (hE1.2 bx _ hbxn hbx) (fun _ g p e => by simp [CObj.fam] at e)
  have hst := store_one (P := Tryz.prog) (t := 57) (k := a.2.1) s74 hvc.1 hvc.2 hbx' (by omega)
  have hown2 : Own (H'.put bx (.cells (xs.set a.2.1 v') 57 none)) f' 3 87 v' ((arcs ++ [a]).map arcCV) := by
    refine ⟨by simpa using hown.1, ?_⟩
    rcases hown.2 with ⟨_, e⟩ | ⟨b, p, e, e2, e3, e4, e5⟩
    · simp at e
    · refine .inr ⟨b, p, by simpa using e, by simp, e3, e4, ?_⟩
      rw [Heap.get_put, if_neg]
      · simpa using e5
      · rintro rfl; rw [hbx'] at e5; simp at e5
  suffices h : ∃ env', go Tryz.prog X 96 (sub (codeOf Tryz.f22) [true,true,true,true,false,true,false,false,true,true,false,false,true,true,true,true]) env H = some (.normal, env', H'.put bx (.cells (xs.set a.2.1 v') 57 none)) ∧ ∀ t, t < 76 → env'.get t = env.get t by
    obtain ⟨env', q1, q⟩ := h
    refine ⟨env', v', H'.put bx (.cells (xs.set a.2.1 v') 57 none), f', q1, hown2, by rw [Heap.get_put, if_pos rfl], Hok.put rfl hok, by show H.next ≤ H'.next; omega, ?_, fun e => by rw [hf1 e]; omega, hf2, fun b o hb hb2 ho hf => ?_, q⟩
    · obtain ⟨b, o, n, c, rfl⟩ := hv'; intro h; cases h
    · rw [Heap.get_put, if_neg hb2]; exact hkeep b o (by omega) (hE1.2 b o hb ho) hf
  have hgH : H'.get bg = some (.cells [nv, mv, av, .slice bx 0 n (.exact n)] 60 none) := hkeep bg _ (by omega) (hE1.2 bg _ hbg hg) (fun _ g p e => by simp [CObj.fam] at e)
  have hbaH : H'.get ba = some (.cells [.int .i64 a.1, .int .i64 a.2.1, .int .i64 a.2.2] 87 none) := hkeep ba _ (by omega) (hE1.2 ba _ hbn hba) (fun _ g p e => by simp [CObj.fam] at e)
  simp only [codeOf, Tryz.f22, sub]
  rw [go_planned [(6,0,[3],false),(7,0,[82],false),(8,0,[83],false),(9,0,[84],false),(10,0,[8],false),(11,0,[86],false),(12,0,[85,87],false),(13,0,[88],false),(14,0,[8],false),(15,0,[90],false),(16,0,[89,91],true),
    (0,0,[3],false),(1,0,[76],false),(2,0,[77],false),(3,0,[78],false),(4,0,[8],false),(5,0,[80],false),(17,1,[79,81],false),(18,1,[93,92],true)] rfl (by kernel_rfl)]
  simp only [drawStep_guard, guardDS_true, guardDS_false, guardVal, BEq.rfl, planRun_cons, planRun_nil, planStep, planEnd, List.getElem?_cons_zero, List.getElem?_cons_succ, drawStep_eq, kindOf, quietAt, quietC, evR, evC, memN, beq_dec, Nat.reduceEqDiff, decide_true, decide_false, setDS_some, loudDS_some, loudDS_none, allocDS_some, Nat.reduceLT, Tr.get_set, if_true, if_false, Option.map_some, Option.bind_some, List.length_cons, List.length_nil, sameAt, Nat.reduceAdd, Nat.reduceSub, ofVal, loadC, Heap.skip_get, Heap.get_put, loudStep, isCall, targetC, evs, evParts, mapO, List.cons_append, List.nil_append, List.append_nil, putAll, ne_eq, reduceCtorEq, not_false_eq_true, Int.reduceEq, eq_self, cbeq_int, cbeq_ptr, cbeq_str, cbeq_bool, cbeq_map, cbeq_slice, cbeq_nilSlice, Bool.and_self, Bool.and_true, Int.reduceNeg, List.append_eq, loudC, List.getElem?_toArray, h3, h8, fa77_3, fa79_1, g3, g74, g75, g79, s79, hg, hba, hbx, hxv, hgH, hbaH, takeE, List.drop_zero, Nat.zero_add, List.getElem?_cons_zero, List.getElem?_cons_succ, bs74, CV.cells, idx75 hlo, hH1, happ, hst]
  refine ⟨_, rfl, fun t ht => ?_⟩
  simp only [Tr.get_set]
  simp only [show t ≠ 76 by omega, show t ≠ 77 by omega, show t ≠ 78 by omega, show t ≠ 79 by omega, show t ≠ 80 by omega, show t ≠ 81 by omega, show t ≠ 82 by omega, show t ≠ 83 by omega, show t ≠ 84 by omega, show t ≠ 85 by omega, show t ≠ 86 by omega, show t ≠ 87 by omega, show t ≠ 88 by omega,
    show t ≠ 89 by omega, show t ≠ 90 by omega, show t ≠ 91 by omega, show t ≠ 92 by omega, show t ≠ 93 by omega, if_false]
end Go.Y
