/- build: the whole. slices.Repeat of one number. distances: one arc. -/
import Derived.Test.YtmnhkbhdfkebmaaGreatDoorZ4

set_option linter.unusedSimpArgs false
set_option linter.unusedVariables false

namespace Go.Z
open Go.K Go.Proofs
set_option linter.unusedSimpArgs false
set_option linter.unusedVariables false
set_option maxRecDepth 10000

variable {X : CallFn}

theorem build_exit2 {env : Env} {H : Heap} {n : Nat} (h41 : env.get 41 = some (.int .i64 n)) (h42 : env.get 42 = some (.int .i64 n)) :
    go Tryz.prog X 96 (sub (codeOf Tryz.f16) [true,true,true,true,false,true,false,false]) env H = some (.exit 2, env.set 43 (.bool false), H) := by
  have e1 : ¬ ((n : Int) < (n : Int)) := by omega
  simp only [codeOf, Tryz.f16, sub, go_seq, go_region, opsSeq_step, opsSeq_guard, guardStep_true, guardStep_false, guardVal, opsSeq_nil, afterStep_some, afterStep_none, stepC, kindOf, quietC, evC, Nat.reduceLT, Tr.get_set, if_true, if_false, Nat.reduceEqDiff, Option.map_some, Option.bind_some, List.getElem?_toArray, List.getElem?_cons_zero, List.getElem?_cons_succ, ofVal, decide_true, decide_false, BEq.rfl, andThen_normal, andThen_exit, andThen_ret, inBlock_normal, inBlock_ret, go_skip, go_exit, go_ret, loudStep, isCall, loudC, targetC, evs, evParts, mapO, List.nil_append, List.append_nil, List.cons_append, loadC, Heap.skip_get, Heap.get_put, Heap.skip_next, Heap.put_next, h41, h42, bin_lss, e1]
  rw [go_cond _ _ _ (v := false) (by simp only [evC, Tr.get_set, if_true])]
  simp only [Bool.false_eq_true, if_false, go_exit, andThen_exit]

theorem build_loop2 {n1 bg bm bx : Nat} {l nv : CV} {us : List Nat} {rs : List (Nat × Nat × Nat)} (hr : rs.length ≤ 900) (hus : ∀ y ∈ us, y < 100) (hmem : ∀ r ∈ rs, r.2.1 ∈ us ∧ r.2.2 ∈ us) (hln : ∀ b off len cap, l = .slice b off len cap → b < n1 ∧ b ≠ bg ∧ b ≠ bx) :
    ∀ (k i : Nat) (env : Env) (H : Heap) (av : CV) (xs : List CV) (fa : Nat) (fs : Nat → Nat), i + k = rs.length → env.get 3 = some (.ptr bg 0) → env.get 40 = some l → env.get 41 = some (.int .i64 rs.length) → env.get 42 = some (.int .i64 i) →
      Has H 3 42 l (rs.map relCV) → GS n1 H bg bm bx nv av xs us (arcsFrom us 0 (rs.take i)) fa fs →
    ∃ (env' : Env) (H' : Heap) (av' : CV) (xs' : List CV) (fa' : Nat) (fs' : Nat → Nat), go Tryz.prog X 96 (sub (codeOf Tryz.f16) [true,true,true,true,false,true,false]) env H = some (.exit 2, env', H') ∧ env'.get 3 = some (.ptr bg 0) ∧ GS n1 H' bg bm bx nv av' xs' us (arcsFrom us 0 rs) fa' fs' ∧ Old n1 bg bx H H' := by
  have hcode : sub (codeOf Tryz.f16) [true,true,true,true,false,true,false] = .loop (sub (codeOf Tryz.f16) [true,true,true,true,false,true,false,false]) := rfl
  intro k
  induction k with
  | zero =>
    intro i env H av xs fa fs hik h3 h40 h41 h42 hl hgs
    have : i = rs.length := by omega
    subst this
    rw [hcode, go_loop, build_exit2 h41 h42, andThen_exit]
    rw [List.take_length] at hgs
    exact ⟨_, H, av, xs, fa, fs, rfl, by simp only [Tr.get_set, Nat.reduceEqDiff, if_false, h3], hgs, Old.refl _ _ _ _⟩
  | succ k ih =>
    intro i env H av xs fa fs hik h3 h40 h41 h42 hl hgs
    obtain ⟨e1, H1, av1, xs1, fa1, fs1, g1, a3, a40, a41, a42, ags, aold⟩ := build_body2 (X := X) hr (by omega) hus hmem h3 h40 h41 h42 hl hgs
    obtain ⟨e2, H2, av2, xs2, fa2, fs2, g2, b3, bgs, bold⟩ := ih (i + 1) e1 H1 av1 xs1 fa1 fs1 (by omega) a3 a40 a41 a42 (hl.old' aold hln) ags
    refine ⟨e2, H2, av2, xs2, fa2, fs2, ?_, b3, bgs, aold.trans bold⟩
    rw [hcode, go_loop, g1, andThen_normal, ← hcode]
    exact g2

theorem build77 (b : Nat) {nv : CV} (h : nv = .nilSlice ∨ ∃ b o l c, nv = .slice b o l c) : buildC Tryz.prog 77 [(0, nv), (1, .map b)] = some (.agg [nv, .map b, .nilSlice, .nilSlice]) := by
  rcases h with rfl | ⟨b', o, l, c, rfl⟩
  · kernel_rfl
  · kernel_rfl
theorem rep_replicate (n : Nat) (z : CV) : rep n [z] = List.replicate n z := by
  induction n with
  | zero => rfl
  | succ n ih => simp [rep, ih, List.replicate_succ]
theorem i74z : ∃ i : TypeInfo, Tryz.prog.info? 74 = some i ∧ i.size = 0 + 1 ∧ i.bytes = 24 := info_of (by kernel_rfl)
theorem mk75 {n : Nat} (hn : n ≤ 1000) (ρ : Operand → Option CV) (x : Operand) (hx : ρ x = some (.int .i64 (n : Int))) :
    allocC Tryz.prog (.makeSlice 75 x x) ρ = some (.cells (List.replicate n .nilSlice) 74 none, fun b => .slice b 0 n (.exact n)) := by
  obtain ⟨i, h1, h2, h3⟩ := i74z
  have hx' : ρ x = some (.int .i64 (Int.ofNat n)) := hx
  simp only [allocC, u75, hx', h1, h2, h3, ble_t (Nat.le_refl n), ble_t (show n ≤ 140737488355328 by omega), ble_t (show 24 * n ≤ 140737488355328 by omega), Bool.and_self]
  cases n with
  | zero => rfl
  | succ n =>
    simp only [zerosC, z74, Option.bind_some, List.length_singleton, Nat.zero_add, beq_t rfl, Option.map_some, rep_replicate]

theorem Has.nilOrSlice {H : Heap} {sz e : Nat} {v : CV} {vs : List CV} (h : Has H sz e v vs) : v = .nilSlice ∨ ∃ b o l c, v = .slice b o l c := by
  rcases h.2 with ⟨e, _⟩ | ⟨b, o, c, _, _, e, _⟩
  · exact .inl e
  · exact .inr ⟨b, o, _, c, e⟩

theorem build_ok (hX : ∀ a H, X 16 a H = none) (hX18 : ∀ a H, X 18 a H = none) (hX33 : ∀ a H, X 33 a H = none) (hS : SortOK X) {l : CV} {rs : List (Nat × Nat × Nat)} {H : Heap} (hr : rs.length ≤ 30) (hR : ∀ r ∈ rs, Right r)
    (hl : Has H 3 42 l (rs.map relCV)) (hk : HOk H) :
    ∃ (bg bm bx n1 fa : Nat) (nv av : CV) (xs : List CV) (fs : Nat → Nat) (H' : Heap), calls Tryz.prog X 16 [l] H = some (.ptr bg 0, H') ∧ GS n1 H' bg bm bx nv av xs (unitsOf rs) (arcsFrom (unitsOf rs) 0 rs) fa fs ∧ Ext H.next H H' ∧ H.next ≤ bg := by
  have hcode : codeOf Tryz.f16 = .seq (sub (codeOf Tryz.f16) [false]) (.seq (sub (codeOf Tryz.f16) [true,false]) (.seq (.seq (sub (codeOf Tryz.f16) [true,true,false,false]) (.block 0 (sub (codeOf Tryz.f16) [true,true,false,true,false]))) (.seq (sub (codeOf Tryz.f16) [true,true,true,false])
    (.seq (.seq (sub (codeOf Tryz.f16) [true,true,true,true,false,false]) (.block 2 (sub (codeOf Tryz.f16) [true,true,true,true,false,true,false]))) (.seq (sub (codeOf Tryz.f16) [true,true,true,true,true,false]) .ret))))) := rfl
  have hn8 := right_names hR
  have hus8 : ∀ y ∈ unitsOf rs, y < 100 := fun y hy => by
    have := (mem_unitsOf (rs := rs) (fun x hx => by have := hn8 x hx; omega)).1 hy
    have := hn8 y this; omega
  have hmem : ∀ r ∈ rs, r.2.1 ∈ unitsOf rs ∧ r.2.2 ∈ unitsOf rs := by
    intro r hr'
    have hm := fun x => mem_unitsOf (rs := rs) (x := x) (fun x hx => by have := hn8 x hx; omega)
    refine ⟨(hm _).2 ?_, (hm _).2 ?_⟩ <;> simp only [namesOf, List.mem_flatMap] <;> exact ⟨r, hr', by simp⟩
  have hul : (unitsOf rs).length ≤ 100 := by
    have := (List.filter_sublist (l := List.range 100) (p := fun x => decide (x ∈ namesOf rs))).length_le
    rw [List.length_range] at this; exact this
  obtain ⟨nv, H1, c1, c2, c3, c4⟩ := units_ok hX18 hX33 hS (H := H) (l := l) (rs := rs) (by omega) (fun x hx => by have := hn8 x hx; omega) hl hk
  have hlen := c2.len (P := Tryz.prog) u30
  rw [List.length_map] at hlen
  generalize hH2 : (H1.skip 1).put H1.next (.map [] 0) = H2
  have n2 : H2.next = H1.next + 1 := by rw [← hH2]; rfl
  have x2 : Ext H1.next H1 H2 := by rw [← hH2]; exact Ext.skip.trans (Ext.put (Nat.le_refl _))
  have k2 : HOk H2 := by rw [← hH2]; exact Hok.put rfl (Hok.skip 1 c3)
  generalize hH3 : (H2.skip 1).put H2.next (.cells [nv, .map H1.next, .nilSlice, .nilSlice] 77 none) = H3
  have n3 : H3.next = H1.next + 2 := by rw [← hH3]; show H2.next + 1 = _; omega
  have x3 : Ext H2.next H2 H3 := by rw [← hH3]; exact Ext.skip.trans (Ext.put (Nat.le_refl _))
  have k3 : HOk H3 := by rw [← hH3]; exact Hok.put rfl (Hok.skip 1 k2)
  have hg3 : H3.get H2.next = some (.cells [nv, .map H1.next, .nilSlice, .nilSlice] 77 none) := by rw [← hH3, Heap.get_put, if_pos rfl]
  have hm3 : H3.get H1.next = some (.map (entriesFrom 0 ((unitsOf rs).take 0)) ((unitsOf rs).take 0).length) := x3.2 _ _ (by omega) (by rw [← hH2, Heap.get_put, if_pos rfl]; rfl)
  have x13 : Ext H1.next H1 H3 := x2.trans (x3.le (by omega))
  have g0 : go Tryz.prog X 96 (sub (codeOf Tryz.f16) [false]) (envOf [l] 0 .nil) H = some (.normal, (envOf [l] 0 .nil).set 2 .nilPtr, H) := by simp only [codeOf, Tryz.f16, sub, go_seq, go_region, opsSeq_step, opsSeq_guard, guardStep_true, guardStep_false, guardVal, opsSeq_nil, afterStep_some, afterStep_none, stepC, kindOf, quietC, evC, Nat.reduceLT, Tr.get_set, if_true, if_false, Nat.reduceEqDiff, Option.map_some, Option.bind_some, List.getElem?_toArray, List.getElem?_cons_zero, List.getElem?_cons_succ, ofVal, decide_true, decide_false, BEq.rfl, andThen_normal, andThen_exit, andThen_ret, inBlock_normal, inBlock_ret, go_skip, go_exit, go_ret, loudStep, isCall, loudC, targetC, evs, evParts, mapO, List.nil_append, List.append_nil, List.cons_append, loadC, Heap.skip_get, Heap.get_put, Heap.skip_next, Heap.put_next]
  have h0 : ((envOf [l] 0 .nil).set 2 .nilPtr).get 0 = some l := by simp [envOf, Tr.get_set]
  have g1 : ∃ e, go Tryz.prog X 96 (sub (codeOf Tryz.f16) [true,false]) ((envOf [l] 0 .nil).set 2 .nilPtr) H = some (.normal, e, H3) ∧ e.get 0 = some l ∧ e.get 3 = some (.ptr H2.next 0) := by
    simp only [codeOf, Tryz.f16, sub, go_seq, go_region, opsSeq_step, opsSeq_guard, guardStep_true, guardStep_false, guardVal, opsSeq_nil, afterStep_some, afterStep_none, stepC, kindOf, quietC, evC, Nat.reduceLT, Tr.get_set, if_true, if_false, Nat.reduceEqDiff, Option.map_some, Option.bind_some, List.getElem?_toArray, List.getElem?_cons_zero, List.getElem?_cons_succ, ofVal, decide_true, decide_false, BEq.rfl, andThen_normal, andThen_exit, andThen_ret, inBlock_normal, inBlock_ret, go_skip, go_exit, go_ret, loudStep, isCall, loudC, targetC, evs, evParts, mapO, List.nil_append, List.append_nil, List.cons_append, loadC, Heap.skip_get, Heap.get_put, Heap.skip_next, Heap.put_next, h0, c1, allocC, hH2, build77 _ (Has.nilOrSlice c2), CV.cells, hH3]
    exact ⟨_, rfl, by simp only [Tr.get_set, Nat.reduceEqDiff, if_true, if_false, h0], by simp only [Tr.get_set, Nat.reduceEqDiff, if_true, if_false]⟩
  obtain ⟨e1, g1, a0, a3⟩ := g1
  have g2 : ∃ e, go Tryz.prog X 96 (sub (codeOf Tryz.f16) [true,true,false,false]) e1 H3 = some (.normal, e, H3) ∧ e.get 0 = some l ∧ e.get 3 = some (.ptr H2.next 0) ∧ e.get 17 = some nv ∧ e.get 18 = some (.int .i64 (unitsOf rs).length) ∧ e.get 19 = some (.int .i64 (0 : Nat)) := by
    simp only [codeOf, Tryz.f16, sub, go_seq, go_region, opsSeq_step, opsSeq_guard, guardStep_true, guardStep_false, guardVal, opsSeq_nil, afterStep_some, afterStep_none, stepC, kindOf, quietC, evC, Nat.reduceLT, Tr.get_set, if_true, if_false, Nat.reduceEqDiff, Option.map_some, Option.bind_some, List.getElem?_toArray, List.getElem?_cons_zero, List.getElem?_cons_succ, ofVal, decide_true, decide_false, BEq.rfl, andThen_normal, andThen_exit, andThen_ret, inBlock_normal, inBlock_ret, go_skip, go_exit, go_ret, loudStep, isCall, loudC, targetC, evs, evParts, mapO, List.nil_append, List.append_nil, List.cons_append, loadC, Heap.skip_get, Heap.get_put, Heap.skip_next, Heap.put_next, a0, a3, fa77_0, g30, hg3, hlen]
    exact ⟨_, rfl, by simp only [Tr.get_set, Nat.reduceEqDiff, if_true, if_false, a0], by simp only [Tr.get_set, Nat.reduceEqDiff, if_true, if_false, a3], by simp only [Tr.get_set, Nat.reduceEqDiff, if_true, if_false], by simp only [Tr.get_set, Nat.reduceEqDiff, if_true, if_false], by simp only [Tr.get_set, if_true]; rfl⟩
  obtain ⟨e2, g2, b0, b3, b17, b18, b19⟩ := g2
  obtain ⟨e3, H4, g3, d0, d3, dg, dm, dk, dx, dn⟩ := build_loop1 (X := X) (l := l) (nv := nv) (us := unitsOf rs) (bg := H2.next) (bm := H1.next) (by omega) hus8 (unitsOf_sorted rs) (by omega) c2.lt (unitsOf rs).length 0 e2 H3 (by omega) b0 b3 b17 b18 b19 hg3 hm3 (c2.ext x13 c2.lt) k3
  generalize hH5 : (H4.skip 1).put H4.next (.cells (List.replicate (unitsOf rs).length .nilSlice) 74 none) = H5
  have n5 : H5.next = H1.next + 3 := by rw [← hH5]; show H4.next + 1 = _; omega
  have x5 : Ext H4.next H4 H5 := by rw [← hH5]; exact Ext.skip.trans (Ext.put (Nat.le_refl _))
  have k5 : HOk H5 := by rw [← hH5]; exact Hok.put rfl (Hok.skip 1 dk)
  have hg5 : H5.get H2.next = some (.cells [nv, .map H1.next, .nilSlice, .nilSlice] 77 none) := x5.2 _ _ (by omega) dg
  have hst := store_one (P := Tryz.prog) (t := 75) (k := 3) (v := .slice H4.next 0 (unitsOf rs).length (.exact (unitsOf rs).length)) (by kernel_rfl) rfl rfl hg5 (by simp)
  simp only [List.set_cons_succ, List.set_cons_zero] at hst
  generalize hH6 : H5.put H2.next (.cells [nv, .map H1.next, .nilSlice, .slice H4.next 0 (unitsOf rs).length (.exact (unitsOf rs).length)] 77 none) = H6 at hst
  have n6 : H6.next = H1.next + 3 := by rw [← hH6]; exact n5
  have k6 : HOk H6 := by rw [← hH6]; exact Hok.put rfl k5
  have x56 : Ext H2.next H5 H6 := by rw [← hH6]; exact Ext.put (Nat.le_refl _)
  have mk : ∀ ρ : Operand → Option CV, ρ (.tmp 36) = some (.int .i64 ((unitsOf rs).length : Int)) → allocC Tryz.prog (.makeSlice 75 (.tmp 36) (.tmp 36)) ρ = some (.cells (List.replicate (unitsOf rs).length .nilSlice) 74 none, fun b => .slice b 0 (unitsOf rs).length (.exact (unitsOf rs).length)) := fun ρ h => mk75 (by omega) ρ (.tmp 36) h
  have g4 : ∃ e, go Tryz.prog X 96 (sub (codeOf Tryz.f16) [true,true,true,false]) e3 H4 = some (.normal, e, H6) ∧ e.get 0 = some l ∧ e.get 3 = some (.ptr H2.next 0) := by
    simp only [codeOf, Tryz.f16, sub, go_seq, go_region, opsSeq_step, opsSeq_guard, guardStep_true, guardStep_false, guardVal, opsSeq_nil, afterStep_some, afterStep_none, stepC, kindOf, quietC, evC, Nat.reduceLT, Tr.get_set, if_true, if_false, Nat.reduceEqDiff, Option.map_some, Option.bind_some, List.getElem?_toArray, List.getElem?_cons_zero, List.getElem?_cons_succ, ofVal, decide_true, decide_false, BEq.rfl, andThen_normal, andThen_exit, andThen_ret, inBlock_normal, inBlock_ret, go_skip, go_exit, go_ret, loudStep, isCall, loudC, targetC, evs, evParts, mapO, List.nil_append, List.append_nil, List.cons_append, loadC, Heap.skip_get, Heap.get_put, Heap.skip_next, Heap.put_next, d0, d3, fa77_0, fa77_3, g30, dg, hlen, mk, hH5, hst]
    exact ⟨_, rfl, by simp only [Tr.get_set, Nat.reduceEqDiff, if_true, if_false, d0], by simp only [Tr.get_set, Nat.reduceEqDiff, if_true, if_false, d3]⟩
  obtain ⟨e4, g4, p0, p3⟩ := g4
  have hl6 : Has H6 3 42 l (rs.map relCV) := ((((hl.ext c4 hl.lt).ext x13 (hl.ext c4 hl.lt).lt).ext (dx.le (Nat.le_refl _)) (fun b o n c e => by have := (hl.ext c4 hl.lt).lt b o n c e; omega)).ext (x5.le (show H1.next ≤ H4.next by omega)) (fun b o n c e => (hl.ext c4 hl.lt).lt b o n c e)).ext (x56.le (show H1.next ≤ H2.next by omega)) (fun b o n c e => (hl.ext c4 hl.lt).lt b o n c e)
  have hllen := hl.len (P := Tryz.prog) u24
  rw [List.length_map] at hllen
  have g5 : ∃ e, go Tryz.prog X 96 (sub (codeOf Tryz.f16) [true,true,true,true,false,false]) e4 H6 = some (.normal, e, H6) ∧ e.get 3 = some (.ptr H2.next 0) ∧ e.get 40 = some l ∧ e.get 41 = some (.int .i64 rs.length) ∧ e.get 42 = some (.int .i64 (0 : Nat)) := by
    simp only [codeOf, Tryz.f16, sub, go_seq, go_region, opsSeq_step, opsSeq_guard, guardStep_true, guardStep_false, guardVal, opsSeq_nil, afterStep_some, afterStep_none, stepC, kindOf, quietC, evC, Nat.reduceLT, Tr.get_set, if_true, if_false, Nat.reduceEqDiff, Option.map_some, Option.bind_some, List.getElem?_toArray, List.getElem?_cons_zero, List.getElem?_cons_succ, ofVal, decide_true, decide_false, BEq.rfl, andThen_normal, andThen_exit, andThen_ret, inBlock_normal, inBlock_ret, go_skip, go_exit, go_ret, loudStep, isCall, loudC, targetC, evs, evParts, mapO, List.nil_append, List.append_nil, List.cons_append, loadC, Heap.skip_get, Heap.get_put, Heap.skip_next, Heap.put_next, p0, p3, hllen]
    exact ⟨_, rfl, by simp only [Tr.get_set, Nat.reduceEqDiff, if_true, if_false, p3], by simp only [Tr.get_set, Nat.reduceEqDiff, if_true, if_false], by simp only [Tr.get_set, Nat.reduceEqDiff, if_true, if_false], by simp only [Tr.get_set, if_true]; rfl⟩
  obtain ⟨e5, g5, q3, q40, q41, q42⟩ := g5
  have hnv6 : Has H6 1 9 nv ((unitsOf rs).map nm) := ((((c2.ext x13 c2.lt).ext dx c2.lt).ext (x5.le (show H1.next ≤ H4.next by omega)) c2.lt).ext (x56.le (show H1.next ≤ H2.next by omega)) c2.lt)
  have hgs : GS (H1.next + 3) H6 H2.next H1.next H4.next nv .nilSlice (List.replicate (unitsOf rs).length .nilSlice) (unitsOf rs) (arcsFrom (unitsOf rs) 0 (rs.take 0)) 0 (fun _ => 0) := by
    refine ⟨by rw [← hH6, Heap.get_put, if_pos rfl], ?_, ?_, by simp, hnv6, ⟨by simp [arcsFrom], .inl ⟨rfl, by simp [arcsFrom]⟩⟩, fun j v hj => ?_, fun h => absurd rfl h, fun j v hj hv => ?_, fun h => absurd rfl h, fun i j v w hi hj hij hv => ?_, k6, by omega, by omega, by omega, by omega, fun b o n c e => ?_, by omega, by omega, by omega⟩
    · rw [← hH6, Heap.get_put, if_neg (by omega)]; exact x5.2 _ _ (by omega) dm
    · rw [← hH6, Heap.get_put, if_neg (by omega), ← hH5, Heap.get_put, if_pos rfl]
    · have := (List.getElem?_replicate.symm.trans hj)
      split at this
      · injection this with this; subst this; exact ⟨by simp [outOf, arcsFrom], .inl ⟨rfl, by simp [outOf, arcsFrom]⟩⟩
      · cases this
    · have := (List.getElem?_replicate.symm.trans hj)
      split at this
      · injection this with this; exact absurd this.symm hv
      · cases this
    · have := (List.getElem?_replicate.symm.trans hi)
      split at this
      · injection this with this; exact absurd this.symm hv
      · cases this
    · have := c2.lt b o n c e; omega
  obtain ⟨e6, H7, av, xs, fa, fs, g6, r3, rgs, rold⟩ := build_loop2 (X := X) (l := l) (by omega) hus8 hmem (fun b o n c e => by have := (hl.ext c4 hl.lt).lt b o n c e; omega) rs.length 0 e5 H6 .nilSlice _ 0 (fun _ => 0) (by omega) q3 q40 q41 q42 hl6 hgs
  have g7 : ∃ e, go Tryz.prog X 96 (sub (codeOf Tryz.f16) [true,true,true,true,true,false]) e6 H7 = some (.normal, e, H7) ∧ e.get 2 = some (.ptr H2.next 0) := by
    simp only [codeOf, Tryz.f16, sub, go_seq, go_region, opsSeq_step, opsSeq_guard, guardStep_true, guardStep_false, guardVal, opsSeq_nil, afterStep_some, afterStep_none, stepC, kindOf, quietC, evC, Nat.reduceLT, Tr.get_set, if_true, if_false, Nat.reduceEqDiff, Option.map_some, Option.bind_some, List.getElem?_toArray, List.getElem?_cons_zero, List.getElem?_cons_succ, ofVal, decide_true, decide_false, BEq.rfl, andThen_normal, andThen_exit, andThen_ret, inBlock_normal, inBlock_ret, go_skip, go_exit, go_ret, loudStep, isCall, loudC, targetC, evs, evParts, mapO, List.nil_append, List.append_nil, List.cons_append, loadC, Heap.skip_get, Heap.get_put, Heap.skip_next, Heap.put_next, r3]
    exact ⟨_, rfl, by simp only [Tr.get_set, if_true]⟩
  obtain ⟨e7, g7, s2⟩ := g7
  have c4n := c4.1
  refine ⟨H2.next, H1.next, H4.next, H1.next + 3, fa, nv, av, xs, fs, H7, calls_ret (hX _ _) Tryz.func16 rfl (by decide) (nt := 96) rfl (env' := e7) ?_ (results_one s2), rgs, ?_, by omega⟩
  · rw [hcode, go_seq, g0, andThen_normal, go_seq, g1, andThen_normal, go_seq, go_seq, g2, andThen_normal, go_block, g3, inBlock_exit, if_pos rfl, andThen_normal, go_seq, g4, andThen_normal, go_seq, go_seq, g5, andThen_normal, go_block, g6, inBlock_exit, if_pos rfl, andThen_normal,
      go_seq, g7, andThen_normal, go_ret]
  · have y1 : Ext H.next H H6 := (((c4.trans (x13.le c4n)).trans (dx.le c4n)).trans (x5.le (by omega))).trans (x56.le (by omega))
    exact ⟨Nat.le_trans y1.1 rold.1, fun b o hb ho => rold.2 b o (by omega) (by omega) (by omega) (y1.2 b o hb ho)⟩
end Go.Z

namespace Go.Z
open Go.K Go.Proofs
set_option linter.unusedSimpArgs false
set_option linter.unusedVariables false
set_option maxRecDepth 10000

variable {X : CallFn}

theorem u117 : Tryz.prog.underlying 117 = some (.int .u64) := by kernel_rfl
/-- What is wanted of bits.Mul at 1. -/
def MulOK (X : CallFn) : Prop := ∀ (n : Nat) (H : Heap), n ≤ 16 → calls Tryz.prog X 77 [.int .u64 1, .int .u64 (n : Int)] H = some (.tuple [.int .u64 0, .int .u64 (n : Int)], H)

theorem mk26 {n : Nat} (hn : n ≤ 1000) (ρ : Operand → Option CV) (x : Operand) (hx : ρ x = some (.int .i64 (n : Int))) :
    allocC Tryz.prog (.makeSlice 26 x x) ρ = some (.cells (List.replicate n (.int .i64 0)) 3 none, fun b => .slice b 0 n (.exact n)) := by
  obtain ⟨i, h1, h2, h3⟩ := i3
  have hx' : ρ x = some (.int .i64 (Int.ofNat n)) := hx
  simp only [allocC, u26, hx', h1, h2, h3, ble_t (Nat.le_refl n), ble_t (show n ≤ 140737488355328 by omega), ble_t (show 8 * n ≤ 140737488355328 by omega), Bool.and_self]
  cases n with
  | zero => rfl
  | succ n =>
    simp only [zerosC, z3, Option.bind_some, List.length_singleton, Nat.zero_add, beq_t rfl, Option.map_some, rep_replicate]

/-- k times the number, and then nothing. -/
def half (c : CV) (k n : Nat) : List CV := List.replicate k c ++ List.replicate (n - k) (.int .i64 0)
theorem half_length {c : CV} {k n : Nat} (h : k ≤ n) : (half c k n).length = n := by simp [half]; omega

theorem slice26_lo {H : Heap} {b n k e : Nat} {cs : List CV} {fam : Option (Nat × Nat)} (hk : k < n) :
    sliceC Tryz.prog H 26 (.slice b 0 n (.exact n)) (some (.int .i64 (k : Int))) none none = some (.slice b k (n - k) (.exact (n - k))) := by
  show sliceC Tryz.prog H 26 _ (some (.int .i64 (Int.ofNat k))) none none = _
  simp only [sliceC, u26, s3, Option.bind_some, roomC, cutIdxO, cutHi, cutIdx, ble_t (show k ≤ n by omega), recut, Option.isSome_none, startC, beq_f (show n ≠ k by omega), Nat.zero_add, Nat.mul_one]
theorem slice26_hi {H : Heap} {b n k : Nat} (hk : k ≤ n) (hk0 : 0 < k) :
    sliceC Tryz.prog H 26 (.slice b 0 n (.exact n)) none (some (.int .i64 (k : Int))) none = some (.slice b 0 k (.exact n)) := by
  show sliceC Tryz.prog H 26 _ none (some (.int .i64 (Int.ofNat k))) none = _
  simp only [sliceC, u26, s3, Option.bind_some, roomC, cutIdxO, cutHi, cutIdx, ble_t hk, ble_t (Nat.zero_le k), recut, Option.isSome_none, startC, beq_f (show n ≠ 0 by omega), Nat.zero_add, Nat.zero_mul, Nat.sub_zero]

theorem copy_half {H : Heap} {b n k : Nat} {c : CV} (hc : c.single = true) (hg : H.get b = some (.cells (half c k n) 3 none)) (hk : k < n) (hk0 : 0 < k) :
    copyC Tryz.prog 26 H (.slice b k (n - k) (.exact (n - k))) (.slice b 0 k (.exact n)) = some (.int .i64 (min k (n - k) : Nat), H.put b (.cells (half c (k + min k (n - k)) n) 3 none)) := by
  obtain ⟨k', rfl⟩ : ∃ q, k = q + 1 := ⟨k - 1, by omega⟩
  have h1 : takeE ((k' + 1) * (0 + 1)) (List.drop 0 (half c (k' + 1) n)) = some (List.replicate (k' + 1) c) := by
    rw [List.drop_zero, takeE_of (by rw [half_length (by omega)]; omega)]
    simp [half, List.take_append_of_le_length]
  have h2 : takeE (Nat.min (k' + 1) (n - (k' + 1)) * (0 + 1)) (List.replicate (k' + 1) c) = some (List.replicate (min (k' + 1) (n - (k' + 1))) c) := by
    have : Nat.min (k' + 1) (n - (k' + 1)) ≤ k' + 1 := Nat.min_le_left _ _
    rw [takeE_of (by rw [List.length_replicate]; omega), List.take_replicate]
    congr 2
    show min (Nat.min (k' + 1) (n - (k' + 1)) * (0 + 1)) (k' + 1) = _
    have e : Nat.min (k' + 1) (n - (k' + 1)) = min (k' + 1) (n - (k' + 1)) := rfl
    rw [e]; omega
  have hall : (List.replicate (min (k' + 1) (n - (k' + 1))) c).all CV.single = true := by
    rw [List.all_eq_true]; intro x hx; rw [List.eq_of_mem_replicate hx]; exact hc
  have hsp : splice (half c (k' + 1) n) (k' + 1) (List.replicate (min (k' + 1) (n - (k' + 1))) c) = half c (k' + 1 + min (k' + 1) (n - (k' + 1))) n := by
    unfold splice half
    rw [List.take_append_of_le_length (by simp), List.take_of_length_le (by simp), List.length_replicate, List.drop_append, List.drop_of_length_le (by simp), List.nil_append, List.length_replicate, List.drop_replicate, List.replicate_append_replicate]
    congr 2
    omega
  simp only [copyC, u26, s3, elemsC, hg, Option.bind_some]
  simp only [h1, Option.map_some, Option.bind_some, h2, writeC, hg, List.length_replicate, half_length (show k' + 1 ≤ n by omega), ble_t (show k' + 1 + min (k' + 1) (n - (k' + 1)) ≤ n by omega), hall, Bool.and_self, hsp, Heap.upd, CObj.fam]

theorem repeat_loop {b n : Nat} {c : CV} (hc : c.single = true) (hn : n ≤ 1000) : ∀ (d k : Nat) (env : Env) (H : Heap), n - k ≤ d → 0 < k → k ≤ n → env.get 7 = some (.slice b 0 n (.exact n)) → env.get 8 = some (.int .i64 k) → H.get b = some (.cells (half c k n) 3 none) → HOk H →
    ∃ env' H', go Tryz.prog X 48 (sub (codeOf Tryz.f59) [true,true,true,true,true,true,false,false]) env H = some (.exit 0, env', H') ∧ env'.get 7 = some (.slice b 0 n (.exact n)) ∧ H'.get b = some (.cells (List.replicate n c) 3 none) ∧ HOk H' ∧ Ext b H H' := by
  have hcode : sub (codeOf Tryz.f59) [true,true,true,true,true,true,false,false] = .loop (.seq (sub (codeOf Tryz.f59) [true,true,true,true,true,true,false,false,false,false]) (.block 1 (sub (codeOf Tryz.f59) [true,true,true,true,true,true,false,false,false,true,false]))) := rfl
  have g8 : ∀ (k : Nat) (env : Env) (H : Heap), env.get 7 = some (.slice b 0 n (.exact n)) → env.get 8 = some (.int .i64 k) → ∃ e, go Tryz.prog X 48 (sub (codeOf Tryz.f59) [true,true,true,true,true,true,false,false,false,false]) env H = (if k < n then some (.normal, e, H) else some (.exit 0, e, H)) ∧ ∀ t, t < 34 → e.get t = env.get t := by
    intro k env H h7 h8
    by_cases h : k < n
    · have e1 : (k : Int) < (n : Int) := by omega
      simp only [codeOf, Tryz.f59, sub, go_seq, go_region, opsSeq_step, opsSeq_guard, guardStep_true, guardStep_false, guardVal, opsSeq_nil, afterStep_some, afterStep_none, stepC, kindOf, quietC, evC, Nat.reduceLT, Tr.get_set, if_true, if_false, Nat.reduceEqDiff, Option.map_some, Option.bind_some, List.getElem?_toArray, List.getElem?_cons_zero, List.getElem?_cons_succ, ofVal, decide_true, decide_false, BEq.rfl, andThen_normal, andThen_exit, andThen_ret, inBlock_normal, inBlock_ret, go_skip, go_exit, go_ret, loudStep, isCall, loudC, targetC, evs, evParts, mapO, List.nil_append, List.append_nil, List.cons_append, loadC, Heap.skip_get, Heap.get_put, Heap.skip_next, Heap.put_next, h7, h8, lenC, u26, bin_lss, e1]
      rw [go_cond _ _ _ (v := true) (by simp only [evC, Tr.get_set, if_true])]
      simp only [go_skip, if_true, if_pos h]
      refine ⟨_, rfl, fun t ht => ?_⟩
      simp only [Tr.get_set, show t ≠ 34 by omega, show t ≠ 35 by omega, show t ≠ 36 by omega, show t ≠ 37 by omega, if_false]
    · have e1 : ¬ ((k : Int) < (n : Int)) := by omega
      simp only [codeOf, Tryz.f59, sub, go_seq, go_region, opsSeq_step, opsSeq_guard, guardStep_true, guardStep_false, guardVal, opsSeq_nil, afterStep_some, afterStep_none, stepC, kindOf, quietC, evC, Nat.reduceLT, Tr.get_set, if_true, if_false, Nat.reduceEqDiff, Option.map_some, Option.bind_some, List.getElem?_toArray, List.getElem?_cons_zero, List.getElem?_cons_succ, ofVal, decide_true, decide_false, BEq.rfl, andThen_normal, andThen_exit, andThen_ret, inBlock_normal, inBlock_ret, go_skip, go_exit, go_ret, loudStep, isCall, loudC, targetC, evs, evParts, mapO, List.nil_append, List.append_nil, List.cons_append, loadC, Heap.skip_get, Heap.get_put, Heap.skip_next, Heap.put_next, h7, h8, lenC, u26, bin_lss, e1]
      rw [go_cond _ _ _ (v := false) (by simp only [evC, Tr.get_set, if_true])]
      simp only [go_exit, Bool.false_eq_true, if_false, if_neg h]
      refine ⟨_, rfl, fun t ht => ?_⟩
      simp only [Tr.get_set, show t ≠ 34 by omega, show t ≠ 35 by omega, show t ≠ 36 by omega, show t ≠ 37 by omega, if_false]
  intro d
  induction d with
  | zero =>
    intro k env H hd hk0 hk h7 h8 hg hok
    have : k = n := by omega
    subst this
    obtain ⟨e, ge, qe⟩ := g8 k env H h7 h8
    rw [if_neg (Nat.lt_irrefl _)] at ge
    refine ⟨e, H, ?_, (qe 7 (by omega)).trans h7, by simpa [half] using hg, hok, Ext.refl _ _⟩
    rw [hcode, go_loop, go_seq, ge, andThen_exit, andThen_exit]
  | succ d ih =>
    intro k env H hd hk0 hk h7 h8 hg hok
    obtain ⟨e, ge, qe⟩ := g8 k env H h7 h8
    by_cases hlt : k < n
    · rw [if_pos hlt] at ge
      have a7 := (qe 7 (by omega)).trans h7
      have a8 := (qe 8 (by omega)).trans h8
      have hgs : (H.skip 10).get b = some (.cells (half c k n) 3 none) := hg
      have hcp := copy_half hc hgs hlt hk0
      have hw : wrap .i64 ((k : Int) + ((min k (n - k) : Nat) : Int)) = ((k + min k (n - k) : Nat) : Int) := by rw [wrap64 (by omega) (by omega)]; omega
      have g9 : ∃ e', go Tryz.prog X 48 (sub (codeOf Tryz.f59) [true,true,true,true,true,true,false,false,false,true,false]) e H = some (.normal, e', (H.skip 10).put b (.cells (half c (k + min k (n - k)) n) 3 none)) ∧ e'.get 7 = some (.slice b 0 n (.exact n)) ∧ e'.get 8 = some (.int .i64 (k + min k (n - k) : Nat)) := by
        simp only [codeOf, Tryz.f59, sub]
        rw [go_planned [(1,0,[7],false),(2,0,[8],false),(3,0,[39,40],false),(4,0,[7],false),(5,0,[8],false),(6,0,[42,43],false),(7,0,[41,44],true),(0,0,[8],false),(8,1,[38,45],false),(9,1,[46],false)] rfl (by kernel_rfl)]
        simp only [drawStep_guard, guardDS_true, guardDS_false, guardVal, BEq.rfl, planRun_cons, planRun_nil, planStep, planEnd, List.getElem?_cons_zero, List.getElem?_cons_succ, drawStep_eq, kindOf, quietAt, quietC, evR, evC, memN, beq_dec, Nat.reduceEqDiff, decide_true, decide_false, setDS_some, loudDS_some, loudDS_none, allocDS_some, Nat.reduceLT, Tr.get_set, if_true, if_false, Option.map_some, Option.bind_some, List.length_cons, List.length_nil, sameAt, Nat.reduceAdd, Nat.reduceSub, ofVal, loadC, Heap.skip_get, Heap.get_put, loudStep, isCall, targetC, evs, evParts, mapO, List.cons_append, List.nil_append, List.append_nil, putAll, ne_eq, reduceCtorEq, not_false_eq_true, Int.reduceEq, eq_self, cbeq_int, cbeq_ptr, cbeq_str, cbeq_bool, cbeq_map, cbeq_slice, cbeq_nilSlice, Bool.and_self, Bool.and_true, Int.reduceNeg, List.append_eq, loudC, List.getElem?_toArray, a7, a8, evO, slice26_lo (e := 3) (cs := []) (fam := none) hlt, slice26_hi (Nat.le_of_lt hlt) hk0, hcp, bin_add, hw]
        exact ⟨_, rfl, by simp only [Tr.get_set, Nat.reduceEqDiff, if_true, if_false, a7], by simp only [Tr.get_set, if_true]⟩
      obtain ⟨e', g9, b7, b8⟩ := g9
      obtain ⟨e2, H2, g2, c7, cg, ck, cx⟩ := ih (k + min k (n - k)) e' ((H.skip 10).put b (.cells (half c (k + min k (n - k)) n) 3 none)) (by omega) (by omega) (by omega) b7 b8 (by rw [Heap.get_put, if_pos rfl]) (Hok.put rfl (Hok.skip 10 hok))
      refine ⟨e2, H2, ?_, c7, cg, ck, (Ext.skip.trans (Ext.put (Nat.le_refl _))).trans cx⟩
      rw [hcode, go_loop, ← hcode, go_seq, ge, andThen_normal, go_block, g9, inBlock_normal, andThen_normal]
      exact g2
    · have : k = n := by omega
      subst this
      rw [if_neg hlt] at ge
      refine ⟨e, H, ?_, (qe 7 (by omega)).trans h7, by simpa [half] using hg, hok, Ext.refl _ _⟩
      rw [hcode, go_loop, go_seq, ge, andThen_exit, andThen_exit]

theorem repeat_ok (hX : ∀ a H, X 59 a H = none) (hM : MulOK X) {xv : CV} {c : Int} {n : Nat} {H : Heap} (hx : Has H 1 3 xv [.int .i64 c]) (hn0 : 0 < n) (hn : n ≤ 16) (hk : HOk H) :
    ∃ (b : Nat) (H' : Heap), calls Tryz.prog X 59 [xv, .int .i64 (n : Int)] H = some (.slice b 0 n (.exact n), H') ∧ H'.get b = some (.cells (List.replicate n (.int .i64 c)) 3 none) ∧ H.next ≤ b ∧ b < H'.next ∧ HOk H' ∧ Ext H.next H H' := by
  have hcode : codeOf Tryz.f59 = .seq (sub (codeOf Tryz.f59) [false]) (.seq (.seq (sub (codeOf Tryz.f59) [true,false,false]) (.cond (.tmp 10) (sub (codeOf Tryz.f59) [true,false,true,false]) .skip)) (.seq (sub (codeOf Tryz.f59) [true,true,false]) (.seq (.seq (sub (codeOf Tryz.f59) [true,true,true,false,false]) (.cond (.tmp 26) (sub (codeOf Tryz.f59) [true,true,true,false,true,false]) .skip))
    (.seq (sub (codeOf Tryz.f59) [true,true,true,true,false]) (.seq (sub (codeOf Tryz.f59) [true,true,true,true,true,false]) (.seq (.block 0 (sub (codeOf Tryz.f59) [true,true,true,true,true,true,false,false])) (.seq (sub (codeOf Tryz.f59) [true,true,true,true,true,true,true,false]) .ret))))))) := rfl
  have h0 : (envOf [xv, .int .i64 (n : Int)] 0 .nil).get 0 = some xv := by simp [envOf, Tr.get_set]
  have h1 : (envOf [xv, .int .i64 (n : Int)] 0 .nil).get 1 = some (.int .i64 (n : Int)) := by simp [envOf, Tr.get_set]
  have hlen := hx.len (P := Tryz.prog) u26
  simp only [List.length_singleton] at hlen
  have w1 : wrap .u64 (((1 : Nat) : Int)) = 1 := wrap_id (by decide) (by decide)
  have w2 : wrap .u64 (n : Int) = (n : Int) := wrap_id (by simp [loOf]) (by simp [hiOf]; omega)
  have w3 : wrap .i64 (n : Int) = (n : Int) := wrap64 (by omega) (by omega)
  have e1 : ¬ ((n : Int) < 0) := by omega
  have e2 : ¬ ((0 : Int) < 0) := by omega
  have e3 : ¬ (9223372036854775807 < (n : Int)) := by omega
  have eb : (false == false) = true := rfl
  generalize hH1 : (H.skip 1).put H.next (.cells (List.replicate n (.int .i64 0)) 3 none) = H1
  have x1 : Ext H.next H H1 := by rw [← hH1]; exact Ext.skip.trans (Ext.put (Nat.le_refl _))
  have k1 : HOk H1 := by rw [← hH1]; exact Hok.put rfl (Hok.skip 1 hk)
  have n1 : H1.next = H.next + 1 := by rw [← hH1]; rfl
  have hg1 : H1.get H.next = some (.cells (List.replicate n (.int .i64 0)) 3 none) := by rw [← hH1, Heap.get_put, if_pos rfl]
  have hel := (hx.ext x1 hx.lt).elems
  simp only [List.length_singleton, List.flatMap_cons, List.flatMap_nil, List.append_nil, CV.cells] at hel
  have mk : ∀ ρ : Operand → Option CV, ρ (.tmp 29) = some (.int .i64 (n : Int)) → allocC Tryz.prog (.makeSlice 26 (.tmp 29) (.tmp 29)) ρ = some (.cells (List.replicate n (.int .i64 0)) 3 none, fun b => .slice b 0 n (.exact n)) := fun ρ h => mk26 (by omega) ρ (.tmp 29) h
  have hcp : copyC Tryz.prog 26 H1 (.slice H.next 0 n (.exact n)) xv = some (.int .i64 (1 : Nat), H1.put H.next (.cells (half (.int .i64 c) 1 n) 3 none)) := by
    have hmin : Nat.min 1 n = 1 := by show min 1 n = 1; omega
    have ht : takeE (1 * (0 + 1)) [CV.int .i64 c] = some [.int .i64 c] := rfl
    have hs : ([CV.int .i64 c]).all CV.single = true := rfl
    have hsp : splice (List.replicate n (.int .i64 0)) 0 [CV.int .i64 c] = half (.int .i64 c) 1 n := by
      unfold splice half
      rw [List.take_zero, List.nil_append, List.length_singleton, Nat.zero_add, List.drop_replicate]; rfl
    simp only [copyC, u26, s3, hel, Option.bind_some, hmin, ht, writeC, hg1, List.length_singleton, List.length_replicate, Nat.zero_add, ble_t (show 1 ≤ n by omega), hs, Bool.and_self, Option.map_some, hsp, Heap.upd, CObj.fam]
  have g1 : ∃ e, go Tryz.prog X 48 (codeOf Tryz.f59) (envOf [xv, .int .i64 (n : Int)] 0 .nil) H = andThen (go Tryz.prog X 48 (.block 0 (sub (codeOf Tryz.f59) [true,true,true,true,true,true,false,false])) e (H1.put H.next (.cells (half (.int .i64 c) 1 n) 3 none))) (go Tryz.prog X 48 (.seq (sub (codeOf Tryz.f59) [true,true,true,true,true,true,true,false]) .ret)) ∧
      e.get 7 = some (.slice H.next 0 n (.exact n)) ∧ e.get 8 = some (.int .i64 (1 : Nat)) := by
    rw [hcode, go_seq, show go Tryz.prog X 48 (sub (codeOf Tryz.f59) [false]) (envOf [xv, .int .i64 (n : Int)] 0 .nil) H = some (.normal, (envOf [xv, .int .i64 (n : Int)] 0 .nil).set 4 .nilSlice, H) by simp only [codeOf, Tryz.f59, sub, go_seq, go_region, opsSeq_step, opsSeq_guard, guardStep_true, guardStep_false, guardVal, opsSeq_nil, afterStep_some, afterStep_none, stepC, kindOf, quietC, evC, Nat.reduceLT, Tr.get_set, if_true, if_false, Nat.reduceEqDiff, Option.map_some, Option.bind_some, List.getElem?_toArray, List.getElem?_cons_zero, List.getElem?_cons_succ, ofVal, decide_true, decide_false, BEq.rfl, andThen_normal, andThen_exit, andThen_ret, inBlock_normal, inBlock_ret, go_skip, go_exit, go_ret, loudStep, isCall, loudC, targetC, evs, evParts, mapO, List.nil_append, List.append_nil, List.cons_append, loadC, Heap.skip_get, Heap.get_put, Heap.skip_next, Heap.put_next], andThen_normal, go_seq]
    have f1 : ∃ e, go Tryz.prog X 48 (.seq (sub (codeOf Tryz.f59) [true,false,false]) (.cond (.tmp 10) (sub (codeOf Tryz.f59) [true,false,true,false]) .skip)) ((envOf [xv, .int .i64 (n : Int)] 0 .nil).set 4 .nilSlice) H = some (.normal, e, H) ∧ e.get 0 = some xv ∧ e.get 1 = some (.int .i64 (n : Int)) := by
      simp only [codeOf, Tryz.f59, sub, go_seq, go_region, opsSeq_step, opsSeq_guard, guardStep_true, guardStep_false, guardVal, opsSeq_nil, afterStep_some, afterStep_none, stepC, kindOf, quietC, evC, Nat.reduceLT, Tr.get_set, if_true, if_false, Nat.reduceEqDiff, Option.map_some, Option.bind_some, List.getElem?_toArray, List.getElem?_cons_zero, List.getElem?_cons_succ, ofVal, decide_true, decide_false, BEq.rfl, andThen_normal, andThen_exit, andThen_ret, inBlock_normal, inBlock_ret, go_skip, go_exit, go_ret, loudStep, isCall, loudC, targetC, evs, evParts, mapO, List.nil_append, List.append_nil, List.cons_append, loadC, Heap.skip_get, Heap.get_put, Heap.skip_next, Heap.put_next, h0, h1, bin_lss, e1]
      rw [go_cond _ _ _ (v := false) (by simp only [evC, Tr.get_set, if_true])]
      simp only [go_seq, go_region, opsSeq_step, opsSeq_guard, guardStep_true, guardStep_false, guardVal, opsSeq_nil, afterStep_some, afterStep_none, stepC, kindOf, quietC, evC, Nat.reduceLT, Tr.get_set, if_true, if_false, Nat.reduceEqDiff, Option.map_some, Option.bind_some, List.getElem?_toArray, List.getElem?_cons_zero, List.getElem?_cons_succ, ofVal, decide_true, decide_false, BEq.rfl, andThen_normal, andThen_exit, andThen_ret, inBlock_normal, inBlock_ret, go_skip, go_exit, go_ret, loudStep, isCall, loudC, targetC, evs, evParts, mapO, List.nil_append, List.append_nil, List.cons_append, loadC, Heap.skip_get, Heap.get_put, Heap.skip_next, Heap.put_next, Bool.false_eq_true]
      exact ⟨_, rfl, by simp only [Tr.get_set, Nat.reduceEqDiff, if_false, h0], by simp only [Tr.get_set, Nat.reduceEqDiff, if_false, h1]⟩
    obtain ⟨ea, ga, a0, a1⟩ := f1
    rw [ga, andThen_normal, go_seq]
    have f2 : ∃ e, go Tryz.prog X 48 (sub (codeOf Tryz.f59) [true,true,false]) ea H = some (.normal, e, H) ∧ e.get 0 = some xv ∧ e.get 5 = some (.int .u64 0) ∧ e.get 6 = some (.int .u64 (n : Int)) := by
      simp only [codeOf, Tryz.f59, sub, go_seq, go_region, opsSeq_step, opsSeq_guard, guardStep_true, guardStep_false, guardVal, opsSeq_nil, afterStep_some, afterStep_none, stepC, kindOf, quietC, evC, Nat.reduceLT, Tr.get_set, if_true, if_false, Nat.reduceEqDiff, Option.map_some, Option.bind_some, List.getElem?_toArray, List.getElem?_cons_zero, List.getElem?_cons_succ, ofVal, decide_true, decide_false, BEq.rfl, andThen_normal, andThen_exit, andThen_ret, inBlock_normal, inBlock_ret, go_skip, go_exit, go_ret, loudStep, isCall, loudC, targetC, evs, evParts, mapO, List.nil_append, List.append_nil, List.cons_append, loadC, Heap.skip_get, Heap.get_put, Heap.skip_next, Heap.put_next, a0, a1, hlen, convC, u3, u117, w1, w2, hM n H hn]
      exact ⟨_, rfl, by simp only [Tr.get_set, Nat.reduceEqDiff, if_false, a0], by simp only [Tr.get_set, Nat.reduceEqDiff, if_true, if_false], by simp only [Tr.get_set, if_true]⟩
    obtain ⟨eb', gb, b0, b5, b6⟩ := f2
    rw [gb, andThen_normal, go_seq]
    have f3 : ∃ e, go Tryz.prog X 48 (.seq (sub (codeOf Tryz.f59) [true,true,true,false,false]) (.cond (.tmp 26) (sub (codeOf Tryz.f59) [true,true,true,false,true,false]) .skip)) eb' H = some (.normal, e, H) ∧ e.get 0 = some xv ∧ e.get 6 = some (.int .u64 (n : Int)) := by
      simp only [codeOf, Tryz.f59, sub, go_seq, go_region, opsSeq_step, opsSeq_guard, guardStep_true, guardStep_false, guardVal, opsSeq_nil, afterStep_some, afterStep_none, stepC, kindOf, quietC, evC, Nat.reduceLT, Tr.get_set, if_true, if_false, Nat.reduceEqDiff, Option.map_some, Option.bind_some, List.getElem?_toArray, List.getElem?_cons_zero, List.getElem?_cons_succ, ofVal, decide_true, decide_false, BEq.rfl, andThen_normal, andThen_exit, andThen_ret, inBlock_normal, inBlock_ret, go_skip, go_exit, go_ret, loudStep, isCall, loudC, targetC, evs, evParts, mapO, List.nil_append, List.append_nil, List.cons_append, loadC, Heap.skip_get, Heap.get_put, Heap.skip_next, Heap.put_next, b5, b6, bin_gtr, e2, e3, eb]
      rw [go_cond _ _ _ (v := false) (by simp only [evC, Tr.get_set, if_true])]
      simp only [go_seq, go_region, opsSeq_step, opsSeq_guard, guardStep_true, guardStep_false, guardVal, opsSeq_nil, afterStep_some, afterStep_none, stepC, kindOf, quietC, evC, Nat.reduceLT, Tr.get_set, if_true, if_false, Nat.reduceEqDiff, Option.map_some, Option.bind_some, List.getElem?_toArray, List.getElem?_cons_zero, List.getElem?_cons_succ, ofVal, decide_true, decide_false, BEq.rfl, andThen_normal, andThen_exit, andThen_ret, inBlock_normal, inBlock_ret, go_skip, go_exit, go_ret, loudStep, isCall, loudC, targetC, evs, evParts, mapO, List.nil_append, List.append_nil, List.cons_append, loadC, Heap.skip_get, Heap.get_put, Heap.skip_next, Heap.put_next, Bool.false_eq_true]
      exact ⟨_, rfl, by simp only [Tr.get_set, Nat.reduceEqDiff, if_false, b0], by simp only [Tr.get_set, Nat.reduceEqDiff, if_false, b6]⟩
    obtain ⟨ec, gc, c0, c6⟩ := f3
    rw [gc, andThen_normal, go_seq]
    have f4 : ∃ e, go Tryz.prog X 48 (sub (codeOf Tryz.f59) [true,true,true,true,false]) ec H = some (.normal, e, H1) ∧ e.get 0 = some xv ∧ e.get 7 = some (.slice H.next 0 n (.exact n)) := by
      simp only [codeOf, Tryz.f59, sub, go_seq, go_region, opsSeq_step, opsSeq_guard, guardStep_true, guardStep_false, guardVal, opsSeq_nil, afterStep_some, afterStep_none, stepC, kindOf, quietC, evC, Nat.reduceLT, Tr.get_set, if_true, if_false, Nat.reduceEqDiff, Option.map_some, Option.bind_some, List.getElem?_toArray, List.getElem?_cons_zero, List.getElem?_cons_succ, ofVal, decide_true, decide_false, BEq.rfl, andThen_normal, andThen_exit, andThen_ret, inBlock_normal, inBlock_ret, go_skip, go_exit, go_ret, loudStep, isCall, loudC, targetC, evs, evParts, mapO, List.nil_append, List.append_nil, List.cons_append, loadC, Heap.skip_get, Heap.get_put, Heap.skip_next, Heap.put_next, c6, convC, u3, u117, w3, mk, hH1]
      exact ⟨_, rfl, by simp only [Tr.get_set, Nat.reduceEqDiff, if_false, c0], by simp only [Tr.get_set, if_true]⟩
    obtain ⟨ed, gd, d0, d7⟩ := f4
    rw [gd, andThen_normal, go_seq]
    have f5 : ∃ e, go Tryz.prog X 48 (sub (codeOf Tryz.f59) [true,true,true,true,true,false]) ed H1 = some (.normal, e, H1.put H.next (.cells (half (.int .i64 c) 1 n) 3 none)) ∧ e.get 7 = some (.slice H.next 0 n (.exact n)) ∧ e.get 8 = some (.int .i64 (1 : Nat)) := by
      simp only [codeOf, Tryz.f59, sub, go_seq, go_region, opsSeq_step, opsSeq_guard, guardStep_true, guardStep_false, guardVal, opsSeq_nil, afterStep_some, afterStep_none, stepC, kindOf, quietC, evC, Nat.reduceLT, Tr.get_set, if_true, if_false, Nat.reduceEqDiff, Option.map_some, Option.bind_some, List.getElem?_toArray, List.getElem?_cons_zero, List.getElem?_cons_succ, ofVal, decide_true, decide_false, BEq.rfl, andThen_normal, andThen_exit, andThen_ret, inBlock_normal, inBlock_ret, go_skip, go_exit, go_ret, loudStep, isCall, loudC, targetC, evs, evParts, mapO, List.nil_append, List.append_nil, List.cons_append, loadC, Heap.skip_get, Heap.get_put, Heap.skip_next, Heap.put_next, d0, d7, hcp]
      exact ⟨_, rfl, by simp only [Tr.get_set, Nat.reduceEqDiff, if_false, d7], by simp only [Tr.get_set, if_true]⟩
    obtain ⟨ee, ge, q7, q8⟩ := f5
    rw [ge, andThen_normal, go_seq]
    exact ⟨ee, rfl, q7, q8⟩
  obtain ⟨e, g1, q7, q8⟩ := g1
  have n2 : (H1.put H.next (.cells (half (.int .i64 c) 1 n) 3 none)).next = H.next + 1 := n1
  obtain ⟨e2, H2, g2, r7, rg, rk, rx⟩ := repeat_loop (X := X) (c := .int .i64 c) rfl (by omega) n 1 e (H1.put H.next (.cells (half (.int .i64 c) 1 n) 3 none)) (by omega) (by omega) (by omega) q7 q8 (by rw [Heap.get_put, if_pos rfl]) (Hok.put rfl k1)
  have g3 : go Tryz.prog X 48 (.seq (sub (codeOf Tryz.f59) [true,true,true,true,true,true,true,false]) .ret) e2 H2 = some (.ret, (e2.set 47 (.slice H.next 0 n (.exact n))).set 4 (.slice H.next 0 n (.exact n)), H2) := by
    simp only [codeOf, Tryz.f59, sub, go_seq, go_region, opsSeq_step, opsSeq_guard, guardStep_true, guardStep_false, guardVal, opsSeq_nil, afterStep_some, afterStep_none, stepC, kindOf, quietC, evC, Nat.reduceLT, Tr.get_set, if_true, if_false, Nat.reduceEqDiff, Option.map_some, Option.bind_some, List.getElem?_toArray, List.getElem?_cons_zero, List.getElem?_cons_succ, ofVal, decide_true, decide_false, BEq.rfl, andThen_normal, andThen_exit, andThen_ret, inBlock_normal, inBlock_ret, go_skip, go_exit, go_ret, loudStep, isCall, loudC, targetC, evs, evParts, mapO, List.nil_append, List.append_nil, List.cons_append, loadC, Heap.skip_get, Heap.get_put, Heap.skip_next, Heap.put_next, r7]
  refine ⟨H.next, H2, calls_ret (hX _ _) Tryz.func59 rfl (by decide) (nt := 48) rfl (env' := (e2.set 47 (.slice H.next 0 n (.exact n))).set 4 (.slice H.next 0 n (.exact n))) ?_ (results_one (by simp only [Tr.get_set, if_true])), rg, Nat.le_refl _, by have := rx.1; omega, rk, (x1.trans (Ext.put (Nat.le_refl _))).trans rx⟩
  rw [g1, go_block, g2, inBlock_exit, if_pos rfl, andThen_normal, g3]
end Go.Z

namespace Go.Z
open Go.K Go.Proofs
set_option linter.unusedSimpArgs false
set_option linter.unusedVariables false
set_option maxRecDepth 10000

variable {X : CallFn}

theorem idx26 {b n k : Nat} (h : k < n) : indexAddrC Tryz.prog 26 (.slice b 0 n (.exact n)) (.int .i64 (k : Int)) = some (.ptr b k) := by
  show indexAddrC Tryz.prog 26 _ (.int .i64 (Int.ofNat k)) = _
  simp only [indexAddrC, u26, blt_t h, s3, Option.map_some, Nat.mul_one, Nat.zero_add]

/-- Whether an arc shortens a way. -/
theorem dist_r9 {env : Env} {H : Heap} {ba bo n ix lo up : Nat} {above U L : Int} {os : List Int} {fam : Option (Nat × Nat)} (h2 : env.get 2 = some (.int .i64 above)) (h7 : env.get 7 = some (.slice bo 0 n (.exact n))) (h10 : env.get 10 = some (.ptr ba 0))
    (hba : H.get ba = some (.cells [.int .i64 ix, .int .i64 lo, .int .i64 up] 79 none)) (hbo : H.get bo = some (.cells (os.map (CV.int .i64)) 3 fam)) (hlo : lo < n) (hup : up < n) (hU : os[up]? = some U) (hL : os[lo]? = some L)
    (hUb : -1 ≤ U ∧ U < 1000) :
    ∃ env', go Tryz.prog X 77 (sub (codeOf Tryz.f29) [true,true,true,false,true,false,false,true,false,true,true,false,false,true,true,false,false,true,false]) env H = some (.normal, env', H.skip 34) ∧ evC env' (.tmp 64) = some (.bool (decide (above < (ix : Int) ∧ 0 ≤ U ∧ (L < 0 ∨ U + 1 < L)))) ∧ ∀ t, t < 31 → env'.get t = env.get t := by
  have hcU : (os.map (CV.int .i64))[up]? = some (.int .i64 U) := by rw [List.getElem?_map, hU]; rfl
  have hcL : (os.map (CV.int .i64))[lo]? = some (.int .i64 L) := by rw [List.getElem?_map, hL]; rfl
  have hw : wrap .i64 (U + 1) = U + 1 := wrap64 (by omega) (by omega)
  have eb : (false == true) = false := rfl
  have ec : (true == false) = false := rfl
  have ed : (false == false) = true := rfl
  simp only [codeOf, Tryz.f29, sub]
  rw [go_planned [(0,0,[10],false),(1,0,[31],false),(2,0,[2],false),(3,0,[32,33],false),(4,0,[34],false),(5,0,[7,35],false),(6,0,[10,35],false),(7,0,[37,35],false),(8,0,[36,38,35],false),(9,0,[39,35],false),(10,0,[40,35],false),(11,0,[35,41],false),(12,0,[42],false),
    (13,0,[7,43],false),(14,0,[10,43],false),(15,0,[45,43],false),(16,0,[44,46,43],false),(17,0,[47,43],false),(18,0,[48,43],false),(19,0,[49,43],false),(20,0,[7,50],false),(21,0,[10,50],false),(22,0,[52,50],false),(23,0,[51,53,50],false),(24,0,[54,50],false),(25,0,[7,50],false),
    (26,0,[10,50],false),(27,0,[57,50],false),(28,0,[56,58,50],false),(29,0,[59,50],false),(30,0,[60,50],false),(31,0,[55,61,50],false),(32,0,[50,62,43],false),(33,0,[43,63],false)] rfl (by kernel_rfl)]
  by_cases c1 : above < (ix : Int)
  · by_cases c2 : 0 ≤ U
    · by_cases c3 : L < 0
      · simp only [drawStep_guard, guardDS_true, guardDS_false, guardVal, BEq.rfl, planRun_cons, planRun_nil, planStep, planEnd, List.getElem?_cons_zero, List.getElem?_cons_succ, drawStep_eq, kindOf, quietAt, quietC, evR, evC, memN, beq_dec, Nat.reduceEqDiff, decide_true, decide_false, setDS_some, loudDS_some, loudDS_none, allocDS_some, Nat.reduceLT, Tr.get_set, if_true, if_false, Option.map_some, Option.bind_some, List.length_cons, List.length_nil, sameAt, Nat.reduceAdd, Nat.reduceSub, ofVal, loadC, Heap.skip_get, Heap.get_put, loudStep, isCall, targetC, evs, evParts, mapO, List.cons_append, List.nil_append, List.append_nil, putAll, ne_eq, reduceCtorEq, not_false_eq_true, Int.reduceEq, eq_self, cbeq_int, cbeq_ptr, cbeq_str, cbeq_bool, cbeq_map, cbeq_slice, cbeq_nilSlice, Bool.and_self, Bool.and_true, Int.reduceNeg, List.append_eq, loudC, List.getElem?_toArray, h2, h7, h10, fa79_0, fa79_1, fa79_2, g3, hba, hbo, Nat.zero_add, idx26 hlo, idx26 hup, hcU, hcL, bin_gtr, bin_geq, bin_lss, bin_add, hw, c1, c2, c3, eb, ec, ed]
        refine ⟨_, rfl, ?_, fun t ht => ?_⟩
        · simp only [Tr.get_set, if_true, true_and, false_and, true_or, false_or, decide_true, decide_false]
        · simp only [Tr.get_set]
          simp only [show t ≠ 31 by omega, show t ≠ 32 by omega, show t ≠ 33 by omega, show t ≠ 34 by omega, show t ≠ 35 by omega, show t ≠ 36 by omega, show t ≠ 37 by omega, show t ≠ 38 by omega, show t ≠ 39 by omega, show t ≠ 40 by omega, show t ≠ 41 by omega, show t ≠ 42 by omega, show t ≠ 43 by omega, show t ≠ 44 by omega, show t ≠ 45 by omega, show t ≠ 46 by omega, show t ≠ 47 by omega, show t ≠ 48 by omega, show t ≠ 49 by omega, show t ≠ 50 by omega, show t ≠ 51 by omega, show t ≠ 52 by omega, show t ≠ 53 by omega, show t ≠ 54 by omega, show t ≠ 55 by omega, show t ≠ 56 by omega, show t ≠ 57 by omega, show t ≠ 58 by omega, show t ≠ 59 by omega, show t ≠ 60 by omega, show t ≠ 61 by omega, show t ≠ 62 by omega, show t ≠ 63 by omega, show t ≠ 64 by omega, if_false]
      · by_cases c4 : U + 1 < L
        · simp only [drawStep_guard, guardDS_true, guardDS_false, guardVal, BEq.rfl, planRun_cons, planRun_nil, planStep, planEnd, List.getElem?_cons_zero, List.getElem?_cons_succ, drawStep_eq, kindOf, quietAt, quietC, evR, evC, memN, beq_dec, Nat.reduceEqDiff, decide_true, decide_false, setDS_some, loudDS_some, loudDS_none, allocDS_some, Nat.reduceLT, Tr.get_set, if_true, if_false, Option.map_some, Option.bind_some, List.length_cons, List.length_nil, sameAt, Nat.reduceAdd, Nat.reduceSub, ofVal, loadC, Heap.skip_get, Heap.get_put, loudStep, isCall, targetC, evs, evParts, mapO, List.cons_append, List.nil_append, List.append_nil, putAll, ne_eq, reduceCtorEq, not_false_eq_true, Int.reduceEq, eq_self, cbeq_int, cbeq_ptr, cbeq_str, cbeq_bool, cbeq_map, cbeq_slice, cbeq_nilSlice, Bool.and_self, Bool.and_true, Int.reduceNeg, List.append_eq, loudC, List.getElem?_toArray, h2, h7, h10, fa79_0, fa79_1, fa79_2, g3, hba, hbo, Nat.zero_add, idx26 hlo, idx26 hup, hcU, hcL, bin_gtr, bin_geq, bin_lss, bin_add, hw, c1, c2, c3, c4, eb, ec, ed]
          refine ⟨_, rfl, ?_, fun t ht => ?_⟩
          · simp only [Tr.get_set, if_true, true_and, false_and, true_or, false_or, decide_true, decide_false]
          · simp only [Tr.get_set]
            simp only [show t ≠ 31 by omega, show t ≠ 32 by omega, show t ≠ 33 by omega, show t ≠ 34 by omega, show t ≠ 35 by omega, show t ≠ 36 by omega, show t ≠ 37 by omega, show t ≠ 38 by omega, show t ≠ 39 by omega, show t ≠ 40 by omega, show t ≠ 41 by omega, show t ≠ 42 by omega, show t ≠ 43 by omega, show t ≠ 44 by omega, show t ≠ 45 by omega, show t ≠ 46 by omega, show t ≠ 47 by omega, show t ≠ 48 by omega, show t ≠ 49 by omega, show t ≠ 50 by omega, show t ≠ 51 by omega, show t ≠ 52 by omega, show t ≠ 53 by omega, show t ≠ 54 by omega, show t ≠ 55 by omega, show t ≠ 56 by omega, show t ≠ 57 by omega, show t ≠ 58 by omega, show t ≠ 59 by omega, show t ≠ 60 by omega, show t ≠ 61 by omega, show t ≠ 62 by omega, show t ≠ 63 by omega, show t ≠ 64 by omega, if_false]
        · simp only [drawStep_guard, guardDS_true, guardDS_false, guardVal, BEq.rfl, planRun_cons, planRun_nil, planStep, planEnd, List.getElem?_cons_zero, List.getElem?_cons_succ, drawStep_eq, kindOf, quietAt, quietC, evR, evC, memN, beq_dec, Nat.reduceEqDiff, decide_true, decide_false, setDS_some, loudDS_some, loudDS_none, allocDS_some, Nat.reduceLT, Tr.get_set, if_true, if_false, Option.map_some, Option.bind_some, List.length_cons, List.length_nil, sameAt, Nat.reduceAdd, Nat.reduceSub, ofVal, loadC, Heap.skip_get, Heap.get_put, loudStep, isCall, targetC, evs, evParts, mapO, List.cons_append, List.nil_append, List.append_nil, putAll, ne_eq, reduceCtorEq, not_false_eq_true, Int.reduceEq, eq_self, cbeq_int, cbeq_ptr, cbeq_str, cbeq_bool, cbeq_map, cbeq_slice, cbeq_nilSlice, Bool.and_self, Bool.and_true, Int.reduceNeg, List.append_eq, loudC, List.getElem?_toArray, h2, h7, h10, fa79_0, fa79_1, fa79_2, g3, hba, hbo, Nat.zero_add, idx26 hlo, idx26 hup, hcU, hcL, bin_gtr, bin_geq, bin_lss, bin_add, hw, c1, c2, c3, c4, eb, ec, ed]
          refine ⟨_, rfl, ?_, fun t ht => ?_⟩
          · simp only [Tr.get_set, if_true, true_and, false_and, true_or, false_or, decide_true, decide_false]
          · simp only [Tr.get_set]
            simp only [show t ≠ 31 by omega, show t ≠ 32 by omega, show t ≠ 33 by omega, show t ≠ 34 by omega, show t ≠ 35 by omega, show t ≠ 36 by omega, show t ≠ 37 by omega, show t ≠ 38 by omega, show t ≠ 39 by omega, show t ≠ 40 by omega, show t ≠ 41 by omega, show t ≠ 42 by omega, show t ≠ 43 by omega, show t ≠ 44 by omega, show t ≠ 45 by omega, show t ≠ 46 by omega, show t ≠ 47 by omega, show t ≠ 48 by omega, show t ≠ 49 by omega, show t ≠ 50 by omega, show t ≠ 51 by omega, show t ≠ 52 by omega, show t ≠ 53 by omega, show t ≠ 54 by omega, show t ≠ 55 by omega, show t ≠ 56 by omega, show t ≠ 57 by omega, show t ≠ 58 by omega, show t ≠ 59 by omega, show t ≠ 60 by omega, show t ≠ 61 by omega, show t ≠ 62 by omega, show t ≠ 63 by omega, show t ≠ 64 by omega, if_false]
    · simp only [drawStep_guard, guardDS_true, guardDS_false, guardVal, BEq.rfl, planRun_cons, planRun_nil, planStep, planEnd, List.getElem?_cons_zero, List.getElem?_cons_succ, drawStep_eq, kindOf, quietAt, quietC, evR, evC, memN, beq_dec, Nat.reduceEqDiff, decide_true, decide_false, setDS_some, loudDS_some, loudDS_none, allocDS_some, Nat.reduceLT, Tr.get_set, if_true, if_false, Option.map_some, Option.bind_some, List.length_cons, List.length_nil, sameAt, Nat.reduceAdd, Nat.reduceSub, ofVal, loadC, Heap.skip_get, Heap.get_put, loudStep, isCall, targetC, evs, evParts, mapO, List.cons_append, List.nil_append, List.append_nil, putAll, ne_eq, reduceCtorEq, not_false_eq_true, Int.reduceEq, eq_self, cbeq_int, cbeq_ptr, cbeq_str, cbeq_bool, cbeq_map, cbeq_slice, cbeq_nilSlice, Bool.and_self, Bool.and_true, Int.reduceNeg, List.append_eq, loudC, List.getElem?_toArray, h2, h7, h10, fa79_0, fa79_1, fa79_2, g3, hba, hbo, Nat.zero_add, idx26 hlo, idx26 hup, hcU, hcL, bin_gtr, bin_geq, bin_lss, bin_add, hw, c1, c2, eb, ec, ed]
      refine ⟨_, rfl, ?_, fun t ht => ?_⟩
      · simp only [Tr.get_set, if_true, true_and, false_and, true_or, false_or, decide_true, decide_false]
      · simp only [Tr.get_set]
        simp only [show t ≠ 31 by omega, show t ≠ 32 by omega, show t ≠ 33 by omega, show t ≠ 34 by omega, show t ≠ 35 by omega, show t ≠ 36 by omega, show t ≠ 37 by omega, show t ≠ 38 by omega, show t ≠ 39 by omega, show t ≠ 40 by omega, show t ≠ 41 by omega, show t ≠ 42 by omega, show t ≠ 43 by omega, show t ≠ 44 by omega, show t ≠ 45 by omega, show t ≠ 46 by omega, show t ≠ 47 by omega, show t ≠ 48 by omega, show t ≠ 49 by omega, show t ≠ 50 by omega, show t ≠ 51 by omega, show t ≠ 52 by omega, show t ≠ 53 by omega, show t ≠ 54 by omega, show t ≠ 55 by omega, show t ≠ 56 by omega, show t ≠ 57 by omega, show t ≠ 58 by omega, show t ≠ 59 by omega, show t ≠ 60 by omega, show t ≠ 61 by omega, show t ≠ 62 by omega, show t ≠ 63 by omega, show t ≠ 64 by omega, if_false]
  · simp only [drawStep_guard, guardDS_true, guardDS_false, guardVal, BEq.rfl, planRun_cons, planRun_nil, planStep, planEnd, List.getElem?_cons_zero, List.getElem?_cons_succ, drawStep_eq, kindOf, quietAt, quietC, evR, evC, memN, beq_dec, Nat.reduceEqDiff, decide_true, decide_false, setDS_some, loudDS_some, loudDS_none, allocDS_some, Nat.reduceLT, Tr.get_set, if_true, if_false, Option.map_some, Option.bind_some, List.length_cons, List.length_nil, sameAt, Nat.reduceAdd, Nat.reduceSub, ofVal, loadC, Heap.skip_get, Heap.get_put, loudStep, isCall, targetC, evs, evParts, mapO, List.cons_append, List.nil_append, List.append_nil, putAll, ne_eq, reduceCtorEq, not_false_eq_true, Int.reduceEq, eq_self, cbeq_int, cbeq_ptr, cbeq_str, cbeq_bool, cbeq_map, cbeq_slice, cbeq_nilSlice, Bool.and_self, Bool.and_true, Int.reduceNeg, List.append_eq, loudC, List.getElem?_toArray, h2, h7, h10, fa79_0, fa79_1, fa79_2, g3, hba, hbo, Nat.zero_add, idx26 hlo, idx26 hup, hcU, hcL, bin_gtr, bin_geq, bin_lss, bin_add, hw, c1, eb, ec, ed]
    refine ⟨_, rfl, ?_, fun t ht => ?_⟩
    · simp only [Tr.get_set, if_true, true_and, false_and, true_or, false_or, decide_true, decide_false]
    · simp only [Tr.get_set]
      simp only [show t ≠ 31 by omega, show t ≠ 32 by omega, show t ≠ 33 by omega, show t ≠ 34 by omega, show t ≠ 35 by omega, show t ≠ 36 by omega, show t ≠ 37 by omega, show t ≠ 38 by omega, show t ≠ 39 by omega, show t ≠ 40 by omega, show t ≠ 41 by omega, show t ≠ 42 by omega, show t ≠ 43 by omega, show t ≠ 44 by omega, show t ≠ 45 by omega, show t ≠ 46 by omega, show t ≠ 47 by omega, show t ≠ 48 by omega, show t ≠ 49 by omega, show t ≠ 50 by omega, show t ≠ 51 by omega, show t ≠ 52 by omega, show t ≠ 53 by omega, show t ≠ 54 by omega, show t ≠ 55 by omega, show t ≠ 56 by omega, show t ≠ 57 by omega, show t ≠ 58 by omega, show t ≠ 59 by omega, show t ≠ 60 by omega, show t ≠ 61 by omega, show t ≠ 62 by omega, show t ≠ 63 by omega, show t ≠ 64 by omega, if_false]

theorem dist_r10 {env : Env} {H : Heap} {ba bo n ix lo up : Nat} {U : Int} {os : List Int} (h7 : env.get 7 = some (.slice bo 0 n (.exact n))) (h10 : env.get 10 = some (.ptr ba 0))
    (hba : H.get ba = some (.cells [.int .i64 ix, .int .i64 lo, .int .i64 up] 79 none)) (hbo : H.get bo = some (.cells (os.map (CV.int .i64)) 3 none)) (hlo : lo < n) (hup : up < n) (hn : os.length = n) (hU : os[up]? = some U) (hUb : -1 ≤ U ∧ U < 1000) :
    ∃ env', go Tryz.prog X 77 (sub (codeOf Tryz.f29) [true,true,true,false,true,false,false,true,false,true,true,false,false,true,true,false,false,true,true,false]) env H = some (.normal, env', (H.skip 12).put bo (.cells ((os.set lo (U + 1)).map (CV.int .i64)) 3 none)) ∧ env'.get 8 = some (.bool true) ∧ ∀ t, t < 65 → t ≠ 8 → env'.get t = env.get t := by
  have hcU : (os.map (CV.int .i64))[up]? = some (.int .i64 U) := by rw [List.getElem?_map, hU]; rfl
  have hw : wrap .i64 (U + 1) = U + 1 := wrap64 (by omega) (by omega)
  have hst := store_one (P := Tryz.prog) (t := 3) (k := lo) (v := .int .i64 (U + 1)) s3 rfl rfl (H := H.skip 12) hbo (by rw [List.length_map]; omega)
  rw [← List.map_set] at hst
  simp only [codeOf, Tryz.f29, sub]
  rw [go_planned [(0,0,[7],false),(1,0,[10],false),(2,0,[66],false),(3,0,[7],false),(4,0,[10],false),(5,0,[69],false),(6,0,[68,70],false),(7,0,[71],false),(8,0,[72],false),(9,0,[65,67],false),(10,0,[74,73],true),(11,1,[],false)] rfl (by kernel_rfl)]
  simp only [drawStep_guard, guardDS_true, guardDS_false, guardVal, BEq.rfl, planRun_cons, planRun_nil, planStep, planEnd, List.getElem?_cons_zero, List.getElem?_cons_succ, drawStep_eq, kindOf, quietAt, quietC, evR, evC, memN, beq_dec, Nat.reduceEqDiff, decide_true, decide_false, setDS_some, loudDS_some, loudDS_none, allocDS_some, Nat.reduceLT, Tr.get_set, if_true, if_false, Option.map_some, Option.bind_some, List.length_cons, List.length_nil, sameAt, Nat.reduceAdd, Nat.reduceSub, ofVal, loadC, Heap.skip_get, Heap.get_put, loudStep, isCall, targetC, evs, evParts, mapO, List.cons_append, List.nil_append, List.append_nil, putAll, ne_eq, reduceCtorEq, not_false_eq_true, Int.reduceEq, eq_self, cbeq_int, cbeq_ptr, cbeq_str, cbeq_bool, cbeq_map, cbeq_slice, cbeq_nilSlice, Bool.and_self, Bool.and_true, Int.reduceNeg, List.append_eq, loudC, List.getElem?_toArray, h7, h10, fa79_1, fa79_2, g3, hba, hbo, Nat.zero_add, idx26 hlo, idx26 hup, hcU, bin_add, hw, hst]
  refine ⟨_, rfl, by simp only [Tr.get_set, Nat.reduceEqDiff, if_true, if_false], fun t ht h8 => ?_⟩
  simp only [Tr.get_set]
  simp only [show t ≠ 65 by omega, show t ≠ 66 by omega, show t ≠ 67 by omega, show t ≠ 68 by omega, show t ≠ 69 by omega, show t ≠ 70 by omega, show t ≠ 71 by omega, show t ≠ 72 by omega, show t ≠ 73 by omega, show t ≠ 74 by omega, h8, if_false]

theorem dist_r8 {env : Env} {H : Heap} {av : CV} {arcs : List (Nat × Nat × Nat)} {i : Nat} (h25 : env.get 25 = some av) (h27 : env.get 27 = some (.int .i64 i)) (hl : Has H 3 79 av (arcs.map arcCV)) (hi : i < arcs.length) (hk : HOk H) :
    ∃ env' H', go Tryz.prog X 77 (sub (codeOf Tryz.f29) [true,true,true,false,true,false,false,true,false,true,true,false,false,true,true,false,false,false]) env H = some (.normal, env', H') ∧ H'.get H.next = some (.cells [.int .i64 arcs[i].1, .int .i64 arcs[i].2.1, .int .i64 arcs[i].2.2] 79 none) ∧ H'.next = H.next + 1 ∧ HOk H' ∧ Ext H.next H H' ∧
      env'.get 10 = some (.ptr H.next 0) ∧ ∀ t, t < 29 → t ≠ 10 → env'.get t = env.get t := by
  obtain ⟨b, off, cs, fam, hb, _, hidx, hget, hcells, hcell⟩ := hl.at (P := Tryz.prog) (t := 74) u74 s79 (i := i) (by simpa using hi)
  rw [List.getElem_map] at hcells
  have hcl : takeE 3 (cs.drop off) = some [.int .i64 arcs[i].1, .int .i64 arcs[i].2.1, .int .i64 arcs[i].2.2] := hcells
  generalize hH2 : ((H.skip 1).put H.next (.cells [.int .i64 0, .int .i64 0, .int .i64 0] 79 none)).put H.next (.cells [.int .i64 arcs[i].1, .int .i64 arcs[i].2.1, .int .i64 arcs[i].2.2] 79 none) = H2
  have hE2 : Ext H.next H H2 := by rw [← hH2]; exact (Ext.skip.trans (Ext.put (Nat.le_refl _))).trans (Ext.put (Nat.le_refl _))
  have hk2 : HOk H2 := by rw [← hH2]; exact Hok.put rfl (Hok.put rfl (Hok.skip 1 hk))
  have hn2 : H2.next = H.next + 1 := by rw [← hH2]; rfl
  have hg2 : H2.get H.next = some (.cells [.int .i64 arcs[i].1, .int .i64 arcs[i].2.1, .int .i64 arcs[i].2.2] 79 none) := by rw [← hH2, Heap.get_put, if_pos rfl]
  suffices h : ∃ env', go Tryz.prog X 77 (sub (codeOf Tryz.f29) [true,true,true,false,true,false,false,true,false,true,true,false,false,true,true,false,false,false]) env H = some (.normal, env', H2) ∧ env'.get 10 = some (.ptr H.next 0) ∧ ∀ t, t < 29 → t ≠ 10 → env'.get t = env.get t by
    obtain ⟨env', q1, q⟩ := h
    exact ⟨env', H2, q1, hg2, hn2, hk2, hE2, q⟩
  simp only [codeOf, Tryz.f29, sub, go_seq, go_region, opsSeq_step, opsSeq_guard, guardStep_true, guardStep_false, guardVal, opsSeq_nil, afterStep_some, afterStep_none, stepC, kindOf, quietC, evC, Nat.reduceLT, Tr.get_set, if_true, if_false, Nat.reduceEqDiff, Option.map_some, Option.bind_some, List.getElem?_toArray, List.getElem?_cons_zero, List.getElem?_cons_succ, ofVal, decide_true, decide_false, BEq.rfl, andThen_normal, andThen_exit, andThen_ret, inBlock_normal, inBlock_ret, go_skip, go_exit, go_ret, loudStep, isCall, loudC, targetC, evs, evParts, mapO, List.nil_append, List.append_nil, List.cons_append, loadC, Heap.skip_get, Heap.get_put, Heap.skip_next, Heap.put_next, h25, h27, hidx, hget, hcl, s79, g79, al79, store79, List.length_cons, List.length_nil, Nat.reduceAdd, hH2]
  refine ⟨_, rfl, by simp only [Tr.get_set, Nat.reduceEqDiff, if_true, if_false], fun t ht h10 => ?_⟩
  simp only [Tr.get_set, show t ≠ 29 by omega, show t ≠ 30 by omega, h10, if_false]
end Go.Z
