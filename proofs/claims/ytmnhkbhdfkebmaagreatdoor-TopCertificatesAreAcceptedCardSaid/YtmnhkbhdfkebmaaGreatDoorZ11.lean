/- cycle: the function. before: how many arcs lead to each unit. The queue in memory. -/
import Derived.Test.YtmnhkbhdfkebmaaGreatDoorZ10

set_option linter.unusedSimpArgs false
set_option linter.unusedVariables false

namespace Go.Z
open Go.K Go.Proofs
set_option linter.unusedSimpArgs false
set_option linter.unusedVariables false
set_option maxRecDepth 10000

variable {X : CallFn}

/-- An arc that is the first of a shortest cycle. -/
def Good (arcs : Arcs) (k : Nat) (a : Nat × Nat × Nat) : Prop := Way (a.1 : Nat) arcs (k - 1) a.2.2 a.2.1 ∧ ∀ m, Way (a.1 : Nat) arcs m a.2.2 a.2.1 → k - 1 ≤ m
/-- The relations of a cycle. -/
def Loop (arcs : Arcs) (n : Nat) (a : Nat × Nat × Nat) (t : Arcs) : Prop := ∃ os, Dist (a.1 : Nat) arcs n a.2.1 os ∧ Chain a.1 arcs os a.2.1 a.2.2 t

theorem cyc_loop2 (hX : ∀ a H, X 29 a H = none) (hX59 : ∀ a H, X 59 a H = none) (hM : MulOK X) (hX31 : ∀ a H, X 31 a H = none) (hX30 : ∀ a H, X 30 a H = none) {bg bm bx k : Nat} {nv av : CV} {xs : List CV} {us : List Nat} {arcs : List (Nat × Nat × Nat)} {H : Heap} {env : Env}
    (hg : Gr H bg bm bx nv av xs us arcs) (hk : HOk H) (hn : us.length ≤ 16) (har : arcs.length < 1000) (hlt : ∀ a ∈ arcs, a.2.1 < us.length ∧ a.2.2 < us.length) (hk1 : k ≤ 1000)
    (h0 : env.get 0 = some (.ptr bg 0)) (h3 : env.get 3 = some (.int .i64 (k : Nat))) (h48 : env.get 48 = some av) (h49 : env.get 49 = some (.int .i64 (arcs.length : Nat))) (h50 : env.get 50 = some (.int .i64 (0 : Nat))) :
    (∃ env' H', go Tryz.prog X 118 (sub (codeOf Tryz.f17) [true,true,true,false,true,false]) env H = some (.exit 2, env', H') ∧ (k = 0 ∨ ∀ a ∈ arcs, ¬ Good arcs k a) ∧ HOk H' ∧ Ext H.next H H') ∨
    ∃ env' H' v a t, go Tryz.prog X 118 (sub (codeOf Tryz.f17) [true,true,true,false,true,false]) env H = some (.ret, env', H') ∧ env'.get 2 = some v ∧ v ≠ .nilSlice ∧ Has H' 1 3 v ((a :: t).map fun a => CV.int .i64 (a.1 : Nat)) ∧ a ∈ arcs ∧ Loop arcs us.length a t ∧ t.length ≤ 1000 ∧ HOk H' ∧ Ext H.next H H' := by
  have hL := range_loop (P := Tryz.prog) (X := X) (nt := 118) (code := sub (codeOf Tryz.f17) [true,true,true,false,true,false]) (hd := sub (codeOf Tryz.f17) [true,true,true,false,true,false,false,false]) (body := sub (codeOf Tryz.f17) [true,true,true,false,true,false,false,true,true,false,false]) (inc := sub (codeOf Tryz.f17) [true,true,true,false,true,false,false,true,true,true]) (ti := 50) (tn := 49) (tc := 51) (tx := 117) (e := 2) (b := 3) rfl (by omega)
    (fun env H i n h1 h2 => by simp only [codeOf, Tryz.f17, sub, go_seq, go_region, opsSeq_step, opsSeq_guard, guardStep_true, guardStep_false, guardVal, opsSeq_nil, afterStep_some, afterStep_none, stepC, kindOf, quietC, evC, Nat.reduceLT, Tr.get_set, if_true, if_false, Nat.reduceEqDiff, Option.map_some, Option.bind_some, List.getElem?_toArray, List.getElem?_cons_zero, List.getElem?_cons_succ, ofVal, decide_true, decide_false, BEq.rfl, andThen_normal, andThen_exit, andThen_ret, inBlock_normal, inBlock_ret, go_skip, go_exit, go_ret, loudStep, isCall, loudC, targetC, evs, evParts, mapO, List.nil_append, List.append_nil, List.cons_append, loadC, Heap.skip_get, Heap.get_put, Heap.skip_next, Heap.put_next, h1, h2, bin_lss]) (fun env H i h1 hw => by simp only [codeOf, Tryz.f17, sub, go_seq, go_region, opsSeq_step, opsSeq_guard, guardStep_true, guardStep_false, guardVal, opsSeq_nil, afterStep_some, afterStep_none, stepC, kindOf, quietC, evC, Nat.reduceLT, Tr.get_set, if_true, if_false, Nat.reduceEqDiff, Option.map_some, Option.bind_some, List.getElem?_toArray, List.getElem?_cons_zero, List.getElem?_cons_succ, ofVal, decide_true, decide_false, BEq.rfl, andThen_normal, andThen_exit, andThen_ret, inBlock_normal, inBlock_ret, go_skip, go_exit, go_ret, loudStep, isCall, loudC, targetC, evs, evParts, mapO, List.nil_append, List.append_nil, List.cons_append, loadC, Heap.skip_get, Heap.get_put, Heap.skip_next, Heap.put_next, h1, bin_add, hw]) (by omega) (n := arcs.length) (by omega)
    (fun i env H' => env.get 0 = some (.ptr bg 0) ∧ env.get 48 = some av ∧ env.get 3 = some (.int .i64 (k : Nat)) ∧ (k = 0 ∨ ∀ a ∈ arcs.take i, ¬ Good arcs k a) ∧ HOk H' ∧ Ext H.next H H')
    (fun env' H' => ∃ v a t, env'.get 2 = some v ∧ v ≠ .nilSlice ∧ Has H' 1 3 v ((a :: t).map fun a => CV.int .i64 (a.1 : Nat)) ∧ a ∈ arcs ∧ Loop arcs us.length a t ∧ t.length ≤ 1000 ∧ HOk H' ∧ Ext H.next H H')
    (fun i env H' t v ht ⟨a0, a48, a3, r⟩ => ⟨by rcases ht with rfl | rfl | rfl <;> simp only [Tr.get_set, Nat.reduceEqDiff, if_false, a0], by rcases ht with rfl | rfl | rfl <;> simp only [Tr.get_set, Nat.reduceEqDiff, if_false, a48], by rcases ht with rfl | rfl | rfl <;> simp only [Tr.get_set, Nat.reduceEqDiff, if_false, a3], r⟩)
    (fun i env H1 hi ⟨a0, a48, a3, al, aok, ax⟩ h1 h2 => by
      have hg1 := hg.ext ax
      have hcode : sub (codeOf Tryz.f17) [true,true,true,false,true,false,false,true,true,false,false] = .seq (sub (codeOf Tryz.f17) [true,true,true,false,true,false,false,true,true,false,false,false]) (.seq (sub (codeOf Tryz.f17) [true,true,true,false,true,false,false,true,true,false,false,true,false]) (.seq (.seq (sub (codeOf Tryz.f17) [true,true,true,false,true,false,false,true,true,false,false,true,true,false,false]) (.cond (.tmp 71) (.exit 3) .skip))
        (.seq (sub (codeOf Tryz.f17) [true,true,true,false,true,false,false,true,true,false,false,true,true,true,false]) (.seq (.seq (sub (codeOf Tryz.f17) [true,true,true,false,true,false,false,true,true,false,false,true,true,true,true,false,false]) (.block 4 (sub (codeOf Tryz.f17) [true,true,true,false,true,false,false,true,true,false,false,true,true,true,true,false,true,false]))) (.seq (sub (codeOf Tryz.f17) [true,true,true,false,true,false,false,true,true,false,false,true,true,true,true,true,false]) .ret))))) := rfl
      obtain ⟨e1, H2, g1, p1, p2, p3, p4, p5, p6⟩ := cyc_r11 (X := X) a48 h1 hg1.a hi aok
      have ham : arcs[i] ∈ arcs := List.getElem_mem _
      obtain ⟨hlo, hup⟩ := hlt arcs[i] ham
      have hg2 := hg1.ext p4
      obtain ⟨bo, os, H3, c1, c2, c3, c4, c5, c6, c7, c8⟩ := dists_ok (X := X) (above := (arcs[i].1 : Nat)) hX hX59 hM hg2 p3 hn (by omega) hlt hlo
      have hUm : os[arcs[i].2.2]? = some (os.getD arcs[i].2.2 0) := by rw [List.getD_eq_getElem?_getD, List.getElem?_eq_getElem (by rw [c5.len]; exact hup)]; rfl
      have hub := c6 _ (List.mem_of_getElem? hUm)
      obtain ⟨e2, H4, g2, d1, d2, d3, d4, d5, d6⟩ := cyc_r12 (X := X) ((p6 0 (by omega) (by omega)).trans a0) p5 p1 c1 c7
      have x24 : Ext H2.next H2 H4 := c8.trans (d4.le c8.1)
      have hr4 : Ring H4 H1.next H3.next bo arcs[i].1 arcs[i].2.1 arcs[i].2.2 us.length os := ⟨x24.2 _ _ (by omega) p1, d1, d4.2 _ _ c4 c2, by have := x24.1; omega, by omega, by have := d4.1; omega⟩
      have q2 : ∀ t, t < 52 → t ≠ 8 → t ≠ 9 → e2.get t = env.get t := fun t ht n8 n9 => (d6 t ht n9).trans (p6 t ht n8)
      have e28 : e2.get 8 = some (.ptr H1.next 0) := (d6 8 (by omega) (by omega)).trans p5
      obtain ⟨e3, g3', q3⟩ := cyc_r13 (X := X) (k := k) hr4 ((q2 3 (by omega) (by omega) (by omega)).trans a3) e28 d5 hup hUm (by omega)
      have x14 : Ext H1.next H1 H4 := p4.trans (x24.le p4.1)
      have x4 : Ext H.next H H4 := ax.trans (x14.le ax.1)
      by_cases hc : k = 0 ∨ os.getD arcs[i].2.2 0 ≠ (k : Int) - 1
      · left
        rw [if_pos hc] at g3'
        refine ⟨.exit 3, e3, H4, ?_, .inr rfl, ⟨(q3 0 (by omega)).trans ((q2 0 (by omega) (by omega) (by omega)).trans a0), (q3 48 (by omega)).trans ((q2 48 (by omega) (by omega) (by omega)).trans a48), (q3 3 (by omega)).trans ((q2 3 (by omega) (by omega) (by omega)).trans a3), ?_, d3, x4⟩,
          (q3 50 (by omega)).trans ((q2 50 (by omega) (by omega) (by omega)).trans h1), (q3 49 (by omega)).trans ((q2 49 (by omega) (by omega) (by omega)).trans h2)⟩
        · rw [hcode, go_seq, g1, andThen_normal, go_seq, g2, andThen_normal, go_seq, g3', andThen_exit]
        · rcases hc with hc | hc
          · exact .inl hc
          · rcases al with al | al
            · exact .inl al
            · by_cases hk0 : k = 0
              · exact .inl hk0
              right
              intro a ha
              rw [List.take_succ_eq_append_getElem hi] at ha
              rcases List.mem_append.1 ha with ha | ha
              · exact al a ha
              · rw [List.mem_singleton.1 ha]
                rintro ⟨hw, hmin⟩
                obtain ⟨w1, w2⟩ := c5.way hw
                have := hmin (os.getD arcs[i].2.2 0).toNat (c5.to_way hlt _ _ hup (by omega))
                omega
      · right
        rw [if_neg hc] at g3'
        have hk0 : k ≠ 0 := fun h => hc (.inl h)
        have hv : os.getD arcs[i].2.2 0 = (k : Int) - 1 := Classical.byContradiction fun h => hc (.inr h)
        obtain ⟨e5, H5, g5, f10, f11, fm, fb, fn, fk, fx, fq⟩ := cyc_r14 (X := X) hr4.a ((q3 8 (by omega)).trans e28) d3 hr4.la
        have fq' : ∀ t, t < 10 → t ≠ 8 → t ≠ 9 → e5.get t = env.get t := fun t ht n8 n9 => (fq t ht).trans ((q3 t (by omega)).trans (q2 t (by omega) n8 n9))
        obtain ⟨e6, H6, v6, t, g6, c10, cm, cc, cl, ck, cx⟩ := cyc_ring (X := X) hX31 hX30 (H0 := H4) (hg.ext x4) hr4 c5 c6 (by omega) hlt (k - 1) arcs[i].2.2 (H4.next + 1) e5 H5 _ _ (by omega) hup (by simp only [List.length_singleton]; omega) fk fx fb (by omega) (by omega) fm
          ((fq' 0 (by omega) (by omega) (by omega)).trans a0) ((fq 8 (by omega)).trans ((q3 8 (by omega)).trans e28)) ((fq 9 (by omega)).trans ((q3 9 (by omega)).trans d5)) f10 f11
        have g7 : go Tryz.prog X 118 (.seq (sub (codeOf Tryz.f17) [true,true,true,false,true,false,false,true,true,false,false,true,true,true,true,true,false]) .ret) e6 H6 = some (.ret, (e6.set 116 v6).set 2 v6, H6) := by
          simp only [codeOf, Tryz.f17, sub, go_seq, go_region, opsSeq_step, opsSeq_guard, guardStep_true, guardStep_false, guardVal, opsSeq_nil, afterStep_some, afterStep_none, stepC, kindOf, quietC, evC, Nat.reduceLT, Tr.get_set, if_true, if_false, Nat.reduceEqDiff, Option.map_some, Option.bind_some, List.getElem?_toArray, List.getElem?_cons_zero, List.getElem?_cons_succ, ofVal, decide_true, decide_false, BEq.rfl, andThen_normal, andThen_exit, andThen_ret, inBlock_normal, inBlock_ret, go_skip, go_exit, go_ret, loudStep, isCall, loudC, targetC, evs, evParts, mapO, List.nil_append, List.append_nil, List.cons_append, loadC, Heap.skip_get, Heap.get_put, Heap.skip_next, Heap.put_next, c10]
        refine ⟨(e6.set 116 v6).set 2 v6, H6, ?_, v6, arcs[i], t, by simp only [Tr.get_set, if_true], ?_, by simpa using cm.1, ham, ⟨os, c5, cc⟩, by omega, ck, x4.trans (cx.le x4.1)⟩
        · rw [go_seq] at g5
          rw [hcode, go_seq, g1, andThen_normal, go_seq, g2, andThen_normal, go_seq, g3', andThen_normal, go_seq]
          revert g5
          cases go Tryz.prog X 118 (sub (codeOf Tryz.f17) [true,true,true,false,true,false,false,true,true,false,false,true,true,true,false]) e3 H4 with
          | none => intro g5; cases g5
          | some r =>
            obtain ⟨r, e', H'⟩ := r
            cases r with
            | normal =>
              rw [andThen_normal, andThen_normal]
              intro g5
              rw [go_seq, go_seq, g5, andThen_normal, go_block, g6, inBlock_exit, if_pos rfl, andThen_normal, g7]
            | _ => intro g5; cases g5
        · rintro rfl
          have := cm.1.2
          rcases this with ⟨_, e⟩ | ⟨_, _, _, _, _, e, _⟩
          · simp at e
          · cases e)
  rcases hL arcs.length 0 env H (by omega) ⟨h0, h48, h3, .inr fun a ha => by simp at ha, hk, Ext.refl _ _⟩ h50 h49 with ⟨e, H', g, b0, b48, b3, bl, bk, bx⟩ | ⟨e, H', g, v, a, t, r⟩
  · rw [List.take_length] at bl
    exact .inl ⟨e, H', g, bl, bk, bx⟩
  · exact .inr ⟨e, H', v, a, t, g, r⟩

theorem cycle_ok (hX17 : ∀ a H, X 17 a H = none) (hX : ∀ a H, X 29 a H = none) (hX59 : ∀ a H, X 59 a H = none) (hM : MulOK X) (hX31 : ∀ a H, X 31 a H = none) (hX30 : ∀ a H, X 30 a H = none) {bg bm bx : Nat} {nv av : CV} {xs : List CV} {us : List Nat} {arcs : List (Nat × Nat × Nat)} {H : Heap}
    (hg : Gr H bg bm bx nv av xs us arcs) (hk : HOk H) (hn : us.length ≤ 16) (har : arcs.length < 1000) (hlt : ∀ a ∈ arcs, a.2.1 < us.length ∧ a.2.2 < us.length) :
    ∃ v H', calls Tryz.prog X 17 [.ptr bg 0] H = some (v, H') ∧ HOk H' ∧ Ext H.next H H' ∧ ((v = .nilSlice ∧ ∃ k, Least arcs arcs k ∧ (k = 0 ∨ ∀ a ∈ arcs, ¬ Good arcs k a)) ∨
      (v ≠ .nilSlice ∧ ∃ a t, Has H' 1 3 v ((a :: t).map fun a => CV.int .i64 (a.1 : Nat)) ∧ a ∈ arcs ∧ Loop arcs us.length a t ∧ t.length ≤ 1000)) := by
  have hcode : codeOf Tryz.f17 = .seq (sub (codeOf Tryz.f17) [false]) (.seq (sub (codeOf Tryz.f17) [true,false]) (.seq (.seq (sub (codeOf Tryz.f17) [true,true,false,false]) (.block 0 (sub (codeOf Tryz.f17) [true,true,false,true,false]))) (.seq (.seq (sub (codeOf Tryz.f17) [true,true,true,false,false]) (.block 2 (sub (codeOf Tryz.f17) [true,true,true,false,true,false]))) (.seq (sub (codeOf Tryz.f17) [true,true,true,true,false]) .ret)))) := rfl
  have h0 : (envOf [.ptr bg 0] 0 .nil).get 0 = some (.ptr bg 0) := by simp [envOf, Tr.get_set]
  have gl : go Tryz.prog X 118 (sub (codeOf Tryz.f17) [false]) (envOf [.ptr bg 0] 0 .nil) H = some (.normal, (envOf [.ptr bg 0] 0 .nil).set 2 .nilSlice, H) := by simp only [codeOf, Tryz.f17, sub, go_seq, go_region, opsSeq_step, opsSeq_guard, guardStep_true, guardStep_false, guardVal, opsSeq_nil, afterStep_some, afterStep_none, stepC, kindOf, quietC, evC, Nat.reduceLT, Tr.get_set, if_true, if_false, Nat.reduceEqDiff, Option.map_some, Option.bind_some, List.getElem?_toArray, List.getElem?_cons_zero, List.getElem?_cons_succ, ofVal, decide_true, decide_false, BEq.rfl, andThen_normal, andThen_exit, andThen_ret, inBlock_normal, inBlock_ret, go_skip, go_exit, go_ret, loudStep, isCall, loudC, targetC, evs, evParts, mapO, List.nil_append, List.append_nil, List.cons_append, loadC, Heap.skip_get, Heap.get_put, Heap.skip_next, Heap.put_next]
  have grl : go Tryz.prog X 118 (sub (codeOf Tryz.f17) [true,false]) ((envOf [.ptr bg 0] 0 .nil).set 2 .nilSlice) H = some (.normal, ((envOf [.ptr bg 0] 0 .nil).set 2 .nilSlice).set 3 (.int .i64 0), H) := by simp only [codeOf, Tryz.f17, sub, go_seq, go_region, opsSeq_step, opsSeq_guard, guardStep_true, guardStep_false, guardVal, opsSeq_nil, afterStep_some, afterStep_none, stepC, kindOf, quietC, evC, Nat.reduceLT, Tr.get_set, if_true, if_false, Nat.reduceEqDiff, Option.map_some, Option.bind_some, List.getElem?_toArray, List.getElem?_cons_zero, List.getElem?_cons_succ, ofVal, decide_true, decide_false, BEq.rfl, andThen_normal, andThen_exit, andThen_ret, inBlock_normal, inBlock_ret, go_skip, go_exit, go_ret, loudStep, isCall, loudC, targetC, evs, evParts, mapO, List.nil_append, List.append_nil, List.cons_append, loadC, Heap.skip_get, Heap.get_put, Heap.skip_next, Heap.put_next]
  have hlen := hg.a.len (P := Tryz.prog) u74
  rw [List.length_map] at hlen
  have g0 : ∃ e, go Tryz.prog X 118 (sub (codeOf Tryz.f17) [true,true,false,false]) (((envOf [.ptr bg 0] 0 .nil).set 2 .nilSlice).set 3 (.int .i64 0)) H = some (.normal, e, H) ∧ e.get 0 = some (.ptr bg 0) ∧ e.get 3 = some (.int .i64 (0 : Nat)) ∧ e.get 16 = some av ∧ e.get 17 = some (.int .i64 (arcs.length : Nat)) ∧ e.get 18 = some (.int .i64 (0 : Nat)) := by
    simp only [codeOf, Tryz.f17, sub, go_seq, go_region, opsSeq_step, opsSeq_guard, guardStep_true, guardStep_false, guardVal, opsSeq_nil, afterStep_some, afterStep_none, stepC, kindOf, quietC, evC, Nat.reduceLT, Tr.get_set, if_true, if_false, Nat.reduceEqDiff, Option.map_some, Option.bind_some, List.getElem?_toArray, List.getElem?_cons_zero, List.getElem?_cons_succ, ofVal, decide_true, decide_false, BEq.rfl, andThen_normal, andThen_exit, andThen_ret, inBlock_normal, inBlock_ret, go_skip, go_exit, go_ret, loudStep, isCall, loudC, targetC, evs, evParts, mapO, List.nil_append, List.append_nil, List.cons_append, loadC, Heap.skip_get, Heap.get_put, Heap.skip_next, Heap.put_next, h0, fa77_2, g74, hg.g, Nat.zero_add, hlen]
    exact ⟨_, rfl, by simp only [Tr.get_set, Nat.reduceEqDiff, if_false, h0], by simp only [Tr.get_set, Nat.reduceEqDiff, if_false, if_true]; rfl, by simp only [Tr.get_set, Nat.reduceEqDiff, if_false, if_true], by simp only [Tr.get_set, Nat.reduceEqDiff, if_false, if_true], by simp only [Tr.get_set, if_true]; rfl⟩
  obtain ⟨e0, g0, a0, a3, a16, a17, a18⟩ := g0
  obtain ⟨e1, H1, k, g1, b0, b3, hL, hkk, k1, x1⟩ := cyc_loop1 (X := X) hX hX59 hM hg hk hn har hlt a0 a3 a16 a17 a18
  have hg1 := hg.ext x1
  have g2 : ∃ e, go Tryz.prog X 118 (sub (codeOf Tryz.f17) [true,true,true,false,false]) e1 H1 = some (.normal, e, H1) ∧ e.get 0 = some (.ptr bg 0) ∧ e.get 3 = some (.int .i64 (k : Nat)) ∧ e.get 48 = some av ∧ e.get 49 = some (.int .i64 (arcs.length : Nat)) ∧ e.get 50 = some (.int .i64 (0 : Nat)) := by
    simp only [codeOf, Tryz.f17, sub, go_seq, go_region, opsSeq_step, opsSeq_guard, guardStep_true, guardStep_false, guardVal, opsSeq_nil, afterStep_some, afterStep_none, stepC, kindOf, quietC, evC, Nat.reduceLT, Tr.get_set, if_true, if_false, Nat.reduceEqDiff, Option.map_some, Option.bind_some, List.getElem?_toArray, List.getElem?_cons_zero, List.getElem?_cons_succ, ofVal, decide_true, decide_false, BEq.rfl, andThen_normal, andThen_exit, andThen_ret, inBlock_normal, inBlock_ret, go_skip, go_exit, go_ret, loudStep, isCall, loudC, targetC, evs, evParts, mapO, List.nil_append, List.append_nil, List.cons_append, loadC, Heap.skip_get, Heap.get_put, Heap.skip_next, Heap.put_next, b0, fa77_2, g74, hg1.g, Nat.zero_add, hlen]
    exact ⟨_, rfl, by simp only [Tr.get_set, Nat.reduceEqDiff, if_false, b0], by simp only [Tr.get_set, Nat.reduceEqDiff, if_false, b3], by simp only [Tr.get_set, Nat.reduceEqDiff, if_false, if_true], by simp only [Tr.get_set, Nat.reduceEqDiff, if_false, if_true], by simp only [Tr.get_set, if_true]; rfl⟩
  obtain ⟨e2, g2, c0, c3, c48, c49, c50⟩ := g2
  have hend : ∀ (c : CV) (e : Env) (H' : Heap), go Tryz.prog X 118 (.seq (.block 2 (sub (codeOf Tryz.f17) [true,true,true,false,true,false])) (.seq (sub (codeOf Tryz.f17) [true,true,true,true,false]) .ret)) e2 H1 = some (.ret, e, H') → e.get 2 = some c → calls Tryz.prog X 17 [.ptr bg 0] H = some (c, H') := by
    intro c e H' h hc
    refine calls_ret (hX17 _ _) Tryz.func17 rfl (by decide) (nt := 118) rfl (env' := e) ?_ (results_one hc)
    rw [hcode, go_seq, gl, andThen_normal, go_seq, grl, andThen_normal, go_seq, go_seq, g0, andThen_normal, go_block, g1, inBlock_exit, if_pos rfl, andThen_normal, go_seq, go_seq, g2, andThen_normal]
    rw [go_seq] at h
    exact h
  rcases cyc_loop2 (X := X) hX hX59 hM hX31 hX30 hg1 k1 hn har hlt hkk c0 c3 c48 c49 c50 with ⟨e3, H3, g3, hno, k3, x3⟩ | ⟨e3, H3, v, a, t, g3, d2, dv, dh, da, dl, dt, k3, x3⟩
  · have gz : go Tryz.prog X 118 (.seq (sub (codeOf Tryz.f17) [true,true,true,true,false]) .ret) e3 H3 = some (.ret, e3.set 2 .nilSlice, H3) := by simp only [codeOf, Tryz.f17, sub, go_seq, go_region, opsSeq_step, opsSeq_guard, guardStep_true, guardStep_false, guardVal, opsSeq_nil, afterStep_some, afterStep_none, stepC, kindOf, quietC, evC, Nat.reduceLT, Tr.get_set, if_true, if_false, Nat.reduceEqDiff, Option.map_some, Option.bind_some, List.getElem?_toArray, List.getElem?_cons_zero, List.getElem?_cons_succ, ofVal, decide_true, decide_false, BEq.rfl, andThen_normal, andThen_exit, andThen_ret, inBlock_normal, inBlock_ret, go_skip, go_exit, go_ret, loudStep, isCall, loudC, targetC, evs, evParts, mapO, List.nil_append, List.append_nil, List.cons_append, loadC, Heap.skip_get, Heap.get_put, Heap.skip_next, Heap.put_next]
    refine ⟨.nilSlice, H3, hend _ (e3.set 2 .nilSlice) H3 ?_ (by simp only [Tr.get_set, if_true]), k3, x1.trans (x3.le x1.1), .inl ⟨rfl, k, hL, hno⟩⟩
    rw [go_seq, go_block, g3, inBlock_exit, if_pos rfl, andThen_normal, gz]
  · refine ⟨v, H3, hend _ e3 H3 ?_ d2, k3, x1.trans (x3.le x1.1), .inr ⟨dv, a, t, dh, da, dl, dt⟩⟩
    rw [go_seq, go_block, g3, inBlock_ret, andThen_ret]
end Go.Z

namespace Go.Z
open Go.K Go.Proofs
set_option linter.unusedSimpArgs false
set_option linter.unusedVariables false
set_option maxRecDepth 10000

variable {X : CallFn}

/-- The cells of a list of numbers. -/
def cellsOf (n : Nat) (f : Nat → Nat) : List CV := (List.range n).map fun x => CV.int .i64 (f x : Nat)
theorem cellsOf_length (n : Nat) (f : Nat → Nat) : (cellsOf n f).length = n := by simp [cellsOf]
theorem cellsOf_get {n k : Nat} {f : Nat → Nat} (h : k < n) : (cellsOf n f)[k]? = some (.int .i64 (f k : Nat)) := by simp [cellsOf, h]
theorem cellsOf_set {n k v : Nat} {f : Nat → Nat} (h : k < n) : (cellsOf n f).set k (.int .i64 (v : Nat)) = cellsOf n (fun x => if x = k then v else f x) := by
  apply List.ext_getElem?
  intro i
  by_cases hi : i < n
  · by_cases e : i = k
    · subst e
      rw [List.getElem?_set_self (by rw [cellsOf_length]; exact h), cellsOf_get h, if_pos rfl]
    · rw [List.getElem?_set_ne (Ne.symm e), cellsOf_get hi, cellsOf_get hi, if_neg e]
  · rw [List.getElem?_eq_none (by rw [List.length_set, cellsOf_length]; omega), List.getElem?_eq_none (by rw [cellsOf_length]; omega)]
theorem cellsOf_zero (n : Nat) : List.replicate n (CV.int .i64 0) = cellsOf n (fun _ => 0) := by
  apply List.ext_getElem?
  intro i
  by_cases hi : i < n
  · rw [cellsOf_get hi, List.getElem?_replicate, if_pos hi]; rfl
  · rw [List.getElem?_eq_none (by simp; omega), List.getElem?_eq_none (by rw [cellsOf_length]; omega)]

/-- How many arcs lead to a unit. -/
def cnt (arcs : Arcs) (x : Nat) : Nat := arcs.countP fun a => decide (a.2.2 = x)
theorem cnt_le (arcs : Arcs) (x : Nat) : cnt arcs x ≤ arcs.length := List.countP_le_length
theorem cnt_snoc (arcs : Arcs) (a : Nat × Nat × Nat) (x : Nat) : cnt (arcs ++ [a]) x = if x = a.2.2 then cnt arcs x + 1 else cnt arcs x := by
  simp only [cnt, List.countP_append, List.countP_singleton]
  by_cases h : x = a.2.2
  · rw [if_pos h, if_pos (by simp [h])]
  · rw [if_neg h, if_neg (by simp [Ne.symm h])]; rfl

theorem bef_r4 {env : Env} {H : Heap} {av : CV} {arcs : List (Nat × Nat × Nat)} {i : Nat} (h25 : env.get 15 = some av) (h27 : env.get 17 = some (.int .i64 i)) (hl : Has H 3 79 av (arcs.map arcCV)) (hi : i < arcs.length) (hk : HOk H) :
    ∃ env' H', go Tryz.prog X 30 (sub (codeOf Tryz.f35) [true,true,false,true,false,false,true,true,false,false,false]) env H = some (.normal, env', H') ∧ H'.get H.next = some (.cells [.int .i64 arcs[i].1, .int .i64 arcs[i].2.1, .int .i64 arcs[i].2.2] 79 none) ∧ H'.next = H.next + 1 ∧ HOk H' ∧ Ext H.next H H' ∧
      env'.get 5 = some (.ptr H.next 0) ∧ ∀ t, t < 19 → t ≠ 5 → env'.get t = env.get t := by
  obtain ⟨b, off, cs, fam, hb, _, hidx, hget, hcells, hcell⟩ := hl.at (P := Tryz.prog) (t := 74) u74 s79 (i := i) (by simpa using hi)
  rw [List.getElem_map] at hcells
  have hcl : takeE 3 (cs.drop off) = some [.int .i64 arcs[i].1, .int .i64 arcs[i].2.1, .int .i64 arcs[i].2.2] := hcells
  generalize hH2 : ((H.skip 1).put H.next (.cells [.int .i64 0, .int .i64 0, .int .i64 0] 79 none)).put H.next (.cells [.int .i64 arcs[i].1, .int .i64 arcs[i].2.1, .int .i64 arcs[i].2.2] 79 none) = H2
  have hE2 : Ext H.next H H2 := by rw [← hH2]; exact (Ext.skip.trans (Ext.put (Nat.le_refl _))).trans (Ext.put (Nat.le_refl _))
  have hk2 : HOk H2 := by rw [← hH2]; exact Hok.put rfl (Hok.put rfl (Hok.skip 1 hk))
  have hn2 : H2.next = H.next + 1 := by rw [← hH2]; rfl
  have hg2 : H2.get H.next = some (.cells [.int .i64 arcs[i].1, .int .i64 arcs[i].2.1, .int .i64 arcs[i].2.2] 79 none) := by rw [← hH2, Heap.get_put, if_pos rfl]
  suffices h : ∃ env', go Tryz.prog X 30 (sub (codeOf Tryz.f35) [true,true,false,true,false,false,true,true,false,false,false]) env H = some (.normal, env', H2) ∧ env'.get 5 = some (.ptr H.next 0) ∧ ∀ t, t < 19 → t ≠ 5 → env'.get t = env.get t by
    obtain ⟨env', q1, q⟩ := h
    exact ⟨env', H2, q1, hg2, hn2, hk2, hE2, q⟩
  simp only [codeOf, Tryz.f35, sub, go_seq, go_region, opsSeq_step, opsSeq_guard, guardStep_true, guardStep_false, guardVal, opsSeq_nil, afterStep_some, afterStep_none, stepC, kindOf, quietC, evC, Nat.reduceLT, Tr.get_set, if_true, if_false, Nat.reduceEqDiff, Option.map_some, Option.bind_some, List.getElem?_toArray, List.getElem?_cons_zero, List.getElem?_cons_succ, ofVal, decide_true, decide_false, BEq.rfl, andThen_normal, andThen_exit, andThen_ret, inBlock_normal, inBlock_ret, go_skip, go_exit, go_ret, loudStep, isCall, loudC, targetC, evs, evParts, mapO, List.nil_append, List.append_nil, List.cons_append, loadC, Heap.skip_get, Heap.get_put, Heap.skip_next, Heap.put_next, h25, h27, hidx, hget, hcl, s79, g79, al79, store79, List.length_cons, List.length_nil, Nat.reduceAdd, hH2]
  refine ⟨_, rfl, by simp only [Tr.get_set, Nat.reduceEqDiff, if_true, if_false], fun t ht h10 => ?_⟩
  simp only [Tr.get_set, show t ≠ 19 by omega, show t ≠ 20 by omega, h10, if_false]

theorem before_ok (hX35 : ∀ a H, X 35 a H = none) {bg bm bx : Nat} {nv av : CV} {xs : List CV} {us : List Nat} {arcs : List (Nat × Nat × Nat)} {H : Heap}
    (hg : Gr H bg bm bx nv av xs us arcs) (hk : HOk H) (hn : us.length ≤ 16) (har : arcs.length < 1000) (hlt : ∀ a ∈ arcs, a.2.1 < us.length ∧ a.2.2 < us.length) :
    ∃ b H', calls Tryz.prog X 35 [.ptr bg 0] H = some (.slice b 0 us.length (.exact us.length), H') ∧ HOk H' ∧ Ext H.next H H' ∧ H'.get b = some (.cells (cellsOf us.length (cnt arcs)) 3 none) ∧ H.next ≤ b ∧ b < H'.next := by
  have hcode : codeOf Tryz.f35 = .seq (sub (codeOf Tryz.f35) [false]) (.seq (sub (codeOf Tryz.f35) [true,false]) (.seq (.seq (sub (codeOf Tryz.f35) [true,true,false,false]) (.block 0 (sub (codeOf Tryz.f35) [true,true,false,true,false]))) (.seq (sub (codeOf Tryz.f35) [true,true,true,false]) .ret))) := rfl
  generalize hn' : us.length = n at *
  have h0 : (envOf [.ptr bg 0] 0 .nil).get 0 = some (.ptr bg 0) := by simp [envOf, Tr.get_set]
  have gl : go Tryz.prog X 30 (sub (codeOf Tryz.f35) [false]) (envOf [.ptr bg 0] 0 .nil) H = some (.normal, (envOf [.ptr bg 0] 0 .nil).set 2 .nilSlice, H) := by simp only [codeOf, Tryz.f35, sub, go_seq, go_region, opsSeq_step, opsSeq_guard, guardStep_true, guardStep_false, guardVal, opsSeq_nil, afterStep_some, afterStep_none, stepC, kindOf, quietC, evC, Nat.reduceLT, Tr.get_set, if_true, if_false, Nat.reduceEqDiff, Option.map_some, Option.bind_some, List.getElem?_toArray, List.getElem?_cons_zero, List.getElem?_cons_succ, ofVal, decide_true, decide_false, BEq.rfl, andThen_normal, andThen_exit, andThen_ret, inBlock_normal, inBlock_ret, go_skip, go_exit, go_ret, loudStep, isCall, loudC, targetC, evs, evParts, mapO, List.nil_append, List.append_nil, List.cons_append, loadC, Heap.skip_get, Heap.get_put, Heap.skip_next, Heap.put_next]
  have hlen := hg.a.len (P := Tryz.prog) u74
  rw [List.length_map] at hlen
  have hlenn := hg.n.len (P := Tryz.prog) u30
  rw [List.length_map, hn'] at hlenn
  have mk := fun (ρ : Operand → Option CV) (h : ρ (.tmp 10) = some (.int .i64 (n : Int))) => mk26 (n := n) (by omega) ρ (.tmp 10) h
  generalize hH1 : (H.skip 1).put H.next (.cells (List.replicate n (.int .i64 0)) 3 none) = H1
  have x1 : Ext H.next H H1 := by rw [← hH1]; exact Ext.skip.trans (Ext.put (Nat.le_refl _))
  have k1 : HOk H1 := by rw [← hH1]; exact Hok.put rfl (Hok.skip 1 hk)
  have n1 : H1.next = H.next + 1 := by rw [← hH1]; rfl
  have b1 : H1.get H.next = some (.cells (cellsOf n (cnt [])) 3 none) := by
    rw [← hH1, Heap.get_put, if_pos rfl, cellsOf_zero]; rfl
  have grl : ∃ e, go Tryz.prog X 30 (sub (codeOf Tryz.f35) [true,false]) ((envOf [.ptr bg 0] 0 .nil).set 2 .nilSlice) H = some (.normal, e, H1) ∧ e.get 0 = some (.ptr bg 0) ∧ e.get 3 = some (.slice H.next 0 n (.exact n)) := by
    simp only [codeOf, Tryz.f35, sub, go_seq, go_region, opsSeq_step, opsSeq_guard, guardStep_true, guardStep_false, guardVal, opsSeq_nil, afterStep_some, afterStep_none, stepC, kindOf, quietC, evC, Nat.reduceLT, Tr.get_set, if_true, if_false, Nat.reduceEqDiff, Option.map_some, Option.bind_some, List.getElem?_toArray, List.getElem?_cons_zero, List.getElem?_cons_succ, ofVal, decide_true, decide_false, BEq.rfl, andThen_normal, andThen_exit, andThen_ret, inBlock_normal, inBlock_ret, go_skip, go_exit, go_ret, loudStep, isCall, loudC, targetC, evs, evParts, mapO, List.nil_append, List.append_nil, List.cons_append, loadC, Heap.skip_get, Heap.get_put, Heap.skip_next, Heap.put_next, h0, fa77_0, g30, hg.g, Nat.zero_add, hlenn, mk, hn', hH1]
    exact ⟨_, rfl, by simp only [Tr.get_set, Nat.reduceEqDiff, if_false, h0], by simp only [Tr.get_set, if_true]⟩
  obtain ⟨e1, g1, a0, a3⟩ := grl
  have hg1 := hg.ext x1
  have g2 : ∃ e, go Tryz.prog X 30 (sub (codeOf Tryz.f35) [true,true,false,false]) e1 H1 = some (.normal, e, H1) ∧ e.get 3 = some (.slice H.next 0 n (.exact n)) ∧ e.get 15 = some av ∧ e.get 16 = some (.int .i64 (arcs.length : Nat)) ∧ e.get 17 = some (.int .i64 (0 : Nat)) := by
    simp only [codeOf, Tryz.f35, sub, go_seq, go_region, opsSeq_step, opsSeq_guard, guardStep_true, guardStep_false, guardVal, opsSeq_nil, afterStep_some, afterStep_none, stepC, kindOf, quietC, evC, Nat.reduceLT, Tr.get_set, if_true, if_false, Nat.reduceEqDiff, Option.map_some, Option.bind_some, List.getElem?_toArray, List.getElem?_cons_zero, List.getElem?_cons_succ, ofVal, decide_true, decide_false, BEq.rfl, andThen_normal, andThen_exit, andThen_ret, inBlock_normal, inBlock_ret, go_skip, go_exit, go_ret, loudStep, isCall, loudC, targetC, evs, evParts, mapO, List.nil_append, List.append_nil, List.cons_append, loadC, Heap.skip_get, Heap.get_put, Heap.skip_next, Heap.put_next, a0, fa77_2, g74, hg1.g, Nat.zero_add, hlen]
    exact ⟨_, rfl, by simp only [Tr.get_set, Nat.reduceEqDiff, if_false, a3], by simp only [Tr.get_set, Nat.reduceEqDiff, if_false, if_true], by simp only [Tr.get_set, Nat.reduceEqDiff, if_false, if_true], by simp only [Tr.get_set, if_true]; rfl⟩
  obtain ⟨e2, g2, c3, c15, c16, c17⟩ := g2
  have hL := range_loop (P := Tryz.prog) (X := X) (nt := 30) (code := sub (codeOf Tryz.f35) [true,true,false,true,false]) (hd := sub (codeOf Tryz.f35) [true,true,false,true,false,false,false]) (body := sub (codeOf Tryz.f35) [true,true,false,true,false,false,true,true,false,false]) (inc := sub (codeOf Tryz.f35) [true,true,false,true,false,false,true,true,true]) (ti := 17) (tn := 16) (tc := 18) (tx := 28) (e := 0) (b := 1) rfl (by omega)
    (fun env H i n h1 h2 => by simp only [codeOf, Tryz.f35, sub, go_seq, go_region, opsSeq_step, opsSeq_guard, guardStep_true, guardStep_false, guardVal, opsSeq_nil, afterStep_some, afterStep_none, stepC, kindOf, quietC, evC, Nat.reduceLT, Tr.get_set, if_true, if_false, Nat.reduceEqDiff, Option.map_some, Option.bind_some, List.getElem?_toArray, List.getElem?_cons_zero, List.getElem?_cons_succ, ofVal, decide_true, decide_false, BEq.rfl, andThen_normal, andThen_exit, andThen_ret, inBlock_normal, inBlock_ret, go_skip, go_exit, go_ret, loudStep, isCall, loudC, targetC, evs, evParts, mapO, List.nil_append, List.append_nil, List.cons_append, loadC, Heap.skip_get, Heap.get_put, Heap.skip_next, Heap.put_next, h1, h2, bin_lss]) (fun env H i h1 hw => by simp only [codeOf, Tryz.f35, sub, go_seq, go_region, opsSeq_step, opsSeq_guard, guardStep_true, guardStep_false, guardVal, opsSeq_nil, afterStep_some, afterStep_none, stepC, kindOf, quietC, evC, Nat.reduceLT, Tr.get_set, if_true, if_false, Nat.reduceEqDiff, Option.map_some, Option.bind_some, List.getElem?_toArray, List.getElem?_cons_zero, List.getElem?_cons_succ, ofVal, decide_true, decide_false, BEq.rfl, andThen_normal, andThen_exit, andThen_ret, inBlock_normal, inBlock_ret, go_skip, go_exit, go_ret, loudStep, isCall, loudC, targetC, evs, evParts, mapO, List.nil_append, List.append_nil, List.cons_append, loadC, Heap.skip_get, Heap.get_put, Heap.skip_next, Heap.put_next, h1, bin_add, hw]) (by omega) (n := arcs.length) (by omega)
    (fun i env H' => env.get 3 = some (.slice H.next 0 n (.exact n)) ∧ env.get 15 = some av ∧ H'.get H.next = some (.cells (cellsOf n (cnt (arcs.take i))) 3 none) ∧ H1.next ≤ H'.next ∧ HOk H' ∧ ∀ b o, b < H1.next → b ≠ H.next → H1.get b = some o → H'.get b = some o) (fun _ _ => False)
    (fun i env H' t v ht ⟨a3, a15, r⟩ => ⟨by rcases ht with rfl | rfl | rfl <;> simp only [Tr.get_set, Nat.reduceEqDiff, if_false, a3], by rcases ht with rfl | rfl | rfl <;> simp only [Tr.get_set, Nat.reduceEqDiff, if_false, a15], r⟩)
    (fun i env G hi ⟨a3, a15, ab, an, aok, ak⟩ h1 h2 => by
      left
      have hav : Has G 3 79 av (arcs.map arcCV) := by
        refine ⟨hg1.a.1, ?_⟩
        rcases hg1.a.2 with h | ⟨b, off, cap, cs, fam, hv, h1, h2', h3, h4, h5⟩
        · exact .inl h
        · have := hg.a.lt _ _ _ _ hv
          exact .inr ⟨b, off, cap, cs, fam, hv, h1, by omega, ak b _ h2' (by omega) h3, h4, h5⟩
      obtain ⟨e3, G2, ga, p1, p2, p3, p4, p5, p6⟩ := bef_r4 (X := X) a15 h1 hav hi aok
      have hup := (hlt _ (List.getElem_mem hi)).2
      have hcb := p4.2 _ _ (by omega) ab
      have hw : wrap .i64 ((cnt (arcs.take i) arcs[i].2.2 : Nat) + 1) = ((cnt (arcs.take i) arcs[i].2.2 + 1 : Nat) : Int) := by
        have := cnt_le (arcs.take i) arcs[i].2.2
        rw [List.length_take] at this
        exact wrap64 (by omega) (by omega)
      have hst := store_one (P := Tryz.prog) (t := 3) (k := arcs[i].2.2) (v := .int .i64 ((cnt (arcs.take i) arcs[i].2.2 + 1 : Nat) : Int)) s3 rfl rfl hcb (by rw [cellsOf_length]; exact hup)
      rw [cellsOf_set hup] at hst
      have hce : (cellsOf n fun x => if x = arcs[i].2.2 then cnt (arcs.take i) arcs[i].2.2 + 1 else cnt (arcs.take i) x) = cellsOf n (cnt (arcs.take (i + 1))) := by
        congr 1
        funext x
        rw [List.take_succ_eq_append_getElem hi, cnt_snoc]
        split
        · rename_i e; rw [e]
        · rfl
      rw [hce] at hst
      have g4 : ∃ e, go Tryz.prog X 30 (sub (codeOf Tryz.f35) [true,true,false,true,false,false,true,true,false,false,true]) e3 G2 = some (.normal, e, G2.put H.next (.cells (cellsOf n (cnt (arcs.take (i + 1)))) 3 none)) ∧ ∀ t, t < 19 → e.get t = e3.get t := by
        simp only [codeOf, Tryz.f35, sub, go_seq, go_region, opsSeq_step, opsSeq_guard, guardStep_true, guardStep_false, guardVal, opsSeq_nil, afterStep_some, afterStep_none, stepC, kindOf, quietC, evC, Nat.reduceLT, Tr.get_set, if_true, if_false, Nat.reduceEqDiff, Option.map_some, Option.bind_some, List.getElem?_toArray, List.getElem?_cons_zero, List.getElem?_cons_succ, ofVal, decide_true, decide_false, BEq.rfl, andThen_normal, andThen_exit, andThen_ret, inBlock_normal, inBlock_ret, go_skip, go_exit, go_ret, loudStep, isCall, loudC, targetC, evs, evParts, mapO, List.nil_append, List.append_nil, List.cons_append, loadC, Heap.skip_get, Heap.get_put, Heap.skip_next, Heap.put_next, (p6 3 (by omega) (by omega)).trans a3, p5, fa79_2, g3, p1, Nat.zero_add, idx26 hup, hcb, cellsOf_get hup, bin_add, hw, hst]
        refine ⟨_, rfl, fun t ht => ?_⟩
        simp only [Tr.get_set, show t ≠ 21 by omega, show t ≠ 22 by omega, show t ≠ 23 by omega, show t ≠ 24 by omega, show t ≠ 25 by omega, show t ≠ 26 by omega, show t ≠ 27 by omega, if_false]
      obtain ⟨e4, g4, q4⟩ := g4
      refine ⟨.normal, e4, _, ?_, .inl rfl, ⟨(q4 3 (by omega)).trans ((p6 3 (by omega) (by omega)).trans a3), (q4 15 (by omega)).trans ((p6 15 (by omega) (by omega)).trans a15), by rw [Heap.get_put, if_pos rfl], by show H1.next ≤ G2.next; omega, Hok.put rfl p3, fun b o hb hb1 ho => ?_⟩, (q4 17 (by omega)).trans ((p6 17 (by omega) (by omega)).trans h1), (q4 16 (by omega)).trans ((p6 16 (by omega) (by omega)).trans h2)⟩
      · show go Tryz.prog X 30 (.seq (sub (codeOf Tryz.f35) [true,true,false,true,false,false,true,true,false,false,false]) (sub (codeOf Tryz.f35) [true,true,false,true,false,false,true,true,false,false,true])) env G = _
        rw [go_seq, ga, andThen_normal, g4]
      · rw [Heap.get_put, if_neg hb1]
        exact p4.2 b o (by omega) (ak b o hb hb1 ho))
  rcases hL arcs.length 0 e2 H1 (by omega) ⟨c3, c15, b1, Nat.le_refl _, k1, fun _ _ _ _ h => h⟩ c17 c16 with ⟨e3, H3, g3, d3, _, d4, d5, d6, d7⟩ | ⟨_, _, _, f⟩
  · rw [List.take_length] at d4
    have gz : go Tryz.prog X 30 (.seq (sub (codeOf Tryz.f35) [true,true,true,false]) .ret) e3 H3 = some (.ret, (e3.set 29 (.slice H.next 0 n (.exact n))).set 2 (.slice H.next 0 n (.exact n)), H3) := by simp only [codeOf, Tryz.f35, sub, go_seq, go_region, opsSeq_step, opsSeq_guard, guardStep_true, guardStep_false, guardVal, opsSeq_nil, afterStep_some, afterStep_none, stepC, kindOf, quietC, evC, Nat.reduceLT, Tr.get_set, if_true, if_false, Nat.reduceEqDiff, Option.map_some, Option.bind_some, List.getElem?_toArray, List.getElem?_cons_zero, List.getElem?_cons_succ, ofVal, decide_true, decide_false, BEq.rfl, andThen_normal, andThen_exit, andThen_ret, inBlock_normal, inBlock_ret, go_skip, go_exit, go_ret, loudStep, isCall, loudC, targetC, evs, evParts, mapO, List.nil_append, List.append_nil, List.cons_append, loadC, Heap.skip_get, Heap.get_put, Heap.skip_next, Heap.put_next, d3]
    refine ⟨H.next, H3, calls_ret (hX35 _ _) Tryz.func35 rfl (by decide) (nt := 30) rfl (env' := (e3.set 29 (.slice H.next 0 n (.exact n))).set 2 (.slice H.next 0 n (.exact n))) ?_ (results_one (by simp only [Tr.get_set, if_true])), d6, ⟨by omega, fun b o hb ho => d7 b o (by omega) (by omega) (x1.2 b o hb ho)⟩, d4, Nat.le_refl _, by omega⟩
    rw [hcode, go_seq, gl, andThen_normal, go_seq, g1, andThen_normal, go_seq, go_seq, g2, andThen_normal, go_block, g3, inBlock_exit, if_pos rfl, andThen_normal]
    exact gz
  · exact f.elim
end Go.Z

namespace Go.Z
open Go.K Go.Proofs
set_option linter.unusedSimpArgs false
set_option linter.unusedVariables false
set_option maxRecDepth 10000

variable {X : CallFn}

abbrev nI (x : Nat) : CV := .int .i64 (x : Nat)

/-- A slice of numbers that grows and shrinks. -/
def Qv (H : Heap) (v : CV) (q : List Nat) (fq : Nat) : Prop := fq < H.next ∧ ((q = [] ∧ ∃ b, v = .slice b 0 0 (.exact 0) ∧ b < H.next ∧ H.get b = some (.cells [] 3 none)) ∨
  ∃ b p rest cap, v = .slice b 0 q.length cap ∧ b < H.next ∧ H.get b = some (.cells (q.map nI ++ rest) 3 (some (fq, p))) ∧ ((q ≠ [] ∧ cap = .tail 1) ∨ (q = [] ∧ rest ≠ [] ∧ cap = .tailE 1 0)))
/-- All stays but the queue. -/
def Kq (bq fq fq' : Nat) (H H' : Heap) : Prop := H.next ≤ H'.next ∧ (fq' = fq ∨ H.next ≤ fq') ∧ ∀ b o, b < H.next → b ≠ bq → (∀ p, o.fam ≠ some (fq, p)) → H.get b = some o → H'.get b = some o
theorem Kq.refl (bq fq : Nat) (H : Heap) : Kq bq fq fq H H := ⟨Nat.le_refl _, .inl rfl, fun _ _ _ _ _ h => h⟩
theorem Kq.trans {bq fq fq' fq'' : Nat} {a b c : Heap} (h : Kq bq fq fq' a b) (k : Kq bq fq' fq'' b c) (hk : HOk a) : Kq bq fq fq'' a c := by
  obtain ⟨h1, h2, h3⟩ := h
  obtain ⟨k1, k2, k3⟩ := k
  refine ⟨Nat.le_trans h1 k1, by omega, fun x o hx hb hf ho => k3 x o (by omega) hb (fun p e => ?_) (h3 x o hx hb hf ho)⟩
  rcases h2 with e' | e'
  · exact hf p (by rw [e, e'])
  · have := (hk.fam x o fq' p ho e).1; omega
theorem _root_.Go.K.Ext.kq {bq fq : Nat} {H H' : Heap} (h : Ext H.next H H') : Kq bq fq fq H H' := ⟨h.1, .inl rfl, fun b o hb _ _ ho => h.2 b o hb ho⟩
theorem Qv.ext {H H' : Heap} {v : CV} {q : List Nat} {fq : Nat} (h : Qv H v q fq) (hx : Ext H.next H H') : Qv H' v q fq := by
  refine ⟨Nat.lt_of_lt_of_le h.1 hx.1, ?_⟩
  rcases h.2 with ⟨h1, b, h2, h3, h4⟩ | ⟨b, p, rest, cap, h1, h2, h3, h4⟩
  · exact .inl ⟨h1, b, h2, Nat.lt_of_lt_of_le h3 hx.1, hx.2 _ _ h3 h4⟩
  · exact .inr ⟨b, p, rest, cap, h1, Nat.lt_of_lt_of_le h2 hx.1, hx.2 _ _ h2 h3, h4⟩

theorem upd_keep {H : Heap} {b b' pos f p e e' : Nat} {cs cs' : List CV} {o : CObj} (hk : HOk H) (hg : H.get b = some (.cells cs e (some (f, p)))) (ho : H.get b' = some o) (hf : ∀ p, o.fam ≠ some (f, p)) : (H.upd b (.cells cs' e' (some (f, p))) pos).get b' = some o := by
  show ((H.trim f b _).put b _).get b' = _
  have hbb : b' ≠ b := by
    intro e; subst e
    rw [hg] at ho; injection ho with ho; subst ho
    exact hf p rfl
  rw [Heap.get_put, if_neg hbb, Heap.trim_get]
  split
  · rename_i hh
    exfalso
    obtain ⟨h2, h3⟩ := hh
    unfold keepIn at h3
    rw [ho] at h3
    simp only [beq_f hbb, Bool.false_or] at h3
    split at h3
    · rename_i cs e' g q e1
      injection e1 with e1
      have := (hk.fam b' o g q ho (by rw [e1]; rfl)).2.2 f h2
      exact hf q (by rw [e1]; simp only [CObj.fam, this])
    · cases h3
  · exact ho
theorem upd_self {H : Heap} {b pos f p e : Nat} {cs : List CV} : (H.upd b (.cells cs e (some (f, p))) pos).get b = some (.cells cs e (some (f, p))) := by
  show ((H.trim f b _).put b _).get b = _
  rw [Heap.get_put, if_pos rfl]

theorem splice_one {cs : List CV} {k : Nat} {v : CV} (hk : k < cs.length) : splice cs k [v] = cs.set k v := by
  unfold splice
  rw [List.set_eq_take_append_cons_drop, if_pos hk]
  simp

/-- A number of the queue is written. -/
theorem que_store {H : Heap} {b p fq k x : Nat} {q : List Nat} {rest : List CV} (hk : HOk H) (hg : H.get b = some (.cells (q.map nI ++ rest) 3 (some (fq, p)))) (hkl : k < q.length) :
    ∃ H', storeC Tryz.prog 3 H (.ptr b k) (nI x) = some (.tuple [], H') ∧ H'.get b = some (.cells ((q.set k x).map nI ++ rest) 3 (some (fq, p))) ∧ HOk H' ∧ H'.next = H.next ∧ ∀ b' o, (∀ p, o.fam ≠ some (fq, p)) → H.get b' = some o → H'.get b' = some o := by
  have hl : k < (q.map nI ++ rest).length := by simp; omega
  have hs : (q.map nI ++ rest).set k (nI x) = (q.set k x).map nI ++ rest := by
    rw [List.set_append_left _ _ (by simpa using hkl), List.map_set]
  refine ⟨H.upd b (.cells ((q.map nI ++ rest).set k (nI x)) 3 (some (fq, p))) k, ?_, by rw [← hs]; exact upd_self, Hok.upd hg hk, Heap.upd_next .., fun b' o hf ho => upd_keep hk hg ho hf⟩
  simp only [storeC, s3, nI, CV.cells, List.length_singleton, beq_t rfl, writeC, hg, ble_t (show k + 1 ≤ (q.map (fun x => CV.int .i64 (x : Nat)) ++ rest).length from hl), List.all_cons, List.all_nil, CV.single, Bool.and_self, Option.map_some]
  rw [splice_one hl]

theorem que_cut {H : Heap} {v : CV} {q : List Nat} {fq x : Nat} (h : Qv H v (q ++ [x]) fq) : ∃ v', sliceC Tryz.prog H 87 v none (some (nI q.length)) none = some v' ∧ Qv H v' q fq := by
  rcases h.2 with ⟨h1, _⟩ | ⟨b, p, rest, cap, rfl, h2, h3, h4⟩
  · simp at h1
  · rcases h4 with ⟨_, rfl⟩ | ⟨e, _⟩
    · have hl : (q ++ [x]).length = q.length + 1 := by simp
      have hroom : roomC H b 0 1 (.tail 1) = some (q.length + 1 + rest.length) := by simp [roomC, h3]; omega
      have hm : (q ++ [x]).map nI ++ rest = q.map nI ++ nI x :: rest := by simp
      rw [hm] at h3
      have hsl : sliceC Tryz.prog H 87 (.slice b 0 (q ++ [x]).length (.tail 1)) none (some (nI q.length)) none = recut 1 b 0 false (.tail 1) (q.length + 1 + rest.length) 0 q.length (q.length + 1 + rest.length) := by
        show sliceC Tryz.prog H 87 _ none (some (.int .i64 (Int.ofNat q.length))) none = _
        simp only [sliceC, u87, s3, Option.bind_some, hroom, cutIdxO, cutHi, cutIdx, ble_t (show q.length ≤ q.length + 1 + rest.length by omega), ble_t (Nat.zero_le q.length), Option.isSome_none]
      rw [hsl]
      cases q with
      | nil =>
        refine ⟨.slice b 0 0 (.tailE 1 0), rfl, h.1, .inr ⟨b, p, nI x :: rest, .tailE 1 0, rfl, h2, by simpa using h3, .inr ⟨rfl, by simp, rfl⟩⟩⟩
      | cons y q =>
        refine ⟨.slice b 0 (y :: q).length (.tail 1), ?_, h.1, .inr ⟨b, p, nI x :: rest, .tail 1, rfl, h2, h3, .inl ⟨by simp, rfl⟩⟩⟩
        simp only [recut, beq_t rfl, ble_t (show (y :: q).length ≤ (y :: q).length + 1 + rest.length by omega), Bool.and_self, beq_f (show (y :: q).length ≠ 0 by simp), Nat.zero_mul, Nat.add_zero, Nat.sub_zero]
    · simp at e

theorem que_append {H : Heap} {v : CV} {q : List Nat} {fq c x : Nat} (h : Qv H v q fq) (hk : HOk H) (hc : c < H.next) (hg : H.get c = some (.cells [nI x] 3 none)) (hl : q.length < 1000) :
    ∃ v' H' fq', appendC Tryz.prog 87 87 H v (.slice c 0 1 (.exact 1)) = some (v', H') ∧ v'.cells = [v'] ∧ v'.single = true ∧ Qv H' v' (q ++ [x]) fq' ∧ HOk H' ∧ H.next ≤ H'.next ∧ (fq' = fq ∨ H.next ≤ fq') ∧ ∀ b o, b < H.next → (∀ p, o.fam ≠ some (fq, p)) → H.get b = some o → H'.get b = some o := by
  have he : elemsC H 1 (.slice c 0 1 (.exact 1)) = some (1, [nI x]) := by simp [elemsC, hg, takeE]
  obtain ⟨i, i1, i2, i3⟩ := i3
  have hroom : 2 * (q.length + 1) * i.bytes ≤ 140737488355328 := by rw [i3]; omega
  rcases h.2 with ⟨rfl, b, rfl, h3, h4⟩ | ⟨b, p, rest, cap, rfl, h2, h3, h4⟩
  · have hap : appendC Tryz.prog 87 87 H (.slice b 0 0 (.exact 0)) (.slice c 0 1 (.exact 1)) = some (growNew H 3 1 1 [nI x]) := by
      have r1 : elemsC H 1 (.slice b 0 0 (.exact 0)) = some (0, []) := rfl
      simp only [appendC, u87, i1, i2, z3, he, Option.bind_some, List.length_singleton, beq_t rfl, List.all_cons, List.all_nil, CV.single, Bool.and_self, tailOf, roomC, Nat.zero_add, ble_f (show 0 < 1 by omega), r1, Option.map_some, List.nil_append]
      rw [ble_t (by simpa using hroom), ble_t (by omega)]
      rfl
    refine ⟨_, _, H.next, hap, rfl, rfl, ⟨Nat.lt_succ_self _, .inr ⟨H.next, 0, [], .tail 1, rfl, Nat.lt_succ_self _, ?_, .inl ⟨by simp, rfl⟩⟩⟩, ?_, Nat.le_succ _, .inr (Nat.le_refl _), fun b' o hb _ ho => ?_⟩
    · show (H.newF _).get H.next = _
      rw [Heap.newF_get, if_pos rfl]; rfl
    · exact Hok.newF (fun f' p' e => by simp only [CObj.fam, Option.some.injEq, Prod.mk.injEq] at e; omega) hk
    · show (H.newF _).get b' = _
      rw [Heap.newF_get, if_neg (by omega)]; exact ho
  · have hroomc : ∀ cap, (cap = .tail 1 ∨ cap = .tailE 1 0) → roomC H b 0 1 cap = some (q.length + rest.length) := by
      rintro cap (rfl | rfl) <;> simp [roomC, h3]
    have htl : ∃ cap', cap' = cap ∧ tailOf 1 q.length cap = some true ∧ (cap = .tail 1 ∨ cap = .tailE 1 0) := by
      rcases h4 with ⟨_, rfl⟩ | ⟨rfl, _, rfl⟩
      · exact ⟨_, rfl, rfl, .inl rfl⟩
      · exact ⟨_, rfl, rfl, .inr rfl⟩
    obtain ⟨_, _, htl, hcap⟩ := htl
    have hap : appendC Tryz.prog 87 87 H (.slice b 0 q.length cap) (.slice c 0 1 (.exact 1)) = match Nat.ble (q.length + 1) (q.length + rest.length) with
        | true => (writeC H b (0 + q.length * 1) [nI x]).map fun H' => (.slice b 0 (q.length + 1) (.tail 1), H')
        | false => growAt H b 0 q.length 1 1 3 [nI x] := by
      simp only [appendC, u87, i1, i2, z3, he, Option.bind_some, List.length_singleton, beq_t rfl, List.all_cons, List.all_nil, CV.single, Bool.and_self, htl, hroomc cap hcap]
      rw [ble_t hroom, ble_t (show q.length + 1 ≤ 140737488355328 by omega)]
      rfl
    cases rest with
    | nil =>
      rw [List.length_nil, ble_f (by omega)] at hap
      simp only [List.append_nil] at h3
      have hgr : growAt H b 0 q.length 1 1 3 [nI x] = some (.slice H.next 0 (q.length + 1) (.tail 1), (H.upd b (.cells (q.map nI) 3 (some (fq, p))) q.length).newF (.cells (q.map nI ++ [nI x]) 3 (some (fq, p)))) := by
        simp only [growAt, h3, beq_t rfl, Nat.zero_add, Nat.mul_one, List.length_map, ble_t (Nat.le_refl q.length), blt_t (show 0 < 1 by omega), Bool.and_self, List.drop_zero]
        rw [takeE_of (by simp), List.take_of_length_le (by simp)]
        rfl
      rw [hgr] at hap
      have hne : q ≠ [] := by
        rcases h4 with ⟨h, _⟩ | ⟨_, h, _⟩
        · exact h
        · exact absurd rfl h
      have hfq := hk.fam b _ fq p h3 rfl
      refine ⟨_, _, fq, hap, rfl, rfl, ⟨?_, .inr ⟨H.next, p, [], .tail 1, by simp, ?_, ?_, .inl ⟨by simp, rfl⟩⟩⟩, ?_, ?_, .inl rfl, fun b' o hb hf ho => ?_⟩
      · show fq < (H.upd _ _ _).next + 1
        rw [Heap.upd_next]; omega
      · show H.next < (H.upd _ _ _).next + 1
        rw [Heap.upd_next]; omega
      · rw [Heap.newF_get, if_pos (Heap.upd_next ..).symm]; simp
      · exact Hok.newF (fun f' p' e => by simp only [CObj.fam, Option.some.injEq, Prod.mk.injEq] at e; rw [Heap.upd_next]; omega) (Hok.upd h3 hk)
      · show H.next ≤ (H.upd _ _ _).next + 1
        rw [Heap.upd_next]; omega
      · rw [Heap.newF_get, if_neg (by rw [Heap.upd_next]; omega)]
        exact upd_keep hk h3 ho hf
    | cons r rest =>
      rw [ble_t (by simp only [List.length_cons]; omega)] at hap
      have hlen : q.length < (q.map nI ++ r :: rest).length := by simp
      have hw : writeC H b (0 + q.length * 1) [nI x] = some (H.upd b (.cells (q.map nI ++ nI x :: rest) 3 (some (fq, p))) q.length) := by
        have : splice (q.map nI ++ r :: rest) q.length [nI x] = q.map nI ++ nI x :: rest := by
          rw [splice_one hlen, List.set_append_right _ _ (by simp)]
          simp
        simp only [writeC, h3, Nat.zero_add, Nat.mul_one, List.length_singleton, ble_t (show q.length + 1 ≤ (q.map nI ++ r :: rest).length from hlen), List.all_cons, List.all_nil, CV.single, Bool.and_self, this]
      rw [hw] at hap
      refine ⟨_, _, fq, hap, rfl, rfl, ⟨by rw [Heap.upd_next]; exact h.1, .inr ⟨b, p, rest, .tail 1, by simp, by rw [Heap.upd_next]; exact h2, by rw [upd_self]; simp, .inl ⟨by simp, rfl⟩⟩⟩, Hok.upd h3 hk, by rw [Heap.upd_next]; exact Nat.le_refl _, .inl rfl, fun b' o hb hf ho => upd_keep hk h3 ho hf⟩
end Go.Z
