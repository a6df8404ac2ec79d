/- reached: its state in memory. reached: one arc, and the arcs of one unit. reached: the function. -/
import Derived.Test.YtmnhkbhdfkebmaaGreatY5

set_option linter.unusedSimpArgs false
set_option linter.unusedVariables false

namespace Go.Y
open Go.K Go.Proofs
set_option linter.unusedSimpArgs false
set_option linter.unusedVariables false
set_option maxRecDepth 10000

variable {X : CallFn}

theorem u61 : Tryz.prog.underlying 61 = some (.slice 4) := by kernel_rfl
theorem g61 : isAggC Tryz.prog 61 = some false := by kernel_rfl
theorem g4 : isAggC Tryz.prog 4 = some false := by kernel_rfl
theorem z4 : zeroC Tryz.prog 4 = some [.bool false] := by kernel_rfl
theorem i4 : ∃ i : TypeInfo, Tryz.prog.info? 4 = some i ∧ i.size = 1 ∧ i.bytes = 1 := info_of (by kernel_rfl)
theorem mk61 {n : Nat} (hn : n ≤ 1000) (ρ : Operand → Option CV) (x : Operand) (hx : ρ x = some (.int .i64 (n : Int))) :
    allocC Tryz.prog (.makeSlice 61 x x) ρ = some (.cells (List.replicate n (.bool false)) 4 none, fun b => .slice b 0 n (.exact n)) := by
  obtain ⟨i, h1, h2, h3⟩ := i4
  have hx' : ρ x = some (.int .i64 (Int.ofNat n)) := hx
  simp only [allocC, u61, hx', h1, h2, h3, ble_t (Nat.le_refl n), ble_t (show n ≤ 140737488355328 by omega), ble_t (show 1 * n ≤ 140737488355328 by omega), Bool.and_self]
  cases n with
  | zero => rfl
  | succ n =>
    simp only [zerosC, z4, Option.bind_some, List.length_singleton, Nat.zero_add, beq_t rfl, Option.map_some, rep_replicate]
theorem idx61 {b n k : Nat} (h : k < n) : indexAddrC Tryz.prog 61 (.slice b 0 n (.exact n)) (.int .i64 (k : Int)) = some (.ptr b k) := by
  show indexAddrC Tryz.prog 61 _ (.int .i64 (Int.ofNat k)) = _
  simp only [indexAddrC, u61, blt_t h, s4, Option.map_some, Nat.mul_one, Nat.zero_add]

def cellsB (n : Nat) (f : Nat → Bool) : List CV := (List.range n).map fun x => CV.bool (f x)
theorem cellsB_length (n : Nat) (f : Nat → Bool) : (cellsB n f).length = n := by simp [cellsB]
theorem cellsB_get {n k : Nat} {f : Nat → Bool} (h : k < n) : (cellsB n f)[k]? = some (.bool (f k)) := by simp [cellsB, h]
theorem cellsB_set {n k : Nat} {v : Bool} {f : Nat → Bool} (h : k < n) : (cellsB n f).set k (.bool v) = cellsB n (fun x => if x = k then v else f x) := by
  apply List.ext_getElem?
  intro i
  by_cases hi : i < n
  · by_cases e : i = k
    · subst e
      rw [List.getElem?_set_self (by rw [cellsB_length]; exact h), cellsB_get h, if_pos rfl]
    · rw [List.getElem?_set_ne (Ne.symm e), cellsB_get hi, cellsB_get hi, if_neg e]
  · rw [List.getElem?_eq_none (by rw [List.length_set, cellsB_length]; omega), List.getElem?_eq_none (by rw [cellsB_length]; omega)]
theorem cellsB_zero (n : Nat) : List.replicate n (CV.bool false) = cellsB n (fun _ => false) := by
  apply List.ext_getElem?
  intro i
  by_cases hi : i < n
  · rw [cellsB_get hi, List.getElem?_replicate, if_pos hi]
  · rw [List.getElem?_eq_none (by simp; omega), List.getElem?_eq_none (by rw [cellsB_length]; omega)]

structure RS (H0 H : Heap) (bo n : Nat) (vis : Nat → Bool) (v : CV) (q : List Nat) (f : Nat) : Prop where
  ext : Ext H0.next H0 H
  ok : HOk H
  b : H.get bo = some (.cells (cellsB n vis) 4 none)
  lb : bo < H.next
  nb : H0.next ≤ bo
  q : Fr H v q f
  nf : H0.next ≤ f
section
variable {H0 H H' : Heap} {bo n f : Nat} {vis : Nat → Bool} {v : CV} {q : List Nat}
theorem RS.step (h : RS H0 H bo n vis v q f) (hx : Ext H.next H H') (hk : HOk H') : RS H0 H' bo n vis v q f :=
  ⟨h.ext.trans (hx.le h.ext.1), hk, hx.2 _ _ h.lb h.b, Nat.lt_of_lt_of_le h.lb hx.1, h.nb, h.q.ext hx, h.nf⟩
theorem RS.queue (h : RS H0 H bo n vis v q f) {v' : CV} {q' : List Nat} {f' : Nat} (hx : Kf f f' H H') (hk : HOk H') (hq : Fr H' v' q' f') : RS H0 H' bo n vis v' q' f' := by
  refine ⟨⟨Nat.le_trans h.ext.1 hx.1, fun b o hb ho => ?_⟩, hk, hx.2.2 _ _ h.lb (fun p e => by simp [CObj.fam] at e) h.b, Nat.lt_of_lt_of_le h.lb hx.1, h.nb, hq, ?_⟩
  · have ho' := h.ext.2 b o hb ho
    refine hx.2.2 b o (Nat.lt_of_lt_of_le hb h.ext.1) (fun p e => ?_) ho'
    have := (h.ok.fam b o f p ho' e).1
    have := h.nf; omega
  · have := h.nf; have := h.ext.1; have := hx.2.1; omega
theorem RS.cut (h : RS H0 H bo n vis v q f) {v' : CV} {q' : List Nat} (hq : Fr H v' q' f) : RS H0 H bo n vis v' q' f := ⟨h.ext, h.ok, h.b, h.lb, h.nb, hq, h.nf⟩
theorem RS.put (h : RS H0 H bo n vis v q f) (vis' : Nat → Bool) : RS H0 (H.put bo (.cells (cellsB n vis') 4 none)) bo n vis' v q f := by
  refine ⟨h.ext.trans (Ext.put h.nb), Hok.put rfl h.ok, by rw [Heap.get_put, if_pos rfl], h.lb, h.nb, ⟨h.q.1, ?_⟩, h.nf⟩
  rcases h.q.2 with ⟨b, off, cs, h1, h2, h3, h4⟩ | ⟨b, off, p, pre, cap, h1, h2, h3, h4⟩
  · refine .inl ⟨b, off, cs, h1, h2, ?_, h4⟩
    rw [Heap.get_put, if_neg]
    · exact h3
    · rintro rfl; rw [h.b] at h3; simp at h3
  · refine .inr ⟨b, off, p, pre, cap, h1, h2, ?_, h4⟩
    rw [Heap.get_put, if_neg]
    · exact h3
    · rintro rfl; rw [h.b] at h3; simp at h3
end
end Go.Y

namespace Go.Y
open Go.K Go.Proofs
set_option linter.unusedSimpArgs false
set_option linter.unusedVariables false
set_option maxRecDepth 10000

variable {X : CallFn}

theorem rch_r8 {env : Env} {H : Heap} {av : CV} {arcs : List (Nat × Nat × Nat)} {i : Nat} (h25 : env.get 32 = some av) (h27 : env.get 34 = some (.int .i64 i)) (hl : Has H 3 87 av (arcs.map arcCV)) (hi : i < arcs.length) (hk : HOk H) :
    ∃ env' H', go Tryz.prog X 55 (sub (codeOf Tryz.f23) [true,true,true,false,false,false,true,false,true,true,true,false,false,true,true,false,false,false]) env H = some (.normal, env', H') ∧ H'.get H.next = some (.cells [.int .i64 arcs[i].1, .int .i64 arcs[i].2.1, .int .i64 arcs[i].2.2] 87 none) ∧ H'.next = H.next + 1 ∧ HOk H' ∧ Ext H.next H H' ∧
      env'.get 9 = some (.ptr H.next 0) ∧ ∀ t, t < 36 → t ≠ 9 → env'.get t = env.get t := by
  obtain ⟨b, off, cs, fam, hb, _, hidx, hget, hcells, hcell⟩ := hl.at (P := Tryz.prog) (t := 57) u74 s79 (i := i) (by simpa using hi)
  rw [List.getElem_map] at hcells
  have hcl : takeE 3 (cs.drop off) = some [.int .i64 arcs[i].1, .int .i64 arcs[i].2.1, .int .i64 arcs[i].2.2] := hcells
  generalize hH2 : ((H.skip 1).put H.next (.cells [.int .i64 0, .int .i64 0, .int .i64 0] 87 none)).put H.next (.cells [.int .i64 arcs[i].1, .int .i64 arcs[i].2.1, .int .i64 arcs[i].2.2] 87 none) = H2
  have hE2 : Ext H.next H H2 := by rw [← hH2]; exact (Ext.skip.trans (Ext.put (Nat.le_refl _))).trans (Ext.put (Nat.le_refl _))
  have hk2 : HOk H2 := by rw [← hH2]; exact Hok.put rfl (Hok.put rfl (Hok.skip 1 hk))
  have hn2 : H2.next = H.next + 1 := by rw [← hH2]; rfl
  have hg2 : H2.get H.next = some (.cells [.int .i64 arcs[i].1, .int .i64 arcs[i].2.1, .int .i64 arcs[i].2.2] 87 none) := by rw [← hH2, Heap.get_put, if_pos rfl]
  suffices h : ∃ env', go Tryz.prog X 55 (sub (codeOf Tryz.f23) [true,true,true,false,false,false,true,false,true,true,true,false,false,true,true,false,false,false]) env H = some (.normal, env', H2) ∧ env'.get 9 = some (.ptr H.next 0) ∧ ∀ t, t < 36 → t ≠ 9 → env'.get t = env.get t by
    obtain ⟨env', q1, q⟩ := h
    exact ⟨env', H2, q1, hg2, hn2, hk2, hE2, q⟩
  simp only [codeOf, Tryz.f23, sub, go_seq, go_region, opsSeq_step, opsSeq_guard, guardStep_true, guardStep_false, guardVal, opsSeq_nil, afterStep_some, afterStep_none, stepC, kindOf, quietC, evC, Nat.reduceLT, Tr.get_set, if_true, if_false, Nat.reduceEqDiff, Option.map_some, Option.bind_some, List.getElem?_toArray, List.getElem?_cons_zero, List.getElem?_cons_succ, ofVal, decide_true, decide_false, BEq.rfl, andThen_normal, andThen_exit, andThen_ret, inBlock_normal, inBlock_ret, go_skip, go_exit, go_ret, loudStep, isCall, loudC, targetC, evs, evParts, mapO, List.nil_append, List.append_nil, List.cons_append, loadC, Heap.skip_get, Heap.get_put, Heap.skip_next, Heap.put_next, h25, h27, hidx, hget, hcl, s79, g79, al79, store79, List.length_cons, List.length_nil, Nat.reduceAdd, hH2]
  refine ⟨_, rfl, by simp only [Tr.get_set, Nat.reduceEqDiff, if_true, if_false], fun t ht h10 => ?_⟩
  simp only [Tr.get_set, show t ≠ 36 by omega, show t ≠ 37 by omega, h10, if_false]

theorem bs26' (x : Operand) (ρ : Operand → Option CV) : allocC Tryz.prog (.buildSlice 34 1 #[(0, x)]) ρ = (ρ x).bind fun v => if v.cells.length = 0 + 1 then some (.cells v.cells 3 none, fun b => .slice b 0 1 (.exact 1)) else none := bs26 x ρ

theorem rch_arc {H0 H : Heap} {bo n s : Nat} {vis : Nat → Bool} {v : CV} {q : List Nat} {f ba : Nat} {arcs rest : Arcs} {a : Nat × Nat × Nat} {env : Env} (h : RS H0 H bo n vis v q f) (hB : Bfs arcs n s vis q (a :: rest)) (ham : a ∈ arcs) (hup : a.2.2 < n) (hi : a.2.1 = s ∨ vis a.2.1 = true) (hn : n ≤ 100) (hm : unv n vis + q.length ≤ 200)
    (hba : H.get ba = some (.cells [.int .i64 a.1, .int .i64 a.2.1, .int .i64 a.2.2] 87 none)) (lba : ba < H.next) (hbb : ba ≠ bo)
    (h5 : env.get 5 = some (.slice bo 0 n (.exact n))) (h6 : env.get 6 = some v) (h9 : env.get 9 = some (.ptr ba 0)) :
    ∃ (env' : Env) (H' : Heap) (vis' : Nat → Bool) (v' : CV) (q' : List Nat) (f' : Nat), go Tryz.prog X 55 (.seq (sub (codeOf Tryz.f23) [true,true,true,false,false,false,true,false,true,true,true,false,false,true,true,false,false,true,false]) (sub (codeOf Tryz.f23) [true,true,true,false,false,false,true,false,true,true,true,false,false,true,true,false,false,true,true])) env H = some (.normal, env', H') ∧ RS H0 H' bo n vis' v' q' f' ∧ Bfs arcs n s vis' q' rest ∧ unv n vis' + q'.length = unv n vis + q.length ∧
      (∀ y, vis y = true → vis' y = true) ∧ env'.get 6 = some v' ∧ ∀ t, t < 36 → t ≠ 6 → env'.get t = env.get t := by
  have hcode : (Code.seq (sub (codeOf Tryz.f23) [true,true,true,false,false,false,true,false,true,true,true,false,false,true,true,false,false,true,false]) (sub (codeOf Tryz.f23) [true,true,true,false,false,false,true,false,true,true,true,false,false,true,true,false,false,true,true])) = .seq (sub (codeOf Tryz.f23) [true,true,true,false,false,false,true,false,true,true,true,false,false,true,true,false,false,true,false]) (.cond (.tmp 43) (.seq (sub (codeOf Tryz.f23) [true,true,true,false,false,false,true,false,true,true,true,false,false,true,true,false,false,true,true,false,false]) (sub (codeOf Tryz.f23) [true,true,true,false,false,false,true,false,true,true,true,false,false,true,true,false,false,true,true,false,true])) .skip) := rfl
  have ga : ∃ e, go Tryz.prog X 55 (sub (codeOf Tryz.f23) [true,true,true,false,false,false,true,false,true,true,true,false,false,true,true,false,false,true,false]) env H = some (.normal, e, H) ∧ e.get 43 = some (.bool (!vis a.2.2)) ∧ ∀ t, t < 36 → e.get t = env.get t := by
    simp only [codeOf, Tryz.f23, sub, go_seq, go_region, opsSeq_step, opsSeq_guard, guardStep_true, guardStep_false, guardVal, opsSeq_nil, afterStep_some, afterStep_none, stepC, kindOf, quietC, evC, Nat.reduceLT, Tr.get_set, if_true, if_false, Nat.reduceEqDiff, Option.map_some, Option.bind_some, List.getElem?_toArray, List.getElem?_cons_zero, List.getElem?_cons_succ, ofVal, decide_true, decide_false, BEq.rfl, andThen_normal, andThen_exit, andThen_ret, inBlock_normal, inBlock_ret, go_skip, go_exit, go_ret, loudStep, isCall, loudC, targetC, evs, evParts, mapO, List.nil_append, List.append_nil, List.cons_append, loadC, Heap.skip_get, Heap.get_put, Heap.skip_next, Heap.put_next, h5, h9, fa79_2, g3, g4, hba, h.b, Nat.zero_add, idx61 hup, cellsB_get hup]
    refine ⟨_, rfl, by simp only [Tr.get_set, if_true], fun t ht => ?_⟩
    simp only [Tr.get_set, show t ≠ 38 by omega, show t ≠ 39 by omega, show t ≠ 40 by omega, show t ≠ 41 by omega, show t ≠ 42 by omega, show t ≠ 43 by omega, if_false]
  obtain ⟨e1, ga, a43, aq⟩ := ga
  cases hv : vis a.2.2 with
  | true =>
    rw [hv] at a43
    refine ⟨e1, H, vis, v, q, f, ?_, h, hB.old hv, rfl, fun y hy => hy, (aq 6 (by omega)).trans h6, fun t ht _ => aq t ht⟩
    rw [hcode, go_seq, ga, andThen_normal, go_cond _ _ _ (v := false) (by simp only [evC, a43]; rfl), if_neg (by simp), go_skip]
  | false =>
    rw [hv] at a43
    have hst := store_one (P := Tryz.prog) (t := 4) (k := a.2.2) (v := .bool true) s4 rfl rfl h.b (by rw [cellsB_length]; exact hup)
    rw [cellsB_set hup] at hst
    have h1 := h.put (fun x => if x = a.2.2 then true else vis x)
    have hset := unv_set hup hv
    have gb : ∃ e, go Tryz.prog X 55 (sub (codeOf Tryz.f23) [true,true,true,false,false,false,true,false,true,true,true,false,false,true,true,false,false,true,true,false,false]) e1 H = some (.normal, e, H.put bo (.cells (cellsB n fun x => if x = a.2.2 then true else vis x) 4 none)) ∧ ∀ t, t < 36 → e.get t = e1.get t := by
      simp only [codeOf, Tryz.f23, sub, go_seq, go_region, opsSeq_step, opsSeq_guard, guardStep_true, guardStep_false, guardVal, opsSeq_nil, afterStep_some, afterStep_none, stepC, kindOf, quietC, evC, Nat.reduceLT, Tr.get_set, if_true, if_false, Nat.reduceEqDiff, Option.map_some, Option.bind_some, List.getElem?_toArray, List.getElem?_cons_zero, List.getElem?_cons_succ, ofVal, decide_true, decide_false, BEq.rfl, andThen_normal, andThen_exit, andThen_ret, inBlock_normal, inBlock_ret, go_skip, go_exit, go_ret, loudStep, isCall, loudC, targetC, evs, evParts, mapO, List.nil_append, List.append_nil, List.cons_append, loadC, Heap.skip_get, Heap.get_put, Heap.skip_next, Heap.put_next, (aq 5 (by omega)).trans h5, (aq 9 (by omega)).trans h9, fa79_2, g3, hba, Nat.zero_add, idx61 hup, hst]
      refine ⟨_, rfl, fun t ht => ?_⟩
      simp only [Tr.get_set, show t ≠ 44 by omega, show t ≠ 45 by omega, show t ≠ 46 by omega, show t ≠ 47 by omega, if_false]
    obtain ⟨e2, gb, bq⟩ := gb
    generalize hH1 : H.put bo (.cells (cellsB n fun x => if x = a.2.2 then true else vis x) 4 none) = H1 at gb h1
    have hba1 : H1.get ba = some (.cells [.int .i64 a.1, .int .i64 a.2.1, .int .i64 a.2.2] 87 none) := by rw [← hH1, Heap.get_put, if_neg hbb]; exact hba
    generalize hH2 : (H1.skip 1).put H1.next (.cells [nI a.2.2] 3 none) = H2
    have x2 : Ext H1.next H1 H2 := by rw [← hH2]; exact Ext.skip.trans (Ext.put (Nat.le_refl _))
    have k2 : HOk H2 := by rw [← hH2]; exact Hok.put rfl (Hok.skip 1 h1.ok)
    have n2 : H2.next = H1.next + 1 := by rw [← hH2]; rfl
    have h2 := h1.step x2 k2
    obtain ⟨v', H3, f', hap, hq3, k3, kf3⟩ := fr_append (x := a.2.2) (c := H1.next) h2.q k2 (by omega) (by rw [← hH2, Heap.get_put, if_pos rfl]) (by omega)
    have h3 := h2.queue kf3 k3 hq3
    have gc : ∃ e, go Tryz.prog X 55 (sub (codeOf Tryz.f23) [true,true,true,false,false,false,true,false,true,true,true,false,false,true,true,false,false,true,true,false,true]) e2 H1 = some (.normal, e, H3) ∧ e.get 6 = some v' ∧ ∀ t, t < 36 → t ≠ 6 → e.get t = e2.get t := by
      simp only [codeOf, Tryz.f23, sub, go_seq, go_region, opsSeq_step, opsSeq_guard, guardStep_true, guardStep_false, guardVal, opsSeq_nil, afterStep_some, afterStep_none, stepC, kindOf, quietC, evC, Nat.reduceLT, Tr.get_set, if_true, if_false, Nat.reduceEqDiff, Option.map_some, Option.bind_some, List.getElem?_toArray, List.getElem?_cons_zero, List.getElem?_cons_succ, ofVal, decide_true, decide_false, BEq.rfl, andThen_normal, andThen_exit, andThen_ret, inBlock_normal, inBlock_ret, go_skip, go_exit, go_ret, loudStep, isCall, loudC, targetC, evs, evParts, mapO, List.nil_append, List.append_nil, List.cons_append, loadC, Heap.skip_get, Heap.get_put, Heap.skip_next, Heap.put_next, (bq 6 (by omega)).trans ((aq 6 (by omega)).trans h6), (bq 9 (by omega)).trans ((aq 9 (by omega)).trans h9), fa79_2, g3, hba1, Nat.zero_add, bs26', CV.cells, List.length_cons, List.length_nil, Nat.reduceAdd, hH2, hap]
      refine ⟨_, rfl, by simp only [Tr.get_set, if_true], fun t ht h6' => ?_⟩
      simp only [Tr.get_set, h6', show t ≠ 48 by omega, show t ≠ 49 by omega, show t ≠ 50 by omega, show t ≠ 51 by omega, show t ≠ 52 by omega, if_false]
    obtain ⟨e3, gc, c6, cq⟩ := gc
    refine ⟨e3, H3, _, v', q ++ [a.2.2], f', ?_, h3, hB.new ham hup hi, by rw [List.length_append, List.length_singleton]; omega, fun y hy => ?_, c6, fun t ht n6 => (cq t ht n6).trans ((bq t ht).trans (aq t ht))⟩
    · rw [hcode, go_seq, ga, andThen_normal, go_cond _ _ _ (v := true) (by simp only [evC, a43]; rfl), if_pos rfl, go_seq, gb, andThen_normal, gc]
    · by_cases e : y = a.2.2
      · rw [if_pos e]
      · rw [if_neg e]; exact hy

theorem rch_inner {H0 H : Heap} {bo n s i : Nat} {vis : Nat → Bool} {v vx : CV} {q : List Nat} {f : Nat} {arcs l : Arcs} {env : Env} (h : RS H0 H bo n vis v q f) (hB : Bfs arcs n s vis q l) (hl : Has H0 3 87 vx (l.map arcCV)) (hla : ∀ a ∈ l, a ∈ arcs ∧ a.2.1 = i ∧ a.2.2 < n) (hi : i = s ∨ vis i = true) (hn : n ≤ 100) (hm : unv n vis + q.length ≤ 200) (hll : l.length < 1000)
    (h5 : env.get 5 = some (.slice bo 0 n (.exact n))) (h6 : env.get 6 = some v) (h32 : env.get 32 = some vx) (h33 : env.get 33 = some (.int .i64 (l.length : Nat))) (h34 : env.get 34 = some (.int .i64 (0 : Nat))) :
    ∃ (env' : Env) (H' : Heap) (vis' : Nat → Bool) (v' : CV) (q' : List Nat) (f' : Nat), go Tryz.prog X 55 (sub (codeOf Tryz.f23) [true,true,true,false,false,false,true,false,true,true,true,false]) env H = some (.exit 2, env', H') ∧ RS H0 H' bo n vis' v' q' f' ∧ Bfs arcs n s vis' q' [] ∧ unv n vis' + q'.length = unv n vis + q.length ∧ env'.get 6 = some v' ∧ env'.get 5 = env.get 5 ∧ env'.get 0 = env.get 0 := by
  have hL := range_loop (P := Tryz.prog) (X := X) (nt := 55) (code := sub (codeOf Tryz.f23) [true,true,true,false,false,false,true,false,true,true,true,false]) (hd := sub (codeOf Tryz.f23) [true,true,true,false,false,false,true,false,true,true,true,false,false,false]) (body := sub (codeOf Tryz.f23) [true,true,true,false,false,false,true,false,true,true,true,false,false,true,true,false,false]) (inc := sub (codeOf Tryz.f23) [true,true,true,false,false,false,true,false,true,true,true,false,false,true,true,true]) (ti := 34) (tn := 33) (tc := 35) (tx := 53) (e := 2) (b := 3) rfl (by omega)
    (fun env H i n h1 h2 => by simp only [codeOf, Tryz.f23, sub, go_seq, go_region, opsSeq_step, opsSeq_guard, guardStep_true, guardStep_false, guardVal, opsSeq_nil, afterStep_some, afterStep_none, stepC, kindOf, quietC, evC, Nat.reduceLT, Tr.get_set, if_true, if_false, Nat.reduceEqDiff, Option.map_some, Option.bind_some, List.getElem?_toArray, List.getElem?_cons_zero, List.getElem?_cons_succ, ofVal, decide_true, decide_false, BEq.rfl, andThen_normal, andThen_exit, andThen_ret, inBlock_normal, inBlock_ret, go_skip, go_exit, go_ret, loudStep, isCall, loudC, targetC, evs, evParts, mapO, List.nil_append, List.append_nil, List.cons_append, loadC, Heap.skip_get, Heap.get_put, Heap.skip_next, Heap.put_next, h1, h2, bin_lss]) (fun env H i h1 hw => by simp only [codeOf, Tryz.f23, sub, go_seq, go_region, opsSeq_step, opsSeq_guard, guardStep_true, guardStep_false, guardVal, opsSeq_nil, afterStep_some, afterStep_none, stepC, kindOf, quietC, evC, Nat.reduceLT, Tr.get_set, if_true, if_false, Nat.reduceEqDiff, Option.map_some, Option.bind_some, List.getElem?_toArray, List.getElem?_cons_zero, List.getElem?_cons_succ, ofVal, decide_true, decide_false, BEq.rfl, andThen_normal, andThen_exit, andThen_ret, inBlock_normal, inBlock_ret, go_skip, go_exit, go_ret, loudStep, isCall, loudC, targetC, evs, evParts, mapO, List.nil_append, List.append_nil, List.cons_append, loadC, Heap.skip_get, Heap.get_put, Heap.skip_next, Heap.put_next, h1, bin_add, hw]) (by omega) (n := l.length) (by omega)
    (fun k e G => e.get 32 = some vx ∧ e.get 5 = env.get 5 ∧ e.get 0 = env.get 0 ∧ ∃ vis' v' q' f', RS H0 G bo n vis' v' q' f' ∧ Bfs arcs n s vis' q' (l.drop k) ∧ unv n vis' + q'.length = unv n vis + q.length ∧ (i = s ∨ vis' i = true) ∧ e.get 6 = some v') (fun _ _ => False)
    (fun k e G t w ht ⟨a32, a5, a0, vis', v', q', f', r1, r2, r3, r4, a6⟩ => ⟨by rcases ht with rfl | rfl | rfl <;> simp only [Tr.get_set, Nat.reduceEqDiff, if_false, a32], by rcases ht with rfl | rfl | rfl <;> simp only [Tr.get_set, Nat.reduceEqDiff, if_false, a5], by rcases ht with rfl | rfl | rfl <;> simp only [Tr.get_set, Nat.reduceEqDiff, if_false, a0], vis', v', q', f', r1, r2, r3, r4, by rcases ht with rfl | rfl | rfl <;> simp only [Tr.get_set, Nat.reduceEqDiff, if_false, a6]⟩)
    (fun k e G hk ⟨a32, a5, a0, vis', v', q', f', hR, hB', hm', hi', a6⟩ h1 h2 => by
      left
      obtain ⟨e1, G2, g1, p1, p2, p3, p4, p5, p6⟩ := rch_r8 (X := X) a32 h1 (hl.ext hR.ext hl.lt) hk hR.ok
      rw [List.drop_eq_getElem_cons hk] at hB'
      obtain ⟨m1, m2, m3⟩ := hla _ (List.getElem_mem hk)
      have hbb : G.next ≠ bo := by have := hR.lb; omega
      obtain ⟨e2, G3, vis2, v2, q2, f2, g2, r2, b2, u2, mono, c6, cq⟩ := rch_arc (X := X) (hR.step p4 p3) hB' m1 m3 (by rw [m2]; exact hi') hn (by omega) p1 (by omega) hbb ((p6 5 (by omega) (by omega)).trans (a5.trans h5)) ((p6 6 (by omega) (by omega)).trans a6) p5
      have hq : ∀ t, t < 36 → t ≠ 6 → t ≠ 9 → e2.get t = e.get t := fun t ht n6 n9 => (cq t ht n6).trans (p6 t ht n9)
      refine ⟨.normal, e2, G3, ?_, .inl rfl, ⟨(hq 32 (by omega) (by omega) (by omega)).trans a32, (hq 5 (by omega) (by omega) (by omega)).trans a5, (hq 0 (by omega) (by omega) (by omega)).trans a0, vis2, v2, q2, f2, r2, b2, u2.trans hm', hi'.imp id (mono i), c6⟩, (hq 34 (by omega) (by omega) (by omega)).trans h1, (hq 33 (by omega) (by omega) (by omega)).trans h2⟩
      show go Tryz.prog X 55 (.seq (sub (codeOf Tryz.f23) [true,true,true,false,false,false,true,false,true,true,true,false,false,true,true,false,false,false]) (.seq (sub (codeOf Tryz.f23) [true,true,true,false,false,false,true,false,true,true,true,false,false,true,true,false,false,true,false]) (sub (codeOf Tryz.f23) [true,true,true,false,false,false,true,false,true,true,true,false,false,true,true,false,false,true,true]))) e G = _
      rw [go_seq, g1, andThen_normal, g2])
  rcases hL l.length 0 env H (by omega) ⟨h32, rfl, rfl, vis, v, q, f, h, hB, rfl, hi, h6⟩ h34 h33 with ⟨e, G, g, _, a5, a0, vis', v', q', f', hR, hB', hm', _, a6⟩ | ⟨_, _, _, ff⟩
  · rw [List.drop_length] at hB'
    exact ⟨e, G, vis', v', q', f', g, hR, hB', hm', a6, a5, a0⟩
  · exact ff.elim
end Go.Y

namespace Go.Y
open Go.K Go.Proofs
set_option linter.unusedSimpArgs false
set_option linter.unusedVariables false
set_option maxRecDepth 10000

variable {X : CallFn}

theorem then_assoc (r : Option (CE × Env × Heap)) (f g : Env → Heap → Option (CE × Env × Heap)) : andThen r (fun e H => andThen (f e H) g) = andThen (andThen r f) g := by
  rcases r with _ | ⟨r, e, H⟩
  · rfl
  · cases r <;> rfl
theorem go_seq2 {P : Program} {nt : Nat} {a b c : Code} {env : Env} {H : Heap} : go P X nt (.seq a (.seq b c)) env H = andThen (go P X nt (.seq a b) env H) fun e H => go P X nt c e H := by
  rw [go_seq, go_seq, ← then_assoc]
  congr 1; funext e H; rw [go_seq]
theorem go_seq3 {P : Program} {nt : Nat} {a b c d : Code} {env : Env} {H : Heap} : go P X nt (.seq a (.seq b (.seq c d))) env H = andThen (go P X nt (.seq a (.seq b c)) env H) fun e H => go P X nt d e H := by
  rw [go_seq, go_seq, ← then_assoc]
  congr 1; funext e H; rw [go_seq2]
theorem go_seq4 {P : Program} {nt : Nat} {a b c d x : Code} {env : Env} {H : Heap} : go P X nt (.seq a (.seq b (.seq c (.seq d x)))) env H = andThen (go P X nt (.seq a (.seq b (.seq c d))) env H) fun e H => go P X nt x e H := by
  rw [go_seq, go_seq, ← then_assoc]
  congr 1; funext e H; rw [go_seq3]
theorem go_code {P : Program} {nt : Nat} {c d : Code} (h : c = d) {env : Env} {H : Heap} : go P X nt c env H = go P X nt d env H := by rw [h]

theorem rch_loop {H0 : Heap} {bo bg bm bx s : Nat} {nv av : CV} {xs : List CV} {us : List Nat} {arcs : Arcs} (hg : Gr H0 bg bm bx nv av xs us arcs) (hn : us.length ≤ 100) (har : arcs.length < 1000) (hlt : ∀ a ∈ arcs, a.2.1 < us.length ∧ a.2.2 < us.length) :
    ∀ (d : Nat) (env : Env) (H : Heap) (vis : Nat → Bool) (v : CV) (q : List Nat) (f : Nat), unv us.length vis + q.length ≤ d → d ≤ 200 → RS H0 H bo us.length vis v q f → Bfs arcs us.length s vis q [] →
      env.get 0 = some (.ptr bg 0) → env.get 5 = some (.slice bo 0 us.length (.exact us.length)) → env.get 6 = some v →
      ∃ (env' : Env) (H' : Heap) (vis' : Nat → Bool) (v' : CV) (f' : Nat), go Tryz.prog X 55 (sub (codeOf Tryz.f23) [true,true,true,false,false]) env H = some (.exit 0, env', H') ∧ RS H0 H' bo us.length vis' v' [] f' ∧ Bfs arcs us.length s vis' [] [] ∧ env'.get 5 = some (.slice bo 0 us.length (.exact us.length)) := by
  have hcode : sub (codeOf Tryz.f23) [true,true,true,false,false] = .loop (.seq (.seq (sub (codeOf Tryz.f23) [true,true,true,false,false,false,false,false]) (.cond (.tmp 20) .skip (.exit 0))) (.block 1 (.seq (sub (codeOf Tryz.f23) [true,true,true,false,false,false,true,false,false]) (.seq (sub (codeOf Tryz.f23) [true,true,true,false,false,false,true,false,true,false]) (.seq (sub (codeOf Tryz.f23) [true,true,true,false,false,false,true,false,true,true,false]) (.block 2 (sub (codeOf Tryz.f23) [true,true,true,false,false,false,true,false,true,true,true,false]))))))) := rfl
  intro d
  induction d with
  | zero =>
    intro env H vis v q f hd hd2 hR hB h0 h5 h6
    have hq : q = [] := List.length_eq_zero_iff.1 (by omega)
    subst hq
    have ga : ∃ e, go Tryz.prog X 55 (sub (codeOf Tryz.f23) [true,true,true,false,false,false,false,false]) env H = some (.normal, e, H) ∧ e.get 20 = some (.bool false) ∧ ∀ t, t < 18 → e.get t = env.get t := by
      simp only [codeOf, Tryz.f23, sub, go_seq, go_region, opsSeq_step, opsSeq_guard, guardStep_true, guardStep_false, guardVal, opsSeq_nil, afterStep_some, afterStep_none, stepC, kindOf, quietC, evC, Nat.reduceLT, Tr.get_set, if_true, if_false, Nat.reduceEqDiff, Option.map_some, Option.bind_some, List.getElem?_toArray, List.getElem?_cons_zero, List.getElem?_cons_succ, ofVal, decide_true, decide_false, BEq.rfl, andThen_normal, andThen_exit, andThen_ret, inBlock_normal, inBlock_ret, go_skip, go_exit, go_ret, loudStep, isCall, loudC, targetC, evs, evParts, mapO, List.nil_append, List.append_nil, List.cons_append, loadC, Heap.skip_get, Heap.get_put, Heap.skip_next, Heap.put_next, h6, hR.q.len, nI, bin_gtr, List.length_nil]
      refine ⟨_, rfl, by simp only [Tr.get_set, if_true]; rfl, fun t ht => ?_⟩
      simp only [Tr.get_set, show t ≠ 18 by omega, show t ≠ 19 by omega, show t ≠ 20 by omega, if_false]
    obtain ⟨e1, ga, a20, aq⟩ := ga
    refine ⟨e1, H, vis, v, f, ?_, hR, hB, (aq 5 (by omega)).trans h5⟩
    rw [hcode, go_loop, go_seq, go_seq, ga, andThen_normal, go_cond _ _ _ (v := false) (by simp only [evC, a20]), if_neg (by simp), go_exit, andThen_exit, andThen_exit]
  | succ d ih =>
    intro env H vis v q f hd hd2 hR hB h0 h5 h6
    have ga : ∃ e, go Tryz.prog X 55 (sub (codeOf Tryz.f23) [true,true,true,false,false,false,false,false]) env H = some (.normal, e, H) ∧ e.get 20 = some (.bool (decide (0 < (q.length : Int)))) ∧ ∀ t, t < 18 → e.get t = env.get t := by
      simp only [codeOf, Tryz.f23, sub, go_seq, go_region, opsSeq_step, opsSeq_guard, guardStep_true, guardStep_false, guardVal, opsSeq_nil, afterStep_some, afterStep_none, stepC, kindOf, quietC, evC, Nat.reduceLT, Tr.get_set, if_true, if_false, Nat.reduceEqDiff, Option.map_some, Option.bind_some, List.getElem?_toArray, List.getElem?_cons_zero, List.getElem?_cons_succ, ofVal, decide_true, decide_false, BEq.rfl, andThen_normal, andThen_exit, andThen_ret, inBlock_normal, inBlock_ret, go_skip, go_exit, go_ret, loudStep, isCall, loudC, targetC, evs, evParts, mapO, List.nil_append, List.append_nil, List.cons_append, loadC, Heap.skip_get, Heap.get_put, Heap.skip_next, Heap.put_next, h6, hR.q.len, nI, bin_gtr]
      refine ⟨_, rfl, by simp only [Tr.get_set, if_true], fun t ht => ?_⟩
      simp only [Tr.get_set, show t ≠ 18 by omega, show t ≠ 19 by omega, show t ≠ 20 by omega, if_false]
    obtain ⟨e1, ga, a20, aq⟩ := ga
    cases q with
    | nil =>
      refine ⟨e1, H, vis, v, f, ?_, hR, hB, (aq 5 (by omega)).trans h5⟩
      rw [hcode, go_loop, go_seq, go_seq, ga, andThen_normal, go_cond _ _ _ (v := false) (by simp only [evC, a20]; rfl), if_neg (by simp), go_exit, andThen_exit, andThen_exit]
    | cons x q =>
      have hx : x < us.length := hB.lt x (List.mem_cons_self ..)
      obtain ⟨b, off, cs, fam, hidx, hget, hcell⟩ := fr_head hR.q
      obtain ⟨v2, hsl, hF2⟩ := fr_tail hR.q
      have gb : ∃ e, go Tryz.prog X 55 (sub (codeOf Tryz.f23) [true,true,true,false,false,false,true,false,false]) e1 H = some (.normal, e, H) ∧ e.get 7 = some (nI x) ∧ ∀ t, t < 18 → t ≠ 7 → e.get t = e1.get t := by
        simp only [codeOf, Tryz.f23, sub, go_seq, go_region, opsSeq_step, opsSeq_guard, guardStep_true, guardStep_false, guardVal, opsSeq_nil, afterStep_some, afterStep_none, stepC, kindOf, quietC, evC, Nat.reduceLT, Tr.get_set, if_true, if_false, Nat.reduceEqDiff, Option.map_some, Option.bind_some, List.getElem?_toArray, List.getElem?_cons_zero, List.getElem?_cons_succ, ofVal, decide_true, decide_false, BEq.rfl, andThen_normal, andThen_exit, andThen_ret, inBlock_normal, inBlock_ret, go_skip, go_exit, go_ret, loudStep, isCall, loudC, targetC, evs, evParts, mapO, List.nil_append, List.append_nil, List.cons_append, loadC, Heap.skip_get, Heap.get_put, Heap.skip_next, Heap.put_next, (aq 6 (by omega)).trans h6, hidx, g3, hget, hcell]
        refine ⟨_, rfl, by simp only [Tr.get_set, if_true], fun t ht h7 => ?_⟩
        simp only [Tr.get_set, h7, show t ≠ 21 by omega, show t ≠ 22 by omega, show t ≠ 23 by omega, if_false]
      obtain ⟨e2, gb, b7, bq⟩ := gb
      have gc : ∃ e, go Tryz.prog X 55 (sub (codeOf Tryz.f23) [true,true,true,false,false,false,true,false,true,false]) e2 H = some (.normal, e, H) ∧ e.get 6 = some v2 ∧ ∀ t, t < 18 → t ≠ 6 → e.get t = e2.get t := by
        simp only [codeOf, Tryz.f23, sub, go_seq, go_region, opsSeq_step, opsSeq_guard, guardStep_true, guardStep_false, guardVal, opsSeq_nil, afterStep_some, afterStep_none, stepC, kindOf, quietC, evC, Nat.reduceLT, Tr.get_set, if_true, if_false, Nat.reduceEqDiff, Option.map_some, Option.bind_some, List.getElem?_toArray, List.getElem?_cons_zero, List.getElem?_cons_succ, ofVal, decide_true, decide_false, BEq.rfl, andThen_normal, andThen_exit, andThen_ret, inBlock_normal, inBlock_ret, go_skip, go_exit, go_ret, loudStep, isCall, loudC, targetC, evs, evParts, mapO, List.nil_append, List.append_nil, List.cons_append, loadC, Heap.skip_get, Heap.get_put, Heap.skip_next, Heap.put_next, (bq 6 (by omega) (by omega)).trans ((aq 6 (by omega)).trans h6), evO, hsl]
        refine ⟨_, rfl, by simp only [Tr.get_set, if_true], fun t ht h7 => ?_⟩
        simp only [Tr.get_set, h7, show t ≠ 24 by omega, show t ≠ 25 by omega, if_false]
      obtain ⟨e3, gc, c6, cq⟩ := gc
      have hg3 := hg.ext hR.ext
      obtain ⟨vx, hvx⟩ : ∃ v, xs[x]? = some v := ⟨_, List.getElem?_eq_getElem (by rw [hg.len]; exact hx)⟩
      have hlen := (hg.c x vx hvx).len (P := Tryz.prog) u74
      rw [List.length_map] at hlen
      have gd : ∃ e, go Tryz.prog X 55 (sub (codeOf Tryz.f23) [true,true,true,false,false,false,true,false,true,true,false]) e3 H = some (.normal, e, H) ∧ e.get 32 = some vx ∧ e.get 33 = some (.int .i64 ((outOf arcs x).length : Nat)) ∧ e.get 34 = some (.int .i64 (0 : Nat)) ∧ ∀ t, t < 18 → e.get t = e3.get t := by
        simp only [codeOf, Tryz.f23, sub, go_seq, go_region, opsSeq_step, opsSeq_guard, guardStep_true, guardStep_false, guardVal, opsSeq_nil, afterStep_some, afterStep_none, stepC, kindOf, quietC, evC, Nat.reduceLT, Tr.get_set, if_true, if_false, Nat.reduceEqDiff, Option.map_some, Option.bind_some, List.getElem?_toArray, List.getElem?_cons_zero, List.getElem?_cons_succ, ofVal, decide_true, decide_false, BEq.rfl, andThen_normal, andThen_exit, andThen_ret, inBlock_normal, inBlock_ret, go_skip, go_exit, go_ret, loudStep, isCall, loudC, targetC, evs, evParts, mapO, List.nil_append, List.append_nil, List.cons_append, loadC, Heap.skip_get, Heap.get_put, Heap.skip_next, Heap.put_next, (cq 0 (by omega) (by omega)).trans ((bq 0 (by omega) (by omega)).trans ((aq 0 (by omega)).trans h0)), (cq 7 (by omega) (by omega)).trans b7, fa77_3, g75, g74, hg3.g, hg3.x, Nat.zero_add, idx75 hx, hvx, hlen]
        refine ⟨_, rfl, by simp only [Tr.get_set, Nat.reduceEqDiff, if_false, if_true], by simp only [Tr.get_set, Nat.reduceEqDiff, if_false, if_true], by simp only [Tr.get_set, if_true]; rfl, fun t ht => ?_⟩
        simp only [Tr.get_set, show t ≠ 26 by omega, show t ≠ 27 by omega, show t ≠ 28 by omega, show t ≠ 29 by omega, show t ≠ 30 by omega, show t ≠ 31 by omega, show t ≠ 32 by omega, show t ≠ 33 by omega, show t ≠ 34 by omega, if_false]
      obtain ⟨e4, gd, d32, d33, d34, dq⟩ := gd
      have hq4 : ∀ t, t < 18 → t ≠ 6 → t ≠ 7 → e4.get t = env.get t := fun t ht h6 h7 => (dq t ht).trans ((cq t ht h6).trans ((bq t ht h7).trans (aq t ht)))
      simp only [List.length_cons] at hd
      obtain ⟨e5, H5, vis5, v5, q5, f5, ge, hR5, hB5, hm5, e6, e5', e0⟩ := rch_inner (X := X) (hR.cut hF2) hB.pop (hg.c x vx hvx) (fun a ha => ⟨(List.mem_filter.1 ha).1, by simpa using (List.mem_filter.1 ha).2, (hlt a (List.mem_filter.1 ha).1).2⟩) (hB.qs x (List.mem_cons_self ..)) hn (by omega) (Nat.lt_of_le_of_lt (outOf_length _ _) har) ((hq4 5 (by omega) (by omega) (by omega)).trans h5) ((dq 6 (by omega)).trans c6) d32 d33 d34
      obtain ⟨e7, H7, vis7, v7, f7, gf, r⟩ := ih e5 H5 vis5 v5 q5 f5 (by omega) (by omega) hR5 hB5 (e0.trans ((hq4 0 (by omega) (by omega) (by omega)).trans h0)) (e5'.trans ((hq4 5 (by omega) (by omega) (by omega)).trans h5)) e6
      refine ⟨e7, H7, vis7, v7, f7, ?_, r⟩
      rw [hcode, go_loop, ← hcode, go_seq, go_seq, ga, andThen_normal, go_cond _ _ _ (v := true) (by simp only [evC, a20]; rw [decide_eq_true (by simp)]), if_pos rfl, go_skip, andThen_normal, go_block, go_seq, gb, andThen_normal, go_seq, gc, andThen_normal, go_seq, gd, andThen_normal, go_block, ge, inBlock_exit, if_pos rfl, inBlock_normal, andThen_normal]
      exact gf

theorem reached_ok (hX : X 23 = fun _ _ => none) {H : Heap} {bg bm bx s : Nat} {nv av : CV} {xs : List CV} {us : List Nat} {arcs : Arcs} (hg : Gr H bg bm bx nv av xs us arcs) (hn : us.length ≤ 100) (har : arcs.length < 1000) (hlt : ∀ a ∈ arcs, a.2.1 < us.length ∧ a.2.2 < us.length) (hs : s < us.length) (hk : HOk H) :
    ∃ bo vis H', calls Tryz.prog X 23 [.ptr bg 0, .int .i64 (s : Nat)] H = some (.slice bo 0 us.length (.exact us.length), H') ∧ H'.get bo = some (.cells (cellsB us.length vis) 4 none) ∧ (∀ y, vis y = true ↔ ∃ m, Way arcs (m + 1) s y) ∧ HOk H' ∧ Ext H.next H H' := by
  have h0 : (envOf [.ptr bg 0, .int .i64 (s : Nat)] 0 .nil).get 0 = some (.ptr bg 0) := by simp [envOf, Tr.get_set]
  have h1 : (envOf [.ptr bg 0, .int .i64 (s : Nat)] 0 .nil).get 1 = some (.int .i64 (s : Nat)) := by simp [envOf, Tr.get_set]
  have hlen := hg.n.len (P := Tryz.prog) u30
  rw [List.length_map] at hlen
  generalize hH1 : (H.skip 1).put H.next (.cells (List.replicate us.length (.bool false)) 4 none) = H1
  have x1 : Ext H.next H H1 := by rw [← hH1]; exact Ext.skip.trans (Ext.put (Nat.le_refl _))
  have k1 : HOk H1 := by rw [← hH1]; exact Hok.put rfl (Hok.skip 1 hk)
  have n1 : H1.next = H.next + 1 := by rw [← hH1]; rfl
  have b1 : H1.get H.next = some (.cells (cellsB us.length fun _ => false) 4 none) := by rw [← hH1, Heap.get_put, if_pos rfl, cellsB_zero]
  generalize hH2 : (H1.skip 1).put H1.next (.cells [nI s] 3 none) = H2
  have x2 : Ext H1.next H1 H2 := by rw [← hH2]; exact Ext.skip.trans (Ext.put (Nat.le_refl _))
  have k2 : HOk H2 := by rw [← hH2]; exact Hok.put rfl (Hok.skip 1 k1)
  have n2 : H2.next = H1.next + 1 := by rw [← hH2]; rfl
  have b2 : H2.get H1.next = some (.cells [nI s] 3 none) := by rw [← hH2, Heap.get_put, if_pos rfl]
  have mk := fun (ρ : Operand → Option CV) (x : Operand) (hx : ρ x = some (.int .i64 (us.length : Int))) => mk61 (n := us.length) (by omega) ρ x hx
  have ga : ∃ e, go Tryz.prog X 55 (.seq (sub (codeOf Tryz.f23) [false]) (.seq (sub (codeOf Tryz.f23) [true,false]) (sub (codeOf Tryz.f23) [true,true,false]))) (envOf [.ptr bg 0, .int .i64 (s : Nat)] 0 .nil) H = some (.normal, e, H2) ∧ e.get 0 = some (.ptr bg 0) ∧ e.get 5 = some (.slice H.next 0 us.length (.exact us.length)) ∧ e.get 6 = some (.slice H1.next 0 1 (.exact 1)) := by
    simp only [codeOf, Tryz.f23, sub, go_seq, go_region, opsSeq_step, opsSeq_guard, guardStep_true, guardStep_false, guardVal, opsSeq_nil, afterStep_some, afterStep_none, stepC, kindOf, quietC, evC, Nat.reduceLT, Tr.get_set, if_true, if_false, Nat.reduceEqDiff, Option.map_some, Option.bind_some, List.getElem?_toArray, List.getElem?_cons_zero, List.getElem?_cons_succ, ofVal, decide_true, decide_false, BEq.rfl, andThen_normal, andThen_exit, andThen_ret, inBlock_normal, inBlock_ret, go_skip, go_exit, go_ret, loudStep, isCall, loudC, targetC, evs, evParts, mapO, List.nil_append, List.append_nil, List.cons_append, loadC, Heap.skip_get, Heap.get_put, Heap.skip_next, Heap.put_next, h0, h1, fa77_0, g30, hg.g, hlen]
    rw [mk _ _ (by simp only [evC, Tr.get_set, if_true])]
    simp only [codeOf, Tryz.f23, sub, go_seq, go_region, opsSeq_step, opsSeq_guard, guardStep_true, guardStep_false, guardVal, opsSeq_nil, afterStep_some, afterStep_none, stepC, kindOf, quietC, evC, Nat.reduceLT, Tr.get_set, if_true, if_false, Nat.reduceEqDiff, Option.map_some, Option.bind_some, List.getElem?_toArray, List.getElem?_cons_zero, List.getElem?_cons_succ, ofVal, decide_true, decide_false, BEq.rfl, andThen_normal, andThen_exit, andThen_ret, inBlock_normal, inBlock_ret, go_skip, go_exit, go_ret, loudStep, isCall, loudC, targetC, evs, evParts, mapO, List.nil_append, List.append_nil, List.cons_append, loadC, Heap.skip_get, Heap.get_put, Heap.skip_next, Heap.put_next, h0, h1, fa77_0, g30, hg.g, hlen, hH1, bs26', CV.cells, List.length_cons, List.length_nil, Nat.reduceAdd, hH2]
    refine ⟨_, rfl, by simp only [Tr.get_set, Nat.reduceEqDiff, if_false, h0], by simp only [Tr.get_set, Nat.reduceEqDiff, if_false, if_true], by simp only [Tr.get_set, if_true]⟩
  obtain ⟨e1, ga, a0, a5, a6⟩ := ga
  have hR : RS H H2 H.next us.length (fun _ => false) (.slice H1.next 0 1 (.exact 1)) [s] H.next := by
    refine ⟨x1.trans (x2.le x1.1), k2, x2.2 _ _ (by omega) b1, by omega, Nat.le_refl _, ⟨by omega, .inl ⟨H1.next, 0, _, rfl, by omega, b2, by simp, by simp [nI]⟩⟩, Nat.le_refl _⟩
  have hu := unv_le us.length (fun _ => false)
  obtain ⟨e2, H3, vis, v, f, gb, hR3, hB3, b5⟩ := rch_loop (X := X) hg hn har hlt 200 e1 H2 _ _ _ _ (by simp only [List.length_singleton]; omega) (by omega) hR (Bfs.start hs) a0 a5 a6
  refine ⟨H.next, vis, H3, ?_, hR3.b, hB3.iff, hR3.ok, hR3.ext⟩
  have hcode : codeOf Tryz.f23 = .seq (sub (codeOf Tryz.f23) [false]) (.seq (sub (codeOf Tryz.f23) [true,false]) (.seq (sub (codeOf Tryz.f23) [true,true,false]) (.seq (.block 0 (sub (codeOf Tryz.f23) [true,true,true,false,false])) (.seq (sub (codeOf Tryz.f23) [true,true,true,true,false]) .ret)))) := rfl
  have key : ∃ e, go Tryz.prog X 55 (codeOf Tryz.f23) (envOf [.ptr bg 0, .int .i64 (s : Nat)] 0 .nil) H = some (.ret, e, H3) ∧ e.get 4 = some (.slice H.next 0 us.length (.exact us.length)) := by
    rw [go_code hcode, go_seq3, ga, andThen_normal, go_seq, go_block, gb, inBlock_exit, if_pos rfl, andThen_normal]
    simp only [codeOf, Tryz.f23, sub, go_seq, go_region, opsSeq_step, opsSeq_guard, guardStep_true, guardStep_false, guardVal, opsSeq_nil, afterStep_some, afterStep_none, stepC, kindOf, quietC, evC, Nat.reduceLT, Tr.get_set, if_true, if_false, Nat.reduceEqDiff, Option.map_some, Option.bind_some, List.getElem?_toArray, List.getElem?_cons_zero, List.getElem?_cons_succ, ofVal, decide_true, decide_false, BEq.rfl, andThen_normal, andThen_exit, andThen_ret, inBlock_normal, inBlock_ret, go_skip, go_exit, go_ret, loudStep, isCall, loudC, targetC, evs, evParts, mapO, List.nil_append, List.append_nil, List.cons_append, loadC, Heap.skip_get, Heap.get_put, Heap.skip_next, Heap.put_next, b5]
    exact ⟨_, rfl, by simp only [Tr.get_set, if_true]⟩
  obtain ⟨e, key, e4⟩ := key
  exact calls_ret (by rw [hX]) Tryz.func23 rfl (by decide) (nt := 55) rfl key (results_one e4)
end Go.Y
