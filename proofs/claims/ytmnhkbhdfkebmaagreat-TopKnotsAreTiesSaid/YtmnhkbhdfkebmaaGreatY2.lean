/- units: the names in relations, in order, each once. succession.Check: right relations are right. The map of the graph: from names to numbers. -/
import Derived.Test.YtmnhkbhdfkebmaaGreatY1

set_option linter.unusedSimpArgs false
set_option linter.unusedVariables false

namespace Go.Y
open Go.K Go.Proofs
set_option linter.unusedSimpArgs false
set_option linter.unusedVariables false
set_option maxRecDepth 10000

variable {X : CallFn}

/-- What is wanted of the sort of texts. -/
def SortOK (X : CallFn) : Prop := ∀ (ns : List Nat) (H : Heap) (f : Nat) (v : CV), Own H f 1 9 v (ns.map nm) → (∀ x ∈ ns, x < 100) → ns.length < 10000 → HOk H →
  ∃ (H' : Heap) (ms : List Nat), calls Tryz.prog X 20 [v] H = some (.tuple [], H') ∧ ms.Perm ns ∧ ms.Pairwise (· ≤ ·) ∧ Own H' f 1 9 v (ms.map nm) ∧ HOk H' ∧ ∀ n, (v ≠ .nilSlice → n ≤ f) → Ext n H H'

def unitsOf (rs : List (Nat × Nat × Nat)) : List Nat := (List.range 100).filter fun x => decide (x ∈ namesOf rs)
theorem mem_unitsOf {rs : List (Nat × Nat × Nat)} {x : Nat} (h : ∀ x ∈ namesOf rs, x < 100) : x ∈ unitsOf rs ↔ x ∈ namesOf rs := by
  simp only [unitsOf, List.mem_filter, List.mem_range, decide_eq_true_eq]
  exact ⟨fun h => h.2, fun hx => ⟨h x hx, hx⟩⟩
theorem unitsOf_sorted (rs : List (Nat × Nat × Nat)) : (unitsOf rs).Pairwise (· < ·) := List.Pairwise.filter _ List.pairwise_lt_range

theorem sorted_unique : ∀ {a b : List Nat}, a.Pairwise (· < ·) → b.Pairwise (· < ·) → (∀ x, x ∈ a ↔ x ∈ b) → a = b
  | [], [], _, _, _ => rfl
  | [], y :: b, _, _, h => absurd ((h y).2 (List.mem_cons_self ..)) (by simp)
  | x :: a, [], _, _, h => absurd ((h x).1 (List.mem_cons_self ..)) (by simp)
  | x :: a, y :: b, ha, hb, h => by
    rw [List.pairwise_cons] at ha hb
    have hxy : x = y := by
      have h1 := (h x).1 (List.mem_cons_self ..)
      have h2 := (h y).2 (List.mem_cons_self ..)
      rcases List.mem_cons.1 h1 with e | h1
      · exact e
      · rcases List.mem_cons.1 h2 with e | h2
        · exact e.symm
        · have := ha.1 y h2
          have := hb.1 x h1
          omega
    subst hxy
    congr 1
    apply sorted_unique ha.2 hb.2
    intro z
    constructor
    · intro hz
      have := ha.1 z hz
      rcases List.mem_cons.1 ((h z).1 (List.mem_cons_of_mem _ hz)) with e | h'
      · omega
      · exact h'
    · intro hz
      have := hb.1 z hz
      rcases List.mem_cons.1 ((h z).2 (List.mem_cons_of_mem _ hz)) with e | h'
      · omega
      · exact h'

theorem dd_mem : ∀ (l : List Nat) (x : Nat), x ∈ l → x ∈ dd l
  | [], x, h => by simp at h
  | [a], x, h => by simpa [dd] using h
  | a :: b :: t, x, h => by
    simp only [dd]
    by_cases hab : a = b
    · rw [if_pos hab]
      rcases List.mem_cons.1 h with rfl | h
      · exact dd_mem (b :: t) _ (by rw [hab]; exact List.mem_cons_self ..)
      · exact dd_mem (b :: t) x h
    · rw [if_neg hab]
      rcases List.mem_cons.1 h with rfl | h
      · exact List.mem_cons_self ..
      · exact List.mem_cons_of_mem _ (dd_mem (b :: t) x h)
theorem dd_sorted : ∀ {l : List Nat}, l.Pairwise (· ≤ ·) → (dd l).Pairwise (· < ·)
  | [], _ => by simp [dd]
  | [a], _ => by simp [dd]
  | a :: b :: t, h => by
    rw [List.pairwise_cons] at h
    simp only [dd]
    by_cases hab : a = b
    · rw [if_pos hab]; exact dd_sorted h.2
    · rw [if_neg hab, List.pairwise_cons]
      refine ⟨fun x hx => ?_, dd_sorted h.2⟩
      have hx' := dd_sub (b :: t) x hx
      have h1 := h.1 b (List.mem_cons_self ..)
      have h2 := (List.pairwise_cons.1 h.2).1
      rcases List.mem_cons.1 hx' with rfl | hx'
      · omega
      · have := h2 x hx'; omega
theorem dd_units {rs : List (Nat × Nat × Nat)} {ms : List Nat} (h : ∀ x ∈ namesOf rs, x < 100) (hp : ms.Perm (namesOf rs)) (hs : ms.Pairwise (· ≤ ·)) : dd ms = unitsOf rs :=
  sorted_unique (dd_sorted hs) (unitsOf_sorted rs) fun x => by
    rw [mem_unitsOf h]
    exact ⟨fun hx => hp.mem_iff.1 (dd_sub ms x hx), fun hx => dd_mem ms x (hp.mem_iff.2 hx)⟩

theorem namesOf_length (rs : List (Nat × Nat × Nat)) : (namesOf rs).length = 2 * rs.length := by
  induction rs with
  | nil => rfl
  | cons a l ih => simp only [namesOf, List.flatMap_cons, List.length_append, List.length_cons, List.length_nil] at ih ⊢; omega

theorem units_ok (hX : ∀ a H, X 17 a H = none) (hX33 : ∀ a H, X 36 a H = none) (hS : SortOK X) {l : CV} {rs : List (Nat × Nat × Nat)} {H : Heap} (hr : rs.length ≤ 1000) (hlt : ∀ x ∈ namesOf rs, x < 100)
    (hl : Has H 3 41 l (rs.map relCV)) (hk : HOk H) :
    ∃ u H', calls Tryz.prog X 17 [l] H = some (u, H') ∧ Has H' 1 9 u ((unitsOf rs).map nm) ∧ HOk H' ∧ Ext H.next H H' := by
  have hcode : codeOf Tryz.f17 = .seq (sub (codeOf Tryz.f17) [false]) (.seq (sub (codeOf Tryz.f17) [true,false]) (.seq (.seq (sub (codeOf Tryz.f17) [true,true,false,false]) (.block 0 (sub (codeOf Tryz.f17) [true,true,false,true,false]))) (.seq (sub (codeOf Tryz.f17) [true,true,true,false]) (.seq (sub (codeOf Tryz.f17) [true,true,true,true,false]) .ret)))) := rfl
  have hlen := hl.len (P := Tryz.prog) u24 H
  rw [List.length_map] at hlen
  have g0 : go Tryz.prog X 24 (sub (codeOf Tryz.f17) [false]) (envOf [l] 0 .nil) H = some (.normal, (envOf [l] 0 .nil).set 2 .nilSlice, H) := by simp only [codeOf, Tryz.f17, sub, go_seq, go_region, opsSeq_step, opsSeq_guard, guardStep_true, guardStep_false, guardVal, opsSeq_nil, afterStep_some, afterStep_none, stepC, kindOf, quietC, evC, Nat.reduceLT, Tr.get_set, if_true, if_false, Nat.reduceEqDiff, Option.map_some, Option.bind_some, List.getElem?_toArray, List.getElem?_cons_zero, List.getElem?_cons_succ, ofVal, decide_true, decide_false, BEq.rfl, andThen_normal, andThen_exit, andThen_ret, inBlock_normal, inBlock_ret, go_skip, go_exit, go_ret, loudStep, isCall, loudC, targetC, evs, evParts, mapO, List.nil_append, List.append_nil, List.cons_append, loadC, Heap.skip_get, Heap.get_put, Heap.skip_next, Heap.put_next]
  have g1 : go Tryz.prog X 24 (sub (codeOf Tryz.f17) [true,false]) ((envOf [l] 0 .nil).set 2 .nilSlice) H = some (.normal, ((envOf [l] 0 .nil).set 2 .nilSlice).set 3 .nilSlice, H) := by simp only [codeOf, Tryz.f17, sub, go_seq, go_region, opsSeq_step, opsSeq_guard, guardStep_true, guardStep_false, guardVal, opsSeq_nil, afterStep_some, afterStep_none, stepC, kindOf, quietC, evC, Nat.reduceLT, Tr.get_set, if_true, if_false, Nat.reduceEqDiff, Option.map_some, Option.bind_some, List.getElem?_toArray, List.getElem?_cons_zero, List.getElem?_cons_succ, ofVal, decide_true, decide_false, BEq.rfl, andThen_normal, andThen_exit, andThen_ret, inBlock_normal, inBlock_ret, go_skip, go_exit, go_ret, loudStep, isCall, loudC, targetC, evs, evParts, mapO, List.nil_append, List.append_nil, List.cons_append, loadC, Heap.skip_get, Heap.get_put, Heap.skip_next, Heap.put_next]
  have g2 : ∃ e, go Tryz.prog X 24 (sub (codeOf Tryz.f17) [true,true,false,false]) (((envOf [l] 0 .nil).set 2 .nilSlice).set 3 .nilSlice) H = some (.normal, e, H) ∧ e.get 3 = some .nilSlice ∧ e.get 6 = some l ∧ e.get 7 = some (.int .i64 rs.length) ∧ e.get 8 = some (.int .i64 (0 : Nat)) := by
    have h0 : (((envOf [l] 0 .nil).set 2 .nilSlice).set 3 .nilSlice).get 0 = some l := by simp [envOf, Tr.get_set]
    simp only [codeOf, Tryz.f17, sub, go_seq, go_region, opsSeq_step, opsSeq_guard, guardStep_true, guardStep_false, guardVal, opsSeq_nil, afterStep_some, afterStep_none, stepC, kindOf, quietC, evC, Nat.reduceLT, Tr.get_set, if_true, if_false, Nat.reduceEqDiff, Option.map_some, Option.bind_some, List.getElem?_toArray, List.getElem?_cons_zero, List.getElem?_cons_succ, ofVal, decide_true, decide_false, BEq.rfl, andThen_normal, andThen_exit, andThen_ret, inBlock_normal, inBlock_ret, go_skip, go_exit, go_ret, loudStep, isCall, loudC, targetC, evs, evParts, mapO, List.nil_append, List.append_nil, List.cons_append, loadC, Heap.skip_get, Heap.get_put, Heap.skip_next, Heap.put_next, h0, hlen]
    exact ⟨_, rfl, by simp only [Tr.get_set, Nat.reduceEqDiff, if_true, if_false], by simp only [Tr.get_set, Nat.reduceEqDiff, if_true, if_false], by simp only [Tr.get_set, Nat.reduceEqDiff, if_true, if_false], by simp only [Tr.get_set, if_true]; rfl⟩
  obtain ⟨e2, g2, a3, a6, a7, a8⟩ := g2
  obtain ⟨e3, v, H1, f, g3, b3, bown, bok, bf, bx⟩ := units_loop (X := X) hr (n := H.next) hl.lt rs.length 0 e2 H .nilSlice 0 (by omega) a3 a6 a7 a8 hl hk (Nat.le_refl _) ⟨by simp [namesOf], .inl ⟨rfl, by simp [namesOf]⟩⟩ (fun h => absurd rfl h)
  obtain ⟨H2, ms, c1, c2, c3, c4, c5, c6⟩ := hS (namesOf rs) H1 f v bown hlt (by rw [namesOf_length]; omega) bok
  have hx2 := c6 H.next bf
  obtain ⟨u, H3, d1, d2, d3, d4⟩ := compact_ok (X := X) hX33 (ns := ms) (n := H.next) (by rw [c2.length_eq, namesOf_length]; omega) (fun x hx => hlt x (c2.mem_iff.1 hx)) c4 c5 (Nat.le_trans bx.1 hx2.1) bf
  rw [dd_units hlt c2 c3] at d2
  have g7 : go Tryz.prog X 24 (sub (codeOf Tryz.f17) [true,true,true,false]) e3 H1 = some (.normal, (e3.set 20 v).set 21 (.tuple []), H2) := by
    simp only [codeOf, Tryz.f17, sub, go_seq, go_region, opsSeq_step, opsSeq_guard, guardStep_true, guardStep_false, guardVal, opsSeq_nil, afterStep_some, afterStep_none, stepC, kindOf, quietC, evC, Nat.reduceLT, Tr.get_set, if_true, if_false, Nat.reduceEqDiff, Option.map_some, Option.bind_some, List.getElem?_toArray, List.getElem?_cons_zero, List.getElem?_cons_succ, ofVal, decide_true, decide_false, BEq.rfl, andThen_normal, andThen_exit, andThen_ret, inBlock_normal, inBlock_ret, go_skip, go_exit, go_ret, loudStep, isCall, loudC, targetC, evs, evParts, mapO, List.nil_append, List.append_nil, List.cons_append, loadC, Heap.skip_get, Heap.get_put, Heap.skip_next, Heap.put_next, b3, c1]
  have g8 : ∃ e, go Tryz.prog X 24 (sub (codeOf Tryz.f17) [true,true,true,true,false]) ((e3.set 20 v).set 21 (.tuple [])) H2 = some (.normal, e, H3) ∧ e.get 2 = some u := by
    simp only [codeOf, Tryz.f17, sub, go_seq, go_region, opsSeq_step, opsSeq_guard, guardStep_true, guardStep_false, guardVal, opsSeq_nil, afterStep_some, afterStep_none, stepC, kindOf, quietC, evC, Nat.reduceLT, Tr.get_set, if_true, if_false, Nat.reduceEqDiff, Option.map_some, Option.bind_some, List.getElem?_toArray, List.getElem?_cons_zero, List.getElem?_cons_succ, ofVal, decide_true, decide_false, BEq.rfl, andThen_normal, andThen_exit, andThen_ret, inBlock_normal, inBlock_ret, go_skip, go_exit, go_ret, loudStep, isCall, loudC, targetC, evs, evParts, mapO, List.nil_append, List.append_nil, List.cons_append, loadC, Heap.skip_get, Heap.get_put, Heap.skip_next, Heap.put_next, b3, d1]
    exact ⟨_, rfl, by simp only [Tr.get_set, if_true]⟩
  obtain ⟨e8, g8, q2⟩ := g8
  refine ⟨u, H3, calls_ret (hX _ _) Tryz.func17 rfl (by decide) (nt := 24) rfl (env' := e8) ?_ (results_one q2), d2, d3, (bx.trans hx2).trans d4⟩
  rw [hcode, go_seq, g0, andThen_normal, go_seq, g1, andThen_normal, go_seq, go_seq, g2, andThen_normal, go_block, g3, inBlock_exit, if_pos rfl, andThen_normal, go_seq, g7, andThen_normal, go_seq, g8, andThen_normal, go_ret]
end Go.Y

namespace Go.Y
open Go.K Go.Proofs
set_option linter.unusedSimpArgs false
set_option linter.unusedVariables false
set_option maxRecDepth 10000

variable {X : CallFn}

/-- A right relation. -/
def Right (r : Nat × Nat × Nat) : Prop := 1 ≤ r.1 ∧ r.1 ≤ 4 ∧ r.2.1 < 8 ∧ r.2.2 < 8 ∧ r.2.1 ≠ r.2.2
def CheckOK (X : CallFn) : Prop := ∀ (r : Nat × Nat × Nat) (H : Heap), Right r → calls Tryz.prog X 35 [relCV r] H = some (.int .i64 0, H)
theorem right_names {rs : List (Nat × Nat × Nat)} (h : ∀ r ∈ rs, Right r) : ∀ x ∈ namesOf rs, x < 8 := by
  intro x hx
  simp only [namesOf, List.mem_flatMap, List.mem_cons, List.not_mem_nil, or_false] at hx
  obtain ⟨r, hr, rfl | rfl⟩ := hx
  · exact (h r hr).2.2.1
  · exact (h r hr).2.2.2.1

theorem check_body (hC : CheckOK X) {env : Env} {H : Heap} {l : CV} {rs : List (Nat × Nat × Nat)} {i : Nat} (h0 : env.get 0 = some l)
    (h9 : env.get 9 = some l) (h10 : env.get 10 = some (.int .i64 rs.length)) (h11 : env.get 11 = some (.int .i64 i))
    (hl : Has H 3 41 l (rs.map relCV)) (hi : i < rs.length) (hr : rs.length ≤ 1000) (hR : ∀ r ∈ rs, Right r) (hk : HOk H) :
    ∃ env' H', go Tryz.prog X 25 (sub (codeOf Tryz.f16) [true,true,false,true,false,false]) env H = some (.normal, env', H') ∧ env'.get 0 = some l ∧ env'.get 9 = some l ∧ env'.get 10 = some (.int .i64 rs.length) ∧ env'.get 11 = some (.int .i64 (i + 1 : Nat)) ∧ HOk H' ∧ Ext H.next H H' := by
  obtain ⟨b, off, cs, fam, hb, _, hidx, hget, hcells, hcell⟩ := hl.at (P := Tryz.prog) (t := 25) u24 s42 (i := i) (by simpa using hi)
  rw [List.getElem_map] at hcells
  have hcl : takeE 3 (cs.drop off) = some [.int .i64 rs[i].1, nm rs[i].2.1, nm rs[i].2.2] := hcells
  generalize hH2 : ((H.skip 1).put H.next (.cells [.int .i64 0, .str .empty, .str .empty] 41 none)).put H.next (.cells [.int .i64 rs[i].1, nm rs[i].2.1, nm rs[i].2.2] 41 none) = H2
  have hE2 : Ext H.next H H2 := by rw [← hH2]; exact (Ext.skip.trans (Ext.put (Nat.le_refl _))).trans (Ext.put (Nat.le_refl _))
  have hk2 : HOk H2 := by rw [← hH2]; exact Hok.put rfl (Hok.put rfl (Hok.skip 1 hk))
  have hg2 : H2.get H.next = some (.cells [.int .i64 rs[i].1, nm rs[i].2.1, nm rs[i].2.2] 41 none) := by rw [← hH2, Heap.get_put, if_pos rfl]
  have hcall : calls Tryz.prog X 35 [.agg [.int .i64 rs[i].1, nm rs[i].2.1, nm rs[i].2.2]] H2 = some (.int .i64 0, H2) := hC rs[i] H2 (hR _ (List.getElem_mem _))
  have htk : takeE 3 (List.drop 0 [CV.int .i64 rs[i].1, nm rs[i].2.1, nm rs[i].2.2]) = some [.int .i64 rs[i].1, nm rs[i].2.1, nm rs[i].2.2] := rfl
  have e1 : (i : Int) < (rs.length : Int) := by omega
  have hw : wrap .i64 ((i : Int) + 1) = ((i + 1 : Nat) : Int) := wrap64 (by omega) (by omega)
  suffices h : ∃ env', go Tryz.prog X 25 (sub (codeOf Tryz.f16) [true,true,false,true,false,false]) env H = some (.normal, env', H2) ∧ env'.get 0 = some l ∧ env'.get 9 = some l ∧ env'.get 10 = some (.int .i64 rs.length) ∧ env'.get 11 = some (.int .i64 (i + 1 : Nat)) by
    obtain ⟨env', q1, q2, q3, q4, q5⟩ := h
    exact ⟨env', H2, q1, q2, q3, q4, q5, hk2, hE2⟩
  simp only [codeOf, Tryz.f16, sub, go_seq, go_region, opsSeq_step, opsSeq_guard, guardStep_true, guardStep_false, guardVal, opsSeq_nil, afterStep_some, afterStep_none, stepC, kindOf, quietC, evC, Nat.reduceLT, Tr.get_set, if_true, if_false, Nat.reduceEqDiff, Option.map_some, Option.bind_some, List.getElem?_toArray, List.getElem?_cons_zero, List.getElem?_cons_succ, ofVal, decide_true, decide_false, BEq.rfl, andThen_normal, andThen_exit, andThen_ret, inBlock_normal, inBlock_ret, go_skip, go_exit, go_ret, loudStep, isCall, loudC, targetC, evs, evParts, mapO, List.nil_append, List.append_nil, List.cons_append, loadC, Heap.skip_get, Heap.get_put, Heap.skip_next, Heap.put_next, h9, h10, h11, bin_lss, e1]
  rw [go_cond _ _ _ (v := true) (by simp only [evC, Tr.get_set, if_true])]
  simp only [go_seq, go_region, opsSeq_step, opsSeq_guard, guardStep_true, guardStep_false, guardVal, opsSeq_nil, afterStep_some, afterStep_none, stepC, kindOf, quietC, evC, Nat.reduceLT, Tr.get_set, if_true, if_false, Nat.reduceEqDiff, Option.map_some, Option.bind_some, List.getElem?_toArray, List.getElem?_cons_zero, List.getElem?_cons_succ, ofVal, decide_true, decide_false, BEq.rfl, andThen_normal, andThen_exit, andThen_ret, inBlock_normal, inBlock_ret, go_skip, go_exit, go_ret, loudStep, isCall, loudC, targetC, evs, evParts, mapO, List.nil_append, List.append_nil, List.cons_append, loadC, Heap.skip_get, Heap.get_put, Heap.skip_next, Heap.put_next, go_block, h9, h10, h11, hidx, hget, hcl, s42, g42, al42, store42, List.length_cons, List.length_nil, Nat.reduceAdd, hH2, hg2, htk, hcall, bin_neq, ne_eq, not_true_eq_false]
  rw [go_cond _ _ _ (v := false) (by simp only [evC, Tr.get_set, if_true])]
  simp only [go_seq, go_region, opsSeq_step, opsSeq_guard, guardStep_true, guardStep_false, guardVal, opsSeq_nil, afterStep_some, afterStep_none, stepC, kindOf, quietC, evC, Nat.reduceLT, Tr.get_set, if_true, if_false, Nat.reduceEqDiff, Option.map_some, Option.bind_some, List.getElem?_toArray, List.getElem?_cons_zero, List.getElem?_cons_succ, ofVal, decide_true, decide_false, BEq.rfl, andThen_normal, andThen_exit, andThen_ret, inBlock_normal, inBlock_ret, go_skip, go_exit, go_ret, loudStep, isCall, loudC, targetC, evs, evParts, mapO, List.nil_append, List.append_nil, List.cons_append, loadC, Heap.skip_get, Heap.get_put, Heap.skip_next, Heap.put_next, Bool.false_eq_true, h11, bin_add, hw]
  exact ⟨_, rfl, by simp only [Tr.get_set, Nat.reduceEqDiff, if_true, if_false, h0], by simp only [Tr.get_set, Nat.reduceEqDiff, if_true, if_false, h9], by simp only [Tr.get_set, Nat.reduceEqDiff, if_true, if_false, h10], by simp only [Tr.get_set, if_true]⟩

theorem check_exit {env : Env} {H : Heap} {n : Nat} (h10 : env.get 10 = some (.int .i64 n)) (h11 : env.get 11 = some (.int .i64 n)) :
    go Tryz.prog X 25 (sub (codeOf Tryz.f16) [true,true,false,true,false,false]) env H = some (.exit 0, env.set 12 (.bool false), H) := by
  have e1 : ¬ ((n : Int) < (n : Int)) := by omega
  simp only [codeOf, Tryz.f16, sub, go_seq, go_region, opsSeq_step, opsSeq_guard, guardStep_true, guardStep_false, guardVal, opsSeq_nil, afterStep_some, afterStep_none, stepC, kindOf, quietC, evC, Nat.reduceLT, Tr.get_set, if_true, if_false, Nat.reduceEqDiff, Option.map_some, Option.bind_some, List.getElem?_toArray, List.getElem?_cons_zero, List.getElem?_cons_succ, ofVal, decide_true, decide_false, BEq.rfl, andThen_normal, andThen_exit, andThen_ret, inBlock_normal, inBlock_ret, go_skip, go_exit, go_ret, loudStep, isCall, loudC, targetC, evs, evParts, mapO, List.nil_append, List.append_nil, List.cons_append, loadC, Heap.skip_get, Heap.get_put, Heap.skip_next, Heap.put_next, h10, h11, bin_lss, e1]
  rw [go_cond _ _ _ (v := false) (by simp only [evC, Tr.get_set, if_true])]
  simp only [Bool.false_eq_true, if_false, go_exit, andThen_exit]

theorem check_loop (hC : CheckOK X) {l : CV} {rs : List (Nat × Nat × Nat)} (hr : rs.length ≤ 1000) (hR : ∀ r ∈ rs, Right r) :
    ∀ (k i : Nat) (env : Env) (H : Heap), i + k = rs.length → env.get 0 = some l → env.get 9 = some l → env.get 10 = some (.int .i64 rs.length) → env.get 11 = some (.int .i64 i) → Has H 3 41 l (rs.map relCV) → HOk H →
    ∃ env' H', go Tryz.prog X 25 (sub (codeOf Tryz.f16) [true,true,false,true,false]) env H = some (.exit 0, env', H') ∧ env'.get 0 = some l ∧ HOk H' ∧ Ext H.next H H' := by
  have hcode : sub (codeOf Tryz.f16) [true,true,false,true,false] = .loop (sub (codeOf Tryz.f16) [true,true,false,true,false,false]) := rfl
  intro k
  induction k with
  | zero =>
    intro i env H hik h0 h9 h10 h11 hl hk
    have : i = rs.length := by omega
    subst this
    rw [hcode, go_loop, check_exit h10 h11, andThen_exit]
    exact ⟨_, H, rfl, by simp only [Tr.get_set, Nat.reduceEqDiff, if_false, h0], hk, Ext.refl _ _⟩
  | succ k ih =>
    intro i env H hik h0 h9 h10 h11 hl hk
    obtain ⟨e1, H1, g1, a0, a9, a10, a11, ak, ax⟩ := check_body hC h0 h9 h10 h11 hl (by omega) hr hR hk
    obtain ⟨e2, H2, g2, b0, bk, bx⟩ := ih (i + 1) e1 H1 (by omega) a0 a9 a10 a11 (hl.ext ax hl.lt) ak
    refine ⟨e2, H2, ?_, b0, bk, ax.trans (bx.le ax.1)⟩
    rw [hcode, go_loop, g1, andThen_normal, ← hcode]
    exact g2

theorem check_ok (hX : ∀ a H, X 16 a H = none) (hX18 : ∀ a H, X 17 a H = none) (hX33 : ∀ a H, X 36 a H = none) (hS : SortOK X) (hC : CheckOK X) {l : CV} {rs : List (Nat × Nat × Nat)} {H : Heap} (hr : rs.length ≤ 30) (hR : ∀ r ∈ rs, Right r)
    (hl : Has H 3 41 l (rs.map relCV)) (hk : HOk H) : ∃ H', calls Tryz.prog X 16 [l] H = some (.int .i64 0, H') ∧ HOk H' ∧ Ext H.next H H' := by
  have hcode : codeOf Tryz.f16 = .seq (sub (codeOf Tryz.f16) [false]) (.seq (.seq (sub (codeOf Tryz.f16) [true,false,false]) (.cond (.tmp 8) (sub (codeOf Tryz.f16) [true,false,true,false]) .skip)) (.seq (.seq (sub (codeOf Tryz.f16) [true,true,false,false]) (.block 0 (sub (codeOf Tryz.f16) [true,true,false,true,false])))
    (.seq (.seq (sub (codeOf Tryz.f16) [true,true,true,false,false]) (.cond (.tmp 24) (sub (codeOf Tryz.f16) [true,true,true,false,true,false]) .skip)) (.seq (sub (codeOf Tryz.f16) [true,true,true,true,false]) .ret)))) := rfl
  have hlen := hl.len (P := Tryz.prog) u24 H
  rw [List.length_map] at hlen
  have h0 : (envOf [l] 0 .nil).get 0 = some l := by simp [envOf, Tr.get_set]
  have e1 : ¬ (200 < (rs.length : Int)) := by omega
  have g1 : ∃ e, go Tryz.prog X 25 (.seq (sub (codeOf Tryz.f16) [false]) (.seq (.seq (sub (codeOf Tryz.f16) [true,false,false]) (.cond (.tmp 8) (sub (codeOf Tryz.f16) [true,false,true,false]) .skip)) (sub (codeOf Tryz.f16) [true,true,false,false]))) (envOf [l] 0 .nil) H = some (.normal, e, H) ∧
      e.get 0 = some l ∧ e.get 9 = some l ∧ e.get 10 = some (.int .i64 rs.length) ∧ e.get 11 = some (.int .i64 (0 : Nat)) := by
    simp only [codeOf, Tryz.f16, sub, go_seq, go_region, opsSeq_step, opsSeq_guard, guardStep_true, guardStep_false, guardVal, opsSeq_nil, afterStep_some, afterStep_none, stepC, kindOf, quietC, evC, Nat.reduceLT, Tr.get_set, if_true, if_false, Nat.reduceEqDiff, Option.map_some, Option.bind_some, List.getElem?_toArray, List.getElem?_cons_zero, List.getElem?_cons_succ, ofVal, decide_true, decide_false, BEq.rfl, andThen_normal, andThen_exit, andThen_ret, inBlock_normal, inBlock_ret, go_skip, go_exit, go_ret, loudStep, isCall, loudC, targetC, evs, evParts, mapO, List.nil_append, List.append_nil, List.cons_append, loadC, Heap.skip_get, Heap.get_put, Heap.skip_next, Heap.put_next, h0, hlen, bin_gtr, e1]
    rw [go_cond _ _ _ (v := false) (by simp only [evC, Tr.get_set, if_true])]
    simp only [go_seq, go_region, opsSeq_step, opsSeq_guard, guardStep_true, guardStep_false, guardVal, opsSeq_nil, afterStep_some, afterStep_none, stepC, kindOf, quietC, evC, Nat.reduceLT, Tr.get_set, if_true, if_false, Nat.reduceEqDiff, Option.map_some, Option.bind_some, List.getElem?_toArray, List.getElem?_cons_zero, List.getElem?_cons_succ, ofVal, decide_true, decide_false, BEq.rfl, andThen_normal, andThen_exit, andThen_ret, inBlock_normal, inBlock_ret, go_skip, go_exit, go_ret, loudStep, isCall, loudC, targetC, evs, evParts, mapO, List.nil_append, List.append_nil, List.cons_append, loadC, Heap.skip_get, Heap.get_put, Heap.skip_next, Heap.put_next, Bool.false_eq_true, h0, hlen]
    exact ⟨_, rfl, by simp only [Tr.get_set, Nat.reduceEqDiff, if_true, if_false, h0], by simp only [Tr.get_set, Nat.reduceEqDiff, if_true, if_false], by simp only [Tr.get_set, Nat.reduceEqDiff, if_true, if_false], by simp only [Tr.get_set, if_true]; rfl⟩
  obtain ⟨e2, g1, a0, a9, a10, a11⟩ := g1
  obtain ⟨e3, H1, g3, b0, bk, bx⟩ := check_loop hC (by omega) hR rs.length 0 e2 H (by omega) a0 a9 a10 a11 hl hk
  have hn8 := right_names hR
  obtain ⟨u, H2, c1, c2, c3, c4⟩ := units_ok hX18 hX33 hS (H := H1) (l := l) (rs := rs) (by omega) (fun x hx => by have := hn8 x hx; omega) (hl.ext bx hl.lt) bk
  have hul : (unitsOf rs).length ≤ 60 := by
    have hs : (unitsOf rs).Sublist (List.range 8) := by
      have : unitsOf rs = (List.range 8).filter fun x => decide (x ∈ namesOf rs) := sorted_unique (unitsOf_sorted rs) (List.Pairwise.filter _ List.pairwise_lt_range) fun x => by
        rw [mem_unitsOf (fun x hx => by have := hn8 x hx; omega), List.mem_filter, List.mem_range, decide_eq_true_eq]
        exact ⟨fun h => ⟨hn8 x h, h⟩, fun h => h.2⟩
      rw [this]; exact List.filter_sublist
    have := hs.length_le
    rw [List.length_range] at this; omega
  have hul2 := c2.len (P := Tryz.prog) u30 H2
  rw [List.length_map] at hul2
  have e2' : ¬ (60 < ((unitsOf rs).length : Int)) := by omega
  have g4 : ∃ e, go Tryz.prog X 25 (.seq (.seq (sub (codeOf Tryz.f16) [true,true,true,false,false]) (.cond (.tmp 24) (sub (codeOf Tryz.f16) [true,true,true,false,true,false]) .skip)) (.seq (sub (codeOf Tryz.f16) [true,true,true,true,false]) .ret)) e3 H1 = some (.ret, e, H2) ∧ e.get 2 = some (.int .i64 0) := by
    simp only [codeOf, Tryz.f16, sub, go_seq, go_region, opsSeq_step, opsSeq_guard, guardStep_true, guardStep_false, guardVal, opsSeq_nil, afterStep_some, afterStep_none, stepC, kindOf, quietC, evC, Nat.reduceLT, Tr.get_set, if_true, if_false, Nat.reduceEqDiff, Option.map_some, Option.bind_some, List.getElem?_toArray, List.getElem?_cons_zero, List.getElem?_cons_succ, ofVal, decide_true, decide_false, BEq.rfl, andThen_normal, andThen_exit, andThen_ret, inBlock_normal, inBlock_ret, go_skip, go_exit, go_ret, loudStep, isCall, loudC, targetC, evs, evParts, mapO, List.nil_append, List.append_nil, List.cons_append, loadC, Heap.skip_get, Heap.get_put, Heap.skip_next, Heap.put_next, b0, c1, hul2, bin_gtr, e2']
    rw [go_cond _ _ _ (v := false) (by simp only [evC, Tr.get_set, if_true])]
    simp only [go_seq, go_region, opsSeq_step, opsSeq_guard, guardStep_true, guardStep_false, guardVal, opsSeq_nil, afterStep_some, afterStep_none, stepC, kindOf, quietC, evC, Nat.reduceLT, Tr.get_set, if_true, if_false, Nat.reduceEqDiff, Option.map_some, Option.bind_some, List.getElem?_toArray, List.getElem?_cons_zero, List.getElem?_cons_succ, ofVal, decide_true, decide_false, BEq.rfl, andThen_normal, andThen_exit, andThen_ret, inBlock_normal, inBlock_ret, go_skip, go_exit, go_ret, loudStep, isCall, loudC, targetC, evs, evParts, mapO, List.nil_append, List.append_nil, List.cons_append, loadC, Heap.skip_get, Heap.get_put, Heap.skip_next, Heap.put_next, Bool.false_eq_true]
    exact ⟨_, rfl, by simp only [Tr.get_set, if_true]⟩
  obtain ⟨e4, g4, d2⟩ := g4
  refine ⟨H2, calls_ret (hX _ _) Tryz.func16 rfl (by decide) (nt := 25) rfl (env' := e4) ?_ (results_one d2), c3, bx.trans (c4.le bx.1)⟩
  have g1' := g1
  rw [go_seq] at g1'
  rw [hcode, go_seq]
  cases hx : go Tryz.prog X 25 (sub (codeOf Tryz.f16) [false]) (envOf [l] 0 .nil) H with
  | none => rw [hx] at g1'; cases g1'
  | some r =>
    obtain ⟨c, ee, hh⟩ := r
    rw [hx] at g1'
    cases c with
    | normal =>
      rw [andThen_normal] at g1' ⊢
      rw [go_seq] at g1' ⊢
      cases hy : go Tryz.prog X 25 (.seq (sub (codeOf Tryz.f16) [true,false,false]) (.cond (.tmp 8) (sub (codeOf Tryz.f16) [true,false,true,false]) .skip)) ee hh with
      | none => rw [hy] at g1'; cases g1'
      | some r =>
        obtain ⟨c, e5, h5⟩ := r
        rw [hy] at g1'
        cases c with
        | normal =>
          rw [andThen_normal] at g1' ⊢
          rw [go_seq, go_seq, g1', andThen_normal, go_block, g3, inBlock_exit, if_pos rfl, andThen_normal]
          exact g4
        | exit i => rw [andThen_exit] at g1'; injection g1' with g; injection g with g; cases g
        | ret => rw [andThen_ret] at g1'; injection g1' with g; injection g with g; cases g
    | exit i => rw [andThen_exit] at g1'; injection g1' with g; injection g with g; cases g
    | ret => rw [andThen_ret] at g1'; injection g1' with g; injection g with g; cases g
end Go.Y

namespace Go.Y
open Go.K Go.Proofs
set_option linter.unusedSimpArgs false
set_option linter.unusedVariables false
set_option maxRecDepth 10000

variable {X : CallFn}

theorem keq {x y : Nat} (hx : x < 100) (hy : y < 100) : keyEq Tryz.prog 9 (nm x) (nm y) = some (decide (x = y)) := by
  unfold keyEq
  rw [show (40 : Nat) = 39 + 1 from rfl, nm, nm, ceq]
  · show some (bytesEq [UInt8.ofNat (65 + x)] [UInt8.ofNat (65 + y)]) = _
    rw [nm_beq hx hy]
  · exact u9
theorem nm_key (x : Nat) : keyC Tryz.prog 8 9 (nm x) = true := by
  rw [show (8 : Nat) = 7 + 1 from rfl, nm, keyC]
  simp only [u9]

/-- The map's entries: each name with its number. -/
def entriesFrom (k : Nat) : List Nat → List (CV × CV × Nat)
  | [] => []
  | x :: t => (nm x, .int .i64 (k : Int), k) :: entriesFrom (k + 1) t
theorem entriesFrom_length (k : Nat) (us : List Nat) : (entriesFrom k us).length = us.length := by
  induction us generalizing k with
  | nil => rfl
  | cons a t ih => simp [entriesFrom, ih]
theorem entriesFrom_snoc (k : Nat) (us : List Nat) (x : Nat) : entriesFrom k (us ++ [x]) = entriesFrom k us ++ [(nm x, .int .i64 ((k + us.length : Nat) : Int), k + us.length)] := by
  induction us generalizing k with
  | nil => simp [entriesFrom]
  | cons a t ih => simp only [List.cons_append, entriesFrom, ih, List.length_cons]; rw [show k + 1 + t.length = k + (t.length + 1) by omega]
theorem find_none {x : Nat} (hx : x < 100) : ∀ (us : List Nat) (k j : Nat), (∀ y ∈ us, y < 100) → x ∉ us → findC Tryz.prog 9 (nm x) (entriesFrom k us) j = some none
  | [], _, _, _, _ => rfl
  | a :: t, k, j, h, hn => by
    have ha := h a (List.mem_cons_self ..)
    have hne : x ≠ a := fun e => hn (e ▸ List.mem_cons_self ..)
    simp only [entriesFrom, findC, keq hx ha, hne, decide_false]
    exact find_none hx t (k + 1) (j + 1) (fun y hy => h y (List.mem_cons_of_mem _ hy)) (fun hh => hn (List.mem_cons_of_mem _ hh))
theorem find_some {x : Nat} (hx : x < 100) : ∀ (us : List Nat) (k j : Nat), (∀ y ∈ us, y < 100) → x ∈ us → findC Tryz.prog 9 (nm x) (entriesFrom k us) j = some (some (j + us.idxOf x, .int .i64 ((k + us.idxOf x : Nat) : Int)))
  | [], _, _, _, h => by simp at h
  | a :: t, k, j, h, hn => by
    have ha := h a (List.mem_cons_self ..)
    by_cases e : x = a
    · subst e
      simp only [entriesFrom, findC, keq hx ha, decide_true, List.idxOf_cons_self, Nat.add_zero]
    · have hm : x ∈ t := by
        rcases List.mem_cons.1 hn with h | h
        · exact absurd h e
        · exact h
      simp only [entriesFrom, findC, keq hx ha, e, decide_false]
      rw [find_some hx t (k + 1) (j + 1) (fun y hy => h y (List.mem_cons_of_mem _ hy)) hm, show (a :: t).idxOf x = t.idxOf x + 1 by simp [List.idxOf_cons, beq_eq_false_iff_ne.2 (fun h : a = x => e h.symm)]]
      rw [show j + 1 + t.idxOf x = j + (t.idxOf x + 1) by omega, show k + 1 + t.idxOf x = k + (t.idxOf x + 1) by omega]

theorem lookup_at {H : Heap} {b c x : Nat} {us : List Nat} (hg : H.get b = some (.map (entriesFrom 0 us) c)) (hus : ∀ y ∈ us, y < 100) (hx : x ∈ us) :
    lookupC Tryz.prog 52 H (.map b) (nm x) false = some (.int .i64 (us.idxOf x : Nat)) := by
  simp only [lookupC, u52, hg, nm_key, find_some (hus x hx) us 0 0 hus hx, Nat.zero_add]
theorem lookup_at_ok {H : Heap} {b c x : Nat} {us : List Nat} (hg : H.get b = some (.map (entriesFrom 0 us) c)) (hus : ∀ y ∈ us, y < 100) (hx : x ∈ us) :
    lookupC Tryz.prog 52 H (.map b) (nm x) true = some (.tuple [.int .i64 (us.idxOf x : Nat), .bool true]) := by
  simp only [lookupC, u52, hg, nm_key, find_some (hus x hx) us 0 0 hus hx, Nat.zero_add]
theorem info3 : ∃ i : TypeInfo, Tryz.prog.info? 3 = some i ∧ i.zero = some (.int .i64 0) := by
  have h : (Tryz.prog.info? 3).bind (fun i => i.zero) = some (.int .i64 0) := by kernel_rfl
  cases e : Tryz.prog.info? 3 with
  | none => rw [e] at h; cases h
  | some i => rw [e] at h; exact ⟨i, rfl, h⟩
theorem lookup_none_ok {H : Heap} {b c x : Nat} {us : List Nat} (hg : H.get b = some (.map (entriesFrom 0 us) c)) (hus : ∀ y ∈ us, y < 100) (hx0 : x < 100) (hx : x ∉ us) :
    lookupC Tryz.prog 52 H (.map b) (nm x) true = some (.tuple [.int .i64 0, .bool false]) := by
  obtain ⟨i, h1, h2⟩ := info3
  simp only [lookupC, u52, hg, nm_key, find_none hx0 us 0 0 hus hx, h1, h2, ofVal, Option.map_some]
theorem update_new {H : Heap} {b x : Nat} {us : List Nat} (hg : H.get b = some (.map (entriesFrom 0 us) us.length)) (hus : ∀ y ∈ us, y < 100) (hx : x < 100) (hn : x ∉ us) :
    updateC Tryz.prog 52 H (.map b) (nm x) (.int .i64 (us.length : Nat)) = some (.tuple [], H.put b (.map (entriesFrom 0 (us ++ [x])) (us ++ [x]).length)) := by
  simp only [updateC, u52, hg, nm_key, find_none hx us 0 0 hus hn, entriesFrom_snoc, Nat.zero_add, List.length_append, List.length_singleton]
end Go.Y
