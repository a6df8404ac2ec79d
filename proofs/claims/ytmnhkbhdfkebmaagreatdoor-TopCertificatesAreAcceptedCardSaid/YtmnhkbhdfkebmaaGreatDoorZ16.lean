/- Units, Cycle and Order of right relations. checker: arc, and the search for a number that is none. checker.Cycle: a cycle is a cycle. -/
import Derived.Test.YtmnhkbhdfkebmaaGreatDoorZ15

set_option linter.unusedSimpArgs false
set_option linter.unusedVariables false

namespace Go.Z
open Go.K Go.Proofs
set_option linter.unusedSimpArgs false
set_option linter.unusedVariables false
set_option maxRecDepth 10000

variable {X : CallFn}

/-- What is wanted of the hook. -/
structure ZX (X : CallFn) : Prop where
  q : QX X
  x6 : ∀ a H, X 6 a H = none
  x7 : ∀ a H, X 7 a H = none
  x8 : ∀ a H, X 8 a H = none
  x9 : ∀ a H, X 9 a H = none
  x10 : ∀ a H, X 10 a H = none
  x11 : ∀ a H, X 11 a H = none
  x15 : ∀ a H, X 15 a H = none
  x16 : ∀ a H, X 16 a H = none
  x17 : ∀ a H, X 17 a H = none
  x18 : ∀ a H, X 18 a H = none
  x19 : ∀ a H, X 19 a H = none
  x20 : ∀ a H, X 20 a H = none
  x21 : ∀ a H, X 21 a H = none
  x22 : ∀ a H, X 22 a H = none
  x23 : ∀ a H, X 23 a H = none
  x29 : ∀ a H, X 29 a H = none
  x30 : ∀ a H, X 30 a H = none
  x31 : ∀ a H, X 31 a H = none
  x33 : ∀ a H, X 33 a H = none
  x34 : ∀ a H, X 34 a H = none
  x35 : ∀ a H, X 35 a H = none
  x59 : ∀ a H, X 59 a H = none
  unit : ∀ (c : Nat) (H : Heap), c < 256 → calls Tryz.prog X 14 [.int .u8 c] H = some (nm (c % 8), H)
  sort : SortOK X
  check : CheckOK X
  mul : MulOK X

abbrev Rels := List (Nat × Nat × Nat)
theorem units_len {rs : Rels} (hR : ∀ r ∈ rs, Right r) : (unitsOf rs).length ≤ 8 := by
  have hn8 := right_names hR
  have hs : (unitsOf rs).Sublist (List.range 8) := by
    have : unitsOf rs = (List.range 8).filter fun x => decide (x ∈ namesOf rs) := sorted_unique (unitsOf_sorted rs) (List.Pairwise.filter _ List.pairwise_lt_range) fun x => by
      rw [mem_unitsOf (fun x hx => by have := hn8 x hx; omega), List.mem_filter, List.mem_range, decide_eq_true_eq]
      exact ⟨fun h => ⟨hn8 x h, h⟩, fun h => h.2⟩
    rw [this]; exact List.filter_sublist
  have := hs.length_le
  rwa [List.length_range] at this
theorem arcs_mem {us : List Nat} {a : Nat × Nat × Nat} : ∀ {rs : Rels} {k : Nat}, a ∈ arcsFrom us k rs ↔ ∃ i, ∃ h : i < rs.length, rs[i].1 ≠ 4 ∧ a = arcOf us (k + i) rs[i]
  | [], k => by simp [arcsFrom]
  | r :: t, k => by
    have ih := arcs_mem (us := us) (a := a) (rs := t) (k := k + 1)
    have step : (∃ i, ∃ h : i < (r :: t).length, (r :: t)[i].1 ≠ 4 ∧ a = arcOf us (k + i) (r :: t)[i]) ↔ ((r.1 ≠ 4 ∧ a = arcOf us k r) ∨ ∃ i, ∃ h : i < t.length, t[i].1 ≠ 4 ∧ a = arcOf us (k + 1 + i) t[i]) := by
      constructor
      · rintro ⟨i, h, h1, h2⟩
        cases i with
        | zero => exact .inl ⟨h1, h2⟩
        | succ i => exact .inr ⟨i, by simpa using h, h1, by rw [show k + 1 + i = k + (i + 1) by omega]; exact h2⟩
      · rintro (⟨h1, h2⟩ | ⟨i, h, h1, h2⟩)
        · exact ⟨0, by simp, h1, h2⟩
        · exact ⟨i + 1, by simpa using h, h1, by rw [show k + (i + 1) = k + 1 + i by omega]; exact h2⟩
    rw [step]
    simp only [arcsFrom]
    by_cases h4 : r.1 = 4
    · rw [if_pos h4, ih]; simp [h4]
    · rw [if_neg h4, List.mem_cons, ih]; simp [h4]
theorem rel_units {rs : Rels} (hR : ∀ r ∈ rs, Right r) {r : Nat × Nat × Nat} (h : r ∈ rs) : r.2.1 ∈ unitsOf rs ∧ r.2.2 ∈ unitsOf rs := by
  have hn8 := right_names hR
  have hm := fun x => mem_unitsOf (rs := rs) (x := x) (fun x hx => by have := hn8 x hx; omega)
  refine ⟨(hm _).2 ?_, (hm _).2 ?_⟩ <;> simp only [namesOf, List.mem_flatMap] <;> exact ⟨r, h, by simp⟩
theorem arcs_lt {rs : Rels} (hR : ∀ r ∈ rs, Right r) : ∀ a ∈ arcsFrom (unitsOf rs) 0 rs, a.2.1 < (unitsOf rs).length ∧ a.2.2 < (unitsOf rs).length := by
  intro a ha
  obtain ⟨i, hi, _, rfl⟩ := arcs_mem.1 ha
  obtain ⟨h1, h2⟩ := rel_units hR (List.getElem_mem hi)
  exact ⟨List.idxOf_lt_length_of_mem h2, List.idxOf_lt_length_of_mem h1⟩

theorem neq_nil26 : binC Tryz.prog .neq 26 .nilSlice .nilSlice = some (.bool false) := by kernel_rfl
theorem neq_slice26 (b o l : Nat) (c : Cap) : binC Tryz.prog .neq 26 (.slice b o l c) .nilSlice = some (.bool true) := by kernel_rfl

theorem units8_ok (hX : ZX X) {l : CV} {rs : Rels} {H : Heap} (hr : rs.length ≤ 30) (hR : ∀ r ∈ rs, Right r) (hl : Has H 3 42 l (rs.map relCV)) (hk : HOk H) :
    ∃ u H', calls Tryz.prog X 8 [l] H = some (.tuple [u, .int .i64 0], H') ∧ Has H' 1 9 u ((unitsOf rs).map nm) ∧ HOk H' ∧ Ext H.next H H' := by
  have hn8 := right_names hR
  have h0 : (envOf [l] 0 .nil).get 0 = some l := by simp [envOf, Tr.get_set]
  obtain ⟨H1, c1, k1, x1⟩ := check_ok hX.x15 hX.x18 hX.x33 hX.sort hX.check hr hR hl hk
  obtain ⟨u, H2, c2, c3, c4, c5⟩ := units_ok hX.x18 hX.x33 hX.sort (H := H1) (l := l) (rs := rs) (by omega) (fun x hx => by have := hn8 x hx; omega) (hl.ext x1 hl.lt) k1
  have key : ∃ e, go Tryz.prog X 12 (codeOf Tryz.f8) (envOf [l] 0 .nil) H = some (.ret, e, H2) ∧ e.get 2 = some u ∧ e.get 3 = some (.int .i64 0) := by
    simp only [codeOf, Tryz.f8, go_seq, go_region, opsSeq_step, opsSeq_guard, guardStep_true, guardStep_false, guardVal, opsSeq_nil, afterStep_some, afterStep_none, stepC, kindOf, quietC, evC, Nat.reduceLT, Tr.get_set, if_true, if_false, Nat.reduceEqDiff, Option.map_some, Option.bind_some, List.getElem?_toArray, List.getElem?_cons_zero, List.getElem?_cons_succ, ofVal, decide_true, decide_false, BEq.rfl, andThen_normal, andThen_exit, andThen_ret, inBlock_normal, inBlock_ret, go_skip, go_exit, go_ret, loudStep, isCall, loudC, targetC, evs, evParts, mapO, List.nil_append, List.append_nil, List.cons_append, loadC, Heap.skip_get, Heap.get_put, Heap.skip_next, Heap.put_next, h0, c1, bin_neq, ne_eq, not_true_eq_false]
    rw [go_cond _ _ _ (v := false) (by simp only [evC, Tr.get_set, if_true])]
    simp only [go_seq, go_region, opsSeq_step, opsSeq_guard, guardStep_true, guardStep_false, guardVal, opsSeq_nil, afterStep_some, afterStep_none, stepC, kindOf, quietC, evC, Nat.reduceLT, Tr.get_set, if_true, if_false, Nat.reduceEqDiff, Option.map_some, Option.bind_some, List.getElem?_toArray, List.getElem?_cons_zero, List.getElem?_cons_succ, ofVal, decide_true, decide_false, BEq.rfl, andThen_normal, andThen_exit, andThen_ret, inBlock_normal, inBlock_ret, go_skip, go_exit, go_ret, loudStep, isCall, loudC, targetC, evs, evParts, mapO, List.nil_append, List.append_nil, List.cons_append, loadC, Heap.skip_get, Heap.get_put, Heap.skip_next, Heap.put_next, Bool.false_eq_true, h0, c2]
    exact ⟨_, rfl, by simp only [Tr.get_set, Nat.reduceEqDiff, if_false, if_true], by simp only [Tr.get_set, if_true]⟩
  obtain ⟨e, key, e2, e3⟩ := key
  exact ⟨u, H2, calls_ret (hX.x8 _ _) Tryz.func8 rfl (by decide) (nt := 12) rfl key (results_two e2 e3), c3, c4, x1.trans (c5.le x1.1)⟩

theorem cycle7_ok (hX : ZX X) {l : CV} {rs : Rels} {H : Heap} (hr : rs.length ≤ 30) (hR : ∀ r ∈ rs, Right r) (hl : Has H 3 42 l (rs.map relCV)) (hk : HOk H) :
    ∃ v c H', calls Tryz.prog X 7 [l] H = some (.tuple [v, .bool c, .int .i64 0], H') ∧ HOk H' ∧ Ext H.next H H' ∧ ((c = false ∧ ∃ k, Least (arcsFrom (unitsOf rs) 0 rs) (arcsFrom (unitsOf rs) 0 rs) k ∧ (k = 0 ∨ ∀ a ∈ arcsFrom (unitsOf rs) 0 rs, ¬ Good (arcsFrom (unitsOf rs) 0 rs) k a)) ∨
      (c = true ∧ ∃ a t, Has H' 1 3 v ((a :: t).map fun a => CV.int .i64 (a.1 : Nat)) ∧ a ∈ arcsFrom (unitsOf rs) 0 rs ∧ Loop (arcsFrom (unitsOf rs) 0 rs) (unitsOf rs).length a t ∧ t.length ≤ 1000)) := by
  have hn8 := units_len hR
  have h0 : (envOf [l] 0 .nil).get 0 = some l := by simp [envOf, Tr.get_set]
  obtain ⟨H1, c1, k1, x1⟩ := check_ok hX.x15 hX.x18 hX.x33 hX.sort hX.check hr hR hl hk
  obtain ⟨bg, bm, bx, n1, fa, nv, av, xs, fs, H2, c2, hgs, x2, _⟩ := build_ok hX.x16 hX.x18 hX.x33 hX.sort hr hR (hl.ext x1 hl.lt) k1
  obtain ⟨v, H3, c3, k3, x3, hres⟩ := cycle_ok hX.x17 hX.x29 hX.x59 hX.mul hX.x31 hX.x30 hgs.gr hgs.ok (by omega) (by have := arcsFrom_length (unitsOf rs) rs 0; omega) (arcs_lt hR)
  have hx : Ext H.next H H3 := (x1.trans (x2.le x1.1)).trans (x3.le (Nat.le_trans x1.1 x2.1))
  have key : ∀ c, binC Tryz.prog .neq 26 v .nilSlice = some (.bool c) → ∃ e, go Tryz.prog X 18 (codeOf Tryz.f7) (envOf [l] 0 .nil) H = some (.ret, e, H3) ∧ e.get 2 = some v ∧ e.get 3 = some (.bool c) ∧ e.get 4 = some (.int .i64 0) := by
    intro c hc
    simp only [codeOf, Tryz.f7, go_seq, go_region, opsSeq_step, opsSeq_guard, guardStep_true, guardStep_false, guardVal, opsSeq_nil, afterStep_some, afterStep_none, stepC, kindOf, quietC, evC, Nat.reduceLT, Tr.get_set, if_true, if_false, Nat.reduceEqDiff, Option.map_some, Option.bind_some, List.getElem?_toArray, List.getElem?_cons_zero, List.getElem?_cons_succ, ofVal, decide_true, decide_false, BEq.rfl, andThen_normal, andThen_exit, andThen_ret, inBlock_normal, inBlock_ret, go_skip, go_exit, go_ret, loudStep, isCall, loudC, targetC, evs, evParts, mapO, List.nil_append, List.append_nil, List.cons_append, loadC, Heap.skip_get, Heap.get_put, Heap.skip_next, Heap.put_next, h0, c1, bin_neq, ne_eq, not_true_eq_false]
    rw [go_cond _ _ _ (v := false) (by simp only [evC, Tr.get_set, if_true])]
    simp only [go_seq, go_region, opsSeq_step, opsSeq_guard, guardStep_true, guardStep_false, guardVal, opsSeq_nil, afterStep_some, afterStep_none, stepC, kindOf, quietC, evC, Nat.reduceLT, Tr.get_set, if_true, if_false, Nat.reduceEqDiff, Option.map_some, Option.bind_some, List.getElem?_toArray, List.getElem?_cons_zero, List.getElem?_cons_succ, ofVal, decide_true, decide_false, BEq.rfl, andThen_normal, andThen_exit, andThen_ret, inBlock_normal, inBlock_ret, go_skip, go_exit, go_ret, loudStep, isCall, loudC, targetC, evs, evParts, mapO, List.nil_append, List.append_nil, List.cons_append, loadC, Heap.skip_get, Heap.get_put, Heap.skip_next, Heap.put_next, Bool.false_eq_true, h0, c2, c3, hc]
    exact ⟨_, rfl, by simp only [Tr.get_set, Nat.reduceEqDiff, if_false, if_true], by simp only [Tr.get_set, Nat.reduceEqDiff, if_false, if_true], by simp only [Tr.get_set, if_true]⟩
  rcases hres with ⟨rfl, hno⟩ | ⟨hv, a, t, hh, ha, hL, ht⟩
  · obtain ⟨e, key, e2, e3, e4⟩ := key false neq_nil26
    exact ⟨_, _, H3, calls_ret (hX.x7 _ _) Tryz.func7 rfl (by decide) (nt := 18) rfl key (results_three e2 e3 e4), k3, hx, .inl ⟨rfl, hno⟩⟩
  · have hsl : binC Tryz.prog .neq 26 v .nilSlice = some (.bool true) := by
      rcases hh.2 with ⟨e, _⟩ | ⟨b, off, cap, _, _, e, _⟩
      · exact absurd e hv
      · rw [e]; exact neq_slice26 ..
    obtain ⟨e, key, e2, e3, e4⟩ := key true hsl
    exact ⟨_, _, H3, calls_ret (hX.x7 _ _) Tryz.func7 rfl (by decide) (nt := 18) rfl key (results_three e2 e3 e4), k3, hx, .inr ⟨rfl, a, t, hh, ha, hL, ht⟩⟩

theorem order11_ok (hX : ZX X) {l : CV} {rs : Rels} {H : Heap} (hr : rs.length ≤ 30) (hR : ∀ r ∈ rs, Right r) (hl : Has H 3 42 l (rs.map relCV)) (hk : HOk H) :
    ∃ v z H' os bf, calls Tryz.prog X 11 [l] H = some (.tuple [v, .int .i64 z], H') ∧ HOk H' ∧ Ext H.next H H' ∧ KInv (arcsFrom (unitsOf rs) 0 rs) (unitsOf rs).length os [] bf [] ∧
      ((os.length ≠ (unitsOf rs).length ∧ z = 27) ∨ (os.length = (unitsOf rs).length ∧ z = 0 ∧ Has H' 1 9 v (os.map fun i => nm ((unitsOf rs).getD i 0)))) := by
  have hn8 := units_len hR
  have h0 : (envOf [l] 0 .nil).get 0 = some l := by simp [envOf, Tr.get_set]
  have har : (arcsFrom (unitsOf rs) 0 rs).length < 1000 := by have := arcsFrom_length (unitsOf rs) rs 0; omega
  obtain ⟨H1, c1, k1, x1⟩ := check_ok hX.x15 hX.x18 hX.x33 hX.sort hX.check hr hR hl hk
  obtain ⟨bg, bm, bx, n1, fa, nv, av, xs, fs, H2, c2, hgs, x2, _⟩ := build_ok hX.x16 hX.x18 hX.x33 hX.sort hr hR (hl.ext x1 hl.lt) k1
  obtain ⟨w, os, bf, fo, H3, c3, k3, x3, ho, hI⟩ := sorted_ok hX.x22 hX.x35 hX.q hgs.gr hgs.ok (by omega) har (arcs_lt hR)
  have hx : Ext H.next H H3 := (x1.trans (x2.le x1.1)).trans (x3.le (Nat.le_trans x1.1 x2.1))
  have hol : os.length ≤ (unitsOf rs).length := nodup_short _ os (by simpa using hI.nodup) fun x hx => hI.lt x (by simpa using hx)
  by_cases hc : os.length = (unitsOf rs).length
  · obtain ⟨v, f, H4, c4, k4, x4, hown⟩ := name_ok hX.x23 (hgs.gr.ext x3) k3 ho.has (by omega) fun x hx => hI.lt x (by simpa using hx)
    rw [decide_eq_true hc] at c3
    have key : ∃ e, go Tryz.prog X 25 (codeOf Tryz.f11) (envOf [l] 0 .nil) H = some (.ret, e, H4) ∧ e.get 2 = some v ∧ e.get 3 = some (.int .i64 0) := by
      simp only [codeOf, Tryz.f11, go_seq, go_region, opsSeq_step, opsSeq_guard, guardStep_true, guardStep_false, guardVal, opsSeq_nil, afterStep_some, afterStep_none, stepC, kindOf, quietC, evC, Nat.reduceLT, Tr.get_set, if_true, if_false, Nat.reduceEqDiff, Option.map_some, Option.bind_some, List.getElem?_toArray, List.getElem?_cons_zero, List.getElem?_cons_succ, ofVal, decide_true, decide_false, BEq.rfl, andThen_normal, andThen_exit, andThen_ret, inBlock_normal, inBlock_ret, go_skip, go_exit, go_ret, loudStep, isCall, loudC, targetC, evs, evParts, mapO, List.nil_append, List.append_nil, List.cons_append, loadC, Heap.skip_get, Heap.get_put, Heap.skip_next, Heap.put_next, h0, c1, bin_neq, ne_eq, not_true_eq_false]
      rw [go_cond _ _ _ (v := false) (by simp only [evC, Tr.get_set, if_true])]
      simp only [go_seq, go_region, opsSeq_step, opsSeq_guard, guardStep_true, guardStep_false, guardVal, opsSeq_nil, afterStep_some, afterStep_none, stepC, kindOf, quietC, evC, Nat.reduceLT, Tr.get_set, if_true, if_false, Nat.reduceEqDiff, Option.map_some, Option.bind_some, List.getElem?_toArray, List.getElem?_cons_zero, List.getElem?_cons_succ, ofVal, decide_true, decide_false, BEq.rfl, andThen_normal, andThen_exit, andThen_ret, inBlock_normal, inBlock_ret, go_skip, go_exit, go_ret, loudStep, isCall, loudC, targetC, evs, evParts, mapO, List.nil_append, List.append_nil, List.cons_append, loadC, Heap.skip_get, Heap.get_put, Heap.skip_next, Heap.put_next, Bool.false_eq_true, h0, c2, c3, Bool.not_true]
      rw [go_cond _ _ _ (v := false) (by simp only [evC, Tr.get_set, if_true])]
      simp only [go_seq, go_region, opsSeq_step, opsSeq_guard, guardStep_true, guardStep_false, guardVal, opsSeq_nil, afterStep_some, afterStep_none, stepC, kindOf, quietC, evC, Nat.reduceLT, Tr.get_set, if_true, if_false, Nat.reduceEqDiff, Option.map_some, Option.bind_some, List.getElem?_toArray, List.getElem?_cons_zero, List.getElem?_cons_succ, ofVal, decide_true, decide_false, BEq.rfl, andThen_normal, andThen_exit, andThen_ret, inBlock_normal, inBlock_ret, go_skip, go_exit, go_ret, loudStep, isCall, loudC, targetC, evs, evParts, mapO, List.nil_append, List.append_nil, List.cons_append, loadC, Heap.skip_get, Heap.get_put, Heap.skip_next, Heap.put_next, Bool.false_eq_true, h0, c4]
      exact ⟨_, rfl, by simp only [Tr.get_set, Nat.reduceEqDiff, if_false, if_true], by simp only [Tr.get_set, if_true]⟩
    obtain ⟨e, key, e2, e3⟩ := key
    exact ⟨v, 0, H4, os, bf, calls_ret (hX.x11 _ _) Tryz.func11 rfl (by decide) (nt := 25) rfl key (results_two e2 e3), k4, hx.trans (x4.le hx.1), hI, .inr ⟨hc, rfl, hown.has⟩⟩
  · rw [decide_eq_false hc] at c3
    have key : ∃ e, go Tryz.prog X 25 (codeOf Tryz.f11) (envOf [l] 0 .nil) H = some (.ret, e, H3) ∧ e.get 2 = some .nilSlice ∧ e.get 3 = some (.int .i64 27) := by
      simp only [codeOf, Tryz.f11, go_seq, go_region, opsSeq_step, opsSeq_guard, guardStep_true, guardStep_false, guardVal, opsSeq_nil, afterStep_some, afterStep_none, stepC, kindOf, quietC, evC, Nat.reduceLT, Tr.get_set, if_true, if_false, Nat.reduceEqDiff, Option.map_some, Option.bind_some, List.getElem?_toArray, List.getElem?_cons_zero, List.getElem?_cons_succ, ofVal, decide_true, decide_false, BEq.rfl, andThen_normal, andThen_exit, andThen_ret, inBlock_normal, inBlock_ret, go_skip, go_exit, go_ret, loudStep, isCall, loudC, targetC, evs, evParts, mapO, List.nil_append, List.append_nil, List.cons_append, loadC, Heap.skip_get, Heap.get_put, Heap.skip_next, Heap.put_next, h0, c1, bin_neq, ne_eq, not_true_eq_false]
      rw [go_cond _ _ _ (v := false) (by simp only [evC, Tr.get_set, if_true])]
      simp only [go_seq, go_region, opsSeq_step, opsSeq_guard, guardStep_true, guardStep_false, guardVal, opsSeq_nil, afterStep_some, afterStep_none, stepC, kindOf, quietC, evC, Nat.reduceLT, Tr.get_set, if_true, if_false, Nat.reduceEqDiff, Option.map_some, Option.bind_some, List.getElem?_toArray, List.getElem?_cons_zero, List.getElem?_cons_succ, ofVal, decide_true, decide_false, BEq.rfl, andThen_normal, andThen_exit, andThen_ret, inBlock_normal, inBlock_ret, go_skip, go_exit, go_ret, loudStep, isCall, loudC, targetC, evs, evParts, mapO, List.nil_append, List.append_nil, List.cons_append, loadC, Heap.skip_get, Heap.get_put, Heap.skip_next, Heap.put_next, Bool.false_eq_true, h0, c2, c3, Bool.not_false]
      rw [go_cond _ _ _ (v := true) (by simp only [evC, Tr.get_set, if_true])]
      simp only [go_seq, go_region, opsSeq_step, opsSeq_guard, guardStep_true, guardStep_false, guardVal, opsSeq_nil, afterStep_some, afterStep_none, stepC, kindOf, quietC, evC, Nat.reduceLT, Tr.get_set, if_true, if_false, Nat.reduceEqDiff, Option.map_some, Option.bind_some, List.getElem?_toArray, List.getElem?_cons_zero, List.getElem?_cons_succ, ofVal, decide_true, decide_false, BEq.rfl, andThen_normal, andThen_exit, andThen_ret, inBlock_normal, inBlock_ret, go_skip, go_exit, go_ret, loudStep, isCall, loudC, targetC, evs, evParts, mapO, List.nil_append, List.append_nil, List.cons_append, loadC, Heap.skip_get, Heap.get_put, Heap.skip_next, Heap.put_next]
      exact ⟨_, rfl, by simp only [Tr.get_set, Nat.reduceEqDiff, if_false, if_true], by simp only [Tr.get_set, if_true]⟩
    obtain ⟨e, key, e2, e3⟩ := key
    exact ⟨.nilSlice, 27, H3, os, bf, calls_ret (hX.x11 _ _) Tryz.func11 rfl (by decide) (nt := 25) rfl key (results_two e2 e3), k3, hx, hI, .inl ⟨hc, rfl⟩⟩
end Go.Z

namespace Go.Z
open Go.K Go.Proofs
set_option linter.unusedSimpArgs false
set_option linter.unusedVariables false
set_option maxRecDepth 10000

variable {X : CallFn}

theorem arc21_ok (hX : ∀ a H, X 21 a H = none) {l : CV} {rs : Rels} {H : Heap} {c : Nat} (hr : rs.length ≤ 1000) (hR : ∀ r ∈ rs, Right r) (hl : Has H 3 42 l (rs.map relCV)) (hc : c < rs.length) :
    calls Tryz.prog X 21 [l, nI c] H = some (.bool (decide (rs[c].1 ≠ 4)), H) := by
  obtain ⟨b, off, cs, fam, hb, _, hidx, hget, hcells, hcell⟩ := hl.at (P := Tryz.prog) (t := 24) u24 s42 (i := c) (by simpa using hc)
  rw [List.getElem_map] at hcell
  have hc0 : cs[off]? = some (.int .i64 (rs[c].1 : Nat)) := hcell 0 _ rfl
  have hlen := fun H' => hl.len (P := Tryz.prog) u24 H'
  rw [List.length_map] at hlen
  have hRc := hR _ (List.getElem_mem hc)
  generalize he0 : envOf [l, nI c] 0 .nil = e0
  have h0 : e0.get 0 = some l := by rw [← he0]; simp [envOf, Tr.get_set]
  have h1 : e0.get 1 = some (.int .i64 (c : Nat)) := by rw [← he0]; simp [envOf, Tr.get_set]
  have d1 : (0 : Int) ≤ (c : Int) := by omega
  have d2 : (c : Int) < (rs.length : Int) := by omega
  have d3 : (1 : Int) ≤ (rs[c].1 : Int) := by have := hRc.1; omega
  have eb : (true == true) = true := rfl
  have key : ∃ e, go Tryz.prog X 29 (codeOf Tryz.f21) e0 H = some (.ret, e, H) ∧ e.get 4 = some (.bool (decide ((rs[c].1 : Int) ≤ 3))) := by
    simp only [codeOf, Tryz.f21, go_seq, go_region, opsSeq_step, opsSeq_guard, guardStep_true, guardStep_false, guardVal, opsSeq_nil, afterStep_some, afterStep_none, stepC, kindOf, quietC, evC, Nat.reduceLT, Tr.get_set, if_true, if_false, Nat.reduceEqDiff, Option.map_some, Option.bind_some, List.getElem?_toArray, List.getElem?_cons_zero, List.getElem?_cons_succ, ofVal, decide_true, decide_false, BEq.rfl, andThen_normal, andThen_exit, andThen_ret, inBlock_normal, inBlock_ret, go_skip, go_exit, go_ret, loudStep, isCall, loudC, targetC, evs, evParts, mapO, List.nil_append, List.append_nil, List.cons_append, loadC, Heap.skip_get, Heap.get_put, Heap.skip_next, Heap.put_next, h0, h1, bin_geq, bin_lss, bin_leq, d1, d2, d3, eb, hlen, hidx, fa42_0, g3, hget, hc0]
    exact ⟨_, rfl, by simp only [Tr.get_set, if_true]⟩
  obtain ⟨e, key, e4⟩ := key
  have hd : decide ((rs[c].1 : Int) ≤ 3) = decide (rs[c].1 ≠ 4) := by
    have := hRc.2.1
    by_cases h : rs[c].1 = 4
    · rw [decide_eq_false (by omega), decide_eq_false (by omega)]
    · rw [decide_eq_true (by omega), decide_eq_true h]
  rw [hd] at e4
  exact calls_ret (hX _ _) Tryz.func21 rfl (by decide) (nt := 29) rfl (by rw [he0]; exact key) (results_one e4)

theorem clos20_ok (hX : ∀ a H, X 20 a H = none) (hX21 : ∀ a H, X 21 a H = none) {l : CV} {rs : Rels} {H : Heap} {c bl : Nat} (hr : rs.length ≤ 1000) (hR : ∀ r ∈ rs, Right r) (hl : Has H 3 42 l (rs.map relCV)) (hc : c < rs.length) (h4 : rs[c].1 ≠ 4) (hbl : H.get bl = some (.cells [l] 24 none)) :
    calls Tryz.prog X 20 [nI c, .ptr bl 0] H = some (.bool false, H) := by
  have c21 := arc21_ok (X := X) hX21 hr hR hl hc
  rw [decide_eq_true h4] at c21
  generalize he0 : envOf [nI c, .ptr bl 0] 0 .nil = e0
  have h0 : e0.get 0 = some (nI c) := by rw [← he0]; simp [envOf, Tr.get_set]
  have h1 : e0.get 1 = some (.ptr bl 0) := by rw [← he0]; simp [envOf, Tr.get_set]
  have key : ∃ e, go Tryz.prog X 8 (codeOf Tryz.f20) e0 H = some (.ret, e, H) ∧ e.get 3 = some (.bool false) := by
    simp only [codeOf, Tryz.f20, go_seq, go_region, opsSeq_step, opsSeq_guard, guardStep_true, guardStep_false, guardVal, opsSeq_nil, afterStep_some, afterStep_none, stepC, kindOf, quietC, evC, Nat.reduceLT, Tr.get_set, if_true, if_false, Nat.reduceEqDiff, Option.map_some, Option.bind_some, List.getElem?_toArray, List.getElem?_cons_zero, List.getElem?_cons_succ, ofVal, decide_true, decide_false, BEq.rfl, andThen_normal, andThen_exit, andThen_ret, inBlock_normal, inBlock_ret, go_skip, go_exit, go_ret, loudStep, isCall, loudC, targetC, evs, evParts, mapO, List.nil_append, List.append_nil, List.cons_append, loadC, Heap.skip_get, Heap.get_put, Heap.skip_next, Heap.put_next, h0, h1, g24, hbl, c21, Bool.not_true]
    exact ⟨_, rfl, by simp only [Tr.get_set, if_true]⟩
  obtain ⟨e, key, e3⟩ := key
  exact calls_ret (hX _ _) Tryz.func20 rfl (by decide) (nt := 8) rfl (by rw [he0]; exact key) (results_one e3)

theorem find34_ok (hX : ZX X) {l v : CV} {rs : Rels} {cs : List Nat} {H : Heap} {bl : Nat} (hr : rs.length ≤ 1000) (hR : ∀ r ∈ rs, Right r) (hl : Has H 3 42 l (rs.map relCV)) (hbl : H.get bl = some (.cells [l] 24 none)) (hv : Has H 1 3 v (cs.map nI)) (hcs : cs.length ≤ 10000) (hall : ∀ c ∈ cs, ∃ h : c < rs.length, rs[c].1 ≠ 4) :
    calls Tryz.prog X 34 [v, .func (.func 20) [] [.ptr bl 0]] H = some (.int .i64 (-1), H) := by
  have hcode : codeOf Tryz.f34 = .seq (sub (codeOf Tryz.f34) [false]) (.seq (.seq (sub (codeOf Tryz.f34) [true,false,false]) (.block 0 (sub (codeOf Tryz.f34) [true,false,true,false]))) (.seq (sub (codeOf Tryz.f34) [true,true,false]) .ret)) := rfl
  generalize he0 : envOf [v, CV.func (.func 20) [] [.ptr bl 0]] 0 .nil = e0
  have e00 : e0.get 0 = some v := by rw [← he0]; simp [envOf, Tr.get_set]
  have e01 : e0.get 1 = some (.func (.func 20) [] [.ptr bl 0]) := by rw [← he0]; simp [envOf, Tr.get_set]
  have hlen := hv.len (P := Tryz.prog) u26
  rw [List.length_map] at hlen
  have g0 : go Tryz.prog X 19 (sub (codeOf Tryz.f34) [false]) e0 H = some (.normal, e0.set 4 (.int .i64 0), H) := by
    simp only [codeOf, Tryz.f34, sub, go_seq, go_region, opsSeq_step, opsSeq_guard, guardStep_true, guardStep_false, guardVal, opsSeq_nil, afterStep_some, afterStep_none, stepC, kindOf, quietC, evC, Nat.reduceLT, Tr.get_set, if_true, if_false, Nat.reduceEqDiff, Option.map_some, Option.bind_some, List.getElem?_toArray, List.getElem?_cons_zero, List.getElem?_cons_succ, ofVal, decide_true, decide_false, BEq.rfl, andThen_normal, andThen_exit, andThen_ret, inBlock_normal, inBlock_ret, go_skip, go_exit, go_ret, loudStep, isCall, loudC, targetC, evs, evParts, mapO, List.nil_append, List.append_nil, List.cons_append, loadC, Heap.skip_get, Heap.get_put, Heap.skip_next, Heap.put_next]
  have g1 : ∃ e, go Tryz.prog X 19 (sub (codeOf Tryz.f34) [true,false,false]) (e0.set 4 (.int .i64 0)) H = some (.normal, e, H) ∧ e.get 0 = some v ∧ e.get 1 = some (.func (.func 20) [] [.ptr bl 0]) ∧ e.get 7 = some (.int .i64 (cs.length : Nat)) ∧ e.get 8 = some (.int .i64 (0 : Nat)) := by
    simp only [codeOf, Tryz.f34, sub, go_seq, go_region, opsSeq_step, opsSeq_guard, guardStep_true, guardStep_false, guardVal, opsSeq_nil, afterStep_some, afterStep_none, stepC, kindOf, quietC, evC, Nat.reduceLT, Tr.get_set, if_true, if_false, Nat.reduceEqDiff, Option.map_some, Option.bind_some, List.getElem?_toArray, List.getElem?_cons_zero, List.getElem?_cons_succ, ofVal, decide_true, decide_false, BEq.rfl, andThen_normal, andThen_exit, andThen_ret, inBlock_normal, inBlock_ret, go_skip, go_exit, go_ret, loudStep, isCall, loudC, targetC, evs, evParts, mapO, List.nil_append, List.append_nil, List.cons_append, loadC, Heap.skip_get, Heap.get_put, Heap.skip_next, Heap.put_next, e00, hlen]
    exact ⟨_, rfl, by simp only [Tr.get_set, Nat.reduceEqDiff, if_false, e00], by simp only [Tr.get_set, Nat.reduceEqDiff, if_false, e01], by simp only [Tr.get_set, Nat.reduceEqDiff, if_false, if_true], by simp only [Tr.get_set, if_true]; rfl⟩
  obtain ⟨e2, g1, b0, b1, b7, b8⟩ := g1
  have hL := range_loop (P := Tryz.prog) (X := X) (nt := 19) (code := sub (codeOf Tryz.f34) [true,false,true,false]) (hd := sub (codeOf Tryz.f34) [true,false,true,false,false,false]) (body := sub (codeOf Tryz.f34) [true,false,true,false,false,true,true,false,false]) (inc := sub (codeOf Tryz.f34) [true,false,true,false,false,true,true,true]) (ti := 8) (tn := 7) (tc := 9) (tx := 18) (e := 0) (b := 1) rfl (by omega)
    (fun env H i n h1 h2 => by simp only [codeOf, Tryz.f34, sub, go_seq, go_region, opsSeq_step, opsSeq_guard, guardStep_true, guardStep_false, guardVal, opsSeq_nil, afterStep_some, afterStep_none, stepC, kindOf, quietC, evC, Nat.reduceLT, Tr.get_set, if_true, if_false, Nat.reduceEqDiff, Option.map_some, Option.bind_some, List.getElem?_toArray, List.getElem?_cons_zero, List.getElem?_cons_succ, ofVal, decide_true, decide_false, BEq.rfl, andThen_normal, andThen_exit, andThen_ret, inBlock_normal, inBlock_ret, go_skip, go_exit, go_ret, loudStep, isCall, loudC, targetC, evs, evParts, mapO, List.nil_append, List.append_nil, List.cons_append, loadC, Heap.skip_get, Heap.get_put, Heap.skip_next, Heap.put_next, h1, h2, bin_lss]) (fun env H i h1 hw => by simp only [codeOf, Tryz.f34, sub, go_seq, go_region, opsSeq_step, opsSeq_guard, guardStep_true, guardStep_false, guardVal, opsSeq_nil, afterStep_some, afterStep_none, stepC, kindOf, quietC, evC, Nat.reduceLT, Tr.get_set, if_true, if_false, Nat.reduceEqDiff, Option.map_some, Option.bind_some, List.getElem?_toArray, List.getElem?_cons_zero, List.getElem?_cons_succ, ofVal, decide_true, decide_false, BEq.rfl, andThen_normal, andThen_exit, andThen_ret, inBlock_normal, inBlock_ret, go_skip, go_exit, go_ret, loudStep, isCall, loudC, targetC, evs, evParts, mapO, List.nil_append, List.append_nil, List.cons_append, loadC, Heap.skip_get, Heap.get_put, Heap.skip_next, Heap.put_next, h1, bin_add, hw]) (by omega) (n := cs.length) (by omega)
    (fun i env H' => env.get 0 = some v ∧ env.get 1 = some (.func (.func 20) [] [.ptr bl 0]) ∧ H' = H) (fun _ _ => False)
    (fun i env H' t v ht ⟨a0, a1, r⟩ => ⟨by rcases ht with rfl | rfl | rfl <;> simp only [Tr.get_set, Nat.reduceEqDiff, if_false, a0], by rcases ht with rfl | rfl | rfl <;> simp only [Tr.get_set, Nat.reduceEqDiff, if_false, a1], r⟩)
    (fun i env H1 hi ⟨a0, a1, hH⟩ h1 h2 => by
      left
      subst hH
      obtain ⟨b, off, cs', fam, hb, _, hidx, hget, hcells, hcell⟩ := hv.at (P := Tryz.prog) (t := 26) u26 s3 (i := i) (by simpa using hi)
      rw [List.getElem_map] at hcell
      have hc0 : cs'[off]? = some (.int .i64 (cs[i] : Nat)) := hcell 0 _ rfl
      obtain ⟨hc, h4⟩ := hall _ (List.getElem_mem hi)
      have c20 := clos20_ok (X := X) hX.x20 hX.x21 hr hR hl hc h4 hbl
      have c20' : calls Tryz.prog X 20 [.int .i64 (cs[i] : Nat), .ptr bl 0] H1 = some (.bool false, H1) := c20
      have gr : ∃ e, go Tryz.prog X 19 (sub (codeOf Tryz.f34) [true,false,true,false,false,true,true,false,false]) env H1 = some (.normal, e, H1) ∧ ∀ t, t < 9 → t ≠ 5 → e.get t = env.get t := by
        simp only [codeOf, Tryz.f34, sub, go_seq, go_region, opsSeq_step, opsSeq_guard, guardStep_true, guardStep_false, guardVal, opsSeq_nil, afterStep_some, afterStep_none, stepC, kindOf, quietC, evC, Nat.reduceLT, Tr.get_set, if_true, if_false, Nat.reduceEqDiff, Option.map_some, Option.bind_some, List.getElem?_toArray, List.getElem?_cons_zero, List.getElem?_cons_succ, ofVal, decide_true, decide_false, BEq.rfl, andThen_normal, andThen_exit, andThen_ret, inBlock_normal, inBlock_ret, go_skip, go_exit, go_ret, loudStep, isCall, loudC, targetC, evs, evParts, mapO, List.nil_append, List.append_nil, List.cons_append, loadC, Heap.skip_get, Heap.get_put, Heap.skip_next, Heap.put_next, a0, a1, h1, hidx, g3, hget, hc0, c20']
        rw [go_cond _ _ _ (v := false) (by simp only [evC, Tr.get_set, if_true])]
        simp only [go_seq, go_region, opsSeq_step, opsSeq_guard, guardStep_true, guardStep_false, guardVal, opsSeq_nil, afterStep_some, afterStep_none, stepC, kindOf, quietC, evC, Nat.reduceLT, Tr.get_set, if_true, if_false, Nat.reduceEqDiff, Option.map_some, Option.bind_some, List.getElem?_toArray, List.getElem?_cons_zero, List.getElem?_cons_succ, ofVal, decide_true, decide_false, BEq.rfl, andThen_normal, andThen_exit, andThen_ret, inBlock_normal, inBlock_ret, go_skip, go_exit, go_ret, loudStep, isCall, loudC, targetC, evs, evParts, mapO, List.nil_append, List.append_nil, List.cons_append, loadC, Heap.skip_get, Heap.get_put, Heap.skip_next, Heap.put_next, Bool.false_eq_true]
        refine ⟨_, rfl, fun t ht h5 => ?_⟩
        simp only [Tr.get_set, show t ≠ 10 by omega, show t ≠ 11 by omega, show t ≠ 12 by omega, show t ≠ 13 by omega, show t ≠ 14 by omega, show t ≠ 15 by omega, show t ≠ 16 by omega, h5, if_false]
      obtain ⟨e, gr, rq⟩ := gr
      exact ⟨.normal, e, H1, gr, .inl rfl, ⟨(rq 0 (by omega) (by omega)).trans a0, (rq 1 (by omega) (by omega)).trans a1, rfl⟩, (rq 8 (by omega) (by omega)).trans h1, (rq 7 (by omega) (by omega)).trans h2⟩)
  rcases hL cs.length 0 e2 H (by omega) ⟨b0, b1, rfl⟩ b8 b7 with ⟨e, H', g, c0, c1, rfl⟩ | ⟨_, _, _, f⟩
  · have gz : go Tryz.prog X 19 (.seq (sub (codeOf Tryz.f34) [true,true,false]) .ret) e H' = some (.ret, e.set 4 (.int .i64 (-1)), H') := by
      simp only [codeOf, Tryz.f34, sub, go_seq, go_region, opsSeq_step, opsSeq_guard, guardStep_true, guardStep_false, guardVal, opsSeq_nil, afterStep_some, afterStep_none, stepC, kindOf, quietC, evC, Nat.reduceLT, Tr.get_set, if_true, if_false, Nat.reduceEqDiff, Option.map_some, Option.bind_some, List.getElem?_toArray, List.getElem?_cons_zero, List.getElem?_cons_succ, ofVal, decide_true, decide_false, BEq.rfl, andThen_normal, andThen_exit, andThen_ret, inBlock_normal, inBlock_ret, go_skip, go_exit, go_ret, loudStep, isCall, loudC, targetC, evs, evParts, mapO, List.nil_append, List.append_nil, List.cons_append, loadC, Heap.skip_get, Heap.get_put, Heap.skip_next, Heap.put_next]
    refine calls_ret (hX.x34 _ _) Tryz.func34 rfl (by decide) (nt := 19) rfl (env' := e.set 4 (.int .i64 (-1))) ?_ (results_one (by simp only [Tr.get_set, if_true]))
    rw [he0, hcode, go_seq, g0, andThen_normal, go_seq, go_seq, g1, andThen_normal, go_block, g, inBlock_exit, if_pos rfl, andThen_normal, gz]
  · exact f.elim

theorem contains19_ok (hX : ZX X) {l v : CV} {rs : Rels} {cs : List Nat} {H : Heap} {bl : Nat} (hr : rs.length ≤ 1000) (hR : ∀ r ∈ rs, Right r) (hl : Has H 3 42 l (rs.map relCV)) (hbl : H.get bl = some (.cells [l] 24 none)) (hv : Has H 1 3 v (cs.map nI)) (hcs : cs.length ≤ 10000) (hall : ∀ c ∈ cs, ∃ h : c < rs.length, rs[c].1 ≠ 4) :
    calls Tryz.prog X 19 [v, .func (.func 20) [] [.ptr bl 0]] H = some (.bool false, H) := by
  have c34 := find34_ok hX hr hR hl hbl hv hcs hall
  generalize he0 : envOf [v, CV.func (.func 20) [] [.ptr bl 0]] 0 .nil = e0
  have h0 : e0.get 0 = some v := by rw [← he0]; simp [envOf, Tr.get_set]
  have h1 : e0.get 1 = some (.func (.func 20) [] [.ptr bl 0]) := by rw [← he0]; simp [envOf, Tr.get_set]
  have d1 : ¬ ((0 : Int) ≤ -1) := by omega
  have key : ∃ e, go Tryz.prog X 9 (codeOf Tryz.f19) e0 H = some (.ret, e, H) ∧ e.get 4 = some (.bool false) := by
    simp only [codeOf, Tryz.f19, go_seq, go_region, opsSeq_step, opsSeq_guard, guardStep_true, guardStep_false, guardVal, opsSeq_nil, afterStep_some, afterStep_none, stepC, kindOf, quietC, evC, Nat.reduceLT, Tr.get_set, if_true, if_false, Nat.reduceEqDiff, Option.map_some, Option.bind_some, List.getElem?_toArray, List.getElem?_cons_zero, List.getElem?_cons_succ, ofVal, decide_true, decide_false, BEq.rfl, andThen_normal, andThen_exit, andThen_ret, inBlock_normal, inBlock_ret, go_skip, go_exit, go_ret, loudStep, isCall, loudC, targetC, evs, evParts, mapO, List.nil_append, List.append_nil, List.cons_append, loadC, Heap.skip_get, Heap.get_put, Heap.skip_next, Heap.put_next, h0, h1, c34, bin_geq, d1]
    exact ⟨_, rfl, by simp only [Tr.get_set, if_true]⟩
  obtain ⟨e, key, e3⟩ := key
  exact calls_ret (hX.x19 _ _) Tryz.func19 rfl (by decide) (nt := 9) rfl (by rw [he0]; exact key) (results_one e3)
end Go.Z

namespace Go.Z
open Go.K Go.Proofs
set_option linter.unusedSimpArgs false
set_option linter.unusedVariables false
set_option maxRecDepth 10000

variable {X : CallFn}

def entB (k : Nat) : List Nat → List (CV × CV × Nat)
  | [] => []
  | x :: t => (nm x, .bool true, k) :: entB (k + 1) t
theorem entB_snoc (k : Nat) (us : List Nat) (x : Nat) : entB k (us ++ [x]) = entB k us ++ [(nm x, .bool true, k + us.length)] := by
  induction us generalizing k with
  | nil => simp [entB]
  | cons a t ih => simp only [List.cons_append, entB, ih, List.length_cons]; rw [show k + 1 + t.length = k + (t.length + 1) by omega]
theorem findB_none {x : Nat} (hx : x < 100) : ∀ (us : List Nat) (k j : Nat), (∀ y ∈ us, y < 100) → x ∉ us → findC Tryz.prog 9 (nm x) (entB k us) j = some none
  | [], _, _, _, _ => rfl
  | a :: t, k, j, h, hn => by
    have ha := h a (List.mem_cons_self ..)
    have hne : x ≠ a := fun e => hn (e ▸ List.mem_cons_self ..)
    simp only [entB, findC, keq hx ha, hne, decide_false]
    exact findB_none hx t (k + 1) (j + 1) (fun y hy => h y (List.mem_cons_of_mem _ hy)) (fun hh => hn (List.mem_cons_of_mem _ hh))
theorem info4 : ∃ i : TypeInfo, Tryz.prog.info? 4 = some i ∧ i.zero = some (.bool false) := by
  have h : (Tryz.prog.info? 4).bind (fun i => i.zero) = some (.bool false) := by kernel_rfl
  cases e : Tryz.prog.info? 4 with
  | none => rw [e] at h; cases h
  | some i => rw [e] at h; exact ⟨i, rfl, h⟩
theorem lookupB_none {H : Heap} {b c x : Nat} {us : List Nat} (hg : H.get b = some (.map (entB 0 us) c)) (hus : ∀ y ∈ us, y < 100) (hx0 : x < 100) (hx : x ∉ us) :
    lookupC Tryz.prog 51 H (.map b) (nm x) false = some (.bool false) := by
  obtain ⟨i, h1, h2⟩ := info4
  simp only [lookupC, u51, hg, nm_key, findB_none hx0 us 0 0 hus hx, h1, h2, ofVal, Option.map_some]
theorem updateB_new {H : Heap} {b x : Nat} {us : List Nat} (hg : H.get b = some (.map (entB 0 us) us.length)) (hus : ∀ y ∈ us, y < 100) (hx : x < 100) (hn : x ∉ us) :
    updateC Tryz.prog 51 H (.map b) (nm x) (.bool true) = some (.tuple [], H.put b (.map (entB 0 (us ++ [x])) (us ++ [x]).length)) := by
  simp only [updateC, u51, hg, nm_key, findB_none hx us 0 0 hus hn, entB_snoc, Nat.zero_add, List.length_append, List.length_singleton]

abbrev relAt (rs : Rels) (c : Nat) : Nat × Nat × Nat := rs.getD c (0, 0, 0)
theorem relAt_eq {rs : Rels} {c : Nat} (h : c < rs.length) : relAt rs c = rs[c] := by
  simp only [relAt]
  rw [List.getD_eq_getElem?_getD, List.getElem?_eq_getElem h]; rfl

/-- A relation in memory. -/
theorem rel_at {H : Heap} {l : CV} {rs : Rels} {c : Nat} (hl : Has H 3 42 l (rs.map relCV)) (hc : c < rs.length) : ∃ b off cs fam, indexAddrC Tryz.prog 24 l (.int .i64 (c : Nat)) = some (.ptr b off) ∧ b < H.next ∧ H.get b = some (.cells cs 42 fam) ∧ cs[off + 1]? = some (nm (relAt rs c).2.1) ∧ cs[off + 2]? = some (nm (relAt rs c).2.2) := by
  obtain ⟨b, off, cs, fam, hb, _, hidx, hget, hcells, hcell⟩ := hl.at (P := Tryz.prog) (t := 24) u24 s42 (i := c) (by simpa using hc)
  rw [List.getElem_map] at hcell
  rw [relAt_eq hc]
  exact ⟨b, off, cs, fam, hidx _, hb, hget, hcell 1 _ rfl, hcell 2 _ rfl⟩

theorem ccyc_r8 {env : Env} {H : Heap} {l : CV} {rs : Rels} {c p bl bm : Nat} {seen : List Nat} (hl : Has H 3 42 l (rs.map relCV)) (hR : ∀ r ∈ rs, Right r) (hc : c < rs.length) (hp : p < rs.length) (hbl : H.get bl = some (.cells [l] 24 none)) (hbm : H.get bm = some (.map (entB 0 seen) seen.length))
    (hs : ∀ y ∈ seen, y < 100) (heq : (relAt rs p).2.1 = (relAt rs c).2.2) (hns : (relAt rs c).2.2 ∉ seen) (h2 : env.get 2 = some (.ptr bl 0)) (h5 : env.get 5 = some (.map bm)) (h7 : env.get 7 = some (nI c)) (h8 : env.get 8 = some (nI p)) :
    ∃ env', go Tryz.prog X 63 (.seq (.seq (sub (codeOf Tryz.f9) [true,true,true,false,true,false,false,true,true,false,false,true,true,false,false]) (.cond (.tmp 55) (sub (codeOf Tryz.f9) [true,true,true,false,true,false,false,true,true,false,false,true,true,false,true,false]) .skip)) (sub (codeOf Tryz.f9) [true,true,true,false,true,false,false,true,true,false,false,true,true,true])) env H = some (.normal, env', (H.skip 20).put bm (.map (entB 0 (seen ++ [(relAt rs c).2.2])) (seen ++ [(relAt rs c).2.2]).length)) ∧ ∀ t, t < 25 → env'.get t = env.get t := by
  obtain ⟨b, off, cs, fam, hidx, hb, hget, h_1, h_2⟩ := rel_at hl hc
  obtain ⟨b', off', cs', fam', hidx', hb', hget', h_1', h_2'⟩ := rel_at hl hp
  have hRc := (hR _ (List.getElem_mem hc)).2.2.2.1
  rw [← relAt_eq hc] at hRc
  have hx : (relAt rs c).2.2 < 100 := by omega
  rw [heq] at h_1'
  have hlk := lookupB_none (H := H.skip 20) (x := (relAt rs c).2.2) hbm hs hx hns
  have hup := updateB_new (H := H.skip 20) hbm hs hx hns
  have hne : binC Tryz.prog .neq 9 (nm (relAt rs c).2.2) (nm (relAt rs c).2.2) = some (.bool false) := by rw [nm_neq hx hx]; simp
  have eb : (false == false) = true := rfl
  have ga : ∃ e, go Tryz.prog X 63 (sub (codeOf Tryz.f9) [true,true,true,false,true,false,false,true,true,false,false,true,true,false,false]) env H = some (.normal, e, H.skip 20) ∧ e.get 55 = some (.bool false) ∧ ∀ t, t < 36 → e.get t = env.get t := by
    simp only [codeOf, Tryz.f9, sub]
    rw [go_planned [(0,0,[2],false),(1,0,[8],false),(2,0,[36,37],false),(3,0,[38],false),(4,0,[39],false),(5,0,[2],false),(6,0,[7],false),(7,0,[41,42],false),(8,0,[43],false),(9,0,[44],false),(10,0,[40,45],false),(11,0,[46],false),(12,0,[5,47],false),(13,0,[2,47],false),(14,0,[7,47],false),(15,0,[49,50,47],false),(16,0,[51,47],false),(17,0,[52,47],false),(18,0,[48,53,47],false),(19,0,[47,54],false)] rfl (by kernel_rfl)]
    simp only [drawStep_guard, guardDS_true, guardDS_false, guardVal, BEq.rfl, planRun_cons, planRun_nil, planStep, planEnd, List.getElem?_cons_zero, List.getElem?_cons_succ, drawStep_eq, kindOf, quietAt, quietC, evR, evC, memN, beq_dec, Nat.reduceEqDiff, decide_true, decide_false, setDS_some, loudDS_some, loudDS_none, allocDS_some, Nat.reduceLT, Tr.get_set, if_true, if_false, Option.map_some, Option.bind_some, List.length_cons, List.length_nil, sameAt, Nat.reduceAdd, Nat.reduceSub, ofVal, loadC, Heap.skip_get, Heap.get_put, loudStep, isCall, targetC, evs, evParts, mapO, List.cons_append, List.nil_append, List.append_nil, putAll, ne_eq, reduceCtorEq, not_false_eq_true, Int.reduceEq, eq_self, cbeq_int, cbeq_ptr, cbeq_str, cbeq_bool, cbeq_map, cbeq_slice, cbeq_nilSlice, Bool.and_self, Bool.and_true, Int.reduceNeg, List.append_eq, loudC, List.getElem?_toArray, h2, h5, h7, h8, g24, g9, hbl, hidx, hidx', fa42_1, fa42_2, hget, hget', h_1', h_2, hne, eb, hlk]
    refine ⟨_, rfl, by simp only [Tr.get_set, if_true], fun t ht => ?_⟩
    simp only [Tr.get_set]
    simp only [show t ≠ 36 by omega, show t ≠ 37 by omega, show t ≠ 38 by omega, show t ≠ 39 by omega, show t ≠ 40 by omega, show t ≠ 41 by omega, show t ≠ 42 by omega, show t ≠ 43 by omega, show t ≠ 44 by omega, show t ≠ 45 by omega, show t ≠ 46 by omega, show t ≠ 47 by omega, show t ≠ 48 by omega, show t ≠ 49 by omega, show t ≠ 50 by omega, show t ≠ 51 by omega, show t ≠ 52 by omega, show t ≠ 53 by omega, show t ≠ 54 by omega, show t ≠ 55 by omega, if_false]
  obtain ⟨e1, ga, a55, aq⟩ := ga
  have gb : ∃ e, go Tryz.prog X 63 (sub (codeOf Tryz.f9) [true,true,true,false,true,false,false,true,true,false,false,true,true,true]) e1 (H.skip 20) = some (.normal, e, (H.skip 20).put bm (.map (entB 0 (seen ++ [(relAt rs c).2.2])) (seen ++ [(relAt rs c).2.2]).length)) ∧ ∀ t, t < 36 → e.get t = e1.get t := by
    simp only [codeOf, Tryz.f9, sub, go_seq, go_region, opsSeq_step, opsSeq_guard, guardStep_true, guardStep_false, guardVal, opsSeq_nil, afterStep_some, afterStep_none, stepC, kindOf, quietC, evC, Nat.reduceLT, Tr.get_set, if_true, if_false, Nat.reduceEqDiff, Option.map_some, Option.bind_some, List.getElem?_toArray, List.getElem?_cons_zero, List.getElem?_cons_succ, ofVal, decide_true, decide_false, BEq.rfl, andThen_normal, andThen_exit, andThen_ret, inBlock_normal, inBlock_ret, go_skip, go_exit, go_ret, loudStep, isCall, loudC, targetC, evs, evParts, mapO, List.nil_append, List.append_nil, List.cons_append, loadC, Heap.skip_get, Heap.get_put, Heap.skip_next, Heap.put_next, (aq 2 (by omega)).trans h2, (aq 5 (by omega)).trans h5, (aq 7 (by omega)).trans h7, g24, g9, hbl, hidx, fa42_2, hget, h_2, hup]
    refine ⟨_, rfl, fun t ht => ?_⟩
    simp only [Tr.get_set, show t ≠ 56 by omega, show t ≠ 57 by omega, show t ≠ 58 by omega, show t ≠ 59 by omega, show t ≠ 60 by omega, show t ≠ 61 by omega, if_false]
  obtain ⟨e2, gb, bq⟩ := gb
  refine ⟨e2, ?_, fun t ht => (bq t (by omega)).trans (aq t (by omega))⟩
  rw [go_seq, go_seq, ga, andThen_normal, go_cond _ _ _ (v := false) (by simp only [evC, a55]), if_neg (by simp), go_skip, andThen_normal, gb]
end Go.Z
