/- container/heap: down, Pop. container/heap: Pop. sorted: its state in memory. -/
import Derived.Test.YtmnhkbhdfkebmaaGreatDoorZ12

set_option linter.unusedSimpArgs false
set_option linter.unusedVariables false

namespace Go.Z
open Go.K Go.Proofs
set_option linter.unusedSimpArgs false
set_option linter.unusedVariables false
set_option maxRecDepth 10000

variable {X : CallFn}

theorem dn_pick (hX : QX X) {env : Env} {H : Heap} {bq j n : Nat} {v : CV} {q : List Nat} {fq : Nat} (h : Que H bq v q fq) (hk : HOk H) (h0 : env.get 0 = some (.iface 86 (.ptr bq 0))) (h2 : env.get 2 = some (nI n)) (h8 : env.get 8 = some (nI j)) (hj : j < n) (hn : n ≤ q.length) (hq : q.length < 1000) :
    ∃ (m : Nat) (env' : Env) (H' : Heap), go Tryz.prog X 48 (.seq (sub (codeOf Tryz.f63) [true,true,false,false,false,false,true,true,false]) (sub (codeOf Tryz.f63) [true,true,false,false,false,false,true,true,true,false])) env H = some (.normal, env', H') ∧ env'.get 9 = some (nI m) ∧ j ≤ m ∧ m < n ∧ HOk H' ∧ Ext H.next H H' ∧ ∀ t, t < 9 → env'.get t = env.get t := by
  have eb : (true == true) = true := rfl
  have ec : (false == true) = false := rfl
  have h2' : env.get 2 = some (.int .i64 (n : Nat)) := h2
  have h8' : env.get 8 = some (.int .i64 (j : Nat)) := h8
  have hw : wrap .i64 ((j : Int) + 1) = ((j + 1 : Nat) : Int) := wrap64 (by omega) (by omega)
  have hcode : (Code.seq (sub (codeOf Tryz.f63) [true,true,false,false,false,false,true,true,false]) (sub (codeOf Tryz.f63) [true,true,false,false,false,false,true,true,true,false])) = .seq (sub (codeOf Tryz.f63) [true,true,false,false,false,false,true,true,false]) (.seq (sub (codeOf Tryz.f63) [true,true,false,false,false,false,true,true,true,false,false]) (.seq (sub (codeOf Tryz.f63) [true,true,false,false,false,false,true,true,true,false,true,false]) (.cond (.tmp 33) (sub (codeOf Tryz.f63) [true,true,false,false,false,false,true,true,true,false,true,true,false]) .skip))) := rfl
  have ga : ∃ e, go Tryz.prog X 48 (.seq (sub (codeOf Tryz.f63) [true,true,false,false,false,false,true,true,false]) (sub (codeOf Tryz.f63) [true,true,false,false,false,false,true,true,true,false,false])) env H = some (.normal, e, H) ∧ e.get 9 = some (nI j) ∧ e.get 10 = some (nI (j + 1)) ∧ ∀ t, t < 9 → e.get t = env.get t := by
    simp only [codeOf, Tryz.f63, sub, go_seq, go_region, opsSeq_step, opsSeq_guard, guardStep_true, guardStep_false, guardVal, opsSeq_nil, afterStep_some, afterStep_none, stepC, kindOf, quietC, evC, Nat.reduceLT, Tr.get_set, if_true, if_false, Nat.reduceEqDiff, Option.map_some, Option.bind_some, List.getElem?_toArray, List.getElem?_cons_zero, List.getElem?_cons_succ, ofVal, decide_true, decide_false, BEq.rfl, andThen_normal, andThen_exit, andThen_ret, inBlock_normal, inBlock_ret, go_skip, go_exit, go_ret, loudStep, isCall, loudC, targetC, evs, evParts, mapO, List.nil_append, List.append_nil, List.cons_append, loadC, Heap.skip_get, Heap.get_put, Heap.skip_next, Heap.put_next, h8', bin_add, hw]
    refine ⟨_, rfl, by simp only [Tr.get_set, Nat.reduceEqDiff, if_false, if_true], by simp only [Tr.get_set, if_true], fun t ht => ?_⟩
    simp only [Tr.get_set, show t ≠ 9 by omega, show t ≠ 10 by omega, show t ≠ 22 by omega, show t ≠ 23 by omega, show t ≠ 24 by omega, if_false]
  obtain ⟨e1, ga, a9, a10, aq⟩ := ga
  have b0 := (aq 0 (by omega)).trans h0
  have b2 : e1.get 2 = some (.int .i64 (n : Nat)) := (aq 2 (by omega)).trans h2
  have b8 : e1.get 8 = some (.int .i64 (j : Nat)) := (aq 8 (by omega)).trans h8
  have b10 : e1.get 10 = some (.int .i64 ((j + 1 : Nat) : Int)) := a10
  have glue : ∀ (r : Option (CE × Env × Heap)), go Tryz.prog X 48 (.seq (sub (codeOf Tryz.f63) [true,true,false,false,false,false,true,true,true,false,true,false]) (.cond (.tmp 33) (sub (codeOf Tryz.f63) [true,true,false,false,false,false,true,true,true,false,true,true,false]) .skip)) e1 H = r → go Tryz.prog X 48 (.seq (sub (codeOf Tryz.f63) [true,true,false,false,false,false,true,true,false]) (sub (codeOf Tryz.f63) [true,true,false,false,false,false,true,true,true,false])) env H = r := by
    intro r hr
    rw [hcode, go_seq]
    rw [go_seq] at ga
    revert ga
    cases go Tryz.prog X 48 (sub (codeOf Tryz.f63) [true,true,false,false,false,false,true,true,false]) env H with
    | none => intro ga; cases ga
    | some x =>
      obtain ⟨x, e', H'⟩ := x
      cases x with
      | normal =>
        rw [andThen_normal, andThen_normal]
        intro ga
        rw [go_seq, ga, andThen_normal, hr]
      | _ => intro ga; cases ga
  -- whether the second child is taken
  have gb : ∃ (c : Bool) (e : Env) (H' : Heap), go Tryz.prog X 48 (sub (codeOf Tryz.f63) [true,true,false,false,false,false,true,true,true,false,true,false]) e1 H = some (.normal, e, H') ∧ e.get 33 = some (.bool c) ∧ (c = true → j + 1 < n) ∧ HOk H' ∧ Ext H.next H H' ∧ ∀ t, t < 20 → e.get t = e1.get t := by
    by_cases hc : j + 1 < n
    · have hc' : ((j + 1 : Nat) : Int) < (n : Int) := by omega
      obtain ⟨b, hl⟩ := qless_ok (X := X) (i := j + 1) (j := j) hX.x156 h.2.2 (by omega) (by omega)
      have hl' : calls Tryz.prog X 156 [v, .int .i64 ((j + 1 : Nat) : Int), .int .i64 (j : Nat)] H = some (.bool b, H.skip 10) := hl
      have hm := m_less h.1
      refine ⟨b, ?_⟩
      simp only [codeOf, Tryz.f63, sub, go_seq, go_region, opsSeq_step, opsSeq_guard, guardStep_true, guardStep_false, guardVal, opsSeq_nil, afterStep_some, afterStep_none, stepC, kindOf, quietC, evC, Nat.reduceLT, Tr.get_set, if_true, if_false, Nat.reduceEqDiff, Option.map_some, Option.bind_some, List.getElem?_toArray, List.getElem?_cons_zero, List.getElem?_cons_succ, ofVal, decide_true, decide_false, BEq.rfl, andThen_normal, andThen_exit, andThen_ret, inBlock_normal, inBlock_ret, go_skip, go_exit, go_ret, loudStep, isCall, loudC, targetC, evs, evParts, mapO, List.nil_append, List.append_nil, List.cons_append, loadC, Heap.skip_get, Heap.get_put, Heap.skip_next, Heap.put_next, b0, b2, b8, b10, nI, bin_lss, hc', eb, ec, hm, hl']
      refine ⟨_, H.skip 10, rfl, by simp only [Tr.get_set, if_true], fun _ => hc, Hok.skip 10 hk, Ext.skip, fun t ht => ?_⟩
      simp only [Tr.get_set, show t ≠ 25 by omega, show t ≠ 26 by omega, show t ≠ 27 by omega, show t ≠ 28 by omega, show t ≠ 29 by omega, show t ≠ 30 by omega, show t ≠ 31 by omega, show t ≠ 32 by omega, show t ≠ 33 by omega, if_false]
    · have hc' : ¬ (((j + 1 : Nat) : Int) < (n : Int)) := by omega
      refine ⟨false, ?_⟩
      simp only [codeOf, Tryz.f63, sub, go_seq, go_region, opsSeq_step, opsSeq_guard, guardStep_true, guardStep_false, guardVal, opsSeq_nil, afterStep_some, afterStep_none, stepC, kindOf, quietC, evC, Nat.reduceLT, Tr.get_set, if_true, if_false, Nat.reduceEqDiff, Option.map_some, Option.bind_some, List.getElem?_toArray, List.getElem?_cons_zero, List.getElem?_cons_succ, ofVal, decide_true, decide_false, BEq.rfl, andThen_normal, andThen_exit, andThen_ret, inBlock_normal, inBlock_ret, go_skip, go_exit, go_ret, loudStep, isCall, loudC, targetC, evs, evParts, mapO, List.nil_append, List.append_nil, List.cons_append, loadC, Heap.skip_get, Heap.get_put, Heap.skip_next, Heap.put_next, b0, b2, b8, b10, nI, bin_lss, hc', eb, ec]
      refine ⟨_, H, rfl, by simp only [Tr.get_set, if_true], by simp, hk, Ext.refl _ _, fun t ht => ?_⟩
      simp only [Tr.get_set, show t ≠ 25 by omega, show t ≠ 26 by omega, show t ≠ 27 by omega, show t ≠ 28 by omega, show t ≠ 29 by omega, show t ≠ 30 by omega, show t ≠ 31 by omega, show t ≠ 32 by omega, show t ≠ 33 by omega, if_false]
  obtain ⟨c, e2, H2, gb, c33, hc, k2, x2, cq⟩ := gb
  cases c with
  | true =>
    have gc : go Tryz.prog X 48 (sub (codeOf Tryz.f63) [true,true,false,false,false,false,true,true,true,false,true,true,false]) e2 H2 = some (.normal, (e2.set 34 (nI (j + 1))).set 9 (nI (j + 1)), H2) := by
      simp only [codeOf, Tryz.f63, sub, go_seq, go_region, opsSeq_step, opsSeq_guard, guardStep_true, guardStep_false, guardVal, opsSeq_nil, afterStep_some, afterStep_none, stepC, kindOf, quietC, evC, Nat.reduceLT, Tr.get_set, if_true, if_false, Nat.reduceEqDiff, Option.map_some, Option.bind_some, List.getElem?_toArray, List.getElem?_cons_zero, List.getElem?_cons_succ, ofVal, decide_true, decide_false, BEq.rfl, andThen_normal, andThen_exit, andThen_ret, inBlock_normal, inBlock_ret, go_skip, go_exit, go_ret, loudStep, isCall, loudC, targetC, evs, evParts, mapO, List.nil_append, List.append_nil, List.cons_append, loadC, Heap.skip_get, Heap.get_put, Heap.skip_next, Heap.put_next, (cq 10 (by omega)).trans b10]
    refine ⟨j + 1, (e2.set 34 (nI (j + 1))).set 9 (nI (j + 1)), H2, glue _ ?_, by simp only [Tr.get_set, if_true], by omega, hc rfl, k2, x2, fun t ht => ?_⟩
    · rw [go_seq, gb, andThen_normal, go_cond _ _ _ (v := true) (by simp only [evC, c33]), if_pos rfl, gc]
    · simp only [Tr.get_set, show t ≠ 9 by omega, show t ≠ 34 by omega, if_false]
      exact (cq t (by omega)).trans (aq t ht)
  | false =>
    refine ⟨j, e2, H2, glue _ ?_, (cq 9 (by omega)).trans a9, Nat.le_refl _, hj, k2, x2, fun t ht => (cq t (by omega)).trans (aq t ht)⟩
    rw [go_seq, gb, andThen_normal, go_cond _ _ _ (v := false) (by simp only [evC, c33]), if_neg (by simp), go_skip]

theorem dn_top {env : Env} {H : Heap} {i n : Nat} (h2 : env.get 2 = some (nI n)) (h7 : env.get 7 = some (nI i)) (hi : i < 1000) :
    ∃ e1 e2, go Tryz.prog X 48 (sub (codeOf Tryz.f63) [true,true,false,false,false,false,false]) env H = some (.normal, e1, H) ∧ go Tryz.prog X 48 (.seq (sub (codeOf Tryz.f63) [true,true,false,false,false,false,true,false,false]) (.cond (.tmp 21) (.exit 0) .skip)) e1 H = some (if n ≤ 2 * i + 1 then .exit 0 else .normal, e2, H) ∧ e2.get 8 = some (nI (2 * i + 1)) ∧ ∀ t, t < 8 → e2.get t = env.get t := by
  have eb : (false == false) = true := rfl
  have ec : (true == false) = false := rfl
  have h2' : env.get 2 = some (.int .i64 (n : Nat)) := h2
  have h7' : env.get 7 = some (.int .i64 (i : Nat)) := h7
  have w1 : wrap .i64 (2 * (i : Int)) = 2 * (i : Int) := wrap64 (by omega) (by omega)
  have w2 : wrap .i64 (2 * (i : Int) + 1) = ((2 * i + 1 : Nat) : Int) := by rw [wrap64 (by omega) (by omega)]; omega
  have ga : ∃ e, go Tryz.prog X 48 (sub (codeOf Tryz.f63) [true,true,false,false,false,false,false]) env H = some (.normal, e, H) ∧ e.get 8 = some (nI (2 * i + 1)) ∧ ∀ t, t < 8 → e.get t = env.get t := by
    simp only [codeOf, Tryz.f63, sub, go_seq, go_region, opsSeq_step, opsSeq_guard, guardStep_true, guardStep_false, guardVal, opsSeq_nil, afterStep_some, afterStep_none, stepC, kindOf, quietC, evC, Nat.reduceLT, Tr.get_set, if_true, if_false, Nat.reduceEqDiff, Option.map_some, Option.bind_some, List.getElem?_toArray, List.getElem?_cons_zero, List.getElem?_cons_succ, ofVal, decide_true, decide_false, BEq.rfl, andThen_normal, andThen_exit, andThen_ret, inBlock_normal, inBlock_ret, go_skip, go_exit, go_ret, loudStep, isCall, loudC, targetC, evs, evParts, mapO, List.nil_append, List.append_nil, List.cons_append, loadC, Heap.skip_get, Heap.get_put, Heap.skip_next, Heap.put_next, h7', bin_mul, bin_add, w1, w2]
    refine ⟨_, rfl, by simp only [Tr.get_set, if_true], fun t ht => ?_⟩
    simp only [Tr.get_set, show t ≠ 8 by omega, show t ≠ 12 by omega, show t ≠ 13 by omega, show t ≠ 14 by omega, if_false]
  obtain ⟨e1, ga, a8, aq⟩ := ga
  have b8 : e1.get 8 = some (.int .i64 ((2 * i + 1 : Nat) : Int)) := a8
  have b2 := (aq 2 (by omega)).trans h2'
  by_cases hc : n ≤ 2 * i + 1
  · have hc' : (n : Int) ≤ ((2 * i + 1 : Nat) : Int) := by omega
    have gb : ∃ e, go Tryz.prog X 48 (sub (codeOf Tryz.f63) [true,true,false,false,false,false,true,false,false]) e1 H = some (.normal, e, H) ∧ e.get 21 = some (.bool true) ∧ ∀ t, t < 12 → e.get t = e1.get t := by
      simp only [codeOf, Tryz.f63, sub, go_seq, go_region, opsSeq_step, opsSeq_guard, guardStep_true, guardStep_false, guardVal, opsSeq_nil, afterStep_some, afterStep_none, stepC, kindOf, quietC, evC, Nat.reduceLT, Tr.get_set, if_true, if_false, Nat.reduceEqDiff, Option.map_some, Option.bind_some, List.getElem?_toArray, List.getElem?_cons_zero, List.getElem?_cons_succ, ofVal, decide_true, decide_false, BEq.rfl, andThen_normal, andThen_exit, andThen_ret, inBlock_normal, inBlock_ret, go_skip, go_exit, go_ret, loudStep, isCall, loudC, targetC, evs, evParts, mapO, List.nil_append, List.append_nil, List.cons_append, loadC, Heap.skip_get, Heap.get_put, Heap.skip_next, Heap.put_next, b2, b8, bin_geq, hc', eb, ec]
      refine ⟨_, rfl, by simp only [Tr.get_set, if_true], fun t ht => ?_⟩
      simp only [Tr.get_set, show t ≠ 12 by omega, show t ≠ 13 by omega, show t ≠ 14 by omega, show t ≠ 15 by omega, show t ≠ 16 by omega, show t ≠ 17 by omega, show t ≠ 18 by omega, show t ≠ 19 by omega, show t ≠ 20 by omega, show t ≠ 21 by omega, if_false]
    obtain ⟨e2, gb, b21, bq⟩ := gb
    refine ⟨e1, e2, ga, ?_, (bq 8 (by omega)).trans a8, fun t ht => (bq t (by omega)).trans (aq t ht)⟩
    rw [go_seq, gb, andThen_normal, go_cond _ _ _ (v := true) (by simp only [evC, b21]), if_pos rfl, go_exit, if_pos hc]
  · have hc' : ¬ (n : Int) ≤ ((2 * i + 1 : Nat) : Int) := by omega
    have hc2 : ¬ ((2 * i + 1 : Nat) : Int) < 0 := by omega
    have gb : ∃ e, go Tryz.prog X 48 (sub (codeOf Tryz.f63) [true,true,false,false,false,false,true,false,false]) e1 H = some (.normal, e, H) ∧ e.get 21 = some (.bool false) ∧ ∀ t, t < 12 → e.get t = e1.get t := by
      simp only [codeOf, Tryz.f63, sub, go_seq, go_region, opsSeq_step, opsSeq_guard, guardStep_true, guardStep_false, guardVal, opsSeq_nil, afterStep_some, afterStep_none, stepC, kindOf, quietC, evC, Nat.reduceLT, Tr.get_set, if_true, if_false, Nat.reduceEqDiff, Option.map_some, Option.bind_some, List.getElem?_toArray, List.getElem?_cons_zero, List.getElem?_cons_succ, ofVal, decide_true, decide_false, BEq.rfl, andThen_normal, andThen_exit, andThen_ret, inBlock_normal, inBlock_ret, go_skip, go_exit, go_ret, loudStep, isCall, loudC, targetC, evs, evParts, mapO, List.nil_append, List.append_nil, List.cons_append, loadC, Heap.skip_get, Heap.get_put, Heap.skip_next, Heap.put_next, b2, b8, bin_geq, bin_lss, hc', hc2, eb, ec]
      refine ⟨_, rfl, by simp only [Tr.get_set, if_true], fun t ht => ?_⟩
      simp only [Tr.get_set, show t ≠ 12 by omega, show t ≠ 13 by omega, show t ≠ 14 by omega, show t ≠ 15 by omega, show t ≠ 16 by omega, show t ≠ 17 by omega, show t ≠ 18 by omega, show t ≠ 19 by omega, show t ≠ 20 by omega, show t ≠ 21 by omega, if_false]
    obtain ⟨e2, gb, b21, bq⟩ := gb
    refine ⟨e1, e2, ga, ?_, (bq 8 (by omega)).trans a8, fun t ht => (bq t (by omega)).trans (aq t ht)⟩
    rw [go_seq, gb, andThen_normal, go_cond _ _ _ (v := false) (by simp only [evC, b21]), if_neg (by simp), go_skip, if_neg hc]

theorem dn_loop (hX : QX X) {bq fq n : Nat} : ∀ (d i : Nat) (env : Env) (H : Heap) (v : CV) (q : List Nat), n ≤ i + d → Que H bq v q fq → HOk H → n ≤ q.length → q.length < 1000 → i < 1000 → env.get 0 = some (.iface 86 (.ptr bq 0)) → env.get 2 = some (nI n) → env.get 7 = some (nI i) →
    ∃ (env' : Env) (H' : Heap) (q' : List Nat) (i' : Nat), go Tryz.prog X 48 (sub (codeOf Tryz.f63) [true,true,false,false]) env H = some (.exit 0, env', H') ∧ env'.get 7 = some (nI i') ∧ env'.get 1 = env.get 1 ∧ Que H' bq v q' fq ∧ q'.Perm q ∧ HOk H' ∧ Kq bq fq fq H H' := by
  have hcode : sub (codeOf Tryz.f63) [true,true,false,false] = .loop (.block 1 (.seq (sub (codeOf Tryz.f63) [true,true,false,false,false,false,false]) (.seq (.seq (sub (codeOf Tryz.f63) [true,true,false,false,false,false,true,false,false]) (.cond (.tmp 21) (.exit 0) .skip)) (.seq (sub (codeOf Tryz.f63) [true,true,false,false,false,false,true,true,false]) (.seq (sub (codeOf Tryz.f63) [true,true,false,false,false,false,true,true,true,false])
    (.seq (.seq (sub (codeOf Tryz.f63) [true,true,false,false,false,false,true,true,true,true,false,false]) (.cond (.tmp 39) (.exit 0) .skip)) (.seq (sub (codeOf Tryz.f63) [true,true,false,false,false,false,true,true,true,true,true,false]) (sub (codeOf Tryz.f63) [true,true,false,false,false,false,true,true,true,true,true,true])))))))) := rfl
  intro d
  induction d with
  | zero =>
    intro i env H v q hd h hk hn hq hi h0 h2 h7
    obtain ⟨e1, e2, ga, gb, b8, bq⟩ := dn_top (X := X) (H := H) h2 h7 hi
    rw [if_pos (by omega)] at gb
    refine ⟨e2, H, q, i, ?_, (bq 7 (by omega)).trans h7, bq 1 (by omega), h, .refl _, hk, .refl _ _ _⟩
    rw [hcode, go_loop, go_block, go_seq, ga, andThen_normal, go_seq, gb, andThen_exit, inBlock_exit, if_neg (by omega), andThen_exit]
  | succ d ih =>
    intro i env H v q hd h hk hn hq hi h0 h2 h7
    obtain ⟨e1, e2, ga, gb, b8, bq'⟩ := dn_top (X := X) (H := H) h2 h7 hi
    by_cases hc : n ≤ 2 * i + 1
    · rw [if_pos hc] at gb
      refine ⟨e2, H, q, i, ?_, (bq' 7 (by omega)).trans h7, bq' 1 (by omega), h, .refl _, hk, .refl _ _ _⟩
      rw [hcode, go_loop, go_block, go_seq, ga, andThen_normal, go_seq, gb, andThen_exit, inBlock_exit, if_neg (by omega), andThen_exit]
    · rw [if_neg hc] at gb
      have b0 := (bq' 0 (by omega)).trans h0
      have b2 := (bq' 2 (by omega)).trans h2
      obtain ⟨m, e3, H3, gc, c9, hm1, hm2, k3, x3, cq⟩ := dn_pick (X := X) hX h hk b0 b2 b8 (by omega) hn hq
      have h3 := h.ext x3
      have c0 := (cq 0 (by omega)).trans b0
      have c7 := (cq 7 (by omega)).trans ((bq' 7 (by omega)).trans h7)
      obtain ⟨b, hl⟩ := qless_ok (X := X) (i := m) (j := i) hX.x156 h3.2.2 (by omega) (by omega)
      have hml := m_less h3.1
      have gd : ∃ e, go Tryz.prog X 48 (sub (codeOf Tryz.f63) [true,true,false,false,false,false,true,true,true,true,false,false]) e3 H3 = some (.normal, e, H3.skip 10) ∧ e.get 39 = some (.bool (!b)) ∧ ∀ t, t < 12 → e.get t = e3.get t := by
        simp only [codeOf, Tryz.f63, sub, go_seq, go_region, opsSeq_step, opsSeq_guard, guardStep_true, guardStep_false, guardVal, opsSeq_nil, afterStep_some, afterStep_none, stepC, kindOf, quietC, evC, Nat.reduceLT, Tr.get_set, if_true, if_false, Nat.reduceEqDiff, Option.map_some, Option.bind_some, List.getElem?_toArray, List.getElem?_cons_zero, List.getElem?_cons_succ, ofVal, decide_true, decide_false, BEq.rfl, andThen_normal, andThen_exit, andThen_ret, inBlock_normal, inBlock_ret, go_skip, go_exit, go_ret, loudStep, isCall, loudC, targetC, evs, evParts, mapO, List.nil_append, List.append_nil, List.cons_append, loadC, Heap.skip_get, Heap.get_put, Heap.skip_next, Heap.put_next, c0, c7, c9, hml, hl]
        refine ⟨_, rfl, by simp only [Tr.get_set, if_true], fun t ht => ?_⟩
        simp only [Tr.get_set, show t ≠ 12 by omega, show t ≠ 35 by omega, show t ≠ 36 by omega, show t ≠ 37 by omega, show t ≠ 38 by omega, show t ≠ 39 by omega, if_false]
      obtain ⟨e4, gd, d39, dq⟩ := gd
      have k4 : HOk (H3.skip 10) := Hok.skip 10 k3
      have x4 : Ext H.next H (H3.skip 10) := x3.trans Ext.skip
      have pre : ∀ r, (andThen (go Tryz.prog X 48 (.seq (sub (codeOf Tryz.f63) [true,true,false,false,false,false,true,true,true,true,false,false]) (.cond (.tmp 39) (.exit 0) .skip)) e3 H3) fun env H => go Tryz.prog X 48 (.seq (sub (codeOf Tryz.f63) [true,true,false,false,false,false,true,true,true,true,true,false]) (sub (codeOf Tryz.f63) [true,true,false,false,false,false,true,true,true,true,true,true])) env H) = r →
          go Tryz.prog X 48 (sub (codeOf Tryz.f63) [true,true,false,false]) env H = andThen (inBlock 1 r) fun env H => go Tryz.prog X 48 (sub (codeOf Tryz.f63) [true,true,false,false]) env H := by
        intro r hr
        rw [hcode, go_loop, ← hcode, go_block, go_seq, ga, andThen_normal, go_seq, gb, andThen_normal]
        rw [go_seq] at gc
        revert gc
        rw [go_seq]
        cases go Tryz.prog X 48 (sub (codeOf Tryz.f63) [true,true,false,false,false,false,true,true,false]) e2 H with
        | none => intro gc; cases gc
        | some x =>
          obtain ⟨x, e', H'⟩ := x
          cases x with
          | normal =>
            rw [andThen_normal, andThen_normal]
            intro gc
            rw [go_seq, gc, andThen_normal, go_seq, hr]
          | _ => intro gc; cases gc
      cases b with
      | false =>
        refine ⟨e4, H3.skip 10, q, i, ?_, (dq 7 (by omega)).trans c7, (dq 1 (by omega)).trans ((cq 1 (by omega)).trans (bq' 1 (by omega))), h.ext x4, .refl _, k4, x4.kq⟩
        rw [pre (some (.exit 0, e4, H3.skip 10)), inBlock_exit, if_neg (by omega), andThen_exit]
        rw [go_seq, gd, andThen_normal, go_cond _ _ _ (v := true) (by simp only [evC, d39]; rfl), if_pos rfl, go_exit, andThen_exit]
      | true =>
        obtain ⟨H5, cs, h5, k5, kq5⟩ := qswap_ok (X := X) (i := i) (j := m) hX.x159 (h.ext x4) k4 (by omega) (by omega)
        have hms := m_swap (h.ext x4).1
        have d0 := (dq 0 (by omega)).trans c0
        have d7 := (dq 7 (by omega)).trans c7
        have d9 := (dq 9 (by omega)).trans c9
        have ge : ∃ e, go Tryz.prog X 48 (sub (codeOf Tryz.f63) [true,true,false,false,false,false,true,true,true,true,true,false]) e4 (H3.skip 10) = some (.normal, e, H5) ∧ ∀ t, t < 12 → e.get t = e4.get t := by
          simp only [codeOf, Tryz.f63, sub, go_seq, go_region, opsSeq_step, opsSeq_guard, guardStep_true, guardStep_false, guardVal, opsSeq_nil, afterStep_some, afterStep_none, stepC, kindOf, quietC, evC, Nat.reduceLT, Tr.get_set, if_true, if_false, Nat.reduceEqDiff, Option.map_some, Option.bind_some, List.getElem?_toArray, List.getElem?_cons_zero, List.getElem?_cons_succ, ofVal, decide_true, decide_false, BEq.rfl, andThen_normal, andThen_exit, andThen_ret, inBlock_normal, inBlock_ret, go_skip, go_exit, go_ret, loudStep, isCall, loudC, targetC, evs, evParts, mapO, List.nil_append, List.append_nil, List.cons_append, loadC, Heap.skip_get, Heap.get_put, Heap.skip_next, Heap.put_next, d0, d7, d9, hms, cs]
          refine ⟨_, rfl, fun t ht => ?_⟩
          simp only [Tr.get_set, show t ≠ 12 by omega, show t ≠ 40 by omega, show t ≠ 41 by omega, show t ≠ 42 by omega, show t ≠ 43 by omega, if_false]
        obtain ⟨e5, ge, eq5⟩ := ge
        have gf : go Tryz.prog X 48 (sub (codeOf Tryz.f63) [true,true,false,false,false,false,true,true,true,true,true,true]) e5 H5 = some (.normal, (e5.set 44 (nI m)).set 7 (nI m), H5) := by
          simp only [codeOf, Tryz.f63, sub, go_seq, go_region, opsSeq_step, opsSeq_guard, guardStep_true, guardStep_false, guardVal, opsSeq_nil, afterStep_some, afterStep_none, stepC, kindOf, quietC, evC, Nat.reduceLT, Tr.get_set, if_true, if_false, Nat.reduceEqDiff, Option.map_some, Option.bind_some, List.getElem?_toArray, List.getElem?_cons_zero, List.getElem?_cons_succ, ofVal, decide_true, decide_false, BEq.rfl, andThen_normal, andThen_exit, andThen_ret, inBlock_normal, inBlock_ret, go_skip, go_exit, go_ret, loudStep, isCall, loudC, targetC, evs, evParts, mapO, List.nil_append, List.append_nil, List.cons_append, loadC, Heap.skip_get, Heap.get_put, Heap.skip_next, Heap.put_next, (eq5 9 (by omega)).trans d9]
        have hq5 : ∀ t, t < 7 → ((e5.set 44 (nI m)).set 7 (nI m)).get t = env.get t := by
          intro t ht
          simp only [Tr.get_set, show t ≠ 7 by omega, show t ≠ 44 by omega, if_false]
          exact (eq5 t (by omega)).trans ((dq t (by omega)).trans ((cq t (by omega)).trans (bq' t (by omega))))
        obtain ⟨e6, H6, q6, i6, g6, f7, f1, h6, p6, k6, kq6⟩ := ih m ((e5.set 44 (nI m)).set 7 (nI m)) H5 v _ (by omega) h5 k5 (by simpa using hn) (by simpa using hq) (by omega) ((hq5 0 (by omega)).trans h0) ((hq5 2 (by omega)).trans h2) (by simp only [Tr.get_set, if_true])
        refine ⟨e6, H6, q6, i6, ?_, f7, f1.trans (hq5 1 (by omega)), h6, p6.trans (perm_swap (by omega) (by omega)), k6, (x4.kq.trans kq5 hk).trans kq6 hk⟩
        rw [pre (some (.normal, (e5.set 44 (nI m)).set 7 (nI m), H5)), inBlock_normal, andThen_normal]
        · exact g6
        · rw [go_seq, gd, andThen_normal, go_cond _ _ _ (v := false) (by simp only [evC, d39]; rfl), if_neg (by simp), go_skip, andThen_normal, go_seq, ge, andThen_normal, gf]
end Go.Z

namespace Go.Z
open Go.K Go.Proofs
set_option linter.unusedSimpArgs false
set_option linter.unusedVariables false
set_option maxRecDepth 10000

variable {X : CallFn}

theorem hpop_ok (hX : QX X) {H : Heap} {bq : Nat} {v : CV} {q : List Nat} {fq : Nat} (h : Que H bq v q fq) (hk : HOk H) (hl : q.length < 900) (hne : q ≠ []) :
    ∃ H' v' q' x, calls Tryz.prog X 38 [.iface 86 (.ptr bq 0)] H = some (.iface 3 (nI x), H') ∧ Que H' bq v' q' fq ∧ q.Perm (x :: q') ∧ HOk H' ∧ Kq bq fq fq H H' := by
  have hpos : 0 < q.length := List.length_pos_iff.2 hne
  have h0 : (envOf [.iface 86 (.ptr bq 0)] 0 .nil).get 0 = some (.iface 86 (.ptr bq 0)) := by simp [envOf, Tr.get_set]
  have c1 := qlen_ok (X := X) hX.x37 h.2.2
  have hml := m_len h.1
  have hw : wrap .i64 ((q.length : Nat) - 1) = ((q.length - 1 : Nat) : Int) := by rw [wrap64 (by omega) (by omega)]; omega
  obtain ⟨H2, c2, h2, k2, kq2⟩ := qswap_ok (X := X) (i := 0) (j := q.length - 1) hX.x159 h hk hpos (by omega)
  have hms := m_swap h.1
  -- down
  have g63 : ∃ b H' q', calls Tryz.prog X 63 [.iface 86 (.ptr bq 0), nI 0, nI (q.length - 1)] H2 = some (.bool b, H') ∧ Que H' bq v q' fq ∧ q'.Perm q ∧ HOk H' ∧ Kq bq fq fq H2 H' := by
    have hcode : codeOf Tryz.f63 = .seq (sub (codeOf Tryz.f63) [false]) (.seq (sub (codeOf Tryz.f63) [true,false]) (.seq (.block 0 (sub (codeOf Tryz.f63) [true,true,false,false])) (.seq (sub (codeOf Tryz.f63) [true,true,true,false]) .ret))) := rfl
    have i0 : (envOf [.iface 86 (.ptr bq 0), nI 0, nI (q.length - 1)] 0 .nil).get 0 = some (.iface 86 (.ptr bq 0)) := by simp [envOf, Tr.get_set]
    have i1 : (envOf [.iface 86 (.ptr bq 0), nI 0, nI (q.length - 1)] 0 .nil).get 1 = some (nI 0) := by simp [envOf, Tr.get_set]
    have i2 : (envOf [.iface 86 (.ptr bq 0), nI 0, nI (q.length - 1)] 0 .nil).get 2 = some (nI (q.length - 1)) := by simp [envOf, Tr.get_set]
    generalize he0 : envOf [.iface 86 (.ptr bq 0), nI 0, nI (q.length - 1)] 0 .nil = e0 at i0 i1 i2
    have gl : go Tryz.prog X 48 (sub (codeOf Tryz.f63) [false]) e0 H2 = some (.normal, e0.set 6 (.bool false), H2) := by simp only [codeOf, Tryz.f63, sub, go_seq, go_region, opsSeq_step, opsSeq_guard, guardStep_true, guardStep_false, guardVal, opsSeq_nil, afterStep_some, afterStep_none, stepC, kindOf, quietC, evC, Nat.reduceLT, Tr.get_set, if_true, if_false, Nat.reduceEqDiff, Option.map_some, Option.bind_some, List.getElem?_toArray, List.getElem?_cons_zero, List.getElem?_cons_succ, ofVal, decide_true, decide_false, BEq.rfl, andThen_normal, andThen_exit, andThen_ret, inBlock_normal, inBlock_ret, go_skip, go_exit, go_ret, loudStep, isCall, loudC, targetC, evs, evParts, mapO, List.nil_append, List.append_nil, List.cons_append, loadC, Heap.skip_get, Heap.get_put, Heap.skip_next, Heap.put_next]
    have ga : ∃ e, go Tryz.prog X 48 (sub (codeOf Tryz.f63) [true,false]) (e0.set 6 (.bool false)) H2 = some (.normal, e, H2) ∧ e.get 0 = some (.iface 86 (.ptr bq 0)) ∧ e.get 1 = some (nI 0) ∧ e.get 2 = some (nI (q.length - 1)) ∧ e.get 7 = some (nI 0) := by
      simp only [codeOf, Tryz.f63, sub, go_seq, go_region, opsSeq_step, opsSeq_guard, guardStep_true, guardStep_false, guardVal, opsSeq_nil, afterStep_some, afterStep_none, stepC, kindOf, quietC, evC, Nat.reduceLT, Tr.get_set, if_true, if_false, Nat.reduceEqDiff, Option.map_some, Option.bind_some, List.getElem?_toArray, List.getElem?_cons_zero, List.getElem?_cons_succ, ofVal, decide_true, decide_false, BEq.rfl, andThen_normal, andThen_exit, andThen_ret, inBlock_normal, inBlock_ret, go_skip, go_exit, go_ret, loudStep, isCall, loudC, targetC, evs, evParts, mapO, List.nil_append, List.append_nil, List.cons_append, loadC, Heap.skip_get, Heap.get_put, Heap.skip_next, Heap.put_next, i1]
      exact ⟨_, rfl, by simp only [Tr.get_set, Nat.reduceEqDiff, if_false, i0], by simp only [Tr.get_set, Nat.reduceEqDiff, if_false, i1], by simp only [Tr.get_set, Nat.reduceEqDiff, if_false, i2], by simp only [Tr.get_set, if_true]⟩
    obtain ⟨e1, ga, a0, a1, a2, a7⟩ := ga
    have l2 : ((q.set 0 q[q.length - 1]).set (q.length - 1) q[0]).length = q.length := by simp
    obtain ⟨e2, H3, q3, i3', g3', b7, b1, h3, p3, k3, kq3⟩ := dn_loop (X := X) hX (n := q.length - 1) q.length 0 e1 H2 v _ (by omega) h2 k2 (by rw [l2]; omega) (by rw [l2]; omega) (by omega) a0 a2 a7
    have b1' := b1.trans a1
    have b7' : e2.get 7 = some (.int .i64 (i3' : Nat)) := b7
    have b1'' : e2.get 1 = some (.int .i64 ((0 : Nat) : Int)) := b1'
    have gz : go Tryz.prog X 48 (.seq (sub (codeOf Tryz.f63) [true,true,true,false]) .ret) e2 H3 = some (.ret, (((e2.set 45 (nI i3')).set 46 (nI 0)).set 47 (.bool (decide (((0 : Nat) : Int) < (i3' : Int))))).set 6 (.bool (decide (((0 : Nat) : Int) < (i3' : Int)))), H3) := by
      simp only [codeOf, Tryz.f63, sub, go_seq, go_region, opsSeq_step, opsSeq_guard, guardStep_true, guardStep_false, guardVal, opsSeq_nil, afterStep_some, afterStep_none, stepC, kindOf, quietC, evC, Nat.reduceLT, Tr.get_set, if_true, if_false, Nat.reduceEqDiff, Option.map_some, Option.bind_some, List.getElem?_toArray, List.getElem?_cons_zero, List.getElem?_cons_succ, ofVal, decide_true, decide_false, BEq.rfl, andThen_normal, andThen_exit, andThen_ret, inBlock_normal, inBlock_ret, go_skip, go_exit, go_ret, loudStep, isCall, loudC, targetC, evs, evParts, mapO, List.nil_append, List.append_nil, List.cons_append, loadC, Heap.skip_get, Heap.get_put, Heap.skip_next, Heap.put_next, b7', b1'', bin_gtr]
    refine ⟨decide (((0 : Nat) : Int) < (i3' : Int)), H3, q3, calls_ret (hX.x63 _ _) Tryz.func63 rfl (by decide) (nt := 48) rfl (env' := (((e2.set 45 (nI i3')).set 46 (nI 0)).set 47 (.bool (decide (((0 : Nat) : Int) < (i3' : Int))))).set 6 (.bool (decide (((0 : Nat) : Int) < (i3' : Int))))) ?_ (results_one (by simp only [Tr.get_set, if_true])), h3, p3.trans (perm_swap hpos (by omega)), k3, kq3⟩
    rw [he0, hcode, go_seq, gl, andThen_normal, go_seq, ga, andThen_normal, go_seq, go_block, g3', inBlock_exit, if_pos rfl, andThen_normal, gz]
  obtain ⟨b, H3, q3, c3, h3, p3, k3, kq3⟩ := g63
  have hne3 : q3 ≠ [] := by
    intro e
    have := p3.length_eq
    rw [e] at this
    simp at this; omega
  obtain ⟨q4, x, hq4⟩ : ∃ q4 x, q3 = q4 ++ [x] := ⟨q3.dropLast, q3.getLast hne3, (List.dropLast_concat_getLast hne3).symm⟩
  subst hq4
  have hl4 := p3.length_eq
  simp only [List.length_append, List.length_singleton] at hl4
  obtain ⟨H4, v4, c4, h4, k4, kq4⟩ := qpop_ok (X := X) hX.x157 h3 k3 (by omega)
  have hmp := m_pop H3 bq
  refine ⟨H4, v4, q4, x, ?_, h4, (p3.symm.trans List.perm_append_comm), k4, (kq2.trans kq3 hk).trans kq4 hk⟩
  have c2' : calls Tryz.prog X 159 [v, .int .i64 0, .int .i64 ((q.length - 1 : Nat) : Int)] H = some (.tuple [], H2) := c2
  have c3' : calls Tryz.prog X 63 [.iface 86 (.ptr bq 0), .int .i64 0, .int .i64 ((q.length - 1 : Nat) : Int)] H2 = some (.bool b, H3) := c3
  have key : ∃ e, go Tryz.prog X 15 (codeOf Tryz.f38) (envOf [.iface 86 (.ptr bq 0)] 0 .nil) H = some (.ret, e, H4) ∧ e.get 2 = some (.iface 3 (nI x)) := by
    simp only [codeOf, Tryz.f38, go_seq, go_region, opsSeq_step, opsSeq_guard, guardStep_true, guardStep_false, guardVal, opsSeq_nil, afterStep_some, afterStep_none, stepC, kindOf, quietC, evC, Nat.reduceLT, Tr.get_set, if_true, if_false, Nat.reduceEqDiff, Option.map_some, Option.bind_some, List.getElem?_toArray, List.getElem?_cons_zero, List.getElem?_cons_succ, ofVal, decide_true, decide_false, BEq.rfl, andThen_normal, andThen_exit, andThen_ret, inBlock_normal, inBlock_ret, go_skip, go_exit, go_ret, loudStep, isCall, loudC, targetC, evs, evParts, mapO, List.nil_append, List.append_nil, List.cons_append, loadC, Heap.skip_get, Heap.get_put, Heap.skip_next, Heap.put_next, h0, hml, c1, nI, bin_sub, hw, hms, c2', c3', hmp, c4]
    exact ⟨_, rfl, by simp only [Tr.get_set, if_true]⟩
  obtain ⟨e, key, e2⟩ := key
  exact calls_ret (hX.x38 _ _) Tryz.func38 rfl (by decide) (nt := 15) rfl key (results_one e2)
end Go.Z

namespace Go.Z
open Go.K Go.Proofs
set_option linter.unusedSimpArgs false
set_option linter.unusedVariables false
set_option maxRecDepth 10000

variable {X : CallFn}

structure Kahn (H0 H : Heap) (bb bq n : Nat) (bf : Nat → Nat) (v w : CV) (q os : List Nat) (fq fo : Nat) : Prop where
  ext : Ext H0.next H0 H
  ok : HOk H
  b : H.get bb = some (.cells (cellsOf n bf) 3 none)
  lb : bb < H.next
  q : Que H bq v q fq
  o : Own H fo 1 3 w (os.map nI)
  nb : H0.next ≤ bb
  nq : H0.next ≤ bq
  nf : H0.next ≤ fq
  ne : bb ≠ bq
  fo' : w ≠ .nilSlice → H0.next ≤ fo ∧ fo ≠ fq

section
variable {H0 H H' : Heap} {bb bq n : Nat} {bf : Nat → Nat} {v w : CV} {q os : List Nat} {fq fo : Nat}

theorem Kahn.step (h : Kahn H0 H bb bq n bf v w q os fq fo) (hx : Ext H.next H H') (hk : HOk H') : Kahn H0 H' bb bq n bf v w q os fq fo :=
  ⟨h.ext.trans (hx.le h.ext.1), hk, hx.2 _ _ h.lb h.b, Nat.lt_of_lt_of_le h.lb hx.1, h.q.ext hx, h.o.ext hx h.o.lt, h.nb, h.nq, h.nf, h.ne, h.fo'⟩

theorem Own.kq (h : Own H fo 1 3 w (os.map nI)) (hf : w ≠ .nilSlice → fo ≠ fq) (hb : H.get bq = some (.cells [v] 87 none)) {fq' : Nat} (hx : Kq bq fq fq' H H') : Own H' fo 1 3 w (os.map nI) := by
  refine ⟨h.1, ?_⟩
  rcases h.2 with e | ⟨b, p, e, h1, h2, h3, h4⟩
  · exact .inl e
  · refine .inr ⟨b, p, e, h1, Nat.lt_of_lt_of_le h2 hx.1, h3, hx.2.2 b _ h2 ?_ (fun p' e' => ?_) h4⟩
    · rintro rfl; rw [hb] at h4; simp at h4
    · simp only [CObj.fam, Option.some.injEq, Prod.mk.injEq] at e'
      exact hf (by rw [e]; intro hh; cases hh) e'.1

theorem Kahn.queue (h : Kahn H0 H bb bq n bf v w q os fq fo) {v' : CV} {q' : List Nat} {fq' : Nat} (hx : Kq bq fq fq' H H') (hk : HOk H') (hq : Que H' bq v' q' fq') : Kahn H0 H' bb bq n bf v' w q' os fq' fo := by
  refine ⟨⟨Nat.le_trans h.ext.1 hx.1, fun b o hb ho => ?_⟩, hk, ?_, Nat.lt_of_lt_of_le h.lb hx.1, hq, Own.kq h.o (fun hw => (h.fo' hw).2) h.q.1 hx, h.nb, h.nq, ?_, h.ne, fun hw => ⟨(h.fo' hw).1, ?_⟩⟩
  · have ho' := h.ext.2 b o hb ho
    refine hx.2.2 b o (Nat.lt_of_lt_of_le hb h.ext.1) (by have := h.nq; omega) (fun p e => ?_) ho'
    have := (h.ok.fam b o fq p ho' e).1
    have := h.nf; omega
  · exact hx.2.2 _ _ h.lb h.ne (fun p e => by simp [CObj.fam] at e) h.b
  · have := h.nf; have := h.ext.1; have := hx.2.1; omega
  · have h1 := (h.fo' hw).2
    have h2 := Own.fam_lt h.o hw
    have := hx.2.1; omega

theorem Qv.put' {cs : List CV} {o : CObj} (h : Qv H v q fq) (hb : H.get bb = some (.cells cs 3 none)) (hne : cs ≠ []) : Qv (H.put bb o) v q fq := by
  refine ⟨h.1, ?_⟩
  rcases h.2 with ⟨h1, b, h2, h3, h4⟩ | ⟨b, p, rest, cap, h1, h2, h3, h4⟩
  · refine .inl ⟨h1, b, h2, h3, ?_⟩
    rw [Heap.get_put, if_neg]
    · exact h4
    · rintro rfl; rw [hb] at h4; simp at h4; exact hne h4
  · refine .inr ⟨b, p, rest, cap, h1, h2, ?_, h4⟩
    rw [Heap.get_put, if_neg]
    · exact h3
    · rintro rfl; rw [hb] at h3; simp at h3

theorem Kahn.put (h : Kahn H0 H bb bq n bf v w q os fq fo) (hn : 0 < n) (bf' : Nat → Nat) : Kahn H0 (H.put bb (.cells (cellsOf n bf') 3 none)) bb bq n bf' v w q os fq fo := by
  have hne : cellsOf n bf ≠ [] := by intro e; have := congrArg List.length e; rw [cellsOf_length] at this; simp at this; omega
  refine ⟨h.ext.trans (Ext.put h.nb), Hok.put rfl h.ok, by rw [Heap.get_put, if_pos rfl], h.lb, ⟨by rw [Heap.get_put, if_neg h.ne.symm]; exact h.q.1, h.q.2.1, h.q.2.2.put' h.b hne⟩, ?_, h.nb, h.nq, h.nf, h.ne, h.fo'⟩
  refine ⟨h.o.1, ?_⟩
  rcases h.o.2 with e | ⟨b, p, e, h1, h2, h3, h4⟩
  · exact .inl e
  · refine .inr ⟨b, p, e, h1, h2, h3, ?_⟩
    rw [Heap.get_put, if_neg]
    · exact h4
    · rintro rfl; rw [h.b] at h4; simp at h4

theorem Kahn.order (h : Kahn H0 H bb bq n bf v w q os fq fo) {c x : Nat} (hc : c < H.next) (hg : H.get c = some (.cells [nI x] 3 none)) (hl : os.length < 1000) :
    ∃ w' H' fo', appendC Tryz.prog 26 26 H w (.slice c 0 1 (.exact 1)) = some (w', H') ∧ Kahn H0 H' bb bq n bf v w' q (os ++ [x]) fq fo' := by
  have he : elemsC H 1 (.slice c 0 1 (.exact 1)) = some ([nI x].length, [nI x].flatMap CV.cells) := by simp [elemsC, hg, takeE, CV.cells]
  obtain ⟨i, i1, i2, i3⟩ := i3
  obtain ⟨w', H', f', h1, h2, h3, h4, h5, h6, h7⟩ := Own.append (P := Tryz.prog) (t0 := 26) (t1 := 26) (ys := [nI x]) (d := .slice 3) (z := [.int .i64 0]) h.o h.ok he (by simp [CV.cells]) (by simp) u26 u26 (by intro k e; cases e) i1 i2 (by omega) z3 rfl (by rfl)
    (by rw [i3]; simp only [List.length_map, List.length_singleton]; omega) (by simp only [List.length_map, List.length_singleton]; omega)
  refine ⟨w', H', f', h1, ⟨⟨by have := h.ext.1; omega, fun b o hb ho => ?_⟩, h5, ?_, by have := h.lb; omega, ⟨?_, by have := h.q.2.1; omega, ⟨by have := h.q.2.2.1; omega, ?_⟩⟩, by simpa using h4, h.nb, h.nq, h.nf, h.ne, fun _ => ?_⟩⟩
  · have ho' := h.ext.2 b o hb ho
    refine h7 b o (Nat.lt_of_lt_of_le hb h.ext.1) ho' fun hw g p e => ?_
    have := (h.ok.fam b o g p ho' e).1
    have := (h.fo' hw).1; omega
  · exact h7 _ _ h.lb h.b fun _ g p e => by simp [CObj.fam] at e
  · exact h7 _ _ h.q.2.1 h.q.1 fun _ g p e => by simp [CObj.fam] at e
  · rcases h.q.2.2.2 with ⟨e, b, e1, e2, e3⟩ | ⟨b, p, rest, cap, e1, e2, e3, e4⟩
    · exact .inl ⟨e, b, e1, by omega, h7 _ _ e2 e3 fun _ g p e => by simp [CObj.fam] at e⟩
    · refine .inr ⟨b, p, rest, cap, e1, by omega, h7 _ _ e2 e3 fun hw g p' e => ?_, e4⟩
      simp only [CObj.fam, Option.some.injEq, Prod.mk.injEq] at e
      have := (h.fo' hw).2; omega
  · by_cases hw : w = .nilSlice
    · have := h2 hw; have := h.q.2.2.1; have := h.ext.1; omega
    · have := h3 hw; have := h.fo' hw; omega
end
end Go.Z
