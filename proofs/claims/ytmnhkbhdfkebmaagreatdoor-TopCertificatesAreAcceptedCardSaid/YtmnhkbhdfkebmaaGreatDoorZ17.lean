/- checker.Cycle: the function. checker.Order: loops. checker.Order: the function. -/
import Derived.Test.YtmnhkbhdfkebmaaGreatDoorZ16

set_option linter.unusedSimpArgs false
set_option linter.unusedVariables false

namespace Go.Z
open Go.K Go.Proofs
set_option linter.unusedSimpArgs false
set_option linter.unusedVariables false
set_option maxRecDepth 10000

variable {X : CallFn}

theorem ccycle_ok (hX : ZX X) {l v : CV} {rs : Rels} {cs : List Nat} {H : Heap} (hr : rs.length ≤ 1000) (hR : ∀ r ∈ rs, Right r) (hl : Has H 3 42 l (rs.map relCV)) (hv : Has H 1 3 v (cs.map nI)) (hk : HOk H) (hcs : cs.length ≤ 10000) (hne : cs ≠ []) (hall : ∀ c ∈ cs, c < rs.length ∧ (relAt rs c).1 ≠ 4)
    (hprev : ∀ (i : Nat) (h : i < cs.length) (h' : (i + cs.length - 1) % cs.length < cs.length), (relAt rs cs[(i + cs.length - 1) % cs.length]).2.1 = (relAt rs cs[i]).2.2) (hnd : (cs.map fun c => (relAt rs c).2.2).Nodup) :
    ∃ H', calls Tryz.prog X 9 [l, v] H = some (.bool true, H') ∧ HOk H' ∧ Ext H.next H H' := by
  have hpos : 0 < cs.length := List.length_pos_iff.2 hne
  have hcode : codeOf Tryz.f9 = .seq (sub (codeOf Tryz.f9) [false]) (.seq (.seq (sub (codeOf Tryz.f9) [true,false,false]) (.cond (.tmp 16) (sub (codeOf Tryz.f9) [true,false,true,false]) .skip)) (.seq (sub (codeOf Tryz.f9) [true,true,false]) (.seq (.seq (sub (codeOf Tryz.f9) [true,true,true,false,false]) (.block 0 (sub (codeOf Tryz.f9) [true,true,true,false,true,false]))) (.seq (sub (codeOf Tryz.f9) [true,true,true,true,false]) .ret)))) := rfl
  generalize he0 : envOf [l, v] 0 .nil = e0
  have h0 : e0.get 0 = some l := by rw [← he0]; simp [envOf, Tr.get_set]
  have h1 : e0.get 1 = some v := by rw [← he0]; simp [envOf, Tr.get_set]
  have hlenv := fun G => hv.len (P := Tryz.prog) u26 G
  rw [List.length_map] at hlenv
  -- the box
  generalize hH1 : (H.skip 1).put H.next (.cells [l] 24 none) = H1
  have x1 : Ext H.next H H1 := by rw [← hH1]; exact Ext.skip.trans (Ext.put (Nat.le_refl _))
  have k1 : HOk H1 := by rw [← hH1]; exact Hok.put rfl (Hok.skip 1 hk)
  have n1 : H1.next = H.next + 1 := by rw [← hH1]; rfl
  have b1 : H1.get H.next = some (.cells [l] 24 none) := by rw [← hH1, Heap.get_put, if_pos rfl]
  have s24 : szC Tryz.prog 24 = some 1 := by kernel_rfl
  have hlc : l.cells = [l] := by
    rcases hl.2 with ⟨rfl, _⟩ | ⟨_, _, _, _, _, rfl, _⟩ <;> rfl
  have hbx : ∀ ρ : Operand → Option CV, ρ (.tmp 0) = some l → allocC Tryz.prog (.box 24 (.tmp 0)) ρ = some (.cells [l] 24 none, fun b => .ptr b 0) := by
    intro ρ h
    simp only [allocC, h, s24, hlc, List.length_singleton, beq_t rfl, Option.bind_some, Option.map_some]
  have ga : ∃ e, go Tryz.prog X 63 (sub (codeOf Tryz.f9) [false]) e0 H = some (.normal, e, H1) ∧ e.get 0 = some l ∧ e.get 1 = some v ∧ e.get 2 = some (.ptr H.next 0) := by
    simp only [codeOf, Tryz.f9, sub, go_seq, go_region, opsSeq_step, opsSeq_guard, guardStep_true, guardStep_false, guardVal, opsSeq_nil, afterStep_some, afterStep_none, stepC, kindOf, quietC, evC, Nat.reduceLT, Tr.get_set, if_true, if_false, Nat.reduceEqDiff, Option.map_some, Option.bind_some, List.getElem?_toArray, List.getElem?_cons_zero, List.getElem?_cons_succ, ofVal, decide_true, decide_false, BEq.rfl, andThen_normal, andThen_exit, andThen_ret, inBlock_normal, inBlock_ret, go_skip, go_exit, go_ret, loudStep, isCall, loudC, targetC, evs, evParts, mapO, List.nil_append, List.append_nil, List.cons_append, loadC, Heap.skip_get, Heap.get_put, Heap.skip_next, Heap.put_next, h0, hbx, hH1]
    exact ⟨_, rfl, by simp only [Tr.get_set, Nat.reduceEqDiff, if_false, h0], by simp only [Tr.get_set, Nat.reduceEqDiff, if_false, h1], by simp only [Tr.get_set, Nat.reduceEqDiff, if_false, if_true]⟩
  obtain ⟨e1, ga, a0, a1, a2⟩ := ga
  have c19 := contains19_ok (H := H1) (bl := H.next) hX hr hR (hl.ext x1 hl.lt) b1 (hv.ext x1 hv.lt) hcs fun c hc => by
    obtain ⟨h, h'⟩ := hall c hc
    rw [relAt_eq h] at h'
    exact ⟨h, h'⟩
  have d1 : ¬ ((cs.length : Int) = 0) := by omega
  have eb : (false == false) = true := rfl
  have gb : ∃ e, go Tryz.prog X 63 (.seq (sub (codeOf Tryz.f9) [true,false,false]) (.cond (.tmp 16) (sub (codeOf Tryz.f9) [true,false,true,false]) .skip)) e1 H1 = some (.normal, e, H1) ∧ e.get 1 = some v ∧ e.get 2 = some (.ptr H.next 0) := by
    simp only [codeOf, Tryz.f9, sub, go_seq, go_region, opsSeq_step, opsSeq_guard, guardStep_true, guardStep_false, guardVal, opsSeq_nil, afterStep_some, afterStep_none, stepC, kindOf, quietC, evC, Nat.reduceLT, Tr.get_set, if_true, if_false, Nat.reduceEqDiff, Option.map_some, Option.bind_some, List.getElem?_toArray, List.getElem?_cons_zero, List.getElem?_cons_succ, ofVal, decide_true, decide_false, BEq.rfl, andThen_normal, andThen_exit, andThen_ret, inBlock_normal, inBlock_ret, go_skip, go_exit, go_ret, loudStep, isCall, loudC, targetC, evs, evParts, mapO, List.nil_append, List.append_nil, List.cons_append, loadC, Heap.skip_get, Heap.get_put, Heap.skip_next, Heap.put_next, a1, a2, hlenv, bin_eql, d1, eb, c19]
    rw [go_cond _ _ _ (v := false) (by simp only [evC, Tr.get_set, if_true])]
    simp only [go_seq, go_region, opsSeq_step, opsSeq_guard, guardStep_true, guardStep_false, guardVal, opsSeq_nil, afterStep_some, afterStep_none, stepC, kindOf, quietC, evC, Nat.reduceLT, Tr.get_set, if_true, if_false, Nat.reduceEqDiff, Option.map_some, Option.bind_some, List.getElem?_toArray, List.getElem?_cons_zero, List.getElem?_cons_succ, ofVal, decide_true, decide_false, BEq.rfl, andThen_normal, andThen_exit, andThen_ret, inBlock_normal, inBlock_ret, go_skip, go_exit, go_ret, loudStep, isCall, loudC, targetC, evs, evParts, mapO, List.nil_append, List.append_nil, List.cons_append, loadC, Heap.skip_get, Heap.get_put, Heap.skip_next, Heap.put_next, Bool.false_eq_true]
    exact ⟨_, rfl, by simp only [Tr.get_set, Nat.reduceEqDiff, if_false, a1], by simp only [Tr.get_set, Nat.reduceEqDiff, if_false, a2]⟩
  obtain ⟨e2, gb, b01, b02⟩ := gb
  generalize hH2 : (H1.skip 1).put H1.next (.map [] 0) = H2
  have x2 : Ext H1.next H1 H2 := by rw [← hH2]; exact Ext.skip.trans (Ext.put (Nat.le_refl _))
  have k2 : HOk H2 := by rw [← hH2]; exact Hok.put rfl (Hok.skip 1 k1)
  have n2 : H2.next = H1.next + 1 := by rw [← hH2]; rfl
  have m2 : H2.get H1.next = some (.map (entB 0 []) 0) := by rw [← hH2, Heap.get_put, if_pos rfl]; rfl
  have gc : ∃ e, go Tryz.prog X 63 (sub (codeOf Tryz.f9) [true,true,false]) e2 H1 = some (.normal, e, H2) ∧ e.get 1 = some v ∧ e.get 2 = some (.ptr H.next 0) ∧ e.get 5 = some (.map H1.next) := by
    simp only [codeOf, Tryz.f9, sub, go_seq, go_region, opsSeq_step, opsSeq_guard, guardStep_true, guardStep_false, guardVal, opsSeq_nil, afterStep_some, afterStep_none, stepC, kindOf, quietC, evC, Nat.reduceLT, Tr.get_set, if_true, if_false, Nat.reduceEqDiff, Option.map_some, Option.bind_some, List.getElem?_toArray, List.getElem?_cons_zero, List.getElem?_cons_succ, ofVal, decide_true, decide_false, BEq.rfl, andThen_normal, andThen_exit, andThen_ret, inBlock_normal, inBlock_ret, go_skip, go_exit, go_ret, loudStep, isCall, loudC, targetC, evs, evParts, mapO, List.nil_append, List.append_nil, List.cons_append, loadC, Heap.skip_get, Heap.get_put, Heap.skip_next, Heap.put_next, allocC, u51, hH2]
    exact ⟨_, rfl, by simp only [Tr.get_set, Nat.reduceEqDiff, if_false, b01], by simp only [Tr.get_set, Nat.reduceEqDiff, if_false, b02], by simp only [Tr.get_set, if_true]⟩
  obtain ⟨e3, gc, c1, c2, c5⟩ := gc
  have gd : ∃ e, go Tryz.prog X 63 (sub (codeOf Tryz.f9) [true,true,true,false,false]) e3 H2 = some (.normal, e, H2) ∧ e.get 1 = some v ∧ e.get 2 = some (.ptr H.next 0) ∧ e.get 5 = some (.map H1.next) ∧ e.get 18 = some v ∧ e.get 19 = some (nI cs.length) ∧ e.get 20 = some (.int .i64 (0 : Nat)) := by
    simp only [codeOf, Tryz.f9, sub, go_seq, go_region, opsSeq_step, opsSeq_guard, guardStep_true, guardStep_false, guardVal, opsSeq_nil, afterStep_some, afterStep_none, stepC, kindOf, quietC, evC, Nat.reduceLT, Tr.get_set, if_true, if_false, Nat.reduceEqDiff, Option.map_some, Option.bind_some, List.getElem?_toArray, List.getElem?_cons_zero, List.getElem?_cons_succ, ofVal, decide_true, decide_false, BEq.rfl, andThen_normal, andThen_exit, andThen_ret, inBlock_normal, inBlock_ret, go_skip, go_exit, go_ret, loudStep, isCall, loudC, targetC, evs, evParts, mapO, List.nil_append, List.append_nil, List.cons_append, loadC, Heap.skip_get, Heap.get_put, Heap.skip_next, Heap.put_next, c1, hlenv]
    exact ⟨_, rfl, by simp only [Tr.get_set, Nat.reduceEqDiff, if_false, c1], by simp only [Tr.get_set, Nat.reduceEqDiff, if_false, c2], by simp only [Tr.get_set, Nat.reduceEqDiff, if_false, c5], by simp only [Tr.get_set, Nat.reduceEqDiff, if_false, if_true], by simp only [Tr.get_set, Nat.reduceEqDiff, if_false, if_true], by simp only [Tr.get_set, if_true]; rfl⟩
  obtain ⟨e4, gd, d_1, d2, d5, d18, d19, d20⟩ := gd
  have hlow : ∀ c ∈ cs, (relAt rs c).2.2 < 100 := fun c hc => by
    have := (hall c hc).1
    rw [relAt_eq this]
    have := (hR _ (List.getElem_mem this)).2.2.2.1
    omega
  have hL := range_loop (P := Tryz.prog) (X := X) (nt := 63) (code := sub (codeOf Tryz.f9) [true,true,true,false,true,false]) (hd := sub (codeOf Tryz.f9) [true,true,true,false,true,false,false,false]) (body := sub (codeOf Tryz.f9) [true,true,true,false,true,false,false,true,true,false,false]) (inc := sub (codeOf Tryz.f9) [true,true,true,false,true,false,false,true,true,true]) (ti := 20) (tn := 19) (tc := 21) (tx := 62) (e := 0) (b := 1) rfl (by omega)
    (fun env H i n h1 h2 => by simp only [codeOf, Tryz.f9, sub, go_seq, go_region, opsSeq_step, opsSeq_guard, guardStep_true, guardStep_false, guardVal, opsSeq_nil, afterStep_some, afterStep_none, stepC, kindOf, quietC, evC, Nat.reduceLT, Tr.get_set, if_true, if_false, Nat.reduceEqDiff, Option.map_some, Option.bind_some, List.getElem?_toArray, List.getElem?_cons_zero, List.getElem?_cons_succ, ofVal, decide_true, decide_false, BEq.rfl, andThen_normal, andThen_exit, andThen_ret, inBlock_normal, inBlock_ret, go_skip, go_exit, go_ret, loudStep, isCall, loudC, targetC, evs, evParts, mapO, List.nil_append, List.append_nil, List.cons_append, loadC, Heap.skip_get, Heap.get_put, Heap.skip_next, Heap.put_next, h1, h2, bin_lss]) (fun env H i h1 hw => by simp only [codeOf, Tryz.f9, sub, go_seq, go_region, opsSeq_step, opsSeq_guard, guardStep_true, guardStep_false, guardVal, opsSeq_nil, afterStep_some, afterStep_none, stepC, kindOf, quietC, evC, Nat.reduceLT, Tr.get_set, if_true, if_false, Nat.reduceEqDiff, Option.map_some, Option.bind_some, List.getElem?_toArray, List.getElem?_cons_zero, List.getElem?_cons_succ, ofVal, decide_true, decide_false, BEq.rfl, andThen_normal, andThen_exit, andThen_ret, inBlock_normal, inBlock_ret, go_skip, go_exit, go_ret, loudStep, isCall, loudC, targetC, evs, evParts, mapO, List.nil_append, List.append_nil, List.cons_append, loadC, Heap.skip_get, Heap.get_put, Heap.skip_next, Heap.put_next, h1, bin_add, hw]) (by omega) (n := cs.length) (by omega)
    (fun i e G => e.get 1 = some v ∧ e.get 2 = some (.ptr H.next 0) ∧ e.get 5 = some (.map H1.next) ∧ e.get 18 = some v ∧ HOk G ∧ G.get H1.next = some (.map (entB 0 ((cs.take i).map fun c => (relAt rs c).2.2)) i) ∧ H2.next ≤ G.next ∧ ∀ b o, b < H2.next → b ≠ H1.next → H2.get b = some o → G.get b = some o) (fun _ _ => False)
    (fun i env H' t v ht ⟨a0, a1, a2, a3, r⟩ => ⟨by rcases ht with rfl | rfl | rfl <;> simp only [Tr.get_set, Nat.reduceEqDiff, if_false, a0], by rcases ht with rfl | rfl | rfl <;> simp only [Tr.get_set, Nat.reduceEqDiff, if_false, a1], by rcases ht with rfl | rfl | rfl <;> simp only [Tr.get_set, Nat.reduceEqDiff, if_false, a2], by rcases ht with rfl | rfl | rfl <;> simp only [Tr.get_set, Nat.reduceEqDiff, if_false, a3], r⟩)
    (fun i e G hi ⟨f1, f2, f5, f18, fk, fm, fn, fkeep⟩ q1 q2 => by
      left
      have hxG : Ext H.next H G := ⟨by have := x1.1; omega, fun b o hb ho => fkeep b o (by omega) (by omega) (x2.2 b o (by omega) (x1.2 b o hb ho))⟩
      have hblG : G.get H.next = some (.cells [l] 24 none) := fkeep _ _ (by omega) (by omega) (x2.2 _ _ (by omega) b1)
      have hvG := hv.ext hxG hv.lt
      obtain ⟨b, off, cv, fam, hb, _, hidx, hget, hcells, hcell⟩ := hvG.at (P := Tryz.prog) (t := 26) u26 s3 (i := i) (by simpa using hi)
      rw [List.getElem_map] at hcell
      have hc0 : cv[off]? = some (.int .i64 (cs[i] : Nat)) := hcell 0 _ rfl
      have hpl : (i + cs.length - 1) % cs.length < cs.length := Nat.mod_lt _ hpos
      obtain ⟨b', off', cv', fam', hb', _, hidx', hget', hcells', hcell'⟩ := hvG.at (P := Tryz.prog) (t := 26) u26 s3 (i := (i + cs.length - 1) % cs.length) (by simpa using hpl)
      rw [List.getElem_map] at hcell'
      have hc0' : cv'[off']? = some (.int .i64 (cs[(i + cs.length - 1) % cs.length] : Nat)) := hcell' 0 _ rfl
      have w1 : wrap .i64 ((i : Int) + (cs.length : Int)) = ((i + cs.length : Nat) : Int) := by rw [wrap64 (by omega) (by omega)]; omega
      have w2 : wrap .i64 (((i + cs.length : Nat) : Int) - 1) = ((i + cs.length - 1 : Nat) : Int) := by rw [wrap64 (by omega) (by omega)]; omega
      have w3 : binC Tryz.prog .rem 3 (.int .i64 ((i + cs.length - 1 : Nat) : Int)) (.int .i64 (cs.length : Int)) = some (.int .i64 (((i + cs.length - 1) % cs.length : Nat) : Int)) := by rw [bin_rem d1, tmod_nat]
      have gA : ∃ e', go Tryz.prog X 63 (.seq (sub (codeOf Tryz.f9) [true,true,true,false,true,false,false,true,true,false,false,false]) (sub (codeOf Tryz.f9) [true,true,true,false,true,false,false,true,true,false,false,true,false])) e G = some (.normal, e', G) ∧ e'.get 7 = some (nI cs[i]) ∧ e'.get 8 = some (nI cs[(i + cs.length - 1) % cs.length]) ∧ ∀ t, t < 22 → t ≠ 6 → t ≠ 7 → t ≠ 8 → e'.get t = e.get t := by
        simp only [codeOf, Tryz.f9, sub, go_seq, go_region, opsSeq_step, opsSeq_guard, guardStep_true, guardStep_false, guardVal, opsSeq_nil, afterStep_some, afterStep_none, stepC, kindOf, quietC, evC, Nat.reduceLT, Tr.get_set, if_true, if_false, Nat.reduceEqDiff, Option.map_some, Option.bind_some, List.getElem?_toArray, List.getElem?_cons_zero, List.getElem?_cons_succ, ofVal, decide_true, decide_false, BEq.rfl, andThen_normal, andThen_exit, andThen_ret, inBlock_normal, inBlock_ret, go_skip, go_exit, go_ret, loudStep, isCall, loudC, targetC, evs, evParts, mapO, List.nil_append, List.append_nil, List.cons_append, loadC, Heap.skip_get, Heap.get_put, Heap.skip_next, Heap.put_next, q1, f18, f1, hidx, g3, hget, hc0, hlenv, bin_add, bin_sub, w1, w2, w3, hidx', hget', hc0']
        refine ⟨_, rfl, by simp only [Tr.get_set, Nat.reduceEqDiff, if_false, if_true], by simp only [Tr.get_set, if_true], fun t ht h6 h7 h8 => ?_⟩
        simp only [Tr.get_set, h6, h7, h8, show t ≠ 22 by omega, show t ≠ 23 by omega, show t ≠ 24 by omega, show t ≠ 25 by omega, show t ≠ 26 by omega, show t ≠ 27 by omega, show t ≠ 28 by omega, show t ≠ 29 by omega, show t ≠ 30 by omega, show t ≠ 31 by omega, show t ≠ 32 by omega, show t ≠ 33 by omega, show t ≠ 34 by omega, show t ≠ 35 by omega, if_false]
      obtain ⟨e', gA, p7, p8, pq⟩ := gA
      have hci := hall _ (List.getElem_mem hi)
      have hcp := hall _ (List.getElem_mem hpl)
      have hlt2 : ((cs.take i).map fun c => (relAt rs c).2.2).length = i := by rw [List.length_map, List.length_take]; omega
      have hns : (relAt rs cs[i]).2.2 ∉ (cs.take i).map fun c => (relAt rs c).2.2 := by
        intro hm
        have hsplit : cs = cs.take i ++ cs[i] :: cs.drop (i + 1) := by rw [← List.drop_eq_getElem_cons hi, List.take_append_drop]
        have hnd2 : ((cs.take i ++ cs[i] :: cs.drop (i + 1)).map fun c => (relAt rs c).2.2).Nodup := by rw [← hsplit]; exact hnd
        rw [List.map_append, List.nodup_append] at hnd2
        exact hnd2.2.2 _ hm _ (List.mem_map.2 ⟨cs[i], List.mem_cons_self .., rfl⟩) rfl
      obtain ⟨e'', gB, rq⟩ := ccyc_r8 (X := X) (H := G) (bl := H.next) (bm := H1.next) (seen := (cs.take i).map fun c => (relAt rs c).2.2) (hl.ext hxG hl.lt) hR hci.1 hcp.1 hblG (by rw [hlt2]; exact fm)
        (fun y hy => by obtain ⟨c, hc, rfl⟩ := List.mem_map.1 hy; exact hlow c (List.mem_of_mem_take hc)) (hprev i hi hpl) hns ((pq 2 (by omega) (by omega) (by omega) (by omega)).trans f2) ((pq 5 (by omega) (by omega) (by omega) (by omega)).trans f5) p7 p8
      generalize hG2 : (G.skip 20).put H1.next (.map (entB 0 (((cs.take i).map fun c => (relAt rs c).2.2) ++ [(relAt rs cs[i]).2.2])) (((cs.take i).map fun c => (relAt rs c).2.2) ++ [(relAt rs cs[i]).2.2]).length) = G2 at gB
      have kG2 : HOk G2 := by rw [← hG2]; exact Hok.put rfl (Hok.skip 20 fk)
      have hq : ∀ t, t < 22 → t ≠ 6 → t ≠ 7 → t ≠ 8 → e''.get t = e.get t := fun t ht h6 h7 h8 => (rq t (by omega)).trans (pq t ht h6 h7 h8)
      refine ⟨.normal, e'', G2, ?_, .inl rfl, ⟨(hq 1 (by omega) (by omega) (by omega) (by omega)).trans f1, (hq 2 (by omega) (by omega) (by omega) (by omega)).trans f2, (hq 5 (by omega) (by omega) (by omega) (by omega)).trans f5, (hq 18 (by omega) (by omega) (by omega) (by omega)).trans f18, kG2, ?_, ?_, fun b o hb hb1 ho => ?_⟩,
        (hq 20 (by omega) (by omega) (by omega) (by omega)).trans q1, (hq 19 (by omega) (by omega) (by omega) (by omega)).trans q2⟩
      · have hcode' : sub (codeOf Tryz.f9) [true,true,true,false,true,false,false,true,true,false,false] = .seq (sub (codeOf Tryz.f9) [true,true,true,false,true,false,false,true,true,false,false,false]) (.seq (sub (codeOf Tryz.f9) [true,true,true,false,true,false,false,true,true,false,false,true,false]) (.seq (.seq (sub (codeOf Tryz.f9) [true,true,true,false,true,false,false,true,true,false,false,true,true,false,false]) (.cond (.tmp 55) (sub (codeOf Tryz.f9) [true,true,true,false,true,false,false,true,true,false,false,true,true,false,true,false]) .skip)) (sub (codeOf Tryz.f9) [true,true,true,false,true,false,false,true,true,false,false,true,true,true]))) := rfl
        rw [hcode', go_seq]
        rw [go_seq] at gA
        revert gA
        cases go Tryz.prog X 63 (sub (codeOf Tryz.f9) [true,true,true,false,true,false,false,true,true,false,false,false]) e G with
        | none => intro gA; cases gA
        | some y =>
          obtain ⟨y, ey, Hy⟩ := y
          cases y with
          | normal =>
            rw [andThen_normal, andThen_normal]
            intro gA
            rw [go_seq, gA, andThen_normal, gB]
          | _ => intro gA; cases gA
      · rw [← hG2, Heap.get_put, if_pos rfl, List.length_append, hlt2, List.length_singleton, List.take_succ_eq_append_getElem hi, List.map_append, List.map_singleton]
      · rw [← hG2]; show H2.next ≤ G.next + 20; omega
      · rw [← hG2, Heap.get_put, if_neg hb1, Heap.skip_get]; exact fkeep b o hb hb1 ho)
  rcases hL cs.length 0 e4 H2 (by omega) ⟨d_1, d2, d5, d18, k2, by simpa using m2, Nat.le_refl _, fun _ _ _ _ h => h⟩ d20 d19 with ⟨e5, H5, ge, f1, f2, f5, f18, fk, fm, fn, fkeep⟩ | ⟨_, _, _, f⟩
  · have gz : go Tryz.prog X 63 (.seq (sub (codeOf Tryz.f9) [true,true,true,true,false]) .ret) e5 H5 = some (.ret, e5.set 4 (.bool true), H5) := by simp only [codeOf, Tryz.f9, sub, go_seq, go_region, opsSeq_step, opsSeq_guard, guardStep_true, guardStep_false, guardVal, opsSeq_nil, afterStep_some, afterStep_none, stepC, kindOf, quietC, evC, Nat.reduceLT, Tr.get_set, if_true, if_false, Nat.reduceEqDiff, Option.map_some, Option.bind_some, List.getElem?_toArray, List.getElem?_cons_zero, List.getElem?_cons_succ, ofVal, decide_true, decide_false, BEq.rfl, andThen_normal, andThen_exit, andThen_ret, inBlock_normal, inBlock_ret, go_skip, go_exit, go_ret, loudStep, isCall, loudC, targetC, evs, evParts, mapO, List.nil_append, List.append_nil, List.cons_append, loadC, Heap.skip_get, Heap.get_put, Heap.skip_next, Heap.put_next]
    refine ⟨H5, calls_ret (hX.x9 _ _) Tryz.func9 rfl (by decide) (nt := 63) rfl (env' := e5.set 4 (.bool true)) ?_ (results_one (by simp only [Tr.get_set, if_true])), fk, ⟨by omega, fun b o hb ho => fkeep b o (by omega) (by omega) (x2.2 b o (by omega) (x1.2 b o hb ho))⟩⟩
    rw [he0, hcode, go_seq, ga, andThen_normal, go_seq, gb, andThen_normal, go_seq, gc, andThen_normal, go_seq, go_seq, gd, andThen_normal, go_block, ge, inBlock_exit, if_pos rfl, andThen_normal, gz]
  · exact f.elim
end Go.Z

namespace Go.Z
open Go.K Go.Proofs
set_option linter.unusedSimpArgs false
set_option linter.unusedVariables false
set_option maxRecDepth 10000

variable {X : CallFn}

theorem cord_loop1 {v : CV} {ps : List Nat} {bm : Nat} {env : Env} {H : Heap} (hv : Has H 1 9 v (ps.map nm)) (hk : HOk H) (hps : ps.length ≤ 1000) (hlt : ∀ y ∈ ps, y < 100) (hnd : ps.Nodup) (hm : H.get bm = some (.map (entriesFrom 0 []) 0)) (hnb : ∀ b o l c, v = .slice b o l c → b ≠ bm)
    (h5 : env.get 5 = some (.map bm)) (h17 : env.get 17 = some v) (h18 : env.get 18 = some (nI ps.length)) (h19 : env.get 19 = some (.int .i64 (0 : Nat))) :
    ∃ env' H', go Tryz.prog X 73 (sub (codeOf Tryz.f10) [true,true,false,true,false]) env H = some (.exit 0, env', H') ∧ env'.get 5 = some (.map bm) ∧ env'.get 0 = env.get 0 ∧ H'.get bm = some (.map (entriesFrom 0 ps) ps.length) ∧ HOk H' ∧ H'.next = H.next ∧ ∀ b o, b ≠ bm → H.get b = some o → H'.get b = some o := by
  have hL := range_loop (P := Tryz.prog) (X := X) (nt := 73) (code := sub (codeOf Tryz.f10) [true,true,false,true,false]) (hd := sub (codeOf Tryz.f10) [true,true,false,true,false,false,false]) (body := sub (codeOf Tryz.f10) [true,true,false,true,false,false,true,true,false,false]) (inc := sub (codeOf Tryz.f10) [true,true,false,true,false,false,true,true,true]) (ti := 19) (tn := 18) (tc := 20) (tx := 34) (e := 0) (b := 1) rfl (by omega)
    (fun env H i n h1 h2 => by simp only [codeOf, Tryz.f10, sub, go_seq, go_region, opsSeq_step, opsSeq_guard, guardStep_true, guardStep_false, guardVal, opsSeq_nil, afterStep_some, afterStep_none, stepC, kindOf, quietC, evC, Nat.reduceLT, Tr.get_set, if_true, if_false, Nat.reduceEqDiff, Option.map_some, Option.bind_some, List.getElem?_toArray, List.getElem?_cons_zero, List.getElem?_cons_succ, ofVal, decide_true, decide_false, BEq.rfl, andThen_normal, andThen_exit, andThen_ret, inBlock_normal, inBlock_ret, go_skip, go_exit, go_ret, loudStep, isCall, loudC, targetC, evs, evParts, mapO, List.nil_append, List.append_nil, List.cons_append, loadC, Heap.skip_get, Heap.get_put, Heap.skip_next, Heap.put_next, h1, h2, bin_lss]) (fun env H i h1 hw => by simp only [codeOf, Tryz.f10, sub, go_seq, go_region, opsSeq_step, opsSeq_guard, guardStep_true, guardStep_false, guardVal, opsSeq_nil, afterStep_some, afterStep_none, stepC, kindOf, quietC, evC, Nat.reduceLT, Tr.get_set, if_true, if_false, Nat.reduceEqDiff, Option.map_some, Option.bind_some, List.getElem?_toArray, List.getElem?_cons_zero, List.getElem?_cons_succ, ofVal, decide_true, decide_false, BEq.rfl, andThen_normal, andThen_exit, andThen_ret, inBlock_normal, inBlock_ret, go_skip, go_exit, go_ret, loudStep, isCall, loudC, targetC, evs, evParts, mapO, List.nil_append, List.append_nil, List.cons_append, loadC, Heap.skip_get, Heap.get_put, Heap.skip_next, Heap.put_next, h1, bin_add, hw]) (by omega) (n := ps.length) (by omega)
    (fun i e G => e.get 0 = env.get 0 ∧ e.get 5 = some (.map bm) ∧ e.get 17 = some v ∧ G.get bm = some (.map (entriesFrom 0 (ps.take i)) i) ∧ HOk G ∧ G.next = H.next ∧ ∀ b o, b ≠ bm → H.get b = some o → G.get b = some o) (fun _ _ => False)
    (fun i e H' t v ht ⟨a0, a1, a2, r⟩ => ⟨by rcases ht with rfl | rfl | rfl <;> simp only [Tr.get_set, Nat.reduceEqDiff, if_false, a0], by rcases ht with rfl | rfl | rfl <;> simp only [Tr.get_set, Nat.reduceEqDiff, if_false, a1], by rcases ht with rfl | rfl | rfl <;> simp only [Tr.get_set, Nat.reduceEqDiff, if_false, a2], r⟩)
    (fun i e G hi ⟨a0, a5, a17, am, ak, an, akeep⟩ q1 q2 => by
      left
      have hvG : Has G 1 9 v (ps.map nm) := by
        refine ⟨hv.1, ?_⟩
        rcases hv.2 with h | ⟨b, off, cap, cs, fam, hv', h1, h2', h3, h4, h5⟩
        · exact .inl h
        · exact .inr ⟨b, off, cap, cs, fam, hv', h1, by rw [an]; exact h2', akeep b _ (hnb _ _ _ _ hv') h3, h4, h5⟩
      obtain ⟨b, off, cs, fam, hb, _, hidx, hget, hcells, hcell⟩ := hvG.at (P := Tryz.prog) (t := 30) u30 s9 (i := i) (by simpa using hi)
      rw [List.getElem_map] at hcell
      have hc0 : cs[off]? = some (nm ps[i]) := hcell 0 _ rfl
      have hx := hlt _ (List.getElem_mem hi)
      have hlt' : ∀ y ∈ ps.take i, y < 100 := fun y hy => hlt y (List.mem_of_mem_take hy)
      have hni : ps[i] ∉ ps.take i := by
        intro hm
        have hsplit : ps = ps.take i ++ ps[i] :: ps.drop (i + 1) := by rw [← List.drop_eq_getElem_cons hi, List.take_append_drop]
        have hnd2 : (ps.take i ++ ps[i] :: ps.drop (i + 1)).Nodup := by rw [← hsplit]; exact hnd
        rw [List.nodup_append] at hnd2
        exact hnd2.2.2 _ hm _ (List.mem_cons_self ..) rfl
      have hlen : (ps.take i).length = i := by rw [List.length_take]; omega
      have hlk := lookup_none_ok (us := ps.take i) (c := i) am hlt' hx hni
      have hup := update_new (us := ps.take i) (by rw [hlen]; exact am) hlt' hx hni
      rw [hlen, ← List.take_succ_eq_append_getElem hi, List.length_take, show min (i + 1) ps.length = i + 1 by omega] at hup
      have hcode : sub (codeOf Tryz.f10) [true,true,false,true,false,false,true,true,false,false] = .seq (sub (codeOf Tryz.f10) [true,true,false,true,false,false,true,true,false,false,false]) (.seq (.seq (sub (codeOf Tryz.f10) [true,true,false,true,false,false,true,true,false,false,true,false,false]) (.seq (sub (codeOf Tryz.f10) [true,true,false,true,false,false,true,true,false,false,true,false,true,false]) (.cond (.tmp 30) (sub (codeOf Tryz.f10) [true,true,false,true,false,false,true,true,false,false,true,false,true,true,false]) .skip))) (sub (codeOf Tryz.f10) [true,true,false,true,false,false,true,true,false,false,true,true])) := rfl
      have gA : ∃ e', go Tryz.prog X 73 (sub (codeOf Tryz.f10) [true,true,false,true,false,false,true,true,false,false]) e G = some (.normal, e', G.put bm (.map (entriesFrom 0 (ps.take (i + 1))) (i + 1))) ∧ ∀ t, t < 20 → t ≠ 6 → t ≠ 7 → t ≠ 8 → t ≠ 9 → e'.get t = e.get t := by
        simp only [codeOf, Tryz.f10, sub, go_seq, go_region, opsSeq_step, opsSeq_guard, guardStep_true, guardStep_false, guardVal, opsSeq_nil, afterStep_some, afterStep_none, stepC, kindOf, quietC, evC, Nat.reduceLT, Tr.get_set, if_true, if_false, Nat.reduceEqDiff, Option.map_some, Option.bind_some, List.getElem?_toArray, List.getElem?_cons_zero, List.getElem?_cons_succ, ofVal, decide_true, decide_false, BEq.rfl, andThen_normal, andThen_exit, andThen_ret, inBlock_normal, inBlock_ret, go_skip, go_exit, go_ret, loudStep, isCall, loudC, targetC, evs, evParts, mapO, List.nil_append, List.append_nil, List.cons_append, loadC, Heap.skip_get, Heap.get_put, Heap.skip_next, Heap.put_next, q1, a17, a5, hidx, g9, hget, hc0, hlk]
        rw [go_cond _ _ _ (v := false) (by simp only [evC, Tr.get_set, if_true])]
        simp only [go_seq, go_region, opsSeq_step, opsSeq_guard, guardStep_true, guardStep_false, guardVal, opsSeq_nil, afterStep_some, afterStep_none, stepC, kindOf, quietC, evC, Nat.reduceLT, Tr.get_set, if_true, if_false, Nat.reduceEqDiff, Option.map_some, Option.bind_some, List.getElem?_toArray, List.getElem?_cons_zero, List.getElem?_cons_succ, ofVal, decide_true, decide_false, BEq.rfl, andThen_normal, andThen_exit, andThen_ret, inBlock_normal, inBlock_ret, go_skip, go_exit, go_ret, loudStep, isCall, loudC, targetC, evs, evParts, mapO, List.nil_append, List.append_nil, List.cons_append, loadC, Heap.skip_get, Heap.get_put, Heap.skip_next, Heap.put_next, Bool.false_eq_true, a5, hup]
        refine ⟨_, rfl, fun t ht h6 h7 h8 h9 => ?_⟩
        simp only [Tr.get_set, h6, h7, h8, h9, show t ≠ 21 by omega, show t ≠ 22 by omega, show t ≠ 23 by omega, show t ≠ 24 by omega, show t ≠ 25 by omega, show t ≠ 26 by omega, show t ≠ 27 by omega, show t ≠ 28 by omega, show t ≠ 29 by omega, show t ≠ 30 by omega, show t ≠ 31 by omega, show t ≠ 32 by omega, show t ≠ 33 by omega, if_false]
      obtain ⟨e', gA, pq⟩ := gA
      refine ⟨.normal, e', _, gA, .inl rfl, ⟨(pq 0 (by omega) (by omega) (by omega) (by omega) (by omega)).trans a0, (pq 5 (by omega) (by omega) (by omega) (by omega) (by omega)).trans a5, (pq 17 (by omega) (by omega) (by omega) (by omega) (by omega)).trans a17, by rw [Heap.get_put, if_pos rfl], Hok.put rfl ak, an, fun b o hb1 ho => ?_⟩,
        (pq 19 (by omega) (by omega) (by omega) (by omega) (by omega)).trans q1, (pq 18 (by omega) (by omega) (by omega) (by omega) (by omega)).trans q2⟩
      rw [Heap.get_put, if_neg hb1]; exact akeep b o hb1 ho)
  rcases hL ps.length 0 env H (by omega) ⟨rfl, h5, h17, by simpa using hm, hk, rfl, fun _ _ _ h => h⟩ h19 h18 with ⟨e5, H5, ge, f0, f5, f17, fm, fk, fn, fkeep⟩ | ⟨_, _, _, f⟩
  · rw [List.take_length] at fm
    exact ⟨e5, H5, ge, f5, f0, fm, fk, fn, fkeep⟩
  · exact f.elim
end Go.Z

namespace Go.Z
open Go.K Go.Proofs
set_option linter.unusedSimpArgs false
set_option linter.unusedVariables false
set_option maxRecDepth 10000

variable {X : CallFn}

/-- Whether a relation is out of order. -/
def bad (ps : List Nat) (r : Nat × Nat × Nat) : Bool := decide (r.1 ≠ 4 ∧ ps.idxOf r.2.1 ≤ ps.idxOf r.2.2)

theorem cord_body (hX : ZX X) {l : CV} {rs : Rels} {ps : List Nat} {i bm c : Nat} {env : Env} {H : Heap} (hr : rs.length ≤ 1000) (hR : ∀ r ∈ rs, Right r) (hl : Has H 3 42 l (rs.map relCV)) (hk : HOk H) (hi : i < rs.length) (hm : H.get bm = some (.map (entriesFrom 0 ps) c)) (lbm : bm < H.next) (hps : ∀ y ∈ ps, y < 100) (h1 : rs[i].2.1 ∈ ps) (h2 : rs[i].2.2 ∈ ps) (hpl : ps.length ≤ 1000)
    (h0 : env.get 0 = some l) (h5 : env.get 5 = some (.map bm)) (h35 : env.get 35 = some l) (h37 : env.get 37 = some (nI i)) :
    ∃ env' H', go Tryz.prog X 73 (sub (codeOf Tryz.f10) [true,true,true,false,true,false,false,true,true,false,false]) env H = some (if bad ps rs[i] then .ret else .normal, env', H') ∧ (bad ps rs[i] = true → env'.get 4 = some (.bool false)) ∧ HOk H' ∧ Ext H.next H H' ∧ (∀ t, t < 38 → (t < 10 ∨ 16 ≤ t) → t ≠ 4 → env'.get t = env.get t) := by
  have hcode : sub (codeOf Tryz.f10) [true,true,true,false,true,false,false,true,true,false,false] = .seq (sub (codeOf Tryz.f10) [true,true,true,false,true,false,false,true,true,false,false,false]) (.seq (sub (codeOf Tryz.f10) [true,true,true,false,true,false,false,true,true,false,false,true,false]) (.seq (sub (codeOf Tryz.f10) [true,true,true,false,true,false,false,true,true,false,false,true,true,false]) (.seq (sub (codeOf Tryz.f10) [true,true,true,false,true,false,false,true,true,false,false,true,true,true,false]) (.cond (.tmp 71) (.seq (sub (codeOf Tryz.f10) [true,true,true,false,true,false,false,true,true,false,false,true,true,true,true,false,false]) .ret) .skip)))) := rfl
  obtain ⟨b, off, cs, fam, hb, _, hidx, hget, hcells, hcell⟩ := hl.at (P := Tryz.prog) (t := 24) u24 s42 (i := i) (by simpa using hi)
  rw [List.getElem_map] at hcells
  have hcl : takeE 3 (cs.drop off) = some [.int .i64 rs[i].1, nm rs[i].2.1, nm rs[i].2.2] := hcells
  generalize hH2 : ((H.skip 1).put H.next (.cells [.int .i64 0, .str .empty, .str .empty] 42 none)).put H.next (.cells [.int .i64 rs[i].1, nm rs[i].2.1, nm rs[i].2.2] 42 none) = H2
  have hE2 : Ext H.next H H2 := by rw [← hH2]; exact (Ext.skip.trans (Ext.put (Nat.le_refl _))).trans (Ext.put (Nat.le_refl _))
  have hk2 : HOk H2 := by rw [← hH2]; exact Hok.put rfl (Hok.put rfl (Hok.skip 1 hk))
  have hg2 : H2.get H.next = some (.cells [.int .i64 rs[i].1, nm rs[i].2.1, nm rs[i].2.2] 42 none) := by rw [← hH2, Heap.get_put, if_pos rfl]
  have gA : ∃ e, go Tryz.prog X 73 (sub (codeOf Tryz.f10) [true,true,true,false,true,false,false,true,true,false,false,false]) env H = some (.normal, e, H2) ∧ e.get 10 = some (nI i) ∧ e.get 11 = some (.ptr H.next 0) ∧ ∀ t, t < 38 → t ≠ 10 → t ≠ 11 → e.get t = env.get t := by
    simp only [codeOf, Tryz.f10, sub, go_seq, go_region, opsSeq_step, opsSeq_guard, guardStep_true, guardStep_false, guardVal, opsSeq_nil, afterStep_some, afterStep_none, stepC, kindOf, quietC, evC, Nat.reduceLT, Tr.get_set, if_true, if_false, Nat.reduceEqDiff, Option.map_some, Option.bind_some, List.getElem?_toArray, List.getElem?_cons_zero, List.getElem?_cons_succ, ofVal, decide_true, decide_false, BEq.rfl, andThen_normal, andThen_exit, andThen_ret, inBlock_normal, inBlock_ret, go_skip, go_exit, go_ret, loudStep, isCall, loudC, targetC, evs, evParts, mapO, List.nil_append, List.append_nil, List.cons_append, loadC, Heap.skip_get, Heap.get_put, Heap.skip_next, Heap.put_next, h35, h37, hidx, hget, hcl, s42, g42, al42, store42, List.length_cons, List.length_nil, Nat.reduceAdd, hH2]
    refine ⟨_, rfl, by simp only [Tr.get_set, Nat.reduceEqDiff, if_false, if_true], by simp only [Tr.get_set, Nat.reduceEqDiff, if_false, if_true], fun t ht h10 h11 => ?_⟩
    simp only [Tr.get_set, h10, h11, show t ≠ 39 by omega, show t ≠ 40 by omega, show t ≠ 41 by omega, if_false]
  obtain ⟨e1, gA, a10, a11, aq⟩ := gA
  have hm2 := hE2.2 _ _ lbm hm
  have hlu := lookup_at_ok hm2 hps h1
  have hll := lookup_at_ok hm2 hps h2
  have gB : ∃ e, go Tryz.prog X 73 (sub (codeOf Tryz.f10) [true,true,true,false,true,false,false,true,true,false,false,true,false]) e1 H2 = some (.normal, e, H2) ∧ e.get 12 = some (nI (ps.idxOf rs[i].2.1)) ∧ e.get 13 = some (.bool true) ∧ ∀ t, t < 38 → t ≠ 12 → t ≠ 13 → e.get t = e1.get t := by
    simp only [codeOf, Tryz.f10, sub, go_seq, go_region, opsSeq_step, opsSeq_guard, guardStep_true, guardStep_false, guardVal, opsSeq_nil, afterStep_some, afterStep_none, stepC, kindOf, quietC, evC, Nat.reduceLT, Tr.get_set, if_true, if_false, Nat.reduceEqDiff, Option.map_some, Option.bind_some, List.getElem?_toArray, List.getElem?_cons_zero, List.getElem?_cons_succ, ofVal, decide_true, decide_false, BEq.rfl, andThen_normal, andThen_exit, andThen_ret, inBlock_normal, inBlock_ret, go_skip, go_exit, go_ret, loudStep, isCall, loudC, targetC, evs, evParts, mapO, List.nil_append, List.append_nil, List.cons_append, loadC, Heap.skip_get, Heap.get_put, Heap.skip_next, Heap.put_next, a11, (aq 5 (by omega) (by omega) (by omega)).trans h5, fa42_1, g9, hg2, Nat.zero_add, hlu]
    refine ⟨_, rfl, by simp only [Tr.get_set, Nat.reduceEqDiff, if_false, if_true], by simp only [Tr.get_set, if_true], fun t ht h12 h13 => ?_⟩
    simp only [Tr.get_set, h12, h13, show t ≠ 42 by omega, show t ≠ 43 by omega, show t ≠ 44 by omega, show t ≠ 45 by omega, show t ≠ 46 by omega, show t ≠ 47 by omega, show t ≠ 48 by omega, if_false]
  obtain ⟨e2, gB, b12, b13, bq⟩ := gB
  have gC : ∃ e, go Tryz.prog X 73 (sub (codeOf Tryz.f10) [true,true,true,false,true,false,false,true,true,false,false,true,true,false]) e2 H2 = some (.normal, e, H2) ∧ e.get 14 = some (nI (ps.idxOf rs[i].2.2)) ∧ e.get 15 = some (.bool true) ∧ ∀ t, t < 38 → t ≠ 14 → t ≠ 15 → e.get t = e2.get t := by
    simp only [codeOf, Tryz.f10, sub, go_seq, go_region, opsSeq_step, opsSeq_guard, guardStep_true, guardStep_false, guardVal, opsSeq_nil, afterStep_some, afterStep_none, stepC, kindOf, quietC, evC, Nat.reduceLT, Tr.get_set, if_true, if_false, Nat.reduceEqDiff, Option.map_some, Option.bind_some, List.getElem?_toArray, List.getElem?_cons_zero, List.getElem?_cons_succ, ofVal, decide_true, decide_false, BEq.rfl, andThen_normal, andThen_exit, andThen_ret, inBlock_normal, inBlock_ret, go_skip, go_exit, go_ret, loudStep, isCall, loudC, targetC, evs, evParts, mapO, List.nil_append, List.append_nil, List.cons_append, loadC, Heap.skip_get, Heap.get_put, Heap.skip_next, Heap.put_next, (bq 11 (by omega) (by omega) (by omega)).trans a11, (bq 5 (by omega) (by omega) (by omega)).trans ((aq 5 (by omega) (by omega) (by omega)).trans h5), fa42_2, g9, hg2, Nat.zero_add, hll]
    refine ⟨_, rfl, by simp only [Tr.get_set, Nat.reduceEqDiff, if_false, if_true], by simp only [Tr.get_set, if_true], fun t ht h12 h13 => ?_⟩
    simp only [Tr.get_set, h12, h13, show t ≠ 49 by omega, show t ≠ 50 by omega, show t ≠ 51 by omega, show t ≠ 52 by omega, show t ≠ 53 by omega, show t ≠ 54 by omega, show t ≠ 55 by omega, if_false]
  obtain ⟨e3, gC, c14, c15, cq⟩ := gC
  have c21 := arc21_ok (X := X) hX.x21 hr hR (hl.ext hE2 hl.lt) hi
  have c12 := (cq 12 (by omega) (by omega) (by omega)).trans b12
  have c13 := (cq 13 (by omega) (by omega) (by omega)).trans b13
  have c0 : e3.get 0 = some l := (cq 0 (by omega) (by omega) (by omega)).trans ((bq 0 (by omega) (by omega) (by omega)).trans ((aq 0 (by omega) (by omega) (by omega)).trans h0))
  have c10 : e3.get 10 = some (nI i) := (cq 10 (by omega) (by omega) (by omega)).trans ((bq 10 (by omega) (by omega) (by omega)).trans a10)
  have eb : (false == false) = true := rfl
  have ec : (true == true) = true := rfl
  have ed : (false == true) = false := rfl
  have gD : ∃ e, go Tryz.prog X 73 (sub (codeOf Tryz.f10) [true,true,true,false,true,false,false,true,true,false,false,true,true,true,false]) e3 H2 = some (.normal, e, H2) ∧ e.get 71 = some (.bool (bad ps rs[i])) ∧ ∀ t, t < 38 → e.get t = e3.get t := by
    by_cases h4 : rs[i].1 = 4
    · have hbad : bad ps rs[i] = false := by simp [bad, h4]
      rw [decide_eq_false (by simp [h4])] at c21
      rw [hbad]
      simp only [codeOf, Tryz.f10, sub, go_seq, go_region, opsSeq_step, opsSeq_guard, guardStep_true, guardStep_false, guardVal, opsSeq_nil, afterStep_some, afterStep_none, stepC, kindOf, quietC, evC, Nat.reduceLT, Tr.get_set, if_true, if_false, Nat.reduceEqDiff, Option.map_some, Option.bind_some, List.getElem?_toArray, List.getElem?_cons_zero, List.getElem?_cons_succ, ofVal, decide_true, decide_false, BEq.rfl, andThen_normal, andThen_exit, andThen_ret, inBlock_normal, inBlock_ret, go_skip, go_exit, go_ret, loudStep, isCall, loudC, targetC, evs, evParts, mapO, List.nil_append, List.append_nil, List.cons_append, loadC, Heap.skip_get, Heap.get_put, Heap.skip_next, Heap.put_next, c0, c10, c12, c13, c14, c15, Bool.not_true, eb, ec, ed, c21]
      refine ⟨_, rfl, by simp only [Tr.get_set, if_true], fun t ht => ?_⟩
      simp only [Tr.get_set, show t ≠ 56 by omega, show t ≠ 57 by omega, show t ≠ 58 by omega, show t ≠ 59 by omega, show t ≠ 60 by omega, show t ≠ 61 by omega, show t ≠ 62 by omega, show t ≠ 63 by omega, show t ≠ 64 by omega, show t ≠ 65 by omega, show t ≠ 66 by omega, show t ≠ 67 by omega, show t ≠ 68 by omega, show t ≠ 69 by omega, show t ≠ 70 by omega, show t ≠ 71 by omega, if_false]
    · have hbad : bad ps rs[i] = decide (((ps.idxOf rs[i].2.1 : Nat) : Int) ≤ (ps.idxOf rs[i].2.2 : Nat)) := by
        simp only [bad, ne_eq, h4, not_false_eq_true, true_and, Int.ofNat_le]
      rw [decide_eq_true h4] at c21
      rw [hbad]
      simp only [codeOf, Tryz.f10, sub, go_seq, go_region, opsSeq_step, opsSeq_guard, guardStep_true, guardStep_false, guardVal, opsSeq_nil, afterStep_some, afterStep_none, stepC, kindOf, quietC, evC, Nat.reduceLT, Tr.get_set, if_true, if_false, Nat.reduceEqDiff, Option.map_some, Option.bind_some, List.getElem?_toArray, List.getElem?_cons_zero, List.getElem?_cons_succ, ofVal, decide_true, decide_false, BEq.rfl, andThen_normal, andThen_exit, andThen_ret, inBlock_normal, inBlock_ret, go_skip, go_exit, go_ret, loudStep, isCall, loudC, targetC, evs, evParts, mapO, List.nil_append, List.append_nil, List.cons_append, loadC, Heap.skip_get, Heap.get_put, Heap.skip_next, Heap.put_next, c0, c10, c12, c13, c14, c15, nI, bin_leq, Bool.not_true, eb, ec, ed, c21]
      refine ⟨_, rfl, by simp only [Tr.get_set, if_true], fun t ht => ?_⟩
      simp only [Tr.get_set, show t ≠ 56 by omega, show t ≠ 57 by omega, show t ≠ 58 by omega, show t ≠ 59 by omega, show t ≠ 60 by omega, show t ≠ 61 by omega, show t ≠ 62 by omega, show t ≠ 63 by omega, show t ≠ 64 by omega, show t ≠ 65 by omega, show t ≠ 66 by omega, show t ≠ 67 by omega, show t ≠ 68 by omega, show t ≠ 69 by omega, show t ≠ 70 by omega, show t ≠ 71 by omega, if_false]
  obtain ⟨e4, gD, d71, dq⟩ := gD
  have hq : ∀ t, t < 38 → (t < 10 ∨ 16 ≤ t) → e4.get t = env.get t := fun t ht h => (dq t ht).trans ((cq t ht (by omega) (by omega)).trans ((bq t ht (by omega) (by omega)).trans (aq t ht (by omega) (by omega))))
  cases hbad : bad ps rs[i] with
  | true =>
    rw [hbad] at d71
    have gE : go Tryz.prog X 73 (.seq (sub (codeOf Tryz.f10) [true,true,true,false,true,false,false,true,true,false,false,true,true,true,true,false,false]) .ret) e4 H2 = some (.ret, e4.set 4 (.bool false), H2) := by simp only [codeOf, Tryz.f10, sub, go_seq, go_region, opsSeq_step, opsSeq_guard, guardStep_true, guardStep_false, guardVal, opsSeq_nil, afterStep_some, afterStep_none, stepC, kindOf, quietC, evC, Nat.reduceLT, Tr.get_set, if_true, if_false, Nat.reduceEqDiff, Option.map_some, Option.bind_some, List.getElem?_toArray, List.getElem?_cons_zero, List.getElem?_cons_succ, ofVal, decide_true, decide_false, BEq.rfl, andThen_normal, andThen_exit, andThen_ret, inBlock_normal, inBlock_ret, go_skip, go_exit, go_ret, loudStep, isCall, loudC, targetC, evs, evParts, mapO, List.nil_append, List.append_nil, List.cons_append, loadC, Heap.skip_get, Heap.get_put, Heap.skip_next, Heap.put_next]
    refine ⟨e4.set 4 (.bool false), H2, ?_, fun _ => by simp only [Tr.get_set, if_true], hk2, hE2, fun t ht h h4 => by simp only [Tr.get_set, h4, if_false]; exact hq t ht h⟩
    rw [hcode, go_seq, gA, andThen_normal, go_seq, gB, andThen_normal, go_seq, gC, andThen_normal, go_seq, gD, andThen_normal, go_cond _ _ _ (v := true) (by simp only [evC, d71]), if_pos rfl, gE, if_pos rfl]
  | false =>
    rw [hbad] at d71
    refine ⟨e4, H2, ?_, fun h => (by cases h), hk2, hE2, fun t ht h h4 => hq t ht h⟩
    rw [hcode, go_seq, gA, andThen_normal, go_seq, gB, andThen_normal, go_seq, gC, andThen_normal, go_seq, gD, andThen_normal, go_cond _ _ _ (v := false) (by simp only [evC, d71]), if_neg (by simp), go_skip, if_neg (by simp)]

theorem corder_ok (hX : ZX X) {l v : CV} {rs : Rels} {ps : List Nat} {H : Heap} (hr : rs.length ≤ 1000) (hR : ∀ r ∈ rs, Right r) (hl : Has H 3 42 l (rs.map relCV)) (hv : Has H 1 9 v (ps.map nm)) (hk : HOk H) (hpl : ps.length ≤ 1000) (hps : ∀ y ∈ ps, y < 100) (hnd : ps.Nodup) (hin : ∀ r ∈ rs, r.2.1 ∈ ps ∧ r.2.2 ∈ ps) :
    ∃ H', calls Tryz.prog X 10 [l, v] H = some (.bool (rs.all fun r => !bad ps r), H') ∧ HOk H' ∧ Ext H.next H H' := by
  have hcode : codeOf Tryz.f10 = .seq (sub (codeOf Tryz.f10) [false]) (.seq (sub (codeOf Tryz.f10) [true,false]) (.seq (.seq (sub (codeOf Tryz.f10) [true,true,false,false]) (.block 0 (sub (codeOf Tryz.f10) [true,true,false,true,false]))) (.seq (.seq (sub (codeOf Tryz.f10) [true,true,true,false,false]) (.block 2 (sub (codeOf Tryz.f10) [true,true,true,false,true,false]))) (.seq (sub (codeOf Tryz.f10) [true,true,true,true,false]) .ret)))) := rfl
  generalize he0 : envOf [l, v] 0 .nil = e0
  have h0 : e0.get 0 = some l := by rw [← he0]; simp [envOf, Tr.get_set]
  have h1 : e0.get 1 = some v := by rw [← he0]; simp [envOf, Tr.get_set]
  have hlenv := fun G => hv.len (P := Tryz.prog) u30 G
  rw [List.length_map] at hlenv
  have hlenl := fun G => hl.len (P := Tryz.prog) u24 G
  rw [List.length_map] at hlenl
  have ga : go Tryz.prog X 73 (sub (codeOf Tryz.f10) [false]) e0 H = some (.normal, e0.set 4 (.bool false), H) := by simp only [codeOf, Tryz.f10, sub, go_seq, go_region, opsSeq_step, opsSeq_guard, guardStep_true, guardStep_false, guardVal, opsSeq_nil, afterStep_some, afterStep_none, stepC, kindOf, quietC, evC, Nat.reduceLT, Tr.get_set, if_true, if_false, Nat.reduceEqDiff, Option.map_some, Option.bind_some, List.getElem?_toArray, List.getElem?_cons_zero, List.getElem?_cons_succ, ofVal, decide_true, decide_false, BEq.rfl, andThen_normal, andThen_exit, andThen_ret, inBlock_normal, inBlock_ret, go_skip, go_exit, go_ret, loudStep, isCall, loudC, targetC, evs, evParts, mapO, List.nil_append, List.append_nil, List.cons_append, loadC, Heap.skip_get, Heap.get_put, Heap.skip_next, Heap.put_next]
  generalize hH2 : (H.skip 1).put H.next (.map [] 0) = H2
  have x2 : Ext H.next H H2 := by rw [← hH2]; exact Ext.skip.trans (Ext.put (Nat.le_refl _))
  have k2 : HOk H2 := by rw [← hH2]; exact Hok.put rfl (Hok.skip 1 hk)
  have n2 : H2.next = H.next + 1 := by rw [← hH2]; rfl
  have m2 : H2.get H.next = some (.map (entriesFrom 0 []) 0) := by rw [← hH2, Heap.get_put, if_pos rfl]; rfl
  have gb : ∃ e, go Tryz.prog X 73 (sub (codeOf Tryz.f10) [true,false]) (e0.set 4 (.bool false)) H = some (.normal, e, H2) ∧ e.get 0 = some l ∧ e.get 1 = some v ∧ e.get 5 = some (.map H.next) := by
    simp only [codeOf, Tryz.f10, sub, go_seq, go_region, opsSeq_step, opsSeq_guard, guardStep_true, guardStep_false, guardVal, opsSeq_nil, afterStep_some, afterStep_none, stepC, kindOf, quietC, evC, Nat.reduceLT, Tr.get_set, if_true, if_false, Nat.reduceEqDiff, Option.map_some, Option.bind_some, List.getElem?_toArray, List.getElem?_cons_zero, List.getElem?_cons_succ, ofVal, decide_true, decide_false, BEq.rfl, andThen_normal, andThen_exit, andThen_ret, inBlock_normal, inBlock_ret, go_skip, go_exit, go_ret, loudStep, isCall, loudC, targetC, evs, evParts, mapO, List.nil_append, List.append_nil, List.cons_append, loadC, Heap.skip_get, Heap.get_put, Heap.skip_next, Heap.put_next, allocC, u52, hH2]
    exact ⟨_, rfl, by simp only [Tr.get_set, Nat.reduceEqDiff, if_false, h0], by simp only [Tr.get_set, Nat.reduceEqDiff, if_false, h1], by simp only [Tr.get_set, if_true]⟩
  obtain ⟨e1, gb, b0, b1, b5⟩ := gb
  have gc : ∃ e, go Tryz.prog X 73 (sub (codeOf Tryz.f10) [true,true,false,false]) e1 H2 = some (.normal, e, H2) ∧ e.get 0 = some l ∧ e.get 5 = some (.map H.next) ∧ e.get 17 = some v ∧ e.get 18 = some (nI ps.length) ∧ e.get 19 = some (.int .i64 (0 : Nat)) := by
    simp only [codeOf, Tryz.f10, sub, go_seq, go_region, opsSeq_step, opsSeq_guard, guardStep_true, guardStep_false, guardVal, opsSeq_nil, afterStep_some, afterStep_none, stepC, kindOf, quietC, evC, Nat.reduceLT, Tr.get_set, if_true, if_false, Nat.reduceEqDiff, Option.map_some, Option.bind_some, List.getElem?_toArray, List.getElem?_cons_zero, List.getElem?_cons_succ, ofVal, decide_true, decide_false, BEq.rfl, andThen_normal, andThen_exit, andThen_ret, inBlock_normal, inBlock_ret, go_skip, go_exit, go_ret, loudStep, isCall, loudC, targetC, evs, evParts, mapO, List.nil_append, List.append_nil, List.cons_append, loadC, Heap.skip_get, Heap.get_put, Heap.skip_next, Heap.put_next, b1, hlenv]
    exact ⟨_, rfl, by simp only [Tr.get_set, Nat.reduceEqDiff, if_false, b0], by simp only [Tr.get_set, Nat.reduceEqDiff, if_false, b5], by simp only [Tr.get_set, Nat.reduceEqDiff, if_false, if_true], by simp only [Tr.get_set, Nat.reduceEqDiff, if_false, if_true], by simp only [Tr.get_set, if_true]; rfl⟩
  obtain ⟨e2, gc, c0, c5, c17, c18, c19⟩ := gc
  obtain ⟨e3, H3, gd, d5, d0, m3, k3, n3, keep3⟩ := cord_loop1 (X := X) (hv.ext x2 hv.lt) k2 hpl hps hnd m2 (fun b o l c e => by have := hv.lt _ _ _ _ e; omega) c5 c17 c18 c19
  have x3 : Ext H.next H H3 := ⟨by omega, fun b o hb ho => keep3 b o (by omega) (x2.2 b o hb ho)⟩
  have ge : ∃ e, go Tryz.prog X 73 (sub (codeOf Tryz.f10) [true,true,true,false,false]) e3 H3 = some (.normal, e, H3) ∧ e.get 0 = some l ∧ e.get 5 = some (.map H.next) ∧ e.get 35 = some l ∧ e.get 36 = some (nI rs.length) ∧ e.get 37 = some (.int .i64 (0 : Nat)) := by
    simp only [codeOf, Tryz.f10, sub, go_seq, go_region, opsSeq_step, opsSeq_guard, guardStep_true, guardStep_false, guardVal, opsSeq_nil, afterStep_some, afterStep_none, stepC, kindOf, quietC, evC, Nat.reduceLT, Tr.get_set, if_true, if_false, Nat.reduceEqDiff, Option.map_some, Option.bind_some, List.getElem?_toArray, List.getElem?_cons_zero, List.getElem?_cons_succ, ofVal, decide_true, decide_false, BEq.rfl, andThen_normal, andThen_exit, andThen_ret, inBlock_normal, inBlock_ret, go_skip, go_exit, go_ret, loudStep, isCall, loudC, targetC, evs, evParts, mapO, List.nil_append, List.append_nil, List.cons_append, loadC, Heap.skip_get, Heap.get_put, Heap.skip_next, Heap.put_next, d0.trans c0, hlenl]
    exact ⟨_, rfl, by simp only [Tr.get_set, Nat.reduceEqDiff, if_false, d0.trans c0], by simp only [Tr.get_set, Nat.reduceEqDiff, if_false, d5], by simp only [Tr.get_set, Nat.reduceEqDiff, if_false, if_true], by simp only [Tr.get_set, Nat.reduceEqDiff, if_false, if_true], by simp only [Tr.get_set, if_true]; rfl⟩
  obtain ⟨e4, ge, f0, f5, f35, f36, f37⟩ := ge
  have hL := range_loop (P := Tryz.prog) (X := X) (nt := 73) (code := sub (codeOf Tryz.f10) [true,true,true,false,true,false]) (hd := sub (codeOf Tryz.f10) [true,true,true,false,true,false,false,false]) (body := sub (codeOf Tryz.f10) [true,true,true,false,true,false,false,true,true,false,false]) (inc := sub (codeOf Tryz.f10) [true,true,true,false,true,false,false,true,true,true]) (ti := 37) (tn := 36) (tc := 38) (tx := 72) (e := 2) (b := 3) rfl (by omega)
    (fun env H i n h1 h2 => by simp only [codeOf, Tryz.f10, sub, go_seq, go_region, opsSeq_step, opsSeq_guard, guardStep_true, guardStep_false, guardVal, opsSeq_nil, afterStep_some, afterStep_none, stepC, kindOf, quietC, evC, Nat.reduceLT, Tr.get_set, if_true, if_false, Nat.reduceEqDiff, Option.map_some, Option.bind_some, List.getElem?_toArray, List.getElem?_cons_zero, List.getElem?_cons_succ, ofVal, decide_true, decide_false, BEq.rfl, andThen_normal, andThen_exit, andThen_ret, inBlock_normal, inBlock_ret, go_skip, go_exit, go_ret, loudStep, isCall, loudC, targetC, evs, evParts, mapO, List.nil_append, List.append_nil, List.cons_append, loadC, Heap.skip_get, Heap.get_put, Heap.skip_next, Heap.put_next, h1, h2, bin_lss]) (fun env H i h1 hw => by simp only [codeOf, Tryz.f10, sub, go_seq, go_region, opsSeq_step, opsSeq_guard, guardStep_true, guardStep_false, guardVal, opsSeq_nil, afterStep_some, afterStep_none, stepC, kindOf, quietC, evC, Nat.reduceLT, Tr.get_set, if_true, if_false, Nat.reduceEqDiff, Option.map_some, Option.bind_some, List.getElem?_toArray, List.getElem?_cons_zero, List.getElem?_cons_succ, ofVal, decide_true, decide_false, BEq.rfl, andThen_normal, andThen_exit, andThen_ret, inBlock_normal, inBlock_ret, go_skip, go_exit, go_ret, loudStep, isCall, loudC, targetC, evs, evParts, mapO, List.nil_append, List.append_nil, List.cons_append, loadC, Heap.skip_get, Heap.get_put, Heap.skip_next, Heap.put_next, h1, bin_add, hw]) (by omega) (n := rs.length) (by omega)
    (fun i e G => e.get 0 = some l ∧ e.get 5 = some (.map H.next) ∧ e.get 35 = some l ∧ HOk G ∧ Ext H3.next H3 G ∧ ∀ r ∈ rs.take i, bad ps r = false)
    (fun e G => e.get 4 = some (.bool false) ∧ HOk G ∧ Ext H3.next H3 G ∧ ∃ r ∈ rs, bad ps r = true)
    (fun i e H' t v ht ⟨a0, a1, a2, r⟩ => ⟨by rcases ht with rfl | rfl | rfl <;> simp only [Tr.get_set, Nat.reduceEqDiff, if_false, a0], by rcases ht with rfl | rfl | rfl <;> simp only [Tr.get_set, Nat.reduceEqDiff, if_false, a1], by rcases ht with rfl | rfl | rfl <;> simp only [Tr.get_set, Nat.reduceEqDiff, if_false, a2], r⟩)
    (fun i e G hi ⟨a0, a5, a35, ak, ax, all⟩ q1 q2 => by
      obtain ⟨hin1, hin2⟩ := hin _ (List.getElem_mem hi)
      have lx := ax.1
      obtain ⟨e', G', g, g4, gk, gx, gq⟩ := cord_body hX hr hR ((hl.ext x3 hl.lt).ext ax (hl.ext x3 hl.lt).lt) ak hi (ax.2 _ _ (by omega) m3) (by omega) hps hin1 hin2 hpl a0 a5 a35 q1
      cases hb : bad ps rs[i] with
      | true =>
        right
        rw [hb, if_pos rfl] at g
        exact ⟨e', G', g, g4 hb, gk, ax.trans (gx.le lx), rs[i], List.getElem_mem _, hb⟩
      | false =>
        left
        rw [hb, if_neg (by simp)] at g
        refine ⟨.normal, e', G', g, .inl rfl, ⟨(gq 0 (by omega) (by omega) (by omega)).trans a0, (gq 5 (by omega) (by omega) (by omega)).trans a5, (gq 35 (by omega) (by omega) (by omega)).trans a35, gk, ax.trans (gx.le lx), fun r hr' => ?_⟩, (gq 37 (by omega) (by omega) (by omega)).trans q1, (gq 36 (by omega) (by omega) (by omega)).trans q2⟩
        rw [List.take_succ_eq_append_getElem hi] at hr'
        rcases List.mem_append.1 hr' with h | h
        · exact all r h
        · rw [List.mem_singleton.1 h]; exact hb)
  have hend : ∀ (c : CV) (e : Env) (H' : Heap), go Tryz.prog X 73 (.seq (.block 2 (sub (codeOf Tryz.f10) [true,true,true,false,true,false])) (.seq (sub (codeOf Tryz.f10) [true,true,true,true,false]) .ret)) e4 H3 = some (.ret, e, H') → e.get 4 = some c → calls Tryz.prog X 10 [l, v] H = some (c, H') := by
    intro c e H' h hc
    refine calls_ret (hX.x10 _ _) Tryz.func10 rfl (by decide) (nt := 73) rfl (env' := e) ?_ (results_one hc)
    rw [he0, hcode, go_seq, ga, andThen_normal, go_seq, gb, andThen_normal, go_seq, go_seq, gc, andThen_normal, go_block, gd, inBlock_exit, if_pos rfl, andThen_normal, go_seq, go_seq, ge, andThen_normal]
    rw [go_seq] at h
    exact h
  rcases hL rs.length 0 e4 H3 (by omega) ⟨f0, f5, f35, k3, Ext.refl _ _, fun r hr => by simp at hr⟩ f37 f36 with ⟨e5, H5, g5, _, _, _, k5, x5, all⟩ | ⟨e5, H5, g5, g54, k5, x5, r, hr', hb⟩
  · rw [List.take_length] at all
    have : (rs.all fun r => !bad ps r) = true := List.all_eq_true.2 fun r hr => by rw [all r hr]; rfl
    rw [this]
    have gz : go Tryz.prog X 73 (.seq (sub (codeOf Tryz.f10) [true,true,true,true,false]) .ret) e5 H5 = some (.ret, e5.set 4 (.bool true), H5) := by simp only [codeOf, Tryz.f10, sub, go_seq, go_region, opsSeq_step, opsSeq_guard, guardStep_true, guardStep_false, guardVal, opsSeq_nil, afterStep_some, afterStep_none, stepC, kindOf, quietC, evC, Nat.reduceLT, Tr.get_set, if_true, if_false, Nat.reduceEqDiff, Option.map_some, Option.bind_some, List.getElem?_toArray, List.getElem?_cons_zero, List.getElem?_cons_succ, ofVal, decide_true, decide_false, BEq.rfl, andThen_normal, andThen_exit, andThen_ret, inBlock_normal, inBlock_ret, go_skip, go_exit, go_ret, loudStep, isCall, loudC, targetC, evs, evParts, mapO, List.nil_append, List.append_nil, List.cons_append, loadC, Heap.skip_get, Heap.get_put, Heap.skip_next, Heap.put_next]
    refine ⟨H5, hend _ (e5.set 4 (.bool true)) H5 ?_ (by simp only [Tr.get_set, if_true]), k5, x3.trans (x5.le x3.1)⟩
    rw [go_seq, go_block, g5, inBlock_exit, if_pos rfl, andThen_normal, gz]
  · have : (rs.all fun r => !bad ps r) = false := by
      rw [Bool.eq_false_iff]
      intro h
      have := List.all_eq_true.1 h r hr'
      rw [hb] at this; cases this
    rw [this]
    refine ⟨H5, hend _ e5 H5 ?_ g54, k5, x3.trans (x5.le x3.1)⟩
    rw [go_seq, go_block, g5, inBlock_ret, andThen_ret]
end Go.Z
