/- sorted: the function. sorted: the function. name: the names of numbers. -/
import Derived.Test.YtmnhkbhdfkebmaaGreatDoorZ14

set_option linter.unusedSimpArgs false
set_option linter.unusedVariables false

namespace Go.Z
open Go.K Go.Proofs
set_option linter.unusedSimpArgs false
set_option linter.unusedVariables false
set_option maxRecDepth 10000

variable {X : CallFn}

theorem srt_loop (hX : QX X) {H0 : Heap} {bb bq bg bm bx : Nat} {nv av : CV} {xs : List CV} {us : List Nat} {arcs : Arcs} (hg : Gr H0 bg bm bx nv av xs us arcs) (hn : us.length ≤ 16) (har : arcs.length < 1000) (hlt : ∀ a ∈ arcs, a.2.1 < us.length ∧ a.2.2 < us.length) :
    ∀ (d : Nat) (env : Env) (H : Heap) (bf : Nat → Nat) (v w : CV) (q os : List Nat) (fq fo : Nat), us.length ≤ os.length + d → Kahn H0 H bb bq us.length bf v w q os fq fo → KInv arcs us.length os q bf [] → (∀ y, y < us.length → bf y < 10000) →
      env.get 0 = some (.ptr bg 0) → env.get 4 = some (.slice bb 0 us.length (.exact us.length)) → env.get 5 = some (.ptr bq 0) → env.get 8 = some w →
      ∃ (env' : Env) (H' : Heap) (bf' : Nat → Nat) (v' w' : CV) (os' : List Nat) (fq' fo' : Nat), go Tryz.prog X 85 (sub (codeOf Tryz.f22) [true,true,true,true,true,false,false]) env H = some (.exit 2, env', H') ∧ Kahn H0 H' bb bq us.length bf' v' w' [] os' fq' fo' ∧ KInv arcs us.length os' [] bf' [] ∧ env'.get 0 = some (.ptr bg 0) ∧ env'.get 8 = some w' := by
  have hcode : sub (codeOf Tryz.f22) [true,true,true,true,true,false,false] = .loop (.seq (.seq (sub (codeOf Tryz.f22) [true,true,true,true,true,false,false,false,false,false]) (.cond (.tmp 35) .skip (.exit 2))) (.block 3 (.seq (sub (codeOf Tryz.f22) [true,true,true,true,true,false,false,false,true,false,false]) (.seq (sub (codeOf Tryz.f22) [true,true,true,true,true,false,false,false,true,false,true,false]) (.seq (sub (codeOf Tryz.f22) [true,true,true,true,true,false,false,false,true,false,true,true,false]) (.block 4 (sub (codeOf Tryz.f22) [true,true,true,true,true,false,false,false,true,false,true,true,true,false]))))))) := rfl
  intro d
  induction d with
  | zero =>
    intro env H bf v w q os fq fo hd h hi hB h0 h4 h5 h8
    obtain ⟨e1, ga, aq⟩ := srt_head (X := X) hX h.q h5
    have hl := nodup_short _ (q ++ os) hi.nodup hi.lt
    rw [List.length_append] at hl
    have hq : q = [] := List.length_eq_zero_iff.1 (by omega)
    subst hq
    rw [if_pos rfl] at ga
    refine ⟨e1, H, bf, v, w, os, fq, fo, ?_, h, hi, (aq 0 (by omega)).trans h0, (aq 8 (by omega)).trans h8⟩
    rw [hcode, go_loop, go_seq, ga, andThen_exit, andThen_exit]
  | succ d ih =>
    intro env H bf v w q os fq fo hd h hi hB h0 h4 h5 h8
    obtain ⟨e1, ga, aq⟩ := srt_head (X := X) hX h.q h5
    by_cases hq : q = []
    · subst hq
      rw [if_pos rfl] at ga
      refine ⟨e1, H, bf, v, w, os, fq, fo, ?_, h, hi, (aq 0 (by omega)).trans h0, (aq 8 (by omega)).trans h8⟩
      rw [hcode, go_loop, go_seq, ga, andThen_exit, andThen_exit]
    · rw [if_neg hq] at ga
      obtain ⟨e2, H2, v2, w2, vx, q2, x, fo2, gb, hK2, hI2, hvx, b8, b50, b51, b52, bq'⟩ := srt_take (X := X) hX hg h hi hq hn ((aq 0 (by omega)).trans h0) ((aq 5 (by omega)).trans h5) ((aq 8 (by omega)).trans h8)
      obtain ⟨e3, H3, bf3, v3, q3, fq3, gc, hK3, hI3, hB3, cq⟩ := srt_inner (X := X) hX hK2 hI2 hvx (fun a ha => (hlt a (List.mem_filter.1 ha).1).2) (Nat.lt_of_le_of_lt (outOf_length _ _) har) hn hB ((bq' 4 (by omega)).trans ((aq 4 (by omega)).trans h4)) ((bq' 5 (by omega)).trans ((aq 5 (by omega)).trans h5)) b50 b51 b52
      have hq3 : ∀ t, t < 8 → e3.get t = env.get t := fun t ht => (cq t (by omega)).trans ((bq' t ht).trans (aq t (by omega)))
      obtain ⟨e4, H4, bf4, v4, w4, os4, fq4, fo4, gd, r⟩ := ih e3 H3 bf3 v3 w2 q3 (os ++ [x]) fq3 fo2 (by simp only [List.length_append, List.length_singleton]; omega) hK3 hI3 hB3 ((hq3 0 (by omega)).trans h0) ((hq3 4 (by omega)).trans h4) ((hq3 5 (by omega)).trans h5) ((cq 8 (by omega)).trans b8)
      refine ⟨e4, H4, bf4, v4, w4, os4, fq4, fo4, ?_, r⟩
      rw [hcode, go_loop, ← hcode, go_seq, ga, andThen_normal, go_block]
      rw [go_seq] at gb
      revert gb
      rw [go_seq]
      cases go Tryz.prog X 85 (sub (codeOf Tryz.f22) [true,true,true,true,true,false,false,false,true,false,false]) e1 H with
      | none => intro gb; cases gb
      | some y =>
        obtain ⟨y, e', H'⟩ := y
        cases y with
        | normal =>
          rw [andThen_normal, andThen_normal, go_seq, go_seq]
          cases go Tryz.prog X 85 (sub (codeOf Tryz.f22) [true,true,true,true,true,false,false,false,true,false,true,false]) e' H' with
          | none => intro gb; cases gb
          | some z =>
            obtain ⟨z, e'', H''⟩ := z
            cases z with
            | normal =>
              rw [andThen_normal, andThen_normal]
              intro gb
              rw [go_seq, gb, andThen_normal, go_block, gc, inBlock_exit, if_pos rfl, inBlock_normal, andThen_normal]
              exact gd
            | _ => intro gb; cases gb
        | _ => intro gb; cases gb

/-- The units that nothing is before are put into the queue. -/
theorem srt_start (hX : QX X) {H0 : Heap} {bb bq n : Nat} {v : CV} {fq : Nat} {arcs : Arcs} {env : Env} {H : Heap} (h : Kahn H0 H bb bq n (cnt arcs) v .nilSlice [] [] fq 0) (hn : n ≤ 16)
    (h5 : env.get 5 = some (.ptr bq 0)) (h16 : env.get 16 = some (.slice bb 0 n (.exact n))) (h17 : env.get 17 = some (.int .i64 (n : Nat))) (h18 : env.get 18 = some (.int .i64 (0 : Nat))) :
    ∃ (env' : Env) (H' : Heap) (v' : CV) (q' : List Nat) (fq' : Nat), go Tryz.prog X 85 (sub (codeOf Tryz.f22) [true,true,true,false,true,false]) env H = some (.exit 0, env', H') ∧ Kahn H0 H' bb bq n (cnt arcs) v' .nilSlice q' [] fq' 0 ∧ KInv arcs n [] q' (cnt arcs) [] ∧ ∀ t, t < 6 → env'.get t = env.get t := by
  have hL := range_loop (P := Tryz.prog) (X := X) (nt := 85) (code := sub (codeOf Tryz.f22) [true,true,true,false,true,false]) (hd := sub (codeOf Tryz.f22) [true,true,true,false,true,false,false,false]) (body := sub (codeOf Tryz.f22) [true,true,true,false,true,false,false,true,true,false,false]) (inc := sub (codeOf Tryz.f22) [true,true,true,false,true,false,false,true,true,true]) (ti := 18) (tn := 17) (tc := 19) (tx := 30) (e := 0) (b := 1) rfl (by omega)
    (fun env H i n h1 h2 => by simp only [codeOf, Tryz.f22, sub, go_seq, go_region, opsSeq_step, opsSeq_guard, guardStep_true, guardStep_false, guardVal, opsSeq_nil, afterStep_some, afterStep_none, stepC, kindOf, quietC, evC, Nat.reduceLT, Tr.get_set, if_true, if_false, Nat.reduceEqDiff, Option.map_some, Option.bind_some, List.getElem?_toArray, List.getElem?_cons_zero, List.getElem?_cons_succ, ofVal, decide_true, decide_false, BEq.rfl, andThen_normal, andThen_exit, andThen_ret, inBlock_normal, inBlock_ret, go_skip, go_exit, go_ret, loudStep, isCall, loudC, targetC, evs, evParts, mapO, List.nil_append, List.append_nil, List.cons_append, loadC, Heap.skip_get, Heap.get_put, Heap.skip_next, Heap.put_next, h1, h2, bin_lss]) (fun env H i h1 hw => by simp only [codeOf, Tryz.f22, sub, go_seq, go_region, opsSeq_step, opsSeq_guard, guardStep_true, guardStep_false, guardVal, opsSeq_nil, afterStep_some, afterStep_none, stepC, kindOf, quietC, evC, Nat.reduceLT, Tr.get_set, if_true, if_false, Nat.reduceEqDiff, Option.map_some, Option.bind_some, List.getElem?_toArray, List.getElem?_cons_zero, List.getElem?_cons_succ, ofVal, decide_true, decide_false, BEq.rfl, andThen_normal, andThen_exit, andThen_ret, inBlock_normal, inBlock_ret, go_skip, go_exit, go_ret, loudStep, isCall, loudC, targetC, evs, evParts, mapO, List.nil_append, List.append_nil, List.cons_append, loadC, Heap.skip_get, Heap.get_put, Heap.skip_next, Heap.put_next, h1, bin_add, hw]) (by omega) (n := n) (by omega)
    (fun i e H' => e.get 16 = some (.slice bb 0 n (.exact n)) ∧ (∀ t, t < 6 → e.get t = env.get t) ∧ ∃ v' q' fq', Kahn H0 H' bb bq n (cnt arcs) v' .nilSlice q' [] fq' 0 ∧ q'.Nodup ∧ ∀ y, y ∈ q' ↔ (y < i ∧ cnt arcs y = 0)) (fun _ _ => False)
    (fun i e H' t v ht ⟨a50, aq, r⟩ => ⟨by rcases ht with rfl | rfl | rfl <;> simp only [Tr.get_set, Nat.reduceEqDiff, if_false, a50], fun s hs => by rcases ht with rfl | rfl | rfl <;> simp only [Tr.get_set, show s ≠ 18 by omega, show s ≠ 30 by omega, show s ≠ 19 by omega, if_false, aq s hs], r⟩)
    (fun i e G hil ⟨a16, aq, v', q', fq', hK, hD, hM⟩ h1 h2 => by
      left
      have hcode : sub (codeOf Tryz.f22) [true,true,true,false,true,false,false,true,true,false,false] = .seq (sub (codeOf Tryz.f22) [true,true,true,false,true,false,false,true,true,false,false,false]) (.seq (sub (codeOf Tryz.f22) [true,true,true,false,true,false,false,true,true,false,false,true,false]) (.cond (.tmp 24) (sub (codeOf Tryz.f22) [true,true,true,false,true,false,false,true,true,false,false,true,true,false]) .skip)) := rfl
      have ga : ∃ e1, go Tryz.prog X 85 (.seq (sub (codeOf Tryz.f22) [true,true,true,false,true,false,false,true,true,false,false,false]) (sub (codeOf Tryz.f22) [true,true,true,false,true,false,false,true,true,false,false,true,false])) e G = some (.normal, e1, G) ∧ e1.get 6 = some (nI i) ∧ e1.get 24 = some (.bool (decide (((cnt arcs i : Nat) : Int) = 0))) ∧ ∀ t, t < 20 → t ≠ 6 → t ≠ 7 → e1.get t = e.get t := by
        simp only [codeOf, Tryz.f22, sub, go_seq, go_region, opsSeq_step, opsSeq_guard, guardStep_true, guardStep_false, guardVal, opsSeq_nil, afterStep_some, afterStep_none, stepC, kindOf, quietC, evC, Nat.reduceLT, Tr.get_set, if_true, if_false, Nat.reduceEqDiff, Option.map_some, Option.bind_some, List.getElem?_toArray, List.getElem?_cons_zero, List.getElem?_cons_succ, ofVal, decide_true, decide_false, BEq.rfl, andThen_normal, andThen_exit, andThen_ret, inBlock_normal, inBlock_ret, go_skip, go_exit, go_ret, loudStep, isCall, loudC, targetC, evs, evParts, mapO, List.nil_append, List.append_nil, List.cons_append, loadC, Heap.skip_get, Heap.get_put, Heap.skip_next, Heap.put_next, a16, h1, idx26 hil, g3, hK.b, cellsOf_get hil, bin_eql]
        refine ⟨_, rfl, by simp only [Tr.get_set, Nat.reduceEqDiff, if_false, if_true], by simp only [Tr.get_set, if_true], fun t ht h6 h7 => ?_⟩
        simp only [Tr.get_set, h6, h7, show t ≠ 20 by omega, show t ≠ 21 by omega, show t ≠ 22 by omega, show t ≠ 23 by omega, show t ≠ 24 by omega, if_false]
      obtain ⟨e1, ga, a6, a24, aq1⟩ := ga
      have glue : ∀ r, go Tryz.prog X 85 (.cond (.tmp 24) (sub (codeOf Tryz.f22) [true,true,true,false,true,false,false,true,true,false,false,true,true,false]) .skip) e1 G = r → go Tryz.prog X 85 (sub (codeOf Tryz.f22) [true,true,true,false,true,false,false,true,true,false,false]) e G = r := by
        intro r hr
        rw [hcode, go_seq]
        rw [go_seq] at ga
        revert ga
        cases go Tryz.prog X 85 (sub (codeOf Tryz.f22) [true,true,true,false,true,false,false,true,true,false,false,false]) e G with
        | none => intro ga; cases ga
        | some y =>
          obtain ⟨y, e', H'⟩ := y
          cases y with
          | normal =>
            rw [andThen_normal, andThen_normal]
            intro ga
            rw [go_seq, ga, andThen_normal, hr]
          | _ => intro ga; cases ga
      by_cases h0 : cnt arcs i = 0
      · rw [show decide (((cnt arcs i : Nat) : Int) = 0) = true by rw [h0]; rfl] at a24
        have hni : i ∉ q' := fun hm => by have := ((hM i).1 hm).1; omega
        have hql : q'.length ≤ n := nodup_short n q' hD fun x hx => by have := ((hM x).1 hx).1; omega
        obtain ⟨H3, v3, q3, fq3, c1, q3h, p3, k3, kq3⟩ := hpush_ok (X := X) (x := i) hX hK.q hK.ok (by omega)
        have c1' : calls Tryz.prog X 36 [.iface 86 (.ptr bq 0), .iface 3 (.int .i64 (i : Nat))] G = some (.tuple [], H3) := c1
        have u86 : ∃ d, Tryz.prog.underlying 86 = some (.pointer d) := ⟨87, by kernel_rfl⟩
        obtain ⟨d86, u86⟩ := u86
        have gc : ∃ e2, go Tryz.prog X 85 (sub (codeOf Tryz.f22) [true,true,true,false,true,false,false,true,true,false,false,true,true,false]) e1 G = some (.normal, e2, H3) ∧ ∀ t, t < 20 → e2.get t = e1.get t := by
          simp only [codeOf, Tryz.f22, sub, go_seq, go_region, opsSeq_step, opsSeq_guard, guardStep_true, guardStep_false, guardVal, opsSeq_nil, afterStep_some, afterStep_none, stepC, kindOf, quietC, evC, Nat.reduceLT, Tr.get_set, if_true, if_false, Nat.reduceEqDiff, Option.map_some, Option.bind_some, List.getElem?_toArray, List.getElem?_cons_zero, List.getElem?_cons_succ, ofVal, decide_true, decide_false, BEq.rfl, andThen_normal, andThen_exit, andThen_ret, inBlock_normal, inBlock_ret, go_skip, go_exit, go_ret, loudStep, isCall, loudC, targetC, evs, evParts, mapO, List.nil_append, List.append_nil, List.cons_append, loadC, Heap.skip_get, Heap.get_put, Heap.skip_next, Heap.put_next, (aq1 5 (by omega) (by omega) (by omega)).trans ((aq 5 (by omega)).trans h5), a6, u86, u3, c1']
          refine ⟨_, rfl, fun t ht => ?_⟩
          simp only [Tr.get_set, show t ≠ 25 by omega, show t ≠ 26 by omega, show t ≠ 27 by omega, show t ≠ 28 by omega, show t ≠ 29 by omega, if_false]
        obtain ⟨e2, gc, cq⟩ := gc
        have hq : ∀ t, t < 20 → t ≠ 6 → t ≠ 7 → e2.get t = e.get t := fun t ht n6 n7 => (cq t ht).trans (aq1 t ht n6 n7)
        have hpp : q3.Perm (i :: q') := p3.trans List.perm_append_comm
        refine ⟨.normal, e2, H3, glue _ ?_, .inl rfl, ⟨(hq 16 (by omega) (by omega) (by omega)).trans a16, fun t ht => (hq t (by omega) (by omega) (by omega)).trans (aq t ht), v3, q3, fq3, hK.queue kq3 k3 q3h, hpp.nodup_iff.2 (List.nodup_cons.2 ⟨hni, hD⟩), fun y => ?_⟩, (hq 18 (by omega) (by omega) (by omega)).trans h1, (hq 17 (by omega) (by omega) (by omega)).trans h2⟩
        · rw [go_cond _ _ _ (v := true) (by simp only [evC, a24]), if_pos rfl, gc]
        · rw [hpp.mem_iff, List.mem_cons, hM y]
          constructor
          · rintro (rfl | ⟨h, h'⟩)
            · exact ⟨by omega, h0⟩
            · exact ⟨by omega, h'⟩
          · rintro ⟨h, h'⟩
            by_cases e : y = i
            · exact .inl e
            · exact .inr ⟨by omega, h'⟩
      · rw [show decide (((cnt arcs i : Nat) : Int) = 0) = false by simp; omega] at a24
        refine ⟨.normal, e1, G, glue _ ?_, .inl rfl, ⟨(aq1 16 (by omega) (by omega) (by omega)).trans a16, fun t ht => (aq1 t (by omega) (by omega) (by omega)).trans (aq t ht), v', q', fq', hK, hD, fun y => ?_⟩, (aq1 18 (by omega) (by omega) (by omega)).trans h1, (aq1 17 (by omega) (by omega) (by omega)).trans h2⟩
        · rw [go_cond _ _ _ (v := false) (by simp only [evC, a24]), if_neg (by simp), go_skip]
        · rw [hM y]
          constructor
          · rintro ⟨h, h'⟩; exact ⟨by omega, h'⟩
          · rintro ⟨h, h'⟩
            refine ⟨?_, h'⟩
            have : y ≠ i := by rintro rfl; exact h0 h'
            omega)
  rcases hL n 0 env H (by omega) ⟨h16, fun _ _ => rfl, v, [], fq, h, List.nodup_nil, fun y => by simp⟩ h18 h17 with ⟨e, H', g, _, aq, v', q', fq', hK, hD, hM⟩ | ⟨_, _, _, f⟩
  · refine ⟨e, H', v', q', fq', g, hK, ⟨by simpa using hD, fun x hx => ?_, fun y hy => by rw [rem_nil]; simp [cnt], fun y hy => ?_, ?_⟩, aq⟩
    · exact ((hM x).1 (by simpa using hx)).1
    · rw [List.append_nil, hM y]
      exact ⟨fun h => h.2, fun h => ⟨hy, h⟩⟩
    · intro l1 x l2 e; simp at e
  · exact f.elim
end Go.Z

namespace Go.Z
open Go.K Go.Proofs
set_option linter.unusedSimpArgs false
set_option linter.unusedVariables false
set_option maxRecDepth 10000

variable {X : CallFn}

theorem bs87_0 (ρ : Operand → Option CV) : allocC Tryz.prog (.buildSlice 87 0 #[]) ρ = some (.cells [] 3 none, fun b => .slice b 0 0 (.exact 0)) := by
  simp only [allocC, u87, s3, Option.bind_some, Nat.zero_mul, ble_t (Nat.zero_le _), zerosC, z3, List.length_singleton, Nat.zero_add, beq_t rfl, rep, evParts, mapO, fillC, Option.map_some]
theorem bx87 (x : Operand) (ρ : Operand → Option CV) {v : CV} (h : ρ x = some v) (hv : v.cells.length = 1) : allocC Tryz.prog (.box 87 x) ρ = some (.cells v.cells 87 none, fun b => .ptr b 0) := by
  simp only [allocC, h, s87, hv, beq_t rfl, Option.bind_some, Option.map_some]

theorem sorted_ok (hX22 : ∀ a H, X 22 a H = none) (hX35 : ∀ a H, X 35 a H = none) (hX : QX X) {bg bm bx : Nat} {nv av : CV} {xs : List CV} {us : List Nat} {arcs : List (Nat × Nat × Nat)} {H : Heap}
    (hg : Gr H bg bm bx nv av xs us arcs) (hk : HOk H) (hn : us.length ≤ 16) (har : arcs.length < 1000) (hlt : ∀ a ∈ arcs, a.2.1 < us.length ∧ a.2.2 < us.length) :
    ∃ w os bf fo H', calls Tryz.prog X 22 [.ptr bg 0] H = some (.tuple [w, .bool (decide (os.length = us.length))], H') ∧ HOk H' ∧ Ext H.next H H' ∧ Own H' fo 1 3 w (os.map nI) ∧ KInv arcs us.length os [] bf [] := by
  have hcode : codeOf Tryz.f22 = .seq (sub (codeOf Tryz.f22) [false]) (.seq (sub (codeOf Tryz.f22) [true,false]) (.seq (sub (codeOf Tryz.f22) [true,true,false]) (.seq (.seq (sub (codeOf Tryz.f22) [true,true,true,false,false]) (.block 0 (sub (codeOf Tryz.f22) [true,true,true,false,true,false]))) (.seq (sub (codeOf Tryz.f22) [true,true,true,true,false]) (.seq (.block 2 (sub (codeOf Tryz.f22) [true,true,true,true,true,false,false])) (.seq (sub (codeOf Tryz.f22) [true,true,true,true,true,true,false]) .ret)))))) := rfl
  have h0 : (envOf [.ptr bg 0] 0 .nil).get 0 = some (.ptr bg 0) := by simp [envOf, Tr.get_set]
  generalize he0 : envOf [CV.ptr bg 0] 0 .nil = e0 at h0
  have gl : go Tryz.prog X 85 (sub (codeOf Tryz.f22) [false]) e0 H = some (.normal, (e0.set 2 .nilSlice).set 3 (.bool false), H) := by simp only [codeOf, Tryz.f22, sub, go_seq, go_region, opsSeq_step, opsSeq_guard, guardStep_true, guardStep_false, guardVal, opsSeq_nil, afterStep_some, afterStep_none, stepC, kindOf, quietC, evC, Nat.reduceLT, Tr.get_set, if_true, if_false, Nat.reduceEqDiff, Option.map_some, Option.bind_some, List.getElem?_toArray, List.getElem?_cons_zero, List.getElem?_cons_succ, ofVal, decide_true, decide_false, BEq.rfl, andThen_normal, andThen_exit, andThen_ret, inBlock_normal, inBlock_ret, go_skip, go_exit, go_ret, loudStep, isCall, loudC, targetC, evs, evParts, mapO, List.nil_append, List.append_nil, List.cons_append, loadC, Heap.skip_get, Heap.get_put, Heap.skip_next, Heap.put_next]
  obtain ⟨bb, H1, c35, k1, x1, b1, nb, lb⟩ := before_ok (X := X) hX35 hg hk hn har hlt
  have ga : ∃ e, go Tryz.prog X 85 (sub (codeOf Tryz.f22) [true,false]) ((e0.set 2 .nilSlice).set 3 (.bool false)) H = some (.normal, e, H1) ∧ e.get 0 = some (.ptr bg 0) ∧ e.get 4 = some (.slice bb 0 us.length (.exact us.length)) := by
    simp only [codeOf, Tryz.f22, sub, go_seq, go_region, opsSeq_step, opsSeq_guard, guardStep_true, guardStep_false, guardVal, opsSeq_nil, afterStep_some, afterStep_none, stepC, kindOf, quietC, evC, Nat.reduceLT, Tr.get_set, if_true, if_false, Nat.reduceEqDiff, Option.map_some, Option.bind_some, List.getElem?_toArray, List.getElem?_cons_zero, List.getElem?_cons_succ, ofVal, decide_true, decide_false, BEq.rfl, andThen_normal, andThen_exit, andThen_ret, inBlock_normal, inBlock_ret, go_skip, go_exit, go_ret, loudStep, isCall, loudC, targetC, evs, evParts, mapO, List.nil_append, List.append_nil, List.cons_append, loadC, Heap.skip_get, Heap.get_put, Heap.skip_next, Heap.put_next, h0, c35]
    exact ⟨_, rfl, by simp only [Tr.get_set, Nat.reduceEqDiff, if_false, h0], by simp only [Tr.get_set, if_true]⟩
  obtain ⟨e1, ga, a0, a4⟩ := ga
  generalize hH2 : (((H1.skip 1).put H1.next (.cells [] 3 none)).skip 1).put (H1.next + 1) (.cells [.slice H1.next 0 0 (.exact 0)] 87 none) = H2
  have x2 : Ext H1.next H1 H2 := by rw [← hH2]; exact ((Ext.skip.trans (Ext.put (Nat.le_refl _))).trans Ext.skip).trans (Ext.put (by omega))
  have k2 : HOk H2 := by rw [← hH2]; exact Hok.put rfl (Hok.skip 1 (Hok.put rfl (Hok.skip 1 k1)))
  have n2 : H2.next = H1.next + 2 := by rw [← hH2]; rfl
  have gq1 : H2.get H1.next = some (.cells [] 3 none) := by rw [← hH2, Heap.get_put, if_neg (by omega), Heap.skip_get, Heap.get_put, if_pos rfl]
  have gq2 : H2.get (H1.next + 1) = some (.cells [.slice H1.next 0 0 (.exact 0)] 87 none) := by rw [← hH2, Heap.get_put, if_pos rfl]
  have gb : ∃ e, go Tryz.prog X 85 (sub (codeOf Tryz.f22) [true,true,false]) e1 H1 = some (.normal, e, H2) ∧ e.get 5 = some (.ptr (H1.next + 1) 0) ∧ e.get 0 = some (.ptr bg 0) ∧ e.get 4 = some (.slice bb 0 us.length (.exact us.length)) := by
    have hbx := fun (ρ : Operand → Option CV) (h : ρ (.tmp 14) = some (.slice H1.next 0 0 (.exact 0))) => bx87 (.tmp 14) ρ h rfl
    simp only [codeOf, Tryz.f22, sub, go_seq, go_region, opsSeq_step, opsSeq_guard, guardStep_true, guardStep_false, guardVal, opsSeq_nil, afterStep_some, afterStep_none, stepC, kindOf, quietC, evC, Nat.reduceLT, Tr.get_set, if_true, if_false, Nat.reduceEqDiff, Option.map_some, Option.bind_some, List.getElem?_toArray, List.getElem?_cons_zero, List.getElem?_cons_succ, ofVal, decide_true, decide_false, BEq.rfl, andThen_normal, andThen_exit, andThen_ret, inBlock_normal, inBlock_ret, go_skip, go_exit, go_ret, loudStep, isCall, loudC, targetC, evs, evParts, mapO, List.nil_append, List.append_nil, List.cons_append, loadC, Heap.skip_get, Heap.get_put, Heap.skip_next, Heap.put_next, bs87_0, hbx, CV.cells, hH2]
    exact ⟨_, rfl, by simp only [Tr.get_set, if_true], by simp only [Tr.get_set, Nat.reduceEqDiff, if_false, a0], by simp only [Tr.get_set, Nat.reduceEqDiff, if_false, a4]⟩
  obtain ⟨e2, gb, b5, b0, b4⟩ := gb
  have hx1 := x1.1
  have hK : Kahn H H2 bb (H1.next + 1) us.length (cnt arcs) (.slice H1.next 0 0 (.exact 0)) .nilSlice [] [] (H1.next + 1) 0 :=
    ⟨x1.trans (x2.le hx1), k2, x2.2 _ _ lb b1, by omega, ⟨gq2, by omega, by omega, .inl ⟨rfl, H1.next, rfl, by omega, gq1⟩⟩, ⟨by simp, .inl ⟨rfl, rfl⟩⟩, nb, by omega, by omega, by omega, fun h => absurd rfl h⟩
  have lenb : ∀ G, lenC Tryz.prog 26 G (.slice bb 0 us.length (.exact us.length)) = some (.int .i64 (us.length : Nat)) := by intro G; simp [lenC, u26]
  have gc : ∃ e, go Tryz.prog X 85 (sub (codeOf Tryz.f22) [true,true,true,false,false]) e2 H2 = some (.normal, e, H2) ∧ e.get 16 = some (.slice bb 0 us.length (.exact us.length)) ∧ e.get 17 = some (.int .i64 (us.length : Nat)) ∧ e.get 18 = some (.int .i64 (0 : Nat)) ∧ ∀ t, t < 6 → e.get t = e2.get t := by
    simp only [codeOf, Tryz.f22, sub, go_seq, go_region, opsSeq_step, opsSeq_guard, guardStep_true, guardStep_false, guardVal, opsSeq_nil, afterStep_some, afterStep_none, stepC, kindOf, quietC, evC, Nat.reduceLT, Tr.get_set, if_true, if_false, Nat.reduceEqDiff, Option.map_some, Option.bind_some, List.getElem?_toArray, List.getElem?_cons_zero, List.getElem?_cons_succ, ofVal, decide_true, decide_false, BEq.rfl, andThen_normal, andThen_exit, andThen_ret, inBlock_normal, inBlock_ret, go_skip, go_exit, go_ret, loudStep, isCall, loudC, targetC, evs, evParts, mapO, List.nil_append, List.append_nil, List.cons_append, loadC, Heap.skip_get, Heap.get_put, Heap.skip_next, Heap.put_next, b4, lenb]
    refine ⟨_, rfl, by simp only [Tr.get_set, Nat.reduceEqDiff, if_false, if_true], by simp only [Tr.get_set, Nat.reduceEqDiff, if_false, if_true], by simp only [Tr.get_set, if_true]; rfl, fun t ht => ?_⟩
    simp only [Tr.get_set, show t ≠ 16 by omega, show t ≠ 17 by omega, show t ≠ 18 by omega, if_false]
  obtain ⟨e3, gc, c16, c17, c18, cq⟩ := gc
  obtain ⟨e4, H4, v4, q4, fq4, gd, hK4, hI4, dq⟩ := srt_start (X := X) hX hK hn ((cq 5 (by omega)).trans b5) c16 c17 c18
  have ge : ∃ e, go Tryz.prog X 85 (sub (codeOf Tryz.f22) [true,true,true,true,false]) e4 H4 = some (.normal, e, H4) ∧ e.get 8 = some .nilSlice ∧ ∀ t, t < 6 → e.get t = e4.get t := by
    simp only [codeOf, Tryz.f22, sub, go_seq, go_region, opsSeq_step, opsSeq_guard, guardStep_true, guardStep_false, guardVal, opsSeq_nil, afterStep_some, afterStep_none, stepC, kindOf, quietC, evC, Nat.reduceLT, Tr.get_set, if_true, if_false, Nat.reduceEqDiff, Option.map_some, Option.bind_some, List.getElem?_toArray, List.getElem?_cons_zero, List.getElem?_cons_succ, ofVal, decide_true, decide_false, BEq.rfl, andThen_normal, andThen_exit, andThen_ret, inBlock_normal, inBlock_ret, go_skip, go_exit, go_ret, loudStep, isCall, loudC, targetC, evs, evParts, mapO, List.nil_append, List.append_nil, List.cons_append, loadC, Heap.skip_get, Heap.get_put, Heap.skip_next, Heap.put_next]
    refine ⟨_, rfl, by simp only [Tr.get_set, if_true], fun t ht => ?_⟩
    simp only [Tr.get_set, show t ≠ 8 by omega, if_false]
  obtain ⟨e5, ge, e58, eq5⟩ := ge
  have hq : ∀ t, t < 6 → e5.get t = e2.get t := fun t ht => (eq5 t ht).trans ((dq t ht).trans (cq t ht))
  obtain ⟨e6, H6, bf6, v6, w6, os6, fq6, fo6, gf, hK6, hI6, f0, f8⟩ := srt_loop (X := X) hX hg hn har hlt us.length e5 H4 (cnt arcs) v4 .nilSlice q4 [] fq4 0 (by simp) hK4 hI4 (fun y _ => by have := cnt_le arcs y; omega)
    ((hq 0 (by omega)).trans b0) ((hq 4 (by omega)).trans b4) ((hq 5 (by omega)).trans b5) e58
  have hg6 := hg.ext hK6.ext
  have hlenn := hg.n.len (P := Tryz.prog) u30
  rw [List.length_map] at hlenn
  have hleno := hK6.o.has.len (P := Tryz.prog) u26
  rw [List.length_map] at hleno
  have gg : ∃ e, go Tryz.prog X 85 (sub (codeOf Tryz.f22) [true,true,true,true,true,true,false]) e6 H6 = some (.normal, e, H6.skip 11) ∧ e.get 2 = some w6 ∧ e.get 3 = some (.bool (decide ((os6.length : Int) = (us.length : Int)))) := by
    simp only [codeOf, Tryz.f22, sub]
    rw [go_planned [(0,0,[8],false),(1,0,[8],false),(2,0,[77],false),(3,0,[0],false),(4,0,[79],false),(5,0,[80],false),(6,0,[81],false),(7,0,[82],false),(8,0,[78,83],false),(9,0,[76],false),(10,0,[84],false)] rfl (by kernel_rfl)]
    simp only [drawStep_guard, guardDS_true, guardDS_false, guardVal, BEq.rfl, planRun_cons, planRun_nil, planStep, planEnd, List.getElem?_cons_zero, List.getElem?_cons_succ, drawStep_eq, kindOf, quietAt, quietC, evR, evC, memN, beq_dec, Nat.reduceEqDiff, decide_true, decide_false, setDS_some, loudDS_some, loudDS_none, allocDS_some, Nat.reduceLT, Tr.get_set, if_true, if_false, Option.map_some, Option.bind_some, List.length_cons, List.length_nil, sameAt, Nat.reduceAdd, Nat.reduceSub, ofVal, loadC, Heap.skip_get, Heap.get_put, loudStep, isCall, targetC, evs, evParts, mapO, List.cons_append, List.nil_append, List.append_nil, putAll, ne_eq, reduceCtorEq, not_false_eq_true, Int.reduceEq, eq_self, cbeq_int, cbeq_ptr, cbeq_str, cbeq_bool, cbeq_map, cbeq_slice, cbeq_nilSlice, Bool.and_self, Bool.and_true, Int.reduceNeg, List.append_eq, loudC, List.getElem?_toArray, f8, f0, hleno, hlenn, fa77_0, g30, hg6.g, bin_eql]
    exact ⟨_, rfl, by simp only [Tr.get_set, Nat.reduceEqDiff, if_false, if_true], by simp only [Tr.get_set, if_true]⟩
  obtain ⟨e7, gg, g2, g3'⟩ := gg
  have hd : decide ((os6.length : Int) = (us.length : Int)) = decide (os6.length = us.length) := by
    by_cases h : os6.length = us.length
    · simp [h]
    · rw [decide_eq_false h, decide_eq_false (by omega)]
  rw [hd] at g3'
  have x7 : Ext H6.next H6 (H6.skip 11) := Ext.skip
  refine ⟨w6, os6, bf6, fo6, H6.skip 11, calls_ret (hX22 _ _) Tryz.func22 rfl (by decide) (nt := 85) rfl (env' := e7) ?_ (results_two g2 g3'), Hok.skip 11 hK6.ok, hK6.ext.trans (x7.le hK6.ext.1), hK6.o.ext x7 hK6.o.lt, hI6⟩
  rw [he0, hcode, go_seq, gl, andThen_normal, go_seq, ga, andThen_normal, go_seq, gb, andThen_normal, go_seq, go_seq, gc, andThen_normal, go_block, gd, inBlock_exit, if_pos rfl, andThen_normal, go_seq, ge, andThen_normal, go_seq, go_block, gf, inBlock_exit, if_pos rfl, andThen_normal, go_seq, gg, andThen_normal, go_ret]
end Go.Z

namespace Go.Z
open Go.K Go.Proofs
set_option linter.unusedSimpArgs false
set_option linter.unusedVariables false
set_option maxRecDepth 10000

variable {X : CallFn}

theorem bs30_1 (x : Operand) (ρ : Operand → Option CV) : allocC Tryz.prog (.buildSlice 30 1 #[(0, x)]) ρ = (ρ x).bind fun v => if v.cells.length = 0 + 1 then some (.cells v.cells 9 none, fun b => .slice b 0 1 (.exact 1)) else none :=
  allocC_one u30 s9 z9 rfl (by omega) x ρ
theorem name_ok (hX23 : ∀ a H, X 23 a H = none) {bg bm bx : Nat} {nv av w : CV} {xs : List CV} {us os : List Nat} {arcs : List (Nat × Nat × Nat)} {H : Heap}
    (hg : Gr H bg bm bx nv av xs us arcs) (hk : HOk H) (hw : Has H 1 3 w (os.map nI)) (hos : os.length ≤ 1000) (hlt : ∀ x ∈ os, x < us.length) :
    ∃ v f H', calls Tryz.prog X 23 [.ptr bg 0, w] H = some (v, H') ∧ HOk H' ∧ Ext H.next H H' ∧ Own H' f 1 9 v (os.map fun i => nm (us.getD i 0)) := by
  have hcode : codeOf Tryz.f23 = .seq (sub (codeOf Tryz.f23) [false]) (.seq (sub (codeOf Tryz.f23) [true,false]) (.seq (.seq (sub (codeOf Tryz.f23) [true,true,false,false]) (.block 0 (sub (codeOf Tryz.f23) [true,true,false,true,false]))) (.seq (sub (codeOf Tryz.f23) [true,true,true,false]) .ret))) := rfl
  generalize he0 : envOf [CV.ptr bg 0, w] 0 .nil = e0
  have h0 : e0.get 0 = some (.ptr bg 0) := by rw [← he0]; simp [envOf, Tr.get_set]
  have h1 : e0.get 1 = some w := by rw [← he0]; simp [envOf, Tr.get_set]
  have hlen := hw.len (P := Tryz.prog) u26
  rw [List.length_map] at hlen
  have ga : go Tryz.prog X 26 (sub (codeOf Tryz.f23) [false]) e0 H = some (.normal, e0.set 4 .nilSlice, H) := by simp only [codeOf, Tryz.f23, sub, go_seq, go_region, opsSeq_step, opsSeq_guard, guardStep_true, guardStep_false, guardVal, opsSeq_nil, afterStep_some, afterStep_none, stepC, kindOf, quietC, evC, Nat.reduceLT, Tr.get_set, if_true, if_false, Nat.reduceEqDiff, Option.map_some, Option.bind_some, List.getElem?_toArray, List.getElem?_cons_zero, List.getElem?_cons_succ, ofVal, decide_true, decide_false, BEq.rfl, andThen_normal, andThen_exit, andThen_ret, inBlock_normal, inBlock_ret, go_skip, go_exit, go_ret, loudStep, isCall, loudC, targetC, evs, evParts, mapO, List.nil_append, List.append_nil, List.cons_append, loadC, Heap.skip_get, Heap.get_put, Heap.skip_next, Heap.put_next]
  have gb : go Tryz.prog X 26 (sub (codeOf Tryz.f23) [true,false]) (e0.set 4 .nilSlice) H = some (.normal, (e0.set 4 .nilSlice).set 5 .nilSlice, H) := by simp only [codeOf, Tryz.f23, sub, go_seq, go_region, opsSeq_step, opsSeq_guard, guardStep_true, guardStep_false, guardVal, opsSeq_nil, afterStep_some, afterStep_none, stepC, kindOf, quietC, evC, Nat.reduceLT, Tr.get_set, if_true, if_false, Nat.reduceEqDiff, Option.map_some, Option.bind_some, List.getElem?_toArray, List.getElem?_cons_zero, List.getElem?_cons_succ, ofVal, decide_true, decide_false, BEq.rfl, andThen_normal, andThen_exit, andThen_ret, inBlock_normal, inBlock_ret, go_skip, go_exit, go_ret, loudStep, isCall, loudC, targetC, evs, evParts, mapO, List.nil_append, List.append_nil, List.cons_append, loadC, Heap.skip_get, Heap.get_put, Heap.skip_next, Heap.put_next]
  have gc : ∃ e, go Tryz.prog X 26 (sub (codeOf Tryz.f23) [true,true,false,false]) ((e0.set 4 .nilSlice).set 5 .nilSlice) H = some (.normal, e, H) ∧ e.get 0 = some (.ptr bg 0) ∧ e.get 5 = some .nilSlice ∧ e.get 8 = some w ∧ e.get 9 = some (.int .i64 (os.length : Nat)) ∧ e.get 10 = some (.int .i64 (0 : Nat)) := by
    simp only [codeOf, Tryz.f23, sub, go_seq, go_region, opsSeq_step, opsSeq_guard, guardStep_true, guardStep_false, guardVal, opsSeq_nil, afterStep_some, afterStep_none, stepC, kindOf, quietC, evC, Nat.reduceLT, Tr.get_set, if_true, if_false, Nat.reduceEqDiff, Option.map_some, Option.bind_some, List.getElem?_toArray, List.getElem?_cons_zero, List.getElem?_cons_succ, ofVal, decide_true, decide_false, BEq.rfl, andThen_normal, andThen_exit, andThen_ret, inBlock_normal, inBlock_ret, go_skip, go_exit, go_ret, loudStep, isCall, loudC, targetC, evs, evParts, mapO, List.nil_append, List.append_nil, List.cons_append, loadC, Heap.skip_get, Heap.get_put, Heap.skip_next, Heap.put_next, h1, hlen]
    exact ⟨_, rfl, by simp only [Tr.get_set, Nat.reduceEqDiff, if_false, h0], by simp only [Tr.get_set, Nat.reduceEqDiff, if_false, if_true], by simp only [Tr.get_set, Nat.reduceEqDiff, if_false, if_true], by simp only [Tr.get_set, Nat.reduceEqDiff, if_false, if_true], by simp only [Tr.get_set, if_true]; rfl⟩
  obtain ⟨e1, gc, a0, a5, a8, a9, a10⟩ := gc
  have hL := range_loop (P := Tryz.prog) (X := X) (nt := 26) (code := sub (codeOf Tryz.f23) [true,true,false,true,false]) (hd := sub (codeOf Tryz.f23) [true,true,false,true,false,false,false]) (body := sub (codeOf Tryz.f23) [true,true,false,true,false,false,true,true,false,false]) (inc := sub (codeOf Tryz.f23) [true,true,false,true,false,false,true,true,true]) (ti := 10) (tn := 9) (tc := 11) (tx := 24) (e := 0) (b := 1) rfl (by omega)
    (fun env H i n h1 h2 => by simp only [codeOf, Tryz.f23, sub, go_seq, go_region, opsSeq_step, opsSeq_guard, guardStep_true, guardStep_false, guardVal, opsSeq_nil, afterStep_some, afterStep_none, stepC, kindOf, quietC, evC, Nat.reduceLT, Tr.get_set, if_true, if_false, Nat.reduceEqDiff, Option.map_some, Option.bind_some, List.getElem?_toArray, List.getElem?_cons_zero, List.getElem?_cons_succ, ofVal, decide_true, decide_false, BEq.rfl, andThen_normal, andThen_exit, andThen_ret, inBlock_normal, inBlock_ret, go_skip, go_exit, go_ret, loudStep, isCall, loudC, targetC, evs, evParts, mapO, List.nil_append, List.append_nil, List.cons_append, loadC, Heap.skip_get, Heap.get_put, Heap.skip_next, Heap.put_next, h1, h2, bin_lss]) (fun env H i h1 hw => by simp only [codeOf, Tryz.f23, sub, go_seq, go_region, opsSeq_step, opsSeq_guard, guardStep_true, guardStep_false, guardVal, opsSeq_nil, afterStep_some, afterStep_none, stepC, kindOf, quietC, evC, Nat.reduceLT, Tr.get_set, if_true, if_false, Nat.reduceEqDiff, Option.map_some, Option.bind_some, List.getElem?_toArray, List.getElem?_cons_zero, List.getElem?_cons_succ, ofVal, decide_true, decide_false, BEq.rfl, andThen_normal, andThen_exit, andThen_ret, inBlock_normal, inBlock_ret, go_skip, go_exit, go_ret, loudStep, isCall, loudC, targetC, evs, evParts, mapO, List.nil_append, List.append_nil, List.cons_append, loadC, Heap.skip_get, Heap.get_put, Heap.skip_next, Heap.put_next, h1, bin_add, hw]) (by omega) (n := os.length) (by omega)
    (fun i e H' => e.get 0 = some (.ptr bg 0) ∧ e.get 8 = some w ∧ HOk H' ∧ Ext H.next H H' ∧ ∃ v f, e.get 5 = some v ∧ Own H' f 1 9 v ((os.take i).map fun i => nm (us.getD i 0)) ∧ (v ≠ .nilSlice → H.next ≤ f)) (fun _ _ => False)
    (fun i e H' t v ht ⟨a0, a8, k, x, v', f, a5, r⟩ => ⟨by rcases ht with rfl | rfl | rfl <;> simp only [Tr.get_set, Nat.reduceEqDiff, if_false, a0], by rcases ht with rfl | rfl | rfl <;> simp only [Tr.get_set, Nat.reduceEqDiff, if_false, a8], k, x, v', f, by rcases ht with rfl | rfl | rfl <;> simp only [Tr.get_set, Nat.reduceEqDiff, if_false, a5], r⟩)
    (fun i e G hi ⟨a0, a8, k, x, v, f, a5, own, hf⟩ q1 q2 => by
      left
      obtain ⟨b, off, cs, fam, hb, _, hidx, hget, hcells, hcell⟩ := (hw.ext x hw.lt).at (P := Tryz.prog) (t := 26) u26 s3 (i := i) (by simpa using hi)
      rw [List.getElem_map] at hcell
      have hc0 : cs[off]? = some (.int .i64 (os[i] : Nat)) := hcell 0 _ rfl
      have ga : ∃ e1, go Tryz.prog X 26 (sub (codeOf Tryz.f23) [true,true,false,true,false,false,true,true,false,false,false]) e G = some (.normal, e1, G) ∧ e1.get 7 = some (nI os[i]) ∧ ∀ t, t < 12 → t ≠ 7 → e1.get t = e.get t := by
        simp only [codeOf, Tryz.f23, sub, go_seq, go_region, opsSeq_step, opsSeq_guard, guardStep_true, guardStep_false, guardVal, opsSeq_nil, afterStep_some, afterStep_none, stepC, kindOf, quietC, evC, Nat.reduceLT, Tr.get_set, if_true, if_false, Nat.reduceEqDiff, Option.map_some, Option.bind_some, List.getElem?_toArray, List.getElem?_cons_zero, List.getElem?_cons_succ, ofVal, decide_true, decide_false, BEq.rfl, andThen_normal, andThen_exit, andThen_ret, inBlock_normal, inBlock_ret, go_skip, go_exit, go_ret, loudStep, isCall, loudC, targetC, evs, evParts, mapO, List.nil_append, List.append_nil, List.cons_append, loadC, Heap.skip_get, Heap.get_put, Heap.skip_next, Heap.put_next, a8, q1, hidx, g3, hget, hc0]
        refine ⟨_, rfl, by simp only [Tr.get_set, if_true], fun t ht h7 => ?_⟩
        simp only [Tr.get_set, h7, show t ≠ 12 by omega, show t ≠ 13 by omega, if_false]
      obtain ⟨e1, ga, b7, aq⟩ := ga
      have hm := hlt _ (List.getElem_mem hi)
      have hgG := hg.ext x
      obtain ⟨b', off', cs', fam', hb', _, hidx', hget', hcells', hcell'⟩ := hgG.n.at (P := Tryz.prog) (t := 30) u30 s9 (i := os[i]) (by simpa using hm)
      rw [List.getElem_map] at hcell'
      have hud : us.getD os[i] 0 = us[os[i]] := by rw [List.getD_eq_getElem?_getD, List.getElem?_eq_getElem hm]; rfl
      have hc0' : cs'[off']? = some (nm us[os[i]]) := hcell' 0 _ rfl
      generalize hH1 : (G.skip 1).put G.next (.cells [nm us[os[i]]] 9 none) = H1
      have x1 : Ext G.next G H1 := by rw [← hH1]; exact Ext.skip.trans (Ext.put (Nat.le_refl _))
      have k1 : HOk H1 := by rw [← hH1]; exact Hok.put rfl (Hok.skip 1 k)
      have n1 : H1.next = G.next + 1 := by rw [← hH1]; rfl
      have hel : elemsC H1 1 (.slice G.next 0 1 (.exact 1)) = some ([nm us[os[i]]].length, [nm us[os[i]]].flatMap CV.cells) := by
        have : H1.get G.next = some (.cells [nm us[os[i]]] 9 none) := by rw [← hH1, Heap.get_put, if_pos rfl]
        simp [elemsC, this, takeE, nm_cells]
      obtain ⟨ti, i1, i2, i3⟩ := i9
      obtain ⟨v', H2, f', hap, hf1, hf2, hown, hok, hnext, hkeep⟩ := Own.append (P := Tryz.prog) (t0 := 30) (t1 := 30) (ys := [nm us[os[i]]]) (d := .slice 9) (z := [.str .empty]) (own.ext x1 own.lt) k1 hel (by simp [nm_cells]) (by simp) u30 u30 (by intro k e; cases e) i1 i2 (by omega) z9 rfl (by simp [nm_cells, nm_single])
        (by rw [i3]; simp only [List.length_map, List.length_take, List.length_singleton]; omega) (by simp only [List.length_map, List.length_take, List.length_singleton]; omega)
      have gb : ∃ e2, go Tryz.prog X 26 (sub (codeOf Tryz.f23) [true,true,false,true,false,false,true,true,false,false,true]) e1 G = some (.normal, e2, H2) ∧ e2.get 5 = some v' ∧ ∀ t, t < 12 → t ≠ 5 → e2.get t = e1.get t := by
        have b7' : e1.get 7 = some (.int .i64 (os[i] : Nat)) := b7
        simp only [codeOf, Tryz.f23, sub, go_seq, go_region, opsSeq_step, opsSeq_guard, guardStep_true, guardStep_false, guardVal, opsSeq_nil, afterStep_some, afterStep_none, stepC, kindOf, quietC, evC, Nat.reduceLT, Tr.get_set, if_true, if_false, Nat.reduceEqDiff, Option.map_some, Option.bind_some, List.getElem?_toArray, List.getElem?_cons_zero, List.getElem?_cons_succ, ofVal, decide_true, decide_false, BEq.rfl, andThen_normal, andThen_exit, andThen_ret, inBlock_normal, inBlock_ret, go_skip, go_exit, go_ret, loudStep, isCall, loudC, targetC, evs, evParts, mapO, List.nil_append, List.append_nil, List.cons_append, loadC, Heap.skip_get, Heap.get_put, Heap.skip_next, Heap.put_next, (aq 5 (by omega) (by omega)).trans a5, (aq 0 (by omega) (by omega)).trans a0, b7', fa77_0, g30, hgG.g, Nat.zero_add, hidx', g9, hget', hc0', bs30_1, nm_cells, List.length_cons, List.length_nil, Nat.reduceAdd, hH1, hap]
        refine ⟨_, rfl, by simp only [Tr.get_set, if_true], fun t ht h7 => ?_⟩
        simp only [Tr.get_set, h7, show t ≠ 14 by omega, show t ≠ 15 by omega, show t ≠ 16 by omega, show t ≠ 17 by omega, show t ≠ 18 by omega, show t ≠ 19 by omega, show t ≠ 20 by omega, show t ≠ 21 by omega, show t ≠ 22 by omega, show t ≠ 23 by omega, if_false]
      obtain ⟨e2, gb, c5, cq⟩ := gb
      have hx2 : Ext H.next H1 H2 := keep_ext k1 (by omega) (by have := x.1; omega) hf hkeep
      have hq : ∀ t, t < 12 → t ≠ 5 → t ≠ 7 → e2.get t = e.get t := fun t ht n5 n7 => (cq t ht n5).trans (aq t ht n7)
      refine ⟨.normal, e2, H2, ?_, .inl rfl, ⟨(hq 0 (by omega) (by omega) (by omega)).trans a0, (hq 8 (by omega) (by omega) (by omega)).trans a8, hok, (x.trans (x1.le x.1)).trans hx2, v', f', c5, ?_, fun hv => ?_⟩, (hq 10 (by omega) (by omega) (by omega)).trans q1, (hq 9 (by omega) (by omega) (by omega)).trans q2⟩
      · show go Tryz.prog X 26 (.seq (sub (codeOf Tryz.f23) [true,true,false,true,false,false,true,true,false,false,false]) (sub (codeOf Tryz.f23) [true,true,false,true,false,false,true,true,false,false,true])) e G = _
        rw [go_seq, ga, andThen_normal, gb]
      · rw [List.take_succ_eq_append_getElem hi, List.map_append, List.map_singleton, hud]
        exact hown
      · by_cases hv0 : v = .nilSlice
        · rw [hf1 hv0]; have := x.1; omega
        · rw [hf2 hv0]; exact hf hv0)
  rcases hL os.length 0 e1 H (by omega) ⟨a0, a8, hk, Ext.refl _ _, .nilSlice, 0, a5, ⟨by simp, .inl ⟨rfl, by simp⟩⟩, fun h => absurd rfl h⟩ a10 a9 with ⟨e2, H2, g, b0, b8, k2, x2, v, f, b5, own, _⟩ | ⟨_, _, _, f⟩
  · rw [List.take_length] at own
    have gz : go Tryz.prog X 26 (.seq (sub (codeOf Tryz.f23) [true,true,true,false]) .ret) e2 H2 = some (.ret, (e2.set 25 v).set 4 v, H2) := by simp only [codeOf, Tryz.f23, sub, go_seq, go_region, opsSeq_step, opsSeq_guard, guardStep_true, guardStep_false, guardVal, opsSeq_nil, afterStep_some, afterStep_none, stepC, kindOf, quietC, evC, Nat.reduceLT, Tr.get_set, if_true, if_false, Nat.reduceEqDiff, Option.map_some, Option.bind_some, List.getElem?_toArray, List.getElem?_cons_zero, List.getElem?_cons_succ, ofVal, decide_true, decide_false, BEq.rfl, andThen_normal, andThen_exit, andThen_ret, inBlock_normal, inBlock_ret, go_skip, go_exit, go_ret, loudStep, isCall, loudC, targetC, evs, evParts, mapO, List.nil_append, List.append_nil, List.cons_append, loadC, Heap.skip_get, Heap.get_put, Heap.skip_next, Heap.put_next, b5]
    refine ⟨v, f, H2, calls_ret (hX23 _ _) Tryz.func23 rfl (by decide) (nt := 26) rfl (env' := (e2.set 25 v).set 4 v) ?_ (results_one (by simp only [Tr.get_set, if_true])), k2, x2, own⟩
    rw [he0, hcode, go_seq, ga, andThen_normal, go_seq, gb, andThen_normal, go_seq, go_seq, gc, andThen_normal, go_block, g, inBlock_exit, if_pos rfl, andThen_normal, gz]
  · exact f.elim
end Go.Z
