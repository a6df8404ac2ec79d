/- The two iterators over slices. Functions with a range over a function: AppendSeq and Ranks. -/
import Derived.Test.YtmnhkbhdfkebmaaGreatY14
import Derived.Test.YtmnhkbhdfkebmaaGreatK14
import Derived.Test.YtmnhkbhdfkebmaaGreatK15

set_option linter.unusedSimpArgs false
set_option linter.unusedVariables false

namespace Go.Y
open Go.K Go.Proofs Go
set_option linter.unusedSimpArgs false
set_option linter.unusedVariables false
set_option maxRecDepth 10000

variable {X : CallFn}

/-- An element of a slice of numbers. -/
noncomputable def elemAt (H : Heap) (v : CV) (j : Nat) : Option CV := match indexAddrC Tryz.prog 34 v (.int .i64 (j : Nat)) with
  | some (.ptr b off) => loadC Tryz.prog 3 H b off
  | _ => none
noncomputable def valArgs (v : CV) (j : Nat) (H : Heap) : Option (List CV) := (elemAt H v j).map fun y => [y]
noncomputable def backArgs (bx N : Nat) (j : Nat) (H : Heap) : Option (List CV) := match loadC Tryz.prog 34 H bx 0 with
  | some v => (elemAt H v (N - 1 - j)).map fun y => [.int .i64 ((N - 1 - j : Nat) : Int), y]
  | none => none

theorem yieldCV {η : Eta} {l : Nat} {v : Value} (h : (CV.func (.yield l) [] []).val η = some v) : v = .func (.yield l) #[] #[] := by
  simp [CV.val, CV.vals] at h; exact h.symm

theorem wanted_none {dst : Option Tmp} {op : Op} {type : TypeId} {pos : String} {af : Array Edge} {y : Nat → Option Bool} : Region.wanted ⟨dst, op, type, pos, af, none⟩ y = true := rfl

theorem results_nil {P : Program} {env : Env} {H : Heap} : resultsC P [] env H = some (.tuple []) := rfl

theorem values_it (hX : CallOK Tryz.prog X) (hmx : Tryz.prog.follows .mixedOrders = true) {η0 : Eta} {H0 H' : Heap} {w0 : World} (h0 : HRel η0 H0 w0) {nt0 bx N ly D m : Nat} {env0 : Env} {tmps0 : Array Value} {ps : Array Tmp} {assign body : Code} {fn : FuncId} {v : CV} {vb : Value} {W : World}
    (ha0 : ARel η0 nt0 env0 ⟨tmps0, []⟩) (hp : ∀ p ∈ ps.toList, p < nt0) (hvb : (CV.ptr bx 0).val η0 = some vb) (hv : loadC Tryz.prog 34 H0 bx 0 = some v) (hn : lenC Tryz.prog 34 H0 v = some (.int .i64 (N : Nat))) (hN : N < 1000000)
    (hr : rounds (go Tryz.prog X) nt0 env0 ps.toList assign body (valArgs v) N 0 H0 = some H') (hR : Rd η0 H0 w0 ly D (recL fn tmps0 ps assign body D) η0 H0 W) :
    CallsIn (K.Fr none) m Tryz.prog 94 #[.func (.yield ly) #[] #[], vb] W fun e W' => (∃ v, e = .returned v) ∧ ∃ η', Rd η0 H0 w0 ly D (recL fn tmps0 ps assign body D) η' H' W' := by
  obtain ⟨Hs, s0, sN, hs⟩ := rounds_trace hr
  rw [Nat.zero_add] at sN
  refine callsIn_of_wp Tryz.func94 (c := codeOf Tryz.f94) rfl trivial ?_
  have hent : ARel η0 16 (envOf [CV.func (.yield ly) [] [], .ptr bx 0] 0 .nil) { tmps := #[.func (.yield ly) #[] #[], vb] ++ Array.replicate (Tryz.f94.ntmps - 2) undef, defers := [] } :=
    enter_rel (ntmps := Tryz.f94.ntmps) (args := [CV.func (.yield ly) [] [], .ptr bx 0]) (vs := [.func (.yield ly) #[] #[], vb]) (by simp [CV.vals, hvb]; rfl)
  have e0 : (envOf [CV.func (.yield ly) [] [], .ptr bx 0] 0 .nil).get 0 = some (.func (.yield ly) [] []) := by simp [envOf, Tr.get_set]
  have e1 : (envOf [CV.func (.yield ly) [] [], .ptr bx 0] 0 .nil).get 1 = some (.ptr bx 0) := by simp [envOf, Tr.get_set]
  have hcode : codeOf Tryz.f94 = .seq (sub (codeOf Tryz.f94) [false]) (.block 0 (.loop (.seq (sub (codeOf Tryz.f94) [true,false,false,false]) (.seq (.cond (.tmp 8) .skip (.exit 0)) (.seq (.block 1 (sub (codeOf Tryz.f94) [true,false,false,true,true,false,false])) (sub (codeOf Tryz.f94) [true,false,false,true,true,true])))))) := rfl
  have ga : ∃ e, go Tryz.prog X 16 (sub (codeOf Tryz.f94) [false]) (envOf [CV.func (.yield ly) [] [], .ptr bx 0] 0 .nil) H0 = some (.normal, e, H0) ∧ e.get 0 = some (.func (.yield ly) [] []) ∧ e.get 5 = some v ∧ e.get 6 = some (.int .i64 (N : Nat)) ∧ e.get 7 = some (.int .i64 (0 : Nat)) := by
    have hl : ∀ (x : Operand), quietC Tryz.prog (.load 34 x) (evC (envOf [CV.func (.yield ly) [] [], .ptr bx 0] 0 .nil)) H0 = (match evC (envOf [CV.func (.yield ly) [] [], .ptr bx 0] 0 .nil) x with | some (.ptr b off) => loadC Tryz.prog 34 H0 b off | _ => none) := fun _ => rfl
    simp only [codeOf, Tryz.f94, sub, go_region, opsSeq_step, opsSeq_nil, afterStep_some, stepC, kindOf, hl]
    simp only [evC, e1, hv, Option.map_some, afterStep_some, Nat.reduceLT, opsSeq_step, stepC, kindOf, quietC, evC, Tr.get_set, if_true, evs, mapO, Option.bind_some, hn, List.getElem?_toArray, List.getElem?_cons_zero, ofVal, opsSeq_nil]
    exact ⟨_, rfl, by simp only [Tr.get_set, Nat.reduceEqDiff, if_false, e0], by simp only [Tr.get_set, Nat.reduceEqDiff, if_false, if_true], by simp only [Tr.get_set, Nat.reduceEqDiff, if_false, if_true], by simp only [Tr.get_set, if_true]; rfl⟩
  obtain ⟨ea, ga, a0, a5, a6, a7⟩ := ga
  rw [hcode]
  refine wpIn_seq ((go_soundR hX hmx _ _ _ _ _ _ _ ga).2 η0 _ W hent hR.m.rel _ ?_)
  intro η1 a1 w1 ha1 m1
  refine wpIn_block ?_
  have hR1 : Rd η0 H0 w0 ly D (recL fn tmps0 ps assign body D) η1 (Hs 0) w1 := by rw [s0]; exact hR.step h0 m1
  refine wpIn_mono (iter_loop2 hX hmx h0 (nt := 16) (N := N) Hs
    (fun j e => e.get 0 = some (.func (.yield ly) [] []) ∧ e.get 5 = some v ∧ e.get 6 = some (.int .i64 (N : Nat)) ∧ e.get 7 = some (.int .i64 (j : Nat)))
    (fun j e => e.get 0 = some (.func (.yield ly) [] []) ∧ e.get 5 = some v ∧ e.get 6 = some (.int .i64 (N : Nat)) ∧ e.get 7 = some (.int .i64 (j : Nat)))
    (fun j e ⟨b0, b5, b6, b7⟩ hj => ?_) (fun j e η a w hj ⟨b0, b5, b6, b7⟩ ha hRj => ?_) (fun j e hj ⟨b0, b5, b6, b7⟩ => ?_) N 0 ea η1 a1 w1 (by omega) ⟨a0, a5, a6, a7⟩ ha1 hR1) ?_
  · have hd : decide ((j : Int) < (N : Int)) = decide (j < N) := by
      by_cases h : j < N
      · have : (j : Int) < (N : Int) := by omega
        simp [h, this]
      · have : ¬ (j : Int) < (N : Int) := by omega
        simp only [h, this]
    simp only [codeOf, Tryz.f94, sub, go_seq, go_region, opsSeq_step, opsSeq_guard, guardStep_true, guardStep_false, guardVal, opsSeq_nil, afterStep_some, afterStep_none, stepC, kindOf, quietC, evC, Nat.reduceLT, Tr.get_set, if_true, if_false, Nat.reduceEqDiff, Option.map_some, Option.bind_some, List.getElem?_toArray, List.getElem?_cons_zero, List.getElem?_cons_succ, ofVal, decide_true, decide_false, BEq.rfl, andThen_normal, andThen_exit, andThen_ret, inBlock_normal, inBlock_ret, go_skip, go_exit, go_ret, loudStep, isCall, loudC, targetC, evs, evParts, mapO, List.nil_append, List.append_nil, List.cons_append, loadC, Heap.skip_get, Heap.get_put, Heap.skip_next, Heap.put_next, b6, b7, bin_lss, hd]
    exact ⟨_, rfl, by simp only [Tr.get_set, if_true], by simp only [Tr.get_set, Nat.reduceEqDiff, if_false, b0], by simp only [Tr.get_set, Nat.reduceEqDiff, if_false, b5], by simp only [Tr.get_set, Nat.reduceEqDiff, if_false, b6], by simp only [Tr.get_set, Nat.reduceEqDiff, if_false, b7]⟩
  · obtain ⟨ys, f1, H1, f2, q1, q2, q3, q4⟩ := hs j (Nat.zero_le _) (by omega)
    simp only [valArgs, Option.map_eq_some_iff] at q1
    obtain ⟨y, hy, rfl⟩ := q1
    obtain ⟨bb, off, hidx, hld⟩ : ∃ bb off, indexAddrC Tryz.prog 34 v (.int .i64 (j : Nat)) = some (.ptr bb off) ∧ loadC Tryz.prog 3 (Hs j) bb off = some y := by
      unfold elemAt at hy
      split at hy
      · rename_i bb off h1
        exact ⟨bb, off, h1, hy⟩
      · cases hy
    have hcodeB : sub (codeOf Tryz.f94) [true,false,false,true,true,false,false] = .seq (sub (codeOf Tryz.f94) [true,false,false,true,true,false,false,false]) (.seq (sub (codeOf Tryz.f94) [true,false,false,true,true,false,false,true,false]) (.cond (.tmp 14) .ret .skip)) := rfl
    have gb : ∃ e2, go Tryz.prog X 16 (sub (codeOf Tryz.f94) [true,false,false,true,true,false,false,false]) e (Hs j) = some (.normal, e2, Hs j) ∧ e2.get 4 = some y ∧ ∀ t, t < 9 → t ≠ 4 → e2.get t = e.get t := by
      have hl : ∀ (x : Operand) (en : Env), quietC Tryz.prog (.load 3 x) (evC en) (Hs j) = (match evC en x with | some (.ptr b off) => loadC Tryz.prog 3 (Hs j) b off | _ => none) := fun _ _ => rfl
      simp only [codeOf, Tryz.f94, sub, go_region, opsSeq_step, opsSeq_nil, afterStep_some, stepC, kindOf, hl]
      simp only [quietC, evC, b5, b7, Option.bind_some, hidx, Option.map_some, afterStep_some, Nat.reduceLT, opsSeq_step, stepC, kindOf, hl, evC, Tr.get_set, if_true, hld, opsSeq_nil, quietC]
      refine ⟨_, rfl, by simp only [Tr.get_set, if_true], fun t ht n1 => ?_⟩
      simp only [Tr.get_set, n1, show t ≠ 9 by omega, show t ≠ 10 by omega, if_false]
    obtain ⟨e2, gb, c4, cq⟩ := gb
    rw [hcodeB]
    refine wpIn_seq ((go_soundR hX hmx _ _ _ _ _ _ _ gb).2 η a w ha hRj.m.rel _ ?_)
    intro η2 a2 w2 ha2 m2
    have hR2 := hRj.step h0 m2
    -- the call of yield
    have gc : ∃ e3, opsSeq (calls Tryz.prog X) Tryz.prog 16 (match sub (codeOf Tryz.f94) [true,false,false,true,true,false,false,true,false] with | .region _ ops _ => ops | _ => #[]) ((match sub (codeOf Tryz.f94) [true,false,false,true,true,false,false,true,false] with | .region _ ops _ => ops | _ => #[]).toList.take 2) e2 (Hs j) = some (e3, Hs j) ∧ e3.get 11 = some (.func (.yield ly) [] []) ∧ e3.get 12 = some y ∧ ∀ t, t < 9 → e3.get t = e2.get t := by
      simp only [codeOf, Tryz.f94, sub, List.take_succ_cons, List.take_zero, opsSeq_step, afterStep_some, stepC, kindOf, quietC, evC, (cq 0 (by omega) (by omega)).trans b0, c4, Tr.get_set, Nat.reduceEqDiff, if_false, Nat.reduceLT, Option.map_some, opsSeq_nil]
      refine ⟨_, rfl, by simp only [Tr.get_set, Nat.reduceEqDiff, if_false, if_true], by simp only [Tr.get_set, if_true], fun t ht => ?_⟩
      simp only [Tr.get_set, show t ≠ 11 by omega, show t ≠ 12 by omega, if_false]
    obtain ⟨e3, gc, d11, d12, dq⟩ := gc
    have hreg : sub (codeOf Tryz.f94) [true,false,false,true,true,false,false,true,false] = .region 3 (match sub (codeOf Tryz.f94) [true,false,false,true,true,false,false,true,false] with | .region _ ops _ => ops | _ => #[]) false := rfl
    rw [hreg]
    refine wpIn_seq (wpIn_region_list ?_)
    have hsplit : (match sub (codeOf Tryz.f94) [true,false,false,true,true,false,false,true,false] with | .region _ ops _ => ops | _ => #[]).toList = ((match sub (codeOf Tryz.f94) [true,false,false,true,true,false,false,true,false] with | .region _ ops _ => ops | _ => #[]).toList.take 2) ++ ((match sub (codeOf Tryz.f94) [true,false,false,true,true,false,false,true,false] with | .region _ ops _ => ops | _ => #[]).toList.drop 2) := (List.take_append_drop 2 _).symm
    rw [hsplit]
    refine seq_prefixR (calls_ok hX hmx) gc ha2 hR2.m.rel ?_
    intro η3 a3 w3 ha3 m3
    have hR3 := hR2.step h0 m3
    have hy11 := yieldCV (evC_sound ha3 (.tmp 11) _ d11)
    have hy12 := evC_sound ha3 (.tmp 12) _ d12
    obtain ⟨e4, g4⟩ : ∃ e4 : Env, e4 = e3.set 13 (.bool true) := ⟨_, rfl⟩
    have gd : ∃ e5, opsSeq (calls Tryz.prog X) Tryz.prog 16 (match sub (codeOf Tryz.f94) [true,false,false,true,true,false,false,true,false] with | .region _ ops _ => ops | _ => #[]) ((match sub (codeOf Tryz.f94) [true,false,false,true,true,false,false,true,false] with | .region _ ops _ => ops | _ => #[]).toList.drop 3) e4 (Hs (j + 1)) = some (e5, Hs (j + 1)) ∧ e5.get 14 = some (.bool false) ∧ ∀ t, t < 9 → e5.get t = e3.get t := by
      rw [g4]
      simp only [codeOf, Tryz.f94, sub, List.drop_succ_cons, List.drop_zero, opsSeq_step, afterStep_some, stepC, kindOf, quietC, evC, Tr.get_set, if_true, Nat.reduceLT, Option.map_some, Option.bind_some, opsSeq_nil]
      refine ⟨_, rfl, by simp only [Tr.get_set, if_true]; rfl, fun t ht => ?_⟩
      simp only [Tr.get_set, show t ≠ 13 by omega, show t ≠ 14 by omega, if_false]
    obtain ⟨e5, gd, f14, fq⟩ := gd
    show wpListIn (K.Fr none) m Tryz.prog _ _ (_ :: ((match sub (codeOf Tryz.f94) [true,false,false,true,true,false,false,true,false] with | .region _ ops _ => ops | _ => #[]).toList.drop 3)) a3 w3
    unfold wpListIn
    rw [if_pos wanted_none]
    refine yield_in (R := fun e w' => e = .returned (.bool true) ∧ ∃ η', Rd η0 H0 w0 ly D (recL fn tmps0 ps assign body D) η' (Hs (j + 1)) w' ∧ η3.le η') rfl hy11 ?_ ?_
    · have := round_ok (m := m - 1) hX hmx h0 hR3 (ha0.mono hR3.m.keeps.le) (ys := [y]) (vs := [a3.eval (.tmp 12)]) (by simp [CV.vals, hy12]) (by rw [q2]; simp) hp q3 q4
      simp only [List.map_toArray, List.map_cons, List.map_nil]
      exact this
    · rintro ex w4 ⟨rfl, η4, hR4, hle⟩
      refine ⟨rfl, ?_⟩
      have ha4 : ARel η4 16 e4 (a3.put (some 13) (.bool true)) := by
        rw [g4]
        exact putC_sound (ha3.mono hle) (dst := some 13) (c := .bool true) (by simp [putC, blt_t (show 13 < 16 by omega)]) rfl
      refine seq_soundR (calls_ok hX hmx) gd ha4 hR4.m.rel ?_
      intro η5 a5' w5 ha5 m5
      refine wpIn_cond_false (val_bool (evC_sound ha5 (.tmp 14) (.bool false) f14)) (wpIn_skip ?_)
      have q : ∀ t, t < 9 → t ≠ 4 → e5.get t = e.get t := fun t ht n1 => (fq t ht).trans ((dq t ht).trans (cq t ht n1))
      exact ⟨rfl, η5, e5, ha5, ⟨(q 0 (by omega) (by omega)).trans b0, (q 5 (by omega) (by omega)).trans b5, (q 6 (by omega) (by omega)).trans b6, (q 7 (by omega) (by omega)).trans b7⟩, hR4.step h0 m5⟩
  · have hw : wrap .i64 ((j : Int) + 1) = ((j + 1 : Nat) : Int) := wrap64 (by omega) (by omega)
    simp only [codeOf, Tryz.f94, sub, go_seq, go_region, opsSeq_step, opsSeq_guard, guardStep_true, guardStep_false, guardVal, opsSeq_nil, afterStep_some, afterStep_none, stepC, kindOf, quietC, evC, Nat.reduceLT, Tr.get_set, if_true, if_false, Nat.reduceEqDiff, Option.map_some, Option.bind_some, List.getElem?_toArray, List.getElem?_cons_zero, List.getElem?_cons_succ, ofVal, decide_true, decide_false, BEq.rfl, andThen_normal, andThen_exit, andThen_ret, inBlock_normal, inBlock_ret, go_skip, go_exit, go_ret, loudStep, isCall, loudC, targetC, evs, evParts, mapO, List.nil_append, List.append_nil, List.cons_append, loadC, Heap.skip_get, Heap.get_put, Heap.skip_next, Heap.put_next, b7, bin_add, hw]
    exact ⟨_, rfl, by simp only [Tr.get_set, Nat.reduceEqDiff, if_false, b0], by simp only [Tr.get_set, Nat.reduceEqDiff, if_false, b5], by simp only [Tr.get_set, Nat.reduceEqDiff, if_false, b6], by simp only [Tr.get_set, if_true]⟩
  · rintro ex a2 w2 ⟨rfl, η2, e2, ha2, _, hR2⟩
    show Exit.inBlock 0 _ (.exit 0) a2 w2
    simp only [Exit.inBlock, if_true]
    rw [sN] at hR2
    obtain ⟨v', hv', hrun⟩ := results_sound ha2 hR2.m.rel (fn := Tryz.f94) (c := .tuple []) rfl
    exact ⟨ha2.defers, v', hrun, ⟨v', rfl⟩, η2, hR2⟩
theorem back_it (hX : CallOK Tryz.prog X) (hmx : Tryz.prog.follows .mixedOrders = true) {η0 : Eta} {H0 H' : Heap} {w0 : World} (h0 : HRel η0 H0 w0) {nt0 bx N ly D m : Nat} {env0 : Env} {tmps0 : Array Value} {ps : Array Tmp} {assign body : Code} {fn : FuncId} {v : CV} {vb : Value} {W : World}
    (ha0 : ARel η0 nt0 env0 ⟨tmps0, []⟩) (hp : ∀ p ∈ ps.toList, p < nt0) (hvb : (CV.ptr bx 0).val η0 = some vb) (hv : loadC Tryz.prog 34 H0 bx 0 = some v) (hn : lenC Tryz.prog 34 H0 v = some (.int .i64 (N : Nat))) (hN : N < 1000000)
    (hr : rounds (go Tryz.prog X) nt0 env0 ps.toList assign body (backArgs bx N) N 0 H0 = some H') (hR : Rd η0 H0 w0 ly D (recL fn tmps0 ps assign body D) η0 H0 W) :
    CallsIn (K.Fr none) m Tryz.prog 72 #[.func (.yield ly) #[] #[], vb] W fun e W' => (∃ v, e = .returned v) ∧ ∃ η', Rd η0 H0 w0 ly D (recL fn tmps0 ps assign body D) η' H' W' := by
  obtain ⟨Hs, s0, sN, hs⟩ := rounds_trace hr
  rw [Nat.zero_add] at sN
  refine callsIn_of_wp Tryz.func72 (c := codeOf Tryz.f72) rfl trivial ?_
  have hent : ARel η0 19 (envOf [CV.func (.yield ly) [] [], .ptr bx 0] 0 .nil) { tmps := #[.func (.yield ly) #[] #[], vb] ++ Array.replicate (Tryz.f72.ntmps - 2) undef, defers := [] } :=
    enter_rel (ntmps := Tryz.f72.ntmps) (args := [CV.func (.yield ly) [] [], .ptr bx 0]) (vs := [.func (.yield ly) #[] #[], vb]) (by simp [CV.vals, hvb]; rfl)
  have e0 : (envOf [CV.func (.yield ly) [] [], .ptr bx 0] 0 .nil).get 0 = some (.func (.yield ly) [] []) := by simp [envOf, Tr.get_set]
  have e1 : (envOf [CV.func (.yield ly) [] [], .ptr bx 0] 0 .nil).get 1 = some (.ptr bx 0) := by simp [envOf, Tr.get_set]
  have hcode : codeOf Tryz.f72 = .seq (sub (codeOf Tryz.f72) [false]) (.block 0 (.loop (.seq (.seq (sub (codeOf Tryz.f72) [true,false,false,false,false]) (.cond (.tmp 8) .skip (.exit 0))) (.seq (.block 1 (sub (codeOf Tryz.f72) [true,false,false,true,false,false])) (sub (codeOf Tryz.f72) [true,false,false,true,true]))))) := rfl
  have hw0 : wrap .i64 ((N : Int) - 1) = (N : Int) - 1 := wrap64 (by omega) (by omega)
  have hl34 : ∀ (x : Operand) (en : Env) (G : Heap), quietC Tryz.prog (.load 34 x) (evC en) G = (match evC en x with | some (.ptr b off) => loadC Tryz.prog 34 G b off | _ => none) := fun _ _ _ => rfl
  have hl3 : ∀ (x : Operand) (en : Env) (G : Heap), quietC Tryz.prog (.load 3 x) (evC en) G = (match evC en x with | some (.ptr b off) => loadC Tryz.prog 3 G b off | _ => none) := fun _ _ _ => rfl
  have ga : ∃ e, go Tryz.prog X 19 (sub (codeOf Tryz.f72) [false]) (envOf [CV.func (.yield ly) [] [], .ptr bx 0] 0 .nil) H0 = some (.normal, e, H0) ∧ e.get 0 = some (.func (.yield ly) [] []) ∧ e.get 1 = some (.ptr bx 0) ∧ e.get 3 = some (.int .i64 ((N : Int) - 1)) := by
    simp only [codeOf, Tryz.f72, sub, go_region, opsSeq_step, opsSeq_nil, afterStep_some, stepC, kindOf, hl34]
    simp only [evC, e1, hv, Option.map_some, afterStep_some, Nat.reduceLT, opsSeq_step, stepC, kindOf, quietC, evC, Tr.get_set, if_true, evs, mapO, Option.bind_some, hn, List.getElem?_toArray, List.getElem?_cons_zero, ofVal, opsSeq_nil, bin_sub, hw0]
    exact ⟨_, rfl, by simp only [Tr.get_set, Nat.reduceEqDiff, if_false, e0], by simp only [Tr.get_set, Nat.reduceEqDiff, if_false, e1], by simp only [Tr.get_set, if_true]⟩
  obtain ⟨ea, ga, a0, a1', a3'⟩ := ga
  rw [hcode]
  refine wpIn_seq ((go_soundR hX hmx _ _ _ _ _ _ _ ga).2 η0 _ W hent hR.m.rel _ ?_)
  intro η1 a1 w1 ha1 m1
  refine wpIn_block ?_
  have hR1 : Rd η0 H0 w0 ly D (recL fn tmps0 ps assign body D) η1 (Hs 0) w1 := by rw [s0]; exact hR.step h0 m1
  refine wpIn_mono (iter_loop hX hmx h0 (nt := 19) (N := N) Hs
    (fun j e => e.get 0 = some (.func (.yield ly) [] []) ∧ e.get 1 = some (.ptr bx 0) ∧ e.get 3 = some (.int .i64 ((N : Int) - 1 - (j : Int))))
    (fun j e => e.get 0 = some (.func (.yield ly) [] []) ∧ e.get 1 = some (.ptr bx 0) ∧ e.get 3 = some (.int .i64 ((N : Int) - 1 - (j : Int))))
    (fun j e ⟨b0, b1, b3⟩ hj => ?_) (fun j e η a w hj ⟨b0, b1, b3⟩ ha hRj => ?_) (fun j e hj ⟨b0, b1, b3⟩ => ?_) N 0 ea η1 a1 w1 (by omega) ⟨a0, a1', by rw [a3']; simp⟩ ha1 hR1) ?_
  · have hd : decide ((0 : Int) ≤ (N : Int) - 1 - (j : Int)) = decide (j < N) := by
      by_cases h : j < N
      · have : (0 : Int) ≤ (N : Int) - 1 - (j : Int) := by omega
        rw [decide_eq_true this, decide_eq_true h]
      · have : ¬ (0 : Int) ≤ (N : Int) - 1 - (j : Int) := by omega
        simp only [h, this]
    simp only [codeOf, Tryz.f72, sub, go_seq, go_region, opsSeq_step, opsSeq_guard, guardStep_true, guardStep_false, guardVal, opsSeq_nil, afterStep_some, afterStep_none, stepC, kindOf, quietC, evC, Nat.reduceLT, Tr.get_set, if_true, if_false, Nat.reduceEqDiff, Option.map_some, Option.bind_some, List.getElem?_toArray, List.getElem?_cons_zero, List.getElem?_cons_succ, ofVal, decide_true, decide_false, BEq.rfl, andThen_normal, andThen_exit, andThen_ret, inBlock_normal, inBlock_ret, go_skip, go_exit, go_ret, loudStep, isCall, loudC, targetC, evs, evParts, mapO, List.nil_append, List.append_nil, List.cons_append, loadC, Heap.skip_get, Heap.get_put, Heap.skip_next, Heap.put_next, b3, bin_geq, hd]
    exact ⟨_, rfl, by simp only [Tr.get_set, if_true], by simp only [Tr.get_set, Nat.reduceEqDiff, if_false, b0], by simp only [Tr.get_set, Nat.reduceEqDiff, if_false, b1], by simp only [Tr.get_set, Nat.reduceEqDiff, if_false, b3]⟩
  · obtain ⟨ys, f1, H1, f2, q1, q2, q3, q4⟩ := hs j (Nat.zero_le _) (by omega)
    have hji : (N : Int) - 1 - (j : Int) = ((N - 1 - j : Nat) : Int) := by omega
    unfold backArgs at q1
    split at q1
    rotate_left
    · cases q1
    rename_i v' hv'
    simp only [Option.map_eq_some_iff] at q1
    obtain ⟨y, hy, rfl⟩ := q1
    obtain ⟨bb, off, hidx, hld⟩ : ∃ bb off, indexAddrC Tryz.prog 34 v' (.int .i64 ((N - 1 - j : Nat) : Int)) = some (.ptr bb off) ∧ loadC Tryz.prog 3 (Hs j) bb off = some y := by
      unfold elemAt at hy
      split at hy
      · rename_i bb off h1
        exact ⟨bb, off, h1, hy⟩
      · cases hy
    have hcodeB : sub (codeOf Tryz.f72) [true,false,false,true,false,false] = .seq (sub (codeOf Tryz.f72) [true,false,false,true,false,false,false]) (.cond (.tmp 18) .ret .skip) := rfl
    rw [hcodeB]
    -- the call of yield
    have gc : ∃ e3, opsSeq (calls Tryz.prog X) Tryz.prog 19 (match sub (codeOf Tryz.f72) [true,false,false,true,false,false,false] with | .region _ ops _ => ops | _ => #[]) ((match sub (codeOf Tryz.f72) [true,false,false,true,false,false,false] with | .region _ ops _ => ops | _ => #[]).toList.take 6) e (Hs j) = some (e3, Hs j) ∧ e3.get 11 = some (.func (.yield ly) [] []) ∧ e3.get 12 = some (.int .i64 ((N - 1 - j : Nat) : Int)) ∧ e3.get 16 = some y ∧ ∀ t, t < 9 → e3.get t = e.get t := by
      rw [hji] at b3
      simp only [codeOf, Tryz.f72, sub, List.take_succ_cons, List.take_zero, opsSeq_step, afterStep_some, stepC, kindOf, hl34, hl3]
      simp only [quietC, evC, b0, b1, b3, hv', Tr.get_set, Nat.reduceEqDiff, if_false, if_true, Nat.reduceLT, Option.map_some, afterStep_some, opsSeq_step, stepC, kindOf, Option.bind_some, hidx, hld, opsSeq_nil, hl34, hl3]
      refine ⟨_, rfl, by simp only [Tr.get_set, Nat.reduceEqDiff, if_false, if_true], by simp only [Tr.get_set, Nat.reduceEqDiff, if_false, if_true], by simp only [Tr.get_set, if_true], fun t ht => ?_⟩
      simp only [Tr.get_set, show t ≠ 11 by omega, show t ≠ 12 by omega, show t ≠ 13 by omega, show t ≠ 14 by omega, show t ≠ 15 by omega, show t ≠ 16 by omega, if_false]
    obtain ⟨e3, gc, d11, d12, d16, dq⟩ := gc
    have hreg : sub (codeOf Tryz.f72) [true,false,false,true,false,false,false] = .region 3 (match sub (codeOf Tryz.f72) [true,false,false,true,false,false,false] with | .region _ ops _ => ops | _ => #[]) false := rfl
    rw [hreg]
    refine wpIn_seq (wpIn_region_list ?_)
    have hsplit : (match sub (codeOf Tryz.f72) [true,false,false,true,false,false,false] with | .region _ ops _ => ops | _ => #[]).toList = ((match sub (codeOf Tryz.f72) [true,false,false,true,false,false,false] with | .region _ ops _ => ops | _ => #[]).toList.take 6) ++ ((match sub (codeOf Tryz.f72) [true,false,false,true,false,false,false] with | .region _ ops _ => ops | _ => #[]).toList.drop 6) := (List.take_append_drop 6 _).symm
    rw [hsplit]
    refine seq_prefixR (calls_ok hX hmx) gc ha hRj.m.rel ?_
    intro η3 a3 w3 ha3 m3
    have hR3 := hRj.step h0 m3
    have hy11 := yieldCV (evC_sound ha3 (.tmp 11) _ d11)
    have hy12 := evC_sound ha3 (.tmp 12) _ d12
    have hy16 := evC_sound ha3 (.tmp 16) _ d16
    obtain ⟨e4, g4⟩ : ∃ e4 : Env, e4 = e3.set 17 (.bool true) := ⟨_, rfl⟩
    have gd : ∃ e5, opsSeq (calls Tryz.prog X) Tryz.prog 19 (match sub (codeOf Tryz.f72) [true,false,false,true,false,false,false] with | .region _ ops _ => ops | _ => #[]) ((match sub (codeOf Tryz.f72) [true,false,false,true,false,false,false] with | .region _ ops _ => ops | _ => #[]).toList.drop 7) e4 (Hs (j + 1)) = some (e5, Hs (j + 1)) ∧ e5.get 18 = some (.bool false) ∧ ∀ t, t < 9 → e5.get t = e3.get t := by
      rw [g4]
      simp only [codeOf, Tryz.f72, sub, List.drop_succ_cons, List.drop_zero, opsSeq_step, afterStep_some, stepC, kindOf, quietC, evC, Tr.get_set, if_true, Nat.reduceLT, Option.map_some, Option.bind_some, opsSeq_nil]
      refine ⟨_, rfl, by simp only [Tr.get_set, if_true]; rfl, fun t ht => ?_⟩
      simp only [Tr.get_set, show t ≠ 17 by omega, show t ≠ 18 by omega, if_false]
    obtain ⟨e5, gd, f18, fq⟩ := gd
    show wpListIn (K.Fr none) m Tryz.prog _ _ (_ :: ((match sub (codeOf Tryz.f72) [true,false,false,true,false,false,false] with | .region _ ops _ => ops | _ => #[]).toList.drop 7)) a3 w3
    unfold wpListIn
    rw [if_pos wanted_none]
    refine yield_in (R := fun e w' => e = .returned (.bool true) ∧ ∃ η', Rd η0 H0 w0 ly D (recL fn tmps0 ps assign body D) η' (Hs (j + 1)) w' ∧ η3.le η') rfl hy11 ?_ ?_
    · have := round_ok (m := m - 1) hX hmx h0 hR3 (ha0.mono hR3.m.keeps.le) (ys := [.int .i64 ((N - 1 - j : Nat) : Int), y]) (vs := [a3.eval (.tmp 12), a3.eval (.tmp 16)]) (by simp [CV.vals, hy12, hy16]) (by rw [q2]; simp) hp q3 q4
      simp only [List.map_toArray, List.map_cons, List.map_nil]
      exact this
    · rintro ex w4 ⟨rfl, η4, hR4, hle⟩
      refine ⟨rfl, ?_⟩
      have ha4 : ARel η4 19 e4 (a3.put (some 17) (.bool true)) := by
        rw [g4]
        exact putC_sound (ha3.mono hle) (dst := some 17) (c := .bool true) (by simp [putC, blt_t (show 17 < 19 by omega)]) rfl
      refine seq_soundR (calls_ok hX hmx) gd ha4 hR4.m.rel ?_
      intro η5 a5' w5 ha5 m5
      refine wpIn_cond_false (val_bool (evC_sound ha5 (.tmp 18) (.bool false) f18)) (wpIn_skip ?_)
      have q : ∀ t, t < 9 → e5.get t = e.get t := fun t ht => (fq t ht).trans (dq t ht)
      exact ⟨rfl, η5, e5, ha5, ⟨(q 0 (by omega)).trans b0, (q 1 (by omega)).trans b1, (q 3 (by omega)).trans b3⟩, hR4.step h0 m5⟩
  · have hw : wrap .i64 ((N : Int) - 1 - (j : Int) - 1) = (N : Int) - 1 - ((j + 1 : Nat) : Int) := by rw [wrap64 (by omega) (by omega)]; omega
    simp only [codeOf, Tryz.f72, sub, go_seq, go_region, opsSeq_step, opsSeq_guard, guardStep_true, guardStep_false, guardVal, opsSeq_nil, afterStep_some, afterStep_none, stepC, kindOf, quietC, evC, Nat.reduceLT, Tr.get_set, if_true, if_false, Nat.reduceEqDiff, Option.map_some, Option.bind_some, List.getElem?_toArray, List.getElem?_cons_zero, List.getElem?_cons_succ, ofVal, decide_true, decide_false, BEq.rfl, andThen_normal, andThen_exit, andThen_ret, inBlock_normal, inBlock_ret, go_skip, go_exit, go_ret, loudStep, isCall, loudC, targetC, evs, evParts, mapO, List.nil_append, List.append_nil, List.cons_append, loadC, Heap.skip_get, Heap.get_put, Heap.skip_next, Heap.put_next, b3, bin_sub, hw]
    exact ⟨_, rfl, by simp only [Tr.get_set, Nat.reduceEqDiff, if_false, b0], by simp only [Tr.get_set, Nat.reduceEqDiff, if_false, b1], by simp only [Tr.get_set, if_true]⟩
  · rintro ex a2 w2 ⟨rfl, η2, e2, ha2, _, hR2⟩
    show Exit.inBlock 0 _ (.exit 0) a2 w2
    simp only [Exit.inBlock, if_true]
    rw [sN] at hR2
    obtain ⟨v', hv', hrun⟩ := results_sound ha2 hR2.m.rel (fn := Tryz.f72) (c := .tuple []) rfl
    exact ⟨ha2.defers, v', hrun, ⟨v', rfl⟩, η2, hR2⟩
end Go.Y

namespace Go.Y
open Go.K Go.Proofs Go
set_option linter.unusedSimpArgs false
set_option linter.unusedVariables false
set_option maxRecDepth 10000

variable {X : CallFn}

noncomputable def itY : Iters := fun rec nt env ps assign body gf bx H => match loadC Tryz.prog 34 H bx 0 with
  | some v => match lenC Tryz.prog 34 H v with
    | some (.int .i64 (.ofNat N)) => match Nat.blt N 1000000 with
      | true => match Nat.beq gf 94 with
        | true => rounds rec nt env ps assign body (valArgs v) N 0 H
        | false => match Nat.beq gf 72 with
          | true => rounds rec nt env ps assign body (backArgs bx N) N 0 H
          | false => none
      | false => none
    | _ => none
  | none => none

theorem enter94 (args : Array Value) (w : World) : (callFunc 94 args).run Tryz.prog w = .ok (.enter 94 args) w := by
  simp only [callFunc, Sem.run_bind, run_program, Result.andThen_ok, Tryz.func94, show (Tryz.f94.name == "runtime.NumGoroutine") = false by decide, Bool.false_eq_true, if_false, Sem.run_pure]
  rw [show Tryz.f94.body.isNone = false from rfl]
  simp only [Bool.false_eq_true, if_false, Sem.run_pure]
theorem enter72 (args : Array Value) (w : World) : (callFunc 72 args).run Tryz.prog w = .ok (.enter 72 args) w := by
  simp only [callFunc, Sem.run_bind, run_program, Result.andThen_ok, Tryz.func72, show (Tryz.f72.name == "runtime.NumGoroutine") = false by decide, Bool.false_eq_true, if_false, Sem.run_pure]
  rw [show Tryz.f72.body.isNone = false from rfl]
  simp only [Bool.false_eq_true, if_false, Sem.run_pure]

theorem itY_ok (hX : CallOK Tryz.prog X) (hm : Tryz.prog.follows .mixedOrders = true) : ItersOK Tryz.prog X itY := by
  intro rec hrec nt env ps assign body gf bx H H' h
  unfold itY at h
  split at h
  rotate_left
  · cases h
  rename_i v hv
  split at h
  rotate_left
  · cases h
  rename_i N hN
  split at h
  rotate_left
  · cases h
  rename_i hlt
  have hlt := blt_iff.1 hlt
  split at h
  · rename_i hgf
    have := Nat.eq_of_beq_eq_true hgf
    subst this
    have h := rounds_mono hrec h
    exact ⟨rounds_grows hX hm h, enter94, fun h0 ha hp hvb hR => values_it hX hm h0 ha hp hvb hv hN hlt h hR⟩
  · split at h
    · rename_i hgf
      have := Nat.eq_of_beq_eq_true hgf
      subst this
      have h := rounds_mono hrec h
      exact ⟨rounds_grows hX hm h, enter72, fun h0 ha hp hvb hR => back_it hX hm h0 ha hp hvb hv hN hlt h hR⟩
    · cases h

def rfPs : Code → Array Tmp
  | .rangeFunc _ ps _ _ => ps
  | _ => #[]
def rfAssign : Code → Code
  | .rangeFunc _ _ a _ => a
  | _ => .skip
def rfBody : Code → Code
  | .rangeFunc _ _ _ b => b
  | _ => .skip
def opsOf : Code → Array Oper
  | .region _ ops _ => ops
  | _ => #[]

noncomputable def R106 : RFn := { f := 106, fn := Tryz.f106, nargs := 2, A := [sub (codeOf Tryz.f106) [false]], Rg := sub (codeOf Tryz.f106) [true,false,false], o := 0, tg := 6, ps := rfPs (sub (codeOf Tryz.f106) [true,false,true,false]), assign := rfAssign (sub (codeOf Tryz.f106) [true,false,true,false]), body := rfBody (sub (codeOf Tryz.f106) [true,false,true,false]), ci := 4, cops := opsOf (sub (codeOf Tryz.f106) [true,true,false]), cd := false }
noncomputable def A26 : List Code := [sub (codeOf Tryz.f26) [false], sub (codeOf Tryz.f26) [true,false], sub (codeOf Tryz.f26) [true,true,false], sub (codeOf Tryz.f26) [true,true,true,false], sub (codeOf Tryz.f26) [true,true,true,true,false], sub (codeOf Tryz.f26) [true,true,true,true,true,false], sub (codeOf Tryz.f26) [true,true,true,true,true,true,false], sub (codeOf Tryz.f26) [true,true,true,true,true,true,true,false], sub (codeOf Tryz.f26) [true,true,true,true,true,true,true,true,false]]
noncomputable def R26 : RFn := { f := 26, fn := Tryz.f26, nargs := 1, A := A26, Rg := sub (codeOf Tryz.f26) [true,true,true,true,true,true,true,true,true,false,false], o := 6, tg := 91, ps := rfPs (sub (codeOf Tryz.f26) [true,true,true,true,true,true,true,true,true,false,true,false]), assign := rfAssign (sub (codeOf Tryz.f26) [true,true,true,true,true,true,true,true,true,false,true,false]), body := rfBody (sub (codeOf Tryz.f26) [true,true,true,true,true,true,true,true,true,false,true,false]), ci := 32, cops := opsOf (sub (codeOf Tryz.f26) [true,true,true,true,true,true,true,true,true,true,false]), cd := true }

theorem rf106_ok (hX : CallOK Tryz.prog X) (hm : Tryz.prog.follows .mixedOrders = true) {rec : RunFn} (hrec : RLe rec (go Tryz.prog X)) : CallOK Tryz.prog (rfX Tryz.prog itY R106 rec) :=
  rfX_ok hX hm (itY_ok hX hm) hrec Tryz.func106 (by decide) rfl (by intro p hp; have : p = 7 := by simpa [R106, rfPs, codeOf, Tryz.f106, sub] using hp
                                                                    subst this; decide)
theorem rf26_ok (hX : CallOK Tryz.prog X) (hm : Tryz.prog.follows .mixedOrders = true) {rec : RunFn} (hrec : RLe rec (go Tryz.prog X)) : CallOK Tryz.prog (rfX Tryz.prog itY R26 rec) :=
  rfX_ok hX hm (itY_ok hX hm) hrec Tryz.func26 (by decide) rfl (by intro p hp; have : p = 92 ∨ p = 93 := by simpa [R26, rfPs, codeOf, Tryz.f26, sub] using hp
                                                                   rcases this with rfl | rfl <;> decide)
end Go.Y
