/- distances: passes come to an end. distances: the whole. distances: the function. -/
import Derived.Test.YtmnhkbhdfkebmaaGreatDoorZ6

set_option linter.unusedSimpArgs false
set_option linter.unusedVariables false

namespace Go.Z
open Go.K Go.Proofs
set_option linter.unusedSimpArgs false
set_option linter.unusedVariables false
set_option maxRecDepth 10000

variable {X : CallFn}

def weight (x : Int) : Nat := if x < 0 then 1000 else x.toNat
def total (os : List Int) : Nat := (os.map weight).sum
theorem total_set : ∀ {os : List Int} {k : Nat} {v : Int}, k < os.length → total (os.set k v) + weight (os.getD k 0) = total os + weight v
  | a :: t, 0, v, _ => by simp [total]; omega
  | a :: t, k + 1, v, h => by
    have := total_set (os := t) (k := k) (v := v) (by simpa using h)
    simp only [total, List.set_cons_succ, List.map_cons, List.sum_cons, List.getD_cons_succ] at this ⊢
    omega
theorem relax_total {above : Int} {os : List Int} {ch : Bool} {a : Nat × Nat × Nat} (hl : a.2.1 < os.length) (hu : a.2.2 < os.length) (hn : os.length < 1000) (h : Small os) :
    relax above (os, ch) a = (os, ch) ∨ ((relax above (os, ch) a).2 = true ∧ total (relax above (os, ch) a).1 < total os) := by
  unfold relax
  split
  · rename_i hb
    right
    refine ⟨rfl, ?_⟩
    simp only [better, decide_eq_true_eq] at hb
    obtain ⟨_, hU, hL⟩ := hb
    have ht := total_set (os := os) (k := a.2.1) (v := os.getD a.2.2 0 + 1) hl
    have hUm : os.getD a.2.2 0 ∈ os := by
      rw [List.getD_eq_getElem?_getD, List.getElem?_eq_getElem hu]; exact List.getElem_mem _
    have h1 := h _ hUm
    have hc : reachedCount os ≤ os.length := List.countP_le_length
    have w1 : weight (os.getD a.2.2 0 + 1) = (os.getD a.2.2 0 + 1).toNat := by simp only [weight]; rw [if_neg (by omega)]
    have w2 : weight (os.getD a.2.2 0 + 1) < weight (os.getD a.2.1 0) := by
      rw [w1]
      simp only [weight]
      split
      · -- not reached before: the count is less than the length
        rename_i hneg
        omega
      · omega
    simp only []
    omega
  · exact .inl rfl
theorem pass_total {above : Int} {n : Nat} (hn : n < 1000) : ∀ (arcs : List (Nat × Nat × Nat)) (os : List Int) (ch : Bool), (∀ a ∈ arcs, a.2.1 < n ∧ a.2.2 < n) → os.length = n → Small os →
    (arcs.foldl (relax above) (os, ch)).2 = ch ∧ (arcs.foldl (relax above) (os, ch)).1 = os ∨ ((arcs.foldl (relax above) (os, ch)).2 = true ∧ total (arcs.foldl (relax above) (os, ch)).1 < total os)
  | [], os, ch, _, _, _ => .inl ⟨rfl, rfl⟩
  | a :: t, os, ch, h, hl, hs => by
    obtain ⟨h1, h2⟩ := h a (List.mem_cons_self ..)
    have ht : ∀ b ∈ t, b.2.1 < n ∧ b.2.2 < n := fun b hb => h b (List.mem_cons_of_mem _ hb)
    rw [List.foldl_cons]
    rcases relax_total (above := above) (ch := ch) (a := a) (by omega) (by omega) (by omega) hs with e | ⟨e1, e2⟩
    · rw [e]; exact pass_total hn t os ch ht hl hs
    · have hs' := relax_small (above := above) (ch := ch) (a := a) (by omega) (by omega) hs
      have hl' := (relax_length above (os, ch) a).trans hl
      have : relax above (os, ch) a = ((relax above (os, ch) a).1, true) := Prod.ext rfl e1
      rw [this]
      rcases pass_total hn t (relax above (os, ch) a).1 true ht hl' hs' with ⟨f1, f2⟩ | ⟨f1, f2⟩
      · exact .inr ⟨f1, by rw [f2]; exact e2⟩
      · exact .inr ⟨f1, by omega⟩
end Go.Z

namespace Go.Z
open Go.K Go.Proofs
set_option linter.unusedSimpArgs false
set_option linter.unusedVariables false
set_option maxRecDepth 10000

variable {X : CallFn}

/-- What distances gives: at rest, and come from the start by passes. -/
inductive Passed (above : Int) (arcs : List (Nat × Nat × Nat)) : List Int → List Int → Prop
  | rest {os : List Int} (h : (arcs.foldl (relax above) (os, false)).2 = false) : Passed above arcs os os
  | pass {os os' : List Int} (h : Passed above arcs (arcs.foldl (relax above) (os, false)).1 os') : Passed above arcs os os'

theorem dist_loop {bg bm bx fa n1 : Nat} {nv av : CV} {xs : List CV} {us : List Nat} {fs : Nat → Nat} {arcs : List (Nat × Nat × Nat)} {bo : Nat} {above : Int} (har : arcs.length < 1000) (hlt : ∀ a ∈ arcs, a.2.1 < us.length ∧ a.2.2 < us.length) (hn1 : us.length < 1000) (hav : ∀ b o l c, av = .slice b o l c → b ≠ bo) (hbg : bg ≠ bo) :
    ∀ (d : Nat) (env : Env) (H : Heap) (os : List Int), total os ≤ d → env.get 0 = some (.ptr bg 0) → env.get 2 = some (.int .i64 above) → env.get 7 = some (.slice bo 0 us.length (.exact us.length)) → env.get 8 = some (.bool true) →
      H.get bg = some (.cells [nv, .map bm, av, .slice bx 0 us.length (.exact us.length)] 77 none) → bg < H.next → Has H 3 79 av (arcs.map arcCV) → HOk H → H.get bo = some (.cells (os.map (CV.int .i64)) 3 none) → bo < H.next → os.length = us.length → Small os →
    ∃ (env' : Env) (H' : Heap) (os' : List Int), go Tryz.prog X 77 (sub (codeOf Tryz.f29) [true,true,true,false,true,false]) env H = some (.exit 0, env', H') ∧ Passed above arcs os os' ∧ env'.get 7 = some (.slice bo 0 us.length (.exact us.length)) ∧
      H'.get bo = some (.cells (os'.map (CV.int .i64)) 3 none) ∧ HOk H' ∧ H.next ≤ H'.next ∧ (∀ b o, b < H.next → b ≠ bo → H.get b = some o → H'.get b = some o) ∧ Small os' ∧ os'.length = us.length := by
  have hcode : sub (codeOf Tryz.f29) [true,true,true,false,true,false] = .loop (.seq (sub (codeOf Tryz.f29) [true,true,true,false,true,false,false,false]) (.block 1 (.seq (sub (codeOf Tryz.f29) [true,true,true,false,true,false,false,true,false,false]) (.seq (sub (codeOf Tryz.f29) [true,true,true,false,true,false,false,true,false,true,false]) (.block 2 (sub (codeOf Tryz.f29) [true,true,true,false,true,false,false,true,false,true,true,false])))))) := rfl
  have g4 : ∀ (c : Bool) (env : Env) (H : Heap), env.get 8 = some (.bool c) → go Tryz.prog X 77 (sub (codeOf Tryz.f29) [true,true,true,false,true,false,false,false]) env H = (if c = true then some (.normal, env.set 21 (.bool c), H) else some (.exit 0, env.set 21 (.bool c), H)) := by
    intro c env H h8
    simp only [codeOf, Tryz.f29, sub, go_seq, go_region, opsSeq_step, opsSeq_guard, guardStep_true, guardStep_false, guardVal, opsSeq_nil, afterStep_some, afterStep_none, stepC, kindOf, quietC, evC, Nat.reduceLT, Tr.get_set, if_true, if_false, Nat.reduceEqDiff, Option.map_some, Option.bind_some, List.getElem?_toArray, List.getElem?_cons_zero, List.getElem?_cons_succ, ofVal, decide_true, decide_false, BEq.rfl, andThen_normal, andThen_exit, andThen_ret, inBlock_normal, inBlock_ret, go_skip, go_exit, go_ret, loudStep, isCall, loudC, targetC, evs, evParts, mapO, List.nil_append, List.append_nil, List.cons_append, loadC, Heap.skip_get, Heap.get_put, Heap.skip_next, Heap.put_next, h8]
    rw [go_cond _ _ _ (v := c) (by simp only [evC, Tr.get_set, if_true])]
    cases c <;> simp only [go_skip, go_exit, if_true, Bool.false_eq_true, if_false]
  intro d
  induction d using Nat.strongRecOn with
  | _ d ih =>
    intro env H os hd h0 h2 h7 h8 hg hbgn hl hk hbo hbn hn hs
    have g5 : go Tryz.prog X 77 (sub (codeOf Tryz.f29) [true,true,true,false,true,false,false,true,false,false]) (env.set 21 (.bool true)) H = some (.normal, (env.set 21 (.bool true)).set 8 (.bool false), H) := by
      simp only [codeOf, Tryz.f29, sub, go_seq, go_region, opsSeq_step, opsSeq_guard, guardStep_true, guardStep_false, guardVal, opsSeq_nil, afterStep_some, afterStep_none, stepC, kindOf, quietC, evC, Nat.reduceLT, Tr.get_set, if_true, if_false, Nat.reduceEqDiff, Option.map_some, Option.bind_some, List.getElem?_toArray, List.getElem?_cons_zero, List.getElem?_cons_succ, ofVal, decide_true, decide_false, BEq.rfl, andThen_normal, andThen_exit, andThen_ret, inBlock_normal, inBlock_ret, go_skip, go_exit, go_ret, loudStep, isCall, loudC, targetC, evs, evParts, mapO, List.nil_append, List.append_nil, List.cons_append, loadC, Heap.skip_get, Heap.get_put, Heap.skip_next, Heap.put_next]
    have hlen := hl.len (P := Tryz.prog) u74 H
    rw [List.length_map] at hlen
    have g6 : ∃ e, go Tryz.prog X 77 (sub (codeOf Tryz.f29) [true,true,true,false,true,false,false,true,false,true,false]) ((env.set 21 (.bool true)).set 8 (.bool false)) H = some (.normal, e, H) ∧ e.get 25 = some av ∧ e.get 26 = some (.int .i64 arcs.length) ∧ e.get 27 = some (.int .i64 (0 : Nat)) ∧ e.get 8 = some (.bool false) ∧ ∀ t, t < 21 → t ≠ 8 → e.get t = env.get t := by
      simp only [codeOf, Tryz.f29, sub, go_seq, go_region, opsSeq_step, opsSeq_guard, guardStep_true, guardStep_false, guardVal, opsSeq_nil, afterStep_some, afterStep_none, stepC, kindOf, quietC, evC, Nat.reduceLT, Tr.get_set, if_true, if_false, Nat.reduceEqDiff, Option.map_some, Option.bind_some, List.getElem?_toArray, List.getElem?_cons_zero, List.getElem?_cons_succ, ofVal, decide_true, decide_false, BEq.rfl, andThen_normal, andThen_exit, andThen_ret, inBlock_normal, inBlock_ret, go_skip, go_exit, go_ret, loudStep, isCall, loudC, targetC, evs, evParts, mapO, List.nil_append, List.append_nil, List.cons_append, loadC, Heap.skip_get, Heap.get_put, Heap.skip_next, Heap.put_next, h0, fa77_2, g74, hg, Nat.zero_add, hlen]
      refine ⟨_, rfl, by simp only [Tr.get_set, Nat.reduceEqDiff, if_true, if_false], by simp only [Tr.get_set, Nat.reduceEqDiff, if_true, if_false], by simp only [Tr.get_set, if_true]; rfl, by simp only [Tr.get_set, Nat.reduceEqDiff, if_true, if_false], fun t ht h8 => ?_⟩
      simp only [Tr.get_set, show t ≠ 21 by omega, show t ≠ 22 by omega, show t ≠ 23 by omega, show t ≠ 24 by omega, show t ≠ 25 by omega, show t ≠ 26 by omega, show t ≠ 27 by omega, h8, if_false]
    obtain ⟨e, g6, a25, a26, a27, a8, aq⟩ := g6
    obtain ⟨e2, H2, g2, b8, bq, bbo, bk, bn, bkeep, bs, bl⟩ := dist_pass (X := X) (n := us.length) har hlt hn1 hav arcs.length 0 e H os false (by omega) ((aq 2 (by omega) (by omega)).trans h2) ((aq 7 (by omega) (by omega)).trans h7) a8 a25 a26 a27 hl hk hbo hbn hn hs
    rw [List.drop_zero] at b8 bbo bs bl
    have c0 := (bq 0 (by omega) (by omega) (by omega)).trans ((aq 0 (by omega) (by omega)).trans h0)
    have c2 := (bq 2 (by omega) (by omega) (by omega)).trans ((aq 2 (by omega) (by omega)).trans h2)
    have c7 := (bq 7 (by omega) (by omega) (by omega)).trans ((aq 7 (by omega) (by omega)).trans h7)
    have hgo : ∀ r, go Tryz.prog X 77 (sub (codeOf Tryz.f29) [true,true,true,false,true,false]) e2 H2 = r → go Tryz.prog X 77 (sub (codeOf Tryz.f29) [true,true,true,false,true,false]) env H = r := by
      intro r hr
      rw [hcode, go_loop, ← hcode, go_seq, g4 true env H h8, if_pos rfl, andThen_normal, go_block, go_seq, g5, andThen_normal, go_seq, g6, andThen_normal, go_block, g2, inBlock_exit, if_pos rfl, inBlock_normal, andThen_normal]
      exact hr
    rcases pass_total (above := above) hn1 arcs os false hlt hn hs with ⟨f1, f2⟩ | ⟨f1, f2⟩
    · rw [f1] at b8
      rw [f2] at bbo
      refine ⟨e2.set 21 (.bool false), H2, os, hgo _ ?_, .rest f1, by simp only [Tr.get_set, Nat.reduceEqDiff, if_false, c7], bbo, bk, bn, bkeep, hs, hn⟩
      rw [hcode, go_loop, go_seq, g4 false e2 H2 b8, if_neg (by simp), andThen_exit, andThen_exit]
    · rw [f1] at b8
      have hl2 : Has H2 3 79 av (arcs.map arcCV) := by
        refine ⟨hl.1, ?_⟩
        rcases hl.2 with h | ⟨b, off, cap, cs, fam, hv, h1, h2', h3, h4, h5⟩
        · exact .inl h
        · exact .inr ⟨b, off, cap, cs, fam, hv, h1, Nat.lt_of_lt_of_le h2' bn, bkeep b _ h2' (hav _ _ _ _ hv) h3, h4, h5⟩
      obtain ⟨e3, H3, os', g3, p1, p2, p3, p4, p5, p6, p7, p8⟩ := ih (total (arcs.foldl (relax above) (os, false)).1) (by omega) e2 H2 _ (Nat.le_refl _) c0 c2 c7 b8 (bkeep bg _ hbgn hbg hg) (Nat.lt_of_lt_of_le hbgn bn) hl2 bk bbo (Nat.lt_of_lt_of_le hbn bn) bl bs
      exact ⟨e3, H3, os', hgo _ g3, .pass p1, p2, p3, p4, Nat.le_trans bn p5, fun b o hb hne ho => p6 b o (Nat.lt_of_lt_of_le hb bn) hne (bkeep b o hb hne ho), p7, p8⟩
end Go.Z

namespace Go.Z
open Go.K Go.Proofs
set_option linter.unusedSimpArgs false
set_option linter.unusedVariables false
set_option maxRecDepth 10000

variable {X : CallFn}

/-- What is left of a graph's state once it is built. -/
structure Gr (H : Heap) (bg bm bx : Nat) (nv av : CV) (xs : List CV) (us : List Nat) (arcs : List (Nat × Nat × Nat)) : Prop where
  g : H.get bg = some (.cells [nv, .map bm, av, .slice bx 0 us.length (.exact us.length)] 77 none)
  x : H.get bx = some (.cells xs 74 none)
  len : xs.length = us.length
  n : Has H 1 9 nv (us.map nm)
  a : Has H 3 79 av (arcs.map arcCV)
  c : ∀ j v, xs[j]? = some v → Has H 3 79 v ((outOf arcs j).map arcCV)
  lg : bg < H.next
  lx : bx < H.next
theorem GS.gr {n1 : Nat} {H : Heap} {bg bm bx : Nat} {nv av : CV} {xs : List CV} {us : List Nat} {arcs : List (Nat × Nat × Nat)} {fa : Nat} {fs : Nat → Nat} (h : GS n1 H bg bm bx nv av xs us arcs fa fs) : Gr H bg bm bx nv av xs us arcs :=
  ⟨h.g, h.x, h.len, h.n, h.a.has, fun j v hj => (h.c j v hj).has, Nat.lt_of_lt_of_le h.lg h.next, Nat.lt_of_lt_of_le h.lx h.next⟩
theorem Gr.ext {H H' : Heap} {bg bm bx : Nat} {nv av : CV} {xs : List CV} {us : List Nat} {arcs : List (Nat × Nat × Nat)} (h : Gr H bg bm bx nv av xs us arcs) (hx : Ext H.next H H') : Gr H' bg bm bx nv av xs us arcs :=
  ⟨hx.2 _ _ h.lg h.g, hx.2 _ _ h.lx h.x, h.len, h.n.ext hx h.n.lt, h.a.ext hx h.a.lt, fun j v hj => (h.c j v hj).ext hx (h.c j v hj).lt, Nat.lt_of_lt_of_le h.lg hx.1, Nat.lt_of_lt_of_le h.lx hx.1⟩

theorem small_start {n s : Nat} (hs : s < n) : Small ((List.replicate n (-1 : Int)).set s 0) := by
  have hc := count_set (os := List.replicate n (-1 : Int)) (k := s) (v := 0) (by simpa using hs) (by omega)
  have h0 : reachedCount (List.replicate n (-1 : Int)) = 0 := by
    simp only [reachedCount, List.countP_eq_zero]
    intro x hx
    rw [List.eq_of_mem_replicate hx]; decide
  have h1 : (List.replicate n (-1 : Int)).getD s 0 = -1 := by
    rw [List.getD_eq_getElem?_getD, List.getElem?_eq_getElem (by simpa using hs)]; simp
  rw [h0, h1] at hc
  intro x hx
  rw [hc]
  rcases List.mem_or_eq_of_mem_set hx with hx | rfl
  · rw [List.eq_of_mem_replicate hx]; decide
  · decide

theorem dist_ok (hX : ∀ a H, X 29 a H = none) (hX59 : ∀ a H, X 59 a H = none) (hM : MulOK X) {bg bm bx s : Nat} {above : Int} {nv av : CV} {xs : List CV} {us : List Nat} {arcs : List (Nat × Nat × Nat)} {H : Heap}
    (hg : Gr H bg bm bx nv av xs us arcs) (hk : HOk H) (hn : us.length ≤ 16) (har : arcs.length < 1000) (hlt : ∀ a ∈ arcs, a.2.1 < us.length ∧ a.2.2 < us.length) (hs : s < us.length) :
    ∃ (b : Nat) (os : List Int) (H' : Heap), calls Tryz.prog X 29 [.ptr bg 0, .int .i64 (s : Int), .int .i64 above] H = some (.slice b 0 us.length (.exact us.length), H') ∧ H'.get b = some (.cells (os.map (CV.int .i64)) 3 none) ∧ H.next ≤ b ∧ b < H'.next ∧
      Passed above arcs ((List.replicate us.length (-1)).set s 0) os ∧ Small os ∧ os.length = us.length ∧ HOk H' ∧ Ext H.next H H' := by
  have hcode : codeOf Tryz.f29 = .seq (sub (codeOf Tryz.f29) [false]) (.seq (sub (codeOf Tryz.f29) [true,false]) (.seq (sub (codeOf Tryz.f29) [true,true,false]) (.seq (.seq (sub (codeOf Tryz.f29) [true,true,true,false,false]) (.block 0 (sub (codeOf Tryz.f29) [true,true,true,false,true,false]))) (.seq (sub (codeOf Tryz.f29) [true,true,true,true,false]) .ret)))) := rfl
  have h0 : ∀ x y z : CV, (envOf [x, y, z] 0 .nil).get 0 = some x := fun x y z => by simp [envOf, Tr.get_set]
  have h1 : ∀ x y z : CV, (envOf [x, y, z] 0 .nil).get 1 = some y := fun x y z => by simp [envOf, Tr.get_set]
  have h2 : ∀ x y z : CV, (envOf [x, y, z] 0 .nil).get 2 = some z := fun x y z => by simp [envOf, Tr.get_set]
  generalize he0 : envOf [CV.ptr bg 0, CV.int .i64 (s : Int), CV.int .i64 above] 0 .nil = e0
  have e00 := he0 ▸ h0 (CV.ptr bg 0) (CV.int .i64 (s : Int)) (CV.int .i64 above)
  have e01 := he0 ▸ h1 (CV.ptr bg 0) (CV.int .i64 (s : Int)) (CV.int .i64 above)
  have e02 := he0 ▸ h2 (CV.ptr bg 0) (CV.int .i64 (s : Int)) (CV.int .i64 above)
  have hlen := hg.n.len (P := Tryz.prog) u30
  rw [List.length_map] at hlen
  -- the one number, and its list
  generalize hH1 : (H.skip 1).put H.next (.cells [.int .i64 (-1)] 3 none) = H1
  have x1 : Ext H.next H H1 := by rw [← hH1]; exact Ext.skip.trans (Ext.put (Nat.le_refl _))
  have k1 : HOk H1 := by rw [← hH1]; exact Hok.put rfl (Hok.skip 1 hk)
  have n1 : H1.next = H.next + 1 := by rw [← hH1]; rfl
  have hone : Has H1 1 3 (.slice H.next 0 1 (.exact 1)) [.int .i64 (-1)] := by
    refine ⟨by simp [CV.cells], .inr ⟨H.next, 0, .exact 1, [.int .i64 (-1)], none, rfl, fun _ _ e => (by cases e), by omega, by rw [← hH1, Heap.get_put, if_pos rfl], by simp, by simp [CV.cells]⟩⟩
  obtain ⟨b, H2, c59, hb2, hb, hbn, k2, x2⟩ := repeat_ok (X := X) hX59 hM (c := -1) (n := us.length) hone (by omega) hn k1
  have hg1 := hg.ext x1
  have hg2 := hg1.ext x2
  have gl : go Tryz.prog X 77 (sub (codeOf Tryz.f29) [false]) e0 H = some (.normal, e0.set 6 .nilSlice, H) := by simp only [codeOf, Tryz.f29, sub, go_seq, go_region, opsSeq_step, opsSeq_guard, guardStep_true, guardStep_false, guardVal, opsSeq_nil, afterStep_some, afterStep_none, stepC, kindOf, quietC, evC, Nat.reduceLT, Tr.get_set, if_true, if_false, Nat.reduceEqDiff, Option.map_some, Option.bind_some, List.getElem?_toArray, List.getElem?_cons_zero, List.getElem?_cons_succ, ofVal, decide_true, decide_false, BEq.rfl, andThen_normal, andThen_exit, andThen_ret, inBlock_normal, inBlock_ret, go_skip, go_exit, go_ret, loudStep, isCall, loudC, targetC, evs, evParts, mapO, List.nil_append, List.append_nil, List.cons_append, loadC, Heap.skip_get, Heap.get_put, Heap.skip_next, Heap.put_next]
  have g0 : ∃ e, go Tryz.prog X 77 (sub (codeOf Tryz.f29) [true,false]) (e0.set 6 .nilSlice) H = some (.normal, e, H2) ∧ e.get 1 = some (.int .i64 (s : Int)) ∧ e.get 2 = some (.int .i64 above) ∧ e.get 7 = some (.slice b 0 us.length (.exact us.length)) ∧ e.get 0 = some (.ptr bg 0) := by
    simp only [codeOf, Tryz.f29, sub, go_seq, go_region, opsSeq_step, opsSeq_guard, guardStep_true, guardStep_false, guardVal, opsSeq_nil, afterStep_some, afterStep_none, stepC, kindOf, quietC, evC, Nat.reduceLT, Tr.get_set, if_true, if_false, Nat.reduceEqDiff, Option.map_some, Option.bind_some, List.getElem?_toArray, List.getElem?_cons_zero, List.getElem?_cons_succ, ofVal, decide_true, decide_false, BEq.rfl, andThen_normal, andThen_exit, andThen_ret, inBlock_normal, inBlock_ret, go_skip, go_exit, go_ret, loudStep, isCall, loudC, targetC, evs, evParts, mapO, List.nil_append, List.append_nil, List.cons_append, loadC, Heap.skip_get, Heap.get_put, Heap.skip_next, Heap.put_next, e00, e01, e02, bs26, CV.cells, List.length_cons, List.length_nil, Nat.reduceAdd, hH1, fa77_0, hg1.g, g30, Nat.zero_add, hlen, c59]
    exact ⟨_, rfl, by simp only [Tr.get_set, Nat.reduceEqDiff, if_false, e01], by simp only [Tr.get_set, Nat.reduceEqDiff, if_false, e02], by simp only [Tr.get_set, if_true], by simp only [Tr.get_set, Nat.reduceEqDiff, if_false, e00]⟩
  obtain ⟨ea, ga, a1, a2, a7, a0⟩ := g0
  have hst := store_one (P := Tryz.prog) (t := 3) (k := s) (v := .int .i64 0) s3 rfl rfl (H := H2) hb2 (by rw [List.length_replicate]; omega)
  rw [← List.map_replicate, ← List.map_set] at hst
  have g1 : ∃ e, go Tryz.prog X 77 (sub (codeOf Tryz.f29) [true,true,false]) ea H2 = some (.normal, e, H2.put b (.cells (((List.replicate us.length (-1)).set s 0).map (CV.int .i64)) 3 none)) ∧ e.get 2 = some (.int .i64 above) ∧ e.get 7 = some (.slice b 0 us.length (.exact us.length)) ∧ e.get 0 = some (.ptr bg 0) := by
    simp only [codeOf, Tryz.f29, sub, go_seq, go_region, opsSeq_step, opsSeq_guard, guardStep_true, guardStep_false, guardVal, opsSeq_nil, afterStep_some, afterStep_none, stepC, kindOf, quietC, evC, Nat.reduceLT, Tr.get_set, if_true, if_false, Nat.reduceEqDiff, Option.map_some, Option.bind_some, List.getElem?_toArray, List.getElem?_cons_zero, List.getElem?_cons_succ, ofVal, decide_true, decide_false, BEq.rfl, andThen_normal, andThen_exit, andThen_ret, inBlock_normal, inBlock_ret, go_skip, go_exit, go_ret, loudStep, isCall, loudC, targetC, evs, evParts, mapO, List.nil_append, List.append_nil, List.cons_append, loadC, Heap.skip_get, Heap.get_put, Heap.skip_next, Heap.put_next, a1, a7, idx26 hs, hst]
    exact ⟨_, rfl, by simp only [Tr.get_set, Nat.reduceEqDiff, if_false, a2], by simp only [Tr.get_set, Nat.reduceEqDiff, if_false, a7], by simp only [Tr.get_set, Nat.reduceEqDiff, if_false, a0]⟩
  obtain ⟨eb, gb, b2, b7, b0⟩ := g1
  generalize hH3 : H2.put b (.cells (((List.replicate us.length (-1)).set s 0).map (CV.int .i64)) 3 none) = H3 at gb
  have x3 : Ext H1.next H2 H3 := by rw [← hH3]; exact Ext.put hb
  have k3 : HOk H3 := by rw [← hH3]; exact Hok.put rfl k2
  have n3 : H3.next = H2.next := by rw [← hH3]; rfl
  have hg3 := hg1.ext (x2.trans x3)
  have hb3 : H3.get b = some (.cells (((List.replicate us.length (-1)).set s 0).map (CV.int .i64)) 3 none) := by rw [← hH3, Heap.get_put, if_pos rfl]
  have gc : go Tryz.prog X 77 (sub (codeOf Tryz.f29) [true,true,true,false,false]) eb H3 = some (.normal, eb.set 8 (.bool true), H3) := by simp only [codeOf, Tryz.f29, sub, go_seq, go_region, opsSeq_step, opsSeq_guard, guardStep_true, guardStep_false, guardVal, opsSeq_nil, afterStep_some, afterStep_none, stepC, kindOf, quietC, evC, Nat.reduceLT, Tr.get_set, if_true, if_false, Nat.reduceEqDiff, Option.map_some, Option.bind_some, List.getElem?_toArray, List.getElem?_cons_zero, List.getElem?_cons_succ, ofVal, decide_true, decide_false, BEq.rfl, andThen_normal, andThen_exit, andThen_ret, inBlock_normal, inBlock_ret, go_skip, go_exit, go_ret, loudStep, isCall, loudC, targetC, evs, evParts, mapO, List.nil_append, List.append_nil, List.cons_append, loadC, Heap.skip_get, Heap.get_put, Heap.skip_next, Heap.put_next]
  have hbg : bg ≠ b := by have := hg.lg; omega
  have hav : ∀ c o l k, av = .slice c o l k → c ≠ b := by
    intro c o l k e
    have := hg.a.lt _ _ _ _ e
    omega
  obtain ⟨ed, H4, os, gd, hp, d7, hb4, k4, n4, keep4, sm4, l4⟩ := dist_loop (X := X) (xs := xs) (fa := 0) (n1 := 0) (fs := fun _ => 0) (above := above) har hlt (by omega) hav hbg _ (eb.set 8 (.bool true)) H3 _ (Nat.le_refl _) (by simp only [Tr.get_set, Nat.reduceEqDiff, if_false, b0]) (by simp only [Tr.get_set, Nat.reduceEqDiff, if_false, b2]) (by simp only [Tr.get_set, Nat.reduceEqDiff, if_false, b7]) (by simp only [Tr.get_set, if_true])
    hg3.g hg3.lg hg3.a k3 hb3 (by omega) (by simp) (small_start hs)
  have ge : go Tryz.prog X 77 (.seq (sub (codeOf Tryz.f29) [true,true,true,true,false]) .ret) ed H4 = some (.ret, (ed.set 76 (.slice b 0 us.length (.exact us.length))).set 6 (.slice b 0 us.length (.exact us.length)), H4) := by simp only [codeOf, Tryz.f29, sub, go_seq, go_region, opsSeq_step, opsSeq_guard, guardStep_true, guardStep_false, guardVal, opsSeq_nil, afterStep_some, afterStep_none, stepC, kindOf, quietC, evC, Nat.reduceLT, Tr.get_set, if_true, if_false, Nat.reduceEqDiff, Option.map_some, Option.bind_some, List.getElem?_toArray, List.getElem?_cons_zero, List.getElem?_cons_succ, ofVal, decide_true, decide_false, BEq.rfl, andThen_normal, andThen_exit, andThen_ret, inBlock_normal, inBlock_ret, go_skip, go_exit, go_ret, loudStep, isCall, loudC, targetC, evs, evParts, mapO, List.nil_append, List.append_nil, List.cons_append, loadC, Heap.skip_get, Heap.get_put, Heap.skip_next, Heap.put_next, d7]
  have x13 : Ext H1.next H1 H3 := x2.trans x3
  have x4 : Ext H1.next H1 H4 := by
    have l1 := x13.1
    refine ⟨by omega, fun c o hc ho => ?_⟩
    exact keep4 c o (by omega) (by omega) (x13.2 c o hc ho)
  refine ⟨b, os, H4, calls_ret (hX _ _) Tryz.func29 rfl (by decide) (nt := 77) rfl (env' := (ed.set 76 (.slice b 0 us.length (.exact us.length))).set 6 (.slice b 0 us.length (.exact us.length))) ?_ (results_one (by simp only [Tr.get_set, if_true])), hb4, by omega, by omega, hp, sm4, l4, k4, x1.trans (x4.le (by omega))⟩
  rw [he0, hcode, go_seq, gl, andThen_normal, go_seq, ga, andThen_normal, go_seq, gb, andThen_normal, go_seq, go_seq, gc, andThen_normal, go_block, gd, inBlock_exit, if_pos rfl, andThen_normal]
  exact ge
end Go.Z
