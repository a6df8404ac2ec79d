/- distances: one pass over the arcs. distances: the values stay small. distances: one pass. -/
import Derived.Test.YtmnhkbhdfkebmaaGreatDoorZ5

set_option linter.unusedSimpArgs false
set_option linter.unusedVariables false

namespace Go.Z
open Go.K Go.Proofs
set_option linter.unusedSimpArgs false
set_option linter.unusedVariables false
set_option maxRecDepth 10000

variable {X : CallFn}

/-- Whether an arc shortens a way. -/
def better (above : Int) (os : List Int) (a : Nat × Nat × Nat) : Bool := decide (above < (a.1 : Int) ∧ 0 ≤ os.getD a.2.2 0 ∧ (os.getD a.2.1 0 < 0 ∨ os.getD a.2.2 0 + 1 < os.getD a.2.1 0))
def relax (above : Int) (s : List Int × Bool) (a : Nat × Nat × Nat) : List Int × Bool :=
  if better above s.1 a then (s.1.set a.2.1 (s.1.getD a.2.2 0 + 1), true) else s
theorem relax_length (above : Int) (s : List Int × Bool) (a : Nat × Nat × Nat) : (relax above s a).1.length = s.1.length := by
  unfold relax; split <;> simp

theorem dist_body {env : Env} {H : Heap} {av : CV} {arcs : List (Nat × Nat × Nat)} {i bo n : Nat} {above : Int} {os : List Int} {ch : Bool} (h2 : env.get 2 = some (.int .i64 above)) (h7 : env.get 7 = some (.slice bo 0 n (.exact n))) (h8 : env.get 8 = some (.bool ch))
    (h25 : env.get 25 = some av) (h26 : env.get 26 = some (.int .i64 arcs.length)) (h27 : env.get 27 = some (.int .i64 i)) (hl : Has H 3 79 av (arcs.map arcCV)) (hi : i < arcs.length) (har : arcs.length < 1000) (hk : HOk H)
    (hbo : H.get bo = some (.cells (os.map (CV.int .i64)) 3 none)) (hbn : bo < H.next) (hn : os.length = n) (hlt : ∀ a ∈ arcs, a.2.1 < n ∧ a.2.2 < n) (hob : ∀ x ∈ os, -1 ≤ x ∧ x < 1000) (hav : ∀ b o l c, av = .slice b o l c → b ≠ bo) :
    ∃ env' H', go Tryz.prog X 77 (sub (codeOf Tryz.f29) [true,true,true,false,true,false,false,true,false,true,true,false,false]) env H = some (.normal, env', H') ∧ env'.get 8 = some (.bool (relax above (os, ch) arcs[i]).2) ∧ env'.get 27 = some (.int .i64 (i + 1 : Nat)) ∧ (∀ t, t < 27 → t ≠ 8 → t ≠ 10 → env'.get t = env.get t) ∧
      H'.get bo = some (.cells ((relax above (os, ch) arcs[i]).1.map (CV.int .i64)) 3 none) ∧ HOk H' ∧ H.next ≤ H'.next ∧ ∀ b o, b < H.next → b ≠ bo → H.get b = some o → H'.get b = some o := by
  have hcode : sub (codeOf Tryz.f29) [true,true,true,false,true,false,false,true,false,true,true,false,false] = .seq (sub (codeOf Tryz.f29) [true,true,true,false,true,false,false,true,false,true,true,false,false,false]) (.seq (sub (codeOf Tryz.f29) [true,true,true,false,true,false,false,true,false,true,true,false,false,true,false]) (.seq (.block 3 (.seq (sub (codeOf Tryz.f29) [true,true,true,false,true,false,false,true,false,true,true,false,false,true,true,false,false,false]) (.seq (sub (codeOf Tryz.f29) [true,true,true,false,true,false,false,true,false,true,true,false,false,true,true,false,false,true,false])
    (.cond (.tmp 64) (sub (codeOf Tryz.f29) [true,true,true,false,true,false,false,true,false,true,true,false,false,true,true,false,false,true,true,false]) .skip)))) (sub (codeOf Tryz.f29) [true,true,true,false,true,false,false,true,false,true,true,false,false,true,true,true]))) := rfl
  have e1 : (i : Int) < (arcs.length : Int) := by omega
  have hw : wrap .i64 ((i : Int) + 1) = ((i + 1 : Nat) : Int) := wrap64 (by omega) (by omega)
  have g7 : go Tryz.prog X 77 (sub (codeOf Tryz.f29) [true,true,true,false,true,false,false,true,false,true,true,false,false,false]) env H = some (.normal, env.set 28 (.bool true), H) := by
    simp only [codeOf, Tryz.f29, sub, go_seq, go_region, opsSeq_step, opsSeq_guard, guardStep_true, guardStep_false, guardVal, opsSeq_nil, afterStep_some, afterStep_none, stepC, kindOf, quietC, evC, Nat.reduceLT, Tr.get_set, if_true, if_false, Nat.reduceEqDiff, Option.map_some, Option.bind_some, List.getElem?_toArray, List.getElem?_cons_zero, List.getElem?_cons_succ, ofVal, decide_true, decide_false, BEq.rfl, andThen_normal, andThen_exit, andThen_ret, inBlock_normal, inBlock_ret, go_skip, go_exit, go_ret, loudStep, isCall, loudC, targetC, evs, evParts, mapO, List.nil_append, List.append_nil, List.cons_append, loadC, Heap.skip_get, Heap.get_put, Heap.skip_next, Heap.put_next, h26, h27, bin_lss, e1]
  have g7' : go Tryz.prog X 77 (sub (codeOf Tryz.f29) [true,true,true,false,true,false,false,true,false,true,true,false,false,true,false]) (env.set 28 (.bool true)) H = some (.normal, env.set 28 (.bool true), H) := by
    simp only [codeOf, Tryz.f29, sub]
    rw [go_cond _ _ _ (v := true) (by simp only [evC, Tr.get_set, if_true])]
    simp only [if_true, go_skip]
  have g11 : ∀ (e : Env) (G : Heap), e.get 27 = some (.int .i64 i) → go Tryz.prog X 77 (sub (codeOf Tryz.f29) [true,true,true,false,true,false,false,true,false,true,true,false,false,true,true,true]) e G = some (.normal, (e.set 75 (.int .i64 (i + 1 : Nat))).set 27 (.int .i64 (i + 1 : Nat)), G) := by
    intro e G he
    simp only [codeOf, Tryz.f29, sub, go_seq, go_region, opsSeq_step, opsSeq_guard, guardStep_true, guardStep_false, guardVal, opsSeq_nil, afterStep_some, afterStep_none, stepC, kindOf, quietC, evC, Nat.reduceLT, Tr.get_set, if_true, if_false, Nat.reduceEqDiff, Option.map_some, Option.bind_some, List.getElem?_toArray, List.getElem?_cons_zero, List.getElem?_cons_succ, ofVal, decide_true, decide_false, BEq.rfl, andThen_normal, andThen_exit, andThen_ret, inBlock_normal, inBlock_ret, go_skip, go_exit, go_ret, loudStep, isCall, loudC, targetC, evs, evParts, mapO, List.nil_append, List.append_nil, List.cons_append, loadC, Heap.skip_get, Heap.get_put, Heap.skip_next, Heap.put_next, he, bin_add, hw]
  have s : ∀ t, t < 28 → (env.set 28 (.bool true)).get t = env.get t := fun t ht => by simp only [Tr.get_set, show t ≠ 28 by omega, if_false]
  obtain ⟨ea, H1, ga, ag, an, ak, ax, a10, qa⟩ := dist_r8 (X := X) ((s 25 (by omega)).trans h25) ((s 27 (by omega)).trans h27) hl hi hk
  have q1 : ∀ t, t < 28 → t ≠ 10 → ea.get t = env.get t := fun t ht h => (qa t (by omega) h).trans (s t ht)
  obtain ⟨hlo, hup⟩ := hlt arcs[i] (List.getElem_mem _)
  have hU : os[arcs[i].2.2]? = some (os.getD arcs[i].2.2 0) := by rw [List.getD_eq_getElem?_getD, List.getElem?_eq_getElem (by omega)]; rfl
  have hL : os[arcs[i].2.1]? = some (os.getD arcs[i].2.1 0) := by rw [List.getD_eq_getElem?_getD, List.getElem?_eq_getElem (by omega)]; rfl
  have hUb := hob _ (List.mem_of_getElem? hU)
  have hbo1 := ax.2 _ _ hbn hbo
  obtain ⟨eb, gb, cb, qb⟩ := dist_r9 (X := X) ((q1 2 (by omega) (by omega)).trans h2) ((q1 7 (by omega) (by omega)).trans h7) a10 ag hbo1 hlo hup hU hL hUb
  have q2 : ∀ t, t < 28 → t ≠ 10 → eb.get t = env.get t := fun t ht h => (qb t (by omega)).trans (q1 t ht h)
  have b10 : eb.get 10 = some (.ptr H.next 0) := (qb 10 (by omega)).trans a10
  by_cases hb : better above os arcs[i] = true
  · have hd : decide (above < (arcs[i].1 : Int) ∧ 0 ≤ os.getD arcs[i].2.2 0 ∧ (os.getD arcs[i].2.1 0 < 0 ∨ os.getD arcs[i].2.2 0 + 1 < os.getD arcs[i].2.1 0)) = true := hb
    rw [hd] at cb
    obtain ⟨ec, gc, c8, qc⟩ := dist_r10 (X := X) (H := H1.skip 34) ((q2 7 (by omega) (by omega)).trans h7) b10 ag hbo1 hlo hup hn hU hUb
    have hrel : relax above (os, ch) arcs[i] = (os.set arcs[i].2.1 (os.getD arcs[i].2.2 0 + 1), true) := by simp only [relax, hb, if_true]
    rw [hrel]
    refine ⟨(ec.set 75 (.int .i64 (i + 1 : Nat))).set 27 (.int .i64 (i + 1 : Nat)), _, ?_, by simp only [Tr.get_set, Nat.reduceEqDiff, if_false, c8], by simp only [Tr.get_set, if_true], fun t ht h8' h10' => ?_, by rw [Heap.get_put, if_pos rfl], Hok.put rfl (Hok.skip 12 (Hok.skip 34 ak)), ?_, fun b o hb' hne ho => ?_⟩
    · rw [hcode, go_seq, g7, andThen_normal, go_seq, g7', andThen_normal, go_seq, go_block, go_seq, ga, andThen_normal, go_seq, gb, andThen_normal, go_cond _ _ _ cb, if_pos rfl, gc, inBlock_normal, andThen_normal]
      exact g11 ec _ ((qc 27 (by omega) (by omega)).trans ((q2 27 (by omega) (by omega)).trans h27))
    · simp only [Tr.get_set, show t ≠ 75 by omega, show t ≠ 27 by omega, if_false]
      exact (qc t (by omega) h8').trans (q2 t (by omega) h10')
    · show H.next ≤ H1.next + 34 + 12; omega
    · rw [Heap.get_put, if_neg hne]; exact ax.2 b o hb' ho
  · have hd : decide (above < (arcs[i].1 : Int) ∧ 0 ≤ os.getD arcs[i].2.2 0 ∧ (os.getD arcs[i].2.1 0 < 0 ∨ os.getD arcs[i].2.2 0 + 1 < os.getD arcs[i].2.1 0)) = false := by
      have := Bool.eq_false_iff.2 hb; exact this
    rw [hd] at cb
    have hrel : relax above (os, ch) arcs[i] = (os, ch) := by simp only [relax, hb, Bool.false_eq_true, if_false]
    rw [hrel]
    refine ⟨(eb.set 75 (.int .i64 (i + 1 : Nat))).set 27 (.int .i64 (i + 1 : Nat)), H1.skip 34, ?_, by simp only [Tr.get_set, Nat.reduceEqDiff, if_false]; exact (q2 8 (by omega) (by omega)).trans h8, by simp only [Tr.get_set, if_true], fun t ht h8' h10' => ?_, hbo1, Hok.skip 34 ak, ?_, fun b o hb' hne ho => ax.2 b o hb' ho⟩
    · rw [hcode, go_seq, g7, andThen_normal, go_seq, g7', andThen_normal, go_seq, go_block, go_seq, ga, andThen_normal, go_seq, gb, andThen_normal, go_cond _ _ _ cb, if_neg (by simp), go_skip, inBlock_normal, andThen_normal]
      exact g11 eb _ ((q2 27 (by omega) (by omega)).trans h27)
    · simp only [Tr.get_set, show t ≠ 75 by omega, show t ≠ 27 by omega, if_false]
      exact q2 t (by omega) h10'
    · show H.next ≤ H1.next + 34; omega
end Go.Z

namespace Go.Z
open Go.K Go.Proofs
set_option linter.unusedSimpArgs false
set_option linter.unusedVariables false

def reachedCount (os : List Int) : Nat := os.countP fun x => decide (0 ≤ x)
/-- No value is as great as the number of units that are reached. -/
def Small (os : List Int) : Prop := ∀ x ∈ os, -1 ≤ x ∧ x < (reachedCount os : Int)
theorem Small.bound {os : List Int} (h : Small os) (hn : os.length < 1000) : ∀ x ∈ os, -1 ≤ x ∧ x < 1000 := by
  intro x hx
  have h1 := h x hx
  have : reachedCount os ≤ os.length := List.countP_le_length
  omega
theorem count_set {os : List Int} {k : Nat} {v : Int} (hk : k < os.length) (hv : 0 ≤ v) : reachedCount (os.set k v) = reachedCount os + (if os.getD k 0 < 0 then 1 else 0) := by
  induction os generalizing k with
  | nil => simp at hk
  | cons a t ih =>
    cases k with
    | zero =>
      simp only [List.set_cons_zero, reachedCount, List.countP_cons, hv, decide_true, if_true, List.getD_cons_zero]
      by_cases h : a < 0
      · simp [h, show ¬ (0 ≤ a) by omega]
      · simp [h, show 0 ≤ a by omega]
    | succ k =>
      have := ih (k := k) (by simpa using hk)
      simp only [reachedCount] at this
      simp only [List.set_cons_succ, reachedCount, List.countP_cons, this, List.getD_cons_succ]
      omega
theorem relax_small {above : Int} {os : List Int} {ch : Bool} {a : Nat × Nat × Nat} (hl : a.2.1 < os.length) (hu : a.2.2 < os.length) (h : Small os) : Small (relax above (os, ch) a).1 := by
  unfold relax
  split
  · rename_i hb
    simp only [better, decide_eq_true_eq] at hb
    obtain ⟨_, hU, hL⟩ := hb
    have hc := count_set (os := os) (k := a.2.1) (v := os.getD a.2.2 0 + 1) hl (by omega)
    have hUm : os.getD a.2.2 0 ∈ os := by
      rw [List.getD_eq_getElem?_getD, List.getElem?_eq_getElem hu]; exact List.getElem_mem _
    have hLm : os.getD a.2.1 0 ∈ os := by
      rw [List.getD_eq_getElem?_getD, List.getElem?_eq_getElem hl]; exact List.getElem_mem _
    have h1 := h _ hUm
    have h2 := h _ hLm
    intro x hx
    rcases List.mem_or_eq_of_mem_set hx with hx | rfl
    · have := h x hx
      simp only [hc]
      split <;> omega
    · simp only [hc]
      split <;> omega
  · exact h
end Go.Z

namespace Go.Z
open Go.K Go.Proofs
set_option linter.unusedSimpArgs false
set_option linter.unusedVariables false
set_option maxRecDepth 10000

variable {X : CallFn}

theorem dist_exit {env : Env} {H : Heap} {n : Nat} (h26 : env.get 26 = some (.int .i64 n)) (h27 : env.get 27 = some (.int .i64 n)) :
    go Tryz.prog X 77 (sub (codeOf Tryz.f29) [true,true,true,false,true,false,false,true,false,true,true,false,false]) env H = some (.exit 2, env.set 28 (.bool false), H) := by
  have e1 : ¬ ((n : Int) < (n : Int)) := by omega
  simp only [codeOf, Tryz.f29, sub, go_seq, go_region, opsSeq_step, opsSeq_guard, guardStep_true, guardStep_false, guardVal, opsSeq_nil, afterStep_some, afterStep_none, stepC, kindOf, quietC, evC, Nat.reduceLT, Tr.get_set, if_true, if_false, Nat.reduceEqDiff, Option.map_some, Option.bind_some, List.getElem?_toArray, List.getElem?_cons_zero, List.getElem?_cons_succ, ofVal, decide_true, decide_false, BEq.rfl, andThen_normal, andThen_exit, andThen_ret, inBlock_normal, inBlock_ret, go_skip, go_exit, go_ret, loudStep, isCall, loudC, targetC, evs, evParts, mapO, List.nil_append, List.append_nil, List.cons_append, loadC, Heap.skip_get, Heap.get_put, Heap.skip_next, Heap.put_next, h26, h27, bin_lss, e1]
  rw [go_cond _ _ _ (v := false) (by simp only [evC, Tr.get_set, if_true])]
  simp only [Bool.false_eq_true, if_false, go_exit, andThen_exit]

theorem dist_pass {av : CV} {arcs : List (Nat × Nat × Nat)} {bo n : Nat} {above : Int} (har : arcs.length < 1000) (hlt : ∀ a ∈ arcs, a.2.1 < n ∧ a.2.2 < n) (hn1 : n < 1000) (hav : ∀ b o l c, av = .slice b o l c → b ≠ bo) :
    ∀ (k i : Nat) (env : Env) (H : Heap) (os : List Int) (ch : Bool), i + k = arcs.length → env.get 2 = some (.int .i64 above) → env.get 7 = some (.slice bo 0 n (.exact n)) → env.get 8 = some (.bool ch) → env.get 25 = some av → env.get 26 = some (.int .i64 arcs.length) → env.get 27 = some (.int .i64 i) →
      Has H 3 79 av (arcs.map arcCV) → HOk H → H.get bo = some (.cells (os.map (CV.int .i64)) 3 none) → bo < H.next → os.length = n → Small os →
    ∃ env' H', go Tryz.prog X 77 (sub (codeOf Tryz.f29) [true,true,true,false,true,false,false,true,false,true,true,false]) env H = some (.exit 2, env', H') ∧ env'.get 8 = some (.bool ((arcs.drop i).foldl (relax above) (os, ch)).2) ∧ (∀ t, t < 27 → t ≠ 8 → t ≠ 10 → env'.get t = env.get t) ∧
      H'.get bo = some (.cells (((arcs.drop i).foldl (relax above) (os, ch)).1.map (CV.int .i64)) 3 none) ∧ HOk H' ∧ H.next ≤ H'.next ∧ (∀ b o, b < H.next → b ≠ bo → H.get b = some o → H'.get b = some o) ∧ Small ((arcs.drop i).foldl (relax above) (os, ch)).1 ∧ ((arcs.drop i).foldl (relax above) (os, ch)).1.length = n := by
  have hcode : sub (codeOf Tryz.f29) [true,true,true,false,true,false,false,true,false,true,true,false] = .loop (sub (codeOf Tryz.f29) [true,true,true,false,true,false,false,true,false,true,true,false,false]) := rfl
  intro k
  induction k with
  | zero =>
    intro i env H os ch hik h2 h7 h8 h25 h26 h27 hl hk hbo hbn hn hs
    have : i = arcs.length := by omega
    subst this
    rw [hcode, go_loop, dist_exit h26 h27, andThen_exit]
    simp only [List.drop_length, List.foldl_nil]
    exact ⟨_, H, rfl, by simp only [Tr.get_set, Nat.reduceEqDiff, if_false, h8], fun t ht _ _ => by simp only [Tr.get_set, show t ≠ 28 by omega, if_false], hbo, hk, Nat.le_refl _, fun _ _ _ _ h => h, hs, hn⟩
  | succ k ih =>
    intro i env H os ch hik h2 h7 h8 h25 h26 h27 hl hk hbo hbn hn hs
    have hi : i < arcs.length := by omega
    obtain ⟨e1, H1, g1, a8, a27, aq, abo, ak, an, akeep⟩ := dist_body (X := X) h2 h7 h8 h25 h26 h27 hl hi har hk hbo hbn hn hlt (hs.bound (by omega)) hav
    obtain ⟨hlo, hup⟩ := hlt arcs[i] (List.getElem_mem _)
    have hs1 := relax_small (above := above) (ch := ch) (a := arcs[i]) (by omega) (by omega) hs
    have hl1 : Has H1 3 79 av (arcs.map arcCV) := by
      refine ⟨hl.1, ?_⟩
      rcases hl.2 with h | ⟨b, off, cap, cs, fam, hv, h1, h2', h3, h4, h5⟩
      · exact .inl h
      · exact .inr ⟨b, off, cap, cs, fam, hv, h1, Nat.lt_of_lt_of_le h2' an, akeep b _ h2' (hav _ _ _ _ hv) h3, h4, h5⟩
    obtain ⟨e2, H2, g2, b8, bq, bbo, bk, bn, bkeep, bs, bl⟩ := ih (i + 1) e1 H1 (relax above (os, ch) arcs[i]).1 (relax above (os, ch) arcs[i]).2 (by omega) ((aq 2 (by omega) (by omega) (by omega)).trans h2) ((aq 7 (by omega) (by omega) (by omega)).trans h7) a8
      ((aq 25 (by omega) (by omega) (by omega)).trans h25) ((aq 26 (by omega) (by omega) (by omega)).trans h26) a27 hl1 ak abo (Nat.lt_of_lt_of_le hbn an) (by rw [relax_length]; exact hn) hs1
    have hd : (arcs.drop i).foldl (relax above) (os, ch) = (arcs.drop (i + 1)).foldl (relax above) ((relax above (os, ch) arcs[i]).1, (relax above (os, ch) arcs[i]).2) := by
      rw [List.drop_eq_getElem_cons hi, List.foldl_cons]
    rw [hd]
    refine ⟨e2, H2, ?_, b8, fun t ht h h' => (bq t ht h h').trans (aq t ht h h'), bbo, bk, Nat.le_trans an bn, fun b o hb hne ho => bkeep b o (Nat.lt_of_lt_of_le hb an) hne (akeep b o hb hne ho), bs, bl⟩
    rw [hcode, go_loop, g1, andThen_normal, ← hcode]
    exact g2
end Go.Z
