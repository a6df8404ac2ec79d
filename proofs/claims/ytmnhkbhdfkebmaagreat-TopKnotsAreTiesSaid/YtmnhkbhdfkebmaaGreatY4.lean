/- build: the graph's state while its arcs are put in. build: the loop over relations. build: the whole. -/
import Derived.Test.YtmnhkbhdfkebmaaGreatY3

set_option linter.unusedSimpArgs false
set_option linter.unusedVariables false

namespace Go.Y
open Go.K Go.Proofs
set_option linter.unusedSimpArgs false
set_option linter.unusedVariables false
set_option maxRecDepth 10000

variable {X : CallFn}

/-- The arc of a relation. -/
def arcOf (us : List Nat) (i : Nat) (r : Nat × Nat × Nat) : Nat × Nat × Nat := (i, us.idxOf r.2.2, us.idxOf r.2.1)
def arcsFrom (us : List Nat) : Nat → List (Nat × Nat × Nat) → List (Nat × Nat × Nat)
  | _, [] => []
  | k, r :: t => if r.1 = 4 then arcsFrom us (k + 1) t else arcOf us k r :: arcsFrom us (k + 1) t
theorem arcsFrom_snoc (us : List Nat) (r : Nat × Nat × Nat) : ∀ (rs : List (Nat × Nat × Nat)) (k : Nat), arcsFrom us k (rs ++ [r]) = arcsFrom us k rs ++ if r.1 = 4 then [] else [arcOf us (k + rs.length) r]
  | [], k => by simp [arcsFrom]
  | a :: t, k => by
    simp only [List.cons_append, arcsFrom, arcsFrom_snoc us r t (k + 1), List.length_cons]
    rw [show k + 1 + t.length = k + (t.length + 1) by omega]
    split <;> simp
theorem arcsFrom_length (us : List Nat) : ∀ (rs : List (Nat × Nat × Nat)) (k : Nat), (arcsFrom us k rs).length ≤ rs.length
  | [], k => by simp [arcsFrom]
  | a :: t, k => by
    have := arcsFrom_length us t (k + 1)
    simp only [arcsFrom]
    split
    · simp only [List.length_cons]; omega
    · simp only [List.length_cons]; omega
/-- The arcs that lead from a unit. -/
def outOf (arcs : List (Nat × Nat × Nat)) (j : Nat) : List (Nat × Nat × Nat) := arcs.filter fun a => decide (a.2.1 = j)
theorem outOf_length (arcs : List (Nat × Nat × Nat)) (j : Nat) : (outOf arcs j).length ≤ arcs.length := List.length_filter_le _ _

structure GS (n1 : Nat) (H : Heap) (bg bm bx : Nat) (nv av : CV) (xs : List CV) (us : List Nat) (arcs : List (Nat × Nat × Nat)) (fa : Nat) (fs : Nat → Nat) : Prop where
  g : H.get bg = some (.cells [nv, .map bm, av, .slice bx 0 us.length (.exact us.length)] 60 none)
  m : H.get bm = some (.map (entriesFrom 0 us) us.length)
  x : H.get bx = some (.cells xs 57 none)
  len : xs.length = us.length
  n : Has H 1 9 nv (us.map nm)
  a : Own H fa 3 87 av (arcs.map arcCV)
  c : ∀ j v, xs[j]? = some v → Own H (fs j) 3 87 v ((outOf arcs j).map arcCV)
  fa1 : av ≠ .nilSlice → n1 ≤ fa
  fs1 : ∀ j v, xs[j]? = some v → v ≠ .nilSlice → n1 ≤ fs j
  d1 : av ≠ .nilSlice → ∀ j v, xs[j]? = some v → v ≠ .nilSlice → fa ≠ fs j
  d2 : ∀ i j v w, xs[i]? = some v → xs[j]? = some w → i ≠ j → v ≠ .nilSlice → w ≠ .nilSlice → fs i ≠ fs j
  ok : HOk H
  next : n1 ≤ H.next
  lg : bg < n1
  lm : bm < n1
  lx : bx < n1
  ln : ∀ b off len cap, nv = .slice b off len cap → b < n1 ∧ b ≠ bg ∧ b ≠ bx
  gm : bg ≠ bm
  gx : bg ≠ bx
  mx : bm ≠ bx

/-- Old blocks other than the graph's own stay. -/
def Old (n1 bg bx : Nat) (H H' : Heap) : Prop := H.next ≤ H'.next ∧ ∀ b o, b < n1 → b ≠ bg → b ≠ bx → H.get b = some o → H'.get b = some o
theorem Old.refl (n1 bg bx : Nat) (H : Heap) : Old n1 bg bx H H := ⟨Nat.le_refl _, fun _ _ _ _ _ h => h⟩
theorem Old.trans {n1 bg bx : Nat} {a b c : Heap} (h : Old n1 bg bx a b) (k : Old n1 bg bx b c) : Old n1 bg bx a c := ⟨Nat.le_trans h.1 k.1, fun x o h1 h2 h3 h4 => k.2 x o h1 h2 h3 (h.2 x o h1 h2 h3 h4)⟩
theorem Ext.old {n1 n bg bx : Nat} {H H' : Heap} (h : Ext n H H') (hn : n1 ≤ n) : Old n1 bg bx H H' := ⟨h.1, fun b o hb _ _ ho => h.2 b o (by omega) ho⟩
theorem _root_.Go.K.Has.old' {n1 bg bx : Nat} {H H' : Heap} {sz e : Nat} {v : CV} {vs : List CV} (h : Has H sz e v vs) (hx : Old n1 bg bx H H') (hn : ∀ b off len cap, v = .slice b off len cap → b < n1 ∧ b ≠ bg ∧ b ≠ bx) : Has H' sz e v vs := by
  refine ⟨h.1, ?_⟩
  rcases h.2 with h | ⟨b, off, cap, cs, fam, hv, h1, h2, h3, h4, h5⟩
  · exact .inl h
  · obtain ⟨q1, q2, q3⟩ := hn _ _ _ _ hv
    exact .inr ⟨b, off, cap, cs, fam, hv, h1, Nat.lt_of_lt_of_le h2 hx.1, hx.2 b _ q1 q2 q3 h3, h4, h5⟩

/-- The state goes on where all blocks stay. -/
theorem GS.ext {n1 bg bm bx : Nat} {H H' : Heap} {nv av : CV} {xs : List CV} {us : List Nat} {arcs : List (Nat × Nat × Nat)} {fa : Nat} {fs : Nat → Nat} (h : GS n1 H bg bm bx nv av xs us arcs fa fs) (hx : Ext H.next H H') (hk : HOk H') :
    GS n1 H' bg bm bx nv av xs us arcs fa fs := by
  have l := h.next
  exact ⟨hx.2 _ _ (Nat.lt_of_lt_of_le h.lg l) h.g, hx.2 _ _ (Nat.lt_of_lt_of_le h.lm l) h.m, hx.2 _ _ (Nat.lt_of_lt_of_le h.lx l) h.x, h.len, h.n.ext hx h.n.lt, h.a.ext hx h.a.lt, fun j v hj => (h.c j v hj).ext hx (h.c j v hj).lt, h.fa1, h.fs1, h.d1, h.d2, hk,
    Nat.le_trans l hx.1, h.lg, h.lm, h.lx, h.ln, h.gm, h.gx, h.mx⟩

theorem Own.fam_lt {H : Heap} {f sz e : Nat} {v : CV} {vs : List CV} (h : Own H f sz e v vs) (hv : v ≠ .nilSlice) : f < H.next := by
  rcases h.2 with ⟨e, _⟩ | ⟨b, p, _, _, h1, h2, _⟩
  · exact absurd e hv
  · omega

/-- g.arcs has a new arc. -/
theorem GS.arc {n1 bg bm bx : Nat} {H H' : Heap} {nv av v' : CV} {xs : List CV} {us : List Nat} {arcs : List (Nat × Nat × Nat)} {fa f' : Nat} {fs : Nat → Nat} {arcs' : List (Nat × Nat × Nat)} (h : GS n1 H bg bm bx nv av xs us arcs fa fs)
    (hown : Own H' f' 3 87 v' (arcs'.map arcCV)) (hg : H'.get bg = some (.cells [nv, .map bm, v', .slice bx 0 us.length (.exact us.length)] 60 none)) (hok : HOk H') (hnext : H.next ≤ H'.next) (hf1 : av = .nilSlice → H.next ≤ f') (hf2 : av ≠ .nilSlice → f' = fa)
    (hkeep : ∀ b o, b < H.next → b ≠ bg → H.get b = some o → (av ≠ .nilSlice → ∀ g p, o.fam = some (g, p) → g ≠ fa) → H'.get b = some o) :
    Old n1 bg bx H H' ∧ H'.get bm = some (.map (entriesFrom 0 us) us.length) ∧ H'.get bx = some (.cells xs 57 none) ∧ (∀ j v, xs[j]? = some v → Own H' (fs j) 3 87 v ((outOf arcs j).map arcCV)) ∧ n1 ≤ f' ∧ (∀ j v, xs[j]? = some v → v ≠ .nilSlice → f' ≠ fs j) := by
  have l := h.next
  refine ⟨⟨hnext, fun b o hb hb1 hb2 ho => hkeep b o (by omega) hb1 ho (fun hv g p hg => ?_)⟩, hkeep bm _ (by have := h.lm; omega) h.gm.symm h.m (fun _ g p e => by simp [CObj.fam] at e), hkeep bx _ (by have := h.lx; omega) h.gx.symm h.x (fun _ g p e => by simp [CObj.fam] at e),
    fun j v hj => ?_, ?_, fun j v hj hv => ?_⟩
  · have := (h.ok.fam b o g p ho hg).1
    have := h.fa1 hv
    omega
  · refine ⟨(h.c j v hj).1, ?_⟩
    rcases (h.c j v hj).2 with e | ⟨b, p, e, h1, h2, h3, h4⟩
    · exact .inl e
    · refine .inr ⟨b, p, e, h1, Nat.lt_of_lt_of_le h2 hnext, h3, hkeep b _ h2 ?_ h4 (fun hv g q hg => ?_)⟩
      · rintro rfl; rw [h.g] at h4; simp at h4
      · simp only [CObj.fam, Option.some.injEq, Prod.mk.injEq] at hg
        rw [← hg.1]
        exact (h.d1 hv j v hj (by rw [e]; intro hh; cases hh)).symm
  · by_cases hv : av = .nilSlice
    · have := hf1 hv; omega
    · rw [hf2 hv]; exact h.fa1 hv
  · by_cases hav : av = .nilSlice
    · have := hf1 hav
      have := Own.fam_lt (h.c j v hj) hv
      omega
    · rw [hf2 hav]; exact h.d1 hav j v hj hv

/-- The list of a unit has a new arc. -/
theorem GS.out {n1 bg bm bx f' : Nat} {H H1 H' : Heap} {nv av av' v v' : CV} {xs : List CV} {us : List Nat} {arcs : List (Nat × Nat × Nat)} {fa fa' : Nat} {fs : Nat → Nat} {a : Nat × Nat × Nat} (h : GS n1 H bg bm bx nv av xs us arcs fa fs)
    -- behind the first append
    (old : Old n1 bg bx H H1) (hm1 : H1.get bm = some (.map (entriesFrom 0 us) us.length)) (hx1 : H1.get bx = some (.cells xs 57 none)) (hc1 : ∀ j v, xs[j]? = some v → Own H1 (fs j) 3 87 v ((outOf arcs j).map arcCV)) (hfa : n1 ≤ fa') (hfd : ∀ j v, xs[j]? = some v → v ≠ .nilSlice → fa' ≠ fs j)
    (hg1 : H1.get bg = some (.cells [nv, .map bm, av', .slice bx 0 us.length (.exact us.length)] 60 none)) (ha1 : Own H1 fa' 3 87 av' ((arcs ++ [a]).map arcCV)) (hok1 : HOk H1) (hav : av' ≠ .nilSlice)
    -- behind the second
    (hxv : xs[a.2.1]? = some v) (hown : Own H' f' 3 87 v' ((outOf arcs a.2.1 ++ [a]).map arcCV)) (hx : H'.get bx = some (.cells (xs.set a.2.1 v') 57 none)) (hok : HOk H') (hnext : H1.next ≤ H'.next) (hv' : v' ≠ .nilSlice) (hf1 : v = .nilSlice → H1.next ≤ f') (hf2 : v ≠ .nilSlice → f' = fs a.2.1)
    (hkeep : ∀ b o, b < H1.next → b ≠ bx → H1.get b = some o → (v ≠ .nilSlice → ∀ g p, o.fam = some (g, p) → g ≠ fs a.2.1) → H'.get b = some o) :
    GS n1 H' bg bm bx nv av' (xs.set a.2.1 v') us (arcs ++ [a]) fa' (fun j => if j = a.2.1 then f' else fs j) ∧ Old n1 bg bx H H' := by
  have l := h.next
  have l1 := old.1
  have hlo : a.2.1 < xs.length := (List.getElem?_eq_some_iff.1 hxv).1
  have hnf : n1 ≤ f' := by
    by_cases hv : v = .nilSlice
    · have := hf1 hv; omega
    · rw [hf2 hv]; exact h.fs1 _ v hxv hv
  have old2 : Old n1 bg bx H1 H' := ⟨hnext, fun b o hb hb1 hb2 ho => hkeep b o (by omega) hb2 ho (fun hv g p hg => by
    have := (hok1.fam b o g p ho hg).1
    have := h.fs1 _ v hxv hv
    omega)⟩
  have kept : ∀ {f sz e : Nat} {u : CV} {vs : List CV}, Own H1 f sz e u vs → e ≠ 74 → (u ≠ .nilSlice → v ≠ .nilSlice → f ≠ fs a.2.1) → Own H' f sz e u vs := by
    intro f sz e u vs hu he hne
    refine ⟨hu.1, ?_⟩
    rcases hu.2 with e | ⟨b, p, e1, h1, h2, h3, h4⟩
    · exact .inl e
    · refine .inr ⟨b, p, e1, h1, Nat.lt_of_lt_of_le h2 hnext, h3, hkeep b _ h2 ?_ h4 (fun hv g q hg => ?_)⟩
      · rintro rfl; rw [hx1] at h4; simp at h4
      · simp only [CObj.fam, Option.some.injEq, Prod.mk.injEq] at hg
        rw [← hg.1]
        exact hne (by rw [e1]; intro hh; cases hh) hv
  have newne : ∀ j u, xs[j]? = some u → u ≠ .nilSlice → j ≠ a.2.1 → f' ≠ fs j := by
    intro j u hj hu hne
    by_cases hv : v = .nilSlice
    · have := hf1 hv
      have := Own.fam_lt (h.c j u hj) hu
      omega
    · rw [hf2 hv]; exact h.d2 _ j v u hxv hj (Ne.symm hne) hv hu
  have ane : fa' ≠ f' := by
    by_cases hv : v = .nilSlice
    · have := hf1 hv
      have := Own.fam_lt ha1 hav
      omega
    · rw [hf2 hv]; exact hfd _ v hxv hv
  have hset : ∀ j u, (xs.set a.2.1 v')[j]? = some u → (j = a.2.1 ∧ u = v') ∨ (j ≠ a.2.1 ∧ xs[j]? = some u) := by
    intro j u hj
    by_cases e : j = a.2.1
    · subst e; rw [List.getElem?_set_self hlo] at hj; injection hj with hj; exact .inl ⟨rfl, hj.symm⟩
    · rw [List.getElem?_set_ne (Ne.symm e)] at hj; exact .inr ⟨e, hj⟩
  have hout : ∀ j, outOf (arcs ++ [a]) j = if j = a.2.1 then outOf arcs j ++ [a] else outOf arcs j := by
    intro j
    by_cases e : j = a.2.1
    · subst e; simp [outOf]
    · rw [if_neg e]; simp [outOf, Ne.symm e]
  refine ⟨⟨hkeep bg _ (by have := h.lg; omega) h.gx hg1 (fun _ g p e => by simp [CObj.fam] at e), hkeep bm _ (by have := h.lm; omega) h.mx hm1 (fun _ g p e => by simp [CObj.fam] at e), hx, by rw [List.length_set]; exact h.len,
    (h.n.old' old h.ln).old' old2 h.ln, kept ha1 (by omega) (fun _ hv => hfd _ v hxv hv), fun j u hj => ?_, fun _ => hfa, fun j u hj hu => ?_, fun _ j u hj hu => ?_, fun i j u w hi hj hij hu hw => ?_, hok, by omega, h.lg, h.lm, h.lx, h.ln, h.gm, h.gx, h.mx⟩, old.trans old2⟩
  · rcases hset j u hj with ⟨rfl, rfl⟩ | ⟨e, hj'⟩
    · rw [if_pos rfl, hout, if_pos rfl]; exact hown
    · simp only [if_neg e, hout]
      exact kept (hc1 j u hj') (by omega) (fun hu hv => h.d2 j _ u v hj' hxv e hu hv)
  · rcases hset j u hj with ⟨rfl, rfl⟩ | ⟨e, hj'⟩
    · simp only [if_true]; exact hnf
    · simp only [if_neg e]; exact h.fs1 j u hj' hu
  · rcases hset j u hj with ⟨rfl, rfl⟩ | ⟨e, hj'⟩
    · simp only [if_true]; exact ane
    · simp only [if_neg e]; exact hfd j u hj' hu
  · rcases hset i u hi with ⟨rfl, rfl⟩ | ⟨ei, hi'⟩
    · rcases hset j w hj with ⟨rfl, rfl⟩ | ⟨ej, hj'⟩
      · exact absurd rfl hij
      · simp only [if_true, if_neg ej]; exact newne j w hj' hw ej
    · rcases hset j w hj with ⟨rfl, rfl⟩ | ⟨ej, hj'⟩
      · simp only [if_true, if_neg ei]; exact (newne i u hi' hu ei).symm
      · simp only [if_neg ei, if_neg ej]; exact h.d2 i j u w hi' hj' hij hu hw
end Go.Y

namespace Go.Y
open Go.K Go.Proofs
set_option linter.unusedSimpArgs false
set_option linter.unusedVariables false
set_option maxRecDepth 10000

variable {X : CallFn}

theorem build_body2 {n1 bg bm bx i fa : Nat} {l nv av : CV} {xs : List CV} {us : List Nat} {fs : Nat → Nat} {rs : List (Nat × Nat × Nat)} {env : Env} {H : Heap} (hr : rs.length ≤ 900) (hi : i < rs.length) (hus : ∀ y ∈ us, y < 100)
    (hmem : ∀ r ∈ rs, r.2.1 ∈ us ∧ r.2.2 ∈ us) (h3 : env.get 3 = some (.ptr bg 0)) (h40 : env.get 40 = some l) (h41 : env.get 41 = some (.int .i64 rs.length)) (h42 : env.get 42 = some (.int .i64 i))
    (hl : Has H 3 41 l (rs.map relCV)) (hgs : GS n1 H bg bm bx nv av xs us (arcsFrom us 0 (rs.take i)) fa fs) :
    ∃ (env' : Env) (H' : Heap) (av' : CV) (xs' : List CV) (fa' : Nat) (fs' : Nat → Nat), go Tryz.prog X 96 (sub (codeOf Tryz.f22) [true,true,true,true,false,true,false,false]) env H = some (.normal, env', H') ∧ env'.get 3 = some (.ptr bg 0) ∧ env'.get 40 = some l ∧ env'.get 41 = some (.int .i64 rs.length) ∧
      env'.get 42 = some (.int .i64 (i + 1 : Nat)) ∧ GS n1 H' bg bm bx nv av' xs' us (arcsFrom us 0 (rs.take (i + 1))) fa' fs' ∧ Old n1 bg bx H H' := by
  have hcode : sub (codeOf Tryz.f22) [true,true,true,true,false,true,false,false] = .seq (sub (codeOf Tryz.f22) [true,true,true,true,false,true,false,false,false]) (.seq (sub (codeOf Tryz.f22) [true,true,true,true,false,true,false,false,true,false]) (.seq (.block 3 (.seq (sub (codeOf Tryz.f22) [true,true,true,true,false,true,false,false,true,true,false,false,false]) (.seq (sub (codeOf Tryz.f22) [true,true,true,true,false,true,false,false,true,true,false,false,true,false])
    (.seq (sub (codeOf Tryz.f22) [true,true,true,true,false,true,false,false,true,true,false,false,true,true,false]) (.seq (sub (codeOf Tryz.f22) [true,true,true,true,false,true,false,false,true,true,false,false,true,true,true,false]) (sub (codeOf Tryz.f22) [true,true,true,true,false,true,false,false,true,true,false,false,true,true,true,true])))))) (sub (codeOf Tryz.f22) [true,true,true,true,false,true,false,false,true,true,true]))) := rfl
  have e1 : (i : Int) < (rs.length : Int) := by omega
  have hw : wrap .i64 ((i : Int) + 1) = ((i + 1 : Nat) : Int) := wrap64 (by omega) (by omega)
  have g9 : go Tryz.prog X 96 (sub (codeOf Tryz.f22) [true,true,true,true,false,true,false,false,false]) env H = some (.normal, env.set 43 (.bool true), H) := by
    simp only [codeOf, Tryz.f22, sub, go_seq, go_region, opsSeq_step, opsSeq_guard, guardStep_true, guardStep_false, guardVal, opsSeq_nil, afterStep_some, afterStep_none, stepC, kindOf, quietC, evC, Nat.reduceLT, Tr.get_set, if_true, if_false, Nat.reduceEqDiff, Option.map_some, Option.bind_some, List.getElem?_toArray, List.getElem?_cons_zero, List.getElem?_cons_succ, ofVal, decide_true, decide_false, BEq.rfl, andThen_normal, andThen_exit, andThen_ret, inBlock_normal, inBlock_ret, go_skip, go_exit, go_ret, loudStep, isCall, loudC, targetC, evs, evParts, mapO, List.nil_append, List.append_nil, List.cons_append, loadC, Heap.skip_get, Heap.get_put, Heap.skip_next, Heap.put_next, h41, h42, bin_lss, e1]
  have g9' : go Tryz.prog X 96 (sub (codeOf Tryz.f22) [true,true,true,true,false,true,false,false,true,false]) (env.set 43 (.bool true)) H = some (.normal, env.set 43 (.bool true), H) := by
    simp only [codeOf, Tryz.f22, sub]
    rw [go_cond _ _ _ (v := true) (by simp only [evC, Tr.get_set, if_true])]
    simp only [if_true, go_skip]
  have g15 : ∀ (e : Env) (G : Heap), e.get 42 = some (.int .i64 i) → go Tryz.prog X 96 (sub (codeOf Tryz.f22) [true,true,true,true,false,true,false,false,true,true,true]) e G = some (.normal, (e.set 94 (.int .i64 (i + 1 : Nat))).set 42 (.int .i64 (i + 1 : Nat)), G) := by
    intro e G he
    simp only [codeOf, Tryz.f22, sub, go_seq, go_region, opsSeq_step, opsSeq_guard, guardStep_true, guardStep_false, guardVal, opsSeq_nil, afterStep_some, afterStep_none, stepC, kindOf, quietC, evC, Nat.reduceLT, Tr.get_set, if_true, if_false, Nat.reduceEqDiff, Option.map_some, Option.bind_some, List.getElem?_toArray, List.getElem?_cons_zero, List.getElem?_cons_succ, ofVal, decide_true, decide_false, BEq.rfl, andThen_normal, andThen_exit, andThen_ret, inBlock_normal, inBlock_ret, go_skip, go_exit, go_ret, loudStep, isCall, loudC, targetC, evs, evParts, mapO, List.nil_append, List.append_nil, List.cons_append, loadC, Heap.skip_get, Heap.get_put, Heap.skip_next, Heap.put_next, he, bin_add, hw]
  obtain ⟨ea, H1, ga, ag, an, ak, ax, a3, a40, a41, a42, a6, a7⟩ := build_r10 (X := X) (bg := bg) (env := env.set 43 (.bool true)) (by simp only [Tr.get_set, Nat.reduceEqDiff, if_false, h3]) (by simp only [Tr.get_set, Nat.reduceEqDiff, if_false, h40]) (by simp only [Tr.get_set, Nat.reduceEqDiff, if_false, h41])
    (by simp only [Tr.get_set, Nat.reduceEqDiff, if_false, h42]) hl hi hgs.ok
  have hgs1 := GS.ext hgs ax ak
  have htake : rs.take (i + 1) = rs.take i ++ [rs[i]] := by rw [List.take_add_one, List.getElem?_eq_getElem hi, Option.toList_some]
  have htl : (rs.take i).length = i := by rw [List.length_take]; omega
  have hsn := arcsFrom_snoc us rs[i] (rs.take i) 0
  rw [← htake, htl, Nat.zero_add] at hsn
  have old1 : Old n1 bg bx H H1 := Ext.old ax hgs.next
  by_cases hkd : rs[i].1 = 4
  · rw [if_pos hkd, List.append_nil] at hsn
    have g11 : ∃ e, go Tryz.prog X 96 (sub (codeOf Tryz.f22) [true,true,true,true,false,true,false,false,true,true,false,false,true,false]) ea H1 = some (.exit 3, e, H1) ∧ ∀ t, t < 47 → e.get t = ea.get t := by
      have e2 : ((rs[i].1 : Nat) : Int) = 4 := by omega
      simp only [codeOf, Tryz.f22, sub, go_seq, go_region, opsSeq_step, opsSeq_guard, guardStep_true, guardStep_false, guardVal, opsSeq_nil, afterStep_some, afterStep_none, stepC, kindOf, quietC, evC, Nat.reduceLT, Tr.get_set, if_true, if_false, Nat.reduceEqDiff, Option.map_some, Option.bind_some, List.getElem?_toArray, List.getElem?_cons_zero, List.getElem?_cons_succ, ofVal, decide_true, decide_false, BEq.rfl, andThen_normal, andThen_exit, andThen_ret, inBlock_normal, inBlock_ret, go_skip, go_exit, go_ret, loudStep, isCall, loudC, targetC, evs, evParts, mapO, List.nil_append, List.append_nil, List.cons_append, loadC, Heap.skip_get, Heap.get_put, Heap.skip_next, Heap.put_next, a7, fa42_0, g3, ag, bin_eql, e2]
      rw [go_cond _ _ _ (v := true) (by simp only [evC, Tr.get_set, if_true])]
      simp only [if_true, go_exit]
      refine ⟨_, rfl, fun t ht => ?_⟩
      simp only [Tr.get_set, show t ≠ 47 by omega, show t ≠ 48 by omega, show t ≠ 49 by omega, if_false]
    obtain ⟨eb, gb, qb⟩ := g11
    refine ⟨(eb.set 94 (.int .i64 (i + 1 : Nat))).set 42 (.int .i64 (i + 1 : Nat)), H1, av, xs, fa, fs, ?_, ?_, ?_, ?_, ?_, by rw [hsn]; exact hgs1, old1⟩
    · rw [hcode, go_seq, g9, andThen_normal, go_seq, g9', andThen_normal, go_seq, go_block, go_seq, ga, andThen_normal, go_seq, gb, andThen_exit, inBlock_exit, if_pos rfl, andThen_normal]
      exact g15 eb H1 ((qb 42 (by omega)).trans a42)
    · simp only [Tr.get_set, Nat.reduceEqDiff, if_false]; exact (qb 3 (by omega)).trans a3
    · simp only [Tr.get_set, Nat.reduceEqDiff, if_false]; exact (qb 40 (by omega)).trans a40
    · simp only [Tr.get_set, Nat.reduceEqDiff, if_false]; exact (qb 41 (by omega)).trans a41
    · simp only [Tr.get_set, if_true]
  · rw [if_neg hkd] at hsn
    have g11 : ∃ e, go Tryz.prog X 96 (sub (codeOf Tryz.f22) [true,true,true,true,false,true,false,false,true,true,false,false,true,false]) ea H1 = some (.normal, e, H1) ∧ ∀ t, t < 47 → e.get t = ea.get t := by
      have e2 : ¬ (((rs[i].1 : Nat) : Int) = 4) := by omega
      simp only [codeOf, Tryz.f22, sub, go_seq, go_region, opsSeq_step, opsSeq_guard, guardStep_true, guardStep_false, guardVal, opsSeq_nil, afterStep_some, afterStep_none, stepC, kindOf, quietC, evC, Nat.reduceLT, Tr.get_set, if_true, if_false, Nat.reduceEqDiff, Option.map_some, Option.bind_some, List.getElem?_toArray, List.getElem?_cons_zero, List.getElem?_cons_succ, ofVal, decide_true, decide_false, BEq.rfl, andThen_normal, andThen_exit, andThen_ret, inBlock_normal, inBlock_ret, go_skip, go_exit, go_ret, loudStep, isCall, loudC, targetC, evs, evParts, mapO, List.nil_append, List.append_nil, List.cons_append, loadC, Heap.skip_get, Heap.get_put, Heap.skip_next, Heap.put_next, a7, fa42_0, g3, ag, bin_eql, e2]
      rw [go_cond _ _ _ (v := false) (by simp only [evC, Tr.get_set, if_true])]
      simp only [Bool.false_eq_true, if_false, go_skip]
      refine ⟨_, rfl, fun t ht => ?_⟩
      simp only [Tr.get_set, show t ≠ 47 by omega, show t ≠ 48 by omega, show t ≠ 49 by omega, if_false]
    obtain ⟨eb, gb, qb⟩ := g11
    obtain ⟨hu, hlw⟩ := hmem rs[i] (List.getElem_mem _)
    obtain ⟨ec, H2, gc, cg, cn, ck, cx, c8, qc⟩ := build_r12 (X := X) ((qb 3 (by omega)).trans a3) ((qb 6 (by omega)).trans a6) ((qb 7 (by omega)).trans a7) ag hgs1.g hgs1.m hus hu hlw ak
    have hgs2 := GS.ext hgs1 cx ck
    have old2 : Old n1 bg bx H1 H2 := Ext.old cx hgs1.next
    have c3 : ec.get 3 = some (.ptr bg 0) := (qc 3 (by omega) (by omega)).trans ((qb 3 (by omega)).trans a3)
    have lg2 : bg < H2.next := Nat.lt_of_lt_of_le hgs2.lg hgs2.next
    have hba : H1.next + 16 ≠ bg := by have := hgs1.lg; have := hgs1.next; omega
    have hal : (arcsFrom us 0 (rs.take i)).length < 1000 := by have := arcsFrom_length us (rs.take i) 0; omega
    obtain ⟨ed, v1, H3, f3, gd, down, dg, dk, dn, dne, df1, df2, dkeep, qd⟩ := build_r13 (X := X) (a := arcOf us i rs[i]) c3 c8 hgs2.g lg2 cg (by omega) hba hgs2.a ck hal
    obtain ⟨old3, dm, dx, dc, dfa, dfd⟩ := GS.arc hgs2 down dg dk dn df1 df2 dkeep
    have hlo : us.idxOf rs[i].2.2 < us.length := List.idxOf_lt_length_iff.2 hlw
    obtain ⟨v, hv⟩ : ∃ v, xs[us.idxOf rs[i].2.2]? = some v := ⟨_, List.getElem?_eq_getElem (by rw [hgs.len]; exact hlo)⟩
    have d8 : ed.get 8 = some (.ptr (H1.next + 16) 0) := (qd 8 (by omega)).trans c8
    have d3 : ed.get 3 = some (.ptr bg 0) := (qd 3 (by omega)).trans c3
    have hcg3 : H3.get (H1.next + 16) = some (.cells [.int .i64 i, .int .i64 (us.idxOf rs[i].2.2 : Nat), .int .i64 (us.idxOf rs[i].2.1 : Nat)] 87 none) := dkeep _ _ (by omega) hba cg (fun _ g p e => by simp [CObj.fam] at e)
    obtain ⟨ee, v2, H4, f4, ge, eown, ex, ek, en, ene, ef1, ef2, ekeep, qe⟩ := build_r14 (X := X) (a := arcOf us i rs[i]) (xs := xs) (v := v) d3 d8 dg (by omega) dx (by have := hgs2.lx; have := hgs2.next; omega) hgs.len hlo hv hcg3 (by omega) (dc _ v hv) dk
      (by have := outOf_length (arcsFrom us 0 (rs.take i)) (us.idxOf rs[i].2.2); omega)
    obtain ⟨hgs4, old4⟩ := GS.out (a := arcOf us i rs[i]) hgs2 old3 dm dx dc dfa dfd dg down dk dne hv eown ex ek en ene ef1 ef2 ekeep
    have q : ∀ t, t < 47 → t ≠ 8 → ee.get t = ea.get t := fun t ht h8 => (qe t (by omega)).trans ((qd t (by omega)).trans ((qc t (by omega) h8).trans (qb t ht)))
    refine ⟨(ee.set 94 (.int .i64 (i + 1 : Nat))).set 42 (.int .i64 (i + 1 : Nat)), H4, v1, _, f3, _, ?_, ?_, ?_, ?_, ?_, by rw [hsn]; exact hgs4, old1.trans (old2.trans old4)⟩
    · rw [hcode, go_seq, g9, andThen_normal, go_seq, g9', andThen_normal, go_seq, go_block, go_seq, ga, andThen_normal, go_seq, gb, andThen_normal, go_seq, gc, andThen_normal, go_seq, gd, andThen_normal, ge, inBlock_normal, andThen_normal]
      exact g15 ee H4 ((q 42 (by omega) (by omega)).trans a42)
    · simp only [Tr.get_set, Nat.reduceEqDiff, if_false]; exact (q 3 (by omega) (by omega)).trans a3
    · simp only [Tr.get_set, Nat.reduceEqDiff, if_false]; exact (q 40 (by omega) (by omega)).trans a40
    · simp only [Tr.get_set, Nat.reduceEqDiff, if_false]; exact (q 41 (by omega) (by omega)).trans a41
    · simp only [Tr.get_set, if_true]
end Go.Y

namespace Go.Y
open Go.K Go.Proofs
set_option linter.unusedSimpArgs false
set_option linter.unusedVariables false
set_option maxRecDepth 10000

variable {X : CallFn}

theorem build_exit2 {env : Env} {H : Heap} {n : Nat} (h41 : env.get 41 = some (.int .i64 n)) (h42 : env.get 42 = some (.int .i64 n)) :
    go Tryz.prog X 96 (sub (codeOf Tryz.f22) [true,true,true,true,false,true,false,false]) env H = some (.exit 2, env.set 43 (.bool false), H) := by
  have e1 : ¬ ((n : Int) < (n : Int)) := by omega
  simp only [codeOf, Tryz.f22, sub, go_seq, go_region, opsSeq_step, opsSeq_guard, guardStep_true, guardStep_false, guardVal, opsSeq_nil, afterStep_some, afterStep_none, stepC, kindOf, quietC, evC, Nat.reduceLT, Tr.get_set, if_true, if_false, Nat.reduceEqDiff, Option.map_some, Option.bind_some, List.getElem?_toArray, List.getElem?_cons_zero, List.getElem?_cons_succ, ofVal, decide_true, decide_false, BEq.rfl, andThen_normal, andThen_exit, andThen_ret, inBlock_normal, inBlock_ret, go_skip, go_exit, go_ret, loudStep, isCall, loudC, targetC, evs, evParts, mapO, List.nil_append, List.append_nil, List.cons_append, loadC, Heap.skip_get, Heap.get_put, Heap.skip_next, Heap.put_next, h41, h42, bin_lss, e1]
  rw [go_cond _ _ _ (v := false) (by simp only [evC, Tr.get_set, if_true])]
  simp only [Bool.false_eq_true, if_false, go_exit, andThen_exit]

theorem build_loop2 {n1 bg bm bx : Nat} {l nv : CV} {us : List Nat} {rs : List (Nat × Nat × Nat)} (hr : rs.length ≤ 900) (hus : ∀ y ∈ us, y < 100) (hmem : ∀ r ∈ rs, r.2.1 ∈ us ∧ r.2.2 ∈ us) (hln : ∀ b off len cap, l = .slice b off len cap → b < n1 ∧ b ≠ bg ∧ b ≠ bx) :
    ∀ (k i : Nat) (env : Env) (H : Heap) (av : CV) (xs : List CV) (fa : Nat) (fs : Nat → Nat), i + k = rs.length → env.get 3 = some (.ptr bg 0) → env.get 40 = some l → env.get 41 = some (.int .i64 rs.length) → env.get 42 = some (.int .i64 i) →
      Has H 3 41 l (rs.map relCV) → GS n1 H bg bm bx nv av xs us (arcsFrom us 0 (rs.take i)) fa fs →
    ∃ (env' : Env) (H' : Heap) (av' : CV) (xs' : List CV) (fa' : Nat) (fs' : Nat → Nat), go Tryz.prog X 96 (sub (codeOf Tryz.f22) [true,true,true,true,false,true,false]) env H = some (.exit 2, env', H') ∧ env'.get 3 = some (.ptr bg 0) ∧ GS n1 H' bg bm bx nv av' xs' us (arcsFrom us 0 rs) fa' fs' ∧ Old n1 bg bx H H' := by
  have hcode : sub (codeOf Tryz.f22) [true,true,true,true,false,true,false] = .loop (sub (codeOf Tryz.f22) [true,true,true,true,false,true,false,false]) := rfl
  intro k
  induction k with
  | zero =>
    intro i env H av xs fa fs hik h3 h40 h41 h42 hl hgs
    have : i = rs.length := by omega
    subst this
    rw [hcode, go_loop, build_exit2 h41 h42, andThen_exit]
    rw [List.take_length] at hgs
    exact ⟨_, H, av, xs, fa, fs, rfl, by simp only [Tr.get_set, Nat.reduceEqDiff, if_false, h3], hgs, Old.refl _ _ _ _⟩
  | succ k ih =>
    intro i env H av xs fa fs hik h3 h40 h41 h42 hl hgs
    obtain ⟨e1, H1, av1, xs1, fa1, fs1, g1, a3, a40, a41, a42, ags, aold⟩ := build_body2 (X := X) hr (by omega) hus hmem h3 h40 h41 h42 hl hgs
    obtain ⟨e2, H2, av2, xs2, fa2, fs2, g2, b3, bgs, bold⟩ := ih (i + 1) e1 H1 av1 xs1 fa1 fs1 (by omega) a3 a40 a41 a42 (hl.old' aold hln) ags
    refine ⟨e2, H2, av2, xs2, fa2, fs2, ?_, b3, bgs, aold.trans bold⟩
    rw [hcode, go_loop, g1, andThen_normal, ← hcode]
    exact g2

theorem build77 (b : Nat) {nv : CV} (h : nv = .nilSlice ∨ ∃ b o l c, nv = .slice b o l c) : buildC Tryz.prog 60 [(0, nv), (1, .map b)] = some (.agg [nv, .map b, .nilSlice, .nilSlice]) := by
  rcases h with rfl | ⟨b', o, l, c, rfl⟩
  · kernel_rfl
  · kernel_rfl
theorem rep_replicate (n : Nat) (z : CV) : rep n [z] = List.replicate n z := by
  induction n with
  | zero => rfl
  | succ n ih => simp [rep, ih, List.replicate_succ]
theorem i74z : ∃ i : TypeInfo, Tryz.prog.info? 57 = some i ∧ i.size = 0 + 1 ∧ i.bytes = 24 := info_of (by kernel_rfl)
theorem mk75 {n : Nat} (hn : n ≤ 1000) (ρ : Operand → Option CV) (x : Operand) (hx : ρ x = some (.int .i64 (n : Int))) :
    allocC Tryz.prog (.makeSlice 58 x x) ρ = some (.cells (List.replicate n .nilSlice) 57 none, fun b => .slice b 0 n (.exact n)) := by
  obtain ⟨i, h1, h2, h3⟩ := i74z
  have hx' : ρ x = some (.int .i64 (Int.ofNat n)) := hx
  simp only [allocC, u75, hx', h1, h2, h3, ble_t (Nat.le_refl n), ble_t (show n ≤ 140737488355328 by omega), ble_t (show 24 * n ≤ 140737488355328 by omega), Bool.and_self]
  cases n with
  | zero => rfl
  | succ n =>
    simp only [zerosC, z74, Option.bind_some, List.length_singleton, Nat.zero_add, beq_t rfl, Option.map_some, rep_replicate]

theorem Has.nilOrSlice {H : Heap} {sz e : Nat} {v : CV} {vs : List CV} (h : Has H sz e v vs) : v = .nilSlice ∨ ∃ b o l c, v = .slice b o l c := by
  rcases h.2 with ⟨e, _⟩ | ⟨b, o, c, _, _, e, _⟩
  · exact .inl e
  · exact .inr ⟨b, o, _, c, e⟩

theorem build_ok (hX : ∀ a H, X 22 a H = none) (hX18 : ∀ a H, X 17 a H = none) (hX33 : ∀ a H, X 36 a H = none) (hS : SortOK X) {l : CV} {rs : List (Nat × Nat × Nat)} {H : Heap} (hr : rs.length ≤ 30) (hR : ∀ r ∈ rs, Right r)
    (hl : Has H 3 41 l (rs.map relCV)) (hk : HOk H) :
    ∃ (bg bm bx n1 fa : Nat) (nv av : CV) (xs : List CV) (fs : Nat → Nat) (H' : Heap), calls Tryz.prog X 22 [l] H = some (.ptr bg 0, H') ∧ GS n1 H' bg bm bx nv av xs (unitsOf rs) (arcsFrom (unitsOf rs) 0 rs) fa fs ∧ Ext H.next H H' ∧ H.next ≤ bg := by
  have hcode : codeOf Tryz.f22 = .seq (sub (codeOf Tryz.f22) [false]) (.seq (sub (codeOf Tryz.f22) [true,false]) (.seq (.seq (sub (codeOf Tryz.f22) [true,true,false,false]) (.block 0 (sub (codeOf Tryz.f22) [true,true,false,true,false]))) (.seq (sub (codeOf Tryz.f22) [true,true,true,false])
    (.seq (.seq (sub (codeOf Tryz.f22) [true,true,true,true,false,false]) (.block 2 (sub (codeOf Tryz.f22) [true,true,true,true,false,true,false]))) (.seq (sub (codeOf Tryz.f22) [true,true,true,true,true,false]) .ret))))) := rfl
  have hn8 := right_names hR
  have hus8 : ∀ y ∈ unitsOf rs, y < 100 := fun y hy => by
    have := (mem_unitsOf (rs := rs) (fun x hx => by have := hn8 x hx; omega)).1 hy
    have := hn8 y this; omega
  have hmem : ∀ r ∈ rs, r.2.1 ∈ unitsOf rs ∧ r.2.2 ∈ unitsOf rs := by
    intro r hr'
    have hm := fun x => mem_unitsOf (rs := rs) (x := x) (fun x hx => by have := hn8 x hx; omega)
    refine ⟨(hm _).2 ?_, (hm _).2 ?_⟩ <;> simp only [namesOf, List.mem_flatMap] <;> exact ⟨r, hr', by simp⟩
  have hul : (unitsOf rs).length ≤ 100 := by
    have := (List.filter_sublist (l := List.range 100) (p := fun x => decide (x ∈ namesOf rs))).length_le
    rw [List.length_range] at this; exact this
  obtain ⟨nv, H1, c1, c2, c3, c4⟩ := units_ok hX18 hX33 hS (H := H) (l := l) (rs := rs) (by omega) (fun x hx => by have := hn8 x hx; omega) hl hk
  have hlen := c2.len (P := Tryz.prog) u30
  rw [List.length_map] at hlen
  generalize hH2 : (H1.skip 1).put H1.next (.map [] 0) = H2
  have n2 : H2.next = H1.next + 1 := by rw [← hH2]; rfl
  have x2 : Ext H1.next H1 H2 := by rw [← hH2]; exact Ext.skip.trans (Ext.put (Nat.le_refl _))
  have k2 : HOk H2 := by rw [← hH2]; exact Hok.put rfl (Hok.skip 1 c3)
  generalize hH3 : (H2.skip 1).put H2.next (.cells [nv, .map H1.next, .nilSlice, .nilSlice] 60 none) = H3
  have n3 : H3.next = H1.next + 2 := by rw [← hH3]; show H2.next + 1 = _; omega
  have x3 : Ext H2.next H2 H3 := by rw [← hH3]; exact Ext.skip.trans (Ext.put (Nat.le_refl _))
  have k3 : HOk H3 := by rw [← hH3]; exact Hok.put rfl (Hok.skip 1 k2)
  have hg3 : H3.get H2.next = some (.cells [nv, .map H1.next, .nilSlice, .nilSlice] 60 none) := by rw [← hH3, Heap.get_put, if_pos rfl]
  have hm3 : H3.get H1.next = some (.map (entriesFrom 0 ((unitsOf rs).take 0)) ((unitsOf rs).take 0).length) := x3.2 _ _ (by omega) (by rw [← hH2, Heap.get_put, if_pos rfl]; rfl)
  have x13 : Ext H1.next H1 H3 := x2.trans (x3.le (by omega))
  have g0 : go Tryz.prog X 96 (sub (codeOf Tryz.f22) [false]) (envOf [l] 0 .nil) H = some (.normal, (envOf [l] 0 .nil).set 2 .nilPtr, H) := by simp only [codeOf, Tryz.f22, sub, go_seq, go_region, opsSeq_step, opsSeq_guard, guardStep_true, guardStep_false, guardVal, opsSeq_nil, afterStep_some, afterStep_none, stepC, kindOf, quietC, evC, Nat.reduceLT, Tr.get_set, if_true, if_false, Nat.reduceEqDiff, Option.map_some, Option.bind_some, List.getElem?_toArray, List.getElem?_cons_zero, List.getElem?_cons_succ, ofVal, decide_true, decide_false, BEq.rfl, andThen_normal, andThen_exit, andThen_ret, inBlock_normal, inBlock_ret, go_skip, go_exit, go_ret, loudStep, isCall, loudC, targetC, evs, evParts, mapO, List.nil_append, List.append_nil, List.cons_append, loadC, Heap.skip_get, Heap.get_put, Heap.skip_next, Heap.put_next]
  have h0 : ((envOf [l] 0 .nil).set 2 .nilPtr).get 0 = some l := by simp [envOf, Tr.get_set]
  have g1 : ∃ e, go Tryz.prog X 96 (sub (codeOf Tryz.f22) [true,false]) ((envOf [l] 0 .nil).set 2 .nilPtr) H = some (.normal, e, H3) ∧ e.get 0 = some l ∧ e.get 3 = some (.ptr H2.next 0) := by
    simp only [codeOf, Tryz.f22, sub, go_seq, go_region, opsSeq_step, opsSeq_guard, guardStep_true, guardStep_false, guardVal, opsSeq_nil, afterStep_some, afterStep_none, stepC, kindOf, quietC, evC, Nat.reduceLT, Tr.get_set, if_true, if_false, Nat.reduceEqDiff, Option.map_some, Option.bind_some, List.getElem?_toArray, List.getElem?_cons_zero, List.getElem?_cons_succ, ofVal, decide_true, decide_false, BEq.rfl, andThen_normal, andThen_exit, andThen_ret, inBlock_normal, inBlock_ret, go_skip, go_exit, go_ret, loudStep, isCall, loudC, targetC, evs, evParts, mapO, List.nil_append, List.append_nil, List.cons_append, loadC, Heap.skip_get, Heap.get_put, Heap.skip_next, Heap.put_next, h0, c1, allocC, hH2, build77 _ (Has.nilOrSlice c2), CV.cells, hH3]
    exact ⟨_, rfl, by simp only [Tr.get_set, Nat.reduceEqDiff, if_true, if_false, h0], by simp only [Tr.get_set, Nat.reduceEqDiff, if_true, if_false]⟩
  obtain ⟨e1, g1, a0, a3⟩ := g1
  have g2 : ∃ e, go Tryz.prog X 96 (sub (codeOf Tryz.f22) [true,true,false,false]) e1 H3 = some (.normal, e, H3) ∧ e.get 0 = some l ∧ e.get 3 = some (.ptr H2.next 0) ∧ e.get 17 = some nv ∧ e.get 18 = some (.int .i64 (unitsOf rs).length) ∧ e.get 19 = some (.int .i64 (0 : Nat)) := by
    simp only [codeOf, Tryz.f22, sub, go_seq, go_region, opsSeq_step, opsSeq_guard, guardStep_true, guardStep_false, guardVal, opsSeq_nil, afterStep_some, afterStep_none, stepC, kindOf, quietC, evC, Nat.reduceLT, Tr.get_set, if_true, if_false, Nat.reduceEqDiff, Option.map_some, Option.bind_some, List.getElem?_toArray, List.getElem?_cons_zero, List.getElem?_cons_succ, ofVal, decide_true, decide_false, BEq.rfl, andThen_normal, andThen_exit, andThen_ret, inBlock_normal, inBlock_ret, go_skip, go_exit, go_ret, loudStep, isCall, loudC, targetC, evs, evParts, mapO, List.nil_append, List.append_nil, List.cons_append, loadC, Heap.skip_get, Heap.get_put, Heap.skip_next, Heap.put_next, a0, a3, fa77_0, g30, hg3, hlen]
    exact ⟨_, rfl, by simp only [Tr.get_set, Nat.reduceEqDiff, if_true, if_false, a0], by simp only [Tr.get_set, Nat.reduceEqDiff, if_true, if_false, a3], by simp only [Tr.get_set, Nat.reduceEqDiff, if_true, if_false], by simp only [Tr.get_set, Nat.reduceEqDiff, if_true, if_false], by simp only [Tr.get_set, if_true]; rfl⟩
  obtain ⟨e2, g2, b0, b3, b17, b18, b19⟩ := g2
  obtain ⟨e3, H4, g3, d0, d3, dg, dm, dk, dx, dn⟩ := build_loop1 (X := X) (l := l) (nv := nv) (us := unitsOf rs) (bg := H2.next) (bm := H1.next) (by omega) hus8 (unitsOf_sorted rs) (by omega) c2.lt (unitsOf rs).length 0 e2 H3 (by omega) b0 b3 b17 b18 b19 hg3 hm3 (c2.ext x13 c2.lt) k3
  generalize hH5 : (H4.skip 1).put H4.next (.cells (List.replicate (unitsOf rs).length .nilSlice) 57 none) = H5
  have n5 : H5.next = H1.next + 3 := by rw [← hH5]; show H4.next + 1 = _; omega
  have x5 : Ext H4.next H4 H5 := by rw [← hH5]; exact Ext.skip.trans (Ext.put (Nat.le_refl _))
  have k5 : HOk H5 := by rw [← hH5]; exact Hok.put rfl (Hok.skip 1 dk)
  have hg5 : H5.get H2.next = some (.cells [nv, .map H1.next, .nilSlice, .nilSlice] 60 none) := x5.2 _ _ (by omega) dg
  have hst := store_one (P := Tryz.prog) (t := 58) (k := 3) (v := .slice H4.next 0 (unitsOf rs).length (.exact (unitsOf rs).length)) (by kernel_rfl) rfl rfl hg5 (by simp)
  simp only [List.set_cons_succ, List.set_cons_zero] at hst
  generalize hH6 : H5.put H2.next (.cells [nv, .map H1.next, .nilSlice, .slice H4.next 0 (unitsOf rs).length (.exact (unitsOf rs).length)] 60 none) = H6 at hst
  have n6 : H6.next = H1.next + 3 := by rw [← hH6]; exact n5
  have k6 : HOk H6 := by rw [← hH6]; exact Hok.put rfl k5
  have x56 : Ext H2.next H5 H6 := by rw [← hH6]; exact Ext.put (Nat.le_refl _)
  have mk : ∀ ρ : Operand → Option CV, ρ (.tmp 36) = some (.int .i64 ((unitsOf rs).length : Int)) → allocC Tryz.prog (.makeSlice 58 (.tmp 36) (.tmp 36)) ρ = some (.cells (List.replicate (unitsOf rs).length .nilSlice) 57 none, fun b => .slice b 0 (unitsOf rs).length (.exact (unitsOf rs).length)) := fun ρ h => mk75 (by omega) ρ (.tmp 36) h
  have g4 : ∃ e, go Tryz.prog X 96 (sub (codeOf Tryz.f22) [true,true,true,false]) e3 H4 = some (.normal, e, H6) ∧ e.get 0 = some l ∧ e.get 3 = some (.ptr H2.next 0) := by
    simp only [codeOf, Tryz.f22, sub, go_seq, go_region, opsSeq_step, opsSeq_guard, guardStep_true, guardStep_false, guardVal, opsSeq_nil, afterStep_some, afterStep_none, stepC, kindOf, quietC, evC, Nat.reduceLT, Tr.get_set, if_true, if_false, Nat.reduceEqDiff, Option.map_some, Option.bind_some, List.getElem?_toArray, List.getElem?_cons_zero, List.getElem?_cons_succ, ofVal, decide_true, decide_false, BEq.rfl, andThen_normal, andThen_exit, andThen_ret, inBlock_normal, inBlock_ret, go_skip, go_exit, go_ret, loudStep, isCall, loudC, targetC, evs, evParts, mapO, List.nil_append, List.append_nil, List.cons_append, loadC, Heap.skip_get, Heap.get_put, Heap.skip_next, Heap.put_next, d0, d3, fa77_0, fa77_3, g30, dg, hlen, mk, hH5, hst]
    exact ⟨_, rfl, by simp only [Tr.get_set, Nat.reduceEqDiff, if_true, if_false, d0], by simp only [Tr.get_set, Nat.reduceEqDiff, if_true, if_false, d3]⟩
  obtain ⟨e4, g4, p0, p3⟩ := g4
  have hl6 : Has H6 3 41 l (rs.map relCV) := ((((hl.ext c4 hl.lt).ext x13 (hl.ext c4 hl.lt).lt).ext (dx.le (Nat.le_refl _)) (fun b o n c e => by have := (hl.ext c4 hl.lt).lt b o n c e; omega)).ext (x5.le (show H1.next ≤ H4.next by omega)) (fun b o n c e => (hl.ext c4 hl.lt).lt b o n c e)).ext (x56.le (show H1.next ≤ H2.next by omega)) (fun b o n c e => (hl.ext c4 hl.lt).lt b o n c e)
  have hllen := hl.len (P := Tryz.prog) u24
  rw [List.length_map] at hllen
  have g5 : ∃ e, go Tryz.prog X 96 (sub (codeOf Tryz.f22) [true,true,true,true,false,false]) e4 H6 = some (.normal, e, H6) ∧ e.get 3 = some (.ptr H2.next 0) ∧ e.get 40 = some l ∧ e.get 41 = some (.int .i64 rs.length) ∧ e.get 42 = some (.int .i64 (0 : Nat)) := by
    simp only [codeOf, Tryz.f22, sub, go_seq, go_region, opsSeq_step, opsSeq_guard, guardStep_true, guardStep_false, guardVal, opsSeq_nil, afterStep_some, afterStep_none, stepC, kindOf, quietC, evC, Nat.reduceLT, Tr.get_set, if_true, if_false, Nat.reduceEqDiff, Option.map_some, Option.bind_some, List.getElem?_toArray, List.getElem?_cons_zero, List.getElem?_cons_succ, ofVal, decide_true, decide_false, BEq.rfl, andThen_normal, andThen_exit, andThen_ret, inBlock_normal, inBlock_ret, go_skip, go_exit, go_ret, loudStep, isCall, loudC, targetC, evs, evParts, mapO, List.nil_append, List.append_nil, List.cons_append, loadC, Heap.skip_get, Heap.get_put, Heap.skip_next, Heap.put_next, p0, p3, hllen]
    exact ⟨_, rfl, by simp only [Tr.get_set, Nat.reduceEqDiff, if_true, if_false, p3], by simp only [Tr.get_set, Nat.reduceEqDiff, if_true, if_false], by simp only [Tr.get_set, Nat.reduceEqDiff, if_true, if_false], by simp only [Tr.get_set, if_true]; rfl⟩
  obtain ⟨e5, g5, q3, q40, q41, q42⟩ := g5
  have hnv6 : Has H6 1 9 nv ((unitsOf rs).map nm) := ((((c2.ext x13 c2.lt).ext dx c2.lt).ext (x5.le (show H1.next ≤ H4.next by omega)) c2.lt).ext (x56.le (show H1.next ≤ H2.next by omega)) c2.lt)
  have hgs : GS (H1.next + 3) H6 H2.next H1.next H4.next nv .nilSlice (List.replicate (unitsOf rs).length .nilSlice) (unitsOf rs) (arcsFrom (unitsOf rs) 0 (rs.take 0)) 0 (fun _ => 0) := by
    refine ⟨by rw [← hH6, Heap.get_put, if_pos rfl], ?_, ?_, by simp, hnv6, ⟨by simp [arcsFrom], .inl ⟨rfl, by simp [arcsFrom]⟩⟩, fun j v hj => ?_, fun h => absurd rfl h, fun j v hj hv => ?_, fun h => absurd rfl h, fun i j v w hi hj hij hv => ?_, k6, by omega, by omega, by omega, by omega, fun b o n c e => ?_, by omega, by omega, by omega⟩
    · rw [← hH6, Heap.get_put, if_neg (by omega)]; exact x5.2 _ _ (by omega) dm
    · rw [← hH6, Heap.get_put, if_neg (by omega), ← hH5, Heap.get_put, if_pos rfl]
    · have := (List.getElem?_replicate.symm.trans hj)
      split at this
      · injection this with this; subst this; exact ⟨by simp [outOf, arcsFrom], .inl ⟨rfl, by simp [outOf, arcsFrom]⟩⟩
      · cases this
    · have := (List.getElem?_replicate.symm.trans hj)
      split at this
      · injection this with this; exact absurd this.symm hv
      · cases this
    · have := (List.getElem?_replicate.symm.trans hi)
      split at this
      · injection this with this; exact absurd this.symm hv
      · cases this
    · have := c2.lt b o n c e; omega
  obtain ⟨e6, H7, av, xs, fa, fs, g6, r3, rgs, rold⟩ := build_loop2 (X := X) (l := l) (by omega) hus8 hmem (fun b o n c e => by have := (hl.ext c4 hl.lt).lt b o n c e; omega) rs.length 0 e5 H6 .nilSlice _ 0 (fun _ => 0) (by omega) q3 q40 q41 q42 hl6 hgs
  have g7 : ∃ e, go Tryz.prog X 96 (sub (codeOf Tryz.f22) [true,true,true,true,true,false]) e6 H7 = some (.normal, e, H7) ∧ e.get 2 = some (.ptr H2.next 0) := by
    simp only [codeOf, Tryz.f22, sub, go_seq, go_region, opsSeq_step, opsSeq_guard, guardStep_true, guardStep_false, guardVal, opsSeq_nil, afterStep_some, afterStep_none, stepC, kindOf, quietC, evC, Nat.reduceLT, Tr.get_set, if_true, if_false, Nat.reduceEqDiff, Option.map_some, Option.bind_some, List.getElem?_toArray, List.getElem?_cons_zero, List.getElem?_cons_succ, ofVal, decide_true, decide_false, BEq.rfl, andThen_normal, andThen_exit, andThen_ret, inBlock_normal, inBlock_ret, go_skip, go_exit, go_ret, loudStep, isCall, loudC, targetC, evs, evParts, mapO, List.nil_append, List.append_nil, List.cons_append, loadC, Heap.skip_get, Heap.get_put, Heap.skip_next, Heap.put_next, r3]
    exact ⟨_, rfl, by simp only [Tr.get_set, if_true]⟩
  obtain ⟨e7, g7, s2⟩ := g7
  have c4n := c4.1
  refine ⟨H2.next, H1.next, H4.next, H1.next + 3, fa, nv, av, xs, fs, H7, calls_ret (hX _ _) Tryz.func22 rfl (by decide) (nt := 96) rfl (env' := e7) ?_ (results_one s2), rgs, ?_, by omega⟩
  · rw [hcode, go_seq, g0, andThen_normal, go_seq, g1, andThen_normal, go_seq, go_seq, g2, andThen_normal, go_block, g3, inBlock_exit, if_pos rfl, andThen_normal, go_seq, g4, andThen_normal, go_seq, go_seq, g5, andThen_normal, go_block, g6, inBlock_exit, if_pos rfl, andThen_normal,
      go_seq, g7, andThen_normal, go_ret]
  · have y1 : Ext H.next H H6 := (((c4.trans (x13.le c4n)).trans (dx.le c4n)).trans (x5.le (by omega))).trans (x56.le (by omega))
    exact ⟨Nat.le_trans y1.1 rold.1, fun b o hb ho => rold.2 b o (by omega) (by omega) (by omega) (y1.2 b o hb ho)⟩
end Go.Y
