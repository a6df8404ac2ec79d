/- build: arcs put into the graph's lists. build: the graph's state while its arcs are put in. build: the loop over relations. -/
import Derived.Test.YtmnhkbhdfkebmaaGreatDoorZ3

set_option linter.unusedSimpArgs false
set_option linter.unusedVariables false

namespace Go.Z
open Go.K Go.Proofs
set_option linter.unusedSimpArgs false
set_option linter.unusedVariables false
set_option maxRecDepth 10000

variable {X : CallFn}

/-- g.arcs = append(g.arcs, a) -/
theorem build_r13 {env : Env} {H : Heap} {bg ba f : Nat} {a : Nat × Nat × Nat} {nv mv av xv : CV} {arcs : List (Nat × Nat × Nat)} (h3 : env.get 3 = some (.ptr bg 0)) (h8 : env.get 8 = some (.ptr ba 0))
    (hg : H.get bg = some (.cells [nv, mv, av, xv] 77 none)) (hbg : bg < H.next) (hba : H.get ba = some (.cells [.int .i64 a.1, .int .i64 a.2.1, .int .i64 a.2.2] 79 none)) (hbn : ba < H.next) (hne : ba ≠ bg) (hv : Own H f 3 79 av (arcs.map arcCV)) (hk : HOk H) (hlen : arcs.length < 1000) :
    ∃ env' v' H' f', go Tryz.prog X 96 (sub (codeOf Tryz.f16) [true,true,true,true,false,true,false,false,true,true,false,false,true,true,true,false]) env H = some (.normal, env', H') ∧ Own H' f' 3 79 v' ((arcs ++ [a]).map arcCV) ∧ H'.get bg = some (.cells [nv, mv, v', xv] 77 none) ∧ HOk H' ∧ H.next ≤ H'.next ∧ v' ≠ .nilSlice ∧ (av = .nilSlice → H.next ≤ f') ∧ (av ≠ .nilSlice → f' = f) ∧
      (∀ b o, b < H.next → b ≠ bg → H.get b = some o → (av ≠ .nilSlice → ∀ g p, o.fam = some (g, p) → g ≠ f) → H'.get b = some o) ∧ ∀ t, t < 66 → env'.get t = env.get t := by
  generalize hH1 : (H.skip 11).put (H.next + 6) (.cells [.int .i64 a.1, .int .i64 a.2.1, .int .i64 a.2.2] 79 none) = H1
  have hE1 : Ext H.next H H1 := by rw [← hH1]; exact Ext.skip.trans (Ext.put (by omega))
  have hk1 : HOk H1 := by rw [← hH1]; exact Hok.put rfl (Hok.skip 11 hk)
  have hn1 : H1.next = H.next + 11 := by rw [← hH1]; rfl
  have hg1 : H1.get (H.next + 6) = some (.cells [.int .i64 a.1, .int .i64 a.2.1, .int .i64 a.2.2] 79 none) := by rw [← hH1, Heap.get_put, if_pos rfl]
  have hx : elemsC H1 3 (.slice (H.next + 6) 0 1 (.exact 1)) = some ([arcCV a].length, [arcCV a].flatMap CV.cells) := by simp [elemsC, hg1, takeE, arcCV, CV.cells]
  obtain ⟨ti, hti, hts, htb⟩ := i79
  obtain ⟨v', H', f', happ, hf1, hf2, hown, hok, hnext, hkeep⟩ := (hv.ext hE1 hv.lt).append hk1 hx (by simp [arcCV, CV.cells]) (by simp) u74 u74 (by intro k e; cases e) hti hts (by omega) z79 rfl rfl
    (by simp only [List.length_map, List.length_cons, List.length_nil, htb]; omega) (by simp only [List.length_map, List.length_cons, List.length_nil]; omega)
  have hv' : ∃ b o n c, v' = .slice b o n c := by
    rcases hown.2 with ⟨_, e⟩ | ⟨b, _, e, _⟩
    · simp at e
    · exact ⟨_, _, _, _, e⟩
  have hvc : v'.cells = [v'] ∧ v'.single = true := by obtain ⟨b, o, n, c, rfl⟩ := hv'; exact ⟨rfl, rfl⟩
  have hbg' : H'.get bg = some (.cells [nv, mv, av, xv] 77 none) := hkeep bg _ (by omega) (hE1.2 bg _ hbg hg) (fun _ g p e => by simp [CObj.fam] at e)
  have hst := store_one (P := Tryz.prog) (t := 74) (k := 2) s74 hvc.1 hvc.2 hbg' (by simp)
  simp only [List.set_cons_succ, List.set_cons_zero] at hst
  have hvb := hv.has.cbeq 12
  have hown2 : Own (H'.put bg (.cells [nv, mv, v', xv] 77 none)) f' 3 79 v' ((arcs ++ [a]).map arcCV) := by
    refine ⟨by simpa using hown.1, ?_⟩
    rcases hown.2 with ⟨_, e⟩ | ⟨b, p, e, e2, e3, e4, e5⟩
    · simp at e
    · refine .inr ⟨b, p, by simpa using e, by simp, e3, e4, ?_⟩
      rw [Heap.get_put, if_neg]
      · simpa using e5
      · rintro rfl; rw [hbg'] at e5; simp at e5
  suffices h : ∃ env', go Tryz.prog X 96 (sub (codeOf Tryz.f16) [true,true,true,true,false,true,false,false,true,true,false,false,true,true,true,false]) env H = some (.normal, env', H'.put bg (.cells [nv, mv, v', xv] 77 none)) ∧ ∀ t, t < 66 → env'.get t = env.get t by
    obtain ⟨env', q1, q⟩ := h
    refine ⟨env', v', H'.put bg (.cells [nv, mv, v', xv] 77 none), f', q1, hown2, by rw [Heap.get_put, if_pos rfl], Hok.put rfl hok, by show H.next ≤ H'.next; omega, ?_, fun e => by rw [hf1 e]; omega, hf2, fun b o hb hb2 ho hf => ?_, q⟩
    · obtain ⟨b, o, n, c, rfl⟩ := hv'; intro h; cases h
    · rw [Heap.get_put, if_neg hb2]; exact hkeep b o (by omega) (hE1.2 b o hb ho) hf
  simp only [codeOf, Tryz.f16, sub]
  rw [go_planned [(1,0,[3],false),(2,0,[67],false),(3,0,[68],false),(4,0,[69],false),(5,0,[8],false),(6,0,[71],false),(7,0,[70,72],true),(0,0,[3],false),(8,1,[66],false),(9,1,[74],false),(10,1,[75,73],true)] rfl (by kernel_rfl)]
  simp only [drawStep_guard, guardDS_true, guardDS_false, guardVal, BEq.rfl, planRun_cons, planRun_nil, planStep, planEnd, List.getElem?_cons_zero, List.getElem?_cons_succ, drawStep_eq, kindOf, quietAt, quietC, evR, evC, memN, beq_dec, Nat.reduceEqDiff, decide_true, decide_false, setDS_some, loudDS_some, loudDS_none, allocDS_some, Nat.reduceLT, Tr.get_set, if_true, if_false, Option.map_some, Option.bind_some, List.length_cons, List.length_nil, sameAt, Nat.reduceAdd, Nat.reduceSub, ofVal, loadC, Heap.skip_get, Heap.get_put, loudStep, isCall, targetC, evs, evParts, mapO, List.cons_append, List.nil_append, List.append_nil, putAll, ne_eq, reduceCtorEq, not_false_eq_true, Int.reduceEq, eq_self, cbeq_int, cbeq_ptr, cbeq_str, cbeq_bool, cbeq_map, cbeq_slice, cbeq_nilSlice, Bool.and_self, Bool.and_true, Int.reduceNeg, List.append_eq, loudC, List.getElem?_toArray, h3, h8, fa77_2, g74, g79, s79, hg, hba, takeE, List.drop_zero, Nat.zero_add, List.getElem?_cons_zero, List.getElem?_cons_succ, bs74, CV.cells, hH1, happ, hst]
  refine ⟨_, rfl, fun t ht => ?_⟩
  simp only [Tr.get_set]
  simp only [show t ≠ 66 by omega, show t ≠ 67 by omega, show t ≠ 68 by omega, show t ≠ 69 by omega, show t ≠ 70 by omega, show t ≠ 71 by omega, show t ≠ 72 by omega, show t ≠ 73 by omega, show t ≠ 74 by omega, show t ≠ 75 by omega, if_false]

theorem idx75 {b n k : Nat} (h : k < n) : indexAddrC Tryz.prog 75 (.slice b 0 n (.exact n)) (.int .i64 (k : Int)) = some (.ptr b k) := by
  show indexAddrC Tryz.prog 75 _ (.int .i64 (Int.ofNat k)) = _
  simp only [indexAddrC, u75, blt_t h, s74, Option.map_some, Nat.mul_one, Nat.zero_add]

/-- g.next[a.lower] = append(g.next[a.lower], a) -/
theorem build_r14 {env : Env} {H : Heap} {bg bx ba f n : Nat} {a : Nat × Nat × Nat} {nv mv av v : CV} {xs : List CV} {arcs : List (Nat × Nat × Nat)} (h3 : env.get 3 = some (.ptr bg 0)) (h8 : env.get 8 = some (.ptr ba 0))
    (hg : H.get bg = some (.cells [nv, mv, av, .slice bx 0 n (.exact n)] 77 none)) (hbg : bg < H.next) (hbx : H.get bx = some (.cells xs 74 none)) (hbxn : bx < H.next) (hxs : xs.length = n) (hlo : a.2.1 < n) (hxv : xs[a.2.1]? = some v)
    (hba : H.get ba = some (.cells [.int .i64 a.1, .int .i64 a.2.1, .int .i64 a.2.2] 79 none)) (hbn : ba < H.next) (hv : Own H f 3 79 v (arcs.map arcCV)) (hk : HOk H) (hlen : arcs.length < 1000) :
    ∃ env' v' H' f', go Tryz.prog X 96 (sub (codeOf Tryz.f16) [true,true,true,true,false,true,false,false,true,true,false,false,true,true,true,true]) env H = some (.normal, env', H') ∧ Own H' f' 3 79 v' ((arcs ++ [a]).map arcCV) ∧ H'.get bx = some (.cells (xs.set a.2.1 v') 74 none) ∧ HOk H' ∧ H.next ≤ H'.next ∧ v' ≠ .nilSlice ∧ (v = .nilSlice → H.next ≤ f') ∧ (v ≠ .nilSlice → f' = f) ∧
      (∀ b o, b < H.next → b ≠ bx → H.get b = some o → (v ≠ .nilSlice → ∀ g p, o.fam = some (g, p) → g ≠ f) → H'.get b = some o) ∧ ∀ t, t < 76 → env'.get t = env.get t := by
  generalize hH1 : (H.skip 19).put (H.next + 15) (.cells [.int .i64 a.1, .int .i64 a.2.1, .int .i64 a.2.2] 79 none) = H1
  have hE1 : Ext H.next H H1 := by rw [← hH1]; exact Ext.skip.trans (Ext.put (by omega))
  have hk1 : HOk H1 := by rw [← hH1]; exact Hok.put rfl (Hok.skip 19 hk)
  have hn1 : H1.next = H.next + 19 := by rw [← hH1]; rfl
  have hg1 : H1.get (H.next + 15) = some (.cells [.int .i64 a.1, .int .i64 a.2.1, .int .i64 a.2.2] 79 none) := by rw [← hH1, Heap.get_put, if_pos rfl]
  have hx : elemsC H1 3 (.slice (H.next + 15) 0 1 (.exact 1)) = some ([arcCV a].length, [arcCV a].flatMap CV.cells) := by simp [elemsC, hg1, takeE, arcCV, CV.cells]
  obtain ⟨ti, hti, hts, htb⟩ := i79
  obtain ⟨v', H', f', happ, hf1, hf2, hown, hok, hnext, hkeep⟩ := (hv.ext hE1 hv.lt).append hk1 hx (by simp [arcCV, CV.cells]) (by simp) u74 u74 (by intro k e; cases e) hti hts (by omega) z79 rfl rfl
    (by simp only [List.length_map, List.length_cons, List.length_nil, htb]; omega) (by simp only [List.length_map, List.length_cons, List.length_nil]; omega)
  have hv' : ∃ b o n c, v' = .slice b o n c := by
    rcases hown.2 with ⟨_, e⟩ | ⟨b, _, e, _⟩
    · simp at e
    · exact ⟨_, _, _, _, e⟩
  have hvc : v'.cells = [v'] ∧ v'.single = true := by obtain ⟨b, o, n, c, rfl⟩ := hv'; exact ⟨rfl, rfl⟩
  have hbx' : H'.get bx = some (.cells xs 74 none) := hkeep bx _ (by omega) (hE1.2 bx _ hbxn hbx) (fun _ g p e => by simp [CObj.fam] at e)
  have hst := store_one (P := Tryz.prog) (t := 74) (k := a.2.1) s74 hvc.1 hvc.2 hbx' (by omega)
  have hown2 : Own (H'.put bx (.cells (xs.set a.2.1 v') 74 none)) f' 3 79 v' ((arcs ++ [a]).map arcCV) := by
    refine ⟨by simpa using hown.1, ?_⟩
    rcases hown.2 with ⟨_, e⟩ | ⟨b, p, e, e2, e3, e4, e5⟩
    · simp at e
    · refine .inr ⟨b, p, by simpa using e, by simp, e3, e4, ?_⟩
      rw [Heap.get_put, if_neg]
      · simpa using e5
      · rintro rfl; rw [hbx'] at e5; simp at e5
  suffices h : ∃ env', go Tryz.prog X 96 (sub (codeOf Tryz.f16) [true,true,true,true,false,true,false,false,true,true,false,false,true,true,true,true]) env H = some (.normal, env', H'.put bx (.cells (xs.set a.2.1 v') 74 none)) ∧ ∀ t, t < 76 → env'.get t = env.get t by
    obtain ⟨env', q1, q⟩ := h
    refine ⟨env', v', H'.put bx (.cells (xs.set a.2.1 v') 74 none), f', q1, hown2, by rw [Heap.get_put, if_pos rfl], Hok.put rfl hok, by show H.next ≤ H'.next; omega, ?_, fun e => by rw [hf1 e]; omega, hf2, fun b o hb hb2 ho hf => ?_, q⟩
    · obtain ⟨b, o, n, c, rfl⟩ := hv'; intro h; cases h
    · rw [Heap.get_put, if_neg hb2]; exact hkeep b o (by omega) (hE1.2 b o hb ho) hf
  have hgH : H'.get bg = some (.cells [nv, mv, av, .slice bx 0 n (.exact n)] 77 none) := hkeep bg _ (by omega) (hE1.2 bg _ hbg hg) (fun _ g p e => by simp [CObj.fam] at e)
  have hbaH : H'.get ba = some (.cells [.int .i64 a.1, .int .i64 a.2.1, .int .i64 a.2.2] 79 none) := hkeep ba _ (by omega) (hE1.2 ba _ hbn hba) (fun _ g p e => by simp [CObj.fam] at e)
  simp only [codeOf, Tryz.f16, sub]
  rw [go_planned [(6,0,[3],false),(7,0,[82],false),(8,0,[83],false),(9,0,[84],false),(10,0,[8],false),(11,0,[86],false),(12,0,[85,87],false),(13,0,[88],false),(14,0,[8],false),(15,0,[90],false),(16,0,[89,91],true),
    (0,0,[3],false),(1,0,[76],false),(2,0,[77],false),(3,0,[78],false),(4,0,[8],false),(5,0,[80],false),(17,1,[79,81],false),(18,1,[93,92],true)] rfl (by kernel_rfl)]
  simp only [drawStep_guard, guardDS_true, guardDS_false, guardVal, BEq.rfl, planRun_cons, planRun_nil, planStep, planEnd, List.getElem?_cons_zero, List.getElem?_cons_succ, drawStep_eq, kindOf, quietAt, quietC, evR, evC, memN, beq_dec, Nat.reduceEqDiff, decide_true, decide_false, setDS_some, loudDS_some, loudDS_none, allocDS_some, Nat.reduceLT, Tr.get_set, if_true, if_false, Option.map_some, Option.bind_some, List.length_cons, List.length_nil, sameAt, Nat.reduceAdd, Nat.reduceSub, ofVal, loadC, Heap.skip_get, Heap.get_put, loudStep, isCall, targetC, evs, evParts, mapO, List.cons_append, List.nil_append, List.append_nil, putAll, ne_eq, reduceCtorEq, not_false_eq_true, Int.reduceEq, eq_self, cbeq_int, cbeq_ptr, cbeq_str, cbeq_bool, cbeq_map, cbeq_slice, cbeq_nilSlice, Bool.and_self, Bool.and_true, Int.reduceNeg, List.append_eq, loudC, List.getElem?_toArray, h3, h8, fa77_3, fa79_1, g3, g74, g75, g79, s79, hg, hba, hbx, hxv, hgH, hbaH, takeE, List.drop_zero, Nat.zero_add, List.getElem?_cons_zero, List.getElem?_cons_succ, bs74, CV.cells, idx75 hlo, hH1, happ, hst]
  refine ⟨_, rfl, fun t ht => ?_⟩
  simp only [Tr.get_set]
  simp only [show t ≠ 76 by omega, show t ≠ 77 by omega, show t ≠ 78 by omega, show t ≠ 79 by omega, show t ≠ 80 by omega, show t ≠ 81 by omega, show t ≠ 82 by omega, show t ≠ 83 by omega, show t ≠ 84 by omega, show t ≠ 85 by omega, show t ≠ 86 by omega, show t ≠ 87 by omega, show t ≠ 88 by omega,
    show t ≠ 89 by omega, show t ≠ 90 by omega, show t ≠ 91 by omega, show t ≠ 92 by omega, show t ≠ 93 by omega, if_false]
end Go.Z

namespace Go.Z
open Go.K Go.Proofs
set_option linter.unusedSimpArgs false
set_option linter.unusedVariables false
set_option maxRecDepth 10000

variable {X : CallFn}

/-- The arc of a relation. -/
def arcOf (us : List Nat) (i : Nat) (r : Nat × Nat × Nat) : Nat × Nat × Nat := (i, us.idxOf r.2.2, us.idxOf r.2.1)
def arcsFrom (us : List Nat) : Nat → List (Nat × Nat × Nat) → List (Nat × Nat × Nat)
  | _, [] => []
  | k, r :: t => if r.1 = 4 then arcsFrom us (k + 1) t else arcOf us k r :: arcsFrom us (k + 1) t
theorem arcsFrom_snoc (us : List Nat) (r : Nat × Nat × Nat) : ∀ (rs : List (Nat × Nat × Nat)) (k : Nat), arcsFrom us k (rs ++ [r]) = arcsFrom us k rs ++ if r.1 = 4 then [] else [arcOf us (k + rs.length) r]
  | [], k => by simp [arcsFrom]
  | a :: t, k => by
    simp only [List.cons_append, arcsFrom, arcsFrom_snoc us r t (k + 1), List.length_cons]
    rw [show k + 1 + t.length = k + (t.length + 1) by omega]
    split <;> simp
theorem arcsFrom_length (us : List Nat) : ∀ (rs : List (Nat × Nat × Nat)) (k : Nat), (arcsFrom us k rs).length ≤ rs.length
  | [], k => by simp [arcsFrom]
  | a :: t, k => by
    have := arcsFrom_length us t (k + 1)
    simp only [arcsFrom]
    split
    · simp only [List.length_cons]; omega
    · simp only [List.length_cons]; omega
/-- The arcs that lead from a unit. -/
def outOf (arcs : List (Nat × Nat × Nat)) (j : Nat) : List (Nat × Nat × Nat) := arcs.filter fun a => decide (a.2.1 = j)
theorem outOf_length (arcs : List (Nat × Nat × Nat)) (j : Nat) : (outOf arcs j).length ≤ arcs.length := List.length_filter_le _ _

structure GS (n1 : Nat) (H : Heap) (bg bm bx : Nat) (nv av : CV) (xs : List CV) (us : List Nat) (arcs : List (Nat × Nat × Nat)) (fa : Nat) (fs : Nat → Nat) : Prop where
  g : H.get bg = some (.cells [nv, .map bm, av, .slice bx 0 us.length (.exact us.length)] 77 none)
  m : H.get bm = some (.map (entriesFrom 0 us) us.length)
  x : H.get bx = some (.cells xs 74 none)
  len : xs.length = us.length
  n : Has H 1 9 nv (us.map nm)
  a : Own H fa 3 79 av (arcs.map arcCV)
  c : ∀ j v, xs[j]? = some v → Own H (fs j) 3 79 v ((outOf arcs j).map arcCV)
  fa1 : av ≠ .nilSlice → n1 ≤ fa
  fs1 : ∀ j v, xs[j]? = some v → v ≠ .nilSlice → n1 ≤ fs j
  d1 : av ≠ .nilSlice → ∀ j v, xs[j]? = some v → v ≠ .nilSlice → fa ≠ fs j
  d2 : ∀ i j v w, xs[i]? = some v → xs[j]? = some w → i ≠ j → v ≠ .nilSlice → w ≠ .nilSlice → fs i ≠ fs j
  ok : HOk H
  next : n1 ≤ H.next
  lg : bg < n1
  lm : bm < n1
  lx : bx < n1
  ln : ∀ b off len cap, nv = .slice b off len cap → b < n1 ∧ b ≠ bg ∧ b ≠ bx
  gm : bg ≠ bm
  gx : bg ≠ bx
  mx : bm ≠ bx

/-- Old blocks other than the graph's own stay. -/
def Old (n1 bg bx : Nat) (H H' : Heap) : Prop := H.next ≤ H'.next ∧ ∀ b o, b < n1 → b ≠ bg → b ≠ bx → H.get b = some o → H'.get b = some o
theorem Old.refl (n1 bg bx : Nat) (H : Heap) : Old n1 bg bx H H := ⟨Nat.le_refl _, fun _ _ _ _ _ h => h⟩
theorem Old.trans {n1 bg bx : Nat} {a b c : Heap} (h : Old n1 bg bx a b) (k : Old n1 bg bx b c) : Old n1 bg bx a c := ⟨Nat.le_trans h.1 k.1, fun x o h1 h2 h3 h4 => k.2 x o h1 h2 h3 (h.2 x o h1 h2 h3 h4)⟩
theorem Ext.old {n1 n bg bx : Nat} {H H' : Heap} (h : Ext n H H') (hn : n1 ≤ n) : Old n1 bg bx H H' := ⟨h.1, fun b o hb _ _ ho => h.2 b o (by omega) ho⟩
theorem _root_.Go.K.Has.old' {n1 bg bx : Nat} {H H' : Heap} {sz e : Nat} {v : CV} {vs : List CV} (h : Has H sz e v vs) (hx : Old n1 bg bx H H') (hn : ∀ b off len cap, v = .slice b off len cap → b < n1 ∧ b ≠ bg ∧ b ≠ bx) : Has H' sz e v vs := by
  refine ⟨h.1, ?_⟩
  rcases h.2 with h | ⟨b, off, cap, cs, fam, hv, h1, h2, h3, h4, h5⟩
  · exact .inl h
  · obtain ⟨q1, q2, q3⟩ := hn _ _ _ _ hv
    exact .inr ⟨b, off, cap, cs, fam, hv, h1, Nat.lt_of_lt_of_le h2 hx.1, hx.2 b _ q1 q2 q3 h3, h4, h5⟩

/-- The state goes on where all blocks stay. -/
theorem GS.ext {n1 bg bm bx : Nat} {H H' : Heap} {nv av : CV} {xs : List CV} {us : List Nat} {arcs : List (Nat × Nat × Nat)} {fa : Nat} {fs : Nat → Nat} (h : GS n1 H bg bm bx nv av xs us arcs fa fs) (hx : Ext H.next H H') (hk : HOk H') :
    GS n1 H' bg bm bx nv av xs us arcs fa fs := by
  have l := h.next
  exact ⟨hx.2 _ _ (Nat.lt_of_lt_of_le h.lg l) h.g, hx.2 _ _ (Nat.lt_of_lt_of_le h.lm l) h.m, hx.2 _ _ (Nat.lt_of_lt_of_le h.lx l) h.x, h.len, h.n.ext hx h.n.lt, h.a.ext hx h.a.lt, fun j v hj => (h.c j v hj).ext hx (h.c j v hj).lt, h.fa1, h.fs1, h.d1, h.d2, hk,
    Nat.le_trans l hx.1, h.lg, h.lm, h.lx, h.ln, h.gm, h.gx, h.mx⟩

theorem Own.fam_lt {H : Heap} {f sz e : Nat} {v : CV} {vs : List CV} (h : Own H f sz e v vs) (hv : v ≠ .nilSlice) : f < H.next := by
  rcases h.2 with ⟨e, _⟩ | ⟨b, p, _, _, h1, h2, _⟩
  · exact absurd e hv
  · omega

/-- g.arcs has a new arc. -/
theorem GS.arc {n1 bg bm bx : Nat} {H H' : Heap} {nv av v' : CV} {xs : List CV} {us : List Nat} {arcs : List (Nat × Nat × Nat)} {fa f' : Nat} {fs : Nat → Nat} {arcs' : List (Nat × Nat × Nat)} (h : GS n1 H bg bm bx nv av xs us arcs fa fs)
    (hown : Own H' f' 3 79 v' (arcs'.map arcCV)) (hg : H'.get bg = some (.cells [nv, .map bm, v', .slice bx 0 us.length (.exact us.length)] 77 none)) (hok : HOk H') (hnext : H.next ≤ H'.next) (hf1 : av = .nilSlice → H.next ≤ f') (hf2 : av ≠ .nilSlice → f' = fa)
    (hkeep : ∀ b o, b < H.next → b ≠ bg → H.get b = some o → (av ≠ .nilSlice → ∀ g p, o.fam = some (g, p) → g ≠ fa) → H'.get b = some o) :
    Old n1 bg bx H H' ∧ H'.get bm = some (.map (entriesFrom 0 us) us.length) ∧ H'.get bx = some (.cells xs 74 none) ∧ (∀ j v, xs[j]? = some v → Own H' (fs j) 3 79 v ((outOf arcs j).map arcCV)) ∧ n1 ≤ f' ∧ (∀ j v, xs[j]? = some v → v ≠ .nilSlice → f' ≠ fs j) := by
  have l := h.next
  refine ⟨⟨hnext, fun b o hb hb1 hb2 ho => hkeep b o (by omega) hb1 ho (fun hv g p hg => ?_)⟩, hkeep bm _ (by have := h.lm; omega) h.gm.symm h.m (fun _ g p e => by simp [CObj.fam] at e), hkeep bx _ (by have := h.lx; omega) h.gx.symm h.x (fun _ g p e => by simp [CObj.fam] at e),
    fun j v hj => ?_, ?_, fun j v hj hv => ?_⟩
  · have := (h.ok.fam b o g p ho hg).1
    have := h.fa1 hv
    omega
  · refine ⟨(h.c j v hj).1, ?_⟩
    rcases (h.c j v hj).2 with e | ⟨b, p, e, h1, h2, h3, h4⟩
    · exact .inl e
    · refine .inr ⟨b, p, e, h1, Nat.lt_of_lt_of_le h2 hnext, h3, hkeep b _ h2 ?_ h4 (fun hv g q hg => ?_)⟩
      · rintro rfl; rw [h.g] at h4; simp at h4
      · simp only [CObj.fam, Option.some.injEq, Prod.mk.injEq] at hg
        rw [← hg.1]
        exact (h.d1 hv j v hj (by rw [e]; intro hh; cases hh)).symm
  · by_cases hv : av = .nilSlice
    · have := hf1 hv; omega
    · rw [hf2 hv]; exact h.fa1 hv
  · by_cases hav : av = .nilSlice
    · have := hf1 hav
      have := Own.fam_lt (h.c j v hj) hv
      omega
    · rw [hf2 hav]; exact h.d1 hav j v hj hv

/-- The list of a unit has a new arc. -/
theorem GS.out {n1 bg bm bx f' : Nat} {H H1 H' : Heap} {nv av av' v v' : CV} {xs : List CV} {us : List Nat} {arcs : List (Nat × Nat × Nat)} {fa fa' : Nat} {fs : Nat → Nat} {a : Nat × Nat × Nat} (h : GS n1 H bg bm bx nv av xs us arcs fa fs)
    -- behind the first append
    (old : Old n1 bg bx H H1) (hm1 : H1.get bm = some (.map (entriesFrom 0 us) us.length)) (hx1 : H1.get bx = some (.cells xs 74 none)) (hc1 : ∀ j v, xs[j]? = some v → Own H1 (fs j) 3 79 v ((outOf arcs j).map arcCV)) (hfa : n1 ≤ fa') (hfd : ∀ j v, xs[j]? = some v → v ≠ .nilSlice → fa' ≠ fs j)
    (hg1 : H1.get bg = some (.cells [nv, .map bm, av', .slice bx 0 us.length (.exact us.length)] 77 none)) (ha1 : Own H1 fa' 3 79 av' ((arcs ++ [a]).map arcCV)) (hok1 : HOk H1) (hav : av' ≠ .nilSlice)
    -- behind the second
    (hxv : xs[a.2.1]? = some v) (hown : Own H' f' 3 79 v' ((outOf arcs a.2.1 ++ [a]).map arcCV)) (hx : H'.get bx = some (.cells (xs.set a.2.1 v') 74 none)) (hok : HOk H') (hnext : H1.next ≤ H'.next) (hv' : v' ≠ .nilSlice) (hf1 : v = .nilSlice → H1.next ≤ f') (hf2 : v ≠ .nilSlice → f' = fs a.2.1)
    (hkeep : ∀ b o, b < H1.next → b ≠ bx → H1.get b = some o → (v ≠ .nilSlice → ∀ g p, o.fam = some (g, p) → g ≠ fs a.2.1) → H'.get b = some o) :
    GS n1 H' bg bm bx nv av' (xs.set a.2.1 v') us (arcs ++ [a]) fa' (fun j => if j = a.2.1 then f' else fs j) ∧ Old n1 bg bx H H' := by
  have l := h.next
  have l1 := old.1
  have hlo : a.2.1 < xs.length := (List.getElem?_eq_some_iff.1 hxv).1
  have hnf : n1 ≤ f' := by
    by_cases hv : v = .nilSlice
    · have := hf1 hv; omega
    · rw [hf2 hv]; exact h.fs1 _ v hxv hv
  have old2 : Old n1 bg bx H1 H' := ⟨hnext, fun b o hb hb1 hb2 ho => hkeep b o (by omega) hb2 ho (fun hv g p hg => by
    have := (hok1.fam b o g p ho hg).1
    have := h.fs1 _ v hxv hv
    omega)⟩
  have kept : ∀ {f sz e : Nat} {u : CV} {vs : List CV}, Own H1 f sz e u vs → e ≠ 74 → (u ≠ .nilSlice → v ≠ .nilSlice → f ≠ fs a.2.1) → Own H' f sz e u vs := by
    intro f sz e u vs hu he hne
    refine ⟨hu.1, ?_⟩
    rcases hu.2 with e | ⟨b, p, e1, h1, h2, h3, h4⟩
    · exact .inl e
    · refine .inr ⟨b, p, e1, h1, Nat.lt_of_lt_of_le h2 hnext, h3, hkeep b _ h2 ?_ h4 (fun hv g q hg => ?_)⟩
      · rintro rfl; rw [hx1] at h4; simp at h4
      · simp only [CObj.fam, Option.some.injEq, Prod.mk.injEq] at hg
        rw [← hg.1]
        exact hne (by rw [e1]; intro hh; cases hh) hv
  have newne : ∀ j u, xs[j]? = some u → u ≠ .nilSlice → j ≠ a.2.1 → f' ≠ fs j := by
    intro j u hj hu hne
    by_cases hv : v = .nilSlice
    · have := hf1 hv
      have := Own.fam_lt (h.c j u hj) hu
      omega
    · rw [hf2 hv]; exact h.d2 _ j v u hxv hj (Ne.symm hne) hv hu
  have ane : fa' ≠ f' := by
    by_cases hv : v = .nilSlice
    · have := hf1 hv
      have := Own.fam_lt ha1 hav
      omega
    · rw [hf2 hv]; exact hfd _ v hxv hv
  have hset : ∀ j u, (xs.set a.2.1 v')[j]? = some u → (j = a.2.1 ∧ u = v') ∨ (j ≠ a.2.1 ∧ xs[j]? = some u) := by
    intro j u hj
    by_cases e : j = a.2.1
    · subst e; rw [List.getElem?_set_self hlo] at hj; injection hj with hj; exact .inl ⟨rfl, hj.symm⟩
    · rw [List.getElem?_set_ne (Ne.symm e)] at hj; exact .inr ⟨e, hj⟩
  have hout : ∀ j, outOf (arcs ++ [a]) j = if j = a.2.1 then outOf arcs j ++ [a] else outOf arcs j := by
    intro j
    by_cases e : j = a.2.1
    · subst e; simp [outOf]
    · rw [if_neg e]; simp [outOf, Ne.symm e]
  refine ⟨⟨hkeep bg _ (by have := h.lg; omega) h.gx hg1 (fun _ g p e => by simp [CObj.fam] at e), hkeep bm _ (by have := h.lm; omega) h.mx hm1 (fun _ g p e => by simp [CObj.fam] at e), hx, by rw [List.length_set]; exact h.len,
    (h.n.old' old h.ln).old' old2 h.ln, kept ha1 (by omega) (fun _ hv => hfd _ v hxv hv), fun j u hj => ?_, fun _ => hfa, fun j u hj hu => ?_, fun _ j u hj hu => ?_, fun i j u w hi hj hij hu hw => ?_, hok, by omega, h.lg, h.lm, h.lx, h.ln, h.gm, h.gx, h.mx⟩, old.trans old2⟩
  · rcases hset j u hj with ⟨rfl, rfl⟩ | ⟨e, hj'⟩
    · rw [if_pos rfl, hout, if_pos rfl]; exact hown
    · simp only [if_neg e, hout]
      exact kept (hc1 j u hj') (by omega) (fun hu hv => h.d2 j _ u v hj' hxv e hu hv)
  · rcases hset j u hj with ⟨rfl, rfl⟩ | ⟨e, hj'⟩
    · simp only [if_true]; exact hnf
    · simp only [if_neg e]; exact h.fs1 j u hj' hu
  · rcases hset j u hj with ⟨rfl, rfl⟩ | ⟨e, hj'⟩
    · simp only [if_true]; exact ane
    · simp only [if_neg e]; exact hfd j u hj' hu
  · rcases hset i u hi with ⟨rfl, rfl⟩ | ⟨ei, hi'⟩
    · rcases hset j w hj with ⟨rfl, rfl⟩ | ⟨ej, hj'⟩
      · exact absurd rfl hij
      · simp only [if_true, if_neg ej]; exact newne j w hj' hw ej
    · rcases hset j w hj with ⟨rfl, rfl⟩ | ⟨ej, hj'⟩
      · simp only [if_true, if_neg ei]; exact (newne i u hi' hu ei).symm
      · simp only [if_neg ei, if_neg ej]; exact h.d2 i j u w hi' hj' hij hu hw
end Go.Z

namespace Go.Z
open Go.K Go.Proofs
set_option linter.unusedSimpArgs false
set_option linter.unusedVariables false
set_option maxRecDepth 10000

variable {X : CallFn}

theorem build_body2 {n1 bg bm bx i fa : Nat} {l nv av : CV} {xs : List CV} {us : List Nat} {fs : Nat → Nat} {rs : List (Nat × Nat × Nat)} {env : Env} {H : Heap} (hr : rs.length ≤ 900) (hi : i < rs.length) (hus : ∀ y ∈ us, y < 100)
    (hmem : ∀ r ∈ rs, r.2.1 ∈ us ∧ r.2.2 ∈ us) (h3 : env.get 3 = some (.ptr bg 0)) (h40 : env.get 40 = some l) (h41 : env.get 41 = some (.int .i64 rs.length)) (h42 : env.get 42 = some (.int .i64 i))
    (hl : Has H 3 42 l (rs.map relCV)) (hgs : GS n1 H bg bm bx nv av xs us (arcsFrom us 0 (rs.take i)) fa fs) :
    ∃ (env' : Env) (H' : Heap) (av' : CV) (xs' : List CV) (fa' : Nat) (fs' : Nat → Nat), go Tryz.prog X 96 (sub (codeOf Tryz.f16) [true,true,true,true,false,true,false,false]) env H = some (.normal, env', H') ∧ env'.get 3 = some (.ptr bg 0) ∧ env'.get 40 = some l ∧ env'.get 41 = some (.int .i64 rs.length) ∧
      env'.get 42 = some (.int .i64 (i + 1 : Nat)) ∧ GS n1 H' bg bm bx nv av' xs' us (arcsFrom us 0 (rs.take (i + 1))) fa' fs' ∧ Old n1 bg bx H H' := by
  have hcode : sub (codeOf Tryz.f16) [true,true,true,true,false,true,false,false] = .seq (sub (codeOf Tryz.f16) [true,true,true,true,false,true,false,false,false]) (.seq (sub (codeOf Tryz.f16) [true,true,true,true,false,true,false,false,true,false]) (.seq (.block 3 (.seq (sub (codeOf Tryz.f16) [true,true,true,true,false,true,false,false,true,true,false,false,false]) (.seq (sub (codeOf Tryz.f16) [true,true,true,true,false,true,false,false,true,true,false,false,true,false])
    (.seq (sub (codeOf Tryz.f16) [true,true,true,true,false,true,false,false,true,true,false,false,true,true,false]) (.seq (sub (codeOf Tryz.f16) [true,true,true,true,false,true,false,false,true,true,false,false,true,true,true,false]) (sub (codeOf Tryz.f16) [true,true,true,true,false,true,false,false,true,true,false,false,true,true,true,true])))))) (sub (codeOf Tryz.f16) [true,true,true,true,false,true,false,false,true,true,true]))) := rfl
  have e1 : (i : Int) < (rs.length : Int) := by omega
  have hw : wrap .i64 ((i : Int) + 1) = ((i + 1 : Nat) : Int) := wrap64 (by omega) (by omega)
  have g9 : go Tryz.prog X 96 (sub (codeOf Tryz.f16) [true,true,true,true,false,true,false,false,false]) env H = some (.normal, env.set 43 (.bool true), H) := by
    simp only [codeOf, Tryz.f16, sub, go_seq, go_region, opsSeq_step, opsSeq_guard, guardStep_true, guardStep_false, guardVal, opsSeq_nil, afterStep_some, afterStep_none, stepC, kindOf, quietC, evC, Nat.reduceLT, Tr.get_set, if_true, if_false, Nat.reduceEqDiff, Option.map_some, Option.bind_some, List.getElem?_toArray, List.getElem?_cons_zero, List.getElem?_cons_succ, ofVal, decide_true, decide_false, BEq.rfl, andThen_normal, andThen_exit, andThen_ret, inBlock_normal, inBlock_ret, go_skip, go_exit, go_ret, loudStep, isCall, loudC, targetC, evs, evParts, mapO, List.nil_append, List.append_nil, List.cons_append, loadC, Heap.skip_get, Heap.get_put, Heap.skip_next, Heap.put_next, h41, h42, bin_lss, e1]
  have g9' : go Tryz.prog X 96 (sub (codeOf Tryz.f16) [true,true,true,true,false,true,false,false,true,false]) (env.set 43 (.bool true)) H = some (.normal, env.set 43 (.bool true), H) := by
    simp only [codeOf, Tryz.f16, sub]
    rw [go_cond _ _ _ (v := true) (by simp only [evC, Tr.get_set, if_true])]
    simp only [if_true, go_skip]
  have g15 : ∀ (e : Env) (G : Heap), e.get 42 = some (.int .i64 i) → go Tryz.prog X 96 (sub (codeOf Tryz.f16) [true,true,true,true,false,true,false,false,true,true,true]) e G = some (.normal, (e.set 94 (.int .i64 (i + 1 : Nat))).set 42 (.int .i64 (i + 1 : Nat)), G) := by
    intro e G he
    simp only [codeOf, Tryz.f16, sub, go_seq, go_region, opsSeq_step, opsSeq_guard, guardStep_true, guardStep_false, guardVal, opsSeq_nil, afterStep_some, afterStep_none, stepC, kindOf, quietC, evC, Nat.reduceLT, Tr.get_set, if_true, if_false, Nat.reduceEqDiff, Option.map_some, Option.bind_some, List.getElem?_toArray, List.getElem?_cons_zero, List.getElem?_cons_succ, ofVal, decide_true, decide_false, BEq.rfl, andThen_normal, andThen_exit, andThen_ret, inBlock_normal, inBlock_ret, go_skip, go_exit, go_ret, loudStep, isCall, loudC, targetC, evs, evParts, mapO, List.nil_append, List.append_nil, List.cons_append, loadC, Heap.skip_get, Heap.get_put, Heap.skip_next, Heap.put_next, he, bin_add, hw]
  obtain ⟨ea, H1, ga, ag, an, ak, ax, a3, a40, a41, a42, a6, a7⟩ := build_r10 (X := X) (bg := bg) (env := env.set 43 (.bool true)) (by simp only [Tr.get_set, Nat.reduceEqDiff, if_false, h3]) (by simp only [Tr.get_set, Nat.reduceEqDiff, if_false, h40]) (by simp only [Tr.get_set, Nat.reduceEqDiff, if_false, h41])
    (by simp only [Tr.get_set, Nat.reduceEqDiff, if_false, h42]) hl hi hgs.ok
  have hgs1 := GS.ext hgs ax ak
  have htake : rs.take (i + 1) = rs.take i ++ [rs[i]] := by rw [List.take_add_one, List.getElem?_eq_getElem hi, Option.toList_some]
  have htl : (rs.take i).length = i := by rw [List.length_take]; omega
  have hsn := arcsFrom_snoc us rs[i] (rs.take i) 0
  rw [← htake, htl, Nat.zero_add] at hsn
  have old1 : Old n1 bg bx H H1 := Ext.old ax hgs.next
  by_cases hkd : rs[i].1 = 4
  · rw [if_pos hkd, List.append_nil] at hsn
    have g11 : ∃ e, go Tryz.prog X 96 (sub (codeOf Tryz.f16) [true,true,true,true,false,true,false,false,true,true,false,false,true,false]) ea H1 = some (.exit 3, e, H1) ∧ ∀ t, t < 47 → e.get t = ea.get t := by
      have e2 : ((rs[i].1 : Nat) : Int) = 4 := by omega
      simp only [codeOf, Tryz.f16, sub, go_seq, go_region, opsSeq_step, opsSeq_guard, guardStep_true, guardStep_false, guardVal, opsSeq_nil, afterStep_some, afterStep_none, stepC, kindOf, quietC, evC, Nat.reduceLT, Tr.get_set, if_true, if_false, Nat.reduceEqDiff, Option.map_some, Option.bind_some, List.getElem?_toArray, List.getElem?_cons_zero, List.getElem?_cons_succ, ofVal, decide_true, decide_false, BEq.rfl, andThen_normal, andThen_exit, andThen_ret, inBlock_normal, inBlock_ret, go_skip, go_exit, go_ret, loudStep, isCall, loudC, targetC, evs, evParts, mapO, List.nil_append, List.append_nil, List.cons_append, loadC, Heap.skip_get, Heap.get_put, Heap.skip_next, Heap.put_next, a7, fa42_0, g3, ag, bin_eql, e2]
      rw [go_cond _ _ _ (v := true) (by simp only [evC, Tr.get_set, if_true])]
      simp only [if_true, go_exit]
      refine ⟨_, rfl, fun t ht => ?_⟩
      simp only [Tr.get_set, show t ≠ 47 by omega, show t ≠ 48 by omega, show t ≠ 49 by omega, if_false]
    obtain ⟨eb, gb, qb⟩ := g11
    refine ⟨(eb.set 94 (.int .i64 (i + 1 : Nat))).set 42 (.int .i64 (i + 1 : Nat)), H1, av, xs, fa, fs, ?_, ?_, ?_, ?_, ?_, by rw [hsn]; exact hgs1, old1⟩
    · rw [hcode, go_seq, g9, andThen_normal, go_seq, g9', andThen_normal, go_seq, go_block, go_seq, ga, andThen_normal, go_seq, gb, andThen_exit, inBlock_exit, if_pos rfl, andThen_normal]
      exact g15 eb H1 ((qb 42 (by omega)).trans a42)
    · simp only [Tr.get_set, Nat.reduceEqDiff, if_false]; exact (qb 3 (by omega)).trans a3
    · simp only [Tr.get_set, Nat.reduceEqDiff, if_false]; exact (qb 40 (by omega)).trans a40
    · simp only [Tr.get_set, Nat.reduceEqDiff, if_false]; exact (qb 41 (by omega)).trans a41
    · simp only [Tr.get_set, if_true]
  · rw [if_neg hkd] at hsn
    have g11 : ∃ e, go Tryz.prog X 96 (sub (codeOf Tryz.f16) [true,true,true,true,false,true,false,false,true,true,false,false,true,false]) ea H1 = some (.normal, e, H1) ∧ ∀ t, t < 47 → e.get t = ea.get t := by
      have e2 : ¬ (((rs[i].1 : Nat) : Int) = 4) := by omega
      simp only [codeOf, Tryz.f16, sub, go_seq, go_region, opsSeq_step, opsSeq_guard, guardStep_true, guardStep_false, guardVal, opsSeq_nil, afterStep_some, afterStep_none, stepC, kindOf, quietC, evC, Nat.reduceLT, Tr.get_set, if_true, if_false, Nat.reduceEqDiff, Option.map_some, Option.bind_some, List.getElem?_toArray, List.getElem?_cons_zero, List.getElem?_cons_succ, ofVal, decide_true, decide_false, BEq.rfl, andThen_normal, andThen_exit, andThen_ret, inBlock_normal, inBlock_ret, go_skip, go_exit, go_ret, loudStep, isCall, loudC, targetC, evs, evParts, mapO, List.nil_append, List.append_nil, List.cons_append, loadC, Heap.skip_get, Heap.get_put, Heap.skip_next, Heap.put_next, a7, fa42_0, g3, ag, bin_eql, e2]
      rw [go_cond _ _ _ (v := false) (by simp only [evC, Tr.get_set, if_true])]
      simp only [Bool.false_eq_true, if_false, go_skip]
      refine ⟨_, rfl, fun t ht => ?_⟩
      simp only [Tr.get_set, show t ≠ 47 by omega, show t ≠ 48 by omega, show t ≠ 49 by omega, if_false]
    obtain ⟨eb, gb, qb⟩ := g11
    obtain ⟨hu, hlw⟩ := hmem rs[i] (List.getElem_mem _)
    obtain ⟨ec, H2, gc, cg, cn, ck, cx, c8, qc⟩ := build_r12 (X := X) ((qb 3 (by omega)).trans a3) ((qb 6 (by omega)).trans a6) ((qb 7 (by omega)).trans a7) ag hgs1.g hgs1.m hus hu hlw ak
    have hgs2 := GS.ext hgs1 cx ck
    have old2 : Old n1 bg bx H1 H2 := Ext.old cx hgs1.next
    have c3 : ec.get 3 = some (.ptr bg 0) := (qc 3 (by omega) (by omega)).trans ((qb 3 (by omega)).trans a3)
    have lg2 : bg < H2.next := Nat.lt_of_lt_of_le hgs2.lg hgs2.next
    have hba : H1.next + 16 ≠ bg := by have := hgs1.lg; have := hgs1.next; omega
    have hal : (arcsFrom us 0 (rs.take i)).length < 1000 := by have := arcsFrom_length us (rs.take i) 0; omega
    obtain ⟨ed, v1, H3, f3, gd, down, dg, dk, dn, dne, df1, df2, dkeep, qd⟩ := build_r13 (X := X) (a := arcOf us i rs[i]) c3 c8 hgs2.g lg2 cg (by omega) hba hgs2.a ck hal
    obtain ⟨old3, dm, dx, dc, dfa, dfd⟩ := GS.arc hgs2 down dg dk dn df1 df2 dkeep
    have hlo : us.idxOf rs[i].2.2 < us.length := List.idxOf_lt_length_iff.2 hlw
    obtain ⟨v, hv⟩ : ∃ v, xs[us.idxOf rs[i].2.2]? = some v := ⟨_, List.getElem?_eq_getElem (by rw [hgs.len]; exact hlo)⟩
    have d8 : ed.get 8 = some (.ptr (H1.next + 16) 0) := (qd 8 (by omega)).trans c8
    have d3 : ed.get 3 = some (.ptr bg 0) := (qd 3 (by omega)).trans c3
    have hcg3 : H3.get (H1.next + 16) = some (.cells [.int .i64 i, .int .i64 (us.idxOf rs[i].2.2 : Nat), .int .i64 (us.idxOf rs[i].2.1 : Nat)] 79 none) := dkeep _ _ (by omega) hba cg (fun _ g p e => by simp [CObj.fam] at e)
    obtain ⟨ee, v2, H4, f4, ge, eown, ex, ek, en, ene, ef1, ef2, ekeep, qe⟩ := build_r14 (X := X) (a := arcOf us i rs[i]) (xs := xs) (v := v) d3 d8 dg (by omega) dx (by have := hgs2.lx; have := hgs2.next; omega) hgs.len hlo hv hcg3 (by omega) (dc _ v hv) dk
      (by have := outOf_length (arcsFrom us 0 (rs.take i)) (us.idxOf rs[i].2.2); omega)
    obtain ⟨hgs4, old4⟩ := GS.out (a := arcOf us i rs[i]) hgs2 old3 dm dx dc dfa dfd dg down dk dne hv eown ex ek en ene ef1 ef2 ekeep
    have q : ∀ t, t < 47 → t ≠ 8 → ee.get t = ea.get t := fun t ht h8 => (qe t (by omega)).trans ((qd t (by omega)).trans ((qc t (by omega) h8).trans (qb t ht)))
    refine ⟨(ee.set 94 (.int .i64 (i + 1 : Nat))).set 42 (.int .i64 (i + 1 : Nat)), H4, v1, _, f3, _, ?_, ?_, ?_, ?_, ?_, by rw [hsn]; exact hgs4, old1.trans (old2.trans old4)⟩
    · rw [hcode, go_seq, g9, andThen_normal, go_seq, g9', andThen_normal, go_seq, go_block, go_seq, ga, andThen_normal, go_seq, gb, andThen_normal, go_seq, gc, andThen_normal, go_seq, gd, andThen_normal, ge, inBlock_normal, andThen_normal]
      exact g15 ee H4 ((q 42 (by omega) (by omega)).trans a42)
    · simp only [Tr.get_set, Nat.reduceEqDiff, if_false]; exact (q 3 (by omega) (by omega)).trans a3
    · simp only [Tr.get_set, Nat.reduceEqDiff, if_false]; exact (q 40 (by omega) (by omega)).trans a40
    · simp only [Tr.get_set, Nat.reduceEqDiff, if_false]; exact (q 41 (by omega) (by omega)).trans a41
    · simp only [Tr.get_set, if_true]
end Go.Z
