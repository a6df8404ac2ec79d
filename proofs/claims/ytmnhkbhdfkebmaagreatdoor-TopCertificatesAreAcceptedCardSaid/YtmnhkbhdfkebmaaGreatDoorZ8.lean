/- What distances gives: the lengths of shortest ways (plain law). cycle: the length of the shortest cycle. cycle: its first loop. -/
import Derived.Test.YtmnhkbhdfkebmaaGreatDoorZ7
import Derived.Test.YtmnhkbhdfkebmaaGreatDoorK12

set_option linter.unusedSimpArgs false
set_option linter.unusedVariables false

namespace Go.Z
open Go.K Go.Proofs
set_option linter.unusedSimpArgs false
set_option linter.unusedVariables false

abbrev Arcs := List (Nat × Nat × Nat)
/-- A way over arcs with great numbers, from lower to upper ends. -/
inductive Way (above : Int) (arcs : Arcs) : Nat → Nat → Nat → Prop
  | nil (x : Nat) : Way above arcs 0 x x
  | cons {a : Nat × Nat × Nat} {n y : Nat} (ha : a ∈ arcs) (hi : above < (a.1 : Int)) (w : Way above arcs n a.2.2 y) : Way above arcs (n + 1) a.2.1 y

structure Dist (above : Int) (arcs : Arcs) (n s : Nat) (os : List Int) : Prop where
  len : os.length = n
  zero : os.getD s 0 = 0
  low : ∀ x, x < n → -1 ≤ os.getD x 0
  rest : ∀ a ∈ arcs, above < (a.1 : Int) → 0 ≤ os.getD a.2.2 0 → 0 ≤ os.getD a.2.1 0 ∧ os.getD a.2.1 0 ≤ os.getD a.2.2 0 + 1
  supp : ∀ x, x < n → os.getD x 0 = -1 ∨ (x = s ∧ os.getD x 0 = 0) ∨ ∃ a ∈ arcs, above < (a.1 : Int) ∧ a.2.1 = x ∧ 0 ≤ os.getD a.2.2 0 ∧ os.getD x 0 = os.getD a.2.2 0 + 1

structure Pre (above : Int) (arcs : Arcs) (n s : Nat) (os : List Int) : Prop where
  len : os.length = n
  zero : os.getD s 0 = 0
  low : ∀ x, x < n → -1 ≤ os.getD x 0
  supp : ∀ x, x < n → os.getD x 0 = -1 ∨ (x = s ∧ os.getD x 0 = 0) ∨ ∃ a ∈ arcs, above < (a.1 : Int) ∧ a.2.1 = x ∧ 0 ≤ os.getD a.2.2 0 ∧ os.getD a.2.2 0 + 1 ≤ os.getD x 0

theorem getD_set {os : List Int} {k x : Nat} {v : Int} (hk : k < os.length) : (os.set k v).getD x 0 = if x = k then v else os.getD x 0 := by
  rw [List.getD_eq_getElem?_getD, List.getD_eq_getElem?_getD]
  split
  · rename_i h; subst h; rw [List.getElem?_set_self hk]; rfl
  · rename_i h; rw [List.getElem?_set_ne (Ne.symm h)]

theorem Pre.relax {above : Int} {arcs : Arcs} {n s : Nat} {os : List Int} (h : Pre above arcs n s os) {a : Nat × Nat × Nat} (ha : a ∈ arcs) (hlo : a.2.1 < n) (hup : a.2.2 < n) (ch : Bool) : Pre above arcs n s (relax above (os, ch) a).1 := by
  unfold Go.Z.relax
  split
  · rename_i hb
    simp only [better, decide_eq_true_eq] at hb
    obtain ⟨hi, hU, hL⟩ := hb
    have hk : a.2.1 < os.length := by rw [h.len]; exact hlo
    have hne : a.2.2 ≠ a.2.1 := by intro e; rw [e] at hU hL; omega
    have hs : s ≠ a.2.1 := by intro e; have := h.zero; rw [e] at this; omega
    show Pre above arcs n s (os.set a.2.1 (os.getD a.2.2 0 + 1))
    refine ⟨by rw [List.length_set]; exact h.len, by rw [getD_set hk, if_neg hs]; exact h.zero, fun x hx => ?_, fun x hx => ?_⟩
    · rw [getD_set hk]; split
      · omega
      · exact h.low x hx
    · rw [getD_set hk]
      split
      · rename_i e; subst e
        exact .inr (.inr ⟨a, ha, hi, rfl, by rw [getD_set hk, if_neg hne]; exact hU, by rw [getD_set hk, if_neg hne]; omega⟩)
      · rcases h.supp x hx with e | e | ⟨b, hb, hbi, hbx, h1, h2⟩
        · exact .inl e
        · exact .inr (.inl e)
        · refine .inr (.inr ⟨b, hb, hbi, hbx, ?_, ?_⟩)
          · rw [getD_set hk]; split <;> omega
          · rw [getD_set hk]; split
            · rename_i e; rw [e] at h1 h2; omega
            · exact h2
  · exact h
theorem Pre.pass {above : Int} {arcs : Arcs} {n s : Nat} (hlt : ∀ a ∈ arcs, a.2.1 < n ∧ a.2.2 < n) : ∀ (l : Arcs) (os : List Int) (ch : Bool), (∀ a ∈ l, a ∈ arcs) → Pre above arcs n s os → Pre above arcs n s (l.foldl (Go.Z.relax above) (os, ch)).1
  | [], os, ch, _, h => h
  | a :: t, os, ch, hl, h => by
    have ha := hl a (List.mem_cons_self ..)
    rw [List.foldl_cons]
    exact Pre.pass hlt t _ _ (fun b hb => hl b (List.mem_cons_of_mem _ hb)) (h.relax ha (hlt a ha).1 (hlt a ha).2 ch)
theorem fold_true {above : Int} : ∀ (l : Arcs) (os : List Int), (l.foldl (relax above) (os, true)).2 = true
  | [], os => rfl
  | a :: t, os => by
    rw [List.foldl_cons]
    have : (relax above (os, true) a).2 = true := by unfold relax; split <;> rfl
    rw [show relax above (os, true) a = ((relax above (os, true) a).1, true) from Prod.ext rfl this]
    exact fold_true t _
theorem fold_rest {above : Int} : ∀ (l : Arcs) (os : List Int), (l.foldl (relax above) (os, false)).2 = false → ∀ a ∈ l, better above os a = false
  | [], os, _, a, ha => by cases ha
  | b :: t, os, h, a, ha => by
    rw [List.foldl_cons] at h
    cases hb : better above os b with
    | true =>
      exfalso
      have : relax above (os, false) b = (os.set b.2.1 (os.getD b.2.2 0 + 1), true) := by simp only [relax, hb, if_true]
      rw [this, fold_true] at h; cases h
    | false =>
      have : relax above (os, false) b = (os, false) := by simp only [relax, hb, Bool.false_eq_true, if_false]
      rw [this] at h
      rcases List.mem_cons.1 ha with rfl | ha
      · exact hb
      · exact fold_rest t os h a ha
theorem Passed.dist {above : Int} {arcs : Arcs} {n s : Nat} {os os' : List Int} (hp : Passed above arcs os os') (hlt : ∀ a ∈ arcs, a.2.1 < n ∧ a.2.2 < n) (h : Pre above arcs n s os) : Dist above arcs n s os' := by
  induction hp with
  | rest hr =>
    rename_i os
    have hb := fold_rest arcs os hr
    have hrest : ∀ a ∈ arcs, above < (a.1 : Int) → 0 ≤ os.getD a.2.2 0 → 0 ≤ os.getD a.2.1 0 ∧ os.getD a.2.1 0 ≤ os.getD a.2.2 0 + 1 := by
      intro a ha hi hu
      have := hb a ha
      simp only [better, decide_eq_false_iff_not] at this
      have h3 : ¬ (os.getD a.2.1 0 < 0 ∨ os.getD a.2.2 0 + 1 < os.getD a.2.1 0) := fun h3 => this ⟨hi, hu, h3⟩
      omega
    refine ⟨h.len, h.zero, h.low, hrest, fun x hx => ?_⟩
    rcases h.supp x hx with e | e | ⟨b, hb, hbi, hbx, h1, h2⟩
    · exact .inl e
    · exact .inr (.inl e)
    · refine .inr (.inr ⟨b, hb, hbi, hbx, h1, ?_⟩)
      have := (hrest b hb hbi h1).2
      rw [hbx] at this
      omega
  | pass _ ih => exact ih (Pre.pass hlt arcs _ false (fun _ h => h) h)
theorem pre_start {above : Int} {arcs : Arcs} {n s : Nat} (hs : s < n) : Pre above arcs n s ((List.replicate n (-1)).set s 0) := by
  have hl : s < (List.replicate n (-1 : Int)).length := by simpa using hs
  have hr : ∀ x, x < n → (List.replicate n (-1 : Int)).getD x 0 = -1 := by
    intro x hx
    rw [List.getD_eq_getElem?_getD, List.getElem?_eq_getElem (by simpa using hx)]; simp
  refine ⟨by simp, by rw [getD_set hl, if_pos rfl], fun x hx => ?_, fun x hx => ?_⟩
  · rw [getD_set hl, hr x hx]; split <;> omega
  · rw [getD_set hl]
    split
    · rename_i e; exact .inr (.inl ⟨e, rfl⟩)
    · exact .inl (hr x hx)

theorem Dist.way {above : Int} {arcs : Arcs} {n s k x : Nat} {os : List Int} (h : Dist above arcs n s os) (w : Way above arcs k x s) : 0 ≤ os.getD x 0 ∧ os.getD x 0 ≤ k := by
  generalize hy : s = y at w
  induction w with
  | nil => subst hy; rw [h.zero]; omega
  | cons ha hi _ ih =>
    obtain ⟨h1, h2⟩ := ih hy
    have := h.rest _ ha hi h1
    omega
theorem Dist.to_way {above : Int} {arcs : Arcs} {n s : Nat} {os : List Int} (h : Dist above arcs n s os) (hlt : ∀ a ∈ arcs, a.2.1 < n ∧ a.2.2 < n) : ∀ (k x : Nat), x < n → os.getD x 0 = (k : Int) → Way above arcs k x s
  | 0, x, hx, hk => by
    rcases h.supp x hx with e | ⟨e, _⟩ | ⟨b, hb, hbi, hbx, h1, h2⟩
    · omega
    · rw [e]; exact .nil s
    · omega
  | k + 1, x, hx, hk => by
    rcases h.supp x hx with e | ⟨_, e⟩ | ⟨b, hb, hbi, hbx, h1, h2⟩
    · omega
    · omega
    · rw [← hbx]
      exact .cons hb hbi (h.to_way hlt k _ (hlt b hb).2 (by omega))
end Go.Z

namespace Go.Z
open Go.K Go.Proofs
set_option linter.unusedSimpArgs false
set_option linter.unusedVariables false
set_option maxRecDepth 10000

variable {X : CallFn}

/-- distances, in terms of ways. -/
theorem dists_ok (hX : ∀ a H, X 29 a H = none) (hX59 : ∀ a H, X 59 a H = none) (hM : MulOK X) {bg bm bx s : Nat} {above : Int} {nv av : CV} {xs : List CV} {us : List Nat} {arcs : List (Nat × Nat × Nat)} {H : Heap}
    (hg : Gr H bg bm bx nv av xs us arcs) (hk : HOk H) (hn : us.length ≤ 16) (har : arcs.length < 1000) (hlt : ∀ a ∈ arcs, a.2.1 < us.length ∧ a.2.2 < us.length) (hs : s < us.length) :
    ∃ (b : Nat) (os : List Int) (H' : Heap), calls Tryz.prog X 29 [.ptr bg 0, .int .i64 (s : Int), .int .i64 above] H = some (.slice b 0 us.length (.exact us.length), H') ∧ H'.get b = some (.cells (os.map (CV.int .i64)) 3 none) ∧ H.next ≤ b ∧ b < H'.next ∧
      Dist above arcs us.length s os ∧ (∀ x ∈ os, -1 ≤ x ∧ x < 1000) ∧ HOk H' ∧ Ext H.next H H' := by
  obtain ⟨b, os, H', h1, h2, h3, h4, h5, h6, h7, h8, h9⟩ := dist_ok (X := X) hX hX59 hM (above := above) hg hk hn har hlt hs
  exact ⟨b, os, H', h1, h2, h3, h4, h5.dist hlt (pre_start hs), h6.bound (by omega), h8, h9⟩

/-- The length of the shortest cycle through one of some arcs, or 0. -/
def Least (arcs seg : Arcs) (k : Nat) : Prop := (k = 0 ∧ ∀ a ∈ seg, ∀ m, ¬ Way (-1) arcs m a.2.2 a.2.1) ∨ (0 < k ∧ (∃ a ∈ seg, Way (-1) arcs (k - 1) a.2.2 a.2.1) ∧ ∀ a ∈ seg, ∀ m, Way (-1) arcs m a.2.2 a.2.1 → k ≤ m + 1)
theorem Least.step {arcs seg : Arcs} {k n : Nat} {a : Nat × Nat × Nat} {os : List Int} (h : Least arcs seg k) (hd : Dist (-1) arcs n a.2.1 os) (hlt : ∀ a ∈ arcs, a.2.1 < n ∧ a.2.2 < n) (hup : a.2.2 < n) :
    Least arcs (seg ++ [a]) (if 0 ≤ os.getD a.2.2 0 ∧ (k = 0 ∨ os.getD a.2.2 0 + 1 < (k : Int)) then (os.getD a.2.2 0 + 1).toNat else k) := by
  have hw : ∀ m, Way (-1) arcs m a.2.2 a.2.1 → 0 ≤ os.getD a.2.2 0 ∧ os.getD a.2.2 0 ≤ m := fun m w => hd.way w
  have hmem : ∀ b, b ∈ seg ++ [a] → b ∈ seg ∨ b = a := fun b hb => by simpa using hb
  split
  · rename_i hc
    obtain ⟨c1, c2⟩ := hc
    have hway : Way (-1) arcs (os.getD a.2.2 0).toNat a.2.2 a.2.1 := hd.to_way hlt _ _ hup (by omega)
    right
    refine ⟨by omega, ⟨a, by simp, ?_⟩, fun b hb m w => ?_⟩
    · rw [show (os.getD a.2.2 0 + 1).toNat - 1 = (os.getD a.2.2 0).toNat by omega]; exact hway
    · rcases hmem b hb with hb | rfl
      · rcases h with ⟨_, h⟩ | ⟨h0, _, h⟩
        · exact absurd w (h b hb m)
        · have := h b hb m w
          omega
      · have := hw m w
        omega
  · rename_i hc
    rcases h with ⟨h0, h⟩ | ⟨h0, ⟨b, hb, hbw⟩, h⟩
    · left
      refine ⟨h0, fun b hb m w => ?_⟩
      rcases hmem b hb with hb | rfl
      · exact h b hb m w
      · exact hc ⟨(hw m w).1, .inl h0⟩
    · right
      refine ⟨h0, ⟨b, by simp [hb], hbw⟩, fun c hb m w => ?_⟩
      rcases hmem c hb with hb | rfl
      · exact h c hb m w
      · have := hw m w
        have h2 : ¬ (os.getD c.2.2 0 + 1 < (k : Int)) := fun h2 => hc ⟨this.1, .inr h2⟩
        omega

theorem cyc_r4 {env : Env} {H : Heap} {av : CV} {arcs : List (Nat × Nat × Nat)} {i : Nat} (h25 : env.get 16 = some av) (h27 : env.get 18 = some (.int .i64 i)) (hl : Has H 3 79 av (arcs.map arcCV)) (hi : i < arcs.length) (hk : HOk H) :
    ∃ env' H', go Tryz.prog X 118 (sub (codeOf Tryz.f17) [true,true,false,true,false,false,true,true,false,false,false]) env H = some (.normal, env', H') ∧ H'.get H.next = some (.cells [.int .i64 arcs[i].1, .int .i64 arcs[i].2.1, .int .i64 arcs[i].2.2] 79 none) ∧ H'.next = H.next + 1 ∧ HOk H' ∧ Ext H.next H H' ∧
      env'.get 5 = some (.ptr H.next 0) ∧ ∀ t, t < 20 → t ≠ 5 → env'.get t = env.get t := by
  obtain ⟨b, off, cs, fam, hb, _, hidx, hget, hcells, hcell⟩ := hl.at (P := Tryz.prog) (t := 74) u74 s79 (i := i) (by simpa using hi)
  rw [List.getElem_map] at hcells
  have hcl : takeE 3 (cs.drop off) = some [.int .i64 arcs[i].1, .int .i64 arcs[i].2.1, .int .i64 arcs[i].2.2] := hcells
  generalize hH2 : ((H.skip 1).put H.next (.cells [.int .i64 0, .int .i64 0, .int .i64 0] 79 none)).put H.next (.cells [.int .i64 arcs[i].1, .int .i64 arcs[i].2.1, .int .i64 arcs[i].2.2] 79 none) = H2
  have hE2 : Ext H.next H H2 := by rw [← hH2]; exact (Ext.skip.trans (Ext.put (Nat.le_refl _))).trans (Ext.put (Nat.le_refl _))
  have hk2 : HOk H2 := by rw [← hH2]; exact Hok.put rfl (Hok.put rfl (Hok.skip 1 hk))
  have hn2 : H2.next = H.next + 1 := by rw [← hH2]; rfl
  have hg2 : H2.get H.next = some (.cells [.int .i64 arcs[i].1, .int .i64 arcs[i].2.1, .int .i64 arcs[i].2.2] 79 none) := by rw [← hH2, Heap.get_put, if_pos rfl]
  suffices h : ∃ env', go Tryz.prog X 118 (sub (codeOf Tryz.f17) [true,true,false,true,false,false,true,true,false,false,false]) env H = some (.normal, env', H2) ∧ env'.get 5 = some (.ptr H.next 0) ∧ ∀ t, t < 20 → t ≠ 5 → env'.get t = env.get t by
    obtain ⟨env', q1, q⟩ := h
    exact ⟨env', H2, q1, hg2, hn2, hk2, hE2, q⟩
  simp only [codeOf, Tryz.f17, sub, go_seq, go_region, opsSeq_step, opsSeq_guard, guardStep_true, guardStep_false, guardVal, opsSeq_nil, afterStep_some, afterStep_none, stepC, kindOf, quietC, evC, Nat.reduceLT, Tr.get_set, if_true, if_false, Nat.reduceEqDiff, Option.map_some, Option.bind_some, List.getElem?_toArray, List.getElem?_cons_zero, List.getElem?_cons_succ, ofVal, decide_true, decide_false, BEq.rfl, andThen_normal, andThen_exit, andThen_ret, inBlock_normal, inBlock_ret, go_skip, go_exit, go_ret, loudStep, isCall, loudC, targetC, evs, evParts, mapO, List.nil_append, List.append_nil, List.cons_append, loadC, Heap.skip_get, Heap.get_put, Heap.skip_next, Heap.put_next, h25, h27, hidx, hget, hcl, s79, g79, al79, store79, List.length_cons, List.length_nil, Nat.reduceAdd, hH2]
  refine ⟨_, rfl, by simp only [Tr.get_set, Nat.reduceEqDiff, if_true, if_false], fun t ht h10 => ?_⟩
  simp only [Tr.get_set, show t ≠ 20 by omega, show t ≠ 21 by omega, h10, if_false]

/-- The distance from an arc's upper end to its lower end. -/
theorem cyc_r5 {env : Env} {H H' : Heap} {ba b bg n ix lo up : Nat} {os : List Int} {u : Int} (h0 : env.get 0 = some (.ptr bg 0)) (h5 : env.get 5 = some (.ptr ba 0)) (hba : H.get ba = some (.cells [.int .i64 ix, .int .i64 lo, .int .i64 up] 79 none))
    (hc : calls Tryz.prog X 29 [.ptr bg 0, .int .i64 (lo : Int), .int .i64 (-1)] (H.skip 9) = some (.slice b 0 n (.exact n), H')) (hx : Ext H.next (H.skip 9) H') (hb : H'.get b = some (.cells (os.map (CV.int .i64)) 3 none)) (hup : up < n) (hu : os[up]? = some u) (hban : ba < H.next) :
    ∃ env', go Tryz.prog X 118 (sub (codeOf Tryz.f17) [true,true,false,true,false,false,true,true,false,false,true,false]) env H = some (.normal, env', H') ∧ env'.get 6 = some (.int .i64 u) ∧ ∀ t, t < 20 → t ≠ 6 → env'.get t = env.get t := by
  have hcU : (os.map (CV.int .i64))[up]? = some (.int .i64 u) := by rw [List.getElem?_map, hu]; rfl
  have hba' := hx.2 _ _ hban hba
  simp only [codeOf, Tryz.f17, sub]
  rw [go_planned [(0,0,[0],false),(1,0,[5],false),(2,0,[23],false),(3,0,[22,24],true),(4,0,[5],false),(5,0,[26],false),(6,1,[25,27],false),(7,1,[28],false),(8,1,[29],false)] rfl (by kernel_rfl)]
  simp only [drawStep_guard, guardDS_true, guardDS_false, guardVal, BEq.rfl, planRun_cons, planRun_nil, planStep, planEnd, List.getElem?_cons_zero, List.getElem?_cons_succ, drawStep_eq, kindOf, quietAt, quietC, evR, evC, memN, beq_dec, Nat.reduceEqDiff, decide_true, decide_false, setDS_some, loudDS_some, loudDS_none, allocDS_some, Nat.reduceLT, Tr.get_set, if_true, if_false, Option.map_some, Option.bind_some, List.length_cons, List.length_nil, sameAt, Nat.reduceAdd, Nat.reduceSub, ofVal, loadC, Heap.skip_get, Heap.get_put, loudStep, isCall, targetC, evs, evParts, mapO, List.cons_append, List.nil_append, List.append_nil, putAll, ne_eq, reduceCtorEq, not_false_eq_true, Int.reduceEq, eq_self, cbeq_int, cbeq_ptr, cbeq_str, cbeq_bool, cbeq_map, cbeq_slice, cbeq_nilSlice, Bool.and_self, Bool.and_true, Int.reduceNeg, List.append_eq, loudC, List.getElem?_toArray, h0, h5, fa79_0, fa79_1, fa79_2, g3, hba, hba', Nat.zero_add, hc, hb, idx26 hup, hcU]
  refine ⟨_, rfl, by simp only [Tr.get_set, Nat.reduceEqDiff, if_true, if_false], fun t ht h8 => ?_⟩
  simp only [Tr.get_set]
  simp only [show t ≠ 20 by omega, show t ≠ 21 by omega, show t ≠ 22 by omega, show t ≠ 23 by omega, show t ≠ 24 by omega, show t ≠ 25 by omega, show t ≠ 26 by omega, show t ≠ 27 by omega, show t ≠ 28 by omega, show t ≠ 29 by omega, h8, if_false]
end Go.Z

namespace Go.Z
open Go.K Go.Proofs
set_option linter.unusedSimpArgs false
set_option linter.unusedVariables false
set_option maxRecDepth 10000

variable {X : CallFn}

/-- Whether the way is shorter. -/
theorem cyc_r6 {env : Env} {H : Heap} {u : Int} {k : Nat} (h6 : env.get 6 = some (.int .i64 u)) (h3 : env.get 3 = some (.int .i64 (k : Int))) (hu : -1 ≤ u ∧ u < 1000) (hk : k ≤ 1000) :
    ∃ env', go Tryz.prog X 118 (.seq (sub (codeOf Tryz.f17) [true,true,false,true,false,false,true,true,false,false,true,true,false]) (sub (codeOf Tryz.f17) [true,true,false,true,false,false,true,true,false,false,true,true,true])) env H = some (.normal, env', H) ∧ env'.get 3 = some (.int .i64 ((if 0 ≤ u ∧ (k = 0 ∨ u + 1 < (k : Int)) then (u + 1).toNat else k : Nat) : Int)) ∧
      ∀ t, t < 20 → t ≠ 3 → env'.get t = env.get t := by
  have hw : wrap .i64 (u + 1) = u + 1 := wrap64 (by omega) (by omega)
  have eb : (false == true) = false := rfl
  have ec : (true == false) = false := rfl
  have ed : (false == false) = true := rfl
  have key : ∀ (v : Bool), v = decide (0 ≤ u ∧ (k = 0 ∨ u + 1 < (k : Int))) → (∃ e, go Tryz.prog X 118 (sub (codeOf Tryz.f17) [true,true,false,true,false,false,true,true,false,false,true,true,false]) env H = some (.normal, e, H) ∧ e.get 41 = some (.bool v) ∧ ∀ t, t < 30 → e.get t = env.get t) →
      ∃ env', go Tryz.prog X 118 (.seq (sub (codeOf Tryz.f17) [true,true,false,true,false,false,true,true,false,false,true,true,false]) (sub (codeOf Tryz.f17) [true,true,false,true,false,false,true,true,false,false,true,true,true])) env H = some (.normal, env', H) ∧ env'.get 3 = some (.int .i64 ((if 0 ≤ u ∧ (k = 0 ∨ u + 1 < (k : Int)) then (u + 1).toNat else k : Nat) : Int)) ∧
      ∀ t, t < 20 → t ≠ 3 → env'.get t = env.get t := by
    rintro v hv ⟨e, g, e41, eq⟩
    rw [go_seq, g, andThen_normal]
    have e6 := (eq 6 (by omega)).trans h6
    cases v with
    | true =>
      have hc : 0 ≤ u ∧ (k = 0 ∨ u + 1 < (k : Int)) := of_decide_eq_true hv.symm
      simp only [codeOf, Tryz.f17, sub]
      rw [go_cond _ _ _ (v := true) (by simp only [evC, e41])]
      simp only [go_seq, go_region, opsSeq_step, opsSeq_guard, guardStep_true, guardStep_false, guardVal, opsSeq_nil, afterStep_some, afterStep_none, stepC, kindOf, quietC, evC, Nat.reduceLT, Tr.get_set, if_true, if_false, Nat.reduceEqDiff, Option.map_some, Option.bind_some, List.getElem?_toArray, List.getElem?_cons_zero, List.getElem?_cons_succ, ofVal, decide_true, decide_false, BEq.rfl, andThen_normal, andThen_exit, andThen_ret, inBlock_normal, inBlock_ret, go_skip, go_exit, go_ret, loudStep, isCall, loudC, targetC, evs, evParts, mapO, List.nil_append, List.append_nil, List.cons_append, loadC, Heap.skip_get, Heap.get_put, Heap.skip_next, Heap.put_next, e6, bin_add, hw]
      refine ⟨_, rfl, ?_, fun t ht h3 => ?_⟩
      · simp only [Tr.get_set, if_true, if_pos hc]
        rw [show (((u + 1).toNat : Nat) : Int) = u + 1 by omega]
      · simp only [Tr.get_set, show t ≠ 42 by omega, show t ≠ 43 by omega, h3, if_false]
        exact eq t (by omega)
    | false =>
      have hc : ¬ (0 ≤ u ∧ (k = 0 ∨ u + 1 < (k : Int))) := of_decide_eq_false hv.symm
      simp only [codeOf, Tryz.f17, sub]
      rw [go_cond _ _ _ (v := false) (by simp only [evC, e41])]
      simp only [go_seq, go_region, opsSeq_step, opsSeq_guard, guardStep_true, guardStep_false, guardVal, opsSeq_nil, afterStep_some, afterStep_none, stepC, kindOf, quietC, evC, Nat.reduceLT, Tr.get_set, if_true, if_false, Nat.reduceEqDiff, Option.map_some, Option.bind_some, List.getElem?_toArray, List.getElem?_cons_zero, List.getElem?_cons_succ, ofVal, decide_true, decide_false, BEq.rfl, andThen_normal, andThen_exit, andThen_ret, inBlock_normal, inBlock_ret, go_skip, go_exit, go_ret, loudStep, isCall, loudC, targetC, evs, evParts, mapO, List.nil_append, List.append_nil, List.cons_append, loadC, Heap.skip_get, Heap.get_put, Heap.skip_next, Heap.put_next, Bool.false_eq_true]
      refine ⟨e, rfl, ?_, fun t ht h3 => eq t (by omega)⟩
      rw [if_neg hc]; exact (eq 3 (by omega)).trans h3
  by_cases c1 : 0 ≤ u
  · by_cases c2 : k = 0
    · have c2' : (k : Int) = 0 := by omega
      refine key true (by simp only [c1, c2, true_and, true_or, decide_true]) ?_
      simp only [codeOf, Tryz.f17, sub, go_seq, go_region, opsSeq_step, opsSeq_guard, guardStep_true, guardStep_false, guardVal, opsSeq_nil, afterStep_some, afterStep_none, stepC, kindOf, quietC, evC, Nat.reduceLT, Tr.get_set, if_true, if_false, Nat.reduceEqDiff, Option.map_some, Option.bind_some, List.getElem?_toArray, List.getElem?_cons_zero, List.getElem?_cons_succ, ofVal, decide_true, decide_false, BEq.rfl, andThen_normal, andThen_exit, andThen_ret, inBlock_normal, inBlock_ret, go_skip, go_exit, go_ret, loudStep, isCall, loudC, targetC, evs, evParts, mapO, List.nil_append, List.append_nil, List.cons_append, loadC, Heap.skip_get, Heap.get_put, Heap.skip_next, Heap.put_next, h6, h3, bin_geq, bin_eql, bin_add, bin_lss, hw, c1, c2', eb, ec, ed]
      refine ⟨_, rfl, by simp only [Tr.get_set, if_true], fun t ht => ?_⟩
      simp only [Tr.get_set, show t ≠ 30 by omega, show t ≠ 31 by omega, show t ≠ 32 by omega, show t ≠ 33 by omega, show t ≠ 34 by omega, show t ≠ 35 by omega, show t ≠ 36 by omega, show t ≠ 37 by omega, show t ≠ 38 by omega, show t ≠ 39 by omega, show t ≠ 40 by omega, show t ≠ 41 by omega, if_false]
    · have c2' : ¬ (k : Int) = 0 := by omega
      by_cases c3 : u + 1 < (k : Int)
      · refine key true (by simp only [c1, c2, c3, true_and, or_true, decide_true]) ?_
        simp only [codeOf, Tryz.f17, sub, go_seq, go_region, opsSeq_step, opsSeq_guard, guardStep_true, guardStep_false, guardVal, opsSeq_nil, afterStep_some, afterStep_none, stepC, kindOf, quietC, evC, Nat.reduceLT, Tr.get_set, if_true, if_false, Nat.reduceEqDiff, Option.map_some, Option.bind_some, List.getElem?_toArray, List.getElem?_cons_zero, List.getElem?_cons_succ, ofVal, decide_true, decide_false, BEq.rfl, andThen_normal, andThen_exit, andThen_ret, inBlock_normal, inBlock_ret, go_skip, go_exit, go_ret, loudStep, isCall, loudC, targetC, evs, evParts, mapO, List.nil_append, List.append_nil, List.cons_append, loadC, Heap.skip_get, Heap.get_put, Heap.skip_next, Heap.put_next, h6, h3, bin_geq, bin_eql, bin_add, bin_lss, hw, c1, c2', c3, eb, ec, ed]
        refine ⟨_, rfl, by simp only [Tr.get_set, if_true], fun t ht => ?_⟩
        simp only [Tr.get_set, show t ≠ 30 by omega, show t ≠ 31 by omega, show t ≠ 32 by omega, show t ≠ 33 by omega, show t ≠ 34 by omega, show t ≠ 35 by omega, show t ≠ 36 by omega, show t ≠ 37 by omega, show t ≠ 38 by omega, show t ≠ 39 by omega, show t ≠ 40 by omega, show t ≠ 41 by omega, if_false]
      · refine key false (by simp only [c1, c2, c3, true_and, or_false, decide_false]) ?_
        simp only [codeOf, Tryz.f17, sub, go_seq, go_region, opsSeq_step, opsSeq_guard, guardStep_true, guardStep_false, guardVal, opsSeq_nil, afterStep_some, afterStep_none, stepC, kindOf, quietC, evC, Nat.reduceLT, Tr.get_set, if_true, if_false, Nat.reduceEqDiff, Option.map_some, Option.bind_some, List.getElem?_toArray, List.getElem?_cons_zero, List.getElem?_cons_succ, ofVal, decide_true, decide_false, BEq.rfl, andThen_normal, andThen_exit, andThen_ret, inBlock_normal, inBlock_ret, go_skip, go_exit, go_ret, loudStep, isCall, loudC, targetC, evs, evParts, mapO, List.nil_append, List.append_nil, List.cons_append, loadC, Heap.skip_get, Heap.get_put, Heap.skip_next, Heap.put_next, h6, h3, bin_geq, bin_eql, bin_add, bin_lss, hw, c1, c2', c3, eb, ec, ed]
        refine ⟨_, rfl, by simp only [Tr.get_set, if_true], fun t ht => ?_⟩
        simp only [Tr.get_set, show t ≠ 30 by omega, show t ≠ 31 by omega, show t ≠ 32 by omega, show t ≠ 33 by omega, show t ≠ 34 by omega, show t ≠ 35 by omega, show t ≠ 36 by omega, show t ≠ 37 by omega, show t ≠ 38 by omega, show t ≠ 39 by omega, show t ≠ 40 by omega, show t ≠ 41 by omega, if_false]
  · refine key false (by simp only [c1, false_and, decide_false]) ?_
    simp only [codeOf, Tryz.f17, sub, go_seq, go_region, opsSeq_step, opsSeq_guard, guardStep_true, guardStep_false, guardVal, opsSeq_nil, afterStep_some, afterStep_none, stepC, kindOf, quietC, evC, Nat.reduceLT, Tr.get_set, if_true, if_false, Nat.reduceEqDiff, Option.map_some, Option.bind_some, List.getElem?_toArray, List.getElem?_cons_zero, List.getElem?_cons_succ, ofVal, decide_true, decide_false, BEq.rfl, andThen_normal, andThen_exit, andThen_ret, inBlock_normal, inBlock_ret, go_skip, go_exit, go_ret, loudStep, isCall, loudC, targetC, evs, evParts, mapO, List.nil_append, List.append_nil, List.cons_append, loadC, Heap.skip_get, Heap.get_put, Heap.skip_next, Heap.put_next, h6, h3, bin_geq, bin_eql, bin_add, bin_lss, hw, c1, eb, ec, ed]
    refine ⟨_, rfl, by simp only [Tr.get_set, if_true], fun t ht => ?_⟩
    simp only [Tr.get_set, show t ≠ 30 by omega, show t ≠ 31 by omega, show t ≠ 32 by omega, show t ≠ 33 by omega, show t ≠ 34 by omega, show t ≠ 35 by omega, show t ≠ 36 by omega, show t ≠ 37 by omega, show t ≠ 38 by omega, show t ≠ 39 by omega, show t ≠ 40 by omega, show t ≠ 41 by omega, if_false]

theorem cyc_loop1 (hX : ∀ a H, X 29 a H = none) (hX59 : ∀ a H, X 59 a H = none) (hM : MulOK X) {bg bm bx : Nat} {nv av : CV} {xs : List CV} {us : List Nat} {arcs : List (Nat × Nat × Nat)} {H : Heap} {env : Env}
    (hg : Gr H bg bm bx nv av xs us arcs) (hk : HOk H) (hn : us.length ≤ 16) (har : arcs.length < 1000) (hlt : ∀ a ∈ arcs, a.2.1 < us.length ∧ a.2.2 < us.length)
    (h0 : env.get 0 = some (.ptr bg 0)) (h3 : env.get 3 = some (.int .i64 (0 : Nat))) (h16 : env.get 16 = some av) (h17 : env.get 17 = some (.int .i64 (arcs.length : Nat))) (h18 : env.get 18 = some (.int .i64 (0 : Nat))) :
    ∃ env' H' k, go Tryz.prog X 118 (sub (codeOf Tryz.f17) [true,true,false,true,false]) env H = some (.exit 0, env', H') ∧ env'.get 0 = some (.ptr bg 0) ∧ env'.get 3 = some (.int .i64 (k : Nat)) ∧ Least arcs arcs k ∧ k ≤ 1000 ∧ HOk H' ∧ Ext H.next H H' := by
  have hL := range_loop (P := Tryz.prog) (X := X) (nt := 118) (code := sub (codeOf Tryz.f17) [true,true,false,true,false]) (hd := sub (codeOf Tryz.f17) [true,true,false,true,false,false,false]) (body := sub (codeOf Tryz.f17) [true,true,false,true,false,false,true,true,false,false]) (inc := sub (codeOf Tryz.f17) [true,true,false,true,false,false,true,true,true]) (ti := 18) (tn := 17) (tc := 19) (tx := 44) (e := 0) (b := 1) rfl (by omega)
    (fun env H i n h1 h2 => by simp only [codeOf, Tryz.f17, sub, go_seq, go_region, opsSeq_step, opsSeq_guard, guardStep_true, guardStep_false, guardVal, opsSeq_nil, afterStep_some, afterStep_none, stepC, kindOf, quietC, evC, Nat.reduceLT, Tr.get_set, if_true, if_false, Nat.reduceEqDiff, Option.map_some, Option.bind_some, List.getElem?_toArray, List.getElem?_cons_zero, List.getElem?_cons_succ, ofVal, decide_true, decide_false, BEq.rfl, andThen_normal, andThen_exit, andThen_ret, inBlock_normal, inBlock_ret, go_skip, go_exit, go_ret, loudStep, isCall, loudC, targetC, evs, evParts, mapO, List.nil_append, List.append_nil, List.cons_append, loadC, Heap.skip_get, Heap.get_put, Heap.skip_next, Heap.put_next, h1, h2, bin_lss]) (fun env H i h1 hw => by simp only [codeOf, Tryz.f17, sub, go_seq, go_region, opsSeq_step, opsSeq_guard, guardStep_true, guardStep_false, guardVal, opsSeq_nil, afterStep_some, afterStep_none, stepC, kindOf, quietC, evC, Nat.reduceLT, Tr.get_set, if_true, if_false, Nat.reduceEqDiff, Option.map_some, Option.bind_some, List.getElem?_toArray, List.getElem?_cons_zero, List.getElem?_cons_succ, ofVal, decide_true, decide_false, BEq.rfl, andThen_normal, andThen_exit, andThen_ret, inBlock_normal, inBlock_ret, go_skip, go_exit, go_ret, loudStep, isCall, loudC, targetC, evs, evParts, mapO, List.nil_append, List.append_nil, List.cons_append, loadC, Heap.skip_get, Heap.get_put, Heap.skip_next, Heap.put_next, h1, bin_add, hw]) (by omega) (n := arcs.length) (by omega)
    (fun i env H' => ∃ k : Nat, env.get 0 = some (.ptr bg 0) ∧ env.get 16 = some av ∧ env.get 3 = some (.int .i64 (k : Nat)) ∧ Least arcs (arcs.take i) k ∧ k ≤ 1000 ∧ HOk H' ∧ Ext H.next H H') (fun _ _ => False)
    (fun i env H' t v ht ⟨k, a0, a16, a3, r⟩ => ⟨k, by rcases ht with rfl | rfl | rfl <;> simp only [Tr.get_set, Nat.reduceEqDiff, if_false, a0], by rcases ht with rfl | rfl | rfl <;> simp only [Tr.get_set, Nat.reduceEqDiff, if_false, a16], by rcases ht with rfl | rfl | rfl <;> simp only [Tr.get_set, Nat.reduceEqDiff, if_false, a3], r⟩)
    (fun i env H1 hi ⟨k, a0, a16, a3, al, ak, aok, ax⟩ h1 h2 => by
      left
      have hg1 := hg.ext ax
      obtain ⟨e1, H2, g1, p1, p2, p3, p4, p5, p6⟩ := cyc_r4 (X := X) a16 h1 hg1.a hi aok
      obtain ⟨hlo, hup⟩ := hlt arcs[i] (List.getElem_mem _)
      obtain ⟨b, os, H3, c1, c2, c3, c4, c5, c6, c7, c8⟩ := dists_ok (X := X) (above := -1) hX hX59 hM ((hg1.ext p4).ext (Ext.skip (k := 9))) (Hok.skip 9 p3) hn har hlt hlo
      have hUm : os[arcs[i].2.2]? = some (os.getD arcs[i].2.2 0) := by rw [List.getD_eq_getElem?_getD, List.getElem?_eq_getElem (by rw [c5.len]; exact hup)]; rfl
      have hub := c6 _ (List.mem_of_getElem? hUm)
      have x23 : Ext H2.next H2 H3 := (Ext.skip (k := 9)).trans (c8.le (Nat.le_add_right _ _))
      obtain ⟨e2, g2, q1, q2⟩ := cyc_r5 (X := X) ((p6 0 (by omega) (by omega)).trans a0) p5 p1 c1 (c8.le (Nat.le_add_right _ _)) c2 hup hUm (by omega)
      obtain ⟨e3, g3, r1, r2⟩ := cyc_r6 (X := X) (H := H3) q1 ((q2 3 (by omega) (by omega)).trans ((p6 3 (by omega) (by omega)).trans a3)) hub ak
      have hq : ∀ t, t < 20 → t ≠ 3 → t ≠ 5 → t ≠ 6 → e3.get t = env.get t := fun t ht n3 n5 n6 => (r2 t ht n3).trans ((q2 t ht n6).trans (p6 t ht n5))
      refine ⟨.normal, e3, H3, ?_, .inl rfl, ⟨_, (hq 0 (by omega) (by omega) (by omega) (by omega)).trans a0, (hq 16 (by omega) (by omega) (by omega) (by omega)).trans a16, r1, ?_, by split <;> omega, c7, (ax.trans (p4.le ax.1)).trans (x23.le (Nat.le_trans ax.1 p4.1))⟩, (hq 18 (by omega) (by omega) (by omega) (by omega)).trans h1, (hq 17 (by omega) (by omega) (by omega) (by omega)).trans h2⟩
      · show go Tryz.prog X 118 (.seq (sub (codeOf Tryz.f17) [true,true,false,true,false,false,true,true,false,false,false]) (.seq (sub (codeOf Tryz.f17) [true,true,false,true,false,false,true,true,false,false,true,false]) (.seq (sub (codeOf Tryz.f17) [true,true,false,true,false,false,true,true,false,false,true,true,false]) (sub (codeOf Tryz.f17) [true,true,false,true,false,false,true,true,false,false,true,true,true])))) env H1 = _
        rw [go_seq, g1, andThen_normal, go_seq, g2, andThen_normal, g3]
      · rw [List.take_succ_eq_append_getElem hi]
        exact al.step c5 hlt hup)
  rcases hL arcs.length 0 env H (by omega) ⟨0, h0, h16, h3, .inl ⟨rfl, fun a ha => by simp at ha⟩, by omega, hk, Ext.refl _ _⟩ h18 h17 with ⟨e, H', g, k, b0, b16, b3, bl, bk, bo, bx⟩ | ⟨_, _, _, f⟩
  · rw [List.take_length] at bl
    exact ⟨e, H', k, g, b0, b3, bl, bk, bo, bx⟩
  · exact f.elim
end Go.Z
