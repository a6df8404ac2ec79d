/- The graph once it is built; Units of right relations. A list of numbers that is taken from in front and put to behind. Which units are reached (plain law). -/
import Derived.Test.YtmnhkbhdfkebmaaGreatY4

set_option linter.unusedSimpArgs false
set_option linter.unusedVariables false

namespace Go.Y
open Go.K Go.Proofs
set_option linter.unusedSimpArgs false
set_option linter.unusedVariables false
set_option maxRecDepth 10000

variable {X : CallFn}

abbrev Arcs := List (Nat × Nat × Nat)
/-- What is left of a graph's state once it is built. -/
structure Gr (H : Heap) (bg bm bx : Nat) (nv av : CV) (xs : List CV) (us : List Nat) (arcs : List (Nat × Nat × Nat)) : Prop where
  g : H.get bg = some (.cells [nv, .map bm, av, .slice bx 0 us.length (.exact us.length)] 60 none)
  x : H.get bx = some (.cells xs 57 none)
  len : xs.length = us.length
  n : Has H 1 9 nv (us.map nm)
  a : Has H 3 87 av (arcs.map arcCV)
  c : ∀ j v, xs[j]? = some v → Has H 3 87 v ((outOf arcs j).map arcCV)
  lg : bg < H.next
  lx : bx < H.next
theorem GS.gr {n1 : Nat} {H : Heap} {bg bm bx : Nat} {nv av : CV} {xs : List CV} {us : List Nat} {arcs : List (Nat × Nat × Nat)} {fa : Nat} {fs : Nat → Nat} (h : GS n1 H bg bm bx nv av xs us arcs fa fs) : Gr H bg bm bx nv av xs us arcs :=
  ⟨h.g, h.x, h.len, h.n, h.a.has, fun j v hj => (h.c j v hj).has, Nat.lt_of_lt_of_le h.lg h.next, Nat.lt_of_lt_of_le h.lx h.next⟩
theorem Gr.ext {H H' : Heap} {bg bm bx : Nat} {nv av : CV} {xs : List CV} {us : List Nat} {arcs : List (Nat × Nat × Nat)} (h : Gr H bg bm bx nv av xs us arcs) (hx : Ext H.next H H') : Gr H' bg bm bx nv av xs us arcs :=
  ⟨hx.2 _ _ h.lg h.g, hx.2 _ _ h.lx h.x, h.len, h.n.ext hx h.n.lt, h.a.ext hx h.a.lt, fun j v hj => (h.c j v hj).ext hx (h.c j v hj).lt, Nat.lt_of_lt_of_le h.lg hx.1, Nat.lt_of_lt_of_le h.lx hx.1⟩


/-- What is wanted of the hook for the first parts. -/
structure YX (X : CallFn) : Prop where
  x8 : ∀ a H, X 8 a H = none
  x15 : ∀ a H, X 16 a H = none
  x16 : ∀ a H, X 22 a H = none
  x18 : ∀ a H, X 17 a H = none
  x33 : ∀ a H, X 36 a H = none
  sort : SortOK X
  check : CheckOK X

abbrev Rels := List (Nat × Nat × Nat)
theorem units_len {rs : Rels} (hR : ∀ r ∈ rs, Right r) : (unitsOf rs).length ≤ 8 := by
  have hn8 := right_names hR
  have hs : (unitsOf rs).Sublist (List.range 8) := by
    have : unitsOf rs = (List.range 8).filter fun x => decide (x ∈ namesOf rs) := sorted_unique (unitsOf_sorted rs) (List.Pairwise.filter _ List.pairwise_lt_range) fun x => by
      rw [mem_unitsOf (fun x hx => by have := hn8 x hx; omega), List.mem_filter, List.mem_range, decide_eq_true_eq]
      exact ⟨fun h => ⟨hn8 x h, h⟩, fun h => h.2⟩
    rw [this]; exact List.filter_sublist
  have := hs.length_le
  rwa [List.length_range] at this
theorem arcs_mem {us : List Nat} {a : Nat × Nat × Nat} : ∀ {rs : Rels} {k : Nat}, a ∈ arcsFrom us k rs ↔ ∃ i, ∃ h : i < rs.length, rs[i].1 ≠ 4 ∧ a = arcOf us (k + i) rs[i]
  | [], k => by simp [arcsFrom]
  | r :: t, k => by
    have ih := arcs_mem (us := us) (a := a) (rs := t) (k := k + 1)
    have step : (∃ i, ∃ h : i < (r :: t).length, (r :: t)[i].1 ≠ 4 ∧ a = arcOf us (k + i) (r :: t)[i]) ↔ ((r.1 ≠ 4 ∧ a = arcOf us k r) ∨ ∃ i, ∃ h : i < t.length, t[i].1 ≠ 4 ∧ a = arcOf us (k + 1 + i) t[i]) := by
      constructor
      · rintro ⟨i, h, h1, h2⟩
        cases i with
        | zero => exact .inl ⟨h1, h2⟩
        | succ i => exact .inr ⟨i, by simpa using h, h1, by rw [show k + 1 + i = k + (i + 1) by omega]; exact h2⟩
      · rintro (⟨h1, h2⟩ | ⟨i, h, h1, h2⟩)
        · exact ⟨0, by simp, h1, h2⟩
        · exact ⟨i + 1, by simpa using h, h1, by rw [show k + (i + 1) = k + 1 + i by omega]; exact h2⟩
    rw [step]
    simp only [arcsFrom]
    by_cases h4 : r.1 = 4
    · rw [if_pos h4, ih]; simp [h4]
    · rw [if_neg h4, List.mem_cons, ih]; simp [h4]
theorem rel_units {rs : Rels} (hR : ∀ r ∈ rs, Right r) {r : Nat × Nat × Nat} (h : r ∈ rs) : r.2.1 ∈ unitsOf rs ∧ r.2.2 ∈ unitsOf rs := by
  have hn8 := right_names hR
  have hm := fun x => mem_unitsOf (rs := rs) (x := x) (fun x hx => by have := hn8 x hx; omega)
  refine ⟨(hm _).2 ?_, (hm _).2 ?_⟩ <;> simp only [namesOf, List.mem_flatMap] <;> exact ⟨r, h, by simp⟩
theorem arcs_lt {rs : Rels} (hR : ∀ r ∈ rs, Right r) : ∀ a ∈ arcsFrom (unitsOf rs) 0 rs, a.2.1 < (unitsOf rs).length ∧ a.2.2 < (unitsOf rs).length := by
  intro a ha
  obtain ⟨i, hi, _, rfl⟩ := arcs_mem.1 ha
  obtain ⟨h1, h2⟩ := rel_units hR (List.getElem_mem hi)
  exact ⟨List.idxOf_lt_length_of_mem h2, List.idxOf_lt_length_of_mem h1⟩

theorem units8_ok (hX : YX X) {l : CV} {rs : Rels} {H : Heap} (hr : rs.length ≤ 30) (hR : ∀ r ∈ rs, Right r) (hl : Has H 3 41 l (rs.map relCV)) (hk : HOk H) :
    ∃ u H', calls Tryz.prog X 8 [l] H = some (.tuple [u, .int .i64 0], H') ∧ Has H' 1 9 u ((unitsOf rs).map nm) ∧ HOk H' ∧ Ext H.next H H' := by
  have hn8 := right_names hR
  have h0 : (envOf [l] 0 .nil).get 0 = some l := by simp [envOf, Tr.get_set]
  obtain ⟨H1, c1, k1, x1⟩ := check_ok hX.x15 hX.x18 hX.x33 hX.sort hX.check hr hR hl hk
  obtain ⟨u, H2, c2, c3, c4, c5⟩ := units_ok hX.x18 hX.x33 hX.sort (H := H1) (l := l) (rs := rs) (by omega) (fun x hx => by have := hn8 x hx; omega) (hl.ext x1 hl.lt) k1
  have key : ∃ e, go Tryz.prog X 12 (codeOf Tryz.f8) (envOf [l] 0 .nil) H = some (.ret, e, H2) ∧ e.get 2 = some u ∧ e.get 3 = some (.int .i64 0) := by
    simp only [codeOf, Tryz.f8, go_seq, go_region, opsSeq_step, opsSeq_guard, guardStep_true, guardStep_false, guardVal, opsSeq_nil, afterStep_some, afterStep_none, stepC, kindOf, quietC, evC, Nat.reduceLT, Tr.get_set, if_true, if_false, Nat.reduceEqDiff, Option.map_some, Option.bind_some, List.getElem?_toArray, List.getElem?_cons_zero, List.getElem?_cons_succ, ofVal, decide_true, decide_false, BEq.rfl, andThen_normal, andThen_exit, andThen_ret, inBlock_normal, inBlock_ret, go_skip, go_exit, go_ret, loudStep, isCall, loudC, targetC, evs, evParts, mapO, List.nil_append, List.append_nil, List.cons_append, loadC, Heap.skip_get, Heap.get_put, Heap.skip_next, Heap.put_next, h0, c1, bin_neq, ne_eq, not_true_eq_false]
    rw [go_cond _ _ _ (v := false) (by simp only [evC, Tr.get_set, if_true])]
    simp only [go_seq, go_region, opsSeq_step, opsSeq_guard, guardStep_true, guardStep_false, guardVal, opsSeq_nil, afterStep_some, afterStep_none, stepC, kindOf, quietC, evC, Nat.reduceLT, Tr.get_set, if_true, if_false, Nat.reduceEqDiff, Option.map_some, Option.bind_some, List.getElem?_toArray, List.getElem?_cons_zero, List.getElem?_cons_succ, ofVal, decide_true, decide_false, BEq.rfl, andThen_normal, andThen_exit, andThen_ret, inBlock_normal, inBlock_ret, go_skip, go_exit, go_ret, loudStep, isCall, loudC, targetC, evs, evParts, mapO, List.nil_append, List.append_nil, List.cons_append, loadC, Heap.skip_get, Heap.get_put, Heap.skip_next, Heap.put_next, Bool.false_eq_true, h0, c2]
    exact ⟨_, rfl, by simp only [Tr.get_set, Nat.reduceEqDiff, if_false, if_true], by simp only [Tr.get_set, if_true]⟩
  obtain ⟨e, key, e2, e3⟩ := key
  exact ⟨u, H2, calls_ret (hX.x8 _ _) Tryz.func8 rfl (by decide) (nt := 12) rfl key (results_two e2 e3), c3, c4, x1.trans (c5.le x1.1)⟩

end Go.Y

namespace Go.Y
open Go.K Go.Proofs
set_option linter.unusedSimpArgs false
set_option linter.unusedVariables false
set_option maxRecDepth 10000

variable {X : CallFn}

abbrev nI (x : Nat) : CV := .int .i64 (x : Nat)

/-- All stays but what is of a family. -/
def Kf (f f' : Nat) (H H' : Heap) : Prop := H.next ≤ H'.next ∧ (f' = f ∨ H.next ≤ f') ∧ ∀ b o, b < H.next → (∀ p, o.fam ≠ some (f, p)) → H.get b = some o → H'.get b = some o
theorem Kf.refl (f : Nat) (H : Heap) : Kf f f H H := ⟨Nat.le_refl _, .inl rfl, fun _ _ _ _ h => h⟩
theorem Kf.trans {f f' f'' : Nat} {a b c : Heap} (h : Kf f f' a b) (k : Kf f' f'' b c) (hk : HOk a) : Kf f f'' a c := by
  obtain ⟨h1, h2, h3⟩ := h
  obtain ⟨k1, k2, k3⟩ := k
  refine ⟨Nat.le_trans h1 k1, by omega, fun x o hx hf ho => k3 x o (by omega) (fun p e => ?_) (h3 x o hx hf ho)⟩
  rcases h2 with e' | e'
  · exact hf p (by rw [e, e'])
  · have := (hk.fam x o f' p ho e).1; omega
theorem _root_.Go.K.Ext.kf {f : Nat} {H H' : Heap} (h : Ext H.next H H') : Kf f f H H' := ⟨h.1, .inl rfl, fun b o hb _ ho => h.2 b o hb ho⟩

def Fr (H : Heap) (v : CV) (q : List Nat) (f : Nat) : Prop := f < H.next ∧
  ((∃ b off cs, v = .slice b off q.length (.exact q.length) ∧ b < H.next ∧ H.get b = some (.cells cs 3 none) ∧ off + q.length ≤ cs.length ∧ (cs.drop off).take q.length = q.map nI) ∨
   (∃ b off p pre cap, v = .slice b off q.length cap ∧ b < H.next ∧ H.get b = some (.cells (pre ++ q.map nI) 3 (some (f, p))) ∧ pre.length = off ∧ ((q ≠ [] ∧ cap = .tail 1) ∨ (q = [] ∧ ∃ o, cap = .tailE 1 o))))
theorem Fr.ext {H H' : Heap} {v : CV} {q : List Nat} {f : Nat} (h : Fr H v q f) (hx : Ext H.next H H') : Fr H' v q f := by
  refine ⟨Nat.lt_of_lt_of_le h.1 hx.1, ?_⟩
  rcases h.2 with ⟨b, off, cs, h1, h2, h3, h4⟩ | ⟨b, off, p, pre, cap, h1, h2, h3, h4⟩
  · exact .inl ⟨b, off, cs, h1, Nat.lt_of_lt_of_le h2 hx.1, hx.2 _ _ h2 h3, h4⟩
  · exact .inr ⟨b, off, p, pre, cap, h1, Nat.lt_of_lt_of_le h2 hx.1, hx.2 _ _ h2 h3, h4⟩
theorem Fr.flat {H : Heap} {v : CV} {q : List Nat} {f : Nat} (h : Fr H v q f) : v.cells = [v] ∧ v.single = true := by
  rcases h.2 with ⟨b, off, cs, rfl, _⟩ | ⟨b, off, p, pre, cap, rfl, _⟩ <;> exact ⟨rfl, rfl⟩
theorem Fr.len {H : Heap} {v : CV} {q : List Nat} {f : Nat} (h : Fr H v q f) (H' : Heap) : lenC Tryz.prog 34 H' v = some (nI q.length) := by
  rcases h.2 with ⟨b, off, cs, rfl, _⟩ | ⟨b, off, p, pre, cap, rfl, _⟩ <;> simp [lenC, u26]

/-- The first one. -/
theorem fr_head {H : Heap} {v : CV} {x : Nat} {q : List Nat} {f : Nat} (h : Fr H v (x :: q) f) : ∃ b off cs fam, indexAddrC Tryz.prog 34 v (.int .i64 0) = some (.ptr b off) ∧ H.get b = some (.cells cs 3 fam) ∧ cs[off]? = some (.int .i64 (x : Nat)) := by
  rcases h.2 with ⟨b, off, cs, rfl, h2, h3, h4, h5⟩ | ⟨b, off, p, pre, cap, rfl, h2, h3, h4, h5⟩
  · refine ⟨b, off, cs, none, ?_, h3, ?_⟩
    · show indexAddrC Tryz.prog 34 _ (.int .i64 (Int.ofNat 0)) = _
      simp only [indexAddrC, u26, blt_t (show 0 < (x :: q).length by simp), s3, Option.map_some, Nat.zero_mul, Nat.add_zero]
    · have := congrArg (fun l => l[0]?) h5
      simp only [List.map_cons, List.getElem?_cons_zero, List.length_cons, List.getElem?_take, Nat.zero_lt_succ, if_true, List.getElem?_drop, Nat.add_zero] at this
      exact this
  · rcases h5 with ⟨_, rfl⟩ | ⟨e, _⟩
    · refine ⟨b, off, _, _, ?_, h3, ?_⟩
      · show indexAddrC Tryz.prog 34 _ (.int .i64 (Int.ofNat 0)) = _
        simp only [indexAddrC, u26, blt_t (show 0 < (x :: q).length by simp), s3, Option.map_some, Nat.zero_mul, Nat.add_zero]
      · rw [List.getElem?_append_right (by omega), ← h4]; simp
    · cases e

/-- The rest. -/
theorem fr_tail {H : Heap} {v : CV} {x : Nat} {q : List Nat} {f : Nat} (h : Fr H v (x :: q) f) : ∃ v', sliceC Tryz.prog H 34 v (some (.int .i64 1)) none none = some v' ∧ Fr H v' q f := by
  rcases h.2 with ⟨b, off, cs, rfl, h2, h3, h4, h5⟩ | ⟨b, off, p, pre, cap, rfl, h2, h3, h4, h5⟩
  · have hs : sliceC Tryz.prog H 34 (.slice b off (x :: q).length (.exact (x :: q).length)) (some (.int .i64 1)) none none = some (.slice b (startC (x :: q).length 1 off 1) q.length (.exact q.length)) := by
      show sliceC Tryz.prog H 34 _ (some (.int .i64 (Int.ofNat 1))) none none = _
      simp only [sliceC, u26, s3, Option.bind_some, roomC, cutIdxO, cutHi, cutIdx, ble_t (show 1 ≤ q.length + 1 by omega), Option.isSome_none, recut, List.length_cons, Nat.add_sub_cancel, Option.map_some]
    refine ⟨_, hs, h.1, .inl ⟨b, _, cs, rfl, h2, h3, ?_, ?_⟩⟩
    · rw [startC_eq]; simp only [List.length_cons] at h4 ⊢; split <;> omega
    · rw [startC_eq]
      cases q with
      | nil => simp
      | cons y t =>
        rw [if_neg (by simp)]
        have := congrArg (List.drop 1) h5
        simp only [List.drop_take, List.drop_drop, List.map_cons, List.drop_succ_cons, List.drop_zero, List.length_cons] at this ⊢
        rw [show off + 1 * 1 = off + 1 by omega]
        exact this
  · rcases h5 with ⟨_, rfl⟩ | ⟨e, _⟩
    · have hroom : roomC H b off 1 (.tail 1) = some (q.length + 1) := by simp [roomC, h3]; omega
      have hs : sliceC Tryz.prog H 34 (.slice b off (x :: q).length (.tail 1)) (some (.int .i64 1)) none none = recut 1 b off false (.tail 1) (q.length + 1) 1 (q.length + 1) (q.length + 1) := by
        show sliceC Tryz.prog H 34 _ (some (.int .i64 (Int.ofNat 1))) none none = _
        simp only [sliceC, u26, s3, Option.bind_some, hroom, cutIdxO, cutHi, cutIdx, ble_t (show 1 ≤ (x :: q).length by simp), ble_t (show 1 ≤ q.length + 1 by omega), Option.isSome_none, List.length_cons]
      rw [hs]
      cases q with
      | nil => exact ⟨.slice b (off + 1 * 1) 0 (.tailE 1 off), rfl, h.1, .inr ⟨b, _, p, pre ++ [nI x], _, rfl, h2, by simpa using h3, by simp; omega, .inr ⟨rfl, _, rfl⟩⟩⟩
      | cons y t =>
        refine ⟨.slice b (off + 1) (y :: t).length (.tail 1), ?_, h.1, .inr ⟨b, _, p, pre ++ [nI x], _, rfl, h2, by simpa using h3, by simp; omega, .inl ⟨by simp, rfl⟩⟩⟩
        simp only [recut, beq_t rfl, ble_t (Nat.le_refl _), Bool.and_self, beq_f (show (y :: t).length + 1 ≠ 1 by simp), Nat.mul_one, Nat.add_sub_cancel]
    · cases e

theorem upd_keep {H : Heap} {b b' pos f p e e' : Nat} {cs cs' : List CV} {o : CObj} (hk : HOk H) (hg : H.get b = some (.cells cs e (some (f, p)))) (ho : H.get b' = some o) (hf : ∀ p, o.fam ≠ some (f, p)) : (H.upd b (.cells cs' e' (some (f, p))) pos).get b' = some o := by
  show ((H.trim f b _).put b _).get b' = _
  have hbb : b' ≠ b := by
    intro e; subst e
    rw [hg] at ho; injection ho with ho; subst ho
    exact hf p rfl
  rw [Heap.get_put, if_neg hbb, Heap.trim_get]
  split
  · rename_i hh
    exfalso
    obtain ⟨h2, h3⟩ := hh
    unfold keepIn at h3
    rw [ho] at h3
    simp only [beq_f hbb, Bool.false_or] at h3
    split at h3
    · rename_i cs e' g q e1
      injection e1 with e1
      have := (hk.fam b' o g q ho (by rw [e1]; rfl)).2.2 f h2
      exact hf q (by rw [e1]; simp only [CObj.fam, this])
    · cases h3
  · exact ho

theorem fr_append {H : Heap} {v : CV} {q : List Nat} {f c x : Nat} (h : Fr H v q f) (hk : HOk H) (hc : c < H.next) (hg : H.get c = some (.cells [nI x] 3 none)) (hl : q.length < 1000) :
    ∃ v' H' f', appendC Tryz.prog 34 34 H v (.slice c 0 1 (.exact 1)) = some (v', H') ∧ Fr H' v' (q ++ [x]) f' ∧ HOk H' ∧ Kf f f' H H' := by
  have he : elemsC H 1 (.slice c 0 1 (.exact 1)) = some (1, [nI x]) := by simp [elemsC, hg, takeE]
  obtain ⟨i, i1, i2, i3⟩ := i3
  have hroom : 2 * (q.length + 1) * i.bytes ≤ 140737488355328 := by rw [i3]; omega
  rcases h.2 with ⟨b, off, cs, rfl, h2, h3, h4, h5⟩ | ⟨b, off, p, pre, cap, rfl, h2, h3, h4, h5⟩
  · have r1 : elemsC H 1 (.slice b off q.length (.exact q.length)) = some (q.length, q.map nI) := by
      cases hq : q.length with
      | zero => rw [List.length_eq_zero_iff.1 hq]; rfl
      | succ n =>
        have : takeE (q.length * 1) (cs.drop off) = some (q.map nI) := by rw [Nat.mul_one, takeE_of (by rw [List.length_drop]; omega), h5]
        rw [hq] at this
        simp only [elemsC, h3, this, Option.map_some]
    have hap : appendC Tryz.prog 34 34 H (.slice b off q.length (.exact q.length)) (.slice c 0 1 (.exact 1)) = some (growNew H 3 (q.length + 1) 1 (q.map nI ++ [nI x])) := by
      simp only [appendC, u26, i1, i2, z3, he, Option.bind_some, List.length_singleton, beq_t rfl, List.all_cons, List.all_nil, CV.single, Bool.and_self, tailOf, roomC, ble_f (show q.length < q.length + 1 by omega), r1, Option.map_some]
      rw [ble_t hroom, ble_t (by omega)]
      rfl
    refine ⟨_, _, H.next, hap, ⟨Nat.lt_succ_self _, .inr ⟨H.next, 0, 0, [], .tail 1, by simp, Nat.lt_succ_self _, ?_, rfl, .inl ⟨by simp, rfl⟩⟩⟩, ?_, Nat.le_succ _, .inr (Nat.le_refl _), fun b' o hb _ ho => ?_⟩
    · show (H.newF _).get H.next = _
      rw [Heap.newF_get, if_pos rfl]; simp
    · exact Hok.newF (fun f' p' e => by simp only [CObj.fam, Option.some.injEq, Prod.mk.injEq] at e; omega) hk
    · show (H.newF _).get b' = _
      rw [Heap.newF_get, if_neg (by omega)]; exact ho
  · have hroomc : roomC H b off 1 cap = some q.length := by
      have : ((pre ++ q.map nI).length - off) / 1 = q.length := by simp; omega
      rcases h5 with ⟨_, rfl⟩ | ⟨_, o, rfl⟩ <;> simp only [roomC, h3, this]
    have htl : tailOf 1 q.length cap = some true := by
      rcases h5 with ⟨_, rfl⟩ | ⟨rfl, o, rfl⟩ <;> rfl
    have hlen : (pre ++ q.map nI).length = off + q.length := by simp; omega
    have hgr : growAt H b off q.length 1 1 3 [nI x] = some (.slice H.next 0 (q.length + 1) (.tail 1), (H.upd b (.cells ((pre ++ q.map nI).take (off + q.length * 1)) 3 (some (f, p))) (off + q.length * 1)).newF (.cells (q.map nI ++ [nI x]) 3 (some (f, p + off)))) := by
      have h6 : takeE (q.length * 1) ((pre ++ q.map nI).drop off) = some (q.map nI) := by
        rw [← h4, List.drop_left, takeE_of (by simp), List.take_of_length_le (by simp)]
      simp only [growAt, h3, beq_t rfl, ble_t (show off + q.length * 1 ≤ (pre ++ q.map nI).length by rw [hlen]; omega), blt_t (show 0 < 1 by omega), Bool.and_self, h6, Option.map_some]
    have hap : appendC Tryz.prog 34 34 H (.slice b off q.length cap) (.slice c 0 1 (.exact 1)) = growAt H b off q.length 1 1 3 [nI x] := by
      simp only [appendC, u26, i1, i2, z3, he, Option.bind_some, List.length_singleton, beq_t rfl, List.all_cons, List.all_nil, CV.single, Bool.and_self, htl, hroomc, ble_f (show q.length < q.length + 1 by omega)]
      rw [ble_t hroom, ble_t (show q.length + 1 ≤ 140737488355328 by omega)]
      rfl
    rw [hgr] at hap
    have hfq := hk.fam b _ f p h3 rfl
    refine ⟨_, _, f, hap, ⟨?_, .inr ⟨H.next, 0, p + off, [], .tail 1, by simp, ?_, ?_, rfl, .inl ⟨by simp, rfl⟩⟩⟩, ?_, ?_, .inl rfl, fun b' o hb hf ho => ?_⟩
    · show f < (H.upd _ _ _).next + 1
      rw [Heap.upd_next]; omega
    · show H.next < (H.upd _ _ _).next + 1
      rw [Heap.upd_next]; omega
    · rw [Heap.newF_get, if_pos (Heap.upd_next ..).symm]; simp
    · exact Hok.newF (fun f' p' e => by simp only [CObj.fam, Option.some.injEq, Prod.mk.injEq] at e; rw [Heap.upd_next]; omega) (Hok.upd h3 hk)
    · show H.next ≤ (H.upd _ _ _).next + 1
      rw [Heap.upd_next]; omega
    · rw [Heap.newF_get, if_neg (by rw [Heap.upd_next]; omega)]
      exact upd_keep hk h3 ho hf
end Go.Y

namespace Go.Y
open Go.K Go.Proofs
set_option linter.unusedSimpArgs false
set_option linter.unusedVariables false

/-- A way over arcs, from lower to upper ends. -/
inductive Way (arcs : Arcs) : Nat → Nat → Nat → Prop
  | nil (x : Nat) : Way arcs 0 x x
  | cons {a : Nat × Nat × Nat} {n y : Nat} (ha : a ∈ arcs) (w : Way arcs n a.2.2 y) : Way arcs (n + 1) a.2.1 y
theorem Way.zero_aux {arcs : Arcs} {m x y : Nat} (w : Way arcs m x y) (h : m = 0) : x = y := by
  cases w with
  | nil => rfl
  | cons _ _ => omega
theorem Way.zero {arcs : Arcs} {x y : Nat} (w : Way arcs 0 x y) : x = y := w.zero_aux rfl
theorem Way.snoc {arcs : Arcs} {m x y : Nat} (w : Way arcs m x y) : ∀ {a : Nat × Nat × Nat}, a ∈ arcs → a.2.1 = y → Way arcs (m + 1) x a.2.2 := by
  induction w with
  | nil x => intro a ha e; subst e; exact .cons ha (.nil _)
  | cons hb _ ih => intro a ha e; exact .cons hb (ih ha e)

def unv (n : Nat) (vis : Nat → Bool) : Nat := (List.range n).countP fun y => !vis y
theorem unv_le (n : Nat) (vis : Nat → Bool) : unv n vis ≤ n := by
  have := List.countP_le_length (p := fun y => !vis y) (l := List.range n)
  rwa [List.length_range] at this
theorem unv_set : ∀ {n k : Nat} {vis : Nat → Bool}, k < n → vis k = false → unv n (fun y => if y = k then true else vis y) + 1 = unv n vis
  | 0, k, vis, h, _ => by omega
  | n + 1, k, vis, h, hv => by
    simp only [unv, List.range_succ, List.countP_append, List.countP_singleton]
    by_cases e : k = n
    · subst e
      have : (List.range k).countP (fun y => !(if y = k then true else vis y)) = (List.range k).countP (fun y => !vis y) := by
        apply List.countP_congr
        intro y hy
        have := List.mem_range.1 hy
        rw [if_neg (by omega)]
      rw [this]
      simp [hv]
    · have ih := unv_set (n := n) (k := k) (vis := vis) (by omega) hv
      simp only [unv] at ih
      have e' : ¬ n = k := fun h => e h.symm
      simp only [e', if_false]
      omega

structure Bfs (arcs : Arcs) (n s : Nat) (vis : Nat → Bool) (q : List Nat) (rest : Arcs) : Prop where
  lt : ∀ x ∈ q, x < n
  sound : ∀ y, vis y = true → ∃ m, Way arcs (m + 1) s y
  qs : ∀ x ∈ q, x = s ∨ vis x = true
  closed : ∀ x, (x = s ∨ vis x = true) → x ∉ q → ∀ a ∈ arcs, a.2.1 = x → vis a.2.2 = true ∨ a ∈ rest

section
variable {arcs rest : Arcs} {n s i : Nat} {vis : Nat → Bool} {q : List Nat}
theorem Bfs.start (hs : s < n) : Bfs arcs n s (fun _ => false) [s] [] :=
  ⟨fun x hx => by rw [List.mem_singleton.1 hx]; exact hs, fun y h => (by cases h), fun x hx => .inl (List.mem_singleton.1 hx), fun x hx hq a ha e => by
    rcases hx with rfl | h
    · exact absurd (List.mem_singleton.2 rfl) hq
    · cases h⟩
theorem Bfs.pop (h : Bfs arcs n s vis (i :: q) []) : Bfs arcs n s vis q (outOf arcs i) := by
  refine ⟨fun x hx => h.lt x (List.mem_cons_of_mem _ hx), h.sound, fun x hx => h.qs x (List.mem_cons_of_mem _ hx), fun x hx hq a ha e => ?_⟩
  by_cases hi : x = i
  · subst hi
    exact .inr (List.mem_filter.2 ⟨ha, by simp [e]⟩)
  · rcases h.closed x hx (fun hm => by rcases List.mem_cons.1 hm with e' | e'; exact hi e'; exact hq e') a ha e with h | h
    · exact .inl h
    · cases h
theorem Bfs.old {a : Nat × Nat × Nat} (h : Bfs arcs n s vis q (a :: rest)) (hv : vis a.2.2 = true) : Bfs arcs n s vis q rest :=
  ⟨h.lt, h.sound, h.qs, fun x hx hq b hb e => by
    rcases h.closed x hx hq b hb e with h' | h'
    · exact .inl h'
    · rcases List.mem_cons.1 h' with rfl | h'
      · exact .inl hv
      · exact .inr h'⟩
theorem Bfs.new {a : Nat × Nat × Nat} (h : Bfs arcs n s vis q (a :: rest)) (ha : a ∈ arcs) (hup : a.2.2 < n) (hi : a.2.1 = s ∨ vis a.2.1 = true) : Bfs arcs n s (fun y => if y = a.2.2 then true else vis y) (q ++ [a.2.2]) rest := by
  refine ⟨fun x hx => ?_, fun y hy => ?_, fun x hx => ?_, fun x hx hq b hb e => ?_⟩
  · rcases List.mem_append.1 hx with hx | hx
    · exact h.lt x hx
    · rw [List.mem_singleton.1 hx]; exact hup
  · by_cases e : y = a.2.2
    · subst e
      rcases hi with hi | hi
      · exact ⟨0, by rw [← hi]; exact .cons ha (.nil _)⟩
      · obtain ⟨m, w⟩ := h.sound _ hi
        exact ⟨m + 1, w.snoc ha rfl⟩
    · rw [if_neg e] at hy; exact h.sound y hy
  · rcases List.mem_append.1 hx with hx | hx
    · rcases h.qs x hx with h' | h'
      · exact .inl h'
      · right
        by_cases e : x = a.2.2
        · rw [if_pos e]
        · rw [if_neg e]; exact h'
    · rw [List.mem_singleton.1 hx]; right; simp
  · have hne : x ≠ a.2.2 := fun e' => hq (List.mem_append_right _ (List.mem_singleton.2 e'))
    have hx' : x = s ∨ vis x = true := by
      rcases hx with hx | hx
      · exact .inl hx
      · rw [if_neg hne] at hx; exact .inr hx
    rcases h.closed x hx' (fun hm => hq (List.mem_append_left _ hm)) b hb e with h' | h'
    · left
      by_cases e2 : b.2.2 = a.2.2
      · rw [if_pos e2]
      · rw [if_neg e2]; exact h'
    · rcases List.mem_cons.1 h' with rfl | h'
      · left; simp
      · exact .inr h'
theorem Bfs.all (h : Bfs arcs n s vis [] []) : ∀ {m x y : Nat}, Way arcs m x y → (x = s ∨ vis x = true) → 0 < m → vis y = true := by
  intro m x y w
  induction w with
  | nil x => intro _ h0; omega
  | @cons a k y ha w ih =>
    intro hx _
    have hv : vis a.2.2 = true := by
      rcases h.closed _ hx (by simp) _ ha rfl with h' | h'
      · exact h'
      · cases h'
    rcases Nat.eq_zero_or_pos k with rfl | hk
    · rw [← w.zero]; exact hv
    · exact ih (.inr hv) hk
theorem Bfs.iff (h : Bfs arcs n s vis [] []) (y : Nat) : vis y = true ↔ ∃ m, Way arcs (m + 1) s y :=
  ⟨h.sound y, fun ⟨m, w⟩ => h.all w (.inl rfl) (by omega)⟩
end
end Go.Y
