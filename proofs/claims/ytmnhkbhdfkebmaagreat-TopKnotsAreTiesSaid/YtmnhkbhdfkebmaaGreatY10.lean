/- distances: the function. back: whether a relation lies on a way around; involved. involved: the relations that lie on a way around. -/
import Derived.Test.YtmnhkbhdfkebmaaGreatY9

set_option linter.unusedSimpArgs false
set_option linter.unusedVariables false

namespace Go.Y
open Go.K Go.Proofs
set_option linter.unusedSimpArgs false
set_option linter.unusedVariables false
set_option maxRecDepth 10000

variable {X : CallFn}

theorem leads_lt {rs : Rels} (hR : ∀ r ∈ rs, Right r) {u t : Nat} (h : Leads rs u t) (ht : t < 8) : u < 8 := by
  cases h with
  | refl => exact ht
  | cons hu _ =>
    obtain ⟨r, hr', _, _, e⟩ := mem_lows.1 hu
    rw [← e]; exact (hR r hr').2.2.2.1

theorem dst_loop {B : Heap} {bo bi t : Nat} {esI : AL} {rs : Rels} (hr : rs.length ≤ 30) (hR : ∀ r ∈ rs, Right r) (ht : t < 8) (hI : MapIs B bi esI) (lbi : bi < B.next) (hh : ∀ x, Has B 1 9 (slot esI x) ((lows rs x).map nm)) :
    ∀ (d : Nat) (env : Env) (H : Heap) (es : AL) (v : CV) (q : List Nat) (f x0 : Nat), unv 8 (seen es) + q.length ≤ d → d ≤ 200 → DSt B H bo es v q f → Bk rs t (seen es) q x0 [] →
      env.get 5 = some (.map bi) → env.get 8 = some (.map bo) → env.get 9 = some v →
      ∃ (env' : Env) (H' : Heap) (es' : AL) (v' : CV) (f' x1 : Nat), go Tryz.prog X 81 (sub (codeOf Tryz.f21) [true,true,true,true,false,true,false]) env H = some (.exit 2, env', H') ∧ DSt B H' bo es' v' [] f' ∧ Bk rs t (seen es') [] x1 [] ∧ env'.get 8 = some (.map bo) := by
  have hcode : sub (codeOf Tryz.f21) [true,true,true,true,false,true,false] = .loop (.seq (.seq (sub (codeOf Tryz.f21) [true,true,true,true,false,true,false,false,false,false]) (.cond (.tmp 46) .skip (.exit 2))) (.seq (.block 3 (.seq (sub (codeOf Tryz.f21) [true,true,true,true,false,true,false,false,true,false,false,false]) (.block 4 (sub (codeOf Tryz.f21) [true,true,true,true,false,true,false,false,true,false,false,true,false])))) (sub (codeOf Tryz.f21) [true,true,true,true,false,true,false,false,true,true]))) := rfl
  intro d
  induction d with
  | zero =>
    intro env H es v q f x0 hd hd2 hD hB h5 h8 h9
    have hq : q = [] := List.length_eq_zero_iff.1 (by omega)
    subst hq
    have ga : ∃ e, go Tryz.prog X 81 (sub (codeOf Tryz.f21) [true,true,true,true,false,true,false,false,false,false]) env H = some (.normal, e, H) ∧ e.get 46 = some (.bool false) ∧ ∀ t, t < 18 → e.get t = env.get t := by
      simp only [codeOf, Tryz.f21, sub, go_seq, go_region, opsSeq_step, opsSeq_guard, guardStep_true, guardStep_false, guardVal, opsSeq_nil, afterStep_some, afterStep_none, stepC, kindOf, quietC, evC, Nat.reduceLT, Tr.get_set, if_true, if_false, Nat.reduceEqDiff, Option.map_some, Option.bind_some, List.getElem?_toArray, List.getElem?_cons_zero, List.getElem?_cons_succ, ofVal, decide_true, decide_false, BEq.rfl, andThen_normal, andThen_exit, andThen_ret, inBlock_normal, inBlock_ret, go_skip, go_exit, go_ret, loudStep, isCall, loudC, targetC, evs, evParts, mapO, List.nil_append, List.append_nil, List.cons_append, loadC, Heap.skip_get, Heap.get_put, Heap.skip_next, Heap.put_next, h9, hD.q.len, nI, bin_gtr, List.length_nil]
      refine ⟨_, rfl, by simp only [Tr.get_set, if_true]; rfl, fun t ht => ?_⟩
      simp only [Tr.get_set, show t ≠ 44 by omega, show t ≠ 45 by omega, show t ≠ 46 by omega, if_false]
    obtain ⟨e1, ga, a20, aq⟩ := ga
    refine ⟨e1, H, es, v, f, x0, ?_, hD, hB, (aq 8 (by omega)).trans h8⟩
    rw [hcode, go_loop, go_seq, go_seq, ga, andThen_normal, go_cond _ _ _ (v := false) (by simp only [evC, a20]), if_neg (by simp), go_exit, andThen_exit, andThen_exit]
  | succ d ih =>
    intro env H es v q f x0 hd hd2 hD hB h5 h8 h9
    have ga : ∃ e, go Tryz.prog X 81 (sub (codeOf Tryz.f21) [true,true,true,true,false,true,false,false,false,false]) env H = some (.normal, e, H) ∧ e.get 46 = some (.bool (decide (0 < (q.length : Int)))) ∧ ∀ t, t < 18 → e.get t = env.get t := by
      simp only [codeOf, Tryz.f21, sub, go_seq, go_region, opsSeq_step, opsSeq_guard, guardStep_true, guardStep_false, guardVal, opsSeq_nil, afterStep_some, afterStep_none, stepC, kindOf, quietC, evC, Nat.reduceLT, Tr.get_set, if_true, if_false, Nat.reduceEqDiff, Option.map_some, Option.bind_some, List.getElem?_toArray, List.getElem?_cons_zero, List.getElem?_cons_succ, ofVal, decide_true, decide_false, BEq.rfl, andThen_normal, andThen_exit, andThen_ret, inBlock_normal, inBlock_ret, go_skip, go_exit, go_ret, loudStep, isCall, loudC, targetC, evs, evParts, mapO, List.nil_append, List.append_nil, List.cons_append, loadC, Heap.skip_get, Heap.get_put, Heap.skip_next, Heap.put_next, h9, hD.q.len, nI, bin_gtr]
      refine ⟨_, rfl, by simp only [Tr.get_set, if_true], fun t ht => ?_⟩
      simp only [Tr.get_set, show t ≠ 44 by omega, show t ≠ 45 by omega, show t ≠ 46 by omega, if_false]
    obtain ⟨e1, ga, a20, aq⟩ := ga
    cases q with
    | nil =>
      refine ⟨e1, H, es, v, f, x0, ?_, hD, hB, (aq 8 (by omega)).trans h8⟩
      rw [hcode, go_loop, go_seq, go_seq, ga, andThen_normal, go_cond _ _ _ (v := false) (by simp only [evC, a20]; rfl), if_neg (by simp), go_exit, andThen_exit, andThen_exit]
    | cons x q =>
      have hvx := hB.qs x (List.mem_cons_self ..)
      have hx : x < 8 := leads_lt hR (hB.sound x hvx) ht
      obtain ⟨b, off, cs, fam, hidx, hget, hcell⟩ := frs_head hD.q
      have hlk : lookupC Tryz.prog 85 H (.map bi) (nm x) false = some (slot esI x) := map_lookup (t := 85) u85 zi27 (hI.ext hD.ext lbi) (by omega)
      have hlen := (hh x).len (P := Tryz.prog) u30
      rw [List.length_map] at hlen
      have gd : ∃ e, go Tryz.prog X 81 (sub (codeOf Tryz.f21) [true,true,true,true,false,true,false,false,true,false,false,false]) e1 H = some (.normal, e, H) ∧ e.get 53 = some (slot esI x) ∧ e.get 54 = some (.int .i64 ((lows rs x).length : Nat)) ∧ e.get 55 = some (.int .i64 (0 : Nat)) ∧ ∀ t, t < 18 → e.get t = e1.get t := by
        simp only [codeOf, Tryz.f21, sub, go_seq, go_region, opsSeq_step, opsSeq_guard, guardStep_true, guardStep_false, guardVal, opsSeq_nil, afterStep_some, afterStep_none, stepC, kindOf, quietC, evC, Nat.reduceLT, Tr.get_set, if_true, if_false, Nat.reduceEqDiff, Option.map_some, Option.bind_some, List.getElem?_toArray, List.getElem?_cons_zero, List.getElem?_cons_succ, ofVal, decide_true, decide_false, BEq.rfl, andThen_normal, andThen_exit, andThen_ret, inBlock_normal, inBlock_ret, go_skip, go_exit, go_ret, loudStep, isCall, loudC, targetC, evs, evParts, mapO, List.nil_append, List.append_nil, List.cons_append, loadC, Heap.skip_get, Heap.get_put, Heap.skip_next, Heap.put_next, (aq 5 (by omega)).trans h5, (aq 9 (by omega)).trans h9, hidx, g9, hget, hcell, hlk, hlen]
        refine ⟨_, rfl, by simp only [Tr.get_set, Nat.reduceEqDiff, if_false, if_true], by simp only [Tr.get_set, Nat.reduceEqDiff, if_false, if_true], by simp only [Tr.get_set, if_true]; rfl, fun t ht => ?_⟩
        simp only [Tr.get_set, show t ≠ 49 by omega, show t ≠ 50 by omega, show t ≠ 51 by omega, show t ≠ 52 by omega, show t ≠ 53 by omega, show t ≠ 54 by omega, show t ≠ 55 by omega, if_false]
      obtain ⟨e4, gd, d32, d33, d34, dq⟩ := gd
      have hq4 : ∀ t, t < 18 → e4.get t = env.get t := fun t ht => (dq t ht).trans (aq t ht)
      simp only [List.length_cons] at hd
      obtain ⟨e5, H5, es5, v5, q5, f5, ge, hD5, hB5, hm5, e9, e8, e5'⟩ := dst_inner (X := X) hr hR hD hB.pop hx hvx (by omega) (hh x) ((hq4 8 (by omega)).trans h8) ((hq4 9 (by omega)).trans h9) d32 d33 d34
      obtain ⟨v6, hsl, hF6⟩ := frs_tail hD5.q
      have gc : ∃ e, go Tryz.prog X 81 (sub (codeOf Tryz.f21) [true,true,true,true,false,true,false,false,true,true]) e5 H5 = some (.normal, e, H5) ∧ e.get 9 = some v6 ∧ ∀ t, t < 18 → t ≠ 9 → e.get t = e5.get t := by
        simp only [codeOf, Tryz.f21, sub, go_seq, go_region, opsSeq_step, opsSeq_guard, guardStep_true, guardStep_false, guardVal, opsSeq_nil, afterStep_some, afterStep_none, stepC, kindOf, quietC, evC, Nat.reduceLT, Tr.get_set, if_true, if_false, Nat.reduceEqDiff, Option.map_some, Option.bind_some, List.getElem?_toArray, List.getElem?_cons_zero, List.getElem?_cons_succ, ofVal, decide_true, decide_false, BEq.rfl, andThen_normal, andThen_exit, andThen_ret, inBlock_normal, inBlock_ret, go_skip, go_exit, go_ret, loudStep, isCall, loudC, targetC, evs, evParts, mapO, List.nil_append, List.append_nil, List.cons_append, loadC, Heap.skip_get, Heap.get_put, Heap.skip_next, Heap.put_next, e9, evO, hsl]
        refine ⟨_, rfl, by simp only [Tr.get_set, if_true], fun t ht h7 => ?_⟩
        simp only [Tr.get_set, h7, show t ≠ 47 by omega, show t ≠ 48 by omega, if_false]
      obtain ⟨e6, gc, c9, cq⟩ := gc
      obtain ⟨e7, H7, es7, v7, f7, x7, gf, r⟩ := ih e6 H5 es5 v6 q5 f5 x (by omega) (by omega) (hD5.cut hF6) hB5 ((cq 5 (by omega) (by omega)).trans (e5'.trans ((hq4 5 (by omega)).trans h5))) ((cq 8 (by omega) (by omega)).trans (e8.trans ((hq4 8 (by omega)).trans h8))) c9
      refine ⟨e7, H7, es7, v7, f7, x7, ?_, r⟩
      rw [hcode, go_loop, ← hcode, go_seq, go_seq, ga, andThen_normal, go_cond _ _ _ (v := true) (by simp only [evC, a20]; rw [decide_eq_true (by simp)]), if_pos rfl, go_skip, andThen_normal, go_seq, go_block, go_seq, gd, andThen_normal, go_block, ge, inBlock_exit, if_pos rfl, inBlock_normal, andThen_normal, gc, andThen_normal]
      exact gf

theorem distances_ok (hX21 : X 21 = fun _ _ => none) {l : CV} {rs : Rels} {H : Heap} {bg bm t : Nat} (hr : rs.length ≤ 30) (hR : ∀ r ∈ rs, Right r) (ht : t < 8) (hl : Has H 3 41 l (rs.map relCV)) (hg : H.get bg = some (.cells [l, .map bm] 80 none)) (hbg : bg < H.next) (hk : HOk H) :
    ∃ bo es H', calls Tryz.prog X 21 [.ptr bg 0, nm t] H = some (.map bo, H') ∧ MapIs H' bo es ∧ bo < H'.next ∧ (∀ u, seen es u = true ↔ Leads rs u t) ∧ HOk H' ∧ Ext H.next H H' ∧ ∀ x w, aget es x = some w → ∃ k : Int, w = .int .i64 k := by
  have h0 : (envOf [.ptr bg 0, nm t] 0 .nil).get 0 = some (.ptr bg 0) := by simp [envOf, Tr.get_set]
  have h1 : (envOf [.ptr bg 0, nm t] 0 .nil).get 1 = some (nm t) := by simp [envOf, Tr.get_set]
  have hlen := hl.len (P := Tryz.prog) u24
  rw [List.length_map] at hlen
  generalize hH1 : (H.skip 1).put H.next (.map [] 0) = H1
  have x1 : Ext H.next H H1 := by rw [← hH1]; exact Ext.skip.trans (Ext.put (Nat.le_refl _))
  have k1 : HOk H1 := by rw [← hH1]; exact Hok.put rfl (Hok.skip 1 hk)
  have n1 : H1.next = H.next + 1 := by rw [← hH1]; rfl
  have m1 : H1.get H.next = some (.map [] 0) := by rw [← hH1, Heap.get_put, if_pos rfl]
  have hMM : MM H H1 H.next 9 [] (fun _ => 0) (fun _ => []) :=
    ⟨⟨m1, fun y hy => by simp [keysOf] at hy⟩, by omega, Nat.le_refl _, fun x => ⟨by simp, .inl ⟨rfl, rfl⟩⟩, fun x hx => absurd rfl hx, fun x y _ hx => absurd rfl hx, k1, x1⟩
  have ga : ∃ e, go Tryz.prog X 81 (.seq (sub (codeOf Tryz.f21) [false]) (.seq (sub (codeOf Tryz.f21) [true,false]) (sub (codeOf Tryz.f21) [true,true,false,false]))) (envOf [.ptr bg 0, nm t] 0 .nil) H = some (.normal, e, H1) ∧ e.get 0 = some (.ptr bg 0) ∧ e.get 1 = some (nm t) ∧ e.get 5 = some (.map H.next) ∧ e.get 18 = some l ∧ e.get 19 = some (.int .i64 (rs.length : Nat)) ∧ e.get 20 = some (.int .i64 (0 : Nat)) := by
    simp only [codeOf, Tryz.f21, sub, go_seq, go_region, opsSeq_step, opsSeq_guard, guardStep_true, guardStep_false, guardVal, opsSeq_nil, afterStep_some, afterStep_none, stepC, kindOf, quietC, evC, Nat.reduceLT, Tr.get_set, if_true, if_false, Nat.reduceEqDiff, Option.map_some, Option.bind_some, List.getElem?_toArray, List.getElem?_cons_zero, List.getElem?_cons_succ, ofVal, decide_true, decide_false, BEq.rfl, andThen_normal, andThen_exit, andThen_ret, inBlock_normal, inBlock_ret, go_skip, go_exit, go_ret, loudStep, isCall, loudC, targetC, evs, evParts, mapO, List.nil_append, List.append_nil, List.cons_append, loadC, Heap.skip_get, Heap.get_put, Heap.skip_next, Heap.put_next, h0, mkm, hH1, fa80_0, g24, x1.2 _ _ hbg hg, hlen]
    refine ⟨_, rfl, by simp only [Tr.get_set, Nat.reduceEqDiff, if_false, h0], by simp only [Tr.get_set, Nat.reduceEqDiff, if_false, h1], by simp only [Tr.get_set, Nat.reduceEqDiff, if_false, if_true], by simp only [Tr.get_set, Nat.reduceEqDiff, if_false, if_true], by simp only [Tr.get_set, Nat.reduceEqDiff, if_false, if_true], by simp only [Tr.get_set, if_true]; rfl⟩
  obtain ⟨e1, ga, a0, a1, a5, a18, a19, a20⟩ := ga
  obtain ⟨e2, B, esI, fsI, gb, hM, b0, b1, b5⟩ := dst_into (X := X) hr hR hl hMM a5 a18 a19 a20
  generalize hH3 : (B.skip 1).put B.next (.map [] 0) = H3
  have x3 : Ext B.next B H3 := by rw [← hH3]; exact Ext.skip.trans (Ext.put (Nat.le_refl _))
  have k3 : HOk H3 := by rw [← hH3]; exact Hok.put rfl (Hok.skip 1 hM.ok)
  have n3 : H3.next = B.next + 1 := by rw [← hH3]; rfl
  have m3 : MapIs H3 B.next [] := ⟨by rw [← hH3, Heap.get_put, if_pos rfl]; rfl, fun y hy => by simp [keysOf] at hy⟩
  obtain ⟨hup, m4⟩ := map_update (t := 52) (v := .int .i64 0) (x := t) u52 m3 (by omega)
  generalize hH4 : H3.put B.next (.map (ents 0 (aset [] t (.int .i64 0))) (aset [] t (.int .i64 0)).length) = H4 at hup m4
  have x4 : Ext B.next H3 H4 := by rw [← hH4]; exact Ext.put (Nat.le_refl _)
  have k4 : HOk H4 := by rw [← hH4]; exact Hok.put rfl k3
  have n4 : H4.next = B.next + 1 := by rw [← hH4]; exact n3
  generalize hH5 : (H4.skip 1).put H4.next (.cells [nm t] 9 none) = H5
  have x5 : Ext H4.next H4 H5 := by rw [← hH5]; exact Ext.skip.trans (Ext.put (Nat.le_refl _))
  have k5 : HOk H5 := by rw [← hH5]; exact Hok.put rfl (Hok.skip 1 k4)
  have n5 : H5.next = H4.next + 1 := by rw [← hH5]; rfl
  have gd : ∃ e, go Tryz.prog X 81 (.seq (sub (codeOf Tryz.f21) [true,true,true,false]) (sub (codeOf Tryz.f21) [true,true,true,true,false,false])) e2 B = some (.normal, e, H5) ∧ e.get 5 = some (.map H.next) ∧ e.get 8 = some (.map B.next) ∧ e.get 9 = some (.slice H4.next 0 1 (.exact 1)) := by
    simp only [codeOf, Tryz.f21, sub, go_seq, go_region, opsSeq_step, opsSeq_guard, guardStep_true, guardStep_false, guardVal, opsSeq_nil, afterStep_some, afterStep_none, stepC, kindOf, quietC, evC, Nat.reduceLT, Tr.get_set, if_true, if_false, Nat.reduceEqDiff, Option.map_some, Option.bind_some, List.getElem?_toArray, List.getElem?_cons_zero, List.getElem?_cons_succ, ofVal, decide_true, decide_false, BEq.rfl, andThen_normal, andThen_exit, andThen_ret, inBlock_normal, inBlock_ret, go_skip, go_exit, go_ret, loudStep, isCall, loudC, targetC, evs, evParts, mapO, List.nil_append, List.append_nil, List.cons_append, loadC, Heap.skip_get, Heap.get_put, Heap.skip_next, Heap.put_next, b1.trans a1, mkm, hH3, hup, bs27, nm_cells, List.length_cons, List.length_nil, Nat.reduceAdd, hH5]
    refine ⟨_, rfl, by simp only [Tr.get_set, Nat.reduceEqDiff, if_false, b5], by simp only [Tr.get_set, Nat.reduceEqDiff, if_false, if_true], by simp only [Tr.get_set, if_true]⟩
  obtain ⟨e3, gd, d5, d8, d9⟩ := gd
  have hD : DSt B H5 B.next (aset [] t (.int .i64 0)) (.slice H4.next 0 1 (.exact 1)) [t] B.next := by
    refine ⟨(x3.trans x4).trans (x5.le (by omega)), k5, m4.ext x5 (by omega), by omega, Nat.le_refl _, fun y w hy => ?_, ⟨by omega, .inl ⟨H4.next, 0, _, rfl, by omega, by rw [← hH5, Heap.get_put, if_pos rfl], by simp, by simp⟩⟩, Nat.le_refl _⟩
    rw [aget_aset] at hy
    split at hy
    · exact ⟨0, (Option.some.inj hy).symm⟩
    · cases hy
  have hseen : seen (aset [] t (.int .i64 0)) = fun y => decide (y = t) := by
    rw [seen_aset]; funext y
    by_cases e : y = t
    · simp [e]
    · simp [e, seen, aget]
  have hu := unv_le 8 (seen (aset [] t (.int .i64 0)))
  obtain ⟨e4, H6, es, v, f, x1', ge, hD6, hB6, e8⟩ := dst_loop (X := X) hr hR ht hM.m hM.lb (fun x => (hM.own x).has) 200 e3 H5 _ _ _ _ 0 (by simp only [List.length_singleton]; omega) (by omega) hD (by rw [hseen]; exact Bk.init 0) d5 d8 d9
  refine ⟨B.next, es, H6, ?_, hD6.o, hD6.lo, hB6.iff, hD6.ok, hM.ext.trans (hD6.ext.le hM.ext.1), hD6.iv⟩
  have hcode : codeOf Tryz.f21 = .seq (sub (codeOf Tryz.f21) [false]) (.seq (sub (codeOf Tryz.f21) [true,false]) (.seq (.seq (sub (codeOf Tryz.f21) [true,true,false,false]) (.block 0 (sub (codeOf Tryz.f21) [true,true,false,true,false]))) (.seq (sub (codeOf Tryz.f21) [true,true,true,false]) (.seq (.seq (sub (codeOf Tryz.f21) [true,true,true,true,false,false]) (.block 2 (sub (codeOf Tryz.f21) [true,true,true,true,false,true,false]))) (.seq (sub (codeOf Tryz.f21) [true,true,true,true,true,false]) .ret))))) := rfl
  have key : ∃ e, go Tryz.prog X 81 (codeOf Tryz.f21) (envOf [.ptr bg 0, nm t] 0 .nil) H = some (.ret, e, H6) ∧ e.get 4 = some (.map B.next) := by
    rw [go_code hcode, go_loop3, ga, andThen_normal, go_block, gb, inBlock_exit, if_pos rfl, andThen_normal, go_loop2, gd, andThen_normal, go_block, ge, inBlock_exit, if_pos rfl, andThen_normal]
    simp only [codeOf, Tryz.f21, sub, go_seq, go_region, opsSeq_step, opsSeq_guard, guardStep_true, guardStep_false, guardVal, opsSeq_nil, afterStep_some, afterStep_none, stepC, kindOf, quietC, evC, Nat.reduceLT, Tr.get_set, if_true, if_false, Nat.reduceEqDiff, Option.map_some, Option.bind_some, List.getElem?_toArray, List.getElem?_cons_zero, List.getElem?_cons_succ, ofVal, decide_true, decide_false, BEq.rfl, andThen_normal, andThen_exit, andThen_ret, inBlock_normal, inBlock_ret, go_skip, go_exit, go_ret, loudStep, isCall, loudC, targetC, evs, evParts, mapO, List.nil_append, List.append_nil, List.cons_append, loadC, Heap.skip_get, Heap.get_put, Heap.skip_next, Heap.put_next, e8]
    exact ⟨_, rfl, by simp only [Tr.get_set, if_true]⟩
  obtain ⟨e, key, e4'⟩ := key
  exact calls_ret (by rw [hX21]) Tryz.func21 rfl (by decide) (nt := 81) rfl key (results_one e4')
end Go.Y

namespace Go.Y
open Go.K Go.Proofs
set_option linter.unusedSimpArgs false
set_option linter.unusedVariables false
set_option maxRecDepth 10000

variable {X : CallFn}

theorem IsSl.cbeq {l : CV} (h : IsSl l) : cbeq 12 l l = true := by
  rcases h with rfl | ⟨b, off, n, c, rfl⟩ <;> simp only [cbeq_slice, cbeq_nilSlice]

/-- The relation's upper unit leads to its lower one. -/
def Tied (rs : Rels) (r : Nat × Nat × Nat) : Prop := r.1 ≠ 4 ∧ Leads rs r.2.1 r.2.2
open Classical in
noncomputable def tied (rs : Rels) (r : Nat × Nat × Nat) : Bool := decide (Tied rs r)
theorem tied_iff {rs : Rels} {r : Nat × Nat × Nat} : tied rs r = true ↔ Tied rs r := by simp [tied]

theorem back_ok (hX37 : X 37 = fun _ _ => none) (hX21 : X 21 = fun _ _ => none) {l : CV} {rs : Rels} {H : Heap} {bg bm i : Nat} (hr : rs.length ≤ 30) (hR : ∀ r ∈ rs, Right r) (hi : i < rs.length) (hl : Has H 3 41 l (rs.map relCV)) (hg : H.get bg = some (.cells [l, .map bm] 80 none)) (hbg : bg < H.next) (hk : HOk H) :
    ∃ (k : Int) (H' : Heap), calls Tryz.prog X 37 [.ptr bg 0, .int .i64 (i : Nat)] H = some (.tuple [.int .i64 k, .bool (tied rs rs[i])], H') ∧ HOk H' ∧ Ext H.next H H' := by
  have h0 : (envOf [.ptr bg 0, .int .i64 (i : Nat)] 0 .nil).get 0 = some (.ptr bg 0) := by simp [envOf, Tr.get_set]
  have h1 : (envOf [.ptr bg 0, .int .i64 (i : Nat)] 0 .nil).get 1 = some (.int .i64 (i : Nat)) := by simp [envOf, Tr.get_set]
  have hrk := hR _ (List.getElem_mem hi)
  obtain ⟨b, off, cs, fam, hb, _, hidx, hget, hcells, hcell⟩ := hl.at (P := Tryz.prog) (t := 25) u24 s42 (i := i) (by simpa using hi)
  rw [List.getElem_map] at hcell
  have c0 : cs[off]? = some (.int .i64 rs[i].1) := hcell 0 _ rfl
  have c1 : cs[off + 1]? = some (nm rs[i].2.1) := hcell 1 _ rfl
  have c2 : cs[off + 2]? = some (nm rs[i].2.2) := hcell 2 _ rfl
  have ga : ∃ e, go Tryz.prog X 41 (.seq (sub (codeOf Tryz.f37) [false]) (sub (codeOf Tryz.f37) [true,false,false])) (envOf [.ptr bg 0, .int .i64 (i : Nat)] 0 .nil) H = some (.normal, e, H) ∧ e.get 16 = some (.bool (decide (rs[i].1 = 4))) ∧ e.get 0 = some (.ptr bg 0) ∧ e.get 1 = some (.int .i64 (i : Nat)) := by
    have hd : decide ((rs[i].1 : Int) = 4) = decide (rs[i].1 = 4) := by
      by_cases h : rs[i].1 = 4
      · simp [h]
      · have : ¬ ((rs[i].1 : Nat) : Int) = 4 := by omega
        simp [h, this]
    simp only [codeOf, Tryz.f37, sub, go_seq, go_region, opsSeq_step, opsSeq_guard, guardStep_true, guardStep_false, guardVal, opsSeq_nil, afterStep_some, afterStep_none, stepC, kindOf, quietC, evC, Nat.reduceLT, Tr.get_set, if_true, if_false, Nat.reduceEqDiff, Option.map_some, Option.bind_some, List.getElem?_toArray, List.getElem?_cons_zero, List.getElem?_cons_succ, ofVal, decide_true, decide_false, BEq.rfl, andThen_normal, andThen_exit, andThen_ret, inBlock_normal, inBlock_ret, go_skip, go_exit, go_ret, loudStep, isCall, loudC, targetC, evs, evParts, mapO, List.nil_append, List.append_nil, List.cons_append, loadC, Heap.skip_get, Heap.get_put, Heap.skip_next, Heap.put_next, h0, h1, fa80_0, fa42_0, g24, g3, hg, hidx, hget, c0, bin_eql, hd]
    refine ⟨_, rfl, by simp only [Tr.get_set, if_true], by simp only [Tr.get_set, Nat.reduceEqDiff, if_false, h0], by simp only [Tr.get_set, Nat.reduceEqDiff, if_false, h1]⟩
  obtain ⟨e1, ga, a16, a0, a1⟩ := ga
  have hcode : codeOf Tryz.f37 = .seq (sub (codeOf Tryz.f37) [false]) (.seq (.seq (sub (codeOf Tryz.f37) [true,false,false]) (.cond (.tmp 16) (sub (codeOf Tryz.f37) [true,false,true,false]) .skip)) (.seq (sub (codeOf Tryz.f37) [true,true,false]) (.seq (sub (codeOf Tryz.f37) [true,true,true,false]) .ret))) := rfl
  by_cases h4 : rs[i].1 = 4
  · refine ⟨0, H, ?_, hk, Ext.refl _ _⟩
    have ht : tied rs rs[i] = false := by
      cases e : tied rs rs[i] with
      | false => rfl
      | true => exact absurd h4 (tied_iff.1 e).1
    rw [ht]
    have key : ∃ e, go Tryz.prog X 41 (codeOf Tryz.f37) (envOf [.ptr bg 0, .int .i64 (i : Nat)] 0 .nil) H = some (.ret, e, H) ∧ e.get 4 = some (.int .i64 0) ∧ e.get 5 = some (.bool false) := by
      rw [go_code hcode, go_loop2, ga, andThen_normal, go_cond _ _ _ (v := true) (by simp only [evC, a16]; simp [h4]), if_pos rfl]
      simp only [codeOf, Tryz.f37, sub, go_seq, go_region, opsSeq_step, opsSeq_guard, guardStep_true, guardStep_false, guardVal, opsSeq_nil, afterStep_some, afterStep_none, stepC, kindOf, quietC, evC, Nat.reduceLT, Tr.get_set, if_true, if_false, Nat.reduceEqDiff, Option.map_some, Option.bind_some, List.getElem?_toArray, List.getElem?_cons_zero, List.getElem?_cons_succ, ofVal, decide_true, decide_false, BEq.rfl, andThen_normal, andThen_exit, andThen_ret, inBlock_normal, inBlock_ret, go_skip, go_exit, go_ret, loudStep, isCall, loudC, targetC, evs, evParts, mapO, List.nil_append, List.append_nil, List.cons_append, loadC, Heap.skip_get, Heap.get_put, Heap.skip_next, Heap.put_next]
      exact ⟨_, rfl, by simp only [Tr.get_set, Nat.reduceEqDiff, if_false, if_true], by simp only [Tr.get_set, if_true]⟩
    obtain ⟨e, key, e4, e5⟩ := key
    exact calls_ret (by rw [hX37]) Tryz.func37 rfl (by decide) (nt := 41) rfl key (results_two e4 e5)
  · have x0 : Ext H.next H (H.skip 24) := Ext.skip
    obtain ⟨bo, es, H1, d1, d2, d3, d4, d5, d6, d7⟩ := distances_ok (X := X) hX21 (t := rs[i].2.2) hr hR hrk.2.2.2.1 (hl.ext x0 hl.lt) (x0.2 _ _ hbg hg) (show bg < (H.skip 24).next by show bg < H.next + 24; omega) (Hok.skip 24 hk)
    have x1 : Ext H.next H H1 := x0.trans (d6.le x0.1)
    have hlk := map_lookup_ok (t := 52) u52 zi3 d2 (show rs[i].2.1 < 100 by have := hrk.2.2.1; omega)
    have hg1 := x1.2 _ _ hbg hg
    have hget1 := x1.2 _ _ hb hget
    have hseen : (aget es rs[i].2.1).isSome = tied rs rs[i] := by
      rw [Bool.eq_iff_iff, tied_iff]
      exact (d4 _).trans ⟨fun h => ⟨h4, h⟩, fun h => h.2⟩
    rw [hseen] at hlk
    obtain ⟨k, hk1⟩ : ∃ k : Int, (aget es rs[i].2.1).getD (.int .i64 0) = .int .i64 k := by
      cases e : aget es rs[i].2.1 with
      | none => exact ⟨0, rfl⟩
      | some w => exact d7 _ w e
    rw [hk1] at hlk
    have hcl := hl.isSl.cbeq
    have gb : ∃ (k : Int) (e : Env), go Tryz.prog X 41 (sub (codeOf Tryz.f37) [true,true,false]) e1 H = some (.normal, e, H1) ∧ e.get 6 = some (.int .i64 k) ∧ e.get 7 = some (.bool (tied rs rs[i])) := by
      refine ⟨k, ?_⟩
      simp only [codeOf, Tryz.f37, sub]
      rw [go_planned [(0,0,[0],false),(1,0,[0],false),(2,0,[19],false),(3,0,[20],false),(4,0,[21],false),(5,0,[1],false),(6,0,[22,23],false),(7,0,[24],false),(8,0,[25],false),(9,0,[18,26],true),(10,0,[0],false),(11,0,[28],false),(12,0,[29],false),(13,0,[30],false),(14,0,[1],false),(15,0,[31,32],false),(16,0,[33],false),(17,0,[34],false),(18,1,[27,35],false),(19,1,[36],false),(20,1,[17],false),(21,1,[17],false),(22,1,[37],false),(23,1,[38],false)] rfl (by kernel_rfl)]
      simp only [drawStep_guard, guardDS_true, guardDS_false, guardVal, BEq.rfl, planRun_cons, planRun_nil, planStep, planEnd, List.getElem?_cons_zero, List.getElem?_cons_succ, drawStep_eq, kindOf, quietAt, quietC, evR, evC, memN, beq_dec, Nat.reduceEqDiff, decide_true, decide_false, setDS_some, loudDS_some, loudDS_none, allocDS_some, Nat.reduceLT, Tr.get_set, if_true, if_false, Option.map_some, Option.bind_some, List.length_cons, List.length_nil, sameAt, Nat.reduceAdd, Nat.reduceSub, ofVal, loadC, Heap.skip_get, Heap.get_put, loudStep, isCall, targetC, evs, evParts, mapO, List.cons_append, List.nil_append, List.append_nil, putAll, ne_eq, reduceCtorEq, not_false_eq_true, Int.reduceEq, eq_self, cbeq_int, cbeq_ptr, cbeq_str, cbeq_bool, cbeq_map, cbeq_slice, cbeq_nilSlice, Bool.and_self, Bool.and_true, Int.reduceNeg, List.append_eq, loudC, List.getElem?_toArray, a0, a1, fa80_0, fa42_1, fa42_2, g24, g9, hg, hg1, hidx, hget, hget1, c1, c2, d1, hlk, hcl, cbeq_nm]
      exact ⟨_, rfl, by simp only [Tr.get_set, Nat.reduceEqDiff, if_false, if_true], by simp only [Tr.get_set, if_true]⟩
    obtain ⟨k, e2, gb, b6, b7⟩ := gb
    refine ⟨k, H1, ?_, d5, x1⟩
    have key : ∃ e, go Tryz.prog X 41 (codeOf Tryz.f37) (envOf [.ptr bg 0, .int .i64 (i : Nat)] 0 .nil) H = some (.ret, e, H1) ∧ e.get 4 = some (.int .i64 k) ∧ e.get 5 = some (.bool (tied rs rs[i])) := by
      rw [go_code hcode, go_loop2, ga, andThen_normal, go_cond _ _ _ (v := false) (by simp only [evC, a16]; simp [h4]), if_neg (by simp), go_skip, andThen_normal, go_seq, gb, andThen_normal]
      simp only [codeOf, Tryz.f37, sub, go_seq, go_region, opsSeq_step, opsSeq_guard, guardStep_true, guardStep_false, guardVal, opsSeq_nil, afterStep_some, afterStep_none, stepC, kindOf, quietC, evC, Nat.reduceLT, Tr.get_set, if_true, if_false, Nat.reduceEqDiff, Option.map_some, Option.bind_some, List.getElem?_toArray, List.getElem?_cons_zero, List.getElem?_cons_succ, ofVal, decide_true, decide_false, BEq.rfl, andThen_normal, andThen_exit, andThen_ret, inBlock_normal, inBlock_ret, go_skip, go_exit, go_ret, loudStep, isCall, loudC, targetC, evs, evParts, mapO, List.nil_append, List.append_nil, List.cons_append, loadC, Heap.skip_get, Heap.get_put, Heap.skip_next, Heap.put_next, b6, b7]
      exact ⟨_, rfl, by simp only [Tr.get_set, Nat.reduceEqDiff, if_false, if_true], by simp only [Tr.get_set, if_true]⟩
    obtain ⟨e, key, e4, e5⟩ := key
    exact calls_ret (by rw [hX37]) Tryz.func37 rfl (by decide) (nt := 41) rfl key (results_two e4 e5)
end Go.Y

namespace Go.Y
open Go.K Go.Proofs
set_option linter.unusedSimpArgs false
set_option linter.unusedVariables false
set_option maxRecDepth 10000

variable {X : CallFn}

theorem own_app {H : Heap} {f e ts c n : Nat} {v : CV} {vs : List CV} {y z : CV} {i : TypeInfo} (h : Own H f 1 e v vs) (hk : HOk H) (hn : n ≤ H.next) (hf : v ≠ .nilSlice → n ≤ f) (hts : Tryz.prog.underlying ts = some (.slice e)) (hi : Tryz.prog.info? e = some i) (hs : i.size = 1) (hb : i.bytes ≤ 24) (hz : zeroC Tryz.prog e = some [z])
    (hc : c < H.next) (hg : H.get c = some (.cells [y] e none)) (hy : y.cells = [y]) (hy1 : y.single = true) (hl : vs.length < 1000) :
    ∃ v' H' f', appendC Tryz.prog ts ts H v (.slice c 0 1 (.exact 1)) = some (v', H') ∧ Own H' f' 1 e v' (vs ++ [y]) ∧ HOk H' ∧ H'.next = H.next + 1 ∧ Ext n H H' ∧ n ≤ f' ∧ (v = .nilSlice → f' = H.next) ∧ (v ≠ .nilSlice → f' = f) ∧
      (∀ b o, b < H.next → H.get b = some o → (v ≠ .nilSlice → ∀ g p, o.fam = some (g, p) → g ≠ f) → H'.get b = some o) := by
  have he : elemsC H 1 (.slice c 0 1 (.exact 1)) = some ([y].length, [y].flatMap CV.cells) := by simp [elemsC, hg, takeE, hy]
  have hroom : 2 * (vs.length + [y].length) * i.bytes ≤ 140737488355328 := by
    refine Nat.le_trans (Nat.mul_le_mul_left _ hb) ?_
    simp only [List.length_singleton]; omega
  obtain ⟨v', H', f', hap, hf1, hf2, hown, hok, hnext, hkeep⟩ := Own.append (P := Tryz.prog) (t0 := ts) (t1 := ts) (d := .slice e) h hk he (fun u hu => by rw [List.mem_singleton.1 hu, hy]; rfl) (by simp) hts hts (fun _ => by simp) hi hs (by omega) hz rfl (by simp [hy, hy1]) hroom (by simp only [List.length_singleton]; omega)
  refine ⟨v', H', f', hap, hown, hok, hnext, keep_ext hk (by omega) hn hf hkeep, ?_, hf1, hf2, hkeep⟩
  by_cases hv : v = .nilSlice
  · rw [hf1 hv]; exact hn
  · rw [hf2 hv]; exact hf hv

/-- The relations that lie on a way around, by their numbers. -/
noncomputable def tiedTo (rs : Rels) (k : Nat) : List Nat := (List.range k).filter fun i => match rs[i]? with | some r => tied rs r | none => false
theorem tiedTo_succ {rs : Rels} {k : Nat} (h : k < rs.length) : tiedTo rs (k + 1) = if tied rs rs[k] = true then tiedTo rs k ++ [k] else tiedTo rs k := by
  unfold tiedTo
  rw [List.range_succ, List.filter_append]
  simp only [List.filter_cons, List.filter_nil, List.getElem?_eq_getElem h]
  split <;> simp
theorem tiedTo_length (rs : Rels) (k : Nat) : (tiedTo rs k).length ≤ k := by
  have := List.length_filter_le (fun i => match rs[i]? with | some r => tied rs r | none => false) (List.range k)
  rwa [List.length_range] at this

theorem involved_ok (hX19 : X 19 = fun _ _ => none) (hX37 : X 37 = fun _ _ => none) (hX21 : X 21 = fun _ _ => none) {l : CV} {rs : Rels} {H : Heap} {bg bm : Nat} (hr : rs.length ≤ 30) (hR : ∀ r ∈ rs, Right r) (hl : Has H 3 41 l (rs.map relCV)) (hg : H.get bg = some (.cells [l, .map bm] 80 none)) (hbg : bg < H.next) (hk : HOk H) :
    ∃ v f H', calls Tryz.prog X 19 [.ptr bg 0] H = some (v, H') ∧ Own H' f 1 3 v ((tiedTo rs rs.length).map nI) ∧ HOk H' ∧ Ext H.next H H' := by
  have h0 : (envOf [.ptr bg 0] 0 .nil).get 0 = some (.ptr bg 0) := by simp [envOf, Tr.get_set]
  have hlen := hl.len (P := Tryz.prog) u24
  rw [List.length_map] at hlen
  have ga : ∃ e, go Tryz.prog X 28 (.seq (sub (codeOf Tryz.f19) [false]) (.seq (sub (codeOf Tryz.f19) [true,false]) (sub (codeOf Tryz.f19) [true,true,false,false]))) (envOf [.ptr bg 0] 0 .nil) H = some (.normal, e, H) ∧ e.get 0 = some (.ptr bg 0) ∧ e.get 3 = some .nilSlice ∧ e.get 11 = some (.int .i64 (rs.length : Nat)) ∧ e.get 12 = some (.int .i64 (0 : Nat)) := by
    simp only [codeOf, Tryz.f19, sub, go_seq, go_region, opsSeq_step, opsSeq_guard, guardStep_true, guardStep_false, guardVal, opsSeq_nil, afterStep_some, afterStep_none, stepC, kindOf, quietC, evC, Nat.reduceLT, Tr.get_set, if_true, if_false, Nat.reduceEqDiff, Option.map_some, Option.bind_some, List.getElem?_toArray, List.getElem?_cons_zero, List.getElem?_cons_succ, ofVal, decide_true, decide_false, BEq.rfl, andThen_normal, andThen_exit, andThen_ret, inBlock_normal, inBlock_ret, go_skip, go_exit, go_ret, loudStep, isCall, loudC, targetC, evs, evParts, mapO, List.nil_append, List.append_nil, List.cons_append, loadC, Heap.skip_get, Heap.get_put, Heap.skip_next, Heap.put_next, h0, fa80_0, g24, hg, hlen]
    refine ⟨_, rfl, by simp only [Tr.get_set, Nat.reduceEqDiff, if_false, h0], by simp only [Tr.get_set, Nat.reduceEqDiff, if_false, if_true], by simp only [Tr.get_set, Nat.reduceEqDiff, if_false, if_true], by simp only [Tr.get_set, if_true]; rfl⟩
  obtain ⟨e1, ga, a0, a3, a11, a12⟩ := ga
  have hL := range_loop (P := Tryz.prog) (X := X) (nt := 28) (code := sub (codeOf Tryz.f19) [true,true,false,true,false]) (hd := sub (codeOf Tryz.f19) [true,true,false,true,false,false,false]) (body := sub (codeOf Tryz.f19) [true,true,false,true,false,false,true,true,false,false]) (inc := sub (codeOf Tryz.f19) [true,true,false,true,false,false,true,true,true]) (ti := 12) (tn := 11) (tc := 13) (tx := 26) (e := 0) (b := 1) rfl (by omega)
    (fun env H i n h1 h2 => by simp only [codeOf, Tryz.f19, sub, go_seq, go_region, opsSeq_step, opsSeq_guard, guardStep_true, guardStep_false, guardVal, opsSeq_nil, afterStep_some, afterStep_none, stepC, kindOf, quietC, evC, Nat.reduceLT, Tr.get_set, if_true, if_false, Nat.reduceEqDiff, Option.map_some, Option.bind_some, List.getElem?_toArray, List.getElem?_cons_zero, List.getElem?_cons_succ, ofVal, decide_true, decide_false, BEq.rfl, andThen_normal, andThen_exit, andThen_ret, inBlock_normal, inBlock_ret, go_skip, go_exit, go_ret, loudStep, isCall, loudC, targetC, evs, evParts, mapO, List.nil_append, List.append_nil, List.cons_append, loadC, Heap.skip_get, Heap.get_put, Heap.skip_next, Heap.put_next, h1, h2, bin_lss]) (fun env H i h1 hw => by simp only [codeOf, Tryz.f19, sub, go_seq, go_region, opsSeq_step, opsSeq_guard, guardStep_true, guardStep_false, guardVal, opsSeq_nil, afterStep_some, afterStep_none, stepC, kindOf, quietC, evC, Nat.reduceLT, Tr.get_set, if_true, if_false, Nat.reduceEqDiff, Option.map_some, Option.bind_some, List.getElem?_toArray, List.getElem?_cons_zero, List.getElem?_cons_succ, ofVal, decide_true, decide_false, BEq.rfl, andThen_normal, andThen_exit, andThen_ret, inBlock_normal, inBlock_ret, go_skip, go_exit, go_ret, loudStep, isCall, loudC, targetC, evs, evParts, mapO, List.nil_append, List.append_nil, List.cons_append, loadC, Heap.skip_get, Heap.get_put, Heap.skip_next, Heap.put_next, h1, bin_add, hw]) (by omega) (n := rs.length) (by omega)
    (fun k e G => e.get 0 = some (.ptr bg 0) ∧ ∃ v f, e.get 3 = some v ∧ Own G f 1 3 v ((tiedTo rs k).map nI) ∧ (v ≠ .nilSlice → H.next ≤ f) ∧ HOk G ∧ Ext H.next H G) (fun _ _ => False)
    (fun k e G t w ht ⟨q0, v, f, q3, r⟩ => ⟨by rcases ht with rfl | rfl | rfl <;> simp only [Tr.get_set, Nat.reduceEqDiff, if_false, q0], v, f, by rcases ht with rfl | rfl | rfl <;> simp only [Tr.get_set, Nat.reduceEqDiff, if_false, q3], r⟩)
    (fun k e G hk' ⟨q0, v, f, q3, ho, hf, kG, xG⟩ h1 h2 => by
      left
      obtain ⟨d, G2, c1, k2, x2⟩ := back_ok (X := X) hX37 hX21 (i := k) hr hR hk' (hl.ext xG hl.lt) (xG.2 _ _ hbg hg) (Nat.lt_of_lt_of_le hbg xG.1) kG
      have gb : ∃ e2, go Tryz.prog X 28 (.seq (sub (codeOf Tryz.f19) [true,true,false,true,false,false,true,true,false,false,false]) (.seq (sub (codeOf Tryz.f19) [true,true,false,true,false,false,true,true,false,false,true,false]) (sub (codeOf Tryz.f19) [true,true,false,true,false,false,true,true,false,false,true,true,false]))) e G = some (.normal, e2, G2) ∧ e2.get 21 = some (.bool (tied rs rs[k])) ∧ e2.get 4 = some (nI k) ∧ ∀ t, t < 14 → t ≠ 4 → t ≠ 5 → t ≠ 6 → e2.get t = e.get t := by
        simp only [codeOf, Tryz.f19, sub, go_seq, go_region, opsSeq_step, opsSeq_guard, guardStep_true, guardStep_false, guardVal, opsSeq_nil, afterStep_some, afterStep_none, stepC, kindOf, quietC, evC, Nat.reduceLT, Tr.get_set, if_true, if_false, Nat.reduceEqDiff, Option.map_some, Option.bind_some, List.getElem?_toArray, List.getElem?_cons_zero, List.getElem?_cons_succ, ofVal, decide_true, decide_false, BEq.rfl, andThen_normal, andThen_exit, andThen_ret, inBlock_normal, inBlock_ret, go_skip, go_exit, go_ret, loudStep, isCall, loudC, targetC, evs, evParts, mapO, List.nil_append, List.append_nil, List.cons_append, loadC, Heap.skip_get, Heap.get_put, Heap.skip_next, Heap.put_next, q0, h1, c1]
        refine ⟨_, rfl, by simp only [Tr.get_set, if_true], by simp only [Tr.get_set, Nat.reduceEqDiff, if_false, if_true], fun t ht n4 n5 n6 => ?_⟩
        simp only [Tr.get_set, n4, n5, n6, show t ≠ 14 by omega, show t ≠ 15 by omega, show t ≠ 16 by omega, show t ≠ 17 by omega, show t ≠ 18 by omega, show t ≠ 19 by omega, show t ≠ 20 by omega, show t ≠ 21 by omega, if_false]
      obtain ⟨e2, gb, b21, b4, bq⟩ := gb
      have hcode : sub (codeOf Tryz.f19) [true,true,false,true,false,false,true,true,false,false] = .seq (sub (codeOf Tryz.f19) [true,true,false,true,false,false,true,true,false,false,false]) (.seq (sub (codeOf Tryz.f19) [true,true,false,true,false,false,true,true,false,false,true,false]) (.seq (sub (codeOf Tryz.f19) [true,true,false,true,false,false,true,true,false,false,true,true,false]) (.cond (.tmp 21) (sub (codeOf Tryz.f19) [true,true,false,true,false,false,true,true,false,false,true,true,true,false]) .skip))) := rfl
      cases ht : tied rs rs[k] with
      | false =>
        rw [ht] at b21
        refine ⟨.normal, e2, G2, ?_, .inl rfl, ⟨(bq 0 (by omega) (by omega) (by omega) (by omega)).trans q0, v, f, (bq 3 (by omega) (by omega) (by omega) (by omega)).trans q3, ?_, hf, k2, xG.trans (x2.le xG.1)⟩, (bq 12 (by omega) (by omega) (by omega) (by omega)).trans h1, (bq 11 (by omega) (by omega) (by omega) (by omega)).trans h2⟩
        · rw [go_code hcode, go_seq3, gb, andThen_normal, go_cond _ _ _ (v := false) (by simp only [evC, b21]), if_neg (by simp), go_skip]
        · rw [tiedTo_succ hk', ht, if_neg (by simp)]; exact ho.ext x2 ho.lt
      | true =>
        rw [ht] at b21
        generalize hG3 : (G2.skip 1).put G2.next (.cells [nI k] 3 none) = G3
        have x3 : Ext G2.next G2 G3 := by rw [← hG3]; exact Ext.skip.trans (Ext.put (Nat.le_refl _))
        have k3 : HOk G3 := by rw [← hG3]; exact Hok.put rfl (Hok.skip 1 k2)
        have n3 : G3.next = G2.next + 1 := by rw [← hG3]; rfl
        obtain ⟨it, i1, i2, i3⟩ := i3
        have ho3 := (ho.ext x2 ho.lt).ext x3 (ho.ext x2 ho.lt).lt
        have hll := tiedTo_length rs k
        have hnx : H.next ≤ G3.next := by have := xG.1; have := x2.1; omega
        obtain ⟨v', G4, f', hap, ho4, k4, n4, x4, hf4, _⟩ := own_app (ts := 34) (c := G2.next) (y := nI k) (n := H.next) ho3 k3 hnx hf u26 i1 i2 (by omega) z3 (by omega) (by rw [← hG3, Heap.get_put, if_pos rfl]) rfl rfl (by rw [List.length_map]; omega)
        have gc : ∃ e3, go Tryz.prog X 28 (sub (codeOf Tryz.f19) [true,true,false,true,false,false,true,true,false,false,true,true,true,false]) e2 G2 = some (.normal, e3, G4) ∧ e3.get 3 = some v' ∧ ∀ t, t < 14 → t ≠ 3 → e3.get t = e2.get t := by
          simp only [codeOf, Tryz.f19, sub, go_seq, go_region, opsSeq_step, opsSeq_guard, guardStep_true, guardStep_false, guardVal, opsSeq_nil, afterStep_some, afterStep_none, stepC, kindOf, quietC, evC, Nat.reduceLT, Tr.get_set, if_true, if_false, Nat.reduceEqDiff, Option.map_some, Option.bind_some, List.getElem?_toArray, List.getElem?_cons_zero, List.getElem?_cons_succ, ofVal, decide_true, decide_false, BEq.rfl, andThen_normal, andThen_exit, andThen_ret, inBlock_normal, inBlock_ret, go_skip, go_exit, go_ret, loudStep, isCall, loudC, targetC, evs, evParts, mapO, List.nil_append, List.append_nil, List.cons_append, loadC, Heap.skip_get, Heap.get_put, Heap.skip_next, Heap.put_next, (bq 3 (by omega) (by omega) (by omega) (by omega)).trans q3, b4, bs26', CV.cells, List.length_cons, List.length_nil, Nat.reduceAdd, hG3, hap]
          refine ⟨_, rfl, by simp only [Tr.get_set, if_true], fun t ht n3 => ?_⟩
          simp only [Tr.get_set, n3, show t ≠ 22 by omega, show t ≠ 23 by omega, show t ≠ 24 by omega, show t ≠ 25 by omega, if_false]
        obtain ⟨e3, gc, c3, cq⟩ := gc
        have hq : ∀ t, t < 14 → t ≠ 3 → t ≠ 4 → t ≠ 5 → t ≠ 6 → e3.get t = e.get t := fun t ht n3 n4 n5 n6 => (cq t ht n3).trans (bq t ht n4 n5 n6)
        refine ⟨.normal, e3, G4, ?_, .inl rfl, ⟨(hq 0 (by omega) (by omega) (by omega) (by omega) (by omega)).trans q0, v', f', c3, ?_, fun _ => hf4, k4, (xG.trans (x2.le xG.1)).trans ((x3.le (by have := xG.1; have := x2.1; omega)).trans x4)⟩, (hq 12 (by omega) (by omega) (by omega) (by omega) (by omega)).trans h1, (hq 11 (by omega) (by omega) (by omega) (by omega) (by omega)).trans h2⟩
        · rw [go_code hcode, go_seq3, gb, andThen_normal, go_cond _ _ _ (v := true) (by simp only [evC, b21]), if_pos rfl, gc]
        · rw [tiedTo_succ hk', ht, if_pos rfl, List.map_append]; exact ho4)
  rcases hL rs.length 0 e1 H (by omega) ⟨a0, .nilSlice, 0, a3, ⟨by simp [tiedTo], .inl ⟨rfl, rfl⟩⟩, fun h => absurd rfl h, hk, Ext.refl _ _⟩ a12 a11 with ⟨e2, H2, g, _, v, f, c3, ho, _, k2, x2⟩ | ⟨_, _, _, ff⟩
  · refine ⟨v, f, H2, ?_, ho, k2, x2⟩
    have hcode : codeOf Tryz.f19 = .seq (sub (codeOf Tryz.f19) [false]) (.seq (sub (codeOf Tryz.f19) [true,false]) (.seq (.seq (sub (codeOf Tryz.f19) [true,true,false,false]) (.block 0 (sub (codeOf Tryz.f19) [true,true,false,true,false]))) (.seq (sub (codeOf Tryz.f19) [true,true,true,false]) .ret))) := rfl
    have key : ∃ e, go Tryz.prog X 28 (codeOf Tryz.f19) (envOf [.ptr bg 0] 0 .nil) H = some (.ret, e, H2) ∧ e.get 2 = some v := by
      rw [go_code hcode, go_loop3, ga, andThen_normal, go_block, g, inBlock_exit, if_pos rfl, andThen_normal]
      simp only [codeOf, Tryz.f19, sub, go_seq, go_region, opsSeq_step, opsSeq_guard, guardStep_true, guardStep_false, guardVal, opsSeq_nil, afterStep_some, afterStep_none, stepC, kindOf, quietC, evC, Nat.reduceLT, Tr.get_set, if_true, if_false, Nat.reduceEqDiff, Option.map_some, Option.bind_some, List.getElem?_toArray, List.getElem?_cons_zero, List.getElem?_cons_succ, ofVal, decide_true, decide_false, BEq.rfl, andThen_normal, andThen_exit, andThen_ret, inBlock_normal, inBlock_ret, go_skip, go_exit, go_ret, loudStep, isCall, loudC, targetC, evs, evParts, mapO, List.nil_append, List.append_nil, List.cons_append, loadC, Heap.skip_get, Heap.get_put, Heap.skip_next, Heap.put_next, c3]
      exact ⟨_, rfl, by simp only [Tr.get_set, if_true]⟩
    obtain ⟨e, key, e2'⟩ := key
    exact calls_ret (by rw [hX19]) Tryz.func19 rfl (by decide) (nt := 28) rfl key (results_one e2')
  · exact ff.elim

/-- Involved. -/
theorem involves_ok (hX : YX X) (hX10 : ∀ a H, X 10 a H = none) (hX18 : X 18 = fun _ _ => none) (hX19 : X 19 = fun _ _ => none) (hX37 : X 37 = fun _ _ => none) (hX21 : X 21 = fun _ _ => none) {l : CV} {rs : Rels} {H : Heap} (hr : rs.length ≤ 30) (hR : ∀ r ∈ rs, Right r) (hl : Has H 3 41 l (rs.map relCV)) (hk : HOk H) :
    ∃ v f H', calls Tryz.prog X 10 [l] H = some (.tuple [v, .int .i64 0], H') ∧ Own H' f 1 3 v ((tiedTo rs rs.length).map nI) ∧ HOk H' ∧ Ext H.next H H' := by
  have h0 : (envOf [l] 0 .nil).get 0 = some l := by simp [envOf, Tr.get_set]
  obtain ⟨H1, c1, k1, x1⟩ := check_ok hX.x15 hX.x18 hX.x33 hX.sort hX.check hr hR hl hk
  obtain ⟨bg, bm, H2, c2, g2, l2, _, k2, x2⟩ := open_ok (X := X) hX18 hr hR (hl.ext x1 hl.lt) k1
  have hl1 := hl.ext x1 hl.lt
  obtain ⟨v, f, H3, c3, o3, k3, x3⟩ := involved_ok (X := X) hX19 hX37 hX21 hr hR (hl1.ext x2 hl1.lt) g2 l2 k2
  refine ⟨v, f, H3, ?_, o3, k3, x1.trans ((x2.le x1.1).trans (x3.le (Nat.le_trans x1.1 x2.1)))⟩
  have key : ∃ e, go Tryz.prog X 13 (codeOf Tryz.f10) (envOf [l] 0 .nil) H = some (.ret, e, H3) ∧ e.get 2 = some v ∧ e.get 3 = some (.int .i64 0) := by
    simp only [codeOf, Tryz.f10, go_seq, go_region, opsSeq_step, opsSeq_guard, guardStep_true, guardStep_false, guardVal, opsSeq_nil, afterStep_some, afterStep_none, stepC, kindOf, quietC, evC, Nat.reduceLT, Tr.get_set, if_true, if_false, Nat.reduceEqDiff, Option.map_some, Option.bind_some, List.getElem?_toArray, List.getElem?_cons_zero, List.getElem?_cons_succ, ofVal, decide_true, decide_false, BEq.rfl, andThen_normal, andThen_exit, andThen_ret, inBlock_normal, inBlock_ret, go_skip, go_exit, go_ret, loudStep, isCall, loudC, targetC, evs, evParts, mapO, List.nil_append, List.append_nil, List.cons_append, loadC, Heap.skip_get, Heap.get_put, Heap.skip_next, Heap.put_next, h0, c1, bin_neq, ne_eq, not_true_eq_false]
    rw [go_cond _ _ _ (v := false) (by simp only [evC, Tr.get_set, if_true])]
    simp only [go_seq, go_region, opsSeq_step, opsSeq_guard, guardStep_true, guardStep_false, guardVal, opsSeq_nil, afterStep_some, afterStep_none, stepC, kindOf, quietC, evC, Nat.reduceLT, Tr.get_set, if_true, if_false, Nat.reduceEqDiff, Option.map_some, Option.bind_some, List.getElem?_toArray, List.getElem?_cons_zero, List.getElem?_cons_succ, ofVal, decide_true, decide_false, BEq.rfl, andThen_normal, andThen_exit, andThen_ret, inBlock_normal, inBlock_ret, go_skip, go_exit, go_ret, loudStep, isCall, loudC, targetC, evs, evParts, mapO, List.nil_append, List.append_nil, List.cons_append, loadC, Heap.skip_get, Heap.get_put, Heap.skip_next, Heap.put_next, Bool.false_eq_true, h0, c2, c3]
    exact ⟨_, rfl, by simp only [Tr.get_set, Nat.reduceEqDiff, if_false, if_true], by simp only [Tr.get_set, if_true]⟩
  obtain ⟨e, key, e2, e3⟩ := key
  exact calls_ret (hX10 _ _) Tryz.func10 rfl (by decide) (nt := 13) rfl key (results_two e2 e3)
end Go.Y
