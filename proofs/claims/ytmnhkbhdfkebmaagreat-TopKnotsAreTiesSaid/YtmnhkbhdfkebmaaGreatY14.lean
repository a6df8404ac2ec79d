/- The law: a relation is involved exactly if its upper unit is older than its lower one. Make: relations out of descriptions. The law: it answers true. -/
import Derived.Test.YtmnhkbhdfkebmaaGreatY13

set_option linter.unusedSimpArgs false
set_option linter.unusedVariables false

namespace Go.Y
open Go.K Go.Proofs
set_option linter.unusedSimpArgs false
set_option linter.unusedVariables false
set_option maxRecDepth 10000

variable {X : CallFn}

theorem tiedTo_prefix {rs : Rels} {k : Nat} : ∀ {d : Nat}, k + d ≤ rs.length → ∃ r, tiedTo rs (k + d) = tiedTo rs k ++ r
  | 0, _ => ⟨[], by simp⟩
  | d + 1, h => by
    obtain ⟨r, hr⟩ := tiedTo_prefix (rs := rs) (k := k) (d := d) (by omega)
    rw [show k + (d + 1) = k + d + 1 by omega, tiedTo_succ (show k + d < rs.length by omega), hr]
    split
    · exact ⟨r ++ [k + d], by rw [List.append_assoc]⟩
    · exact ⟨r, rfl⟩
theorem tiedTo_at {rs : Rels} {k : Nat} (h : k < rs.length) (ht : tied rs rs[k] = true) : ∃ hn : (tiedTo rs k).length < (tiedTo rs rs.length).length, (tiedTo rs rs.length)[(tiedTo rs k).length] = k := by
  obtain ⟨r, hr⟩ := tiedTo_prefix (rs := rs) (k := k + 1) (d := rs.length - (k + 1)) (by omega)
  rw [show k + 1 + (rs.length - (k + 1)) = rs.length by omega, tiedTo_succ h, if_pos ht] at hr
  have hl : (tiedTo rs k).length < (tiedTo rs rs.length).length := by rw [hr]; simp
  refine ⟨hl, ?_⟩
  have : (tiedTo rs rs.length)[(tiedTo rs k).length]? = some k := by
    rw [hr, List.append_assoc, List.getElem?_append_right (Nat.le_refl _), Nat.sub_self]; rfl
  rw [List.getElem?_eq_getElem hl] at this
  exact Option.some.inj this

theorem lw_r35 {env : Env} {H : Heap} {l : CV} {rs : Rels} {i : Nat} (h10 : env.get 132 = some l) (h12 : env.get 134 = some (.int .i64 i)) (hl : Has H 3 41 l (rs.map relCV)) (hi : i < rs.length) (hk : HOk H) :
    ∃ env' H', go Tryz.prog X 169 (sub (codeOf Tryz.f3) [true,true,true,true,true,true,true,true,true,true,false,true,false,false,true,true,false,false,false]) env H = some (.normal, env', H') ∧ H'.get H.next = some (.cells [.int .i64 rs[i].1, nm rs[i].2.1, nm rs[i].2.2] 41 none) ∧ H'.next = H.next + 1 ∧ HOk H' ∧ Ext H.next H H' ∧
      env'.get 24 = some (.ptr H.next 0) ∧ env'.get 23 = some (.int .i64 i) ∧ ∀ t, t < 136 → t ≠ 23 → t ≠ 24 → env'.get t = env.get t := by
  obtain ⟨b, off, cs, fam, hb, _, hidx, hget, hcells, hcell⟩ := hl.at (P := Tryz.prog) (t := 25) u24 s42 (i := i) (by simpa using hi)
  rw [List.getElem_map] at hcells
  have hcl : takeE 3 (cs.drop off) = some [.int .i64 rs[i].1, nm rs[i].2.1, nm rs[i].2.2] := hcells
  generalize hH2 : ((H.skip 1).put H.next (.cells [.int .i64 0, .str .empty, .str .empty] 41 none)).put H.next (.cells [.int .i64 rs[i].1, nm rs[i].2.1, nm rs[i].2.2] 41 none) = H2
  have hE2 : Ext H.next H H2 := by rw [← hH2]; exact (Ext.skip.trans (Ext.put (Nat.le_refl _))).trans (Ext.put (Nat.le_refl _))
  have hk2 : HOk H2 := by rw [← hH2]; exact Hok.put rfl (Hok.put rfl (Hok.skip 1 hk))
  have hn2 : H2.next = H.next + 1 := by rw [← hH2]; rfl
  have hg2 : H2.get H.next = some (.cells [.int .i64 rs[i].1, nm rs[i].2.1, nm rs[i].2.2] 41 none) := by rw [← hH2, Heap.get_put, if_pos rfl]
  suffices h : ∃ env', go Tryz.prog X 169 (sub (codeOf Tryz.f3) [true,true,true,true,true,true,true,true,true,true,false,true,false,false,true,true,false,false,false]) env H = some (.normal, env', H2) ∧ env'.get 24 = some (.ptr H.next 0) ∧ env'.get 23 = some (.int .i64 i) ∧ ∀ t, t < 136 → t ≠ 23 → t ≠ 24 → env'.get t = env.get t by
    obtain ⟨env', q1, q⟩ := h
    exact ⟨env', H2, q1, hg2, hn2, hk2, hE2, q⟩
  simp only [codeOf, Tryz.f3, sub, go_seq, go_region, opsSeq_step, opsSeq_guard, guardStep_true, guardStep_false, guardVal, opsSeq_nil, afterStep_some, afterStep_none, stepC, kindOf, quietC, evC, Nat.reduceLT, Tr.get_set, if_true, if_false, Nat.reduceEqDiff, Option.map_some, Option.bind_some, List.getElem?_toArray, List.getElem?_cons_zero, List.getElem?_cons_succ, ofVal, decide_true, decide_false, BEq.rfl, andThen_normal, andThen_exit, andThen_ret, inBlock_normal, inBlock_ret, go_skip, go_exit, go_ret, loudStep, isCall, loudC, targetC, evs, evParts, mapO, List.nil_append, List.append_nil, List.cons_append, loadC, Heap.skip_get, Heap.get_put, Heap.skip_next, Heap.put_next, h10, h12, hidx, hget, hcl, s42, g42, al42, store42, List.length_cons, List.length_nil, Nat.reduceAdd, hH2]
  refine ⟨_, rfl, by simp only [Tr.get_set, Nat.reduceEqDiff, if_true, if_false], by simp only [Tr.get_set, Nat.reduceEqDiff, if_true, if_false], fun t ht h5 h6 => ?_⟩
  simp only [Tr.get_set, h5, h6, show t ≠ 136 by omega, show t ≠ 137 by omega, show t ≠ 138 by omega, if_false]

theorem lw_r36 (hX : LX X) {B H : Heap} {l uv vo iv : CV} {rs : Rels} {ba fo c i : Nat} {kvs : List CV} {all : List Nat} {env : Env} (hr : rs.length ≤ 30) (hR : ∀ r ∈ rs, Right r) (hi : i < rs.length) (hB : LB B H l rs ba uv vo iv fo kvs all) (hk : HOk H)
    (hc : H.get c = some (.cells [.int .i64 rs[i].1, nm rs[i].2.1, nm rs[i].2.2] 41 none)) (h10 : env.get 10 = some (.func (.func 11) [] [.ptr ba 0])) (h24 : env.get 24 = some (.ptr c 0)) :
    ∃ env' H', go Tryz.prog X 169 (sub (codeOf Tryz.f3) [true,true,true,true,true,true,true,true,true,true,false,true,false,false,true,true,false,false,true,false]) env H = some (.normal, env', H') ∧ env'.get 149 = some (.bool (tied rs rs[i])) ∧ HOk H' ∧ Ext H.next H H' ∧ ∀ t, t < 139 → env'.get t = env.get t := by
  have hmem := List.getElem_mem hi
  have hto := tied_older hR hmem
  obtain ⟨hu, hl⟩ := rel_units hR hmem
  by_cases h4 : rs[i].1 = 4
  · have ht : tied rs rs[i] = false := by
      cases e : tied rs rs[i] with
      | false => rfl
      | true => exact absurd h4 (tied_iff.1 e).1
    have key : ∃ e, go Tryz.prog X 169 (sub (codeOf Tryz.f3) [true,true,true,true,true,true,true,true,true,true,false,true,false,false,true,true,false,false,true,false]) env H = some (.normal, e, H) ∧ e.get 149 = some (.bool (tied rs rs[i])) ∧ ∀ t, t < 139 → e.get t = env.get t := by
      rw [ht]
      have hd : decide ((rs[i].1 : Int) ≠ 4) = false := by simp [h4]
      simp only [codeOf, Tryz.f3, sub, go_seq, go_region, opsSeq_step, opsSeq_guard, guardStep_true, guardStep_false, guardVal, opsSeq_nil, afterStep_some, afterStep_none, stepC, kindOf, quietC, evC, Nat.reduceLT, Tr.get_set, if_true, if_false, Nat.reduceEqDiff, Option.map_some, Option.bind_some, List.getElem?_toArray, List.getElem?_cons_zero, List.getElem?_cons_succ, ofVal, decide_true, decide_false, BEq.rfl, andThen_normal, andThen_exit, andThen_ret, inBlock_normal, inBlock_ret, go_skip, go_exit, go_ret, loudStep, isCall, loudC, targetC, evs, evParts, mapO, List.nil_append, List.append_nil, List.cons_append, loadC, Heap.skip_get, Heap.get_put, Heap.skip_next, Heap.put_next, h24, fa42_0, g3, hc, bin_neq, hd, bft, btf]
      refine ⟨_, rfl, by simp only [Tr.get_set, if_true], fun t ht => ?_⟩
      simp only [Tr.get_set, show t ≠ 139 by omega, show t ≠ 140 by omega, show t ≠ 141 by omega, show t ≠ 142 by omega, show t ≠ 143 by omega, show t ≠ 144 by omega, show t ≠ 145 by omega, show t ≠ 146 by omega, show t ≠ 147 by omega, show t ≠ 148 by omega, show t ≠ 149 by omega, if_false]
    obtain ⟨e, key, q1, q2⟩ := key
    exact ⟨e, H, key, q1, hk, Ext.refl _ _, q2⟩
  · obtain ⟨o1, H1, c1, ho1, k1, x1⟩ := tie_ok (X := X) hX.y hX.x23 hX.x12 hX.x11 (a := rs[i].2.1) (b := rs[i].2.2) (ba := ba) hr hR hB.hl hk hu hl hB.hba
    have ht : tied rs rs[i] = o1 := by
      rw [Bool.eq_iff_iff, tied_iff, hto, ho1]
      exact ⟨fun h => h.2, fun h => ⟨h4, h⟩⟩
    have key : ∃ e, go Tryz.prog X 169 (sub (codeOf Tryz.f3) [true,true,true,true,true,true,true,true,true,true,false,true,false,false,true,true,false,false,true,false]) env H = some (.normal, e, H1) ∧ e.get 149 = some (.bool (tied rs rs[i])) ∧ ∀ t, t < 139 → e.get t = env.get t := by
      rw [ht]
      have hd : decide ((rs[i].1 : Int) ≠ 4) = true := by
        have : ¬ ((rs[i].1 : Nat) : Int) = 4 := by omega
        simp [this]
      simp only [codeOf, Tryz.f3, sub, go_seq, go_region, opsSeq_step, opsSeq_guard, guardStep_true, guardStep_false, guardVal, opsSeq_nil, afterStep_some, afterStep_none, stepC, kindOf, quietC, evC, Nat.reduceLT, Tr.get_set, if_true, if_false, Nat.reduceEqDiff, Option.map_some, Option.bind_some, List.getElem?_toArray, List.getElem?_cons_zero, List.getElem?_cons_succ, ofVal, decide_true, decide_false, BEq.rfl, andThen_normal, andThen_exit, andThen_ret, inBlock_normal, inBlock_ret, go_skip, go_exit, go_ret, loudStep, isCall, loudC, targetC, evs, evParts, mapO, List.nil_append, List.append_nil, List.cons_append, loadC, Heap.skip_get, Heap.get_put, Heap.skip_next, Heap.put_next, h24, h10, fa42_0, fa42_1, fa42_2, g3, g9, hc, bin_neq, hd, bft, btf, c1]
      refine ⟨_, rfl, by simp only [Tr.get_set, if_true], fun t ht => ?_⟩
      simp only [Tr.get_set, show t ≠ 139 by omega, show t ≠ 140 by omega, show t ≠ 141 by omega, show t ≠ 142 by omega, show t ≠ 143 by omega, show t ≠ 144 by omega, show t ≠ 145 by omega, show t ≠ 146 by omega, show t ≠ 147 by omega, show t ≠ 148 by omega, show t ≠ 149 by omega, if_false]
    obtain ⟨e, key, q1, q2⟩ := key
    exact ⟨e, H1, key, q1, k1, x1, q2⟩

theorem lw_last (hX : LX X) {B Hb : Heap} {l uv vo iv : CV} {rs : Rels} {ba fo : Nat} {kvs : List CV} {all : List Nat} {env : Env} (hr : rs.length ≤ 30) (hR : ∀ r ∈ rs, Right r) (hB : LB B Hb l rs ba uv vo iv fo kvs all) (hk : HOk Hb)
    (h8 : env.get 8 = some iv) (h10 : env.get 10 = some (.func (.func 11) [] [.ptr ba 0])) (h22 : env.get 22 = some (.int .i64 (0 : Nat))) (h132 : env.get 132 = some l) (h133 : env.get 133 = some (.int .i64 (rs.length : Nat))) (h134 : env.get 134 = some (.int .i64 (0 : Nat))) :
    ∃ env' H', go Tryz.prog X 169 (sub (codeOf Tryz.f3) [true,true,true,true,true,true,true,true,true,true,false,true,false]) env Hb = some (.exit 8, env', H') ∧ env'.get 22 = some (.int .i64 ((tiedTo rs rs.length).length : Nat)) ∧ env'.get 8 = some iv ∧ Ext Hb.next Hb H' := by
  have hlni : ∀ H, lenC Tryz.prog 34 H iv = some (.int .i64 ((tiedTo rs rs.length).length : Nat)) := fun H => by
    have := hB.hi.len (P := Tryz.prog) u26 H
    rwa [List.length_map] at this
  have hL := range_loop (P := Tryz.prog) (X := X) (nt := 169) (code := sub (codeOf Tryz.f3) [true,true,true,true,true,true,true,true,true,true,false,true,false]) (hd := sub (codeOf Tryz.f3) [true,true,true,true,true,true,true,true,true,true,false,true,false,false,false]) (body := sub (codeOf Tryz.f3) [true,true,true,true,true,true,true,true,true,true,false,true,false,false,true,true,false,false]) (inc := sub (codeOf Tryz.f3) [true,true,true,true,true,true,true,true,true,true,false,true,false,false,true,true,true]) (ti := 134) (tn := 133) (tc := 135) (tx := 164) (e := 8) (b := 9) rfl (by omega)
    (fun env H i n h1 h2 => by simp only [codeOf, Tryz.f3, sub, go_seq, go_region, opsSeq_step, opsSeq_guard, guardStep_true, guardStep_false, guardVal, opsSeq_nil, afterStep_some, afterStep_none, stepC, kindOf, quietC, evC, Nat.reduceLT, Tr.get_set, if_true, if_false, Nat.reduceEqDiff, Option.map_some, Option.bind_some, List.getElem?_toArray, List.getElem?_cons_zero, List.getElem?_cons_succ, ofVal, decide_true, decide_false, BEq.rfl, andThen_normal, andThen_exit, andThen_ret, inBlock_normal, inBlock_ret, go_skip, go_exit, go_ret, loudStep, isCall, loudC, targetC, evs, evParts, mapO, List.nil_append, List.append_nil, List.cons_append, loadC, Heap.skip_get, Heap.get_put, Heap.skip_next, Heap.put_next, h1, h2, bin_lss]) (fun env H i h1 hw => by simp only [codeOf, Tryz.f3, sub, go_seq, go_region, opsSeq_step, opsSeq_guard, guardStep_true, guardStep_false, guardVal, opsSeq_nil, afterStep_some, afterStep_none, stepC, kindOf, quietC, evC, Nat.reduceLT, Tr.get_set, if_true, if_false, Nat.reduceEqDiff, Option.map_some, Option.bind_some, List.getElem?_toArray, List.getElem?_cons_zero, List.getElem?_cons_succ, ofVal, decide_true, decide_false, BEq.rfl, andThen_normal, andThen_exit, andThen_ret, inBlock_normal, inBlock_ret, go_skip, go_exit, go_ret, loudStep, isCall, loudC, targetC, evs, evParts, mapO, List.nil_append, List.append_nil, List.cons_append, loadC, Heap.skip_get, Heap.get_put, Heap.skip_next, Heap.put_next, h1, bin_add, hw]) (by omega) (n := rs.length) (by omega)
    (fun k e G => e.get 8 = some iv ∧ e.get 10 = some (.func (.func 11) [] [.ptr ba 0]) ∧ e.get 132 = some l ∧ e.get 22 = some (.int .i64 ((tiedTo rs k).length : Nat)) ∧ HOk G ∧ Ext Hb.next Hb G) (fun _ _ => False)
    (fun k e G s w hs ⟨q8, q10, q132, q22, r⟩ => ⟨by rcases hs with rfl | rfl | rfl <;> simp only [Tr.get_set, Nat.reduceEqDiff, if_false, q8], by rcases hs with rfl | rfl | rfl <;> simp only [Tr.get_set, Nat.reduceEqDiff, if_false, q10], by rcases hs with rfl | rfl | rfl <;> simp only [Tr.get_set, Nat.reduceEqDiff, if_false, q132], by rcases hs with rfl | rfl | rfl <;> simp only [Tr.get_set, Nat.reduceEqDiff, if_false, q22], r⟩)
    (fun k e G hk' ⟨q8, q10, q132, q22, kG, xG⟩ h1 h2 => by
      left
      have hBG := hB.ext xG kG
      obtain ⟨e2, G2, ga, p1, p2, p3, p4, a24, a23, aq⟩ := lw_r35 (X := X) q132 h1 hBG.hl hk' kG
      have hB2 := hBG.ext p4 p3
      obtain ⟨e3, G3, gb, b149, k3, x3, bq⟩ := lw_r36 (X := X) hX hr hR hk' hB2 p3 p1 ((aq 10 (by omega) (by omega) (by omega)).trans q10) a24
      have hB3 := hB2.ext x3 k3
      have hq3 : ∀ t, t < 136 → t ≠ 23 → t ≠ 24 → e3.get t = e.get t := fun t ht n1 n2 => (bq t (by omega)).trans (aq t ht n1 n2)
      have x13 : Ext Hb.next Hb G3 := xG.trans ((p4.trans (x3.le p4.1)).le xG.1)
      have hcode : sub (codeOf Tryz.f3) [true,true,true,true,true,true,true,true,true,true,false,true,false,false,true,true,false,false] = .seq (sub (codeOf Tryz.f3) [true,true,true,true,true,true,true,true,true,true,false,true,false,false,true,true,false,false,false]) (.seq (sub (codeOf Tryz.f3) [true,true,true,true,true,true,true,true,true,true,false,true,false,false,true,true,false,false,true,false]) (.cond (.tmp 149) (.seq (.seq (sub (codeOf Tryz.f3) [true,true,true,true,true,true,true,true,true,true,false,true,false,false,true,true,false,false,true,true,false,false,false]) (.cond (.tmp 161) (sub (codeOf Tryz.f3) [true,true,true,true,true,true,true,true,true,true,false,true,false,false,true,true,false,false,true,true,false,false,true,false]) .skip)) (sub (codeOf Tryz.f3) [true,true,true,true,true,true,true,true,true,true,false,true,false,false,true,true,false,false,true,true,false,true])) .skip)) := rfl
      cases ht : tied rs rs[k] with
      | false =>
        rw [ht] at b149
        refine ⟨.normal, e3, G3, ?_, .inl rfl, ⟨(hq3 8 (by omega) (by omega) (by omega)).trans q8, (hq3 10 (by omega) (by omega) (by omega)).trans q10, (hq3 132 (by omega) (by omega) (by omega)).trans q132, ?_, k3, x13⟩, (hq3 134 (by omega) (by omega) (by omega)).trans h1, (hq3 133 (by omega) (by omega) (by omega)).trans h2⟩
        · rw [go_code hcode, go_seq, ga, andThen_normal, go_seq, gb, andThen_normal, go_cond _ _ _ (v := false) (by simp only [evC, b149]), if_neg (by simp), go_skip]
        · rw [tiedTo_succ hk', ht, if_neg (by simp)]
          exact (hq3 22 (by omega) (by omega) (by omega)).trans q22
      | true =>
        rw [ht] at b149
        obtain ⟨hn, hat⟩ := tiedTo_at hk' ht
        obtain ⟨bb, off, cs, fam, lb, _, hidx, hget, _, hcell⟩ := hB3.hi.at (P := Tryz.prog) (t := 34) u26 s3 (i := (tiedTo rs k).length) (by simpa using hn)
        rw [List.getElem_map, hat] at hcell
        have c0 : cs[off]? = some (nI k) := hcell 0 _ rfl
        have hge : decide (((tiedTo rs rs.length).length : Int) ≤ ((tiedTo rs k).length : Int)) = false := by simp; omega
        have hkk : decide ((k : Int) ≠ (k : Int)) = false := by simp
        have b22 := (hq3 22 (by omega) (by omega) (by omega)).trans q22
        have b8 := (hq3 8 (by omega) (by omega) (by omega)).trans q8
        have b23 := (bq 23 (by omega)).trans a23
        have htl := tiedTo_length rs k
        have hw : wrap .i64 (((tiedTo rs k).length : Int) + 1) = (((tiedTo rs k).length + 1 : Nat) : Int) := wrap64 (by omega) (by omega)
        have gc : ∃ e4, go Tryz.prog X 169 (sub (codeOf Tryz.f3) [true,true,true,true,true,true,true,true,true,true,false,true,false,false,true,true,false,false,true,true,false,false,false]) e3 G3 = some (.normal, e4, G3) ∧ e4.get 161 = some (.bool false) ∧ ∀ t, t < 150 → e4.get t = e3.get t := by
          simp only [codeOf, Tryz.f3, sub, go_seq, go_region, opsSeq_step, opsSeq_guard, guardStep_true, guardStep_false, guardVal, opsSeq_nil, afterStep_some, afterStep_none, stepC, kindOf, quietC, evC, Nat.reduceLT, Tr.get_set, if_true, if_false, Nat.reduceEqDiff, Option.map_some, Option.bind_some, List.getElem?_toArray, List.getElem?_cons_zero, List.getElem?_cons_succ, ofVal, decide_true, decide_false, BEq.rfl, andThen_normal, andThen_exit, andThen_ret, inBlock_normal, inBlock_ret, go_skip, go_exit, go_ret, loudStep, isCall, loudC, targetC, evs, evParts, mapO, List.nil_append, List.append_nil, List.cons_append, loadC, Heap.skip_get, Heap.get_put, Heap.skip_next, Heap.put_next, b22, b8, b23, hlni, bin_geq, hge, bft, btf, hidx, g3, hget, c0, nI, bin_neq, hkk]
          refine ⟨_, rfl, by simp only [Tr.get_set, if_true], fun t ht => ?_⟩
          simp only [Tr.get_set, show t ≠ 150 by omega, show t ≠ 151 by omega, show t ≠ 152 by omega, show t ≠ 153 by omega, show t ≠ 154 by omega, show t ≠ 155 by omega, show t ≠ 156 by omega, show t ≠ 157 by omega, show t ≠ 158 by omega, show t ≠ 159 by omega, show t ≠ 160 by omega, show t ≠ 161 by omega, if_false]
        obtain ⟨e4, gc, c161, cq⟩ := gc
        have gd : ∃ e5, go Tryz.prog X 169 (sub (codeOf Tryz.f3) [true,true,true,true,true,true,true,true,true,true,false,true,false,false,true,true,false,false,true,true,false,true]) e4 G3 = some (.normal, e5, G3) ∧ e5.get 22 = some (.int .i64 (((tiedTo rs k).length + 1 : Nat) : Int)) ∧ ∀ t, t < 150 → t ≠ 22 → e5.get t = e4.get t := by
          simp only [codeOf, Tryz.f3, sub, go_seq, go_region, opsSeq_step, opsSeq_guard, guardStep_true, guardStep_false, guardVal, opsSeq_nil, afterStep_some, afterStep_none, stepC, kindOf, quietC, evC, Nat.reduceLT, Tr.get_set, if_true, if_false, Nat.reduceEqDiff, Option.map_some, Option.bind_some, List.getElem?_toArray, List.getElem?_cons_zero, List.getElem?_cons_succ, ofVal, decide_true, decide_false, BEq.rfl, andThen_normal, andThen_exit, andThen_ret, inBlock_normal, inBlock_ret, go_skip, go_exit, go_ret, loudStep, isCall, loudC, targetC, evs, evParts, mapO, List.nil_append, List.append_nil, List.cons_append, loadC, Heap.skip_get, Heap.get_put, Heap.skip_next, Heap.put_next, (cq 22 (by omega)).trans b22, bin_add, hw]
          refine ⟨_, rfl, by simp only [Tr.get_set, if_true], fun t ht n1 => ?_⟩
          simp only [Tr.get_set, n1, show t ≠ 162 by omega, show t ≠ 163 by omega, if_false]
        obtain ⟨e5, gd, d22, dq⟩ := gd
        have hq5 : ∀ t, t < 136 → t ≠ 22 → t ≠ 23 → t ≠ 24 → e5.get t = e.get t := fun t ht n0 n1 n2 => (dq t (by omega) n0).trans ((cq t (by omega)).trans (hq3 t ht n1 n2))
        refine ⟨.normal, e5, G3, ?_, .inl rfl, ⟨(hq5 8 (by omega) (by omega) (by omega) (by omega)).trans q8, (hq5 10 (by omega) (by omega) (by omega) (by omega)).trans q10, (hq5 132 (by omega) (by omega) (by omega) (by omega)).trans q132, ?_, k3, x13⟩, (hq5 134 (by omega) (by omega) (by omega) (by omega)).trans h1, (hq5 133 (by omega) (by omega) (by omega) (by omega)).trans h2⟩
        · rw [go_code hcode, go_seq, ga, andThen_normal, go_seq, gb, andThen_normal, go_cond _ _ _ (v := true) (by simp only [evC, b149]), if_pos rfl, go_seq, go_seq, gc, andThen_normal, go_cond _ _ _ (v := false) (by simp only [evC, c161]), if_neg (by simp), go_skip, andThen_normal, gd]
        · rw [tiedTo_succ hk', ht, if_pos rfl, List.length_append, List.length_singleton]
          exact d22)
  rcases hL rs.length 0 env Hb (by omega) ⟨h8, h10, h132, by simpa [tiedTo] using h22, hk, Ext.refl _ _⟩ h134 h133 with ⟨e2, G, g, q8, _, _, q22, _, xG⟩ | ⟨_, _, _, ff⟩
  · exact ⟨e2, G, g, q22, q8, xG⟩
  · exact ff.elim

end Go.Y

namespace Go.Y
open Go.K Go.Proofs
set_option linter.unusedSimpArgs false
set_option linter.unusedVariables false
set_option maxRecDepth 10000

variable {X : CallFn}

theorem fa43_0 (b off : Nat) : fieldAddrC Tryz.prog 43 (.ptr b off) 0 = some (.ptr b off) := by kernel_rfl
theorem fa43_1 (b off : Nat) : fieldAddrC Tryz.prog 43 (.ptr b off) 1 = some (.ptr b (off + 1)) := by kernel_rfl
theorem fa43_2 (b off : Nat) : fieldAddrC Tryz.prog 43 (.ptr b off) 2 = some (.ptr b (off + 2)) := by kernel_rfl

/-- What a description describes: kind, upper, lower. -/
def relO (s : Nat × Nat × Nat) : Nat × Nat × Nat := (1 + s.1 % 4, s.2.1 % 6, if s.2.2 % 6 = s.2.1 % 6 then (s.2.1 % 6 + 1) % 6 else s.2.2 % 6)
theorem relO_right (s : Nat × Nat × Nat) : Right (relO s) := by
  unfold relO Right
  refine ⟨by simp, by simp only; omega, by simp only; omega, ?_, ?_⟩
  · simp only; split <;> omega
  · simp only; split <;> omega

theorem mk_r5 {env : Env} {H : Heap} {l : CV} {ss : List (Nat × Nat × Nat)} {i : Nat} (h0 : env.get 0 = some l) (h4 : env.get 4 = some (.int .i64 i)) (hl : Look H 3 l (ss.map seenCV)) (hi : i < ss.length) (hlt : ∀ s ∈ ss, s.1 < 256 ∧ s.2.1 < 256 ∧ s.2.2 < 256) :
    ∃ env', go Tryz.prog X 54 (sub (codeOf Tryz.f7) [true,true,false,true,false,false,true,false,false,false]) env H = some (.normal, env', H.skip 16) ∧ env'.get 5 = some (.int .i64 (ss[i].2.1 % 6 : Nat)) ∧ env'.get 6 = some (.int .i64 (ss[i].2.2 % 6 : Nat)) ∧ ∀ t, t < 17 → t ≠ 5 → t ≠ 6 → env'.get t = env.get t := by
  obtain ⟨b, off, cs, hb, _, hidx, hget, hcells, hcell⟩ := hl.at (P := Tryz.prog) (t := 22) u22 s39 (i := i) (by simpa using hi)
  rw [List.getElem_map] at hcell
  have hc1 : cs[off + 1]? = some (.int .u8 ss[i].2.1) := hcell 1 _ rfl
  have hc2 : cs[off + 2]? = some (.int .u8 ss[i].2.2) := hcell 2 _ rfl
  have hlb := hl.cbeq 12
  obtain ⟨hs1, hs2, hs3⟩ := hlt ss[i] (List.getElem_mem _)
  have ht1 : ((ss[i].2.1 : Nat) : Int).tmod 6 = ((ss[i].2.1 % 6 : Nat) : Int) := tmod_nat _ 6
  have ht2 : ((ss[i].2.2 : Nat) : Int).tmod 6 = ((ss[i].2.2 % 6 : Nat) : Int) := tmod_nat _ 6
  have hw1 : wrap .i64 ((ss[i].2.1 % 6 : Nat) : Int) = ((ss[i].2.1 % 6 : Nat) : Int) := wrap64 (by omega) (by omega)
  have hw2 : wrap .i64 ((ss[i].2.2 % 6 : Nat) : Int) = ((ss[i].2.2 % 6 : Nat) : Int) := wrap64 (by omega) (by omega)
  simp only [codeOf, Tryz.f7, sub]
  rw [go_planned [(0,0,[0],false),(1,0,[4],false),(2,0,[17,18],false),(3,0,[19],false),(4,0,[20],false),(5,0,[21],false),(6,0,[22],false),(7,0,[0],false),(8,0,[4],false),(9,0,[24,25],false),(10,0,[26],false),(11,0,[27],false),(12,0,[28],false),(13,0,[29],false),(14,0,[23],false),(15,0,[30],false)] rfl (by kernel_rfl)]
  simp only [drawStep_guard, guardDS_true, guardDS_false, guardVal, BEq.rfl, planRun_cons, planRun_nil, planStep, planEnd, List.getElem?_cons_zero, List.getElem?_cons_succ, drawStep_eq, kindOf, quietAt, quietC, evR, evC, memN, beq_dec, Nat.reduceEqDiff, decide_true, decide_false, setDS_some, loudDS_some, loudDS_none, allocDS_some, Nat.reduceLT, Tr.get_set, if_true, if_false, Option.map_some, Option.bind_some, List.length_cons, List.length_nil, sameAt, Nat.reduceAdd, Nat.reduceSub, ofVal, loadC, Heap.skip_get, Heap.get_put, loudStep, isCall, targetC, evs, evParts, mapO, List.cons_append, List.nil_append, List.append_nil, putAll, ne_eq, reduceCtorEq, not_false_eq_true, Int.reduceEq, eq_self, cbeq_int, cbeq_ptr, cbeq_str, cbeq_bool, cbeq_map, cbeq_slice, cbeq_nilSlice, Bool.and_self, Bool.and_true, Int.reduceNeg, List.append_eq, loudC, List.getElem?_toArray, h0, h4, hidx, fa43_1, fa43_2, g5, hget, hc1, hc2, hlb, bin_rem, ht1, ht2, convC, u5, u3, hw1, hw2]
  refine ⟨_, rfl, by simp only [Tr.get_set, Nat.reduceEqDiff, if_false, if_true], by simp only [Tr.get_set, if_true], fun t ht n1 n2 => ?_⟩
  simp only [Tr.get_set, n1, n2, show t ≠ 17 by omega, show t ≠ 18 by omega, show t ≠ 19 by omega, show t ≠ 20 by omega, show t ≠ 21 by omega, show t ≠ 22 by omega, show t ≠ 23 by omega, show t ≠ 24 by omega, show t ≠ 25 by omega, show t ≠ 26 by omega, show t ≠ 27 by omega, show t ≠ 28 by omega, show t ≠ 29 by omega, show t ≠ 30 by omega, if_false]

theorem mk_r6 {env : Env} {H : Heap} {a b : Nat} (h5 : env.get 5 = some (.int .i64 (a : Nat))) (h6 : env.get 6 = some (.int .i64 (b : Nat))) (ha : a < 6) :
    ∃ env', go Tryz.prog X 54 (sub (codeOf Tryz.f7) [true,true,false,true,false,false,true,false,false,true,false]) env H = some (.normal, env', H) ∧ env'.get 6 = some (.int .i64 (if b = a then (a + 1) % 6 else b : Nat)) ∧ ∀ t, t < 31 → t ≠ 6 → env'.get t = env.get t := by
  have hcode : sub (codeOf Tryz.f7) [true,true,false,true,false,false,true,false,false,true,false] = .seq (sub (codeOf Tryz.f7) [true,true,false,true,false,false,true,false,false,true,false,false]) (.cond (.tmp 33) (sub (codeOf Tryz.f7) [true,true,false,true,false,false,true,false,false,true,false,true,false]) .skip) := rfl
  have ga : ∃ e, go Tryz.prog X 54 (sub (codeOf Tryz.f7) [true,true,false,true,false,false,true,false,false,true,false,false]) env H = some (.normal, e, H) ∧ e.get 33 = some (.bool (decide ((a : Int) = (b : Int)))) ∧ ∀ t, t < 31 → e.get t = env.get t := by
    simp only [codeOf, Tryz.f7, sub, go_seq, go_region, opsSeq_step, opsSeq_guard, guardStep_true, guardStep_false, guardVal, opsSeq_nil, afterStep_some, afterStep_none, stepC, kindOf, quietC, evC, Nat.reduceLT, Tr.get_set, if_true, if_false, Nat.reduceEqDiff, Option.map_some, Option.bind_some, List.getElem?_toArray, List.getElem?_cons_zero, List.getElem?_cons_succ, ofVal, decide_true, decide_false, BEq.rfl, andThen_normal, andThen_exit, andThen_ret, inBlock_normal, inBlock_ret, go_skip, go_exit, go_ret, loudStep, isCall, loudC, targetC, evs, evParts, mapO, List.nil_append, List.append_nil, List.cons_append, loadC, Heap.skip_get, Heap.get_put, Heap.skip_next, Heap.put_next, h5, h6, bin_eql]
    refine ⟨_, rfl, by simp only [Tr.get_set, if_true], fun t ht => ?_⟩
    simp only [Tr.get_set, show t ≠ 31 by omega, show t ≠ 32 by omega, show t ≠ 33 by omega, if_false]
  obtain ⟨e1, ga, a33, aq⟩ := ga
  by_cases h : b = a
  · have hd : decide ((a : Int) = (b : Int)) = true := by simp [h]
    rw [hd] at a33
    have hw : wrap .i64 ((a : Int) + 1) = ((a + 1 : Nat) : Int) := wrap64 (by omega) (by omega)
    have ht : ((a + 1 : Nat) : Int).tmod 6 = (((a + 1) % 6 : Nat) : Int) := tmod_nat _ 6
    have gb : ∃ e, go Tryz.prog X 54 (sub (codeOf Tryz.f7) [true,true,false,true,false,false,true,false,false,true,false,true,false]) e1 H = some (.normal, e, H) ∧ e.get 6 = some (.int .i64 ((a + 1) % 6 : Nat)) ∧ ∀ t, t < 31 → t ≠ 6 → e.get t = e1.get t := by
      simp only [codeOf, Tryz.f7, sub, go_seq, go_region, opsSeq_step, opsSeq_guard, guardStep_true, guardStep_false, guardVal, opsSeq_nil, afterStep_some, afterStep_none, stepC, kindOf, quietC, evC, Nat.reduceLT, Tr.get_set, if_true, if_false, Nat.reduceEqDiff, Option.map_some, Option.bind_some, List.getElem?_toArray, List.getElem?_cons_zero, List.getElem?_cons_succ, ofVal, decide_true, decide_false, BEq.rfl, andThen_normal, andThen_exit, andThen_ret, inBlock_normal, inBlock_ret, go_skip, go_exit, go_ret, loudStep, isCall, loudC, targetC, evs, evParts, mapO, List.nil_append, List.append_nil, List.cons_append, loadC, Heap.skip_get, Heap.get_put, Heap.skip_next, Heap.put_next, (aq 5 (by omega)).trans h5, bin_add, hw, bin_rem, ne_eq, Int.reduceEq, not_false_eq_true, ht]
      refine ⟨_, rfl, by simp only [Tr.get_set, if_true], fun t ht n1 => ?_⟩
      simp only [Tr.get_set, n1, show t ≠ 34 by omega, show t ≠ 35 by omega, show t ≠ 36 by omega, if_false]
    obtain ⟨e2, gb, b6, bq⟩ := gb
    refine ⟨e2, ?_, by rw [if_pos h]; exact b6, fun t ht n1 => (bq t ht n1).trans (aq t ht)⟩
    rw [go_code hcode, go_seq, ga, andThen_normal, go_cond _ _ _ (v := true) (by simp only [evC, a33]), if_pos rfl, gb]
  · have hd : decide ((a : Int) = (b : Int)) = false := by simp; omega
    rw [hd] at a33
    refine ⟨e1, ?_, by rw [if_neg h]; exact (aq 6 (by omega)).trans h6, fun t ht n1 => aq t ht⟩
    rw [go_code hcode, go_seq, ga, andThen_normal, go_cond _ _ _ (v := false) (by simp only [evC, a33]), if_neg (by simp), go_skip]

theorem mk_r8 (hU : ∀ (c : Nat) (H : Heap), c < 6 → calls Tryz.prog X 15 [.int .i64 c] H = some (nm c, H))
    {env : Env} {H : Heap} {l v : CV} {ss : List (Nat × Nat × Nat)} {vs : List CV} {f i a b : Nat}
    (h0 : env.get 0 = some l) (h3 : env.get 3 = some v) (h4 : env.get 4 = some (.int .i64 i)) (h5 : env.get 5 = some (.int .i64 a)) (h6 : env.get 6 = some (.int .i64 b))
    (hl : Look H 3 l (ss.map seenCV)) (hi : i < ss.length) (hlt : ∀ s ∈ ss, s.1 < 256 ∧ s.2.1 < 256 ∧ s.2.2 < 256) (ha : a < 6) (hb : b < 6)
    (hv : Own H f 3 41 v vs) (hk : HOk H) (hlen : vs.length < 100) :
    ∃ env' v' H' f', go Tryz.prog X 54 (sub (codeOf Tryz.f7) [true,true,false,true,false,false,true,false,false,true,true]) env H = some (.normal, env', H') ∧ (∀ t, t < 37 → t ≠ 3 → env'.get t = env.get t) ∧
      env'.get 3 = some v' ∧ Own H' f' 3 41 v' (vs ++ [relCV (1 + ss[i].1 % 4, a, b)]) ∧ HOk H' ∧ v' ≠ .nilSlice ∧ (v = .nilSlice → H.next ≤ f') ∧ (v ≠ .nilSlice → f' = f) ∧
      ∀ n, n ≤ H.next → (v ≠ .nilSlice → n ≤ f) → Ext n H H' := by
  obtain ⟨bk, off, cs, hbk, _, hidx, hget, hcells, hcell⟩ := hl.at (P := Tryz.prog) (t := 22) u22 s39 (i := i) (by simpa using hi)
  rw [List.getElem_map] at hcell
  have hc0 : cs[off]? = some (.int .u8 ss[i].1) := hcell 0 _ rfl
  have hvb := hv.has.cbeq 12
  have hlb := hl.cbeq 12
  obtain ⟨hs1, hs2, hs3⟩ := hlt ss[i] (List.getElem_mem _)
  have hx : elemsC ((H.skip 17).put (H.next + 14) (.cells [.int .i64 (1 + ss[i].1 % 4 : Nat), nm a, nm b] 41 none)) 3 (.slice (H.next + 14) 0 1 (.exact 1)) =
      some ([relCV (1 + ss[i].1 % 4, a, b)].length, [relCV (1 + ss[i].1 % 4, a, b)].flatMap CV.cells) := by
    simp [elemsC, Heap.get_put, takeE, relCV, CV.cells]
  have hE : Ext H.next H ((H.skip 17).put (H.next + 14) (.cells [.int .i64 (1 + ss[i].1 % 4 : Nat), nm a, nm b] 41 none)) := Ext.trans Ext.skip (Ext.put (by omega))
  have hv1 := hv.ext hE hv.lt
  have hk1 : HOk ((H.skip 17).put (H.next + 14) (.cells [.int .i64 (1 + ss[i].1 % 4 : Nat), nm a, nm b] 41 none)) := Hok.put rfl (Hok.skip 17 hk)
  obtain ⟨ti, hti, hts, htb⟩ := i42
  obtain ⟨v', H', f', happ, hf1, hf2, hown, hok, hnext, hkeep⟩ := hv1.append hk1 hx (by simp [relCV, CV.cells]) (by simp) u24 u24 (by intro k e; cases e) hti hts (by omega) z42 rfl rfl
    (by simp only [List.length_cons, List.length_nil, htb]; omega) (by simp; omega)
  have ht4 : ((ss[i].1 : Nat) : Int).tmod 4 = ((ss[i].1 % 4 : Nat) : Int) := tmod_nat _ 4
  have hw1 : wrap .i64 ((ss[i].1 % 4 : Nat) : Int) = ((ss[i].1 % 4 : Nat) : Int) := wrap64 (by omega) (by omega)
  have hw2 : wrap .i64 (1 + ((ss[i].1 % 4 : Nat) : Int)) = ((1 + ss[i].1 % 4 : Nat) : Int) := by rw [wrap64 (by omega) (by omega)]; omega
  simp only [codeOf, Tryz.f7, sub]
  rw [go_planned [(9,0,[5],false),(10,0,[46],true),(11,0,[6],false),(12,1,[48],true),(0,0,[3],false),(1,0,[0],false),(2,0,[4],false),(3,0,[38,39],false),(4,0,[40],false),(5,0,[41],false),(6,0,[42],false),(7,0,[43],false),(8,0,[44],false),(13,2,[45,47,49],false),(14,2,[50],false),(15,2,[37,51],true),(16,3,[52],false)] rfl (by kernel_rfl)]
  simp only [drawStep_guard, guardDS_true, guardDS_false, guardVal, BEq.rfl, planRun_cons, planRun_nil, planStep, planEnd, List.getElem?_cons_zero, List.getElem?_cons_succ, drawStep_eq, kindOf, quietAt, quietC, evR, evC, memN, beq_dec, Nat.reduceEqDiff, decide_true, decide_false, setDS_some, loudDS_some, loudDS_none, allocDS_some, Nat.reduceLT, Tr.get_set, if_true, if_false, Option.map_some, Option.bind_some, List.length_cons, List.length_nil, sameAt, Nat.reduceAdd, Nat.reduceSub, ofVal, loadC, Heap.skip_get, Heap.get_put, loudStep, isCall, targetC, evs, evParts, mapO, List.cons_append, List.nil_append, List.append_nil, putAll, ne_eq, reduceCtorEq, not_false_eq_true, Int.reduceEq, eq_self, cbeq_int, cbeq_ptr, cbeq_str, cbeq_bool, cbeq_map, cbeq_slice, cbeq_nilSlice, Bool.and_self, Bool.and_true, Int.reduceNeg, List.append_eq, loudC, List.getElem?_toArray, h0, h3, h4, h5, h6, hidx, fa43_0, g5, hget, hc0, hU, ha, hb, bin_add, bin_rem, convC, u5, u3, hvb, hlb, ht4, hw1, hw2, build42, bs24, CV.cells, happ]
  refine ⟨_, v', H', f', rfl, fun t ht n1 => ?_, ?_, hown, hok, ?_, fun e => ?_, hf2, fun n hn hf => ?_⟩
  · simp only [Tr.get_set, n1, show t ≠ 37 by omega, show t ≠ 38 by omega, show t ≠ 39 by omega, show t ≠ 40 by omega, show t ≠ 41 by omega, show t ≠ 42 by omega, show t ≠ 43 by omega, show t ≠ 44 by omega, show t ≠ 45 by omega, show t ≠ 46 by omega, show t ≠ 47 by omega, show t ≠ 48 by omega, show t ≠ 49 by omega, show t ≠ 50 by omega, show t ≠ 51 by omega, show t ≠ 52 by omega, if_false]
  · simp only [Tr.get_set, if_true]
  · rcases hown.2 with ⟨_, e⟩ | ⟨_, _, e, _⟩
    · simp at e
    · rw [e]; intro h; cases h
  · rw [hf1 e]; exact Nat.le_add_right _ _
  · have hn' : H.next ≤ ((H.skip 17).put (H.next + 14) (.cells [.int .i64 (1 + ss[i].1 % 4 : Nat), nm a, nm b] 41 none)).next := Nat.le_add_right _ _
    exact (hE.le hn).trans (keep_ext hk1 (by omega) (by omega) hf hkeep)

theorem mk_r3 {env : Env} {H : Heap} {l : CV} {ss : List (Nat × Nat × Nat)} {i : Nat}
    (h0 : env.get 0 = some l) (h4 : env.get 4 = some (.int .i64 i)) (hl : Look H 3 l (ss.map seenCV)) (hn : ss.length ≤ 8) (hi : i ≤ ss.length) :
    ∃ env', go Tryz.prog X 54 (sub (codeOf Tryz.f7) [true,true,false,true,false,false,false]) env H = (if i < ss.length then some (.normal, env', H) else some (.exit 0, env', H)) ∧ ∀ t, t < 7 → env'.get t = env.get t := by
  have hcode : sub (codeOf Tryz.f7) [true,true,false,true,false,false,false] = .seq (sub (codeOf Tryz.f7) [true,true,false,true,false,false,false,false]) (.cond (.tmp 14) .skip (.exit 0)) := rfl
  have hlen := hl.len (P := Tryz.prog) u22 H
  rw [List.length_map] at hlen
  have ga : ∃ e, go Tryz.prog X 54 (sub (codeOf Tryz.f7) [true,true,false,true,false,false,false,false]) env H = some (.normal, e, H) ∧ e.get 14 = some (.bool (decide (i < ss.length))) ∧ ∀ t, t < 7 → e.get t = env.get t := by
    by_cases h : i < ss.length
    · have e1 : (i : Int) < (ss.length : Int) := by omega
      have e2 : (i : Int) < 8 := by omega
      simp only [codeOf, Tryz.f7, sub, go_seq, go_region, opsSeq_step, opsSeq_guard, guardStep_true, guardStep_false, guardVal, opsSeq_nil, afterStep_some, afterStep_none, stepC, kindOf, quietC, evC, Nat.reduceLT, Tr.get_set, if_true, if_false, Nat.reduceEqDiff, Option.map_some, Option.bind_some, List.getElem?_toArray, List.getElem?_cons_zero, List.getElem?_cons_succ, ofVal, decide_true, decide_false, BEq.rfl, andThen_normal, andThen_exit, andThen_ret, inBlock_normal, inBlock_ret, go_skip, go_exit, go_ret, loudStep, isCall, loudC, targetC, evs, evParts, mapO, List.nil_append, List.append_nil, List.cons_append, loadC, Heap.skip_get, Heap.get_put, Heap.skip_next, Heap.put_next, h0, h4, hlen, bin_lss, e1, e2, bft, btf, h]
      refine ⟨_, rfl, by simp only [Tr.get_set, if_true], fun t ht => ?_⟩
      simp only [Tr.get_set, show t ≠ 7 by omega, show t ≠ 8 by omega, show t ≠ 9 by omega, show t ≠ 10 by omega, show t ≠ 11 by omega, show t ≠ 12 by omega, show t ≠ 13 by omega, show t ≠ 14 by omega, if_false]
    · have e1 : ¬ ((i : Int) < (ss.length : Int)) := by omega
      simp only [codeOf, Tryz.f7, sub, go_seq, go_region, opsSeq_step, opsSeq_guard, guardStep_true, guardStep_false, guardVal, opsSeq_nil, afterStep_some, afterStep_none, stepC, kindOf, quietC, evC, Nat.reduceLT, Tr.get_set, if_true, if_false, Nat.reduceEqDiff, Option.map_some, Option.bind_some, List.getElem?_toArray, List.getElem?_cons_zero, List.getElem?_cons_succ, ofVal, decide_true, decide_false, BEq.rfl, andThen_normal, andThen_exit, andThen_ret, inBlock_normal, inBlock_ret, go_skip, go_exit, go_ret, loudStep, isCall, loudC, targetC, evs, evParts, mapO, List.nil_append, List.append_nil, List.cons_append, loadC, Heap.skip_get, Heap.get_put, Heap.skip_next, Heap.put_next, h0, h4, hlen, bin_lss, e1, bft, btf, h]
      refine ⟨_, rfl, by simp only [Tr.get_set, if_true], fun t ht => ?_⟩
      simp only [Tr.get_set, show t ≠ 7 by omega, show t ≠ 8 by omega, show t ≠ 9 by omega, show t ≠ 10 by omega, show t ≠ 11 by omega, show t ≠ 12 by omega, show t ≠ 13 by omega, show t ≠ 14 by omega, if_false]
  obtain ⟨e, ga, a14, aq⟩ := ga
  refine ⟨e, ?_, aq⟩
  by_cases h : i < ss.length
  · rw [if_pos h, go_code hcode, go_seq, ga, andThen_normal, go_cond _ _ _ (v := true) (by simp only [evC, a14, h, decide_true]), if_pos rfl, go_skip]
  · rw [if_neg h, go_code hcode, go_seq, ga, andThen_normal, go_cond _ _ _ (v := false) (by simp only [evC, a14, h, decide_false]), if_neg (by simp), go_exit]

theorem mk_r4 {env : Env} {H : Heap} {i : Nat} (h4 : env.get 4 = some (.int .i64 i)) (hi : i < 1000) :
    ∃ env', go Tryz.prog X 54 (sub (codeOf Tryz.f7) [true,true,false,true,false,false,true,true]) env H = some (.normal, env', H) ∧ env'.get 4 = some (.int .i64 (i + 1 : Nat)) ∧ ∀ t, t < 15 → t ≠ 4 → env'.get t = env.get t := by
  have hw : wrap .i64 ((i : Int) + 1) = ((i + 1 : Nat) : Int) := wrap64 (by omega) (by omega)
  simp only [codeOf, Tryz.f7, sub, go_seq, go_region, opsSeq_step, opsSeq_guard, guardStep_true, guardStep_false, guardVal, opsSeq_nil, afterStep_some, afterStep_none, stepC, kindOf, quietC, evC, Nat.reduceLT, Tr.get_set, if_true, if_false, Nat.reduceEqDiff, Option.map_some, Option.bind_some, List.getElem?_toArray, List.getElem?_cons_zero, List.getElem?_cons_succ, ofVal, decide_true, decide_false, BEq.rfl, andThen_normal, andThen_exit, andThen_ret, inBlock_normal, inBlock_ret, go_skip, go_exit, go_ret, loudStep, isCall, loudC, targetC, evs, evParts, mapO, List.nil_append, List.append_nil, List.cons_append, loadC, Heap.skip_get, Heap.get_put, Heap.skip_next, Heap.put_next, h4, bin_add, hw]
  refine ⟨_, rfl, by simp only [Tr.get_set, if_true], fun t ht n1 => ?_⟩
  simp only [Tr.get_set, n1, show t ≠ 15 by omega, show t ≠ 16 by omega, if_false]

theorem mk_loop (hU : ∀ (c : Nat) (H : Heap), c < 6 → calls Tryz.prog X 15 [.int .i64 c] H = some (nm c, H)) {l : CV} {ss : List (Nat × Nat × Nat)} (hn : ss.length ≤ 8)
    (hlt : ∀ s ∈ ss, s.1 < 256 ∧ s.2.1 < 256 ∧ s.2.2 < 256) {n : Nat} (hln : ∀ b off len cap, l = .slice b off len cap → b < n) :
    ∀ (k i : Nat) (env : Env) (H : Heap) (v : CV) (f : Nat), i + k = ss.length → env.get 0 = some l → env.get 3 = some v → env.get 4 = some (.int .i64 i) → Look H 3 l (ss.map seenCV) → HOk H → n ≤ H.next →
      Own H f 3 41 v ((ss.take i).map fun s => relCV (relO s)) → (v ≠ .nilSlice → n ≤ f) →
    ∃ env' v' H' f', go Tryz.prog X 54 (sub (codeOf Tryz.f7) [true,true,false,true,false]) env H = some (.exit 0, env', H') ∧ env'.get 3 = some v' ∧ Own H' f' 3 41 v' (ss.map fun s => relCV (relO s)) ∧ HOk H' ∧
      (v' ≠ .nilSlice → n ≤ f') ∧ Ext n H H' := by
  have hcode : sub (codeOf Tryz.f7) [true,true,false,true,false] = .loop (.seq (sub (codeOf Tryz.f7) [true,true,false,true,false,false,false]) (.seq (.block 1 (.seq (sub (codeOf Tryz.f7) [true,true,false,true,false,false,true,false,false,false]) (.seq (sub (codeOf Tryz.f7) [true,true,false,true,false,false,true,false,false,true,false]) (sub (codeOf Tryz.f7) [true,true,false,true,false,false,true,false,false,true,true])))) (sub (codeOf Tryz.f7) [true,true,false,true,false,false,true,true]))) := rfl
  intro k
  induction k with
  | zero =>
    intro i env H v f hik h0 h3 h4 hl hk hnx hv hf
    have : i = ss.length := by omega
    subst this
    obtain ⟨e1, g1, aq⟩ := mk_r3 (X := X) h0 h4 hl hn (Nat.le_refl _)
    rw [if_neg (Nat.lt_irrefl _)] at g1
    rw [hcode, go_loop, go_seq, g1, andThen_exit, andThen_exit]
    rw [List.take_length] at hv
    exact ⟨e1, v, H, f, rfl, (aq 3 (by omega)).trans h3, hv, hk, hf, Ext.refl _ _⟩
  | succ k ih =>
    intro i env H v f hik h0 h3 h4 hl hk hnx hv hf
    have hi : i < ss.length := by omega
    obtain ⟨e1, g1, aq⟩ := mk_r3 (X := X) h0 h4 hl hn (by omega)
    rw [if_pos hi] at g1
    obtain ⟨e2, g2, b5, b6, bq⟩ := mk_r5 (X := X) ((aq 0 (by omega)).trans h0) ((aq 4 (by omega)).trans h4) hl hi hlt
    obtain ⟨e3, g3, c6, cq⟩ := mk_r6 (X := X) (H := H.skip 16) b5 b6 (by omega)
    have xs : Ext H.next H (H.skip 16) := Ext.skip
    have q3 : ∀ t, t < 7 → t ≠ 5 → t ≠ 6 → e3.get t = env.get t := fun t ht n1 n2 => (cq t (by omega) n2).trans ((bq t (by omega) n1 n2).trans (aq t ht))
    obtain ⟨e4, v4, H4, f4, g4, dq, d3, hown, hok4, hne, hf1, hf2, hext⟩ := mk_r8 hU ((q3 0 (by omega) (by omega) (by omega)).trans h0) ((q3 3 (by omega) (by omega) (by omega)).trans h3) ((q3 4 (by omega) (by omega) (by omega)).trans h4) ((cq 5 (by omega) (by omega)).trans b5) c6 (hl.ext xs hl.lt) hi hlt (by omega) (by split <;> omega) (hv.ext xs hv.lt) (Hok.skip 16 hk) (by rw [List.length_map, List.length_take]; omega)
    obtain ⟨e5, g5, f4', fq⟩ := mk_r4 (X := X) (H := H4) (env := e4) (i := i) ((dq 4 (by omega) (by omega)).trans ((q3 4 (by omega) (by omega) (by omega)).trans h4)) (by omega)
    have hx : Ext n H H4 := (xs.le hnx).trans (hext n (Nat.le_trans hnx xs.1) hf)
    have hown' : Own H4 f4 3 41 v4 ((ss.take (i + 1)).map fun s => relCV (relO s)) := by
      rw [List.take_add_one, List.getElem?_eq_getElem hi, Option.toList_some, List.map_append, List.map_singleton]
      exact hown
    obtain ⟨e6, v6, H6, f6, g6, p3, p4, p5, p6, p7⟩ := ih (i + 1) e5 H4 v4 f4 (by omega) ((fq 0 (by omega) (by omega)).trans ((dq 0 (by omega) (by omega)).trans ((q3 0 (by omega) (by omega) (by omega)).trans h0))) ((fq 3 (by omega) (by omega)).trans d3) f4' (hl.ext hx hln) hok4 (Nat.le_trans hnx hx.1) hown' (fun _ => by
      by_cases hvn : v = .nilSlice
      · have := hf1 hvn
        have := xs.1
        omega
      · rw [hf2 hvn]; exact hf hvn)
    refine ⟨e6, v6, H6, f6, ?_, p3, p4, p5, p6, hx.trans p7⟩
    rw [hcode, go_loop, ← hcode, go_seq, g1, andThen_normal, go_seq, go_block, go_seq, g2, andThen_normal, go_seq, g3, andThen_normal, g4, inBlock_normal, andThen_normal, g5, andThen_normal]
    exact g6

theorem mk_ok (hX : ∀ a H, X 7 a H = none) (hU : ∀ (c : Nat) (H : Heap), c < 6 → calls Tryz.prog X 15 [.int .i64 c] H = some (nm c, H)) {l : CV} {ss : List (Nat × Nat × Nat)} {H : Heap} (hn : ss.length ≤ 8)
    (hlt : ∀ s ∈ ss, s.1 < 256 ∧ s.2.1 < 256 ∧ s.2.2 < 256) (hl : Look H 3 l (ss.map seenCV)) (hk : HOk H) :
    ∃ v H' f, calls Tryz.prog X 7 [l] H = some (v, H') ∧ Own H' f 3 41 v ((ss.map relO).map relCV) ∧ HOk H' ∧ Ext H.next H H' := by
  have h0 : (envOf [l] 0 .nil).get 0 = some l := by simp [envOf, Tr.get_set]
  have ga : ∃ e, go Tryz.prog X 54 (.seq (sub (codeOf Tryz.f7) [false]) (.seq (sub (codeOf Tryz.f7) [true,false]) (sub (codeOf Tryz.f7) [true,true,false,false]))) (envOf [l] 0 .nil) H = some (.normal, e, H) ∧ e.get 0 = some l ∧ e.get 3 = some .nilSlice ∧ e.get 4 = some (.int .i64 (0 : Nat)) := by
    simp only [codeOf, Tryz.f7, sub, go_seq, go_region, opsSeq_step, opsSeq_guard, guardStep_true, guardStep_false, guardVal, opsSeq_nil, afterStep_some, afterStep_none, stepC, kindOf, quietC, evC, Nat.reduceLT, Tr.get_set, if_true, if_false, Nat.reduceEqDiff, Option.map_some, Option.bind_some, List.getElem?_toArray, List.getElem?_cons_zero, List.getElem?_cons_succ, ofVal, decide_true, decide_false, BEq.rfl, andThen_normal, andThen_exit, andThen_ret, inBlock_normal, inBlock_ret, go_skip, go_exit, go_ret, loudStep, isCall, loudC, targetC, evs, evParts, mapO, List.nil_append, List.append_nil, List.cons_append, loadC, Heap.skip_get, Heap.get_put, Heap.skip_next, Heap.put_next]
    exact ⟨_, rfl, by simp only [Tr.get_set, Nat.reduceEqDiff, if_false, h0], by simp only [Tr.get_set, Nat.reduceEqDiff, if_false, if_true], by simp only [Tr.get_set, if_true]; rfl⟩
  obtain ⟨e1, ga, a0, a3, a4⟩ := ga
  obtain ⟨env', v', H', f', g, h3, hown, hok, hf, hx⟩ := mk_loop (X := X) hU hn hlt (n := H.next) hl.lt ss.length 0 e1 H .nilSlice 0 (by omega) a0 a3 a4 hl hk (Nat.le_refl _) ⟨by simp, .inl ⟨rfl, by simp⟩⟩ (fun h => absurd rfl h)
  have hcode : codeOf Tryz.f7 = .seq (sub (codeOf Tryz.f7) [false]) (.seq (sub (codeOf Tryz.f7) [true,false]) (.seq (.seq (sub (codeOf Tryz.f7) [true,true,false,false]) (.block 0 (sub (codeOf Tryz.f7) [true,true,false,true,false]))) (.seq (sub (codeOf Tryz.f7) [true,true,true,false]) .ret))) := rfl
  have key : ∃ e, go Tryz.prog X 54 (codeOf Tryz.f7) (envOf [l] 0 .nil) H = some (.ret, e, H') ∧ e.get 2 = some v' := by
    rw [go_code hcode, go_loop3, ga, andThen_normal, go_block, g, inBlock_exit, if_pos rfl, andThen_normal]
    simp only [codeOf, Tryz.f7, sub, go_seq, go_region, opsSeq_step, opsSeq_guard, guardStep_true, guardStep_false, guardVal, opsSeq_nil, afterStep_some, afterStep_none, stepC, kindOf, quietC, evC, Nat.reduceLT, Tr.get_set, if_true, if_false, Nat.reduceEqDiff, Option.map_some, Option.bind_some, List.getElem?_toArray, List.getElem?_cons_zero, List.getElem?_cons_succ, ofVal, decide_true, decide_false, BEq.rfl, andThen_normal, andThen_exit, andThen_ret, inBlock_normal, inBlock_ret, go_skip, go_exit, go_ret, loudStep, isCall, loudC, targetC, evs, evParts, mapO, List.nil_append, List.append_nil, List.cons_append, loadC, Heap.skip_get, Heap.get_put, Heap.skip_next, Heap.put_next, h3]
    exact ⟨_, rfl, by simp only [Tr.get_set, if_true]⟩
  obtain ⟨e, key, e2⟩ := key
  refine ⟨v', H', f', calls_ret (hX _ _) Tryz.func7 rfl (by decide) (nt := 54) rfl key (results_one e2), ?_, hok, hx⟩
  rw [List.map_map]; exact hown
end Go.Y

namespace Go.Y
open Go.K Go.Proofs
set_option linter.unusedSimpArgs false
set_option linter.unusedVariables false
set_option maxRecDepth 10000

variable {X : CallFn}

theorem z25 : zeroC Tryz.prog 25 = some [.nilSlice] := by kernel_rfl
theorem s25 : szC Tryz.prog 25 = some 1 := by kernel_rfl
theorem al25 (ρ : Operand → Option CV) : allocC Tryz.prog (.alloc 25) ρ = some (.cells [.nilSlice] 25 none, fun b => .ptr b 0) := by simp only [allocC, z25, Option.map_some]

/-- The known answers. -/
structure Knw (X : CallFn) : Prop where
  k4 : ∀ H, calls Tryz.prog X 4 [] H = some (.bool true, H)
  k5 : ∀ H, calls Tryz.prog X 5 [] H = some (.bool true, H)

theorem fits_ok (hX6 : ∀ a H, X 6 a H = none) {l : CV} {vs : List CV} {H : Heap} (hl : Look H 3 l vs) : calls Tryz.prog X 6 [l] H = some (.bool (decide (vs.length ≤ 8)), H) := by
  have hlen := fun G => hl.len (P := Tryz.prog) u22 G
  have h0 : (envOf [l] 0 .nil).get 0 = some l := by simp [envOf, Tr.get_set]
  have hd : decide ((vs.length : Int) ≤ 8) = decide (vs.length ≤ 8) := by
    by_cases h : vs.length ≤ 8
    · have : (vs.length : Int) ≤ 8 := by omega
      simp [h, this]
    · have : ¬ (vs.length : Int) ≤ 8 := by omega
      simp only [h, this]
  have key : ∃ e, go Tryz.prog X 6 (codeOf Tryz.f6) (envOf [l] 0 .nil) H = some (.ret, e, H) ∧ e.get 2 = some (.bool (decide (vs.length ≤ 8))) := by
    simp only [codeOf, Tryz.f6, go_seq, go_region, opsSeq_step, opsSeq_guard, guardStep_true, guardStep_false, guardVal, opsSeq_nil, afterStep_some, afterStep_none, stepC, kindOf, quietC, evC, Nat.reduceLT, Tr.get_set, if_true, if_false, Nat.reduceEqDiff, Option.map_some, Option.bind_some, List.getElem?_toArray, List.getElem?_cons_zero, List.getElem?_cons_succ, ofVal, decide_true, decide_false, BEq.rfl, andThen_normal, andThen_exit, andThen_ret, inBlock_normal, inBlock_ret, go_skip, go_exit, go_ret, loudStep, isCall, loudC, targetC, evs, evParts, mapO, List.nil_append, List.append_nil, List.cons_append, loadC, Heap.skip_get, Heap.get_put, Heap.skip_next, Heap.put_next, h0, hlen, bin_leq, hd]
    exact ⟨_, rfl, by simp only [Tr.get_set, if_true]⟩
  obtain ⟨e, key, e2⟩ := key
  exact calls_ret (hX6 _ _) Tryz.func6 rfl (by decide) (nt := 6) rfl key (results_one e2)

theorem law_many (hX3 : ∀ a H, X 3 a H = none) (hX6 : ∀ a H, X 6 a H = none) (hK : Knw X) {l : CV} {vs : List CV} {H : Heap} (hl : Look H 3 l vs) (hn : 8 < vs.length) : calls Tryz.prog X 3 [l] H = some (.bool true, H) := by
  have h0 : (envOf [l] 0 .nil).get 0 = some l := by simp [envOf, Tr.get_set]
  have k4 := hK.k4
  have k5 := hK.k5
  have k6 := fits_ok hX6 hl
  rw [decide_eq_false (show ¬ vs.length ≤ 8 by omega)] at k6
  have key : ∃ e, go Tryz.prog X 169 (codeOf Tryz.f3) (envOf [l] 0 .nil) H = some (.ret, e, H) ∧ e.get 2 = some (.bool true) := by
    simp only [codeOf, Tryz.f3, go_seq, go_region, opsSeq_step, opsSeq_guard, guardStep_true, guardStep_false, guardVal, opsSeq_nil, afterStep_some, afterStep_none, stepC, kindOf, quietC, evC, Nat.reduceLT, Tr.get_set, if_true, if_false, Nat.reduceEqDiff, Option.map_some, Option.bind_some, List.getElem?_toArray, List.getElem?_cons_zero, List.getElem?_cons_succ, ofVal, decide_true, decide_false, BEq.rfl, andThen_normal, andThen_exit, andThen_ret, inBlock_normal, inBlock_ret, go_skip, go_exit, go_ret, loudStep, isCall, loudC, targetC, evs, evParts, mapO, List.nil_append, List.append_nil, List.cons_append, loadC, Heap.skip_get, Heap.get_put, Heap.skip_next, Heap.put_next, k4, k5, k6, h0, Bool.not_true, Bool.not_false, bft, btf]
    rw [go_cond _ _ _ (v := true) (by simp only [evC, Tr.get_set, if_true])]
    simp only [go_seq, go_region, opsSeq_step, opsSeq_guard, guardStep_true, guardStep_false, guardVal, opsSeq_nil, afterStep_some, afterStep_none, stepC, kindOf, quietC, evC, Nat.reduceLT, Tr.get_set, if_true, if_false, Nat.reduceEqDiff, Option.map_some, Option.bind_some, List.getElem?_toArray, List.getElem?_cons_zero, List.getElem?_cons_succ, ofVal, decide_true, decide_false, BEq.rfl, andThen_normal, andThen_exit, andThen_ret, inBlock_normal, inBlock_ret, go_skip, go_exit, go_ret, loudStep, isCall, loudC, targetC, evs, evParts, mapO, List.nil_append, List.append_nil, List.cons_append, loadC, Heap.skip_get, Heap.get_put, Heap.skip_next, Heap.put_next, k4, k5]
    exact ⟨_, rfl, by simp only [Tr.get_set, if_true]⟩
  obtain ⟨e, key, e2⟩ := key
  exact calls_ret (hX3 _ _) Tryz.func3 rfl (by decide) (nt := 169) rfl key (results_one e2)

/-- All that is wanted of the hook, and of the one within the knots' hook. -/
structure WX (X Z : CallFn) : Prop where
  l : LX X
  k : Knw X
  x3 : ∀ a H, X 3 a H = none
  x6 : ∀ a H, X 6 a H = none
  x7 : ∀ a H, X 7 a H = none
  x10 : ∀ a H, X 10 a H = none
  x18 : X 18 = fun _ _ => none
  x19 : X 19 = fun _ _ => none
  x37 : X 37 = fun _ _ => none
  x21 : X 21 = fun _ _ => none
  nam : ∀ (c : Nat) (H : Heap), c < 6 → calls Tryz.prog X 15 [.int .i64 c] H = some (nm c, H)
  x9 : ∀ a H, X 9 a H = knotX (go Tryz.prog Z) 9 a H
  z : YX Z
  z18 : Z 18 = fun _ _ => none
  z19 : Z 19 = fun _ _ => none
  z37 : Z 37 = fun _ _ => none
  z21 : Z 21 = fun _ _ => none

theorem go_loop6 {P : Program} {nt : Nat} {a b c d e p q r : Code} {env : Env} {H : Heap} : go P X nt (.seq a (.seq b (.seq c (.seq d (.seq e (.seq (.seq p q) r)))))) env H = andThen (go P X nt (.seq a (.seq b (.seq c (.seq d (.seq e p))))) env H) fun e H => andThen (go P X nt q e H) fun e H => go P X nt r e H := by
  rw [go_seq, go_seq, ← then_assoc]
  congr 1; funext e H; rw [go_loop5]
theorem go_loop7 {P : Program} {nt : Nat} {a b c d e f p q r : Code} {env : Env} {H : Heap} : go P X nt (.seq a (.seq b (.seq c (.seq d (.seq e (.seq f (.seq (.seq p q) r))))))) env H = andThen (go P X nt (.seq a (.seq b (.seq c (.seq d (.seq e (.seq f p)))))) env H) fun e H => andThen (go P X nt q e H) fun e H => go P X nt r e H := by
  rw [go_seq, go_seq, ← then_assoc]
  congr 1; funext e H; rw [go_loop6]
theorem go_loop8' {P : Program} {nt : Nat} {a b c d e f g p q r : Code} {env : Env} {H : Heap} : go P X nt (.seq a (.seq b (.seq c (.seq d (.seq e (.seq f (.seq g (.seq (.seq p q) r)))))))) env H = andThen (go P X nt (.seq a (.seq b (.seq c (.seq d (.seq e (.seq f (.seq g p))))))) env H) fun e H => andThen (go P X nt q e H) fun e H => go P X nt r e H := by
  rw [go_seq, go_seq, ← then_assoc]
  congr 1; funext e H; rw [go_loop7]
theorem go_loop8 {P : Program} {nt : Nat} {a b c d e f g h p q r : Code} {env : Env} {H : Heap} : go P X nt (.seq a (.seq b (.seq c (.seq d (.seq e (.seq f (.seq g (.seq h (.seq (.seq p q) r))))))))) env H = andThen (go P X nt (.seq a (.seq b (.seq c (.seq d (.seq e (.seq f (.seq g (.seq h p)))))))) env H) fun e H => andThen (go P X nt q e H) fun e H => go P X nt r e H := by
  rw [go_seq, go_seq, ← then_assoc]
  congr 1; funext e H; rw [go_loop8']

theorem law_few {Z : CallFn} (hX : WX X Z) {l : CV} {ss : List (Nat × Nat × Nat)} {H : Heap} (hl : Look H 3 l (ss.map seenCV)) (hk : HOk H) (hn : ss.length ≤ 8) (hlt : ∀ s ∈ ss, s.1 < 256 ∧ s.2.1 < 256 ∧ s.2.2 < 256) :
    ∃ H', calls Tryz.prog X 3 [l] H = some (.bool true, H') ∧ Ext H.next H H' := by
  have h0 : (envOf [l] 0 .nil).get 0 = some l := by simp [envOf, Tr.get_set]
  have k4 := hX.k.k4
  have k5 := hX.k.k5
  have k6 := fits_ok hX.x6 hl
  rw [List.length_map, decide_eq_true hn] at k6
  obtain ⟨v, H1, f, c1, own, k1, x1⟩ := mk_ok (X := X) hX.x7 hX.nam hn hlt hl hk
  obtain ⟨rs, hrs⟩ : ∃ rs : Rels, rs = ss.map relO := ⟨_, rfl⟩
  rw [← hrs] at own
  have hR : ∀ r ∈ rs, Right r := fun r hr => by
    rw [hrs] at hr
    obtain ⟨s, _, rfl⟩ := List.mem_map.1 hr
    exact relO_right s
  have hr30 : rs.length ≤ 30 := by rw [hrs, List.length_map]; omega
  have hsl : v.cells = [v] ∧ v.single = true := by
    rcases own.has.isSl with rfl | ⟨_, _, _, _, rfl⟩ <;> exact ⟨rfl, rfl⟩
  generalize hH2 : ((H1.skip 1).put H1.next (.cells [.nilSlice] 25 none)).put H1.next (.cells [v] 25 none) = H2
  have hst : storeC Tryz.prog 25 ((H1.skip 1).put H1.next (.cells [.nilSlice] 25 none)) (.ptr H1.next 0) v = some (.tuple [], H2) := by
    rw [store_one s25 hsl.1 hsl.2 (cs := [.nilSlice]) (e := 25) (by rw [Heap.get_put, if_pos rfl]) (by simp), ← hH2]; rfl
  have x2 : Ext H1.next H1 H2 := by rw [← hH2]; exact (Ext.skip.trans (Ext.put (Nat.le_refl _))).trans (Ext.put (Nat.le_refl _))
  have k2 : HOk H2 := by rw [← hH2]; exact Hok.put rfl (Hok.put rfl (Hok.skip 1 k1))
  have n2 : H2.next = H1.next + 1 := by rw [← hH2]; rfl
  have b2 : H2.get H1.next = some (.cells [v] 25 none) := by rw [← hH2, Heap.get_put, if_pos rfl]
  have hv2 := own.has.ext x2 own.lt
  obtain ⟨u, H3, c3, hu3, k3, x3⟩ := units8_ok hX.l.y hr30 hR hv2 k2
  have hv3 := hv2.ext x3 hv2.lt
  have b3 := x3.2 _ _ (by omega) b2
  obtain ⟨vo, fo, kvs, all, H4, c4, hK4, hall, hal⟩ := knots_ok hX.z hX.z18 hX.z19 hX.z37 hX.z21 hr30 hR hv3 k3
  have x4 := hK4.ext
  have c4' : calls Tryz.prog X 9 [v] H3 = some (.tuple [vo, .int .i64 0], H4) := calls_hook (by rw [hX.x9]; exact c4)
  have hv4 := hv3.ext x4 hv3.lt
  have b4 := x4.2 _ _ (by have := x3.1; omega) b3
  obtain ⟨iv, fi, H5, c5, ho5, k5', x5⟩ := involves_ok hX.l.y hX.x10 hX.x18 hX.x19 hX.x37 hX.x21 hr30 hR hv4 hK4.ok
  have b5 := x5.2 _ _ (by have := x3.1; have := x4.1; omega) b4
  have hlb : H1.next < H5.next := by have := x3.1; have := x4.1; have := x5.1; omega
  have hB : LB H3 H5 v rs H1.next u vo iv fo kvs all := ⟨hv4.ext x5 hv4.lt, b5, hlb, (hu3.ext x4 hu3.lt).ext x5 (hu3.ext x4 hu3.lt).lt, hK4.step x5 k5', ho5.has⟩
  have hlu := fun G => hB.hu.len (P := Tryz.prog) u30 G
  rw [List.length_map] at hlu
  have hlv := fun G => hB.hl.len (P := Tryz.prog) u24 G
  rw [List.length_map] at hlv
  have hli := fun G => hB.hi.len (P := Tryz.prog) u26 G
  rw [List.length_map] at hli
  -- up to the loops
  have ga : ∃ e, go Tryz.prog X 169 (.seq (sub (codeOf Tryz.f3) [false]) (.seq (sub (codeOf Tryz.f3) [true,false]) (.seq (sub (codeOf Tryz.f3) [true,true,false]) (.seq (sub (codeOf Tryz.f3) [true,true,true,false]) (.seq (sub (codeOf Tryz.f3) [true,true,true,true,false]) (.seq (sub (codeOf Tryz.f3) [true,true,true,true,true,false]) (.seq (sub (codeOf Tryz.f3) [true,true,true,true,true,true,false]) (.seq (sub (codeOf Tryz.f3) [true,true,true,true,true,true,true,false]) (sub (codeOf Tryz.f3) [true,true,true,true,true,true,true,true,false,false]))))))))) (envOf [l] 0 .nil) H = some (.normal, e, H5) ∧
      e.get 3 = some (.ptr H1.next 0) ∧ e.get 4 = some u ∧ e.get 6 = some vo ∧ e.get 8 = some iv ∧ e.get 10 = some (.func (.func 11) [] [.ptr H1.next 0]) ∧ e.get 68 = some u ∧ e.get 69 = some (.int .i64 ((unitsOf rs).length : Nat)) ∧ e.get 70 = some (.int .i64 (0 : Nat)) := by
    simp only [codeOf, Tryz.f3, sub, go_seq, go_region, opsSeq_step, opsSeq_guard, guardStep_true, guardStep_false, guardVal, opsSeq_nil, afterStep_some, afterStep_none, stepC, kindOf, quietC, evC, Nat.reduceLT, Tr.get_set, if_true, if_false, Nat.reduceEqDiff, Option.map_some, Option.bind_some, List.getElem?_toArray, List.getElem?_cons_zero, List.getElem?_cons_succ, ofVal, decide_true, decide_false, BEq.rfl, andThen_normal, andThen_exit, andThen_ret, inBlock_normal, inBlock_ret, go_skip, go_exit, go_ret, loudStep, isCall, loudC, targetC, evs, evParts, mapO, List.nil_append, List.append_nil, List.cons_append, loadC, Heap.skip_get, Heap.get_put, Heap.skip_next, Heap.put_next, k4, k5, k6, h0, Bool.not_true, Bool.not_false, bft, btf]
    rw [go_cond _ _ _ (v := false) (by simp only [evC, Tr.get_set, if_true])]
    simp only [go_seq, go_region, opsSeq_step, opsSeq_guard, guardStep_true, guardStep_false, guardVal, opsSeq_nil, afterStep_some, afterStep_none, stepC, kindOf, quietC, evC, Nat.reduceLT, Tr.get_set, if_true, if_false, Nat.reduceEqDiff, Option.map_some, Option.bind_some, List.getElem?_toArray, List.getElem?_cons_zero, List.getElem?_cons_succ, ofVal, decide_true, decide_false, BEq.rfl, andThen_normal, andThen_exit, andThen_ret, inBlock_normal, inBlock_ret, go_skip, go_exit, go_ret, loudStep, isCall, loudC, targetC, evs, evParts, mapO, List.nil_append, List.append_nil, List.cons_append, loadC, Heap.skip_get, Heap.get_put, Heap.skip_next, Heap.put_next, Bool.false_eq_true, h0, c1, al25, hst, g24, b2, b3, b4, c3, c4', c5, bin_neq, ne_eq, not_true_eq_false, bft, btf]
    rw [go_cond _ _ _ (v := false) (by simp only [evC, Tr.get_set, if_true])]
    simp only [go_seq, go_region, opsSeq_step, opsSeq_guard, guardStep_true, guardStep_false, guardVal, opsSeq_nil, afterStep_some, afterStep_none, stepC, kindOf, quietC, evC, Nat.reduceLT, Tr.get_set, if_true, if_false, Nat.reduceEqDiff, Option.map_some, Option.bind_some, List.getElem?_toArray, List.getElem?_cons_zero, List.getElem?_cons_succ, ofVal, decide_true, decide_false, BEq.rfl, andThen_normal, andThen_exit, andThen_ret, inBlock_normal, inBlock_ret, go_skip, go_exit, go_ret, loudStep, isCall, loudC, targetC, evs, evParts, mapO, List.nil_append, List.append_nil, List.cons_append, loadC, Heap.skip_get, Heap.get_put, Heap.skip_next, Heap.put_next, Bool.false_eq_true, hlu]
    exact ⟨_, rfl, by simp only [Tr.get_set, Nat.reduceEqDiff, if_false, if_true], by simp only [Tr.get_set, Nat.reduceEqDiff, if_false, if_true], by simp only [Tr.get_set, Nat.reduceEqDiff, if_false, if_true], by simp only [Tr.get_set, Nat.reduceEqDiff, if_false, if_true], by simp only [Tr.get_set, Nat.reduceEqDiff, if_false, if_true], by simp only [Tr.get_set, Nat.reduceEqDiff, if_false, if_true], by simp only [Tr.get_set, Nat.reduceEqDiff, if_false, if_true], by simp only [Tr.get_set, if_true]; rfl⟩
  obtain ⟨e1, ga, a3, a4, a6, a8, a10, a68, a69, a70⟩ := ga
  obtain ⟨e2, H6, gb, k6', x6, bq⟩ := lw_square (X := X) hX.l hr30 hR hall hal hB k5' a4 a6 a10 a68 a69 a70
  have hB6 := hB.ext x6 k6'
  have gc : ∃ e, go Tryz.prog X 169 (.seq (sub (codeOf Tryz.f3) [true,true,true,true,true,true,true,true,true,false]) (sub (codeOf Tryz.f3) [true,true,true,true,true,true,true,true,true,true,false,false])) e2 H6 = some (.normal, e, H6) ∧ e.get 22 = some (.int .i64 (0 : Nat)) ∧ e.get 132 = some v ∧ e.get 133 = some (.int .i64 (rs.length : Nat)) ∧ e.get 134 = some (.int .i64 (0 : Nat)) ∧ ∀ t, t < 12 → e.get t = e2.get t := by
    simp only [codeOf, Tryz.f3, sub, go_seq, go_region, opsSeq_step, opsSeq_guard, guardStep_true, guardStep_false, guardVal, opsSeq_nil, afterStep_some, afterStep_none, stepC, kindOf, quietC, evC, Nat.reduceLT, Tr.get_set, if_true, if_false, Nat.reduceEqDiff, Option.map_some, Option.bind_some, List.getElem?_toArray, List.getElem?_cons_zero, List.getElem?_cons_succ, ofVal, decide_true, decide_false, BEq.rfl, andThen_normal, andThen_exit, andThen_ret, inBlock_normal, inBlock_ret, go_skip, go_exit, go_ret, loudStep, isCall, loudC, targetC, evs, evParts, mapO, List.nil_append, List.append_nil, List.cons_append, loadC, Heap.skip_get, Heap.get_put, Heap.skip_next, Heap.put_next, (bq 3 (by omega)).trans a3, g24, hB6.hba, hlv]
    refine ⟨_, rfl, by simp only [Tr.get_set, Nat.reduceEqDiff, if_false, if_true]; rfl, by simp only [Tr.get_set, Nat.reduceEqDiff, if_false, if_true], by simp only [Tr.get_set, Nat.reduceEqDiff, if_false, if_true], by simp only [Tr.get_set, if_true]; rfl, fun t ht => ?_⟩
    simp only [Tr.get_set, show t ≠ 22 by omega, show t ≠ 132 by omega, show t ≠ 133 by omega, show t ≠ 134 by omega, if_false]
  obtain ⟨e3, gc, c22, c132, c133, c134, cq⟩ := gc
  obtain ⟨e4, H7, gd, d22, d8, x7⟩ := lw_last (X := X) hX.l hr30 hR hB6 k6' ((cq 8 (by omega)).trans ((bq 8 (by omega)).trans a8)) ((cq 10 (by omega)).trans ((bq 10 (by omega)).trans a10)) c22 c132 c133 c134
  have hcode : codeOf Tryz.f3 = .seq (sub (codeOf Tryz.f3) [false]) (.seq (sub (codeOf Tryz.f3) [true,false]) (.seq (sub (codeOf Tryz.f3) [true,true,false]) (.seq (sub (codeOf Tryz.f3) [true,true,true,false]) (.seq (sub (codeOf Tryz.f3) [true,true,true,true,false]) (.seq (sub (codeOf Tryz.f3) [true,true,true,true,true,false]) (.seq (sub (codeOf Tryz.f3) [true,true,true,true,true,true,false]) (.seq (sub (codeOf Tryz.f3) [true,true,true,true,true,true,true,false]) (.seq (.seq (sub (codeOf Tryz.f3) [true,true,true,true,true,true,true,true,false,false]) (.block 0 (sub (codeOf Tryz.f3) [true,true,true,true,true,true,true,true,false,true,false]))) (.seq (sub (codeOf Tryz.f3) [true,true,true,true,true,true,true,true,true,false]) (.seq (.seq (sub (codeOf Tryz.f3) [true,true,true,true,true,true,true,true,true,true,false,false]) (.block 8 (sub (codeOf Tryz.f3) [true,true,true,true,true,true,true,true,true,true,false,true,false]))) (.seq (sub (codeOf Tryz.f3) [true,true,true,true,true,true,true,true,true,true,true,false]) .ret))))))))))) := rfl
  have key : ∃ e, go Tryz.prog X 169 (codeOf Tryz.f3) (envOf [l] 0 .nil) H = some (.ret, e, H7) ∧ e.get 2 = some (.bool true) := by
    have hd : decide (((tiedTo rs rs.length).length : Int) = ((tiedTo rs rs.length).length : Int)) = true := by simp
    rw [go_code hcode, go_loop8, ga, andThen_normal, go_block, gb, inBlock_exit, if_pos rfl, andThen_normal, go_loop2, gc, andThen_normal, go_block, gd, inBlock_exit, if_pos rfl, andThen_normal]
    simp only [codeOf, Tryz.f3, sub, go_seq, go_region, opsSeq_step, opsSeq_guard, guardStep_true, guardStep_false, guardVal, opsSeq_nil, afterStep_some, afterStep_none, stepC, kindOf, quietC, evC, Nat.reduceLT, Tr.get_set, if_true, if_false, Nat.reduceEqDiff, Option.map_some, Option.bind_some, List.getElem?_toArray, List.getElem?_cons_zero, List.getElem?_cons_succ, ofVal, decide_true, decide_false, BEq.rfl, andThen_normal, andThen_exit, andThen_ret, inBlock_normal, inBlock_ret, go_skip, go_exit, go_ret, loudStep, isCall, loudC, targetC, evs, evParts, mapO, List.nil_append, List.append_nil, List.cons_append, loadC, Heap.skip_get, Heap.get_put, Heap.skip_next, Heap.put_next, d22, d8, hli, bin_eql, hd]
    exact ⟨_, rfl, by simp only [Tr.get_set, if_true]⟩
  obtain ⟨e, key, e2'⟩ := key
  refine ⟨H7, calls_ret (hX.x3 _ _) Tryz.func3 rfl (by decide) (nt := 169) rfl key (results_one e2'), ?_⟩
  have y2 := x1.trans (x2.le x1.1)
  have y3 := y2.trans (x3.le y2.1)
  have y4 := y3.trans (x4.le y3.1)
  have y5 := y4.trans (x5.le y4.1)
  have y6 := y5.trans (x6.le y5.1)
  exact y6.trans (x7.le y6.1)
end Go.Y
