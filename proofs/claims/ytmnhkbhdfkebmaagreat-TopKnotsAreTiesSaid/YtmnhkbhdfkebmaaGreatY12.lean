/- Knots: what is done ahead of its range over a map. Knots: behind its range, the units that are reached from the first one. Knots: behind its range, one knot and the rest. -/
import Derived.Test.YtmnhkbhdfkebmaaGreatY11

set_option linter.unusedSimpArgs false
set_option linter.unusedVariables false

namespace Go.Y
open Go.K Go.Proofs
set_option linter.unusedSimpArgs false
set_option linter.unusedVariables false
set_option maxRecDepth 10000

variable {X : CallFn}

theorem mem_tiedTo {rs : Rels} {n i : Nat} : i ∈ tiedTo rs n ↔ i < n ∧ ∃ h : i < rs.length, Tied rs rs[i] := by
  simp only [tiedTo, List.mem_filter, List.mem_range]
  refine and_congr_right fun _ => ?_
  by_cases h : i < rs.length
  · simp [h, tied_iff]
  · simp [h]
/-- The lower units of some of the relations. -/
def lowsAt (rs : Rels) (is : List Nat) : List Nat := is.map fun i => match rs[i]? with | some r => r.2.2 | none => 0
theorem mem_lowsAt {rs : Rels} {a : Nat} : a ∈ lowsAt rs (tiedTo rs rs.length) ↔ Low rs a := by
  simp only [lowsAt, List.mem_map, mem_tiedTo]
  constructor
  · rintro ⟨i, ⟨_, h, ht⟩, e⟩
    rw [List.getElem?_eq_getElem h] at e
    exact ⟨rs[i], List.getElem_mem h, ht, e⟩
  · rintro ⟨r, hr, ht, e⟩
    obtain ⟨i, hi, rfl⟩ := List.mem_iff_getElem.1 hr
    exact ⟨i, ⟨hi, hi, ht⟩, by rw [List.getElem?_eq_getElem hi]; exact e⟩

theorem go_loop4 {P : Program} {nt : Nat} {a b c p q r : Code} {env : Env} {H : Heap} : go P X nt (.seq a (.seq b (.seq c (.seq (.seq p q) r)))) env H = andThen (go P X nt (.seq a (.seq b (.seq c p))) env H) fun e H => andThen (go P X nt q e H) fun e H => go P X nt r e H := by
  rw [go_seq, go_seq, ← then_assoc]
  congr 1; funext e H; rw [go_loop3]
theorem go_loop5 {P : Program} {nt : Nat} {a b c d p q r : Code} {env : Env} {H : Heap} : go P X nt (.seq a (.seq b (.seq c (.seq d (.seq (.seq p q) r))))) env H = andThen (go P X nt (.seq a (.seq b (.seq c (.seq d p)))) env H) fun e H => andThen (go P X nt q e H) fun e H => go P X nt r e H := by
  rw [go_seq, go_seq, ← then_assoc]
  congr 1; funext e H; rw [go_loop4]

theorem knotA_ok (hX : YX X) (hX18 : X 18 = fun _ _ => none) (hX19 : X 19 = fun _ _ => none) (hX37 : X 37 = fun _ _ => none) (hX21 : X 21 = fun _ _ => none) {l : CV} {rs : Rels} {H : Heap} (hr : rs.length ≤ 30) (hR : ∀ r ∈ rs, Right r) (hl : Has H 3 41 l (rs.map relCV)) (hk : HOk H) :
    ∃ eA HA bm bg bg2 al, go Tryz.prog X 120 knotA (envOf [l] 0 .nil) H = some (.normal, eA, HA) ∧ eA.get 6 = some (.map bm) ∧ eA.get 5 = some (.ptr bg 0) ∧ eA.get 9 = some .nilSlice ∧ KOK HA bm al ∧ (∀ a, a ∈ keysOf al ↔ Low rs a) ∧
      HA.get bg = some (.cells [l, .map bg2] 80 none) ∧ bg < HA.next ∧ Ext H.next H HA := by
  have h0 : (envOf [l] 0 .nil).get 0 = some l := by simp [envOf, Tr.get_set]
  obtain ⟨H1, c1, k1, x1⟩ := check_ok hX.x15 hX.x18 hX.x33 hX.sort hX.check hr hR hl hk
  obtain ⟨bg, bm', H2, c2, g2, l2, n2, k2, x2⟩ := open_ok (X := X) hX18 hr hR (hl.ext x1 hl.lt) k1
  generalize hH3 : (H2.skip 1).put H2.next (.map [] 0) = H3
  have x3 : Ext H2.next H2 H3 := by rw [← hH3]; exact Ext.skip.trans (Ext.put (Nat.le_refl _))
  have k3 : HOk H3 := by rw [← hH3]; exact Hok.put rfl (Hok.skip 1 k2)
  have n3 : H3.next = H2.next + 1 := by rw [← hH3]; rfl
  have m3 : H3.get H2.next = some (.map [] 0) := by rw [← hH3, Heap.get_put, if_pos rfl]
  have x12 : Ext H.next H H2 := x1.trans (x2.le x1.1)
  have x13 : Ext H.next H H3 := x12.trans (x3.le x12.1)
  have hg3 := x3.2 _ _ l2 g2
  obtain ⟨v, f, H4, c4, o4, k4, x4⟩ := involved_ok (X := X) hX19 hX37 hX21 hr hR (hl.ext x13 hl.lt) hg3 (by omega) k3
  have x14 : Ext H.next H H4 := x13.trans (x4.le x13.1)
  have hg4 := x4.2 _ _ (by omega) hg3
  have m4 := x4.2 _ _ (by omega) m3
  have hlen := o4.has.len (P := Tryz.prog) u26
  rw [List.length_map] at hlen
  have ga : ∃ e, go Tryz.prog X 120 (.seq (sub (codeOf Tryz.f9) [false]) (.seq (sub (codeOf Tryz.f9) [true,false]) (.seq (sub (codeOf Tryz.f9) [true,true,false]) (.seq (sub (codeOf Tryz.f9) [true,true,true,false]) (sub (codeOf Tryz.f9) [true,true,true,true,false,false]))))) (envOf [l] 0 .nil) H = some (.normal, e, H4) ∧ e.get 0 = some l ∧ e.get 5 = some (.ptr bg 0) ∧ e.get 6 = some (.map H2.next) ∧ e.get 33 = some v ∧ e.get 34 = some (.int .i64 ((tiedTo rs rs.length).length : Nat)) ∧ e.get 35 = some (.int .i64 (0 : Nat)) := by
    simp only [codeOf, Tryz.f9, sub, go_seq, go_region, opsSeq_step, opsSeq_guard, guardStep_true, guardStep_false, guardVal, opsSeq_nil, afterStep_some, afterStep_none, stepC, kindOf, quietC, evC, Nat.reduceLT, Tr.get_set, if_true, if_false, Nat.reduceEqDiff, Option.map_some, Option.bind_some, List.getElem?_toArray, List.getElem?_cons_zero, List.getElem?_cons_succ, ofVal, decide_true, decide_false, BEq.rfl, andThen_normal, andThen_exit, andThen_ret, inBlock_normal, inBlock_ret, go_skip, go_exit, go_ret, loudStep, isCall, loudC, targetC, evs, evParts, mapO, List.nil_append, List.append_nil, List.cons_append, loadC, Heap.skip_get, Heap.get_put, Heap.skip_next, Heap.put_next, h0, c1, bin_neq, ne_eq, not_true_eq_false]
    rw [go_cond _ _ _ (v := false) (by simp only [evC, Tr.get_set, if_true])]
    simp only [go_seq, go_region, opsSeq_step, opsSeq_guard, guardStep_true, guardStep_false, guardVal, opsSeq_nil, afterStep_some, afterStep_none, stepC, kindOf, quietC, evC, Nat.reduceLT, Tr.get_set, if_true, if_false, Nat.reduceEqDiff, Option.map_some, Option.bind_some, List.getElem?_toArray, List.getElem?_cons_zero, List.getElem?_cons_succ, ofVal, decide_true, decide_false, BEq.rfl, andThen_normal, andThen_exit, andThen_ret, inBlock_normal, inBlock_ret, go_skip, go_exit, go_ret, loudStep, isCall, loudC, targetC, evs, evParts, mapO, List.nil_append, List.append_nil, List.cons_append, loadC, Heap.skip_get, Heap.get_put, Heap.skip_next, Heap.put_next, Bool.false_eq_true, h0, c2, mkm, hH3, c4, hlen]
    refine ⟨_, rfl, by simp only [Tr.get_set, Nat.reduceEqDiff, if_false, h0], by simp only [Tr.get_set, Nat.reduceEqDiff, if_false, if_true], by simp only [Tr.get_set, Nat.reduceEqDiff, if_false, if_true], by simp only [Tr.get_set, Nat.reduceEqDiff, if_false, if_true], by simp only [Tr.get_set, Nat.reduceEqDiff, if_false, if_true], by simp only [Tr.get_set, if_true]; rfl⟩
  obtain ⟨e1, ga, a0, a5, a6, a33, a34, a35⟩ := ga
  have hbm : H.next ≤ H2.next := x12.1
  have hL := range_loop (P := Tryz.prog) (X := X) (nt := 120) (code := sub (codeOf Tryz.f9) [true,true,true,true,false,true,false]) (hd := sub (codeOf Tryz.f9) [true,true,true,true,false,true,false,false,false]) (body := sub (codeOf Tryz.f9) [true,true,true,true,false,true,false,false,true,true,false,false]) (inc := sub (codeOf Tryz.f9) [true,true,true,true,false,true,false,false,true,true,true]) (ti := 35) (tn := 34) (tc := 36) (tx := 45) (e := 0) (b := 1) rfl (by omega)
    (fun env H i n h1 h2 => by simp only [codeOf, Tryz.f9, sub, go_seq, go_region, opsSeq_step, opsSeq_guard, guardStep_true, guardStep_false, guardVal, opsSeq_nil, afterStep_some, afterStep_none, stepC, kindOf, quietC, evC, Nat.reduceLT, Tr.get_set, if_true, if_false, Nat.reduceEqDiff, Option.map_some, Option.bind_some, List.getElem?_toArray, List.getElem?_cons_zero, List.getElem?_cons_succ, ofVal, decide_true, decide_false, BEq.rfl, andThen_normal, andThen_exit, andThen_ret, inBlock_normal, inBlock_ret, go_skip, go_exit, go_ret, loudStep, isCall, loudC, targetC, evs, evParts, mapO, List.nil_append, List.append_nil, List.cons_append, loadC, Heap.skip_get, Heap.get_put, Heap.skip_next, Heap.put_next, h1, h2, bin_lss]) (fun env H i h1 hw => by simp only [codeOf, Tryz.f9, sub, go_seq, go_region, opsSeq_step, opsSeq_guard, guardStep_true, guardStep_false, guardVal, opsSeq_nil, afterStep_some, afterStep_none, stepC, kindOf, quietC, evC, Nat.reduceLT, Tr.get_set, if_true, if_false, Nat.reduceEqDiff, Option.map_some, Option.bind_some, List.getElem?_toArray, List.getElem?_cons_zero, List.getElem?_cons_succ, ofVal, decide_true, decide_false, BEq.rfl, andThen_normal, andThen_exit, andThen_ret, inBlock_normal, inBlock_ret, go_skip, go_exit, go_ret, loudStep, isCall, loudC, targetC, evs, evParts, mapO, List.nil_append, List.append_nil, List.cons_append, loadC, Heap.skip_get, Heap.get_put, Heap.skip_next, Heap.put_next, h1, bin_add, hw]) (by omega) (n := (tiedTo rs rs.length).length) (by have := tiedTo_length rs rs.length; omega)
    (fun k e G => e.get 0 = some l ∧ e.get 5 = some (.ptr bg 0) ∧ e.get 6 = some (.map H2.next) ∧ e.get 33 = some v ∧ ∃ es, MapIs G H2.next es ∧ (keysOf es).Nodup ∧ (∀ a, a ∈ keysOf es ↔ a ∈ lowsAt rs ((tiedTo rs rs.length).take k)) ∧ HOk G ∧ Ext H2.next H4 G ∧ G.get H2.next = some (.map (ents 0 es) es.length) ∧ Own G f 1 3 v ((tiedTo rs rs.length).map nI)) (fun _ _ => False)
    (fun k e G t w ht ⟨q0, q5, q6, q33, r⟩ => ⟨by rcases ht with rfl | rfl | rfl <;> simp only [Tr.get_set, Nat.reduceEqDiff, if_false, q0], by rcases ht with rfl | rfl | rfl <;> simp only [Tr.get_set, Nat.reduceEqDiff, if_false, q5], by rcases ht with rfl | rfl | rfl <;> simp only [Tr.get_set, Nat.reduceEqDiff, if_false, q6], by rcases ht with rfl | rfl | rfl <;> simp only [Tr.get_set, Nat.reduceEqDiff, if_false, q33], r⟩)
    (fun k e G hk' ⟨q0, q5, q6, q33, es, hM, hnd, hmem, kG, xG, gG, oG⟩ h1 h2 => by
      left
      obtain ⟨b, off, cs, fam, _, _, hidx, hget, _, hcell⟩ := oG.has.at (P := Tryz.prog) (t := 34) u26 s3 (i := k) (by simpa using hk')
      rw [List.getElem_map] at hcell
      have c0 : cs[off]? = some (nI (tiedTo rs rs.length)[k]) := hcell 0 _ rfl
      obtain ⟨_, hi, _⟩ := mem_tiedTo.1 (List.getElem_mem hk')
      generalize hii : (tiedTo rs rs.length)[k] = i at c0 hi
      have xl : Ext H.next H G := x14.trans (xG.le hbm)
      obtain ⟨b', off', cs', fam', _, _, hidx', hget', _, hcell'⟩ := (hl.ext xl hl.lt).at (P := Tryz.prog) (t := 25) u24 s42 (i := i) (by simpa using hi)
      rw [List.getElem_map] at hcell'
      have c2 : cs'[off' + 2]? = some (nm rs[i].2.2) := hcell' 2 _ rfl
      have hrk := hR _ (List.getElem_mem hi)
      obtain ⟨hup, hM'⟩ := map_update (t := 49) (v := .bool true) u49 hM (show rs[i].2.2 < 100 by have := hrk.2.2.2.1; omega)
      generalize hG2 : G.put H2.next (.map (ents 0 (aset es rs[i].2.2 (.bool true))) (aset es rs[i].2.2 (.bool true)).length) = G2 at hup hM'
      have gb : ∃ e2, go Tryz.prog X 120 (sub (codeOf Tryz.f9) [true,true,true,true,false,true,false,false,true,true,false,false]) e G = some (.normal, e2, G2) ∧ ∀ t, t < 36 → t ≠ 8 → e2.get t = e.get t := by
        simp only [codeOf, Tryz.f9, sub, go_seq, go_region, opsSeq_step, opsSeq_guard, guardStep_true, guardStep_false, guardVal, opsSeq_nil, afterStep_some, afterStep_none, stepC, kindOf, quietC, evC, Nat.reduceLT, Tr.get_set, if_true, if_false, Nat.reduceEqDiff, Option.map_some, Option.bind_some, List.getElem?_toArray, List.getElem?_cons_zero, List.getElem?_cons_succ, ofVal, decide_true, decide_false, BEq.rfl, andThen_normal, andThen_exit, andThen_ret, inBlock_normal, inBlock_ret, go_skip, go_exit, go_ret, loudStep, isCall, loudC, targetC, evs, evParts, mapO, List.nil_append, List.append_nil, List.cons_append, loadC, Heap.skip_get, Heap.get_put, Heap.skip_next, Heap.put_next, h1, q33, hidx, g3, hget, c0, q6, q0, hidx', fa42_2, g9, hget', c2, hup]
        refine ⟨_, rfl, fun t ht n8 => ?_⟩
        simp only [Tr.get_set, n8, show t ≠ 37 by omega, show t ≠ 38 by omega, show t ≠ 39 by omega, show t ≠ 40 by omega, show t ≠ 41 by omega, show t ≠ 42 by omega, show t ≠ 43 by omega, show t ≠ 44 by omega, if_false]
      obtain ⟨e2, gb, bq⟩ := gb
      have htake : (tiedTo rs rs.length).take (k + 1) = (tiedTo rs rs.length).take k ++ [i] := by rw [List.take_add_one, List.getElem?_eq_getElem hk', hii, Option.toList_some]
      refine ⟨.normal, e2, G2, gb, .inl rfl, ⟨(bq 0 (by omega) (by omega)).trans q0, (bq 5 (by omega) (by omega)).trans q5, (bq 6 (by omega) (by omega)).trans q6, (bq 33 (by omega) (by omega)).trans q33, _, hM', ?_, fun a => ?_, ?_, ?_, hM'.get, ?_⟩, (bq 35 (by omega) (by omega)).trans h1, (bq 34 (by omega) (by omega)).trans h2⟩
      · rw [keys_aset]
        split
        · exact hnd
        · rename_i hn
          rw [List.nodup_append]
          refine ⟨hnd, by simp, fun a ha b hb e => ?_⟩
          rw [List.mem_singleton.1 hb] at e
          exact hn (e ▸ ha)
      · have hap : lowsAt rs ((tiedTo rs rs.length).take k ++ [i]) = lowsAt rs ((tiedTo rs rs.length).take k) ++ [rs[i].2.2] := by
          simp only [lowsAt, List.map_append, List.map_cons, List.map_nil, List.getElem?_eq_getElem hi]
        rw [htake, hap, keys_aset, List.mem_append, List.mem_singleton, ← hmem a]
        split
        · rename_i hin
          constructor
          · exact .inl
          · rintro (h | rfl)
            · exact h
            · exact hin
        · rw [List.mem_append, List.mem_singleton]
      · rw [← hG2]; exact Hok.put rfl kG
      · refine xG.trans ?_
        rw [← hG2]; exact Ext.put (Nat.le_refl _)
      · have hne : ∀ b off len cap, v = .slice b off len cap → b ≠ H2.next := by
          intro b off len cap e'
          rcases o4.2 with ⟨e, _⟩ | ⟨b', p, e, _, _, _, hg'⟩
          · rw [e] at e'; cases e'
          · rw [e] at e'; injection e' with e1
            subst e1
            intro e2
            rw [e2, m4] at hg'
            cases hg'
        refine ⟨oG.1, ?_⟩
        rcases oG.2 with h | ⟨b, p, hv, h1, h2, h3, h4⟩
        · exact .inl h
        · refine .inr ⟨b, p, hv, h1, ?_, h3, ?_⟩
          · rw [← hG2]; exact h2
          · rw [← hG2, Heap.get_put, if_neg (hne _ _ _ _ hv)]; exact h4)
  rcases hL (tiedTo rs rs.length).length 0 e1 H4 (by omega) ⟨a0, a5, a6, a33, [], ⟨m4, fun y hy => by simp [keysOf] at hy⟩, by simp [keysOf], fun a => by simp [keysOf, lowsAt], k4, Ext.refl _ _, m4, o4⟩ a35 a34 with ⟨e2, HA, g, b0, b5, b6, _, es, hM, hnd, hmem, kA, xA, _, _⟩ | ⟨_, _, _, ff⟩
  · have hx : Ext H.next H HA := x14.trans (xA.le hbm)
    have hlow : ∀ a, a ∈ keysOf es ↔ Low rs a := fun a => by rw [hmem a, List.take_length, mem_lowsAt]
    have hlt8 : ∀ y ∈ keysOf es, y < 8 := fun y hy => by
      obtain ⟨r, hr', _, e⟩ := (hlow y).1 hy
      rw [← e]; exact (hR r hr').2.2.2.1
    have hlen8 : es.length ≤ 8 := by
      have := hnd.length_le_of_subset (l₂ := List.range 8) (fun x hx => List.mem_range.2 (hlt8 x hx))
      simpa [keysOf] using this
    have gc : ∃ e3, go Tryz.prog X 120 (sub (codeOf Tryz.f9) [true,true,true,true,true,false]) e2 HA = some (.normal, e3, HA) ∧ e3.get 9 = some .nilSlice ∧ ∀ t, t < 9 → e3.get t = e2.get t := by
      simp only [codeOf, Tryz.f9, sub, go_seq, go_region, opsSeq_step, opsSeq_guard, guardStep_true, guardStep_false, guardVal, opsSeq_nil, afterStep_some, afterStep_none, stepC, kindOf, quietC, evC, Nat.reduceLT, Tr.get_set, if_true, if_false, Nat.reduceEqDiff, Option.map_some, Option.bind_some, List.getElem?_toArray, List.getElem?_cons_zero, List.getElem?_cons_succ, ofVal, decide_true, decide_false, BEq.rfl, andThen_normal, andThen_exit, andThen_ret, inBlock_normal, inBlock_ret, go_skip, go_exit, go_ret, loudStep, isCall, loudC, targetC, evs, evParts, mapO, List.nil_append, List.append_nil, List.cons_append, loadC, Heap.skip_get, Heap.get_put, Heap.skip_next, Heap.put_next]
      refine ⟨_, rfl, by simp only [Tr.get_set, if_true], fun t ht => ?_⟩
      simp only [Tr.get_set, show t ≠ 9 by omega, if_false]
    obtain ⟨e3, gc, c9, cq⟩ := gc
    refine ⟨e3, HA, H2.next, bg, bm', es, ?_, (cq 6 (by omega)).trans b6, (cq 5 (by omega)).trans b5, c9, ⟨hM, hnd, kA, by omega, by have := xA.1; have := x4.1; omega⟩, hlow, xA.2 _ _ l2 hg4, by have := xA.1; have := x4.1; omega, hx⟩
    have hcode : knotA = .seq (sub (codeOf Tryz.f9) [false]) (.seq (sub (codeOf Tryz.f9) [true,false]) (.seq (sub (codeOf Tryz.f9) [true,true,false]) (.seq (sub (codeOf Tryz.f9) [true,true,true,false]) (.seq (.seq (sub (codeOf Tryz.f9) [true,true,true,true,false,false]) (.block 0 (sub (codeOf Tryz.f9) [true,true,true,true,false,true,false]))) (sub (codeOf Tryz.f9) [true,true,true,true,true,false]))))) := rfl
    rw [go_code hcode, go_loop5, ga, andThen_normal, go_block, g, inBlock_exit, if_pos rfl, andThen_normal, gc]
  · exact ff.elim
end Go.Y

namespace Go.Y
open Go.K Go.Proofs
set_option linter.unusedSimpArgs false
set_option linter.unusedVariables false
set_option maxRecDepth 10000

variable {X : CallFn}

/-- What stays while the knots are made. -/
structure KB (H : Heap) (l : CV) (rs : Rels) (bg bg2 : Nat) (v : CV) (all : List Nat) : Prop where
  hl : Has H 3 41 l (rs.map relCV)
  hg : H.get bg = some (.cells [l, .map bg2] 80 none)
  lg : bg < H.next
  hv : Has H 1 9 v (all.map nm)
  lt : ∀ x ∈ all, x < 8
theorem KB.ext {H H' : Heap} {l v : CV} {rs : Rels} {bg bg2 : Nat} {all : List Nat} (h : KB H l rs bg bg2 v all) (hx : Ext H.next H H') : KB H' l rs bg bg2 v all :=
  ⟨h.hl.ext hx h.hl.lt, hx.2 _ _ h.lg h.hg, Nat.lt_of_lt_of_le h.lg hx.1, h.hv.ext hx h.hv.lt, h.lt⟩

open Classical in
noncomputable def led (rs : Rels) (a b : Nat) : Bool := decide (Leads rs a b)
theorem led_iff {rs : Rels} {a b : Nat} : led rs a b = true ↔ Leads rs a b := by simp [led]
theorem both_led (rs : Rels) (a b : Nat) : both rs a b = (led rs a b && led rs b a) := by
  rw [Bool.eq_iff_iff, both_iff, Bool.and_eq_true, led_iff, led_iff]; exact Iff.rfl

/-- The map of those that are reached. -/
structure FM (G : Heap) (bf : Nat) (rs : Rels) (u0 : Nat) (some' : List Nat) (es : AL) : Prop where
  m : MapIs G bf es
  seen : ∀ y, (aget es y).isSome = true ↔ y ∈ some' ∧ Leads rs u0 y
  val : ∀ y w, aget es y = some w → w = .bool true

theorem kc_from (hX21 : X 21 = fun _ _ => none) {l v : CV} {rs : Rels} {H G0 : Heap} {bg bg2 bf u0 : Nat} {t : List Nat} {env : Env} (hr : rs.length ≤ 30) (hR : ∀ r ∈ rs, Right r) (hb : KB H l rs bg bg2 v (u0 :: t)) (hlen : (u0 :: t).length ≤ 100)
    (x0 : Ext H.next H G0) (k0 : HOk G0) (hbf : H.next ≤ bf) (lbf : bf < G0.next) (m0 : G0.get bf = some (.map [] 0))
    (h5 : env.get 5 = some (.ptr bg 0)) (h9 : env.get 9 = some v) (h13 : env.get 13 = some (.map bf)) (h67 : env.get 67 = some v) (h68 : env.get 68 = some (.int .i64 ((u0 :: t).length : Nat))) (h69 : env.get 69 = some (.int .i64 (0 : Nat))) :
    ∃ env' G es, go Tryz.prog X 120 (sub (codeOf Tryz.f9) [true,true,true,true,true,true,true,true,true,false,false,false,true,false,true,true,false,true,false]) env G0 = some (.exit 6, env', G) ∧ FM G bf rs u0 (u0 :: t) es ∧ HOk G ∧ Ext H.next H G ∧ bf < G.next ∧ ∀ t, t < 15 → env'.get t = env.get t := by
  have hL := range_loop (P := Tryz.prog) (X := X) (nt := 120) (code := sub (codeOf Tryz.f9) [true,true,true,true,true,true,true,true,true,false,false,false,true,false,true,true,false,true,false]) (hd := sub (codeOf Tryz.f9) [true,true,true,true,true,true,true,true,true,false,false,false,true,false,true,true,false,true,false,false,false]) (body := sub (codeOf Tryz.f9) [true,true,true,true,true,true,true,true,true,false,false,false,true,false,true,true,false,true,false,false,true,true,false,false]) (inc := sub (codeOf Tryz.f9) [true,true,true,true,true,true,true,true,true,false,false,false,true,false,true,true,false,true,false,false,true,true,true]) (ti := 69) (tn := 68) (tc := 70) (tx := 86) (e := 6) (b := 7) rfl (by omega)
    (fun env H i n h1 h2 => by simp only [codeOf, Tryz.f9, sub, go_seq, go_region, opsSeq_step, opsSeq_guard, guardStep_true, guardStep_false, guardVal, opsSeq_nil, afterStep_some, afterStep_none, stepC, kindOf, quietC, evC, Nat.reduceLT, Tr.get_set, if_true, if_false, Nat.reduceEqDiff, Option.map_some, Option.bind_some, List.getElem?_toArray, List.getElem?_cons_zero, List.getElem?_cons_succ, ofVal, decide_true, decide_false, BEq.rfl, andThen_normal, andThen_exit, andThen_ret, inBlock_normal, inBlock_ret, go_skip, go_exit, go_ret, loudStep, isCall, loudC, targetC, evs, evParts, mapO, List.nil_append, List.append_nil, List.cons_append, loadC, Heap.skip_get, Heap.get_put, Heap.skip_next, Heap.put_next, h1, h2, bin_lss]) (fun env H i h1 hw => by simp only [codeOf, Tryz.f9, sub, go_seq, go_region, opsSeq_step, opsSeq_guard, guardStep_true, guardStep_false, guardVal, opsSeq_nil, afterStep_some, afterStep_none, stepC, kindOf, quietC, evC, Nat.reduceLT, Tr.get_set, if_true, if_false, Nat.reduceEqDiff, Option.map_some, Option.bind_some, List.getElem?_toArray, List.getElem?_cons_zero, List.getElem?_cons_succ, ofVal, decide_true, decide_false, BEq.rfl, andThen_normal, andThen_exit, andThen_ret, inBlock_normal, inBlock_ret, go_skip, go_exit, go_ret, loudStep, isCall, loudC, targetC, evs, evParts, mapO, List.nil_append, List.append_nil, List.cons_append, loadC, Heap.skip_get, Heap.get_put, Heap.skip_next, Heap.put_next, h1, bin_add, hw]) (by omega) (n := (u0 :: t).length) (by omega)
    (fun k e G => (∀ t, t < 15 → e.get t = env.get t) ∧ e.get 67 = some v ∧ ∃ es, FM G bf rs u0 ((u0 :: t).take k) es ∧ HOk G ∧ Ext H.next H G ∧ bf < G.next) (fun _ _ => False)
    (fun k e G s w hs ⟨q, q67, r⟩ => ⟨fun t ht => by rcases hs with rfl | rfl | rfl <;> (rw [Tr.get_set, if_neg (by omega)]; exact q t ht), by rcases hs with rfl | rfl | rfl <;> simp only [Tr.get_set, Nat.reduceEqDiff, if_false, q67], r⟩)
    (fun k e G hk ⟨q, q67, es, hF, kG, xG, lG⟩ h1 h2 => by
      left
      have hbG := hb.ext xG
      obtain ⟨b, off, cs, fam, lb, _, hidx, hget, _, hcell⟩ := hbG.hv.at (P := Tryz.prog) (t := 27) u30 s9 (i := k) (by simpa using hk)
      obtain ⟨b', off', cs', fam', lb', _, hidx', hget', _, hcell'⟩ := hbG.hv.at (P := Tryz.prog) (t := 27) u30 s9 (i := 0) (by simp)
      rw [List.getElem_map] at hcell hcell'
      have c0 : cs[off]? = some (nm (u0 :: t)[k]) := hcell 0 _ rfl
      have c0' : cs'[off']? = some (nm u0) := hcell' 0 _ rfl
      have hidx0 : indexAddrC Tryz.prog 27 v (.int .i64 0) = some (.ptr b' off') := hidx' _
      have hx8 := hb.lt _ (List.getElem_mem hk)
      generalize hxk : (u0 :: t)[k] = x at c0 hx8
      have hu8 := hb.lt u0 (List.mem_cons_self ..)
      have xs : Ext G.next G (G.skip 12) := Ext.skip
      obtain ⟨bo, ds, G2, d1, d2, d3, d4, d5, d6, d7⟩ := distances_ok (X := X) hX21 (t := x) hr hR hx8 (hbG.ext xs).hl (hbG.ext xs).hg (hbG.ext xs).lg (Hok.skip 12 kG)
      have x2 : Ext G.next G G2 := xs.trans (d6.le xs.1)
      have hget2 := x2.2 _ _ lb' hget'
      obtain ⟨kk, hkk⟩ : ∃ kk : Int, (aget ds u0).getD (.int .i64 0) = .int .i64 kk := by
        cases e : aget ds u0 with
        | none => exact ⟨0, rfl⟩
        | some w => exact d7 _ w e
      have hlk := map_lookup_ok (t := 52) u52 zi3 d2 (show u0 < 100 by omega)
      have hsn : (aget ds u0).isSome = led rs u0 x := by
        rw [Bool.eq_iff_iff, led_iff]; exact d4 u0
      rw [hkk, hsn] at hlk
      have hcl := hb.hv.isSl.cbeq
      have ga : ∃ e2, go Tryz.prog X 120 (sub (codeOf Tryz.f9) [true,true,true,true,true,true,true,true,true,false,false,false,true,false,true,true,false,true,false,false,true,true,false,false,false]) e G = some (.normal, e2, G) ∧ e2.get 15 = some (nm x) ∧ ∀ t, t < 70 → t ≠ 15 → e2.get t = e.get t := by
        simp only [codeOf, Tryz.f9, sub, go_seq, go_region, opsSeq_step, opsSeq_guard, guardStep_true, guardStep_false, guardVal, opsSeq_nil, afterStep_some, afterStep_none, stepC, kindOf, quietC, evC, Nat.reduceLT, Tr.get_set, if_true, if_false, Nat.reduceEqDiff, Option.map_some, Option.bind_some, List.getElem?_toArray, List.getElem?_cons_zero, List.getElem?_cons_succ, ofVal, decide_true, decide_false, BEq.rfl, andThen_normal, andThen_exit, andThen_ret, inBlock_normal, inBlock_ret, go_skip, go_exit, go_ret, loudStep, isCall, loudC, targetC, evs, evParts, mapO, List.nil_append, List.append_nil, List.cons_append, loadC, Heap.skip_get, Heap.get_put, Heap.skip_next, Heap.put_next, h1, q67, hidx, g9, hget, c0]
        refine ⟨_, rfl, by simp only [Tr.get_set, if_true], fun t ht n8 => ?_⟩
        simp only [Tr.get_set, n8, show t ≠ 71 by omega, show t ≠ 72 by omega, if_false]
      obtain ⟨e2, ga, a15, aq⟩ := ga
      have b5 := (aq 5 (by omega) (by omega)).trans ((q 5 (by omega)).trans h5)
      have b9 := (aq 9 (by omega) (by omega)).trans ((q 9 (by omega)).trans h9)
      have gb : ∃ e3, go Tryz.prog X 120 (sub (codeOf Tryz.f9) [true,true,true,true,true,true,true,true,true,false,false,false,true,false,true,true,false,true,false,false,true,true,false,false,true,false]) e2 G = some (.normal, e3, G2) ∧ e3.get 17 = some (.bool (led rs u0 x)) ∧ ∀ t, t < 73 → t ≠ 16 → t ≠ 17 → e3.get t = e2.get t := by
        simp only [codeOf, Tryz.f9, sub]
        rw [go_planned [(0,0,[5],false),(1,0,[15],false),(2,0,[74,75],true),(3,0,[9],false),(4,0,[77],false),(5,0,[78],false),(6,1,[76,79],false),(7,1,[80],false),(8,1,[73],false),(9,1,[73],false),(10,1,[81],false),(11,1,[82],false)] rfl (by kernel_rfl)]
        simp only [drawStep_guard, guardDS_true, guardDS_false, guardVal, BEq.rfl, planRun_cons, planRun_nil, planStep, planEnd, List.getElem?_cons_zero, List.getElem?_cons_succ, drawStep_eq, kindOf, quietAt, quietC, evR, evC, memN, beq_dec, Nat.reduceEqDiff, decide_true, decide_false, setDS_some, loudDS_some, loudDS_none, allocDS_some, Nat.reduceLT, Tr.get_set, if_true, if_false, Option.map_some, Option.bind_some, List.length_cons, List.length_nil, sameAt, Nat.reduceAdd, Nat.reduceSub, ofVal, loadC, Heap.skip_get, Heap.get_put, loudStep, isCall, targetC, evs, evParts, mapO, List.cons_append, List.nil_append, List.append_nil, putAll, ne_eq, reduceCtorEq, not_false_eq_true, Int.reduceEq, eq_self, cbeq_int, cbeq_ptr, cbeq_str, cbeq_bool, cbeq_map, cbeq_slice, cbeq_nilSlice, Bool.and_self, Bool.and_true, Int.reduceNeg, List.append_eq, loudC, List.getElem?_toArray, b5, b9, a15, hidx0, g9, hget', hget2, c0', d1, hlk, hcl, cbeq_nm]
        refine ⟨_, rfl, by simp only [Tr.get_set, if_true], fun t ht n1 n2 => ?_⟩
        simp only [Tr.get_set, n1, n2, show t ≠ 73 by omega, show t ≠ 74 by omega, show t ≠ 75 by omega, show t ≠ 76 by omega, show t ≠ 77 by omega, show t ≠ 78 by omega, show t ≠ 79 by omega, show t ≠ 80 by omega, show t ≠ 81 by omega, show t ≠ 82 by omega, if_false]
      obtain ⟨e3, gb, b17, bq⟩ := gb
      have gc : ∃ e4, go Tryz.prog X 120 (sub (codeOf Tryz.f9) [true,true,true,true,true,true,true,true,true,false,false,false,true,false,true,true,false,true,false,false,true,true,false,false,true,true,false]) e3 G2 = some (.normal, e4, G2) ∧ e4.get 83 = some (.bool (led rs u0 x)) ∧ ∀ t, t < 83 → e4.get t = e3.get t := by
        simp only [codeOf, Tryz.f9, sub, go_seq, go_region, opsSeq_step, opsSeq_guard, guardStep_true, guardStep_false, guardVal, opsSeq_nil, afterStep_some, afterStep_none, stepC, kindOf, quietC, evC, Nat.reduceLT, Tr.get_set, if_true, if_false, Nat.reduceEqDiff, Option.map_some, Option.bind_some, List.getElem?_toArray, List.getElem?_cons_zero, List.getElem?_cons_succ, ofVal, decide_true, decide_false, BEq.rfl, andThen_normal, andThen_exit, andThen_ret, inBlock_normal, inBlock_ret, go_skip, go_exit, go_ret, loudStep, isCall, loudC, targetC, evs, evParts, mapO, List.nil_append, List.append_nil, List.cons_append, loadC, Heap.skip_get, Heap.get_put, Heap.skip_next, Heap.put_next, b17]
        refine ⟨_, rfl, by simp only [Tr.get_set, if_true], fun t ht => ?_⟩
        simp only [Tr.get_set, show t ≠ 83 by omega, if_false]
      obtain ⟨e4, gc, c83, cq⟩ := gc
      have hq4 : ∀ t, t < 70 → t ≠ 15 → t ≠ 16 → t ≠ 17 → e4.get t = e.get t := fun t ht n1 n2 n3 => (cq t (by omega)).trans ((bq t (by omega) n2 n3).trans (aq t ht n1))
      have hx2 : Ext H.next H G2 := xG.trans (x2.le xG.1)
      have lG2 : bf < G2.next := Nat.lt_of_lt_of_le lG x2.1
      have hm2 : MapIs G2 bf es := hF.m.ext x2 lG
      have htake : (u0 :: t).take (k + 1) = (u0 :: t).take k ++ [x] := by rw [List.take_add_one, List.getElem?_eq_getElem hk, hxk, Option.toList_some]
      have hcode : sub (codeOf Tryz.f9) [true,true,true,true,true,true,true,true,true,false,false,false,true,false,true,true,false,true,false,false,true,true,false,false] = .seq (sub (codeOf Tryz.f9) [true,true,true,true,true,true,true,true,true,false,false,false,true,false,true,true,false,true,false,false,true,true,false,false,false]) (.seq (sub (codeOf Tryz.f9) [true,true,true,true,true,true,true,true,true,false,false,false,true,false,true,true,false,true,false,false,true,true,false,false,true,false]) (.seq (sub (codeOf Tryz.f9) [true,true,true,true,true,true,true,true,true,false,false,false,true,false,true,true,false,true,false,false,true,true,false,false,true,true,false]) (.cond (.tmp 83) (sub (codeOf Tryz.f9) [true,true,true,true,true,true,true,true,true,false,false,false,true,false,true,true,false,true,false,false,true,true,false,false,true,true,true,false]) .skip))) := rfl
      cases hled : led rs u0 x with
      | false =>
        rw [hled] at c83
        refine ⟨.normal, e4, G2, ?_, .inl rfl, ⟨fun t ht => (hq4 t (by omega) (by omega) (by omega) (by omega)).trans (q t ht), (hq4 67 (by omega) (by omega) (by omega) (by omega)).trans q67, es, ⟨hm2, fun y => ?_, hF.val⟩, d5, hx2, lG2⟩, (hq4 69 (by omega) (by omega) (by omega) (by omega)).trans h1, (hq4 68 (by omega) (by omega) (by omega) (by omega)).trans h2⟩
        · rw [go_code hcode, go_seq, ga, andThen_normal, go_seq, gb, andThen_normal, go_seq, gc, andThen_normal, go_cond _ _ _ (v := false) (by simp only [evC, c83]), if_neg (by simp), go_skip]
        · rw [hF.seen y, htake, List.mem_append, List.mem_singleton]
          constructor
          · exact fun h => ⟨.inl h.1, h.2⟩
          · rintro ⟨h | rfl, hl⟩
            · exact ⟨h, hl⟩
            · rw [led_iff.2 hl] at hled; cases hled
      | true =>
        rw [hled] at c83
        obtain ⟨hup, hM'⟩ := map_update (t := 49) (v := .bool true) u49 hm2 (show x < 100 by omega)
        generalize hG3 : G2.put bf (.map (ents 0 (aset es x (.bool true))) (aset es x (.bool true)).length) = G3 at hup hM'
        have gd : ∃ e5, go Tryz.prog X 120 (sub (codeOf Tryz.f9) [true,true,true,true,true,true,true,true,true,false,false,false,true,false,true,true,false,true,false,false,true,true,false,false,true,true,true,false]) e4 G2 = some (.normal, e5, G3) ∧ ∀ t, t < 84 → e5.get t = e4.get t := by
          simp only [codeOf, Tryz.f9, sub, go_seq, go_region, opsSeq_step, opsSeq_guard, guardStep_true, guardStep_false, guardVal, opsSeq_nil, afterStep_some, afterStep_none, stepC, kindOf, quietC, evC, Nat.reduceLT, Tr.get_set, if_true, if_false, Nat.reduceEqDiff, Option.map_some, Option.bind_some, List.getElem?_toArray, List.getElem?_cons_zero, List.getElem?_cons_succ, ofVal, decide_true, decide_false, BEq.rfl, andThen_normal, andThen_exit, andThen_ret, inBlock_normal, inBlock_ret, go_skip, go_exit, go_ret, loudStep, isCall, loudC, targetC, evs, evParts, mapO, List.nil_append, List.append_nil, List.cons_append, loadC, Heap.skip_get, Heap.get_put, Heap.skip_next, Heap.put_next, (hq4 13 (by omega) (by omega) (by omega) (by omega)).trans ((q 13 (by omega)).trans h13), (cq 15 (by omega)).trans ((bq 15 (by omega) (by omega) (by omega)).trans a15), hup]
          refine ⟨_, rfl, fun t ht => ?_⟩
          simp only [Tr.get_set, show t ≠ 84 by omega, show t ≠ 85 by omega, if_false]
        obtain ⟨e5, gd, dq⟩ := gd
        have hq5 : ∀ t, t < 70 → t ≠ 15 → t ≠ 16 → t ≠ 17 → e5.get t = e.get t := fun t ht n1 n2 n3 => (dq t (by omega)).trans (hq4 t ht n1 n2 n3)
        refine ⟨.normal, e5, G3, ?_, .inl rfl, ⟨fun t ht => (hq5 t (by omega) (by omega) (by omega) (by omega)).trans (q t ht), (hq5 67 (by omega) (by omega) (by omega) (by omega)).trans q67, _, ⟨hM', fun y => ?_, fun y w hy => ?_⟩, ?_, ?_, ?_⟩, (hq5 69 (by omega) (by omega) (by omega) (by omega)).trans h1, (hq5 68 (by omega) (by omega) (by omega) (by omega)).trans h2⟩
        · rw [go_code hcode, go_seq, ga, andThen_normal, go_seq, gb, andThen_normal, go_seq, gc, andThen_normal, go_cond _ _ _ (v := true) (by simp only [evC, c83]), if_pos rfl, gd]
        · rw [aget_aset, htake, List.mem_append, List.mem_singleton]
          by_cases e : y = x
          · subst e; simp [led_iff.1 hled]
          · rw [if_neg e, hF.seen y]; simp [e]
        · rw [aget_aset] at hy
          split at hy
          · exact (Option.some.inj hy).symm
          · exact hF.val y w hy
        · rw [← hG3]; exact Hok.put rfl d5
        · refine hx2.trans ?_
          rw [← hG3]; exact Ext.put hbf
        · rw [← hG3]; exact lG2)
  rcases hL (u0 :: t).length 0 env G0 (by omega) ⟨fun _ _ => rfl, h67, [], ⟨⟨m0, fun y hy => by simp [keysOf] at hy⟩, fun y => by simp [aget], fun y w hy => by simp [aget] at hy⟩, k0, x0, lbf⟩ h69 h68 with ⟨e2, G, g, q, _, es, hF, kG, xG, lG⟩ | ⟨_, _, _, ff⟩
  · rw [List.take_length] at hF
    exact ⟨e2, G, es, g, hF, kG, xG, lG, q⟩
  · exact ff.elim
end Go.Y

namespace Go.Y
open Go.K Go.Proofs
set_option linter.unusedSimpArgs false
set_option linter.unusedVariables false
set_option maxRecDepth 10000

variable {X : CallFn}

theorem own_keep {H H' : Heap} {f e : Nat} {v : CV} {vs : List CV} (h : Own H f 1 e v vs) (hn : H.next ≤ H'.next) (hk : ∀ b o p, b < H.next → H.get b = some o → o.fam = some (f, p) → H'.get b = some o) : Own H' f 1 e v vs := by
  refine ⟨h.1, ?_⟩
  rcases h.2 with h | ⟨b, p, hv, h1, h2, h3, h4⟩
  · exact .inl h
  · exact .inr ⟨b, p, hv, h1, Nat.lt_of_lt_of_le h2 hn, h3, hk b _ p h2 h4 rfl⟩
theorem own_fam {H : Heap} {f e : Nat} {v : CV} {vs : List CV} (h : Own H f 1 e v vs) (hv : v ≠ .nilSlice) : f < H.next := by
  rcases h.2 with ⟨e, _⟩ | ⟨b, p, _, _, h2, h3, _⟩
  · exact absurd e hv
  · omega
theorem own_sl {H : Heap} {f e : Nat} {v : CV} {vs : List CV} (h : Own H f 1 e v vs) : v.cells = [v] ∧ v.single = true := by
  rcases h.2 with ⟨rfl, _⟩ | ⟨b, p, rfl, _⟩ <;> exact ⟨rfl, rfl⟩

/-- Two slices that are made side by side. -/
structure Two (H G : Heap) (v w : CV) (f g : Nat) (xs ys : List Nat) : Prop where
  a : Own G f 1 9 v (xs.map nm)
  b : Own G g 1 9 w (ys.map nm)
  na : v ≠ .nilSlice → H.next ≤ f
  nb : w ≠ .nilSlice → H.next ≤ g
  apart : v ≠ .nilSlice → w ≠ .nilSlice → f ≠ g
  ok : HOk G
  ext : Ext H.next H G
theorem Two.swap {H G : Heap} {v w : CV} {f g : Nat} {xs ys : List Nat} (h : Two H G v w f g xs ys) : Two H G w v g f ys xs :=
  ⟨h.b, h.a, h.nb, h.na, fun a b e => h.apart b a e.symm, h.ok, h.ext⟩
theorem Two.step {H G G' : Heap} {v w : CV} {f g : Nat} {xs ys : List Nat} (h : Two H G v w f g xs ys) (hx : Ext G.next G G') (hk : HOk G') : Two H G' v w f g xs ys :=
  ⟨h.a.ext hx h.a.lt, h.b.ext hx h.b.lt, h.na, h.nb, h.apart, hk, h.ext.trans (hx.le h.ext.1)⟩

theorem two_app {H G : Heap} {v w : CV} {f g x : Nat} {xs ys : List Nat} (h : Two H G v w f g xs ys) (hl : xs.length < 1000) :
    ∃ v' G' f', appendC Tryz.prog 27 27 ((G.skip 1).put G.next (.cells [nm x] 9 none)) v (.slice G.next 0 1 (.exact 1)) = some (v', G') ∧ Two H G' v' w f' g (xs ++ [x]) ys := by
  generalize hG1 : (G.skip 1).put G.next (.cells [nm x] 9 none) = G1
  have x1 : Ext G.next G G1 := by rw [← hG1]; exact Ext.skip.trans (Ext.put (Nat.le_refl _))
  have k1 : HOk G1 := by rw [← hG1]; exact Hok.put rfl (Hok.skip 1 h.ok)
  have n1 : G1.next = G.next + 1 := by rw [← hG1]; rfl
  have h1 := h.step x1 k1
  obtain ⟨it, i1, i2, i3⟩ := i9
  have hle : H.next ≤ G1.next := h1.ext.1
  obtain ⟨v', G', f', hap, ho, hk, hn, hx, hf, hf1, hf2, keep⟩ := own_app (ts := 27) (c := G.next) (y := nm x) (n := H.next) h1.a k1 hle h1.na u30 i1 i2 (by omega) z9 (by omega) (by rw [← hG1, Heap.get_put, if_pos rfl]) rfl rfl (by rw [List.length_map]; exact hl)
  refine ⟨v', G', f', hap, ?_, ?_, fun _ => hf, h1.nb, fun _ hw => ?_, hk, h1.ext.trans hx⟩
  · rw [List.map_append]; exact ho
  · by_cases hw : w = .nilSlice
    · refine ⟨h1.b.1, ?_⟩
      rcases h1.b.2 with e | ⟨_, _, e, _⟩
      · exact .inl e
      · rw [hw] at e; cases e
    · refine own_keep h1.b (by omega) fun b o p hb ho hp => keep b o hb ho fun hv g' p' hg' => ?_
      rw [hp] at hg'
      simp only [Option.some.injEq, Prod.mk.injEq] at hg'
      have := h1.apart hv hw
      omega
  · by_cases hv : v = .nilSlice
    · have := own_fam h1.b hw
      rw [hf1 hv]; omega
    · rw [hf2 hv]; exact h1.apart hv hw

theorem kc_rest {l v : CV} {rs : Rels} {H : Heap} {bg bg2 bf bt u0 : Nat} {all : List Nat} {ds es : AL} {env : Env} (hb : KB H l rs bg bg2 v all) (hlen : all.length ≤ 100) (hk0 : HOk H)
    (hF : FM H bf rs u0 all es) (lbf : bf < H.next) (hT : MapIs H bt ds) (lbt : bt < H.next) (hds : ∀ u, (aget ds u).isSome = true ↔ Leads rs u u0) (hdv : ∀ x w, aget ds x = some w → ∃ k : Int, w = .int .i64 k)
    (h12 : env.get 12 = some (.map bt)) (h13 : env.get 13 = some (.map bf)) (h18 : env.get 18 = some .nilSlice) (h19 : env.get 19 = some .nilSlice) (h87 : env.get 87 = some v) (h88 : env.get 88 = some (.int .i64 (all.length : Nat))) (h89 : env.get 89 = some (.int .i64 (0 : Nat))) :
    ∃ env' G a b f g, go Tryz.prog X 120 (sub (codeOf Tryz.f9) [true,true,true,true,true,true,true,true,true,false,false,false,true,false,true,true,true,true,false,true,false]) env H = some (.exit 8, env', G) ∧ Two H G a b f g (all.filter fun x => both rs x u0) (all.filter fun x => !both rs x u0) ∧ env'.get 18 = some a ∧ env'.get 19 = some b ∧ ∀ t, t < 18 → env'.get t = env.get t := by
  have hL := range_loop (P := Tryz.prog) (X := X) (nt := 120) (code := sub (codeOf Tryz.f9) [true,true,true,true,true,true,true,true,true,false,false,false,true,false,true,true,true,true,false,true,false]) (hd := sub (codeOf Tryz.f9) [true,true,true,true,true,true,true,true,true,false,false,false,true,false,true,true,true,true,false,true,false,false,false]) (body := sub (codeOf Tryz.f9) [true,true,true,true,true,true,true,true,true,false,false,false,true,false,true,true,true,true,false,true,false,false,true,true,false,false]) (inc := sub (codeOf Tryz.f9) [true,true,true,true,true,true,true,true,true,false,false,false,true,false,true,true,true,true,false,true,false,false,true,true,true]) (ti := 89) (tn := 88) (tc := 90) (tx := 113) (e := 8) (b := 9) rfl (by omega)
    (fun env H i n h1 h2 => by simp only [codeOf, Tryz.f9, sub, go_seq, go_region, opsSeq_step, opsSeq_guard, guardStep_true, guardStep_false, guardVal, opsSeq_nil, afterStep_some, afterStep_none, stepC, kindOf, quietC, evC, Nat.reduceLT, Tr.get_set, if_true, if_false, Nat.reduceEqDiff, Option.map_some, Option.bind_some, List.getElem?_toArray, List.getElem?_cons_zero, List.getElem?_cons_succ, ofVal, decide_true, decide_false, BEq.rfl, andThen_normal, andThen_exit, andThen_ret, inBlock_normal, inBlock_ret, go_skip, go_exit, go_ret, loudStep, isCall, loudC, targetC, evs, evParts, mapO, List.nil_append, List.append_nil, List.cons_append, loadC, Heap.skip_get, Heap.get_put, Heap.skip_next, Heap.put_next, h1, h2, bin_lss]) (fun env H i h1 hw => by simp only [codeOf, Tryz.f9, sub, go_seq, go_region, opsSeq_step, opsSeq_guard, guardStep_true, guardStep_false, guardVal, opsSeq_nil, afterStep_some, afterStep_none, stepC, kindOf, quietC, evC, Nat.reduceLT, Tr.get_set, if_true, if_false, Nat.reduceEqDiff, Option.map_some, Option.bind_some, List.getElem?_toArray, List.getElem?_cons_zero, List.getElem?_cons_succ, ofVal, decide_true, decide_false, BEq.rfl, andThen_normal, andThen_exit, andThen_ret, inBlock_normal, inBlock_ret, go_skip, go_exit, go_ret, loudStep, isCall, loudC, targetC, evs, evParts, mapO, List.nil_append, List.append_nil, List.cons_append, loadC, Heap.skip_get, Heap.get_put, Heap.skip_next, Heap.put_next, h1, bin_add, hw]) (by omega) (n := all.length) (by omega)
    (fun k e G => (∀ t, t < 18 → e.get t = env.get t) ∧ e.get 87 = some v ∧ ∃ a b f g, e.get 18 = some a ∧ e.get 19 = some b ∧ Two H G a b f g ((all.take k).filter fun x => both rs x u0) ((all.take k).filter fun x => !both rs x u0)) (fun _ _ => False)
    (fun k e G s w hs ⟨q, q87, a, b, f, g, q18, q19, r⟩ => ⟨fun t ht => by rcases hs with rfl | rfl | rfl <;> (rw [Tr.get_set, if_neg (by omega)]; exact q t ht), by rcases hs with rfl | rfl | rfl <;> simp only [Tr.get_set, Nat.reduceEqDiff, if_false, q87], a, b, f, g, by rcases hs with rfl | rfl | rfl <;> simp only [Tr.get_set, Nat.reduceEqDiff, if_false, q18], by rcases hs with rfl | rfl | rfl <;> simp only [Tr.get_set, Nat.reduceEqDiff, if_false, q19], r⟩)
    (fun k e G hk ⟨q, q87, a, b, f, g, q18, q19, hW⟩ h1 h2 => by
      left
      have hbG := hb.ext hW.ext
      obtain ⟨bb, off, cs, fam, lb, _, hidx, hget, _, hcell⟩ := hbG.hv.at (P := Tryz.prog) (t := 27) u30 s9 (i := k) (by simpa using hk)
      rw [List.getElem_map] at hcell
      have c0 : cs[off]? = some (nm all[k]) := hcell 0 _ rfl
      have hx8 := hb.lt _ (List.getElem_mem hk)
      have hmem := List.getElem_mem hk
      generalize hxk : all[k] = x at c0 hx8 hmem
      obtain ⟨kk, hkk⟩ : ∃ kk : Int, (aget ds x).getD (.int .i64 0) = .int .i64 kk := by
        cases e : aget ds x with
        | none => exact ⟨0, rfl⟩
        | some w => exact hdv _ w e
      have hlk := map_lookup_ok (t := 52) u52 zi3 (hT.ext hW.ext lbt) (show x < 100 by omega)
      have hsn : (aget ds x).isSome = led rs x u0 := by
        rw [Bool.eq_iff_iff, led_iff]; exact hds x
      rw [hkk, hsn] at hlk
      have hlf := map_lookup (t := 49) u49 zi4 (hF.m.ext hW.ext lbf) (show x < 100 by omega)
      have hff : (aget es x).getD (.bool false) = .bool (led rs u0 x) := by
        have hs := hF.seen x
        cases e : aget es x with
        | none =>
          rw [e] at hs
          cases hd : led rs u0 x with
          | false => rfl
          | true => have := hs.2 ⟨hmem, led_iff.1 hd⟩; cases this
        | some w =>
          rw [e] at hs
          rw [hF.val x w e, led_iff.2 (hs.1 rfl).2]; rfl
      rw [hff] at hlf
      have ga : ∃ e2, go Tryz.prog X 120 (.seq (sub (codeOf Tryz.f9) [true,true,true,true,true,true,true,true,true,false,false,false,true,false,true,true,true,true,false,true,false,false,true,true,false,false,false]) (.seq (sub (codeOf Tryz.f9) [true,true,true,true,true,true,true,true,true,false,false,false,true,false,true,true,true,true,false,true,false,false,true,true,false,false,true,false]) (sub (codeOf Tryz.f9) [true,true,true,true,true,true,true,true,true,false,false,false,true,false,true,true,true,true,false,true,false,false,true,true,false,false,true,true,false]))) e G = some (.normal, e2, G) ∧ e2.get 21 = some (nm x) ∧ e2.get 104 = some (.bool (both rs x u0)) ∧ ∀ t, t < 91 → t ≠ 21 → t ≠ 22 → t ≠ 23 → e2.get t = e.get t := by
        rw [both_led]
        cases hd : led rs x u0
        all_goals
          rw [hd] at hlk
          simp only [codeOf, Tryz.f9, sub, go_seq, go_region, opsSeq_step, opsSeq_guard, guardStep_true, guardStep_false, guardVal, opsSeq_nil, afterStep_some, afterStep_none, stepC, kindOf, quietC, evC, Nat.reduceLT, Tr.get_set, if_true, if_false, Nat.reduceEqDiff, Option.map_some, Option.bind_some, List.getElem?_toArray, List.getElem?_cons_zero, List.getElem?_cons_succ, ofVal, decide_true, decide_false, BEq.rfl, andThen_normal, andThen_exit, andThen_ret, inBlock_normal, inBlock_ret, go_skip, go_exit, go_ret, loudStep, isCall, loudC, targetC, evs, evParts, mapO, List.nil_append, List.append_nil, List.cons_append, loadC, Heap.skip_get, Heap.get_put, Heap.skip_next, Heap.put_next, h1, q87, hidx, g9, hget, c0, (q 12 (by omega)).trans h12, (q 13 (by omega)).trans h13, hlk, hlf, bft, btf]
          refine ⟨_, rfl, by simp only [Tr.get_set, Nat.reduceEqDiff, if_false, if_true], by simp only [Tr.get_set, if_true]; rfl, fun t ht n1 n2 n3 => ?_⟩
          simp only [Tr.get_set, n1, n2, n3, show t ≠ 91 by omega, show t ≠ 92 by omega, show t ≠ 93 by omega, show t ≠ 94 by omega, show t ≠ 95 by omega, show t ≠ 96 by omega, show t ≠ 97 by omega, show t ≠ 98 by omega, show t ≠ 99 by omega, show t ≠ 100 by omega, show t ≠ 101 by omega, show t ≠ 102 by omega, show t ≠ 103 by omega, show t ≠ 104 by omega, if_false]
      obtain ⟨e2, ga, a21, a104, aq⟩ := ga
      have hcode : sub (codeOf Tryz.f9) [true,true,true,true,true,true,true,true,true,false,false,false,true,false,true,true,true,true,false,true,false,false,true,true,false,false] = .seq (sub (codeOf Tryz.f9) [true,true,true,true,true,true,true,true,true,false,false,false,true,false,true,true,true,true,false,true,false,false,true,true,false,false,false]) (.seq (sub (codeOf Tryz.f9) [true,true,true,true,true,true,true,true,true,false,false,false,true,false,true,true,true,true,false,true,false,false,true,true,false,false,true,false]) (.seq (sub (codeOf Tryz.f9) [true,true,true,true,true,true,true,true,true,false,false,false,true,false,true,true,true,true,false,true,false,false,true,true,false,false,true,true,false]) (.cond (.tmp 104) (sub (codeOf Tryz.f9) [true,true,true,true,true,true,true,true,true,false,false,false,true,false,true,true,true,true,false,true,false,false,true,true,false,false,true,true,true,false]) (sub (codeOf Tryz.f9) [true,true,true,true,true,true,true,true,true,false,false,false,true,false,true,true,true,true,false,true,false,false,true,true,false,false,true,true,true,true])))) := rfl
      have htake : all.take (k + 1) = all.take k ++ [x] := by rw [List.take_add_one, List.getElem?_eq_getElem hk, hxk, Option.toList_some]
      have hlt : ∀ p : Nat → Bool, ((all.take k).filter p).length < 1000 := fun p => by
        have h1 := List.length_filter_le p (all.take k)
        have h2 := List.length_take_le k all
        have h3 : (all.take k).length ≤ all.length := by rw [List.length_take]; omega
        omega
      have b18 := (aq 18 (by omega) (by omega) (by omega) (by omega)).trans q18
      have b19 := (aq 19 (by omega) (by omega) (by omega) (by omega)).trans q19
      cases hd : both rs x u0 with
      | true =>
        rw [hd] at a104
        obtain ⟨a', G', f', hap, hW'⟩ := two_app (x := x) hW (hlt _)
        have gb : ∃ e3, go Tryz.prog X 120 (sub (codeOf Tryz.f9) [true,true,true,true,true,true,true,true,true,false,false,false,true,false,true,true,true,true,false,true,false,false,true,true,false,false,true,true,true,false]) e2 G = some (.normal, e3, G') ∧ e3.get 18 = some a' ∧ ∀ t, t < 105 → t ≠ 18 → e3.get t = e2.get t := by
          simp only [codeOf, Tryz.f9, sub, go_seq, go_region, opsSeq_step, opsSeq_guard, guardStep_true, guardStep_false, guardVal, opsSeq_nil, afterStep_some, afterStep_none, stepC, kindOf, quietC, evC, Nat.reduceLT, Tr.get_set, if_true, if_false, Nat.reduceEqDiff, Option.map_some, Option.bind_some, List.getElem?_toArray, List.getElem?_cons_zero, List.getElem?_cons_succ, ofVal, decide_true, decide_false, BEq.rfl, andThen_normal, andThen_exit, andThen_ret, inBlock_normal, inBlock_ret, go_skip, go_exit, go_ret, loudStep, isCall, loudC, targetC, evs, evParts, mapO, List.nil_append, List.append_nil, List.cons_append, loadC, Heap.skip_get, Heap.get_put, Heap.skip_next, Heap.put_next, b18, a21, bs27, nm_cells, List.length_cons, List.length_nil, Nat.reduceAdd, hap]
          refine ⟨_, rfl, by simp only [Tr.get_set, if_true], fun t ht n1 => ?_⟩
          simp only [Tr.get_set, n1, show t ≠ 105 by omega, show t ≠ 106 by omega, show t ≠ 107 by omega, show t ≠ 108 by omega, if_false]
        obtain ⟨e3, gb, b18', bq⟩ := gb
        have hq : ∀ t, t < 91 → t ≠ 18 → t ≠ 21 → t ≠ 22 → t ≠ 23 → e3.get t = e.get t := fun t ht n0 n1 n2 n3 => (bq t (by omega) n0).trans (aq t ht n1 n2 n3)
        refine ⟨.normal, e3, G', ?_, .inl rfl, ⟨fun t ht => (hq t (by omega) (by omega) (by omega) (by omega) (by omega)).trans (q t ht), (hq 87 (by omega) (by omega) (by omega) (by omega) (by omega)).trans q87, a', b, f', g, b18', (hq 19 (by omega) (by omega) (by omega) (by omega) (by omega)).trans q19, ?_⟩, (hq 89 (by omega) (by omega) (by omega) (by omega) (by omega)).trans h1, (hq 88 (by omega) (by omega) (by omega) (by omega) (by omega)).trans h2⟩
        · rw [go_code hcode, go_seq3, ga, andThen_normal, go_cond _ _ _ (v := true) (by simp only [evC, a104]), if_pos rfl, gb]
        · rw [htake]
          simp only [List.filter_append, List.filter_cons, hd, if_true, List.filter_nil, Bool.not_true, Bool.false_eq_true, if_false, List.append_nil]
          exact hW'
      | false =>
        rw [hd] at a104
        obtain ⟨b', G', g', hap, hW'⟩ := two_app (x := x) hW.swap (hlt _)
        have gb : ∃ e3, go Tryz.prog X 120 (sub (codeOf Tryz.f9) [true,true,true,true,true,true,true,true,true,false,false,false,true,false,true,true,true,true,false,true,false,false,true,true,false,false,true,true,true,true]) e2 G = some (.normal, e3, G') ∧ e3.get 19 = some b' ∧ ∀ t, t < 105 → t ≠ 19 → e3.get t = e2.get t := by
          simp only [codeOf, Tryz.f9, sub, go_seq, go_region, opsSeq_step, opsSeq_guard, guardStep_true, guardStep_false, guardVal, opsSeq_nil, afterStep_some, afterStep_none, stepC, kindOf, quietC, evC, Nat.reduceLT, Tr.get_set, if_true, if_false, Nat.reduceEqDiff, Option.map_some, Option.bind_some, List.getElem?_toArray, List.getElem?_cons_zero, List.getElem?_cons_succ, ofVal, decide_true, decide_false, BEq.rfl, andThen_normal, andThen_exit, andThen_ret, inBlock_normal, inBlock_ret, go_skip, go_exit, go_ret, loudStep, isCall, loudC, targetC, evs, evParts, mapO, List.nil_append, List.append_nil, List.cons_append, loadC, Heap.skip_get, Heap.get_put, Heap.skip_next, Heap.put_next, b19, a21, bs27, nm_cells, List.length_cons, List.length_nil, Nat.reduceAdd, hap]
          refine ⟨_, rfl, by simp only [Tr.get_set, if_true], fun t ht n1 => ?_⟩
          simp only [Tr.get_set, n1, show t ≠ 109 by omega, show t ≠ 110 by omega, show t ≠ 111 by omega, show t ≠ 112 by omega, show t ≠ 105 by omega, show t ≠ 106 by omega, show t ≠ 107 by omega, show t ≠ 108 by omega, if_false]
        obtain ⟨e3, gb, b19', bq⟩ := gb
        have hq : ∀ t, t < 91 → t ≠ 19 → t ≠ 21 → t ≠ 22 → t ≠ 23 → e3.get t = e.get t := fun t ht n0 n1 n2 n3 => (bq t (by omega) n0).trans (aq t ht n1 n2 n3)
        refine ⟨.normal, e3, G', ?_, .inl rfl, ⟨fun t ht => (hq t (by omega) (by omega) (by omega) (by omega) (by omega)).trans (q t ht), (hq 87 (by omega) (by omega) (by omega) (by omega) (by omega)).trans q87, a, b', f, g', (hq 18 (by omega) (by omega) (by omega) (by omega) (by omega)).trans q18, b19', ?_⟩, (hq 89 (by omega) (by omega) (by omega) (by omega) (by omega)).trans h1, (hq 88 (by omega) (by omega) (by omega) (by omega) (by omega)).trans h2⟩
        · rw [go_code hcode, go_seq3, ga, andThen_normal, go_cond _ _ _ (v := false) (by simp only [evC, a104]), if_neg (by simp), gb]
        · rw [htake]
          simp only [List.filter_append, List.filter_cons, hd, if_true, List.filter_nil, Bool.not_false, Bool.false_eq_true, if_false, List.append_nil]
          exact hW'.swap)
  rcases hL all.length 0 env H (by omega) ⟨fun _ _ => rfl, h87, .nilSlice, .nilSlice, 0, 0, h18, h19, ⟨⟨by simp, .inl ⟨rfl, rfl⟩⟩, ⟨by simp, .inl ⟨rfl, rfl⟩⟩, fun h => absurd rfl h, fun h => absurd rfl h, fun h => absurd rfl h, hk0, Ext.refl _ _⟩⟩ h89 h88 with ⟨e2, G, g', q, _, a, b, f, g, q18, q19, hW⟩ | ⟨_, _, _, ff⟩
  · rw [List.take_length] at hW
    exact ⟨e2, G, a, b, f, g, g', hW, q18, q19, q⟩
  · exact ff.elim
end Go.Y
