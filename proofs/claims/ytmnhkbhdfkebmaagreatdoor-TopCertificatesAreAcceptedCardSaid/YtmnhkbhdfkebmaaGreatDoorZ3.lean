/- The map of the graph: from names to numbers. build: the graph of relations. First: the names with their numbers. build: the arcs. -/
import Derived.Test.YtmnhkbhdfkebmaaGreatDoorZ2

set_option linter.unusedSimpArgs false
set_option linter.unusedVariables false

namespace Go.Z
open Go.K Go.Proofs
set_option linter.unusedSimpArgs false
set_option linter.unusedVariables false
set_option maxRecDepth 10000

variable {X : CallFn}

theorem keq {x y : Nat} (hx : x < 100) (hy : y < 100) : keyEq Tryz.prog 9 (nm x) (nm y) = some (decide (x = y)) := by
  unfold keyEq
  rw [show (40 : Nat) = 39 + 1 from rfl, nm, nm, ceq]
  · show some (bytesEq [UInt8.ofNat (97 + x)] [UInt8.ofNat (97 + y)]) = _
    rw [nm_beq hx hy]
  · exact u9
theorem nm_key (x : Nat) : keyC Tryz.prog 8 9 (nm x) = true := by
  rw [show (8 : Nat) = 7 + 1 from rfl, nm, keyC]
  simp only [u9]

/-- The map's entries: each name with its number. -/
def entriesFrom (k : Nat) : List Nat → List (CV × CV × Nat)
  | [] => []
  | x :: t => (nm x, .int .i64 (k : Int), k) :: entriesFrom (k + 1) t
theorem entriesFrom_length (k : Nat) (us : List Nat) : (entriesFrom k us).length = us.length := by
  induction us generalizing k with
  | nil => rfl
  | cons a t ih => simp [entriesFrom, ih]
theorem entriesFrom_snoc (k : Nat) (us : List Nat) (x : Nat) : entriesFrom k (us ++ [x]) = entriesFrom k us ++ [(nm x, .int .i64 ((k + us.length : Nat) : Int), k + us.length)] := by
  induction us generalizing k with
  | nil => simp [entriesFrom]
  | cons a t ih => simp only [List.cons_append, entriesFrom, ih, List.length_cons]; rw [show k + 1 + t.length = k + (t.length + 1) by omega]
theorem find_none {x : Nat} (hx : x < 100) : ∀ (us : List Nat) (k j : Nat), (∀ y ∈ us, y < 100) → x ∉ us → findC Tryz.prog 9 (nm x) (entriesFrom k us) j = some none
  | [], _, _, _, _ => rfl
  | a :: t, k, j, h, hn => by
    have ha := h a (List.mem_cons_self ..)
    have hne : x ≠ a := fun e => hn (e ▸ List.mem_cons_self ..)
    simp only [entriesFrom, findC, keq hx ha, hne, decide_false]
    exact find_none hx t (k + 1) (j + 1) (fun y hy => h y (List.mem_cons_of_mem _ hy)) (fun hh => hn (List.mem_cons_of_mem _ hh))
theorem find_some {x : Nat} (hx : x < 100) : ∀ (us : List Nat) (k j : Nat), (∀ y ∈ us, y < 100) → x ∈ us → findC Tryz.prog 9 (nm x) (entriesFrom k us) j = some (some (j + us.idxOf x, .int .i64 ((k + us.idxOf x : Nat) : Int)))
  | [], _, _, _, h => by simp at h
  | a :: t, k, j, h, hn => by
    have ha := h a (List.mem_cons_self ..)
    by_cases e : x = a
    · subst e
      simp only [entriesFrom, findC, keq hx ha, decide_true, List.idxOf_cons_self, Nat.add_zero]
    · have hm : x ∈ t := by
        rcases List.mem_cons.1 hn with h | h
        · exact absurd h e
        · exact h
      simp only [entriesFrom, findC, keq hx ha, e, decide_false]
      rw [find_some hx t (k + 1) (j + 1) (fun y hy => h y (List.mem_cons_of_mem _ hy)) hm, show (a :: t).idxOf x = t.idxOf x + 1 by simp [List.idxOf_cons, beq_eq_false_iff_ne.2 (fun h : a = x => e h.symm)]]
      rw [show j + 1 + t.idxOf x = j + (t.idxOf x + 1) by omega, show k + 1 + t.idxOf x = k + (t.idxOf x + 1) by omega]

theorem lookup_at {H : Heap} {b c x : Nat} {us : List Nat} (hg : H.get b = some (.map (entriesFrom 0 us) c)) (hus : ∀ y ∈ us, y < 100) (hx : x ∈ us) :
    lookupC Tryz.prog 52 H (.map b) (nm x) false = some (.int .i64 (us.idxOf x : Nat)) := by
  simp only [lookupC, u52, hg, nm_key, find_some (hus x hx) us 0 0 hus hx, Nat.zero_add]
theorem lookup_at_ok {H : Heap} {b c x : Nat} {us : List Nat} (hg : H.get b = some (.map (entriesFrom 0 us) c)) (hus : ∀ y ∈ us, y < 100) (hx : x ∈ us) :
    lookupC Tryz.prog 52 H (.map b) (nm x) true = some (.tuple [.int .i64 (us.idxOf x : Nat), .bool true]) := by
  simp only [lookupC, u52, hg, nm_key, find_some (hus x hx) us 0 0 hus hx, Nat.zero_add]
theorem info3 : ∃ i : TypeInfo, Tryz.prog.info? 3 = some i ∧ i.zero = some (.int .i64 0) := by
  have h : (Tryz.prog.info? 3).bind (fun i => i.zero) = some (.int .i64 0) := by kernel_rfl
  cases e : Tryz.prog.info? 3 with
  | none => rw [e] at h; cases h
  | some i => rw [e] at h; exact ⟨i, rfl, h⟩
theorem lookup_none_ok {H : Heap} {b c x : Nat} {us : List Nat} (hg : H.get b = some (.map (entriesFrom 0 us) c)) (hus : ∀ y ∈ us, y < 100) (hx0 : x < 100) (hx : x ∉ us) :
    lookupC Tryz.prog 52 H (.map b) (nm x) true = some (.tuple [.int .i64 0, .bool false]) := by
  obtain ⟨i, h1, h2⟩ := info3
  simp only [lookupC, u52, hg, nm_key, find_none hx0 us 0 0 hus hx, h1, h2, ofVal, Option.map_some]
theorem update_new {H : Heap} {b x : Nat} {us : List Nat} (hg : H.get b = some (.map (entriesFrom 0 us) us.length)) (hus : ∀ y ∈ us, y < 100) (hx : x < 100) (hn : x ∉ us) :
    updateC Tryz.prog 52 H (.map b) (nm x) (.int .i64 (us.length : Nat)) = some (.tuple [], H.put b (.map (entriesFrom 0 (us ++ [x])) (us ++ [x]).length)) := by
  simp only [updateC, u52, hg, nm_key, find_none hx us 0 0 hus hn, entriesFrom_snoc, Nat.zero_add, List.length_append, List.length_singleton]
end Go.Z

namespace Go.Z
open Go.K Go.Proofs
set_option linter.unusedSimpArgs false
set_option linter.unusedVariables false
set_option maxRecDepth 10000

variable {X : CallFn}

theorem build_body1 {env : Env} {H : Heap} {bg bm i : Nat} {l nv xv av : CV} {us : List Nat} (h0 : env.get 0 = some l) (h3 : env.get 3 = some (.ptr bg 0)) (h17 : env.get 17 = some nv) (h18 : env.get 18 = some (.int .i64 us.length)) (h19 : env.get 19 = some (.int .i64 i))
    (hg : H.get bg = some (.cells [nv, .map bm, av, xv] 77 none)) (hm : H.get bm = some (.map (entriesFrom 0 (us.take i)) (us.take i).length)) (hn : Has H 1 9 nv (us.map nm)) (hi : i < us.length) (hu : us.length ≤ 1000) (hus : ∀ y ∈ us, y < 100) (hs : us.Pairwise (· < ·)) :
    ∃ env', go Tryz.prog X 96 (sub (codeOf Tryz.f16) [true,true,false,true,false,false]) env H = some (.normal, env', H.put bm (.map (entriesFrom 0 (us.take (i + 1))) (us.take (i + 1)).length)) ∧ env'.get 0 = some l ∧ env'.get 3 = some (.ptr bg 0) ∧ env'.get 17 = some nv ∧
      env'.get 18 = some (.int .i64 us.length) ∧ env'.get 19 = some (.int .i64 (i + 1 : Nat)) := by
  obtain ⟨b, off, cs, fam, hb, _, hidx, hget, hcells, hcell⟩ := hn.at (P := Tryz.prog) (t := 30) u30 s9 (i := i) (by simpa using hi)
  rw [List.getElem_map] at hcell
  have hc : cs[off]? = some (nm us[i]) := hcell 0 _ rfl
  have e1 : (i : Int) < (us.length : Int) := by omega
  have hw : wrap .i64 ((i : Int) + 1) = ((i + 1 : Nat) : Int) := wrap64 (by omega) (by omega)
  have hnot : us[i] ∉ us.take i := by
    intro h
    obtain ⟨j, hj, e⟩ := List.mem_take_iff_getElem.1 h
    have hji : j < i := by omega
    have := List.pairwise_iff_getElem.1 hs j i (by omega) hi hji
    omega
  have htl : (us.take i).length = i := by rw [List.length_take]; omega
  have hup := update_new (H := H) (b := bm) (x := us[i]) (us := us.take i) hm (fun y hy => hus y (List.mem_of_mem_take hy)) (hus _ (List.getElem_mem _)) hnot
  have htk : us.take i ++ [us[i]] = us.take (i + 1) := by rw [List.take_add_one, List.getElem?_eq_getElem hi, Option.toList_some]
  rw [htk, htl] at hup
  simp only [codeOf, Tryz.f16, sub, go_seq, go_region, opsSeq_step, opsSeq_guard, guardStep_true, guardStep_false, guardVal, opsSeq_nil, afterStep_some, afterStep_none, stepC, kindOf, quietC, evC, Nat.reduceLT, Tr.get_set, if_true, if_false, Nat.reduceEqDiff, Option.map_some, Option.bind_some, List.getElem?_toArray, List.getElem?_cons_zero, List.getElem?_cons_succ, ofVal, decide_true, decide_false, BEq.rfl, andThen_normal, andThen_exit, andThen_ret, inBlock_normal, inBlock_ret, go_skip, go_exit, go_ret, loudStep, isCall, loudC, targetC, evs, evParts, mapO, List.nil_append, List.append_nil, List.cons_append, loadC, Heap.skip_get, Heap.get_put, Heap.skip_next, Heap.put_next, h17, h18, h19, bin_lss, e1]
  rw [go_cond _ _ _ (v := true) (by simp only [evC, Tr.get_set, if_true])]
  simp only [go_seq, go_region, opsSeq_step, opsSeq_guard, guardStep_true, guardStep_false, guardVal, opsSeq_nil, afterStep_some, afterStep_none, stepC, kindOf, quietC, evC, Nat.reduceLT, Tr.get_set, if_true, if_false, Nat.reduceEqDiff, Option.map_some, Option.bind_some, List.getElem?_toArray, List.getElem?_cons_zero, List.getElem?_cons_succ, ofVal, decide_true, decide_false, BEq.rfl, andThen_normal, andThen_exit, andThen_ret, inBlock_normal, inBlock_ret, go_skip, go_exit, go_ret, loudStep, isCall, loudC, targetC, evs, evParts, mapO, List.nil_append, List.append_nil, List.cons_append, loadC, Heap.skip_get, Heap.get_put, Heap.skip_next, Heap.put_next, go_block, h3, h17, h18, h19, hidx, g9, hget, hc, fa77_1, g52, hg, Nat.zero_add, hup, bin_add, hw]
  exact ⟨_, rfl, by simp only [Tr.get_set, Nat.reduceEqDiff, if_true, if_false, h0], by simp only [Tr.get_set, Nat.reduceEqDiff, if_true, if_false, h3], by simp only [Tr.get_set, Nat.reduceEqDiff, if_true, if_false, h17], by simp only [Tr.get_set, Nat.reduceEqDiff, if_true, if_false, h18], by simp only [Tr.get_set, if_true]⟩

theorem build_exit1 {env : Env} {H : Heap} {n : Nat} (h18 : env.get 18 = some (.int .i64 n)) (h19 : env.get 19 = some (.int .i64 n)) :
    go Tryz.prog X 96 (sub (codeOf Tryz.f16) [true,true,false,true,false,false]) env H = some (.exit 0, env.set 20 (.bool false), H) := by
  have e1 : ¬ ((n : Int) < (n : Int)) := by omega
  simp only [codeOf, Tryz.f16, sub, go_seq, go_region, opsSeq_step, opsSeq_guard, guardStep_true, guardStep_false, guardVal, opsSeq_nil, afterStep_some, afterStep_none, stepC, kindOf, quietC, evC, Nat.reduceLT, Tr.get_set, if_true, if_false, Nat.reduceEqDiff, Option.map_some, Option.bind_some, List.getElem?_toArray, List.getElem?_cons_zero, List.getElem?_cons_succ, ofVal, decide_true, decide_false, BEq.rfl, andThen_normal, andThen_exit, andThen_ret, inBlock_normal, inBlock_ret, go_skip, go_exit, go_ret, loudStep, isCall, loudC, targetC, evs, evParts, mapO, List.nil_append, List.append_nil, List.cons_append, loadC, Heap.skip_get, Heap.get_put, Heap.skip_next, Heap.put_next, h18, h19, bin_lss, e1]
  rw [go_cond _ _ _ (v := false) (by simp only [evC, Tr.get_set, if_true])]
  simp only [Bool.false_eq_true, if_false, go_exit, andThen_exit]

theorem build_loop1 {bg bm : Nat} {l nv xv av : CV} {us : List Nat} (hu : us.length ≤ 1000) (hus : ∀ y ∈ us, y < 100) (hs : us.Pairwise (· < ·)) (hne : bm ≠ bg) (hnv : ∀ b off len cap, nv = .slice b off len cap → b < bm) :
    ∀ (k i : Nat) (env : Env) (H : Heap), i + k = us.length → env.get 0 = some l → env.get 3 = some (.ptr bg 0) → env.get 17 = some nv → env.get 18 = some (.int .i64 us.length) → env.get 19 = some (.int .i64 i) →
      H.get bg = some (.cells [nv, .map bm, av, xv] 77 none) → H.get bm = some (.map (entriesFrom 0 (us.take i)) (us.take i).length) → Has H 1 9 nv (us.map nm) → HOk H →
    ∃ env' H', go Tryz.prog X 96 (sub (codeOf Tryz.f16) [true,true,false,true,false]) env H = some (.exit 0, env', H') ∧ env'.get 0 = some l ∧ env'.get 3 = some (.ptr bg 0) ∧ H'.get bg = some (.cells [nv, .map bm, av, xv] 77 none) ∧ H'.get bm = some (.map (entriesFrom 0 us) us.length) ∧
      HOk H' ∧ Ext bm H H' ∧ H'.next = H.next := by
  have hcode : sub (codeOf Tryz.f16) [true,true,false,true,false] = .loop (sub (codeOf Tryz.f16) [true,true,false,true,false,false]) := rfl
  intro k
  induction k with
  | zero =>
    intro i env H hik h0 h3 h17 h18 h19 hg hm hn hk
    have : i = us.length := by omega
    subst this
    rw [hcode, go_loop, build_exit1 h18 h19, andThen_exit]
    rw [List.take_length] at hm
    exact ⟨_, H, rfl, by simp only [Tr.get_set, Nat.reduceEqDiff, if_false, h0], by simp only [Tr.get_set, Nat.reduceEqDiff, if_false, h3], hg, hm, hk, Ext.refl _ _, rfl⟩
  | succ k ih =>
    intro i env H hik h0 h3 h17 h18 h19 hg hm hn hk
    obtain ⟨e1, g1, a0, a3, a17, a18, a19⟩ := build_body1 (X := X) h0 h3 h17 h18 h19 hg hm hn (by omega) hu hus hs
    have hx : Ext bm H (H.put bm (.map (entriesFrom 0 (us.take (i + 1))) (us.take (i + 1)).length)) := Ext.put (Nat.le_refl _)
    obtain ⟨e2, H2, g2, b0, b3, bgg, bmm, bk, bx, bn⟩ := ih (i + 1) e1 _ (by omega) a0 a3 a17 a18 a19 (by rw [Heap.get_put, if_neg (fun h => hne h.symm)]; exact hg) (by rw [Heap.get_put, if_pos rfl]) (hn.ext hx hnv) (Hok.put rfl hk)
    refine ⟨e2, H2, ?_, b0, b3, bgg, bmm, bk, hx.trans bx, bn⟩
    rw [hcode, go_loop, g1, andThen_normal, ← hcode]
    exact g2
end Go.Z

namespace Go.Z
open Go.K Go.Proofs
set_option linter.unusedSimpArgs false
set_option linter.unusedVariables false
set_option maxRecDepth 10000

variable {X : CallFn}

/-- An arc: index, lower, upper. -/
def arcCV (a : Nat × Nat × Nat) : CV := .agg [.int .i64 a.1, .int .i64 a.2.1, .int .i64 a.2.2]

theorem store79 {G : Heap} {b : Nat} {i j k : Int} {cs : List CV} (h : cs.length = 3) : storeC Tryz.prog 79 (G.put b (.cells cs 79 none)) (.ptr b 0) (.agg [.int .i64 i, .int .i64 j, .int .i64 k]) =
    some (.tuple [], (G.put b (.cells cs 79 none)).put b (.cells [.int .i64 i, .int .i64 j, .int .i64 k] 79 none)) := by
  have h2 : ([.int .i64 i, .int .i64 j, .int .i64 k] : List CV).all CV.single = true := rfl
  simp only [storeC, s79, CV.cells, List.length_cons, List.length_nil, writeC, Heap.get_put, if_true, h2, h, Bool.and_true]
  simp [splice, h, Nat.ble, Nat.beq, Heap.upd, CObj.fam, List.drop_of_length_le (Nat.le_of_eq h)]

/-- A single cell written, in a block without a family. -/
theorem store_one {P : Program} {t : Nat} {H : Heap} {b k e : Nat} {v : CV} {cs : List CV} (hs : szC P t = some 1) (hc : v.cells = [v]) (hv : v.single = true) (hg : H.get b = some (.cells cs e none)) (hk : k < cs.length) :
    storeC P t H (.ptr b k) v = some (.tuple [], H.put b (.cells (cs.set k v) e none)) := by
  have hsp : splice cs k [v] = cs.set k v := by
    unfold splice
    rw [List.set_eq_take_append_cons_drop, if_pos hk]
    simp
  simp only [storeC, hs, hc, List.length_singleton, beq_t rfl, writeC, hg, ble_t (show k + 1 ≤ cs.length by omega), List.all_cons, hv, List.all_nil, Bool.and_self, Option.map_some, hsp, Heap.upd, CObj.fam]

/-- What an append to another slice leaves. -/
theorem Own.keep {H H' : Heap} {f fc sz e : Nat} {v w : CV} {vs : List CV} (h : Own H f sz e v vs) (hnext : H.next ≤ H'.next)
    (hkeep : ∀ b o, b < H.next → H.get b = some o → (w ≠ .nilSlice → ∀ g p, o.fam = some (g, p) → g ≠ fc) → H'.get b = some o) (hne : v ≠ .nilSlice → w ≠ .nilSlice → f ≠ fc) : Own H' f sz e v vs := by
  refine ⟨h.1, ?_⟩
  rcases h.2 with h | ⟨b, p, hv, h1, h2, h3, h4⟩
  · exact .inl h
  · refine .inr ⟨b, p, hv, h1, Nat.lt_of_lt_of_le h2 hnext, h3, hkeep b _ h2 h4 (fun hw g q hg => ?_)⟩
    simp only [CObj.fam, Option.some.injEq, Prod.mk.injEq] at hg
    rw [← hg.1]
    exact hne (by rw [hv]; intro h; cases h) hw

theorem build_r10 {env : Env} {H : Heap} {l : CV} {rs : List (Nat × Nat × Nat)} {i bg : Nat} (h3 : env.get 3 = some (.ptr bg 0)) (h40 : env.get 40 = some l) (h41 : env.get 41 = some (.int .i64 rs.length)) (h42 : env.get 42 = some (.int .i64 i))
    (hl : Has H 3 42 l (rs.map relCV)) (hi : i < rs.length) (hk : HOk H) :
    ∃ env' H', go Tryz.prog X 96 (sub (codeOf Tryz.f16) [true,true,true,true,false,true,false,false,true,true,false,false,false]) env H = some (.normal, env', H') ∧ H'.get H.next = some (.cells [.int .i64 rs[i].1, nm rs[i].2.1, nm rs[i].2.2] 42 none) ∧ H'.next = H.next + 1 ∧ HOk H' ∧ Ext H.next H H' ∧
      env'.get 3 = some (.ptr bg 0) ∧ env'.get 40 = some l ∧ env'.get 41 = some (.int .i64 rs.length) ∧ env'.get 42 = some (.int .i64 i) ∧ env'.get 6 = some (.int .i64 i) ∧ env'.get 7 = some (.ptr H.next 0) := by
  obtain ⟨b, off, cs, fam, hb, _, hidx, hget, hcells, hcell⟩ := hl.at (P := Tryz.prog) (t := 24) u24 s42 (i := i) (by simpa using hi)
  rw [List.getElem_map] at hcells
  have hcl : takeE 3 (cs.drop off) = some [.int .i64 rs[i].1, nm rs[i].2.1, nm rs[i].2.2] := hcells
  generalize hH2 : ((H.skip 1).put H.next (.cells [.int .i64 0, .str .empty, .str .empty] 42 none)).put H.next (.cells [.int .i64 rs[i].1, nm rs[i].2.1, nm rs[i].2.2] 42 none) = H2
  have hE2 : Ext H.next H H2 := by rw [← hH2]; exact (Ext.skip.trans (Ext.put (Nat.le_refl _))).trans (Ext.put (Nat.le_refl _))
  have hk2 : HOk H2 := by rw [← hH2]; exact Hok.put rfl (Hok.put rfl (Hok.skip 1 hk))
  have hn2 : H2.next = H.next + 1 := by rw [← hH2]; rfl
  have hg2 : H2.get H.next = some (.cells [.int .i64 rs[i].1, nm rs[i].2.1, nm rs[i].2.2] 42 none) := by rw [← hH2, Heap.get_put, if_pos rfl]
  suffices h : ∃ env', go Tryz.prog X 96 (sub (codeOf Tryz.f16) [true,true,true,true,false,true,false,false,true,true,false,false,false]) env H = some (.normal, env', H2) ∧ env'.get 3 = some (.ptr bg 0) ∧ env'.get 40 = some l ∧ env'.get 41 = some (.int .i64 rs.length) ∧ env'.get 42 = some (.int .i64 i) ∧
      env'.get 6 = some (.int .i64 i) ∧ env'.get 7 = some (.ptr H.next 0) by
    obtain ⟨env', q1, q⟩ := h
    exact ⟨env', H2, q1, hg2, hn2, hk2, hE2, q⟩
  simp only [codeOf, Tryz.f16, sub, go_seq, go_region, opsSeq_step, opsSeq_guard, guardStep_true, guardStep_false, guardVal, opsSeq_nil, afterStep_some, afterStep_none, stepC, kindOf, quietC, evC, Nat.reduceLT, Tr.get_set, if_true, if_false, Nat.reduceEqDiff, Option.map_some, Option.bind_some, List.getElem?_toArray, List.getElem?_cons_zero, List.getElem?_cons_succ, ofVal, decide_true, decide_false, BEq.rfl, andThen_normal, andThen_exit, andThen_ret, inBlock_normal, inBlock_ret, go_skip, go_exit, go_ret, loudStep, isCall, loudC, targetC, evs, evParts, mapO, List.nil_append, List.append_nil, List.cons_append, loadC, Heap.skip_get, Heap.get_put, Heap.skip_next, Heap.put_next, h40, h41, h42, hidx, hget, hcl, s42, g42, al42, store42, List.length_cons, List.length_nil, Nat.reduceAdd, hH2]
  exact ⟨_, rfl, by simp only [Tr.get_set, Nat.reduceEqDiff, if_true, if_false, h3], by simp only [Tr.get_set, Nat.reduceEqDiff, if_true, if_false, h40], by simp only [Tr.get_set, Nat.reduceEqDiff, if_true, if_false, h41],
    by simp only [Tr.get_set, Nat.reduceEqDiff, if_true, if_false, h42], by simp only [Tr.get_set, Nat.reduceEqDiff, if_true, if_false], by simp only [Tr.get_set, Nat.reduceEqDiff, if_true, if_false]⟩

/-- The arc of a relation, put into a new variable. -/
theorem build_r12 {env : Env} {H : Heap} {bg bm bx i kd u w : Nat} {nv av xv : CV} {us : List Nat} (h3 : env.get 3 = some (.ptr bg 0)) (h6 : env.get 6 = some (.int .i64 i)) (h7 : env.get 7 = some (.ptr bx 0))
    (hg7 : H.get bx = some (.cells [.int .i64 kd, nm u, nm w] 42 none)) (hg : H.get bg = some (.cells [nv, .map bm, av, xv] 77 none)) (hm : H.get bm = some (.map (entriesFrom 0 us) us.length)) (hus : ∀ y ∈ us, y < 100) (hu : u ∈ us) (hw : w ∈ us) (hk : HOk H) :
    ∃ env' H', go Tryz.prog X 96 (sub (codeOf Tryz.f16) [true,true,true,true,false,true,false,false,true,true,false,false,true,true,false]) env H = some (.normal, env', H') ∧ H'.get (H.next + 16) = some (.cells [.int .i64 i, .int .i64 (us.idxOf w : Nat), .int .i64 (us.idxOf u : Nat)] 79 none) ∧ H'.next = H.next + 18 ∧ HOk H' ∧ Ext H.next H H' ∧
      env'.get 8 = some (.ptr (H.next + 16) 0) ∧ ∀ t, t < 50 → t ≠ 8 → env'.get t = env.get t := by
  generalize hH2 : ((H.skip 18).put (H.next + 16) (.cells [.int .i64 0, .int .i64 0, .int .i64 0] 79 none)).put (H.next + 16) (.cells [.int .i64 i, .int .i64 (us.idxOf w : Nat), .int .i64 (us.idxOf u : Nat)] 79 none) = H2
  have hE2 : Ext H.next H H2 := by rw [← hH2]; exact (Ext.skip.trans (Ext.put (by omega))).trans (Ext.put (by omega))
  have hk2 : HOk H2 := by rw [← hH2]; exact Hok.put rfl (Hok.put rfl (Hok.skip 18 hk))
  have hn2 : H2.next = H.next + 18 := by rw [← hH2]; rfl
  have hg2 : H2.get (H.next + 16) = some (.cells [.int .i64 i, .int .i64 (us.idxOf w : Nat), .int .i64 (us.idxOf u : Nat)] 79 none) := by rw [← hH2, Heap.get_put, if_pos rfl]
  have l1 := lookup_at (H := H.skip 18) (b := bm) (c := us.length) (x := w) hm hus hw
  have l2 := lookup_at (H := H.skip 18) (b := bm) (c := us.length) (x := u) hm hus hu
  suffices h : ∃ env', go Tryz.prog X 96 (sub (codeOf Tryz.f16) [true,true,true,true,false,true,false,false,true,true,false,false,true,true,false]) env H = some (.normal, env', H2) ∧ env'.get 8 = some (.ptr (H.next + 16) 0) ∧ ∀ t, t < 50 → t ≠ 8 → env'.get t = env.get t by
    obtain ⟨env', q1, q⟩ := h
    exact ⟨env', H2, q1, hg2, hn2, hk2, hE2, q⟩
  simp only [codeOf, Tryz.f16, sub]
  rw [go_planned [(0,0,[6],false),(1,0,[3],false),(2,0,[51],false),(3,0,[52],false),(4,0,[53],false),(5,0,[7],false),(6,0,[55],false),(7,0,[54,56],false),(8,0,[3],false),(9,0,[58],false),(10,0,[59],false),(11,0,[60],false),(12,0,[7],false),(13,0,[62],false),(14,0,[61,63],false),
    (15,0,[50,57,64],false),(16,0,[],false),(17,0,[8,65],true)] rfl (by kernel_rfl)]
  simp only [drawStep_guard, guardDS_true, guardDS_false, guardVal, BEq.rfl, planRun_cons, planRun_nil, planStep, planEnd, List.getElem?_cons_zero, List.getElem?_cons_succ, drawStep_eq, kindOf, quietAt, quietC, evR, evC, memN, beq_dec, Nat.reduceEqDiff, decide_true, decide_false, setDS_some, loudDS_some, loudDS_none, allocDS_some, Nat.reduceLT, Tr.get_set, if_true, if_false, Option.map_some, Option.bind_some, List.length_cons, List.length_nil, sameAt, Nat.reduceAdd, Nat.reduceSub, ofVal, loadC, Heap.skip_get, Heap.get_put, loudStep, isCall, targetC, evs, evParts, mapO, List.cons_append, List.nil_append, List.append_nil, putAll, ne_eq, reduceCtorEq, not_false_eq_true, Int.reduceEq, eq_self, cbeq_int, cbeq_ptr, cbeq_str, cbeq_bool, cbeq_map, cbeq_slice, cbeq_nilSlice, Bool.and_self, Bool.and_true, Int.reduceNeg, List.append_eq, loudC, List.getElem?_toArray, h3, h6, h7, fa77_1, fa42_1, fa42_2, g52, g9, hg, hg7, Nat.zero_add, l1, l2, build79, al79, store79, hH2]
  refine ⟨_, rfl, by simp only [Tr.get_set, Nat.reduceEqDiff, if_true, if_false], fun t ht h8 => ?_⟩
  simp only [Tr.get_set]
  simp only [show t ≠ 50 by omega, show t ≠ 51 by omega, show t ≠ 52 by omega, show t ≠ 53 by omega, show t ≠ 54 by omega, show t ≠ 55 by omega, show t ≠ 56 by omega, show t ≠ 57 by omega, show t ≠ 58 by omega, show t ≠ 59 by omega, show t ≠ 60 by omega, show t ≠ 61 by omega, show t ≠ 62 by omega, show t ≠ 63 by omega, show t ≠ 64 by omega, show t ≠ 65 by omega, h8, if_false]
end Go.Z
