/- The queue's methods. The queue's Push and Pop. container/heap: up, Push. -/
import Derived.Test.YtmnhkbhdfkebmaaGreatDoorZ11

set_option linter.unusedSimpArgs false
set_option linter.unusedVariables false

namespace Go.Z
open Go.K Go.Proofs
set_option linter.unusedSimpArgs false
set_option linter.unusedVariables false
set_option maxRecDepth 10000

variable {X : CallFn}

/-- The queue behind its pointer. -/
def Que (H : Heap) (bq : Nat) (v : CV) (q : List Nat) (fq : Nat) : Prop := H.get bq = some (.cells [v] 87 none) ∧ bq < H.next ∧ Qv H v q fq
theorem Que.ext {H H' : Heap} {bq : Nat} {v : CV} {q : List Nat} {fq : Nat} (h : Que H bq v q fq) (hx : Ext H.next H H') : Que H' bq v q fq := ⟨hx.2 _ _ h.2.1 h.1, Nat.lt_of_lt_of_le h.2.1 hx.1, h.2.2.ext hx⟩

theorem qlen {H H' : Heap} {v : CV} {q : List Nat} {fq : Nat} (h : Qv H v q fq) : lenC Tryz.prog 87 H' v = some (nI q.length) := by
  rcases h.2 with ⟨rfl, b, rfl, _⟩ | ⟨b, p, rest, cap, rfl, _⟩ <;> simp [lenC, u87]
theorem qidx {H : Heap} {v : CV} {q : List Nat} {fq k : Nat} (h : Qv H v q fq) (hk : k < q.length) : ∃ b p rest, indexAddrC Tryz.prog 87 v (.int .i64 (k : Nat)) = some (.ptr b k) ∧ (∃ cap, v = .slice b 0 q.length cap) ∧ b < H.next ∧ H.get b = some (.cells (q.map nI ++ rest) 3 (some (fq, p))) ∧
    (∀ j, j < q.length → indexAddrC Tryz.prog 87 v (.int .i64 (j : Nat)) = some (.ptr b j)) := by
  have hne : q ≠ [] := by rintro rfl; simp at hk
  rcases h.2 with ⟨rfl, _⟩ | ⟨b, p, rest, cap, rfl, h2, h3, h4⟩
  · exact absurd rfl hne
  · rcases h4 with ⟨_, rfl⟩ | ⟨e, _⟩
    · have hj : ∀ j, j < q.length → indexAddrC Tryz.prog 87 (.slice b 0 q.length (.tail 1)) (.int .i64 (j : Nat)) = some (.ptr b j) := by
        intro j hj
        show indexAddrC Tryz.prog 87 _ (.int .i64 (Int.ofNat j)) = _
        simp only [indexAddrC, u87, blt_t hj, s3, Option.map_some, Nat.mul_one, Nat.zero_add]
      exact ⟨b, p, rest, hj k hk, ⟨_, rfl⟩, h2, h3, hj⟩
    · exact absurd e hne

theorem qlen_ok (hX : ∀ a H, X 37 a H = none) {H : Heap} {v : CV} {q : List Nat} {fq : Nat} (h : Qv H v q fq) : calls Tryz.prog X 37 [v] H = some (nI q.length, H) := by
  have h0 : (envOf [v] 0 .nil).get 0 = some v := by simp [envOf, Tr.get_set]
  have hl := fun H' => qlen (H' := H') h
  refine calls_ret (hX _ _) Tryz.func37 rfl (by decide) (nt := 5) rfl (env' := ((((envOf [v] 0 .nil).set 2 (.int .i64 0)).set 3 v).set 4 (nI q.length)).set 2 (nI q.length)) ?_ (results_one (by simp only [Tr.get_set, if_true]))
  simp only [codeOf, Tryz.f37, sub, go_seq, go_region, opsSeq_step, opsSeq_guard, guardStep_true, guardStep_false, guardVal, opsSeq_nil, afterStep_some, afterStep_none, stepC, kindOf, quietC, evC, Nat.reduceLT, Tr.get_set, if_true, if_false, Nat.reduceEqDiff, Option.map_some, Option.bind_some, List.getElem?_toArray, List.getElem?_cons_zero, List.getElem?_cons_succ, ofVal, decide_true, decide_false, BEq.rfl, andThen_normal, andThen_exit, andThen_ret, inBlock_normal, inBlock_ret, go_skip, go_exit, go_ret, loudStep, isCall, loudC, targetC, evs, evParts, mapO, List.nil_append, List.append_nil, List.cons_append, loadC, Heap.skip_get, Heap.get_put, Heap.skip_next, Heap.put_next, h0, hl]

theorem qless_ok (hX : ∀ a H, X 156 a H = none) {H : Heap} {v : CV} {q : List Nat} {fq i j : Nat} (h : Qv H v q fq) (hi : i < q.length) (hj : j < q.length) : ∃ b, calls Tryz.prog X 156 [v, nI i, nI j] H = some (.bool b, H.skip 10) := by
  obtain ⟨b, p, rest, _, _, hb, hg, hix⟩ := qidx h hi
  have h0 : (envOf [v, nI i, nI j] 0 .nil).get 0 = some v := by simp [envOf, Tr.get_set]
  have h1 : (envOf [v, nI i, nI j] 0 .nil).get 1 = some (.int .i64 (i : Nat)) := by simp [envOf, Tr.get_set]
  have h2 : (envOf [v, nI i, nI j] 0 .nil).get 2 = some (.int .i64 (j : Nat)) := by simp [envOf, Tr.get_set]
  have ci : (q.map nI ++ rest)[i]? = some (.int .i64 (q[i] : Nat)) := by rw [List.getElem?_append_left (by simpa using hi), List.getElem?_map, List.getElem?_eq_getElem hi]; rfl
  have cj : (q.map nI ++ rest)[j]? = some (.int .i64 (q[j] : Nat)) := by rw [List.getElem?_append_left (by simpa using hj), List.getElem?_map, List.getElem?_eq_getElem hj]; rfl
  have hcode : codeOf Tryz.f156 = .seq (sub (codeOf Tryz.f156) [false]) (.seq (sub (codeOf Tryz.f156) [true,false]) .ret) := rfl
  have ga : go Tryz.prog X 16 (sub (codeOf Tryz.f156) [false]) (envOf [v, nI i, nI j] 0 .nil) H = some (.normal, (envOf [v, nI i, nI j] 0 .nil).set 6 (.bool false), H) := by simp only [codeOf, Tryz.f156, sub, go_seq, go_region, opsSeq_step, opsSeq_guard, guardStep_true, guardStep_false, guardVal, opsSeq_nil, afterStep_some, afterStep_none, stepC, kindOf, quietC, evC, Nat.reduceLT, Tr.get_set, if_true, if_false, Nat.reduceEqDiff, Option.map_some, Option.bind_some, List.getElem?_toArray, List.getElem?_cons_zero, List.getElem?_cons_succ, ofVal, decide_true, decide_false, BEq.rfl, andThen_normal, andThen_exit, andThen_ret, inBlock_normal, inBlock_ret, go_skip, go_exit, go_ret, loudStep, isCall, loudC, targetC, evs, evParts, mapO, List.nil_append, List.append_nil, List.cons_append, loadC, Heap.skip_get, Heap.get_put, Heap.skip_next, Heap.put_next]
  have gb : ∃ e, go Tryz.prog X 16 (sub (codeOf Tryz.f156) [true,false]) ((envOf [v, nI i, nI j] 0 .nil).set 6 (.bool false)) H = some (.normal, e, H.skip 10) ∧ e.get 6 = some (.bool (decide ((q[i] : Int) < (q[j] : Int)))) := by
    simp only [codeOf, Tryz.f156, sub]
    rw [go_planned [(0,0,[0],false),(1,0,[1],false),(2,0,[7,8],false),(3,0,[9],false),(4,0,[0],false),(5,0,[2],false),(6,0,[11,12],false),(7,0,[13],false),(8,0,[10,14],false),(9,0,[15],false)] rfl (by kernel_rfl)]
    simp only [drawStep_guard, guardDS_true, guardDS_false, guardVal, BEq.rfl, planRun_cons, planRun_nil, planStep, planEnd, List.getElem?_cons_zero, List.getElem?_cons_succ, drawStep_eq, kindOf, quietAt, quietC, evR, evC, memN, beq_dec, Nat.reduceEqDiff, decide_true, decide_false, setDS_some, loudDS_some, loudDS_none, allocDS_some, Nat.reduceLT, Tr.get_set, if_true, if_false, Option.map_some, Option.bind_some, List.length_cons, List.length_nil, sameAt, Nat.reduceAdd, Nat.reduceSub, ofVal, loadC, Heap.skip_get, Heap.get_put, loudStep, isCall, targetC, evs, evParts, mapO, List.cons_append, List.nil_append, List.append_nil, putAll, ne_eq, reduceCtorEq, not_false_eq_true, Int.reduceEq, eq_self, cbeq_int, cbeq_ptr, cbeq_str, cbeq_bool, cbeq_map, cbeq_slice, cbeq_nilSlice, Bool.and_self, Bool.and_true, Int.reduceNeg, List.append_eq, loudC, List.getElem?_toArray, h0, h1, h2, hix i hi, hix j hj, hg, g3, ci, cj, bin_lss]
    exact ⟨_, rfl, by simp only [Tr.get_set, if_true]⟩
  obtain ⟨e, gb, e6⟩ := gb
  refine ⟨_, calls_ret (hX _ _) Tryz.func156 rfl (by decide) (nt := 16) rfl (env' := e) ?_ (results_one e6)⟩
  rw [hcode, go_seq, ga, andThen_normal, go_seq, gb, andThen_normal, go_ret]

theorem perm_swap {q : List Nat} {i j : Nat} (hi : i < q.length) (hj : j < q.length) : ((q.set i q[j]).set j q[i]).Perm q := by
  rw [List.perm_iff_count]
  intro a
  by_cases e : i = j
  · subst e
    simp
  · rw [List.count_set (by simpa using hj), List.count_set hi]
    have h1 : (q.set i q[j])[j]'(by simpa using hj) = q[j] := by rw [List.getElem_set_ne e]
    rw [h1]
    have hpos : ∀ k (hk : k < q.length), q[k] == a → 0 < q.count a := by
      intro k hk h
      exact List.count_pos_iff.2 ((beq_iff_eq.1 h) ▸ List.getElem_mem hk)
    have := hpos i hi
    have := hpos j hj
    by_cases a1 : (q[i] == a) = true
    · by_cases a2 : (q[j] == a) = true
      · simp only [a1, a2, if_true]
        have := hpos i hi a1
        omega
      · simp only [a1, a2, if_true]
        have := hpos i hi a1
        simp
        omega
    · by_cases a2 : (q[j] == a) = true
      · simp only [a1, a2, if_true]
        have := hpos j hj a2
        simp
      · simp [a1, a2]

theorem qswap_ok (hX : ∀ a H, X 159 a H = none) {H : Heap} {bq : Nat} {v : CV} {q : List Nat} {fq i j : Nat} (h : Que H bq v q fq) (hk : HOk H) (hi : i < q.length) (hj : j < q.length) :
    ∃ H', calls Tryz.prog X 159 [v, nI i, nI j] H = some (.tuple [], H') ∧ Que H' bq v ((q.set i q[j]).set j q[i]) fq ∧ HOk H' ∧ Kq bq fq fq H H' := by
  obtain ⟨b, p, rest, _, ⟨cap, hv⟩, hb, hg, hix⟩ := qidx h.2.2 hi
  have h0 : (envOf [v, nI i, nI j] 0 .nil).get 0 = some v := by simp [envOf, Tr.get_set]
  have h1 : (envOf [v, nI i, nI j] 0 .nil).get 1 = some (.int .i64 (i : Nat)) := by simp [envOf, Tr.get_set]
  have h2 : (envOf [v, nI i, nI j] 0 .nil).get 2 = some (.int .i64 (j : Nat)) := by simp [envOf, Tr.get_set]
  have ci : (q.map nI ++ rest)[i]? = some (.int .i64 (q[i] : Nat)) := by rw [List.getElem?_append_left (by simpa using hi), List.getElem?_map, List.getElem?_eq_getElem hi]; rfl
  have cj : (q.map nI ++ rest)[j]? = some (.int .i64 (q[j] : Nat)) := by rw [List.getElem?_append_left (by simpa using hj), List.getElem?_map, List.getElem?_eq_getElem hj]; rfl
  obtain ⟨H1, s1, b1, k1, n1, kp1⟩ := que_store (x := q[j]) (Hok.skip 16 hk) (H := H.skip 16) hg hi
  obtain ⟨H2, s2, b2, k2, n2, kp2⟩ := que_store (x := q[i]) (k := j) k1 b1 (by simpa using hj)
  have n1' : H1.next = H.next + 16 := n1
  have keep : ∀ b' o, (∀ p, o.fam ≠ some (fq, p)) → H.get b' = some o → H2.get b' = some o := fun b' o hf ho => kp2 b' o hf (kp1 b' o hf ho)
  have hvq : Qv H2 v ((q.set i q[j]).set j q[i]) fq := by
    have hne : q ≠ [] := by rintro rfl; simp at hi
    refine ⟨by have := h.2.2.1; omega, ?_⟩
    rcases h.2.2.2 with ⟨rfl, _⟩ | ⟨b', p', rest', cap', hv', h2', h3', h4'⟩
    · exact absurd rfl hne
    · rw [hv'] at hv
      injection hv with e1 e2 e3 e4
      subst e1
      rw [hg] at h3'
      injection h3' with h3'
      injection h3' with h3' h3'' h3'''
      have : rest = rest' := List.append_cancel_left h3'
      subst this
      refine .inr ⟨b', p, rest, cap', by simp [hv'], by omega, b2, ?_⟩
      rcases h4' with ⟨h, h'⟩ | ⟨h, _⟩
      · exact .inl ⟨by intro e; exact hne (List.length_eq_zero_iff.1 (by have := congrArg List.length e; simpa using this)), h'⟩
      · exact absurd h hne
  have key : ∃ e, go Tryz.prog X 20 (codeOf Tryz.f159) (envOf [v, nI i, nI j] 0 .nil) H = some (.normal, e, H2) := by
    simp only [codeOf, Tryz.f159]
    rw [go_planned [(0,0,[0],false),(1,0,[1],false),(4,0,[0],false),(5,0,[2],false),(6,0,[10,11],false),(7,0,[12],false),(8,0,[0],false),(9,0,[1],false),(10,0,[14,15],false),(11,0,[16],false),(12,0,[6,7],false),(13,0,[18,13],true),(2,0,[0],false),(3,0,[2],false),(14,1,[8,9],false),(15,1,[19,17],true)] rfl (by kernel_rfl)]
    have hcb : cbeq 12 v v = true := by rw [hv]; exact cbeq_slice ..
    have s1' : storeC Tryz.prog 3 (H.skip 16) (.ptr b i) (.int .i64 (q[j] : Nat)) = some (.tuple [], H1) := s1
    have s2' : storeC Tryz.prog 3 H1 (.ptr b j) (.int .i64 (q[i] : Nat)) = some (.tuple [], H2) := s2
    simp only [drawStep_guard, guardDS_true, guardDS_false, guardVal, BEq.rfl, planRun_cons, planRun_nil, planStep, planEnd, List.getElem?_cons_zero, List.getElem?_cons_succ, drawStep_eq, kindOf, quietAt, quietC, evR, evC, memN, beq_dec, Nat.reduceEqDiff, decide_true, decide_false, setDS_some, loudDS_some, loudDS_none, allocDS_some, Nat.reduceLT, Tr.get_set, if_true, if_false, Option.map_some, Option.bind_some, List.length_cons, List.length_nil, sameAt, Nat.reduceAdd, Nat.reduceSub, ofVal, loadC, Heap.skip_get, Heap.get_put, loudStep, isCall, targetC, evs, evParts, mapO, List.cons_append, List.nil_append, List.append_nil, putAll, ne_eq, reduceCtorEq, not_false_eq_true, Int.reduceEq, eq_self, cbeq_int, cbeq_ptr, cbeq_str, cbeq_bool, cbeq_map, cbeq_slice, cbeq_nilSlice, Bool.and_self, Bool.and_true, Int.reduceNeg, List.append_eq, loudC, List.getElem?_toArray, h0, h1, h2, hix i hi, hix j hj, hg, g3, ci, cj, s1', s2', hcb]
    exact ⟨_, rfl⟩
  obtain ⟨e, key⟩ := key
  exact ⟨H2, calls_normal (hX _ _) Tryz.func159 rfl (by decide) (nt := 20) rfl key rfl, ⟨keep _ _ (fun _ e => by simp [CObj.fam] at e) h.1, by have := h.2.1; omega, hvq⟩, k2, by omega, .inl rfl, fun b' o _ _ hf ho => keep b' o hf ho⟩
end Go.Z

namespace Go.Z
open Go.K Go.Proofs
set_option linter.unusedSimpArgs false
set_option linter.unusedVariables false
set_option maxRecDepth 10000

variable {X : CallFn}

theorem as3 (n : Int) : assertC Tryz.prog (.iface 3 (.int .i64 n)) 3 false = some (.int .i64 n) := by kernel_rfl
theorem Qv.put {H : Heap} {bq e : Nat} {v w : CV} {q : List Nat} {fq : Nat} {o : CObj} (h : Qv H v q fq) (hb : H.get bq = some (.cells [w] e none)) : Qv (H.put bq o) v q fq := by
  refine ⟨h.1, ?_⟩
  rcases h.2 with ⟨h1, b, h2, h3, h4⟩ | ⟨b, p, rest, cap, h1, h2, h3, h4⟩
  · refine .inl ⟨h1, b, h2, h3, ?_⟩
    rw [Heap.get_put, if_neg]
    · exact h4
    · rintro rfl; rw [hb] at h4; simp at h4
  · refine .inr ⟨b, p, rest, cap, h1, h2, ?_, h4⟩
    rw [Heap.get_put, if_neg]
    · exact h3
    · rintro rfl; rw [hb] at h3; simp at h3
theorem Qv.flat {H : Heap} {v : CV} {q : List Nat} {fq : Nat} (h : Qv H v q fq) : v.cells = [v] ∧ v.single = true ∧ ∀ d, cbeq d v v = true := by
  rcases h.2 with ⟨h1, b, rfl, h3, h4⟩ | ⟨b, p, rest, cap, rfl, h2, h3, h4⟩ <;> exact ⟨rfl, rfl, fun d => cbeq_slice ..⟩

theorem qpush_ok (hX : ∀ a H, X 158 a H = none) {H : Heap} {bq : Nat} {v : CV} {q : List Nat} {fq x : Nat} (h : Que H bq v q fq) (hk : HOk H) (hl : q.length < 1000) :
    ∃ H' v' fq', calls Tryz.prog X 158 [.ptr bq 0, .iface 3 (nI x)] H = some (.tuple [], H') ∧ Que H' bq v' (q ++ [x]) fq' ∧ HOk H' ∧ Kq bq fq fq' H H' := by
  have h0 : (envOf [.ptr bq 0, .iface 3 (nI x)] 0 .nil).get 0 = some (.ptr bq 0) := by simp [envOf, Tr.get_set]
  have h1 : (envOf [.ptr bq 0, .iface 3 (nI x)] 0 .nil).get 1 = some (.iface 3 (.int .i64 (x : Nat))) := by simp [envOf, Tr.get_set]
  generalize hH1 : (H.skip 10).put (H.next + 6) (.cells [nI x] 3 none) = H1
  have x1 : Ext H.next H H1 := by rw [← hH1]; exact Ext.skip.trans (Ext.put (by omega))
  have k1 : HOk H1 := by rw [← hH1]; exact Hok.put rfl (Hok.skip 10 hk)
  have n1 : H1.next = H.next + 10 := by rw [← hH1]; rfl
  obtain ⟨v', H2, fq', hap, hc1, hc2, hq2, k2, n2, hf, keep⟩ := que_append (x := x) (c := H.next + 6) (h.2.2.ext x1) k1 (by omega) (by rw [← hH1, Heap.get_put, if_pos rfl]) hl
  have hb2 : H2.get bq = some (.cells [v] 87 none) := keep bq _ (by have := h.2.1; omega) (fun _ e => by simp [CObj.fam] at e) (x1.2 _ _ h.2.1 h.1)
  have hst := store_one (P := Tryz.prog) (t := 87) (k := 0) s87 hc1 hc2 hb2 (by simp)
  simp only [List.set_cons_zero] at hst
  have key : ∃ e, go Tryz.prog X 13 (codeOf Tryz.f158) (envOf [.ptr bq 0, .iface 3 (nI x)] 0 .nil) H = some (.normal, e, H2.put bq (.cells [v'] 87 none)) := by
    simp only [codeOf, Tryz.f158]
    rw [go_planned [(1,0,[0],false),(2,0,[5],false),(3,0,[6],false),(4,0,[1],false),(5,0,[8],false),(6,0,[9],false),(7,0,[7,10],true),(0,0,[0],false),(8,1,[4],false),(9,1,[12,11],true)] rfl (by kernel_rfl)]
    simp only [drawStep_guard, guardDS_true, guardDS_false, guardVal, BEq.rfl, planRun_cons, planRun_nil, planStep, planEnd, List.getElem?_cons_zero, List.getElem?_cons_succ, drawStep_eq, kindOf, quietAt, quietC, evR, evC, memN, beq_dec, Nat.reduceEqDiff, decide_true, decide_false, setDS_some, loudDS_some, loudDS_none, allocDS_some, Nat.reduceLT, Tr.get_set, if_true, if_false, Option.map_some, Option.bind_some, List.length_cons, List.length_nil, sameAt, Nat.reduceAdd, Nat.reduceSub, ofVal, loadC, Heap.skip_get, Heap.get_put, loudStep, isCall, targetC, evs, evParts, mapO, List.cons_append, List.nil_append, List.append_nil, putAll, ne_eq, reduceCtorEq, not_false_eq_true, Int.reduceEq, eq_self, cbeq_int, cbeq_ptr, cbeq_str, cbeq_bool, cbeq_map, cbeq_slice, cbeq_nilSlice, Bool.and_self, Bool.and_true, Int.reduceNeg, List.append_eq, loudC, List.getElem?_toArray, h0, h1, h.1, g87, bs87, CV.cells, nI, as3, hH1, hap, hst]
    exact ⟨_, rfl⟩
  obtain ⟨e, key⟩ := key
  refine ⟨H2.put bq (.cells [v'] 87 none), v', fq', calls_normal (hX _ _) Tryz.func158 rfl (by decide) (nt := 13) rfl key rfl, ⟨by rw [Heap.get_put, if_pos rfl], ?_, hq2.put hb2⟩, Hok.put rfl k2, ?_, by omega, fun b o hb hne hf ho => ?_⟩
  · show bq < H2.next; have := h.2.1; omega
  · show H.next ≤ H2.next; omega
  · rw [Heap.get_put, if_neg hne]; exact keep b o (by omega) hf (x1.2 b o hb ho)

theorem qpop_ok (hX : ∀ a H, X 157 a H = none) {H : Heap} {bq : Nat} {v : CV} {q : List Nat} {fq x : Nat} (h : Que H bq v (q ++ [x]) fq) (hk : HOk H) (hl : q.length < 1000) :
    ∃ H' v', calls Tryz.prog X 157 [.ptr bq 0] H = some (.iface 3 (nI x), H') ∧ Que H' bq v' q fq ∧ HOk H' ∧ Kq bq fq fq H H' := by
  have h0 : (envOf [.ptr bq 0] 0 .nil).get 0 = some (.ptr bq 0) := by simp [envOf, Tr.get_set]
  obtain ⟨v', hcut, hq'⟩ := que_cut h.2.2
  obtain ⟨hc1, hc2, _⟩ := hq'.flat
  have hlen := fun H' => qlen (H' := H') h.2.2
  obtain ⟨b, p, rest, _, _, hb, hg, hix⟩ := qidx h.2.2 (k := q.length) (by simp)
  have hixl := hix q.length (by simp)
  have cx : ((q ++ [x]).map nI ++ rest)[q.length]? = some (.int .i64 (x : Nat)) := by simp
  have hst := store_one (P := Tryz.prog) (t := 87) (k := 0) s87 hc1 hc2 h.1 (by simp)
  simp only [List.set_cons_zero] at hst
  have hw : wrap .i64 (((q ++ [x]).length : Nat) - 1) = ((q.length : Nat) : Int) := by
    rw [List.length_append, List.length_singleton]
    rw [wrap64 (by omega) (by omega)]; omega
  have key : ∃ e, go Tryz.prog X 23 (codeOf Tryz.f157) (envOf [.ptr bq 0] 0 .nil) H = some (.ret, e, H.put bq (.cells [v'] 87 none)) ∧ e.get 2 = some (.iface 3 (nI x)) := by
    simp only [codeOf, Tryz.f157, go_seq, go_region, opsSeq_step, opsSeq_guard, guardStep_true, guardStep_false, guardVal, opsSeq_nil, afterStep_some, afterStep_none, stepC, kindOf, quietC, evC, Nat.reduceLT, Tr.get_set, if_true, if_false, Nat.reduceEqDiff, Option.map_some, Option.bind_some, List.getElem?_toArray, List.getElem?_cons_zero, List.getElem?_cons_succ, ofVal, decide_true, decide_false, BEq.rfl, andThen_normal, andThen_exit, andThen_ret, inBlock_normal, inBlock_ret, go_skip, go_exit, go_ret, loudStep, isCall, loudC, targetC, evs, evParts, mapO, List.nil_append, List.append_nil, List.cons_append, loadC, Heap.skip_get, Heap.get_put, Heap.skip_next, Heap.put_next, h0, h.1, g87, hlen, nI, bin_sub, hw, hixl, hg, g3, cx, evO, u3, hcut, hst]
    refine ⟨_, rfl, ?_⟩
    simp only [Tr.get_set, if_true]
  obtain ⟨e, key, e2⟩ := key
  refine ⟨H.put bq (.cells [v'] 87 none), v', calls_ret (hX _ _) Tryz.func157 rfl (by decide) (nt := 23) rfl key (results_one e2), ⟨by rw [Heap.get_put, if_pos rfl], h.2.1, hq'.put h.1⟩, Hok.put rfl hk, Nat.le_refl _, .inl rfl, fun b o hb hne hf ho => ?_⟩
  rw [Heap.get_put, if_neg hne]; exact ho
end Go.Z

namespace Go.Z
open Go.K Go.Proofs
set_option linter.unusedSimpArgs false
set_option linter.unusedVariables false
set_option maxRecDepth 10000

variable {X : CallFn}

theorem m_less' (H : Heap) (bq : Nat) : methodC Tryz.prog H 86 (.ptr bq 0) "Less" = (loadC Tryz.prog 87 H bq 0).map fun r => (156, r) := by kernel_rfl
theorem m_swap' (H : Heap) (bq : Nat) : methodC Tryz.prog H 86 (.ptr bq 0) "Swap" = (loadC Tryz.prog 87 H bq 0).map fun r => (159, r) := by kernel_rfl
theorem m_len' (H : Heap) (bq : Nat) : methodC Tryz.prog H 86 (.ptr bq 0) "Len" = (loadC Tryz.prog 87 H bq 0).map fun r => (37, r) := by kernel_rfl
theorem m_push (H : Heap) (bq : Nat) : methodC Tryz.prog H 86 (.ptr bq 0) "Push" = some (158, .ptr bq 0) := by kernel_rfl
theorem m_pop (H : Heap) (bq : Nat) : methodC Tryz.prog H 86 (.ptr bq 0) "Pop" = some (157, .ptr bq 0) := by kernel_rfl
theorem load87 {H : Heap} {bq : Nat} {v : CV} (h : H.get bq = some (.cells [v] 87 none)) : loadC Tryz.prog 87 H bq 0 = some v := by simp only [loadC, g87, h, List.getElem?_cons_zero]
theorem m_less {H : Heap} {bq : Nat} {v : CV} (h : H.get bq = some (.cells [v] 87 none)) : methodC Tryz.prog H 86 (.ptr bq 0) "Less" = some (156, v) := by rw [m_less', load87 h]; rfl
theorem m_swap {H : Heap} {bq : Nat} {v : CV} (h : H.get bq = some (.cells [v] 87 none)) : methodC Tryz.prog H 86 (.ptr bq 0) "Swap" = some (159, v) := by rw [m_swap', load87 h]; rfl
theorem m_len {H : Heap} {bq : Nat} {v : CV} (h : H.get bq = some (.cells [v] 87 none)) : methodC Tryz.prog H 86 (.ptr bq 0) "Len" = some (37, v) := by rw [m_len', load87 h]; rfl

/-- What is wanted of the functions' numbers. -/
structure QX (X : CallFn) : Prop where
  x36 : ∀ a H, X 36 a H = none
  x37 : ∀ a H, X 37 a H = none
  x38 : ∀ a H, X 38 a H = none
  x62 : ∀ a H, X 62 a H = none
  x63 : ∀ a H, X 63 a H = none
  x156 : ∀ a H, X 156 a H = none
  x157 : ∀ a H, X 157 a H = none
  x158 : ∀ a H, X 158 a H = none
  x159 : ∀ a H, X 159 a H = none

/-- Whether two are in order: the answer does not matter. -/
theorem up_cond (hX : QX X) {env : Env} {H : Heap} {bq i j : Nat} {v : CV} {q : List Nat} {fq : Nat} (h : Que H bq v q fq) (hk : HOk H) (h0 : env.get 0 = some (.iface 86 (.ptr bq 0))) (h1 : env.get 1 = some (nI j)) (h4 : env.get 4 = some (nI i)) (hi : i < q.length) (hj : j < q.length) :
    ∃ (c : Bool) (env' : Env) (H' : Heap), go Tryz.prog X 23 (sub (codeOf Tryz.f62) [false,false,false,true,false,false]) env H = some (.normal, env', H') ∧ env'.get 17 = some (.bool c) ∧ (i = j → c = true) ∧ HOk H' ∧ Ext H.next H H' ∧ ∀ t, t < 5 → env'.get t = env.get t := by
  have eb : (false == false) = true := rfl
  have ec : (true == false) = false := rfl
  by_cases hij : i = j
  · subst hij
    have : (i : Int) = (i : Int) := rfl
    refine ⟨true, ?_⟩
    simp only [codeOf, Tryz.f62, sub, go_seq, go_region, opsSeq_step, opsSeq_guard, guardStep_true, guardStep_false, guardVal, opsSeq_nil, afterStep_some, afterStep_none, stepC, kindOf, quietC, evC, Nat.reduceLT, Tr.get_set, if_true, if_false, Nat.reduceEqDiff, Option.map_some, Option.bind_some, List.getElem?_toArray, List.getElem?_cons_zero, List.getElem?_cons_succ, ofVal, decide_true, decide_false, BEq.rfl, andThen_normal, andThen_exit, andThen_ret, inBlock_normal, inBlock_ret, go_skip, go_exit, go_ret, loudStep, isCall, loudC, targetC, evs, evParts, mapO, List.nil_append, List.append_nil, List.cons_append, loadC, Heap.skip_get, Heap.get_put, Heap.skip_next, Heap.put_next, h0, h1, h4, nI, bin_eql, eb, ec]
    refine ⟨_, H, rfl, by simp only [Tr.get_set, if_true], by simp, hk, Ext.refl _ _, fun t ht => ?_⟩
    simp only [Tr.get_set, show t ≠ 5 by omega, show t ≠ 6 by omega, show t ≠ 7 by omega, show t ≠ 8 by omega, show t ≠ 9 by omega, show t ≠ 10 by omega, show t ≠ 11 by omega, show t ≠ 12 by omega, show t ≠ 13 by omega, show t ≠ 14 by omega, show t ≠ 15 by omega, show t ≠ 16 by omega, show t ≠ 17 by omega, if_false]
  · have hij' : ¬ ((i : Int) = (j : Int)) := by omega
    obtain ⟨b, hl⟩ := qless_ok (X := X) hX.x156 h.2.2 hj hi
    have hl' : calls Tryz.prog X 156 [v, .int .i64 (j : Nat), .int .i64 (i : Nat)] H = some (.bool b, H.skip 10) := hl
    have hm := m_less h.1
    cases b with
    | true =>
      refine ⟨false, ?_⟩
      simp only [codeOf, Tryz.f62, sub, go_seq, go_region, opsSeq_step, opsSeq_guard, guardStep_true, guardStep_false, guardVal, opsSeq_nil, afterStep_some, afterStep_none, stepC, kindOf, quietC, evC, Nat.reduceLT, Tr.get_set, if_true, if_false, Nat.reduceEqDiff, Option.map_some, Option.bind_some, List.getElem?_toArray, List.getElem?_cons_zero, List.getElem?_cons_succ, ofVal, decide_true, decide_false, BEq.rfl, andThen_normal, andThen_exit, andThen_ret, inBlock_normal, inBlock_ret, go_skip, go_exit, go_ret, loudStep, isCall, loudC, targetC, evs, evParts, mapO, List.nil_append, List.append_nil, List.cons_append, loadC, Heap.skip_get, Heap.get_put, Heap.skip_next, Heap.put_next, h0, h1, h4, nI, bin_eql, hij', eb, ec, hm, hl', Bool.not_true]
      refine ⟨_, H.skip 10, rfl, by simp only [Tr.get_set, if_true], fun e => absurd e hij, Hok.skip 10 hk, Ext.skip, fun t ht => ?_⟩
      simp only [Tr.get_set, show t ≠ 5 by omega, show t ≠ 6 by omega, show t ≠ 7 by omega, show t ≠ 8 by omega, show t ≠ 9 by omega, show t ≠ 10 by omega, show t ≠ 11 by omega, show t ≠ 12 by omega, show t ≠ 13 by omega, show t ≠ 14 by omega, show t ≠ 15 by omega, show t ≠ 16 by omega, show t ≠ 17 by omega, if_false]
    | false =>
      refine ⟨true, ?_⟩
      simp only [codeOf, Tryz.f62, sub, go_seq, go_region, opsSeq_step, opsSeq_guard, guardStep_true, guardStep_false, guardVal, opsSeq_nil, afterStep_some, afterStep_none, stepC, kindOf, quietC, evC, Nat.reduceLT, Tr.get_set, if_true, if_false, Nat.reduceEqDiff, Option.map_some, Option.bind_some, List.getElem?_toArray, List.getElem?_cons_zero, List.getElem?_cons_succ, ofVal, decide_true, decide_false, BEq.rfl, andThen_normal, andThen_exit, andThen_ret, inBlock_normal, inBlock_ret, go_skip, go_exit, go_ret, loudStep, isCall, loudC, targetC, evs, evParts, mapO, List.nil_append, List.append_nil, List.cons_append, loadC, Heap.skip_get, Heap.get_put, Heap.skip_next, Heap.put_next, h0, h1, h4, nI, bin_eql, hij', eb, ec, hm, hl', Bool.not_false]
      refine ⟨_, H.skip 10, rfl, by simp only [Tr.get_set, if_true], fun e => absurd e hij, Hok.skip 10 hk, Ext.skip, fun t ht => ?_⟩
      simp only [Tr.get_set, show t ≠ 5 by omega, show t ≠ 6 by omega, show t ≠ 7 by omega, show t ≠ 8 by omega, show t ≠ 9 by omega, show t ≠ 10 by omega, show t ≠ 11 by omega, show t ≠ 12 by omega, show t ≠ 13 by omega, show t ≠ 14 by omega, show t ≠ 15 by omega, show t ≠ 16 by omega, show t ≠ 17 by omega, if_false]

theorem up_half (j : Nat) (hj : j < 100000) : binC Tryz.prog .quo 3 (.int .i64 ((j : Int) - 1)) (.int .i64 2) = some (nI ((j - 1) / 2)) := by
  rw [bin_quo (by omega)]
  cases j with
  | zero => rfl
  | succ j =>
    have e1 : ((j + 1 : Nat) : Int) - 1 = (j : Int) := by omega
    rw [e1]
    have e2 : (j : Int).tdiv 2 = ((j / 2 : Nat) : Int) := by
      rw [show (2 : Int) = ((2 : Nat) : Int) from rfl, ← Int.ofNat_tdiv]
    rw [e2, wrap64 (by omega) (by omega)]
    rfl

theorem up_loop (hX : QX X) {bq fq : Nat} : ∀ (j : Nat) (env : Env) (H : Heap) (v : CV) (q : List Nat), Que H bq v q fq → HOk H → j < q.length → q.length < 1000 → env.get 0 = some (.iface 86 (.ptr bq 0)) → env.get 1 = some (nI j) →
    ∃ (env' : Env) (H' : Heap) (q' : List Nat), go Tryz.prog X 23 (sub (codeOf Tryz.f62) [false]) env H = some (.exit 0, env', H') ∧ Que H' bq v q' fq ∧ q'.Perm q ∧ HOk H' ∧ Kq bq fq fq H H' := by
  have hcode : sub (codeOf Tryz.f62) [false] = .loop (.block 1 (.seq (sub (codeOf Tryz.f62) [false,false,false,false]) (.seq (.seq (sub (codeOf Tryz.f62) [false,false,false,true,false,false]) (.cond (.tmp 17) (.exit 0) .skip)) (.seq (sub (codeOf Tryz.f62) [false,false,false,true,true,false]) (sub (codeOf Tryz.f62) [false,false,false,true,true,true]))))) := rfl
  intro j
  induction j using Nat.strongRecOn with
  | _ j ih =>
    intro env H v q h hk hj hq h0 h1
    have hw : wrap .i64 ((j : Int) - 1) = (j : Int) - 1 := wrap64 (by omega) (by omega)
    have ga : ∃ e, go Tryz.prog X 23 (sub (codeOf Tryz.f62) [false,false,false,false]) env H = some (.normal, e, H) ∧ e.get 0 = some (.iface 86 (.ptr bq 0)) ∧ e.get 1 = some (nI j) ∧ e.get 4 = some (nI ((j - 1) / 2)) := by
      have h1' : env.get 1 = some (.int .i64 (j : Nat)) := h1
      simp only [codeOf, Tryz.f62, sub, go_seq, go_region, opsSeq_step, opsSeq_guard, guardStep_true, guardStep_false, guardVal, opsSeq_nil, afterStep_some, afterStep_none, stepC, kindOf, quietC, evC, Nat.reduceLT, Tr.get_set, if_true, if_false, Nat.reduceEqDiff, Option.map_some, Option.bind_some, List.getElem?_toArray, List.getElem?_cons_zero, List.getElem?_cons_succ, ofVal, decide_true, decide_false, BEq.rfl, andThen_normal, andThen_exit, andThen_ret, inBlock_normal, inBlock_ret, go_skip, go_exit, go_ret, loudStep, isCall, loudC, targetC, evs, evParts, mapO, List.nil_append, List.append_nil, List.cons_append, loadC, Heap.skip_get, Heap.get_put, Heap.skip_next, Heap.put_next, h0, h1', bin_sub, hw, up_half j (by omega)]
      exact ⟨_, rfl, by simp only [Tr.get_set, Nat.reduceEqDiff, if_false, h0], by simp only [Tr.get_set, Nat.reduceEqDiff, if_false, h1], by simp only [Tr.get_set, if_true]⟩
    obtain ⟨e1, ga, a0, a1, a4⟩ := ga
    have hi : (j - 1) / 2 < q.length := by omega
    obtain ⟨c, e2, H2, gb, b17, hc, k2, x2, bq2⟩ := up_cond (X := X) hX h hk a0 a1 a4 hi hj
    cases c with
    | true =>
      refine ⟨e2, H2, q, ?_, h.ext x2, .refl _, k2, x2.kq⟩
      rw [hcode, go_loop, go_block, go_seq, ga, andThen_normal, go_seq, go_seq, gb, andThen_normal, go_cond _ _ _ (v := true) (by simp only [evC, b17]), if_pos rfl, go_exit, andThen_exit, inBlock_exit, if_neg (by omega), andThen_exit]
    | false =>
      have hne : (j - 1) / 2 ≠ j := by intro e; have := hc e; cases this
      obtain ⟨H3, cs, h3, k3, kq3⟩ := qswap_ok (X := X) hX.x159 (h.ext x2) k2 hi hj
      have b0 := (bq2 0 (by omega)).trans a0
      have b1 := (bq2 1 (by omega)).trans a1
      have b4 := (bq2 4 (by omega)).trans a4
      have hm := m_swap (h.ext x2).1
      have gc : ∃ e, go Tryz.prog X 23 (sub (codeOf Tryz.f62) [false,false,false,true,true,false]) e2 H2 = some (.normal, e, H3) ∧ ∀ t, t < 5 → e.get t = e2.get t := by
        simp only [codeOf, Tryz.f62, sub, go_seq, go_region, opsSeq_step, opsSeq_guard, guardStep_true, guardStep_false, guardVal, opsSeq_nil, afterStep_some, afterStep_none, stepC, kindOf, quietC, evC, Nat.reduceLT, Tr.get_set, if_true, if_false, Nat.reduceEqDiff, Option.map_some, Option.bind_some, List.getElem?_toArray, List.getElem?_cons_zero, List.getElem?_cons_succ, ofVal, decide_true, decide_false, BEq.rfl, andThen_normal, andThen_exit, andThen_ret, inBlock_normal, inBlock_ret, go_skip, go_exit, go_ret, loudStep, isCall, loudC, targetC, evs, evParts, mapO, List.nil_append, List.append_nil, List.cons_append, loadC, Heap.skip_get, Heap.get_put, Heap.skip_next, Heap.put_next, b0, b1, b4, hm, cs]
        refine ⟨_, rfl, fun t ht => ?_⟩
        simp only [Tr.get_set, show t ≠ 18 by omega, show t ≠ 19 by omega, show t ≠ 20 by omega, show t ≠ 21 by omega, if_false]
      obtain ⟨e3, gc, q3⟩ := gc
      have gd : go Tryz.prog X 23 (sub (codeOf Tryz.f62) [false,false,false,true,true,true]) e3 H3 = some (.normal, (e3.set 22 (nI ((j - 1) / 2))).set 1 (nI ((j - 1) / 2)), H3) := by
        simp only [codeOf, Tryz.f62, sub, go_seq, go_region, opsSeq_step, opsSeq_guard, guardStep_true, guardStep_false, guardVal, opsSeq_nil, afterStep_some, afterStep_none, stepC, kindOf, quietC, evC, Nat.reduceLT, Tr.get_set, if_true, if_false, Nat.reduceEqDiff, Option.map_some, Option.bind_some, List.getElem?_toArray, List.getElem?_cons_zero, List.getElem?_cons_succ, ofVal, decide_true, decide_false, BEq.rfl, andThen_normal, andThen_exit, andThen_ret, inBlock_normal, inBlock_ret, go_skip, go_exit, go_ret, loudStep, isCall, loudC, targetC, evs, evParts, mapO, List.nil_append, List.append_nil, List.cons_append, loadC, Heap.skip_get, Heap.get_put, Heap.skip_next, Heap.put_next, (q3 4 (by omega)).trans b4]
      obtain ⟨e5, H5, q5, g5, h5, p5, k5, kq5⟩ := ih ((j - 1) / 2) (by omega) ((e3.set 22 (nI ((j - 1) / 2))).set 1 (nI ((j - 1) / 2))) H3 v _ h3 k3 (by simpa using hi) (by simpa using hq) (by simp only [Tr.get_set, Nat.reduceEqDiff, if_false]; exact (q3 0 (by omega)).trans b0) (by simp only [Tr.get_set, if_true])
      refine ⟨e5, H5, q5, ?_, h5, p5.trans (perm_swap hi hj), k5, (x2.kq.trans kq3 hk).trans kq5 hk⟩
      rw [hcode, go_loop, ← hcode, go_block, go_seq, ga, andThen_normal, go_seq, go_seq, gb, andThen_normal, go_cond _ _ _ (v := false) (by simp only [evC, b17]), if_neg (by simp), go_skip, andThen_normal, go_seq, gc, andThen_normal, gd, inBlock_normal, andThen_normal]
      exact g5

theorem hpush_ok (hX : QX X) {H : Heap} {bq : Nat} {v : CV} {q : List Nat} {fq x : Nat} (h : Que H bq v q fq) (hk : HOk H) (hl : q.length < 900) :
    ∃ H' v' q' fq', calls Tryz.prog X 36 [.iface 86 (.ptr bq 0), .iface 3 (nI x)] H = some (.tuple [], H') ∧ Que H' bq v' q' fq' ∧ q'.Perm (q ++ [x]) ∧ HOk H' ∧ Kq bq fq fq' H H' := by
  have h0 : (envOf [.iface 86 (.ptr bq 0), .iface 3 (nI x)] 0 .nil).get 0 = some (.iface 86 (.ptr bq 0)) := by simp [envOf, Tr.get_set]
  have h1 : (envOf [.iface 86 (.ptr bq 0), .iface 3 (nI x)] 0 .nil).get 1 = some (.iface 3 (nI x)) := by simp [envOf, Tr.get_set]
  obtain ⟨H1, v1, fq1, c1, h1', k1, kq1⟩ := qpush_ok (X := X) (x := x) hX.x158 h hk (by omega)
  have c2 := qlen_ok (X := X) hX.x37 h1'.2.2
  have hm := m_push H bq
  have hml := m_len h1'.1
  have hw : wrap .i64 (((q ++ [x]).length : Nat) - 1) = ((q.length : Nat) : Int) := by
    rw [List.length_append, List.length_singleton, wrap64 (by omega) (by omega)]; omega
  have g62 : ∃ H' q', calls Tryz.prog X 62 [.iface 86 (.ptr bq 0), nI q.length] H1 = some (.tuple [], H') ∧ Que H' bq v1 q' fq1 ∧ q'.Perm (q ++ [x]) ∧ HOk H' ∧ Kq bq fq1 fq1 H1 H' := by
    obtain ⟨e, H', q', g, r⟩ := up_loop (X := X) hX q.length (envOf [.iface 86 (.ptr bq 0), nI q.length] 0 .nil) H1 v1 _ h1' k1 (by simp) (by simp; omega) (by simp [envOf, Tr.get_set]) (by simp [envOf, Tr.get_set])
    refine ⟨H', q', ?_, r⟩
    refine calls_normal (hX.x62 _ _) Tryz.func62 rfl (by decide) (nt := 23) rfl (env' := e) ?_ rfl
    show go Tryz.prog X 23 (.block 0 (sub (codeOf Tryz.f62) [false])) _ _ = _
    rw [go_block, g, inBlock_exit, if_pos rfl]
  obtain ⟨H2, q2, c3, h2, p2, k2, kq2⟩ := g62
  have key : ∃ e, go Tryz.prog X 12 (codeOf Tryz.f36) (envOf [.iface 86 (.ptr bq 0), .iface 3 (nI x)] 0 .nil) H = some (.normal, e, H2) := by
    have c3' : calls Tryz.prog X 62 [.iface 86 (.ptr bq 0), .int .i64 (q.length : Nat)] H1 = some (.tuple [], H2) := c3
    simp only [codeOf, Tryz.f36, go_seq, go_region, opsSeq_step, opsSeq_guard, guardStep_true, guardStep_false, guardVal, opsSeq_nil, afterStep_some, afterStep_none, stepC, kindOf, quietC, evC, Nat.reduceLT, Tr.get_set, if_true, if_false, Nat.reduceEqDiff, Option.map_some, Option.bind_some, List.getElem?_toArray, List.getElem?_cons_zero, List.getElem?_cons_succ, ofVal, decide_true, decide_false, BEq.rfl, andThen_normal, andThen_exit, andThen_ret, inBlock_normal, inBlock_ret, go_skip, go_exit, go_ret, loudStep, isCall, loudC, targetC, evs, evParts, mapO, List.nil_append, List.append_nil, List.cons_append, loadC, Heap.skip_get, Heap.get_put, Heap.skip_next, Heap.put_next, h0, h1, hm, c1, hml, c2, nI, bin_sub, hw, c3']
    exact ⟨_, rfl⟩
  obtain ⟨e, key⟩ := key
  exact ⟨H2, v1, q2, fq1, calls_normal (hX.x36 _ _) Tryz.func36 rfl (by decide) (nt := 12) rfl key rfl, h2, p2, k2, kq1.trans kq2 hk⟩
end Go.Z
