/- sorted: what holds of its state (plain law). sorted: its inner loop. sorted: one unit is put in order. -/
import Derived.Test.YtmnhkbhdfkebmaaGreatDoorZ13

set_option linter.unusedSimpArgs false
set_option linter.unusedVariables false

namespace Go.Z
open Go.K Go.Proofs
set_option linter.unusedSimpArgs false
set_option linter.unusedVariables false

/-- How many arcs lead to a unit from units that are not yet in order. -/
def rem (arcs : Arcs) (os : List Nat) (y : Nat) : Nat := arcs.countP fun a => decide (a.2.2 = y ∧ a.2.1 ∉ os)
theorem rem_nil (arcs : Arcs) (y : Nat) : rem arcs [] y = cnt arcs y := by simp [rem, cnt]
theorem rem_cons (a : Nat × Nat × Nat) (t : Arcs) (os : List Nat) (y : Nat) : rem (a :: t) os y = rem t os y + if a.2.2 = y ∧ a.2.1 ∉ os then 1 else 0 := by
  simp only [rem, List.countP_cons, decide_eq_true_eq]
theorem cnt_cons (a : Nat × Nat × Nat) (t : Arcs) (y : Nat) : cnt (a :: t) y = cnt t y + if a.2.2 = y then 1 else 0 := by
  simp only [cnt, List.countP_cons, decide_eq_true_eq]
theorem outOf_cons (a : Nat × Nat × Nat) (t : Arcs) (x : Nat) : outOf (a :: t) x = if a.2.1 = x then a :: outOf t x else outOf t x := by
  simp only [outOf, List.filter_cons, decide_eq_true_eq]
theorem rem_snoc {os : List Nat} {x y : Nat} (hx : x ∉ os) : ∀ arcs : Arcs, rem arcs os y = rem arcs (os ++ [x]) y + cnt (outOf arcs x) y
  | [] => rfl
  | a :: t => by
    have ih := rem_snoc (y := y) hx t
    rw [rem_cons, rem_cons, outOf_cons]
    by_cases h1 : a.2.1 = x
    · rw [if_pos h1, cnt_cons, h1]
      by_cases h2 : a.2.2 = y
      · rw [if_pos ⟨h2, hx⟩, if_neg (by simp), if_pos h2]; omega
      · rw [if_neg (fun h => h2 h.1), if_neg (fun h => h2 h.1), if_neg h2]; omega
    · rw [if_neg h1]
      have : (a.2.2 = y ∧ a.2.1 ∉ os) ↔ (a.2.2 = y ∧ a.2.1 ∉ os ++ [x]) := by simp [h1]
      by_cases h2 : a.2.2 = y ∧ a.2.1 ∉ os
      · rw [if_pos h2, if_pos (this.1 h2)]; omega
      · rw [if_neg h2, if_neg (fun h => h2 (this.2 h))]; omega

/-- Every unit comes behind those that are before it. -/
def Topo (arcs : Arcs) (os : List Nat) : Prop := ∀ l1 x l2, os = l1 ++ x :: l2 → ∀ a ∈ arcs, a.2.2 = x → a.2.1 ∈ l1
theorem Topo.snoc {arcs : Arcs} {os : List Nat} {x : Nat} (h : Topo arcs os) (hx : ∀ a ∈ arcs, a.2.2 = x → a.2.1 ∈ os) : Topo arcs (os ++ [x]) := by
  intro l1 y l2 e a ha hy
  rcases List.eq_nil_or_concat l2 with rfl | ⟨l2', z, rfl⟩
  · have := List.append_inj' e rfl
    obtain ⟨e1, e2⟩ := this
    injection e2 with e2 _
    subst e1; subst e2
    exact hx a ha hy
  · rw [List.concat_eq_append, ← List.cons_append, ← List.append_assoc] at e
    have := List.append_inj' e rfl
    exact h l1 y l2' this.1 a ha hy

structure KInv (arcs : Arcs) (n : Nat) (os q : List Nat) (bf : Nat → Nat) (extra : Arcs) : Prop where
  nodup : (q ++ os).Nodup
  lt : ∀ x ∈ q ++ os, x < n
  bfe : ∀ y, y < n → bf y = rem arcs os y + cnt extra y
  mem : ∀ y, y < n → (y ∈ q ++ os ↔ bf y = 0)
  topo : Topo arcs os

section
variable {arcs extra : Arcs} {n x : Nat} {os q q' : List Nat} {bf : Nat → Nat}
theorem KInv.pop (h : KInv arcs n os q bf []) (hp : q.Perm (x :: q')) : KInv arcs n (os ++ [x]) q' bf (outOf arcs x) := by
  have hpp : (q' ++ (os ++ [x])).Perm (q ++ os) := by
    refine List.Perm.trans ?_ (hp.symm.append_right os)
    rw [← List.append_assoc]
    refine List.perm_append_comm.trans ?_
    simp
  have hxq : x ∈ q := hp.mem_iff.2 (List.mem_cons_self ..)
  have hxn : x < n := h.lt x (List.mem_append_left _ hxq)
  have hxos : x ∉ os := by
    intro hx
    exact (List.nodup_append.1 h.nodup).2.2 x hxq x hx rfl
  have h0 : bf x = 0 := (h.mem x hxn).1 (List.mem_append_left _ hxq)
  refine ⟨hpp.nodup_iff.2 h.nodup, fun y hy => h.lt y (hpp.mem_iff.1 hy), fun y hy => ?_, fun y hy => ?_, h.topo.snoc fun a ha hax => ?_⟩
  · rw [h.bfe y hy, rem_snoc hxos]; simp [cnt]
  · rw [hpp.mem_iff]; exact h.mem y hy
  · have := h.bfe x hxn
    rw [h0] at this
    have hr : rem arcs os x = 0 := by omega
    rw [rem, List.countP_eq_zero] at hr
    have := hr a ha
    simp only [decide_eq_true_eq, hax, true_and, Decidable.not_not] at this
    exact this
theorem KInv.pos {a : Nat × Nat × Nat} (h : KInv arcs n os q bf (a :: extra)) (ha : a.2.2 < n) : 0 < bf a.2.2 := by
  rw [h.bfe _ ha, cnt_cons, if_pos rfl]; omega
theorem KInv.dec_bf {a : Nat × Nat × Nat} (h : KInv arcs n os q bf (a :: extra)) (ha : a.2.2 < n) : ∀ y, y < n → (if y = a.2.2 then bf a.2.2 - 1 else bf y) = rem arcs os y + cnt extra y := by
  intro y hy
  have := h.bfe y hy
  simp only [cnt, List.countP_cons] at this
  by_cases e : y = a.2.2
  · subst e
    simp only [decide_true, if_true] at this
    rw [if_pos rfl]
    simp only [cnt]; omega
  · rw [if_neg e]
    rw [if_neg (by simpa using Ne.symm e)] at this
    simpa [cnt] using this
theorem KInv.dec {a : Nat × Nat × Nat} (h : KInv arcs n os q bf (a :: extra)) (ha : a.2.2 < n) (h0 : bf a.2.2 - 1 ≠ 0) : KInv arcs n os q (fun y => if y = a.2.2 then bf a.2.2 - 1 else bf y) extra := by
  refine ⟨h.nodup, h.lt, h.dec_bf ha, fun y hy => ?_, h.topo⟩
  rw [h.mem y hy]
  by_cases e : y = a.2.2
  · subst e
    simp only [if_true]; omega
  · simp only [if_neg e]
theorem KInv.dec0 {a : Nat × Nat × Nat} (h : KInv arcs n os q bf (a :: extra)) (ha : a.2.2 < n) (h0 : bf a.2.2 - 1 = 0) (hp : q'.Perm (q ++ [a.2.2])) : KInv arcs n os q' (fun y => if y = a.2.2 then bf a.2.2 - 1 else bf y) extra := by
  have hpos := h.pos ha
  have hnot : a.2.2 ∉ q ++ os := fun hm => by have := (h.mem _ ha).1 hm; omega
  have hpp : (q' ++ os).Perm (a.2.2 :: (q ++ os)) := by
    refine (hp.append_right os).trans ?_
    simp only [List.append_assoc, List.singleton_append]
    exact List.perm_middle
  refine ⟨hpp.nodup_iff.2 (List.nodup_cons.2 ⟨hnot, h.nodup⟩), fun y hy => ?_, h.dec_bf ha, fun y hy => ?_, h.topo⟩
  · rcases List.mem_cons.1 (hpp.mem_iff.1 hy) with rfl | hy
    · exact ha
    · exact h.lt y hy
  · rw [hpp.mem_iff, List.mem_cons]
    by_cases e : y = a.2.2
    · subst e
      simp only [if_true, true_or, h0]
    · simp only [if_neg e, e, false_or]
      exact h.mem y hy
end
/-- A list of different small numbers is short. -/
theorem nodup_short : ∀ (n : Nat) (l : List Nat), l.Nodup → (∀ x ∈ l, x < n) → l.length ≤ n
  | 0, l, _, h => by
    cases l with
    | nil => simp
    | cons a t => have := h a (List.mem_cons_self ..); omega
  | n + 1, l, hd, h => by
    by_cases hm : n ∈ l
    · have := nodup_short n (l.erase n) (hd.erase n) (fun x hx => by
        have h1 := h x (List.mem_of_mem_erase hx)
        have : x ≠ n := by rintro rfl; exact (List.Nodup.not_mem_erase hd) hx
        omega)
      rw [List.length_erase_of_mem hm] at this
      omega
    · have := nodup_short n l hd (fun x hx => by
        have h1 := h x hx
        have : x ≠ n := by rintro rfl; exact hm hx
        omega)
      omega
end Go.Z

namespace Go.Z
open Go.K Go.Proofs
set_option linter.unusedSimpArgs false
set_option linter.unusedVariables false
set_option maxRecDepth 10000

variable {X : CallFn}

theorem srt_r15 {env : Env} {H : Heap} {av : CV} {arcs : List (Nat × Nat × Nat)} {i : Nat} (h25 : env.get 50 = some av) (h27 : env.get 52 = some (.int .i64 i)) (hl : Has H 3 79 av (arcs.map arcCV)) (hi : i < arcs.length) (hk : HOk H) :
    ∃ env' H', go Tryz.prog X 85 (sub (codeOf Tryz.f22) [true,true,true,true,true,false,false,false,true,false,true,true,true,false,false,true,true,false,false,false]) env H = some (.normal, env', H') ∧ H'.get H.next = some (.cells [.int .i64 arcs[i].1, .int .i64 arcs[i].2.1, .int .i64 arcs[i].2.2] 79 none) ∧ H'.next = H.next + 1 ∧ HOk H' ∧ Ext H.next H H' ∧
      env'.get 11 = some (.ptr H.next 0) ∧ ∀ t, t < 54 → t ≠ 11 → env'.get t = env.get t := by
  obtain ⟨b, off, cs, fam, hb, _, hidx, hget, hcells, hcell⟩ := hl.at (P := Tryz.prog) (t := 74) u74 s79 (i := i) (by simpa using hi)
  rw [List.getElem_map] at hcells
  have hcl : takeE 3 (cs.drop off) = some [.int .i64 arcs[i].1, .int .i64 arcs[i].2.1, .int .i64 arcs[i].2.2] := hcells
  generalize hH2 : ((H.skip 1).put H.next (.cells [.int .i64 0, .int .i64 0, .int .i64 0] 79 none)).put H.next (.cells [.int .i64 arcs[i].1, .int .i64 arcs[i].2.1, .int .i64 arcs[i].2.2] 79 none) = H2
  have hE2 : Ext H.next H H2 := by rw [← hH2]; exact (Ext.skip.trans (Ext.put (Nat.le_refl _))).trans (Ext.put (Nat.le_refl _))
  have hk2 : HOk H2 := by rw [← hH2]; exact Hok.put rfl (Hok.put rfl (Hok.skip 1 hk))
  have hn2 : H2.next = H.next + 1 := by rw [← hH2]; rfl
  have hg2 : H2.get H.next = some (.cells [.int .i64 arcs[i].1, .int .i64 arcs[i].2.1, .int .i64 arcs[i].2.2] 79 none) := by rw [← hH2, Heap.get_put, if_pos rfl]
  suffices h : ∃ env', go Tryz.prog X 85 (sub (codeOf Tryz.f22) [true,true,true,true,true,false,false,false,true,false,true,true,true,false,false,true,true,false,false,false]) env H = some (.normal, env', H2) ∧ env'.get 11 = some (.ptr H.next 0) ∧ ∀ t, t < 54 → t ≠ 11 → env'.get t = env.get t by
    obtain ⟨env', q1, q⟩ := h
    exact ⟨env', H2, q1, hg2, hn2, hk2, hE2, q⟩
  simp only [codeOf, Tryz.f22, sub, go_seq, go_region, opsSeq_step, opsSeq_guard, guardStep_true, guardStep_false, guardVal, opsSeq_nil, afterStep_some, afterStep_none, stepC, kindOf, quietC, evC, Nat.reduceLT, Tr.get_set, if_true, if_false, Nat.reduceEqDiff, Option.map_some, Option.bind_some, List.getElem?_toArray, List.getElem?_cons_zero, List.getElem?_cons_succ, ofVal, decide_true, decide_false, BEq.rfl, andThen_normal, andThen_exit, andThen_ret, inBlock_normal, inBlock_ret, go_skip, go_exit, go_ret, loudStep, isCall, loudC, targetC, evs, evParts, mapO, List.nil_append, List.append_nil, List.cons_append, loadC, Heap.skip_get, Heap.get_put, Heap.skip_next, Heap.put_next, h25, h27, hidx, hget, hcl, s79, g79, al79, store79, List.length_cons, List.length_nil, Nat.reduceAdd, hH2]
  refine ⟨_, rfl, by simp only [Tr.get_set, Nat.reduceEqDiff, if_true, if_false], fun t ht h10 => ?_⟩
  simp only [Tr.get_set, show t ≠ 54 by omega, show t ≠ 55 by omega, h10, if_false]

/-- One arc: its upper end has one less before it, and may be ready. -/
theorem srt_arc (hX : QX X) {H0 H : Heap} {bb bq n : Nat} {bf : Nat → Nat} {v w : CV} {q os : List Nat} {fq fo ba : Nat} {arcs extra : Arcs} {a : Nat × Nat × Nat} {env : Env} (h : Kahn H0 H bb bq n bf v w q os fq fo) (hi : KInv arcs n os q bf (a :: extra)) (ha : a.2.2 < n) (hn : n ≤ 16) (har : ∀ y, y < n → bf y < 10000)
    (hba : H.get ba = some (.cells [.int .i64 a.1, .int .i64 a.2.1, .int .i64 a.2.2] 79 none)) (lba : ba < H.next) (hbb : ba ≠ bb)
    (h4 : env.get 4 = some (.slice bb 0 n (.exact n))) (h5 : env.get 5 = some (.ptr bq 0)) (h11 : env.get 11 = some (.ptr ba 0)) :
    ∃ (env' : Env) (H' : Heap) (bf' : Nat → Nat) (v' : CV) (q' : List Nat) (fq' : Nat), go Tryz.prog X 85 (.seq (sub (codeOf Tryz.f22) [true,true,true,true,true,false,false,false,true,false,true,true,true,false,false,true,true,false,false,true,false]) (sub (codeOf Tryz.f22) [true,true,true,true,true,false,false,false,true,false,true,true,true,false,false,true,true,false,false,true,true])) env H = some (.normal, env', H') ∧ Kahn H0 H' bb bq n bf' v' w q' os fq' fo ∧ KInv arcs n os q' bf' extra ∧ (∀ y, y < n → bf' y < 10000) ∧ ∀ t, t < 54 → env'.get t = env.get t := by
  have hpos := hi.pos ha
  have hlt := har _ ha
  have hw : wrap .i64 ((bf a.2.2 : Nat) - 1) = ((bf a.2.2 - 1 : Nat) : Int) := by rw [wrap64 (by omega) (by omega)]; omega
  have hst := store_one (P := Tryz.prog) (t := 3) (k := a.2.2) (v := .int .i64 ((bf a.2.2 - 1 : Nat) : Int)) s3 rfl rfl h.b (by rw [cellsOf_length]; exact ha)
  rw [cellsOf_set ha] at hst
  have h1 := h.put (by omega) (fun y => if y = a.2.2 then bf a.2.2 - 1 else bf y)
  have ga : ∃ e, go Tryz.prog X 85 (sub (codeOf Tryz.f22) [true,true,true,true,true,false,false,false,true,false,true,true,true,false,false,true,true,false,false,true,false]) env H = some (.normal, e, H.put bb (.cells (cellsOf n fun y => if y = a.2.2 then bf a.2.2 - 1 else bf y) 3 none)) ∧ ∀ t, t < 54 → e.get t = env.get t := by
    simp only [codeOf, Tryz.f22, sub, go_seq, go_region, opsSeq_step, opsSeq_guard, guardStep_true, guardStep_false, guardVal, opsSeq_nil, afterStep_some, afterStep_none, stepC, kindOf, quietC, evC, Nat.reduceLT, Tr.get_set, if_true, if_false, Nat.reduceEqDiff, Option.map_some, Option.bind_some, List.getElem?_toArray, List.getElem?_cons_zero, List.getElem?_cons_succ, ofVal, decide_true, decide_false, BEq.rfl, andThen_normal, andThen_exit, andThen_ret, inBlock_normal, inBlock_ret, go_skip, go_exit, go_ret, loudStep, isCall, loudC, targetC, evs, evParts, mapO, List.nil_append, List.append_nil, List.cons_append, loadC, Heap.skip_get, Heap.get_put, Heap.skip_next, Heap.put_next, h4, h11, fa79_2, g3, hba, h.b, Nat.zero_add, idx26 ha, cellsOf_get ha, bin_sub, hw, hst]
    refine ⟨_, rfl, fun t ht => ?_⟩
    simp only [Tr.get_set, show t ≠ 54 by omega, show t ≠ 55 by omega, show t ≠ 56 by omega, show t ≠ 57 by omega, show t ≠ 58 by omega, show t ≠ 59 by omega, show t ≠ 60 by omega, show t ≠ 61 by omega, show t ≠ 62 by omega, if_false]
  obtain ⟨e1, ga, aq⟩ := ga
  generalize hH1 : H.put bb (.cells (cellsOf n fun y => if y = a.2.2 then bf a.2.2 - 1 else bf y) 3 none) = H1 at ga h1
  have hba1 : H1.get ba = some (.cells [.int .i64 a.1, .int .i64 a.2.1, .int .i64 a.2.2] 79 none) := by rw [← hH1, Heap.get_put, if_neg hbb]; exact hba
  have hcell := cellsOf_get (f := fun y => if y = a.2.2 then bf a.2.2 - 1 else bf y) ha
  simp only [if_true] at hcell
  have gb : ∃ e, go Tryz.prog X 85 (sub (codeOf Tryz.f22) [true,true,true,true,true,false,false,false,true,false,true,true,true,false,false,true,true,false,false,true,true,false]) e1 H1 = some (.normal, e, H1) ∧ e.get 68 = some (.bool (decide (((bf a.2.2 - 1 : Nat) : Int) = 0))) ∧ ∀ t, t < 54 → e.get t = e1.get t := by
    simp only [codeOf, Tryz.f22, sub, go_seq, go_region, opsSeq_step, opsSeq_guard, guardStep_true, guardStep_false, guardVal, opsSeq_nil, afterStep_some, afterStep_none, stepC, kindOf, quietC, evC, Nat.reduceLT, Tr.get_set, if_true, if_false, Nat.reduceEqDiff, Option.map_some, Option.bind_some, List.getElem?_toArray, List.getElem?_cons_zero, List.getElem?_cons_succ, ofVal, decide_true, decide_false, BEq.rfl, andThen_normal, andThen_exit, andThen_ret, inBlock_normal, inBlock_ret, go_skip, go_exit, go_ret, loudStep, isCall, loudC, targetC, evs, evParts, mapO, List.nil_append, List.append_nil, List.cons_append, loadC, Heap.skip_get, Heap.get_put, Heap.skip_next, Heap.put_next, (aq 4 (by omega)).trans h4, (aq 11 (by omega)).trans h11, fa79_2, g3, hba1, h1.b, Nat.zero_add, idx26 ha, hcell, bin_eql]
    refine ⟨_, rfl, by simp only [Tr.get_set, if_true], fun t ht => ?_⟩
    simp only [Tr.get_set, show t ≠ 63 by omega, show t ≠ 64 by omega, show t ≠ 65 by omega, show t ≠ 66 by omega, show t ≠ 67 by omega, show t ≠ 68 by omega, if_false]
  obtain ⟨e2, gb, b68, bq'⟩ := gb
  have hcode : (Code.seq (sub (codeOf Tryz.f22) [true,true,true,true,true,false,false,false,true,false,true,true,true,false,false,true,true,false,false,true,false]) (sub (codeOf Tryz.f22) [true,true,true,true,true,false,false,false,true,false,true,true,true,false,false,true,true,false,false,true,true])) = .seq (sub (codeOf Tryz.f22) [true,true,true,true,true,false,false,false,true,false,true,true,true,false,false,true,true,false,false,true,false]) (.seq (sub (codeOf Tryz.f22) [true,true,true,true,true,false,false,false,true,false,true,true,true,false,false,true,true,false,false,true,true,false]) (.cond (.tmp 68) (sub (codeOf Tryz.f22) [true,true,true,true,true,false,false,false,true,false,true,true,true,false,false,true,true,false,false,true,true,true,false]) .skip)) := rfl
  have hbf' : ∀ y, y < n → (if y = a.2.2 then bf a.2.2 - 1 else bf y) < 10000 := fun y hy => by have := har y hy; split <;> omega
  by_cases h0 : bf a.2.2 - 1 = 0
  · rw [show decide (((bf a.2.2 - 1 : Nat) : Int) = 0) = true by rw [h0]; rfl] at b68
    have hql : q.length ≤ n := nodup_short n q (List.nodup_append.1 hi.nodup).1 fun x hx => hi.lt x (List.mem_append_left _ hx)
    obtain ⟨H3, v3, q3, fq3, c1, q3h, p3, k3, kq3⟩ := hpush_ok (X := X) (x := a.2.2) hX h1.q h1.ok (by omega)
    have c1' : calls Tryz.prog X 36 [.iface 86 (.ptr bq 0), .iface 3 (.int .i64 (a.2.2 : Nat))] H1 = some (.tuple [], H3) := c1
    have u86 : ∃ d, Tryz.prog.underlying 86 = some (.pointer d) := ⟨87, by kernel_rfl⟩
    obtain ⟨d86, u86⟩ := u86
    have gc : ∃ e, go Tryz.prog X 85 (sub (codeOf Tryz.f22) [true,true,true,true,true,false,false,false,true,false,true,true,true,false,false,true,true,false,false,true,true,true,false]) e2 H1 = some (.normal, e, H3) ∧ ∀ t, t < 54 → e.get t = e2.get t := by
      simp only [codeOf, Tryz.f22, sub, go_seq, go_region, opsSeq_step, opsSeq_guard, guardStep_true, guardStep_false, guardVal, opsSeq_nil, afterStep_some, afterStep_none, stepC, kindOf, quietC, evC, Nat.reduceLT, Tr.get_set, if_true, if_false, Nat.reduceEqDiff, Option.map_some, Option.bind_some, List.getElem?_toArray, List.getElem?_cons_zero, List.getElem?_cons_succ, ofVal, decide_true, decide_false, BEq.rfl, andThen_normal, andThen_exit, andThen_ret, inBlock_normal, inBlock_ret, go_skip, go_exit, go_ret, loudStep, isCall, loudC, targetC, evs, evParts, mapO, List.nil_append, List.append_nil, List.cons_append, loadC, Heap.skip_get, Heap.get_put, Heap.skip_next, Heap.put_next, (bq' 5 (by omega)).trans ((aq 5 (by omega)).trans h5), (bq' 11 (by omega)).trans ((aq 11 (by omega)).trans h11), fa79_2, g3, hba1, Nat.zero_add, u86, u3, c1']
      refine ⟨_, rfl, fun t ht => ?_⟩
      simp only [Tr.get_set, show t ≠ 69 by omega, show t ≠ 70 by omega, show t ≠ 71 by omega, show t ≠ 72 by omega, show t ≠ 73 by omega, show t ≠ 74 by omega, if_false]
    obtain ⟨e3, gc, cq⟩ := gc
    refine ⟨e3, H3, _, v3, q3, fq3, ?_, h1.queue kq3 k3 q3h, hi.dec0 ha h0 p3, hbf', fun t ht => (cq t ht).trans ((bq' t ht).trans (aq t ht))⟩
    rw [hcode, go_seq, ga, andThen_normal, go_seq, gb, andThen_normal, go_cond _ _ _ (v := true) (by simp only [evC, b68]), if_pos rfl, gc]
  · rw [show decide (((bf a.2.2 - 1 : Nat) : Int) = 0) = false by simp; omega] at b68
    refine ⟨e2, H1, _, v, q, fq, ?_, h1, hi.dec ha h0, hbf', fun t ht => (bq' t ht).trans (aq t ht)⟩
    rw [hcode, go_seq, ga, andThen_normal, go_seq, gb, andThen_normal, go_cond _ _ _ (v := false) (by simp only [evC, b68]), if_neg (by simp), go_skip]
end Go.Z

namespace Go.Z
open Go.K Go.Proofs
set_option linter.unusedSimpArgs false
set_option linter.unusedVariables false
set_option maxRecDepth 10000

variable {X : CallFn}

theorem srt_inner (hX : QX X) {H0 H : Heap} {bb bq n : Nat} {bf : Nat → Nat} {v w vx : CV} {q os : List Nat} {fq fo : Nat} {arcs l : Arcs} {env : Env} (h : Kahn H0 H bb bq n bf v w q os fq fo) (hi : KInv arcs n os q bf l) (hl : Has H0 3 79 vx (l.map arcCV)) (hup : ∀ a ∈ l, a.2.2 < n) (hll : l.length < 1000) (hn : n ≤ 16) (har : ∀ y, y < n → bf y < 10000)
    (h4 : env.get 4 = some (.slice bb 0 n (.exact n))) (h5 : env.get 5 = some (.ptr bq 0)) (h50 : env.get 50 = some vx) (h51 : env.get 51 = some (.int .i64 (l.length : Nat))) (h52 : env.get 52 = some (.int .i64 (0 : Nat))) :
    ∃ (env' : Env) (H' : Heap) (bf' : Nat → Nat) (v' : CV) (q' : List Nat) (fq' : Nat), go Tryz.prog X 85 (sub (codeOf Tryz.f22) [true,true,true,true,true,false,false,false,true,false,true,true,true,false]) env H = some (.exit 4, env', H') ∧ Kahn H0 H' bb bq n bf' v' w q' os fq' fo ∧ KInv arcs n os q' bf' [] ∧ (∀ y, y < n → bf' y < 10000) ∧ (∀ t, t < 9 → env'.get t = env.get t) := by
  have hL := range_loop (P := Tryz.prog) (X := X) (nt := 85) (code := sub (codeOf Tryz.f22) [true,true,true,true,true,false,false,false,true,false,true,true,true,false]) (hd := sub (codeOf Tryz.f22) [true,true,true,true,true,false,false,false,true,false,true,true,true,false,false,false]) (body := sub (codeOf Tryz.f22) [true,true,true,true,true,false,false,false,true,false,true,true,true,false,false,true,true,false,false]) (inc := sub (codeOf Tryz.f22) [true,true,true,true,true,false,false,false,true,false,true,true,true,false,false,true,true,true]) (ti := 52) (tn := 51) (tc := 53) (tx := 75) (e := 4) (b := 5) rfl (by omega)
    (fun env H i n h1 h2 => by simp only [codeOf, Tryz.f22, sub, go_seq, go_region, opsSeq_step, opsSeq_guard, guardStep_true, guardStep_false, guardVal, opsSeq_nil, afterStep_some, afterStep_none, stepC, kindOf, quietC, evC, Nat.reduceLT, Tr.get_set, if_true, if_false, Nat.reduceEqDiff, Option.map_some, Option.bind_some, List.getElem?_toArray, List.getElem?_cons_zero, List.getElem?_cons_succ, ofVal, decide_true, decide_false, BEq.rfl, andThen_normal, andThen_exit, andThen_ret, inBlock_normal, inBlock_ret, go_skip, go_exit, go_ret, loudStep, isCall, loudC, targetC, evs, evParts, mapO, List.nil_append, List.append_nil, List.cons_append, loadC, Heap.skip_get, Heap.get_put, Heap.skip_next, Heap.put_next, h1, h2, bin_lss]) (fun env H i h1 hw => by simp only [codeOf, Tryz.f22, sub, go_seq, go_region, opsSeq_step, opsSeq_guard, guardStep_true, guardStep_false, guardVal, opsSeq_nil, afterStep_some, afterStep_none, stepC, kindOf, quietC, evC, Nat.reduceLT, Tr.get_set, if_true, if_false, Nat.reduceEqDiff, Option.map_some, Option.bind_some, List.getElem?_toArray, List.getElem?_cons_zero, List.getElem?_cons_succ, ofVal, decide_true, decide_false, BEq.rfl, andThen_normal, andThen_exit, andThen_ret, inBlock_normal, inBlock_ret, go_skip, go_exit, go_ret, loudStep, isCall, loudC, targetC, evs, evParts, mapO, List.nil_append, List.append_nil, List.cons_append, loadC, Heap.skip_get, Heap.get_put, Heap.skip_next, Heap.put_next, h1, bin_add, hw]) (by omega) (n := l.length) (by omega)
    (fun i e H' => e.get 50 = some vx ∧ (∀ t, t < 9 → e.get t = env.get t) ∧ ∃ bf' v' q' fq', Kahn H0 H' bb bq n bf' v' w q' os fq' fo ∧ KInv arcs n os q' bf' (l.drop i) ∧ ∀ y, y < n → bf' y < 10000) (fun _ _ => False)
    (fun i e H' t v ht ⟨a50, aq, r⟩ => ⟨by rcases ht with rfl | rfl | rfl <;> simp only [Tr.get_set, Nat.reduceEqDiff, if_false, a50], fun s hs => by rcases ht with rfl | rfl | rfl <;> simp only [Tr.get_set, show s ≠ 53 by omega, show s ≠ 75 by omega, show s ≠ 52 by omega, if_false, aq s hs], r⟩)
    (fun i e G hil ⟨a50, aq, bf', v', q', fq', hK, hI, hB⟩ h1 h2 => by
      left
      have hlG := hl.ext hK.ext hl.lt
      obtain ⟨e1, G2, g1, p1, p2, p3, p4, p5, p6⟩ := srt_r15 (X := X) a50 h1 hlG hil hK.ok
      rw [List.drop_eq_getElem_cons hil] at hI
      have hba : G.next ≠ bb := by have := hK.lb; omega
      obtain ⟨e2, G3, bf2, v2, q2, fq2, g2, k2, i2, b2, r2⟩ := srt_arc (X := X) hX (hK.step p4 p3) hI (hup _ (List.getElem_mem _)) hn hB p1 (by omega) hba ((p6 4 (by omega) (by omega)).trans ((aq 4 (by omega)).trans h4)) ((p6 5 (by omega) (by omega)).trans ((aq 5 (by omega)).trans h5)) p5
      have hq : ∀ t, t < 54 → t ≠ 11 → e2.get t = e.get t := fun t ht hne => (r2 t ht).trans (p6 t ht hne)
      refine ⟨.normal, e2, G3, ?_, .inl rfl, ⟨(hq 50 (by omega) (by omega)).trans a50, fun t ht => (hq t (by omega) (by omega)).trans (aq t ht), bf2, v2, q2, fq2, k2, i2, b2⟩, (hq 52 (by omega) (by omega)).trans h1, (hq 51 (by omega) (by omega)).trans h2⟩
      show go Tryz.prog X 85 (.seq (sub (codeOf Tryz.f22) [true,true,true,true,true,false,false,false,true,false,true,true,true,false,false,true,true,false,false,false]) (.seq (sub (codeOf Tryz.f22) [true,true,true,true,true,false,false,false,true,false,true,true,true,false,false,true,true,false,false,true,false]) (sub (codeOf Tryz.f22) [true,true,true,true,true,false,false,false,true,false,true,true,true,false,false,true,true,false,false,true,true]))) e G = _
      rw [go_seq, g1, andThen_normal, g2])
  rcases hL l.length 0 env H (by omega) ⟨h50, fun _ _ => rfl, bf, v, q, fq, h, hi, har⟩ h52 h51 with ⟨e, H', g, _, aq, bf', v', q', fq', hK, hI, hB⟩ | ⟨_, _, _, f⟩
  · rw [List.drop_length] at hI
    exact ⟨e, H', bf', v', q', fq', g, hK, hI, hB, aq⟩
  · exact f.elim

theorem srt_head {env : Env} {H : Heap} {bq : Nat} {v : CV} {q : List Nat} {fq : Nat} (hX : QX X) (h : Que H bq v q fq) (h5 : env.get 5 = some (.ptr bq 0)) :
    ∃ env', go Tryz.prog X 85 (.seq (sub (codeOf Tryz.f22) [true,true,true,true,true,false,false,false,false,false]) (.cond (.tmp 35) .skip (.exit 2))) env H = some (if q = [] then .exit 2 else .normal, env', H) ∧ ∀ t, t < 20 → env'.get t = env.get t := by
  have c1 := qlen_ok (X := X) hX.x37 h.2.2
  have ga : ∃ e, go Tryz.prog X 85 (sub (codeOf Tryz.f22) [true,true,true,true,true,false,false,false,false,false]) env H = some (.normal, e, H) ∧ e.get 35 = some (.bool (decide (0 < (q.length : Int)))) ∧ ∀ t, t < 20 → e.get t = env.get t := by
    simp only [codeOf, Tryz.f22, sub, go_seq, go_region, opsSeq_step, opsSeq_guard, guardStep_true, guardStep_false, guardVal, opsSeq_nil, afterStep_some, afterStep_none, stepC, kindOf, quietC, evC, Nat.reduceLT, Tr.get_set, if_true, if_false, Nat.reduceEqDiff, Option.map_some, Option.bind_some, List.getElem?_toArray, List.getElem?_cons_zero, List.getElem?_cons_succ, ofVal, decide_true, decide_false, BEq.rfl, andThen_normal, andThen_exit, andThen_ret, inBlock_normal, inBlock_ret, go_skip, go_exit, go_ret, loudStep, isCall, loudC, targetC, evs, evParts, mapO, List.nil_append, List.append_nil, List.cons_append, loadC, Heap.skip_get, Heap.get_put, Heap.skip_next, Heap.put_next, h5, h.1, g87, c1, nI, bin_gtr]
    refine ⟨_, rfl, by simp only [Tr.get_set, if_true], fun t ht => ?_⟩
    simp only [Tr.get_set, show t ≠ 31 by omega, show t ≠ 32 by omega, show t ≠ 33 by omega, show t ≠ 34 by omega, show t ≠ 35 by omega, if_false]
  obtain ⟨e1, ga, a35, aq⟩ := ga
  refine ⟨e1, ?_, aq⟩
  by_cases hq : q = []
  · subst hq
    rw [go_seq, ga, andThen_normal, go_cond _ _ _ (v := false) (by simp only [evC, a35]; rfl), if_neg (by simp), go_exit, if_pos rfl]
  · have : 0 < q.length := List.length_pos_iff.2 hq
    rw [go_seq, ga, andThen_normal, go_cond _ _ _ (v := true) (by simp only [evC, a35]; rw [decide_eq_true (by omega)]), if_pos rfl, go_skip, if_neg hq]

/-- The first in the queue is put behind the order. -/
theorem srt_take (hX : QX X) {H0 H : Heap} {bb bq bg bm bx : Nat} {bf : Nat → Nat} {v w nv av : CV} {xs : List CV} {us : List Nat} {q os : List Nat} {fq fo : Nat} {arcs : Arcs} {env : Env} (hg : Gr H0 bg bm bx nv av xs us arcs) (h : Kahn H0 H bb bq us.length bf v w q os fq fo) (hi : KInv arcs us.length os q bf []) (hq : q ≠ []) (hn : us.length ≤ 16)
    (h0 : env.get 0 = some (.ptr bg 0)) (h5 : env.get 5 = some (.ptr bq 0)) (h8 : env.get 8 = some w) :
    ∃ (env' : Env) (H' : Heap) (v' w' vx : CV) (q' : List Nat) (x fo' : Nat), go Tryz.prog X 85 (.seq (sub (codeOf Tryz.f22) [true,true,true,true,true,false,false,false,true,false,false]) (.seq (sub (codeOf Tryz.f22) [true,true,true,true,true,false,false,false,true,false,true,false]) (sub (codeOf Tryz.f22) [true,true,true,true,true,false,false,false,true,false,true,true,false]))) env H = some (.normal, env', H') ∧ Kahn H0 H' bb bq us.length bf v' w' q' (os ++ [x]) fq fo' ∧ KInv arcs us.length (os ++ [x]) q' bf (outOf arcs x) ∧
      Has H0 3 79 vx ((outOf arcs x).map arcCV) ∧ env'.get 8 = some w' ∧ env'.get 50 = some vx ∧ env'.get 51 = some (.int .i64 ((outOf arcs x).length : Nat)) ∧ env'.get 52 = some (.int .i64 (0 : Nat)) ∧ ∀ t, t < 8 → env'.get t = env.get t := by
  have hql : q.length ≤ us.length := nodup_short _ q (List.nodup_append.1 hi.nodup).1 fun x hx => hi.lt x (List.mem_append_left _ hx)
  have hol : os.length ≤ us.length := nodup_short _ os (List.nodup_append.1 hi.nodup).2.1 fun x hx => hi.lt x (List.mem_append_right _ hx)
  obtain ⟨H1, v1, q1, x, c1, h1, p1, k1, kq1⟩ := hpop_ok (X := X) hX h.q h.ok (by omega) hq
  have hK1 := h.queue kq1 k1 h1
  have hI1 := hi.pop p1
  have hx : x < us.length := hi.lt x (List.mem_append_left _ (p1.mem_iff.2 (List.mem_cons_self ..)))
  have u86 : ∃ d, Tryz.prog.underlying 86 = some (.pointer d) := ⟨87, by kernel_rfl⟩
  obtain ⟨d86, u86⟩ := u86
  have as3' := as3 (x : Nat)
  have ga : ∃ e, go Tryz.prog X 85 (sub (codeOf Tryz.f22) [true,true,true,true,true,false,false,false,true,false,false]) env H = some (.normal, e, H1) ∧ e.get 9 = some (nI x) ∧ ∀ t, t < 9 → e.get t = env.get t := by
    simp only [codeOf, Tryz.f22, sub, go_seq, go_region, opsSeq_step, opsSeq_guard, guardStep_true, guardStep_false, guardVal, opsSeq_nil, afterStep_some, afterStep_none, stepC, kindOf, quietC, evC, Nat.reduceLT, Tr.get_set, if_true, if_false, Nat.reduceEqDiff, Option.map_some, Option.bind_some, List.getElem?_toArray, List.getElem?_cons_zero, List.getElem?_cons_succ, ofVal, decide_true, decide_false, BEq.rfl, andThen_normal, andThen_exit, andThen_ret, inBlock_normal, inBlock_ret, go_skip, go_exit, go_ret, loudStep, isCall, loudC, targetC, evs, evParts, mapO, List.nil_append, List.append_nil, List.cons_append, loadC, Heap.skip_get, Heap.get_put, Heap.skip_next, Heap.put_next, h5, u86, c1, nI, as3']
    refine ⟨_, rfl, by simp only [Tr.get_set, if_true], fun t ht => ?_⟩
    simp only [Tr.get_set, show t ≠ 9 by omega, show t ≠ 36 by omega, show t ≠ 37 by omega, show t ≠ 38 by omega, show t ≠ 39 by omega, if_false]
  obtain ⟨e1, ga, a9, aq⟩ := ga
  generalize hH2 : (H1.skip 1).put H1.next (.cells [nI x] 3 none) = H2
  have x2 : Ext H1.next H1 H2 := by rw [← hH2]; exact Ext.skip.trans (Ext.put (Nat.le_refl _))
  have k2 : HOk H2 := by rw [← hH2]; exact Hok.put rfl (Hok.skip 1 k1)
  have n2 : H2.next = H1.next + 1 := by rw [← hH2]; rfl
  have hK2 := hK1.step x2 k2
  obtain ⟨w', H3, fo', hap, hK3⟩ := hK2.order (c := H1.next) (x := x) (by omega) (by rw [← hH2, Heap.get_put, if_pos rfl]) (by omega)
  have gb : ∃ e, go Tryz.prog X 85 (sub (codeOf Tryz.f22) [true,true,true,true,true,false,false,false,true,false,true,false]) e1 H1 = some (.normal, e, H3) ∧ e.get 8 = some w' ∧ ∀ t, t < 10 → t ≠ 8 → e.get t = e1.get t := by
    simp only [codeOf, Tryz.f22, sub, go_seq, go_region, opsSeq_step, opsSeq_guard, guardStep_true, guardStep_false, guardVal, opsSeq_nil, afterStep_some, afterStep_none, stepC, kindOf, quietC, evC, Nat.reduceLT, Tr.get_set, if_true, if_false, Nat.reduceEqDiff, Option.map_some, Option.bind_some, List.getElem?_toArray, List.getElem?_cons_zero, List.getElem?_cons_succ, ofVal, decide_true, decide_false, BEq.rfl, andThen_normal, andThen_exit, andThen_ret, inBlock_normal, inBlock_ret, go_skip, go_exit, go_ret, loudStep, isCall, loudC, targetC, evs, evParts, mapO, List.nil_append, List.append_nil, List.cons_append, loadC, Heap.skip_get, Heap.get_put, Heap.skip_next, Heap.put_next, (aq 8 (by omega)).trans h8, a9, bs26, CV.cells, List.length_cons, List.length_nil, Nat.reduceAdd, hH2, hap]
    refine ⟨_, rfl, by simp only [Tr.get_set, if_true], fun t ht h8' => ?_⟩
    simp only [Tr.get_set, h8', show t ≠ 40 by omega, show t ≠ 41 by omega, show t ≠ 42 by omega, show t ≠ 43 by omega, if_false]
  obtain ⟨e2, gb, b8, bq'⟩ := gb
  have hg3 := hg.ext hK3.ext
  obtain ⟨vx, hvx⟩ : ∃ v, xs[x]? = some v := ⟨_, List.getElem?_eq_getElem (by rw [hg.len]; exact hx)⟩
  have hlen := (hg.c x vx hvx).len (P := Tryz.prog) u74
  rw [List.length_map] at hlen
  have b9 : e2.get 9 = some (.int .i64 (x : Nat)) := (bq' 9 (by omega) (by omega)).trans a9
  have gc : ∃ e, go Tryz.prog X 85 (sub (codeOf Tryz.f22) [true,true,true,true,true,false,false,false,true,false,true,true,false]) e2 H3 = some (.normal, e, H3) ∧ e.get 50 = some vx ∧ e.get 51 = some (.int .i64 ((outOf arcs x).length : Nat)) ∧ e.get 52 = some (.int .i64 (0 : Nat)) ∧ ∀ t, t < 10 → e.get t = e2.get t := by
    simp only [codeOf, Tryz.f22, sub, go_seq, go_region, opsSeq_step, opsSeq_guard, guardStep_true, guardStep_false, guardVal, opsSeq_nil, afterStep_some, afterStep_none, stepC, kindOf, quietC, evC, Nat.reduceLT, Tr.get_set, if_true, if_false, Nat.reduceEqDiff, Option.map_some, Option.bind_some, List.getElem?_toArray, List.getElem?_cons_zero, List.getElem?_cons_succ, ofVal, decide_true, decide_false, BEq.rfl, andThen_normal, andThen_exit, andThen_ret, inBlock_normal, inBlock_ret, go_skip, go_exit, go_ret, loudStep, isCall, loudC, targetC, evs, evParts, mapO, List.nil_append, List.append_nil, List.cons_append, loadC, Heap.skip_get, Heap.get_put, Heap.skip_next, Heap.put_next, (bq' 0 (by omega) (by omega)).trans ((aq 0 (by omega)).trans h0), b9, fa77_3, g75, g74, hg3.g, hg3.x, Nat.zero_add, idx75 hx, hvx, hlen]
    refine ⟨_, rfl, by simp only [Tr.get_set, Nat.reduceEqDiff, if_false, if_true], by simp only [Tr.get_set, Nat.reduceEqDiff, if_false, if_true], by simp only [Tr.get_set, if_true]; rfl, fun t ht => ?_⟩
    simp only [Tr.get_set, show t ≠ 44 by omega, show t ≠ 45 by omega, show t ≠ 46 by omega, show t ≠ 47 by omega, show t ≠ 48 by omega, show t ≠ 49 by omega, show t ≠ 50 by omega, show t ≠ 51 by omega, show t ≠ 52 by omega, if_false]
  obtain ⟨e3, gc, c50, c51, c52, cq⟩ := gc
  refine ⟨e3, H3, v1, w', vx, q1, x, fo', ?_, hK3, hI1, hg.c x vx hvx, (cq 8 (by omega)).trans b8, c50, c51, c52, fun t ht => (cq t (by omega)).trans ((bq' t (by omega) (by omega)).trans (aq t (by omega)))⟩
  rw [go_seq, ga, andThen_normal, go_seq, gb, andThen_normal, gc]
end Go.Z
