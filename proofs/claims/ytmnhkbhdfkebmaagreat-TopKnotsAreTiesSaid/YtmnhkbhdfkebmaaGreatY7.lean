/- Older, and the law's own function around it. The law's own function around Older. Maps from names. -/
import Derived.Test.YtmnhkbhdfkebmaaGreatY6

set_option linter.unusedSimpArgs false
set_option linter.unusedVariables false

namespace Go.Y
open Go.K Go.Proofs
set_option linter.unusedSimpArgs false
set_option linter.unusedVariables false
set_option maxRecDepth 10000

variable {X : CallFn}

/-- One unit is older than another one, if arcs lead from it to the other. -/
def OlderW (rs : Rels) (a b : Nat) : Prop := ∃ m, Way (arcsFrom (unitsOf rs) 0 rs) (m + 1) ((unitsOf rs).idxOf a) ((unitsOf rs).idxOf b)

theorem older_ok (hX : YX X) (hX23 : X 23 = fun _ _ => none) (hX12 : ∀ a H, X 12 a H = none) {l : CV} {rs : Rels} {H : Heap} {a b : Nat} (hr : rs.length ≤ 30) (hR : ∀ r ∈ rs, Right r) (hl : Has H 3 41 l (rs.map relCV)) (hk : HOk H) (ha : a ∈ unitsOf rs) (hb : b ∈ unitsOf rs) :
    ∃ o H', calls Tryz.prog X 12 [l, nm a, nm b] H = some (.tuple [.bool o, .int .i64 0], H') ∧ (o = true ↔ OlderW rs a b) ∧ HOk H' ∧ Ext H.next H H' := by
  have hn8 := right_names hR
  have hu8 : ∀ y ∈ unitsOf rs, y < 100 := fun y hy => by
    have := hn8 y ((mem_unitsOf (fun x hx => by have := hn8 x hx; omega)).1 hy)
    omega
  have h0 : (envOf [l, nm a, nm b] 0 .nil).get 0 = some l := by simp [envOf, Tr.get_set]
  have h1 : (envOf [l, nm a, nm b] 0 .nil).get 1 = some (nm a) := by simp [envOf, Tr.get_set]
  have h2 : (envOf [l, nm a, nm b] 0 .nil).get 2 = some (nm b) := by simp [envOf, Tr.get_set]
  obtain ⟨H1, c1, k1, x1⟩ := check_ok hX.x15 hX.x18 hX.x33 hX.sort hX.check hr hR hl hk
  obtain ⟨bg, bm, bx, n1, fa, nv, av, xs, fs, H2, c2, gs, x2, _⟩ := build_ok hX.x16 hX.x18 hX.x33 hX.sort (H := H1) (l := l) (rs := rs) (by omega) hR (hl.ext x1 hl.lt) k1
  have hia : (unitsOf rs).idxOf a < (unitsOf rs).length := List.idxOf_lt_length_of_mem ha
  have hib : (unitsOf rs).idxOf b < (unitsOf rs).length := List.idxOf_lt_length_of_mem hb
  have hl8 := units_len hR
  obtain ⟨bo, vis, H3, c3, g3', hv, k3, x3⟩ := reached_ok (X := X) hX23 gs.gr (by omega) (Nat.lt_of_le_of_lt (arcsFrom_length _ _ _) (by omega)) (arcs_lt hR) hia gs.ok
  have la := lookup_at_ok gs.m hu8 ha
  have lb := lookup_at_ok gs.m hu8 hb
  refine ⟨vis ((unitsOf rs).idxOf b), H3, ?_, hv _, k3, x1.trans ((x2.le x1.1).trans (x3.le (Nat.le_trans x1.1 x2.1)))⟩
  have key : ∃ e, go Tryz.prog X 51 (codeOf Tryz.f12) (envOf [l, nm a, nm b] 0 .nil) H = some (.ret, e, H3) ∧ e.get 6 = some (.bool (vis ((unitsOf rs).idxOf b))) ∧ e.get 7 = some (.int .i64 0) := by
    simp only [codeOf, Tryz.f12, go_seq, go_region, opsSeq_step, opsSeq_guard, guardStep_true, guardStep_false, guardVal, opsSeq_nil, afterStep_some, afterStep_none, stepC, kindOf, quietC, evC, Nat.reduceLT, Tr.get_set, if_true, if_false, Nat.reduceEqDiff, Option.map_some, Option.bind_some, List.getElem?_toArray, List.getElem?_cons_zero, List.getElem?_cons_succ, ofVal, decide_true, decide_false, BEq.rfl, andThen_normal, andThen_exit, andThen_ret, inBlock_normal, inBlock_ret, go_skip, go_exit, go_ret, loudStep, isCall, loudC, targetC, evs, evParts, mapO, List.nil_append, List.append_nil, List.cons_append, loadC, Heap.skip_get, Heap.get_put, Heap.skip_next, Heap.put_next, h0, c1, bin_neq, ne_eq, not_true_eq_false]
    rw [go_cond _ _ _ (v := false) (by simp only [evC, Tr.get_set, if_true])]
    simp only [go_seq, go_region, opsSeq_step, opsSeq_guard, guardStep_true, guardStep_false, guardVal, opsSeq_nil, afterStep_some, afterStep_none, stepC, kindOf, quietC, evC, Nat.reduceLT, Tr.get_set, if_true, if_false, Nat.reduceEqDiff, Option.map_some, Option.bind_some, List.getElem?_toArray, List.getElem?_cons_zero, List.getElem?_cons_succ, ofVal, decide_true, decide_false, BEq.rfl, andThen_normal, andThen_exit, andThen_ret, inBlock_normal, inBlock_ret, go_skip, go_exit, go_ret, loudStep, isCall, loudC, targetC, evs, evParts, mapO, List.nil_append, List.append_nil, List.cons_append, loadC, Heap.skip_get, Heap.get_put, Heap.skip_next, Heap.put_next, Bool.false_eq_true, h0, h1, h2, c2, fa77_1, g52, gs.g, Nat.zero_add, la, lb, Bool.not_true]
    rw [go_cond _ _ _ (v := false) (by simp only [evC, Tr.get_set, if_true])]
    simp only [go_seq, go_region, opsSeq_step, opsSeq_guard, guardStep_true, guardStep_false, guardVal, opsSeq_nil, afterStep_some, afterStep_none, stepC, kindOf, quietC, evC, Nat.reduceLT, Tr.get_set, if_true, if_false, Nat.reduceEqDiff, Option.map_some, Option.bind_some, List.getElem?_toArray, List.getElem?_cons_zero, List.getElem?_cons_succ, ofVal, decide_true, decide_false, BEq.rfl, andThen_normal, andThen_exit, andThen_ret, inBlock_normal, inBlock_ret, go_skip, go_exit, go_ret, loudStep, isCall, loudC, targetC, evs, evParts, mapO, List.nil_append, List.append_nil, List.cons_append, loadC, Heap.skip_get, Heap.get_put, Heap.skip_next, Heap.put_next, Bool.false_eq_true, h0, h1, h2, c3, idx61 hib, g4, g3', cellsB_get hib]
    exact ⟨_, rfl, by simp only [Tr.get_set, Nat.reduceEqDiff, if_false, if_true], by simp only [Tr.get_set, if_true]⟩
  obtain ⟨e, key, e6, e7⟩ := key
  exact calls_ret (hX12 _ _) Tryz.func12 rfl (by decide) (nt := 51) rfl key (results_two e6 e7)
end Go.Y

namespace Go.Y
open Go.K Go.Proofs
set_option linter.unusedSimpArgs false
set_option linter.unusedVariables false
set_option maxRecDepth 10000

variable {X : CallFn}

theorem bft : (false == true) = false := rfl
theorem btf : (true == false) = false := rfl

theorem tie_ok (hX : YX X) (hX23 : X 23 = fun _ _ => none) (hX12 : ∀ a H, X 12 a H = none) (hX11 : ∀ a H, X 11 a H = none) {l : CV} {rs : Rels} {H : Heap} {a b ba : Nat} (hr : rs.length ≤ 30) (hR : ∀ r ∈ rs, Right r) (hl : Has H 3 41 l (rs.map relCV)) (hk : HOk H) (ha : a ∈ unitsOf rs) (hb : b ∈ unitsOf rs)
    (hba : H.get ba = some (.cells [l] 25 none)) :
    ∃ o H', calls Tryz.prog X 11 [nm a, nm b, .ptr ba 0] H = some (.bool o, H') ∧ (o = true ↔ OlderW rs a b) ∧ HOk H' ∧ Ext H.next H H' := by
  have h0 : (envOf [nm a, nm b, .ptr ba 0] 0 .nil).get 0 = some (nm a) := by simp [envOf, Tr.get_set]
  have h1 : (envOf [nm a, nm b, .ptr ba 0] 0 .nil).get 1 = some (nm b) := by simp [envOf, Tr.get_set]
  have h2 : (envOf [nm a, nm b, .ptr ba 0] 0 .nil).get 2 = some (.ptr ba 0) := by simp [envOf, Tr.get_set]
  obtain ⟨o, H1, c1, ho, k1, x1⟩ := older_ok hX hX23 hX12 hr hR hl hk ha hb
  refine ⟨o, H1, ?_, ho, k1, x1⟩
  have key : ∃ e, go Tryz.prog X 20 (codeOf Tryz.f11) (envOf [nm a, nm b, .ptr ba 0] 0 .nil) H = some (.ret, e, H1) ∧ e.get 5 = some (.bool o) := by
    cases o <;>
    · simp only [codeOf, Tryz.f11, go_seq, go_region, opsSeq_step, opsSeq_guard, guardStep_true, guardStep_false, guardVal, opsSeq_nil, afterStep_some, afterStep_none, stepC, kindOf, quietC, evC, Nat.reduceLT, Tr.get_set, if_true, if_false, Nat.reduceEqDiff, Option.map_some, Option.bind_some, List.getElem?_toArray, List.getElem?_cons_zero, List.getElem?_cons_succ, ofVal, decide_true, decide_false, BEq.rfl, andThen_normal, andThen_exit, andThen_ret, inBlock_normal, inBlock_ret, go_skip, go_exit, go_ret, loudStep, isCall, loudC, targetC, evs, evParts, mapO, List.nil_append, List.append_nil, List.cons_append, loadC, Heap.skip_get, Heap.get_put, Heap.skip_next, Heap.put_next, h0, h1, h2, g24, hba, c1, bin_eql, eq_self, bft, btf]
      exact ⟨_, rfl, by simp only [Tr.get_set, if_true]⟩
  obtain ⟨e, key, e5⟩ := key
  exact calls_ret (hX11 _ _) Tryz.func11 rfl (by decide) (nt := 20) rfl key (results_one e5)
end Go.Y

namespace Go.Y
open Go.K Go.Proofs
set_option linter.unusedSimpArgs false
set_option linter.unusedVariables false
set_option maxRecDepth 10000

variable {X : CallFn}

abbrev AL := List (Nat × CV)
/-- The entries of a map, in the order in which they came. -/
def ents (k : Nat) : AL → List (CV × CV × Nat)
  | [] => []
  | (x, v) :: t => (nm x, v, k) :: ents (k + 1) t
theorem ents_length (k : Nat) (es : AL) : (ents k es).length = es.length := by
  induction es generalizing k with
  | nil => rfl
  | cons a t ih => simp [ents, ih]
theorem ents_append (k : Nat) (es : AL) (x : Nat) (v : CV) : ents k (es ++ [(x, v)]) = ents k es ++ [(nm x, v, k + es.length)] := by
  induction es generalizing k with
  | nil => simp [ents]
  | cons a t ih => simp only [List.cons_append, ents, ih, List.length_cons]; rw [show k + 1 + t.length = k + (t.length + 1) by omega]
/-- What lies at a name, and in which place. -/
def aget : AL → Nat → Option CV
  | [], _ => none
  | (y, v) :: t, x => if x = y then some v else aget t x
def apos : AL → Nat → Nat
  | [], _ => 0
  | (y, _) :: t, x => if x = y then 0 else apos t x + 1
def aset : AL → Nat → CV → AL
  | [], x, v => [(x, v)]
  | (y, u) :: t, x, v => if x = y then (y, v) :: t else (y, u) :: aset t x v
theorem aget_aset (es : AL) (x y : Nat) (v : CV) : aget (aset es x v) y = if y = x then some v else aget es y := by
  induction es with
  | nil => simp [aset, aget]
  | cons a t ih =>
    obtain ⟨z, u⟩ := a
    simp only [aset]
    by_cases h : x = z
    · subst h
      simp only [if_true, aget]
      by_cases e : y = x <;> simp [e]
    · simp only [h, if_false, aget]
      by_cases e : y = z
      · subst e
        have : ¬ y = x := fun e => h e.symm
        simp [this]
      · simp only [e, if_false, ih]
def keysOf (es : AL) : List Nat := es.map (·.1)
theorem keys_aset (es : AL) (x : Nat) (v : CV) : keysOf (aset es x v) = if x ∈ keysOf es then keysOf es else keysOf es ++ [x] := by
  induction es with
  | nil => simp [aset, keysOf]
  | cons a t ih =>
    obtain ⟨z, u⟩ := a
    simp only [aset]
    by_cases h : x = z
    · subst h; simp [keysOf]
    · simp only [h, if_false]
      have hc : ∀ (l : AL), keysOf ((z, u) :: l) = z :: keysOf l := fun _ => rfl
      rw [hc, hc, ih]
      by_cases hm : x ∈ keysOf t
      · rw [if_pos hm, if_pos (List.mem_cons_of_mem _ hm)]
      · rw [if_neg hm, if_neg (by simp [h, hm])]; rfl
theorem aget_none {es : AL} {x : Nat} : aget es x = none ↔ x ∉ keysOf es := by
  induction es with
  | nil => simp [aget, keysOf]
  | cons a t ih =>
    obtain ⟨z, u⟩ := a
    simp only [aget, keysOf, List.map_cons, List.mem_cons, not_or] at ih ⊢
    by_cases h : x = z
    · simp [h]
    · simp [h, ih]
theorem afind (es : AL) : ∀ (k j x : Nat), x < 100 → (∀ y ∈ keysOf es, y < 100) → findC Tryz.prog 9 (nm x) (ents k es) j = some ((aget es x).map fun v => (j + apos es x, v)) := by
  induction es with
  | nil => intro k j x _ _; rfl
  | cons a t ih =>
    intro k j x hx hk
    obtain ⟨z, u⟩ := a
    have hz : z < 100 := hk z (by simp [keysOf])
    simp only [ents, findC, keq hx hz]
    by_cases h : x = z
    · subst h; simp [aget, apos]
    · simp only [h, decide_false]
      rw [ih (k + 1) (j + 1) x hx (fun y hy => hk y (by simp only [keysOf, List.map_cons, List.mem_cons] at hy ⊢; exact .inr hy))]
      simp only [aget, apos, h, if_false]
      cases aget t x with
      | none => rfl
      | some v => simp; omega
theorem beqK_nm (x : Nat) : beqK 8 (nm x) (nm x) = true := by
  rw [show (8 : Nat) = 7 + 1 from rfl, nm]
  unfold beqK
  simp only [bytesEq_eq]
  exact beq_self_eq_true _
theorem aset_entry (es : AL) : ∀ (k x : Nat) (v : CV), x ∈ keysOf es → setEntry (ents k es) (apos es x) (nm x) v = some (ents k (aset es x v)) := by
  induction es with
  | nil => intro k x v h; simp [keysOf] at h
  | cons a t ih =>
    intro k x v h
    obtain ⟨z, u⟩ := a
    by_cases e : x = z
    · subst e
      simp [apos, aset, ents, setEntry, beqK_nm]
    · have hm : x ∈ keysOf t := by simpa [keysOf, e] using h
      have := ih (k + 1) x v hm
      simp only [apos, aset, ents, e, if_false]
      unfold setEntry at this ⊢
      simp only [List.getElem?_cons_succ, List.set_cons_succ]
      revert this
      cases (ents (k + 1) t)[apos t x]? with
      | none => intro h; cases h
      | some w =>
        obtain ⟨k', v', b⟩ := w
        simp only
        cases beqK 8 k' (nm x) with
        | false => intro h; cases h
        | true => simp only [Option.some.injEq]; intro h; rw [h]
theorem aset_new (es : AL) (x : Nat) (v : CV) (h : x ∉ keysOf es) : aset es x v = es ++ [(x, v)] := by
  induction es with
  | nil => rfl
  | cons a t ih =>
    obtain ⟨z, u⟩ := a
    simp only [keysOf, List.map_cons, List.mem_cons, not_or] at h
    simp only [aset, h.1, if_false, List.cons_append, ih h.2]

/-- The map's block. -/
structure MapIs (H : Heap) (b : Nat) (es : AL) : Prop where
  get : H.get b = some (.map (ents 0 es) es.length)
  lt : ∀ y ∈ keysOf es, y < 100
theorem MapIs.ext {H H' : Heap} {b n : Nat} {es : AL} (h : MapIs H b es) (hx : Ext n H H') (hb : b < n) : MapIs H' b es := ⟨hx.2 _ _ hb h.get, h.lt⟩
theorem aset_length_old {es : AL} {x : Nat} {v : CV} (h : x ∈ keysOf es) : (aset es x v).length = es.length := by
  have := congrArg List.length (keys_aset es x v)
  rw [if_pos h] at this
  simpa [keysOf] using this

theorem map_update {H : Heap} {b t et x : Nat} {es : AL} {v : CV} (ht : Tryz.prog.underlying t = some (.map 9 et)) (h : MapIs H b es) (hx : x < 100) :
    updateC Tryz.prog t H (.map b) (nm x) v = some (.tuple [], H.put b (.map (ents 0 (aset es x v)) (aset es x v).length)) ∧ MapIs (H.put b (.map (ents 0 (aset es x v)) (aset es x v).length)) b (aset es x v) := by
  refine ⟨?_, by rw [Heap.get_put, if_pos rfl], fun y hy => ?_⟩
  · simp only [updateC, ht, h.get, nm_key, afind es 0 0 x hx h.lt]
    by_cases hm : x ∈ keysOf es
    · cases e : aget es x with
      | none => exact absurd hm (aget_none.1 e)
      | some u =>
        simp only [Option.map_some, Nat.zero_add, aset_entry es 0 x v hm, aset_length_old hm]
    · rw [aget_none.2 hm]
      simp only [Option.map_none, aset_new es x v hm, ents_append, Nat.zero_add, List.length_append, List.length_singleton]
  · rw [keys_aset] at hy
    split at hy
    · exact h.lt y hy
    · rcases List.mem_append.1 hy with hy | hy
      · exact h.lt y hy
      · rw [List.mem_singleton.1 hy]; exact hx
theorem map_lookup {H : Heap} {b t et x : Nat} {es : AL} {z : CV} (ht : Tryz.prog.underlying t = some (.map 9 et)) (hz : ∃ i : TypeInfo, Tryz.prog.info? et = some i ∧ (i.zero.bind (ofVal 8)) = some z) (h : MapIs H b es) (hx : x < 100) :
    lookupC Tryz.prog t H (.map b) (nm x) false = some ((aget es x).getD z) := by
  obtain ⟨i, h1, h2⟩ := hz
  simp only [lookupC, ht, h.get, nm_key, afind es 0 0 x hx h.lt]
  cases e : aget es x with
  | some u => simp
  | none =>
    simp only [Option.map_none, h1, Option.getD_none]
    cases e2 : i.zero with
    | none => rw [e2] at h2; cases h2
    | some w => rw [e2] at h2; simp only [Option.bind_some] at h2; simp [h2]
theorem map_lookup_ok {H : Heap} {b t et x : Nat} {es : AL} {z : CV} (ht : Tryz.prog.underlying t = some (.map 9 et)) (hz : ∃ i : TypeInfo, Tryz.prog.info? et = some i ∧ (i.zero.bind (ofVal 8)) = some z) (h : MapIs H b es) (hx : x < 100) :
    lookupC Tryz.prog t H (.map b) (nm x) true = some (.tuple [(aget es x).getD z, .bool (aget es x).isSome]) := by
  obtain ⟨i, h1, h2⟩ := hz
  simp only [lookupC, ht, h.get, nm_key, afind es 0 0 x hx h.lt]
  cases e : aget es x with
  | some u => simp
  | none =>
    simp only [Option.map_none, h1, Option.getD_none]
    cases e2 : i.zero with
    | none => rw [e2] at h2; cases h2
    | some w => rw [e2] at h2; simp only [Option.bind_some] at h2; simp [h2]
theorem zinfo {t : Nat} {z : CV} (h : (Tryz.prog.info? t).bind (fun i => i.zero.bind (ofVal 8)) = some z) : ∃ i : TypeInfo, Tryz.prog.info? t = some i ∧ (i.zero.bind (ofVal 8)) = some z := by
  cases e : Tryz.prog.info? t with
  | none => rw [e] at h; cases h
  | some i => rw [e] at h; exact ⟨i, rfl, h⟩
theorem zi3 : ∃ i : TypeInfo, Tryz.prog.info? 3 = some i ∧ (i.zero.bind (ofVal 8)) = some (.int .i64 0) := zinfo (by kernel_rfl)
theorem zi4 : ∃ i : TypeInfo, Tryz.prog.info? 4 = some i ∧ (i.zero.bind (ofVal 8)) = some (.bool false) := zinfo (by kernel_rfl)
theorem zi34 : ∃ i : TypeInfo, Tryz.prog.info? 34 = some i ∧ (i.zero.bind (ofVal 8)) = some .nilSlice := zinfo (by kernel_rfl)
theorem zi27 : ∃ i : TypeInfo, Tryz.prog.info? 27 = some i ∧ (i.zero.bind (ofVal 8)) = some .nilSlice := zinfo (by kernel_rfl)
theorem u78 : Tryz.prog.underlying 78 = some (.map 9 34) := by kernel_rfl
theorem u85 : Tryz.prog.underlying 85 = some (.map 9 27) := by kernel_rfl
theorem u49 : Tryz.prog.underlying 49 = some (.map 9 4) := by kernel_rfl
end Go.Y
